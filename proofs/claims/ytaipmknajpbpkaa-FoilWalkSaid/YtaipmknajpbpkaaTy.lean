/- What is told of the types of this seat's program (printed by a tool of this session). -/
import Derived.Test.YtaipmknajpbpkaaMgC
import Derived.Test.YtaipmknajpbpkaaProg
import Derived.KernelRfl
namespace Go.Par
open Go.Proofs

def Θ : Types := fun t => match t with
  | 1 => some ⟨.prim, 1, 8, .nilFunc⟩  -- func()
  | 2 => some ⟨(.int .i64), 1, 8, (.int .i64 0)⟩  -- int64
  | 3 => some ⟨(.int .i64), 1, 8, (.int .i64 0)⟩  -- int
  | 4 => some ⟨.bool, 1, 1, (.bool false)⟩  -- bool
  | 5 => some ⟨(.int .u8), 1, 1, (.int .u8 0)⟩  -- uint8
  | 12 => some ⟨(.int .u64), 1, 8, (.int .u64 0)⟩  -- uintptr
  | 19 => some ⟨(.struct [(0, 1, 17)]), 1, 8, (.agg #[(.pointer none)])⟩  -- maps.unhashableTypeError
  | 20 => some ⟨.prim, 1, 16, .nilIface⟩  -- interface {}
  | 21 => some ⟨(.int .i32), 1, 4, (.int .i32 0)⟩  -- int32
  | 22 => some ⟨(.slice 3), 1, 24, (.slice none 0 0)⟩  -- []int
  | 23 => some ⟨(.slice 22), 1, 24, (.slice none 0 0)⟩  -- [][]int
  | 24 => some ⟨(.struct [(0, 1, 22), (1, 1, 23)]), 2, 48, (.agg #[(.slice none 0 0), (.slice none 0 0)])⟩  -- struct { Owner []int; Next [][]int }
  | 25 => some ⟨(.struct [(0, 1, 22), (1, 1, 23)]), 2, 48, (.agg #[(.slice none 0 0), (.slice none 0 0)])⟩  -- api.Game
  | 26 => some ⟨(.slice 31), 1, 24, (.slice none 0 0)⟩  -- [][]bool
  | 27 => some ⟨.prim, 1, 8, .nilFunc⟩  -- func(api.Game, [][]bool, [][]bool) int
  | 28 => some ⟨.prim, 1, 8, .nilFunc⟩  -- func() bool
  | 29 => some ⟨(.slice 37), 1, 24, (.slice none 0 0)⟩  -- []api.Step
  | 30 => some ⟨.prim, 1, 8, .nilFunc⟩  -- func(api.Game, [][]bool, [][]bool) []api.Step
  | 31 => some ⟨(.slice 4), 1, 24, (.slice none 0 0)⟩  -- []bool
  | 33 => some ⟨.prim, 1, 8, .nilFunc⟩  -- func(api.Game, [][]bool, [][]bool) ([]bool, int)
  | 34 => some ⟨.prim, 1, 8, .nilFunc⟩  -- func([]bool, int, int) []bool
  | 35 => some ⟨.prim, 1, 8, .nilFunc⟩  -- func(api.Game, [][]bool, int, int) int
  | 36 => some ⟨(.struct [(0, 1, 3), (1, 1, 3), (2, 1, 3), (3, 1, 3)]), 4, 32, (.agg #[(.int .i64 0), (.int .i64 0), (.int .i64 0), (.int .i64 0)])⟩  -- struct { From int; Mem int; To int; Then int }
  | 37 => some ⟨(.struct [(0, 1, 3), (1, 1, 3), (2, 1, 3), (3, 1, 3)]), 4, 32, (.agg #[(.int .i64 0), (.int .i64 0), (.int .i64 0), (.int .i64 0)])⟩  -- api.Step
  | 38 => some ⟨.prim, 1, 8, .nilFunc⟩  -- func([][]int, []bool, [][]bool, [][]bool) bool
  | 39 => some ⟨.prim, 1, 8, .nilFunc⟩  -- func([][]int, []bool, int) bool
  | 40 => some ⟨.prim, 1, 8, .nilFunc⟩  -- func(api.Game, [][]bool, [][]bool) bool
  | 41 => some ⟨.prim, 1, 8, .nilFunc⟩  -- func(api.Game, [][]bool, int, int) bool
  | 42 => some ⟨(.int .i64), 1, 8, (.int .i64 0)⟩  -- api.Errno
  | 43 => some ⟨.prim, 1, 8, .nilFunc⟩  -- func(api.Game) api.Errno
  | 44 => some ⟨.prim, 1, 8, .nilFunc⟩  -- func(api.Game, [][]bool, [][]bool) []bool
  | 45 => some ⟨(.int .u64), 1, 8, (.int .u64 0)⟩  -- uint64
  | 46 => some ⟨(.map 47 37), 1, 8, (.map none)⟩  -- map[[2]int]api.Step
  | 47 => some ⟨(.arr 2 3), 2, 16, (.agg #[(.int .i64 0), (.int .i64 0)])⟩  -- [2]int
  | 48 => some ⟨(.map 49 3), 1, 8, (.map none)⟩  -- map[[3]int]int
  | 49 => some ⟨(.arr 3 3), 3, 24, (.agg #[(.int .i64 0), (.int .i64 0), (.int .i64 0)])⟩  -- [3]int
  | 50 => some ⟨.prim, 1, 8, .nilFunc⟩  -- func([][]bool, []int) bool
  | 51 => some ⟨.prim, 1, 8, .nilFunc⟩  -- func(api.Game, [][]bool, [][]bool, int, []int) bool
  | 53 => some ⟨.prim, 1, 8, .nilFunc⟩  -- func(api.Game, [][]bool, [][]bool) ([]api.Step, api.Errno)
  | 55 => some ⟨.prim, 1, 8, .nilFunc⟩  -- func(api.Game, [][]bool, [][]bool) (api.Game, []int, api.Errno)
  | 56 => some ⟨.prim, 1, 8, .nilFunc⟩  -- func([][]bool, [][]bool) int
  | 57 => some ⟨.prim, 1, 8, .nilFunc⟩  -- func(int) []bool
  | 58 => some ⟨.prim, 1, 8, .nilFunc⟩  -- func(api.Game, [][]bool, [][]bool, int, int) int
  | 59 => some ⟨.prim, 1, 8, .nilFunc⟩  -- func(api.Game, [][]bool, [][]bool, int, int) bool
  | 61 => some ⟨.prim, 1, 8, .nilFunc⟩  -- func(api.Game, []int) ([]int, []int)
  | 62 => some ⟨.prim, 1, 8, .nilFunc⟩  -- func(api.Game) int
  | 63 => some ⟨(.arr 2 26), 2, 48, (.agg #[(.slice none 0 0), (.slice none 0 0)])⟩  -- [2][][]bool
  | 64 => some ⟨.prim, 1, 8, .nilFunc⟩  -- func(api.Game, [][]bool) [][]bool
  | 65 => some ⟨.prim, 1, 8, (.pointer none)⟩  -- *plan.planner
  | 66 => some ⟨(.struct [(0, 2, 25), (2, 1, 26), (3, 1, 31), (4, 1, 22)]), 5, 120, (.agg #[(.slice none 0 0), (.slice none 0 0), (.slice none 0 0), (.slice none 0 0), (.slice none 0 0)])⟩  -- struct { g api.Game; assume [][]bool; z []bool; to []int }
  | 67 => some ⟨(.struct [(0, 2, 25), (2, 1, 26), (3, 1, 31), (4, 1, 22)]), 5, 120, (.agg #[(.slice none 0 0), (.slice none 0 0), (.slice none 0 0), (.slice none 0 0), (.slice none 0 0)])⟩  -- plan.planner
  | 68 => some ⟨.prim, 1, 8, .nilFunc⟩  -- func([]bool)
  | 69 => some ⟨.prim, 1, 8, .nilFunc⟩  -- func([][]bool, int, int) int
  | 70 => some ⟨.prim, 1, 8, .nilFunc⟩  -- func(api.Game, []bool) []bool
  | 71 => some ⟨.prim, 1, 8, .nilFunc⟩  -- func([]bool, []bool) []bool
  | 72 => some ⟨.prim, 1, 8, .nilFunc⟩  -- func(api.Game, int, []bool) []bool
  | 73 => some ⟨.prim, 1, 8, .nilFunc⟩  -- func([]bool, []bool) bool
  | 74 => some ⟨.prim, 1, 8, .nilFunc⟩  -- func([]bool, int) bool
  | 75 => some ⟨.prim, 1, 8, .nilFunc⟩  -- func([][]int) bool
  | 76 => some ⟨.prim, 1, 8, .nilFunc⟩  -- func([][]int, []bool, []bool, [][]bool) bool
  | 77 => some ⟨.prim, 1, 8, .nilFunc⟩  -- func([][]int, []bool) []bool
  | 78 => some ⟨.prim, 1, 8, .nilFunc⟩  -- func([]int, int) bool
  | 79 => some ⟨.prim, 1, 8, .nilFunc⟩  -- func(int, int) int
  | 81 => some ⟨.prim, 1, 8, .nilFunc⟩  -- func([][]bool, [][]bool, int, int) (int, int)
  | 82 => some ⟨.prim, 1, 8, .nilFunc⟩  -- func([][]bool, [][]bool, int, int) int
  | 83 => some ⟨.prim, 1, 8, .nilFunc⟩  -- func([][]int) []bool
  | 84 => some ⟨.prim, 1, 8, .nilFunc⟩  -- func(api.Game, []int) bool
  | 85 => some ⟨.prim, 1, 8, (.pointer none)⟩  -- *parity.solver
  | 86 => some ⟨(.slice 103), 1, 24, (.slice none 0 0)⟩  -- []*parity.frame
  | 87 => some ⟨(.struct [(0, 2, 25), (2, 1, 22), (3, 1, 22), (4, 1, 22), (5, 1, 86)]), 6, 144, (.agg #[(.slice none 0 0), (.slice none 0 0), (.slice none 0 0), (.slice none 0 0), (.slice none 0 0), (.slice none 0 0)])⟩  -- struct { g api.Game; prio []int; winner []int; to []int; stack []*parity.frame }
  | 88 => some ⟨(.struct [(0, 2, 25), (2, 1, 22), (3, 1, 22), (4, 1, 22), (5, 1, 86)]), 6, 144, (.agg #[(.slice none 0 0), (.slice none 0 0), (.slice none 0 0), (.slice none 0 0), (.slice none 0 0), (.slice none 0 0)])⟩  -- parity.solver
  | 89 => some ⟨.prim, 1, 8, .nilFunc⟩  -- func(api.Game, int, []bool) []int
  | 90 => some ⟨.prim, 1, 8, .nilFunc⟩  -- func(int, []bool)
  | 91 => some ⟨.prim, 1, 8, .nilFunc⟩  -- func([]int, int) []int
  | 92 => some ⟨.prim, 1, 8, .nilFunc⟩  -- func(api.Game, []bool, []bool) []bool
  | 93 => some ⟨.prim, 1, 8, .nilFunc⟩  -- func([]bool) []bool
  | 94 => some ⟨.prim, 1, 8, .nilFunc⟩  -- func([]bool, []bool)
  | 95 => some ⟨.prim, 1, 8, .nilFunc⟩  -- func(int) bool
  | 96 => some ⟨.prim, 1, 8, .nilFunc⟩  -- func([][]int, []bool, []bool) []bool
  | 97 => some ⟨.prim, 1, 8, .nilFunc⟩  -- func([][]int, []bool) []int
  | 98 => some ⟨.prim, 1, 8, (.pointer none)⟩  -- *gr1.solver
  | 99 => some ⟨(.struct [(0, 2, 25), (2, 1, 26), (3, 1, 26)]), 4, 96, (.agg #[(.slice none 0 0), (.slice none 0 0), (.slice none 0 0), (.slice none 0 0)])⟩  -- struct { g api.Game; assume [][]bool; ensure [][]bool }
  | 100 => some ⟨(.struct [(0, 2, 25), (2, 1, 26), (3, 1, 26)]), 4, 96, (.agg #[(.slice none 0 0), (.slice none 0 0), (.slice none 0 0), (.slice none 0 0)])⟩  -- gr1.solver
  | 101 => some ⟨.prim, 1, 8, .nilFunc⟩  -- func([][]bool, int, int) bool
  | 102 => some ⟨.prim, 1, 8, .nilFunc⟩  -- func(api.Game, func(int) bool) []bool
  | 103 => some ⟨.prim, 1, 8, (.pointer none)⟩  -- *parity.frame
  | 104 => some ⟨(.struct [(0, 1, 31), (1, 1, 3), (2, 1, 3), (3, 1, 31), (4, 1, 31)]), 5, 88, (.agg #[(.slice none 0 0), (.int .i64 0), (.int .i64 0), (.slice none 0 0), (.slice none 0 0)])⟩  -- struct { in []bool; step int; who int; best []bool; rest []bool }
  | 105 => some ⟨(.struct [(0, 1, 31), (1, 1, 3), (2, 1, 3), (3, 1, 31), (4, 1, 31)]), 5, 88, (.agg #[(.slice none 0 0), (.int .i64 0), (.int .i64 0), (.slice none 0 0), (.slice none 0 0)])⟩  -- parity.frame
  | 106 => some ⟨.prim, 1, 8, .nilFunc⟩  -- func(*parity.frame)
  | 107 => some ⟨(.slice 106), 1, 24, (.slice none 0 0)⟩  -- []func(*parity.frame)
  | 108 => some ⟨.prim, 1, 8, .nilFunc⟩  -- func([]bool) bool
  | 109 => some ⟨(.int .u64), 1, 8, (.int .u64 0)⟩  -- uint
  | 111 => some ⟨.prim, 1, 8, .nilFunc⟩  -- func(uint, uint) (uint, uint)
  | 112 => some ⟨.prim, 1, 8, .nilFunc⟩  -- func(int, []bool) int
  | 113 => some ⟨.prim, 1, 8, .nilFunc⟩  -- func(api.Game, int) []bool
  | 114 => some ⟨.prim, 1, 8, (.pointer none)⟩  -- *attract.search
  | 115 => some ⟨(.slice 122), 1, 24, (.slice none 0 0)⟩  -- []attract.ranked
  | 116 => some ⟨(.slice 122), 1, 24, (.slice none 0 0)⟩  -- attract.row
  | 117 => some ⟨(.struct [(0, 2, 25), (2, 1, 3), (3, 1, 22), (4, 1, 22), (5, 1, 116)]), 6, 128, (.agg #[(.slice none 0 0), (.slice none 0 0), (.int .i64 0), (.slice none 0 0), (.slice none 0 0), (.slice none 0 0)])⟩  -- struct { g api.Game; who int; left []int; ranks []int; todo attract.row }
  | 118 => some ⟨(.struct [(0, 2, 25), (2, 1, 3), (3, 1, 22), (4, 1, 22), (5, 1, 116)]), 6, 128, (.agg #[(.slice none 0 0), (.slice none 0 0), (.int .i64 0), (.slice none 0 0), (.slice none 0 0), (.slice none 0 0)])⟩  -- attract.search
  | 119 => some ⟨.prim, 1, 8, .nilFunc⟩  -- func(int, int)
  | 120 => some ⟨.prim, 1, 8, .nilFunc⟩  -- func(api.Game) [][]int
  | 121 => some ⟨(.struct [(0, 1, 3), (1, 1, 3)]), 2, 16, (.agg #[(.int .i64 0), (.int .i64 0)])⟩  -- struct { v int; rank int }
  | 122 => some ⟨(.struct [(0, 1, 3), (1, 1, 3)]), 2, 16, (.agg #[(.int .i64 0), (.int .i64 0)])⟩  -- attract.ranked
  | 124 => some ⟨.prim, 1, 8, .nilFunc⟩  -- func(heap.Interface) interface {}
  | 125 => some ⟨.prim, 1, 8, (.pointer none)⟩  -- *attract.row
  | 126 => some ⟨.prim, 1, 8, .nilFunc⟩  -- func(int, []bool, []bool) []bool
  | 127 => some ⟨.prim, 1, 8, .nilFunc⟩  -- func(int, []bool) []bool
  | 128 => some ⟨.prim, 1, 8, .nilFunc⟩  -- func(int, []bool, []bool)
  | 129 => some ⟨.prim, 1, 8, .nilFunc⟩  -- func(api.Game, []bool) int
  | 130 => some ⟨(.int .u32), 1, 4, (.int .u32 0)⟩  -- uint32
  | 132 => some ⟨.prim, 1, 8, .nilFunc⟩  -- func(uint32, uint32) (uint32, uint32)
  | 134 => some ⟨.prim, 1, 8, .nilFunc⟩  -- func(uint64, uint64) (uint64, uint64)
  | 135 => some ⟨.prim, 1, 8, .nilFunc⟩  -- func([]int, func(int) bool) int
  | 136 => some ⟨.prim, 1, 8, .nilFunc⟩  -- func(func([]bool) []bool) []bool
  | 137 => some ⟨.prim, 1, 8, .nilFunc⟩  -- func(heap.Interface, interface {})
  | 138 => some ⟨.prim, 1, 16, .nilIface⟩  -- interface { Len() int; Less(int, int) bool; Pop() interface {}; Push(interface {}); Swap(int, int) }
  | 139 => some ⟨.prim, 1, 16, .nilIface⟩  -- heap.Interface
  | 140 => some ⟨.prim, 1, 8, .nilFunc⟩  -- func() int
  | 141 => some ⟨.prim, 1, 8, .nilFunc⟩  -- func(heap.Interface, int, int) bool
  | 142 => some ⟨.prim, 1, 8, .nilFunc⟩  -- func() interface {}
  | 143 => some ⟨.prim, 1, 8, .nilFunc⟩  -- func(api.Game, []bool) api.Game
  | 144 => some ⟨.prim, 1, 8, .nilFunc⟩  -- func(interface {})
  | 145 => some ⟨.prim, 1, 8, .nilFunc⟩  -- func(heap.Interface, int)
  | 146 => some ⟨.prim, 1, 8, .nilFunc⟩  -- func(int, int) bool
  | 147 => some ⟨.prim, 1, 8, .nilFunc⟩  -- func(api.Game, func(int, int) bool) api.Game
  | 148 => some ⟨.prim, 1, 8, .nilFunc⟩  -- func([]int) []int
  | 149 => some ⟨.prim, 1, 8, .nilFunc⟩  -- func() string
  | 158 => some ⟨.prim, 1, 8, (.pointer none)⟩  -- *uint8
  | _ => none

theorem ty1 : TD.ok Try.prog 1 ⟨.prim, 1, 8, .nilFunc⟩ := TD.mk' (by kernel_rfl) (Sh.mkPrim (by kernel_rfl))
theorem ty2 : TD.ok Try.prog 2 ⟨(.int .i64), 1, 8, (.int .i64 0)⟩ := TD.mk' (by kernel_rfl) (Sh.mkInt (by kernel_rfl))
theorem ty3 : TD.ok Try.prog 3 ⟨(.int .i64), 1, 8, (.int .i64 0)⟩ := TD.mk' (by kernel_rfl) (Sh.mkInt (by kernel_rfl))
theorem ty4 : TD.ok Try.prog 4 ⟨.bool, 1, 1, (.bool false)⟩ := TD.mk' (by kernel_rfl) (Sh.mkBool (by kernel_rfl))
theorem ty5 : TD.ok Try.prog 5 ⟨(.int .u8), 1, 1, (.int .u8 0)⟩ := TD.mk' (by kernel_rfl) (Sh.mkInt (by kernel_rfl))
theorem ty12 : TD.ok Try.prog 12 ⟨(.int .u64), 1, 8, (.int .u64 0)⟩ := TD.mk' (by kernel_rfl) (Sh.mkInt (by kernel_rfl))
theorem ty19 : TD.ok Try.prog 19 ⟨(.struct [(0, 1, 17)]), 1, 8, (.agg #[(.pointer none)])⟩ := TD.mk' (by kernel_rfl) (Sh.mkStruct (by kernel_rfl))
theorem ty20 : TD.ok Try.prog 20 ⟨.prim, 1, 16, .nilIface⟩ := TD.mk' (by kernel_rfl) (Sh.mkPrim (by kernel_rfl))
theorem ty21 : TD.ok Try.prog 21 ⟨(.int .i32), 1, 4, (.int .i32 0)⟩ := TD.mk' (by kernel_rfl) (Sh.mkInt (by kernel_rfl))
theorem ty22 : TD.ok Try.prog 22 ⟨(.slice 3), 1, 24, (.slice none 0 0)⟩ := TD.mk' (by kernel_rfl) (Sh.mkSlice (by kernel_rfl))
theorem ty23 : TD.ok Try.prog 23 ⟨(.slice 22), 1, 24, (.slice none 0 0)⟩ := TD.mk' (by kernel_rfl) (Sh.mkSlice (by kernel_rfl))
theorem ty24 : TD.ok Try.prog 24 ⟨(.struct [(0, 1, 22), (1, 1, 23)]), 2, 48, (.agg #[(.slice none 0 0), (.slice none 0 0)])⟩ := TD.mk' (by kernel_rfl) (Sh.mkStruct (by kernel_rfl))
theorem ty25 : TD.ok Try.prog 25 ⟨(.struct [(0, 1, 22), (1, 1, 23)]), 2, 48, (.agg #[(.slice none 0 0), (.slice none 0 0)])⟩ := TD.mk' (by kernel_rfl) (Sh.mkStruct (by kernel_rfl))
theorem ty26 : TD.ok Try.prog 26 ⟨(.slice 31), 1, 24, (.slice none 0 0)⟩ := TD.mk' (by kernel_rfl) (Sh.mkSlice (by kernel_rfl))
theorem ty27 : TD.ok Try.prog 27 ⟨.prim, 1, 8, .nilFunc⟩ := TD.mk' (by kernel_rfl) (Sh.mkPrim (by kernel_rfl))
theorem ty28 : TD.ok Try.prog 28 ⟨.prim, 1, 8, .nilFunc⟩ := TD.mk' (by kernel_rfl) (Sh.mkPrim (by kernel_rfl))
theorem ty29 : TD.ok Try.prog 29 ⟨(.slice 37), 1, 24, (.slice none 0 0)⟩ := TD.mk' (by kernel_rfl) (Sh.mkSlice (by kernel_rfl))
theorem ty30 : TD.ok Try.prog 30 ⟨.prim, 1, 8, .nilFunc⟩ := TD.mk' (by kernel_rfl) (Sh.mkPrim (by kernel_rfl))
theorem ty31 : TD.ok Try.prog 31 ⟨(.slice 4), 1, 24, (.slice none 0 0)⟩ := TD.mk' (by kernel_rfl) (Sh.mkSlice (by kernel_rfl))
theorem ty33 : TD.ok Try.prog 33 ⟨.prim, 1, 8, .nilFunc⟩ := TD.mk' (by kernel_rfl) (Sh.mkPrim (by kernel_rfl))
theorem ty34 : TD.ok Try.prog 34 ⟨.prim, 1, 8, .nilFunc⟩ := TD.mk' (by kernel_rfl) (Sh.mkPrim (by kernel_rfl))
theorem ty35 : TD.ok Try.prog 35 ⟨.prim, 1, 8, .nilFunc⟩ := TD.mk' (by kernel_rfl) (Sh.mkPrim (by kernel_rfl))
theorem ty36 : TD.ok Try.prog 36 ⟨(.struct [(0, 1, 3), (1, 1, 3), (2, 1, 3), (3, 1, 3)]), 4, 32, (.agg #[(.int .i64 0), (.int .i64 0), (.int .i64 0), (.int .i64 0)])⟩ := TD.mk' (by kernel_rfl) (Sh.mkStruct (by kernel_rfl))
theorem ty37 : TD.ok Try.prog 37 ⟨(.struct [(0, 1, 3), (1, 1, 3), (2, 1, 3), (3, 1, 3)]), 4, 32, (.agg #[(.int .i64 0), (.int .i64 0), (.int .i64 0), (.int .i64 0)])⟩ := TD.mk' (by kernel_rfl) (Sh.mkStruct (by kernel_rfl))
theorem ty38 : TD.ok Try.prog 38 ⟨.prim, 1, 8, .nilFunc⟩ := TD.mk' (by kernel_rfl) (Sh.mkPrim (by kernel_rfl))
theorem ty39 : TD.ok Try.prog 39 ⟨.prim, 1, 8, .nilFunc⟩ := TD.mk' (by kernel_rfl) (Sh.mkPrim (by kernel_rfl))
theorem ty40 : TD.ok Try.prog 40 ⟨.prim, 1, 8, .nilFunc⟩ := TD.mk' (by kernel_rfl) (Sh.mkPrim (by kernel_rfl))
theorem ty41 : TD.ok Try.prog 41 ⟨.prim, 1, 8, .nilFunc⟩ := TD.mk' (by kernel_rfl) (Sh.mkPrim (by kernel_rfl))
theorem ty42 : TD.ok Try.prog 42 ⟨(.int .i64), 1, 8, (.int .i64 0)⟩ := TD.mk' (by kernel_rfl) (Sh.mkInt (by kernel_rfl))
theorem ty43 : TD.ok Try.prog 43 ⟨.prim, 1, 8, .nilFunc⟩ := TD.mk' (by kernel_rfl) (Sh.mkPrim (by kernel_rfl))
theorem ty44 : TD.ok Try.prog 44 ⟨.prim, 1, 8, .nilFunc⟩ := TD.mk' (by kernel_rfl) (Sh.mkPrim (by kernel_rfl))
theorem ty45 : TD.ok Try.prog 45 ⟨(.int .u64), 1, 8, (.int .u64 0)⟩ := TD.mk' (by kernel_rfl) (Sh.mkInt (by kernel_rfl))
theorem ty46 : TD.ok Try.prog 46 ⟨(.map 47 37), 1, 8, (.map none)⟩ := TD.mk' (by kernel_rfl) (Sh.mkMap (by kernel_rfl))
theorem ty47 : TD.ok Try.prog 47 ⟨(.arr 2 3), 2, 16, (.agg #[(.int .i64 0), (.int .i64 0)])⟩ := TD.mk' (by kernel_rfl) (Sh.mkArr (by kernel_rfl))
theorem ty48 : TD.ok Try.prog 48 ⟨(.map 49 3), 1, 8, (.map none)⟩ := TD.mk' (by kernel_rfl) (Sh.mkMap (by kernel_rfl))
theorem ty49 : TD.ok Try.prog 49 ⟨(.arr 3 3), 3, 24, (.agg #[(.int .i64 0), (.int .i64 0), (.int .i64 0)])⟩ := TD.mk' (by kernel_rfl) (Sh.mkArr (by kernel_rfl))
theorem ty50 : TD.ok Try.prog 50 ⟨.prim, 1, 8, .nilFunc⟩ := TD.mk' (by kernel_rfl) (Sh.mkPrim (by kernel_rfl))
theorem ty51 : TD.ok Try.prog 51 ⟨.prim, 1, 8, .nilFunc⟩ := TD.mk' (by kernel_rfl) (Sh.mkPrim (by kernel_rfl))
theorem ty53 : TD.ok Try.prog 53 ⟨.prim, 1, 8, .nilFunc⟩ := TD.mk' (by kernel_rfl) (Sh.mkPrim (by kernel_rfl))
theorem ty55 : TD.ok Try.prog 55 ⟨.prim, 1, 8, .nilFunc⟩ := TD.mk' (by kernel_rfl) (Sh.mkPrim (by kernel_rfl))
theorem ty56 : TD.ok Try.prog 56 ⟨.prim, 1, 8, .nilFunc⟩ := TD.mk' (by kernel_rfl) (Sh.mkPrim (by kernel_rfl))
theorem ty57 : TD.ok Try.prog 57 ⟨.prim, 1, 8, .nilFunc⟩ := TD.mk' (by kernel_rfl) (Sh.mkPrim (by kernel_rfl))
theorem ty58 : TD.ok Try.prog 58 ⟨.prim, 1, 8, .nilFunc⟩ := TD.mk' (by kernel_rfl) (Sh.mkPrim (by kernel_rfl))
theorem ty59 : TD.ok Try.prog 59 ⟨.prim, 1, 8, .nilFunc⟩ := TD.mk' (by kernel_rfl) (Sh.mkPrim (by kernel_rfl))
theorem ty61 : TD.ok Try.prog 61 ⟨.prim, 1, 8, .nilFunc⟩ := TD.mk' (by kernel_rfl) (Sh.mkPrim (by kernel_rfl))
theorem ty62 : TD.ok Try.prog 62 ⟨.prim, 1, 8, .nilFunc⟩ := TD.mk' (by kernel_rfl) (Sh.mkPrim (by kernel_rfl))
theorem ty63 : TD.ok Try.prog 63 ⟨(.arr 2 26), 2, 48, (.agg #[(.slice none 0 0), (.slice none 0 0)])⟩ := TD.mk' (by kernel_rfl) (Sh.mkArr (by kernel_rfl))
theorem ty64 : TD.ok Try.prog 64 ⟨.prim, 1, 8, .nilFunc⟩ := TD.mk' (by kernel_rfl) (Sh.mkPrim (by kernel_rfl))
theorem ty65 : TD.ok Try.prog 65 ⟨.prim, 1, 8, (.pointer none)⟩ := TD.mk' (by kernel_rfl) (Sh.mkPrim (by kernel_rfl))
theorem ty66 : TD.ok Try.prog 66 ⟨(.struct [(0, 2, 25), (2, 1, 26), (3, 1, 31), (4, 1, 22)]), 5, 120, (.agg #[(.slice none 0 0), (.slice none 0 0), (.slice none 0 0), (.slice none 0 0), (.slice none 0 0)])⟩ := TD.mk' (by kernel_rfl) (Sh.mkStruct (by kernel_rfl))
theorem ty67 : TD.ok Try.prog 67 ⟨(.struct [(0, 2, 25), (2, 1, 26), (3, 1, 31), (4, 1, 22)]), 5, 120, (.agg #[(.slice none 0 0), (.slice none 0 0), (.slice none 0 0), (.slice none 0 0), (.slice none 0 0)])⟩ := TD.mk' (by kernel_rfl) (Sh.mkStruct (by kernel_rfl))
theorem ty68 : TD.ok Try.prog 68 ⟨.prim, 1, 8, .nilFunc⟩ := TD.mk' (by kernel_rfl) (Sh.mkPrim (by kernel_rfl))
theorem ty69 : TD.ok Try.prog 69 ⟨.prim, 1, 8, .nilFunc⟩ := TD.mk' (by kernel_rfl) (Sh.mkPrim (by kernel_rfl))
theorem ty70 : TD.ok Try.prog 70 ⟨.prim, 1, 8, .nilFunc⟩ := TD.mk' (by kernel_rfl) (Sh.mkPrim (by kernel_rfl))
theorem ty71 : TD.ok Try.prog 71 ⟨.prim, 1, 8, .nilFunc⟩ := TD.mk' (by kernel_rfl) (Sh.mkPrim (by kernel_rfl))
theorem ty72 : TD.ok Try.prog 72 ⟨.prim, 1, 8, .nilFunc⟩ := TD.mk' (by kernel_rfl) (Sh.mkPrim (by kernel_rfl))
theorem ty73 : TD.ok Try.prog 73 ⟨.prim, 1, 8, .nilFunc⟩ := TD.mk' (by kernel_rfl) (Sh.mkPrim (by kernel_rfl))
theorem ty74 : TD.ok Try.prog 74 ⟨.prim, 1, 8, .nilFunc⟩ := TD.mk' (by kernel_rfl) (Sh.mkPrim (by kernel_rfl))
theorem ty75 : TD.ok Try.prog 75 ⟨.prim, 1, 8, .nilFunc⟩ := TD.mk' (by kernel_rfl) (Sh.mkPrim (by kernel_rfl))
theorem ty76 : TD.ok Try.prog 76 ⟨.prim, 1, 8, .nilFunc⟩ := TD.mk' (by kernel_rfl) (Sh.mkPrim (by kernel_rfl))
theorem ty77 : TD.ok Try.prog 77 ⟨.prim, 1, 8, .nilFunc⟩ := TD.mk' (by kernel_rfl) (Sh.mkPrim (by kernel_rfl))
theorem ty78 : TD.ok Try.prog 78 ⟨.prim, 1, 8, .nilFunc⟩ := TD.mk' (by kernel_rfl) (Sh.mkPrim (by kernel_rfl))
theorem ty79 : TD.ok Try.prog 79 ⟨.prim, 1, 8, .nilFunc⟩ := TD.mk' (by kernel_rfl) (Sh.mkPrim (by kernel_rfl))
theorem ty81 : TD.ok Try.prog 81 ⟨.prim, 1, 8, .nilFunc⟩ := TD.mk' (by kernel_rfl) (Sh.mkPrim (by kernel_rfl))
theorem ty82 : TD.ok Try.prog 82 ⟨.prim, 1, 8, .nilFunc⟩ := TD.mk' (by kernel_rfl) (Sh.mkPrim (by kernel_rfl))
theorem ty83 : TD.ok Try.prog 83 ⟨.prim, 1, 8, .nilFunc⟩ := TD.mk' (by kernel_rfl) (Sh.mkPrim (by kernel_rfl))
theorem ty84 : TD.ok Try.prog 84 ⟨.prim, 1, 8, .nilFunc⟩ := TD.mk' (by kernel_rfl) (Sh.mkPrim (by kernel_rfl))
theorem ty85 : TD.ok Try.prog 85 ⟨.prim, 1, 8, (.pointer none)⟩ := TD.mk' (by kernel_rfl) (Sh.mkPrim (by kernel_rfl))
theorem ty86 : TD.ok Try.prog 86 ⟨(.slice 103), 1, 24, (.slice none 0 0)⟩ := TD.mk' (by kernel_rfl) (Sh.mkSlice (by kernel_rfl))
theorem ty87 : TD.ok Try.prog 87 ⟨(.struct [(0, 2, 25), (2, 1, 22), (3, 1, 22), (4, 1, 22), (5, 1, 86)]), 6, 144, (.agg #[(.slice none 0 0), (.slice none 0 0), (.slice none 0 0), (.slice none 0 0), (.slice none 0 0), (.slice none 0 0)])⟩ := TD.mk' (by kernel_rfl) (Sh.mkStruct (by kernel_rfl))
theorem ty88 : TD.ok Try.prog 88 ⟨(.struct [(0, 2, 25), (2, 1, 22), (3, 1, 22), (4, 1, 22), (5, 1, 86)]), 6, 144, (.agg #[(.slice none 0 0), (.slice none 0 0), (.slice none 0 0), (.slice none 0 0), (.slice none 0 0), (.slice none 0 0)])⟩ := TD.mk' (by kernel_rfl) (Sh.mkStruct (by kernel_rfl))
theorem ty89 : TD.ok Try.prog 89 ⟨.prim, 1, 8, .nilFunc⟩ := TD.mk' (by kernel_rfl) (Sh.mkPrim (by kernel_rfl))
theorem ty90 : TD.ok Try.prog 90 ⟨.prim, 1, 8, .nilFunc⟩ := TD.mk' (by kernel_rfl) (Sh.mkPrim (by kernel_rfl))
theorem ty91 : TD.ok Try.prog 91 ⟨.prim, 1, 8, .nilFunc⟩ := TD.mk' (by kernel_rfl) (Sh.mkPrim (by kernel_rfl))
theorem ty92 : TD.ok Try.prog 92 ⟨.prim, 1, 8, .nilFunc⟩ := TD.mk' (by kernel_rfl) (Sh.mkPrim (by kernel_rfl))
theorem ty93 : TD.ok Try.prog 93 ⟨.prim, 1, 8, .nilFunc⟩ := TD.mk' (by kernel_rfl) (Sh.mkPrim (by kernel_rfl))
theorem ty94 : TD.ok Try.prog 94 ⟨.prim, 1, 8, .nilFunc⟩ := TD.mk' (by kernel_rfl) (Sh.mkPrim (by kernel_rfl))
theorem ty95 : TD.ok Try.prog 95 ⟨.prim, 1, 8, .nilFunc⟩ := TD.mk' (by kernel_rfl) (Sh.mkPrim (by kernel_rfl))
theorem ty96 : TD.ok Try.prog 96 ⟨.prim, 1, 8, .nilFunc⟩ := TD.mk' (by kernel_rfl) (Sh.mkPrim (by kernel_rfl))
theorem ty97 : TD.ok Try.prog 97 ⟨.prim, 1, 8, .nilFunc⟩ := TD.mk' (by kernel_rfl) (Sh.mkPrim (by kernel_rfl))
theorem ty98 : TD.ok Try.prog 98 ⟨.prim, 1, 8, (.pointer none)⟩ := TD.mk' (by kernel_rfl) (Sh.mkPrim (by kernel_rfl))
theorem ty99 : TD.ok Try.prog 99 ⟨(.struct [(0, 2, 25), (2, 1, 26), (3, 1, 26)]), 4, 96, (.agg #[(.slice none 0 0), (.slice none 0 0), (.slice none 0 0), (.slice none 0 0)])⟩ := TD.mk' (by kernel_rfl) (Sh.mkStruct (by kernel_rfl))
theorem ty100 : TD.ok Try.prog 100 ⟨(.struct [(0, 2, 25), (2, 1, 26), (3, 1, 26)]), 4, 96, (.agg #[(.slice none 0 0), (.slice none 0 0), (.slice none 0 0), (.slice none 0 0)])⟩ := TD.mk' (by kernel_rfl) (Sh.mkStruct (by kernel_rfl))
theorem ty101 : TD.ok Try.prog 101 ⟨.prim, 1, 8, .nilFunc⟩ := TD.mk' (by kernel_rfl) (Sh.mkPrim (by kernel_rfl))
theorem ty102 : TD.ok Try.prog 102 ⟨.prim, 1, 8, .nilFunc⟩ := TD.mk' (by kernel_rfl) (Sh.mkPrim (by kernel_rfl))
theorem ty103 : TD.ok Try.prog 103 ⟨.prim, 1, 8, (.pointer none)⟩ := TD.mk' (by kernel_rfl) (Sh.mkPrim (by kernel_rfl))
theorem ty104 : TD.ok Try.prog 104 ⟨(.struct [(0, 1, 31), (1, 1, 3), (2, 1, 3), (3, 1, 31), (4, 1, 31)]), 5, 88, (.agg #[(.slice none 0 0), (.int .i64 0), (.int .i64 0), (.slice none 0 0), (.slice none 0 0)])⟩ := TD.mk' (by kernel_rfl) (Sh.mkStruct (by kernel_rfl))
theorem ty105 : TD.ok Try.prog 105 ⟨(.struct [(0, 1, 31), (1, 1, 3), (2, 1, 3), (3, 1, 31), (4, 1, 31)]), 5, 88, (.agg #[(.slice none 0 0), (.int .i64 0), (.int .i64 0), (.slice none 0 0), (.slice none 0 0)])⟩ := TD.mk' (by kernel_rfl) (Sh.mkStruct (by kernel_rfl))
theorem ty106 : TD.ok Try.prog 106 ⟨.prim, 1, 8, .nilFunc⟩ := TD.mk' (by kernel_rfl) (Sh.mkPrim (by kernel_rfl))
theorem ty107 : TD.ok Try.prog 107 ⟨(.slice 106), 1, 24, (.slice none 0 0)⟩ := TD.mk' (by kernel_rfl) (Sh.mkSlice (by kernel_rfl))
theorem ty108 : TD.ok Try.prog 108 ⟨.prim, 1, 8, .nilFunc⟩ := TD.mk' (by kernel_rfl) (Sh.mkPrim (by kernel_rfl))
theorem ty109 : TD.ok Try.prog 109 ⟨(.int .u64), 1, 8, (.int .u64 0)⟩ := TD.mk' (by kernel_rfl) (Sh.mkInt (by kernel_rfl))
theorem ty111 : TD.ok Try.prog 111 ⟨.prim, 1, 8, .nilFunc⟩ := TD.mk' (by kernel_rfl) (Sh.mkPrim (by kernel_rfl))
theorem ty112 : TD.ok Try.prog 112 ⟨.prim, 1, 8, .nilFunc⟩ := TD.mk' (by kernel_rfl) (Sh.mkPrim (by kernel_rfl))
theorem ty113 : TD.ok Try.prog 113 ⟨.prim, 1, 8, .nilFunc⟩ := TD.mk' (by kernel_rfl) (Sh.mkPrim (by kernel_rfl))
theorem ty114 : TD.ok Try.prog 114 ⟨.prim, 1, 8, (.pointer none)⟩ := TD.mk' (by kernel_rfl) (Sh.mkPrim (by kernel_rfl))
theorem ty115 : TD.ok Try.prog 115 ⟨(.slice 122), 1, 24, (.slice none 0 0)⟩ := TD.mk' (by kernel_rfl) (Sh.mkSlice (by kernel_rfl))
theorem ty116 : TD.ok Try.prog 116 ⟨(.slice 122), 1, 24, (.slice none 0 0)⟩ := TD.mk' (by kernel_rfl) (Sh.mkSlice (by kernel_rfl))
theorem ty117 : TD.ok Try.prog 117 ⟨(.struct [(0, 2, 25), (2, 1, 3), (3, 1, 22), (4, 1, 22), (5, 1, 116)]), 6, 128, (.agg #[(.slice none 0 0), (.slice none 0 0), (.int .i64 0), (.slice none 0 0), (.slice none 0 0), (.slice none 0 0)])⟩ := TD.mk' (by kernel_rfl) (Sh.mkStruct (by kernel_rfl))
theorem ty118 : TD.ok Try.prog 118 ⟨(.struct [(0, 2, 25), (2, 1, 3), (3, 1, 22), (4, 1, 22), (5, 1, 116)]), 6, 128, (.agg #[(.slice none 0 0), (.slice none 0 0), (.int .i64 0), (.slice none 0 0), (.slice none 0 0), (.slice none 0 0)])⟩ := TD.mk' (by kernel_rfl) (Sh.mkStruct (by kernel_rfl))
theorem ty119 : TD.ok Try.prog 119 ⟨.prim, 1, 8, .nilFunc⟩ := TD.mk' (by kernel_rfl) (Sh.mkPrim (by kernel_rfl))
theorem ty120 : TD.ok Try.prog 120 ⟨.prim, 1, 8, .nilFunc⟩ := TD.mk' (by kernel_rfl) (Sh.mkPrim (by kernel_rfl))
theorem ty121 : TD.ok Try.prog 121 ⟨(.struct [(0, 1, 3), (1, 1, 3)]), 2, 16, (.agg #[(.int .i64 0), (.int .i64 0)])⟩ := TD.mk' (by kernel_rfl) (Sh.mkStruct (by kernel_rfl))
theorem ty122 : TD.ok Try.prog 122 ⟨(.struct [(0, 1, 3), (1, 1, 3)]), 2, 16, (.agg #[(.int .i64 0), (.int .i64 0)])⟩ := TD.mk' (by kernel_rfl) (Sh.mkStruct (by kernel_rfl))
theorem ty124 : TD.ok Try.prog 124 ⟨.prim, 1, 8, .nilFunc⟩ := TD.mk' (by kernel_rfl) (Sh.mkPrim (by kernel_rfl))
theorem ty125 : TD.ok Try.prog 125 ⟨.prim, 1, 8, (.pointer none)⟩ := TD.mk' (by kernel_rfl) (Sh.mkPrim (by kernel_rfl))
theorem ty126 : TD.ok Try.prog 126 ⟨.prim, 1, 8, .nilFunc⟩ := TD.mk' (by kernel_rfl) (Sh.mkPrim (by kernel_rfl))
theorem ty127 : TD.ok Try.prog 127 ⟨.prim, 1, 8, .nilFunc⟩ := TD.mk' (by kernel_rfl) (Sh.mkPrim (by kernel_rfl))
theorem ty128 : TD.ok Try.prog 128 ⟨.prim, 1, 8, .nilFunc⟩ := TD.mk' (by kernel_rfl) (Sh.mkPrim (by kernel_rfl))
theorem ty129 : TD.ok Try.prog 129 ⟨.prim, 1, 8, .nilFunc⟩ := TD.mk' (by kernel_rfl) (Sh.mkPrim (by kernel_rfl))
theorem ty130 : TD.ok Try.prog 130 ⟨(.int .u32), 1, 4, (.int .u32 0)⟩ := TD.mk' (by kernel_rfl) (Sh.mkInt (by kernel_rfl))
theorem ty132 : TD.ok Try.prog 132 ⟨.prim, 1, 8, .nilFunc⟩ := TD.mk' (by kernel_rfl) (Sh.mkPrim (by kernel_rfl))
theorem ty134 : TD.ok Try.prog 134 ⟨.prim, 1, 8, .nilFunc⟩ := TD.mk' (by kernel_rfl) (Sh.mkPrim (by kernel_rfl))
theorem ty135 : TD.ok Try.prog 135 ⟨.prim, 1, 8, .nilFunc⟩ := TD.mk' (by kernel_rfl) (Sh.mkPrim (by kernel_rfl))
theorem ty136 : TD.ok Try.prog 136 ⟨.prim, 1, 8, .nilFunc⟩ := TD.mk' (by kernel_rfl) (Sh.mkPrim (by kernel_rfl))
theorem ty137 : TD.ok Try.prog 137 ⟨.prim, 1, 8, .nilFunc⟩ := TD.mk' (by kernel_rfl) (Sh.mkPrim (by kernel_rfl))
theorem ty138 : TD.ok Try.prog 138 ⟨.prim, 1, 16, .nilIface⟩ := TD.mk' (by kernel_rfl) (Sh.mkPrim (by kernel_rfl))
theorem ty139 : TD.ok Try.prog 139 ⟨.prim, 1, 16, .nilIface⟩ := TD.mk' (by kernel_rfl) (Sh.mkPrim (by kernel_rfl))
theorem ty140 : TD.ok Try.prog 140 ⟨.prim, 1, 8, .nilFunc⟩ := TD.mk' (by kernel_rfl) (Sh.mkPrim (by kernel_rfl))
theorem ty141 : TD.ok Try.prog 141 ⟨.prim, 1, 8, .nilFunc⟩ := TD.mk' (by kernel_rfl) (Sh.mkPrim (by kernel_rfl))
theorem ty142 : TD.ok Try.prog 142 ⟨.prim, 1, 8, .nilFunc⟩ := TD.mk' (by kernel_rfl) (Sh.mkPrim (by kernel_rfl))
theorem ty143 : TD.ok Try.prog 143 ⟨.prim, 1, 8, .nilFunc⟩ := TD.mk' (by kernel_rfl) (Sh.mkPrim (by kernel_rfl))
theorem ty144 : TD.ok Try.prog 144 ⟨.prim, 1, 8, .nilFunc⟩ := TD.mk' (by kernel_rfl) (Sh.mkPrim (by kernel_rfl))
theorem ty145 : TD.ok Try.prog 145 ⟨.prim, 1, 8, .nilFunc⟩ := TD.mk' (by kernel_rfl) (Sh.mkPrim (by kernel_rfl))
theorem ty146 : TD.ok Try.prog 146 ⟨.prim, 1, 8, .nilFunc⟩ := TD.mk' (by kernel_rfl) (Sh.mkPrim (by kernel_rfl))
theorem ty147 : TD.ok Try.prog 147 ⟨.prim, 1, 8, .nilFunc⟩ := TD.mk' (by kernel_rfl) (Sh.mkPrim (by kernel_rfl))
theorem ty148 : TD.ok Try.prog 148 ⟨.prim, 1, 8, .nilFunc⟩ := TD.mk' (by kernel_rfl) (Sh.mkPrim (by kernel_rfl))
theorem ty149 : TD.ok Try.prog 149 ⟨.prim, 1, 8, .nilFunc⟩ := TD.mk' (by kernel_rfl) (Sh.mkPrim (by kernel_rfl))
theorem ty158 : TD.ok Try.prog 158 ⟨.prim, 1, 8, (.pointer none)⟩ := TD.mk' (by kernel_rfl) (Sh.mkPrim (by kernel_rfl))

theorem Θ_ok : Θ.ok Try.prog := by
  intro t d h
  unfold Θ at h
  split at h
  · cases h; exact ty1
  · cases h; exact ty2
  · cases h; exact ty3
  · cases h; exact ty4
  · cases h; exact ty5
  · cases h; exact ty12
  · cases h; exact ty19
  · cases h; exact ty20
  · cases h; exact ty21
  · cases h; exact ty22
  · cases h; exact ty23
  · cases h; exact ty24
  · cases h; exact ty25
  · cases h; exact ty26
  · cases h; exact ty27
  · cases h; exact ty28
  · cases h; exact ty29
  · cases h; exact ty30
  · cases h; exact ty31
  · cases h; exact ty33
  · cases h; exact ty34
  · cases h; exact ty35
  · cases h; exact ty36
  · cases h; exact ty37
  · cases h; exact ty38
  · cases h; exact ty39
  · cases h; exact ty40
  · cases h; exact ty41
  · cases h; exact ty42
  · cases h; exact ty43
  · cases h; exact ty44
  · cases h; exact ty45
  · cases h; exact ty46
  · cases h; exact ty47
  · cases h; exact ty48
  · cases h; exact ty49
  · cases h; exact ty50
  · cases h; exact ty51
  · cases h; exact ty53
  · cases h; exact ty55
  · cases h; exact ty56
  · cases h; exact ty57
  · cases h; exact ty58
  · cases h; exact ty59
  · cases h; exact ty61
  · cases h; exact ty62
  · cases h; exact ty63
  · cases h; exact ty64
  · cases h; exact ty65
  · cases h; exact ty66
  · cases h; exact ty67
  · cases h; exact ty68
  · cases h; exact ty69
  · cases h; exact ty70
  · cases h; exact ty71
  · cases h; exact ty72
  · cases h; exact ty73
  · cases h; exact ty74
  · cases h; exact ty75
  · cases h; exact ty76
  · cases h; exact ty77
  · cases h; exact ty78
  · cases h; exact ty79
  · cases h; exact ty81
  · cases h; exact ty82
  · cases h; exact ty83
  · cases h; exact ty84
  · cases h; exact ty85
  · cases h; exact ty86
  · cases h; exact ty87
  · cases h; exact ty88
  · cases h; exact ty89
  · cases h; exact ty90
  · cases h; exact ty91
  · cases h; exact ty92
  · cases h; exact ty93
  · cases h; exact ty94
  · cases h; exact ty95
  · cases h; exact ty96
  · cases h; exact ty97
  · cases h; exact ty98
  · cases h; exact ty99
  · cases h; exact ty100
  · cases h; exact ty101
  · cases h; exact ty102
  · cases h; exact ty103
  · cases h; exact ty104
  · cases h; exact ty105
  · cases h; exact ty106
  · cases h; exact ty107
  · cases h; exact ty108
  · cases h; exact ty109
  · cases h; exact ty111
  · cases h; exact ty112
  · cases h; exact ty113
  · cases h; exact ty114
  · cases h; exact ty115
  · cases h; exact ty116
  · cases h; exact ty117
  · cases h; exact ty118
  · cases h; exact ty119
  · cases h; exact ty120
  · cases h; exact ty121
  · cases h; exact ty122
  · cases h; exact ty124
  · cases h; exact ty125
  · cases h; exact ty126
  · cases h; exact ty127
  · cases h; exact ty128
  · cases h; exact ty129
  · cases h; exact ty130
  · cases h; exact ty132
  · cases h; exact ty134
  · cases h; exact ty135
  · cases h; exact ty136
  · cases h; exact ty137
  · cases h; exact ty138
  · cases h; exact ty139
  · cases h; exact ty140
  · cases h; exact ty141
  · cases h; exact ty142
  · cases h; exact ty143
  · cases h; exact ty144
  · cases h; exact ty145
  · cases h; exact ty146
  · cases h; exact ty147
  · cases h; exact ty148
  · cases h; exact ty149
  · cases h; exact ty158
  · cases h

theorem mixed : Try.prog.follows .mixedOrders = true := by kernel_rfl

@[simp] theorem Θ1 : Θ 1 = some ⟨.prim, 1, 8, .nilFunc⟩ := rfl
@[simp] theorem Θ2 : Θ 2 = some ⟨(.int .i64), 1, 8, (.int .i64 0)⟩ := rfl
@[simp] theorem Θ3 : Θ 3 = some ⟨(.int .i64), 1, 8, (.int .i64 0)⟩ := rfl
@[simp] theorem Θ4 : Θ 4 = some ⟨.bool, 1, 1, (.bool false)⟩ := rfl
@[simp] theorem Θ5 : Θ 5 = some ⟨(.int .u8), 1, 1, (.int .u8 0)⟩ := rfl
@[simp] theorem Θ12 : Θ 12 = some ⟨(.int .u64), 1, 8, (.int .u64 0)⟩ := rfl
@[simp] theorem Θ19 : Θ 19 = some ⟨(.struct [(0, 1, 17)]), 1, 8, (.agg #[(.pointer none)])⟩ := rfl
@[simp] theorem Θ20 : Θ 20 = some ⟨.prim, 1, 16, .nilIface⟩ := rfl
@[simp] theorem Θ21 : Θ 21 = some ⟨(.int .i32), 1, 4, (.int .i32 0)⟩ := rfl
@[simp] theorem Θ22 : Θ 22 = some ⟨(.slice 3), 1, 24, (.slice none 0 0)⟩ := rfl
@[simp] theorem Θ23 : Θ 23 = some ⟨(.slice 22), 1, 24, (.slice none 0 0)⟩ := rfl
@[simp] theorem Θ24 : Θ 24 = some ⟨(.struct [(0, 1, 22), (1, 1, 23)]), 2, 48, (.agg #[(.slice none 0 0), (.slice none 0 0)])⟩ := rfl
@[simp] theorem Θ25 : Θ 25 = some ⟨(.struct [(0, 1, 22), (1, 1, 23)]), 2, 48, (.agg #[(.slice none 0 0), (.slice none 0 0)])⟩ := rfl
@[simp] theorem Θ26 : Θ 26 = some ⟨(.slice 31), 1, 24, (.slice none 0 0)⟩ := rfl
@[simp] theorem Θ27 : Θ 27 = some ⟨.prim, 1, 8, .nilFunc⟩ := rfl
@[simp] theorem Θ28 : Θ 28 = some ⟨.prim, 1, 8, .nilFunc⟩ := rfl
@[simp] theorem Θ29 : Θ 29 = some ⟨(.slice 37), 1, 24, (.slice none 0 0)⟩ := rfl
@[simp] theorem Θ30 : Θ 30 = some ⟨.prim, 1, 8, .nilFunc⟩ := rfl
@[simp] theorem Θ31 : Θ 31 = some ⟨(.slice 4), 1, 24, (.slice none 0 0)⟩ := rfl
@[simp] theorem Θ33 : Θ 33 = some ⟨.prim, 1, 8, .nilFunc⟩ := rfl
@[simp] theorem Θ34 : Θ 34 = some ⟨.prim, 1, 8, .nilFunc⟩ := rfl
@[simp] theorem Θ35 : Θ 35 = some ⟨.prim, 1, 8, .nilFunc⟩ := rfl
@[simp] theorem Θ36 : Θ 36 = some ⟨(.struct [(0, 1, 3), (1, 1, 3), (2, 1, 3), (3, 1, 3)]), 4, 32, (.agg #[(.int .i64 0), (.int .i64 0), (.int .i64 0), (.int .i64 0)])⟩ := rfl
@[simp] theorem Θ37 : Θ 37 = some ⟨(.struct [(0, 1, 3), (1, 1, 3), (2, 1, 3), (3, 1, 3)]), 4, 32, (.agg #[(.int .i64 0), (.int .i64 0), (.int .i64 0), (.int .i64 0)])⟩ := rfl
@[simp] theorem Θ38 : Θ 38 = some ⟨.prim, 1, 8, .nilFunc⟩ := rfl
@[simp] theorem Θ39 : Θ 39 = some ⟨.prim, 1, 8, .nilFunc⟩ := rfl
@[simp] theorem Θ40 : Θ 40 = some ⟨.prim, 1, 8, .nilFunc⟩ := rfl
@[simp] theorem Θ41 : Θ 41 = some ⟨.prim, 1, 8, .nilFunc⟩ := rfl
@[simp] theorem Θ42 : Θ 42 = some ⟨(.int .i64), 1, 8, (.int .i64 0)⟩ := rfl
@[simp] theorem Θ43 : Θ 43 = some ⟨.prim, 1, 8, .nilFunc⟩ := rfl
@[simp] theorem Θ44 : Θ 44 = some ⟨.prim, 1, 8, .nilFunc⟩ := rfl
@[simp] theorem Θ45 : Θ 45 = some ⟨(.int .u64), 1, 8, (.int .u64 0)⟩ := rfl
@[simp] theorem Θ46 : Θ 46 = some ⟨(.map 47 37), 1, 8, (.map none)⟩ := rfl
@[simp] theorem Θ47 : Θ 47 = some ⟨(.arr 2 3), 2, 16, (.agg #[(.int .i64 0), (.int .i64 0)])⟩ := rfl
@[simp] theorem Θ48 : Θ 48 = some ⟨(.map 49 3), 1, 8, (.map none)⟩ := rfl
@[simp] theorem Θ49 : Θ 49 = some ⟨(.arr 3 3), 3, 24, (.agg #[(.int .i64 0), (.int .i64 0), (.int .i64 0)])⟩ := rfl
@[simp] theorem Θ50 : Θ 50 = some ⟨.prim, 1, 8, .nilFunc⟩ := rfl
@[simp] theorem Θ51 : Θ 51 = some ⟨.prim, 1, 8, .nilFunc⟩ := rfl
@[simp] theorem Θ53 : Θ 53 = some ⟨.prim, 1, 8, .nilFunc⟩ := rfl
@[simp] theorem Θ55 : Θ 55 = some ⟨.prim, 1, 8, .nilFunc⟩ := rfl
@[simp] theorem Θ56 : Θ 56 = some ⟨.prim, 1, 8, .nilFunc⟩ := rfl
@[simp] theorem Θ57 : Θ 57 = some ⟨.prim, 1, 8, .nilFunc⟩ := rfl
@[simp] theorem Θ58 : Θ 58 = some ⟨.prim, 1, 8, .nilFunc⟩ := rfl
@[simp] theorem Θ59 : Θ 59 = some ⟨.prim, 1, 8, .nilFunc⟩ := rfl
@[simp] theorem Θ61 : Θ 61 = some ⟨.prim, 1, 8, .nilFunc⟩ := rfl
@[simp] theorem Θ62 : Θ 62 = some ⟨.prim, 1, 8, .nilFunc⟩ := rfl
@[simp] theorem Θ63 : Θ 63 = some ⟨(.arr 2 26), 2, 48, (.agg #[(.slice none 0 0), (.slice none 0 0)])⟩ := rfl
@[simp] theorem Θ64 : Θ 64 = some ⟨.prim, 1, 8, .nilFunc⟩ := rfl
@[simp] theorem Θ65 : Θ 65 = some ⟨.prim, 1, 8, (.pointer none)⟩ := rfl
@[simp] theorem Θ66 : Θ 66 = some ⟨(.struct [(0, 2, 25), (2, 1, 26), (3, 1, 31), (4, 1, 22)]), 5, 120, (.agg #[(.slice none 0 0), (.slice none 0 0), (.slice none 0 0), (.slice none 0 0), (.slice none 0 0)])⟩ := rfl
@[simp] theorem Θ67 : Θ 67 = some ⟨(.struct [(0, 2, 25), (2, 1, 26), (3, 1, 31), (4, 1, 22)]), 5, 120, (.agg #[(.slice none 0 0), (.slice none 0 0), (.slice none 0 0), (.slice none 0 0), (.slice none 0 0)])⟩ := rfl
@[simp] theorem Θ68 : Θ 68 = some ⟨.prim, 1, 8, .nilFunc⟩ := rfl
@[simp] theorem Θ69 : Θ 69 = some ⟨.prim, 1, 8, .nilFunc⟩ := rfl
@[simp] theorem Θ70 : Θ 70 = some ⟨.prim, 1, 8, .nilFunc⟩ := rfl
@[simp] theorem Θ71 : Θ 71 = some ⟨.prim, 1, 8, .nilFunc⟩ := rfl
@[simp] theorem Θ72 : Θ 72 = some ⟨.prim, 1, 8, .nilFunc⟩ := rfl
@[simp] theorem Θ73 : Θ 73 = some ⟨.prim, 1, 8, .nilFunc⟩ := rfl
@[simp] theorem Θ74 : Θ 74 = some ⟨.prim, 1, 8, .nilFunc⟩ := rfl
@[simp] theorem Θ75 : Θ 75 = some ⟨.prim, 1, 8, .nilFunc⟩ := rfl
@[simp] theorem Θ76 : Θ 76 = some ⟨.prim, 1, 8, .nilFunc⟩ := rfl
@[simp] theorem Θ77 : Θ 77 = some ⟨.prim, 1, 8, .nilFunc⟩ := rfl
@[simp] theorem Θ78 : Θ 78 = some ⟨.prim, 1, 8, .nilFunc⟩ := rfl
@[simp] theorem Θ79 : Θ 79 = some ⟨.prim, 1, 8, .nilFunc⟩ := rfl
@[simp] theorem Θ81 : Θ 81 = some ⟨.prim, 1, 8, .nilFunc⟩ := rfl
@[simp] theorem Θ82 : Θ 82 = some ⟨.prim, 1, 8, .nilFunc⟩ := rfl
@[simp] theorem Θ83 : Θ 83 = some ⟨.prim, 1, 8, .nilFunc⟩ := rfl
@[simp] theorem Θ84 : Θ 84 = some ⟨.prim, 1, 8, .nilFunc⟩ := rfl
@[simp] theorem Θ85 : Θ 85 = some ⟨.prim, 1, 8, (.pointer none)⟩ := rfl
@[simp] theorem Θ86 : Θ 86 = some ⟨(.slice 103), 1, 24, (.slice none 0 0)⟩ := rfl
@[simp] theorem Θ87 : Θ 87 = some ⟨(.struct [(0, 2, 25), (2, 1, 22), (3, 1, 22), (4, 1, 22), (5, 1, 86)]), 6, 144, (.agg #[(.slice none 0 0), (.slice none 0 0), (.slice none 0 0), (.slice none 0 0), (.slice none 0 0), (.slice none 0 0)])⟩ := rfl
@[simp] theorem Θ88 : Θ 88 = some ⟨(.struct [(0, 2, 25), (2, 1, 22), (3, 1, 22), (4, 1, 22), (5, 1, 86)]), 6, 144, (.agg #[(.slice none 0 0), (.slice none 0 0), (.slice none 0 0), (.slice none 0 0), (.slice none 0 0), (.slice none 0 0)])⟩ := rfl
@[simp] theorem Θ89 : Θ 89 = some ⟨.prim, 1, 8, .nilFunc⟩ := rfl
@[simp] theorem Θ90 : Θ 90 = some ⟨.prim, 1, 8, .nilFunc⟩ := rfl
@[simp] theorem Θ91 : Θ 91 = some ⟨.prim, 1, 8, .nilFunc⟩ := rfl
@[simp] theorem Θ92 : Θ 92 = some ⟨.prim, 1, 8, .nilFunc⟩ := rfl
@[simp] theorem Θ93 : Θ 93 = some ⟨.prim, 1, 8, .nilFunc⟩ := rfl
@[simp] theorem Θ94 : Θ 94 = some ⟨.prim, 1, 8, .nilFunc⟩ := rfl
@[simp] theorem Θ95 : Θ 95 = some ⟨.prim, 1, 8, .nilFunc⟩ := rfl
@[simp] theorem Θ96 : Θ 96 = some ⟨.prim, 1, 8, .nilFunc⟩ := rfl
@[simp] theorem Θ97 : Θ 97 = some ⟨.prim, 1, 8, .nilFunc⟩ := rfl
@[simp] theorem Θ98 : Θ 98 = some ⟨.prim, 1, 8, (.pointer none)⟩ := rfl
@[simp] theorem Θ99 : Θ 99 = some ⟨(.struct [(0, 2, 25), (2, 1, 26), (3, 1, 26)]), 4, 96, (.agg #[(.slice none 0 0), (.slice none 0 0), (.slice none 0 0), (.slice none 0 0)])⟩ := rfl
@[simp] theorem Θ100 : Θ 100 = some ⟨(.struct [(0, 2, 25), (2, 1, 26), (3, 1, 26)]), 4, 96, (.agg #[(.slice none 0 0), (.slice none 0 0), (.slice none 0 0), (.slice none 0 0)])⟩ := rfl
@[simp] theorem Θ101 : Θ 101 = some ⟨.prim, 1, 8, .nilFunc⟩ := rfl
@[simp] theorem Θ102 : Θ 102 = some ⟨.prim, 1, 8, .nilFunc⟩ := rfl
@[simp] theorem Θ103 : Θ 103 = some ⟨.prim, 1, 8, (.pointer none)⟩ := rfl
@[simp] theorem Θ104 : Θ 104 = some ⟨(.struct [(0, 1, 31), (1, 1, 3), (2, 1, 3), (3, 1, 31), (4, 1, 31)]), 5, 88, (.agg #[(.slice none 0 0), (.int .i64 0), (.int .i64 0), (.slice none 0 0), (.slice none 0 0)])⟩ := rfl
@[simp] theorem Θ105 : Θ 105 = some ⟨(.struct [(0, 1, 31), (1, 1, 3), (2, 1, 3), (3, 1, 31), (4, 1, 31)]), 5, 88, (.agg #[(.slice none 0 0), (.int .i64 0), (.int .i64 0), (.slice none 0 0), (.slice none 0 0)])⟩ := rfl
@[simp] theorem Θ106 : Θ 106 = some ⟨.prim, 1, 8, .nilFunc⟩ := rfl
@[simp] theorem Θ107 : Θ 107 = some ⟨(.slice 106), 1, 24, (.slice none 0 0)⟩ := rfl
@[simp] theorem Θ108 : Θ 108 = some ⟨.prim, 1, 8, .nilFunc⟩ := rfl
@[simp] theorem Θ109 : Θ 109 = some ⟨(.int .u64), 1, 8, (.int .u64 0)⟩ := rfl
@[simp] theorem Θ111 : Θ 111 = some ⟨.prim, 1, 8, .nilFunc⟩ := rfl
@[simp] theorem Θ112 : Θ 112 = some ⟨.prim, 1, 8, .nilFunc⟩ := rfl
@[simp] theorem Θ113 : Θ 113 = some ⟨.prim, 1, 8, .nilFunc⟩ := rfl
@[simp] theorem Θ114 : Θ 114 = some ⟨.prim, 1, 8, (.pointer none)⟩ := rfl
@[simp] theorem Θ115 : Θ 115 = some ⟨(.slice 122), 1, 24, (.slice none 0 0)⟩ := rfl
@[simp] theorem Θ116 : Θ 116 = some ⟨(.slice 122), 1, 24, (.slice none 0 0)⟩ := rfl
@[simp] theorem Θ117 : Θ 117 = some ⟨(.struct [(0, 2, 25), (2, 1, 3), (3, 1, 22), (4, 1, 22), (5, 1, 116)]), 6, 128, (.agg #[(.slice none 0 0), (.slice none 0 0), (.int .i64 0), (.slice none 0 0), (.slice none 0 0), (.slice none 0 0)])⟩ := rfl
@[simp] theorem Θ118 : Θ 118 = some ⟨(.struct [(0, 2, 25), (2, 1, 3), (3, 1, 22), (4, 1, 22), (5, 1, 116)]), 6, 128, (.agg #[(.slice none 0 0), (.slice none 0 0), (.int .i64 0), (.slice none 0 0), (.slice none 0 0), (.slice none 0 0)])⟩ := rfl
@[simp] theorem Θ119 : Θ 119 = some ⟨.prim, 1, 8, .nilFunc⟩ := rfl
@[simp] theorem Θ120 : Θ 120 = some ⟨.prim, 1, 8, .nilFunc⟩ := rfl
@[simp] theorem Θ121 : Θ 121 = some ⟨(.struct [(0, 1, 3), (1, 1, 3)]), 2, 16, (.agg #[(.int .i64 0), (.int .i64 0)])⟩ := rfl
@[simp] theorem Θ122 : Θ 122 = some ⟨(.struct [(0, 1, 3), (1, 1, 3)]), 2, 16, (.agg #[(.int .i64 0), (.int .i64 0)])⟩ := rfl
@[simp] theorem Θ124 : Θ 124 = some ⟨.prim, 1, 8, .nilFunc⟩ := rfl
@[simp] theorem Θ125 : Θ 125 = some ⟨.prim, 1, 8, (.pointer none)⟩ := rfl
@[simp] theorem Θ126 : Θ 126 = some ⟨.prim, 1, 8, .nilFunc⟩ := rfl
@[simp] theorem Θ127 : Θ 127 = some ⟨.prim, 1, 8, .nilFunc⟩ := rfl
@[simp] theorem Θ128 : Θ 128 = some ⟨.prim, 1, 8, .nilFunc⟩ := rfl
@[simp] theorem Θ129 : Θ 129 = some ⟨.prim, 1, 8, .nilFunc⟩ := rfl
@[simp] theorem Θ130 : Θ 130 = some ⟨(.int .u32), 1, 4, (.int .u32 0)⟩ := rfl
@[simp] theorem Θ132 : Θ 132 = some ⟨.prim, 1, 8, .nilFunc⟩ := rfl
@[simp] theorem Θ134 : Θ 134 = some ⟨.prim, 1, 8, .nilFunc⟩ := rfl
@[simp] theorem Θ135 : Θ 135 = some ⟨.prim, 1, 8, .nilFunc⟩ := rfl
@[simp] theorem Θ136 : Θ 136 = some ⟨.prim, 1, 8, .nilFunc⟩ := rfl
@[simp] theorem Θ137 : Θ 137 = some ⟨.prim, 1, 8, .nilFunc⟩ := rfl
@[simp] theorem Θ138 : Θ 138 = some ⟨.prim, 1, 16, .nilIface⟩ := rfl
@[simp] theorem Θ139 : Θ 139 = some ⟨.prim, 1, 16, .nilIface⟩ := rfl
@[simp] theorem Θ140 : Θ 140 = some ⟨.prim, 1, 8, .nilFunc⟩ := rfl
@[simp] theorem Θ141 : Θ 141 = some ⟨.prim, 1, 8, .nilFunc⟩ := rfl
@[simp] theorem Θ142 : Θ 142 = some ⟨.prim, 1, 8, .nilFunc⟩ := rfl
@[simp] theorem Θ143 : Θ 143 = some ⟨.prim, 1, 8, .nilFunc⟩ := rfl
@[simp] theorem Θ144 : Θ 144 = some ⟨.prim, 1, 8, .nilFunc⟩ := rfl
@[simp] theorem Θ145 : Θ 145 = some ⟨.prim, 1, 8, .nilFunc⟩ := rfl
@[simp] theorem Θ146 : Θ 146 = some ⟨.prim, 1, 8, .nilFunc⟩ := rfl
@[simp] theorem Θ147 : Θ 147 = some ⟨.prim, 1, 8, .nilFunc⟩ := rfl
@[simp] theorem Θ148 : Θ 148 = some ⟨.prim, 1, 8, .nilFunc⟩ := rfl
@[simp] theorem Θ149 : Θ 149 = some ⟨.prim, 1, 8, .nilFunc⟩ := rfl
@[simp] theorem Θ158 : Θ 158 = some ⟨.prim, 1, 8, (.pointer none)⟩ := rfl

end Go.Par
