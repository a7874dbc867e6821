/- What is told of the types of this seat's program (printed by a tool of this session). -/
import Derived.Test.YtlpfokngocdanaaMgC
import Derived.Test.YtlpfokngocdanaaProg
import Derived.KernelRfl
namespace Go.Par
open Go.Proofs

def Θ : Types := fun t => match t with
  | 1 => some ⟨.prim, 1, 8, .nilFunc⟩  -- func()
  | 2 => some ⟨(.int .i64), 1, 8, (.int .i64 0)⟩  -- int64
  | 3 => some ⟨(.int .i64), 1, 8, (.int .i64 0)⟩  -- int
  | 4 => some ⟨.bool, 1, 1, (.bool false)⟩  -- bool
  | 5 => some ⟨(.int .u8), 1, 1, (.int .u8 0)⟩  -- uint8
  | 12 => some ⟨(.int .u64), 1, 8, (.int .u64 0)⟩  -- uintptr
  | 19 => some ⟨(.struct [(0, 1, 17)]), 1, 8, (.agg #[(.pointer none)])⟩  -- maps.unhashableTypeError
  | 20 => some ⟨.prim, 1, 16, .nilIface⟩  -- interface {}
  | 21 => some ⟨(.int .i32), 1, 4, (.int .i32 0)⟩  -- int32
  | 22 => some ⟨(.slice 3), 1, 24, (.slice none 0 0)⟩  -- []int
  | 23 => some ⟨(.slice 22), 1, 24, (.slice none 0 0)⟩  -- [][]int
  | 24 => some ⟨(.struct [(0, 1, 22), (1, 1, 23)]), 2, 48, (.agg #[(.slice none 0 0), (.slice none 0 0)])⟩  -- struct { Owner []int; Next [][]int }
  | 25 => some ⟨(.struct [(0, 1, 22), (1, 1, 23)]), 2, 48, (.agg #[(.slice none 0 0), (.slice none 0 0)])⟩  -- api.Game
  | 26 => some ⟨(.slice 4), 1, 24, (.slice none 0 0)⟩  -- []bool
  | 27 => some ⟨.prim, 1, 8, .nilFunc⟩  -- func(api.Game, []bool) bool
  | 28 => some ⟨(.int .i64), 1, 8, (.int .i64 0)⟩  -- api.Errno
  | 29 => some ⟨.prim, 1, 8, .nilFunc⟩  -- func(api.Game) api.Errno
  | 30 => some ⟨.prim, 1, 8, .nilFunc⟩  -- func() bool
  | 31 => some ⟨(.int .u64), 1, 8, (.int .u64 0)⟩  -- uint64
  | 32 => some ⟨.prim, 1, 8, .nilFunc⟩  -- func(api.Game, int, []bool) []int
  | 33 => some ⟨.prim, 1, 8, .nilFunc⟩  -- func([]bool, int) bool
  | 34 => some ⟨.prim, 1, 8, .nilFunc⟩  -- func(api.Game, int, []bool, int, []int) bool
  | 35 => some ⟨.prim, 1, 8, .nilFunc⟩  -- func(api.Game, []bool, []bool) []bool
  | 36 => some ⟨.prim, 1, 8, .nilFunc⟩  -- func(api.Game, int, []bool, []bool) bool
  | 37 => some ⟨.prim, 1, 8, .nilFunc⟩  -- func([]int, []int) bool
  | 38 => some ⟨.prim, 1, 8, .nilFunc⟩  -- func([]bool, []bool) bool
  | 39 => some ⟨.prim, 1, 8, .nilFunc⟩  -- func(api.Game, int, []bool) []bool
  | 40 => some ⟨.prim, 1, 8, .nilFunc⟩  -- func(api.Game, int, []bool) bool
  | 41 => some ⟨.prim, 1, 8, .nilFunc⟩  -- func(api.Game, int) []bool
  | 42 => some ⟨.prim, 1, 8, .nilFunc⟩  -- func(api.Game, int) bool
  | 43 => some ⟨.prim, 1, 8, .nilFunc⟩  -- func(api.Game, int, []int) api.Game
  | 44 => some ⟨.prim, 1, 8, .nilFunc⟩  -- func(api.Game, int, []bool, int) bool
  | 45 => some ⟨.prim, 1, 8, .nilFunc⟩  -- func(api.Game, []bool) []bool
  | 46 => some ⟨.prim, 1, 8, .nilFunc⟩  -- func(api.Game, []bool) int
  | 47 => some ⟨.prim, 1, 8, .nilFunc⟩  -- func(api.Game) int
  | 48 => some ⟨.prim, 1, 8, .nilFunc⟩  -- func([]int, int) bool
  | 49 => some ⟨.prim, 1, 8, (.pointer none)⟩  -- *attract.search
  | 50 => some ⟨(.slice 57), 1, 24, (.slice none 0 0)⟩  -- []attract.ranked
  | 51 => some ⟨(.slice 57), 1, 24, (.slice none 0 0)⟩  -- attract.row
  | 52 => some ⟨(.struct [(0, 2, 25), (2, 1, 3), (3, 1, 22), (4, 1, 22), (5, 1, 51)]), 6, 128, (.agg #[(.slice none 0 0), (.slice none 0 0), (.int .i64 0), (.slice none 0 0), (.slice none 0 0), (.slice none 0 0)])⟩  -- struct { g api.Game; who int; left []int; ranks []int; todo attract.row }
  | 53 => some ⟨(.struct [(0, 2, 25), (2, 1, 3), (3, 1, 22), (4, 1, 22), (5, 1, 51)]), 6, 128, (.agg #[(.slice none 0 0), (.slice none 0 0), (.int .i64 0), (.slice none 0 0), (.slice none 0 0), (.slice none 0 0)])⟩  -- attract.search
  | 54 => some ⟨.prim, 1, 8, .nilFunc⟩  -- func(int, int)
  | 55 => some ⟨.prim, 1, 8, .nilFunc⟩  -- func(api.Game) [][]int
  | 56 => some ⟨(.struct [(0, 1, 3), (1, 1, 3)]), 2, 16, (.agg #[(.int .i64 0), (.int .i64 0)])⟩  -- struct { v int; rank int }
  | 57 => some ⟨(.struct [(0, 1, 3), (1, 1, 3)]), 2, 16, (.agg #[(.int .i64 0), (.int .i64 0)])⟩  -- attract.ranked
  | 59 => some ⟨.prim, 1, 8, .nilFunc⟩  -- func(heap.Interface) interface {}
  | 60 => some ⟨.prim, 1, 8, (.pointer none)⟩  -- *attract.row
  | 61 => some ⟨.prim, 1, 8, .nilFunc⟩  -- func(int) bool
  | 62 => some ⟨.prim, 1, 8, .nilFunc⟩  -- func(api.Game, func(int) bool) []bool
  | 63 => some ⟨.prim, 1, 8, .nilFunc⟩  -- func(api.Game, func(int, int) bool) api.Game
  | 64 => some ⟨.prim, 1, 8, .nilFunc⟩  -- func(int, int) bool
  | 65 => some ⟨.prim, 1, 8, .nilFunc⟩  -- func(int)
  | 66 => some ⟨.prim, 1, 8, .nilFunc⟩  -- func(heap.Interface, interface {})
  | 67 => some ⟨.prim, 1, 16, .nilIface⟩  -- interface { Len() int; Less(int, int) bool; Pop() interface {}; Push(interface {}); Swap(int, int) }
  | 68 => some ⟨.prim, 1, 16, .nilIface⟩  -- heap.Interface
  | 69 => some ⟨.prim, 1, 8, .nilFunc⟩  -- func() int
  | 70 => some ⟨.prim, 1, 8, .nilFunc⟩  -- func(heap.Interface, int, int) bool
  | 71 => some ⟨.prim, 1, 8, .nilFunc⟩  -- func() interface {}
  | 72 => some ⟨.prim, 1, 8, .nilFunc⟩  -- func([]int) []int
  | 73 => some ⟨.prim, 1, 8, .nilFunc⟩  -- func(interface {})
  | 74 => some ⟨.prim, 1, 8, .nilFunc⟩  -- func(heap.Interface, int)
  | 75 => some ⟨.prim, 1, 8, .nilFunc⟩  -- func() string
  | 81 => some ⟨(.int .u32), 1, 4, (.int .u32 0)⟩  -- uint32
  | 85 => some ⟨.prim, 1, 8, (.pointer none)⟩  -- *uint8
  | _ => none

theorem ty1 : TD.ok Try.prog 1 ⟨.prim, 1, 8, .nilFunc⟩ := TD.mk' (by kernel_rfl) (Sh.mkPrim (by kernel_rfl))
theorem ty2 : TD.ok Try.prog 2 ⟨(.int .i64), 1, 8, (.int .i64 0)⟩ := TD.mk' (by kernel_rfl) (Sh.mkInt (by kernel_rfl))
theorem ty3 : TD.ok Try.prog 3 ⟨(.int .i64), 1, 8, (.int .i64 0)⟩ := TD.mk' (by kernel_rfl) (Sh.mkInt (by kernel_rfl))
theorem ty4 : TD.ok Try.prog 4 ⟨.bool, 1, 1, (.bool false)⟩ := TD.mk' (by kernel_rfl) (Sh.mkBool (by kernel_rfl))
theorem ty5 : TD.ok Try.prog 5 ⟨(.int .u8), 1, 1, (.int .u8 0)⟩ := TD.mk' (by kernel_rfl) (Sh.mkInt (by kernel_rfl))
theorem ty12 : TD.ok Try.prog 12 ⟨(.int .u64), 1, 8, (.int .u64 0)⟩ := TD.mk' (by kernel_rfl) (Sh.mkInt (by kernel_rfl))
theorem ty19 : TD.ok Try.prog 19 ⟨(.struct [(0, 1, 17)]), 1, 8, (.agg #[(.pointer none)])⟩ := TD.mk' (by kernel_rfl) (Sh.mkStruct (by kernel_rfl))
theorem ty20 : TD.ok Try.prog 20 ⟨.prim, 1, 16, .nilIface⟩ := TD.mk' (by kernel_rfl) (Sh.mkPrim (by kernel_rfl))
theorem ty21 : TD.ok Try.prog 21 ⟨(.int .i32), 1, 4, (.int .i32 0)⟩ := TD.mk' (by kernel_rfl) (Sh.mkInt (by kernel_rfl))
theorem ty22 : TD.ok Try.prog 22 ⟨(.slice 3), 1, 24, (.slice none 0 0)⟩ := TD.mk' (by kernel_rfl) (Sh.mkSlice (by kernel_rfl))
theorem ty23 : TD.ok Try.prog 23 ⟨(.slice 22), 1, 24, (.slice none 0 0)⟩ := TD.mk' (by kernel_rfl) (Sh.mkSlice (by kernel_rfl))
theorem ty24 : TD.ok Try.prog 24 ⟨(.struct [(0, 1, 22), (1, 1, 23)]), 2, 48, (.agg #[(.slice none 0 0), (.slice none 0 0)])⟩ := TD.mk' (by kernel_rfl) (Sh.mkStruct (by kernel_rfl))
theorem ty25 : TD.ok Try.prog 25 ⟨(.struct [(0, 1, 22), (1, 1, 23)]), 2, 48, (.agg #[(.slice none 0 0), (.slice none 0 0)])⟩ := TD.mk' (by kernel_rfl) (Sh.mkStruct (by kernel_rfl))
theorem ty26 : TD.ok Try.prog 26 ⟨(.slice 4), 1, 24, (.slice none 0 0)⟩ := TD.mk' (by kernel_rfl) (Sh.mkSlice (by kernel_rfl))
theorem ty27 : TD.ok Try.prog 27 ⟨.prim, 1, 8, .nilFunc⟩ := TD.mk' (by kernel_rfl) (Sh.mkPrim (by kernel_rfl))
theorem ty28 : TD.ok Try.prog 28 ⟨(.int .i64), 1, 8, (.int .i64 0)⟩ := TD.mk' (by kernel_rfl) (Sh.mkInt (by kernel_rfl))
theorem ty29 : TD.ok Try.prog 29 ⟨.prim, 1, 8, .nilFunc⟩ := TD.mk' (by kernel_rfl) (Sh.mkPrim (by kernel_rfl))
theorem ty30 : TD.ok Try.prog 30 ⟨.prim, 1, 8, .nilFunc⟩ := TD.mk' (by kernel_rfl) (Sh.mkPrim (by kernel_rfl))
theorem ty31 : TD.ok Try.prog 31 ⟨(.int .u64), 1, 8, (.int .u64 0)⟩ := TD.mk' (by kernel_rfl) (Sh.mkInt (by kernel_rfl))
theorem ty32 : TD.ok Try.prog 32 ⟨.prim, 1, 8, .nilFunc⟩ := TD.mk' (by kernel_rfl) (Sh.mkPrim (by kernel_rfl))
theorem ty33 : TD.ok Try.prog 33 ⟨.prim, 1, 8, .nilFunc⟩ := TD.mk' (by kernel_rfl) (Sh.mkPrim (by kernel_rfl))
theorem ty34 : TD.ok Try.prog 34 ⟨.prim, 1, 8, .nilFunc⟩ := TD.mk' (by kernel_rfl) (Sh.mkPrim (by kernel_rfl))
theorem ty35 : TD.ok Try.prog 35 ⟨.prim, 1, 8, .nilFunc⟩ := TD.mk' (by kernel_rfl) (Sh.mkPrim (by kernel_rfl))
theorem ty36 : TD.ok Try.prog 36 ⟨.prim, 1, 8, .nilFunc⟩ := TD.mk' (by kernel_rfl) (Sh.mkPrim (by kernel_rfl))
theorem ty37 : TD.ok Try.prog 37 ⟨.prim, 1, 8, .nilFunc⟩ := TD.mk' (by kernel_rfl) (Sh.mkPrim (by kernel_rfl))
theorem ty38 : TD.ok Try.prog 38 ⟨.prim, 1, 8, .nilFunc⟩ := TD.mk' (by kernel_rfl) (Sh.mkPrim (by kernel_rfl))
theorem ty39 : TD.ok Try.prog 39 ⟨.prim, 1, 8, .nilFunc⟩ := TD.mk' (by kernel_rfl) (Sh.mkPrim (by kernel_rfl))
theorem ty40 : TD.ok Try.prog 40 ⟨.prim, 1, 8, .nilFunc⟩ := TD.mk' (by kernel_rfl) (Sh.mkPrim (by kernel_rfl))
theorem ty41 : TD.ok Try.prog 41 ⟨.prim, 1, 8, .nilFunc⟩ := TD.mk' (by kernel_rfl) (Sh.mkPrim (by kernel_rfl))
theorem ty42 : TD.ok Try.prog 42 ⟨.prim, 1, 8, .nilFunc⟩ := TD.mk' (by kernel_rfl) (Sh.mkPrim (by kernel_rfl))
theorem ty43 : TD.ok Try.prog 43 ⟨.prim, 1, 8, .nilFunc⟩ := TD.mk' (by kernel_rfl) (Sh.mkPrim (by kernel_rfl))
theorem ty44 : TD.ok Try.prog 44 ⟨.prim, 1, 8, .nilFunc⟩ := TD.mk' (by kernel_rfl) (Sh.mkPrim (by kernel_rfl))
theorem ty45 : TD.ok Try.prog 45 ⟨.prim, 1, 8, .nilFunc⟩ := TD.mk' (by kernel_rfl) (Sh.mkPrim (by kernel_rfl))
theorem ty46 : TD.ok Try.prog 46 ⟨.prim, 1, 8, .nilFunc⟩ := TD.mk' (by kernel_rfl) (Sh.mkPrim (by kernel_rfl))
theorem ty47 : TD.ok Try.prog 47 ⟨.prim, 1, 8, .nilFunc⟩ := TD.mk' (by kernel_rfl) (Sh.mkPrim (by kernel_rfl))
theorem ty48 : TD.ok Try.prog 48 ⟨.prim, 1, 8, .nilFunc⟩ := TD.mk' (by kernel_rfl) (Sh.mkPrim (by kernel_rfl))
theorem ty49 : TD.ok Try.prog 49 ⟨.prim, 1, 8, (.pointer none)⟩ := TD.mk' (by kernel_rfl) (Sh.mkPrim (by kernel_rfl))
theorem ty50 : TD.ok Try.prog 50 ⟨(.slice 57), 1, 24, (.slice none 0 0)⟩ := TD.mk' (by kernel_rfl) (Sh.mkSlice (by kernel_rfl))
theorem ty51 : TD.ok Try.prog 51 ⟨(.slice 57), 1, 24, (.slice none 0 0)⟩ := TD.mk' (by kernel_rfl) (Sh.mkSlice (by kernel_rfl))
theorem ty52 : TD.ok Try.prog 52 ⟨(.struct [(0, 2, 25), (2, 1, 3), (3, 1, 22), (4, 1, 22), (5, 1, 51)]), 6, 128, (.agg #[(.slice none 0 0), (.slice none 0 0), (.int .i64 0), (.slice none 0 0), (.slice none 0 0), (.slice none 0 0)])⟩ := TD.mk' (by kernel_rfl) (Sh.mkStruct (by kernel_rfl))
theorem ty53 : TD.ok Try.prog 53 ⟨(.struct [(0, 2, 25), (2, 1, 3), (3, 1, 22), (4, 1, 22), (5, 1, 51)]), 6, 128, (.agg #[(.slice none 0 0), (.slice none 0 0), (.int .i64 0), (.slice none 0 0), (.slice none 0 0), (.slice none 0 0)])⟩ := TD.mk' (by kernel_rfl) (Sh.mkStruct (by kernel_rfl))
theorem ty54 : TD.ok Try.prog 54 ⟨.prim, 1, 8, .nilFunc⟩ := TD.mk' (by kernel_rfl) (Sh.mkPrim (by kernel_rfl))
theorem ty55 : TD.ok Try.prog 55 ⟨.prim, 1, 8, .nilFunc⟩ := TD.mk' (by kernel_rfl) (Sh.mkPrim (by kernel_rfl))
theorem ty56 : TD.ok Try.prog 56 ⟨(.struct [(0, 1, 3), (1, 1, 3)]), 2, 16, (.agg #[(.int .i64 0), (.int .i64 0)])⟩ := TD.mk' (by kernel_rfl) (Sh.mkStruct (by kernel_rfl))
theorem ty57 : TD.ok Try.prog 57 ⟨(.struct [(0, 1, 3), (1, 1, 3)]), 2, 16, (.agg #[(.int .i64 0), (.int .i64 0)])⟩ := TD.mk' (by kernel_rfl) (Sh.mkStruct (by kernel_rfl))
theorem ty59 : TD.ok Try.prog 59 ⟨.prim, 1, 8, .nilFunc⟩ := TD.mk' (by kernel_rfl) (Sh.mkPrim (by kernel_rfl))
theorem ty60 : TD.ok Try.prog 60 ⟨.prim, 1, 8, (.pointer none)⟩ := TD.mk' (by kernel_rfl) (Sh.mkPrim (by kernel_rfl))
theorem ty61 : TD.ok Try.prog 61 ⟨.prim, 1, 8, .nilFunc⟩ := TD.mk' (by kernel_rfl) (Sh.mkPrim (by kernel_rfl))
theorem ty62 : TD.ok Try.prog 62 ⟨.prim, 1, 8, .nilFunc⟩ := TD.mk' (by kernel_rfl) (Sh.mkPrim (by kernel_rfl))
theorem ty63 : TD.ok Try.prog 63 ⟨.prim, 1, 8, .nilFunc⟩ := TD.mk' (by kernel_rfl) (Sh.mkPrim (by kernel_rfl))
theorem ty64 : TD.ok Try.prog 64 ⟨.prim, 1, 8, .nilFunc⟩ := TD.mk' (by kernel_rfl) (Sh.mkPrim (by kernel_rfl))
theorem ty65 : TD.ok Try.prog 65 ⟨.prim, 1, 8, .nilFunc⟩ := TD.mk' (by kernel_rfl) (Sh.mkPrim (by kernel_rfl))
theorem ty66 : TD.ok Try.prog 66 ⟨.prim, 1, 8, .nilFunc⟩ := TD.mk' (by kernel_rfl) (Sh.mkPrim (by kernel_rfl))
theorem ty67 : TD.ok Try.prog 67 ⟨.prim, 1, 16, .nilIface⟩ := TD.mk' (by kernel_rfl) (Sh.mkPrim (by kernel_rfl))
theorem ty68 : TD.ok Try.prog 68 ⟨.prim, 1, 16, .nilIface⟩ := TD.mk' (by kernel_rfl) (Sh.mkPrim (by kernel_rfl))
theorem ty69 : TD.ok Try.prog 69 ⟨.prim, 1, 8, .nilFunc⟩ := TD.mk' (by kernel_rfl) (Sh.mkPrim (by kernel_rfl))
theorem ty70 : TD.ok Try.prog 70 ⟨.prim, 1, 8, .nilFunc⟩ := TD.mk' (by kernel_rfl) (Sh.mkPrim (by kernel_rfl))
theorem ty71 : TD.ok Try.prog 71 ⟨.prim, 1, 8, .nilFunc⟩ := TD.mk' (by kernel_rfl) (Sh.mkPrim (by kernel_rfl))
theorem ty72 : TD.ok Try.prog 72 ⟨.prim, 1, 8, .nilFunc⟩ := TD.mk' (by kernel_rfl) (Sh.mkPrim (by kernel_rfl))
theorem ty73 : TD.ok Try.prog 73 ⟨.prim, 1, 8, .nilFunc⟩ := TD.mk' (by kernel_rfl) (Sh.mkPrim (by kernel_rfl))
theorem ty74 : TD.ok Try.prog 74 ⟨.prim, 1, 8, .nilFunc⟩ := TD.mk' (by kernel_rfl) (Sh.mkPrim (by kernel_rfl))
theorem ty75 : TD.ok Try.prog 75 ⟨.prim, 1, 8, .nilFunc⟩ := TD.mk' (by kernel_rfl) (Sh.mkPrim (by kernel_rfl))
theorem ty81 : TD.ok Try.prog 81 ⟨(.int .u32), 1, 4, (.int .u32 0)⟩ := TD.mk' (by kernel_rfl) (Sh.mkInt (by kernel_rfl))
theorem ty85 : TD.ok Try.prog 85 ⟨.prim, 1, 8, (.pointer none)⟩ := TD.mk' (by kernel_rfl) (Sh.mkPrim (by kernel_rfl))

theorem Θ_ok : Θ.ok Try.prog := by
  intro t d h
  unfold Θ at h
  split at h
  · cases h; exact ty1
  · cases h; exact ty2
  · cases h; exact ty3
  · cases h; exact ty4
  · cases h; exact ty5
  · cases h; exact ty12
  · cases h; exact ty19
  · cases h; exact ty20
  · cases h; exact ty21
  · cases h; exact ty22
  · cases h; exact ty23
  · cases h; exact ty24
  · cases h; exact ty25
  · cases h; exact ty26
  · cases h; exact ty27
  · cases h; exact ty28
  · cases h; exact ty29
  · cases h; exact ty30
  · cases h; exact ty31
  · cases h; exact ty32
  · cases h; exact ty33
  · cases h; exact ty34
  · cases h; exact ty35
  · cases h; exact ty36
  · cases h; exact ty37
  · cases h; exact ty38
  · cases h; exact ty39
  · cases h; exact ty40
  · cases h; exact ty41
  · cases h; exact ty42
  · cases h; exact ty43
  · cases h; exact ty44
  · cases h; exact ty45
  · cases h; exact ty46
  · cases h; exact ty47
  · cases h; exact ty48
  · cases h; exact ty49
  · cases h; exact ty50
  · cases h; exact ty51
  · cases h; exact ty52
  · cases h; exact ty53
  · cases h; exact ty54
  · cases h; exact ty55
  · cases h; exact ty56
  · cases h; exact ty57
  · cases h; exact ty59
  · cases h; exact ty60
  · cases h; exact ty61
  · cases h; exact ty62
  · cases h; exact ty63
  · cases h; exact ty64
  · cases h; exact ty65
  · cases h; exact ty66
  · cases h; exact ty67
  · cases h; exact ty68
  · cases h; exact ty69
  · cases h; exact ty70
  · cases h; exact ty71
  · cases h; exact ty72
  · cases h; exact ty73
  · cases h; exact ty74
  · cases h; exact ty75
  · cases h; exact ty81
  · cases h; exact ty85
  · cases h

theorem mixed : Try.prog.follows .mixedOrders = true := by kernel_rfl

@[simp] theorem Θ1 : Θ 1 = some ⟨.prim, 1, 8, .nilFunc⟩ := rfl
@[simp] theorem Θ2 : Θ 2 = some ⟨(.int .i64), 1, 8, (.int .i64 0)⟩ := rfl
@[simp] theorem Θ3 : Θ 3 = some ⟨(.int .i64), 1, 8, (.int .i64 0)⟩ := rfl
@[simp] theorem Θ4 : Θ 4 = some ⟨.bool, 1, 1, (.bool false)⟩ := rfl
@[simp] theorem Θ5 : Θ 5 = some ⟨(.int .u8), 1, 1, (.int .u8 0)⟩ := rfl
@[simp] theorem Θ12 : Θ 12 = some ⟨(.int .u64), 1, 8, (.int .u64 0)⟩ := rfl
@[simp] theorem Θ19 : Θ 19 = some ⟨(.struct [(0, 1, 17)]), 1, 8, (.agg #[(.pointer none)])⟩ := rfl
@[simp] theorem Θ20 : Θ 20 = some ⟨.prim, 1, 16, .nilIface⟩ := rfl
@[simp] theorem Θ21 : Θ 21 = some ⟨(.int .i32), 1, 4, (.int .i32 0)⟩ := rfl
@[simp] theorem Θ22 : Θ 22 = some ⟨(.slice 3), 1, 24, (.slice none 0 0)⟩ := rfl
@[simp] theorem Θ23 : Θ 23 = some ⟨(.slice 22), 1, 24, (.slice none 0 0)⟩ := rfl
@[simp] theorem Θ24 : Θ 24 = some ⟨(.struct [(0, 1, 22), (1, 1, 23)]), 2, 48, (.agg #[(.slice none 0 0), (.slice none 0 0)])⟩ := rfl
@[simp] theorem Θ25 : Θ 25 = some ⟨(.struct [(0, 1, 22), (1, 1, 23)]), 2, 48, (.agg #[(.slice none 0 0), (.slice none 0 0)])⟩ := rfl
@[simp] theorem Θ26 : Θ 26 = some ⟨(.slice 4), 1, 24, (.slice none 0 0)⟩ := rfl
@[simp] theorem Θ27 : Θ 27 = some ⟨.prim, 1, 8, .nilFunc⟩ := rfl
@[simp] theorem Θ28 : Θ 28 = some ⟨(.int .i64), 1, 8, (.int .i64 0)⟩ := rfl
@[simp] theorem Θ29 : Θ 29 = some ⟨.prim, 1, 8, .nilFunc⟩ := rfl
@[simp] theorem Θ30 : Θ 30 = some ⟨.prim, 1, 8, .nilFunc⟩ := rfl
@[simp] theorem Θ31 : Θ 31 = some ⟨(.int .u64), 1, 8, (.int .u64 0)⟩ := rfl
@[simp] theorem Θ32 : Θ 32 = some ⟨.prim, 1, 8, .nilFunc⟩ := rfl
@[simp] theorem Θ33 : Θ 33 = some ⟨.prim, 1, 8, .nilFunc⟩ := rfl
@[simp] theorem Θ34 : Θ 34 = some ⟨.prim, 1, 8, .nilFunc⟩ := rfl
@[simp] theorem Θ35 : Θ 35 = some ⟨.prim, 1, 8, .nilFunc⟩ := rfl
@[simp] theorem Θ36 : Θ 36 = some ⟨.prim, 1, 8, .nilFunc⟩ := rfl
@[simp] theorem Θ37 : Θ 37 = some ⟨.prim, 1, 8, .nilFunc⟩ := rfl
@[simp] theorem Θ38 : Θ 38 = some ⟨.prim, 1, 8, .nilFunc⟩ := rfl
@[simp] theorem Θ39 : Θ 39 = some ⟨.prim, 1, 8, .nilFunc⟩ := rfl
@[simp] theorem Θ40 : Θ 40 = some ⟨.prim, 1, 8, .nilFunc⟩ := rfl
@[simp] theorem Θ41 : Θ 41 = some ⟨.prim, 1, 8, .nilFunc⟩ := rfl
@[simp] theorem Θ42 : Θ 42 = some ⟨.prim, 1, 8, .nilFunc⟩ := rfl
@[simp] theorem Θ43 : Θ 43 = some ⟨.prim, 1, 8, .nilFunc⟩ := rfl
@[simp] theorem Θ44 : Θ 44 = some ⟨.prim, 1, 8, .nilFunc⟩ := rfl
@[simp] theorem Θ45 : Θ 45 = some ⟨.prim, 1, 8, .nilFunc⟩ := rfl
@[simp] theorem Θ46 : Θ 46 = some ⟨.prim, 1, 8, .nilFunc⟩ := rfl
@[simp] theorem Θ47 : Θ 47 = some ⟨.prim, 1, 8, .nilFunc⟩ := rfl
@[simp] theorem Θ48 : Θ 48 = some ⟨.prim, 1, 8, .nilFunc⟩ := rfl
@[simp] theorem Θ49 : Θ 49 = some ⟨.prim, 1, 8, (.pointer none)⟩ := rfl
@[simp] theorem Θ50 : Θ 50 = some ⟨(.slice 57), 1, 24, (.slice none 0 0)⟩ := rfl
@[simp] theorem Θ51 : Θ 51 = some ⟨(.slice 57), 1, 24, (.slice none 0 0)⟩ := rfl
@[simp] theorem Θ52 : Θ 52 = some ⟨(.struct [(0, 2, 25), (2, 1, 3), (3, 1, 22), (4, 1, 22), (5, 1, 51)]), 6, 128, (.agg #[(.slice none 0 0), (.slice none 0 0), (.int .i64 0), (.slice none 0 0), (.slice none 0 0), (.slice none 0 0)])⟩ := rfl
@[simp] theorem Θ53 : Θ 53 = some ⟨(.struct [(0, 2, 25), (2, 1, 3), (3, 1, 22), (4, 1, 22), (5, 1, 51)]), 6, 128, (.agg #[(.slice none 0 0), (.slice none 0 0), (.int .i64 0), (.slice none 0 0), (.slice none 0 0), (.slice none 0 0)])⟩ := rfl
@[simp] theorem Θ54 : Θ 54 = some ⟨.prim, 1, 8, .nilFunc⟩ := rfl
@[simp] theorem Θ55 : Θ 55 = some ⟨.prim, 1, 8, .nilFunc⟩ := rfl
@[simp] theorem Θ56 : Θ 56 = some ⟨(.struct [(0, 1, 3), (1, 1, 3)]), 2, 16, (.agg #[(.int .i64 0), (.int .i64 0)])⟩ := rfl
@[simp] theorem Θ57 : Θ 57 = some ⟨(.struct [(0, 1, 3), (1, 1, 3)]), 2, 16, (.agg #[(.int .i64 0), (.int .i64 0)])⟩ := rfl
@[simp] theorem Θ59 : Θ 59 = some ⟨.prim, 1, 8, .nilFunc⟩ := rfl
@[simp] theorem Θ60 : Θ 60 = some ⟨.prim, 1, 8, (.pointer none)⟩ := rfl
@[simp] theorem Θ61 : Θ 61 = some ⟨.prim, 1, 8, .nilFunc⟩ := rfl
@[simp] theorem Θ62 : Θ 62 = some ⟨.prim, 1, 8, .nilFunc⟩ := rfl
@[simp] theorem Θ63 : Θ 63 = some ⟨.prim, 1, 8, .nilFunc⟩ := rfl
@[simp] theorem Θ64 : Θ 64 = some ⟨.prim, 1, 8, .nilFunc⟩ := rfl
@[simp] theorem Θ65 : Θ 65 = some ⟨.prim, 1, 8, .nilFunc⟩ := rfl
@[simp] theorem Θ66 : Θ 66 = some ⟨.prim, 1, 8, .nilFunc⟩ := rfl
@[simp] theorem Θ67 : Θ 67 = some ⟨.prim, 1, 16, .nilIface⟩ := rfl
@[simp] theorem Θ68 : Θ 68 = some ⟨.prim, 1, 16, .nilIface⟩ := rfl
@[simp] theorem Θ69 : Θ 69 = some ⟨.prim, 1, 8, .nilFunc⟩ := rfl
@[simp] theorem Θ70 : Θ 70 = some ⟨.prim, 1, 8, .nilFunc⟩ := rfl
@[simp] theorem Θ71 : Θ 71 = some ⟨.prim, 1, 8, .nilFunc⟩ := rfl
@[simp] theorem Θ72 : Θ 72 = some ⟨.prim, 1, 8, .nilFunc⟩ := rfl
@[simp] theorem Θ73 : Θ 73 = some ⟨.prim, 1, 8, .nilFunc⟩ := rfl
@[simp] theorem Θ74 : Θ 74 = some ⟨.prim, 1, 8, .nilFunc⟩ := rfl
@[simp] theorem Θ75 : Θ 75 = some ⟨.prim, 1, 8, .nilFunc⟩ := rfl
@[simp] theorem Θ81 : Θ 81 = some ⟨(.int .u32), 1, 4, (.int .u32 0)⟩ := rfl
@[simp] theorem Θ85 : Θ 85 = some ⟨.prim, 1, 8, (.pointer none)⟩ := rfl

end Go.Par
