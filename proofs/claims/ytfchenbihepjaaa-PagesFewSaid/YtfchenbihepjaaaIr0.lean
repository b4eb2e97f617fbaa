import Derived.Test.YtfchenbihepjaaaProg
import Derived.Test.YtfchenbihepjaaaHxS
import Derived.KernelRfl
namespace Go.Proofs.Ytfchenbihepjaaa
open Go Go.HX
abbrev T.int64 : TypeId := 2
abbrev T.int : TypeId := 3
abbrev T.bool : TypeId := 4
abbrev T.uint8 : TypeId := 5
abbrev T.abi_BoundsErrorCode : TypeId := 6
abbrev T.string : TypeId := 9
abbrev T.uintptr : TypeId := 12
abbrev T.ptr_abi_Type : TypeId := 17
abbrev T.maps_unhashableTypeError : TypeId := 19
abbrev T.interface : TypeId := 20
abbrev T.int32 : TypeId := 21
abbrev T.slice_haycroftlaw11_Act : TypeId := 22
abbrev T.api_Block : TypeId := 24
abbrev T.ptr_device_Device : TypeId := 26
abbrev T.slice_int : TypeId := 28
abbrev T.haycroftlaw11_Act : TypeId := 30
abbrev T.api_Errno : TypeId := 31
abbrev T.int_api_Errno : TypeId := 32
abbrev T.string_api_Errno : TypeId := 36
abbrev T.string_bool : TypeId := 39
abbrev T.ptr_haycroftref11_Device : TypeId := 44
abbrev T.slice_haycroftref11_Item : TypeId := 45
abbrev T.slice_haycroftref11_Job : TypeId := 46
abbrev T.haycroftref11_Device : TypeId := 48
abbrev T.slice_api_Block : TypeId := 54
abbrev T.slice_haycroftlaw12_Act : TypeId := 57
abbrev T.ptr_pages_Buffer : TypeId := 58
abbrev T.ptr_pages_Buffer_api_Errno : TypeId := 59
abbrev T.ptr_haycroftref12_Buffer : TypeId := 61
abbrev T.ptr_haycroftref12_Buffer_api_Errno : TypeId := 62
abbrev T.uint64 : TypeId := 65
abbrev T.slice_uint64 : TypeId := 66
abbrev T.haycroftlaw12_Act : TypeId := 68
abbrev T.slice_uint64_api_Errno : TypeId := 69
abbrev T.slice_haycroftref12_One : TypeId := 74
abbrev T.haycroftref12_Buffer : TypeId := 76
abbrev T.haycroftref12_One : TypeId := 79
abbrev T.uint64_api_Errno : TypeId := 82
abbrev T.bool_api_Errno : TypeId := 84
abbrev T.map_api_Block_string : TypeId := 90
abbrev T.map_int_device_job : TypeId := 91
abbrev T.map_int_device_answer : TypeId := 92
abbrev T.device_Device : TypeId := 94
abbrev T.device_job : TypeId := 97
abbrev T.device_job_bool : TypeId := 98
abbrev T.device_answer : TypeId := 100
abbrev T.device_answer_bool : TypeId := 101
abbrev T.haycroftref11_Item : TypeId := 105
abbrev T.iter_Seq_int : TypeId := 108
abbrev T.haycroftref11_Job : TypeId := 111
abbrev T.iter_Seq_haycroft_api_Block : TypeId := 114
abbrev T.ptr_cell_Row : TypeId := 119
abbrev T.ptr_cell_Row_api_Errno : TypeId := 120
abbrev T.pages_Buffer : TypeId := 123
abbrev T.int_int_api_Errno : TypeId := 124
abbrev T.slice_device_job : TypeId := 137
abbrev T.iter_Seq_haycroft_device_job : TypeId := 140
abbrev T.slice_atomic_Uint64 : TypeId := 146
abbrev T.struct : TypeId := 147
abbrev T.atomic_noCopy : TypeId := 148
abbrev T.atomic_align64 : TypeId := 149
abbrev T.atomic_Int64 : TypeId := 151
abbrev T.cell_Row : TypeId := 153
abbrev T.atomic_Uint64 : TypeId := 157
abbrev T.uint : TypeId := 161
abbrev T.ptr_atomic_Uint64 : TypeId := 172
abbrev T.ptr_uint64 : TypeId := 174
abbrev T.slices_sortedHint : TypeId := 176
abbrev T.int_slices_sortedHint : TypeId := 177
abbrev T.int_bool : TypeId := 181
abbrev T.uint32 : TypeId := 184
abbrev T.ptr_atomic_Int64 : TypeId := 186
abbrev T.ptr_int64 : TypeId := 188
abbrev T.slices_xorshift : TypeId := 196
abbrev T.ptr_int : TypeId := 199
abbrev T.ptr_slices_xorshift : TypeId := 204
abbrev T.int_int : TypeId := 205
abbrev T.abi_TFlag : TypeId := 214
abbrev T.abi_Kind : TypeId := 215
abbrev T.ptr_uint8 : TypeId := 217
abbrev T.abi_NameOff : TypeId := 218
abbrev T.abi_TypeOff : TypeId := 219
abbrev T.abi_Type : TypeId := 221
abbrev T.unsafe_Pointer : TypeId := 223
/-- haycroft/place.May: function 60 -/
abbrev F.place_May : FuncId := 60
def X.place_May : X :=
  .seq (.ops [⟨(some 2), none, .mv (.const (Go.Value.bool false))⟩])
  (.seq (.ops [⟨(some 3), none, .mv (.tmp 0)⟩,
    ⟨(some 4), none, .bin .geq 3 (.tmp 3) (.const (Go.Value.int Go.IntKind.i64 5))⟩,
    ⟨(some 5), none, .mv (.tmp 4)⟩,
    ⟨(some 6), (some (5, true)), .mv (.tmp 0)⟩,
    ⟨(some 7), (some (5, true)), .bin .leq 3 (.tmp 6) (.const (Go.Value.int Go.IntKind.i64 9))⟩,
    ⟨(some 8), none, .pick (.tmp 5) (.tmp 7) (.const (Go.Value.bool false))⟩,
    ⟨(some 2), none, .mv (.tmp 8)⟩])
  (.ret))
theorem is_place_May : FnIs Try.prog F.place_May X.place_May 9 [.tmp 2] := ⟨by kernel_rfl⟩

/-- haycroft/place.Size: function 62 -/
abbrev F.place_Size : FuncId := 62
def X.place_Size : X :=
  .seq (.ops [⟨(some 2), none, .mv (.const (Go.Value.int Go.IntKind.i64 0))⟩])
  (.seq (.seq (.ops [⟨(some 3), none, .mv (.tmp 0)⟩,
    ⟨(some 4), none, .call 60 [(.tmp 3)]⟩,
    ⟨(some 5), none, .un .not (.tmp 4)⟩])
  (.cond (.tmp 5)
    (.seq (.ops [⟨(some 2), none, .mv (.const (Go.Value.int Go.IntKind.i64 0))⟩])
    (.ret))
    (.skip)))
  (.seq (.ops [⟨(some 6), none, .mv (.tmp 0)⟩,
    ⟨(some 7), none, .bin .shl 3 (.const (Go.Value.int Go.IntKind.i64 1)) (.tmp 6)⟩,
    ⟨(some 2), none, .mv (.tmp 7)⟩])
  (.ret)))
theorem is_place_Size : FnIs Try.prog F.place_Size X.place_Size 8 [.tmp 2] := ⟨by kernel_rfl⟩

/-- haycroft/cell.New: function 61 -/
abbrev F.cell_New : FuncId := 61
def X.cell_New : X :=
  .seq (.ops [⟨(some 2), none, .mv (.const (Go.Value.pointer none))⟩,
    ⟨(some 3), none, .mv (.const (Go.Value.int Go.IntKind.i64 0))⟩])
  (.seq (.seq (.ops [⟨(some 4), none, .mv (.tmp 0)⟩,
    ⟨(some 5), none, .bin .lss 3 (.tmp 4) (.const (Go.Value.int Go.IntKind.i64 1))⟩,
    ⟨(some 6), none, .mv (.tmp 5)⟩,
    ⟨(some 7), (some (6, false)), .mv (.tmp 0)⟩,
    ⟨(some 8), (some (6, false)), .bin .gtr 3 (.tmp 7) (.const (Go.Value.int Go.IntKind.i64 65536))⟩,
    ⟨(some 9), none, .pick (.tmp 6) (.const (Go.Value.bool true)) (.tmp 8)⟩])
  (.cond (.tmp 9)
    (.seq (.ops [⟨(some 2), none, .mv (.const (Go.Value.pointer none))⟩,
      ⟨(some 3), none, .mv (.const (Go.Value.int Go.IntKind.i64 1))⟩])
    (.ret))
    (.skip)))
  (.seq (.ops [⟨(some 10), none, .mv (.tmp 0)⟩,
    ⟨(some 11), none, .mks 157 1 8 [(Go.Value.int Go.IntKind.u64 0)] (.tmp 10) (.tmp 10)⟩,
    ⟨(some 12), none, .bld [(Go.Value.slice none 0 0), (Go.Value.int Go.IntKind.i64 0), (Go.Value.int Go.IntKind.i64 0)] [(0, 1, (.tmp 11))]⟩,
    ⟨(some 13), none, .box 153 (.tmp 12)⟩,
    ⟨(some 2), none, .mv (.tmp 13)⟩,
    ⟨(some 3), none, .mv (.const (Go.Value.int Go.IntKind.i64 0))⟩])
  (.ret)))
theorem is_cell_New : FnIs Try.prog F.cell_New X.cell_New 14 [.tmp 2, .tmp 3] := ⟨by kernel_rfl⟩

/-- haycroft/pages.New: function 27 -/
abbrev F.pages_New : FuncId := 27
def X.pages_New : X :=
  .seq (.ops [⟨(some 4), none, .mv (.const (Go.Value.pointer none))⟩,
    ⟨(some 5), none, .mv (.const (Go.Value.int Go.IntKind.i64 0))⟩])
  (.seq (.seq (.ops [⟨(some 9), none, .mv (.tmp 0)⟩,
    ⟨(some 10), none, .call 60 [(.tmp 9)]⟩,
    ⟨(some 11), none, .un .not (.tmp 10)⟩,
    ⟨(some 12), none, .mv (.tmp 11)⟩,
    ⟨(some 13), (some (12, false)), .mv (.tmp 1)⟩,
    ⟨(some 14), (some (12, false)), .bin .lss 3 (.tmp 13) (.const (Go.Value.int Go.IntKind.i64 2))⟩,
    ⟨(some 15), none, .pick (.tmp 12) (.const (Go.Value.bool true)) (.tmp 14)⟩,
    ⟨(some 16), none, .mv (.tmp 15)⟩,
    ⟨(some 17), (some (16, false)), .mv (.tmp 1)⟩,
    ⟨(some 18), (some (16, false)), .bin .gtr 3 (.tmp 17) (.const (Go.Value.int Go.IntKind.i64 8))⟩,
    ⟨(some 19), none, .pick (.tmp 16) (.const (Go.Value.bool true)) (.tmp 18)⟩])
  (.cond (.tmp 19)
    (.seq (.ops [⟨(some 4), none, .mv (.const (Go.Value.pointer none))⟩,
      ⟨(some 5), none, .mv (.const (Go.Value.int Go.IntKind.i64 1))⟩])
    (.ret))
    (.skip)))
  (.seq (.ops [⟨(some 21), none, .mv (.tmp 1)⟩,
    ⟨(some 22), none, .mv (.tmp 0)⟩,
    ⟨(some 23), none, .call 62 [(.tmp 22)]⟩,
    ⟨(some 24), none, .bin .mul 3 (.tmp 21) (.tmp 23)⟩,
    ⟨(some 25), none, .call 61 [(.tmp 24)]⟩,
    ⟨(some 20), none, .mv (.tmp 25)⟩,
    ⟨(some 26), none, .ext (.tmp 20) 0⟩,
    ⟨(some 27), none, .ext (.tmp 20) 1⟩,
    ⟨(some 6), none, .mv (.tmp 26)⟩,
    ⟨(some 7), none, .mv (.tmp 27)⟩])
  (.seq (.seq (.ops [⟨(some 28), none, .mv (.tmp 7)⟩,
    ⟨(some 29), none, .bin .neq 31 (.tmp 28) (.const (Go.Value.int Go.IntKind.i64 0))⟩])
  (.cond (.tmp 29)
    (.seq (.ops [⟨(some 30), none, .mv (.tmp 7)⟩,
      ⟨(some 4), none, .mv (.const (Go.Value.pointer none))⟩,
      ⟨(some 5), none, .mv (.tmp 30)⟩])
    (.ret))
    (.skip)))
  (.seq (.ops [⟨(some 32), none, .mv (.tmp 1)⟩,
    ⟨(some 33), none, .call 61 [(.tmp 32)]⟩,
    ⟨(some 31), none, .mv (.tmp 33)⟩,
    ⟨(some 34), none, .ext (.tmp 31) 0⟩,
    ⟨(some 35), none, .ext (.tmp 31) 1⟩,
    ⟨(some 8), none, .mv (.tmp 34)⟩,
    ⟨(some 7), none, .mv (.tmp 35)⟩])
  (.seq (.seq (.ops [⟨(some 36), none, .mv (.tmp 7)⟩,
    ⟨(some 37), none, .bin .neq 31 (.tmp 36) (.const (Go.Value.int Go.IntKind.i64 0))⟩])
  (.cond (.tmp 37)
    (.seq (.ops [⟨(some 38), none, .mv (.tmp 7)⟩,
      ⟨(some 4), none, .mv (.const (Go.Value.pointer none))⟩,
      ⟨(some 5), none, .mv (.tmp 38)⟩])
    (.ret))
    (.skip)))
  (.seq (.ops [⟨(some 39), none, .mv (.tmp 0)⟩,
    ⟨(some 40), none, .mv (.tmp 6)⟩,
    ⟨(some 41), none, .mv (.tmp 8)⟩,
    ⟨(some 42), none, .bld [(Go.Value.int Go.IntKind.i64 0), (Go.Value.pointer none), (Go.Value.pointer none)] [(0, 1, (.tmp 39)), (1, 1, (.tmp 40)), (2, 1, (.tmp 41))]⟩,
    ⟨(some 43), none, .box 123 (.tmp 42)⟩,
    ⟨(some 4), none, .mv (.tmp 43)⟩,
    ⟨(some 5), none, .mv (.const (Go.Value.int Go.IntKind.i64 0))⟩])
  (.ret)))))))
theorem is_pages_New : FnIs Try.prog F.pages_New X.pages_New 44 [.tmp 4, .tmp 5] := ⟨by kernel_rfl⟩

/-- (*haycroft/cell.Row).Len: function 74 -/
abbrev F.cell_Row_Len : FuncId := 74
def X.cell_Row_Len : X :=
  .seq (.ops [⟨(some 2), none, .mv (.const (Go.Value.int Go.IntKind.i64 0))⟩])
  (.seq (.seq (.ops [⟨(some 3), none, .mv (.tmp 0)⟩,
    ⟨(some 4), none, .eq false .ptr (.tmp 3) (.const (Go.Value.pointer none))⟩])
  (.cond (.tmp 4)
    (.seq (.ops [⟨(some 2), none, .mv (.const (Go.Value.int Go.IntKind.i64 0))⟩])
    (.ret))
    (.skip)))
  (.seq (.ops [⟨(some 5), none, .mv (.tmp 0)⟩,
    ⟨(some 6), none, .nilc (.tmp 5)⟩,
    ⟨(some 7), none, .fld (.tmp 6) 0⟩,
    ⟨(some 8), none, .ld (.tmp 7) none⟩,
    ⟨(some 9), none, .lenS (.tmp 8)⟩,
    ⟨(some 2), none, .mv (.tmp 9)⟩])
  (.ret)))
theorem is_cell_Row_Len : FnIs Try.prog F.cell_Row_Len X.cell_Row_Len 10 [.tmp 2] := ⟨by kernel_rfl⟩

/-- (*haycroft/pages.Buffer).frame: function 68 -/
abbrev F.pages_Buffer_frame : FuncId := 68
def X.pages_Buffer_frame : X :=
  .seq (.ops [⟨(some 4), none, .mv (.const (Go.Value.int Go.IntKind.i64 0))⟩])
  (.seq (.ops [⟨(some 5), none, .mv (.tmp 1)⟩,
    ⟨(some 6), none, .mv (.tmp 0)⟩,
    ⟨(some 7), none, .nilc (.tmp 6)⟩,
    ⟨(some 8), none, .fld (.tmp 7) 2⟩,
    ⟨(some 9), none, .ld (.tmp 8) none⟩,
    ⟨(some 10), none, .call 74 [(.tmp 9)]⟩,
    ⟨(some 11), none, .bin .rem 3 (.tmp 5) (.tmp 10)⟩,
    ⟨(some 4), none, .mv (.tmp 11)⟩])
  (.ret))
theorem is_pages_Buffer_frame : FnIs Try.prog F.pages_Buffer_frame X.pages_Buffer_frame 12 [.tmp 4] := ⟨by kernel_rfl⟩

/-- (*haycroft/cell.Row).there: function 95 -/
abbrev F.cell_Row_there : FuncId := 95
def X.cell_Row_there : X :=
  .seq (.ops [⟨(some 4), none, .mv (.const (Go.Value.bool false))⟩])
  (.seq (.ops [⟨(some 5), none, .mv (.tmp 1)⟩,
    ⟨(some 6), none, .bin .geq 3 (.tmp 5) (.const (Go.Value.int Go.IntKind.i64 0))⟩,
    ⟨(some 7), none, .mv (.tmp 6)⟩,
    ⟨(some 8), (some (7, true)), .mv (.tmp 1)⟩,
    ⟨(some 9), (some (7, true)), .mv (.tmp 0)⟩,
    ⟨(some 10), (some (7, true)), .call 74 [(.tmp 9)]⟩,
    ⟨(some 11), (some (7, true)), .bin .lss 3 (.tmp 8) (.tmp 10)⟩,
    ⟨(some 12), none, .pick (.tmp 7) (.tmp 11) (.const (Go.Value.bool false))⟩,
    ⟨(some 4), none, .mv (.tmp 12)⟩])
  (.ret))
theorem is_cell_Row_there : FnIs Try.prog F.cell_Row_there X.cell_Row_there 13 [.tmp 4] := ⟨by kernel_rfl⟩

/-- sync/atomic.LoadUint64: function 114, without a body -/
abbrev F.atomic_LoadUint64 : FuncId := 114
theorem ext_atomic_LoadUint64 : ExtIs Try.prog F.atomic_LoadUint64 Try.f114 (Extern.Atomic.loadT (.int .u64)) := ⟨Try.func114, by kernel_rfl, by kernel_rfl, by kernel_rfl, by kernel_rfl⟩

/-- (*sync/atomic.Uint64).Load: function 96 -/
abbrev F.atomic_Uint64_Load : FuncId := 96
def X.atomic_Uint64_Load : X :=
  .seq (.ops [⟨(some 2), none, .mv (.const (Go.Value.int Go.IntKind.u64 0))⟩])
  (.seq (.ops [⟨(some 3), none, .mv (.tmp 0)⟩,
    ⟨(some 4), none, .nilc (.tmp 3)⟩,
    ⟨(some 5), none, .fld (.tmp 4) 0⟩,
    ⟨(some 6), none, .ext1 114 [(.tmp 5)]⟩,
    ⟨(some 2), none, .mv (.tmp 6)⟩])
  (.ret))
theorem is_atomic_Uint64_Load : FnIs Try.prog F.atomic_Uint64_Load X.atomic_Uint64_Load 7 [.tmp 2] := ⟨by kernel_rfl⟩

/-- (*haycroft/cell.Row).Load: function 66 -/
abbrev F.cell_Row_Load : FuncId := 66
def X.cell_Row_Load : X :=
  .seq (.ops [⟨(some 4), none, .mv (.const (Go.Value.int Go.IntKind.u64 0))⟩])
  (.seq (.seq (.ops [⟨(some 5), none, .mv (.tmp 0)⟩,
    ⟨(some 6), none, .mv (.tmp 1)⟩,
    ⟨(some 7), none, .call 95 [(.tmp 5), (.tmp 6)]⟩,
    ⟨(some 8), none, .un .not (.tmp 7)⟩])
  (.cond (.tmp 8)
    (.seq (.ops [⟨(some 4), none, .mv (.const (Go.Value.int Go.IntKind.u64 0))⟩])
    (.ret))
    (.skip)))
  (.seq (.ops [⟨(some 9), none, .mv (.tmp 0)⟩,
    ⟨(some 10), none, .nilc (.tmp 9)⟩,
    ⟨(some 11), none, .fld (.tmp 10) 0⟩,
    ⟨(some 12), none, .ld (.tmp 11) none⟩,
    ⟨(some 13), none, .mv (.tmp 1)⟩,
    ⟨(some 14), none, .idx (.tmp 12) (.tmp 13) 1⟩,
    ⟨(some 15), none, .call 96 [(.tmp 14)]⟩,
    ⟨(some 4), none, .mv (.tmp 15)⟩])
  (.ret)))
theorem is_cell_Row_Load : FnIs Try.prog F.cell_Row_Load X.cell_Row_Load 16 [.tmp 4] := ⟨by kernel_rfl⟩

/-- haycroft/pages.mark: function 70 -/
abbrev F.pages_mark : FuncId := 70
def X.pages_mark : X :=
  .seq (.ops [⟨(some 2), none, .mv (.const (Go.Value.int Go.IntKind.u64 0))⟩])
  (.seq (.ops [⟨(some 3), none, .mv (.tmp 0)⟩,
    ⟨(some 4), none, .conv Go.IntKind.u64 (.tmp 3)⟩,
    ⟨(some 5), none, .bin .add 65 (.tmp 4) (.const (Go.Value.int Go.IntKind.u64 1))⟩,
    ⟨(some 2), none, .mv (.tmp 5)⟩])
  (.ret))
theorem is_pages_mark : FnIs Try.prog F.pages_mark X.pages_mark 6 [.tmp 2] := ⟨by kernel_rfl⟩

/-- (*haycroft/pages.Buffer).Has: function 36 -/
abbrev F.pages_Buffer_Has : FuncId := 36
def X.pages_Buffer_Has : X :=
  .seq (.ops [⟨(some 4), none, .mv (.const (Go.Value.bool false))⟩])
  (.seq (.drawn [(0, ⟨(some 5), none, .mv (.tmp 0)⟩),
    (1, ⟨(some 6), none, .eq true .ptr (.tmp 5) (.const (Go.Value.pointer none))⟩),
    (2, ⟨(some 7), none, .mv (.tmp 6)⟩),
    (3, ⟨(some 8), (some (7, true)), .mv (.tmp 1)⟩),
    (4, ⟨(some 9), (some (7, true)), .bin .geq 3 (.tmp 8) (.const (Go.Value.int Go.IntKind.i64 0))⟩),
    (5, ⟨(some 10), none, .pick (.tmp 7) (.tmp 9) (.const (Go.Value.bool false))⟩),
    (6, ⟨(some 11), none, .mv (.tmp 10)⟩),
    (7, ⟨(some 12), (some (11, true)), .mv (.tmp 0)⟩),
    (8, ⟨(some 13), (some (11, true)), .nilc (.tmp 12)⟩),
    (9, ⟨(some 14), (some (11, true)), .fld (.tmp 13) 2⟩),
    (10, ⟨(some 15), (some (11, true)), .ld (.tmp 14) none⟩),
    (11, ⟨(some 16), (some (11, true)), .mv (.tmp 0)⟩),
    (12, ⟨(some 17), (some (11, true)), .mv (.tmp 1)⟩),
    (15, ⟨(some 20), (some (11, true)), .mv (.tmp 1)⟩),
    (13, ⟨(some 18), (some (11, true)), .call 68 [(.tmp 16), (.tmp 17)]⟩),
    (14, ⟨(some 19), (some (11, true)), .call 66 [(.tmp 15), (.tmp 18)]⟩),
    (16, ⟨(some 21), (some (11, true)), .call 70 [(.tmp 20)]⟩),
    (17, ⟨(some 22), (some (11, true)), .bin .eql 65 (.tmp 19) (.tmp 21)⟩),
    (18, ⟨(some 23), none, .pick (.tmp 11) (.tmp 22) (.const (Go.Value.bool false))⟩),
    (19, ⟨(some 4), none, .mv (.tmp 23)⟩)]
    [[], [0], [1], [2], [3, 2], [2, 4], [5, 2], [6], [7, 6], [8, 6], [9, 6], [6], [6], [11, 12, 6, 6], [10, 13, 13, 6], [6], [15, 14, 6], [14, 16, 6], [6, 17], [18, 16, 0, 1, 2, 3, 4, 5, 6, 7, 8, 9, 10, 11, 12, 13, 14, 15, 16, 17, 18]]
    [0, 1, 3, 7, 15, 31, 63, 127, 255, 511, 1023, 127, 127, 6271, 16383, 127, 65535, 131071, 262143, 524287] 90112)
  (.ret))
theorem is_pages_Buffer_Has : FnIs Try.prog F.pages_Buffer_Has X.pages_Buffer_Has 24 [.tmp 4] := ⟨by kernel_rfl⟩

/-- (*haycroft/cell.Row).may: function 99 -/
abbrev F.cell_Row_may : FuncId := 99
def X.cell_Row_may : X :=
  .seq (.ops [⟨(some 4), none, .mv (.const (Go.Value.int Go.IntKind.i64 0))⟩])
  (.seq (.block 0 (.seq (.ops [⟨(some 6), none, .mv (.tmp 0)⟩,
      ⟨(some 7), none, .eq false .ptr (.tmp 6) (.const (Go.Value.pointer none))⟩,
      ⟨(some 5), none, .mv (.tmp 7)⟩])
    (.cond (.tmp 5)
      (.seq (.ops [⟨(some 4), none, .mv (.const (Go.Value.int Go.IntKind.i64 2))⟩])
      (.ret))
      (.seq (.ops [⟨(some 9), none, .mv (.tmp 0)⟩,
        ⟨(some 10), none, .mv (.tmp 1)⟩,
        ⟨(some 11), none, .call 95 [(.tmp 9), (.tmp 10)]⟩,
        ⟨(some 12), none, .un .not (.tmp 11)⟩,
        ⟨(some 8), none, .mv (.tmp 12)⟩])
      (.cond (.tmp 8)
        (.seq (.ops [⟨(some 4), none, .mv (.const (Go.Value.int Go.IntKind.i64 1))⟩])
        (.ret))
        (.skip))))))
  (.seq (.ops [⟨(some 4), none, .mv (.const (Go.Value.int Go.IntKind.i64 0))⟩])
  (.ret)))
theorem is_cell_Row_may : FnIs Try.prog F.cell_Row_may X.cell_Row_may 13 [.tmp 4] := ⟨by kernel_rfl⟩

/-- sync/atomic.CompareAndSwapUint64: function 126, without a body -/
abbrev F.atomic_CompareAndSwapUint64 : FuncId := 126
theorem ext_atomic_CompareAndSwapUint64 : ExtIs Try.prog F.atomic_CompareAndSwapUint64 Try.f126 (Extern.Atomic.casT (.int .u64)) := ⟨Try.func126, by kernel_rfl, by kernel_rfl, by kernel_rfl, by kernel_rfl⟩

/-- (*sync/atomic.Uint64).CompareAndSwap: function 100 -/
abbrev F.atomic_Uint64_CompareAndSwap : FuncId := 100
def X.atomic_Uint64_CompareAndSwap : X :=
  .seq (.ops [⟨(some 6), none, .mv (.const (Go.Value.bool false))⟩])
  (.seq (.ops [⟨(some 7), none, .mv (.tmp 0)⟩,
    ⟨(some 8), none, .nilc (.tmp 7)⟩,
    ⟨(some 9), none, .fld (.tmp 8) 0⟩,
    ⟨(some 10), none, .mv (.tmp 1)⟩,
    ⟨(some 11), none, .mv (.tmp 2)⟩,
    ⟨(some 12), none, .ext1 126 [(.tmp 9), (.tmp 10), (.tmp 11)]⟩,
    ⟨(some 6), none, .mv (.tmp 12)⟩])
  (.ret))
theorem is_atomic_Uint64_CompareAndSwap : FnIs Try.prog F.atomic_Uint64_CompareAndSwap X.atomic_Uint64_CompareAndSwap 13 [.tmp 6] := ⟨by kernel_rfl⟩

/-- sync/atomic.AddInt64: function 127, without a body -/
abbrev F.atomic_AddInt64 : FuncId := 127
theorem ext_atomic_AddInt64 : ExtIs Try.prog F.atomic_AddInt64 Try.f127 (Extern.Atomic.update (Op.intArith .add) .i64 true) := ⟨Try.func127, by kernel_rfl, by kernel_rfl, by kernel_rfl, by kernel_rfl⟩

/-- (*sync/atomic.Int64).Add: function 101 -/
abbrev F.atomic_Int64_Add : FuncId := 101
def X.atomic_Int64_Add : X :=
  .seq (.ops [⟨(some 4), none, .mv (.const (Go.Value.int Go.IntKind.i64 0))⟩])
  (.seq (.ops [⟨(some 5), none, .mv (.tmp 0)⟩,
    ⟨(some 6), none, .nilc (.tmp 5)⟩,
    ⟨(some 7), none, .fld (.tmp 6) 0⟩,
    ⟨(some 8), none, .mv (.tmp 1)⟩,
    ⟨(some 9), none, .ext1 127 [(.tmp 7), (.tmp 8)]⟩,
    ⟨(some 4), none, .mv (.tmp 9)⟩])
  (.ret))
theorem is_atomic_Int64_Add : FnIs Try.prog F.atomic_Int64_Add X.atomic_Int64_Add 10 [.tmp 4] := ⟨by kernel_rfl⟩

/-- (*haycroft/cell.Row).CAS: function 69 -/
abbrev F.cell_Row_CAS : FuncId := 69
def X.cell_Row_CAS : X :=
  .seq (.ops [⟨(some 8), none, .mv (.const (Go.Value.bool false))⟩,
    ⟨(some 9), none, .mv (.const (Go.Value.int Go.IntKind.i64 0))⟩])
  (.seq (.seq (.ops [⟨(some 12), none, .mv (.tmp 0)⟩,
    ⟨(some 13), none, .mv (.tmp 1)⟩,
    ⟨(some 14), none, .call 99 [(.tmp 12), (.tmp 13)]⟩,
    ⟨(some 10), none, .mv (.tmp 14)⟩])
  (.seq (.ops [⟨(some 15), none, .mv (.tmp 10)⟩,
    ⟨(some 16), none, .bin .neq 31 (.tmp 15) (.const (Go.Value.int Go.IntKind.i64 0))⟩])
  (.cond (.tmp 16)
    (.seq (.ops [⟨(some 17), none, .mv (.tmp 10)⟩,
      ⟨(some 8), none, .mv (.const (Go.Value.bool false))⟩,
      ⟨(some 9), none, .mv (.tmp 17)⟩])
    (.ret))
    (.skip))))
  (.seq (.ops [⟨(some 18), none, .mv (.tmp 0)⟩,
    ⟨(some 19), none, .nilc (.tmp 18)⟩,
    ⟨(some 20), none, .fld (.tmp 19) 0⟩,
    ⟨(some 21), none, .ld (.tmp 20) none⟩,
    ⟨(some 22), none, .mv (.tmp 1)⟩,
    ⟨(some 23), none, .idx (.tmp 21) (.tmp 22) 1⟩,
    ⟨(some 24), none, .mv (.tmp 2)⟩,
    ⟨(some 25), none, .mv (.tmp 3)⟩,
    ⟨(some 26), none, .call 100 [(.tmp 23), (.tmp 24), (.tmp 25)]⟩,
    ⟨(some 11), none, .mv (.tmp 26)⟩])
  (.seq (.seq (.ops [⟨(some 27), none, .mv (.tmp 11)⟩])
  (.cond (.tmp 27)
    (.ops [⟨(some 28), none, .mv (.tmp 0)⟩,
      ⟨(some 29), none, .nilc (.tmp 28)⟩,
      ⟨(some 30), none, .fld (.tmp 29) 1⟩,
      ⟨(some 31), none, .call 101 [(.tmp 30), (.const (Go.Value.int Go.IntKind.i64 1))]⟩])
    (.ops [⟨(some 32), none, .mv (.tmp 0)⟩,
      ⟨(some 33), none, .nilc (.tmp 32)⟩,
      ⟨(some 34), none, .fld (.tmp 33) 2⟩,
      ⟨(some 35), none, .call 101 [(.tmp 34), (.const (Go.Value.int Go.IntKind.i64 1))]⟩])))
  (.seq (.ops [⟨(some 36), none, .mv (.tmp 11)⟩,
    ⟨(some 8), none, .mv (.tmp 36)⟩,
    ⟨(some 9), none, .mv (.const (Go.Value.int Go.IntKind.i64 0))⟩])
  (.ret)))))
theorem is_cell_Row_CAS : FnIs Try.prog F.cell_Row_CAS X.cell_Row_CAS 37 [.tmp 8, .tmp 9] := ⟨by kernel_rfl⟩

/-- (*haycroft/cell.Row).within: function 102 -/
abbrev F.cell_Row_within : FuncId := 102
def X.cell_Row_within : X :=
  .seq (.ops [⟨(some 6), none, .mv (.const (Go.Value.int Go.IntKind.i64 0))⟩])
  (.seq (.block 0 (.seq (.ops [⟨(some 8), none, .mv (.tmp 0)⟩,
      ⟨(some 9), none, .eq false .ptr (.tmp 8) (.const (Go.Value.pointer none))⟩,
      ⟨(some 7), none, .mv (.tmp 9)⟩])
    (.cond (.tmp 7)
      (.seq (.ops [⟨(some 6), none, .mv (.const (Go.Value.int Go.IntKind.i64 2))⟩])
      (.ret))
      (.seq (.seq (.ops [⟨(some 11), none, .mv (.tmp 2)⟩,
        ⟨(some 12), none, .bin .lss 3 (.tmp 11) (.const (Go.Value.int Go.IntKind.i64 0))⟩,
        ⟨(some 10), none, .mv (.tmp 12)⟩])
      (.cond (.tmp 10)
        (.skip)
        (.seq (.ops [⟨(some 13), none, .mv (.tmp 1)⟩,
          ⟨(some 14), none, .bin .lss 3 (.tmp 13) (.const (Go.Value.int Go.IntKind.i64 0))⟩,
          ⟨(some 10), none, .mv (.tmp 14)⟩])
        (.cond (.tmp 10)
          (.skip)
          (.seq (.ops [⟨(some 15), none, .mv (.tmp 2)⟩,
            ⟨(some 16), none, .mv (.tmp 0)⟩,
            ⟨(some 17), none, .call 74 [(.tmp 16)]⟩,
            ⟨(some 18), none, .bin .gtr 3 (.tmp 15) (.tmp 17)⟩,
            ⟨(some 10), none, .mv (.tmp 18)⟩])
          (.cond (.tmp 10)
            (.skip)
            (.ops [⟨(some 19), none, .mv (.tmp 1)⟩,
              ⟨(some 20), none, .mv (.tmp 0)⟩,
              ⟨(some 21), none, .call 74 [(.tmp 20)]⟩,
              ⟨(some 22), none, .mv (.tmp 2)⟩,
              ⟨(some 23), none, .bin .sub 3 (.tmp 21) (.tmp 22)⟩,
              ⟨(some 24), none, .bin .gtr 3 (.tmp 19) (.tmp 23)⟩,
              ⟨(some 10), none, .mv (.tmp 24)⟩])))))))
      (.cond (.tmp 10)
        (.seq (.ops [⟨(some 6), none, .mv (.const (Go.Value.int Go.IntKind.i64 1))⟩])
        (.ret))
        (.skip))))))
  (.seq (.ops [⟨(some 6), none, .mv (.const (Go.Value.int Go.IntKind.i64 0))⟩])
  (.ret)))
theorem is_cell_Row_within : FnIs Try.prog F.cell_Row_within X.cell_Row_within 25 [.tmp 6] := ⟨by kernel_rfl⟩

/-- sync/atomic.StoreUint64: function 128, without a body -/
abbrev F.atomic_StoreUint64 : FuncId := 128
theorem ext_atomic_StoreUint64 : ExtIs Try.prog F.atomic_StoreUint64 Try.f128 Extern.Atomic.storeT := ⟨Try.func128, by kernel_rfl, by kernel_rfl, by kernel_rfl, by kernel_rfl⟩

/-- (*sync/atomic.Uint64).Store: function 103 -/
abbrev F.atomic_Uint64_Store : FuncId := 103
def X.atomic_Uint64_Store : X :=
  .ops [⟨(some 4), none, .mv (.tmp 0)⟩,
    ⟨(some 5), none, .nilc (.tmp 4)⟩,
    ⟨(some 6), none, .fld (.tmp 5) 0⟩,
    ⟨(some 7), none, .mv (.tmp 1)⟩,
    ⟨(some 8), none, .ext1 128 [(.tmp 6), (.tmp 7)]⟩]
theorem is_atomic_Uint64_Store : FnIs Try.prog F.atomic_Uint64_Store X.atomic_Uint64_Store 9 [] := ⟨by kernel_rfl⟩

-- loop (inner ones first): [0, 1, 18, 19, 20]
/-- (*haycroft/cell.Row).Fill: function 71 -/
abbrev F.cell_Row_Fill : FuncId := 71
def X.cell_Row_Fill : X :=
  .seq (.ops [⟨(some 6), none, .mv (.const (Go.Value.int Go.IntKind.i64 0))⟩])
  (.seq (.seq (.ops [⟨(some 10), none, .mv (.tmp 0)⟩,
    ⟨(some 11), none, .mv (.tmp 1)⟩,
    ⟨(some 12), none, .mv (.tmp 2)⟩,
    ⟨(some 13), none, .lenS (.tmp 12)⟩,
    ⟨(some 14), none, .call 102 [(.tmp 10), (.tmp 11), (.tmp 13)]⟩,
    ⟨(some 7), none, .mv (.tmp 14)⟩])
  (.seq (.ops [⟨(some 15), none, .mv (.tmp 7)⟩,
    ⟨(some 16), none, .bin .neq 31 (.tmp 15) (.const (Go.Value.int Go.IntKind.i64 0))⟩])
  (.cond (.tmp 16)
    (.seq (.ops [⟨(some 17), none, .mv (.tmp 7)⟩,
      ⟨(some 6), none, .mv (.tmp 17)⟩])
    (.ret))
    (.skip))))
  (.seq (.seq (.ops [⟨(some 18), none, .mv (.tmp 2)⟩,
    ⟨(some 19), none, .lenS (.tmp 18)⟩,
    ⟨(some 20), none, .mv (.const (Go.Value.int Go.IntKind.i64 0))⟩])
  (.block 0 (.loop (.seq (.ops [⟨(some 21), none, .bin .lss 3 (.tmp 20) (.tmp 19)⟩])
      (.seq (.cond (.tmp 21)
        (.skip)
        (.exit 0))
      (.seq (.block 1 (.seq (.ops [⟨(some 22), none, .mv (.tmp 20)⟩,
          ⟨(some 23), none, .idx (.tmp 18) (.tmp 20) 1⟩,
          ⟨(some 24), none, .ld (.tmp 23) none⟩,
          ⟨(some 8), none, .mv (.tmp 22)⟩,
          ⟨(some 9), none, .mv (.tmp 24)⟩])
        (.ops [⟨(some 25), none, .mv (.tmp 0)⟩,
          ⟨(some 26), none, .nilc (.tmp 25)⟩,
          ⟨(some 27), none, .fld (.tmp 26) 0⟩,
          ⟨(some 28), none, .ld (.tmp 27) none⟩,
          ⟨(some 29), none, .mv (.tmp 1)⟩,
          ⟨(some 30), none, .mv (.tmp 8)⟩,
          ⟨(some 31), none, .bin .add 3 (.tmp 29) (.tmp 30)⟩,
          ⟨(some 32), none, .idx (.tmp 28) (.tmp 31) 1⟩,
          ⟨(some 33), none, .mv (.tmp 9)⟩,
          ⟨(some 34), none, .call 103 [(.tmp 32), (.tmp 33)]⟩])))
      (.ops [⟨(some 35), none, .bin .add 3 (.tmp 20) (.const (Go.Value.int Go.IntKind.i64 1))⟩,
        ⟨(some 20), none, .mv (.tmp 35)⟩])))))))
  (.seq (.ops [⟨(some 6), none, .mv (.const (Go.Value.int Go.IntKind.i64 0))⟩])
  (.ret))))
theorem is_cell_Row_Fill : FnIs Try.prog F.cell_Row_Fill X.cell_Row_Fill 36 [.tmp 6] := ⟨by kernel_rfl⟩

/-- (*haycroft/pages.Buffer).Open: function 31 -/
abbrev F.pages_Buffer_Open : FuncId := 31
def X.pages_Buffer_Open : X :=
  .seq (.ops [⟨(some 4), none, .mv (.const (Go.Value.int Go.IntKind.i64 0))⟩])
  (.seq (.block 0 (.seq (.ops [⟨(some 10), none, .mv (.tmp 0)⟩,
      ⟨(some 11), none, .eq false .ptr (.tmp 10) (.const (Go.Value.pointer none))⟩,
      ⟨(some 9), none, .mv (.tmp 11)⟩])
    (.cond (.tmp 9)
      (.seq (.ops [⟨(some 4), none, .mv (.const (Go.Value.int Go.IntKind.i64 2))⟩])
      (.ret))
      (.seq (.ops [⟨(some 13), none, .mv (.tmp 1)⟩,
        ⟨(some 14), none, .bin .lss 3 (.tmp 13) (.const (Go.Value.int Go.IntKind.i64 0))⟩,
        ⟨(some 12), none, .mv (.tmp 14)⟩])
      (.cond (.tmp 12)
        (.seq (.ops [⟨(some 4), none, .mv (.const (Go.Value.int Go.IntKind.i64 1))⟩])
        (.ret))
        (.seq (.ops [⟨(some 16), none, .mv (.tmp 0)⟩,
          ⟨(some 17), none, .mv (.tmp 1)⟩,
          ⟨(some 18), none, .call 36 [(.tmp 16), (.tmp 17)]⟩,
          ⟨(some 15), none, .mv (.tmp 18)⟩])
        (.cond (.tmp 15)
          (.seq (.ops [⟨(some 4), none, .mv (.const (Go.Value.int Go.IntKind.i64 8))⟩])
          (.ret))
          (.skip))))))))
  (.seq (.ops [⟨(some 19), none, .mv (.tmp 0)⟩,
    ⟨(some 20), none, .mv (.tmp 1)⟩,
    ⟨(some 21), none, .call 68 [(.tmp 19), (.tmp 20)]⟩,
    ⟨(some 5), none, .mv (.tmp 21)⟩])
  (.seq (.drawn [(0, ⟨(some 23), none, .mv (.tmp 0)⟩),
    (1, ⟨(some 24), none, .nilc (.tmp 23)⟩),
    (2, ⟨(some 25), none, .fld (.tmp 24) 2⟩),
    (3, ⟨(some 26), none, .ld (.tmp 25) none⟩),
    (4, ⟨(some 27), none, .mv (.tmp 5)⟩),
    (5, ⟨(some 28), none, .mv (.tmp 1)⟩),
    (6, ⟨(some 29), none, .call 70 [(.tmp 28)]⟩),
    (7, ⟨(some 30), none, .call 69 [(.tmp 26), (.tmp 27), (.const (Go.Value.int Go.IntKind.u64 0)), (.tmp 29)]⟩),
    (8, ⟨(some 22), none, .mv (.tmp 30)⟩),
    (9, ⟨(some 31), none, .ext (.tmp 22) 0⟩),
    (10, ⟨(some 32), none, .ext (.tmp 22) 1⟩),
    (11, ⟨(some 6), none, .mv (.tmp 31)⟩),
    (12, ⟨(some 7), none, .mv (.tmp 32)⟩)]
    [[], [0], [1], [2], [], [], [5], [3, 4, 6, 6], [7], [8], [8], [9, 7, 0, 1, 2, 3, 4, 5, 6, 7, 8, 9], [10, 11, 0, 1, 2, 3, 4, 5, 6, 7, 8, 9, 10, 11]]
    [0, 1, 3, 7, 0, 0, 32, 127, 255, 511, 511, 1023, 4095] 192)
  (.seq (.seq (.ops [⟨(some 33), none, .mv (.tmp 6)⟩,
    ⟨(some 34), none, .un .not (.tmp 33)⟩])
  (.cond (.tmp 34)
    (.seq (.ops [⟨(some 4), none, .mv (.const (Go.Value.int Go.IntKind.i64 10))⟩])
    (.ret))
    (.skip)))
  (.seq (.ops [⟨(some 35), none, .mv (.tmp 0)⟩,
    ⟨(some 36), none, .nilc (.tmp 35)⟩,
    ⟨(some 37), none, .fld (.tmp 36) 0⟩,
    ⟨(some 38), none, .ld (.tmp 37) none⟩,
    ⟨(some 39), none, .call 62 [(.tmp 38)]⟩,
    ⟨(some 8), none, .mv (.tmp 39)⟩])
  (.seq (.drawn [(0, ⟨(some 40), none, .mv (.tmp 0)⟩),
    (1, ⟨(some 41), none, .nilc (.tmp 40)⟩),
    (2, ⟨(some 42), none, .fld (.tmp 41) 1⟩),
    (3, ⟨(some 43), none, .ld (.tmp 42) none⟩),
    (4, ⟨(some 44), none, .mv (.tmp 5)⟩),
    (5, ⟨(some 45), none, .mv (.tmp 8)⟩),
    (6, ⟨(some 46), none, .bin .mul 3 (.tmp 44) (.tmp 45)⟩),
    (7, ⟨(some 47), none, .mv (.tmp 8)⟩),
    (8, ⟨(some 48), none, .mks 65 1 8 [(Go.Value.int Go.IntKind.u64 0)] (.tmp 47) (.tmp 47)⟩),
    (9, ⟨(some 49), none, .call 71 [(.tmp 43), (.tmp 46), (.tmp 48)]⟩),
    (10, ⟨(some 4), none, .mv (.tmp 49)⟩)]
    [[], [0], [1], [2], [], [], [4, 5], [], [7, 7], [3, 6, 8], [9, 9, 0, 1, 2, 3, 4, 5, 6, 7, 8, 9]]
    [0, 1, 3, 7, 0, 0, 48, 0, 128, 511, 1023] 768)
  (.ret)))))))
theorem is_pages_Buffer_Open : FnIs Try.prog F.pages_Buffer_Open X.pages_Buffer_Open 50 [.tmp 4] := ⟨by kernel_rfl⟩

/-- (*haycroft/cell.Row).Store: function 72 -/
abbrev F.cell_Row_Store : FuncId := 72
def X.cell_Row_Store : X :=
  .seq (.ops [⟨(some 6), none, .mv (.const (Go.Value.int Go.IntKind.i64 0))⟩])
  (.seq (.ops [⟨(some 8), none, .mv (.tmp 0)⟩,
    ⟨(some 9), none, .mv (.tmp 1)⟩,
    ⟨(some 10), none, .call 99 [(.tmp 8), (.tmp 9)]⟩,
    ⟨(some 7), none, .mv (.tmp 10)⟩])
  (.seq (.seq (.ops [⟨(some 11), none, .mv (.tmp 7)⟩,
    ⟨(some 12), none, .bin .eql 31 (.tmp 11) (.const (Go.Value.int Go.IntKind.i64 0))⟩])
  (.cond (.tmp 12)
    (.ops [⟨(some 13), none, .mv (.tmp 0)⟩,
      ⟨(some 14), none, .nilc (.tmp 13)⟩,
      ⟨(some 15), none, .fld (.tmp 14) 0⟩,
      ⟨(some 16), none, .ld (.tmp 15) none⟩,
      ⟨(some 17), none, .mv (.tmp 1)⟩,
      ⟨(some 18), none, .idx (.tmp 16) (.tmp 17) 1⟩,
      ⟨(some 19), none, .mv (.tmp 2)⟩,
      ⟨(some 20), none, .call 103 [(.tmp 18), (.tmp 19)]⟩])
    (.skip)))
  (.seq (.ops [⟨(some 21), none, .mv (.tmp 7)⟩,
    ⟨(some 6), none, .mv (.tmp 21)⟩])
  (.ret))))
theorem is_cell_Row_Store : FnIs Try.prog F.cell_Row_Store X.cell_Row_Store 22 [.tmp 6] := ⟨by kernel_rfl⟩

/-- (*haycroft/pages.Buffer).Close: function 32 -/
abbrev F.pages_Buffer_Close : FuncId := 32
def X.pages_Buffer_Close : X :=
  .seq (.ops [⟨(some 4), none, .mv (.const (Go.Value.int Go.IntKind.i64 0))⟩])
  (.seq (.block 0 (.seq (.ops [⟨(some 6), none, .mv (.tmp 0)⟩,
      ⟨(some 7), none, .eq false .ptr (.tmp 6) (.const (Go.Value.pointer none))⟩,
      ⟨(some 5), none, .mv (.tmp 7)⟩])
    (.cond (.tmp 5)
      (.seq (.ops [⟨(some 4), none, .mv (.const (Go.Value.int Go.IntKind.i64 2))⟩])
      (.ret))
      (.seq (.ops [⟨(some 9), none, .mv (.tmp 0)⟩,
        ⟨(some 10), none, .mv (.tmp 1)⟩,
        ⟨(some 11), none, .call 36 [(.tmp 9), (.tmp 10)]⟩,
        ⟨(some 12), none, .un .not (.tmp 11)⟩,
        ⟨(some 8), none, .mv (.tmp 12)⟩])
      (.cond (.tmp 8)
        (.seq (.ops [⟨(some 4), none, .mv (.const (Go.Value.int Go.IntKind.i64 7))⟩])
        (.ret))
        (.skip))))))
  (.seq (.drawn [(0, ⟨(some 13), none, .mv (.tmp 0)⟩),
    (1, ⟨(some 14), none, .nilc (.tmp 13)⟩),
    (2, ⟨(some 15), none, .fld (.tmp 14) 2⟩),
    (3, ⟨(some 16), none, .ld (.tmp 15) none⟩),
    (4, ⟨(some 17), none, .mv (.tmp 0)⟩),
    (5, ⟨(some 18), none, .mv (.tmp 1)⟩),
    (6, ⟨(some 19), none, .call 68 [(.tmp 17), (.tmp 18)]⟩),
    (7, ⟨(some 20), none, .call 72 [(.tmp 16), (.tmp 19), (.const (Go.Value.int Go.IntKind.u64 0))]⟩),
    (8, ⟨(some 4), none, .mv (.tmp 20)⟩)]
    [[], [0], [1], [2], [], [], [4, 5], [3, 6, 6], [7, 7, 0, 1, 2, 3, 4, 5, 6, 7]]
    [0, 1, 3, 7, 0, 0, 48, 127, 255] 192)
  (.ret)))
theorem is_pages_Buffer_Close : FnIs Try.prog F.pages_Buffer_Close X.pages_Buffer_Close 21 [.tmp 4] := ⟨by kernel_rfl⟩

/-- haycroft/haycroftlaw12.awake: function 26 -/
abbrev F.law12_awake : FuncId := 26
def X.law12_awake : X :=
  .seq (.ops [⟨(some 0), none, .mv (.const (Go.Value.bool false))⟩])
  (.seq (.ops [⟨(some 4), none, .call 27 [(.const (Go.Value.int Go.IntKind.i64 5)), (.const (Go.Value.int Go.IntKind.i64 2))]⟩,
    ⟨(some 3), none, .mv (.tmp 4)⟩,
    ⟨(some 5), none, .ext (.tmp 3) 0⟩,
    ⟨(some 6), none, .ext (.tmp 3) 1⟩,
    ⟨(some 1), none, .mv (.tmp 5)⟩,
    ⟨(some 2), none, .mv (.tmp 6)⟩])
  (.seq (.ops [⟨(some 7), none, .mv (.tmp 2)⟩,
    ⟨(some 8), none, .bin .eql 31 (.tmp 7) (.const (Go.Value.int Go.IntKind.i64 0))⟩,
    ⟨(some 9), none, .mv (.tmp 8)⟩,
    ⟨(some 10), (some (9, true)), .mv (.tmp 1)⟩,
    ⟨(some 11), (some (9, true)), .call 31 [(.tmp 10), (.const (Go.Value.int Go.IntKind.i64 0))]⟩,
    ⟨(some 12), (some (9, true)), .bin .eql 31 (.tmp 11) (.const (Go.Value.int Go.IntKind.i64 0))⟩,
    ⟨(some 13), none, .pick (.tmp 9) (.tmp 12) (.const (Go.Value.bool false))⟩,
    ⟨(some 14), none, .mv (.tmp 13)⟩,
    ⟨(some 15), (some (14, true)), .mv (.tmp 1)⟩,
    ⟨(some 16), (some (14, true)), .call 31 [(.tmp 15), (.const (Go.Value.int Go.IntKind.i64 1))]⟩,
    ⟨(some 17), (some (14, true)), .bin .eql 31 (.tmp 16) (.const (Go.Value.int Go.IntKind.i64 0))⟩,
    ⟨(some 18), none, .pick (.tmp 14) (.tmp 17) (.const (Go.Value.bool false))⟩,
    ⟨(some 19), none, .mv (.tmp 18)⟩,
    ⟨(some 20), (some (19, true)), .mv (.tmp 1)⟩,
    ⟨(some 21), (some (19, true)), .call 31 [(.tmp 20), (.const (Go.Value.int Go.IntKind.i64 2))]⟩,
    ⟨(some 22), (some (19, true)), .bin .eql 31 (.tmp 21) (.const (Go.Value.int Go.IntKind.i64 10))⟩,
    ⟨(some 23), none, .pick (.tmp 19) (.tmp 22) (.const (Go.Value.bool false))⟩,
    ⟨(some 24), none, .mv (.tmp 23)⟩,
    ⟨(some 25), (some (24, true)), .mv (.tmp 1)⟩,
    ⟨(some 26), (some (24, true)), .call 32 [(.tmp 25), (.const (Go.Value.int Go.IntKind.i64 0))]⟩,
    ⟨(some 27), (some (24, true)), .bin .eql 31 (.tmp 26) (.const (Go.Value.int Go.IntKind.i64 0))⟩,
    ⟨(some 28), none, .pick (.tmp 24) (.tmp 27) (.const (Go.Value.bool false))⟩,
    ⟨(some 29), none, .mv (.tmp 28)⟩,
    ⟨(some 30), (some (29, true)), .mv (.tmp 1)⟩,
    ⟨(some 31), (some (29, true)), .call 31 [(.tmp 30), (.const (Go.Value.int Go.IntKind.i64 2))]⟩,
    ⟨(some 32), (some (29, true)), .bin .eql 31 (.tmp 31) (.const (Go.Value.int Go.IntKind.i64 0))⟩,
    ⟨(some 33), none, .pick (.tmp 29) (.tmp 32) (.const (Go.Value.bool false))⟩,
    ⟨(some 0), none, .mv (.tmp 33)⟩])
  (.ret)))
theorem is_law12_awake : FnIs Try.prog F.law12_awake X.law12_awake 34 [.tmp 0] := ⟨by kernel_rfl⟩

/-- haycroft/haycroftref02.Size: function 35 -/
abbrev F.ref02_Size : FuncId := 35
def X.ref02_Size : X :=
  .seq (.ops [⟨(some 2), none, .mv (.const (Go.Value.int Go.IntKind.i64 0))⟩])
  (.seq (.seq (.ops [⟨(some 3), none, .mv (.tmp 0)⟩])
  (.block 0 (.seq (.ops [⟨(some 5), none, .bin .eql 3 (.tmp 3) (.const (Go.Value.int Go.IntKind.i64 5))⟩,
      ⟨(some 4), none, .mv (.tmp 5)⟩])
    (.cond (.tmp 4)
      (.seq (.ops [⟨(some 2), none, .mv (.const (Go.Value.int Go.IntKind.i64 32))⟩])
      (.ret))
      (.seq (.ops [⟨(some 7), none, .bin .eql 3 (.tmp 3) (.const (Go.Value.int Go.IntKind.i64 6))⟩,
        ⟨(some 6), none, .mv (.tmp 7)⟩])
      (.cond (.tmp 6)
        (.seq (.ops [⟨(some 2), none, .mv (.const (Go.Value.int Go.IntKind.i64 64))⟩])
        (.ret))
        (.seq (.ops [⟨(some 9), none, .bin .eql 3 (.tmp 3) (.const (Go.Value.int Go.IntKind.i64 7))⟩,
          ⟨(some 8), none, .mv (.tmp 9)⟩])
        (.cond (.tmp 8)
          (.seq (.ops [⟨(some 2), none, .mv (.const (Go.Value.int Go.IntKind.i64 128))⟩])
          (.ret))
          (.seq (.ops [⟨(some 11), none, .bin .eql 3 (.tmp 3) (.const (Go.Value.int Go.IntKind.i64 8))⟩,
            ⟨(some 10), none, .mv (.tmp 11)⟩])
          (.cond (.tmp 10)
            (.seq (.ops [⟨(some 2), none, .mv (.const (Go.Value.int Go.IntKind.i64 256))⟩])
            (.ret))
            (.seq (.ops [⟨(some 13), none, .bin .eql 3 (.tmp 3) (.const (Go.Value.int Go.IntKind.i64 9))⟩,
              ⟨(some 12), none, .mv (.tmp 13)⟩])
            (.cond (.tmp 12)
              (.seq (.ops [⟨(some 2), none, .mv (.const (Go.Value.int Go.IntKind.i64 512))⟩])
              (.ret))
              (.skip)))))))))))))
  (.seq (.ops [⟨(some 2), none, .mv (.const (Go.Value.int Go.IntKind.i64 0))⟩])
  (.ret)))
theorem is_ref02_Size : FnIs Try.prog F.ref02_Size X.ref02_Size 14 [.tmp 2] := ⟨by kernel_rfl⟩

/-- haycroft/haycroftref12.New: function 28 -/
abbrev F.ref12_New : FuncId := 28
def X.ref12_New : X :=
  .seq (.ops [⟨(some 4), none, .mv (.const (Go.Value.pointer none))⟩,
    ⟨(some 5), none, .mv (.const (Go.Value.int Go.IntKind.i64 0))⟩])
  (.seq (.seq (.ops [⟨(some 6), none, .mv (.tmp 0)⟩,
    ⟨(some 7), none, .call 35 [(.tmp 6)]⟩,
    ⟨(some 8), none, .bin .eql 3 (.tmp 7) (.const (Go.Value.int Go.IntKind.i64 0))⟩,
    ⟨(some 9), none, .mv (.tmp 8)⟩,
    ⟨(some 10), (some (9, false)), .mv (.tmp 1)⟩,
    ⟨(some 11), (some (9, false)), .bin .lss 3 (.tmp 10) (.const (Go.Value.int Go.IntKind.i64 2))⟩,
    ⟨(some 12), none, .pick (.tmp 9) (.const (Go.Value.bool true)) (.tmp 11)⟩,
    ⟨(some 13), none, .mv (.tmp 12)⟩,
    ⟨(some 14), (some (13, false)), .mv (.tmp 1)⟩,
    ⟨(some 15), (some (13, false)), .bin .gtr 3 (.tmp 14) (.const (Go.Value.int Go.IntKind.i64 8))⟩,
    ⟨(some 16), none, .pick (.tmp 13) (.const (Go.Value.bool true)) (.tmp 15)⟩])
  (.cond (.tmp 16)
    (.seq (.ops [⟨(some 4), none, .mv (.const (Go.Value.pointer none))⟩,
      ⟨(some 5), none, .mv (.const (Go.Value.int Go.IntKind.i64 1))⟩])
    (.ret))
    (.skip)))
  (.seq (.ops [⟨(some 17), none, .mv (.tmp 0)⟩,
    ⟨(some 18), none, .mv (.tmp 1)⟩,
    ⟨(some 19), none, .bld [(Go.Value.int Go.IntKind.i64 0), (Go.Value.int Go.IntKind.i64 0), (Go.Value.slice none 0 0)] [(0, 1, (.tmp 17)), (1, 1, (.tmp 18))]⟩,
    ⟨(some 20), none, .box 76 (.tmp 19)⟩,
    ⟨(some 4), none, .mv (.tmp 20)⟩,
    ⟨(some 5), none, .mv (.const (Go.Value.int Go.IntKind.i64 0))⟩])
  (.ret)))
theorem is_ref12_New : FnIs Try.prog F.ref12_New X.ref12_New 21 [.tmp 4, .tmp 5] := ⟨by kernel_rfl⟩

/-- haycroft/haycroftref02.Page: function 113 -/
abbrev F.ref02_Page : FuncId := 113
def X.ref02_Page : X :=
  .seq (.ops [⟨(some 4), none, .mv (.const (Go.Value.int Go.IntKind.i64 0))⟩])
  (.seq (.ops [⟨(some 6), none, .mv (.tmp 0)⟩,
    ⟨(some 7), none, .call 35 [(.tmp 6)]⟩,
    ⟨(some 5), none, .mv (.tmp 7)⟩])
  (.seq (.seq (.ops [⟨(some 8), none, .mv (.tmp 5)⟩,
    ⟨(some 9), none, .bin .eql 3 (.tmp 8) (.const (Go.Value.int Go.IntKind.i64 0))⟩,
    ⟨(some 10), none, .mv (.tmp 9)⟩,
    ⟨(some 11), (some (10, false)), .mv (.tmp 1)⟩,
    ⟨(some 12), (some (10, false)), .bin .gtr 65 (.tmp 11) (.const (Go.Value.int Go.IntKind.u64 281474976710655))⟩,
    ⟨(some 13), none, .pick (.tmp 10) (.const (Go.Value.bool true)) (.tmp 12)⟩])
  (.cond (.tmp 13)
    (.seq (.ops [⟨(some 4), none, .mv (.const (Go.Value.int Go.IntKind.i64 0))⟩])
    (.ret))
    (.skip)))
  (.seq (.ops [⟨(some 14), none, .mv (.tmp 1)⟩,
    ⟨(some 15), none, .mv (.tmp 5)⟩,
    ⟨(some 16), none, .conv Go.IntKind.u64 (.tmp 15)⟩,
    ⟨(some 17), none, .bin .quo 65 (.tmp 14) (.tmp 16)⟩,
    ⟨(some 18), none, .conv Go.IntKind.i64 (.tmp 17)⟩,
    ⟨(some 4), none, .mv (.tmp 18)⟩])
  (.ret))))
theorem is_ref02_Page : FnIs Try.prog F.ref02_Page X.ref02_Page 19 [.tmp 4] := ⟨by kernel_rfl⟩

-- loop (inner ones first): [0, 1, 5]
/-- (*haycroft/haycroftref12.Buffer).At: function 37 -/
abbrev F.ref12_Buffer_At : FuncId := 37
def X.ref12_Buffer_At : X :=
  .seq (.ops [⟨(some 4), none, .mv (.const (Go.Value.int Go.IntKind.i64 0))⟩])
  (.seq (.seq (.ops [⟨(some 5), none, .mv (.const (Go.Value.int Go.IntKind.i64 0))⟩])
  (.block 0 (.loop (.seq (.seq (.ops [⟨(some 6), none, .mv (.tmp 5)⟩,
        ⟨(some 7), none, .mv (.tmp 0)⟩,
        ⟨(some 8), none, .nilc (.tmp 7)⟩,
        ⟨(some 9), none, .fld (.tmp 8) 2⟩,
        ⟨(some 10), none, .ld (.tmp 9) none⟩,
        ⟨(some 11), none, .lenS (.tmp 10)⟩,
        ⟨(some 12), none, .bin .lss 3 (.tmp 6) (.tmp 11)⟩])
      (.cond (.tmp 12)
        (.skip)
        (.exit 0)))
      (.seq (.block 1 (.seq (.ops [⟨(some 15), none, .mv (.tmp 0)⟩,
          ⟨(some 16), none, .nilc (.tmp 15)⟩,
          ⟨(some 17), none, .fld (.tmp 16) 2⟩,
          ⟨(some 18), none, .ld (.tmp 17) none⟩,
          ⟨(some 19), none, .mv (.tmp 5)⟩,
          ⟨(some 20), none, .idx (.tmp 18) (.tmp 19) 2⟩,
          ⟨(some 21), none, .fld (.tmp 20) 0⟩,
          ⟨(some 22), none, .ld (.tmp 21) none⟩,
          ⟨(some 23), none, .mv (.tmp 1)⟩,
          ⟨(some 24), none, .bin .eql 3 (.tmp 22) (.tmp 23)⟩])
        (.cond (.tmp 24)
          (.seq (.ops [⟨(some 25), none, .mv (.tmp 5)⟩,
            ⟨(some 4), none, .mv (.tmp 25)⟩])
          (.ret))
          (.skip))))
      (.ops [⟨(some 13), none, .mv (.tmp 5)⟩,
        ⟨(some 14), none, .bin .add 3 (.tmp 13) (.const (Go.Value.int Go.IntKind.i64 1))⟩,
        ⟨(some 5), none, .mv (.tmp 14)⟩]))))))
  (.seq (.ops [⟨(some 4), none, .mv (.const (Go.Value.int Go.IntKind.i64 (-1)))⟩])
  (.ret)))
theorem is_ref12_Buffer_At : FnIs Try.prog F.ref12_Buffer_At X.ref12_Buffer_At 26 [.tmp 4] := ⟨by kernel_rfl⟩

/-- (*haycroft/haycroftref12.Buffer).Find: function 92 -/
abbrev F.ref12_Buffer_Find : FuncId := 92
def X.ref12_Buffer_Find : X :=
  .seq (.ops [⟨(some 4), none, .mv (.const (Go.Value.int Go.IntKind.i64 0))⟩])
  (.seq (.seq (.ops [⟨(some 5), none, .mv (.tmp 1)⟩,
    ⟨(some 6), none, .bin .gtr 65 (.tmp 5) (.const (Go.Value.int Go.IntKind.u64 281474976710655))⟩])
  (.cond (.tmp 6)
    (.seq (.ops [⟨(some 4), none, .mv (.const (Go.Value.int Go.IntKind.i64 (-1)))⟩])
    (.ret))
    (.skip)))
  (.seq (.ops [⟨(some 7), none, .mv (.tmp 0)⟩,
    ⟨(some 8), none, .mv (.tmp 0)⟩,
    ⟨(some 9), none, .nilc (.tmp 8)⟩,
    ⟨(some 10), none, .fld (.tmp 9) 0⟩,
    ⟨(some 11), none, .ld (.tmp 10) none⟩,
    ⟨(some 12), none, .mv (.tmp 1)⟩,
    ⟨(some 13), none, .call 113 [(.tmp 11), (.tmp 12)]⟩,
    ⟨(some 14), none, .call 37 [(.tmp 7), (.tmp 13)]⟩,
    ⟨(some 4), none, .mv (.tmp 14)⟩])
  (.ret)))
theorem is_ref12_Buffer_Find : FnIs Try.prog F.ref12_Buffer_Find X.ref12_Buffer_Find 15 [.tmp 4] := ⟨by kernel_rfl⟩

/-- haycroft/haycroftref02.Offset: function 94 -/
abbrev F.ref02_Offset : FuncId := 94
def X.ref02_Offset : X :=
  .seq (.ops [⟨(some 4), none, .mv (.const (Go.Value.int Go.IntKind.i64 0))⟩])
  (.seq (.ops [⟨(some 6), none, .mv (.tmp 0)⟩,
    ⟨(some 7), none, .call 35 [(.tmp 6)]⟩,
    ⟨(some 5), none, .mv (.tmp 7)⟩])
  (.seq (.seq (.ops [⟨(some 8), none, .mv (.tmp 5)⟩,
    ⟨(some 9), none, .bin .eql 3 (.tmp 8) (.const (Go.Value.int Go.IntKind.i64 0))⟩,
    ⟨(some 10), none, .mv (.tmp 9)⟩,
    ⟨(some 11), (some (10, false)), .mv (.tmp 1)⟩,
    ⟨(some 12), (some (10, false)), .bin .gtr 65 (.tmp 11) (.const (Go.Value.int Go.IntKind.u64 281474976710655))⟩,
    ⟨(some 13), none, .pick (.tmp 10) (.const (Go.Value.bool true)) (.tmp 12)⟩])
  (.cond (.tmp 13)
    (.seq (.ops [⟨(some 4), none, .mv (.const (Go.Value.int Go.IntKind.i64 0))⟩])
    (.ret))
    (.skip)))
  (.seq (.ops [⟨(some 14), none, .mv (.tmp 1)⟩,
    ⟨(some 15), none, .mv (.tmp 5)⟩,
    ⟨(some 16), none, .conv Go.IntKind.u64 (.tmp 15)⟩,
    ⟨(some 17), none, .bin .rem 65 (.tmp 14) (.tmp 16)⟩,
    ⟨(some 18), none, .conv Go.IntKind.i64 (.tmp 17)⟩,
    ⟨(some 4), none, .mv (.tmp 18)⟩])
  (.ret))))
theorem is_ref02_Offset : FnIs Try.prog F.ref02_Offset X.ref02_Offset 19 [.tmp 4] := ⟨by kernel_rfl⟩

/-- haycroft/haycroftref02.Room: function 93 -/
abbrev F.ref02_Room : FuncId := 93
def X.ref02_Room : X :=
  .seq (.ops [⟨(some 4), none, .mv (.const (Go.Value.int Go.IntKind.i64 0))⟩])
  (.seq (.seq (.ops [⟨(some 5), none, .mv (.tmp 0)⟩,
    ⟨(some 6), none, .call 35 [(.tmp 5)]⟩,
    ⟨(some 7), none, .bin .eql 3 (.tmp 6) (.const (Go.Value.int Go.IntKind.i64 0))⟩,
    ⟨(some 8), none, .mv (.tmp 7)⟩,
    ⟨(some 9), (some (8, false)), .mv (.tmp 1)⟩,
    ⟨(some 10), (some (8, false)), .bin .gtr 65 (.tmp 9) (.const (Go.Value.int Go.IntKind.u64 281474976710655))⟩,
    ⟨(some 11), none, .pick (.tmp 8) (.const (Go.Value.bool true)) (.tmp 10)⟩])
  (.cond (.tmp 11)
    (.seq (.ops [⟨(some 4), none, .mv (.const (Go.Value.int Go.IntKind.i64 0))⟩])
    (.ret))
    (.skip)))
  (.seq (.ops [⟨(some 12), none, .mv (.tmp 0)⟩,
    ⟨(some 13), none, .call 35 [(.tmp 12)]⟩,
    ⟨(some 14), none, .mv (.tmp 0)⟩,
    ⟨(some 15), none, .mv (.tmp 1)⟩,
    ⟨(some 16), none, .call 94 [(.tmp 14), (.tmp 15)]⟩,
    ⟨(some 17), none, .bin .sub 3 (.tmp 13) (.tmp 16)⟩,
    ⟨(some 4), none, .mv (.tmp 17)⟩])
  (.ret)))
theorem is_ref02_Room : FnIs Try.prog F.ref02_Room X.ref02_Room 18 [.tmp 4] := ⟨by kernel_rfl⟩

/-- (*haycroft/haycroftref12.Buffer).Run: function 63 -/
abbrev F.ref12_Buffer_Run : FuncId := 63
def X.ref12_Buffer_Run : X :=
  .seq (.ops [⟨(some 6), none, .mv (.const (Go.Value.int Go.IntKind.i64 0))⟩,
    ⟨(some 7), none, .mv (.const (Go.Value.int Go.IntKind.i64 0))⟩,
    ⟨(some 8), none, .mv (.const (Go.Value.int Go.IntKind.i64 0))⟩])
  (.seq (.ops [⟨(some 10), none, .mv (.tmp 0)⟩,
    ⟨(some 11), none, .mv (.tmp 1)⟩,
    ⟨(some 12), none, .call 92 [(.tmp 10), (.tmp 11)]⟩,
    ⟨(some 9), none, .mv (.tmp 12)⟩])
  (.seq (.seq (.ops [⟨(some 13), none, .mv (.tmp 9)⟩,
    ⟨(some 14), none, .bin .lss 3 (.tmp 13) (.const (Go.Value.int Go.IntKind.i64 0))⟩])
  (.cond (.tmp 14)
    (.seq (.ops [⟨(some 6), none, .mv (.const (Go.Value.int Go.IntKind.i64 0))⟩,
      ⟨(some 7), none, .mv (.const (Go.Value.int Go.IntKind.i64 0))⟩,
      ⟨(some 8), none, .mv (.const (Go.Value.int Go.IntKind.i64 7))⟩])
    (.ret))
    (.skip)))
  (.seq (.seq (.ops [⟨(some 15), none, .mv (.tmp 2)⟩,
    ⟨(some 16), none, .bin .lss 3 (.tmp 15) (.const (Go.Value.int Go.IntKind.i64 1))⟩,
    ⟨(some 17), none, .mv (.tmp 16)⟩,
    ⟨(some 18), (some (17, false)), .mv (.tmp 2)⟩,
    ⟨(some 19), (some (17, false)), .mv (.tmp 0)⟩,
    ⟨(some 20), (some (17, false)), .nilc (.tmp 19)⟩,
    ⟨(some 21), (some (17, false)), .fld (.tmp 20) 0⟩,
    ⟨(some 22), (some (17, false)), .ld (.tmp 21) none⟩,
    ⟨(some 23), (some (17, false)), .mv (.tmp 1)⟩,
    ⟨(some 24), (some (17, false)), .call 93 [(.tmp 22), (.tmp 23)]⟩,
    ⟨(some 25), (some (17, false)), .bin .gtr 3 (.tmp 18) (.tmp 24)⟩,
    ⟨(some 26), none, .pick (.tmp 17) (.const (Go.Value.bool true)) (.tmp 25)⟩])
  (.cond (.tmp 26)
    (.seq (.ops [⟨(some 6), none, .mv (.const (Go.Value.int Go.IntKind.i64 0))⟩,
      ⟨(some 7), none, .mv (.const (Go.Value.int Go.IntKind.i64 0))⟩,
      ⟨(some 8), none, .mv (.const (Go.Value.int Go.IntKind.i64 1))⟩])
    (.ret))
    (.skip)))
  (.seq (.ops [⟨(some 27), none, .mv (.tmp 9)⟩,
    ⟨(some 28), none, .mv (.tmp 0)⟩,
    ⟨(some 29), none, .nilc (.tmp 28)⟩,
    ⟨(some 30), none, .fld (.tmp 29) 0⟩,
    ⟨(some 31), none, .ld (.tmp 30) none⟩,
    ⟨(some 32), none, .mv (.tmp 1)⟩,
    ⟨(some 33), none, .call 94 [(.tmp 31), (.tmp 32)]⟩,
    ⟨(some 6), none, .mv (.tmp 27)⟩,
    ⟨(some 7), none, .mv (.tmp 33)⟩,
    ⟨(some 8), none, .mv (.const (Go.Value.int Go.IntKind.i64 0))⟩])
  (.ret)))))
theorem is_ref12_Buffer_Run : FnIs Try.prog F.ref12_Buffer_Run X.ref12_Buffer_Run 34 [.tmp 6, .tmp 7, .tmp 8] := ⟨by kernel_rfl⟩

-- loop (inner ones first): [0, 1, 6, 7, 8, 9]
-- loop (inner ones first): [0, 1, 5]
/-- (*haycroft/haycroftref12.Buffer).Open: function 64 -/
abbrev F.ref12_Buffer_Open : FuncId := 64
def X.ref12_Buffer_Open : X :=
  .seq (.ops [⟨(some 4), none, .mv (.const (Go.Value.int Go.IntKind.i64 0))⟩])
  (.seq (.seq (.ops [⟨(some 10), none, .mv (.tmp 1)⟩,
    ⟨(some 11), none, .bin .lss 3 (.tmp 10) (.const (Go.Value.int Go.IntKind.i64 0))⟩])
  (.cond (.tmp 11)
    (.seq (.ops [⟨(some 4), none, .mv (.const (Go.Value.int Go.IntKind.i64 1))⟩])
    (.ret))
    (.skip)))
  (.seq (.seq (.ops [⟨(some 12), none, .mv (.tmp 0)⟩,
    ⟨(some 13), none, .mv (.tmp 1)⟩,
    ⟨(some 14), none, .call 37 [(.tmp 12), (.tmp 13)]⟩,
    ⟨(some 15), none, .bin .geq 3 (.tmp 14) (.const (Go.Value.int Go.IntKind.i64 0))⟩])
  (.cond (.tmp 15)
    (.seq (.ops [⟨(some 4), none, .mv (.const (Go.Value.int Go.IntKind.i64 8))⟩])
    (.ret))
    (.skip)))
  (.seq (.seq (.ops [⟨(some 5), none, .mv (.const (Go.Value.int Go.IntKind.i64 0))⟩])
  (.block 0 (.loop (.seq (.seq (.ops [⟨(some 16), none, .mv (.tmp 5)⟩,
        ⟨(some 17), none, .mv (.tmp 0)⟩,
        ⟨(some 18), none, .nilc (.tmp 17)⟩,
        ⟨(some 19), none, .fld (.tmp 18) 2⟩,
        ⟨(some 20), none, .ld (.tmp 19) none⟩,
        ⟨(some 21), none, .lenS (.tmp 20)⟩,
        ⟨(some 22), none, .bin .lss 3 (.tmp 16) (.tmp 21)⟩])
      (.cond (.tmp 22)
        (.skip)
        (.exit 0)))
      (.seq (.block 1 (.seq (.drawn [(0, ⟨(some 25), none, .mv (.tmp 0)⟩),
          (1, ⟨(some 26), none, .nilc (.tmp 25)⟩),
          (2, ⟨(some 27), none, .fld (.tmp 26) 2⟩),
          (3, ⟨(some 28), none, .ld (.tmp 27) none⟩),
          (4, ⟨(some 29), none, .mv (.tmp 5)⟩),
          (5, ⟨(some 30), none, .idx (.tmp 28) (.tmp 29) 2⟩),
          (6, ⟨(some 31), none, .fld (.tmp 30) 0⟩),
          (7, ⟨(some 32), none, .ld (.tmp 31) none⟩),
          (8, ⟨(some 33), none, .mv (.tmp 0)⟩),
          (9, ⟨(some 34), none, .nilc (.tmp 33)⟩),
          (10, ⟨(some 35), none, .fld (.tmp 34) 1⟩),
          (11, ⟨(some 36), none, .ld (.tmp 35) none⟩),
          (12, ⟨(some 37), none, .bin .rem 3 (.tmp 32) (.tmp 36)⟩),
          (13, ⟨(some 38), none, .mv (.tmp 1)⟩),
          (14, ⟨(some 39), none, .mv (.tmp 0)⟩),
          (15, ⟨(some 40), none, .nilc (.tmp 39)⟩),
          (16, ⟨(some 41), none, .fld (.tmp 40) 1⟩),
          (17, ⟨(some 42), none, .ld (.tmp 41) none⟩),
          (18, ⟨(some 43), none, .bin .rem 3 (.tmp 38) (.tmp 42)⟩),
          (19, ⟨(some 44), none, .bin .eql 3 (.tmp 37) (.tmp 43)⟩)]
          [[], [0], [1], [2], [], [3, 4], [5], [6], [], [8], [9], [10], [7, 11], [], [], [14], [15], [16], [13, 17], [12, 18]]
          [0, 1, 3, 7, 0, 31, 63, 127, 0, 256, 768, 1792, 4095, 0, 0, 16384, 49152, 114688, 253952, 524287] 0)
        (.cond (.tmp 44)
          (.seq (.ops [⟨(some 4), none, .mv (.const (Go.Value.int Go.IntKind.i64 10))⟩])
          (.ret))
          (.skip))))
      (.ops [⟨(some 23), none, .mv (.tmp 5)⟩,
        ⟨(some 24), none, .bin .add 3 (.tmp 23) (.const (Go.Value.int Go.IntKind.i64 1))⟩,
        ⟨(some 5), none, .mv (.tmp 24)⟩]))))))
  (.seq (.ops [⟨(some 45), none, .bsl 79 2 0 [(Go.Value.int Go.IntKind.i64 0), (Go.Value.slice none 0 0)] []⟩,
    ⟨(some 6), none, .mv (.tmp 45)⟩])
  (.seq (.ops [⟨(some 7), none, .mv (.const (Go.Value.bool false))⟩])
  (.seq (.ops [⟨(some 46), none, .mv (.tmp 1)⟩,
    ⟨(some 47), none, .mv (.tmp 0)⟩,
    ⟨(some 48), none, .nilc (.tmp 47)⟩,
    ⟨(some 49), none, .fld (.tmp 48) 0⟩,
    ⟨(some 50), none, .ld (.tmp 49) none⟩,
    ⟨(some 51), none, .call 35 [(.tmp 50)]⟩,
    ⟨(some 52), none, .mks 65 1 8 [(Go.Value.int Go.IntKind.u64 0)] (.tmp 51) (.tmp 51)⟩,
    ⟨(some 53), none, .bld [(Go.Value.int Go.IntKind.i64 0), (Go.Value.slice none 0 0)] [(0, 1, (.tmp 46)), (1, 1, (.tmp 52))]⟩,
    ⟨(some 8), none, .new 79 (Go.Value.agg #[(Go.Value.int Go.IntKind.i64 0), (Go.Value.slice none 0 0)])⟩,
    ⟨none, none, .st (.tmp 8) (.tmp 53) 2⟩])
  (.seq (.seq (.ops [⟨(some 9), none, .mv (.const (Go.Value.int Go.IntKind.i64 0))⟩])
  (.block 2 (.loop (.seq (.seq (.ops [⟨(some 54), none, .mv (.tmp 9)⟩,
        ⟨(some 55), none, .mv (.tmp 0)⟩,
        ⟨(some 56), none, .nilc (.tmp 55)⟩,
        ⟨(some 57), none, .fld (.tmp 56) 2⟩,
        ⟨(some 58), none, .ld (.tmp 57) none⟩,
        ⟨(some 59), none, .lenS (.tmp 58)⟩,
        ⟨(some 60), none, .bin .lss 3 (.tmp 54) (.tmp 59)⟩])
      (.cond (.tmp 60)
        (.skip)
        (.exit 2)))
      (.seq (.block 3 (.seq (.seq (.ops [⟨(some 63), none, .mv (.tmp 7)⟩,
          ⟨(some 64), none, .un .not (.tmp 63)⟩,
          ⟨(some 65), none, .mv (.tmp 64)⟩,
          ⟨(some 66), (some (65, true)), .mv (.tmp 1)⟩,
          ⟨(some 67), (some (65, true)), .mv (.tmp 0)⟩,
          ⟨(some 68), (some (65, true)), .nilc (.tmp 67)⟩,
          ⟨(some 69), (some (65, true)), .fld (.tmp 68) 2⟩,
          ⟨(some 70), (some (65, true)), .ld (.tmp 69) none⟩,
          ⟨(some 71), (some (65, true)), .mv (.tmp 9)⟩,
          ⟨(some 72), (some (65, true)), .idx (.tmp 70) (.tmp 71) 2⟩,
          ⟨(some 73), (some (65, true)), .fld (.tmp 72) 0⟩,
          ⟨(some 74), (some (65, true)), .ld (.tmp 73) none⟩,
          ⟨(some 75), (some (65, true)), .bin .lss 3 (.tmp 66) (.tmp 74)⟩,
          ⟨(some 76), none, .pick (.tmp 65) (.tmp 75) (.const (Go.Value.bool false))⟩])
        (.cond (.tmp 76)
          (.seq (.ops [⟨(some 77), none, .mv (.tmp 6)⟩,
            ⟨(some 78), none, .ld (.tmp 8) (some 2)⟩,
            ⟨(some 79), none, .bsl 79 2 1 [(Go.Value.int Go.IntKind.i64 0), (Go.Value.slice none 0 0)] [(0, (.tmp 78))]⟩,
            ⟨(some 80), none, .app 79 2 32 [(Go.Value.int Go.IntKind.i64 0), (Go.Value.slice none 0 0)] (.tmp 77) (.tmp 79)⟩,
            ⟨(some 6), none, .mv (.tmp 80)⟩])
          (.ops [⟨(some 7), none, .mv (.const (Go.Value.bool true))⟩]))
          (.skip)))
        (.ops [⟨(some 81), none, .mv (.tmp 6)⟩,
          ⟨(some 82), none, .mv (.tmp 0)⟩,
          ⟨(some 83), none, .nilc (.tmp 82)⟩,
          ⟨(some 84), none, .fld (.tmp 83) 2⟩,
          ⟨(some 85), none, .ld (.tmp 84) none⟩,
          ⟨(some 86), none, .mv (.tmp 9)⟩,
          ⟨(some 87), none, .idx (.tmp 85) (.tmp 86) 2⟩,
          ⟨(some 88), none, .ld (.tmp 87) (some 2)⟩,
          ⟨(some 89), none, .bsl 79 2 1 [(Go.Value.int Go.IntKind.i64 0), (Go.Value.slice none 0 0)] [(0, (.tmp 88))]⟩,
          ⟨(some 90), none, .app 79 2 32 [(Go.Value.int Go.IntKind.i64 0), (Go.Value.slice none 0 0)] (.tmp 81) (.tmp 89)⟩,
          ⟨(some 6), none, .mv (.tmp 90)⟩])))
      (.ops [⟨(some 61), none, .mv (.tmp 9)⟩,
        ⟨(some 62), none, .bin .add 3 (.tmp 61) (.const (Go.Value.int Go.IntKind.i64 1))⟩,
        ⟨(some 9), none, .mv (.tmp 62)⟩]))))))
  (.seq (.seq (.ops [⟨(some 91), none, .mv (.tmp 7)⟩,
    ⟨(some 92), none, .un .not (.tmp 91)⟩])
  (.cond (.tmp 92)
    (.ops [⟨(some 93), none, .mv (.tmp 6)⟩,
      ⟨(some 94), none, .ld (.tmp 8) (some 2)⟩,
      ⟨(some 95), none, .bsl 79 2 1 [(Go.Value.int Go.IntKind.i64 0), (Go.Value.slice none 0 0)] [(0, (.tmp 94))]⟩,
      ⟨(some 96), none, .app 79 2 32 [(Go.Value.int Go.IntKind.i64 0), (Go.Value.slice none 0 0)] (.tmp 93) (.tmp 95)⟩,
      ⟨(some 6), none, .mv (.tmp 96)⟩])
    (.skip)))
  (.seq (.ops [⟨(some 97), none, .mv (.tmp 0)⟩,
    ⟨(some 98), none, .mv (.tmp 6)⟩,
    ⟨(some 99), none, .nilc (.tmp 97)⟩,
    ⟨(some 100), none, .fld (.tmp 99) 2⟩,
    ⟨none, none, .st (.tmp 100) (.tmp 98) 1⟩])
  (.seq (.ops [⟨(some 4), none, .mv (.const (Go.Value.int Go.IntKind.i64 0))⟩])
  (.ret)))))))))))
theorem is_ref12_Buffer_Open : FnIs Try.prog F.ref12_Buffer_Open X.ref12_Buffer_Open 101 [.tmp 4] := ⟨by kernel_rfl⟩

/-- (*haycroft/haycroftref12.Buffer).Close: function 65 -/
abbrev F.ref12_Buffer_Close : FuncId := 65
def X.ref12_Buffer_Close : X :=
  .seq (.ops [⟨(some 4), none, .mv (.const (Go.Value.int Go.IntKind.i64 0))⟩])
  (.seq (.ops [⟨(some 7), none, .mv (.tmp 0)⟩,
    ⟨(some 8), none, .mv (.tmp 1)⟩,
    ⟨(some 9), none, .call 37 [(.tmp 7), (.tmp 8)]⟩,
    ⟨(some 5), none, .mv (.tmp 9)⟩])
  (.seq (.seq (.ops [⟨(some 10), none, .mv (.tmp 5)⟩,
    ⟨(some 11), none, .bin .lss 3 (.tmp 10) (.const (Go.Value.int Go.IntKind.i64 0))⟩])
  (.cond (.tmp 11)
    (.seq (.ops [⟨(some 4), none, .mv (.const (Go.Value.int Go.IntKind.i64 7))⟩])
    (.ret))
    (.skip)))
  (.seq (.ops [⟨(some 12), none, .bsl 79 2 0 [(Go.Value.int Go.IntKind.i64 0), (Go.Value.slice none 0 0)] []⟩,
    ⟨(some 6), none, .mv (.tmp 12)⟩])
  (.seq (.ops [⟨(some 13), none, .mv (.tmp 6)⟩,
    ⟨(some 14), none, .mv (.tmp 0)⟩,
    ⟨(some 15), none, .nilc (.tmp 14)⟩,
    ⟨(some 16), none, .fld (.tmp 15) 2⟩,
    ⟨(some 17), none, .ld (.tmp 16) none⟩,
    ⟨(some 18), none, .mv (.tmp 5)⟩,
    ⟨(some 19), none, .slc 2 (.tmp 17) none (some (.tmp 18))⟩,
    ⟨(some 20), none, .app 79 2 32 [(Go.Value.int Go.IntKind.i64 0), (Go.Value.slice none 0 0)] (.tmp 13) (.tmp 19)⟩,
    ⟨(some 6), none, .mv (.tmp 20)⟩])
  (.seq (.ops [⟨(some 21), none, .mv (.tmp 0)⟩,
    ⟨(some 22), none, .mv (.tmp 6)⟩,
    ⟨(some 23), none, .mv (.tmp 0)⟩,
    ⟨(some 24), none, .nilc (.tmp 23)⟩,
    ⟨(some 25), none, .fld (.tmp 24) 2⟩,
    ⟨(some 26), none, .ld (.tmp 25) none⟩,
    ⟨(some 27), none, .mv (.tmp 5)⟩,
    ⟨(some 28), none, .bin .add 3 (.tmp 27) (.const (Go.Value.int Go.IntKind.i64 1))⟩,
    ⟨(some 29), none, .slc 2 (.tmp 26) (some (.tmp 28)) none⟩,
    ⟨(some 30), none, .app 79 2 32 [(Go.Value.int Go.IntKind.i64 0), (Go.Value.slice none 0 0)] (.tmp 22) (.tmp 29)⟩,
    ⟨(some 31), none, .nilc (.tmp 21)⟩,
    ⟨(some 32), none, .fld (.tmp 31) 2⟩,
    ⟨none, none, .st (.tmp 32) (.tmp 30) 1⟩])
  (.seq (.ops [⟨(some 4), none, .mv (.const (Go.Value.int Go.IntKind.i64 0))⟩])
  (.ret)))))))
theorem is_ref12_Buffer_Close : FnIs Try.prog F.ref12_Buffer_Close X.ref12_Buffer_Close 33 [.tmp 4] := ⟨by kernel_rfl⟩

/-- haycroft/field.Right: function 149 -/
abbrev F.field_Right : FuncId := 149
def X.field_Right : X :=
  .seq (.ops [⟨(some 4), none, .mv (.const (Go.Value.bool false))⟩])
  (.seq (.ops [⟨(some 5), none, .mv (.tmp 0)⟩,
    ⟨(some 6), none, .bin .geq 3 (.tmp 5) (.const (Go.Value.int Go.IntKind.i64 0))⟩,
    ⟨(some 7), none, .mv (.tmp 6)⟩,
    ⟨(some 8), (some (7, true)), .mv (.tmp 0)⟩,
    ⟨(some 9), (some (7, true)), .bin .lss 3 (.tmp 8) (.const (Go.Value.int Go.IntKind.i64 64))⟩,
    ⟨(some 10), none, .pick (.tmp 7) (.tmp 9) (.const (Go.Value.bool false))⟩,
    ⟨(some 11), none, .mv (.tmp 10)⟩,
    ⟨(some 12), (some (11, true)), .mv (.tmp 1)⟩,
    ⟨(some 13), (some (11, true)), .bin .geq 3 (.tmp 12) (.const (Go.Value.int Go.IntKind.i64 1))⟩,
    ⟨(some 14), none, .pick (.tmp 11) (.tmp 13) (.const (Go.Value.bool false))⟩,
    ⟨(some 15), none, .mv (.tmp 14)⟩,
    ⟨(some 16), (some (15, true)), .mv (.tmp 1)⟩,
    ⟨(some 17), (some (15, true)), .mv (.tmp 0)⟩,
    ⟨(some 18), (some (15, true)), .bin .sub 3 (.const (Go.Value.int Go.IntKind.i64 64)) (.tmp 17)⟩,
    ⟨(some 19), (some (15, true)), .bin .leq 3 (.tmp 16) (.tmp 18)⟩,
    ⟨(some 20), none, .pick (.tmp 15) (.tmp 19) (.const (Go.Value.bool false))⟩,
    ⟨(some 4), none, .mv (.tmp 20)⟩])
  (.ret))
theorem is_field_Right : FnIs Try.prog F.field_Right X.field_Right 21 [.tmp 4] := ⟨by kernel_rfl⟩

/-- haycroft/field.Most: function 150 -/
abbrev F.field_Most : FuncId := 150
def X.field_Most : X :=
  .seq (.ops [⟨(some 2), none, .mv (.const (Go.Value.int Go.IntKind.u64 0))⟩])
  (.seq (.block 0 (.seq (.ops [⟨(some 4), none, .mv (.tmp 0)⟩,
      ⟨(some 5), none, .bin .lss 3 (.tmp 4) (.const (Go.Value.int Go.IntKind.i64 1))⟩,
      ⟨(some 3), none, .mv (.tmp 5)⟩])
    (.cond (.tmp 3)
      (.seq (.ops [⟨(some 2), none, .mv (.const (Go.Value.int Go.IntKind.u64 0))⟩])
      (.ret))
      (.seq (.ops [⟨(some 7), none, .mv (.tmp 0)⟩,
        ⟨(some 8), none, .bin .geq 3 (.tmp 7) (.const (Go.Value.int Go.IntKind.i64 64))⟩,
        ⟨(some 6), none, .mv (.tmp 8)⟩])
      (.cond (.tmp 6)
        (.seq (.ops [⟨(some 2), none, .mv (.const (Go.Value.int Go.IntKind.u64 18446744073709551615))⟩])
        (.ret))
        (.skip))))))
  (.seq (.ops [⟨(some 9), none, .mv (.tmp 0)⟩,
    ⟨(some 10), none, .bin .shl 65 (.const (Go.Value.int Go.IntKind.u64 1)) (.tmp 9)⟩,
    ⟨(some 11), none, .bin .sub 65 (.tmp 10) (.const (Go.Value.int Go.IntKind.u64 1))⟩,
    ⟨(some 2), none, .mv (.tmp 11)⟩])
  (.ret)))
theorem is_field_Most : FnIs Try.prog F.field_Most X.field_Most 12 [.tmp 2] := ⟨by kernel_rfl⟩

/-- haycroft/field.Get: function 144 -/
abbrev F.field_Get : FuncId := 144
def X.field_Get : X :=
  .seq (.ops [⟨(some 6), none, .mv (.const (Go.Value.int Go.IntKind.u64 0))⟩])
  (.seq (.seq (.ops [⟨(some 7), none, .mv (.tmp 1)⟩,
    ⟨(some 8), none, .mv (.tmp 2)⟩,
    ⟨(some 9), none, .call 149 [(.tmp 7), (.tmp 8)]⟩,
    ⟨(some 10), none, .un .not (.tmp 9)⟩])
  (.cond (.tmp 10)
    (.seq (.ops [⟨(some 6), none, .mv (.const (Go.Value.int Go.IntKind.u64 0))⟩])
    (.ret))
    (.skip)))
  (.seq (.drawn [(0, ⟨(some 11), none, .mv (.tmp 0)⟩),
    (1, ⟨(some 12), none, .mv (.tmp 1)⟩),
    (2, ⟨(some 13), none, .bin .shr 65 (.tmp 11) (.tmp 12)⟩),
    (3, ⟨(some 14), none, .mv (.tmp 2)⟩),
    (4, ⟨(some 15), none, .call 150 [(.tmp 14)]⟩),
    (5, ⟨(some 16), none, .bin .and 65 (.tmp 13) (.tmp 15)⟩),
    (6, ⟨(some 6), none, .mv (.tmp 16)⟩)]
    [[], [], [0, 1], [], [3], [2, 4], [5, 4, 0, 1, 2, 3, 4, 5]]
    [0, 0, 3, 0, 8, 31, 63] 16)
  (.ret)))
theorem is_field_Get : FnIs Try.prog F.field_Get X.field_Get 17 [.tmp 6] := ⟨by kernel_rfl⟩

/-- haycroft/place.part: function 129 -/
abbrev F.place_part : FuncId := 129
def X.place_part : X :=
  .seq (.ops [⟨(some 8), none, .mv (.const (Go.Value.int Go.IntKind.i64 0))⟩])
  (.seq (.seq (.ops [⟨(some 9), none, .mv (.tmp 0)⟩,
    ⟨(some 10), none, .call 60 [(.tmp 9)]⟩,
    ⟨(some 11), none, .un .not (.tmp 10)⟩,
    ⟨(some 12), none, .mv (.tmp 11)⟩,
    ⟨(some 13), (some (12, false)), .mv (.tmp 1)⟩,
    ⟨(some 14), (some (12, false)), .bin .gtr 65 (.tmp 13) (.const (Go.Value.int Go.IntKind.u64 281474976710655))⟩,
    ⟨(some 15), none, .pick (.tmp 12) (.const (Go.Value.bool true)) (.tmp 14)⟩])
  (.cond (.tmp 15)
    (.seq (.ops [⟨(some 8), none, .mv (.const (Go.Value.int Go.IntKind.i64 0))⟩])
    (.ret))
    (.skip)))
  (.seq (.ops [⟨(some 16), none, .mv (.tmp 1)⟩,
    ⟨(some 17), none, .mv (.tmp 2)⟩,
    ⟨(some 18), none, .mv (.tmp 3)⟩,
    ⟨(some 19), none, .call 144 [(.tmp 16), (.tmp 17), (.tmp 18)]⟩,
    ⟨(some 20), none, .conv Go.IntKind.i64 (.tmp 19)⟩,
    ⟨(some 8), none, .mv (.tmp 20)⟩])
  (.ret)))
theorem is_place_part : FnIs Try.prog F.place_part X.place_part 21 [.tmp 8] := ⟨by kernel_rfl⟩

/-- haycroft/place.Page: function 104 -/
abbrev F.place_Page : FuncId := 104
def X.place_Page : X :=
  .seq (.ops [⟨(some 4), none, .mv (.const (Go.Value.int Go.IntKind.i64 0))⟩])
  (.seq (.ops [⟨(some 5), none, .mv (.tmp 0)⟩,
    ⟨(some 6), none, .mv (.tmp 1)⟩,
    ⟨(some 7), none, .mv (.tmp 0)⟩,
    ⟨(some 8), none, .mv (.tmp 0)⟩,
    ⟨(some 9), none, .bin .sub 3 (.const (Go.Value.int Go.IntKind.i64 48)) (.tmp 8)⟩,
    ⟨(some 10), none, .call 129 [(.tmp 5), (.tmp 6), (.tmp 7), (.tmp 9)]⟩,
    ⟨(some 4), none, .mv (.tmp 10)⟩])
  (.ret))
theorem is_place_Page : FnIs Try.prog F.place_Page X.place_Page 11 [.tmp 4] := ⟨by kernel_rfl⟩

/-- haycroft/place.Offset: function 105 -/
abbrev F.place_Offset : FuncId := 105
def X.place_Offset : X :=
  .seq (.ops [⟨(some 4), none, .mv (.const (Go.Value.int Go.IntKind.i64 0))⟩])
  (.seq (.ops [⟨(some 5), none, .mv (.tmp 0)⟩,
    ⟨(some 6), none, .mv (.tmp 1)⟩,
    ⟨(some 7), none, .mv (.tmp 0)⟩,
    ⟨(some 8), none, .call 129 [(.tmp 5), (.tmp 6), (.const (Go.Value.int Go.IntKind.i64 0)), (.tmp 7)]⟩,
    ⟨(some 4), none, .mv (.tmp 8)⟩])
  (.ret))
theorem is_place_Offset : FnIs Try.prog F.place_Offset X.place_Offset 9 [.tmp 4] := ⟨by kernel_rfl⟩

/-- (*haycroft/pages.Buffer).at: function 75 -/
abbrev F.pages_Buffer_at : FuncId := 75
def X.pages_Buffer_at : X :=
  .seq (.ops [⟨(some 4), none, .mv (.const (Go.Value.int Go.IntKind.i64 0))⟩,
    ⟨(some 5), none, .mv (.const (Go.Value.int Go.IntKind.i64 0))⟩])
  (.seq (.block 0 (.seq (.ops [⟨(some 7), none, .mv (.tmp 0)⟩,
      ⟨(some 8), none, .eq false .ptr (.tmp 7) (.const (Go.Value.pointer none))⟩,
      ⟨(some 6), none, .mv (.tmp 8)⟩])
    (.cond (.tmp 6)
      (.seq (.ops [⟨(some 4), none, .mv (.const (Go.Value.int Go.IntKind.i64 0))⟩,
        ⟨(some 5), none, .mv (.const (Go.Value.int Go.IntKind.i64 2))⟩])
      (.ret))
      (.seq (.seq (.ops [⟨(some 10), none, .mv (.tmp 1)⟩,
        ⟨(some 11), none, .bin .gtr 65 (.tmp 10) (.const (Go.Value.int Go.IntKind.u64 281474976710655))⟩,
        ⟨(some 9), none, .mv (.tmp 11)⟩])
      (.cond (.tmp 9)
        (.skip)
        (.ops [⟨(some 12), none, .mv (.tmp 0)⟩,
          ⟨(some 13), none, .mv (.tmp 0)⟩,
          ⟨(some 14), none, .nilc (.tmp 13)⟩,
          ⟨(some 15), none, .fld (.tmp 14) 0⟩,
          ⟨(some 16), none, .ld (.tmp 15) none⟩,
          ⟨(some 17), none, .mv (.tmp 1)⟩,
          ⟨(some 18), none, .call 104 [(.tmp 16), (.tmp 17)]⟩,
          ⟨(some 19), none, .call 36 [(.tmp 12), (.tmp 18)]⟩,
          ⟨(some 20), none, .un .not (.tmp 19)⟩,
          ⟨(some 9), none, .mv (.tmp 20)⟩])))
      (.cond (.tmp 9)
        (.seq (.ops [⟨(some 4), none, .mv (.const (Go.Value.int Go.IntKind.i64 0))⟩,
          ⟨(some 5), none, .mv (.const (Go.Value.int Go.IntKind.i64 7))⟩])
        (.ret))
        (.skip))))))
  (.seq (.drawn [(0, ⟨(some 21), none, .mv (.tmp 0)⟩),
    (1, ⟨(some 22), none, .mv (.tmp 0)⟩),
    (2, ⟨(some 23), none, .nilc (.tmp 22)⟩),
    (3, ⟨(some 24), none, .fld (.tmp 23) 0⟩),
    (4, ⟨(some 25), none, .ld (.tmp 24) none⟩),
    (5, ⟨(some 26), none, .mv (.tmp 1)⟩),
    (8, ⟨(some 29), none, .mv (.tmp 0)⟩),
    (9, ⟨(some 30), none, .nilc (.tmp 29)⟩),
    (10, ⟨(some 31), none, .fld (.tmp 30) 0⟩),
    (11, ⟨(some 32), none, .ld (.tmp 31) none⟩),
    (14, ⟨(some 35), none, .mv (.tmp 0)⟩),
    (15, ⟨(some 36), none, .nilc (.tmp 35)⟩),
    (16, ⟨(some 37), none, .fld (.tmp 36) 0⟩),
    (17, ⟨(some 38), none, .ld (.tmp 37) none⟩),
    (18, ⟨(some 39), none, .mv (.tmp 1)⟩),
    (6, ⟨(some 27), none, .call 104 [(.tmp 25), (.tmp 26)]⟩),
    (7, ⟨(some 28), none, .call 68 [(.tmp 21), (.tmp 27)]⟩),
    (12, ⟨(some 33), none, .call 62 [(.tmp 32)]⟩),
    (13, ⟨(some 34), none, .bin .mul 3 (.tmp 28) (.tmp 33)⟩),
    (19, ⟨(some 40), none, .call 105 [(.tmp 38), (.tmp 39)]⟩),
    (20, ⟨(some 41), none, .bin .add 3 (.tmp 34) (.tmp 40)⟩),
    (21, ⟨(some 4), none, .mv (.tmp 41)⟩),
    (22, ⟨(some 5), none, .mv (.const (Go.Value.int Go.IntKind.i64 0))⟩)]
    [[], [], [1], [2], [3], [], [4, 5], [0, 6, 6], [], [8], [9], [10], [11, 7], [7, 12], [], [14], [15], [16], [], [17, 18, 12], [13, 19], [20, 19, 0, 1, 2, 3, 4, 5, 6, 7, 8, 9, 10, 11, 12, 13, 14, 15, 16, 17, 18, 19, 20], [21, 0, 1, 2, 3, 4, 5, 6, 7, 8, 9, 10, 11, 12, 13, 14, 15, 16, 17, 18, 19, 20, 21]]
    [0, 0, 2, 6, 14, 0, 62, 127, 0, 256, 768, 1792, 4095, 8191, 0, 16384, 49152, 114688, 0, 516095, 1048575, 2097151, 4194303] 528576)
  (.ret)))
theorem is_pages_Buffer_at : FnIs Try.prog F.pages_Buffer_at X.pages_Buffer_at 42 [.tmp 4, .tmp 5] := ⟨by kernel_rfl⟩

/-- (*haycroft/pages.Buffer).Load: function 40 -/
abbrev F.pages_Buffer_Load : FuncId := 40
def X.pages_Buffer_Load : X :=
  .seq (.ops [⟨(some 4), none, .mv (.const (Go.Value.int Go.IntKind.u64 0))⟩,
    ⟨(some 5), none, .mv (.const (Go.Value.int Go.IntKind.i64 0))⟩])
  (.seq (.ops [⟨(some 9), none, .mv (.tmp 0)⟩,
    ⟨(some 10), none, .mv (.tmp 1)⟩,
    ⟨(some 11), none, .call 75 [(.tmp 9), (.tmp 10)]⟩,
    ⟨(some 8), none, .mv (.tmp 11)⟩,
    ⟨(some 12), none, .ext (.tmp 8) 0⟩,
    ⟨(some 13), none, .ext (.tmp 8) 1⟩,
    ⟨(some 6), none, .mv (.tmp 12)⟩,
    ⟨(some 7), none, .mv (.tmp 13)⟩])
  (.seq (.seq (.ops [⟨(some 14), none, .mv (.tmp 7)⟩,
    ⟨(some 15), none, .bin .neq 31 (.tmp 14) (.const (Go.Value.int Go.IntKind.i64 0))⟩])
  (.cond (.tmp 15)
    (.seq (.ops [⟨(some 16), none, .mv (.tmp 7)⟩,
      ⟨(some 4), none, .mv (.const (Go.Value.int Go.IntKind.u64 0))⟩,
      ⟨(some 5), none, .mv (.tmp 16)⟩])
    (.ret))
    (.skip)))
  (.seq (.ops [⟨(some 17), none, .mv (.tmp 0)⟩,
    ⟨(some 18), none, .nilc (.tmp 17)⟩,
    ⟨(some 19), none, .fld (.tmp 18) 1⟩,
    ⟨(some 20), none, .ld (.tmp 19) none⟩,
    ⟨(some 21), none, .mv (.tmp 6)⟩,
    ⟨(some 22), none, .call 66 [(.tmp 20), (.tmp 21)]⟩,
    ⟨(some 4), none, .mv (.tmp 22)⟩,
    ⟨(some 5), none, .mv (.const (Go.Value.int Go.IntKind.i64 0))⟩])
  (.ret))))
theorem is_pages_Buffer_Load : FnIs Try.prog F.pages_Buffer_Load X.pages_Buffer_Load 23 [.tmp 4, .tmp 5] := ⟨by kernel_rfl⟩

/-- (*haycroft/pages.Buffer).Store: function 43 -/
abbrev F.pages_Buffer_Store : FuncId := 43
def X.pages_Buffer_Store : X :=
  .seq (.ops [⟨(some 6), none, .mv (.const (Go.Value.int Go.IntKind.i64 0))⟩])
  (.seq (.ops [⟨(some 10), none, .mv (.tmp 0)⟩,
    ⟨(some 11), none, .mv (.tmp 1)⟩,
    ⟨(some 12), none, .call 75 [(.tmp 10), (.tmp 11)]⟩,
    ⟨(some 9), none, .mv (.tmp 12)⟩,
    ⟨(some 13), none, .ext (.tmp 9) 0⟩,
    ⟨(some 14), none, .ext (.tmp 9) 1⟩,
    ⟨(some 7), none, .mv (.tmp 13)⟩,
    ⟨(some 8), none, .mv (.tmp 14)⟩])
  (.seq (.seq (.ops [⟨(some 15), none, .mv (.tmp 8)⟩,
    ⟨(some 16), none, .bin .neq 31 (.tmp 15) (.const (Go.Value.int Go.IntKind.i64 0))⟩])
  (.cond (.tmp 16)
    (.seq (.ops [⟨(some 17), none, .mv (.tmp 8)⟩,
      ⟨(some 6), none, .mv (.tmp 17)⟩])
    (.ret))
    (.skip)))
  (.seq (.ops [⟨(some 18), none, .mv (.tmp 0)⟩,
    ⟨(some 19), none, .nilc (.tmp 18)⟩,
    ⟨(some 20), none, .fld (.tmp 19) 1⟩,
    ⟨(some 21), none, .ld (.tmp 20) none⟩,
    ⟨(some 22), none, .mv (.tmp 7)⟩,
    ⟨(some 23), none, .mv (.tmp 2)⟩,
    ⟨(some 24), none, .call 72 [(.tmp 21), (.tmp 22), (.tmp 23)]⟩,
    ⟨(some 6), none, .mv (.tmp 24)⟩])
  (.ret))))
theorem is_pages_Buffer_Store : FnIs Try.prog F.pages_Buffer_Store X.pages_Buffer_Store 25 [.tmp 6] := ⟨by kernel_rfl⟩

/-- (*haycroft/pages.Buffer).CAS: function 41 -/
abbrev F.pages_Buffer_CAS : FuncId := 41
def X.pages_Buffer_CAS : X :=
  .seq (.ops [⟨(some 8), none, .mv (.const (Go.Value.bool false))⟩,
    ⟨(some 9), none, .mv (.const (Go.Value.int Go.IntKind.i64 0))⟩])
  (.seq (.ops [⟨(some 13), none, .mv (.tmp 0)⟩,
    ⟨(some 14), none, .mv (.tmp 1)⟩,
    ⟨(some 15), none, .call 75 [(.tmp 13), (.tmp 14)]⟩,
    ⟨(some 12), none, .mv (.tmp 15)⟩,
    ⟨(some 16), none, .ext (.tmp 12) 0⟩,
    ⟨(some 17), none, .ext (.tmp 12) 1⟩,
    ⟨(some 10), none, .mv (.tmp 16)⟩,
    ⟨(some 11), none, .mv (.tmp 17)⟩])
  (.seq (.seq (.ops [⟨(some 18), none, .mv (.tmp 11)⟩,
    ⟨(some 19), none, .bin .neq 31 (.tmp 18) (.const (Go.Value.int Go.IntKind.i64 0))⟩])
  (.cond (.tmp 19)
    (.seq (.ops [⟨(some 20), none, .mv (.tmp 11)⟩,
      ⟨(some 8), none, .mv (.const (Go.Value.bool false))⟩,
      ⟨(some 9), none, .mv (.tmp 20)⟩])
    (.ret))
    (.skip)))
  (.seq (.ops [⟨(some 21), none, .mv (.tmp 0)⟩,
    ⟨(some 22), none, .nilc (.tmp 21)⟩,
    ⟨(some 23), none, .fld (.tmp 22) 1⟩,
    ⟨(some 24), none, .ld (.tmp 23) none⟩,
    ⟨(some 25), none, .mv (.tmp 10)⟩,
    ⟨(some 26), none, .mv (.tmp 2)⟩,
    ⟨(some 27), none, .mv (.tmp 3)⟩,
    ⟨(some 28), none, .call 69 [(.tmp 24), (.tmp 25), (.tmp 26), (.tmp 27)]⟩,
    ⟨(some 29), none, .ext (.tmp 28) 0⟩,
    ⟨(some 30), none, .ext (.tmp 28) 1⟩,
    ⟨(some 8), none, .mv (.tmp 29)⟩,
    ⟨(some 9), none, .mv (.tmp 30)⟩])
  (.ret))))
theorem is_pages_Buffer_CAS : FnIs Try.prog F.pages_Buffer_CAS X.pages_Buffer_CAS 31 [.tmp 8, .tmp 9] := ⟨by kernel_rfl⟩

/-- haycroft/place.Room: function 130 -/
abbrev F.place_Room : FuncId := 130
def X.place_Room : X :=
  .seq (.ops [⟨(some 4), none, .mv (.const (Go.Value.int Go.IntKind.i64 0))⟩])
  (.seq (.seq (.ops [⟨(some 5), none, .mv (.tmp 0)⟩,
    ⟨(some 6), none, .call 60 [(.tmp 5)]⟩,
    ⟨(some 7), none, .un .not (.tmp 6)⟩,
    ⟨(some 8), none, .mv (.tmp 7)⟩,
    ⟨(some 9), (some (8, false)), .mv (.tmp 1)⟩,
    ⟨(some 10), (some (8, false)), .bin .gtr 65 (.tmp 9) (.const (Go.Value.int Go.IntKind.u64 281474976710655))⟩,
    ⟨(some 11), none, .pick (.tmp 8) (.const (Go.Value.bool true)) (.tmp 10)⟩])
  (.cond (.tmp 11)
    (.seq (.ops [⟨(some 4), none, .mv (.const (Go.Value.int Go.IntKind.i64 0))⟩])
    (.ret))
    (.skip)))
  (.seq (.ops [⟨(some 12), none, .mv (.tmp 0)⟩,
    ⟨(some 13), none, .call 62 [(.tmp 12)]⟩,
    ⟨(some 14), none, .mv (.tmp 0)⟩,
    ⟨(some 15), none, .mv (.tmp 1)⟩,
    ⟨(some 16), none, .call 105 [(.tmp 14), (.tmp 15)]⟩,
    ⟨(some 17), none, .bin .sub 3 (.tmp 13) (.tmp 16)⟩,
    ⟨(some 4), none, .mv (.tmp 17)⟩])
  (.ret)))
theorem is_place_Room : FnIs Try.prog F.place_Room X.place_Room 18 [.tmp 4] := ⟨by kernel_rfl⟩

/-- haycroft/place.Fits: function 106 -/
abbrev F.place_Fits : FuncId := 106
def X.place_Fits : X :=
  .seq (.ops [⟨(some 6), none, .mv (.const (Go.Value.bool false))⟩])
  (.seq (.ops [⟨(some 7), none, .mv (.tmp 2)⟩,
    ⟨(some 8), none, .bin .geq 3 (.tmp 7) (.const (Go.Value.int Go.IntKind.i64 1))⟩,
    ⟨(some 9), none, .mv (.tmp 8)⟩,
    ⟨(some 10), (some (9, true)), .mv (.tmp 2)⟩,
    ⟨(some 11), (some (9, true)), .mv (.tmp 0)⟩,
    ⟨(some 12), (some (9, true)), .mv (.tmp 1)⟩,
    ⟨(some 13), (some (9, true)), .call 130 [(.tmp 11), (.tmp 12)]⟩,
    ⟨(some 14), (some (9, true)), .bin .leq 3 (.tmp 10) (.tmp 13)⟩,
    ⟨(some 15), none, .pick (.tmp 9) (.tmp 14) (.const (Go.Value.bool false))⟩,
    ⟨(some 6), none, .mv (.tmp 15)⟩])
  (.ret))
theorem is_place_Fits : FnIs Try.prog F.place_Fits X.place_Fits 16 [.tmp 6] := ⟨by kernel_rfl⟩

/-- (*haycroft/pages.Buffer).run: function 76 -/
abbrev F.pages_Buffer_run : FuncId := 76
def X.pages_Buffer_run : X :=
  .seq (.ops [⟨(some 6), none, .mv (.const (Go.Value.int Go.IntKind.i64 0))⟩,
    ⟨(some 7), none, .mv (.const (Go.Value.int Go.IntKind.i64 0))⟩])
  (.seq (.ops [⟨(some 11), none, .mv (.tmp 0)⟩,
    ⟨(some 12), none, .mv (.tmp 1)⟩,
    ⟨(some 13), none, .call 75 [(.tmp 11), (.tmp 12)]⟩,
    ⟨(some 10), none, .mv (.tmp 13)⟩,
    ⟨(some 14), none, .ext (.tmp 10) 0⟩,
    ⟨(some 15), none, .ext (.tmp 10) 1⟩,
    ⟨(some 8), none, .mv (.tmp 14)⟩,
    ⟨(some 9), none, .mv (.tmp 15)⟩])
  (.seq (.block 0 (.seq (.ops [⟨(some 17), none, .mv (.tmp 9)⟩,
      ⟨(some 18), none, .bin .neq 31 (.tmp 17) (.const (Go.Value.int Go.IntKind.i64 0))⟩,
      ⟨(some 16), none, .mv (.tmp 18)⟩])
    (.cond (.tmp 16)
      (.seq (.ops [⟨(some 19), none, .mv (.tmp 9)⟩,
        ⟨(some 6), none, .mv (.const (Go.Value.int Go.IntKind.i64 0))⟩,
        ⟨(some 7), none, .mv (.tmp 19)⟩])
      (.ret))
      (.seq (.ops [⟨(some 21), none, .mv (.tmp 0)⟩,
        ⟨(some 22), none, .nilc (.tmp 21)⟩,
        ⟨(some 23), none, .fld (.tmp 22) 0⟩,
        ⟨(some 24), none, .ld (.tmp 23) none⟩,
        ⟨(some 25), none, .mv (.tmp 1)⟩,
        ⟨(some 26), none, .mv (.tmp 2)⟩,
        ⟨(some 27), none, .call 106 [(.tmp 24), (.tmp 25), (.tmp 26)]⟩,
        ⟨(some 28), none, .un .not (.tmp 27)⟩,
        ⟨(some 20), none, .mv (.tmp 28)⟩])
      (.cond (.tmp 20)
        (.seq (.ops [⟨(some 6), none, .mv (.const (Go.Value.int Go.IntKind.i64 0))⟩,
          ⟨(some 7), none, .mv (.const (Go.Value.int Go.IntKind.i64 1))⟩])
        (.ret))
        (.skip))))))
  (.seq (.ops [⟨(some 29), none, .mv (.tmp 8)⟩,
    ⟨(some 6), none, .mv (.tmp 29)⟩,
    ⟨(some 7), none, .mv (.const (Go.Value.int Go.IntKind.i64 0))⟩])
  (.ret))))
theorem is_pages_Buffer_run : FnIs Try.prog F.pages_Buffer_run X.pages_Buffer_run 30 [.tmp 6, .tmp 7] := ⟨by kernel_rfl⟩

-- loop (inner ones first): [0, 1, 9, 21, 22]
/-- (*haycroft/cell.Row).Words: function 73 -/
abbrev F.cell_Row_Words : FuncId := 73
def X.cell_Row_Words : X :=
  .seq (.ops [⟨(some 6), none, .mv (.const (Go.Value.slice none 0 0))⟩,
    ⟨(some 7), none, .mv (.const (Go.Value.int Go.IntKind.i64 0))⟩])
  (.seq (.seq (.ops [⟨(some 11), none, .mv (.tmp 0)⟩,
    ⟨(some 12), none, .mv (.tmp 1)⟩,
    ⟨(some 13), none, .mv (.tmp 2)⟩,
    ⟨(some 14), none, .call 102 [(.tmp 11), (.tmp 12), (.tmp 13)]⟩,
    ⟨(some 8), none, .mv (.tmp 14)⟩])
  (.seq (.ops [⟨(some 15), none, .mv (.tmp 8)⟩,
    ⟨(some 16), none, .bin .neq 31 (.tmp 15) (.const (Go.Value.int Go.IntKind.i64 0))⟩])
  (.cond (.tmp 16)
    (.seq (.ops [⟨(some 17), none, .mv (.tmp 8)⟩,
      ⟨(some 6), none, .mv (.const (Go.Value.slice none 0 0))⟩,
      ⟨(some 7), none, .mv (.tmp 17)⟩])
    (.ret))
    (.skip))))
  (.seq (.ops [⟨(some 18), none, .mv (.tmp 2)⟩,
    ⟨(some 19), none, .mks 65 1 8 [(Go.Value.int Go.IntKind.u64 0)] (.tmp 18) (.tmp 18)⟩,
    ⟨(some 9), none, .mv (.tmp 19)⟩])
  (.seq (.seq (.ops [⟨(some 20), none, .mv (.tmp 9)⟩,
    ⟨(some 21), none, .lenS (.tmp 20)⟩,
    ⟨(some 22), none, .mv (.const (Go.Value.int Go.IntKind.i64 0))⟩])
  (.block 0 (.loop (.seq (.ops [⟨(some 23), none, .bin .lss 3 (.tmp 22) (.tmp 21)⟩])
      (.seq (.cond (.tmp 23)
        (.skip)
        (.exit 0))
      (.seq (.block 1 (.seq (.ops [⟨(some 24), none, .mv (.tmp 22)⟩,
          ⟨(some 10), none, .mv (.tmp 24)⟩])
        (.ops [⟨(some 25), none, .mv (.tmp 9)⟩,
          ⟨(some 26), none, .mv (.tmp 10)⟩,
          ⟨(some 27), none, .mv (.tmp 0)⟩,
          ⟨(some 28), none, .nilc (.tmp 27)⟩,
          ⟨(some 29), none, .fld (.tmp 28) 0⟩,
          ⟨(some 30), none, .ld (.tmp 29) none⟩,
          ⟨(some 31), none, .mv (.tmp 1)⟩,
          ⟨(some 32), none, .mv (.tmp 10)⟩,
          ⟨(some 33), none, .bin .add 3 (.tmp 31) (.tmp 32)⟩,
          ⟨(some 34), none, .idx (.tmp 30) (.tmp 33) 1⟩,
          ⟨(some 35), none, .call 96 [(.tmp 34)]⟩,
          ⟨(some 36), none, .idx (.tmp 25) (.tmp 26) 1⟩,
          ⟨none, none, .st (.tmp 36) (.tmp 35) 1⟩])))
      (.ops [⟨(some 37), none, .bin .add 3 (.tmp 22) (.const (Go.Value.int Go.IntKind.i64 1))⟩,
        ⟨(some 22), none, .mv (.tmp 37)⟩])))))))
  (.seq (.ops [⟨(some 38), none, .mv (.tmp 9)⟩,
    ⟨(some 6), none, .mv (.tmp 38)⟩,
    ⟨(some 7), none, .mv (.const (Go.Value.int Go.IntKind.i64 0))⟩])
  (.ret)))))
theorem is_cell_Row_Words : FnIs Try.prog F.cell_Row_Words X.cell_Row_Words 39 [.tmp 6, .tmp 7] := ⟨by kernel_rfl⟩

/-- (*haycroft/pages.Buffer).Words: function 42 -/
abbrev F.pages_Buffer_Words : FuncId := 42
def X.pages_Buffer_Words : X :=
  .seq (.ops [⟨(some 6), none, .mv (.const (Go.Value.slice none 0 0))⟩,
    ⟨(some 7), none, .mv (.const (Go.Value.int Go.IntKind.i64 0))⟩])
  (.seq (.ops [⟨(some 11), none, .mv (.tmp 0)⟩,
    ⟨(some 12), none, .mv (.tmp 1)⟩,
    ⟨(some 13), none, .mv (.tmp 2)⟩,
    ⟨(some 14), none, .call 76 [(.tmp 11), (.tmp 12), (.tmp 13)]⟩,
    ⟨(some 10), none, .mv (.tmp 14)⟩,
    ⟨(some 15), none, .ext (.tmp 10) 0⟩,
    ⟨(some 16), none, .ext (.tmp 10) 1⟩,
    ⟨(some 8), none, .mv (.tmp 15)⟩,
    ⟨(some 9), none, .mv (.tmp 16)⟩])
  (.seq (.seq (.ops [⟨(some 17), none, .mv (.tmp 9)⟩,
    ⟨(some 18), none, .bin .neq 31 (.tmp 17) (.const (Go.Value.int Go.IntKind.i64 0))⟩])
  (.cond (.tmp 18)
    (.seq (.ops [⟨(some 19), none, .mv (.tmp 9)⟩,
      ⟨(some 6), none, .mv (.const (Go.Value.slice none 0 0))⟩,
      ⟨(some 7), none, .mv (.tmp 19)⟩])
    (.ret))
    (.skip)))
  (.seq (.ops [⟨(some 20), none, .mv (.tmp 0)⟩,
    ⟨(some 21), none, .nilc (.tmp 20)⟩,
    ⟨(some 22), none, .fld (.tmp 21) 1⟩,
    ⟨(some 23), none, .ld (.tmp 22) none⟩,
    ⟨(some 24), none, .mv (.tmp 8)⟩,
    ⟨(some 25), none, .mv (.tmp 2)⟩,
    ⟨(some 26), none, .call 73 [(.tmp 23), (.tmp 24), (.tmp 25)]⟩,
    ⟨(some 27), none, .ext (.tmp 26) 0⟩,
    ⟨(some 28), none, .ext (.tmp 26) 1⟩,
    ⟨(some 6), none, .mv (.tmp 27)⟩,
    ⟨(some 7), none, .mv (.tmp 28)⟩])
  (.ret))))
theorem is_pages_Buffer_Words : FnIs Try.prog F.pages_Buffer_Words X.pages_Buffer_Words 29 [.tmp 6, .tmp 7] := ⟨by kernel_rfl⟩

-- loop (inner ones first): [0, 1, 5]
/-- haycroft/haycroftref01.Same: function 34 -/
abbrev F.ref01_Same : FuncId := 34
def X.ref01_Same : X :=
  .seq (.ops [⟨(some 4), none, .mv (.const (Go.Value.bool false))⟩])
  (.seq (.seq (.ops [⟨(some 6), none, .mv (.tmp 0)⟩,
    ⟨(some 7), none, .lenS (.tmp 6)⟩,
    ⟨(some 8), none, .mv (.tmp 1)⟩,
    ⟨(some 9), none, .lenS (.tmp 8)⟩,
    ⟨(some 10), none, .bin .neq 3 (.tmp 7) (.tmp 9)⟩])
  (.cond (.tmp 10)
    (.seq (.ops [⟨(some 4), none, .mv (.const (Go.Value.bool false))⟩])
    (.ret))
    (.skip)))
  (.seq (.seq (.ops [⟨(some 5), none, .mv (.const (Go.Value.int Go.IntKind.i64 0))⟩])
  (.block 0 (.loop (.seq (.seq (.ops [⟨(some 11), none, .mv (.tmp 5)⟩,
        ⟨(some 12), none, .mv (.tmp 0)⟩,
        ⟨(some 13), none, .lenS (.tmp 12)⟩,
        ⟨(some 14), none, .bin .lss 3 (.tmp 11) (.tmp 13)⟩])
      (.cond (.tmp 14)
        (.skip)
        (.exit 0)))
      (.seq (.block 1 (.seq (.drawn [(0, ⟨(some 17), none, .mv (.tmp 0)⟩),
          (1, ⟨(some 18), none, .mv (.tmp 5)⟩),
          (2, ⟨(some 19), none, .idx (.tmp 17) (.tmp 18) 1⟩),
          (3, ⟨(some 20), none, .ld (.tmp 19) none⟩),
          (4, ⟨(some 21), none, .mv (.tmp 1)⟩),
          (5, ⟨(some 22), none, .mv (.tmp 5)⟩),
          (6, ⟨(some 23), none, .idx (.tmp 21) (.tmp 22) 1⟩),
          (7, ⟨(some 24), none, .ld (.tmp 23) none⟩),
          (8, ⟨(some 25), none, .bin .neq 65 (.tmp 20) (.tmp 24)⟩)]
          [[], [], [0, 1], [2], [], [], [4, 5], [6], [3, 7]]
          [0, 0, 3, 7, 0, 0, 48, 112, 255] 0)
        (.cond (.tmp 25)
          (.seq (.ops [⟨(some 4), none, .mv (.const (Go.Value.bool false))⟩])
          (.ret))
          (.skip))))
      (.ops [⟨(some 15), none, .mv (.tmp 5)⟩,
        ⟨(some 16), none, .bin .add 3 (.tmp 15) (.const (Go.Value.int Go.IntKind.i64 1))⟩,
        ⟨(some 5), none, .mv (.tmp 16)⟩]))))))
  (.seq (.ops [⟨(some 4), none, .mv (.const (Go.Value.bool true))⟩])
  (.ret))))
theorem is_ref01_Same : FnIs Try.prog F.ref01_Same X.ref01_Same 26 [.tmp 4] := ⟨by kernel_rfl⟩

/-- (*haycroft/pages.Buffer).Fill: function 44 -/
abbrev F.pages_Buffer_Fill : FuncId := 44
def X.pages_Buffer_Fill : X :=
  .seq (.ops [⟨(some 6), none, .mv (.const (Go.Value.int Go.IntKind.i64 0))⟩])
  (.seq (.ops [⟨(some 10), none, .mv (.tmp 0)⟩,
    ⟨(some 11), none, .mv (.tmp 1)⟩,
    ⟨(some 12), none, .mv (.tmp 2)⟩,
    ⟨(some 13), none, .lenS (.tmp 12)⟩,
    ⟨(some 14), none, .call 76 [(.tmp 10), (.tmp 11), (.tmp 13)]⟩,
    ⟨(some 9), none, .mv (.tmp 14)⟩,
    ⟨(some 15), none, .ext (.tmp 9) 0⟩,
    ⟨(some 16), none, .ext (.tmp 9) 1⟩,
    ⟨(some 7), none, .mv (.tmp 15)⟩,
    ⟨(some 8), none, .mv (.tmp 16)⟩])
  (.seq (.seq (.ops [⟨(some 17), none, .mv (.tmp 8)⟩,
    ⟨(some 18), none, .bin .neq 31 (.tmp 17) (.const (Go.Value.int Go.IntKind.i64 0))⟩])
  (.cond (.tmp 18)
    (.seq (.ops [⟨(some 19), none, .mv (.tmp 8)⟩,
      ⟨(some 6), none, .mv (.tmp 19)⟩])
    (.ret))
    (.skip)))
  (.seq (.ops [⟨(some 20), none, .mv (.tmp 0)⟩,
    ⟨(some 21), none, .nilc (.tmp 20)⟩,
    ⟨(some 22), none, .fld (.tmp 21) 1⟩,
    ⟨(some 23), none, .ld (.tmp 22) none⟩,
    ⟨(some 24), none, .mv (.tmp 7)⟩,
    ⟨(some 25), none, .mv (.tmp 2)⟩,
    ⟨(some 26), none, .call 71 [(.tmp 23), (.tmp 24), (.tmp 25)]⟩,
    ⟨(some 6), none, .mv (.tmp 26)⟩])
  (.ret))))
theorem is_pages_Buffer_Fill : FnIs Try.prog F.pages_Buffer_Fill X.pages_Buffer_Fill 27 [.tmp 6] := ⟨by kernel_rfl⟩

/-- (*haycroft/pages.Buffer).Page: function 33 -/
abbrev F.pages_Buffer_Page : FuncId := 33
def X.pages_Buffer_Page : X :=
  .seq (.ops [⟨(some 4), none, .mv (.const (Go.Value.slice none 0 0))⟩,
    ⟨(some 5), none, .mv (.const (Go.Value.int Go.IntKind.i64 0))⟩])
  (.seq (.block 0 (.seq (.ops [⟨(some 8), none, .mv (.tmp 0)⟩,
      ⟨(some 9), none, .eq false .ptr (.tmp 8) (.const (Go.Value.pointer none))⟩,
      ⟨(some 7), none, .mv (.tmp 9)⟩])
    (.cond (.tmp 7)
      (.seq (.ops [⟨(some 4), none, .mv (.const (Go.Value.slice none 0 0))⟩,
        ⟨(some 5), none, .mv (.const (Go.Value.int Go.IntKind.i64 2))⟩])
      (.ret))
      (.seq (.ops [⟨(some 11), none, .mv (.tmp 0)⟩,
        ⟨(some 12), none, .mv (.tmp 1)⟩,
        ⟨(some 13), none, .call 36 [(.tmp 11), (.tmp 12)]⟩,
        ⟨(some 14), none, .un .not (.tmp 13)⟩,
        ⟨(some 10), none, .mv (.tmp 14)⟩])
      (.cond (.tmp 10)
        (.seq (.ops [⟨(some 4), none, .mv (.const (Go.Value.slice none 0 0))⟩,
          ⟨(some 5), none, .mv (.const (Go.Value.int Go.IntKind.i64 7))⟩])
        (.ret))
        (.skip))))))
  (.seq (.ops [⟨(some 15), none, .mv (.tmp 0)⟩,
    ⟨(some 16), none, .nilc (.tmp 15)⟩,
    ⟨(some 17), none, .fld (.tmp 16) 0⟩,
    ⟨(some 18), none, .ld (.tmp 17) none⟩,
    ⟨(some 19), none, .call 62 [(.tmp 18)]⟩,
    ⟨(some 6), none, .mv (.tmp 19)⟩])
  (.seq (.drawn [(0, ⟨(some 20), none, .mv (.tmp 0)⟩),
    (1, ⟨(some 21), none, .nilc (.tmp 20)⟩),
    (2, ⟨(some 22), none, .fld (.tmp 21) 1⟩),
    (3, ⟨(some 23), none, .ld (.tmp 22) none⟩),
    (4, ⟨(some 24), none, .mv (.tmp 0)⟩),
    (5, ⟨(some 25), none, .mv (.tmp 1)⟩),
    (7, ⟨(some 27), none, .mv (.tmp 6)⟩),
    (9, ⟨(some 29), none, .mv (.tmp 6)⟩),
    (6, ⟨(some 26), none, .call 68 [(.tmp 24), (.tmp 25)]⟩),
    (8, ⟨(some 28), none, .bin .mul 3 (.tmp 26) (.tmp 27)⟩),
    (10, ⟨(some 30), none, .call 73 [(.tmp 23), (.tmp 28), (.tmp 29)]⟩),
    (11, ⟨(some 31), none, .ext (.tmp 30) 0⟩),
    (12, ⟨(some 32), none, .ext (.tmp 30) 1⟩),
    (13, ⟨(some 4), none, .mv (.tmp 31)⟩),
    (14, ⟨(some 5), none, .mv (.tmp 32)⟩)]
    [[], [0], [1], [2], [], [], [4, 5], [], [6, 7], [], [3, 8, 9, 6], [10], [10], [11, 10, 0, 1, 2, 3, 4, 5, 6, 7, 8, 9, 10, 11, 12], [12, 13, 0, 1, 2, 3, 4, 5, 6, 7, 8, 9, 10, 11, 12, 13]]
    [0, 1, 3, 7, 0, 0, 48, 0, 240, 0, 1023, 2047, 2047, 8191, 16383] 1088)
  (.ret))))
theorem is_pages_Buffer_Page : FnIs Try.prog F.pages_Buffer_Page X.pages_Buffer_Page 33 [.tmp 4, .tmp 5] := ⟨by kernel_rfl⟩

-- loop (inner ones first): [1, 5, 7, 8, 9, 18, 19]
/-- haycroft/haycroftlaw12.does: function 29 -/
abbrev F.law12_does : FuncId := 29
def X.law12_does : X :=
  .seq (.ops [⟨(some 5), none, .box 68 (.tmp 2)⟩,
    ⟨(some 6), none, .mv (.const (Go.Value.bool false))⟩])
  (.seq (.ops [⟨(some 24), none, .mv (.tmp 1)⟩,
    ⟨(some 25), none, .fld (.tmp 5) 2⟩,
    ⟨(some 26), none, .ld (.tmp 25) none⟩,
    ⟨(some 27), none, .call 63 [(.tmp 24), (.tmp 26), (.const (Go.Value.int Go.IntKind.i64 1))]⟩,
    ⟨(some 23), none, .mv (.tmp 27)⟩,
    ⟨(some 28), none, .ext (.tmp 23) 0⟩,
    ⟨(some 29), none, .ext (.tmp 23) 1⟩,
    ⟨(some 30), none, .ext (.tmp 23) 2⟩,
    ⟨(some 7), none, .mv (.tmp 28)⟩,
    ⟨(some 8), none, .mv (.tmp 29)⟩,
    ⟨(some 9), none, .mv (.tmp 30)⟩])
  (.seq (.seq (.ops [⟨(some 31), none, .fld (.tmp 5) 0⟩,
    ⟨(some 32), none, .ld (.tmp 31) none⟩])
  (.block 0 (.seq (.ops [⟨(some 34), none, .bin .eql 3 (.tmp 32) (.const (Go.Value.int Go.IntKind.i64 1))⟩,
      ⟨(some 33), none, .mv (.tmp 34)⟩])
    (.cond (.tmp 33)
      (.seq (.drawn [(0, ⟨(some 35), none, .mv (.tmp 0)⟩),
        (1, ⟨(some 36), none, .fld (.tmp 5) 1⟩),
        (2, ⟨(some 37), none, .ld (.tmp 36) none⟩),
        (4, ⟨(some 39), none, .mv (.tmp 1)⟩),
        (5, ⟨(some 40), none, .fld (.tmp 5) 1⟩),
        (6, ⟨(some 41), none, .ld (.tmp 40) none⟩),
        (3, ⟨(some 38), none, .call 31 [(.tmp 35), (.tmp 37)]⟩),
        (7, ⟨(some 42), none, .call 64 [(.tmp 39), (.tmp 41)]⟩),
        (8, ⟨(some 43), none, .bin .eql 31 (.tmp 38) (.tmp 42)⟩),
        (9, ⟨(some 6), none, .mv (.tmp 43)⟩)]
        [[], [], [1], [0, 2], [], [], [5], [4, 6, 3], [3, 7], [8, 7, 0, 1, 2, 3, 4, 5, 6, 7, 8]]
        [0, 0, 2, 7, 0, 0, 32, 127, 255, 511] 136)
      (.ret))
      (.seq (.ops [⟨(some 45), none, .bin .eql 3 (.tmp 32) (.const (Go.Value.int Go.IntKind.i64 2))⟩,
        ⟨(some 44), none, .mv (.tmp 45)⟩])
      (.cond (.tmp 44)
        (.seq (.drawn [(0, ⟨(some 46), none, .mv (.tmp 0)⟩),
          (1, ⟨(some 47), none, .fld (.tmp 5) 1⟩),
          (2, ⟨(some 48), none, .ld (.tmp 47) none⟩),
          (4, ⟨(some 50), none, .mv (.tmp 1)⟩),
          (5, ⟨(some 51), none, .fld (.tmp 5) 1⟩),
          (6, ⟨(some 52), none, .ld (.tmp 51) none⟩),
          (3, ⟨(some 49), none, .call 32 [(.tmp 46), (.tmp 48)]⟩),
          (7, ⟨(some 53), none, .call 65 [(.tmp 50), (.tmp 52)]⟩),
          (8, ⟨(some 54), none, .bin .eql 31 (.tmp 49) (.tmp 53)⟩),
          (9, ⟨(some 6), none, .mv (.tmp 54)⟩)]
          [[], [], [1], [0, 2], [], [], [5], [4, 6, 3], [3, 7], [8, 7, 0, 1, 2, 3, 4, 5, 6, 7, 8]]
          [0, 0, 2, 7, 0, 0, 32, 127, 255, 511] 136)
        (.ret))
        (.seq (.ops [⟨(some 56), none, .bin .eql 3 (.tmp 32) (.const (Go.Value.int Go.IntKind.i64 3))⟩,
          ⟨(some 55), none, .mv (.tmp 56)⟩])
        (.cond (.tmp 55)
          (.seq (.ops [⟨(some 58), none, .mv (.tmp 0)⟩,
            ⟨(some 59), none, .fld (.tmp 5) 2⟩,
            ⟨(some 60), none, .ld (.tmp 59) none⟩,
            ⟨(some 61), none, .call 40 [(.tmp 58), (.tmp 60)]⟩,
            ⟨(some 57), none, .mv (.tmp 61)⟩,
            ⟨(some 62), none, .ext (.tmp 57) 0⟩,
            ⟨(some 63), none, .ext (.tmp 57) 1⟩,
            ⟨(some 10), none, .mv (.tmp 62)⟩,
            ⟨(some 11), none, .mv (.tmp 63)⟩])
          (.seq (.seq (.ops [⟨(some 64), none, .mv (.tmp 9)⟩,
            ⟨(some 65), none, .bin .neq 31 (.tmp 64) (.const (Go.Value.int Go.IntKind.i64 0))⟩])
          (.cond (.tmp 65)
            (.seq (.ops [⟨(some 66), none, .mv (.tmp 10)⟩,
              ⟨(some 67), none, .bin .eql 65 (.tmp 66) (.const (Go.Value.int Go.IntKind.u64 0))⟩,
              ⟨(some 68), none, .mv (.tmp 67)⟩,
              ⟨(some 69), (some (68, true)), .mv (.tmp 11)⟩,
              ⟨(some 70), (some (68, true)), .mv (.tmp 9)⟩,
              ⟨(some 71), (some (68, true)), .bin .eql 31 (.tmp 69) (.tmp 70)⟩,
              ⟨(some 72), none, .pick (.tmp 68) (.tmp 71) (.const (Go.Value.bool false))⟩,
              ⟨(some 6), none, .mv (.tmp 72)⟩])
            (.ret))
            (.skip)))
          (.seq (.ops [⟨(some 73), none, .mv (.tmp 10)⟩,
            ⟨(some 74), none, .mv (.tmp 1)⟩,
            ⟨(some 75), none, .nilc (.tmp 74)⟩,
            ⟨(some 76), none, .fld (.tmp 75) 2⟩,
            ⟨(some 77), none, .ld (.tmp 76) none⟩,
            ⟨(some 78), none, .mv (.tmp 7)⟩,
            ⟨(some 79), none, .idx (.tmp 77) (.tmp 78) 2⟩,
            ⟨(some 80), none, .fld (.tmp 79) 1⟩,
            ⟨(some 81), none, .ld (.tmp 80) none⟩,
            ⟨(some 82), none, .mv (.tmp 8)⟩,
            ⟨(some 83), none, .idx (.tmp 81) (.tmp 82) 1⟩,
            ⟨(some 84), none, .ld (.tmp 83) none⟩,
            ⟨(some 85), none, .bin .eql 65 (.tmp 73) (.tmp 84)⟩,
            ⟨(some 86), none, .mv (.tmp 85)⟩,
            ⟨(some 87), (some (86, true)), .mv (.tmp 11)⟩,
            ⟨(some 88), (some (86, true)), .bin .eql 31 (.tmp 87) (.const (Go.Value.int Go.IntKind.i64 0))⟩,
            ⟨(some 89), none, .pick (.tmp 86) (.tmp 88) (.const (Go.Value.bool false))⟩,
            ⟨(some 6), none, .mv (.tmp 89)⟩])
          (.ret))))
          (.seq (.ops [⟨(some 91), none, .bin .eql 3 (.tmp 32) (.const (Go.Value.int Go.IntKind.i64 4))⟩,
            ⟨(some 90), none, .mv (.tmp 91)⟩])
          (.cond (.tmp 90)
            (.seq (.ops [⟨(some 92), none, .mv (.tmp 0)⟩,
              ⟨(some 93), none, .fld (.tmp 5) 2⟩,
              ⟨(some 94), none, .ld (.tmp 93) none⟩,
              ⟨(some 95), none, .fld (.tmp 5) 5⟩,
              ⟨(some 96), none, .ld (.tmp 95) none⟩,
              ⟨(some 97), none, .call 43 [(.tmp 92), (.tmp 94), (.tmp 96)]⟩,
              ⟨(some 12), none, .mv (.tmp 97)⟩])
            (.seq (.seq (.ops [⟨(some 98), none, .mv (.tmp 9)⟩,
              ⟨(some 99), none, .bin .eql 31 (.tmp 98) (.const (Go.Value.int Go.IntKind.i64 0))⟩])
            (.cond (.tmp 99)
              (.drawn [(0, ⟨(some 100), none, .mv (.tmp 1)⟩),
                (1, ⟨(some 101), none, .nilc (.tmp 100)⟩),
                (2, ⟨(some 102), none, .fld (.tmp 101) 2⟩),
                (3, ⟨(some 103), none, .ld (.tmp 102) none⟩),
                (4, ⟨(some 104), none, .mv (.tmp 7)⟩),
                (5, ⟨(some 105), none, .idx (.tmp 103) (.tmp 104) 2⟩),
                (6, ⟨(some 106), none, .fld (.tmp 105) 1⟩),
                (7, ⟨(some 107), none, .ld (.tmp 106) none⟩),
                (8, ⟨(some 108), none, .mv (.tmp 8)⟩),
                (9, ⟨(some 109), none, .fld (.tmp 5) 5⟩),
                (10, ⟨(some 110), none, .ld (.tmp 109) none⟩),
                (11, ⟨(some 111), none, .idx (.tmp 107) (.tmp 108) 1⟩),
                (12, ⟨none, none, .st (.tmp 111) (.tmp 110) 1⟩)]
                [[], [0], [1], [2], [], [3, 4], [5], [6], [], [], [9], [7, 8, 0, 1, 2, 3, 4, 5, 6, 7, 8, 9, 10], [11, 10, 0, 1, 2, 3, 4, 5, 6, 7, 8, 9, 10]]
                [0, 1, 3, 7, 0, 31, 63, 127, 0, 0, 512, 2047, 4095] 4096)
              (.skip)))
            (.seq (.ops [⟨(some 112), none, .mv (.tmp 12)⟩,
              ⟨(some 113), none, .mv (.tmp 9)⟩,
              ⟨(some 114), none, .bin .eql 31 (.tmp 112) (.tmp 113)⟩,
              ⟨(some 6), none, .mv (.tmp 114)⟩])
            (.ret))))
            (.seq (.ops [⟨(some 116), none, .bin .eql 3 (.tmp 32) (.const (Go.Value.int Go.IntKind.i64 5))⟩,
              ⟨(some 115), none, .mv (.tmp 116)⟩])
            (.cond (.tmp 115)
              (.seq (.ops [⟨(some 118), none, .mv (.tmp 0)⟩,
                ⟨(some 119), none, .fld (.tmp 5) 2⟩,
                ⟨(some 120), none, .ld (.tmp 119) none⟩,
                ⟨(some 121), none, .fld (.tmp 5) 4⟩,
                ⟨(some 122), none, .ld (.tmp 121) none⟩,
                ⟨(some 123), none, .fld (.tmp 5) 5⟩,
                ⟨(some 124), none, .ld (.tmp 123) none⟩,
                ⟨(some 125), none, .call 41 [(.tmp 118), (.tmp 120), (.tmp 122), (.tmp 124)]⟩,
                ⟨(some 117), none, .mv (.tmp 125)⟩,
                ⟨(some 126), none, .ext (.tmp 117) 0⟩,
                ⟨(some 127), none, .ext (.tmp 117) 1⟩,
                ⟨(some 13), none, .mv (.tmp 126)⟩,
                ⟨(some 14), none, .mv (.tmp 127)⟩])
              (.seq (.seq (.ops [⟨(some 128), none, .mv (.tmp 9)⟩,
                ⟨(some 129), none, .bin .neq 31 (.tmp 128) (.const (Go.Value.int Go.IntKind.i64 0))⟩])
              (.cond (.tmp 129)
                (.seq (.ops [⟨(some 130), none, .mv (.tmp 13)⟩,
                  ⟨(some 131), none, .un .not (.tmp 130)⟩,
                  ⟨(some 132), none, .mv (.tmp 131)⟩,
                  ⟨(some 133), (some (132, true)), .mv (.tmp 14)⟩,
                  ⟨(some 134), (some (132, true)), .mv (.tmp 9)⟩,
                  ⟨(some 135), (some (132, true)), .bin .eql 31 (.tmp 133) (.tmp 134)⟩,
                  ⟨(some 136), none, .pick (.tmp 132) (.tmp 135) (.const (Go.Value.bool false))⟩,
                  ⟨(some 6), none, .mv (.tmp 136)⟩])
                (.ret))
                (.skip)))
              (.seq (.drawn [(0, ⟨(some 137), none, .mv (.tmp 1)⟩),
                (1, ⟨(some 138), none, .nilc (.tmp 137)⟩),
                (2, ⟨(some 139), none, .fld (.tmp 138) 2⟩),
                (3, ⟨(some 140), none, .ld (.tmp 139) none⟩),
                (4, ⟨(some 141), none, .mv (.tmp 7)⟩),
                (5, ⟨(some 142), none, .idx (.tmp 140) (.tmp 141) 2⟩),
                (6, ⟨(some 143), none, .fld (.tmp 142) 1⟩),
                (7, ⟨(some 144), none, .ld (.tmp 143) none⟩),
                (8, ⟨(some 145), none, .mv (.tmp 8)⟩),
                (9, ⟨(some 146), none, .idx (.tmp 144) (.tmp 145) 1⟩),
                (10, ⟨(some 147), none, .ld (.tmp 146) none⟩),
                (11, ⟨(some 148), none, .fld (.tmp 5) 4⟩),
                (12, ⟨(some 149), none, .ld (.tmp 148) none⟩),
                (13, ⟨(some 150), none, .bin .eql 65 (.tmp 147) (.tmp 149)⟩),
                (14, ⟨(some 15), none, .mv (.tmp 150)⟩)]
                [[], [0], [1], [2], [], [3, 4], [5], [6], [], [7, 8], [9], [], [11], [10, 12], [13, 0, 1, 2, 3, 4, 5, 6, 7, 8, 9, 10, 11, 12, 13]]
                [0, 1, 3, 7, 0, 31, 63, 127, 0, 511, 1023, 0, 2048, 8191, 16383] 0)
              (.seq (.seq (.ops [⟨(some 151), none, .mv (.tmp 15)⟩])
              (.cond (.tmp 151)
                (.drawn [(0, ⟨(some 152), none, .mv (.tmp 1)⟩),
                  (1, ⟨(some 153), none, .nilc (.tmp 152)⟩),
                  (2, ⟨(some 154), none, .fld (.tmp 153) 2⟩),
                  (3, ⟨(some 155), none, .ld (.tmp 154) none⟩),
                  (4, ⟨(some 156), none, .mv (.tmp 7)⟩),
                  (5, ⟨(some 157), none, .idx (.tmp 155) (.tmp 156) 2⟩),
                  (6, ⟨(some 158), none, .fld (.tmp 157) 1⟩),
                  (7, ⟨(some 159), none, .ld (.tmp 158) none⟩),
                  (8, ⟨(some 160), none, .mv (.tmp 8)⟩),
                  (9, ⟨(some 161), none, .fld (.tmp 5) 5⟩),
                  (10, ⟨(some 162), none, .ld (.tmp 161) none⟩),
                  (11, ⟨(some 163), none, .idx (.tmp 159) (.tmp 160) 1⟩),
                  (12, ⟨none, none, .st (.tmp 163) (.tmp 162) 1⟩)]
                  [[], [0], [1], [2], [], [3, 4], [5], [6], [], [], [9], [7, 8, 0, 1, 2, 3, 4, 5, 6, 7, 8, 9, 10], [11, 10, 0, 1, 2, 3, 4, 5, 6, 7, 8, 9, 10]]
                  [0, 1, 3, 7, 0, 31, 63, 127, 0, 0, 512, 2047, 4095] 4096)
                (.skip)))
              (.seq (.ops [⟨(some 164), none, .mv (.tmp 13)⟩,
                ⟨(some 165), none, .mv (.tmp 15)⟩,
                ⟨(some 166), none, .eq false .bool (.tmp 164) (.tmp 165)⟩,
                ⟨(some 167), none, .mv (.tmp 166)⟩,
                ⟨(some 168), (some (167, true)), .mv (.tmp 14)⟩,
                ⟨(some 169), (some (167, true)), .bin .eql 31 (.tmp 168) (.const (Go.Value.int Go.IntKind.i64 0))⟩,
                ⟨(some 170), none, .pick (.tmp 167) (.tmp 169) (.const (Go.Value.bool false))⟩,
                ⟨(some 6), none, .mv (.tmp 170)⟩])
              (.ret))))))
              (.seq (.ops [⟨(some 172), none, .bin .eql 3 (.tmp 32) (.const (Go.Value.int Go.IntKind.i64 6))⟩,
                ⟨(some 171), none, .mv (.tmp 172)⟩])
              (.cond (.tmp 171)
                (.seq (.ops [⟨(some 174), none, .mv (.tmp 1)⟩,
                  ⟨(some 175), none, .fld (.tmp 5) 2⟩,
                  ⟨(some 176), none, .ld (.tmp 175) none⟩,
                  ⟨(some 177), none, .fld (.tmp 5) 3⟩,
                  ⟨(some 178), none, .ld (.tmp 177) none⟩,
                  ⟨(some 179), none, .call 63 [(.tmp 174), (.tmp 176), (.tmp 178)]⟩,
                  ⟨(some 173), none, .mv (.tmp 179)⟩,
                  ⟨(some 180), none, .ext (.tmp 173) 0⟩,
                  ⟨(some 181), none, .ext (.tmp 173) 1⟩,
                  ⟨(some 182), none, .ext (.tmp 173) 2⟩,
                  ⟨(some 7), none, .mv (.tmp 180)⟩,
                  ⟨(some 8), none, .mv (.tmp 181)⟩,
                  ⟨(some 9), none, .mv (.tmp 182)⟩])
                (.seq (.ops [⟨(some 184), none, .mv (.tmp 0)⟩,
                  ⟨(some 185), none, .fld (.tmp 5) 2⟩,
                  ⟨(some 186), none, .ld (.tmp 185) none⟩,
                  ⟨(some 187), none, .fld (.tmp 5) 3⟩,
                  ⟨(some 188), none, .ld (.tmp 187) none⟩,
                  ⟨(some 189), none, .call 42 [(.tmp 184), (.tmp 186), (.tmp 188)]⟩,
                  ⟨(some 183), none, .mv (.tmp 189)⟩,
                  ⟨(some 190), none, .ext (.tmp 183) 0⟩,
                  ⟨(some 191), none, .ext (.tmp 183) 1⟩,
                  ⟨(some 16), none, .mv (.tmp 190)⟩,
                  ⟨(some 17), none, .mv (.tmp 191)⟩])
                (.seq (.seq (.ops [⟨(some 192), none, .mv (.tmp 9)⟩,
                  ⟨(some 193), none, .bin .neq 31 (.tmp 192) (.const (Go.Value.int Go.IntKind.i64 0))⟩])
                (.cond (.tmp 193)
                  (.seq (.ops [⟨(some 194), none, .mv (.tmp 16)⟩,
                    ⟨(some 195), none, .lenS (.tmp 194)⟩,
                    ⟨(some 196), none, .bin .eql 3 (.tmp 195) (.const (Go.Value.int Go.IntKind.i64 0))⟩,
                    ⟨(some 197), none, .mv (.tmp 196)⟩,
                    ⟨(some 198), (some (197, true)), .mv (.tmp 17)⟩,
                    ⟨(some 199), (some (197, true)), .mv (.tmp 9)⟩,
                    ⟨(some 200), (some (197, true)), .bin .eql 31 (.tmp 198) (.tmp 199)⟩,
                    ⟨(some 201), none, .pick (.tmp 197) (.tmp 200) (.const (Go.Value.bool false))⟩,
                    ⟨(some 6), none, .mv (.tmp 201)⟩])
                  (.ret))
                  (.skip)))
                (.seq (.drawn [(0, ⟨(some 202), none, .mv (.tmp 16)⟩),
                  (1, ⟨(some 203), none, .mv (.tmp 1)⟩),
                  (2, ⟨(some 204), none, .nilc (.tmp 203)⟩),
                  (3, ⟨(some 205), none, .fld (.tmp 204) 2⟩),
                  (4, ⟨(some 206), none, .ld (.tmp 205) none⟩),
                  (5, ⟨(some 207), none, .mv (.tmp 7)⟩),
                  (6, ⟨(some 208), none, .idx (.tmp 206) (.tmp 207) 2⟩),
                  (7, ⟨(some 209), none, .fld (.tmp 208) 1⟩),
                  (8, ⟨(some 210), none, .ld (.tmp 209) none⟩),
                  (9, ⟨(some 211), none, .mv (.tmp 8)⟩),
                  (10, ⟨(some 212), none, .mv (.tmp 8)⟩),
                  (11, ⟨(some 213), none, .fld (.tmp 5) 3⟩),
                  (12, ⟨(some 214), none, .ld (.tmp 213) none⟩),
                  (13, ⟨(some 215), none, .bin .add 3 (.tmp 212) (.tmp 214)⟩),
                  (14, ⟨(some 216), none, .slc 1 (.tmp 210) (some (.tmp 211)) (some (.tmp 215))⟩),
                  (15, ⟨(some 217), none, .call 34 [(.tmp 202), (.tmp 216)]⟩),
                  (16, ⟨(some 218), none, .mv (.tmp 217)⟩),
                  (17, ⟨(some 219), (some (218, true)), .mv (.tmp 17)⟩),
                  (18, ⟨(some 220), (some (218, true)), .bin .eql 31 (.tmp 219) (.const (Go.Value.int Go.IntKind.i64 0))⟩),
                  (19, ⟨(some 221), none, .pick (.tmp 218) (.tmp 220) (.const (Go.Value.bool false))⟩),
                  (20, ⟨(some 6), none, .mv (.tmp 221)⟩)]
                  [[], [], [1], [2], [3], [], [4, 5], [6], [7], [], [], [], [11], [10, 12], [8, 9, 13], [0, 14], [15, 15], [16], [17, 16], [16, 18], [19, 16, 0, 1, 2, 3, 4, 5, 6, 7, 8, 9, 10, 11, 12, 13, 14, 15, 16, 17, 18, 19]]
                  [0, 0, 2, 6, 14, 0, 62, 126, 254, 0, 0, 0, 2048, 7168, 16382, 32767, 65535, 131071, 262143, 524287, 1048575] 32768)
                (.ret)))))
                (.seq (.ops [⟨(some 223), none, .bin .eql 3 (.tmp 32) (.const (Go.Value.int Go.IntKind.i64 7))⟩,
                  ⟨(some 222), none, .mv (.tmp 223)⟩])
                (.cond (.tmp 222)
                  (.seq (.seq (.ops [⟨(some 224), none, .fld (.tmp 5) 6⟩,
                    ⟨(some 225), none, .ld (.tmp 224) none⟩,
                    ⟨(some 226), none, .lenS (.tmp 225)⟩,
                    ⟨(some 227), none, .bin .gtr 3 (.tmp 226) (.const (Go.Value.int Go.IntKind.i64 600))⟩])
                  (.cond (.tmp 227)
                    (.seq (.ops [⟨(some 6), none, .mv (.const (Go.Value.bool true))⟩])
                    (.ret))
                    (.skip)))
                  (.seq (.ops [⟨(some 229), none, .mv (.tmp 1)⟩,
                    ⟨(some 230), none, .fld (.tmp 5) 2⟩,
                    ⟨(some 231), none, .ld (.tmp 230) none⟩,
                    ⟨(some 232), none, .fld (.tmp 5) 6⟩,
                    ⟨(some 233), none, .ld (.tmp 232) none⟩,
                    ⟨(some 234), none, .lenS (.tmp 233)⟩,
                    ⟨(some 235), none, .call 63 [(.tmp 229), (.tmp 231), (.tmp 234)]⟩,
                    ⟨(some 228), none, .mv (.tmp 235)⟩,
                    ⟨(some 236), none, .ext (.tmp 228) 0⟩,
                    ⟨(some 237), none, .ext (.tmp 228) 1⟩,
                    ⟨(some 238), none, .ext (.tmp 228) 2⟩,
                    ⟨(some 7), none, .mv (.tmp 236)⟩,
                    ⟨(some 8), none, .mv (.tmp 237)⟩,
                    ⟨(some 9), none, .mv (.tmp 238)⟩])
                  (.seq (.ops [⟨(some 239), none, .mv (.tmp 0)⟩,
                    ⟨(some 240), none, .fld (.tmp 5) 2⟩,
                    ⟨(some 241), none, .ld (.tmp 240) none⟩,
                    ⟨(some 242), none, .fld (.tmp 5) 6⟩,
                    ⟨(some 243), none, .ld (.tmp 242) none⟩,
                    ⟨(some 244), none, .call 44 [(.tmp 239), (.tmp 241), (.tmp 243)]⟩,
                    ⟨(some 18), none, .mv (.tmp 244)⟩])
                  (.seq (.seq (.ops [⟨(some 19), none, .mv (.const (Go.Value.int Go.IntKind.i64 0))⟩])
                  (.block 1 (.loop (.seq (.seq (.ops [⟨(some 245), none, .mv (.tmp 19)⟩,
                        ⟨(some 246), none, .fld (.tmp 5) 6⟩,
                        ⟨(some 247), none, .ld (.tmp 246) none⟩,
                        ⟨(some 248), none, .lenS (.tmp 247)⟩,
                        ⟨(some 249), none, .bin .lss 3 (.tmp 245) (.tmp 248)⟩,
                        ⟨(some 250), none, .mv (.tmp 249)⟩,
                        ⟨(some 251), (some (250, true)), .mv (.tmp 9)⟩,
                        ⟨(some 252), (some (250, true)), .bin .eql 31 (.tmp 251) (.const (Go.Value.int Go.IntKind.i64 0))⟩,
                        ⟨(some 253), none, .pick (.tmp 250) (.tmp 252) (.const (Go.Value.bool false))⟩])
                      (.cond (.tmp 253)
                        (.skip)
                        (.exit 1)))
                      (.seq (.block 2 (.drawn [(0, ⟨(some 256), none, .mv (.tmp 1)⟩),
                          (1, ⟨(some 257), none, .nilc (.tmp 256)⟩),
                          (2, ⟨(some 258), none, .fld (.tmp 257) 2⟩),
                          (3, ⟨(some 259), none, .ld (.tmp 258) none⟩),
                          (4, ⟨(some 260), none, .mv (.tmp 7)⟩),
                          (5, ⟨(some 261), none, .idx (.tmp 259) (.tmp 260) 2⟩),
                          (6, ⟨(some 262), none, .fld (.tmp 261) 1⟩),
                          (7, ⟨(some 263), none, .ld (.tmp 262) none⟩),
                          (8, ⟨(some 264), none, .mv (.tmp 8)⟩),
                          (9, ⟨(some 265), none, .mv (.tmp 19)⟩),
                          (10, ⟨(some 266), none, .bin .add 3 (.tmp 264) (.tmp 265)⟩),
                          (11, ⟨(some 267), none, .fld (.tmp 5) 6⟩),
                          (12, ⟨(some 268), none, .ld (.tmp 267) none⟩),
                          (13, ⟨(some 269), none, .mv (.tmp 19)⟩),
                          (14, ⟨(some 270), none, .idx (.tmp 268) (.tmp 269) 1⟩),
                          (15, ⟨(some 271), none, .ld (.tmp 270) none⟩),
                          (16, ⟨(some 272), none, .idx (.tmp 263) (.tmp 266) 1⟩),
                          (17, ⟨none, none, .st (.tmp 272) (.tmp 271) 1⟩)]
                          [[], [0], [1], [2], [], [3, 4], [5], [6], [], [], [8, 9], [], [11], [], [12, 13], [14], [7, 10, 0, 1, 2, 3, 4, 5, 6, 7, 8, 9, 10, 11, 12, 13, 14, 15], [16, 15, 0, 1, 2, 3, 4, 5, 6, 7, 8, 9, 10, 11, 12, 13, 14, 15]]
                          [0, 1, 3, 7, 0, 31, 63, 127, 0, 0, 768, 0, 2048, 0, 14336, 30720, 65535, 131071] 131072))
                      (.ops [⟨(some 254), none, .mv (.tmp 19)⟩,
                        ⟨(some 255), none, .bin .add 3 (.tmp 254) (.const (Go.Value.int Go.IntKind.i64 1))⟩,
                        ⟨(some 19), none, .mv (.tmp 255)⟩]))))))
                  (.seq (.ops [⟨(some 273), none, .mv (.tmp 18)⟩,
                    ⟨(some 274), none, .mv (.tmp 9)⟩,
                    ⟨(some 275), none, .bin .eql 31 (.tmp 273) (.tmp 274)⟩,
                    ⟨(some 6), none, .mv (.tmp 275)⟩])
                  (.ret))))))
                  (.seq (.ops [⟨(some 277), none, .bin .eql 3 (.tmp 32) (.const (Go.Value.int Go.IntKind.i64 8))⟩,
                    ⟨(some 276), none, .mv (.tmp 277)⟩])
                  (.cond (.tmp 276)
                    (.seq (.ops [⟨(some 279), none, .mv (.tmp 0)⟩,
                      ⟨(some 280), none, .fld (.tmp 5) 1⟩,
                      ⟨(some 281), none, .ld (.tmp 280) none⟩,
                      ⟨(some 282), none, .call 33 [(.tmp 279), (.tmp 281)]⟩,
                      ⟨(some 278), none, .mv (.tmp 282)⟩,
                      ⟨(some 283), none, .ext (.tmp 278) 0⟩,
                      ⟨(some 284), none, .ext (.tmp 278) 1⟩,
                      ⟨(some 20), none, .mv (.tmp 283)⟩,
                      ⟨(some 21), none, .mv (.tmp 284)⟩])
                    (.seq (.ops [⟨(some 285), none, .mv (.tmp 1)⟩,
                      ⟨(some 286), none, .fld (.tmp 5) 1⟩,
                      ⟨(some 287), none, .ld (.tmp 286) none⟩,
                      ⟨(some 288), none, .call 37 [(.tmp 285), (.tmp 287)]⟩,
                      ⟨(some 22), none, .mv (.tmp 288)⟩])
                    (.seq (.seq (.ops [⟨(some 289), none, .mv (.tmp 22)⟩,
                      ⟨(some 290), none, .bin .lss 3 (.tmp 289) (.const (Go.Value.int Go.IntKind.i64 0))⟩])
                    (.cond (.tmp 290)
                      (.seq (.ops [⟨(some 291), none, .mv (.tmp 20)⟩,
                        ⟨(some 292), none, .lenS (.tmp 291)⟩,
                        ⟨(some 293), none, .bin .eql 3 (.tmp 292) (.const (Go.Value.int Go.IntKind.i64 0))⟩,
                        ⟨(some 294), none, .mv (.tmp 293)⟩,
                        ⟨(some 295), (some (294, true)), .mv (.tmp 21)⟩,
                        ⟨(some 296), (some (294, true)), .bin .eql 31 (.tmp 295) (.const (Go.Value.int Go.IntKind.i64 7))⟩,
                        ⟨(some 297), none, .pick (.tmp 294) (.tmp 296) (.const (Go.Value.bool false))⟩,
                        ⟨(some 6), none, .mv (.tmp 297)⟩])
                      (.ret))
                      (.skip)))
                    (.seq (.ops [⟨(some 298), none, .mv (.tmp 20)⟩,
                      ⟨(some 299), none, .mv (.tmp 1)⟩,
                      ⟨(some 300), none, .nilc (.tmp 299)⟩,
                      ⟨(some 301), none, .fld (.tmp 300) 2⟩,
                      ⟨(some 302), none, .ld (.tmp 301) none⟩,
                      ⟨(some 303), none, .mv (.tmp 22)⟩,
                      ⟨(some 304), none, .idx (.tmp 302) (.tmp 303) 2⟩,
                      ⟨(some 305), none, .fld (.tmp 304) 1⟩,
                      ⟨(some 306), none, .ld (.tmp 305) none⟩,
                      ⟨(some 307), none, .call 34 [(.tmp 298), (.tmp 306)]⟩,
                      ⟨(some 308), none, .mv (.tmp 307)⟩,
                      ⟨(some 309), (some (308, true)), .mv (.tmp 21)⟩,
                      ⟨(some 310), (some (308, true)), .bin .eql 31 (.tmp 309) (.const (Go.Value.int Go.IntKind.i64 0))⟩,
                      ⟨(some 311), none, .pick (.tmp 308) (.tmp 310) (.const (Go.Value.bool false))⟩,
                      ⟨(some 6), none, .mv (.tmp 311)⟩])
                    (.ret)))))
                    (.skip)))))))))))))))))))
  (.seq (.ops [⟨(some 6), none, .mv (.const (Go.Value.bool true))⟩])
  (.ret))))
theorem is_law12_does : FnIs Try.prog F.law12_does X.law12_does 312 [.tmp 6] := ⟨by kernel_rfl⟩

/-- (*haycroft/pages.Buffer).Frames: function 39 -/
abbrev F.pages_Buffer_Frames : FuncId := 39
def X.pages_Buffer_Frames : X :=
  .seq (.ops [⟨(some 2), none, .mv (.const (Go.Value.int Go.IntKind.i64 0))⟩])
  (.seq (.seq (.ops [⟨(some 3), none, .mv (.tmp 0)⟩,
    ⟨(some 4), none, .eq false .ptr (.tmp 3) (.const (Go.Value.pointer none))⟩])
  (.cond (.tmp 4)
    (.seq (.ops [⟨(some 2), none, .mv (.const (Go.Value.int Go.IntKind.i64 0))⟩])
    (.ret))
    (.skip)))
  (.seq (.ops [⟨(some 5), none, .mv (.tmp 0)⟩,
    ⟨(some 6), none, .nilc (.tmp 5)⟩,
    ⟨(some 7), none, .fld (.tmp 6) 2⟩,
    ⟨(some 8), none, .ld (.tmp 7) none⟩,
    ⟨(some 9), none, .call 74 [(.tmp 8)]⟩,
    ⟨(some 2), none, .mv (.tmp 9)⟩])
  (.ret)))
theorem is_pages_Buffer_Frames : FnIs Try.prog F.pages_Buffer_Frames X.pages_Buffer_Frames 10 [.tmp 2] := ⟨by kernel_rfl⟩

/-- math/bits.Len32: function 124 -/
abbrev F.math_bits_Len32 : FuncId := 124
def X.math_bits_Len32 : X :=
  .seq (.ops [⟨(some 2), none, .mv (.const (Go.Value.int Go.IntKind.i64 0))⟩])
  (.seq (.seq (.ops [⟨(some 3), none, .mv (.tmp 0)⟩,
    ⟨(some 4), none, .bin .geq 184 (.tmp 3) (.const (Go.Value.int Go.IntKind.u32 65536))⟩])
  (.cond (.tmp 4)
    (.seq (.ops [⟨(some 5), none, .mv (.tmp 0)⟩,
      ⟨(some 6), none, .bin .shr 184 (.tmp 5) (.const (Go.Value.int Go.IntKind.u64 16))⟩,
      ⟨(some 0), none, .mv (.tmp 6)⟩])
    (.ops [⟨(some 2), none, .mv (.const (Go.Value.int Go.IntKind.i64 16))⟩]))
    (.skip)))
  (.seq (.seq (.ops [⟨(some 7), none, .mv (.tmp 0)⟩,
    ⟨(some 8), none, .bin .geq 184 (.tmp 7) (.const (Go.Value.int Go.IntKind.u32 256))⟩])
  (.cond (.tmp 8)
    (.seq (.ops [⟨(some 9), none, .mv (.tmp 0)⟩,
      ⟨(some 10), none, .bin .shr 184 (.tmp 9) (.const (Go.Value.int Go.IntKind.u64 8))⟩,
      ⟨(some 0), none, .mv (.tmp 10)⟩])
    (.ops [⟨(some 11), none, .mv (.tmp 2)⟩,
      ⟨(some 12), none, .bin .add 3 (.tmp 11) (.const (Go.Value.int Go.IntKind.i64 8))⟩,
      ⟨(some 2), none, .mv (.tmp 12)⟩]))
    (.skip)))
  (.seq (.ops [⟨(some 13), none, .mv (.tmp 2)⟩,
    ⟨(some 14), none, .mv (.tmp 0)⟩,
    ⟨(some 15), none, .conv Go.IntKind.u8 (.tmp 14)⟩,
    ⟨(some 16), none, .ixs (.const (Go.Value.string { data := #[0, 1, 2, 2, 3, 3, 3, 3, 4, 4, 4, 4, 4, 4, 4, 4, 5, 5, 5, 5, 5, 5, 5, 5, 5, 5, 5, 5, 5, 5, 5, 5, 6, 6, 6, 6, 6, 6, 6, 6, 6, 6, 6, 6, 6, 6, 6, 6, 6, 6, 6, 6, 6, 6, 6, 6, 6, 6, 6, 6, 6, 6, 6, 6, 7, 7, 7, 7, 7, 7, 7, 7, 7, 7, 7, 7, 7, 7, 7, 7, 7, 7, 7, 7, 7, 7, 7, 7, 7, 7, 7, 7, 7, 7, 7, 7, 7, 7, 7, 7, 7, 7, 7, 7, 7, 7, 7, 7, 7, 7, 7, 7, 7, 7, 7, 7, 7, 7, 7, 7, 7, 7, 7, 7, 7, 7, 7, 7, 8, 8, 8, 8, 8, 8, 8, 8, 8, 8, 8, 8, 8, 8, 8, 8, 8, 8, 8, 8, 8, 8, 8, 8, 8, 8, 8, 8, 8, 8, 8, 8, 8, 8, 8, 8, 8, 8, 8, 8, 8, 8, 8, 8, 8, 8, 8, 8, 8, 8, 8, 8, 8, 8, 8, 8, 8, 8, 8, 8, 8, 8, 8, 8, 8, 8, 8, 8, 8, 8, 8, 8, 8, 8, 8, 8, 8, 8, 8, 8, 8, 8, 8, 8, 8, 8, 8, 8, 8, 8, 8, 8, 8, 8, 8, 8, 8, 8, 8, 8, 8, 8, 8, 8, 8, 8, 8, 8, 8, 8, 8, 8, 8, 8, 8, 8, 8, 8, 8, 8, 8, 8, 8, 8, 8, 8, 8, 8] })) (.tmp 15)⟩,
    ⟨(some 17), none, .conv Go.IntKind.i64 (.tmp 16)⟩,
    ⟨(some 18), none, .bin .add 3 (.tmp 13) (.tmp 17)⟩,
    ⟨(some 2), none, .mv (.tmp 18)⟩])
  (.ret))))
theorem is_math_bits_Len32 : FnIs Try.prog F.math_bits_Len32 X.math_bits_Len32 19 [.tmp 2] := ⟨by kernel_rfl⟩

/-- math/bits.Len64: function 125 -/
abbrev F.math_bits_Len64 : FuncId := 125
def X.math_bits_Len64 : X :=
  .seq (.ops [⟨(some 2), none, .mv (.const (Go.Value.int Go.IntKind.i64 0))⟩])
  (.seq (.seq (.ops [⟨(some 3), none, .mv (.tmp 0)⟩,
    ⟨(some 4), none, .bin .geq 65 (.tmp 3) (.const (Go.Value.int Go.IntKind.u64 4294967296))⟩])
  (.cond (.tmp 4)
    (.seq (.ops [⟨(some 5), none, .mv (.tmp 0)⟩,
      ⟨(some 6), none, .bin .shr 65 (.tmp 5) (.const (Go.Value.int Go.IntKind.u64 32))⟩,
      ⟨(some 0), none, .mv (.tmp 6)⟩])
    (.ops [⟨(some 2), none, .mv (.const (Go.Value.int Go.IntKind.i64 32))⟩]))
    (.skip)))
  (.seq (.seq (.ops [⟨(some 7), none, .mv (.tmp 0)⟩,
    ⟨(some 8), none, .bin .geq 65 (.tmp 7) (.const (Go.Value.int Go.IntKind.u64 65536))⟩])
  (.cond (.tmp 8)
    (.seq (.ops [⟨(some 9), none, .mv (.tmp 0)⟩,
      ⟨(some 10), none, .bin .shr 65 (.tmp 9) (.const (Go.Value.int Go.IntKind.u64 16))⟩,
      ⟨(some 0), none, .mv (.tmp 10)⟩])
    (.ops [⟨(some 11), none, .mv (.tmp 2)⟩,
      ⟨(some 12), none, .bin .add 3 (.tmp 11) (.const (Go.Value.int Go.IntKind.i64 16))⟩,
      ⟨(some 2), none, .mv (.tmp 12)⟩]))
    (.skip)))
  (.seq (.seq (.ops [⟨(some 13), none, .mv (.tmp 0)⟩,
    ⟨(some 14), none, .bin .geq 65 (.tmp 13) (.const (Go.Value.int Go.IntKind.u64 256))⟩])
  (.cond (.tmp 14)
    (.seq (.ops [⟨(some 15), none, .mv (.tmp 0)⟩,
      ⟨(some 16), none, .bin .shr 65 (.tmp 15) (.const (Go.Value.int Go.IntKind.u64 8))⟩,
      ⟨(some 0), none, .mv (.tmp 16)⟩])
    (.ops [⟨(some 17), none, .mv (.tmp 2)⟩,
      ⟨(some 18), none, .bin .add 3 (.tmp 17) (.const (Go.Value.int Go.IntKind.i64 8))⟩,
      ⟨(some 2), none, .mv (.tmp 18)⟩]))
    (.skip)))
  (.seq (.ops [⟨(some 19), none, .mv (.tmp 2)⟩,
    ⟨(some 20), none, .mv (.tmp 0)⟩,
    ⟨(some 21), none, .conv Go.IntKind.u8 (.tmp 20)⟩,
    ⟨(some 22), none, .ixs (.const (Go.Value.string { data := #[0, 1, 2, 2, 3, 3, 3, 3, 4, 4, 4, 4, 4, 4, 4, 4, 5, 5, 5, 5, 5, 5, 5, 5, 5, 5, 5, 5, 5, 5, 5, 5, 6, 6, 6, 6, 6, 6, 6, 6, 6, 6, 6, 6, 6, 6, 6, 6, 6, 6, 6, 6, 6, 6, 6, 6, 6, 6, 6, 6, 6, 6, 6, 6, 7, 7, 7, 7, 7, 7, 7, 7, 7, 7, 7, 7, 7, 7, 7, 7, 7, 7, 7, 7, 7, 7, 7, 7, 7, 7, 7, 7, 7, 7, 7, 7, 7, 7, 7, 7, 7, 7, 7, 7, 7, 7, 7, 7, 7, 7, 7, 7, 7, 7, 7, 7, 7, 7, 7, 7, 7, 7, 7, 7, 7, 7, 7, 7, 8, 8, 8, 8, 8, 8, 8, 8, 8, 8, 8, 8, 8, 8, 8, 8, 8, 8, 8, 8, 8, 8, 8, 8, 8, 8, 8, 8, 8, 8, 8, 8, 8, 8, 8, 8, 8, 8, 8, 8, 8, 8, 8, 8, 8, 8, 8, 8, 8, 8, 8, 8, 8, 8, 8, 8, 8, 8, 8, 8, 8, 8, 8, 8, 8, 8, 8, 8, 8, 8, 8, 8, 8, 8, 8, 8, 8, 8, 8, 8, 8, 8, 8, 8, 8, 8, 8, 8, 8, 8, 8, 8, 8, 8, 8, 8, 8, 8, 8, 8, 8, 8, 8, 8, 8, 8, 8, 8, 8, 8, 8, 8, 8, 8, 8, 8, 8, 8, 8, 8, 8, 8, 8, 8, 8, 8, 8, 8] })) (.tmp 21)⟩,
    ⟨(some 23), none, .conv Go.IntKind.i64 (.tmp 22)⟩,
    ⟨(some 24), none, .bin .add 3 (.tmp 19) (.tmp 23)⟩,
    ⟨(some 2), none, .mv (.tmp 24)⟩])
  (.ret)))))
theorem is_math_bits_Len64 : FnIs Try.prog F.math_bits_Len64 X.math_bits_Len64 25 [.tmp 2] := ⟨by kernel_rfl⟩

/-- math/bits.Len: function 98 -/
abbrev F.math_bits_Len : FuncId := 98
def X.math_bits_Len : X :=
  .seq (.ops [⟨(some 2), none, .mv (.const (Go.Value.int Go.IntKind.i64 0))⟩])
  (.seq (.cond (.const (Go.Value.bool false))
    (.seq (.ops [⟨(some 3), none, .mv (.tmp 0)⟩,
      ⟨(some 4), none, .conv Go.IntKind.u32 (.tmp 3)⟩,
      ⟨(some 5), none, .call 124 [(.tmp 4)]⟩,
      ⟨(some 2), none, .mv (.tmp 5)⟩])
    (.ret))
    (.skip))
  (.seq (.ops [⟨(some 6), none, .mv (.tmp 0)⟩,
    ⟨(some 7), none, .call 125 [(.tmp 6)]⟩,
    ⟨(some 2), none, .mv (.tmp 7)⟩])
  (.ret)))
theorem is_math_bits_Len : FnIs Try.prog F.math_bits_Len X.math_bits_Len 8 [.tmp 2] := ⟨by kernel_rfl⟩

/-- cmp.isNaN[int]: function 91 -/
abbrev F.cmp_isNaN_int : FuncId := 91
def X.cmp_isNaN_int : X :=
  .seq (.ops [⟨(some 2), none, .mv (.const (Go.Value.bool false))⟩])
  (.seq (.ops [⟨(some 3), none, .mv (.tmp 0)⟩,
    ⟨(some 4), none, .mv (.tmp 0)⟩,
    ⟨(some 5), none, .bin .neq 3 (.tmp 3) (.tmp 4)⟩,
    ⟨(some 2), none, .mv (.tmp 5)⟩])
  (.ret))
theorem is_cmp_isNaN_int : FnIs Try.prog F.cmp_isNaN_int X.cmp_isNaN_int 6 [.tmp 2] := ⟨by kernel_rfl⟩

/-- cmp.Less[int]: function 121 -/
abbrev F.cmp_Less_int : FuncId := 121
def X.cmp_Less_int : X :=
  .seq (.ops [⟨(some 4), none, .mv (.const (Go.Value.bool false))⟩])
  (.seq (.ops [⟨(some 5), none, .mv (.tmp 0)⟩,
    ⟨(some 6), none, .call 91 [(.tmp 5)]⟩,
    ⟨(some 7), none, .mv (.tmp 6)⟩,
    ⟨(some 8), (some (7, true)), .mv (.tmp 1)⟩,
    ⟨(some 9), (some (7, true)), .call 91 [(.tmp 8)]⟩,
    ⟨(some 10), (some (7, true)), .un .not (.tmp 9)⟩,
    ⟨(some 11), none, .pick (.tmp 7) (.tmp 10) (.const (Go.Value.bool false))⟩,
    ⟨(some 12), none, .mv (.tmp 11)⟩,
    ⟨(some 13), (some (12, false)), .mv (.tmp 0)⟩,
    ⟨(some 14), (some (12, false)), .mv (.tmp 1)⟩,
    ⟨(some 15), (some (12, false)), .bin .lss 3 (.tmp 13) (.tmp 14)⟩,
    ⟨(some 16), none, .pick (.tmp 12) (.const (Go.Value.bool true)) (.tmp 15)⟩,
    ⟨(some 4), none, .mv (.tmp 16)⟩])
  (.ret))
theorem is_cmp_Less_int : FnIs Try.prog F.cmp_Less_int X.cmp_Less_int 17 [.tmp 4] := ⟨by kernel_rfl⟩

-- loop (inner ones first): [0, 1, 2, 6, 7]
-- loop (inner ones first): [0, 1, 2, 6]
/-- slices.insertionSortOrdered[int]: function 115 -/
abbrev F.slices_insertionSortOrdered_int : FuncId := 115
def X.slices_insertionSortOrdered_int : X :=
  .seq (.ops [⟨(some 8), none, .mv (.tmp 1)⟩,
    ⟨(some 9), none, .bin .add 3 (.tmp 8) (.const (Go.Value.int Go.IntKind.i64 1))⟩,
    ⟨(some 6), none, .mv (.tmp 9)⟩])
  (.block 0 (.loop (.seq (.seq (.ops [⟨(some 10), none, .mv (.tmp 6)⟩,
        ⟨(some 11), none, .mv (.tmp 2)⟩,
        ⟨(some 12), none, .bin .lss 3 (.tmp 10) (.tmp 11)⟩])
      (.cond (.tmp 12)
        (.skip)
        (.exit 0)))
      (.seq (.block 1 (.seq (.ops [⟨(some 15), none, .mv (.tmp 6)⟩,
          ⟨(some 7), none, .mv (.tmp 15)⟩])
        (.block 2 (.loop (.seq (.seq (.drawn [(0, ⟨(some 16), none, .mv (.tmp 7)⟩),
              (1, ⟨(some 17), none, .mv (.tmp 1)⟩),
              (2, ⟨(some 18), none, .bin .gtr 3 (.tmp 16) (.tmp 17)⟩),
              (3, ⟨(some 19), none, .mv (.tmp 18)⟩),
              (4, ⟨(some 20), (some (19, true)), .mv (.tmp 0)⟩),
              (5, ⟨(some 21), (some (19, true)), .mv (.tmp 7)⟩),
              (6, ⟨(some 22), (some (19, true)), .idx (.tmp 20) (.tmp 21) 1⟩),
              (7, ⟨(some 23), (some (19, true)), .ld (.tmp 22) none⟩),
              (8, ⟨(some 24), (some (19, true)), .mv (.tmp 0)⟩),
              (9, ⟨(some 25), (some (19, true)), .mv (.tmp 7)⟩),
              (10, ⟨(some 26), (some (19, true)), .bin .sub 3 (.tmp 25) (.const (Go.Value.int Go.IntKind.i64 1))⟩),
              (11, ⟨(some 27), (some (19, true)), .idx (.tmp 24) (.tmp 26) 1⟩),
              (12, ⟨(some 28), (some (19, true)), .ld (.tmp 27) none⟩),
              (13, ⟨(some 29), (some (19, true)), .call 121 [(.tmp 23), (.tmp 28)]⟩),
              (14, ⟨(some 30), none, .pick (.tmp 19) (.tmp 29) (.const (Go.Value.bool false))⟩)]
              [[], [], [0, 1], [2], [3], [3], [4, 5, 3], [6, 3], [3], [3], [9, 3], [8, 10, 3], [11, 3], [7, 12, 3, 3], [3, 13]]
              [0, 0, 3, 7, 15, 15, 63, 127, 15, 15, 527, 1807, 3855, 8191, 16383] 8192)
            (.cond (.tmp 30)
              (.skip)
              (.exit 2)))
            (.seq (.block 3 (.drawn [(0, ⟨(some 33), none, .mv (.tmp 0)⟩),
                (1, ⟨(some 34), none, .mv (.tmp 7)⟩),
                (2, ⟨(some 35), none, .mv (.tmp 0)⟩),
                (3, ⟨(some 36), none, .mv (.tmp 7)⟩),
                (4, ⟨(some 37), none, .bin .sub 3 (.tmp 36) (.const (Go.Value.int Go.IntKind.i64 1))⟩),
                (5, ⟨(some 38), none, .mv (.tmp 0)⟩),
                (6, ⟨(some 39), none, .mv (.tmp 7)⟩),
                (7, ⟨(some 40), none, .bin .sub 3 (.tmp 39) (.const (Go.Value.int Go.IntKind.i64 1))⟩),
                (8, ⟨(some 41), none, .idx (.tmp 38) (.tmp 40) 1⟩),
                (9, ⟨(some 42), none, .ld (.tmp 41) none⟩),
                (10, ⟨(some 43), none, .mv (.tmp 0)⟩),
                (11, ⟨(some 44), none, .mv (.tmp 7)⟩),
                (12, ⟨(some 45), none, .idx (.tmp 43) (.tmp 44) 1⟩),
                (13, ⟨(some 46), none, .ld (.tmp 45) none⟩),
                (14, ⟨(some 47), none, .idx (.tmp 33) (.tmp 34) 1⟩),
                (15, ⟨none, none, .st (.tmp 47) (.tmp 42) 1⟩),
                (16, ⟨(some 48), none, .idx (.tmp 35) (.tmp 37) 1⟩),
                (17, ⟨none, none, .st (.tmp 48) (.tmp 46) 1⟩)]
                [[], [], [], [], [3], [], [], [6], [5, 7], [8], [], [], [10, 11], [12], [0, 1, 0, 1, 5, 6, 7, 8, 9, 13], [14, 9, 0, 1, 5, 6, 7, 8, 9, 13], [2, 4, 0, 1, 2, 3, 4, 5, 6, 7, 8, 9, 10, 11, 12, 13, 14, 15], [16, 13, 15, 0, 1, 2, 3, 4, 5, 6, 7, 8, 9, 10, 11, 12, 13, 14, 15]]
                [0, 0, 0, 0, 8, 0, 0, 64, 224, 480, 0, 0, 3072, 7168, 16355, 32739, 65535, 131071] 163840))
            (.ops [⟨(some 31), none, .mv (.tmp 7)⟩,
              ⟨(some 32), none, .bin .sub 3 (.tmp 31) (.const (Go.Value.int Go.IntKind.i64 1))⟩,
              ⟨(some 7), none, .mv (.tmp 32)⟩])))))))
      (.ops [⟨(some 13), none, .mv (.tmp 6)⟩,
        ⟨(some 14), none, .bin .add 3 (.tmp 13) (.const (Go.Value.int Go.IntKind.i64 1))⟩,
        ⟨(some 6), none, .mv (.tmp 14)⟩])))))
theorem is_slices_insertionSortOrdered_int : FnIs Try.prog F.slices_insertionSortOrdered_int X.slices_insertionSortOrdered_int 49 [] := ⟨by kernel_rfl⟩

-- loop (inner ones first): [0, 2, 3, 8]
/-- slices.siftDownOrdered[int]: function 139 -/
abbrev F.slices_siftDownOrdered_int : FuncId := 139
def X.slices_siftDownOrdered_int : X :=
  .seq (.ops [⟨(some 10), none, .mv (.tmp 1)⟩,
    ⟨(some 8), none, .mv (.tmp 10)⟩])
  (.block 0 (.loop (.block 1 (.seq (.ops [⟨(some 11), none, .mv (.tmp 8)⟩,
          ⟨(some 12), none, .bin .mul 3 (.const (Go.Value.int Go.IntKind.i64 2)) (.tmp 11)⟩,
          ⟨(some 13), none, .bin .add 3 (.tmp 12) (.const (Go.Value.int Go.IntKind.i64 1))⟩,
          ⟨(some 9), none, .mv (.tmp 13)⟩])
        (.seq (.seq (.ops [⟨(some 14), none, .mv (.tmp 9)⟩,
          ⟨(some 15), none, .mv (.tmp 2)⟩,
          ⟨(some 16), none, .bin .geq 3 (.tmp 14) (.tmp 15)⟩])
        (.cond (.tmp 16)
          (.exit 0)
          (.skip)))
        (.seq (.seq (.drawn [(0, ⟨(some 17), none, .mv (.tmp 9)⟩),
          (1, ⟨(some 18), none, .bin .add 3 (.tmp 17) (.const (Go.Value.int Go.IntKind.i64 1))⟩),
          (2, ⟨(some 19), none, .mv (.tmp 2)⟩),
          (3, ⟨(some 20), none, .bin .lss 3 (.tmp 18) (.tmp 19)⟩),
          (4, ⟨(some 21), none, .mv (.tmp 20)⟩),
          (5, ⟨(some 22), (some (21, true)), .mv (.tmp 0)⟩),
          (6, ⟨(some 23), (some (21, true)), .mv (.tmp 3)⟩),
          (7, ⟨(some 24), (some (21, true)), .mv (.tmp 9)⟩),
          (8, ⟨(some 25), (some (21, true)), .bin .add 3 (.tmp 23) (.tmp 24)⟩),
          (9, ⟨(some 26), (some (21, true)), .idx (.tmp 22) (.tmp 25) 1⟩),
          (10, ⟨(some 27), (some (21, true)), .ld (.tmp 26) none⟩),
          (11, ⟨(some 28), (some (21, true)), .mv (.tmp 0)⟩),
          (12, ⟨(some 29), (some (21, true)), .mv (.tmp 3)⟩),
          (13, ⟨(some 30), (some (21, true)), .mv (.tmp 9)⟩),
          (14, ⟨(some 31), (some (21, true)), .bin .add 3 (.tmp 29) (.tmp 30)⟩),
          (15, ⟨(some 32), (some (21, true)), .bin .add 3 (.tmp 31) (.const (Go.Value.int Go.IntKind.i64 1))⟩),
          (16, ⟨(some 33), (some (21, true)), .idx (.tmp 28) (.tmp 32) 1⟩),
          (17, ⟨(some 34), (some (21, true)), .ld (.tmp 33) none⟩),
          (18, ⟨(some 35), (some (21, true)), .call 121 [(.tmp 27), (.tmp 34)]⟩),
          (19, ⟨(some 36), none, .pick (.tmp 21) (.tmp 35) (.const (Go.Value.bool false))⟩)]
          [[], [0], [], [1, 2], [3], [4], [4], [4], [6, 7, 4], [5, 8, 4], [9, 4], [4], [4], [4], [12, 13, 4], [14, 4], [11, 15, 4], [16, 4], [10, 17, 4, 4], [4, 18]]
          [0, 1, 0, 7, 15, 31, 31, 31, 223, 511, 1023, 31, 31, 31, 12319, 28703, 63519, 129055, 262143, 524287] 262144)
        (.cond (.tmp 36)
          (.ops [⟨(some 37), none, .mv (.tmp 9)⟩,
            ⟨(some 38), none, .bin .add 3 (.tmp 37) (.const (Go.Value.int Go.IntKind.i64 1))⟩,
            ⟨(some 9), none, .mv (.tmp 38)⟩])
          (.skip)))
        (.seq (.seq (.drawn [(0, ⟨(some 39), none, .mv (.tmp 0)⟩),
          (1, ⟨(some 40), none, .mv (.tmp 3)⟩),
          (2, ⟨(some 41), none, .mv (.tmp 8)⟩),
          (3, ⟨(some 42), none, .bin .add 3 (.tmp 40) (.tmp 41)⟩),
          (4, ⟨(some 43), none, .idx (.tmp 39) (.tmp 42) 1⟩),
          (5, ⟨(some 44), none, .ld (.tmp 43) none⟩),
          (6, ⟨(some 45), none, .mv (.tmp 0)⟩),
          (7, ⟨(some 46), none, .mv (.tmp 3)⟩),
          (8, ⟨(some 47), none, .mv (.tmp 9)⟩),
          (9, ⟨(some 48), none, .bin .add 3 (.tmp 46) (.tmp 47)⟩),
          (10, ⟨(some 49), none, .idx (.tmp 45) (.tmp 48) 1⟩),
          (11, ⟨(some 50), none, .ld (.tmp 49) none⟩),
          (12, ⟨(some 51), none, .call 121 [(.tmp 44), (.tmp 50)]⟩),
          (13, ⟨(some 52), none, .un .not (.tmp 51)⟩)]
          [[], [], [], [1, 2], [0, 3], [4], [], [], [], [7, 8], [6, 9], [10], [5, 11], [12]]
          [0, 0, 0, 6, 15, 31, 0, 0, 0, 384, 960, 1984, 4095, 8191] 4096)
        (.cond (.tmp 52)
          (.ret)
          (.skip)))
        (.seq (.drawn [(0, ⟨(some 53), none, .mv (.tmp 0)⟩),
          (1, ⟨(some 54), none, .mv (.tmp 3)⟩),
          (2, ⟨(some 55), none, .mv (.tmp 8)⟩),
          (3, ⟨(some 56), none, .bin .add 3 (.tmp 54) (.tmp 55)⟩),
          (4, ⟨(some 57), none, .mv (.tmp 0)⟩),
          (5, ⟨(some 58), none, .mv (.tmp 3)⟩),
          (6, ⟨(some 59), none, .mv (.tmp 9)⟩),
          (7, ⟨(some 60), none, .bin .add 3 (.tmp 58) (.tmp 59)⟩),
          (8, ⟨(some 61), none, .mv (.tmp 0)⟩),
          (9, ⟨(some 62), none, .mv (.tmp 3)⟩),
          (10, ⟨(some 63), none, .mv (.tmp 9)⟩),
          (11, ⟨(some 64), none, .bin .add 3 (.tmp 62) (.tmp 63)⟩),
          (12, ⟨(some 65), none, .idx (.tmp 61) (.tmp 64) 1⟩),
          (13, ⟨(some 66), none, .ld (.tmp 65) none⟩),
          (14, ⟨(some 67), none, .mv (.tmp 0)⟩),
          (15, ⟨(some 68), none, .mv (.tmp 3)⟩),
          (16, ⟨(some 69), none, .mv (.tmp 8)⟩),
          (17, ⟨(some 70), none, .bin .add 3 (.tmp 68) (.tmp 69)⟩),
          (18, ⟨(some 71), none, .idx (.tmp 67) (.tmp 70) 1⟩),
          (19, ⟨(some 72), none, .ld (.tmp 71) none⟩),
          (20, ⟨(some 73), none, .idx (.tmp 53) (.tmp 56) 1⟩),
          (21, ⟨none, none, .st (.tmp 73) (.tmp 66) 1⟩),
          (22, ⟨(some 74), none, .idx (.tmp 57) (.tmp 60) 1⟩),
          (23, ⟨none, none, .st (.tmp 74) (.tmp 72) 1⟩)]
          [[], [], [], [1, 2], [], [], [], [5, 6], [], [], [], [9, 10], [8, 11], [12], [], [], [], [15, 16], [14, 17], [18], [0, 3, 0, 1, 2, 3, 8, 9, 10, 11, 12, 13, 19], [20, 13, 0, 1, 2, 3, 8, 9, 10, 11, 12, 13, 19], [4, 7, 0, 1, 2, 3, 4, 5, 6, 7, 8, 9, 10, 11, 12, 13, 14, 15, 16, 17, 18, 19, 20, 21], [22, 19, 21, 0, 1, 2, 3, 4, 5, 6, 7, 8, 9, 10, 11, 12, 13, 14, 15, 16, 17, 18, 19, 20, 21]]
          [0, 0, 0, 6, 0, 0, 0, 96, 0, 0, 0, 1536, 3840, 7936, 0, 0, 0, 98304, 245760, 507904, 1048335, 2096911, 4194303, 8388607] 10485760)
        (.ops [⟨(some 75), none, .mv (.tmp 9)⟩,
          ⟨(some 8), none, .mv (.tmp 75)⟩])))))))))
theorem is_slices_siftDownOrdered_int : FnIs Try.prog F.slices_siftDownOrdered_int X.slices_siftDownOrdered_int 76 [] := ⟨by kernel_rfl⟩

-- loop (inner ones first): [0, 6, 7, 10]
-- loop (inner ones first): [0, 6, 7, 8, 9]
/-- slices.heapSortOrdered[int]: function 116 -/
abbrev F.slices_heapSortOrdered_int : FuncId := 116
def X.slices_heapSortOrdered_int : X :=
  .seq (.ops [⟨(some 11), none, .mv (.tmp 1)⟩,
    ⟨(some 6), none, .mv (.tmp 11)⟩])
  (.seq (.ops [⟨(some 7), none, .mv (.const (Go.Value.int Go.IntKind.i64 0))⟩])
  (.seq (.ops [⟨(some 12), none, .mv (.tmp 2)⟩,
    ⟨(some 13), none, .mv (.tmp 1)⟩,
    ⟨(some 14), none, .bin .sub 3 (.tmp 12) (.tmp 13)⟩,
    ⟨(some 8), none, .mv (.tmp 14)⟩])
  (.seq (.seq (.ops [⟨(some 15), none, .mv (.tmp 8)⟩,
    ⟨(some 16), none, .bin .sub 3 (.tmp 15) (.const (Go.Value.int Go.IntKind.i64 1))⟩,
    ⟨(some 17), none, .bin .quo 3 (.tmp 16) (.const (Go.Value.int Go.IntKind.i64 2))⟩,
    ⟨(some 9), none, .mv (.tmp 17)⟩])
  (.block 0 (.loop (.seq (.seq (.ops [⟨(some 18), none, .mv (.tmp 9)⟩,
        ⟨(some 19), none, .bin .geq 3 (.tmp 18) (.const (Go.Value.int Go.IntKind.i64 0))⟩])
      (.cond (.tmp 19)
        (.skip)
        (.exit 0)))
      (.seq (.block 1 (.ops [⟨(some 22), none, .mv (.tmp 0)⟩,
          ⟨(some 23), none, .mv (.tmp 9)⟩,
          ⟨(some 24), none, .mv (.tmp 8)⟩,
          ⟨(some 25), none, .mv (.tmp 6)⟩,
          ⟨(some 26), none, .call 139 [(.tmp 22), (.tmp 23), (.tmp 24), (.tmp 25)]⟩]))
      (.ops [⟨(some 20), none, .mv (.tmp 9)⟩,
        ⟨(some 21), none, .bin .sub 3 (.tmp 20) (.const (Go.Value.int Go.IntKind.i64 1))⟩,
        ⟨(some 9), none, .mv (.tmp 21)⟩]))))))
  (.seq (.ops [⟨(some 27), none, .mv (.tmp 8)⟩,
    ⟨(some 28), none, .bin .sub 3 (.tmp 27) (.const (Go.Value.int Go.IntKind.i64 1))⟩,
    ⟨(some 10), none, .mv (.tmp 28)⟩])
  (.block 2 (.loop (.seq (.seq (.ops [⟨(some 29), none, .mv (.tmp 10)⟩,
        ⟨(some 30), none, .bin .geq 3 (.tmp 29) (.const (Go.Value.int Go.IntKind.i64 0))⟩])
      (.cond (.tmp 30)
        (.skip)
        (.exit 2)))
      (.seq (.block 3 (.seq (.drawn [(0, ⟨(some 33), none, .mv (.tmp 0)⟩),
          (1, ⟨(some 34), none, .mv (.tmp 6)⟩),
          (2, ⟨(some 35), none, .mv (.tmp 0)⟩),
          (3, ⟨(some 36), none, .mv (.tmp 6)⟩),
          (4, ⟨(some 37), none, .mv (.tmp 10)⟩),
          (5, ⟨(some 38), none, .bin .add 3 (.tmp 36) (.tmp 37)⟩),
          (6, ⟨(some 39), none, .mv (.tmp 0)⟩),
          (7, ⟨(some 40), none, .mv (.tmp 6)⟩),
          (8, ⟨(some 41), none, .mv (.tmp 10)⟩),
          (9, ⟨(some 42), none, .bin .add 3 (.tmp 40) (.tmp 41)⟩),
          (10, ⟨(some 43), none, .idx (.tmp 39) (.tmp 42) 1⟩),
          (11, ⟨(some 44), none, .ld (.tmp 43) none⟩),
          (12, ⟨(some 45), none, .mv (.tmp 0)⟩),
          (13, ⟨(some 46), none, .mv (.tmp 6)⟩),
          (14, ⟨(some 47), none, .idx (.tmp 45) (.tmp 46) 1⟩),
          (15, ⟨(some 48), none, .ld (.tmp 47) none⟩),
          (16, ⟨(some 49), none, .idx (.tmp 33) (.tmp 34) 1⟩),
          (17, ⟨none, none, .st (.tmp 49) (.tmp 44) 1⟩),
          (18, ⟨(some 50), none, .idx (.tmp 35) (.tmp 38) 1⟩),
          (19, ⟨none, none, .st (.tmp 50) (.tmp 48) 1⟩)]
          [[], [], [], [], [], [3, 4], [], [], [], [7, 8], [6, 9], [10], [], [], [12, 13], [14], [0, 1, 0, 1, 6, 7, 8, 9, 10, 11, 15], [16, 11, 0, 1, 6, 7, 8, 9, 10, 11, 15], [2, 5, 0, 1, 2, 3, 4, 5, 6, 7, 8, 9, 10, 11, 12, 13, 14, 15, 16, 17], [18, 15, 17, 0, 1, 2, 3, 4, 5, 6, 7, 8, 9, 10, 11, 12, 13, 14, 15, 16, 17]]
          [0, 0, 0, 0, 0, 24, 0, 0, 0, 384, 960, 1984, 0, 0, 12288, 28672, 65475, 131011, 262143, 524287] 655360)
        (.ops [⟨(some 51), none, .mv (.tmp 0)⟩,
          ⟨(some 52), none, .mv (.tmp 7)⟩,
          ⟨(some 53), none, .mv (.tmp 10)⟩,
          ⟨(some 54), none, .mv (.tmp 6)⟩,
          ⟨(some 55), none, .call 139 [(.tmp 51), (.tmp 52), (.tmp 53), (.tmp 54)]⟩])))
      (.ops [⟨(some 31), none, .mv (.tmp 10)⟩,
        ⟨(some 32), none, .bin .sub 3 (.tmp 31) (.const (Go.Value.int Go.IntKind.i64 1))⟩,
        ⟨(some 10), none, .mv (.tmp 32)⟩])))))))))
theorem is_slices_heapSortOrdered_int : FnIs Try.prog F.slices_heapSortOrdered_int X.slices_heapSortOrdered_int 56 [] := ⟨by kernel_rfl⟩

/-- slices.nextPowerOfTwo: function 140 -/
abbrev F.slices_nextPowerOfTwo : FuncId := 140
def X.slices_nextPowerOfTwo : X :=
  .seq (.ops [⟨(some 2), none, .mv (.const (Go.Value.int Go.IntKind.u64 0))⟩])
  (.seq (.ops [⟨(some 3), none, .mv (.tmp 0)⟩,
    ⟨(some 4), none, .conv Go.IntKind.u64 (.tmp 3)⟩,
    ⟨(some 5), none, .call 98 [(.tmp 4)]⟩,
    ⟨(some 6), none, .bin .shl 161 (.const (Go.Value.int Go.IntKind.u64 1)) (.tmp 5)⟩,
    ⟨(some 2), none, .mv (.tmp 6)⟩])
  (.ret))
theorem is_slices_nextPowerOfTwo : FnIs Try.prog F.slices_nextPowerOfTwo X.slices_nextPowerOfTwo 7 [.tmp 2] := ⟨by kernel_rfl⟩

/-- (*slices.xorshift).Next: function 141 -/
abbrev F.slices_xorshift_Next : FuncId := 141
def X.slices_xorshift_Next : X :=
  .seq (.ops [⟨(some 2), none, .mv (.const (Go.Value.int Go.IntKind.u64 0))⟩])
  (.seq (.drawn [(0, ⟨(some 3), none, .mv (.tmp 0)⟩),
    (1, ⟨(some 4), none, .nilc (.tmp 3)⟩),
    (2, ⟨(some 5), none, .ld (.tmp 4) none⟩),
    (3, ⟨(some 6), none, .mv (.tmp 0)⟩),
    (4, ⟨(some 7), none, .nilc (.tmp 6)⟩),
    (5, ⟨(some 8), none, .ld (.tmp 7) none⟩),
    (6, ⟨(some 9), none, .bin .shl 196 (.tmp 8) (.const (Go.Value.int Go.IntKind.u64 13))⟩),
    (7, ⟨(some 10), none, .bin .xor 196 (.tmp 5) (.tmp 9)⟩),
    (8, ⟨(some 11), none, .nilc (.tmp 3)⟩),
    (9, ⟨none, none, .st (.tmp 11) (.tmp 10) 1⟩)]
    [[], [0], [1], [], [3], [4], [5], [2, 6], [0, 0, 1, 2, 3, 4, 5, 6, 7], [8, 7, 0, 1, 2, 3, 4, 5, 6, 7]]
    [0, 1, 3, 0, 8, 24, 56, 127, 255, 511] 512)
  (.seq (.drawn [(0, ⟨(some 12), none, .mv (.tmp 0)⟩),
    (1, ⟨(some 13), none, .nilc (.tmp 12)⟩),
    (2, ⟨(some 14), none, .ld (.tmp 13) none⟩),
    (3, ⟨(some 15), none, .mv (.tmp 0)⟩),
    (4, ⟨(some 16), none, .nilc (.tmp 15)⟩),
    (5, ⟨(some 17), none, .ld (.tmp 16) none⟩),
    (6, ⟨(some 18), none, .bin .shr 196 (.tmp 17) (.const (Go.Value.int Go.IntKind.u64 7))⟩),
    (7, ⟨(some 19), none, .bin .xor 196 (.tmp 14) (.tmp 18)⟩),
    (8, ⟨(some 20), none, .nilc (.tmp 12)⟩),
    (9, ⟨none, none, .st (.tmp 20) (.tmp 19) 1⟩)]
    [[], [0], [1], [], [3], [4], [5], [2, 6], [0, 0, 1, 2, 3, 4, 5, 6, 7], [8, 7, 0, 1, 2, 3, 4, 5, 6, 7]]
    [0, 1, 3, 0, 8, 24, 56, 127, 255, 511] 512)
  (.seq (.drawn [(0, ⟨(some 21), none, .mv (.tmp 0)⟩),
    (1, ⟨(some 22), none, .nilc (.tmp 21)⟩),
    (2, ⟨(some 23), none, .ld (.tmp 22) none⟩),
    (3, ⟨(some 24), none, .mv (.tmp 0)⟩),
    (4, ⟨(some 25), none, .nilc (.tmp 24)⟩),
    (5, ⟨(some 26), none, .ld (.tmp 25) none⟩),
    (6, ⟨(some 27), none, .bin .shl 196 (.tmp 26) (.const (Go.Value.int Go.IntKind.u64 17))⟩),
    (7, ⟨(some 28), none, .bin .xor 196 (.tmp 23) (.tmp 27)⟩),
    (8, ⟨(some 29), none, .nilc (.tmp 21)⟩),
    (9, ⟨none, none, .st (.tmp 29) (.tmp 28) 1⟩)]
    [[], [0], [1], [], [3], [4], [5], [2, 6], [0, 0, 1, 2, 3, 4, 5, 6, 7], [8, 7, 0, 1, 2, 3, 4, 5, 6, 7]]
    [0, 1, 3, 0, 8, 24, 56, 127, 255, 511] 512)
  (.seq (.ops [⟨(some 30), none, .mv (.tmp 0)⟩,
    ⟨(some 31), none, .nilc (.tmp 30)⟩,
    ⟨(some 32), none, .ld (.tmp 31) none⟩,
    ⟨(some 2), none, .mv (.tmp 32)⟩])
  (.ret)))))
theorem is_slices_xorshift_Next : FnIs Try.prog F.slices_xorshift_Next X.slices_xorshift_Next 33 [.tmp 2] := ⟨by kernel_rfl⟩

-- loop (inner ones first): [0, 1, 6, 7, 8, 9]
/-- slices.breakPatternsOrdered[int]: function 117 -/
abbrev F.slices_breakPatternsOrdered_int : FuncId := 117
def X.slices_breakPatternsOrdered_int : X :=
  .seq (.ops [⟨(some 11), none, .mv (.tmp 2)⟩,
    ⟨(some 12), none, .mv (.tmp 1)⟩,
    ⟨(some 13), none, .bin .sub 3 (.tmp 11) (.tmp 12)⟩,
    ⟨(some 6), none, .mv (.tmp 13)⟩])
  (.seq (.ops [⟨(some 14), none, .mv (.tmp 6)⟩,
    ⟨(some 15), none, .bin .geq 3 (.tmp 14) (.const (Go.Value.int Go.IntKind.i64 8))⟩])
  (.cond (.tmp 15)
    (.seq (.ops [⟨(some 16), none, .mv (.tmp 6)⟩,
      ⟨(some 17), none, .conv Go.IntKind.u64 (.tmp 16)⟩,
      ⟨(some 7), none, .new 196 (Go.Value.int Go.IntKind.u64 0)⟩,
      ⟨none, none, .st (.tmp 7) (.tmp 17) 1⟩])
    (.seq (.ops [⟨(some 18), none, .mv (.tmp 6)⟩,
      ⟨(some 19), none, .call 140 [(.tmp 18)]⟩,
      ⟨(some 8), none, .mv (.tmp 19)⟩])
    (.seq (.ops [⟨(some 20), none, .mv (.tmp 1)⟩,
      ⟨(some 21), none, .mv (.tmp 6)⟩,
      ⟨(some 22), none, .bin .quo 3 (.tmp 21) (.const (Go.Value.int Go.IntKind.i64 4))⟩,
      ⟨(some 23), none, .bin .mul 3 (.tmp 22) (.const (Go.Value.int Go.IntKind.i64 2))⟩,
      ⟨(some 24), none, .bin .add 3 (.tmp 20) (.tmp 23)⟩,
      ⟨(some 25), none, .bin .sub 3 (.tmp 24) (.const (Go.Value.int Go.IntKind.i64 1))⟩,
      ⟨(some 9), none, .mv (.tmp 25)⟩])
    (.block 0 (.loop (.seq (.seq (.ops [⟨(some 26), none, .mv (.tmp 9)⟩,
          ⟨(some 27), none, .mv (.tmp 1)⟩,
          ⟨(some 28), none, .mv (.tmp 6)⟩,
          ⟨(some 29), none, .bin .quo 3 (.tmp 28) (.const (Go.Value.int Go.IntKind.i64 4))⟩,
          ⟨(some 30), none, .bin .mul 3 (.tmp 29) (.const (Go.Value.int Go.IntKind.i64 2))⟩,
          ⟨(some 31), none, .bin .add 3 (.tmp 27) (.tmp 30)⟩,
          ⟨(some 32), none, .bin .add 3 (.tmp 31) (.const (Go.Value.int Go.IntKind.i64 1))⟩,
          ⟨(some 33), none, .bin .leq 3 (.tmp 26) (.tmp 32)⟩])
        (.cond (.tmp 33)
          (.skip)
          (.exit 0)))
        (.seq (.block 1 (.seq (.ops [⟨(some 36), none, .call 141 [(.tmp 7)]⟩,
            ⟨(some 37), none, .mv (.tmp 8)⟩,
            ⟨(some 38), none, .bin .sub 161 (.tmp 37) (.const (Go.Value.int Go.IntKind.u64 1))⟩,
            ⟨(some 39), none, .bin .and 161 (.tmp 36) (.tmp 38)⟩,
            ⟨(some 40), none, .conv Go.IntKind.i64 (.tmp 39)⟩,
            ⟨(some 10), none, .mv (.tmp 40)⟩])
          (.seq (.seq (.ops [⟨(some 41), none, .mv (.tmp 10)⟩,
            ⟨(some 42), none, .mv (.tmp 6)⟩,
            ⟨(some 43), none, .bin .geq 3 (.tmp 41) (.tmp 42)⟩])
          (.cond (.tmp 43)
            (.ops [⟨(some 44), none, .mv (.tmp 10)⟩,
              ⟨(some 45), none, .mv (.tmp 6)⟩,
              ⟨(some 46), none, .bin .sub 3 (.tmp 44) (.tmp 45)⟩,
              ⟨(some 10), none, .mv (.tmp 46)⟩])
            (.skip)))
          (.drawn [(0, ⟨(some 47), none, .mv (.tmp 0)⟩),
            (1, ⟨(some 48), none, .mv (.tmp 9)⟩),
            (2, ⟨(some 49), none, .mv (.tmp 0)⟩),
            (3, ⟨(some 50), none, .mv (.tmp 1)⟩),
            (4, ⟨(some 51), none, .mv (.tmp 10)⟩),
            (5, ⟨(some 52), none, .bin .add 3 (.tmp 50) (.tmp 51)⟩),
            (6, ⟨(some 53), none, .mv (.tmp 0)⟩),
            (7, ⟨(some 54), none, .mv (.tmp 1)⟩),
            (8, ⟨(some 55), none, .mv (.tmp 10)⟩),
            (9, ⟨(some 56), none, .bin .add 3 (.tmp 54) (.tmp 55)⟩),
            (10, ⟨(some 57), none, .idx (.tmp 53) (.tmp 56) 1⟩),
            (11, ⟨(some 58), none, .ld (.tmp 57) none⟩),
            (12, ⟨(some 59), none, .mv (.tmp 0)⟩),
            (13, ⟨(some 60), none, .mv (.tmp 9)⟩),
            (14, ⟨(some 61), none, .idx (.tmp 59) (.tmp 60) 1⟩),
            (15, ⟨(some 62), none, .ld (.tmp 61) none⟩),
            (16, ⟨(some 63), none, .idx (.tmp 47) (.tmp 48) 1⟩),
            (17, ⟨none, none, .st (.tmp 63) (.tmp 58) 1⟩),
            (18, ⟨(some 64), none, .idx (.tmp 49) (.tmp 52) 1⟩),
            (19, ⟨none, none, .st (.tmp 64) (.tmp 62) 1⟩)]
            [[], [], [], [], [], [3, 4], [], [], [], [7, 8], [6, 9], [10], [], [], [12, 13], [14], [0, 1, 0, 1, 6, 7, 8, 9, 10, 11, 15], [16, 11, 0, 1, 6, 7, 8, 9, 10, 11, 15], [2, 5, 0, 1, 2, 3, 4, 5, 6, 7, 8, 9, 10, 11, 12, 13, 14, 15, 16, 17], [18, 15, 17, 0, 1, 2, 3, 4, 5, 6, 7, 8, 9, 10, 11, 12, 13, 14, 15, 16, 17]]
            [0, 0, 0, 0, 0, 24, 0, 0, 0, 384, 960, 1984, 0, 0, 12288, 28672, 65475, 131011, 262143, 524287] 655360))))
        (.ops [⟨(some 34), none, .mv (.tmp 9)⟩,
          ⟨(some 35), none, .bin .add 3 (.tmp 34) (.const (Go.Value.int Go.IntKind.i64 1))⟩,
          ⟨(some 9), none, .mv (.tmp 35)⟩]))))))))
    (.skip)))
theorem is_slices_breakPatternsOrdered_int : FnIs Try.prog F.slices_breakPatternsOrdered_int X.slices_breakPatternsOrdered_int 65 [] := ⟨by kernel_rfl⟩

/-- slices.order2Ordered[int]: function 148 -/
abbrev F.slices_order2Ordered_int : FuncId := 148
def X.slices_order2Ordered_int : X :=
  .seq (.ops [⟨(some 8), none, .mv (.const (Go.Value.int Go.IntKind.i64 0))⟩,
    ⟨(some 9), none, .mv (.const (Go.Value.int Go.IntKind.i64 0))⟩])
  (.seq (.seq (.drawn [(0, ⟨(some 10), none, .mv (.tmp 0)⟩),
    (1, ⟨(some 11), none, .mv (.tmp 2)⟩),
    (2, ⟨(some 12), none, .idx (.tmp 10) (.tmp 11) 1⟩),
    (3, ⟨(some 13), none, .ld (.tmp 12) none⟩),
    (4, ⟨(some 14), none, .mv (.tmp 0)⟩),
    (5, ⟨(some 15), none, .mv (.tmp 1)⟩),
    (6, ⟨(some 16), none, .idx (.tmp 14) (.tmp 15) 1⟩),
    (7, ⟨(some 17), none, .ld (.tmp 16) none⟩),
    (8, ⟨(some 18), none, .call 121 [(.tmp 13), (.tmp 17)]⟩)]
    [[], [], [0, 1], [2], [], [], [4, 5], [6], [3, 7]]
    [0, 0, 3, 7, 0, 0, 48, 112, 255] 256)
  (.cond (.tmp 18)
    (.seq (.ops [⟨(some 19), none, .mv (.tmp 3)⟩,
      ⟨(some 20), none, .nilc (.tmp 19)⟩,
      ⟨(some 21), none, .ld (.tmp 20) none⟩,
      ⟨(some 22), none, .bin .add 3 (.tmp 21) (.const (Go.Value.int Go.IntKind.i64 1))⟩,
      ⟨(some 23), none, .nilc (.tmp 19)⟩,
      ⟨none, none, .st (.tmp 23) (.tmp 22) 1⟩])
    (.seq (.ops [⟨(some 24), none, .mv (.tmp 2)⟩,
      ⟨(some 25), none, .mv (.tmp 1)⟩,
      ⟨(some 8), none, .mv (.tmp 24)⟩,
      ⟨(some 9), none, .mv (.tmp 25)⟩])
    (.ret)))
    (.skip)))
  (.seq (.ops [⟨(some 26), none, .mv (.tmp 1)⟩,
    ⟨(some 27), none, .mv (.tmp 2)⟩,
    ⟨(some 8), none, .mv (.tmp 26)⟩,
    ⟨(some 9), none, .mv (.tmp 27)⟩])
  (.ret)))
theorem is_slices_order2Ordered_int : FnIs Try.prog F.slices_order2Ordered_int X.slices_order2Ordered_int 28 [.tmp 8, .tmp 9] := ⟨by kernel_rfl⟩

/-- slices.medianOrdered[int]: function 143 -/
abbrev F.slices_medianOrdered_int : FuncId := 143
def X.slices_medianOrdered_int : X :=
  .seq (.ops [⟨(some 10), none, .mv (.const (Go.Value.int Go.IntKind.i64 0))⟩])
  (.seq (.ops [⟨(some 12), none, .mv (.tmp 0)⟩,
    ⟨(some 13), none, .mv (.tmp 1)⟩,
    ⟨(some 14), none, .mv (.tmp 2)⟩,
    ⟨(some 15), none, .mv (.tmp 4)⟩,
    ⟨(some 16), none, .call 148 [(.tmp 12), (.tmp 13), (.tmp 14), (.tmp 15)]⟩,
    ⟨(some 11), none, .mv (.tmp 16)⟩,
    ⟨(some 17), none, .ext (.tmp 11) 0⟩,
    ⟨(some 18), none, .ext (.tmp 11) 1⟩,
    ⟨(some 1), none, .mv (.tmp 17)⟩,
    ⟨(some 2), none, .mv (.tmp 18)⟩])
  (.seq (.ops [⟨(some 20), none, .mv (.tmp 0)⟩,
    ⟨(some 21), none, .mv (.tmp 2)⟩,
    ⟨(some 22), none, .mv (.tmp 3)⟩,
    ⟨(some 23), none, .mv (.tmp 4)⟩,
    ⟨(some 24), none, .call 148 [(.tmp 20), (.tmp 21), (.tmp 22), (.tmp 23)]⟩,
    ⟨(some 19), none, .mv (.tmp 24)⟩,
    ⟨(some 25), none, .ext (.tmp 19) 0⟩,
    ⟨(some 26), none, .ext (.tmp 19) 1⟩,
    ⟨(some 2), none, .mv (.tmp 25)⟩,
    ⟨(some 3), none, .mv (.tmp 26)⟩])
  (.seq (.ops [⟨(some 28), none, .mv (.tmp 0)⟩,
    ⟨(some 29), none, .mv (.tmp 1)⟩,
    ⟨(some 30), none, .mv (.tmp 2)⟩,
    ⟨(some 31), none, .mv (.tmp 4)⟩,
    ⟨(some 32), none, .call 148 [(.tmp 28), (.tmp 29), (.tmp 30), (.tmp 31)]⟩,
    ⟨(some 27), none, .mv (.tmp 32)⟩,
    ⟨(some 33), none, .ext (.tmp 27) 0⟩,
    ⟨(some 34), none, .ext (.tmp 27) 1⟩,
    ⟨(some 1), none, .mv (.tmp 33)⟩,
    ⟨(some 2), none, .mv (.tmp 34)⟩])
  (.seq (.ops [⟨(some 35), none, .mv (.tmp 2)⟩,
    ⟨(some 10), none, .mv (.tmp 35)⟩])
  (.ret)))))
theorem is_slices_medianOrdered_int : FnIs Try.prog F.slices_medianOrdered_int X.slices_medianOrdered_int 36 [.tmp 10] := ⟨by kernel_rfl⟩

/-- slices.medianAdjacentOrdered[int]: function 142 -/
abbrev F.slices_medianAdjacentOrdered_int : FuncId := 142
def X.slices_medianAdjacentOrdered_int : X :=
  .seq (.ops [⟨(some 6), none, .mv (.const (Go.Value.int Go.IntKind.i64 0))⟩])
  (.seq (.ops [⟨(some 7), none, .mv (.tmp 0)⟩,
    ⟨(some 8), none, .mv (.tmp 1)⟩,
    ⟨(some 9), none, .bin .sub 3 (.tmp 8) (.const (Go.Value.int Go.IntKind.i64 1))⟩,
    ⟨(some 10), none, .mv (.tmp 1)⟩,
    ⟨(some 11), none, .mv (.tmp 1)⟩,
    ⟨(some 12), none, .bin .add 3 (.tmp 11) (.const (Go.Value.int Go.IntKind.i64 1))⟩,
    ⟨(some 13), none, .mv (.tmp 2)⟩,
    ⟨(some 14), none, .call 143 [(.tmp 7), (.tmp 9), (.tmp 10), (.tmp 12), (.tmp 13)]⟩,
    ⟨(some 6), none, .mv (.tmp 14)⟩])
  (.ret))
theorem is_slices_medianAdjacentOrdered_int : FnIs Try.prog F.slices_medianAdjacentOrdered_int X.slices_medianAdjacentOrdered_int 15 [.tmp 6] := ⟨by kernel_rfl⟩

/-- slices.choosePivotOrdered[int]: function 118 -/
abbrev F.slices_choosePivotOrdered_int : FuncId := 118
def X.slices_choosePivotOrdered_int : X :=
  .seq (.ops [⟨(some 6), none, .mv (.const (Go.Value.int Go.IntKind.i64 0))⟩,
    ⟨(some 7), none, .mv (.const (Go.Value.int Go.IntKind.i64 0))⟩])
  (.seq (.ops [⟨(some 13), none, .mv (.tmp 2)⟩,
    ⟨(some 14), none, .mv (.tmp 1)⟩,
    ⟨(some 15), none, .bin .sub 3 (.tmp 13) (.tmp 14)⟩,
    ⟨(some 8), none, .mv (.tmp 15)⟩])
  (.seq (.ops [⟨(some 9), none, .new 3 (Go.Value.int Go.IntKind.i64 0)⟩])
  (.seq (.ops [⟨(some 16), none, .mv (.tmp 1)⟩,
    ⟨(some 17), none, .mv (.tmp 8)⟩,
    ⟨(some 18), none, .bin .quo 3 (.tmp 17) (.const (Go.Value.int Go.IntKind.i64 4))⟩,
    ⟨(some 19), none, .bin .mul 3 (.tmp 18) (.const (Go.Value.int Go.IntKind.i64 1))⟩,
    ⟨(some 20), none, .bin .add 3 (.tmp 16) (.tmp 19)⟩,
    ⟨(some 10), none, .mv (.tmp 20)⟩])
  (.seq (.ops [⟨(some 21), none, .mv (.tmp 1)⟩,
    ⟨(some 22), none, .mv (.tmp 8)⟩,
    ⟨(some 23), none, .bin .quo 3 (.tmp 22) (.const (Go.Value.int Go.IntKind.i64 4))⟩,
    ⟨(some 24), none, .bin .mul 3 (.tmp 23) (.const (Go.Value.int Go.IntKind.i64 2))⟩,
    ⟨(some 25), none, .bin .add 3 (.tmp 21) (.tmp 24)⟩,
    ⟨(some 11), none, .mv (.tmp 25)⟩])
  (.seq (.ops [⟨(some 26), none, .mv (.tmp 1)⟩,
    ⟨(some 27), none, .mv (.tmp 8)⟩,
    ⟨(some 28), none, .bin .quo 3 (.tmp 27) (.const (Go.Value.int Go.IntKind.i64 4))⟩,
    ⟨(some 29), none, .bin .mul 3 (.tmp 28) (.const (Go.Value.int Go.IntKind.i64 3))⟩,
    ⟨(some 30), none, .bin .add 3 (.tmp 26) (.tmp 29)⟩,
    ⟨(some 12), none, .mv (.tmp 30)⟩])
  (.seq (.seq (.ops [⟨(some 31), none, .mv (.tmp 8)⟩,
    ⟨(some 32), none, .bin .geq 3 (.tmp 31) (.const (Go.Value.int Go.IntKind.i64 8))⟩])
  (.cond (.tmp 32)
    (.seq (.seq (.ops [⟨(some 33), none, .mv (.tmp 8)⟩,
      ⟨(some 34), none, .bin .geq 3 (.tmp 33) (.const (Go.Value.int Go.IntKind.i64 50))⟩])
    (.cond (.tmp 34)
      (.seq (.ops [⟨(some 35), none, .mv (.tmp 0)⟩,
        ⟨(some 36), none, .mv (.tmp 10)⟩,
        ⟨(some 37), none, .call 142 [(.tmp 35), (.tmp 36), (.tmp 9)]⟩,
        ⟨(some 10), none, .mv (.tmp 37)⟩])
      (.seq (.ops [⟨(some 38), none, .mv (.tmp 0)⟩,
        ⟨(some 39), none, .mv (.tmp 11)⟩,
        ⟨(some 40), none, .call 142 [(.tmp 38), (.tmp 39), (.tmp 9)]⟩,
        ⟨(some 11), none, .mv (.tmp 40)⟩])
      (.ops [⟨(some 41), none, .mv (.tmp 0)⟩,
        ⟨(some 42), none, .mv (.tmp 12)⟩,
        ⟨(some 43), none, .call 142 [(.tmp 41), (.tmp 42), (.tmp 9)]⟩,
        ⟨(some 12), none, .mv (.tmp 43)⟩])))
      (.skip)))
    (.ops [⟨(some 44), none, .mv (.tmp 0)⟩,
      ⟨(some 45), none, .mv (.tmp 10)⟩,
      ⟨(some 46), none, .mv (.tmp 11)⟩,
      ⟨(some 47), none, .mv (.tmp 12)⟩,
      ⟨(some 48), none, .call 143 [(.tmp 44), (.tmp 45), (.tmp 46), (.tmp 47), (.tmp 9)]⟩,
      ⟨(some 11), none, .mv (.tmp 48)⟩]))
    (.skip)))
  (.seq (.ops [⟨(some 49), none, .ld (.tmp 9) none⟩])
  (.block 0 (.seq (.ops [⟨(some 52), none, .bin .eql 3 (.tmp 49) (.const (Go.Value.int Go.IntKind.i64 0))⟩,
      ⟨(some 51), none, .mv (.tmp 52)⟩])
    (.cond (.tmp 51)
      (.seq (.ops [⟨(some 53), none, .mv (.tmp 11)⟩,
        ⟨(some 6), none, .mv (.tmp 53)⟩,
        ⟨(some 7), none, .mv (.const (Go.Value.int Go.IntKind.i64 1))⟩])
      (.ret))
      (.seq (.ops [⟨(some 55), none, .bin .eql 3 (.tmp 49) (.const (Go.Value.int Go.IntKind.i64 12))⟩,
        ⟨(some 54), none, .mv (.tmp 55)⟩])
      (.cond (.tmp 54)
        (.seq (.ops [⟨(some 56), none, .mv (.tmp 11)⟩,
          ⟨(some 6), none, .mv (.tmp 56)⟩,
          ⟨(some 7), none, .mv (.const (Go.Value.int Go.IntKind.i64 2))⟩])
        (.ret))
        (.seq (.ops [⟨(some 50), none, .mv (.tmp 11)⟩,
          ⟨(some 6), none, .mv (.tmp 50)⟩,
          ⟨(some 7), none, .mv (.const (Go.Value.int Go.IntKind.i64 0))⟩])
        (.ret))))))))))))))
theorem is_slices_choosePivotOrdered_int : FnIs Try.prog F.slices_choosePivotOrdered_int X.slices_choosePivotOrdered_int 57 [.tmp 6, .tmp 7] := ⟨by kernel_rfl⟩

-- loop (inner ones first): [0, 6, 7]
/-- slices.reverseRangeOrdered[int]: function 119 -/
abbrev F.slices_reverseRangeOrdered_int : FuncId := 119
def X.slices_reverseRangeOrdered_int : X :=
  .seq (.ops [⟨(some 8), none, .mv (.tmp 1)⟩,
    ⟨(some 6), none, .mv (.tmp 8)⟩])
  (.seq (.ops [⟨(some 9), none, .mv (.tmp 2)⟩,
    ⟨(some 10), none, .bin .sub 3 (.tmp 9) (.const (Go.Value.int Go.IntKind.i64 1))⟩,
    ⟨(some 7), none, .mv (.tmp 10)⟩])
  (.block 0 (.loop (.seq (.seq (.ops [⟨(some 11), none, .mv (.tmp 6)⟩,
        ⟨(some 12), none, .mv (.tmp 7)⟩,
        ⟨(some 13), none, .bin .lss 3 (.tmp 11) (.tmp 12)⟩])
      (.cond (.tmp 13)
        (.skip)
        (.exit 0)))
      (.block 1 (.seq (.drawn [(0, ⟨(some 14), none, .mv (.tmp 0)⟩),
          (1, ⟨(some 15), none, .mv (.tmp 6)⟩),
          (2, ⟨(some 16), none, .mv (.tmp 0)⟩),
          (3, ⟨(some 17), none, .mv (.tmp 7)⟩),
          (4, ⟨(some 18), none, .mv (.tmp 0)⟩),
          (5, ⟨(some 19), none, .mv (.tmp 7)⟩),
          (6, ⟨(some 20), none, .idx (.tmp 18) (.tmp 19) 1⟩),
          (7, ⟨(some 21), none, .ld (.tmp 20) none⟩),
          (8, ⟨(some 22), none, .mv (.tmp 0)⟩),
          (9, ⟨(some 23), none, .mv (.tmp 6)⟩),
          (10, ⟨(some 24), none, .idx (.tmp 22) (.tmp 23) 1⟩),
          (11, ⟨(some 25), none, .ld (.tmp 24) none⟩),
          (12, ⟨(some 26), none, .idx (.tmp 14) (.tmp 15) 1⟩),
          (13, ⟨none, none, .st (.tmp 26) (.tmp 21) 1⟩),
          (14, ⟨(some 27), none, .idx (.tmp 16) (.tmp 17) 1⟩),
          (15, ⟨none, none, .st (.tmp 27) (.tmp 25) 1⟩)]
          [[], [], [], [], [], [], [4, 5], [6], [], [], [8, 9], [10], [0, 1, 0, 1, 4, 5, 6, 7, 11], [12, 7, 0, 1, 4, 5, 6, 7, 11], [2, 3, 0, 1, 2, 3, 4, 5, 6, 7, 8, 9, 10, 11, 12, 13], [14, 11, 13, 0, 1, 2, 3, 4, 5, 6, 7, 8, 9, 10, 11, 12, 13]]
          [0, 0, 0, 0, 0, 0, 48, 112, 0, 0, 768, 1792, 4083, 8179, 16383, 32767] 40960)
        (.seq (.ops [⟨(some 28), none, .mv (.tmp 6)⟩,
          ⟨(some 29), none, .bin .add 3 (.tmp 28) (.const (Go.Value.int Go.IntKind.i64 1))⟩,
          ⟨(some 6), none, .mv (.tmp 29)⟩])
        (.ops [⟨(some 30), none, .mv (.tmp 7)⟩,
          ⟨(some 31), none, .bin .sub 3 (.tmp 30) (.const (Go.Value.int Go.IntKind.i64 1))⟩,
          ⟨(some 7), none, .mv (.tmp 31)⟩]))))))))
theorem is_slices_reverseRangeOrdered_int : FnIs Try.prog F.slices_reverseRangeOrdered_int X.slices_reverseRangeOrdered_int 32 [] := ⟨by kernel_rfl⟩

-- loop (inner ones first): [0, 1, 2, 7, 8, 10]
-- loop (inner ones first): [0, 1, 2, 7, 8, 9]
-- loop (inner ones first): [0, 1, 2, 7, 8]
-- loop (inner ones first): [0, 1, 2, 7, 8]
/-- slices.partialInsertionSortOrdered[int]: function 120 -/
abbrev F.slices_partialInsertionSortOrdered_int : FuncId := 120
def X.slices_partialInsertionSortOrdered_int : X :=
  .seq (.ops [⟨(some 6), none, .mv (.const (Go.Value.bool false))⟩])
  (.seq (.ops [⟨(some 11), none, .mv (.tmp 1)⟩,
    ⟨(some 12), none, .bin .add 3 (.tmp 11) (.const (Go.Value.int Go.IntKind.i64 1))⟩,
    ⟨(some 7), none, .mv (.tmp 12)⟩])
  (.seq (.seq (.ops [⟨(some 8), none, .mv (.const (Go.Value.int Go.IntKind.i64 0))⟩])
  (.block 0 (.loop (.seq (.seq (.ops [⟨(some 13), none, .mv (.tmp 8)⟩,
        ⟨(some 14), none, .bin .lss 3 (.tmp 13) (.const (Go.Value.int Go.IntKind.i64 5))⟩])
      (.cond (.tmp 14)
        (.skip)
        (.exit 0)))
      (.seq (.block 1 (.seq (.block 2 (.loop (.seq (.seq (.drawn [(0, ⟨(some 17), none, .mv (.tmp 7)⟩),
              (1, ⟨(some 18), none, .mv (.tmp 2)⟩),
              (2, ⟨(some 19), none, .bin .lss 3 (.tmp 17) (.tmp 18)⟩),
              (3, ⟨(some 20), none, .mv (.tmp 19)⟩),
              (4, ⟨(some 21), (some (20, true)), .mv (.tmp 0)⟩),
              (5, ⟨(some 22), (some (20, true)), .mv (.tmp 7)⟩),
              (6, ⟨(some 23), (some (20, true)), .idx (.tmp 21) (.tmp 22) 1⟩),
              (7, ⟨(some 24), (some (20, true)), .ld (.tmp 23) none⟩),
              (8, ⟨(some 25), (some (20, true)), .mv (.tmp 0)⟩),
              (9, ⟨(some 26), (some (20, true)), .mv (.tmp 7)⟩),
              (10, ⟨(some 27), (some (20, true)), .bin .sub 3 (.tmp 26) (.const (Go.Value.int Go.IntKind.i64 1))⟩),
              (11, ⟨(some 28), (some (20, true)), .idx (.tmp 25) (.tmp 27) 1⟩),
              (12, ⟨(some 29), (some (20, true)), .ld (.tmp 28) none⟩),
              (13, ⟨(some 30), (some (20, true)), .call 121 [(.tmp 24), (.tmp 29)]⟩),
              (14, ⟨(some 31), (some (20, true)), .un .not (.tmp 30)⟩),
              (15, ⟨(some 32), none, .pick (.tmp 20) (.tmp 31) (.const (Go.Value.bool false))⟩)]
              [[], [], [0, 1], [2], [3], [3], [4, 5, 3], [6, 3], [3], [3], [9, 3], [8, 10, 3], [11, 3], [7, 12, 3, 3], [13, 3], [3, 14]]
              [0, 0, 3, 7, 15, 15, 63, 127, 15, 15, 527, 1807, 3855, 8191, 16383, 32767] 8192)
            (.cond (.tmp 32)
              (.skip)
              (.exit 2)))
            (.block 3 (.ops [⟨(some 33), none, .mv (.tmp 7)⟩,
                ⟨(some 34), none, .bin .add 3 (.tmp 33) (.const (Go.Value.int Go.IntKind.i64 1))⟩,
                ⟨(some 7), none, .mv (.tmp 34)⟩])))))
        (.seq (.seq (.ops [⟨(some 35), none, .mv (.tmp 7)⟩,
          ⟨(some 36), none, .mv (.tmp 2)⟩,
          ⟨(some 37), none, .bin .eql 3 (.tmp 35) (.tmp 36)⟩])
        (.cond (.tmp 37)
          (.seq (.ops [⟨(some 6), none, .mv (.const (Go.Value.bool true))⟩])
          (.ret))
          (.skip)))
        (.seq (.seq (.ops [⟨(some 38), none, .mv (.tmp 2)⟩,
          ⟨(some 39), none, .mv (.tmp 1)⟩,
          ⟨(some 40), none, .bin .sub 3 (.tmp 38) (.tmp 39)⟩,
          ⟨(some 41), none, .bin .lss 3 (.tmp 40) (.const (Go.Value.int Go.IntKind.i64 50))⟩])
        (.cond (.tmp 41)
          (.seq (.ops [⟨(some 6), none, .mv (.const (Go.Value.bool false))⟩])
          (.ret))
          (.skip)))
        (.seq (.drawn [(0, ⟨(some 42), none, .mv (.tmp 0)⟩),
          (1, ⟨(some 43), none, .mv (.tmp 7)⟩),
          (2, ⟨(some 44), none, .mv (.tmp 0)⟩),
          (3, ⟨(some 45), none, .mv (.tmp 7)⟩),
          (4, ⟨(some 46), none, .bin .sub 3 (.tmp 45) (.const (Go.Value.int Go.IntKind.i64 1))⟩),
          (5, ⟨(some 47), none, .mv (.tmp 0)⟩),
          (6, ⟨(some 48), none, .mv (.tmp 7)⟩),
          (7, ⟨(some 49), none, .bin .sub 3 (.tmp 48) (.const (Go.Value.int Go.IntKind.i64 1))⟩),
          (8, ⟨(some 50), none, .idx (.tmp 47) (.tmp 49) 1⟩),
          (9, ⟨(some 51), none, .ld (.tmp 50) none⟩),
          (10, ⟨(some 52), none, .mv (.tmp 0)⟩),
          (11, ⟨(some 53), none, .mv (.tmp 7)⟩),
          (12, ⟨(some 54), none, .idx (.tmp 52) (.tmp 53) 1⟩),
          (13, ⟨(some 55), none, .ld (.tmp 54) none⟩),
          (14, ⟨(some 56), none, .idx (.tmp 42) (.tmp 43) 1⟩),
          (15, ⟨none, none, .st (.tmp 56) (.tmp 51) 1⟩),
          (16, ⟨(some 57), none, .idx (.tmp 44) (.tmp 46) 1⟩),
          (17, ⟨none, none, .st (.tmp 57) (.tmp 55) 1⟩)]
          [[], [], [], [], [3], [], [], [6], [5, 7], [8], [], [], [10, 11], [12], [0, 1, 0, 1, 5, 6, 7, 8, 9, 13], [14, 9, 0, 1, 5, 6, 7, 8, 9, 13], [2, 4, 0, 1, 2, 3, 4, 5, 6, 7, 8, 9, 10, 11, 12, 13, 14, 15], [16, 13, 15, 0, 1, 2, 3, 4, 5, 6, 7, 8, 9, 10, 11, 12, 13, 14, 15]]
          [0, 0, 0, 0, 8, 0, 0, 64, 224, 480, 0, 0, 3072, 7168, 16355, 32739, 65535, 131071] 163840)
        (.seq (.seq (.ops [⟨(some 58), none, .mv (.tmp 7)⟩,
          ⟨(some 59), none, .mv (.tmp 1)⟩,
          ⟨(some 60), none, .bin .sub 3 (.tmp 58) (.tmp 59)⟩,
          ⟨(some 61), none, .bin .geq 3 (.tmp 60) (.const (Go.Value.int Go.IntKind.i64 2))⟩])
        (.cond (.tmp 61)
          (.seq (.ops [⟨(some 62), none, .mv (.tmp 7)⟩,
            ⟨(some 63), none, .bin .sub 3 (.tmp 62) (.const (Go.Value.int Go.IntKind.i64 1))⟩,
            ⟨(some 9), none, .mv (.tmp 63)⟩])
          (.block 4 (.loop (.seq (.seq (.ops [⟨(some 64), none, .mv (.tmp 9)⟩,
                ⟨(some 65), none, .bin .geq 3 (.tmp 64) (.const (Go.Value.int Go.IntKind.i64 1))⟩])
              (.cond (.tmp 65)
                (.skip)
                (.exit 4)))
              (.seq (.block 5 (.seq (.seq (.drawn [(0, ⟨(some 68), none, .mv (.tmp 0)⟩),
                  (1, ⟨(some 69), none, .mv (.tmp 9)⟩),
                  (2, ⟨(some 70), none, .idx (.tmp 68) (.tmp 69) 1⟩),
                  (3, ⟨(some 71), none, .ld (.tmp 70) none⟩),
                  (4, ⟨(some 72), none, .mv (.tmp 0)⟩),
                  (5, ⟨(some 73), none, .mv (.tmp 9)⟩),
                  (6, ⟨(some 74), none, .bin .sub 3 (.tmp 73) (.const (Go.Value.int Go.IntKind.i64 1))⟩),
                  (7, ⟨(some 75), none, .idx (.tmp 72) (.tmp 74) 1⟩),
                  (8, ⟨(some 76), none, .ld (.tmp 75) none⟩),
                  (9, ⟨(some 77), none, .call 121 [(.tmp 71), (.tmp 76)]⟩),
                  (10, ⟨(some 78), none, .un .not (.tmp 77)⟩)]
                  [[], [], [0, 1], [2], [], [], [5], [4, 6], [7], [3, 8], [9]]
                  [0, 0, 3, 7, 0, 0, 32, 112, 240, 511, 1023] 512)
                (.cond (.tmp 78)
                  (.exit 4)
                  (.skip)))
                (.drawn [(0, ⟨(some 79), none, .mv (.tmp 0)⟩),
                  (1, ⟨(some 80), none, .mv (.tmp 9)⟩),
                  (2, ⟨(some 81), none, .mv (.tmp 0)⟩),
                  (3, ⟨(some 82), none, .mv (.tmp 9)⟩),
                  (4, ⟨(some 83), none, .bin .sub 3 (.tmp 82) (.const (Go.Value.int Go.IntKind.i64 1))⟩),
                  (5, ⟨(some 84), none, .mv (.tmp 0)⟩),
                  (6, ⟨(some 85), none, .mv (.tmp 9)⟩),
                  (7, ⟨(some 86), none, .bin .sub 3 (.tmp 85) (.const (Go.Value.int Go.IntKind.i64 1))⟩),
                  (8, ⟨(some 87), none, .idx (.tmp 84) (.tmp 86) 1⟩),
                  (9, ⟨(some 88), none, .ld (.tmp 87) none⟩),
                  (10, ⟨(some 89), none, .mv (.tmp 0)⟩),
                  (11, ⟨(some 90), none, .mv (.tmp 9)⟩),
                  (12, ⟨(some 91), none, .idx (.tmp 89) (.tmp 90) 1⟩),
                  (13, ⟨(some 92), none, .ld (.tmp 91) none⟩),
                  (14, ⟨(some 93), none, .idx (.tmp 79) (.tmp 80) 1⟩),
                  (15, ⟨none, none, .st (.tmp 93) (.tmp 88) 1⟩),
                  (16, ⟨(some 94), none, .idx (.tmp 81) (.tmp 83) 1⟩),
                  (17, ⟨none, none, .st (.tmp 94) (.tmp 92) 1⟩)]
                  [[], [], [], [], [3], [], [], [6], [5, 7], [8], [], [], [10, 11], [12], [0, 1, 0, 1, 5, 6, 7, 8, 9, 13], [14, 9, 0, 1, 5, 6, 7, 8, 9, 13], [2, 4, 0, 1, 2, 3, 4, 5, 6, 7, 8, 9, 10, 11, 12, 13, 14, 15], [16, 13, 15, 0, 1, 2, 3, 4, 5, 6, 7, 8, 9, 10, 11, 12, 13, 14, 15]]
                  [0, 0, 0, 0, 8, 0, 0, 64, 224, 480, 0, 0, 3072, 7168, 16355, 32739, 65535, 131071] 163840)))
              (.ops [⟨(some 66), none, .mv (.tmp 9)⟩,
                ⟨(some 67), none, .bin .sub 3 (.tmp 66) (.const (Go.Value.int Go.IntKind.i64 1))⟩,
                ⟨(some 9), none, .mv (.tmp 67)⟩]))))))
          (.skip)))
        (.seq (.ops [⟨(some 95), none, .mv (.tmp 2)⟩,
          ⟨(some 96), none, .mv (.tmp 7)⟩,
          ⟨(some 97), none, .bin .sub 3 (.tmp 95) (.tmp 96)⟩,
          ⟨(some 98), none, .bin .geq 3 (.tmp 97) (.const (Go.Value.int Go.IntKind.i64 2))⟩])
        (.cond (.tmp 98)
          (.seq (.ops [⟨(some 99), none, .mv (.tmp 7)⟩,
            ⟨(some 100), none, .bin .add 3 (.tmp 99) (.const (Go.Value.int Go.IntKind.i64 1))⟩,
            ⟨(some 10), none, .mv (.tmp 100)⟩])
          (.block 6 (.loop (.seq (.seq (.ops [⟨(some 101), none, .mv (.tmp 10)⟩,
                ⟨(some 102), none, .mv (.tmp 2)⟩,
                ⟨(some 103), none, .bin .lss 3 (.tmp 101) (.tmp 102)⟩])
              (.cond (.tmp 103)
                (.skip)
                (.exit 6)))
              (.seq (.block 7 (.seq (.seq (.drawn [(0, ⟨(some 106), none, .mv (.tmp 0)⟩),
                  (1, ⟨(some 107), none, .mv (.tmp 10)⟩),
                  (2, ⟨(some 108), none, .idx (.tmp 106) (.tmp 107) 1⟩),
                  (3, ⟨(some 109), none, .ld (.tmp 108) none⟩),
                  (4, ⟨(some 110), none, .mv (.tmp 0)⟩),
                  (5, ⟨(some 111), none, .mv (.tmp 10)⟩),
                  (6, ⟨(some 112), none, .bin .sub 3 (.tmp 111) (.const (Go.Value.int Go.IntKind.i64 1))⟩),
                  (7, ⟨(some 113), none, .idx (.tmp 110) (.tmp 112) 1⟩),
                  (8, ⟨(some 114), none, .ld (.tmp 113) none⟩),
                  (9, ⟨(some 115), none, .call 121 [(.tmp 109), (.tmp 114)]⟩),
                  (10, ⟨(some 116), none, .un .not (.tmp 115)⟩)]
                  [[], [], [0, 1], [2], [], [], [5], [4, 6], [7], [3, 8], [9]]
                  [0, 0, 3, 7, 0, 0, 32, 112, 240, 511, 1023] 512)
                (.cond (.tmp 116)
                  (.exit 6)
                  (.skip)))
                (.drawn [(0, ⟨(some 117), none, .mv (.tmp 0)⟩),
                  (1, ⟨(some 118), none, .mv (.tmp 10)⟩),
                  (2, ⟨(some 119), none, .mv (.tmp 0)⟩),
                  (3, ⟨(some 120), none, .mv (.tmp 10)⟩),
                  (4, ⟨(some 121), none, .bin .sub 3 (.tmp 120) (.const (Go.Value.int Go.IntKind.i64 1))⟩),
                  (5, ⟨(some 122), none, .mv (.tmp 0)⟩),
                  (6, ⟨(some 123), none, .mv (.tmp 10)⟩),
                  (7, ⟨(some 124), none, .bin .sub 3 (.tmp 123) (.const (Go.Value.int Go.IntKind.i64 1))⟩),
                  (8, ⟨(some 125), none, .idx (.tmp 122) (.tmp 124) 1⟩),
                  (9, ⟨(some 126), none, .ld (.tmp 125) none⟩),
                  (10, ⟨(some 127), none, .mv (.tmp 0)⟩),
                  (11, ⟨(some 128), none, .mv (.tmp 10)⟩),
                  (12, ⟨(some 129), none, .idx (.tmp 127) (.tmp 128) 1⟩),
                  (13, ⟨(some 130), none, .ld (.tmp 129) none⟩),
                  (14, ⟨(some 131), none, .idx (.tmp 117) (.tmp 118) 1⟩),
                  (15, ⟨none, none, .st (.tmp 131) (.tmp 126) 1⟩),
                  (16, ⟨(some 132), none, .idx (.tmp 119) (.tmp 121) 1⟩),
                  (17, ⟨none, none, .st (.tmp 132) (.tmp 130) 1⟩)]
                  [[], [], [], [], [3], [], [], [6], [5, 7], [8], [], [], [10, 11], [12], [0, 1, 0, 1, 5, 6, 7, 8, 9, 13], [14, 9, 0, 1, 5, 6, 7, 8, 9, 13], [2, 4, 0, 1, 2, 3, 4, 5, 6, 7, 8, 9, 10, 11, 12, 13, 14, 15], [16, 13, 15, 0, 1, 2, 3, 4, 5, 6, 7, 8, 9, 10, 11, 12, 13, 14, 15]]
                  [0, 0, 0, 0, 8, 0, 0, 64, 224, 480, 0, 0, 3072, 7168, 16355, 32739, 65535, 131071] 163840)))
              (.ops [⟨(some 104), none, .mv (.tmp 10)⟩,
                ⟨(some 105), none, .bin .add 3 (.tmp 104) (.const (Go.Value.int Go.IntKind.i64 1))⟩,
                ⟨(some 10), none, .mv (.tmp 105)⟩]))))))
          (.skip)))))))))
      (.ops [⟨(some 15), none, .mv (.tmp 8)⟩,
        ⟨(some 16), none, .bin .add 3 (.tmp 15) (.const (Go.Value.int Go.IntKind.i64 1))⟩,
        ⟨(some 8), none, .mv (.tmp 16)⟩]))))))
  (.seq (.ops [⟨(some 6), none, .mv (.const (Go.Value.bool false))⟩])
  (.ret))))
theorem is_slices_partialInsertionSortOrdered_int : FnIs Try.prog F.slices_partialInsertionSortOrdered_int X.slices_partialInsertionSortOrdered_int 133 [.tmp 6] := ⟨by kernel_rfl⟩

-- loop (inner ones first): [0, 1, 9, 10]
-- loop (inner ones first): [0, 1, 9, 10]
-- loop (inner ones first): [0, 1, 9, 10]
/-- slices.partitionEqualOrdered[int]: function 122 -/
abbrev F.slices_partitionEqualOrdered_int : FuncId := 122
def X.slices_partitionEqualOrdered_int : X :=
  .seq (.ops [⟨(some 8), none, .mv (.const (Go.Value.int Go.IntKind.i64 0))⟩])
  (.seq (.drawn [(0, ⟨(some 11), none, .mv (.tmp 0)⟩),
    (1, ⟨(some 12), none, .mv (.tmp 1)⟩),
    (2, ⟨(some 13), none, .mv (.tmp 0)⟩),
    (3, ⟨(some 14), none, .mv (.tmp 3)⟩),
    (4, ⟨(some 15), none, .mv (.tmp 0)⟩),
    (5, ⟨(some 16), none, .mv (.tmp 3)⟩),
    (6, ⟨(some 17), none, .idx (.tmp 15) (.tmp 16) 1⟩),
    (7, ⟨(some 18), none, .ld (.tmp 17) none⟩),
    (8, ⟨(some 19), none, .mv (.tmp 0)⟩),
    (9, ⟨(some 20), none, .mv (.tmp 1)⟩),
    (10, ⟨(some 21), none, .idx (.tmp 19) (.tmp 20) 1⟩),
    (11, ⟨(some 22), none, .ld (.tmp 21) none⟩),
    (12, ⟨(some 23), none, .idx (.tmp 11) (.tmp 12) 1⟩),
    (13, ⟨none, none, .st (.tmp 23) (.tmp 18) 1⟩),
    (14, ⟨(some 24), none, .idx (.tmp 13) (.tmp 14) 1⟩),
    (15, ⟨none, none, .st (.tmp 24) (.tmp 22) 1⟩)]
    [[], [], [], [], [], [], [4, 5], [6], [], [], [8, 9], [10], [0, 1, 0, 1, 4, 5, 6, 7, 11], [12, 7, 0, 1, 4, 5, 6, 7, 11], [2, 3, 0, 1, 2, 3, 4, 5, 6, 7, 8, 9, 10, 11, 12, 13], [14, 11, 13, 0, 1, 2, 3, 4, 5, 6, 7, 8, 9, 10, 11, 12, 13]]
    [0, 0, 0, 0, 0, 0, 48, 112, 0, 0, 768, 1792, 4083, 8179, 16383, 32767] 40960)
  (.seq (.ops [⟨(some 25), none, .mv (.tmp 1)⟩,
    ⟨(some 26), none, .bin .add 3 (.tmp 25) (.const (Go.Value.int Go.IntKind.i64 1))⟩,
    ⟨(some 27), none, .mv (.tmp 2)⟩,
    ⟨(some 28), none, .bin .sub 3 (.tmp 27) (.const (Go.Value.int Go.IntKind.i64 1))⟩,
    ⟨(some 9), none, .mv (.tmp 26)⟩,
    ⟨(some 10), none, .mv (.tmp 28)⟩])
  (.seq (.block 0 (.loop (.block 1 (.seq (.block 2 (.loop (.seq (.seq (.drawn [(0, ⟨(some 29), none, .mv (.tmp 9)⟩),
              (1, ⟨(some 30), none, .mv (.tmp 10)⟩),
              (2, ⟨(some 31), none, .bin .leq 3 (.tmp 29) (.tmp 30)⟩),
              (3, ⟨(some 32), none, .mv (.tmp 31)⟩),
              (4, ⟨(some 33), (some (32, true)), .mv (.tmp 0)⟩),
              (5, ⟨(some 34), (some (32, true)), .mv (.tmp 1)⟩),
              (6, ⟨(some 35), (some (32, true)), .idx (.tmp 33) (.tmp 34) 1⟩),
              (7, ⟨(some 36), (some (32, true)), .ld (.tmp 35) none⟩),
              (8, ⟨(some 37), (some (32, true)), .mv (.tmp 0)⟩),
              (9, ⟨(some 38), (some (32, true)), .mv (.tmp 9)⟩),
              (10, ⟨(some 39), (some (32, true)), .idx (.tmp 37) (.tmp 38) 1⟩),
              (11, ⟨(some 40), (some (32, true)), .ld (.tmp 39) none⟩),
              (12, ⟨(some 41), (some (32, true)), .call 121 [(.tmp 36), (.tmp 40)]⟩),
              (13, ⟨(some 42), (some (32, true)), .un .not (.tmp 41)⟩),
              (14, ⟨(some 43), none, .pick (.tmp 32) (.tmp 42) (.const (Go.Value.bool false))⟩)]
              [[], [], [0, 1], [2], [3], [3], [4, 5, 3], [6, 3], [3], [3], [8, 9, 3], [10, 3], [7, 11, 3, 3], [12, 3], [3, 13]]
              [0, 0, 3, 7, 15, 15, 63, 127, 15, 15, 783, 1807, 4095, 8191, 16383] 4096)
            (.cond (.tmp 43)
              (.skip)
              (.exit 2)))
            (.block 3 (.ops [⟨(some 44), none, .mv (.tmp 9)⟩,
                ⟨(some 45), none, .bin .add 3 (.tmp 44) (.const (Go.Value.int Go.IntKind.i64 1))⟩,
                ⟨(some 9), none, .mv (.tmp 45)⟩])))))
        (.seq (.block 4 (.loop (.seq (.seq (.drawn [(0, ⟨(some 46), none, .mv (.tmp 9)⟩),
              (1, ⟨(some 47), none, .mv (.tmp 10)⟩),
              (2, ⟨(some 48), none, .bin .leq 3 (.tmp 46) (.tmp 47)⟩),
              (3, ⟨(some 49), none, .mv (.tmp 48)⟩),
              (4, ⟨(some 50), (some (49, true)), .mv (.tmp 0)⟩),
              (5, ⟨(some 51), (some (49, true)), .mv (.tmp 1)⟩),
              (6, ⟨(some 52), (some (49, true)), .idx (.tmp 50) (.tmp 51) 1⟩),
              (7, ⟨(some 53), (some (49, true)), .ld (.tmp 52) none⟩),
              (8, ⟨(some 54), (some (49, true)), .mv (.tmp 0)⟩),
              (9, ⟨(some 55), (some (49, true)), .mv (.tmp 10)⟩),
              (10, ⟨(some 56), (some (49, true)), .idx (.tmp 54) (.tmp 55) 1⟩),
              (11, ⟨(some 57), (some (49, true)), .ld (.tmp 56) none⟩),
              (12, ⟨(some 58), (some (49, true)), .call 121 [(.tmp 53), (.tmp 57)]⟩),
              (13, ⟨(some 59), none, .pick (.tmp 49) (.tmp 58) (.const (Go.Value.bool false))⟩)]
              [[], [], [0, 1], [2], [3], [3], [4, 5, 3], [6, 3], [3], [3], [8, 9, 3], [10, 3], [7, 11, 3, 3], [3, 12]]
              [0, 0, 3, 7, 15, 15, 63, 127, 15, 15, 783, 1807, 4095, 8191] 4096)
            (.cond (.tmp 59)
              (.skip)
              (.exit 4)))
            (.block 5 (.ops [⟨(some 60), none, .mv (.tmp 10)⟩,
                ⟨(some 61), none, .bin .sub 3 (.tmp 60) (.const (Go.Value.int Go.IntKind.i64 1))⟩,
                ⟨(some 10), none, .mv (.tmp 61)⟩])))))
        (.seq (.seq (.ops [⟨(some 62), none, .mv (.tmp 9)⟩,
          ⟨(some 63), none, .mv (.tmp 10)⟩,
          ⟨(some 64), none, .bin .gtr 3 (.tmp 62) (.tmp 63)⟩])
        (.cond (.tmp 64)
          (.exit 0)
          (.skip)))
        (.seq (.drawn [(0, ⟨(some 65), none, .mv (.tmp 0)⟩),
          (1, ⟨(some 66), none, .mv (.tmp 9)⟩),
          (2, ⟨(some 67), none, .mv (.tmp 0)⟩),
          (3, ⟨(some 68), none, .mv (.tmp 10)⟩),
          (4, ⟨(some 69), none, .mv (.tmp 0)⟩),
          (5, ⟨(some 70), none, .mv (.tmp 10)⟩),
          (6, ⟨(some 71), none, .idx (.tmp 69) (.tmp 70) 1⟩),
          (7, ⟨(some 72), none, .ld (.tmp 71) none⟩),
          (8, ⟨(some 73), none, .mv (.tmp 0)⟩),
          (9, ⟨(some 74), none, .mv (.tmp 9)⟩),
          (10, ⟨(some 75), none, .idx (.tmp 73) (.tmp 74) 1⟩),
          (11, ⟨(some 76), none, .ld (.tmp 75) none⟩),
          (12, ⟨(some 77), none, .idx (.tmp 65) (.tmp 66) 1⟩),
          (13, ⟨none, none, .st (.tmp 77) (.tmp 72) 1⟩),
          (14, ⟨(some 78), none, .idx (.tmp 67) (.tmp 68) 1⟩),
          (15, ⟨none, none, .st (.tmp 78) (.tmp 76) 1⟩)]
          [[], [], [], [], [], [], [4, 5], [6], [], [], [8, 9], [10], [0, 1, 0, 1, 4, 5, 6, 7, 11], [12, 7, 0, 1, 4, 5, 6, 7, 11], [2, 3, 0, 1, 2, 3, 4, 5, 6, 7, 8, 9, 10, 11, 12, 13], [14, 11, 13, 0, 1, 2, 3, 4, 5, 6, 7, 8, 9, 10, 11, 12, 13]]
          [0, 0, 0, 0, 0, 0, 48, 112, 0, 0, 768, 1792, 4083, 8179, 16383, 32767] 40960)
        (.seq (.ops [⟨(some 79), none, .mv (.tmp 9)⟩,
          ⟨(some 80), none, .bin .add 3 (.tmp 79) (.const (Go.Value.int Go.IntKind.i64 1))⟩,
          ⟨(some 9), none, .mv (.tmp 80)⟩])
        (.ops [⟨(some 81), none, .mv (.tmp 10)⟩,
          ⟨(some 82), none, .bin .sub 3 (.tmp 81) (.const (Go.Value.int Go.IntKind.i64 1))⟩,
          ⟨(some 10), none, .mv (.tmp 82)⟩])))))))))
  (.seq (.ops [⟨(some 83), none, .mv (.tmp 9)⟩,
    ⟨(some 8), none, .mv (.tmp 83)⟩])
  (.ret)))))
theorem is_slices_partitionEqualOrdered_int : FnIs Try.prog F.slices_partitionEqualOrdered_int X.slices_partitionEqualOrdered_int 84 [.tmp 8] := ⟨by kernel_rfl⟩

-- loop (inner ones first): [0, 1, 10, 11]
-- loop (inner ones first): [0, 1, 10, 11]
-- loop (inner ones first): [0, 1, 10, 11]
-- loop (inner ones first): [0, 1, 10, 11]
-- loop (inner ones first): [0, 1, 10, 11]
/-- slices.partitionOrdered[int]: function 123 -/
abbrev F.slices_partitionOrdered_int : FuncId := 123
def X.slices_partitionOrdered_int : X :=
  .seq (.ops [⟨(some 8), none, .mv (.const (Go.Value.int Go.IntKind.i64 0))⟩,
    ⟨(some 9), none, .mv (.const (Go.Value.bool false))⟩])
  (.seq (.drawn [(0, ⟨(some 12), none, .mv (.tmp 0)⟩),
    (1, ⟨(some 13), none, .mv (.tmp 1)⟩),
    (2, ⟨(some 14), none, .mv (.tmp 0)⟩),
    (3, ⟨(some 15), none, .mv (.tmp 3)⟩),
    (4, ⟨(some 16), none, .mv (.tmp 0)⟩),
    (5, ⟨(some 17), none, .mv (.tmp 3)⟩),
    (6, ⟨(some 18), none, .idx (.tmp 16) (.tmp 17) 1⟩),
    (7, ⟨(some 19), none, .ld (.tmp 18) none⟩),
    (8, ⟨(some 20), none, .mv (.tmp 0)⟩),
    (9, ⟨(some 21), none, .mv (.tmp 1)⟩),
    (10, ⟨(some 22), none, .idx (.tmp 20) (.tmp 21) 1⟩),
    (11, ⟨(some 23), none, .ld (.tmp 22) none⟩),
    (12, ⟨(some 24), none, .idx (.tmp 12) (.tmp 13) 1⟩),
    (13, ⟨none, none, .st (.tmp 24) (.tmp 19) 1⟩),
    (14, ⟨(some 25), none, .idx (.tmp 14) (.tmp 15) 1⟩),
    (15, ⟨none, none, .st (.tmp 25) (.tmp 23) 1⟩)]
    [[], [], [], [], [], [], [4, 5], [6], [], [], [8, 9], [10], [0, 1, 0, 1, 4, 5, 6, 7, 11], [12, 7, 0, 1, 4, 5, 6, 7, 11], [2, 3, 0, 1, 2, 3, 4, 5, 6, 7, 8, 9, 10, 11, 12, 13], [14, 11, 13, 0, 1, 2, 3, 4, 5, 6, 7, 8, 9, 10, 11, 12, 13]]
    [0, 0, 0, 0, 0, 0, 48, 112, 0, 0, 768, 1792, 4083, 8179, 16383, 32767] 40960)
  (.seq (.ops [⟨(some 26), none, .mv (.tmp 1)⟩,
    ⟨(some 27), none, .bin .add 3 (.tmp 26) (.const (Go.Value.int Go.IntKind.i64 1))⟩,
    ⟨(some 28), none, .mv (.tmp 2)⟩,
    ⟨(some 29), none, .bin .sub 3 (.tmp 28) (.const (Go.Value.int Go.IntKind.i64 1))⟩,
    ⟨(some 10), none, .mv (.tmp 27)⟩,
    ⟨(some 11), none, .mv (.tmp 29)⟩])
  (.seq (.block 0 (.loop (.seq (.seq (.drawn [(0, ⟨(some 30), none, .mv (.tmp 10)⟩),
        (1, ⟨(some 31), none, .mv (.tmp 11)⟩),
        (2, ⟨(some 32), none, .bin .leq 3 (.tmp 30) (.tmp 31)⟩),
        (3, ⟨(some 33), none, .mv (.tmp 32)⟩),
        (4, ⟨(some 34), (some (33, true)), .mv (.tmp 0)⟩),
        (5, ⟨(some 35), (some (33, true)), .mv (.tmp 10)⟩),
        (6, ⟨(some 36), (some (33, true)), .idx (.tmp 34) (.tmp 35) 1⟩),
        (7, ⟨(some 37), (some (33, true)), .ld (.tmp 36) none⟩),
        (8, ⟨(some 38), (some (33, true)), .mv (.tmp 0)⟩),
        (9, ⟨(some 39), (some (33, true)), .mv (.tmp 1)⟩),
        (10, ⟨(some 40), (some (33, true)), .idx (.tmp 38) (.tmp 39) 1⟩),
        (11, ⟨(some 41), (some (33, true)), .ld (.tmp 40) none⟩),
        (12, ⟨(some 42), (some (33, true)), .call 121 [(.tmp 37), (.tmp 41)]⟩),
        (13, ⟨(some 43), none, .pick (.tmp 33) (.tmp 42) (.const (Go.Value.bool false))⟩)]
        [[], [], [0, 1], [2], [3], [3], [4, 5, 3], [6, 3], [3], [3], [8, 9, 3], [10, 3], [7, 11, 3, 3], [3, 12]]
        [0, 0, 3, 7, 15, 15, 63, 127, 15, 15, 783, 1807, 4095, 8191] 4096)
      (.cond (.tmp 43)
        (.skip)
        (.exit 0)))
      (.block 1 (.ops [⟨(some 44), none, .mv (.tmp 10)⟩,
          ⟨(some 45), none, .bin .add 3 (.tmp 44) (.const (Go.Value.int Go.IntKind.i64 1))⟩,
          ⟨(some 10), none, .mv (.tmp 45)⟩])))))
  (.seq (.block 2 (.loop (.seq (.seq (.drawn [(0, ⟨(some 46), none, .mv (.tmp 10)⟩),
        (1, ⟨(some 47), none, .mv (.tmp 11)⟩),
        (2, ⟨(some 48), none, .bin .leq 3 (.tmp 46) (.tmp 47)⟩),
        (3, ⟨(some 49), none, .mv (.tmp 48)⟩),
        (4, ⟨(some 50), (some (49, true)), .mv (.tmp 0)⟩),
        (5, ⟨(some 51), (some (49, true)), .mv (.tmp 11)⟩),
        (6, ⟨(some 52), (some (49, true)), .idx (.tmp 50) (.tmp 51) 1⟩),
        (7, ⟨(some 53), (some (49, true)), .ld (.tmp 52) none⟩),
        (8, ⟨(some 54), (some (49, true)), .mv (.tmp 0)⟩),
        (9, ⟨(some 55), (some (49, true)), .mv (.tmp 1)⟩),
        (10, ⟨(some 56), (some (49, true)), .idx (.tmp 54) (.tmp 55) 1⟩),
        (11, ⟨(some 57), (some (49, true)), .ld (.tmp 56) none⟩),
        (12, ⟨(some 58), (some (49, true)), .call 121 [(.tmp 53), (.tmp 57)]⟩),
        (13, ⟨(some 59), (some (49, true)), .un .not (.tmp 58)⟩),
        (14, ⟨(some 60), none, .pick (.tmp 49) (.tmp 59) (.const (Go.Value.bool false))⟩)]
        [[], [], [0, 1], [2], [3], [3], [4, 5, 3], [6, 3], [3], [3], [8, 9, 3], [10, 3], [7, 11, 3, 3], [12, 3], [3, 13]]
        [0, 0, 3, 7, 15, 15, 63, 127, 15, 15, 783, 1807, 4095, 8191, 16383] 4096)
      (.cond (.tmp 60)
        (.skip)
        (.exit 2)))
      (.block 3 (.ops [⟨(some 61), none, .mv (.tmp 11)⟩,
          ⟨(some 62), none, .bin .sub 3 (.tmp 61) (.const (Go.Value.int Go.IntKind.i64 1))⟩,
          ⟨(some 11), none, .mv (.tmp 62)⟩])))))
  (.seq (.seq (.ops [⟨(some 63), none, .mv (.tmp 10)⟩,
    ⟨(some 64), none, .mv (.tmp 11)⟩,
    ⟨(some 65), none, .bin .gtr 3 (.tmp 63) (.tmp 64)⟩])
  (.cond (.tmp 65)
    (.seq (.drawn [(0, ⟨(some 66), none, .mv (.tmp 0)⟩),
      (1, ⟨(some 67), none, .mv (.tmp 11)⟩),
      (2, ⟨(some 68), none, .mv (.tmp 0)⟩),
      (3, ⟨(some 69), none, .mv (.tmp 1)⟩),
      (4, ⟨(some 70), none, .mv (.tmp 0)⟩),
      (5, ⟨(some 71), none, .mv (.tmp 1)⟩),
      (6, ⟨(some 72), none, .idx (.tmp 70) (.tmp 71) 1⟩),
      (7, ⟨(some 73), none, .ld (.tmp 72) none⟩),
      (8, ⟨(some 74), none, .mv (.tmp 0)⟩),
      (9, ⟨(some 75), none, .mv (.tmp 11)⟩),
      (10, ⟨(some 76), none, .idx (.tmp 74) (.tmp 75) 1⟩),
      (11, ⟨(some 77), none, .ld (.tmp 76) none⟩),
      (12, ⟨(some 78), none, .idx (.tmp 66) (.tmp 67) 1⟩),
      (13, ⟨none, none, .st (.tmp 78) (.tmp 73) 1⟩),
      (14, ⟨(some 79), none, .idx (.tmp 68) (.tmp 69) 1⟩),
      (15, ⟨none, none, .st (.tmp 79) (.tmp 77) 1⟩)]
      [[], [], [], [], [], [], [4, 5], [6], [], [], [8, 9], [10], [0, 1, 0, 1, 4, 5, 6, 7, 11], [12, 7, 0, 1, 4, 5, 6, 7, 11], [2, 3, 0, 1, 2, 3, 4, 5, 6, 7, 8, 9, 10, 11, 12, 13], [14, 11, 13, 0, 1, 2, 3, 4, 5, 6, 7, 8, 9, 10, 11, 12, 13]]
      [0, 0, 0, 0, 0, 0, 48, 112, 0, 0, 768, 1792, 4083, 8179, 16383, 32767] 40960)
    (.seq (.ops [⟨(some 80), none, .mv (.tmp 11)⟩,
      ⟨(some 8), none, .mv (.tmp 80)⟩,
      ⟨(some 9), none, .mv (.const (Go.Value.bool true))⟩])
    (.ret)))
    (.skip)))
  (.seq (.drawn [(0, ⟨(some 81), none, .mv (.tmp 0)⟩),
    (1, ⟨(some 82), none, .mv (.tmp 10)⟩),
    (2, ⟨(some 83), none, .mv (.tmp 0)⟩),
    (3, ⟨(some 84), none, .mv (.tmp 11)⟩),
    (4, ⟨(some 85), none, .mv (.tmp 0)⟩),
    (5, ⟨(some 86), none, .mv (.tmp 11)⟩),
    (6, ⟨(some 87), none, .idx (.tmp 85) (.tmp 86) 1⟩),
    (7, ⟨(some 88), none, .ld (.tmp 87) none⟩),
    (8, ⟨(some 89), none, .mv (.tmp 0)⟩),
    (9, ⟨(some 90), none, .mv (.tmp 10)⟩),
    (10, ⟨(some 91), none, .idx (.tmp 89) (.tmp 90) 1⟩),
    (11, ⟨(some 92), none, .ld (.tmp 91) none⟩),
    (12, ⟨(some 93), none, .idx (.tmp 81) (.tmp 82) 1⟩),
    (13, ⟨none, none, .st (.tmp 93) (.tmp 88) 1⟩),
    (14, ⟨(some 94), none, .idx (.tmp 83) (.tmp 84) 1⟩),
    (15, ⟨none, none, .st (.tmp 94) (.tmp 92) 1⟩)]
    [[], [], [], [], [], [], [4, 5], [6], [], [], [8, 9], [10], [0, 1, 0, 1, 4, 5, 6, 7, 11], [12, 7, 0, 1, 4, 5, 6, 7, 11], [2, 3, 0, 1, 2, 3, 4, 5, 6, 7, 8, 9, 10, 11, 12, 13], [14, 11, 13, 0, 1, 2, 3, 4, 5, 6, 7, 8, 9, 10, 11, 12, 13]]
    [0, 0, 0, 0, 0, 0, 48, 112, 0, 0, 768, 1792, 4083, 8179, 16383, 32767] 40960)
  (.seq (.ops [⟨(some 95), none, .mv (.tmp 10)⟩,
    ⟨(some 96), none, .bin .add 3 (.tmp 95) (.const (Go.Value.int Go.IntKind.i64 1))⟩,
    ⟨(some 10), none, .mv (.tmp 96)⟩])
  (.seq (.ops [⟨(some 97), none, .mv (.tmp 11)⟩,
    ⟨(some 98), none, .bin .sub 3 (.tmp 97) (.const (Go.Value.int Go.IntKind.i64 1))⟩,
    ⟨(some 11), none, .mv (.tmp 98)⟩])
  (.seq (.block 4 (.loop (.block 5 (.seq (.block 6 (.loop (.seq (.seq (.drawn [(0, ⟨(some 99), none, .mv (.tmp 10)⟩),
              (1, ⟨(some 100), none, .mv (.tmp 11)⟩),
              (2, ⟨(some 101), none, .bin .leq 3 (.tmp 99) (.tmp 100)⟩),
              (3, ⟨(some 102), none, .mv (.tmp 101)⟩),
              (4, ⟨(some 103), (some (102, true)), .mv (.tmp 0)⟩),
              (5, ⟨(some 104), (some (102, true)), .mv (.tmp 10)⟩),
              (6, ⟨(some 105), (some (102, true)), .idx (.tmp 103) (.tmp 104) 1⟩),
              (7, ⟨(some 106), (some (102, true)), .ld (.tmp 105) none⟩),
              (8, ⟨(some 107), (some (102, true)), .mv (.tmp 0)⟩),
              (9, ⟨(some 108), (some (102, true)), .mv (.tmp 1)⟩),
              (10, ⟨(some 109), (some (102, true)), .idx (.tmp 107) (.tmp 108) 1⟩),
              (11, ⟨(some 110), (some (102, true)), .ld (.tmp 109) none⟩),
              (12, ⟨(some 111), (some (102, true)), .call 121 [(.tmp 106), (.tmp 110)]⟩),
              (13, ⟨(some 112), none, .pick (.tmp 102) (.tmp 111) (.const (Go.Value.bool false))⟩)]
              [[], [], [0, 1], [2], [3], [3], [4, 5, 3], [6, 3], [3], [3], [8, 9, 3], [10, 3], [7, 11, 3, 3], [3, 12]]
              [0, 0, 3, 7, 15, 15, 63, 127, 15, 15, 783, 1807, 4095, 8191] 4096)
            (.cond (.tmp 112)
              (.skip)
              (.exit 6)))
            (.block 7 (.ops [⟨(some 113), none, .mv (.tmp 10)⟩,
                ⟨(some 114), none, .bin .add 3 (.tmp 113) (.const (Go.Value.int Go.IntKind.i64 1))⟩,
                ⟨(some 10), none, .mv (.tmp 114)⟩])))))
        (.seq (.block 8 (.loop (.seq (.seq (.drawn [(0, ⟨(some 115), none, .mv (.tmp 10)⟩),
              (1, ⟨(some 116), none, .mv (.tmp 11)⟩),
              (2, ⟨(some 117), none, .bin .leq 3 (.tmp 115) (.tmp 116)⟩),
              (3, ⟨(some 118), none, .mv (.tmp 117)⟩),
              (4, ⟨(some 119), (some (118, true)), .mv (.tmp 0)⟩),
              (5, ⟨(some 120), (some (118, true)), .mv (.tmp 11)⟩),
              (6, ⟨(some 121), (some (118, true)), .idx (.tmp 119) (.tmp 120) 1⟩),
              (7, ⟨(some 122), (some (118, true)), .ld (.tmp 121) none⟩),
              (8, ⟨(some 123), (some (118, true)), .mv (.tmp 0)⟩),
              (9, ⟨(some 124), (some (118, true)), .mv (.tmp 1)⟩),
              (10, ⟨(some 125), (some (118, true)), .idx (.tmp 123) (.tmp 124) 1⟩),
              (11, ⟨(some 126), (some (118, true)), .ld (.tmp 125) none⟩),
              (12, ⟨(some 127), (some (118, true)), .call 121 [(.tmp 122), (.tmp 126)]⟩),
              (13, ⟨(some 128), (some (118, true)), .un .not (.tmp 127)⟩),
              (14, ⟨(some 129), none, .pick (.tmp 118) (.tmp 128) (.const (Go.Value.bool false))⟩)]
              [[], [], [0, 1], [2], [3], [3], [4, 5, 3], [6, 3], [3], [3], [8, 9, 3], [10, 3], [7, 11, 3, 3], [12, 3], [3, 13]]
              [0, 0, 3, 7, 15, 15, 63, 127, 15, 15, 783, 1807, 4095, 8191, 16383] 4096)
            (.cond (.tmp 129)
              (.skip)
              (.exit 8)))
            (.block 9 (.ops [⟨(some 130), none, .mv (.tmp 11)⟩,
                ⟨(some 131), none, .bin .sub 3 (.tmp 130) (.const (Go.Value.int Go.IntKind.i64 1))⟩,
                ⟨(some 11), none, .mv (.tmp 131)⟩])))))
        (.seq (.seq (.ops [⟨(some 132), none, .mv (.tmp 10)⟩,
          ⟨(some 133), none, .mv (.tmp 11)⟩,
          ⟨(some 134), none, .bin .gtr 3 (.tmp 132) (.tmp 133)⟩])
        (.cond (.tmp 134)
          (.exit 4)
          (.skip)))
        (.seq (.drawn [(0, ⟨(some 135), none, .mv (.tmp 0)⟩),
          (1, ⟨(some 136), none, .mv (.tmp 10)⟩),
          (2, ⟨(some 137), none, .mv (.tmp 0)⟩),
          (3, ⟨(some 138), none, .mv (.tmp 11)⟩),
          (4, ⟨(some 139), none, .mv (.tmp 0)⟩),
          (5, ⟨(some 140), none, .mv (.tmp 11)⟩),
          (6, ⟨(some 141), none, .idx (.tmp 139) (.tmp 140) 1⟩),
          (7, ⟨(some 142), none, .ld (.tmp 141) none⟩),
          (8, ⟨(some 143), none, .mv (.tmp 0)⟩),
          (9, ⟨(some 144), none, .mv (.tmp 10)⟩),
          (10, ⟨(some 145), none, .idx (.tmp 143) (.tmp 144) 1⟩),
          (11, ⟨(some 146), none, .ld (.tmp 145) none⟩),
          (12, ⟨(some 147), none, .idx (.tmp 135) (.tmp 136) 1⟩),
          (13, ⟨none, none, .st (.tmp 147) (.tmp 142) 1⟩),
          (14, ⟨(some 148), none, .idx (.tmp 137) (.tmp 138) 1⟩),
          (15, ⟨none, none, .st (.tmp 148) (.tmp 146) 1⟩)]
          [[], [], [], [], [], [], [4, 5], [6], [], [], [8, 9], [10], [0, 1, 0, 1, 4, 5, 6, 7, 11], [12, 7, 0, 1, 4, 5, 6, 7, 11], [2, 3, 0, 1, 2, 3, 4, 5, 6, 7, 8, 9, 10, 11, 12, 13], [14, 11, 13, 0, 1, 2, 3, 4, 5, 6, 7, 8, 9, 10, 11, 12, 13]]
          [0, 0, 0, 0, 0, 0, 48, 112, 0, 0, 768, 1792, 4083, 8179, 16383, 32767] 40960)
        (.seq (.ops [⟨(some 149), none, .mv (.tmp 10)⟩,
          ⟨(some 150), none, .bin .add 3 (.tmp 149) (.const (Go.Value.int Go.IntKind.i64 1))⟩,
          ⟨(some 10), none, .mv (.tmp 150)⟩])
        (.ops [⟨(some 151), none, .mv (.tmp 11)⟩,
          ⟨(some 152), none, .bin .sub 3 (.tmp 151) (.const (Go.Value.int Go.IntKind.i64 1))⟩,
          ⟨(some 11), none, .mv (.tmp 152)⟩])))))))))
  (.seq (.drawn [(0, ⟨(some 153), none, .mv (.tmp 0)⟩),
    (1, ⟨(some 154), none, .mv (.tmp 11)⟩),
    (2, ⟨(some 155), none, .mv (.tmp 0)⟩),
    (3, ⟨(some 156), none, .mv (.tmp 1)⟩),
    (4, ⟨(some 157), none, .mv (.tmp 0)⟩),
    (5, ⟨(some 158), none, .mv (.tmp 1)⟩),
    (6, ⟨(some 159), none, .idx (.tmp 157) (.tmp 158) 1⟩),
    (7, ⟨(some 160), none, .ld (.tmp 159) none⟩),
    (8, ⟨(some 161), none, .mv (.tmp 0)⟩),
    (9, ⟨(some 162), none, .mv (.tmp 11)⟩),
    (10, ⟨(some 163), none, .idx (.tmp 161) (.tmp 162) 1⟩),
    (11, ⟨(some 164), none, .ld (.tmp 163) none⟩),
    (12, ⟨(some 165), none, .idx (.tmp 153) (.tmp 154) 1⟩),
    (13, ⟨none, none, .st (.tmp 165) (.tmp 160) 1⟩),
    (14, ⟨(some 166), none, .idx (.tmp 155) (.tmp 156) 1⟩),
    (15, ⟨none, none, .st (.tmp 166) (.tmp 164) 1⟩)]
    [[], [], [], [], [], [], [4, 5], [6], [], [], [8, 9], [10], [0, 1, 0, 1, 4, 5, 6, 7, 11], [12, 7, 0, 1, 4, 5, 6, 7, 11], [2, 3, 0, 1, 2, 3, 4, 5, 6, 7, 8, 9, 10, 11, 12, 13], [14, 11, 13, 0, 1, 2, 3, 4, 5, 6, 7, 8, 9, 10, 11, 12, 13]]
    [0, 0, 0, 0, 0, 0, 48, 112, 0, 0, 768, 1792, 4083, 8179, 16383, 32767] 40960)
  (.seq (.ops [⟨(some 167), none, .mv (.tmp 11)⟩,
    ⟨(some 8), none, .mv (.tmp 167)⟩,
    ⟨(some 9), none, .mv (.const (Go.Value.bool false))⟩])
  (.ret))))))))))))
theorem is_slices_partitionOrdered_int : FnIs Try.prog F.slices_partitionOrdered_int X.slices_partitionOrdered_int 168 [.tmp 8, .tmp 9] := ⟨by kernel_rfl⟩

end Go.Proofs.Ytfchenbihepjaaa
