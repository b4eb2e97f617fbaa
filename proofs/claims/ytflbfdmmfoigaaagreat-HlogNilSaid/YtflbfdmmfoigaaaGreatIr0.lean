import Derived.Test.YtflbfdmmfoigaaaGreatProg
import Derived.Test.YtflbfdmmfoigaaaGreatHxS
import Derived.KernelRfl
namespace Go.Proofs.YtflbfdmmfoigaaaGreat
open Go Go.HX
abbrev T.int64 : TypeId := 2
abbrev T.int : TypeId := 3
abbrev T.bool : TypeId := 4
abbrev T.uint8 : TypeId := 5
abbrev T.abi_BoundsErrorCode : TypeId := 6
abbrev T.string : TypeId := 9
abbrev T.uintptr : TypeId := 12
abbrev T.ptr_abi_Type : TypeId := 17
abbrev T.maps_unhashableTypeError : TypeId := 19
abbrev T.interface : TypeId := 20
abbrev T.int32 : TypeId := 21
abbrev T.api_Config : TypeId := 23
abbrev T.ptr_hlog_Log : TypeId := 25
abbrev T.uint64 : TypeId := 26
abbrev T.api_Errno : TypeId := 27
abbrev T.uint64_int_api_Errno : TypeId := 28
abbrev T.int_api_Errno : TypeId := 30
abbrev T.ptr_hlog_Log_api_Errno : TypeId := 32
abbrev T.ptr_pages_Buffer : TypeId := 39
abbrev T.ptr_marks_Set : TypeId := 41
abbrev T.ptr_tail_Tail : TypeId := 43
abbrev T.ptr_epoch_Table : TypeId := 45
abbrev T.ptr_device_Device : TypeId := 47
abbrev T.slice_api_Action : TypeId := 49
abbrev T.slice_haycroftlaw15_Act : TypeId := 52
abbrev T.ptr_haycroftref15_Log : TypeId := 53
abbrev T.ptr_hlog_Log_ptr_haycroftref15_Log_api_Errno_api_Errno : TypeId := 54
abbrev T.slice_slice_int : TypeId := 56
abbrev T.haycroftlaw15_Act : TypeId := 58
abbrev T.slice_int : TypeId := 62
abbrev T.slice_slice_uint64 : TypeId := 66
abbrev T.slice_uint64 : TypeId := 67
abbrev T.slice_uint64_api_Errno : TypeId := 68
abbrev T.string_bool : TypeId := 70
abbrev T.api_Block : TypeId := 73
abbrev T.int_slice_uint64_api_Errno : TypeId := 74
abbrev T.ptr_drain_List : TypeId := 77
abbrev T.map_int_int : TypeId := 78
abbrev T.hlog_Log : TypeId := 80
abbrev T.string_api_Errno : TypeId := 81
abbrev T.ptr_tail_Tail_api_Errno : TypeId := 84
abbrev T.ptr_pages_Buffer_api_Errno : TypeId := 86
abbrev T.ptr_epoch_Table_api_Errno : TypeId := 88
abbrev T.int_bool : TypeId := 92
abbrev T.iter_Seq_int : TypeId := 97
abbrev T.api_Action : TypeId := 102
abbrev T.ptr_haycroftref15_Log_api_Errno : TypeId := 106
abbrev T.ptr_haycroftref11_Device : TypeId := 108
abbrev T.slice_haycroftref11_Item : TypeId := 109
abbrev T.slice_haycroftref11_Job : TypeId := 110
abbrev T.haycroftref11_Device : TypeId := 112
abbrev T.ptr_haycroftref14_Tail : TypeId := 113
abbrev T.ptr_haycroftref12_Buffer : TypeId := 114
abbrev T.ptr_haycroftref13_Set : TypeId := 115
abbrev T.ptr_haycroftref06_Table : TypeId := 116
abbrev T.ptr_haycroftref07_List : TypeId := 117
abbrev T.slice_haycroftref15_Fly : TypeId := 118
abbrev T.haycroftref15_Log : TypeId := 120
abbrev T.int_int_api_Errno : TypeId := 123
abbrev T.haycroftref12_One : TypeId := 126
abbrev T.slice_haycroftref12_One : TypeId := 127
abbrev T.haycroftref12_Buffer : TypeId := 129
abbrev T.ptr_cell_Row : TypeId := 130
abbrev T.epoch_Table : TypeId := 132
abbrev T.pages_Buffer : TypeId := 134
abbrev T.marks_Set : TypeId := 137
abbrev T.map_api_Block_string : TypeId := 139
abbrev T.map_int_device_job : TypeId := 140
abbrev T.map_int_device_answer : TypeId := 141
abbrev T.device_Device : TypeId := 143
abbrev T.device_job : TypeId := 148
abbrev T.device_job_bool : TypeId := 149
abbrev T.device_answer : TypeId := 151
abbrev T.int_int : TypeId := 152
abbrev T.uint64_api_Errno : TypeId := 154
abbrev T.tail_Tail : TypeId := 156
abbrev T.uint : TypeId := 159
abbrev T.ptr_cell_Row_api_Errno : TypeId := 163
abbrev T.drain_List : TypeId := 167
abbrev T.bool_api_Errno : TypeId := 168
abbrev T.device_answer_bool : TypeId := 173
abbrev T.ptr_haycroftref14_Tail_api_Errno : TypeId := 178
abbrev T.ptr_haycroftref12_Buffer_api_Errno : TypeId := 180
abbrev T.ptr_haycroftref06_Table_api_Errno : TypeId := 182
abbrev T.arr_5_int : TypeId := 184
abbrev T.haycroftref13_Set : TypeId := 186
abbrev T.slice_bool : TypeId := 187
abbrev T.haycroftref07_List : TypeId := 189
abbrev T.haycroftref14_Tail : TypeId := 191
abbrev T.haycroftref06_Table : TypeId := 194
abbrev T.haycroftref15_Fly : TypeId := 197
abbrev T.haycroftref11_Job : TypeId := 199
abbrev T.struct : TypeId := 203
abbrev T.atomic_noCopy : TypeId := 204
abbrev T.atomic_align64 : TypeId := 205
abbrev T.atomic_Uint64 : TypeId := 207
abbrev T.slice_atomic_Uint64 : TypeId := 208
abbrev T.atomic_Int64 : TypeId := 210
abbrev T.cell_Row : TypeId := 212
abbrev T.slice_device_job : TypeId := 223
abbrev T.iter_Seq_haycroft_device_job : TypeId := 226
abbrev T.haycroftref11_Item : TypeId := 233
abbrev T.ptr_atomic_Uint64 : TypeId := 234
abbrev T.ptr_uint64 : TypeId := 236
abbrev T.slices_sortedHint : TypeId := 238
abbrev T.int_slices_sortedHint : TypeId := 239
abbrev T.uint32 : TypeId := 245
abbrev T.slice_uint8 : TypeId := 248
abbrev T.ptr_atomic_Int64 : TypeId := 253
abbrev T.ptr_int64 : TypeId := 255
abbrev T.slices_xorshift : TypeId := 256
abbrev T.ptr_int : TypeId := 259
abbrev T.ptr_slices_xorshift : TypeId := 262
abbrev T.abi_TFlag : TypeId := 270
abbrev T.abi_Kind : TypeId := 271
abbrev T.ptr_uint8 : TypeId := 273
abbrev T.abi_NameOff : TypeId := 274
abbrev T.abi_TypeOff : TypeId := 275
abbrev T.abi_Type : TypeId := 277
abbrev T.unsafe_Pointer : TypeId := 279
/-- haycroft/device.New: function 37 -/
abbrev F.device_New : FuncId := 37
def X.device_New : X :=
  .seq (.ops [⟨(some 0), none, .mv (.const (Go.Value.pointer none))⟩])
  (.seq (.ops [⟨(some 1), none, .more .mkm⟩,
    ⟨(some 2), none, .more .mkm⟩,
    ⟨(some 3), none, .more .mkm⟩,
    ⟨(some 4), none, .bld [(Go.Value.bool false), (Go.Value.map none), (Go.Value.map none), (Go.Value.map none), (Go.Value.int Go.IntKind.i64 0)] [(1, 1, (.tmp 1)), (2, 1, (.tmp 2)), (3, 1, (.tmp 3))]⟩,
    ⟨(some 5), none, .box 143 (.tmp 4)⟩,
    ⟨(some 0), none, .mv (.tmp 5)⟩])
  (.ret))
theorem is_device_New : FnIs Tryz.prog F.device_New X.device_New 6 [.tmp 0] := ⟨by kernel_rfl⟩

/-- haycroft/place.May: function 115 -/
abbrev F.place_May : FuncId := 115
def X.place_May : X :=
  .seq (.ops [⟨(some 2), none, .mv (.const (Go.Value.bool false))⟩])
  (.seq (.ops [⟨(some 3), none, .mv (.tmp 0)⟩,
    ⟨(some 4), none, .bin .geq 3 (.tmp 3) (.const (Go.Value.int Go.IntKind.i64 5))⟩,
    ⟨(some 5), none, .mv (.tmp 4)⟩,
    ⟨(some 6), (some (5, true)), .mv (.tmp 0)⟩,
    ⟨(some 7), (some (5, true)), .bin .leq 3 (.tmp 6) (.const (Go.Value.int Go.IntKind.i64 9))⟩,
    ⟨(some 8), none, .pick (.tmp 5) (.tmp 7) (.const (Go.Value.bool false))⟩,
    ⟨(some 2), none, .mv (.tmp 8)⟩])
  (.ret))
theorem is_place_May : FnIs Tryz.prog F.place_May X.place_May 9 [.tmp 2] := ⟨by kernel_rfl⟩

/-- haycroft/cell.New: function 116 -/
abbrev F.cell_New : FuncId := 116
def X.cell_New : X :=
  .seq (.ops [⟨(some 2), none, .mv (.const (Go.Value.pointer none))⟩,
    ⟨(some 3), none, .mv (.const (Go.Value.int Go.IntKind.i64 0))⟩])
  (.seq (.seq (.ops [⟨(some 4), none, .mv (.tmp 0)⟩,
    ⟨(some 5), none, .bin .lss 3 (.tmp 4) (.const (Go.Value.int Go.IntKind.i64 1))⟩,
    ⟨(some 6), none, .mv (.tmp 5)⟩,
    ⟨(some 7), (some (6, false)), .mv (.tmp 0)⟩,
    ⟨(some 8), (some (6, false)), .bin .gtr 3 (.tmp 7) (.const (Go.Value.int Go.IntKind.i64 65536))⟩,
    ⟨(some 9), none, .pick (.tmp 6) (.const (Go.Value.bool true)) (.tmp 8)⟩])
  (.cond (.tmp 9)
    (.seq (.ops [⟨(some 2), none, .mv (.const (Go.Value.pointer none))⟩,
      ⟨(some 3), none, .mv (.const (Go.Value.int Go.IntKind.i64 1))⟩])
    (.ret))
    (.skip)))
  (.seq (.ops [⟨(some 10), none, .mv (.tmp 0)⟩,
    ⟨(some 11), none, .mks 207 1 8 [(Go.Value.int Go.IntKind.u64 0)] (.tmp 10) (.tmp 10)⟩,
    ⟨(some 12), none, .bld [(Go.Value.slice none 0 0), (Go.Value.int Go.IntKind.i64 0), (Go.Value.int Go.IntKind.i64 0)] [(0, 1, (.tmp 11))]⟩,
    ⟨(some 13), none, .box 212 (.tmp 12)⟩,
    ⟨(some 2), none, .mv (.tmp 13)⟩,
    ⟨(some 3), none, .mv (.const (Go.Value.int Go.IntKind.i64 0))⟩])
  (.ret)))
theorem is_cell_New : FnIs Tryz.prog F.cell_New X.cell_New 14 [.tmp 2, .tmp 3] := ⟨by kernel_rfl⟩

/-- haycroft/tail.first: function 121 -/
abbrev F.tail_first : FuncId := 121
def X.tail_first : X :=
  .seq (.ops [⟨(some 2), none, .mv (.const (Go.Value.int Go.IntKind.i64 0))⟩])
  (.seq (.seq (.ops [⟨(some 3), none, .mv (.tmp 0)⟩,
    ⟨(some 4), none, .bin .eql 3 (.tmp 3) (.const (Go.Value.int Go.IntKind.i64 0))⟩])
  (.cond (.tmp 4)
    (.seq (.ops [⟨(some 2), none, .mv (.const (Go.Value.int Go.IntKind.i64 1))⟩])
    (.ret))
    (.skip)))
  (.seq (.ops [⟨(some 2), none, .mv (.const (Go.Value.int Go.IntKind.i64 0))⟩])
  (.ret)))
theorem is_tail_first : FnIs Tryz.prog F.tail_first X.tail_first 5 [.tmp 2] := ⟨by kernel_rfl⟩

/-- haycroft/tail.pack: function 120 -/
abbrev F.tail_pack : FuncId := 120
def X.tail_pack : X :=
  .seq (.ops [⟨(some 4), none, .mv (.const (Go.Value.int Go.IntKind.u64 0))⟩])
  (.seq (.ops [⟨(some 5), none, .mv (.tmp 0)⟩,
    ⟨(some 6), none, .conv Go.IntKind.u64 (.tmp 5)⟩,
    ⟨(some 7), none, .bin .shl 26 (.tmp 6) (.const (Go.Value.int Go.IntKind.u64 32))⟩,
    ⟨(some 8), none, .mv (.tmp 1)⟩,
    ⟨(some 9), none, .conv Go.IntKind.u64 (.tmp 8)⟩,
    ⟨(some 10), none, .bin .or 26 (.tmp 7) (.tmp 9)⟩,
    ⟨(some 4), none, .mv (.tmp 10)⟩])
  (.ret))
theorem is_tail_pack : FnIs Tryz.prog F.tail_pack X.tail_pack 11 [.tmp 4] := ⟨by kernel_rfl⟩

/-- (*haycroft/cell.Row).Len: function 165 -/
abbrev F.cell_Row_Len : FuncId := 165
def X.cell_Row_Len : X :=
  .seq (.ops [⟨(some 2), none, .mv (.const (Go.Value.int Go.IntKind.i64 0))⟩])
  (.seq (.seq (.ops [⟨(some 3), none, .mv (.tmp 0)⟩,
    ⟨(some 4), none, .eq false .ptr (.tmp 3) (.const (Go.Value.pointer none))⟩])
  (.cond (.tmp 4)
    (.seq (.ops [⟨(some 2), none, .mv (.const (Go.Value.int Go.IntKind.i64 0))⟩])
    (.ret))
    (.skip)))
  (.seq (.ops [⟨(some 5), none, .mv (.tmp 0)⟩,
    ⟨(some 6), none, .nilc (.tmp 5)⟩,
    ⟨(some 7), none, .fld (.tmp 6) 0⟩,
    ⟨(some 8), none, .ld (.tmp 7) none⟩,
    ⟨(some 9), none, .lenS (.tmp 8)⟩,
    ⟨(some 2), none, .mv (.tmp 9)⟩])
  (.ret)))
theorem is_cell_Row_Len : FnIs Tryz.prog F.cell_Row_Len X.cell_Row_Len 10 [.tmp 2] := ⟨by kernel_rfl⟩

/-- (*haycroft/cell.Row).there: function 166 -/
abbrev F.cell_Row_there : FuncId := 166
def X.cell_Row_there : X :=
  .seq (.ops [⟨(some 4), none, .mv (.const (Go.Value.bool false))⟩])
  (.seq (.ops [⟨(some 5), none, .mv (.tmp 1)⟩,
    ⟨(some 6), none, .bin .geq 3 (.tmp 5) (.const (Go.Value.int Go.IntKind.i64 0))⟩,
    ⟨(some 7), none, .mv (.tmp 6)⟩,
    ⟨(some 8), (some (7, true)), .mv (.tmp 1)⟩,
    ⟨(some 9), (some (7, true)), .mv (.tmp 0)⟩,
    ⟨(some 10), (some (7, true)), .call 165 [(.tmp 9)]⟩,
    ⟨(some 11), (some (7, true)), .bin .lss 3 (.tmp 8) (.tmp 10)⟩,
    ⟨(some 12), none, .pick (.tmp 7) (.tmp 11) (.const (Go.Value.bool false))⟩,
    ⟨(some 4), none, .mv (.tmp 12)⟩])
  (.ret))
theorem is_cell_Row_there : FnIs Tryz.prog F.cell_Row_there X.cell_Row_there 13 [.tmp 4] := ⟨by kernel_rfl⟩

/-- (*haycroft/cell.Row).may: function 173 -/
abbrev F.cell_Row_may : FuncId := 173
def X.cell_Row_may : X :=
  .seq (.ops [⟨(some 4), none, .mv (.const (Go.Value.int Go.IntKind.i64 0))⟩])
  (.seq (.block 0 (.seq (.ops [⟨(some 6), none, .mv (.tmp 0)⟩,
      ⟨(some 7), none, .eq false .ptr (.tmp 6) (.const (Go.Value.pointer none))⟩,
      ⟨(some 5), none, .mv (.tmp 7)⟩])
    (.cond (.tmp 5)
      (.seq (.ops [⟨(some 4), none, .mv (.const (Go.Value.int Go.IntKind.i64 2))⟩])
      (.ret))
      (.seq (.ops [⟨(some 9), none, .mv (.tmp 0)⟩,
        ⟨(some 10), none, .mv (.tmp 1)⟩,
        ⟨(some 11), none, .call 166 [(.tmp 9), (.tmp 10)]⟩,
        ⟨(some 12), none, .un .not (.tmp 11)⟩,
        ⟨(some 8), none, .mv (.tmp 12)⟩])
      (.cond (.tmp 8)
        (.seq (.ops [⟨(some 4), none, .mv (.const (Go.Value.int Go.IntKind.i64 1))⟩])
        (.ret))
        (.skip))))))
  (.seq (.ops [⟨(some 4), none, .mv (.const (Go.Value.int Go.IntKind.i64 0))⟩])
  (.ret)))
theorem is_cell_Row_may : FnIs Tryz.prog F.cell_Row_may X.cell_Row_may 13 [.tmp 4] := ⟨by kernel_rfl⟩

/-- sync/atomic.StoreUint64: function 211, without a body -/
abbrev F.atomic_StoreUint64 : FuncId := 211
theorem ext_atomic_StoreUint64 : ExtIs Tryz.prog F.atomic_StoreUint64 Tryz.f211 Extern.Atomic.storeT := ⟨Tryz.func211, by kernel_rfl, by kernel_rfl, by kernel_rfl, by kernel_rfl⟩

/-- (*sync/atomic.Uint64).Store: function 182 -/
abbrev F.atomic_Uint64_Store : FuncId := 182
def X.atomic_Uint64_Store : X :=
  .ops [⟨(some 4), none, .mv (.tmp 0)⟩,
    ⟨(some 5), none, .nilc (.tmp 4)⟩,
    ⟨(some 6), none, .fld (.tmp 5) 0⟩,
    ⟨(some 7), none, .mv (.tmp 1)⟩,
    ⟨(some 8), none, .ext1 211 [(.tmp 6), (.tmp 7)]⟩]
theorem is_atomic_Uint64_Store : FnIs Tryz.prog F.atomic_Uint64_Store X.atomic_Uint64_Store 9 [] := ⟨by kernel_rfl⟩

/-- (*haycroft/cell.Row).Store: function 117 -/
abbrev F.cell_Row_Store : FuncId := 117
def X.cell_Row_Store : X :=
  .seq (.ops [⟨(some 6), none, .mv (.const (Go.Value.int Go.IntKind.i64 0))⟩])
  (.seq (.ops [⟨(some 8), none, .mv (.tmp 0)⟩,
    ⟨(some 9), none, .mv (.tmp 1)⟩,
    ⟨(some 10), none, .call 173 [(.tmp 8), (.tmp 9)]⟩,
    ⟨(some 7), none, .mv (.tmp 10)⟩])
  (.seq (.seq (.ops [⟨(some 11), none, .mv (.tmp 7)⟩,
    ⟨(some 12), none, .bin .eql 27 (.tmp 11) (.const (Go.Value.int Go.IntKind.i64 0))⟩])
  (.cond (.tmp 12)
    (.ops [⟨(some 13), none, .mv (.tmp 0)⟩,
      ⟨(some 14), none, .nilc (.tmp 13)⟩,
      ⟨(some 15), none, .fld (.tmp 14) 0⟩,
      ⟨(some 16), none, .ld (.tmp 15) none⟩,
      ⟨(some 17), none, .mv (.tmp 1)⟩,
      ⟨(some 18), none, .idx (.tmp 16) (.tmp 17) 1⟩,
      ⟨(some 19), none, .mv (.tmp 2)⟩,
      ⟨(some 20), none, .call 182 [(.tmp 18), (.tmp 19)]⟩])
    (.skip)))
  (.seq (.ops [⟨(some 21), none, .mv (.tmp 7)⟩,
    ⟨(some 6), none, .mv (.tmp 21)⟩])
  (.ret))))
theorem is_cell_Row_Store : FnIs Tryz.prog F.cell_Row_Store X.cell_Row_Store 22 [.tmp 6] := ⟨by kernel_rfl⟩

/-- (*haycroft/tail.Tail).Begin: function 51 -/
abbrev F.tail_Tail_Begin : FuncId := 51
def X.tail_Tail_Begin : X :=
  .seq (.ops [⟨(some 4), none, .mv (.const (Go.Value.int Go.IntKind.i64 0))⟩])
  (.seq (.block 0 (.seq (.ops [⟨(some 6), none, .mv (.tmp 0)⟩,
      ⟨(some 7), none, .eq false .ptr (.tmp 6) (.const (Go.Value.pointer none))⟩,
      ⟨(some 5), none, .mv (.tmp 7)⟩])
    (.cond (.tmp 5)
      (.seq (.ops [⟨(some 4), none, .mv (.const (Go.Value.int Go.IntKind.i64 2))⟩])
      (.ret))
      (.seq (.ops [⟨(some 9), none, .mv (.tmp 1)⟩,
        ⟨(some 10), none, .bin .lss 3 (.tmp 9) (.const (Go.Value.int Go.IntKind.i64 0))⟩,
        ⟨(some 11), none, .mv (.tmp 10)⟩,
        ⟨(some 12), (some (11, false)), .mv (.tmp 1)⟩,
        ⟨(some 13), (some (11, false)), .mv (.tmp 0)⟩,
        ⟨(some 14), (some (11, false)), .nilc (.tmp 13)⟩,
        ⟨(some 15), (some (11, false)), .fld (.tmp 14) 1⟩,
        ⟨(some 16), (some (11, false)), .ld (.tmp 15) none⟩,
        ⟨(some 17), (some (11, false)), .bin .geq 3 (.tmp 12) (.tmp 16)⟩,
        ⟨(some 18), none, .pick (.tmp 11) (.const (Go.Value.bool true)) (.tmp 17)⟩,
        ⟨(some 8), none, .mv (.tmp 18)⟩])
      (.cond (.tmp 8)
        (.seq (.ops [⟨(some 4), none, .mv (.const (Go.Value.int Go.IntKind.i64 1))⟩])
        (.ret))
        (.skip))))))
  (.seq (.drawn [(0, ⟨(some 19), none, .mv (.tmp 0)⟩),
    (1, ⟨(some 20), none, .nilc (.tmp 19)⟩),
    (2, ⟨(some 21), none, .fld (.tmp 20) 2⟩),
    (3, ⟨(some 22), none, .ld (.tmp 21) none⟩),
    (4, ⟨(some 23), none, .mv (.tmp 1)⟩),
    (5, ⟨(some 24), none, .mv (.tmp 1)⟩),
    (6, ⟨(some 25), none, .call 121 [(.tmp 24)]⟩),
    (7, ⟨(some 26), none, .call 120 [(.tmp 23), (.tmp 25)]⟩),
    (8, ⟨(some 27), none, .call 117 [(.tmp 22), (.const (Go.Value.int Go.IntKind.i64 0)), (.tmp 26)]⟩),
    (9, ⟨(some 4), none, .mv (.tmp 27)⟩)]
    [[], [0], [1], [2], [], [], [5], [4, 6, 6], [3, 7, 7], [8, 8, 0, 1, 2, 3, 4, 5, 6, 7, 8]]
    [0, 1, 3, 7, 0, 0, 32, 112, 255, 511] 448)
  (.ret)))
theorem is_tail_Tail_Begin : FnIs Tryz.prog F.tail_Tail_Begin X.tail_Tail_Begin 28 [.tmp 4] := ⟨by kernel_rfl⟩

/-- haycroft/tail.New: function 43 -/
abbrev F.tail_New : FuncId := 43
def X.tail_New : X :=
  .seq (.ops [⟨(some 4), none, .mv (.const (Go.Value.pointer none))⟩,
    ⟨(some 5), none, .mv (.const (Go.Value.int Go.IntKind.i64 0))⟩])
  (.seq (.seq (.ops [⟨(some 9), none, .mv (.tmp 0)⟩,
    ⟨(some 10), none, .call 115 [(.tmp 9)]⟩,
    ⟨(some 11), none, .un .not (.tmp 10)⟩,
    ⟨(some 12), none, .mv (.tmp 11)⟩,
    ⟨(some 13), (some (12, false)), .mv (.tmp 1)⟩,
    ⟨(some 14), (some (12, false)), .bin .lss 3 (.tmp 13) (.const (Go.Value.int Go.IntKind.i64 1))⟩,
    ⟨(some 15), none, .pick (.tmp 12) (.const (Go.Value.bool true)) (.tmp 14)⟩,
    ⟨(some 16), none, .mv (.tmp 15)⟩,
    ⟨(some 17), (some (16, false)), .mv (.tmp 1)⟩,
    ⟨(some 18), (some (16, false)), .bin .gtr 3 (.tmp 17) (.const (Go.Value.int Go.IntKind.i64 64))⟩,
    ⟨(some 19), none, .pick (.tmp 16) (.const (Go.Value.bool true)) (.tmp 18)⟩])
  (.cond (.tmp 19)
    (.seq (.ops [⟨(some 4), none, .mv (.const (Go.Value.pointer none))⟩,
      ⟨(some 5), none, .mv (.const (Go.Value.int Go.IntKind.i64 1))⟩])
    (.ret))
    (.skip)))
  (.seq (.ops [⟨(some 21), none, .call 116 [(.const (Go.Value.int Go.IntKind.i64 1))]⟩,
    ⟨(some 20), none, .mv (.tmp 21)⟩,
    ⟨(some 22), none, .ext (.tmp 20) 0⟩,
    ⟨(some 23), none, .ext (.tmp 20) 1⟩,
    ⟨(some 6), none, .mv (.tmp 22)⟩,
    ⟨(some 7), none, .mv (.tmp 23)⟩])
  (.seq (.seq (.ops [⟨(some 24), none, .mv (.tmp 7)⟩,
    ⟨(some 25), none, .bin .neq 27 (.tmp 24) (.const (Go.Value.int Go.IntKind.i64 0))⟩])
  (.cond (.tmp 25)
    (.seq (.ops [⟨(some 26), none, .mv (.tmp 7)⟩,
      ⟨(some 4), none, .mv (.const (Go.Value.pointer none))⟩,
      ⟨(some 5), none, .mv (.tmp 26)⟩])
    (.ret))
    (.skip)))
  (.seq (.ops [⟨(some 27), none, .mv (.tmp 0)⟩,
    ⟨(some 28), none, .mv (.tmp 1)⟩,
    ⟨(some 29), none, .mv (.tmp 6)⟩,
    ⟨(some 30), none, .bld [(Go.Value.int Go.IntKind.i64 0), (Go.Value.int Go.IntKind.i64 0), (Go.Value.pointer none)] [(0, 1, (.tmp 27)), (1, 1, (.tmp 28)), (2, 1, (.tmp 29))]⟩,
    ⟨(some 31), none, .box 156 (.tmp 30)⟩,
    ⟨(some 8), none, .mv (.tmp 31)⟩])
  (.seq (.ops [⟨(some 32), none, .mv (.tmp 8)⟩,
    ⟨(some 33), none, .mv (.tmp 8)⟩,
    ⟨(some 34), none, .call 51 [(.tmp 33), (.const (Go.Value.int Go.IntKind.i64 0))]⟩,
    ⟨(some 4), none, .mv (.tmp 32)⟩,
    ⟨(some 5), none, .mv (.tmp 34)⟩])
  (.ret))))))
theorem is_tail_New : FnIs Tryz.prog F.tail_New X.tail_New 35 [.tmp 4, .tmp 5] := ⟨by kernel_rfl⟩

/-- haycroft/place.Size: function 100 -/
abbrev F.place_Size : FuncId := 100
def X.place_Size : X :=
  .seq (.ops [⟨(some 2), none, .mv (.const (Go.Value.int Go.IntKind.i64 0))⟩])
  (.seq (.seq (.ops [⟨(some 3), none, .mv (.tmp 0)⟩,
    ⟨(some 4), none, .call 115 [(.tmp 3)]⟩,
    ⟨(some 5), none, .un .not (.tmp 4)⟩])
  (.cond (.tmp 5)
    (.seq (.ops [⟨(some 2), none, .mv (.const (Go.Value.int Go.IntKind.i64 0))⟩])
    (.ret))
    (.skip)))
  (.seq (.ops [⟨(some 6), none, .mv (.tmp 0)⟩,
    ⟨(some 7), none, .bin .shl 3 (.const (Go.Value.int Go.IntKind.i64 1)) (.tmp 6)⟩,
    ⟨(some 2), none, .mv (.tmp 7)⟩])
  (.ret)))
theorem is_place_Size : FnIs Tryz.prog F.place_Size X.place_Size 8 [.tmp 2] := ⟨by kernel_rfl⟩

/-- haycroft/pages.New: function 44 -/
abbrev F.pages_New : FuncId := 44
def X.pages_New : X :=
  .seq (.ops [⟨(some 4), none, .mv (.const (Go.Value.pointer none))⟩,
    ⟨(some 5), none, .mv (.const (Go.Value.int Go.IntKind.i64 0))⟩])
  (.seq (.seq (.ops [⟨(some 9), none, .mv (.tmp 0)⟩,
    ⟨(some 10), none, .call 115 [(.tmp 9)]⟩,
    ⟨(some 11), none, .un .not (.tmp 10)⟩,
    ⟨(some 12), none, .mv (.tmp 11)⟩,
    ⟨(some 13), (some (12, false)), .mv (.tmp 1)⟩,
    ⟨(some 14), (some (12, false)), .bin .lss 3 (.tmp 13) (.const (Go.Value.int Go.IntKind.i64 2))⟩,
    ⟨(some 15), none, .pick (.tmp 12) (.const (Go.Value.bool true)) (.tmp 14)⟩,
    ⟨(some 16), none, .mv (.tmp 15)⟩,
    ⟨(some 17), (some (16, false)), .mv (.tmp 1)⟩,
    ⟨(some 18), (some (16, false)), .bin .gtr 3 (.tmp 17) (.const (Go.Value.int Go.IntKind.i64 8))⟩,
    ⟨(some 19), none, .pick (.tmp 16) (.const (Go.Value.bool true)) (.tmp 18)⟩])
  (.cond (.tmp 19)
    (.seq (.ops [⟨(some 4), none, .mv (.const (Go.Value.pointer none))⟩,
      ⟨(some 5), none, .mv (.const (Go.Value.int Go.IntKind.i64 1))⟩])
    (.ret))
    (.skip)))
  (.seq (.ops [⟨(some 21), none, .mv (.tmp 1)⟩,
    ⟨(some 22), none, .mv (.tmp 0)⟩,
    ⟨(some 23), none, .call 100 [(.tmp 22)]⟩,
    ⟨(some 24), none, .bin .mul 3 (.tmp 21) (.tmp 23)⟩,
    ⟨(some 25), none, .call 116 [(.tmp 24)]⟩,
    ⟨(some 20), none, .mv (.tmp 25)⟩,
    ⟨(some 26), none, .ext (.tmp 20) 0⟩,
    ⟨(some 27), none, .ext (.tmp 20) 1⟩,
    ⟨(some 6), none, .mv (.tmp 26)⟩,
    ⟨(some 7), none, .mv (.tmp 27)⟩])
  (.seq (.seq (.ops [⟨(some 28), none, .mv (.tmp 7)⟩,
    ⟨(some 29), none, .bin .neq 27 (.tmp 28) (.const (Go.Value.int Go.IntKind.i64 0))⟩])
  (.cond (.tmp 29)
    (.seq (.ops [⟨(some 30), none, .mv (.tmp 7)⟩,
      ⟨(some 4), none, .mv (.const (Go.Value.pointer none))⟩,
      ⟨(some 5), none, .mv (.tmp 30)⟩])
    (.ret))
    (.skip)))
  (.seq (.ops [⟨(some 32), none, .mv (.tmp 1)⟩,
    ⟨(some 33), none, .call 116 [(.tmp 32)]⟩,
    ⟨(some 31), none, .mv (.tmp 33)⟩,
    ⟨(some 34), none, .ext (.tmp 31) 0⟩,
    ⟨(some 35), none, .ext (.tmp 31) 1⟩,
    ⟨(some 8), none, .mv (.tmp 34)⟩,
    ⟨(some 7), none, .mv (.tmp 35)⟩])
  (.seq (.seq (.ops [⟨(some 36), none, .mv (.tmp 7)⟩,
    ⟨(some 37), none, .bin .neq 27 (.tmp 36) (.const (Go.Value.int Go.IntKind.i64 0))⟩])
  (.cond (.tmp 37)
    (.seq (.ops [⟨(some 38), none, .mv (.tmp 7)⟩,
      ⟨(some 4), none, .mv (.const (Go.Value.pointer none))⟩,
      ⟨(some 5), none, .mv (.tmp 38)⟩])
    (.ret))
    (.skip)))
  (.seq (.ops [⟨(some 39), none, .mv (.tmp 0)⟩,
    ⟨(some 40), none, .mv (.tmp 6)⟩,
    ⟨(some 41), none, .mv (.tmp 8)⟩,
    ⟨(some 42), none, .bld [(Go.Value.int Go.IntKind.i64 0), (Go.Value.pointer none), (Go.Value.pointer none)] [(0, 1, (.tmp 39)), (1, 1, (.tmp 40)), (2, 1, (.tmp 41))]⟩,
    ⟨(some 43), none, .box 134 (.tmp 42)⟩,
    ⟨(some 4), none, .mv (.tmp 43)⟩,
    ⟨(some 5), none, .mv (.const (Go.Value.int Go.IntKind.i64 0))⟩])
  (.ret)))))))
theorem is_pages_New : FnIs Tryz.prog F.pages_New X.pages_New 44 [.tmp 4, .tmp 5] := ⟨by kernel_rfl⟩

/-- haycroft/epoch.New: function 45 -/
abbrev F.epoch_New : FuncId := 45
def X.epoch_New : X :=
  .seq (.ops [⟨(some 2), none, .mv (.const (Go.Value.pointer none))⟩,
    ⟨(some 3), none, .mv (.const (Go.Value.int Go.IntKind.i64 0))⟩])
  (.seq (.seq (.ops [⟨(some 6), none, .mv (.tmp 0)⟩,
    ⟨(some 7), none, .bin .lss 3 (.tmp 6) (.const (Go.Value.int Go.IntKind.i64 1))⟩,
    ⟨(some 8), none, .mv (.tmp 7)⟩,
    ⟨(some 9), (some (8, false)), .mv (.tmp 0)⟩,
    ⟨(some 10), (some (8, false)), .bin .gtr 3 (.tmp 9) (.const (Go.Value.int Go.IntKind.i64 8))⟩,
    ⟨(some 11), none, .pick (.tmp 8) (.const (Go.Value.bool true)) (.tmp 10)⟩])
  (.cond (.tmp 11)
    (.seq (.ops [⟨(some 2), none, .mv (.const (Go.Value.pointer none))⟩,
      ⟨(some 3), none, .mv (.const (Go.Value.int Go.IntKind.i64 1))⟩])
    (.ret))
    (.skip)))
  (.seq (.ops [⟨(some 13), none, .mv (.tmp 0)⟩,
    ⟨(some 14), none, .bin .add 3 (.const (Go.Value.int Go.IntKind.i64 1)) (.tmp 13)⟩,
    ⟨(some 15), none, .call 116 [(.tmp 14)]⟩,
    ⟨(some 12), none, .mv (.tmp 15)⟩,
    ⟨(some 16), none, .ext (.tmp 12) 0⟩,
    ⟨(some 17), none, .ext (.tmp 12) 1⟩,
    ⟨(some 4), none, .mv (.tmp 16)⟩,
    ⟨(some 5), none, .mv (.tmp 17)⟩])
  (.seq (.seq (.ops [⟨(some 18), none, .mv (.tmp 5)⟩,
    ⟨(some 19), none, .bin .neq 27 (.tmp 18) (.const (Go.Value.int Go.IntKind.i64 0))⟩])
  (.cond (.tmp 19)
    (.seq (.ops [⟨(some 20), none, .mv (.tmp 5)⟩,
      ⟨(some 2), none, .mv (.const (Go.Value.pointer none))⟩,
      ⟨(some 3), none, .mv (.tmp 20)⟩])
    (.ret))
    (.skip)))
  (.seq (.ops [⟨(some 21), none, .mv (.tmp 4)⟩,
    ⟨(some 22), none, .call 117 [(.tmp 21), (.const (Go.Value.int Go.IntKind.i64 0)), (.const (Go.Value.int Go.IntKind.u64 1))]⟩])
  (.seq (.ops [⟨(some 23), none, .mv (.tmp 4)⟩,
    ⟨(some 24), none, .bld [(Go.Value.pointer none)] [(0, 1, (.tmp 23))]⟩,
    ⟨(some 25), none, .box 132 (.tmp 24)⟩,
    ⟨(some 2), none, .mv (.tmp 25)⟩,
    ⟨(some 3), none, .mv (.const (Go.Value.int Go.IntKind.i64 0))⟩])
  (.ret))))))
theorem is_epoch_New : FnIs Tryz.prog F.epoch_New X.epoch_New 26 [.tmp 2, .tmp 3] := ⟨by kernel_rfl⟩

/-- haycroft/marks.New: function 46 -/
abbrev F.marks_New : FuncId := 46
def X.marks_New : X :=
  .seq (.ops [⟨(some 0), none, .mv (.const (Go.Value.pointer none))⟩])
  (.seq (.ops [⟨(some 4), none, .call 116 [(.const (Go.Value.int Go.IntKind.i64 5))]⟩,
    ⟨(some 3), none, .mv (.tmp 4)⟩,
    ⟨(some 5), none, .ext (.tmp 3) 0⟩,
    ⟨(some 6), none, .ext (.tmp 3) 1⟩,
    ⟨(some 1), none, .mv (.tmp 5)⟩,
    ⟨(some 2), none, .mv (.tmp 6)⟩])
  (.seq (.ops [⟨(some 7), none, .mv (.tmp 1)⟩,
    ⟨(some 8), none, .bld [(Go.Value.pointer none)] [(0, 1, (.tmp 7))]⟩,
    ⟨(some 9), none, .box 137 (.tmp 8)⟩,
    ⟨(some 0), none, .mv (.tmp 9)⟩])
  (.ret)))
theorem is_marks_New : FnIs Tryz.prog F.marks_New X.marks_New 10 [.tmp 0] := ⟨by kernel_rfl⟩

/-- haycroft/drain.New: function 47 -/
abbrev F.drain_New : FuncId := 47
def X.drain_New : X :=
  .seq (.ops [⟨(some 0), none, .mv (.const (Go.Value.pointer none))⟩])
  (.seq (.ops [⟨(some 1), none, .bld [(Go.Value.slice none 0 0)] []⟩,
    ⟨(some 2), none, .box 167 (.tmp 1)⟩,
    ⟨(some 0), none, .mv (.tmp 2)⟩])
  (.ret))
theorem is_drain_New : FnIs Tryz.prog F.drain_New X.drain_New 3 [.tmp 0] := ⟨by kernel_rfl⟩

/-- (*haycroft/pages.Buffer).frame: function 98 -/
abbrev F.pages_Buffer_frame : FuncId := 98
def X.pages_Buffer_frame : X :=
  .seq (.ops [⟨(some 4), none, .mv (.const (Go.Value.int Go.IntKind.i64 0))⟩])
  (.seq (.ops [⟨(some 5), none, .mv (.tmp 1)⟩,
    ⟨(some 6), none, .mv (.tmp 0)⟩,
    ⟨(some 7), none, .nilc (.tmp 6)⟩,
    ⟨(some 8), none, .fld (.tmp 7) 2⟩,
    ⟨(some 9), none, .ld (.tmp 8) none⟩,
    ⟨(some 10), none, .call 165 [(.tmp 9)]⟩,
    ⟨(some 11), none, .bin .rem 3 (.tmp 5) (.tmp 10)⟩,
    ⟨(some 4), none, .mv (.tmp 11)⟩])
  (.ret))
theorem is_pages_Buffer_frame : FnIs Tryz.prog F.pages_Buffer_frame X.pages_Buffer_frame 12 [.tmp 4] := ⟨by kernel_rfl⟩

/-- sync/atomic.LoadUint64: function 194, without a body -/
abbrev F.atomic_LoadUint64 : FuncId := 194
theorem ext_atomic_LoadUint64 : ExtIs Tryz.prog F.atomic_LoadUint64 Tryz.f194 (Extern.Atomic.loadT (.int .u64)) := ⟨Tryz.func194, by kernel_rfl, by kernel_rfl, by kernel_rfl, by kernel_rfl⟩

/-- (*sync/atomic.Uint64).Load: function 167 -/
abbrev F.atomic_Uint64_Load : FuncId := 167
def X.atomic_Uint64_Load : X :=
  .seq (.ops [⟨(some 2), none, .mv (.const (Go.Value.int Go.IntKind.u64 0))⟩])
  (.seq (.ops [⟨(some 3), none, .mv (.tmp 0)⟩,
    ⟨(some 4), none, .nilc (.tmp 3)⟩,
    ⟨(some 5), none, .fld (.tmp 4) 0⟩,
    ⟨(some 6), none, .ext1 194 [(.tmp 5)]⟩,
    ⟨(some 2), none, .mv (.tmp 6)⟩])
  (.ret))
theorem is_atomic_Uint64_Load : FnIs Tryz.prog F.atomic_Uint64_Load X.atomic_Uint64_Load 7 [.tmp 2] := ⟨by kernel_rfl⟩

/-- (*haycroft/cell.Row).Load: function 94 -/
abbrev F.cell_Row_Load : FuncId := 94
def X.cell_Row_Load : X :=
  .seq (.ops [⟨(some 4), none, .mv (.const (Go.Value.int Go.IntKind.u64 0))⟩])
  (.seq (.seq (.ops [⟨(some 5), none, .mv (.tmp 0)⟩,
    ⟨(some 6), none, .mv (.tmp 1)⟩,
    ⟨(some 7), none, .call 166 [(.tmp 5), (.tmp 6)]⟩,
    ⟨(some 8), none, .un .not (.tmp 7)⟩])
  (.cond (.tmp 8)
    (.seq (.ops [⟨(some 4), none, .mv (.const (Go.Value.int Go.IntKind.u64 0))⟩])
    (.ret))
    (.skip)))
  (.seq (.ops [⟨(some 9), none, .mv (.tmp 0)⟩,
    ⟨(some 10), none, .nilc (.tmp 9)⟩,
    ⟨(some 11), none, .fld (.tmp 10) 0⟩,
    ⟨(some 12), none, .ld (.tmp 11) none⟩,
    ⟨(some 13), none, .mv (.tmp 1)⟩,
    ⟨(some 14), none, .idx (.tmp 12) (.tmp 13) 1⟩,
    ⟨(some 15), none, .call 167 [(.tmp 14)]⟩,
    ⟨(some 4), none, .mv (.tmp 15)⟩])
  (.ret)))
theorem is_cell_Row_Load : FnIs Tryz.prog F.cell_Row_Load X.cell_Row_Load 16 [.tmp 4] := ⟨by kernel_rfl⟩

/-- haycroft/pages.mark: function 99 -/
abbrev F.pages_mark : FuncId := 99
def X.pages_mark : X :=
  .seq (.ops [⟨(some 2), none, .mv (.const (Go.Value.int Go.IntKind.u64 0))⟩])
  (.seq (.ops [⟨(some 3), none, .mv (.tmp 0)⟩,
    ⟨(some 4), none, .conv Go.IntKind.u64 (.tmp 3)⟩,
    ⟨(some 5), none, .bin .add 26 (.tmp 4) (.const (Go.Value.int Go.IntKind.u64 1))⟩,
    ⟨(some 2), none, .mv (.tmp 5)⟩])
  (.ret))
theorem is_pages_mark : FnIs Tryz.prog F.pages_mark X.pages_mark 6 [.tmp 2] := ⟨by kernel_rfl⟩

/-- (*haycroft/pages.Buffer).Has: function 32 -/
abbrev F.pages_Buffer_Has : FuncId := 32
def X.pages_Buffer_Has : X :=
  .seq (.ops [⟨(some 4), none, .mv (.const (Go.Value.bool false))⟩])
  (.seq (.drawn [(0, ⟨(some 5), none, .mv (.tmp 0)⟩),
    (1, ⟨(some 6), none, .eq true .ptr (.tmp 5) (.const (Go.Value.pointer none))⟩),
    (2, ⟨(some 7), none, .mv (.tmp 6)⟩),
    (3, ⟨(some 8), (some (7, true)), .mv (.tmp 1)⟩),
    (4, ⟨(some 9), (some (7, true)), .bin .geq 3 (.tmp 8) (.const (Go.Value.int Go.IntKind.i64 0))⟩),
    (5, ⟨(some 10), none, .pick (.tmp 7) (.tmp 9) (.const (Go.Value.bool false))⟩),
    (6, ⟨(some 11), none, .mv (.tmp 10)⟩),
    (7, ⟨(some 12), (some (11, true)), .mv (.tmp 0)⟩),
    (8, ⟨(some 13), (some (11, true)), .nilc (.tmp 12)⟩),
    (9, ⟨(some 14), (some (11, true)), .fld (.tmp 13) 2⟩),
    (10, ⟨(some 15), (some (11, true)), .ld (.tmp 14) none⟩),
    (11, ⟨(some 16), (some (11, true)), .mv (.tmp 0)⟩),
    (12, ⟨(some 17), (some (11, true)), .mv (.tmp 1)⟩),
    (15, ⟨(some 20), (some (11, true)), .mv (.tmp 1)⟩),
    (13, ⟨(some 18), (some (11, true)), .call 98 [(.tmp 16), (.tmp 17)]⟩),
    (14, ⟨(some 19), (some (11, true)), .call 94 [(.tmp 15), (.tmp 18)]⟩),
    (16, ⟨(some 21), (some (11, true)), .call 99 [(.tmp 20)]⟩),
    (17, ⟨(some 22), (some (11, true)), .bin .eql 26 (.tmp 19) (.tmp 21)⟩),
    (18, ⟨(some 23), none, .pick (.tmp 11) (.tmp 22) (.const (Go.Value.bool false))⟩),
    (19, ⟨(some 4), none, .mv (.tmp 23)⟩)]
    [[], [0], [1], [2], [3, 2], [2, 4], [5, 2], [6], [7, 6], [8, 6], [9, 6], [6], [6], [11, 12, 6, 6], [10, 13, 13, 6], [6], [15, 14, 6], [14, 16, 6], [6, 17], [18, 16, 0, 1, 2, 3, 4, 5, 6, 7, 8, 9, 10, 11, 12, 13, 14, 15, 16, 17, 18]]
    [0, 1, 3, 7, 15, 31, 63, 127, 255, 511, 1023, 127, 127, 6271, 16383, 127, 65535, 131071, 262143, 524287] 90112)
  (.ret))
theorem is_pages_Buffer_Has : FnIs Tryz.prog F.pages_Buffer_Has X.pages_Buffer_Has 24 [.tmp 4] := ⟨by kernel_rfl⟩

/-- sync/atomic.CompareAndSwapUint64: function 212, without a body -/
abbrev F.atomic_CompareAndSwapUint64 : FuncId := 212
theorem ext_atomic_CompareAndSwapUint64 : ExtIs Tryz.prog F.atomic_CompareAndSwapUint64 Tryz.f212 (Extern.Atomic.casT (.int .u64)) := ⟨Tryz.func212, by kernel_rfl, by kernel_rfl, by kernel_rfl, by kernel_rfl⟩

/-- (*sync/atomic.Uint64).CompareAndSwap: function 183 -/
abbrev F.atomic_Uint64_CompareAndSwap : FuncId := 183
def X.atomic_Uint64_CompareAndSwap : X :=
  .seq (.ops [⟨(some 6), none, .mv (.const (Go.Value.bool false))⟩])
  (.seq (.ops [⟨(some 7), none, .mv (.tmp 0)⟩,
    ⟨(some 8), none, .nilc (.tmp 7)⟩,
    ⟨(some 9), none, .fld (.tmp 8) 0⟩,
    ⟨(some 10), none, .mv (.tmp 1)⟩,
    ⟨(some 11), none, .mv (.tmp 2)⟩,
    ⟨(some 12), none, .ext1 212 [(.tmp 9), (.tmp 10), (.tmp 11)]⟩,
    ⟨(some 6), none, .mv (.tmp 12)⟩])
  (.ret))
theorem is_atomic_Uint64_CompareAndSwap : FnIs Tryz.prog F.atomic_Uint64_CompareAndSwap X.atomic_Uint64_CompareAndSwap 13 [.tmp 6] := ⟨by kernel_rfl⟩

/-- sync/atomic.AddInt64: function 213, without a body -/
abbrev F.atomic_AddInt64 : FuncId := 213
theorem ext_atomic_AddInt64 : ExtIs Tryz.prog F.atomic_AddInt64 Tryz.f213 (Extern.Atomic.update (Op.intArith .add) .i64 true) := ⟨Tryz.func213, by kernel_rfl, by kernel_rfl, by kernel_rfl, by kernel_rfl⟩

/-- (*sync/atomic.Int64).Add: function 184 -/
abbrev F.atomic_Int64_Add : FuncId := 184
def X.atomic_Int64_Add : X :=
  .seq (.ops [⟨(some 4), none, .mv (.const (Go.Value.int Go.IntKind.i64 0))⟩])
  (.seq (.ops [⟨(some 5), none, .mv (.tmp 0)⟩,
    ⟨(some 6), none, .nilc (.tmp 5)⟩,
    ⟨(some 7), none, .fld (.tmp 6) 0⟩,
    ⟨(some 8), none, .mv (.tmp 1)⟩,
    ⟨(some 9), none, .ext1 213 [(.tmp 7), (.tmp 8)]⟩,
    ⟨(some 4), none, .mv (.tmp 9)⟩])
  (.ret))
theorem is_atomic_Int64_Add : FnIs Tryz.prog F.atomic_Int64_Add X.atomic_Int64_Add 10 [.tmp 4] := ⟨by kernel_rfl⟩

/-- (*haycroft/cell.Row).CAS: function 118 -/
abbrev F.cell_Row_CAS : FuncId := 118
def X.cell_Row_CAS : X :=
  .seq (.ops [⟨(some 8), none, .mv (.const (Go.Value.bool false))⟩,
    ⟨(some 9), none, .mv (.const (Go.Value.int Go.IntKind.i64 0))⟩])
  (.seq (.seq (.ops [⟨(some 12), none, .mv (.tmp 0)⟩,
    ⟨(some 13), none, .mv (.tmp 1)⟩,
    ⟨(some 14), none, .call 173 [(.tmp 12), (.tmp 13)]⟩,
    ⟨(some 10), none, .mv (.tmp 14)⟩])
  (.seq (.ops [⟨(some 15), none, .mv (.tmp 10)⟩,
    ⟨(some 16), none, .bin .neq 27 (.tmp 15) (.const (Go.Value.int Go.IntKind.i64 0))⟩])
  (.cond (.tmp 16)
    (.seq (.ops [⟨(some 17), none, .mv (.tmp 10)⟩,
      ⟨(some 8), none, .mv (.const (Go.Value.bool false))⟩,
      ⟨(some 9), none, .mv (.tmp 17)⟩])
    (.ret))
    (.skip))))
  (.seq (.ops [⟨(some 18), none, .mv (.tmp 0)⟩,
    ⟨(some 19), none, .nilc (.tmp 18)⟩,
    ⟨(some 20), none, .fld (.tmp 19) 0⟩,
    ⟨(some 21), none, .ld (.tmp 20) none⟩,
    ⟨(some 22), none, .mv (.tmp 1)⟩,
    ⟨(some 23), none, .idx (.tmp 21) (.tmp 22) 1⟩,
    ⟨(some 24), none, .mv (.tmp 2)⟩,
    ⟨(some 25), none, .mv (.tmp 3)⟩,
    ⟨(some 26), none, .call 183 [(.tmp 23), (.tmp 24), (.tmp 25)]⟩,
    ⟨(some 11), none, .mv (.tmp 26)⟩])
  (.seq (.seq (.ops [⟨(some 27), none, .mv (.tmp 11)⟩])
  (.cond (.tmp 27)
    (.ops [⟨(some 28), none, .mv (.tmp 0)⟩,
      ⟨(some 29), none, .nilc (.tmp 28)⟩,
      ⟨(some 30), none, .fld (.tmp 29) 1⟩,
      ⟨(some 31), none, .call 184 [(.tmp 30), (.const (Go.Value.int Go.IntKind.i64 1))]⟩])
    (.ops [⟨(some 32), none, .mv (.tmp 0)⟩,
      ⟨(some 33), none, .nilc (.tmp 32)⟩,
      ⟨(some 34), none, .fld (.tmp 33) 2⟩,
      ⟨(some 35), none, .call 184 [(.tmp 34), (.const (Go.Value.int Go.IntKind.i64 1))]⟩])))
  (.seq (.ops [⟨(some 36), none, .mv (.tmp 11)⟩,
    ⟨(some 8), none, .mv (.tmp 36)⟩,
    ⟨(some 9), none, .mv (.const (Go.Value.int Go.IntKind.i64 0))⟩])
  (.ret)))))
theorem is_cell_Row_CAS : FnIs Tryz.prog F.cell_Row_CAS X.cell_Row_CAS 37 [.tmp 8, .tmp 9] := ⟨by kernel_rfl⟩

/-- (*haycroft/cell.Row).within: function 170 -/
abbrev F.cell_Row_within : FuncId := 170
def X.cell_Row_within : X :=
  .seq (.ops [⟨(some 6), none, .mv (.const (Go.Value.int Go.IntKind.i64 0))⟩])
  (.seq (.block 0 (.seq (.ops [⟨(some 8), none, .mv (.tmp 0)⟩,
      ⟨(some 9), none, .eq false .ptr (.tmp 8) (.const (Go.Value.pointer none))⟩,
      ⟨(some 7), none, .mv (.tmp 9)⟩])
    (.cond (.tmp 7)
      (.seq (.ops [⟨(some 6), none, .mv (.const (Go.Value.int Go.IntKind.i64 2))⟩])
      (.ret))
      (.seq (.seq (.ops [⟨(some 11), none, .mv (.tmp 2)⟩,
        ⟨(some 12), none, .bin .lss 3 (.tmp 11) (.const (Go.Value.int Go.IntKind.i64 0))⟩,
        ⟨(some 10), none, .mv (.tmp 12)⟩])
      (.cond (.tmp 10)
        (.skip)
        (.seq (.ops [⟨(some 13), none, .mv (.tmp 1)⟩,
          ⟨(some 14), none, .bin .lss 3 (.tmp 13) (.const (Go.Value.int Go.IntKind.i64 0))⟩,
          ⟨(some 10), none, .mv (.tmp 14)⟩])
        (.cond (.tmp 10)
          (.skip)
          (.seq (.ops [⟨(some 15), none, .mv (.tmp 2)⟩,
            ⟨(some 16), none, .mv (.tmp 0)⟩,
            ⟨(some 17), none, .call 165 [(.tmp 16)]⟩,
            ⟨(some 18), none, .bin .gtr 3 (.tmp 15) (.tmp 17)⟩,
            ⟨(some 10), none, .mv (.tmp 18)⟩])
          (.cond (.tmp 10)
            (.skip)
            (.ops [⟨(some 19), none, .mv (.tmp 1)⟩,
              ⟨(some 20), none, .mv (.tmp 0)⟩,
              ⟨(some 21), none, .call 165 [(.tmp 20)]⟩,
              ⟨(some 22), none, .mv (.tmp 2)⟩,
              ⟨(some 23), none, .bin .sub 3 (.tmp 21) (.tmp 22)⟩,
              ⟨(some 24), none, .bin .gtr 3 (.tmp 19) (.tmp 23)⟩,
              ⟨(some 10), none, .mv (.tmp 24)⟩])))))))
      (.cond (.tmp 10)
        (.seq (.ops [⟨(some 6), none, .mv (.const (Go.Value.int Go.IntKind.i64 1))⟩])
        (.ret))
        (.skip))))))
  (.seq (.ops [⟨(some 6), none, .mv (.const (Go.Value.int Go.IntKind.i64 0))⟩])
  (.ret)))
theorem is_cell_Row_within : FnIs Tryz.prog F.cell_Row_within X.cell_Row_within 25 [.tmp 6] := ⟨by kernel_rfl⟩

-- loop (inner ones first): [0, 1, 18, 19, 20]
/-- (*haycroft/cell.Row).Fill: function 119 -/
abbrev F.cell_Row_Fill : FuncId := 119
def X.cell_Row_Fill : X :=
  .seq (.ops [⟨(some 6), none, .mv (.const (Go.Value.int Go.IntKind.i64 0))⟩])
  (.seq (.seq (.ops [⟨(some 10), none, .mv (.tmp 0)⟩,
    ⟨(some 11), none, .mv (.tmp 1)⟩,
    ⟨(some 12), none, .mv (.tmp 2)⟩,
    ⟨(some 13), none, .lenS (.tmp 12)⟩,
    ⟨(some 14), none, .call 170 [(.tmp 10), (.tmp 11), (.tmp 13)]⟩,
    ⟨(some 7), none, .mv (.tmp 14)⟩])
  (.seq (.ops [⟨(some 15), none, .mv (.tmp 7)⟩,
    ⟨(some 16), none, .bin .neq 27 (.tmp 15) (.const (Go.Value.int Go.IntKind.i64 0))⟩])
  (.cond (.tmp 16)
    (.seq (.ops [⟨(some 17), none, .mv (.tmp 7)⟩,
      ⟨(some 6), none, .mv (.tmp 17)⟩])
    (.ret))
    (.skip))))
  (.seq (.seq (.ops [⟨(some 18), none, .mv (.tmp 2)⟩,
    ⟨(some 19), none, .lenS (.tmp 18)⟩,
    ⟨(some 20), none, .mv (.const (Go.Value.int Go.IntKind.i64 0))⟩])
  (.block 0 (.loop (.seq (.ops [⟨(some 21), none, .bin .lss 3 (.tmp 20) (.tmp 19)⟩])
      (.seq (.cond (.tmp 21)
        (.skip)
        (.exit 0))
      (.seq (.block 1 (.seq (.ops [⟨(some 22), none, .mv (.tmp 20)⟩,
          ⟨(some 23), none, .idx (.tmp 18) (.tmp 20) 1⟩,
          ⟨(some 24), none, .ld (.tmp 23) none⟩,
          ⟨(some 8), none, .mv (.tmp 22)⟩,
          ⟨(some 9), none, .mv (.tmp 24)⟩])
        (.ops [⟨(some 25), none, .mv (.tmp 0)⟩,
          ⟨(some 26), none, .nilc (.tmp 25)⟩,
          ⟨(some 27), none, .fld (.tmp 26) 0⟩,
          ⟨(some 28), none, .ld (.tmp 27) none⟩,
          ⟨(some 29), none, .mv (.tmp 1)⟩,
          ⟨(some 30), none, .mv (.tmp 8)⟩,
          ⟨(some 31), none, .bin .add 3 (.tmp 29) (.tmp 30)⟩,
          ⟨(some 32), none, .idx (.tmp 28) (.tmp 31) 1⟩,
          ⟨(some 33), none, .mv (.tmp 9)⟩,
          ⟨(some 34), none, .call 182 [(.tmp 32), (.tmp 33)]⟩])))
      (.ops [⟨(some 35), none, .bin .add 3 (.tmp 20) (.const (Go.Value.int Go.IntKind.i64 1))⟩,
        ⟨(some 20), none, .mv (.tmp 35)⟩])))))))
  (.seq (.ops [⟨(some 6), none, .mv (.const (Go.Value.int Go.IntKind.i64 0))⟩])
  (.ret))))
theorem is_cell_Row_Fill : FnIs Tryz.prog F.cell_Row_Fill X.cell_Row_Fill 36 [.tmp 6] := ⟨by kernel_rfl⟩

/-- (*haycroft/pages.Buffer).Open: function 48 -/
abbrev F.pages_Buffer_Open : FuncId := 48
def X.pages_Buffer_Open : X :=
  .seq (.ops [⟨(some 4), none, .mv (.const (Go.Value.int Go.IntKind.i64 0))⟩])
  (.seq (.block 0 (.seq (.ops [⟨(some 10), none, .mv (.tmp 0)⟩,
      ⟨(some 11), none, .eq false .ptr (.tmp 10) (.const (Go.Value.pointer none))⟩,
      ⟨(some 9), none, .mv (.tmp 11)⟩])
    (.cond (.tmp 9)
      (.seq (.ops [⟨(some 4), none, .mv (.const (Go.Value.int Go.IntKind.i64 2))⟩])
      (.ret))
      (.seq (.ops [⟨(some 13), none, .mv (.tmp 1)⟩,
        ⟨(some 14), none, .bin .lss 3 (.tmp 13) (.const (Go.Value.int Go.IntKind.i64 0))⟩,
        ⟨(some 12), none, .mv (.tmp 14)⟩])
      (.cond (.tmp 12)
        (.seq (.ops [⟨(some 4), none, .mv (.const (Go.Value.int Go.IntKind.i64 1))⟩])
        (.ret))
        (.seq (.ops [⟨(some 16), none, .mv (.tmp 0)⟩,
          ⟨(some 17), none, .mv (.tmp 1)⟩,
          ⟨(some 18), none, .call 32 [(.tmp 16), (.tmp 17)]⟩,
          ⟨(some 15), none, .mv (.tmp 18)⟩])
        (.cond (.tmp 15)
          (.seq (.ops [⟨(some 4), none, .mv (.const (Go.Value.int Go.IntKind.i64 8))⟩])
          (.ret))
          (.skip))))))))
  (.seq (.ops [⟨(some 19), none, .mv (.tmp 0)⟩,
    ⟨(some 20), none, .mv (.tmp 1)⟩,
    ⟨(some 21), none, .call 98 [(.tmp 19), (.tmp 20)]⟩,
    ⟨(some 5), none, .mv (.tmp 21)⟩])
  (.seq (.drawn [(0, ⟨(some 23), none, .mv (.tmp 0)⟩),
    (1, ⟨(some 24), none, .nilc (.tmp 23)⟩),
    (2, ⟨(some 25), none, .fld (.tmp 24) 2⟩),
    (3, ⟨(some 26), none, .ld (.tmp 25) none⟩),
    (4, ⟨(some 27), none, .mv (.tmp 5)⟩),
    (5, ⟨(some 28), none, .mv (.tmp 1)⟩),
    (6, ⟨(some 29), none, .call 99 [(.tmp 28)]⟩),
    (7, ⟨(some 30), none, .call 118 [(.tmp 26), (.tmp 27), (.const (Go.Value.int Go.IntKind.u64 0)), (.tmp 29)]⟩),
    (8, ⟨(some 22), none, .mv (.tmp 30)⟩),
    (9, ⟨(some 31), none, .ext (.tmp 22) 0⟩),
    (10, ⟨(some 32), none, .ext (.tmp 22) 1⟩),
    (11, ⟨(some 6), none, .mv (.tmp 31)⟩),
    (12, ⟨(some 7), none, .mv (.tmp 32)⟩)]
    [[], [0], [1], [2], [], [], [5], [3, 4, 6, 6], [7], [8], [8], [9, 7, 0, 1, 2, 3, 4, 5, 6, 7, 8, 9], [10, 11, 0, 1, 2, 3, 4, 5, 6, 7, 8, 9, 10, 11]]
    [0, 1, 3, 7, 0, 0, 32, 127, 255, 511, 511, 1023, 4095] 192)
  (.seq (.seq (.ops [⟨(some 33), none, .mv (.tmp 6)⟩,
    ⟨(some 34), none, .un .not (.tmp 33)⟩])
  (.cond (.tmp 34)
    (.seq (.ops [⟨(some 4), none, .mv (.const (Go.Value.int Go.IntKind.i64 10))⟩])
    (.ret))
    (.skip)))
  (.seq (.ops [⟨(some 35), none, .mv (.tmp 0)⟩,
    ⟨(some 36), none, .nilc (.tmp 35)⟩,
    ⟨(some 37), none, .fld (.tmp 36) 0⟩,
    ⟨(some 38), none, .ld (.tmp 37) none⟩,
    ⟨(some 39), none, .call 100 [(.tmp 38)]⟩,
    ⟨(some 8), none, .mv (.tmp 39)⟩])
  (.seq (.drawn [(0, ⟨(some 40), none, .mv (.tmp 0)⟩),
    (1, ⟨(some 41), none, .nilc (.tmp 40)⟩),
    (2, ⟨(some 42), none, .fld (.tmp 41) 1⟩),
    (3, ⟨(some 43), none, .ld (.tmp 42) none⟩),
    (4, ⟨(some 44), none, .mv (.tmp 5)⟩),
    (5, ⟨(some 45), none, .mv (.tmp 8)⟩),
    (6, ⟨(some 46), none, .bin .mul 3 (.tmp 44) (.tmp 45)⟩),
    (7, ⟨(some 47), none, .mv (.tmp 8)⟩),
    (8, ⟨(some 48), none, .mks 26 1 8 [(Go.Value.int Go.IntKind.u64 0)] (.tmp 47) (.tmp 47)⟩),
    (9, ⟨(some 49), none, .call 119 [(.tmp 43), (.tmp 46), (.tmp 48)]⟩),
    (10, ⟨(some 4), none, .mv (.tmp 49)⟩)]
    [[], [0], [1], [2], [], [], [4, 5], [], [7, 7], [3, 6, 8], [9, 9, 0, 1, 2, 3, 4, 5, 6, 7, 8, 9]]
    [0, 1, 3, 7, 0, 0, 48, 0, 128, 511, 1023] 768)
  (.ret)))))))
theorem is_pages_Buffer_Open : FnIs Tryz.prog F.pages_Buffer_Open X.pages_Buffer_Open 50 [.tmp 4] := ⟨by kernel_rfl⟩

/-- haycroft/hlog.New: function 9 -/
abbrev F.hlog_New : FuncId := 9
def X.hlog_New : X :=
  .seq (.ops [⟨(some 2), none, .box 23 (.tmp 0)⟩,
    ⟨(some 4), none, .mv (.const (Go.Value.pointer none))⟩,
    ⟨(some 5), none, .mv (.const (Go.Value.int Go.IntKind.i64 0))⟩])
  (.seq (.seq (.ops [⟨(some 12), none, .mv (.tmp 1)⟩,
    ⟨(some 13), none, .eq false .ptr (.tmp 12) (.const (Go.Value.pointer none))⟩])
  (.cond (.tmp 13)
    (.seq (.ops [⟨(some 4), none, .mv (.const (Go.Value.pointer none))⟩,
      ⟨(some 5), none, .mv (.const (Go.Value.int Go.IntKind.i64 2))⟩])
    (.ret))
    (.skip)))
  (.seq (.ops [⟨(some 15), none, .fld (.tmp 2) 0⟩,
    ⟨(some 16), none, .ld (.tmp 15) none⟩,
    ⟨(some 17), none, .fld (.tmp 2) 2⟩,
    ⟨(some 18), none, .ld (.tmp 17) none⟩,
    ⟨(some 19), none, .call 43 [(.tmp 16), (.tmp 18)]⟩,
    ⟨(some 14), none, .mv (.tmp 19)⟩,
    ⟨(some 20), none, .ext (.tmp 14) 0⟩,
    ⟨(some 21), none, .ext (.tmp 14) 1⟩,
    ⟨(some 6), none, .mv (.tmp 20)⟩,
    ⟨(some 7), none, .mv (.tmp 21)⟩])
  (.seq (.ops [⟨(some 23), none, .fld (.tmp 2) 0⟩,
    ⟨(some 24), none, .ld (.tmp 23) none⟩,
    ⟨(some 25), none, .fld (.tmp 2) 1⟩,
    ⟨(some 26), none, .ld (.tmp 25) none⟩,
    ⟨(some 27), none, .call 44 [(.tmp 24), (.tmp 26)]⟩,
    ⟨(some 22), none, .mv (.tmp 27)⟩,
    ⟨(some 28), none, .ext (.tmp 22) 0⟩,
    ⟨(some 29), none, .ext (.tmp 22) 1⟩,
    ⟨(some 8), none, .mv (.tmp 28)⟩,
    ⟨(some 9), none, .mv (.tmp 29)⟩])
  (.seq (.ops [⟨(some 31), none, .fld (.tmp 2) 5⟩,
    ⟨(some 32), none, .ld (.tmp 31) none⟩,
    ⟨(some 33), none, .call 45 [(.tmp 32)]⟩,
    ⟨(some 30), none, .mv (.tmp 33)⟩,
    ⟨(some 34), none, .ext (.tmp 30) 0⟩,
    ⟨(some 35), none, .ext (.tmp 30) 1⟩,
    ⟨(some 10), none, .mv (.tmp 34)⟩,
    ⟨(some 11), none, .mv (.tmp 35)⟩])
  (.seq (.seq (.ops [⟨(some 36), none, .mv (.tmp 7)⟩,
    ⟨(some 37), none, .bin .neq 27 (.tmp 36) (.const (Go.Value.int Go.IntKind.i64 0))⟩,
    ⟨(some 38), none, .mv (.tmp 37)⟩,
    ⟨(some 39), (some (38, false)), .mv (.tmp 9)⟩,
    ⟨(some 40), (some (38, false)), .bin .neq 27 (.tmp 39) (.const (Go.Value.int Go.IntKind.i64 0))⟩,
    ⟨(some 41), none, .pick (.tmp 38) (.const (Go.Value.bool true)) (.tmp 40)⟩,
    ⟨(some 42), none, .mv (.tmp 41)⟩,
    ⟨(some 43), (some (42, false)), .mv (.tmp 11)⟩,
    ⟨(some 44), (some (42, false)), .bin .neq 27 (.tmp 43) (.const (Go.Value.int Go.IntKind.i64 0))⟩,
    ⟨(some 45), none, .pick (.tmp 42) (.const (Go.Value.bool true)) (.tmp 44)⟩])
  (.cond (.tmp 45)
    (.seq (.ops [⟨(some 4), none, .mv (.const (Go.Value.pointer none))⟩,
      ⟨(some 5), none, .mv (.const (Go.Value.int Go.IntKind.i64 1))⟩])
    (.ret))
    (.skip)))
  (.seq (.ops [⟨(some 46), none, .mv (.tmp 6)⟩,
    ⟨(some 47), none, .mv (.tmp 8)⟩,
    ⟨(some 48), none, .call 46 []⟩,
    ⟨(some 49), none, .mv (.tmp 10)⟩,
    ⟨(some 50), none, .call 47 []⟩,
    ⟨(some 51), none, .mv (.tmp 1)⟩,
    ⟨(some 52), none, .more .mkm⟩,
    ⟨(some 53), none, .more .mkm⟩,
    ⟨(some 54), none, .bld [(Go.Value.pointer none), (Go.Value.pointer none), (Go.Value.pointer none), (Go.Value.pointer none), (Go.Value.pointer none), (Go.Value.pointer none), (Go.Value.map none), (Go.Value.map none)] [(0, 1, (.tmp 46)), (1, 1, (.tmp 47)), (2, 1, (.tmp 48)), (3, 1, (.tmp 49)), (4, 1, (.tmp 50)), (5, 1, (.tmp 51)), (6, 1, (.tmp 52)), (7, 1, (.tmp 53))]⟩,
    ⟨(some 55), none, .box 80 (.tmp 54)⟩,
    ⟨(some 56), none, .mv (.tmp 8)⟩,
    ⟨(some 57), none, .call 48 [(.tmp 56), (.const (Go.Value.int Go.IntKind.i64 0))]⟩,
    ⟨(some 4), none, .mv (.tmp 55)⟩,
    ⟨(some 5), none, .mv (.tmp 57)⟩])
  (.ret)))))))
theorem is_hlog_New : FnIs Tryz.prog F.hlog_New X.hlog_New 58 [.tmp 4, .tmp 5] := ⟨by kernel_rfl⟩

/-- (*haycroft/tail.Tail).size: function 107 -/
abbrev F.tail_Tail_size : FuncId := 107
def X.tail_Tail_size : X :=
  .seq (.ops [⟨(some 2), none, .mv (.const (Go.Value.int Go.IntKind.i64 0))⟩])
  (.seq (.ops [⟨(some 3), none, .mv (.tmp 0)⟩,
    ⟨(some 4), none, .nilc (.tmp 3)⟩,
    ⟨(some 5), none, .fld (.tmp 4) 0⟩,
    ⟨(some 6), none, .ld (.tmp 5) none⟩,
    ⟨(some 7), none, .call 100 [(.tmp 6)]⟩,
    ⟨(some 2), none, .mv (.tmp 7)⟩])
  (.ret))
theorem is_tail_Tail_size : FnIs Tryz.prog F.tail_Tail_size X.tail_Tail_size 8 [.tmp 2] := ⟨by kernel_rfl⟩

/-- haycroft/field.Most: function 110 -/
abbrev F.field_Most : FuncId := 110
def X.field_Most : X :=
  .seq (.ops [⟨(some 2), none, .mv (.const (Go.Value.int Go.IntKind.u64 0))⟩])
  (.seq (.block 0 (.seq (.ops [⟨(some 4), none, .mv (.tmp 0)⟩,
      ⟨(some 5), none, .bin .lss 3 (.tmp 4) (.const (Go.Value.int Go.IntKind.i64 1))⟩,
      ⟨(some 3), none, .mv (.tmp 5)⟩])
    (.cond (.tmp 3)
      (.seq (.ops [⟨(some 2), none, .mv (.const (Go.Value.int Go.IntKind.u64 0))⟩])
      (.ret))
      (.seq (.ops [⟨(some 7), none, .mv (.tmp 0)⟩,
        ⟨(some 8), none, .bin .geq 3 (.tmp 7) (.const (Go.Value.int Go.IntKind.i64 64))⟩,
        ⟨(some 6), none, .mv (.tmp 8)⟩])
      (.cond (.tmp 6)
        (.seq (.ops [⟨(some 2), none, .mv (.const (Go.Value.int Go.IntKind.u64 18446744073709551615))⟩])
        (.ret))
        (.skip))))))
  (.seq (.ops [⟨(some 9), none, .mv (.tmp 0)⟩,
    ⟨(some 10), none, .bin .shl 26 (.const (Go.Value.int Go.IntKind.u64 1)) (.tmp 9)⟩,
    ⟨(some 11), none, .bin .sub 26 (.tmp 10) (.const (Go.Value.int Go.IntKind.u64 1))⟩,
    ⟨(some 2), none, .mv (.tmp 11)⟩])
  (.ret)))
theorem is_field_Most : FnIs Tryz.prog F.field_Most X.field_Most 12 [.tmp 2] := ⟨by kernel_rfl⟩

/-- (*haycroft/tail.Tail).now: function 106 -/
abbrev F.tail_Tail_now : FuncId := 106
def X.tail_Tail_now : X :=
  .seq (.ops [⟨(some 2), none, .mv (.const (Go.Value.int Go.IntKind.i64 0))⟩,
    ⟨(some 3), none, .mv (.const (Go.Value.int Go.IntKind.i64 0))⟩])
  (.seq (.ops [⟨(some 5), none, .mv (.tmp 0)⟩,
    ⟨(some 6), none, .nilc (.tmp 5)⟩,
    ⟨(some 7), none, .fld (.tmp 6) 2⟩,
    ⟨(some 8), none, .ld (.tmp 7) none⟩,
    ⟨(some 9), none, .call 94 [(.tmp 8), (.const (Go.Value.int Go.IntKind.i64 0))]⟩,
    ⟨(some 4), none, .mv (.tmp 9)⟩])
  (.seq (.ops [⟨(some 10), none, .mv (.tmp 4)⟩,
    ⟨(some 11), none, .bin .shr 26 (.tmp 10) (.const (Go.Value.int Go.IntKind.u64 32))⟩,
    ⟨(some 12), none, .conv Go.IntKind.i64 (.tmp 11)⟩,
    ⟨(some 13), none, .mv (.tmp 4)⟩,
    ⟨(some 14), none, .call 110 [(.const (Go.Value.int Go.IntKind.i64 32))]⟩,
    ⟨(some 15), none, .bin .and 26 (.tmp 13) (.tmp 14)⟩,
    ⟨(some 16), none, .conv Go.IntKind.i64 (.tmp 15)⟩,
    ⟨(some 2), none, .mv (.tmp 12)⟩,
    ⟨(some 3), none, .mv (.tmp 16)⟩])
  (.ret)))
theorem is_tail_Tail_now : FnIs Tryz.prog F.tail_Tail_now X.tail_Tail_now 17 [.tmp 2, .tmp 3] := ⟨by kernel_rfl⟩

/-- (*haycroft/tail.Tail).Over: function 54 -/
abbrev F.tail_Tail_Over : FuncId := 54
def X.tail_Tail_Over : X :=
  .seq (.ops [⟨(some 2), none, .mv (.const (Go.Value.bool false))⟩])
  (.seq (.seq (.ops [⟨(some 5), none, .mv (.tmp 0)⟩,
    ⟨(some 6), none, .eq false .ptr (.tmp 5) (.const (Go.Value.pointer none))⟩])
  (.cond (.tmp 6)
    (.seq (.ops [⟨(some 2), none, .mv (.const (Go.Value.bool false))⟩])
    (.ret))
    (.skip)))
  (.seq (.ops [⟨(some 8), none, .mv (.tmp 0)⟩,
    ⟨(some 9), none, .call 106 [(.tmp 8)]⟩,
    ⟨(some 7), none, .mv (.tmp 9)⟩,
    ⟨(some 10), none, .ext (.tmp 7) 0⟩,
    ⟨(some 11), none, .ext (.tmp 7) 1⟩,
    ⟨(some 3), none, .mv (.tmp 10)⟩,
    ⟨(some 4), none, .mv (.tmp 11)⟩])
  (.seq (.ops [⟨(some 12), none, .mv (.tmp 4)⟩,
    ⟨(some 13), none, .mv (.tmp 0)⟩,
    ⟨(some 14), none, .call 107 [(.tmp 13)]⟩,
    ⟨(some 15), none, .bin .gtr 3 (.tmp 12) (.tmp 14)⟩,
    ⟨(some 2), none, .mv (.tmp 15)⟩])
  (.ret))))
theorem is_tail_Tail_Over : FnIs Tryz.prog F.tail_Tail_Over X.tail_Tail_Over 16 [.tmp 2] := ⟨by kernel_rfl⟩

/-- (*haycroft/tail.Tail).Page: function 39 -/
abbrev F.tail_Tail_Page : FuncId := 39
def X.tail_Tail_Page : X :=
  .seq (.ops [⟨(some 2), none, .mv (.const (Go.Value.int Go.IntKind.i64 0))⟩])
  (.seq (.seq (.ops [⟨(some 5), none, .mv (.tmp 0)⟩,
    ⟨(some 6), none, .eq false .ptr (.tmp 5) (.const (Go.Value.pointer none))⟩])
  (.cond (.tmp 6)
    (.seq (.ops [⟨(some 2), none, .mv (.const (Go.Value.int Go.IntKind.i64 0))⟩])
    (.ret))
    (.skip)))
  (.seq (.ops [⟨(some 8), none, .mv (.tmp 0)⟩,
    ⟨(some 9), none, .call 106 [(.tmp 8)]⟩,
    ⟨(some 7), none, .mv (.tmp 9)⟩,
    ⟨(some 10), none, .ext (.tmp 7) 0⟩,
    ⟨(some 11), none, .ext (.tmp 7) 1⟩,
    ⟨(some 3), none, .mv (.tmp 10)⟩,
    ⟨(some 4), none, .mv (.tmp 11)⟩])
  (.seq (.ops [⟨(some 12), none, .mv (.tmp 3)⟩,
    ⟨(some 2), none, .mv (.tmp 12)⟩])
  (.ret))))
theorem is_tail_Tail_Page : FnIs Tryz.prog F.tail_Tail_Page X.tail_Tail_Page 13 [.tmp 2] := ⟨by kernel_rfl⟩

/-- (*haycroft/tail.Tail).Last: function 59 -/
abbrev F.tail_Tail_Last : FuncId := 59
def X.tail_Tail_Last : X :=
  .seq (.ops [⟨(some 2), none, .mv (.const (Go.Value.bool false))⟩])
  (.seq (.drawn [(0, ⟨(some 3), none, .mv (.tmp 0)⟩),
    (1, ⟨(some 4), none, .eq true .ptr (.tmp 3) (.const (Go.Value.pointer none))⟩),
    (2, ⟨(some 5), none, .mv (.tmp 4)⟩),
    (3, ⟨(some 6), (some (5, true)), .mv (.tmp 0)⟩),
    (6, ⟨(some 9), (some (5, true)), .mv (.tmp 0)⟩),
    (7, ⟨(some 10), (some (5, true)), .nilc (.tmp 9)⟩),
    (8, ⟨(some 11), (some (5, true)), .fld (.tmp 10) 1⟩),
    (9, ⟨(some 12), (some (5, true)), .ld (.tmp 11) none⟩),
    (4, ⟨(some 7), (some (5, true)), .call 39 [(.tmp 6)]⟩),
    (5, ⟨(some 8), (some (5, true)), .bin .add 3 (.tmp 7) (.const (Go.Value.int Go.IntKind.i64 1))⟩),
    (10, ⟨(some 13), (some (5, true)), .bin .geq 3 (.tmp 8) (.tmp 12)⟩),
    (11, ⟨(some 14), none, .pick (.tmp 5) (.tmp 13) (.const (Go.Value.bool false))⟩),
    (12, ⟨(some 2), none, .mv (.tmp 14)⟩)]
    [[], [0], [1], [2], [3, 2, 2], [4, 2], [2], [6, 2], [7, 2], [8, 2], [5, 9, 2], [2, 10], [11, 4, 0, 1, 2, 3, 4, 5, 6, 7, 8, 9, 10, 11]]
    [0, 1, 3, 7, 15, 31, 7, 71, 199, 455, 1023, 2047, 4095] 16)
  (.ret))
theorem is_tail_Tail_Last : FnIs Tryz.prog F.tail_Tail_Last X.tail_Tail_Last 15 [.tmp 2] := ⟨by kernel_rfl⟩

/-- (*haycroft/tail.Tail).none: function 108 -/
abbrev F.tail_Tail_none : FuncId := 108
def X.tail_Tail_none : X :=
  .seq (.ops [⟨(some 4), none, .mv (.const (Go.Value.int Go.IntKind.i64 0))⟩])
  (.seq (.seq (.ops [⟨(some 5), none, .mv (.tmp 0)⟩,
    ⟨(some 6), none, .call 59 [(.tmp 5)]⟩])
  (.cond (.tmp 6)
    (.seq (.ops [⟨(some 4), none, .mv (.const (Go.Value.int Go.IntKind.i64 4))⟩])
    (.ret))
    (.skip)))
  (.seq (.ops [⟨(some 7), none, .mv (.tmp 1)⟩,
    ⟨(some 4), none, .mv (.tmp 7)⟩])
  (.ret)))
theorem is_tail_Tail_none : FnIs Tryz.prog F.tail_Tail_none X.tail_Tail_none 8 [.tmp 4] := ⟨by kernel_rfl⟩

/-- sync/atomic.AddUint64: function 207, without a body -/
abbrev F.atomic_AddUint64 : FuncId := 207
theorem ext_atomic_AddUint64 : ExtIs Tryz.prog F.atomic_AddUint64 Tryz.f207 (Extern.Atomic.update (Op.intArith .add) .u64 true) := ⟨Tryz.func207, by kernel_rfl, by kernel_rfl, by kernel_rfl, by kernel_rfl⟩

/-- (*sync/atomic.Uint64).Add: function 174 -/
abbrev F.atomic_Uint64_Add : FuncId := 174
def X.atomic_Uint64_Add : X :=
  .seq (.ops [⟨(some 4), none, .mv (.const (Go.Value.int Go.IntKind.u64 0))⟩])
  (.seq (.ops [⟨(some 5), none, .mv (.tmp 0)⟩,
    ⟨(some 6), none, .nilc (.tmp 5)⟩,
    ⟨(some 7), none, .fld (.tmp 6) 0⟩,
    ⟨(some 8), none, .mv (.tmp 1)⟩,
    ⟨(some 9), none, .ext1 207 [(.tmp 7), (.tmp 8)]⟩,
    ⟨(some 4), none, .mv (.tmp 9)⟩])
  (.ret))
theorem is_atomic_Uint64_Add : FnIs Tryz.prog F.atomic_Uint64_Add X.atomic_Uint64_Add 10 [.tmp 4] := ⟨by kernel_rfl⟩

/-- (*haycroft/cell.Row).Add: function 109 -/
abbrev F.cell_Row_Add : FuncId := 109
def X.cell_Row_Add : X :=
  .seq (.ops [⟨(some 6), none, .mv (.const (Go.Value.int Go.IntKind.u64 0))⟩,
    ⟨(some 7), none, .mv (.const (Go.Value.int Go.IntKind.i64 0))⟩])
  (.seq (.seq (.ops [⟨(some 9), none, .mv (.tmp 0)⟩,
    ⟨(some 10), none, .mv (.tmp 1)⟩,
    ⟨(some 11), none, .call 173 [(.tmp 9), (.tmp 10)]⟩,
    ⟨(some 8), none, .mv (.tmp 11)⟩])
  (.seq (.ops [⟨(some 12), none, .mv (.tmp 8)⟩,
    ⟨(some 13), none, .bin .neq 27 (.tmp 12) (.const (Go.Value.int Go.IntKind.i64 0))⟩])
  (.cond (.tmp 13)
    (.seq (.ops [⟨(some 14), none, .mv (.tmp 8)⟩,
      ⟨(some 6), none, .mv (.const (Go.Value.int Go.IntKind.u64 0))⟩,
      ⟨(some 7), none, .mv (.tmp 14)⟩])
    (.ret))
    (.skip))))
  (.seq (.ops [⟨(some 15), none, .mv (.tmp 0)⟩,
    ⟨(some 16), none, .nilc (.tmp 15)⟩,
    ⟨(some 17), none, .fld (.tmp 16) 0⟩,
    ⟨(some 18), none, .ld (.tmp 17) none⟩,
    ⟨(some 19), none, .mv (.tmp 1)⟩,
    ⟨(some 20), none, .idx (.tmp 18) (.tmp 19) 1⟩,
    ⟨(some 21), none, .mv (.tmp 2)⟩,
    ⟨(some 22), none, .call 174 [(.tmp 20), (.tmp 21)]⟩,
    ⟨(some 23), none, .mv (.tmp 2)⟩,
    ⟨(some 24), none, .bin .sub 26 (.tmp 22) (.tmp 23)⟩,
    ⟨(some 6), none, .mv (.tmp 24)⟩,
    ⟨(some 7), none, .mv (.const (Go.Value.int Go.IntKind.i64 0))⟩])
  (.ret)))
theorem is_cell_Row_Add : FnIs Tryz.prog F.cell_Row_Add X.cell_Row_Add 25 [.tmp 6, .tmp 7] := ⟨by kernel_rfl⟩

/-- haycroft/place.Of: function 175 -/
abbrev F.place_Of : FuncId := 175
def X.place_Of : X :=
  .seq (.ops [⟨(some 6), none, .mv (.const (Go.Value.int Go.IntKind.u64 0))⟩,
    ⟨(some 7), none, .mv (.const (Go.Value.int Go.IntKind.i64 0))⟩])
  (.seq (.block 0 (.seq (.seq (.ops [⟨(some 9), none, .mv (.tmp 0)⟩,
      ⟨(some 10), none, .call 115 [(.tmp 9)]⟩,
      ⟨(some 11), none, .un .not (.tmp 10)⟩,
      ⟨(some 8), none, .mv (.tmp 11)⟩])
    (.cond (.tmp 8)
      (.skip)
      (.seq (.ops [⟨(some 12), none, .mv (.tmp 1)⟩,
        ⟨(some 13), none, .bin .lss 3 (.tmp 12) (.const (Go.Value.int Go.IntKind.i64 0))⟩,
        ⟨(some 8), none, .mv (.tmp 13)⟩])
      (.cond (.tmp 8)
        (.skip)
        (.seq (.ops [⟨(some 14), none, .mv (.tmp 2)⟩,
          ⟨(some 15), none, .bin .lss 3 (.tmp 14) (.const (Go.Value.int Go.IntKind.i64 0))⟩,
          ⟨(some 8), none, .mv (.tmp 15)⟩])
        (.cond (.tmp 8)
          (.skip)
          (.ops [⟨(some 16), none, .mv (.tmp 2)⟩,
            ⟨(some 17), none, .mv (.tmp 0)⟩,
            ⟨(some 18), none, .call 100 [(.tmp 17)]⟩,
            ⟨(some 19), none, .bin .geq 3 (.tmp 16) (.tmp 18)⟩,
            ⟨(some 8), none, .mv (.tmp 19)⟩])))))))
    (.cond (.tmp 8)
      (.seq (.ops [⟨(some 6), none, .mv (.const (Go.Value.int Go.IntKind.u64 0))⟩,
        ⟨(some 7), none, .mv (.const (Go.Value.int Go.IntKind.i64 1))⟩])
      (.ret))
      (.seq (.ops [⟨(some 21), none, .mv (.tmp 1)⟩,
        ⟨(some 22), none, .conv Go.IntKind.u64 (.tmp 21)⟩,
        ⟨(some 23), none, .mv (.tmp 0)⟩,
        ⟨(some 24), none, .bin .shr 26 (.const (Go.Value.int Go.IntKind.u64 281474976710655)) (.tmp 23)⟩,
        ⟨(some 25), none, .bin .gtr 26 (.tmp 22) (.tmp 24)⟩,
        ⟨(some 20), none, .mv (.tmp 25)⟩])
      (.cond (.tmp 20)
        (.seq (.ops [⟨(some 6), none, .mv (.const (Go.Value.int Go.IntKind.u64 0))⟩,
          ⟨(some 7), none, .mv (.const (Go.Value.int Go.IntKind.i64 13))⟩])
        (.ret))
        (.skip))))))
  (.seq (.ops [⟨(some 26), none, .mv (.tmp 1)⟩,
    ⟨(some 27), none, .conv Go.IntKind.u64 (.tmp 26)⟩,
    ⟨(some 28), none, .mv (.tmp 0)⟩,
    ⟨(some 29), none, .bin .shl 26 (.tmp 27) (.tmp 28)⟩,
    ⟨(some 30), none, .mv (.tmp 2)⟩,
    ⟨(some 31), none, .conv Go.IntKind.u64 (.tmp 30)⟩,
    ⟨(some 32), none, .bin .or 26 (.tmp 29) (.tmp 31)⟩,
    ⟨(some 6), none, .mv (.tmp 32)⟩,
    ⟨(some 7), none, .mv (.const (Go.Value.int Go.IntKind.i64 0))⟩])
  (.ret)))
theorem is_place_Of : FnIs Tryz.prog F.place_Of X.place_Of 33 [.tmp 6, .tmp 7] := ⟨by kernel_rfl⟩

/-- haycroft/place.First: function 111 -/
abbrev F.place_First : FuncId := 111
def X.place_First : X :=
  .seq (.ops [⟨(some 4), none, .mv (.const (Go.Value.int Go.IntKind.u64 0))⟩])
  (.seq (.ops [⟨(some 8), none, .mv (.tmp 0)⟩,
    ⟨(some 9), none, .mv (.tmp 1)⟩,
    ⟨(some 10), none, .call 175 [(.tmp 8), (.tmp 9), (.const (Go.Value.int Go.IntKind.i64 0))]⟩,
    ⟨(some 7), none, .mv (.tmp 10)⟩,
    ⟨(some 11), none, .ext (.tmp 7) 0⟩,
    ⟨(some 12), none, .ext (.tmp 7) 1⟩,
    ⟨(some 5), none, .mv (.tmp 11)⟩,
    ⟨(some 6), none, .mv (.tmp 12)⟩])
  (.seq (.ops [⟨(some 13), none, .mv (.tmp 5)⟩,
    ⟨(some 4), none, .mv (.tmp 13)⟩])
  (.ret)))
theorem is_place_First : FnIs Tryz.prog F.place_First X.place_First 14 [.tmp 4] := ⟨by kernel_rfl⟩

/-- (*haycroft/tail.Tail).Take: function 40 -/
abbrev F.tail_Tail_Take : FuncId := 40
def X.tail_Tail_Take : X :=
  .seq (.ops [⟨(some 4), none, .mv (.const (Go.Value.int Go.IntKind.u64 0))⟩,
    ⟨(some 5), none, .mv (.const (Go.Value.int Go.IntKind.i64 0))⟩,
    ⟨(some 6), none, .mv (.const (Go.Value.int Go.IntKind.i64 0))⟩])
  (.seq (.block 0 (.seq (.ops [⟨(some 11), none, .mv (.tmp 0)⟩,
      ⟨(some 12), none, .eq false .ptr (.tmp 11) (.const (Go.Value.pointer none))⟩,
      ⟨(some 10), none, .mv (.tmp 12)⟩])
    (.cond (.tmp 10)
      (.seq (.ops [⟨(some 4), none, .mv (.const (Go.Value.int Go.IntKind.u64 0))⟩,
        ⟨(some 5), none, .mv (.const (Go.Value.int Go.IntKind.i64 0))⟩,
        ⟨(some 6), none, .mv (.const (Go.Value.int Go.IntKind.i64 2))⟩])
      (.ret))
      (.seq (.ops [⟨(some 14), none, .mv (.tmp 1)⟩,
        ⟨(some 15), none, .bin .lss 3 (.tmp 14) (.const (Go.Value.int Go.IntKind.i64 1))⟩,
        ⟨(some 13), none, .mv (.tmp 15)⟩])
      (.cond (.tmp 13)
        (.seq (.ops [⟨(some 4), none, .mv (.const (Go.Value.int Go.IntKind.u64 0))⟩,
          ⟨(some 5), none, .mv (.const (Go.Value.int Go.IntKind.i64 0))⟩,
          ⟨(some 6), none, .mv (.const (Go.Value.int Go.IntKind.i64 1))⟩])
        (.ret))
        (.seq (.ops [⟨(some 17), none, .mv (.tmp 1)⟩,
          ⟨(some 18), none, .mv (.tmp 0)⟩,
          ⟨(some 19), none, .call 107 [(.tmp 18)]⟩,
          ⟨(some 20), none, .bin .gtr 3 (.tmp 17) (.tmp 19)⟩,
          ⟨(some 16), none, .mv (.tmp 20)⟩])
        (.cond (.tmp 16)
          (.seq (.ops [⟨(some 4), none, .mv (.const (Go.Value.int Go.IntKind.u64 0))⟩,
            ⟨(some 5), none, .mv (.const (Go.Value.int Go.IntKind.i64 0))⟩,
            ⟨(some 6), none, .mv (.const (Go.Value.int Go.IntKind.i64 5))⟩])
          (.ret))
          (.seq (.ops [⟨(some 22), none, .mv (.tmp 0)⟩,
            ⟨(some 23), none, .call 54 [(.tmp 22)]⟩,
            ⟨(some 21), none, .mv (.tmp 23)⟩])
          (.cond (.tmp 21)
            (.seq (.ops [⟨(some 24), none, .mv (.tmp 0)⟩,
              ⟨(some 25), none, .call 108 [(.tmp 24), (.const (Go.Value.int Go.IntKind.i64 3))]⟩,
              ⟨(some 4), none, .mv (.const (Go.Value.int Go.IntKind.u64 0))⟩,
              ⟨(some 5), none, .mv (.tmp 25)⟩,
              ⟨(some 6), none, .mv (.const (Go.Value.int Go.IntKind.i64 0))⟩])
            (.ret))
            (.skip))))))))))
  (.seq (.ops [⟨(some 27), none, .mv (.tmp 0)⟩,
    ⟨(some 28), none, .nilc (.tmp 27)⟩,
    ⟨(some 29), none, .fld (.tmp 28) 2⟩,
    ⟨(some 30), none, .ld (.tmp 29) none⟩,
    ⟨(some 31), none, .mv (.tmp 1)⟩,
    ⟨(some 32), none, .conv Go.IntKind.u64 (.tmp 31)⟩,
    ⟨(some 33), none, .call 109 [(.tmp 30), (.const (Go.Value.int Go.IntKind.i64 0)), (.tmp 32)]⟩,
    ⟨(some 26), none, .mv (.tmp 33)⟩,
    ⟨(some 34), none, .ext (.tmp 26) 0⟩,
    ⟨(some 35), none, .ext (.tmp 26) 1⟩,
    ⟨(some 7), none, .mv (.tmp 34)⟩,
    ⟨(some 8), none, .mv (.tmp 35)⟩])
  (.seq (.seq (.ops [⟨(some 36), none, .mv (.tmp 8)⟩,
    ⟨(some 37), none, .bin .neq 27 (.tmp 36) (.const (Go.Value.int Go.IntKind.i64 0))⟩])
  (.cond (.tmp 37)
    (.seq (.ops [⟨(some 38), none, .mv (.tmp 8)⟩,
      ⟨(some 4), none, .mv (.const (Go.Value.int Go.IntKind.u64 0))⟩,
      ⟨(some 5), none, .mv (.const (Go.Value.int Go.IntKind.i64 0))⟩,
      ⟨(some 6), none, .mv (.tmp 38)⟩])
    (.ret))
    (.skip)))
  (.seq (.ops [⟨(some 39), none, .mv (.tmp 7)⟩,
    ⟨(some 40), none, .call 110 [(.const (Go.Value.int Go.IntKind.i64 32))]⟩,
    ⟨(some 41), none, .bin .and 26 (.tmp 39) (.tmp 40)⟩,
    ⟨(some 42), none, .conv Go.IntKind.i64 (.tmp 41)⟩,
    ⟨(some 9), none, .mv (.tmp 42)⟩])
  (.seq (.seq (.ops [⟨(some 43), none, .mv (.tmp 9)⟩,
    ⟨(some 44), none, .mv (.tmp 1)⟩,
    ⟨(some 45), none, .bin .add 3 (.tmp 43) (.tmp 44)⟩,
    ⟨(some 46), none, .mv (.tmp 0)⟩,
    ⟨(some 47), none, .call 107 [(.tmp 46)]⟩,
    ⟨(some 48), none, .bin .gtr 3 (.tmp 45) (.tmp 47)⟩])
  (.cond (.tmp 48)
    (.seq (.ops [⟨(some 49), none, .mv (.tmp 0)⟩,
      ⟨(some 50), none, .call 108 [(.tmp 49), (.const (Go.Value.int Go.IntKind.i64 2))]⟩,
      ⟨(some 4), none, .mv (.const (Go.Value.int Go.IntKind.u64 0))⟩,
      ⟨(some 5), none, .mv (.tmp 50)⟩,
      ⟨(some 6), none, .mv (.const (Go.Value.int Go.IntKind.i64 0))⟩])
    (.ret))
    (.skip)))
  (.seq (.ops [⟨(some 51), none, .mv (.tmp 0)⟩,
    ⟨(some 52), none, .nilc (.tmp 51)⟩,
    ⟨(some 53), none, .fld (.tmp 52) 0⟩,
    ⟨(some 54), none, .ld (.tmp 53) none⟩,
    ⟨(some 55), none, .mv (.tmp 7)⟩,
    ⟨(some 56), none, .bin .shr 26 (.tmp 55) (.const (Go.Value.int Go.IntKind.u64 32))⟩,
    ⟨(some 57), none, .conv Go.IntKind.i64 (.tmp 56)⟩,
    ⟨(some 58), none, .call 111 [(.tmp 54), (.tmp 57)]⟩,
    ⟨(some 59), none, .mv (.tmp 9)⟩,
    ⟨(some 60), none, .conv Go.IntKind.u64 (.tmp 59)⟩,
    ⟨(some 61), none, .bin .add 26 (.tmp 58) (.tmp 60)⟩,
    ⟨(some 4), none, .mv (.tmp 61)⟩,
    ⟨(some 5), none, .mv (.const (Go.Value.int Go.IntKind.i64 1))⟩,
    ⟨(some 6), none, .mv (.const (Go.Value.int Go.IntKind.i64 0))⟩])
  (.ret)))))))
theorem is_tail_Tail_Take : FnIs Tryz.prog F.tail_Tail_Take X.tail_Tail_Take 62 [.tmp 4, .tmp 5, .tmp 6] := ⟨by kernel_rfl⟩

/-- (*haycroft/hlog.Log).Take: function 7 -/
abbrev F.hlog_Log_Take : FuncId := 7
def X.hlog_Log_Take : X :=
  .seq (.ops [⟨(some 4), none, .mv (.const (Go.Value.int Go.IntKind.u64 0))⟩,
    ⟨(some 5), none, .mv (.const (Go.Value.int Go.IntKind.i64 0))⟩,
    ⟨(some 6), none, .mv (.const (Go.Value.int Go.IntKind.i64 0))⟩])
  (.seq (.seq (.ops [⟨(some 7), none, .mv (.tmp 0)⟩,
    ⟨(some 8), none, .eq false .ptr (.tmp 7) (.const (Go.Value.pointer none))⟩])
  (.cond (.tmp 8)
    (.seq (.ops [⟨(some 4), none, .mv (.const (Go.Value.int Go.IntKind.u64 0))⟩,
      ⟨(some 5), none, .mv (.const (Go.Value.int Go.IntKind.i64 0))⟩,
      ⟨(some 6), none, .mv (.const (Go.Value.int Go.IntKind.i64 2))⟩])
    (.ret))
    (.skip)))
  (.seq (.ops [⟨(some 9), none, .mv (.tmp 0)⟩,
    ⟨(some 10), none, .nilc (.tmp 9)⟩,
    ⟨(some 11), none, .fld (.tmp 10) 0⟩,
    ⟨(some 12), none, .ld (.tmp 11) none⟩,
    ⟨(some 13), none, .mv (.tmp 1)⟩,
    ⟨(some 14), none, .call 40 [(.tmp 12), (.tmp 13)]⟩,
    ⟨(some 15), none, .ext (.tmp 14) 0⟩,
    ⟨(some 16), none, .ext (.tmp 14) 1⟩,
    ⟨(some 17), none, .ext (.tmp 14) 2⟩,
    ⟨(some 4), none, .mv (.tmp 15)⟩,
    ⟨(some 5), none, .mv (.tmp 16)⟩,
    ⟨(some 6), none, .mv (.tmp 17)⟩])
  (.ret)))
theorem is_hlog_Log_Take : FnIs Tryz.prog F.hlog_Log_Take X.hlog_Log_Take 18 [.tmp 4, .tmp 5, .tmp 6] := ⟨by kernel_rfl⟩

/-- (*haycroft/tail.Tail).next: function 123 -/
abbrev F.tail_Tail_next : FuncId := 123
def X.tail_Tail_next : X :=
  .seq (.ops [⟨(some 2), none, .mv (.const (Go.Value.int Go.IntKind.i64 0))⟩])
  (.seq (.seq (.ops [⟨(some 3), none, .mv (.tmp 0)⟩,
    ⟨(some 4), none, .call 59 [(.tmp 3)]⟩])
  (.cond (.tmp 4)
    (.seq (.ops [⟨(some 2), none, .mv (.const (Go.Value.int Go.IntKind.i64 9))⟩])
    (.ret))
    (.skip)))
  (.seq (.drawn [(0, ⟨(some 5), none, .mv (.tmp 0)⟩),
    (1, ⟨(some 6), none, .nilc (.tmp 5)⟩),
    (2, ⟨(some 7), none, .fld (.tmp 6) 2⟩),
    (3, ⟨(some 8), none, .ld (.tmp 7) none⟩),
    (4, ⟨(some 9), none, .mv (.tmp 0)⟩),
    (5, ⟨(some 10), none, .call 39 [(.tmp 9)]⟩),
    (6, ⟨(some 11), none, .bin .add 3 (.tmp 10) (.const (Go.Value.int Go.IntKind.i64 1))⟩),
    (7, ⟨(some 12), none, .call 120 [(.tmp 11), (.const (Go.Value.int Go.IntKind.i64 0))]⟩),
    (8, ⟨(some 13), none, .call 117 [(.tmp 8), (.const (Go.Value.int Go.IntKind.i64 0)), (.tmp 12)]⟩),
    (9, ⟨(some 2), none, .mv (.tmp 13)⟩)]
    [[], [0], [1], [2], [], [4], [5], [6, 5], [3, 7, 7], [8, 8, 0, 1, 2, 3, 4, 5, 6, 7, 8]]
    [0, 1, 3, 7, 0, 16, 48, 112, 255, 511] 416)
  (.ret)))
theorem is_tail_Tail_next : FnIs Tryz.prog F.tail_Tail_next X.tail_Tail_next 14 [.tmp 2] := ⟨by kernel_rfl⟩

/-- (*haycroft/tail.Tail).Turn: function 56 -/
abbrev F.tail_Tail_Turn : FuncId := 56
def X.tail_Tail_Turn : X :=
  .seq (.ops [⟨(some 2), none, .mv (.const (Go.Value.int Go.IntKind.i64 0))⟩])
  (.seq (.block 0 (.seq (.ops [⟨(some 4), none, .mv (.tmp 0)⟩,
      ⟨(some 5), none, .eq false .ptr (.tmp 4) (.const (Go.Value.pointer none))⟩,
      ⟨(some 3), none, .mv (.tmp 5)⟩])
    (.cond (.tmp 3)
      (.seq (.ops [⟨(some 2), none, .mv (.const (Go.Value.int Go.IntKind.i64 2))⟩])
      (.ret))
      (.seq (.ops [⟨(some 7), none, .mv (.tmp 0)⟩,
        ⟨(some 8), none, .call 54 [(.tmp 7)]⟩,
        ⟨(some 9), none, .un .not (.tmp 8)⟩,
        ⟨(some 6), none, .mv (.tmp 9)⟩])
      (.cond (.tmp 6)
        (.seq (.ops [⟨(some 2), none, .mv (.const (Go.Value.int Go.IntKind.i64 7))⟩])
        (.ret))
        (.skip))))))
  (.seq (.ops [⟨(some 10), none, .mv (.tmp 0)⟩,
    ⟨(some 11), none, .call 123 [(.tmp 10)]⟩,
    ⟨(some 2), none, .mv (.tmp 11)⟩])
  (.ret)))
theorem is_tail_Tail_Turn : FnIs Tryz.prog F.tail_Tail_Turn X.tail_Tail_Turn 12 [.tmp 2] := ⟨by kernel_rfl⟩

/-- haycroft/marks.there: function 97 -/
abbrev F.marks_there : FuncId := 97
def X.marks_there : X :=
  .seq (.ops [⟨(some 2), none, .mv (.const (Go.Value.bool false))⟩])
  (.seq (.ops [⟨(some 3), none, .mv (.tmp 0)⟩,
    ⟨(some 4), none, .bin .geq 3 (.tmp 3) (.const (Go.Value.int Go.IntKind.i64 0))⟩,
    ⟨(some 5), none, .mv (.tmp 4)⟩,
    ⟨(some 6), (some (5, true)), .mv (.tmp 0)⟩,
    ⟨(some 7), (some (5, true)), .bin .lss 3 (.tmp 6) (.const (Go.Value.int Go.IntKind.i64 5))⟩,
    ⟨(some 8), none, .pick (.tmp 5) (.tmp 7) (.const (Go.Value.bool false))⟩,
    ⟨(some 2), none, .mv (.tmp 8)⟩])
  (.ret))
theorem is_marks_there : FnIs Tryz.prog F.marks_there X.marks_there 9 [.tmp 2] := ⟨by kernel_rfl⟩

/-- (*haycroft/marks.Set).At: function 31 -/
abbrev F.marks_Set_At : FuncId := 31
def X.marks_Set_At : X :=
  .seq (.ops [⟨(some 4), none, .mv (.const (Go.Value.int Go.IntKind.i64 0))⟩])
  (.seq (.seq (.ops [⟨(some 5), none, .mv (.tmp 0)⟩,
    ⟨(some 6), none, .eq false .ptr (.tmp 5) (.const (Go.Value.pointer none))⟩,
    ⟨(some 7), none, .mv (.tmp 6)⟩,
    ⟨(some 8), (some (7, false)), .mv (.tmp 1)⟩,
    ⟨(some 9), (some (7, false)), .call 97 [(.tmp 8)]⟩,
    ⟨(some 10), (some (7, false)), .un .not (.tmp 9)⟩,
    ⟨(some 11), none, .pick (.tmp 7) (.const (Go.Value.bool true)) (.tmp 10)⟩])
  (.cond (.tmp 11)
    (.seq (.ops [⟨(some 4), none, .mv (.const (Go.Value.int Go.IntKind.i64 0))⟩])
    (.ret))
    (.skip)))
  (.seq (.ops [⟨(some 12), none, .mv (.tmp 0)⟩,
    ⟨(some 13), none, .nilc (.tmp 12)⟩,
    ⟨(some 14), none, .fld (.tmp 13) 0⟩,
    ⟨(some 15), none, .ld (.tmp 14) none⟩,
    ⟨(some 16), none, .mv (.tmp 1)⟩,
    ⟨(some 17), none, .call 94 [(.tmp 15), (.tmp 16)]⟩,
    ⟨(some 18), none, .conv Go.IntKind.i64 (.tmp 17)⟩,
    ⟨(some 4), none, .mv (.tmp 18)⟩])
  (.ret)))
theorem is_marks_Set_At : FnIs Tryz.prog F.marks_Set_At X.marks_Set_At 19 [.tmp 4] := ⟨by kernel_rfl⟩

/-- (*haycroft/pages.Buffer).Frames: function 95 -/
abbrev F.pages_Buffer_Frames : FuncId := 95
def X.pages_Buffer_Frames : X :=
  .seq (.ops [⟨(some 2), none, .mv (.const (Go.Value.int Go.IntKind.i64 0))⟩])
  (.seq (.seq (.ops [⟨(some 3), none, .mv (.tmp 0)⟩,
    ⟨(some 4), none, .eq false .ptr (.tmp 3) (.const (Go.Value.pointer none))⟩])
  (.cond (.tmp 4)
    (.seq (.ops [⟨(some 2), none, .mv (.const (Go.Value.int Go.IntKind.i64 0))⟩])
    (.ret))
    (.skip)))
  (.seq (.ops [⟨(some 5), none, .mv (.tmp 0)⟩,
    ⟨(some 6), none, .nilc (.tmp 5)⟩,
    ⟨(some 7), none, .fld (.tmp 6) 2⟩,
    ⟨(some 8), none, .ld (.tmp 7) none⟩,
    ⟨(some 9), none, .call 165 [(.tmp 8)]⟩,
    ⟨(some 2), none, .mv (.tmp 9)⟩])
  (.ret)))
theorem is_pages_Buffer_Frames : FnIs Tryz.prog F.pages_Buffer_Frames X.pages_Buffer_Frames 10 [.tmp 2] := ⟨by kernel_rfl⟩

/-- (*haycroft/hlog.Log).need: function 60 -/
abbrev F.hlog_Log_need : FuncId := 60
def X.hlog_Log_need : X :=
  .seq (.ops [⟨(some 2), none, .mv (.const (Go.Value.int Go.IntKind.i64 0))⟩])
  (.seq (.drawn [(0, ⟨(some 3), none, .mv (.tmp 0)⟩),
    (1, ⟨(some 4), none, .nilc (.tmp 3)⟩),
    (2, ⟨(some 5), none, .fld (.tmp 4) 0⟩),
    (3, ⟨(some 6), none, .ld (.tmp 5) none⟩),
    (6, ⟨(some 9), none, .mv (.tmp 0)⟩),
    (7, ⟨(some 10), none, .nilc (.tmp 9)⟩),
    (8, ⟨(some 11), none, .fld (.tmp 10) 1⟩),
    (9, ⟨(some 12), none, .ld (.tmp 11) none⟩),
    (4, ⟨(some 7), none, .call 39 [(.tmp 6)]⟩),
    (5, ⟨(some 8), none, .bin .add 3 (.tmp 7) (.const (Go.Value.int Go.IntKind.i64 2))⟩),
    (10, ⟨(some 13), none, .call 95 [(.tmp 12)]⟩),
    (11, ⟨(some 14), none, .bin .sub 3 (.tmp 8) (.tmp 13)⟩),
    (12, ⟨(some 15), none, .mnx true (.const (Go.Value.int Go.IntKind.i64 0)) [(.tmp 14)]⟩),
    (13, ⟨(some 2), none, .mv (.tmp 15)⟩)]
    [[], [0], [1], [2], [3], [4], [], [6], [7], [8], [9, 4], [5, 10], [11], [12, 10, 0, 1, 2, 3, 4, 5, 6, 7, 8, 9, 10, 11, 12]]
    [0, 1, 3, 7, 15, 31, 0, 64, 192, 448, 991, 2047, 4095, 8191] 1040)
  (.ret))
theorem is_hlog_Log_need : FnIs Tryz.prog F.hlog_Log_need X.hlog_Log_need 16 [.tmp 2] := ⟨by kernel_rfl⟩

/-- slices.Clone[[]haycroft/api.Action,haycroft/api.Action]: function 133 -/
abbrev F.slices_Clone_api_Action_api_Action : FuncId := 133
def X.slices_Clone_api_Action_api_Action : X :=
  .seq (.ops [⟨(some 2), none, .mv (.const (Go.Value.slice none 0 0))⟩])
  (.seq (.seq (.ops [⟨(some 3), none, .mv (.tmp 0)⟩,
    ⟨(some 4), none, .eq false .slice (.tmp 3) (.const (Go.Value.slice none 0 0))⟩])
  (.cond (.tmp 4)
    (.seq (.ops [⟨(some 2), none, .mv (.const (Go.Value.slice none 0 0))⟩])
    (.ret))
    (.skip)))
  (.seq (.ops [⟨(some 5), none, .bsl 102 3 0 [(Go.Value.int Go.IntKind.u64 0), (Go.Value.int Go.IntKind.i64 0), (Go.Value.int Go.IntKind.i64 0)] []⟩,
    ⟨(some 6), none, .mv (.tmp 0)⟩,
    ⟨(some 7), none, .app 102 3 24 [(Go.Value.int Go.IntKind.u64 0), (Go.Value.int Go.IntKind.i64 0), (Go.Value.int Go.IntKind.i64 0)] (.tmp 5) (.tmp 6)⟩,
    ⟨(some 2), none, .mv (.tmp 7)⟩])
  (.ret)))
theorem is_slices_Clone_api_Action_api_Action : FnIs Tryz.prog F.slices_Clone_api_Action_api_Action X.slices_Clone_api_Action_api_Action 8 [.tmp 2] := ⟨by kernel_rfl⟩

/-- (*haycroft/drain.List).Waiting: function 75 -/
abbrev F.drain_List_Waiting : FuncId := 75
def X.drain_List_Waiting : X :=
  .seq (.ops [⟨(some 2), none, .mv (.const (Go.Value.slice none 0 0))⟩])
  (.seq (.seq (.ops [⟨(some 3), none, .mv (.tmp 0)⟩,
    ⟨(some 4), none, .eq false .ptr (.tmp 3) (.const (Go.Value.pointer none))⟩])
  (.cond (.tmp 4)
    (.seq (.ops [⟨(some 2), none, .mv (.const (Go.Value.slice none 0 0))⟩])
    (.ret))
    (.skip)))
  (.seq (.ops [⟨(some 5), none, .mv (.tmp 0)⟩,
    ⟨(some 6), none, .nilc (.tmp 5)⟩,
    ⟨(some 7), none, .fld (.tmp 6) 0⟩,
    ⟨(some 8), none, .ld (.tmp 7) none⟩,
    ⟨(some 9), none, .call 133 [(.tmp 8)]⟩,
    ⟨(some 2), none, .mv (.tmp 9)⟩])
  (.ret)))
theorem is_drain_List_Waiting : FnIs Tryz.prog F.drain_List_Waiting X.drain_List_Waiting 10 [.tmp 2] := ⟨by kernel_rfl⟩

/-- (*haycroft/drain.List).Len: function 124 -/
abbrev F.drain_List_Len : FuncId := 124
def X.drain_List_Len : X :=
  .seq (.ops [⟨(some 2), none, .mv (.const (Go.Value.int Go.IntKind.i64 0))⟩])
  (.seq (.ops [⟨(some 3), none, .mv (.tmp 0)⟩,
    ⟨(some 4), none, .call 75 [(.tmp 3)]⟩,
    ⟨(some 5), none, .lenS (.tmp 4)⟩,
    ⟨(some 2), none, .mv (.tmp 5)⟩])
  (.ret))
theorem is_drain_List_Len : FnIs Tryz.prog F.drain_List_Len X.drain_List_Len 6 [.tmp 2] := ⟨by kernel_rfl⟩

/-- (*haycroft/marks.Set).Most: function 128 -/
abbrev F.marks_Set_Most : FuncId := 128
def X.marks_Set_Most : X :=
  .seq (.ops [⟨(some 6), none, .mv (.const (Go.Value.int Go.IntKind.i64 0))⟩])
  (.seq (.block 0 (.seq (.ops [⟨(some 8), none, .mv (.tmp 0)⟩,
      ⟨(some 9), none, .eq false .ptr (.tmp 8) (.const (Go.Value.pointer none))⟩,
      ⟨(some 10), none, .mv (.tmp 9)⟩,
      ⟨(some 11), (some (10, false)), .mv (.tmp 1)⟩,
      ⟨(some 12), (some (10, false)), .call 97 [(.tmp 11)]⟩,
      ⟨(some 13), (some (10, false)), .un .not (.tmp 12)⟩,
      ⟨(some 14), none, .pick (.tmp 10) (.const (Go.Value.bool true)) (.tmp 13)⟩,
      ⟨(some 7), none, .mv (.tmp 14)⟩])
    (.cond (.tmp 7)
      (.seq (.ops [⟨(some 6), none, .mv (.const (Go.Value.int Go.IntKind.i64 0))⟩])
      (.ret))
      (.seq (.ops [⟨(some 16), none, .mv (.tmp 1)⟩,
        ⟨(some 17), none, .bin .eql 3 (.tmp 16) (.const (Go.Value.int Go.IntKind.i64 0))⟩,
        ⟨(some 15), none, .mv (.tmp 17)⟩])
      (.cond (.tmp 15)
        (.seq (.ops [⟨(some 18), none, .mv (.tmp 2)⟩,
          ⟨(some 6), none, .mv (.tmp 18)⟩])
        (.ret))
        (.skip))))))
  (.seq (.ops [⟨(some 19), none, .mv (.tmp 0)⟩,
    ⟨(some 20), none, .mv (.tmp 1)⟩,
    ⟨(some 21), none, .bin .sub 3 (.tmp 20) (.const (Go.Value.int Go.IntKind.i64 1))⟩,
    ⟨(some 22), none, .call 31 [(.tmp 19), (.tmp 21)]⟩,
    ⟨(some 6), none, .mv (.tmp 22)⟩])
  (.ret)))
theorem is_marks_Set_Most : FnIs Tryz.prog F.marks_Set_Most X.marks_Set_Most 23 [.tmp 6] := ⟨by kernel_rfl⟩

/-- (*haycroft/marks.Set).Raise: function 66 -/
abbrev F.marks_Set_Raise : FuncId := 66
def X.marks_Set_Raise : X :=
  .seq (.ops [⟨(some 8), none, .mv (.const (Go.Value.int Go.IntKind.i64 0))⟩])
  (.seq (.block 0 (.seq (.ops [⟨(some 10), none, .mv (.tmp 0)⟩,
      ⟨(some 11), none, .eq false .ptr (.tmp 10) (.const (Go.Value.pointer none))⟩,
      ⟨(some 9), none, .mv (.tmp 11)⟩])
    (.cond (.tmp 9)
      (.seq (.ops [⟨(some 8), none, .mv (.const (Go.Value.int Go.IntKind.i64 2))⟩])
      (.ret))
      (.seq (.ops [⟨(some 13), none, .mv (.tmp 1)⟩,
        ⟨(some 14), none, .call 97 [(.tmp 13)]⟩,
        ⟨(some 15), none, .un .not (.tmp 14)⟩,
        ⟨(some 12), none, .mv (.tmp 15)⟩])
      (.cond (.tmp 12)
        (.seq (.ops [⟨(some 8), none, .mv (.const (Go.Value.int Go.IntKind.i64 1))⟩])
        (.ret))
        (.seq (.ops [⟨(some 17), none, .mv (.tmp 2)⟩,
          ⟨(some 18), none, .mv (.tmp 0)⟩,
          ⟨(some 19), none, .mv (.tmp 1)⟩,
          ⟨(some 20), none, .call 31 [(.tmp 18), (.tmp 19)]⟩,
          ⟨(some 21), none, .bin .leq 3 (.tmp 17) (.tmp 20)⟩,
          ⟨(some 16), none, .mv (.tmp 21)⟩])
        (.cond (.tmp 16)
          (.seq (.ops [⟨(some 8), none, .mv (.const (Go.Value.int Go.IntKind.i64 8))⟩])
          (.ret))
          (.seq (.ops [⟨(some 23), none, .mv (.tmp 2)⟩,
            ⟨(some 24), none, .mv (.tmp 0)⟩,
            ⟨(some 25), none, .mv (.tmp 1)⟩,
            ⟨(some 26), none, .mv (.tmp 3)⟩,
            ⟨(some 27), none, .call 128 [(.tmp 24), (.tmp 25), (.tmp 26)]⟩,
            ⟨(some 28), none, .bin .gtr 3 (.tmp 23) (.tmp 27)⟩,
            ⟨(some 22), none, .mv (.tmp 28)⟩])
          (.cond (.tmp 22)
            (.seq (.ops [⟨(some 8), none, .mv (.const (Go.Value.int Go.IntKind.i64 13))⟩])
            (.ret))
            (.skip))))))))))
  (.seq (.ops [⟨(some 29), none, .mv (.tmp 0)⟩,
    ⟨(some 30), none, .nilc (.tmp 29)⟩,
    ⟨(some 31), none, .fld (.tmp 30) 0⟩,
    ⟨(some 32), none, .ld (.tmp 31) none⟩,
    ⟨(some 33), none, .mv (.tmp 1)⟩,
    ⟨(some 34), none, .mv (.tmp 2)⟩,
    ⟨(some 35), none, .conv Go.IntKind.u64 (.tmp 34)⟩,
    ⟨(some 36), none, .call 117 [(.tmp 32), (.tmp 33), (.tmp 35)]⟩,
    ⟨(some 8), none, .mv (.tmp 36)⟩])
  (.ret)))
theorem is_marks_Set_Raise : FnIs Tryz.prog F.marks_Set_Raise X.marks_Set_Raise 37 [.tmp 8] := ⟨by kernel_rfl⟩

/-- (*haycroft/epoch.Table).Bump: function 125 -/
abbrev F.epoch_Table_Bump : FuncId := 125
def X.epoch_Table_Bump : X :=
  .seq (.ops [⟨(some 2), none, .mv (.const (Go.Value.int Go.IntKind.u64 0))⟩,
    ⟨(some 3), none, .mv (.const (Go.Value.int Go.IntKind.i64 0))⟩])
  (.seq (.seq (.ops [⟨(some 4), none, .mv (.tmp 0)⟩,
    ⟨(some 5), none, .eq false .ptr (.tmp 4) (.const (Go.Value.pointer none))⟩])
  (.cond (.tmp 5)
    (.seq (.ops [⟨(some 2), none, .mv (.const (Go.Value.int Go.IntKind.u64 0))⟩,
      ⟨(some 3), none, .mv (.const (Go.Value.int Go.IntKind.i64 2))⟩])
    (.ret))
    (.skip)))
  (.seq (.ops [⟨(some 6), none, .mv (.tmp 0)⟩,
    ⟨(some 7), none, .nilc (.tmp 6)⟩,
    ⟨(some 8), none, .fld (.tmp 7) 0⟩,
    ⟨(some 9), none, .ld (.tmp 8) none⟩,
    ⟨(some 10), none, .call 109 [(.tmp 9), (.const (Go.Value.int Go.IntKind.i64 0)), (.const (Go.Value.int Go.IntKind.u64 1))]⟩,
    ⟨(some 11), none, .ext (.tmp 10) 0⟩,
    ⟨(some 12), none, .ext (.tmp 10) 1⟩,
    ⟨(some 2), none, .mv (.tmp 11)⟩,
    ⟨(some 3), none, .mv (.tmp 12)⟩])
  (.ret)))
theorem is_epoch_Table_Bump : FnIs Tryz.prog F.epoch_Table_Bump X.epoch_Table_Bump 13 [.tmp 2, .tmp 3] := ⟨by kernel_rfl⟩

/-- (*haycroft/drain.List).Put: function 126 -/
abbrev F.drain_List_Put : FuncId := 126
def X.drain_List_Put : X :=
  .seq (.ops [⟨(some 3), none, .box 102 (.tmp 1)⟩,
    ⟨(some 4), none, .mv (.const (Go.Value.int Go.IntKind.i64 0))⟩])
  (.seq (.block 0 (.seq (.ops [⟨(some 6), none, .mv (.tmp 0)⟩,
      ⟨(some 7), none, .eq false .ptr (.tmp 6) (.const (Go.Value.pointer none))⟩,
      ⟨(some 5), none, .mv (.tmp 7)⟩])
    (.cond (.tmp 5)
      (.seq (.ops [⟨(some 4), none, .mv (.const (Go.Value.int Go.IntKind.i64 2))⟩])
      (.ret))
      (.seq (.ops [⟨(some 9), none, .mv (.tmp 0)⟩,
        ⟨(some 10), none, .nilc (.tmp 9)⟩,
        ⟨(some 11), none, .fld (.tmp 10) 0⟩,
        ⟨(some 12), none, .ld (.tmp 11) none⟩,
        ⟨(some 13), none, .lenS (.tmp 12)⟩,
        ⟨(some 14), none, .bin .geq 3 (.tmp 13) (.const (Go.Value.int Go.IntKind.i64 16))⟩,
        ⟨(some 8), none, .mv (.tmp 14)⟩])
      (.cond (.tmp 8)
        (.seq (.ops [⟨(some 4), none, .mv (.const (Go.Value.int Go.IntKind.i64 9))⟩])
        (.ret))
        (.skip))))))
  (.seq (.drawn [(0, ⟨(some 15), none, .mv (.tmp 0)⟩),
    (1, ⟨(some 16), none, .mv (.tmp 0)⟩),
    (2, ⟨(some 17), none, .nilc (.tmp 16)⟩),
    (3, ⟨(some 18), none, .fld (.tmp 17) 0⟩),
    (4, ⟨(some 19), none, .ld (.tmp 18) none⟩),
    (5, ⟨(some 20), none, .ld (.tmp 3) (some 3)⟩),
    (6, ⟨(some 21), none, .bsl 102 3 1 [(Go.Value.int Go.IntKind.u64 0), (Go.Value.int Go.IntKind.i64 0), (Go.Value.int Go.IntKind.i64 0)] [(0, (.tmp 20))]⟩),
    (7, ⟨(some 22), none, .app 102 3 24 [(Go.Value.int Go.IntKind.u64 0), (Go.Value.int Go.IntKind.i64 0), (Go.Value.int Go.IntKind.i64 0)] (.tmp 19) (.tmp 21)⟩),
    (8, ⟨(some 23), none, .nilc (.tmp 15)⟩),
    (9, ⟨(some 24), none, .fld (.tmp 23) 0⟩),
    (10, ⟨none, none, .st (.tmp 24) (.tmp 22) 1⟩)]
    [[], [], [1], [2], [3], [], [5], [4, 6], [0, 0, 1, 2, 3, 4, 5, 6, 7], [8, 0, 1, 2, 3, 4, 5, 6, 7], [9, 7, 7, 0, 1, 2, 3, 4, 5, 6, 7]]
    [0, 0, 2, 6, 14, 0, 32, 126, 255, 511, 1023] 1216)
  (.seq (.ops [⟨(some 4), none, .mv (.const (Go.Value.int Go.IntKind.i64 0))⟩])
  (.ret))))
theorem is_drain_List_Put : FnIs Tryz.prog F.drain_List_Put X.drain_List_Put 25 [.tmp 4] := ⟨by kernel_rfl⟩

/-- (*haycroft/epoch.Table).Now: function 29 -/
abbrev F.epoch_Table_Now : FuncId := 29
def X.epoch_Table_Now : X :=
  .seq (.ops [⟨(some 2), none, .mv (.const (Go.Value.int Go.IntKind.u64 0))⟩])
  (.seq (.seq (.ops [⟨(some 3), none, .mv (.tmp 0)⟩,
    ⟨(some 4), none, .eq false .ptr (.tmp 3) (.const (Go.Value.pointer none))⟩])
  (.cond (.tmp 4)
    (.seq (.ops [⟨(some 2), none, .mv (.const (Go.Value.int Go.IntKind.u64 0))⟩])
    (.ret))
    (.skip)))
  (.seq (.ops [⟨(some 5), none, .mv (.tmp 0)⟩,
    ⟨(some 6), none, .nilc (.tmp 5)⟩,
    ⟨(some 7), none, .fld (.tmp 6) 0⟩,
    ⟨(some 8), none, .ld (.tmp 7) none⟩,
    ⟨(some 9), none, .call 94 [(.tmp 8), (.const (Go.Value.int Go.IntKind.i64 0))]⟩,
    ⟨(some 2), none, .mv (.tmp 9)⟩])
  (.ret)))
theorem is_epoch_Table_Now : FnIs Tryz.prog F.epoch_Table_Now X.epoch_Table_Now 10 [.tmp 2] := ⟨by kernel_rfl⟩

/-- (*haycroft/epoch.Table).there: function 93 -/
abbrev F.epoch_Table_there : FuncId := 93
def X.epoch_Table_there : X :=
  .seq (.ops [⟨(some 4), none, .mv (.const (Go.Value.bool false))⟩])
  (.seq (.ops [⟨(some 5), none, .mv (.tmp 0)⟩,
    ⟨(some 6), none, .eq true .ptr (.tmp 5) (.const (Go.Value.pointer none))⟩,
    ⟨(some 7), none, .mv (.tmp 6)⟩,
    ⟨(some 8), (some (7, true)), .mv (.tmp 1)⟩,
    ⟨(some 9), (some (7, true)), .bin .geq 3 (.tmp 8) (.const (Go.Value.int Go.IntKind.i64 0))⟩,
    ⟨(some 10), none, .pick (.tmp 7) (.tmp 9) (.const (Go.Value.bool false))⟩,
    ⟨(some 11), none, .mv (.tmp 10)⟩,
    ⟨(some 12), (some (11, true)), .mv (.tmp 1)⟩,
    ⟨(some 13), (some (11, true)), .mv (.tmp 0)⟩,
    ⟨(some 14), (some (11, true)), .nilc (.tmp 13)⟩,
    ⟨(some 15), (some (11, true)), .fld (.tmp 14) 0⟩,
    ⟨(some 16), (some (11, true)), .ld (.tmp 15) none⟩,
    ⟨(some 17), (some (11, true)), .call 165 [(.tmp 16)]⟩,
    ⟨(some 18), (some (11, true)), .bin .sub 3 (.tmp 17) (.const (Go.Value.int Go.IntKind.i64 1))⟩,
    ⟨(some 19), (some (11, true)), .bin .lss 3 (.tmp 12) (.tmp 18)⟩,
    ⟨(some 20), none, .pick (.tmp 11) (.tmp 19) (.const (Go.Value.bool false))⟩,
    ⟨(some 4), none, .mv (.tmp 20)⟩])
  (.ret))
theorem is_epoch_Table_there : FnIs Tryz.prog F.epoch_Table_there X.epoch_Table_there 21 [.tmp 4] := ⟨by kernel_rfl⟩

/-- (*haycroft/epoch.Table).Seen: function 28 -/
abbrev F.epoch_Table_Seen : FuncId := 28
def X.epoch_Table_Seen : X :=
  .seq (.ops [⟨(some 4), none, .mv (.const (Go.Value.int Go.IntKind.u64 0))⟩])
  (.seq (.seq (.ops [⟨(some 5), none, .mv (.tmp 0)⟩,
    ⟨(some 6), none, .mv (.tmp 1)⟩,
    ⟨(some 7), none, .call 93 [(.tmp 5), (.tmp 6)]⟩,
    ⟨(some 8), none, .un .not (.tmp 7)⟩])
  (.cond (.tmp 8)
    (.seq (.ops [⟨(some 4), none, .mv (.const (Go.Value.int Go.IntKind.u64 0))⟩])
    (.ret))
    (.skip)))
  (.seq (.ops [⟨(some 9), none, .mv (.tmp 0)⟩,
    ⟨(some 10), none, .nilc (.tmp 9)⟩,
    ⟨(some 11), none, .fld (.tmp 10) 0⟩,
    ⟨(some 12), none, .ld (.tmp 11) none⟩,
    ⟨(some 13), none, .mv (.tmp 1)⟩,
    ⟨(some 14), none, .bin .add 3 (.const (Go.Value.int Go.IntKind.i64 1)) (.tmp 13)⟩,
    ⟨(some 15), none, .call 94 [(.tmp 12), (.tmp 14)]⟩,
    ⟨(some 4), none, .mv (.tmp 15)⟩])
  (.ret)))
theorem is_epoch_Table_Seen : FnIs Tryz.prog F.epoch_Table_Seen X.epoch_Table_Seen 16 [.tmp 4] := ⟨by kernel_rfl⟩

-- loop (inner ones first): [0, 3, 4]
/-- (*haycroft/epoch.Table).In: function 50 -/
abbrev F.epoch_Table_In : FuncId := 50
def X.epoch_Table_In : X :=
  .seq (.ops [⟨(some 2), none, .mv (.const (Go.Value.slice none 0 0))⟩])
  (.seq (.ops [⟨(some 3), none, .mv (.const (Go.Value.slice none 0 0))⟩])
  (.seq (.seq (.ops [⟨(some 4), none, .mv (.const (Go.Value.int Go.IntKind.i64 0))⟩])
  (.block 0 (.loop (.seq (.seq (.ops [⟨(some 5), none, .mv (.tmp 0)⟩,
        ⟨(some 6), none, .mv (.tmp 4)⟩,
        ⟨(some 7), none, .call 93 [(.tmp 5), (.tmp 6)]⟩])
      (.cond (.tmp 7)
        (.skip)
        (.exit 0)))
      (.seq (.block 1 (.seq (.ops [⟨(some 10), none, .mv (.tmp 0)⟩,
          ⟨(some 11), none, .mv (.tmp 4)⟩,
          ⟨(some 12), none, .call 28 [(.tmp 10), (.tmp 11)]⟩,
          ⟨(some 13), none, .bin .gtr 26 (.tmp 12) (.const (Go.Value.int Go.IntKind.u64 0))⟩])
        (.cond (.tmp 13)
          (.ops [⟨(some 14), none, .mv (.tmp 3)⟩,
            ⟨(some 15), none, .mv (.tmp 4)⟩,
            ⟨(some 16), none, .bsl 3 1 1 [(Go.Value.int Go.IntKind.i64 0)] [(0, (.tmp 15))]⟩,
            ⟨(some 17), none, .app 3 1 8 [(Go.Value.int Go.IntKind.i64 0)] (.tmp 14) (.tmp 16)⟩,
            ⟨(some 3), none, .mv (.tmp 17)⟩])
          (.skip))))
      (.ops [⟨(some 8), none, .mv (.tmp 4)⟩,
        ⟨(some 9), none, .bin .add 3 (.tmp 8) (.const (Go.Value.int Go.IntKind.i64 1))⟩,
        ⟨(some 4), none, .mv (.tmp 9)⟩]))))))
  (.seq (.ops [⟨(some 18), none, .mv (.tmp 3)⟩,
    ⟨(some 2), none, .mv (.tmp 18)⟩])
  (.ret))))
theorem is_epoch_Table_In : FnIs Tryz.prog F.epoch_Table_In X.epoch_Table_In 19 [.tmp 2] := ⟨by kernel_rfl⟩

-- loop (inner ones first): [0, 3, 11, 12, 13]
/-- (*haycroft/epoch.Table).Safe: function 68 -/
abbrev F.epoch_Table_Safe : FuncId := 68
def X.epoch_Table_Safe : X :=
  .seq (.ops [⟨(some 2), none, .mv (.const (Go.Value.int Go.IntKind.u64 0))⟩])
  (.seq (.seq (.ops [⟨(some 6), none, .mv (.tmp 0)⟩,
    ⟨(some 7), none, .eq false .ptr (.tmp 6) (.const (Go.Value.pointer none))⟩])
  (.cond (.tmp 7)
    (.seq (.ops [⟨(some 2), none, .mv (.const (Go.Value.int Go.IntKind.u64 0))⟩])
    (.ret))
    (.skip)))
  (.seq (.ops [⟨(some 8), none, .mv (.tmp 0)⟩,
    ⟨(some 9), none, .call 29 [(.tmp 8)]⟩,
    ⟨(some 3), none, .mv (.tmp 9)⟩])
  (.seq (.seq (.ops [⟨(some 10), none, .mv (.tmp 0)⟩,
    ⟨(some 11), none, .call 50 [(.tmp 10)]⟩,
    ⟨(some 12), none, .lenS (.tmp 11)⟩,
    ⟨(some 13), none, .mv (.const (Go.Value.int Go.IntKind.i64 0))⟩])
  (.block 0 (.loop (.seq (.ops [⟨(some 14), none, .bin .lss 3 (.tmp 13) (.tmp 12)⟩])
      (.seq (.cond (.tmp 14)
        (.skip)
        (.exit 0))
      (.seq (.block 1 (.seq (.ops [⟨(some 15), none, .idx (.tmp 11) (.tmp 13) 1⟩,
          ⟨(some 16), none, .ld (.tmp 15) none⟩,
          ⟨(some 5), none, .mv (.tmp 16)⟩])
        (.ops [⟨(some 17), none, .mv (.tmp 3)⟩,
          ⟨(some 18), none, .mv (.tmp 0)⟩,
          ⟨(some 19), none, .mv (.tmp 5)⟩,
          ⟨(some 20), none, .call 28 [(.tmp 18), (.tmp 19)]⟩,
          ⟨(some 21), none, .mnx false (.tmp 17) [(.tmp 20)]⟩,
          ⟨(some 3), none, .mv (.tmp 21)⟩])))
      (.ops [⟨(some 22), none, .bin .add 3 (.tmp 13) (.const (Go.Value.int Go.IntKind.i64 1))⟩,
        ⟨(some 13), none, .mv (.tmp 22)⟩])))))))
  (.seq (.ops [⟨(some 23), none, .mv (.tmp 3)⟩,
    ⟨(some 24), none, .bin .sub 26 (.tmp 23) (.const (Go.Value.int Go.IntKind.u64 1))⟩,
    ⟨(some 2), none, .mv (.tmp 24)⟩])
  (.ret)))))
theorem is_epoch_Table_Safe : FnIs Tryz.prog F.epoch_Table_Safe X.epoch_Table_Safe 25 [.tmp 2] := ⟨by kernel_rfl⟩

-- loop (inner ones first): [0, 1, 5, 6, 14, 15, 16]
/-- (*haycroft/drain.List).Ready: function 67 -/
abbrev F.drain_List_Ready : FuncId := 67
def X.drain_List_Ready : X :=
  .seq (.ops [⟨(some 4), none, .mv (.const (Go.Value.slice none 0 0))⟩])
  (.seq (.seq (.ops [⟨(some 9), none, .mv (.tmp 0)⟩,
    ⟨(some 10), none, .eq false .ptr (.tmp 9) (.const (Go.Value.pointer none))⟩])
  (.cond (.tmp 10)
    (.seq (.ops [⟨(some 4), none, .mv (.const (Go.Value.slice none 0 0))⟩])
    (.ret))
    (.skip)))
  (.seq (.ops [⟨(some 5), none, .mv (.const (Go.Value.slice none 0 0))⟩,
    ⟨(some 6), none, .mv (.const (Go.Value.slice none 0 0))⟩])
  (.seq (.seq (.ops [⟨(some 11), none, .mv (.tmp 0)⟩,
    ⟨(some 12), none, .nilc (.tmp 11)⟩,
    ⟨(some 13), none, .fld (.tmp 12) 0⟩,
    ⟨(some 14), none, .ld (.tmp 13) none⟩,
    ⟨(some 15), none, .lenS (.tmp 14)⟩,
    ⟨(some 16), none, .mv (.const (Go.Value.int Go.IntKind.i64 0))⟩])
  (.block 0 (.loop (.seq (.ops [⟨(some 17), none, .bin .lss 3 (.tmp 16) (.tmp 15)⟩])
      (.seq (.cond (.tmp 17)
        (.skip)
        (.exit 0))
      (.seq (.block 1 (.seq (.ops [⟨(some 18), none, .idx (.tmp 14) (.tmp 16) 3⟩,
          ⟨(some 19), none, .ld (.tmp 18) (some 3)⟩,
          ⟨(some 8), none, .new 102 (Go.Value.agg #[(Go.Value.int Go.IntKind.u64 0), (Go.Value.int Go.IntKind.i64 0), (Go.Value.int Go.IntKind.i64 0)])⟩,
          ⟨none, none, .st (.tmp 8) (.tmp 19) 3⟩])
        (.seq (.ops [⟨(some 20), none, .fld (.tmp 8) 0⟩,
          ⟨(some 21), none, .ld (.tmp 20) none⟩,
          ⟨(some 22), none, .mv (.tmp 1)⟩,
          ⟨(some 23), none, .bin .leq 26 (.tmp 21) (.tmp 22)⟩])
        (.cond (.tmp 23)
          (.ops [⟨(some 24), none, .mv (.tmp 5)⟩,
            ⟨(some 25), none, .ld (.tmp 8) (some 3)⟩,
            ⟨(some 26), none, .bsl 102 3 1 [(Go.Value.int Go.IntKind.u64 0), (Go.Value.int Go.IntKind.i64 0), (Go.Value.int Go.IntKind.i64 0)] [(0, (.tmp 25))]⟩,
            ⟨(some 27), none, .app 102 3 24 [(Go.Value.int Go.IntKind.u64 0), (Go.Value.int Go.IntKind.i64 0), (Go.Value.int Go.IntKind.i64 0)] (.tmp 24) (.tmp 26)⟩,
            ⟨(some 5), none, .mv (.tmp 27)⟩])
          (.ops [⟨(some 28), none, .mv (.tmp 6)⟩,
            ⟨(some 29), none, .ld (.tmp 8) (some 3)⟩,
            ⟨(some 30), none, .bsl 102 3 1 [(Go.Value.int Go.IntKind.u64 0), (Go.Value.int Go.IntKind.i64 0), (Go.Value.int Go.IntKind.i64 0)] [(0, (.tmp 29))]⟩,
            ⟨(some 31), none, .app 102 3 24 [(Go.Value.int Go.IntKind.u64 0), (Go.Value.int Go.IntKind.i64 0), (Go.Value.int Go.IntKind.i64 0)] (.tmp 28) (.tmp 30)⟩,
            ⟨(some 6), none, .mv (.tmp 31)⟩])))))
      (.ops [⟨(some 32), none, .bin .add 3 (.tmp 16) (.const (Go.Value.int Go.IntKind.i64 1))⟩,
        ⟨(some 16), none, .mv (.tmp 32)⟩])))))))
  (.seq (.ops [⟨(some 33), none, .mv (.tmp 0)⟩,
    ⟨(some 34), none, .mv (.tmp 6)⟩,
    ⟨(some 35), none, .nilc (.tmp 33)⟩,
    ⟨(some 36), none, .fld (.tmp 35) 0⟩,
    ⟨none, none, .st (.tmp 36) (.tmp 34) 1⟩])
  (.seq (.ops [⟨(some 37), none, .mv (.tmp 5)⟩,
    ⟨(some 4), none, .mv (.tmp 37)⟩])
  (.ret))))))
theorem is_drain_List_Ready : FnIs Tryz.prog F.drain_List_Ready X.drain_List_Ready 38 [.tmp 4] := ⟨by kernel_rfl⟩

-- loop (inner ones first): [0, 3, 18, 19, 20]
/-- (*haycroft/hlog.Log).Settle: function 17 -/
abbrev F.hlog_Log_Settle : FuncId := 17
def X.hlog_Log_Settle : X :=
  .seq (.ops [⟨(some 2), none, .mv (.const (Go.Value.int Go.IntKind.i64 0))⟩])
  (.seq (.seq (.ops [⟨(some 6), none, .mv (.tmp 0)⟩,
    ⟨(some 7), none, .eq false .ptr (.tmp 6) (.const (Go.Value.pointer none))⟩])
  (.cond (.tmp 7)
    (.seq (.ops [⟨(some 2), none, .mv (.const (Go.Value.int Go.IntKind.i64 0))⟩])
    (.ret))
    (.skip)))
  (.seq (.drawn [(0, ⟨(some 8), none, .mv (.tmp 0)⟩),
    (1, ⟨(some 9), none, .nilc (.tmp 8)⟩),
    (2, ⟨(some 10), none, .fld (.tmp 9) 4⟩),
    (3, ⟨(some 11), none, .ld (.tmp 10) none⟩),
    (4, ⟨(some 12), none, .mv (.tmp 0)⟩),
    (5, ⟨(some 13), none, .nilc (.tmp 12)⟩),
    (6, ⟨(some 14), none, .fld (.tmp 13) 3⟩),
    (7, ⟨(some 15), none, .ld (.tmp 14) none⟩),
    (8, ⟨(some 16), none, .call 68 [(.tmp 15)]⟩),
    (9, ⟨(some 17), none, .call 67 [(.tmp 11), (.tmp 16)]⟩),
    (10, ⟨(some 3), none, .mv (.tmp 17)⟩)]
    [[], [0], [1], [2], [], [4], [5], [6], [7], [3, 8, 8], [9, 9, 0, 1, 2, 3, 4, 5, 6, 7, 8, 9]]
    [0, 1, 3, 7, 0, 16, 48, 112, 240, 511, 1023] 768)
  (.seq (.seq (.ops [⟨(some 18), none, .mv (.tmp 3)⟩,
    ⟨(some 19), none, .lenS (.tmp 18)⟩,
    ⟨(some 20), none, .mv (.const (Go.Value.int Go.IntKind.i64 0))⟩])
  (.block 0 (.loop (.seq (.ops [⟨(some 21), none, .bin .lss 3 (.tmp 20) (.tmp 19)⟩])
      (.seq (.cond (.tmp 21)
        (.skip)
        (.exit 0))
      (.seq (.block 1 (.seq (.ops [⟨(some 22), none, .idx (.tmp 18) (.tmp 20) 3⟩,
          ⟨(some 23), none, .ld (.tmp 22) (some 3)⟩,
          ⟨(some 5), none, .new 102 (Go.Value.agg #[(Go.Value.int Go.IntKind.u64 0), (Go.Value.int Go.IntKind.i64 0), (Go.Value.int Go.IntKind.i64 0)])⟩,
          ⟨none, none, .st (.tmp 5) (.tmp 23) 3⟩])
        (.seq (.ops [⟨(some 24), none, .fld (.tmp 5) 1⟩,
          ⟨(some 25), none, .ld (.tmp 24) none⟩,
          ⟨(some 26), none, .bin .eql 3 (.tmp 25) (.const (Go.Value.int Go.IntKind.i64 1))⟩])
        (.cond (.tmp 26)
          (.drawn [(0, ⟨(some 27), none, .mv (.tmp 0)⟩),
            (1, ⟨(some 28), none, .nilc (.tmp 27)⟩),
            (2, ⟨(some 29), none, .fld (.tmp 28) 2⟩),
            (3, ⟨(some 30), none, .ld (.tmp 29) none⟩),
            (4, ⟨(some 31), none, .fld (.tmp 5) 2⟩),
            (5, ⟨(some 32), none, .ld (.tmp 31) none⟩),
            (6, ⟨(some 33), none, .mv (.tmp 0)⟩),
            (7, ⟨(some 34), none, .nilc (.tmp 33)⟩),
            (8, ⟨(some 35), none, .fld (.tmp 34) 0⟩),
            (9, ⟨(some 36), none, .ld (.tmp 35) none⟩),
            (10, ⟨(some 37), none, .call 39 [(.tmp 36)]⟩),
            (11, ⟨(some 38), none, .call 66 [(.tmp 30), (.const (Go.Value.int Go.IntKind.i64 1)), (.tmp 32), (.tmp 37)]⟩)]
            [[], [0], [1], [2], [], [4], [], [6], [7], [8], [9], [3, 5, 10, 10]]
            [0, 1, 3, 7, 0, 16, 0, 64, 192, 448, 960, 2047] 3072)
          (.drawn [(0, ⟨(some 39), none, .mv (.tmp 0)⟩),
            (1, ⟨(some 40), none, .nilc (.tmp 39)⟩),
            (2, ⟨(some 41), none, .fld (.tmp 40) 2⟩),
            (3, ⟨(some 42), none, .ld (.tmp 41) none⟩),
            (4, ⟨(some 43), none, .fld (.tmp 5) 2⟩),
            (5, ⟨(some 44), none, .ld (.tmp 43) none⟩),
            (6, ⟨(some 45), none, .mv (.tmp 0)⟩),
            (7, ⟨(some 46), none, .nilc (.tmp 45)⟩),
            (8, ⟨(some 47), none, .fld (.tmp 46) 0⟩),
            (9, ⟨(some 48), none, .ld (.tmp 47) none⟩),
            (10, ⟨(some 49), none, .call 39 [(.tmp 48)]⟩),
            (11, ⟨(some 50), none, .call 66 [(.tmp 42), (.const (Go.Value.int Go.IntKind.i64 4)), (.tmp 44), (.tmp 49)]⟩)]
            [[], [0], [1], [2], [], [4], [], [6], [7], [8], [9], [3, 5, 10, 10]]
            [0, 1, 3, 7, 0, 16, 0, 64, 192, 448, 960, 2047] 3072)))))
      (.ops [⟨(some 51), none, .bin .add 3 (.tmp 20) (.const (Go.Value.int Go.IntKind.i64 1))⟩,
        ⟨(some 20), none, .mv (.tmp 51)⟩])))))))
  (.seq (.ops [⟨(some 52), none, .mv (.tmp 3)⟩,
    ⟨(some 53), none, .lenS (.tmp 52)⟩,
    ⟨(some 2), none, .mv (.tmp 53)⟩])
  (.ret)))))
theorem is_hlog_Log_Settle : FnIs Tryz.prog F.hlog_Log_Settle X.hlog_Log_Settle 54 [.tmp 2] := ⟨by kernel_rfl⟩

/-- (*haycroft/hlog.Log).shift: function 62 -/
abbrev F.hlog_Log_shift : FuncId := 62
def X.hlog_Log_shift : X :=
  .seq (.ops [⟨(some 8), none, .mv (.const (Go.Value.int Go.IntKind.i64 0))⟩])
  (.seq (.block 0 (.seq (.ops [⟨(some 14), none, .mv (.tmp 0)⟩,
      ⟨(some 15), none, .eq false .ptr (.tmp 14) (.const (Go.Value.pointer none))⟩,
      ⟨(some 13), none, .mv (.tmp 15)⟩])
    (.cond (.tmp 13)
      (.seq (.ops [⟨(some 8), none, .mv (.const (Go.Value.int Go.IntKind.i64 2))⟩])
      (.ret))
      (.seq (.ops [⟨(some 17), none, .mv (.tmp 0)⟩,
        ⟨(some 18), none, .nilc (.tmp 17)⟩,
        ⟨(some 19), none, .fld (.tmp 18) 4⟩,
        ⟨(some 20), none, .ld (.tmp 19) none⟩,
        ⟨(some 21), none, .call 124 [(.tmp 20)]⟩,
        ⟨(some 22), none, .bin .geq 3 (.tmp 21) (.const (Go.Value.int Go.IntKind.i64 16))⟩,
        ⟨(some 16), none, .mv (.tmp 22)⟩])
      (.cond (.tmp 16)
        (.seq (.ops [⟨(some 8), none, .mv (.const (Go.Value.int Go.IntKind.i64 9))⟩])
        (.ret))
        (.skip))))))
  (.seq (.seq (.drawn [(0, ⟨(some 23), none, .mv (.tmp 0)⟩),
    (1, ⟨(some 24), none, .nilc (.tmp 23)⟩),
    (2, ⟨(some 25), none, .fld (.tmp 24) 2⟩),
    (3, ⟨(some 26), none, .ld (.tmp 25) none⟩),
    (4, ⟨(some 27), none, .mv (.tmp 1)⟩),
    (5, ⟨(some 28), none, .mv (.tmp 2)⟩),
    (6, ⟨(some 29), none, .mv (.tmp 0)⟩),
    (7, ⟨(some 30), none, .nilc (.tmp 29)⟩),
    (8, ⟨(some 31), none, .fld (.tmp 30) 0⟩),
    (9, ⟨(some 32), none, .ld (.tmp 31) none⟩),
    (10, ⟨(some 33), none, .call 39 [(.tmp 32)]⟩),
    (11, ⟨(some 34), none, .call 66 [(.tmp 26), (.tmp 27), (.tmp 28), (.tmp 33)]⟩),
    (12, ⟨(some 9), none, .mv (.tmp 34)⟩)]
    [[], [0], [1], [2], [], [], [], [6], [7], [8], [9], [3, 4, 5, 10, 10], [11, 11, 0, 1, 2, 3, 4, 5, 6, 7, 8, 9, 10, 11]]
    [0, 1, 3, 7, 0, 0, 0, 64, 192, 448, 960, 2047, 4095] 3072)
  (.seq (.ops [⟨(some 35), none, .mv (.tmp 9)⟩,
    ⟨(some 36), none, .bin .neq 27 (.tmp 35) (.const (Go.Value.int Go.IntKind.i64 0))⟩])
  (.cond (.tmp 36)
    (.seq (.ops [⟨(some 37), none, .mv (.tmp 9)⟩,
      ⟨(some 8), none, .mv (.tmp 37)⟩])
    (.ret))
    (.skip))))
  (.seq (.ops [⟨(some 39), none, .mv (.tmp 0)⟩,
    ⟨(some 40), none, .nilc (.tmp 39)⟩,
    ⟨(some 41), none, .fld (.tmp 40) 3⟩,
    ⟨(some 42), none, .ld (.tmp 41) none⟩,
    ⟨(some 43), none, .call 125 [(.tmp 42)]⟩,
    ⟨(some 38), none, .mv (.tmp 43)⟩,
    ⟨(some 44), none, .ext (.tmp 38) 0⟩,
    ⟨(some 45), none, .ext (.tmp 38) 1⟩,
    ⟨(some 10), none, .mv (.tmp 44)⟩,
    ⟨(some 11), none, .mv (.tmp 45)⟩])
  (.seq (.seq (.ops [⟨(some 46), none, .mv (.tmp 11)⟩,
    ⟨(some 47), none, .bin .neq 27 (.tmp 46) (.const (Go.Value.int Go.IntKind.i64 0))⟩])
  (.cond (.tmp 47)
    (.seq (.ops [⟨(some 48), none, .mv (.tmp 11)⟩,
      ⟨(some 8), none, .mv (.tmp 48)⟩])
    (.ret))
    (.skip)))
  (.seq (.seq (.ops [⟨(some 49), none, .mv (.tmp 0)⟩,
    ⟨(some 50), none, .nilc (.tmp 49)⟩,
    ⟨(some 51), none, .fld (.tmp 50) 4⟩,
    ⟨(some 52), none, .ld (.tmp 51) none⟩,
    ⟨(some 53), none, .mv (.tmp 10)⟩,
    ⟨(some 54), none, .mv (.tmp 3)⟩,
    ⟨(some 55), none, .mv (.tmp 2)⟩,
    ⟨(some 56), none, .bld [(Go.Value.int Go.IntKind.u64 0), (Go.Value.int Go.IntKind.i64 0), (Go.Value.int Go.IntKind.i64 0)] [(0, 1, (.tmp 53)), (1, 1, (.tmp 54)), (2, 1, (.tmp 55))]⟩,
    ⟨(some 57), none, .call 126 [(.tmp 52), (.tmp 56)]⟩,
    ⟨(some 12), none, .mv (.tmp 57)⟩])
  (.seq (.ops [⟨(some 58), none, .mv (.tmp 12)⟩,
    ⟨(some 59), none, .bin .neq 27 (.tmp 58) (.const (Go.Value.int Go.IntKind.i64 0))⟩])
  (.cond (.tmp 59)
    (.seq (.ops [⟨(some 60), none, .mv (.tmp 12)⟩,
      ⟨(some 8), none, .mv (.tmp 60)⟩])
    (.ret))
    (.skip))))
  (.seq (.ops [⟨(some 61), none, .mv (.tmp 0)⟩,
    ⟨(some 62), none, .call 17 [(.tmp 61)]⟩])
  (.seq (.ops [⟨(some 8), none, .mv (.const (Go.Value.int Go.IntKind.i64 0))⟩])
  (.ret))))))))
theorem is_hlog_Log_shift : FnIs Tryz.prog F.hlog_Log_shift X.hlog_Log_shift 63 [.tmp 8] := ⟨by kernel_rfl⟩

/-- (*haycroft/hlog.Log).ShiftHead: function 15 -/
abbrev F.hlog_Log_ShiftHead : FuncId := 15
def X.hlog_Log_ShiftHead : X :=
  .seq (.ops [⟨(some 4), none, .mv (.const (Go.Value.int Go.IntKind.i64 0))⟩])
  (.seq (.ops [⟨(some 5), none, .mv (.tmp 0)⟩,
    ⟨(some 6), none, .mv (.tmp 1)⟩,
    ⟨(some 7), none, .call 62 [(.tmp 5), (.const (Go.Value.int Go.IntKind.i64 3)), (.tmp 6), (.const (Go.Value.int Go.IntKind.i64 2))]⟩,
    ⟨(some 4), none, .mv (.tmp 7)⟩])
  (.ret))
theorem is_hlog_Log_ShiftHead : FnIs Tryz.prog F.hlog_Log_ShiftHead X.hlog_Log_ShiftHead 8 [.tmp 4] := ⟨by kernel_rfl⟩

-- loop (inner ones first): [0, 6]
/-- maps.Values[map[int]int,int,int]$1: function 132 -/
abbrev F.maps_Values_map_int_int_int_int_1 : FuncId := 132
def X.maps_Values_map_int_int_int_int_1 : X :=
  .seq (.ops [⟨(some 5), none, .ld (.tmp 1) none⟩,
    ⟨(some 6), none, .more (.rng (.tmp 5))⟩])
  (.block 0 (.loop (.seq (.ops [⟨(some 7), none, .more (.nxt (.tmp 6))⟩,
        ⟨(some 8), none, .ext (.tmp 7) 0⟩])
      (.seq (.cond (.tmp 8)
        (.skip)
        (.exit 0))
      (.block 1 (.seq (.ops [⟨(some 9), none, .more (.ent (.tmp 6))⟩,
          ⟨(some 10), none, .ext (.tmp 9) 1⟩,
          ⟨(some 4), none, .mv (.tmp 10)⟩])
        (.seq (.ops [⟨(some 11), none, .mv (.tmp 0)⟩,
          ⟨(some 12), none, .mv (.tmp 4)⟩,
          ⟨(some 13), none, .more (.cv (.tmp 11) [(.tmp 12)])⟩,
          ⟨(some 14), none, .un .not (.tmp 13)⟩])
        (.cond (.tmp 14)
          (.ret)
          (.skip)))))))))
theorem is_maps_Values_map_int_int_int_int_1 : FnIs Tryz.prog F.maps_Values_map_int_int_int_int_1 X.maps_Values_map_int_int_int_int_1 15 [] := ⟨by kernel_rfl⟩

/-- maps.Values[map[int]int,int,int]: function 74 -/
abbrev F.maps_Values_map_int_int_int_int : FuncId := 74
def X.maps_Values_map_int_int_int_int : X :=
  .seq (.ops [⟨(some 1), none, .box 78 (.tmp 0)⟩,
    ⟨(some 2), none, .mv (.const Go.Value.nilFunc)⟩])
  (.seq (.ops [⟨(some 3), none, .more (.mkf 132 [] [(.tmp 1)])⟩,
    ⟨(some 2), none, .mv (.tmp 3)⟩])
  (.ret))
theorem is_maps_Values_map_int_int_int_int : FnIs Tryz.prog F.maps_Values_map_int_int_int_int X.maps_Values_map_int_int_int_int 4 [.tmp 2] := ⟨by kernel_rfl⟩
theorem bd_maps_Values_map_int_int_int_int_1 : bodyOk Tryz.prog F.maps_Values_map_int_int_int_int_1 = true := by kernel_rfl

/-- slices.AppendSeq[[]int,int]: function 131, not walked -/
abbrev F.slices_AppendSeq_int_int : FuncId := 131

/-- slices.Collect[int]: function 73 -/
abbrev F.slices_Collect_int : FuncId := 73
def X.slices_Collect_int : X :=
  .seq (.ops [⟨(some 2), none, .mv (.const (Go.Value.slice none 0 0))⟩])
  (.seq (.ops [⟨(some 3), none, .mv (.tmp 0)⟩,
    ⟨(some 4), none, .call 131 [(.const (Go.Value.slice none 0 0)), (.tmp 3)]⟩,
    ⟨(some 2), none, .mv (.tmp 4)⟩])
  (.ret))
theorem is_slices_Collect_int : FnIs Tryz.prog F.slices_Collect_int X.slices_Collect_int 5 [.tmp 2] := ⟨by kernel_rfl⟩

-- loop (inner ones first): [0, 1, 7, 8]
/-- slices.Index[[]int,int]: function 130 -/
abbrev F.slices_Index_int_int : FuncId := 130
def X.slices_Index_int_int : X :=
  .seq (.ops [⟨(some 4), none, .mv (.const (Go.Value.int Go.IntKind.i64 0))⟩])
  (.seq (.seq (.ops [⟨(some 6), none, .mv (.tmp 0)⟩,
    ⟨(some 7), none, .lenS (.tmp 6)⟩,
    ⟨(some 8), none, .mv (.const (Go.Value.int Go.IntKind.i64 0))⟩])
  (.block 0 (.loop (.seq (.ops [⟨(some 9), none, .bin .lss 3 (.tmp 8) (.tmp 7)⟩])
      (.seq (.cond (.tmp 9)
        (.skip)
        (.exit 0))
      (.seq (.block 1 (.seq (.ops [⟨(some 10), none, .mv (.tmp 8)⟩,
          ⟨(some 5), none, .mv (.tmp 10)⟩])
        (.seq (.ops [⟨(some 11), none, .mv (.tmp 1)⟩,
          ⟨(some 12), none, .mv (.tmp 0)⟩,
          ⟨(some 13), none, .mv (.tmp 5)⟩,
          ⟨(some 14), none, .idx (.tmp 12) (.tmp 13) 1⟩,
          ⟨(some 15), none, .ld (.tmp 14) none⟩,
          ⟨(some 16), none, .bin .eql 3 (.tmp 11) (.tmp 15)⟩])
        (.cond (.tmp 16)
          (.seq (.ops [⟨(some 17), none, .mv (.tmp 5)⟩,
            ⟨(some 4), none, .mv (.tmp 17)⟩])
          (.ret))
          (.skip)))))
      (.ops [⟨(some 18), none, .bin .add 3 (.tmp 8) (.const (Go.Value.int Go.IntKind.i64 1))⟩,
        ⟨(some 8), none, .mv (.tmp 18)⟩])))))))
  (.seq (.ops [⟨(some 4), none, .mv (.const (Go.Value.int Go.IntKind.i64 (-1)))⟩])
  (.ret)))
theorem is_slices_Index_int_int : FnIs Tryz.prog F.slices_Index_int_int X.slices_Index_int_int 19 [.tmp 4] := ⟨by kernel_rfl⟩

/-- slices.Contains[[]int,int]: function 72 -/
abbrev F.slices_Contains_int_int : FuncId := 72
def X.slices_Contains_int_int : X :=
  .seq (.ops [⟨(some 4), none, .mv (.const (Go.Value.bool false))⟩])
  (.seq (.ops [⟨(some 5), none, .mv (.tmp 0)⟩,
    ⟨(some 6), none, .mv (.tmp 1)⟩,
    ⟨(some 7), none, .call 130 [(.tmp 5), (.tmp 6)]⟩,
    ⟨(some 8), none, .bin .geq 3 (.tmp 7) (.const (Go.Value.int Go.IntKind.i64 0))⟩,
    ⟨(some 4), none, .mv (.tmp 8)⟩])
  (.ret))
theorem is_slices_Contains_int_int : FnIs Tryz.prog F.slices_Contains_int_int X.slices_Contains_int_int 9 [.tmp 4] := ⟨by kernel_rfl⟩

/-- (*haycroft/hlog.Log).Flying: function 19 -/
abbrev F.hlog_Log_Flying : FuncId := 19
def X.hlog_Log_Flying : X :=
  .seq (.ops [⟨(some 4), none, .mv (.const (Go.Value.bool false))⟩])
  (.seq (.ops [⟨(some 5), none, .mv (.tmp 0)⟩,
    ⟨(some 6), none, .eq true .ptr (.tmp 5) (.const (Go.Value.pointer none))⟩,
    ⟨(some 7), none, .mv (.tmp 6)⟩,
    ⟨(some 8), (some (7, true)), .mv (.tmp 0)⟩,
    ⟨(some 9), (some (7, true)), .nilc (.tmp 8)⟩,
    ⟨(some 10), (some (7, true)), .fld (.tmp 9) 6⟩,
    ⟨(some 11), (some (7, true)), .ld (.tmp 10) none⟩,
    ⟨(some 12), (some (7, true)), .call 74 [(.tmp 11)]⟩,
    ⟨(some 13), (some (7, true)), .call 73 [(.tmp 12)]⟩,
    ⟨(some 14), (some (7, true)), .mv (.tmp 1)⟩,
    ⟨(some 15), (some (7, true)), .call 72 [(.tmp 13), (.tmp 14)]⟩,
    ⟨(some 16), none, .pick (.tmp 7) (.tmp 15) (.const (Go.Value.bool false))⟩,
    ⟨(some 4), none, .mv (.tmp 16)⟩])
  (.ret))
theorem is_hlog_Log_Flying : FnIs Tryz.prog F.hlog_Log_Flying X.hlog_Log_Flying 17 [.tmp 4] := ⟨by kernel_rfl⟩

-- loop (inner ones first): [0, 1, 6]
/-- (*haycroft/hlog.Log).grounded: function 61 -/
abbrev F.hlog_Log_grounded : FuncId := 61
def X.hlog_Log_grounded : X :=
  .seq (.ops [⟨(some 4), none, .mv (.const (Go.Value.int Go.IntKind.i64 0))⟩,
    ⟨(some 5), none, .mv (.const (Go.Value.bool false))⟩])
  (.seq (.seq (.ops [⟨(some 7), none, .mv (.tmp 0)⟩,
    ⟨(some 8), none, .nilc (.tmp 7)⟩,
    ⟨(some 9), none, .fld (.tmp 8) 2⟩,
    ⟨(some 10), none, .ld (.tmp 9) none⟩,
    ⟨(some 11), none, .call 31 [(.tmp 10), (.const (Go.Value.int Go.IntKind.i64 2))]⟩,
    ⟨(some 6), none, .mv (.tmp 11)⟩])
  (.block 0 (.loop (.seq (.seq (.ops [⟨(some 12), none, .mv (.tmp 6)⟩,
        ⟨(some 13), none, .mv (.tmp 1)⟩,
        ⟨(some 14), none, .bin .lss 3 (.tmp 12) (.tmp 13)⟩])
      (.cond (.tmp 14)
        (.skip)
        (.exit 0)))
      (.seq (.block 1 (.seq (.ops [⟨(some 17), none, .mv (.tmp 0)⟩,
          ⟨(some 18), none, .nilc (.tmp 17)⟩,
          ⟨(some 19), none, .fld (.tmp 18) 7⟩,
          ⟨(some 20), none, .ld (.tmp 19) none⟩,
          ⟨(some 21), none, .mv (.tmp 6)⟩,
          ⟨(some 22), none, .more (.lkp 3 (Go.Value.int Go.IntKind.i64 0) false (.tmp 20) (.tmp 21))⟩,
          ⟨(some 23), none, .bin .eql 3 (.tmp 22) (.const (Go.Value.int Go.IntKind.i64 0))⟩,
          ⟨(some 24), none, .mv (.tmp 23)⟩,
          ⟨(some 25), (some (24, true)), .mv (.tmp 0)⟩,
          ⟨(some 26), (some (24, true)), .mv (.tmp 6)⟩,
          ⟨(some 27), (some (24, true)), .call 19 [(.tmp 25), (.tmp 26)]⟩,
          ⟨(some 28), (some (24, true)), .un .not (.tmp 27)⟩,
          ⟨(some 29), none, .pick (.tmp 24) (.tmp 28) (.const (Go.Value.bool false))⟩])
        (.cond (.tmp 29)
          (.seq (.ops [⟨(some 30), none, .mv (.tmp 6)⟩,
            ⟨(some 4), none, .mv (.tmp 30)⟩,
            ⟨(some 5), none, .mv (.const (Go.Value.bool true))⟩])
          (.ret))
          (.skip))))
      (.ops [⟨(some 15), none, .mv (.tmp 6)⟩,
        ⟨(some 16), none, .bin .add 3 (.tmp 15) (.const (Go.Value.int Go.IntKind.i64 1))⟩,
        ⟨(some 6), none, .mv (.tmp 16)⟩]))))))
  (.seq (.ops [⟨(some 4), none, .mv (.const (Go.Value.int Go.IntKind.i64 0))⟩,
    ⟨(some 5), none, .mv (.const (Go.Value.bool false))⟩])
  (.ret)))
theorem is_hlog_Log_grounded : FnIs Tryz.prog F.hlog_Log_grounded X.hlog_Log_grounded 31 [.tmp 4, .tmp 5] := ⟨by kernel_rfl⟩

-- loop (inner ones first): [0, 1, 9, 21, 22]
/-- (*haycroft/cell.Row).Words: function 101 -/
abbrev F.cell_Row_Words : FuncId := 101
def X.cell_Row_Words : X :=
  .seq (.ops [⟨(some 6), none, .mv (.const (Go.Value.slice none 0 0))⟩,
    ⟨(some 7), none, .mv (.const (Go.Value.int Go.IntKind.i64 0))⟩])
  (.seq (.seq (.ops [⟨(some 11), none, .mv (.tmp 0)⟩,
    ⟨(some 12), none, .mv (.tmp 1)⟩,
    ⟨(some 13), none, .mv (.tmp 2)⟩,
    ⟨(some 14), none, .call 170 [(.tmp 11), (.tmp 12), (.tmp 13)]⟩,
    ⟨(some 8), none, .mv (.tmp 14)⟩])
  (.seq (.ops [⟨(some 15), none, .mv (.tmp 8)⟩,
    ⟨(some 16), none, .bin .neq 27 (.tmp 15) (.const (Go.Value.int Go.IntKind.i64 0))⟩])
  (.cond (.tmp 16)
    (.seq (.ops [⟨(some 17), none, .mv (.tmp 8)⟩,
      ⟨(some 6), none, .mv (.const (Go.Value.slice none 0 0))⟩,
      ⟨(some 7), none, .mv (.tmp 17)⟩])
    (.ret))
    (.skip))))
  (.seq (.ops [⟨(some 18), none, .mv (.tmp 2)⟩,
    ⟨(some 19), none, .mks 26 1 8 [(Go.Value.int Go.IntKind.u64 0)] (.tmp 18) (.tmp 18)⟩,
    ⟨(some 9), none, .mv (.tmp 19)⟩])
  (.seq (.seq (.ops [⟨(some 20), none, .mv (.tmp 9)⟩,
    ⟨(some 21), none, .lenS (.tmp 20)⟩,
    ⟨(some 22), none, .mv (.const (Go.Value.int Go.IntKind.i64 0))⟩])
  (.block 0 (.loop (.seq (.ops [⟨(some 23), none, .bin .lss 3 (.tmp 22) (.tmp 21)⟩])
      (.seq (.cond (.tmp 23)
        (.skip)
        (.exit 0))
      (.seq (.block 1 (.seq (.ops [⟨(some 24), none, .mv (.tmp 22)⟩,
          ⟨(some 10), none, .mv (.tmp 24)⟩])
        (.ops [⟨(some 25), none, .mv (.tmp 9)⟩,
          ⟨(some 26), none, .mv (.tmp 10)⟩,
          ⟨(some 27), none, .mv (.tmp 0)⟩,
          ⟨(some 28), none, .nilc (.tmp 27)⟩,
          ⟨(some 29), none, .fld (.tmp 28) 0⟩,
          ⟨(some 30), none, .ld (.tmp 29) none⟩,
          ⟨(some 31), none, .mv (.tmp 1)⟩,
          ⟨(some 32), none, .mv (.tmp 10)⟩,
          ⟨(some 33), none, .bin .add 3 (.tmp 31) (.tmp 32)⟩,
          ⟨(some 34), none, .idx (.tmp 30) (.tmp 33) 1⟩,
          ⟨(some 35), none, .call 167 [(.tmp 34)]⟩,
          ⟨(some 36), none, .idx (.tmp 25) (.tmp 26) 1⟩,
          ⟨none, none, .st (.tmp 36) (.tmp 35) 1⟩])))
      (.ops [⟨(some 37), none, .bin .add 3 (.tmp 22) (.const (Go.Value.int Go.IntKind.i64 1))⟩,
        ⟨(some 22), none, .mv (.tmp 37)⟩])))))))
  (.seq (.ops [⟨(some 38), none, .mv (.tmp 9)⟩,
    ⟨(some 6), none, .mv (.tmp 38)⟩,
    ⟨(some 7), none, .mv (.const (Go.Value.int Go.IntKind.i64 0))⟩])
  (.ret)))))
theorem is_cell_Row_Words : FnIs Tryz.prog F.cell_Row_Words X.cell_Row_Words 39 [.tmp 6, .tmp 7] := ⟨by kernel_rfl⟩

/-- (*haycroft/pages.Buffer).Page: function 33 -/
abbrev F.pages_Buffer_Page : FuncId := 33
def X.pages_Buffer_Page : X :=
  .seq (.ops [⟨(some 4), none, .mv (.const (Go.Value.slice none 0 0))⟩,
    ⟨(some 5), none, .mv (.const (Go.Value.int Go.IntKind.i64 0))⟩])
  (.seq (.block 0 (.seq (.ops [⟨(some 8), none, .mv (.tmp 0)⟩,
      ⟨(some 9), none, .eq false .ptr (.tmp 8) (.const (Go.Value.pointer none))⟩,
      ⟨(some 7), none, .mv (.tmp 9)⟩])
    (.cond (.tmp 7)
      (.seq (.ops [⟨(some 4), none, .mv (.const (Go.Value.slice none 0 0))⟩,
        ⟨(some 5), none, .mv (.const (Go.Value.int Go.IntKind.i64 2))⟩])
      (.ret))
      (.seq (.ops [⟨(some 11), none, .mv (.tmp 0)⟩,
        ⟨(some 12), none, .mv (.tmp 1)⟩,
        ⟨(some 13), none, .call 32 [(.tmp 11), (.tmp 12)]⟩,
        ⟨(some 14), none, .un .not (.tmp 13)⟩,
        ⟨(some 10), none, .mv (.tmp 14)⟩])
      (.cond (.tmp 10)
        (.seq (.ops [⟨(some 4), none, .mv (.const (Go.Value.slice none 0 0))⟩,
          ⟨(some 5), none, .mv (.const (Go.Value.int Go.IntKind.i64 7))⟩])
        (.ret))
        (.skip))))))
  (.seq (.ops [⟨(some 15), none, .mv (.tmp 0)⟩,
    ⟨(some 16), none, .nilc (.tmp 15)⟩,
    ⟨(some 17), none, .fld (.tmp 16) 0⟩,
    ⟨(some 18), none, .ld (.tmp 17) none⟩,
    ⟨(some 19), none, .call 100 [(.tmp 18)]⟩,
    ⟨(some 6), none, .mv (.tmp 19)⟩])
  (.seq (.drawn [(0, ⟨(some 20), none, .mv (.tmp 0)⟩),
    (1, ⟨(some 21), none, .nilc (.tmp 20)⟩),
    (2, ⟨(some 22), none, .fld (.tmp 21) 1⟩),
    (3, ⟨(some 23), none, .ld (.tmp 22) none⟩),
    (4, ⟨(some 24), none, .mv (.tmp 0)⟩),
    (5, ⟨(some 25), none, .mv (.tmp 1)⟩),
    (7, ⟨(some 27), none, .mv (.tmp 6)⟩),
    (9, ⟨(some 29), none, .mv (.tmp 6)⟩),
    (6, ⟨(some 26), none, .call 98 [(.tmp 24), (.tmp 25)]⟩),
    (8, ⟨(some 28), none, .bin .mul 3 (.tmp 26) (.tmp 27)⟩),
    (10, ⟨(some 30), none, .call 101 [(.tmp 23), (.tmp 28), (.tmp 29)]⟩),
    (11, ⟨(some 31), none, .ext (.tmp 30) 0⟩),
    (12, ⟨(some 32), none, .ext (.tmp 30) 1⟩),
    (13, ⟨(some 4), none, .mv (.tmp 31)⟩),
    (14, ⟨(some 5), none, .mv (.tmp 32)⟩)]
    [[], [0], [1], [2], [], [], [4, 5], [], [6, 7], [], [3, 8, 9, 6], [10], [10], [11, 10, 0, 1, 2, 3, 4, 5, 6, 7, 8, 9, 10, 11, 12], [12, 13, 0, 1, 2, 3, 4, 5, 6, 7, 8, 9, 10, 11, 12, 13]]
    [0, 1, 3, 7, 0, 0, 48, 0, 240, 0, 1023, 2047, 2047, 8191, 16383] 1088)
  (.ret))))
theorem is_pages_Buffer_Page : FnIs Tryz.prog F.pages_Buffer_Page X.pages_Buffer_Page 33 [.tmp 4, .tmp 5] := ⟨by kernel_rfl⟩

/-- haycroft/frame.may: function 104 -/
abbrev F.frame_may : FuncId := 104
def X.frame_may : X :=
  .seq (.ops [⟨(some 4), none, .mv (.const (Go.Value.bool false))⟩])
  (.seq (.ops [⟨(some 5), none, .mv (.tmp 0)⟩,
    ⟨(some 6), none, .bin .geq 3 (.tmp 5) (.const (Go.Value.int Go.IntKind.i64 0))⟩,
    ⟨(some 7), none, .mv (.tmp 6)⟩,
    ⟨(some 8), (some (7, true)), .mv (.tmp 0)⟩,
    ⟨(some 9), (some (7, true)), .bin .lss 3 (.tmp 8) (.const (Go.Value.int Go.IntKind.i64 64))⟩,
    ⟨(some 10), none, .pick (.tmp 7) (.tmp 9) (.const (Go.Value.bool false))⟩,
    ⟨(some 11), none, .mv (.tmp 10)⟩,
    ⟨(some 12), (some (11, true)), .mv (.tmp 1)⟩,
    ⟨(some 13), (some (11, true)), .bin .geq 3 (.tmp 12) (.const (Go.Value.int Go.IntKind.i64 1))⟩,
    ⟨(some 14), none, .pick (.tmp 11) (.tmp 13) (.const (Go.Value.bool false))⟩,
    ⟨(some 15), none, .mv (.tmp 14)⟩,
    ⟨(some 16), (some (15, true)), .mv (.tmp 1)⟩,
    ⟨(some 17), (some (15, true)), .bin .leq 3 (.tmp 16) (.const (Go.Value.int Go.IntKind.i64 512))⟩,
    ⟨(some 18), none, .pick (.tmp 15) (.tmp 17) (.const (Go.Value.bool false))⟩,
    ⟨(some 4), none, .mv (.tmp 18)⟩])
  (.ret))
theorem is_frame_may : FnIs Tryz.prog F.frame_may X.frame_may 19 [.tmp 4] := ⟨by kernel_rfl⟩

-- loop (inner ones first): [1, 6, 51, 52, 53]
-- loop (inner ones first): [0, 1, 6, 24, 25]
/-- haycroft/field.Bytes: function 176 -/
abbrev F.field_Bytes : FuncId := 176
def X.field_Bytes : X :=
  .seq (.ops [⟨(some 4), none, .mv (.const (Go.Value.string { data := #[] }))⟩,
    ⟨(some 5), none, .mv (.const (Go.Value.int Go.IntKind.i64 0))⟩])
  (.seq (.block 0 (.seq (.ops [⟨(some 11), none, .mv (.tmp 1)⟩,
      ⟨(some 12), none, .bin .lss 3 (.tmp 11) (.const (Go.Value.int Go.IntKind.i64 0))⟩,
      ⟨(some 10), none, .mv (.tmp 12)⟩])
    (.cond (.tmp 10)
      (.seq (.ops [⟨(some 4), none, .mv (.const (Go.Value.string { data := #[] }))⟩,
        ⟨(some 5), none, .mv (.const (Go.Value.int Go.IntKind.i64 1))⟩])
      (.ret))
      (.seq (.ops [⟨(some 14), none, .mv (.tmp 1)⟩,
        ⟨(some 15), none, .mv (.tmp 0)⟩,
        ⟨(some 16), none, .lenS (.tmp 15)⟩,
        ⟨(some 17), none, .bin .mul 3 (.const (Go.Value.int Go.IntKind.i64 8)) (.tmp 16)⟩,
        ⟨(some 18), none, .bin .gtr 3 (.tmp 14) (.tmp 17)⟩,
        ⟨(some 13), none, .mv (.tmp 18)⟩])
      (.cond (.tmp 13)
        (.seq (.ops [⟨(some 4), none, .mv (.const (Go.Value.string { data := #[] }))⟩,
          ⟨(some 5), none, .mv (.const (Go.Value.int Go.IntKind.i64 3))⟩])
        (.ret))
        (.skip))))))
  (.seq (.ops [⟨(some 19), none, .mv (.tmp 0)⟩,
    ⟨(some 20), none, .lenS (.tmp 19)⟩,
    ⟨(some 21), none, .bin .mul 3 (.const (Go.Value.int Go.IntKind.i64 8)) (.tmp 20)⟩,
    ⟨(some 22), none, .mks 5 1 1 [(Go.Value.int Go.IntKind.u8 0)] (.tmp 21) (.tmp 21)⟩,
    ⟨(some 6), none, .mv (.tmp 22)⟩])
  (.seq (.seq (.ops [⟨(some 23), none, .mv (.tmp 6)⟩,
    ⟨(some 24), none, .lenS (.tmp 23)⟩,
    ⟨(some 25), none, .mv (.const (Go.Value.int Go.IntKind.i64 0))⟩])
  (.block 1 (.loop (.seq (.ops [⟨(some 26), none, .bin .lss 3 (.tmp 25) (.tmp 24)⟩])
      (.seq (.cond (.tmp 26)
        (.skip)
        (.exit 1))
      (.seq (.block 2 (.seq (.ops [⟨(some 27), none, .mv (.tmp 25)⟩,
          ⟨(some 7), none, .mv (.tmp 27)⟩])
        (.ops [⟨(some 28), none, .mv (.tmp 6)⟩,
          ⟨(some 29), none, .mv (.tmp 7)⟩,
          ⟨(some 30), none, .mv (.tmp 0)⟩,
          ⟨(some 31), none, .mv (.tmp 7)⟩,
          ⟨(some 32), none, .bin .quo 3 (.tmp 31) (.const (Go.Value.int Go.IntKind.i64 8))⟩,
          ⟨(some 33), none, .idx (.tmp 30) (.tmp 32) 1⟩,
          ⟨(some 34), none, .ld (.tmp 33) none⟩,
          ⟨(some 35), none, .mv (.tmp 7)⟩,
          ⟨(some 36), none, .bin .rem 3 (.tmp 35) (.const (Go.Value.int Go.IntKind.i64 8))⟩,
          ⟨(some 37), none, .bin .mul 3 (.tmp 36) (.const (Go.Value.int Go.IntKind.i64 8))⟩,
          ⟨(some 38), none, .bin .shr 26 (.tmp 34) (.tmp 37)⟩,
          ⟨(some 39), none, .conv Go.IntKind.u8 (.tmp 38)⟩,
          ⟨(some 40), none, .idx (.tmp 28) (.tmp 29) 1⟩,
          ⟨none, none, .st (.tmp 40) (.tmp 39) 1⟩])))
      (.ops [⟨(some 41), none, .bin .add 3 (.tmp 25) (.const (Go.Value.int Go.IntKind.i64 1))⟩,
        ⟨(some 25), none, .mv (.tmp 41)⟩])))))))
  (.seq (.seq (.ops [⟨(some 42), none, .mv (.tmp 0)⟩,
    ⟨(some 43), none, .lenS (.tmp 42)⟩,
    ⟨(some 44), none, .mv (.tmp 1)⟩,
    ⟨(some 45), none, .bin .add 3 (.tmp 44) (.const (Go.Value.int Go.IntKind.i64 8))⟩,
    ⟨(some 46), none, .bin .sub 3 (.tmp 45) (.const (Go.Value.int Go.IntKind.i64 1))⟩,
    ⟨(some 47), none, .bin .quo 3 (.tmp 46) (.const (Go.Value.int Go.IntKind.i64 8))⟩,
    ⟨(some 48), none, .bin .neq 3 (.tmp 43) (.tmp 47)⟩])
  (.cond (.tmp 48)
    (.seq (.ops [⟨(some 4), none, .mv (.const (Go.Value.string { data := #[] }))⟩,
      ⟨(some 5), none, .mv (.const (Go.Value.int Go.IntKind.i64 4))⟩])
    (.ret))
    (.skip)))
  (.seq (.seq (.ops [⟨(some 49), none, .mv (.tmp 6)⟩,
    ⟨(some 50), none, .mv (.tmp 1)⟩,
    ⟨(some 51), none, .slc 1 (.tmp 49) (some (.tmp 50)) none⟩,
    ⟨(some 52), none, .lenS (.tmp 51)⟩,
    ⟨(some 53), none, .mv (.const (Go.Value.int Go.IntKind.i64 0))⟩])
  (.block 3 (.loop (.seq (.ops [⟨(some 54), none, .bin .lss 3 (.tmp 53) (.tmp 52)⟩])
      (.seq (.cond (.tmp 54)
        (.skip)
        (.exit 3))
      (.seq (.block 4 (.seq (.ops [⟨(some 55), none, .idx (.tmp 51) (.tmp 53) 1⟩,
          ⟨(some 56), none, .ld (.tmp 55) none⟩,
          ⟨(some 9), none, .mv (.tmp 56)⟩])
        (.seq (.ops [⟨(some 57), none, .mv (.tmp 9)⟩,
          ⟨(some 58), none, .bin .neq 5 (.tmp 57) (.const (Go.Value.int Go.IntKind.u8 0))⟩])
        (.cond (.tmp 58)
          (.seq (.ops [⟨(some 4), none, .mv (.const (Go.Value.string { data := #[] }))⟩,
            ⟨(some 5), none, .mv (.const (Go.Value.int Go.IntKind.i64 4))⟩])
          (.ret))
          (.skip)))))
      (.ops [⟨(some 59), none, .bin .add 3 (.tmp 53) (.const (Go.Value.int Go.IntKind.i64 1))⟩,
        ⟨(some 53), none, .mv (.tmp 59)⟩])))))))
  (.seq (.ops [⟨(some 60), none, .mv (.tmp 6)⟩,
    ⟨(some 61), none, .mv (.tmp 1)⟩,
    ⟨(some 62), none, .slc 1 (.tmp 60) none (some (.tmp 61))⟩,
    ⟨(some 63), none, .b2s (.tmp 62)⟩,
    ⟨(some 4), none, .mv (.tmp 63)⟩,
    ⟨(some 5), none, .mv (.const (Go.Value.int Go.IntKind.i64 0))⟩])
  (.ret)))))))
theorem is_field_Bytes : FnIs Tryz.prog F.field_Bytes X.field_Bytes 64 [.tmp 4, .tmp 5] := ⟨by kernel_rfl⟩

/-- haycroft/frame.text: function 113 -/
abbrev F.frame_text : FuncId := 113
def X.frame_text : X :=
  .seq (.ops [⟨(some 2), none, .mv (.const (Go.Value.string { data := #[] }))⟩])
  (.seq (.ops [⟨(some 6), none, .mv (.tmp 0)⟩,
    ⟨(some 7), none, .mv (.tmp 0)⟩,
    ⟨(some 8), none, .lenS (.tmp 7)⟩,
    ⟨(some 9), none, .bin .mul 3 (.const (Go.Value.int Go.IntKind.i64 8)) (.tmp 8)⟩,
    ⟨(some 10), none, .call 176 [(.tmp 6), (.tmp 9)]⟩,
    ⟨(some 5), none, .mv (.tmp 10)⟩,
    ⟨(some 11), none, .ext (.tmp 5) 0⟩,
    ⟨(some 12), none, .ext (.tmp 5) 1⟩,
    ⟨(some 3), none, .mv (.tmp 11)⟩,
    ⟨(some 4), none, .mv (.tmp 12)⟩])
  (.seq (.ops [⟨(some 13), none, .mv (.tmp 3)⟩,
    ⟨(some 2), none, .mv (.tmp 13)⟩])
  (.ret)))
theorem is_frame_text : FnIs Tryz.prog F.frame_text X.frame_text 14 [.tmp 2] := ⟨by kernel_rfl⟩

-- loop (inner ones first): [1, 5, 10, 11, 20]
-- loop (inner ones first): [1, 5, 10, 11]
/-- haycroft/seal.Next: function 206 -/
abbrev F.seal_Next : FuncId := 206
def X.seal_Next : X :=
  .seq (.ops [⟨(some 4), none, .mv (.const (Go.Value.int Go.IntKind.u64 0))⟩])
  (.seq (.ops [⟨(some 7), none, .mv (.tmp 0)⟩,
    ⟨(some 8), none, .un .xor (.tmp 7)⟩,
    ⟨(some 5), none, .mv (.tmp 8)⟩])
  (.seq (.seq (.ops [⟨(some 9), none, .mv (.tmp 1)⟩,
    ⟨(some 10), none, .lenB (.tmp 9)⟩,
    ⟨(some 11), none, .mv (.const (Go.Value.int Go.IntKind.i64 0))⟩])
  (.block 0 (.loop (.seq (.ops [⟨(some 12), none, .bin .lss 3 (.tmp 11) (.tmp 10)⟩])
      (.seq (.cond (.tmp 12)
        (.skip)
        (.exit 0))
      (.seq (.block 1 (.seq (.ops [⟨(some 13), none, .mv (.tmp 11)⟩,
          ⟨(some 6), none, .mv (.tmp 13)⟩])
        (.seq (.ops [⟨(some 14), none, .mv (.tmp 5)⟩,
          ⟨(some 15), none, .mv (.tmp 1)⟩,
          ⟨(some 16), none, .mv (.tmp 6)⟩,
          ⟨(some 17), none, .ixs (.tmp 15) (.tmp 16)⟩,
          ⟨(some 18), none, .conv Go.IntKind.u64 (.tmp 17)⟩,
          ⟨(some 19), none, .bin .xor 26 (.tmp 14) (.tmp 18)⟩,
          ⟨(some 5), none, .mv (.tmp 19)⟩])
        (.seq (.ops [⟨(some 20), none, .mv (.const (Go.Value.int Go.IntKind.i64 0))⟩])
        (.block 2 (.loop (.seq (.ops [⟨(some 21), none, .bin .lss 3 (.tmp 20) (.const (Go.Value.int Go.IntKind.i64 8))⟩])
            (.seq (.cond (.tmp 21)
              (.skip)
              (.exit 2))
            (.seq (.block 3 (.ops [⟨(some 22), none, .mv (.tmp 5)⟩,
                ⟨(some 23), none, .bin .shr 26 (.tmp 22) (.const (Go.Value.int Go.IntKind.u64 1))⟩,
                ⟨(some 24), none, .mv (.tmp 5)⟩,
                ⟨(some 25), none, .bin .and 26 (.tmp 24) (.const (Go.Value.int Go.IntKind.u64 1))⟩,
                ⟨(some 26), none, .un .neg (.tmp 25)⟩,
                ⟨(some 27), none, .bin .and 26 (.const (Go.Value.int Go.IntKind.u64 14514072000185962306)) (.tmp 26)⟩,
                ⟨(some 28), none, .bin .xor 26 (.tmp 23) (.tmp 27)⟩,
                ⟨(some 5), none, .mv (.tmp 28)⟩]))
            (.ops [⟨(some 29), none, .bin .add 3 (.tmp 20) (.const (Go.Value.int Go.IntKind.i64 1))⟩,
              ⟨(some 20), none, .mv (.tmp 29)⟩]))))))))))
      (.ops [⟨(some 30), none, .bin .add 3 (.tmp 11) (.const (Go.Value.int Go.IntKind.i64 1))⟩,
        ⟨(some 11), none, .mv (.tmp 30)⟩])))))))
  (.seq (.ops [⟨(some 31), none, .mv (.tmp 5)⟩,
    ⟨(some 32), none, .un .xor (.tmp 31)⟩,
    ⟨(some 4), none, .mv (.tmp 32)⟩])
  (.ret))))
theorem is_seal_Next : FnIs Tryz.prog F.seal_Next X.seal_Next 33 [.tmp 4] := ⟨by kernel_rfl⟩

/-- haycroft/seal.Sum: function 172 -/
abbrev F.seal_Sum : FuncId := 172
def X.seal_Sum : X :=
  .seq (.ops [⟨(some 2), none, .mv (.const (Go.Value.int Go.IntKind.u64 0))⟩])
  (.seq (.ops [⟨(some 3), none, .mv (.tmp 0)⟩,
    ⟨(some 4), none, .call 206 [(.const (Go.Value.int Go.IntKind.u64 0)), (.tmp 3)]⟩,
    ⟨(some 2), none, .mv (.tmp 4)⟩])
  (.ret))
theorem is_seal_Sum : FnIs Tryz.prog F.seal_Sum X.seal_Sum 5 [.tmp 2] := ⟨by kernel_rfl⟩

/-- haycroft/seal.tail: function 171 -/
abbrev F.seal_tail : FuncId := 171
def X.seal_tail : X :=
  .seq (.ops [⟨(some 2), none, .mv (.const (Go.Value.string { data := #[] }))⟩])
  (.seq (.ops [⟨(some 6), none, .mv (.tmp 0)⟩,
    ⟨(some 7), none, .bsl 26 1 1 [(Go.Value.int Go.IntKind.u64 0)] [(0, (.tmp 6))]⟩,
    ⟨(some 8), none, .call 176 [(.tmp 7), (.const (Go.Value.int Go.IntKind.i64 8))]⟩,
    ⟨(some 5), none, .mv (.tmp 8)⟩,
    ⟨(some 9), none, .ext (.tmp 5) 0⟩,
    ⟨(some 10), none, .ext (.tmp 5) 1⟩,
    ⟨(some 3), none, .mv (.tmp 9)⟩,
    ⟨(some 4), none, .mv (.tmp 10)⟩])
  (.seq (.ops [⟨(some 11), none, .mv (.tmp 3)⟩,
    ⟨(some 2), none, .mv (.tmp 11)⟩])
  (.ret)))
theorem is_seal_tail : FnIs Tryz.prog F.seal_tail X.seal_tail 12 [.tmp 2] := ⟨by kernel_rfl⟩

/-- haycroft/seal.Seal: function 112 -/
abbrev F.seal_Seal : FuncId := 112
def X.seal_Seal : X :=
  .seq (.ops [⟨(some 2), none, .mv (.const (Go.Value.string { data := #[] }))⟩])
  (.seq (.ops [⟨(some 3), none, .mv (.tmp 0)⟩,
    ⟨(some 4), none, .mv (.tmp 0)⟩,
    ⟨(some 5), none, .call 172 [(.tmp 4)]⟩,
    ⟨(some 6), none, .call 171 [(.tmp 5)]⟩,
    ⟨(some 7), none, .bin .add 9 (.tmp 3) (.tmp 6)⟩,
    ⟨(some 2), none, .mv (.tmp 7)⟩])
  (.ret))
theorem is_seal_Seal : FnIs Tryz.prog F.seal_Seal X.seal_Seal 8 [.tmp 2] := ⟨by kernel_rfl⟩

/-- haycroft/frame.Pack: function 41 -/
abbrev F.frame_Pack : FuncId := 41
def X.frame_Pack : X :=
  .seq (.ops [⟨(some 4), none, .mv (.const (Go.Value.string { data := #[] }))⟩,
    ⟨(some 5), none, .mv (.const (Go.Value.int Go.IntKind.i64 0))⟩])
  (.seq (.seq (.ops [⟨(some 6), none, .mv (.tmp 0)⟩,
    ⟨(some 7), none, .mv (.tmp 1)⟩,
    ⟨(some 8), none, .lenS (.tmp 7)⟩,
    ⟨(some 9), none, .call 104 [(.tmp 6), (.tmp 8)]⟩,
    ⟨(some 10), none, .un .not (.tmp 9)⟩])
  (.cond (.tmp 10)
    (.seq (.ops [⟨(some 4), none, .mv (.const (Go.Value.string { data := #[] }))⟩,
      ⟨(some 5), none, .mv (.const (Go.Value.int Go.IntKind.i64 1))⟩])
    (.ret))
    (.skip)))
  (.seq (.ops [⟨(some 11), none, .mv (.tmp 0)⟩,
    ⟨(some 12), none, .conv Go.IntKind.u64 (.tmp 11)⟩,
    ⟨(some 13), none, .mv (.tmp 1)⟩,
    ⟨(some 14), none, .lenS (.tmp 13)⟩,
    ⟨(some 15), none, .conv Go.IntKind.u64 (.tmp 14)⟩,
    ⟨(some 16), none, .bsl 26 1 2 [(Go.Value.int Go.IntKind.u64 0)] [(0, (.tmp 12)), (1, (.tmp 15))]⟩,
    ⟨(some 17), none, .call 113 [(.tmp 16)]⟩,
    ⟨(some 18), none, .mv (.tmp 1)⟩,
    ⟨(some 19), none, .call 113 [(.tmp 18)]⟩,
    ⟨(some 20), none, .bin .add 9 (.tmp 17) (.tmp 19)⟩,
    ⟨(some 21), none, .call 112 [(.tmp 20)]⟩,
    ⟨(some 4), none, .mv (.tmp 21)⟩,
    ⟨(some 5), none, .mv (.const (Go.Value.int Go.IntKind.i64 0))⟩])
  (.ret)))
theorem is_frame_Pack : FnIs Tryz.prog F.frame_Pack X.frame_Pack 22 [.tmp 4, .tmp 5] := ⟨by kernel_rfl⟩

/-- (*haycroft/device.Device).ask$1: function 177 -/
abbrev F.device_Device_ask_1 : FuncId := 177
def X.device_Device_ask_1 : X :=
  .seq (.ops [⟨(some 2), none, .box 148 (.tmp 0)⟩,
    ⟨(some 3), none, .mv (.const (Go.Value.bool false))⟩])
  (.seq (.ops [⟨(some 4), none, .fld (.tmp 2) 2⟩,
    ⟨(some 5), none, .ld (.tmp 4) none⟩,
    ⟨(some 6), none, .mv (.tmp 5)⟩,
    ⟨(some 7), (some (6, true)), .fld (.tmp 2) 0⟩,
    ⟨(some 8), (some (6, true)), .ld (.tmp 7) (some 2)⟩,
    ⟨(some 9), (some (6, true)), .fld (.tmp 1) 0⟩,
    ⟨(some 10), (some (6, true)), .ld (.tmp 9) (some 2)⟩,
    ⟨(some 11), (some (6, true)), .eq false (.agg 2 [(0, 0), (1, 0)]) (.tmp 8) (.tmp 10)⟩,
    ⟨(some 12), none, .pick (.tmp 6) (.tmp 11) (.const (Go.Value.bool false))⟩,
    ⟨(some 3), none, .mv (.tmp 12)⟩])
  (.ret))
theorem is_device_Device_ask_1 : FnIs Tryz.prog F.device_Device_ask_1 X.device_Device_ask_1 13 [.tmp 3] := ⟨by kernel_rfl⟩

/-- (*haycroft/device.Device).power: function 105 -/
abbrev F.device_Device_power : FuncId := 105
def X.device_Device_power : X :=
  .seq (.ops [⟨(some 2), none, .mv (.const (Go.Value.int Go.IntKind.i64 0))⟩])
  (.seq (.block 0 (.seq (.ops [⟨(some 4), none, .mv (.tmp 0)⟩,
      ⟨(some 5), none, .eq false .ptr (.tmp 4) (.const (Go.Value.pointer none))⟩,
      ⟨(some 3), none, .mv (.tmp 5)⟩])
    (.cond (.tmp 3)
      (.seq (.ops [⟨(some 2), none, .mv (.const (Go.Value.int Go.IntKind.i64 2))⟩])
      (.ret))
      (.seq (.ops [⟨(some 7), none, .mv (.tmp 0)⟩,
        ⟨(some 8), none, .nilc (.tmp 7)⟩,
        ⟨(some 9), none, .fld (.tmp 8) 0⟩,
        ⟨(some 10), none, .ld (.tmp 9) none⟩,
        ⟨(some 6), none, .mv (.tmp 10)⟩])
      (.cond (.tmp 6)
        (.seq (.ops [⟨(some 2), none, .mv (.const (Go.Value.int Go.IntKind.i64 6))⟩])
        (.ret))
        (.skip))))))
  (.seq (.ops [⟨(some 2), none, .mv (.const (Go.Value.int Go.IntKind.i64 0))⟩])
  (.ret)))
theorem is_device_Device_power : FnIs Tryz.prog F.device_Device_power X.device_Device_power 11 [.tmp 2] := ⟨by kernel_rfl⟩

/-- haycroft/device.may: function 178 -/
abbrev F.device_may : FuncId := 178
def X.device_may : X :=
  .seq (.ops [⟨(some 1), none, .box 73 (.tmp 0)⟩,
    ⟨(some 2), none, .mv (.const (Go.Value.bool false))⟩])
  (.seq (.ops [⟨(some 3), none, .fld (.tmp 1) 0⟩,
    ⟨(some 4), none, .ld (.tmp 3) none⟩,
    ⟨(some 5), none, .bin .geq 3 (.tmp 4) (.const (Go.Value.int Go.IntKind.i64 0))⟩,
    ⟨(some 6), none, .mv (.tmp 5)⟩,
    ⟨(some 7), (some (6, true)), .fld (.tmp 1) 0⟩,
    ⟨(some 8), (some (6, true)), .ld (.tmp 7) none⟩,
    ⟨(some 9), (some (6, true)), .bin .leq 3 (.tmp 8) (.const (Go.Value.int Go.IntKind.i64 2))⟩,
    ⟨(some 10), none, .pick (.tmp 6) (.tmp 9) (.const (Go.Value.bool false))⟩,
    ⟨(some 11), none, .mv (.tmp 10)⟩,
    ⟨(some 12), (some (11, true)), .fld (.tmp 1) 1⟩,
    ⟨(some 13), (some (11, true)), .ld (.tmp 12) none⟩,
    ⟨(some 14), (some (11, true)), .bin .geq 3 (.tmp 13) (.const (Go.Value.int Go.IntKind.i64 0))⟩,
    ⟨(some 15), none, .pick (.tmp 11) (.tmp 14) (.const (Go.Value.bool false))⟩,
    ⟨(some 16), none, .mv (.tmp 15)⟩,
    ⟨(some 17), (some (16, true)), .fld (.tmp 1) 1⟩,
    ⟨(some 18), (some (16, true)), .ld (.tmp 17) none⟩,
    ⟨(some 19), (some (16, true)), .bin .lss 3 (.tmp 18) (.const (Go.Value.int Go.IntKind.i64 64))⟩,
    ⟨(some 20), none, .pick (.tmp 16) (.tmp 19) (.const (Go.Value.bool false))⟩,
    ⟨(some 2), none, .mv (.tmp 20)⟩])
  (.ret))
theorem is_device_may : FnIs Tryz.prog F.device_may X.device_may 21 [.tmp 2] := ⟨by kernel_rfl⟩

-- loop (inner ones first): [0, 6]
/-- maps.Values[map[int]haycroft/device.job,int,haycroft/device.job]$1: function 210 -/
abbrev F.maps_Values_map_int_device_job_int_device_job_1 : FuncId := 210
def X.maps_Values_map_int_device_job_int_device_job_1 : X :=
  .seq (.ops [⟨(some 5), none, .ld (.tmp 1) none⟩,
    ⟨(some 6), none, .more (.rng (.tmp 5))⟩])
  (.block 0 (.loop (.seq (.ops [⟨(some 7), none, .more (.nxt (.tmp 6))⟩,
        ⟨(some 8), none, .ext (.tmp 7) 0⟩])
      (.seq (.cond (.tmp 8)
        (.skip)
        (.exit 0))
      (.block 1 (.seq (.ops [⟨(some 9), none, .more (.ent (.tmp 6))⟩,
          ⟨(some 10), none, .ext (.tmp 9) 1⟩,
          ⟨(some 4), none, .new 148 (Go.Value.agg #[(Go.Value.int Go.IntKind.i64 0), (Go.Value.int Go.IntKind.i64 0), (Go.Value.bool false), (Go.Value.string { data := #[] })])⟩,
          ⟨none, none, .st (.tmp 4) (.tmp 10) 4⟩])
        (.seq (.ops [⟨(some 11), none, .mv (.tmp 0)⟩,
          ⟨(some 12), none, .ld (.tmp 4) (some 4)⟩,
          ⟨(some 13), none, .more (.cv (.tmp 11) [(.tmp 12)])⟩,
          ⟨(some 14), none, .un .not (.tmp 13)⟩])
        (.cond (.tmp 14)
          (.ret)
          (.skip)))))))))
theorem is_maps_Values_map_int_device_job_int_device_job_1 : FnIs Tryz.prog F.maps_Values_map_int_device_job_int_device_job_1 X.maps_Values_map_int_device_job_int_device_job_1 15 [] := ⟨by kernel_rfl⟩

/-- maps.Values[map[int]haycroft/device.job,int,haycroft/device.job]: function 181 -/
abbrev F.maps_Values_map_int_device_job_int_device_job : FuncId := 181
def X.maps_Values_map_int_device_job_int_device_job : X :=
  .seq (.ops [⟨(some 1), none, .box 140 (.tmp 0)⟩,
    ⟨(some 2), none, .mv (.const Go.Value.nilFunc)⟩])
  (.seq (.ops [⟨(some 3), none, .more (.mkf 210 [] [(.tmp 1)])⟩,
    ⟨(some 2), none, .mv (.tmp 3)⟩])
  (.ret))
theorem is_maps_Values_map_int_device_job_int_device_job : FnIs Tryz.prog F.maps_Values_map_int_device_job_int_device_job X.maps_Values_map_int_device_job_int_device_job 4 [.tmp 2] := ⟨by kernel_rfl⟩
theorem bd_maps_Values_map_int_device_job_int_device_job_1 : bodyOk Tryz.prog F.maps_Values_map_int_device_job_int_device_job_1 = true := by kernel_rfl

/-- slices.AppendSeq[[]haycroft/device.job,haycroft/device.job]: function 209, not walked -/
abbrev F.slices_AppendSeq_device_job_device_job : FuncId := 209

/-- slices.Collect[haycroft/device.job]: function 180 -/
abbrev F.slices_Collect_device_job : FuncId := 180
def X.slices_Collect_device_job : X :=
  .seq (.ops [⟨(some 2), none, .mv (.const (Go.Value.slice none 0 0))⟩])
  (.seq (.ops [⟨(some 3), none, .mv (.tmp 0)⟩,
    ⟨(some 4), none, .call 209 [(.const (Go.Value.slice none 0 0)), (.tmp 3)]⟩,
    ⟨(some 2), none, .mv (.tmp 4)⟩])
  (.ret))
theorem is_slices_Collect_device_job : FnIs Tryz.prog F.slices_Collect_device_job X.slices_Collect_device_job 5 [.tmp 2] := ⟨by kernel_rfl⟩

-- loop (inner ones first): [0, 1, 7, 8]
/-- slices.IndexFunc[[]haycroft/device.job,haycroft/device.job]: function 208 -/
abbrev F.slices_IndexFunc_device_job_device_job : FuncId := 208
def X.slices_IndexFunc_device_job_device_job : X :=
  .seq (.ops [⟨(some 4), none, .mv (.const (Go.Value.int Go.IntKind.i64 0))⟩])
  (.seq (.seq (.ops [⟨(some 6), none, .mv (.tmp 0)⟩,
    ⟨(some 7), none, .lenS (.tmp 6)⟩,
    ⟨(some 8), none, .mv (.const (Go.Value.int Go.IntKind.i64 0))⟩])
  (.block 0 (.loop (.seq (.ops [⟨(some 9), none, .bin .lss 3 (.tmp 8) (.tmp 7)⟩])
      (.seq (.cond (.tmp 9)
        (.skip)
        (.exit 0))
      (.seq (.block 1 (.seq (.ops [⟨(some 10), none, .mv (.tmp 8)⟩,
          ⟨(some 5), none, .mv (.tmp 10)⟩])
        (.seq (.ops [⟨(some 11), none, .mv (.tmp 1)⟩,
          ⟨(some 12), none, .mv (.tmp 0)⟩,
          ⟨(some 13), none, .mv (.tmp 5)⟩,
          ⟨(some 14), none, .idx (.tmp 12) (.tmp 13) 4⟩,
          ⟨(some 15), none, .ld (.tmp 14) (some 4)⟩,
          ⟨(some 16), none, .more (.cv (.tmp 11) [(.tmp 15)])⟩])
        (.cond (.tmp 16)
          (.seq (.ops [⟨(some 17), none, .mv (.tmp 5)⟩,
            ⟨(some 4), none, .mv (.tmp 17)⟩])
          (.ret))
          (.skip)))))
      (.ops [⟨(some 18), none, .bin .add 3 (.tmp 8) (.const (Go.Value.int Go.IntKind.i64 1))⟩,
        ⟨(some 8), none, .mv (.tmp 18)⟩])))))))
  (.seq (.ops [⟨(some 4), none, .mv (.const (Go.Value.int Go.IntKind.i64 (-1)))⟩])
  (.ret)))
theorem is_slices_IndexFunc_device_job_device_job : FnIs Tryz.prog F.slices_IndexFunc_device_job_device_job X.slices_IndexFunc_device_job_device_job 19 [.tmp 4] := ⟨by kernel_rfl⟩

/-- slices.ContainsFunc[[]haycroft/device.job,haycroft/device.job]: function 179 -/
abbrev F.slices_ContainsFunc_device_job_device_job : FuncId := 179
def X.slices_ContainsFunc_device_job_device_job : X :=
  .seq (.ops [⟨(some 4), none, .mv (.const (Go.Value.bool false))⟩])
  (.seq (.ops [⟨(some 5), none, .mv (.tmp 0)⟩,
    ⟨(some 6), none, .mv (.tmp 1)⟩,
    ⟨(some 7), none, .call 208 [(.tmp 5), (.tmp 6)]⟩,
    ⟨(some 8), none, .bin .geq 3 (.tmp 7) (.const (Go.Value.int Go.IntKind.i64 0))⟩,
    ⟨(some 4), none, .mv (.tmp 8)⟩])
  (.ret))
theorem is_slices_ContainsFunc_device_job_device_job : FnIs Tryz.prog F.slices_ContainsFunc_device_job_device_job X.slices_ContainsFunc_device_job_device_job 9 [.tmp 4] := ⟨by kernel_rfl⟩

/-- (*haycroft/device.Device).ask: function 114 -/
abbrev F.device_Device_ask : FuncId := 114
def X.device_Device_ask : X :=
  .seq (.ops [⟨(some 3), none, .box 148 (.tmp 1)⟩,
    ⟨(some 4), none, .mv (.const (Go.Value.int Go.IntKind.i64 0))⟩,
    ⟨(some 5), none, .mv (.const (Go.Value.int Go.IntKind.i64 0))⟩])
  (.seq (.ops [⟨(some 8), none, .more (.mkf 177 [] [(.tmp 3)])⟩,
    ⟨(some 6), none, .mv (.tmp 8)⟩])
  (.seq (.seq (.ops [⟨(some 9), none, .mv (.tmp 0)⟩,
    ⟨(some 10), none, .call 105 [(.tmp 9)]⟩,
    ⟨(some 7), none, .mv (.tmp 10)⟩])
  (.block 0 (.seq (.ops [⟨(some 12), none, .mv (.tmp 7)⟩,
      ⟨(some 13), none, .bin .neq 27 (.tmp 12) (.const (Go.Value.int Go.IntKind.i64 0))⟩,
      ⟨(some 11), none, .mv (.tmp 13)⟩])
    (.cond (.tmp 11)
      (.seq (.ops [⟨(some 14), none, .mv (.tmp 7)⟩,
        ⟨(some 4), none, .mv (.const (Go.Value.int Go.IntKind.i64 0))⟩,
        ⟨(some 5), none, .mv (.tmp 14)⟩])
      (.ret))
      (.seq (.ops [⟨(some 16), none, .fld (.tmp 3) 0⟩,
        ⟨(some 17), none, .ld (.tmp 16) (some 2)⟩,
        ⟨(some 18), none, .call 178 [(.tmp 17)]⟩,
        ⟨(some 19), none, .un .not (.tmp 18)⟩,
        ⟨(some 15), none, .mv (.tmp 19)⟩])
      (.cond (.tmp 15)
        (.seq (.ops [⟨(some 4), none, .mv (.const (Go.Value.int Go.IntKind.i64 0))⟩,
          ⟨(some 5), none, .mv (.const (Go.Value.int Go.IntKind.i64 1))⟩])
        (.ret))
        (.seq (.ops [⟨(some 21), none, .fld (.tmp 3) 3⟩,
          ⟨(some 22), none, .ld (.tmp 21) none⟩,
          ⟨(some 23), none, .lenB (.tmp 22)⟩,
          ⟨(some 24), none, .bin .gtr 3 (.tmp 23) (.const (Go.Value.int Go.IntKind.i64 131072))⟩,
          ⟨(some 20), none, .mv (.tmp 24)⟩])
        (.cond (.tmp 20)
          (.seq (.ops [⟨(some 4), none, .mv (.const (Go.Value.int Go.IntKind.i64 0))⟩,
            ⟨(some 5), none, .mv (.const (Go.Value.int Go.IntKind.i64 5))⟩])
          (.ret))
          (.seq (.ops [⟨(some 26), none, .fld (.tmp 3) 2⟩,
            ⟨(some 27), none, .ld (.tmp 26) none⟩,
            ⟨(some 28), none, .mv (.tmp 27)⟩,
            ⟨(some 29), (some (28, true)), .mv (.tmp 0)⟩,
            ⟨(some 30), (some (28, true)), .nilc (.tmp 29)⟩,
            ⟨(some 31), (some (28, true)), .fld (.tmp 30) 2⟩,
            ⟨(some 32), (some (28, true)), .ld (.tmp 31) none⟩,
            ⟨(some 33), (some (28, true)), .call 181 [(.tmp 32)]⟩,
            ⟨(some 34), (some (28, true)), .call 180 [(.tmp 33)]⟩,
            ⟨(some 35), (some (28, true)), .mv (.tmp 6)⟩,
            ⟨(some 36), (some (28, true)), .call 179 [(.tmp 34), (.tmp 35)]⟩,
            ⟨(some 37), none, .pick (.tmp 28) (.tmp 36) (.const (Go.Value.bool false))⟩,
            ⟨(some 25), none, .mv (.tmp 37)⟩])
          (.cond (.tmp 25)
            (.seq (.ops [⟨(some 4), none, .mv (.const (Go.Value.int Go.IntKind.i64 0))⟩,
              ⟨(some 5), none, .mv (.const (Go.Value.int Go.IntKind.i64 10))⟩])
            (.ret))
            (.seq (.ops [⟨(some 39), none, .mv (.tmp 0)⟩,
              ⟨(some 40), none, .nilc (.tmp 39)⟩,
              ⟨(some 41), none, .fld (.tmp 40) 2⟩,
              ⟨(some 42), none, .ld (.tmp 41) none⟩,
              ⟨(some 43), none, .more (.lenM (.tmp 42))⟩,
              ⟨(some 44), none, .bin .geq 3 (.tmp 43) (.const (Go.Value.int Go.IntKind.i64 32))⟩,
              ⟨(some 38), none, .mv (.tmp 44)⟩])
            (.cond (.tmp 38)
              (.seq (.ops [⟨(some 4), none, .mv (.const (Go.Value.int Go.IntKind.i64 0))⟩,
                ⟨(some 5), none, .mv (.const (Go.Value.int Go.IntKind.i64 9))⟩])
              (.ret))
              (.skip)))))))))))))
  (.seq (.ops [⟨(some 45), none, .mv (.tmp 0)⟩,
    ⟨(some 46), none, .nilc (.tmp 45)⟩,
    ⟨(some 47), none, .fld (.tmp 46) 4⟩,
    ⟨(some 48), none, .ld (.tmp 47) none⟩,
    ⟨(some 49), none, .bin .add 3 (.tmp 48) (.const (Go.Value.int Go.IntKind.i64 1))⟩,
    ⟨(some 50), none, .nilc (.tmp 45)⟩,
    ⟨(some 51), none, .fld (.tmp 50) 4⟩,
    ⟨none, none, .st (.tmp 51) (.tmp 49) 1⟩])
  (.seq (.drawn [(0, ⟨(some 52), none, .mv (.tmp 0)⟩),
    (1, ⟨(some 53), none, .nilc (.tmp 52)⟩),
    (2, ⟨(some 54), none, .fld (.tmp 53) 2⟩),
    (3, ⟨(some 55), none, .ld (.tmp 54) none⟩),
    (4, ⟨(some 56), none, .mv (.tmp 0)⟩),
    (5, ⟨(some 57), none, .nilc (.tmp 56)⟩),
    (6, ⟨(some 58), none, .fld (.tmp 57) 4⟩),
    (7, ⟨(some 59), none, .ld (.tmp 58) none⟩),
    (8, ⟨(some 60), none, .ld (.tmp 3) (some 4)⟩),
    (9, ⟨none, none, .more (.mup 3 (.tmp 55) (.tmp 59) (.tmp 60))⟩)]
    [[], [0], [1], [2], [], [4], [5], [6], [], [3, 7, 8, 0, 1, 2, 3, 4, 5, 6, 7, 8]]
    [0, 1, 3, 7, 0, 16, 48, 112, 0, 511] 512)
  (.seq (.ops [⟨(some 61), none, .mv (.tmp 0)⟩,
    ⟨(some 62), none, .nilc (.tmp 61)⟩,
    ⟨(some 63), none, .fld (.tmp 62) 4⟩,
    ⟨(some 64), none, .ld (.tmp 63) none⟩,
    ⟨(some 4), none, .mv (.tmp 64)⟩,
    ⟨(some 5), none, .mv (.const (Go.Value.int Go.IntKind.i64 0))⟩])
  (.ret))))))
theorem is_device_Device_ask : FnIs Tryz.prog F.device_Device_ask X.device_Device_ask 65 [.tmp 4, .tmp 5] := ⟨by kernel_rfl⟩
theorem bd_device_Device_ask_1 : bodyOk Tryz.prog F.device_Device_ask_1 = true := by kernel_rfl

/-- (*haycroft/device.Device).Write: function 42 -/
abbrev F.device_Device_Write : FuncId := 42
def X.device_Device_Write : X :=
  .seq (.ops [⟨(some 4), none, .box 73 (.tmp 1)⟩,
    ⟨(some 6), none, .mv (.const (Go.Value.int Go.IntKind.i64 0))⟩,
    ⟨(some 7), none, .mv (.const (Go.Value.int Go.IntKind.i64 0))⟩])
  (.seq (.ops [⟨(some 8), none, .mv (.tmp 0)⟩,
    ⟨(some 9), none, .ld (.tmp 4) (some 2)⟩,
    ⟨(some 10), none, .mv (.tmp 2)⟩,
    ⟨(some 11), none, .bld [(Go.Value.int Go.IntKind.i64 0), (Go.Value.int Go.IntKind.i64 0), (Go.Value.bool false), (Go.Value.string { data := #[] })] [(0, 2, (.tmp 9)), (2, 1, (.const (Go.Value.bool true))), (3, 1, (.tmp 10))]⟩,
    ⟨(some 12), none, .call 114 [(.tmp 8), (.tmp 11)]⟩,
    ⟨(some 13), none, .ext (.tmp 12) 0⟩,
    ⟨(some 14), none, .ext (.tmp 12) 1⟩,
    ⟨(some 6), none, .mv (.tmp 13)⟩,
    ⟨(some 7), none, .mv (.tmp 14)⟩])
  (.ret))
theorem is_device_Device_Write : FnIs Tryz.prog F.device_Device_Write X.device_Device_Write 15 [.tmp 6, .tmp 7] := ⟨by kernel_rfl⟩

/-- (*haycroft/hlog.Log).Flush: function 8 -/
abbrev F.hlog_Log_Flush : FuncId := 8
def X.hlog_Log_Flush : X :=
  .seq (.ops [⟨(some 4), none, .mv (.const (Go.Value.int Go.IntKind.i64 0))⟩,
    ⟨(some 5), none, .mv (.const (Go.Value.int Go.IntKind.i64 0))⟩])
  (.seq (.block 0 (.seq (.ops [⟨(some 11), none, .mv (.tmp 0)⟩,
      ⟨(some 12), none, .eq false .ptr (.tmp 11) (.const (Go.Value.pointer none))⟩,
      ⟨(some 10), none, .mv (.tmp 12)⟩])
    (.cond (.tmp 10)
      (.seq (.ops [⟨(some 4), none, .mv (.const (Go.Value.int Go.IntKind.i64 0))⟩,
        ⟨(some 5), none, .mv (.const (Go.Value.int Go.IntKind.i64 2))⟩])
      (.ret))
      (.seq (.ops [⟨(some 14), none, .mv (.tmp 1)⟩,
        ⟨(some 15), none, .bin .lss 3 (.tmp 14) (.const (Go.Value.int Go.IntKind.i64 0))⟩,
        ⟨(some 13), none, .mv (.tmp 15)⟩])
      (.cond (.tmp 13)
        (.seq (.ops [⟨(some 4), none, .mv (.const (Go.Value.int Go.IntKind.i64 0))⟩,
          ⟨(some 5), none, .mv (.const (Go.Value.int Go.IntKind.i64 1))⟩])
        (.ret))
        (.seq (.ops [⟨(some 17), none, .mv (.tmp 1)⟩,
          ⟨(some 18), none, .mv (.tmp 0)⟩,
          ⟨(some 19), none, .nilc (.tmp 18)⟩,
          ⟨(some 20), none, .fld (.tmp 19) 2⟩,
          ⟨(some 21), none, .ld (.tmp 20) none⟩,
          ⟨(some 22), none, .call 31 [(.tmp 21), (.const (Go.Value.int Go.IntKind.i64 2))]⟩,
          ⟨(some 23), none, .bin .lss 3 (.tmp 17) (.tmp 22)⟩,
          ⟨(some 24), none, .mv (.tmp 23)⟩,
          ⟨(some 25), (some (24, false)), .mv (.tmp 0)⟩,
          ⟨(some 26), (some (24, false)), .nilc (.tmp 25)⟩,
          ⟨(some 27), (some (24, false)), .fld (.tmp 26) 7⟩,
          ⟨(some 28), (some (24, false)), .ld (.tmp 27) none⟩,
          ⟨(some 29), (some (24, false)), .mv (.tmp 1)⟩,
          ⟨(some 30), (some (24, false)), .more (.lkp 3 (Go.Value.int Go.IntKind.i64 0) false (.tmp 28) (.tmp 29))⟩,
          ⟨(some 31), (some (24, false)), .bin .gtr 3 (.tmp 30) (.const (Go.Value.int Go.IntKind.i64 0))⟩,
          ⟨(some 32), none, .pick (.tmp 24) (.const (Go.Value.bool true)) (.tmp 31)⟩,
          ⟨(some 33), none, .mv (.tmp 32)⟩,
          ⟨(some 34), (some (33, false)), .mv (.tmp 0)⟩,
          ⟨(some 35), (some (33, false)), .mv (.tmp 1)⟩,
          ⟨(some 36), (some (33, false)), .call 19 [(.tmp 34), (.tmp 35)]⟩,
          ⟨(some 37), none, .pick (.tmp 33) (.const (Go.Value.bool true)) (.tmp 36)⟩,
          ⟨(some 16), none, .mv (.tmp 37)⟩])
        (.cond (.tmp 16)
          (.seq (.ops [⟨(some 4), none, .mv (.const (Go.Value.int Go.IntKind.i64 0))⟩,
            ⟨(some 5), none, .mv (.const (Go.Value.int Go.IntKind.i64 8))⟩])
          (.ret))
          (.seq (.ops [⟨(some 39), none, .mv (.tmp 1)⟩,
            ⟨(some 40), none, .mv (.tmp 0)⟩,
            ⟨(some 41), none, .nilc (.tmp 40)⟩,
            ⟨(some 42), none, .fld (.tmp 41) 2⟩,
            ⟨(some 43), none, .ld (.tmp 42) none⟩,
            ⟨(some 44), none, .call 31 [(.tmp 43), (.const (Go.Value.int Go.IntKind.i64 1))]⟩,
            ⟨(some 45), none, .bin .geq 3 (.tmp 39) (.tmp 44)⟩,
            ⟨(some 38), none, .mv (.tmp 45)⟩])
          (.cond (.tmp 38)
            (.seq (.ops [⟨(some 4), none, .mv (.const (Go.Value.int Go.IntKind.i64 0))⟩,
              ⟨(some 5), none, .mv (.const (Go.Value.int Go.IntKind.i64 13))⟩])
            (.ret))
            (.skip))))))))))
  (.seq (.ops [⟨(some 47), none, .mv (.tmp 0)⟩,
    ⟨(some 48), none, .nilc (.tmp 47)⟩,
    ⟨(some 49), none, .fld (.tmp 48) 1⟩,
    ⟨(some 50), none, .ld (.tmp 49) none⟩,
    ⟨(some 51), none, .mv (.tmp 1)⟩,
    ⟨(some 52), none, .call 33 [(.tmp 50), (.tmp 51)]⟩,
    ⟨(some 46), none, .mv (.tmp 52)⟩,
    ⟨(some 53), none, .ext (.tmp 46) 0⟩,
    ⟨(some 54), none, .ext (.tmp 46) 1⟩,
    ⟨(some 6), none, .mv (.tmp 53)⟩,
    ⟨(some 7), none, .mv (.tmp 54)⟩])
  (.seq (.seq (.ops [⟨(some 55), none, .mv (.tmp 7)⟩,
    ⟨(some 56), none, .bin .neq 27 (.tmp 55) (.const (Go.Value.int Go.IntKind.i64 0))⟩])
  (.cond (.tmp 56)
    (.seq (.ops [⟨(some 57), none, .mv (.tmp 7)⟩,
      ⟨(some 4), none, .mv (.const (Go.Value.int Go.IntKind.i64 0))⟩,
      ⟨(some 5), none, .mv (.tmp 57)⟩])
    (.ret))
    (.skip)))
  (.seq (.ops [⟨(some 59), none, .mv (.tmp 1)⟩,
    ⟨(some 60), none, .mv (.tmp 6)⟩,
    ⟨(some 61), none, .call 41 [(.tmp 59), (.tmp 60)]⟩,
    ⟨(some 58), none, .mv (.tmp 61)⟩,
    ⟨(some 62), none, .ext (.tmp 58) 0⟩,
    ⟨(some 63), none, .ext (.tmp 58) 1⟩,
    ⟨(some 8), none, .mv (.tmp 62)⟩,
    ⟨(some 7), none, .mv (.tmp 63)⟩])
  (.seq (.seq (.ops [⟨(some 64), none, .mv (.tmp 7)⟩,
    ⟨(some 65), none, .bin .neq 27 (.tmp 64) (.const (Go.Value.int Go.IntKind.i64 0))⟩])
  (.cond (.tmp 65)
    (.seq (.ops [⟨(some 66), none, .mv (.tmp 7)⟩,
      ⟨(some 4), none, .mv (.const (Go.Value.int Go.IntKind.i64 0))⟩,
      ⟨(some 5), none, .mv (.tmp 66)⟩])
    (.ret))
    (.skip)))
  (.seq (.ops [⟨(some 68), none, .mv (.tmp 0)⟩,
    ⟨(some 69), none, .nilc (.tmp 68)⟩,
    ⟨(some 70), none, .fld (.tmp 69) 5⟩,
    ⟨(some 71), none, .ld (.tmp 70) none⟩,
    ⟨(some 72), none, .mv (.tmp 1)⟩,
    ⟨(some 73), none, .bld [(Go.Value.int Go.IntKind.i64 0), (Go.Value.int Go.IntKind.i64 0)] [(0, 1, (.const (Go.Value.int Go.IntKind.i64 0))), (1, 1, (.tmp 72))]⟩,
    ⟨(some 74), none, .mv (.tmp 8)⟩,
    ⟨(some 75), none, .call 42 [(.tmp 71), (.tmp 73), (.tmp 74)]⟩,
    ⟨(some 67), none, .mv (.tmp 75)⟩,
    ⟨(some 76), none, .ext (.tmp 67) 0⟩,
    ⟨(some 77), none, .ext (.tmp 67) 1⟩,
    ⟨(some 9), none, .mv (.tmp 76)⟩,
    ⟨(some 7), none, .mv (.tmp 77)⟩])
  (.seq (.seq (.ops [⟨(some 78), none, .mv (.tmp 7)⟩,
    ⟨(some 79), none, .bin .eql 27 (.tmp 78) (.const (Go.Value.int Go.IntKind.i64 0))⟩])
  (.cond (.tmp 79)
    (.ops [⟨(some 80), none, .mv (.tmp 0)⟩,
      ⟨(some 81), none, .nilc (.tmp 80)⟩,
      ⟨(some 82), none, .fld (.tmp 81) 6⟩,
      ⟨(some 83), none, .ld (.tmp 82) none⟩,
      ⟨(some 84), none, .mv (.tmp 9)⟩,
      ⟨(some 85), none, .mv (.tmp 1)⟩,
      ⟨none, none, .more (.mup 3 (.tmp 83) (.tmp 84) (.tmp 85))⟩])
    (.skip)))
  (.seq (.ops [⟨(some 86), none, .mv (.tmp 9)⟩,
    ⟨(some 87), none, .mv (.tmp 7)⟩,
    ⟨(some 4), none, .mv (.tmp 86)⟩,
    ⟨(some 5), none, .mv (.tmp 87)⟩])
  (.ret)))))))))
theorem is_hlog_Log_Flush : FnIs Tryz.prog F.hlog_Log_Flush X.hlog_Log_Flush 88 [.tmp 4, .tmp 5] := ⟨by kernel_rfl⟩

/-- (*haycroft/hlog.Log).ShiftReadOnly: function 14 -/
abbrev F.hlog_Log_ShiftReadOnly : FuncId := 14
def X.hlog_Log_ShiftReadOnly : X :=
  .seq (.ops [⟨(some 4), none, .mv (.const (Go.Value.int Go.IntKind.i64 0))⟩])
  (.seq (.ops [⟨(some 5), none, .mv (.tmp 0)⟩,
    ⟨(some 6), none, .mv (.tmp 1)⟩,
    ⟨(some 7), none, .call 62 [(.tmp 5), (.const (Go.Value.int Go.IntKind.i64 0)), (.tmp 6), (.const (Go.Value.int Go.IntKind.i64 1))]⟩,
    ⟨(some 4), none, .mv (.tmp 7)⟩])
  (.ret))
theorem is_hlog_Log_ShiftReadOnly : FnIs Tryz.prog F.hlog_Log_ShiftReadOnly X.hlog_Log_ShiftReadOnly 8 [.tmp 4] := ⟨by kernel_rfl⟩

/-- (*haycroft/hlog.Log).Help: function 13 -/
abbrev F.hlog_Log_Help : FuncId := 13
def X.hlog_Log_Help : X :=
  .seq (.ops [⟨(some 2), none, .mv (.const (Go.Value.bool false))⟩])
  (.seq (.seq (.ops [⟨(some 8), none, .mv (.tmp 0)⟩,
    ⟨(some 9), none, .eq false .ptr (.tmp 8) (.const (Go.Value.pointer none))⟩,
    ⟨(some 10), none, .mv (.tmp 9)⟩,
    ⟨(some 11), (some (10, false)), .mv (.tmp 0)⟩,
    ⟨(some 12), (some (10, false)), .nilc (.tmp 11)⟩,
    ⟨(some 13), (some (10, false)), .fld (.tmp 12) 0⟩,
    ⟨(some 14), (some (10, false)), .ld (.tmp 13) none⟩,
    ⟨(some 15), (some (10, false)), .call 59 [(.tmp 14)]⟩,
    ⟨(some 16), none, .pick (.tmp 10) (.const (Go.Value.bool true)) (.tmp 15)⟩])
  (.cond (.tmp 16)
    (.seq (.ops [⟨(some 2), none, .mv (.const (Go.Value.bool false))⟩])
    (.ret))
    (.skip)))
  (.seq (.ops [⟨(some 17), none, .mv (.tmp 0)⟩,
    ⟨(some 18), none, .call 60 [(.tmp 17)]⟩,
    ⟨(some 3), none, .mv (.tmp 18)⟩])
  (.seq (.block 0 (.seq (.ops [⟨(some 20), none, .mv (.tmp 0)⟩,
      ⟨(some 21), none, .nilc (.tmp 20)⟩,
      ⟨(some 22), none, .fld (.tmp 21) 2⟩,
      ⟨(some 23), none, .ld (.tmp 22) none⟩,
      ⟨(some 24), none, .call 31 [(.tmp 23), (.const (Go.Value.int Go.IntKind.i64 3))]⟩,
      ⟨(some 25), none, .mv (.tmp 3)⟩,
      ⟨(some 26), none, .bin .geq 3 (.tmp 24) (.tmp 25)⟩,
      ⟨(some 19), none, .mv (.tmp 26)⟩])
    (.cond (.tmp 19)
      (.seq (.ops [⟨(some 2), none, .mv (.const (Go.Value.bool false))⟩])
      (.ret))
      (.seq (.ops [⟨(some 28), none, .mv (.tmp 0)⟩,
        ⟨(some 29), none, .nilc (.tmp 28)⟩,
        ⟨(some 30), none, .fld (.tmp 29) 2⟩,
        ⟨(some 31), none, .ld (.tmp 30) none⟩,
        ⟨(some 32), none, .call 31 [(.tmp 31), (.const (Go.Value.int Go.IntKind.i64 2))]⟩,
        ⟨(some 33), none, .mv (.tmp 3)⟩,
        ⟨(some 34), none, .bin .geq 3 (.tmp 32) (.tmp 33)⟩,
        ⟨(some 27), none, .mv (.tmp 34)⟩])
      (.cond (.tmp 27)
        (.seq (.ops [⟨(some 35), none, .mv (.tmp 0)⟩,
          ⟨(some 36), none, .mv (.tmp 3)⟩,
          ⟨(some 37), none, .call 15 [(.tmp 35), (.tmp 36)]⟩,
          ⟨(some 38), none, .bin .eql 27 (.tmp 37) (.const (Go.Value.int Go.IntKind.i64 0))⟩,
          ⟨(some 2), none, .mv (.tmp 38)⟩])
        (.ret))
        (.seq (.ops [⟨(some 40), none, .mv (.tmp 0)⟩,
          ⟨(some 41), none, .nilc (.tmp 40)⟩,
          ⟨(some 42), none, .fld (.tmp 41) 2⟩,
          ⟨(some 43), none, .ld (.tmp 42) none⟩,
          ⟨(some 44), none, .call 31 [(.tmp 43), (.const (Go.Value.int Go.IntKind.i64 1))]⟩,
          ⟨(some 45), none, .mv (.tmp 3)⟩,
          ⟨(some 46), none, .bin .geq 3 (.tmp 44) (.tmp 45)⟩,
          ⟨(some 39), none, .mv (.tmp 46)⟩])
        (.cond (.tmp 39)
          (.seq (.ops [⟨(some 48), none, .mv (.tmp 0)⟩,
            ⟨(some 49), none, .mv (.tmp 3)⟩,
            ⟨(some 50), none, .call 61 [(.tmp 48), (.tmp 49)]⟩,
            ⟨(some 47), none, .mv (.tmp 50)⟩,
            ⟨(some 51), none, .ext (.tmp 47) 0⟩,
            ⟨(some 52), none, .ext (.tmp 47) 1⟩,
            ⟨(some 4), none, .mv (.tmp 51)⟩,
            ⟨(some 5), none, .mv (.tmp 52)⟩])
          (.seq (.seq (.ops [⟨(some 53), none, .mv (.tmp 5)⟩,
            ⟨(some 54), none, .un .not (.tmp 53)⟩])
          (.cond (.tmp 54)
            (.seq (.ops [⟨(some 2), none, .mv (.const (Go.Value.bool false))⟩])
            (.ret))
            (.skip)))
          (.seq (.ops [⟨(some 56), none, .mv (.tmp 0)⟩,
            ⟨(some 57), none, .mv (.tmp 4)⟩,
            ⟨(some 58), none, .call 8 [(.tmp 56), (.tmp 57)]⟩,
            ⟨(some 55), none, .mv (.tmp 58)⟩,
            ⟨(some 59), none, .ext (.tmp 55) 0⟩,
            ⟨(some 60), none, .ext (.tmp 55) 1⟩,
            ⟨(some 6), none, .mv (.tmp 59)⟩,
            ⟨(some 7), none, .mv (.tmp 60)⟩])
          (.seq (.ops [⟨(some 61), none, .mv (.tmp 7)⟩,
            ⟨(some 62), none, .bin .eql 27 (.tmp 61) (.const (Go.Value.int Go.IntKind.i64 0))⟩,
            ⟨(some 2), none, .mv (.tmp 62)⟩])
          (.ret)))))
          (.seq (.ops [⟨(some 64), none, .mv (.tmp 0)⟩,
            ⟨(some 65), none, .nilc (.tmp 64)⟩,
            ⟨(some 66), none, .fld (.tmp 65) 2⟩,
            ⟨(some 67), none, .ld (.tmp 66) none⟩,
            ⟨(some 68), none, .call 31 [(.tmp 67), (.const (Go.Value.int Go.IntKind.i64 0))]⟩,
            ⟨(some 69), none, .mv (.tmp 3)⟩,
            ⟨(some 70), none, .bin .lss 3 (.tmp 68) (.tmp 69)⟩,
            ⟨(some 63), none, .mv (.tmp 70)⟩])
          (.cond (.tmp 63)
            (.seq (.ops [⟨(some 71), none, .mv (.tmp 0)⟩,
              ⟨(some 72), none, .mv (.tmp 3)⟩,
              ⟨(some 73), none, .call 14 [(.tmp 71), (.tmp 72)]⟩,
              ⟨(some 74), none, .bin .eql 27 (.tmp 73) (.const (Go.Value.int Go.IntKind.i64 0))⟩,
              ⟨(some 2), none, .mv (.tmp 74)⟩])
            (.ret))
            (.skip))))))))))
  (.seq (.ops [⟨(some 2), none, .mv (.const (Go.Value.bool false))⟩])
  (.ret)))))
theorem is_hlog_Log_Help : FnIs Tryz.prog F.hlog_Log_Help X.hlog_Log_Help 75 [.tmp 2] := ⟨by kernel_rfl⟩

/-- (*haycroft/pages.Buffer).Close: function 52 -/
abbrev F.pages_Buffer_Close : FuncId := 52
def X.pages_Buffer_Close : X :=
  .seq (.ops [⟨(some 4), none, .mv (.const (Go.Value.int Go.IntKind.i64 0))⟩])
  (.seq (.block 0 (.seq (.ops [⟨(some 6), none, .mv (.tmp 0)⟩,
      ⟨(some 7), none, .eq false .ptr (.tmp 6) (.const (Go.Value.pointer none))⟩,
      ⟨(some 5), none, .mv (.tmp 7)⟩])
    (.cond (.tmp 5)
      (.seq (.ops [⟨(some 4), none, .mv (.const (Go.Value.int Go.IntKind.i64 2))⟩])
      (.ret))
      (.seq (.ops [⟨(some 9), none, .mv (.tmp 0)⟩,
        ⟨(some 10), none, .mv (.tmp 1)⟩,
        ⟨(some 11), none, .call 32 [(.tmp 9), (.tmp 10)]⟩,
        ⟨(some 12), none, .un .not (.tmp 11)⟩,
        ⟨(some 8), none, .mv (.tmp 12)⟩])
      (.cond (.tmp 8)
        (.seq (.ops [⟨(some 4), none, .mv (.const (Go.Value.int Go.IntKind.i64 7))⟩])
        (.ret))
        (.skip))))))
  (.seq (.drawn [(0, ⟨(some 13), none, .mv (.tmp 0)⟩),
    (1, ⟨(some 14), none, .nilc (.tmp 13)⟩),
    (2, ⟨(some 15), none, .fld (.tmp 14) 2⟩),
    (3, ⟨(some 16), none, .ld (.tmp 15) none⟩),
    (4, ⟨(some 17), none, .mv (.tmp 0)⟩),
    (5, ⟨(some 18), none, .mv (.tmp 1)⟩),
    (6, ⟨(some 19), none, .call 98 [(.tmp 17), (.tmp 18)]⟩),
    (7, ⟨(some 20), none, .call 117 [(.tmp 16), (.tmp 19), (.const (Go.Value.int Go.IntKind.u64 0))]⟩),
    (8, ⟨(some 4), none, .mv (.tmp 20)⟩)]
    [[], [0], [1], [2], [], [], [4, 5], [3, 6, 6], [7, 7, 0, 1, 2, 3, 4, 5, 6, 7]]
    [0, 1, 3, 7, 0, 0, 48, 127, 255] 192)
  (.ret)))
theorem is_pages_Buffer_Close : FnIs Tryz.prog F.pages_Buffer_Close X.pages_Buffer_Close 21 [.tmp 4] := ⟨by kernel_rfl⟩

/-- (*haycroft/hlog.Log).further: function 55 -/
abbrev F.hlog_Log_further : FuncId := 55
def X.hlog_Log_further : X :=
  .seq (.ops [⟨(some 4), none, .mv (.const (Go.Value.int Go.IntKind.i64 0))⟩])
  (.seq (.block 0 (.seq (.ops [⟨(some 8), none, .mv (.tmp 0)⟩,
      ⟨(some 9), none, .nilc (.tmp 8)⟩,
      ⟨(some 10), none, .fld (.tmp 9) 0⟩,
      ⟨(some 11), none, .ld (.tmp 10) none⟩,
      ⟨(some 12), none, .call 59 [(.tmp 11)]⟩,
      ⟨(some 7), none, .mv (.tmp 12)⟩])
    (.cond (.tmp 7)
      (.seq (.ops [⟨(some 4), none, .mv (.const (Go.Value.int Go.IntKind.i64 9))⟩])
      (.ret))
      (.seq (.ops [⟨(some 14), none, .mv (.tmp 0)⟩,
        ⟨(some 15), none, .nilc (.tmp 14)⟩,
        ⟨(some 16), none, .fld (.tmp 15) 2⟩,
        ⟨(some 17), none, .ld (.tmp 16) none⟩,
        ⟨(some 18), none, .call 31 [(.tmp 17), (.const (Go.Value.int Go.IntKind.i64 4))]⟩,
        ⟨(some 19), none, .mv (.tmp 0)⟩,
        ⟨(some 20), none, .call 60 [(.tmp 19)]⟩,
        ⟨(some 21), none, .bin .lss 3 (.tmp 18) (.tmp 20)⟩,
        ⟨(some 13), none, .mv (.tmp 21)⟩])
      (.cond (.tmp 13)
        (.seq (.ops [⟨(some 22), none, .mv (.tmp 0)⟩,
          ⟨(some 23), none, .call 13 [(.tmp 22)]⟩])
        (.seq (.ops [⟨(some 4), none, .mv (.const (Go.Value.int Go.IntKind.i64 11))⟩])
        (.ret)))
        (.skip))))))
  (.seq (.ops [⟨(some 24), none, .mv (.tmp 0)⟩,
    ⟨(some 25), none, .nilc (.tmp 24)⟩,
    ⟨(some 26), none, .fld (.tmp 25) 0⟩,
    ⟨(some 27), none, .ld (.tmp 26) none⟩,
    ⟨(some 28), none, .call 39 [(.tmp 27)]⟩,
    ⟨(some 29), none, .bin .add 3 (.tmp 28) (.const (Go.Value.int Go.IntKind.i64 1))⟩,
    ⟨(some 5), none, .mv (.tmp 29)⟩])
  (.seq (.drawn [(0, ⟨(some 30), none, .mv (.tmp 0)⟩),
    (1, ⟨(some 31), none, .nilc (.tmp 30)⟩),
    (2, ⟨(some 32), none, .fld (.tmp 31) 1⟩),
    (3, ⟨(some 33), none, .ld (.tmp 32) none⟩),
    (4, ⟨(some 34), none, .mv (.tmp 5)⟩),
    (5, ⟨(some 35), none, .mv (.tmp 0)⟩),
    (6, ⟨(some 36), none, .nilc (.tmp 35)⟩),
    (7, ⟨(some 37), none, .fld (.tmp 36) 1⟩),
    (8, ⟨(some 38), none, .ld (.tmp 37) none⟩),
    (9, ⟨(some 39), none, .call 95 [(.tmp 38)]⟩),
    (10, ⟨(some 40), none, .bin .sub 3 (.tmp 34) (.tmp 39)⟩),
    (11, ⟨(some 41), none, .call 52 [(.tmp 33), (.tmp 40)]⟩)]
    [[], [0], [1], [2], [], [], [5], [6], [7], [8], [4, 9], [3, 10, 9]]
    [0, 1, 3, 7, 0, 0, 32, 96, 224, 480, 1008, 2047] 2560)
  (.seq (.seq (.ops [⟨(some 42), none, .mv (.tmp 0)⟩,
    ⟨(some 43), none, .nilc (.tmp 42)⟩,
    ⟨(some 44), none, .fld (.tmp 43) 1⟩,
    ⟨(some 45), none, .ld (.tmp 44) none⟩,
    ⟨(some 46), none, .mv (.tmp 5)⟩,
    ⟨(some 47), none, .call 48 [(.tmp 45), (.tmp 46)]⟩,
    ⟨(some 6), none, .mv (.tmp 47)⟩])
  (.seq (.ops [⟨(some 48), none, .mv (.tmp 6)⟩,
    ⟨(some 49), none, .bin .neq 27 (.tmp 48) (.const (Go.Value.int Go.IntKind.i64 0))⟩])
  (.cond (.tmp 49)
    (.seq (.ops [⟨(some 50), none, .mv (.tmp 6)⟩,
      ⟨(some 4), none, .mv (.tmp 50)⟩])
    (.ret))
    (.skip))))
  (.seq (.ops [⟨(some 51), none, .mv (.tmp 1)⟩,
    ⟨(some 52), none, .more (.cv (.tmp 51) [])⟩,
    ⟨(some 4), none, .mv (.tmp 52)⟩])
  (.ret))))))
theorem is_hlog_Log_further : FnIs Tryz.prog F.hlog_Log_further X.hlog_Log_further 53 [.tmp 4] := ⟨by kernel_rfl⟩

/-- (*haycroft/hlog.Log).Turn: function 11 -/
abbrev F.hlog_Log_Turn : FuncId := 11
def X.hlog_Log_Turn : X :=
  .seq (.ops [⟨(some 2), none, .mv (.const (Go.Value.int Go.IntKind.i64 0))⟩])
  (.seq (.block 0 (.seq (.ops [⟨(some 4), none, .mv (.tmp 0)⟩,
      ⟨(some 5), none, .eq false .ptr (.tmp 4) (.const (Go.Value.pointer none))⟩,
      ⟨(some 3), none, .mv (.tmp 5)⟩])
    (.cond (.tmp 3)
      (.seq (.ops [⟨(some 2), none, .mv (.const (Go.Value.int Go.IntKind.i64 2))⟩])
      (.ret))
      (.seq (.ops [⟨(some 7), none, .mv (.tmp 0)⟩,
        ⟨(some 8), none, .nilc (.tmp 7)⟩,
        ⟨(some 9), none, .fld (.tmp 8) 0⟩,
        ⟨(some 10), none, .ld (.tmp 9) none⟩,
        ⟨(some 11), none, .call 54 [(.tmp 10)]⟩,
        ⟨(some 12), none, .un .not (.tmp 11)⟩,
        ⟨(some 6), none, .mv (.tmp 12)⟩])
      (.cond (.tmp 6)
        (.seq (.ops [⟨(some 2), none, .mv (.const (Go.Value.int Go.IntKind.i64 7))⟩])
        (.ret))
        (.skip))))))
  (.seq (.ops [⟨(some 13), none, .mv (.tmp 0)⟩,
    ⟨(some 14), none, .mv (.tmp 0)⟩,
    ⟨(some 15), none, .nilc (.tmp 14)⟩,
    ⟨(some 16), none, .fld (.tmp 15) 0⟩,
    ⟨(some 17), none, .ld (.tmp 16) none⟩,
    ⟨(some 18), none, .more (.mkf 56 [(.tmp 17)] [])⟩,
    ⟨(some 19), none, .call 55 [(.tmp 13), (.tmp 18)]⟩,
    ⟨(some 2), none, .mv (.tmp 19)⟩])
  (.ret)))
theorem is_hlog_Log_Turn : FnIs Tryz.prog F.hlog_Log_Turn X.hlog_Log_Turn 20 [.tmp 2] := ⟨by kernel_rfl⟩
theorem bd_tail_Tail_Turn : bodyOk Tryz.prog F.tail_Tail_Turn = true := by kernel_rfl

/-- (*haycroft/device.Device).Do: function 38 -/
abbrev F.device_Device_Do : FuncId := 38
def X.device_Device_Do : X :=
  .seq (.ops [⟨(some 4), none, .mv (.const (Go.Value.int Go.IntKind.i64 0))⟩])
  (.seq (.seq (.ops [⟨(some 11), none, .mv (.tmp 0)⟩,
    ⟨(some 12), none, .call 105 [(.tmp 11)]⟩,
    ⟨(some 5), none, .mv (.tmp 12)⟩])
  (.seq (.ops [⟨(some 13), none, .mv (.tmp 5)⟩,
    ⟨(some 14), none, .bin .neq 27 (.tmp 13) (.const (Go.Value.int Go.IntKind.i64 0))⟩])
  (.cond (.tmp 14)
    (.seq (.ops [⟨(some 15), none, .mv (.tmp 5)⟩,
      ⟨(some 4), none, .mv (.tmp 15)⟩])
    (.ret))
    (.skip))))
  (.seq (.ops [⟨(some 17), none, .mv (.tmp 0)⟩,
    ⟨(some 18), none, .nilc (.tmp 17)⟩,
    ⟨(some 19), none, .fld (.tmp 18) 2⟩,
    ⟨(some 20), none, .ld (.tmp 19) none⟩,
    ⟨(some 21), none, .mv (.tmp 1)⟩,
    ⟨(some 22), none, .more (.lkp 3 (Go.Value.agg #[(Go.Value.int Go.IntKind.i64 0), (Go.Value.int Go.IntKind.i64 0), (Go.Value.bool false), (Go.Value.string { data := #[] })]) true (.tmp 20) (.tmp 21))⟩,
    ⟨(some 16), none, .mv (.tmp 22)⟩,
    ⟨(some 23), none, .ext (.tmp 16) 0⟩,
    ⟨(some 24), none, .ext (.tmp 16) 1⟩,
    ⟨(some 6), none, .new 148 (Go.Value.agg #[(Go.Value.int Go.IntKind.i64 0), (Go.Value.int Go.IntKind.i64 0), (Go.Value.bool false), (Go.Value.string { data := #[] })])⟩,
    ⟨none, none, .st (.tmp 6) (.tmp 23) 4⟩,
    ⟨(some 7), none, .mv (.tmp 24)⟩])
  (.seq (.seq (.ops [⟨(some 25), none, .mv (.tmp 7)⟩,
    ⟨(some 26), none, .un .not (.tmp 25)⟩])
  (.cond (.tmp 26)
    (.seq (.ops [⟨(some 4), none, .mv (.const (Go.Value.int Go.IntKind.i64 7))⟩])
    (.ret))
    (.skip)))
  (.seq (.ops [⟨(some 27), none, .mv (.tmp 0)⟩,
    ⟨(some 28), none, .nilc (.tmp 27)⟩,
    ⟨(some 29), none, .fld (.tmp 28) 2⟩,
    ⟨(some 30), none, .ld (.tmp 29) none⟩,
    ⟨(some 31), none, .mv (.tmp 1)⟩,
    ⟨none, none, .more (.del 3 (.tmp 30) (.tmp 31))⟩])
  (.seq (.ops [⟨(some 8), none, .new 151 (Go.Value.agg #[(Go.Value.string { data := #[] }), (Go.Value.bool false)])⟩])
  (.seq (.seq (.ops [⟨(some 32), none, .fld (.tmp 6) 2⟩,
    ⟨(some 33), none, .ld (.tmp 32) none⟩])
  (.cond (.tmp 33)
    (.drawn [(0, ⟨(some 34), none, .mv (.tmp 0)⟩),
      (1, ⟨(some 35), none, .nilc (.tmp 34)⟩),
      (2, ⟨(some 36), none, .fld (.tmp 35) 1⟩),
      (3, ⟨(some 37), none, .ld (.tmp 36) none⟩),
      (4, ⟨(some 38), none, .fld (.tmp 6) 0⟩),
      (5, ⟨(some 39), none, .ld (.tmp 38) (some 2)⟩),
      (6, ⟨(some 40), none, .fld (.tmp 6) 3⟩),
      (7, ⟨(some 41), none, .ld (.tmp 40) none⟩),
      (8, ⟨none, none, .more (.mup 73 (.tmp 37) (.tmp 39) (.tmp 41))⟩)]
      [[], [0], [1], [2], [], [4], [], [6], [3, 5, 7, 0, 1, 2, 3, 4, 5, 6, 7]]
      [0, 1, 3, 7, 0, 16, 0, 64, 255] 256)
    (.seq (.drawn [(0, ⟨(some 43), none, .mv (.tmp 0)⟩),
      (1, ⟨(some 44), none, .nilc (.tmp 43)⟩),
      (2, ⟨(some 45), none, .fld (.tmp 44) 1⟩),
      (3, ⟨(some 46), none, .ld (.tmp 45) none⟩),
      (4, ⟨(some 47), none, .fld (.tmp 6) 0⟩),
      (5, ⟨(some 48), none, .ld (.tmp 47) (some 2)⟩),
      (6, ⟨(some 49), none, .more (.lkp 73 (Go.Value.string { data := #[] }) true (.tmp 46) (.tmp 48))⟩),
      (7, ⟨(some 42), none, .mv (.tmp 49)⟩),
      (8, ⟨(some 50), none, .ext (.tmp 42) 0⟩),
      (9, ⟨(some 51), none, .ext (.tmp 42) 1⟩),
      (10, ⟨(some 9), none, .mv (.tmp 50)⟩),
      (11, ⟨(some 10), none, .mv (.tmp 51)⟩)]
      [[], [0], [1], [2], [], [4], [3, 5], [6], [7], [7], [8, 0, 1, 2, 3, 4, 5, 6, 7, 8], [9, 10, 0, 1, 2, 3, 4, 5, 6, 7, 8, 9, 10]]
      [0, 1, 3, 7, 0, 16, 63, 127, 255, 255, 511, 2047] 0)
    (.ops [⟨(some 52), none, .mv (.tmp 9)⟩,
      ⟨(some 53), none, .mv (.tmp 10)⟩,
      ⟨(some 54), none, .un .not (.tmp 53)⟩,
      ⟨(some 55), none, .bld [(Go.Value.string { data := #[] }), (Go.Value.bool false)] [(0, 1, (.tmp 52)), (1, 1, (.tmp 54))]⟩,
      ⟨none, none, .st (.tmp 8) (.tmp 55) 2⟩]))))
  (.seq (.drawn [(0, ⟨(some 56), none, .mv (.tmp 0)⟩),
    (1, ⟨(some 57), none, .nilc (.tmp 56)⟩),
    (2, ⟨(some 58), none, .fld (.tmp 57) 3⟩),
    (3, ⟨(some 59), none, .ld (.tmp 58) none⟩),
    (4, ⟨(some 60), none, .mv (.tmp 1)⟩),
    (5, ⟨(some 61), none, .ld (.tmp 8) (some 2)⟩),
    (6, ⟨none, none, .more (.mup 3 (.tmp 59) (.tmp 60) (.tmp 61))⟩)]
    [[], [0], [1], [2], [], [], [3, 4, 5, 0, 1, 2, 3, 4, 5]]
    [0, 1, 3, 7, 0, 0, 63] 64)
  (.seq (.ops [⟨(some 4), none, .mv (.const (Go.Value.int Go.IntKind.i64 0))⟩])
  (.ret)))))))))
theorem is_device_Device_Do : FnIs Tryz.prog F.device_Device_Do X.device_Device_Do 62 [.tmp 4] := ⟨by kernel_rfl⟩

-- loop (inner ones first): [0, 5]
/-- maps.Keys[map[int]int,int,int]$1: function 127 -/
abbrev F.maps_Keys_map_int_int_int_int_1 : FuncId := 127
def X.maps_Keys_map_int_int_int_int_1 : X :=
  .seq (.ops [⟨(some 4), none, .ld (.tmp 1) none⟩,
    ⟨(some 5), none, .more (.rng (.tmp 4))⟩])
  (.block 0 (.loop (.seq (.ops [⟨(some 6), none, .more (.nxt (.tmp 5))⟩,
        ⟨(some 7), none, .ext (.tmp 6) 0⟩])
      (.seq (.cond (.tmp 7)
        (.skip)
        (.exit 0))
      (.block 1 (.seq (.ops [⟨(some 8), none, .more (.ent (.tmp 5))⟩,
          ⟨(some 9), none, .ext (.tmp 8) 0⟩,
          ⟨(some 3), none, .mv (.tmp 9)⟩])
        (.seq (.ops [⟨(some 10), none, .mv (.tmp 0)⟩,
          ⟨(some 11), none, .mv (.tmp 3)⟩,
          ⟨(some 12), none, .more (.cv (.tmp 10) [(.tmp 11)])⟩,
          ⟨(some 13), none, .un .not (.tmp 12)⟩])
        (.cond (.tmp 13)
          (.ret)
          (.skip)))))))))
theorem is_maps_Keys_map_int_int_int_int_1 : FnIs Tryz.prog F.maps_Keys_map_int_int_int_int_1 X.maps_Keys_map_int_int_int_int_1 14 [] := ⟨by kernel_rfl⟩

/-- maps.Keys[map[int]int,int,int]: function 64 -/
abbrev F.maps_Keys_map_int_int_int_int : FuncId := 64
def X.maps_Keys_map_int_int_int_int : X :=
  .seq (.ops [⟨(some 1), none, .box 78 (.tmp 0)⟩,
    ⟨(some 2), none, .mv (.const Go.Value.nilFunc)⟩])
  (.seq (.ops [⟨(some 3), none, .more (.mkf 127 [] [(.tmp 1)])⟩,
    ⟨(some 2), none, .mv (.tmp 3)⟩])
  (.ret))
theorem is_maps_Keys_map_int_int_int_int : FnIs Tryz.prog F.maps_Keys_map_int_int_int_int X.maps_Keys_map_int_int_int_int 4 [.tmp 2] := ⟨by kernel_rfl⟩
theorem bd_maps_Keys_map_int_int_int_int_1 : bodyOk Tryz.prog F.maps_Keys_map_int_int_int_int_1 = true := by kernel_rfl

/-- slices.Sort[[]int,int]: function 96, not walked -/
abbrev F.slices_Sort_int_int : FuncId := 96

/-- slices.Sorted[int]: function 63 -/
abbrev F.slices_Sorted_int : FuncId := 63
def X.slices_Sorted_int : X :=
  .seq (.ops [⟨(some 2), none, .mv (.const (Go.Value.slice none 0 0))⟩])
  (.seq (.ops [⟨(some 4), none, .mv (.tmp 0)⟩,
    ⟨(some 5), none, .call 73 [(.tmp 4)]⟩,
    ⟨(some 3), none, .mv (.tmp 5)⟩])
  (.seq (.ops [⟨(some 6), none, .mv (.tmp 3)⟩,
    ⟨(some 7), none, .call 96 [(.tmp 6)]⟩])
  (.seq (.ops [⟨(some 8), none, .mv (.tmp 3)⟩,
    ⟨(some 2), none, .mv (.tmp 8)⟩])
  (.ret))))
theorem is_slices_Sorted_int : FnIs Tryz.prog F.slices_Sorted_int X.slices_Sorted_int 9 [.tmp 2] := ⟨by kernel_rfl⟩

/-- (*haycroft/device.Device).Take: function 65 -/
abbrev F.device_Device_Take : FuncId := 65
def X.device_Device_Take : X :=
  .seq (.ops [⟨(some 4), none, .mv (.const (Go.Value.string { data := #[] }))⟩,
    ⟨(some 5), none, .mv (.const (Go.Value.int Go.IntKind.i64 0))⟩])
  (.seq (.seq (.ops [⟨(some 11), none, .mv (.tmp 0)⟩,
    ⟨(some 12), none, .call 105 [(.tmp 11)]⟩,
    ⟨(some 6), none, .mv (.tmp 12)⟩])
  (.seq (.ops [⟨(some 13), none, .mv (.tmp 6)⟩,
    ⟨(some 14), none, .bin .neq 27 (.tmp 13) (.const (Go.Value.int Go.IntKind.i64 0))⟩])
  (.cond (.tmp 14)
    (.seq (.ops [⟨(some 15), none, .mv (.tmp 6)⟩,
      ⟨(some 4), none, .mv (.const (Go.Value.string { data := #[] }))⟩,
      ⟨(some 5), none, .mv (.tmp 15)⟩])
    (.ret))
    (.skip))))
  (.seq (.seq (.ops [⟨(some 17), none, .mv (.tmp 0)⟩,
    ⟨(some 18), none, .nilc (.tmp 17)⟩,
    ⟨(some 19), none, .fld (.tmp 18) 2⟩,
    ⟨(some 20), none, .ld (.tmp 19) none⟩,
    ⟨(some 21), none, .mv (.tmp 1)⟩,
    ⟨(some 22), none, .more (.lkp 3 (Go.Value.agg #[(Go.Value.int Go.IntKind.i64 0), (Go.Value.int Go.IntKind.i64 0), (Go.Value.bool false), (Go.Value.string { data := #[] })]) true (.tmp 20) (.tmp 21))⟩,
    ⟨(some 16), none, .mv (.tmp 22)⟩,
    ⟨(some 23), none, .ext (.tmp 16) 0⟩,
    ⟨(some 24), none, .ext (.tmp 16) 1⟩,
    ⟨(some 7), none, .new 148 (Go.Value.agg #[(Go.Value.int Go.IntKind.i64 0), (Go.Value.int Go.IntKind.i64 0), (Go.Value.bool false), (Go.Value.string { data := #[] })])⟩,
    ⟨none, none, .st (.tmp 7) (.tmp 23) 4⟩,
    ⟨(some 8), none, .mv (.tmp 24)⟩])
  (.seq (.ops [⟨(some 25), none, .mv (.tmp 8)⟩])
  (.cond (.tmp 25)
    (.seq (.ops [⟨(some 4), none, .mv (.const (Go.Value.string { data := #[] }))⟩,
      ⟨(some 5), none, .mv (.const (Go.Value.int Go.IntKind.i64 10))⟩])
    (.ret))
    (.skip))))
  (.seq (.ops [⟨(some 27), none, .mv (.tmp 0)⟩,
    ⟨(some 28), none, .nilc (.tmp 27)⟩,
    ⟨(some 29), none, .fld (.tmp 28) 3⟩,
    ⟨(some 30), none, .ld (.tmp 29) none⟩,
    ⟨(some 31), none, .mv (.tmp 1)⟩,
    ⟨(some 32), none, .more (.lkp 3 (Go.Value.agg #[(Go.Value.string { data := #[] }), (Go.Value.bool false)]) true (.tmp 30) (.tmp 31))⟩,
    ⟨(some 26), none, .mv (.tmp 32)⟩,
    ⟨(some 33), none, .ext (.tmp 26) 0⟩,
    ⟨(some 34), none, .ext (.tmp 26) 1⟩,
    ⟨(some 9), none, .new 151 (Go.Value.agg #[(Go.Value.string { data := #[] }), (Go.Value.bool false)])⟩,
    ⟨none, none, .st (.tmp 9) (.tmp 33) 2⟩,
    ⟨(some 10), none, .mv (.tmp 34)⟩])
  (.seq (.ops [⟨(some 35), none, .mv (.tmp 0)⟩,
    ⟨(some 36), none, .nilc (.tmp 35)⟩,
    ⟨(some 37), none, .fld (.tmp 36) 3⟩,
    ⟨(some 38), none, .ld (.tmp 37) none⟩,
    ⟨(some 39), none, .mv (.tmp 1)⟩,
    ⟨none, none, .more (.del 3 (.tmp 38) (.tmp 39))⟩])
  (.seq (.seq (.ops [⟨(some 40), none, .mv (.tmp 10)⟩,
    ⟨(some 41), none, .un .not (.tmp 40)⟩,
    ⟨(some 42), none, .mv (.tmp 41)⟩,
    ⟨(some 43), (some (42, false)), .fld (.tmp 9) 1⟩,
    ⟨(some 44), (some (42, false)), .ld (.tmp 43) none⟩,
    ⟨(some 45), none, .pick (.tmp 42) (.const (Go.Value.bool true)) (.tmp 44)⟩])
  (.cond (.tmp 45)
    (.seq (.ops [⟨(some 4), none, .mv (.const (Go.Value.string { data := #[] }))⟩,
      ⟨(some 5), none, .mv (.const (Go.Value.int Go.IntKind.i64 7))⟩])
    (.ret))
    (.skip)))
  (.seq (.ops [⟨(some 46), none, .fld (.tmp 9) 0⟩,
    ⟨(some 47), none, .ld (.tmp 46) none⟩,
    ⟨(some 4), none, .mv (.tmp 47)⟩,
    ⟨(some 5), none, .mv (.const (Go.Value.int Go.IntKind.i64 0))⟩])
  (.ret)))))))
theorem is_device_Device_Take : FnIs Tryz.prog F.device_Device_Take X.device_Device_Take 48 [.tmp 4, .tmp 5] := ⟨by kernel_rfl⟩

-- loop (inner ones first): [0, 3, 8]
-- loop (inner ones first): [0, 3, 16, 17, 18]
/-- (*haycroft/hlog.Log).Land: function 16 -/
abbrev F.hlog_Log_Land : FuncId := 16
def X.hlog_Log_Land : X :=
  .seq (.ops [⟨(some 2), none, .mv (.const (Go.Value.int Go.IntKind.i64 0))⟩])
  (.seq (.seq (.ops [⟨(some 9), none, .mv (.tmp 0)⟩,
    ⟨(some 10), none, .eq false .ptr (.tmp 9) (.const (Go.Value.pointer none))⟩])
  (.cond (.tmp 10)
    (.seq (.ops [⟨(some 2), none, .mv (.const (Go.Value.int Go.IntKind.i64 0))⟩])
    (.ret))
    (.skip)))
  (.seq (.ops [⟨(some 3), none, .mv (.const (Go.Value.int Go.IntKind.i64 0))⟩])
  (.seq (.seq (.ops [⟨(some 11), none, .mv (.tmp 0)⟩,
    ⟨(some 12), none, .nilc (.tmp 11)⟩,
    ⟨(some 13), none, .fld (.tmp 12) 6⟩,
    ⟨(some 14), none, .ld (.tmp 13) none⟩,
    ⟨(some 15), none, .call 64 [(.tmp 14)]⟩,
    ⟨(some 16), none, .call 63 [(.tmp 15)]⟩,
    ⟨(some 17), none, .lenS (.tmp 16)⟩,
    ⟨(some 18), none, .mv (.const (Go.Value.int Go.IntKind.i64 0))⟩])
  (.block 0 (.loop (.seq (.ops [⟨(some 19), none, .bin .lss 3 (.tmp 18) (.tmp 17)⟩])
      (.seq (.cond (.tmp 19)
        (.skip)
        (.exit 0))
      (.seq (.block 1 (.seq (.ops [⟨(some 20), none, .idx (.tmp 16) (.tmp 18) 1⟩,
          ⟨(some 21), none, .ld (.tmp 20) none⟩,
          ⟨(some 5), none, .mv (.tmp 21)⟩])
        (.seq (.seq (.ops [⟨(some 23), none, .mv (.tmp 0)⟩,
          ⟨(some 24), none, .nilc (.tmp 23)⟩,
          ⟨(some 25), none, .fld (.tmp 24) 5⟩,
          ⟨(some 26), none, .ld (.tmp 25) none⟩,
          ⟨(some 27), none, .mv (.tmp 5)⟩,
          ⟨(some 28), none, .call 65 [(.tmp 26), (.tmp 27)]⟩,
          ⟨(some 22), none, .mv (.tmp 28)⟩,
          ⟨(some 29), none, .ext (.tmp 22) 0⟩,
          ⟨(some 30), none, .ext (.tmp 22) 1⟩,
          ⟨(some 6), none, .mv (.tmp 29)⟩,
          ⟨(some 7), none, .mv (.tmp 30)⟩])
        (.seq (.ops [⟨(some 31), none, .mv (.tmp 7)⟩,
          ⟨(some 32), none, .bin .neq 27 (.tmp 31) (.const (Go.Value.int Go.IntKind.i64 0))⟩])
        (.cond (.tmp 32)
          (.exit 1)
          (.skip))))
        (.seq (.drawn [(0, ⟨(some 33), none, .mv (.tmp 0)⟩),
          (1, ⟨(some 34), none, .nilc (.tmp 33)⟩),
          (2, ⟨(some 35), none, .fld (.tmp 34) 7⟩),
          (3, ⟨(some 36), none, .ld (.tmp 35) none⟩),
          (4, ⟨(some 37), none, .mv (.tmp 0)⟩),
          (5, ⟨(some 38), none, .nilc (.tmp 37)⟩),
          (6, ⟨(some 39), none, .fld (.tmp 38) 6⟩),
          (7, ⟨(some 40), none, .ld (.tmp 39) none⟩),
          (8, ⟨(some 41), none, .mv (.tmp 5)⟩),
          (9, ⟨(some 42), none, .more (.lkp 3 (Go.Value.int Go.IntKind.i64 0) false (.tmp 40) (.tmp 41))⟩),
          (10, ⟨(some 43), none, .more (.lkp 3 (Go.Value.int Go.IntKind.i64 0) false (.tmp 36) (.tmp 42))⟩),
          (11, ⟨(some 44), none, .bin .add 3 (.tmp 43) (.const (Go.Value.int Go.IntKind.i64 1))⟩),
          (12, ⟨none, none, .more (.mup 3 (.tmp 36) (.tmp 42) (.tmp 44))⟩)]
          [[], [0], [1], [2], [], [4], [5], [6], [], [7, 8], [3, 9], [10], [3, 9, 11, 0, 1, 2, 3, 4, 5, 6, 7, 8, 9, 10, 11]]
          [0, 1, 3, 7, 0, 16, 48, 112, 0, 496, 1023, 2047, 4095] 4096)
        (.seq (.ops [⟨(some 45), none, .mv (.tmp 0)⟩,
          ⟨(some 46), none, .nilc (.tmp 45)⟩,
          ⟨(some 47), none, .fld (.tmp 46) 6⟩,
          ⟨(some 48), none, .ld (.tmp 47) none⟩,
          ⟨(some 49), none, .mv (.tmp 5)⟩,
          ⟨none, none, .more (.del 3 (.tmp 48) (.tmp 49))⟩])
        (.ops [⟨(some 50), none, .mv (.tmp 3)⟩,
          ⟨(some 51), none, .bin .add 3 (.tmp 50) (.const (Go.Value.int Go.IntKind.i64 1))⟩,
          ⟨(some 3), none, .mv (.tmp 51)⟩]))))))
      (.ops [⟨(some 52), none, .bin .add 3 (.tmp 18) (.const (Go.Value.int Go.IntKind.i64 1))⟩,
        ⟨(some 18), none, .mv (.tmp 52)⟩])))))))
  (.seq (.ops [⟨(some 53), none, .mv (.tmp 0)⟩,
    ⟨(some 54), none, .nilc (.tmp 53)⟩,
    ⟨(some 55), none, .fld (.tmp 54) 2⟩,
    ⟨(some 56), none, .ld (.tmp 55) none⟩,
    ⟨(some 57), none, .call 31 [(.tmp 56), (.const (Go.Value.int Go.IntKind.i64 2))]⟩,
    ⟨(some 8), none, .mv (.tmp 57)⟩])
  (.seq (.block 2 (.loop (.seq (.seq (.ops [⟨(some 58), none, .mv (.tmp 0)⟩,
        ⟨(some 59), none, .nilc (.tmp 58)⟩,
        ⟨(some 60), none, .fld (.tmp 59) 7⟩,
        ⟨(some 61), none, .ld (.tmp 60) none⟩,
        ⟨(some 62), none, .mv (.tmp 8)⟩,
        ⟨(some 63), none, .more (.lkp 3 (Go.Value.int Go.IntKind.i64 0) false (.tmp 61) (.tmp 62))⟩,
        ⟨(some 64), none, .bin .gtr 3 (.tmp 63) (.const (Go.Value.int Go.IntKind.i64 0))⟩])
      (.cond (.tmp 64)
        (.skip)
        (.exit 2)))
      (.block 3 (.seq (.ops [⟨(some 65), none, .mv (.tmp 0)⟩,
          ⟨(some 66), none, .nilc (.tmp 65)⟩,
          ⟨(some 67), none, .fld (.tmp 66) 7⟩,
          ⟨(some 68), none, .ld (.tmp 67) none⟩,
          ⟨(some 69), none, .mv (.tmp 8)⟩,
          ⟨none, none, .more (.del 3 (.tmp 68) (.tmp 69))⟩])
        (.ops [⟨(some 70), none, .mv (.tmp 8)⟩,
          ⟨(some 71), none, .bin .add 3 (.tmp 70) (.const (Go.Value.int Go.IntKind.i64 1))⟩,
          ⟨(some 8), none, .mv (.tmp 71)⟩]))))))
  (.seq (.drawn [(0, ⟨(some 72), none, .mv (.tmp 0)⟩),
    (1, ⟨(some 73), none, .nilc (.tmp 72)⟩),
    (2, ⟨(some 74), none, .fld (.tmp 73) 2⟩),
    (3, ⟨(some 75), none, .ld (.tmp 74) none⟩),
    (4, ⟨(some 76), none, .mv (.tmp 8)⟩),
    (5, ⟨(some 77), none, .mv (.tmp 0)⟩),
    (6, ⟨(some 78), none, .nilc (.tmp 77)⟩),
    (7, ⟨(some 79), none, .fld (.tmp 78) 0⟩),
    (8, ⟨(some 80), none, .ld (.tmp 79) none⟩),
    (9, ⟨(some 81), none, .call 39 [(.tmp 80)]⟩),
    (10, ⟨(some 82), none, .call 66 [(.tmp 75), (.const (Go.Value.int Go.IntKind.i64 2)), (.tmp 76), (.tmp 81)]⟩)]
    [[], [0], [1], [2], [], [], [5], [6], [7], [8], [3, 4, 9, 9]]
    [0, 1, 3, 7, 0, 0, 32, 96, 224, 480, 1023] 1536)
  (.seq (.ops [⟨(some 83), none, .mv (.tmp 3)⟩,
    ⟨(some 2), none, .mv (.tmp 83)⟩])
  (.ret))))))))
theorem is_hlog_Log_Land : FnIs Tryz.prog F.hlog_Log_Land X.hlog_Log_Land 84 [.tmp 2] := ⟨by kernel_rfl⟩

/-- (*haycroft/hlog.Log).Tail: function 22 -/
abbrev F.hlog_Log_Tail : FuncId := 22
def X.hlog_Log_Tail : X :=
  .seq (.ops [⟨(some 2), none, .mv (.const (Go.Value.pointer none))⟩])
  (.seq (.seq (.ops [⟨(some 3), none, .mv (.tmp 0)⟩,
    ⟨(some 4), none, .eq false .ptr (.tmp 3) (.const (Go.Value.pointer none))⟩])
  (.cond (.tmp 4)
    (.seq (.ops [⟨(some 2), none, .mv (.const (Go.Value.pointer none))⟩])
    (.ret))
    (.skip)))
  (.seq (.ops [⟨(some 5), none, .mv (.tmp 0)⟩,
    ⟨(some 6), none, .nilc (.tmp 5)⟩,
    ⟨(some 7), none, .fld (.tmp 6) 0⟩,
    ⟨(some 8), none, .ld (.tmp 7) none⟩,
    ⟨(some 2), none, .mv (.tmp 8)⟩])
  (.ret)))
theorem is_hlog_Log_Tail : FnIs Tryz.prog F.hlog_Log_Tail X.hlog_Log_Tail 9 [.tmp 2] := ⟨by kernel_rfl⟩

/-- haycroft/haycroftlaw15.awake: function 6 -/
abbrev F.law15_awake : FuncId := 6
def X.law15_awake : X :=
  .seq (.ops [⟨(some 0), none, .mv (.const (Go.Value.bool false))⟩])
  (.seq (.ops [⟨(some 11), none, .call 37 []⟩,
    ⟨(some 1), none, .mv (.tmp 11)⟩])
  (.seq (.ops [⟨(some 13), none, .bld [(Go.Value.int Go.IntKind.i64 0), (Go.Value.int Go.IntKind.i64 0), (Go.Value.int Go.IntKind.i64 0), (Go.Value.int Go.IntKind.i64 0), (Go.Value.int Go.IntKind.i64 0), (Go.Value.int Go.IntKind.i64 0)] [(0, 1, (.const (Go.Value.int Go.IntKind.i64 5))), (1, 1, (.const (Go.Value.int Go.IntKind.i64 2))), (2, 1, (.const (Go.Value.int Go.IntKind.i64 3))), (5, 1, (.const (Go.Value.int Go.IntKind.i64 1)))]⟩,
    ⟨(some 14), none, .mv (.tmp 1)⟩,
    ⟨(some 15), none, .call 9 [(.tmp 13), (.tmp 14)]⟩,
    ⟨(some 12), none, .mv (.tmp 15)⟩,
    ⟨(some 16), none, .ext (.tmp 12) 0⟩,
    ⟨(some 17), none, .ext (.tmp 12) 1⟩,
    ⟨(some 2), none, .mv (.tmp 16)⟩,
    ⟨(some 3), none, .mv (.tmp 17)⟩])
  (.seq (.seq (.ops [⟨(some 18), none, .mv (.tmp 3)⟩,
    ⟨(some 19), none, .bin .neq 27 (.tmp 18) (.const (Go.Value.int Go.IntKind.i64 0))⟩])
  (.cond (.tmp 19)
    (.seq (.ops [⟨(some 0), none, .mv (.const (Go.Value.bool false))⟩])
    (.ret))
    (.skip)))
  (.seq (.ops [⟨(some 20), none, .mv (.tmp 2)⟩,
    ⟨(some 21), none, .call 7 [(.tmp 20), (.const (Go.Value.int Go.IntKind.i64 31))]⟩])
  (.seq (.ops [⟨(some 22), none, .mv (.tmp 2)⟩,
    ⟨(some 23), none, .call 7 [(.tmp 22), (.const (Go.Value.int Go.IntKind.i64 1))]⟩])
  (.seq (.ops [⟨(some 24), none, .mv (.tmp 2)⟩,
    ⟨(some 25), none, .call 11 [(.tmp 24)]⟩,
    ⟨(some 4), none, .mv (.tmp 25)⟩])
  (.seq (.ops [⟨(some 26), none, .mv (.tmp 2)⟩,
    ⟨(some 27), none, .call 7 [(.tmp 26), (.const (Go.Value.int Go.IntKind.i64 32))]⟩])
  (.seq (.ops [⟨(some 28), none, .mv (.tmp 2)⟩,
    ⟨(some 29), none, .call 7 [(.tmp 28), (.const (Go.Value.int Go.IntKind.i64 1))]⟩])
  (.seq (.ops [⟨(some 30), none, .mv (.tmp 2)⟩,
    ⟨(some 31), none, .call 11 [(.tmp 30)]⟩,
    ⟨(some 5), none, .mv (.tmp 31)⟩])
  (.seq (.ops [⟨(some 32), none, .mv (.tmp 2)⟩,
    ⟨(some 33), none, .call 11 [(.tmp 32)]⟩,
    ⟨(some 6), none, .mv (.tmp 33)⟩])
  (.seq (.ops [⟨(some 34), none, .mv (.tmp 1)⟩,
    ⟨(some 35), none, .call 38 [(.tmp 34), (.const (Go.Value.int Go.IntKind.i64 1))]⟩,
    ⟨(some 7), none, .mv (.tmp 35)⟩])
  (.seq (.ops [⟨(some 36), none, .mv (.tmp 2)⟩,
    ⟨(some 37), none, .call 16 [(.tmp 36)]⟩,
    ⟨(some 8), none, .mv (.tmp 37)⟩])
  (.seq (.ops [⟨(some 38), none, .mv (.tmp 2)⟩,
    ⟨(some 39), none, .call 11 [(.tmp 38)]⟩,
    ⟨(some 9), none, .mv (.tmp 39)⟩])
  (.seq (.ops [⟨(some 40), none, .mv (.tmp 2)⟩,
    ⟨(some 41), none, .call 11 [(.tmp 40)]⟩,
    ⟨(some 10), none, .mv (.tmp 41)⟩])
  (.seq (.ops [⟨(some 42), none, .mv (.tmp 4)⟩,
    ⟨(some 43), none, .bin .eql 27 (.tmp 42) (.const (Go.Value.int Go.IntKind.i64 0))⟩,
    ⟨(some 44), none, .mv (.tmp 43)⟩,
    ⟨(some 45), (some (44, true)), .mv (.tmp 5)⟩,
    ⟨(some 46), (some (44, true)), .bin .eql 27 (.tmp 45) (.const (Go.Value.int Go.IntKind.i64 11))⟩,
    ⟨(some 47), none, .pick (.tmp 44) (.tmp 46) (.const (Go.Value.bool false))⟩,
    ⟨(some 48), none, .mv (.tmp 47)⟩,
    ⟨(some 49), (some (48, true)), .mv (.tmp 6)⟩,
    ⟨(some 50), (some (48, true)), .bin .eql 27 (.tmp 49) (.const (Go.Value.int Go.IntKind.i64 11))⟩,
    ⟨(some 51), none, .pick (.tmp 48) (.tmp 50) (.const (Go.Value.bool false))⟩,
    ⟨(some 52), none, .mv (.tmp 51)⟩,
    ⟨(some 53), (some (52, true)), .mv (.tmp 7)⟩,
    ⟨(some 54), (some (52, true)), .bin .eql 27 (.tmp 53) (.const (Go.Value.int Go.IntKind.i64 0))⟩,
    ⟨(some 55), none, .pick (.tmp 52) (.tmp 54) (.const (Go.Value.bool false))⟩,
    ⟨(some 56), none, .mv (.tmp 55)⟩,
    ⟨(some 57), (some (56, true)), .mv (.tmp 8)⟩,
    ⟨(some 58), (some (56, true)), .bin .eql 3 (.tmp 57) (.const (Go.Value.int Go.IntKind.i64 1))⟩,
    ⟨(some 59), none, .pick (.tmp 56) (.tmp 58) (.const (Go.Value.bool false))⟩,
    ⟨(some 60), none, .mv (.tmp 59)⟩,
    ⟨(some 61), (some (60, true)), .mv (.tmp 9)⟩,
    ⟨(some 62), (some (60, true)), .bin .eql 27 (.tmp 61) (.const (Go.Value.int Go.IntKind.i64 11))⟩,
    ⟨(some 63), none, .pick (.tmp 60) (.tmp 62) (.const (Go.Value.bool false))⟩,
    ⟨(some 64), none, .mv (.tmp 63)⟩,
    ⟨(some 65), (some (64, true)), .mv (.tmp 10)⟩,
    ⟨(some 66), (some (64, true)), .bin .eql 27 (.tmp 65) (.const (Go.Value.int Go.IntKind.i64 0))⟩,
    ⟨(some 67), none, .pick (.tmp 64) (.tmp 66) (.const (Go.Value.bool false))⟩,
    ⟨(some 68), none, .mv (.tmp 67)⟩,
    ⟨(some 69), (some (68, true)), .mv (.tmp 2)⟩,
    ⟨(some 70), (some (68, true)), .call 22 [(.tmp 69)]⟩,
    ⟨(some 71), (some (68, true)), .call 39 [(.tmp 70)]⟩,
    ⟨(some 72), (some (68, true)), .bin .eql 3 (.tmp 71) (.const (Go.Value.int Go.IntKind.i64 2))⟩,
    ⟨(some 73), none, .pick (.tmp 68) (.tmp 72) (.const (Go.Value.bool false))⟩,
    ⟨(some 0), none, .mv (.tmp 73)⟩])
  (.ret))))))))))))))))
theorem is_law15_awake : FnIs Tryz.prog F.law15_awake X.law15_awake 74 [.tmp 0] := ⟨by kernel_rfl⟩

/-- (*haycroft/tail.Tail).Offset: function 57 -/
abbrev F.tail_Tail_Offset : FuncId := 57
def X.tail_Tail_Offset : X :=
  .seq (.ops [⟨(some 2), none, .mv (.const (Go.Value.int Go.IntKind.i64 0))⟩])
  (.seq (.seq (.ops [⟨(some 5), none, .mv (.tmp 0)⟩,
    ⟨(some 6), none, .eq false .ptr (.tmp 5) (.const (Go.Value.pointer none))⟩])
  (.cond (.tmp 6)
    (.seq (.ops [⟨(some 2), none, .mv (.const (Go.Value.int Go.IntKind.i64 0))⟩])
    (.ret))
    (.skip)))
  (.seq (.ops [⟨(some 8), none, .mv (.tmp 0)⟩,
    ⟨(some 9), none, .call 106 [(.tmp 8)]⟩,
    ⟨(some 7), none, .mv (.tmp 9)⟩,
    ⟨(some 10), none, .ext (.tmp 7) 0⟩,
    ⟨(some 11), none, .ext (.tmp 7) 1⟩,
    ⟨(some 3), none, .mv (.tmp 10)⟩,
    ⟨(some 4), none, .mv (.tmp 11)⟩])
  (.seq (.ops [⟨(some 12), none, .mv (.tmp 4)⟩,
    ⟨(some 13), none, .mv (.tmp 0)⟩,
    ⟨(some 14), none, .call 107 [(.tmp 13)]⟩,
    ⟨(some 15), none, .mnx false (.tmp 12) [(.tmp 14)]⟩,
    ⟨(some 2), none, .mv (.tmp 15)⟩])
  (.ret))))
theorem is_tail_Tail_Offset : FnIs Tryz.prog F.tail_Tail_Offset X.tail_Tail_Offset 16 [.tmp 2] := ⟨by kernel_rfl⟩

/-- (*haycroft/tail.Tail).Addr: function 49 -/
abbrev F.tail_Tail_Addr : FuncId := 49
def X.tail_Tail_Addr : X :=
  .seq (.ops [⟨(some 2), none, .mv (.const (Go.Value.int Go.IntKind.u64 0))⟩])
  (.seq (.seq (.ops [⟨(some 3), none, .mv (.tmp 0)⟩,
    ⟨(some 4), none, .eq false .ptr (.tmp 3) (.const (Go.Value.pointer none))⟩])
  (.cond (.tmp 4)
    (.seq (.ops [⟨(some 2), none, .mv (.const (Go.Value.int Go.IntKind.u64 0))⟩])
    (.ret))
    (.skip)))
  (.seq (.drawn [(0, ⟨(some 5), none, .mv (.tmp 0)⟩),
    (1, ⟨(some 6), none, .nilc (.tmp 5)⟩),
    (2, ⟨(some 7), none, .fld (.tmp 6) 0⟩),
    (3, ⟨(some 8), none, .ld (.tmp 7) none⟩),
    (4, ⟨(some 9), none, .mv (.tmp 0)⟩),
    (7, ⟨(some 12), none, .mv (.tmp 0)⟩),
    (5, ⟨(some 10), none, .call 39 [(.tmp 9)]⟩),
    (6, ⟨(some 11), none, .call 111 [(.tmp 8), (.tmp 10)]⟩),
    (8, ⟨(some 13), none, .call 57 [(.tmp 12)]⟩),
    (9, ⟨(some 14), none, .conv Go.IntKind.u64 (.tmp 13)⟩),
    (10, ⟨(some 15), none, .bin .add 26 (.tmp 11) (.tmp 14)⟩),
    (11, ⟨(some 2), none, .mv (.tmp 15)⟩)]
    [[], [0], [1], [2], [], [4], [3, 5, 5], [], [7, 6], [8], [6, 9], [10, 8, 0, 1, 2, 3, 4, 5, 6, 7, 8, 9, 10]]
    [0, 1, 3, 7, 0, 16, 63, 0, 255, 511, 1023, 2047] 352)
  (.ret)))
theorem is_tail_Tail_Addr : FnIs Tryz.prog F.tail_Tail_Addr X.tail_Tail_Addr 16 [.tmp 2] := ⟨by kernel_rfl⟩

-- loop (inner ones first): [0, 3, 7]
/-- (*haycroft/marks.Set).All: function 122 -/
abbrev F.marks_Set_All : FuncId := 122
def X.marks_Set_All : X :=
  .seq (.ops [⟨(some 2), none, .mv (.const (Go.Value.slice none 0 0))⟩])
  (.seq (.seq (.ops [⟨(some 5), none, .mv (.tmp 0)⟩,
    ⟨(some 6), none, .eq false .ptr (.tmp 5) (.const (Go.Value.pointer none))⟩])
  (.cond (.tmp 6)
    (.seq (.ops [⟨(some 2), none, .mv (.const (Go.Value.slice none 0 0))⟩])
    (.ret))
    (.skip)))
  (.seq (.ops [⟨(some 3), none, .mv (.const (Go.Value.slice none 0 0))⟩])
  (.seq (.seq (.ops [⟨(some 7), none, .mv (.const (Go.Value.int Go.IntKind.i64 0))⟩])
  (.block 0 (.loop (.seq (.ops [⟨(some 8), none, .bin .lss 3 (.tmp 7) (.const (Go.Value.int Go.IntKind.i64 5))⟩])
      (.seq (.cond (.tmp 8)
        (.skip)
        (.exit 0))
      (.seq (.block 1 (.seq (.ops [⟨(some 9), none, .mv (.tmp 7)⟩,
          ⟨(some 4), none, .mv (.tmp 9)⟩])
        (.ops [⟨(some 10), none, .mv (.tmp 3)⟩,
          ⟨(some 11), none, .mv (.tmp 0)⟩,
          ⟨(some 12), none, .mv (.tmp 4)⟩,
          ⟨(some 13), none, .call 31 [(.tmp 11), (.tmp 12)]⟩,
          ⟨(some 14), none, .bsl 3 1 1 [(Go.Value.int Go.IntKind.i64 0)] [(0, (.tmp 13))]⟩,
          ⟨(some 15), none, .app 3 1 8 [(Go.Value.int Go.IntKind.i64 0)] (.tmp 10) (.tmp 14)⟩,
          ⟨(some 3), none, .mv (.tmp 15)⟩])))
      (.ops [⟨(some 16), none, .bin .add 3 (.tmp 7) (.const (Go.Value.int Go.IntKind.i64 1))⟩,
        ⟨(some 7), none, .mv (.tmp 16)⟩])))))))
  (.seq (.ops [⟨(some 17), none, .mv (.tmp 3)⟩,
    ⟨(some 2), none, .mv (.tmp 17)⟩])
  (.ret)))))
theorem is_marks_Set_All : FnIs Tryz.prog F.marks_Set_All X.marks_Set_All 18 [.tmp 2] := ⟨by kernel_rfl⟩

-- loop (inner ones first): [0, 1, 24]
-- loop (inner ones first): [0, 1, 15, 16, 17]
/-- (*haycroft/marks.Set).Begin: function 53 -/
abbrev F.marks_Set_Begin : FuncId := 53
def X.marks_Set_Begin : X :=
  .seq (.ops [⟨(some 4), none, .mv (.const (Go.Value.int Go.IntKind.i64 0))⟩])
  (.seq (.block 0 (.seq (.ops [⟨(some 9), none, .mv (.tmp 0)⟩,
      ⟨(some 10), none, .eq false .ptr (.tmp 9) (.const (Go.Value.pointer none))⟩,
      ⟨(some 8), none, .mv (.tmp 10)⟩])
    (.cond (.tmp 8)
      (.seq (.ops [⟨(some 4), none, .mv (.const (Go.Value.int Go.IntKind.i64 2))⟩])
      (.ret))
      (.seq (.ops [⟨(some 12), none, .mv (.tmp 1)⟩,
        ⟨(some 13), none, .bin .lss 3 (.tmp 12) (.const (Go.Value.int Go.IntKind.i64 0))⟩,
        ⟨(some 11), none, .mv (.tmp 13)⟩])
      (.cond (.tmp 11)
        (.seq (.ops [⟨(some 4), none, .mv (.const (Go.Value.int Go.IntKind.i64 1))⟩])
        (.ret))
        (.skip))))))
  (.seq (.seq (.ops [⟨(some 14), none, .mv (.tmp 0)⟩,
    ⟨(some 15), none, .call 122 [(.tmp 14)]⟩,
    ⟨(some 16), none, .lenS (.tmp 15)⟩,
    ⟨(some 17), none, .mv (.const (Go.Value.int Go.IntKind.i64 0))⟩])
  (.block 1 (.loop (.seq (.ops [⟨(some 18), none, .bin .lss 3 (.tmp 17) (.tmp 16)⟩])
      (.seq (.cond (.tmp 18)
        (.skip)
        (.exit 1))
      (.seq (.block 2 (.seq (.ops [⟨(some 19), none, .idx (.tmp 15) (.tmp 17) 1⟩,
          ⟨(some 20), none, .ld (.tmp 19) none⟩,
          ⟨(some 6), none, .mv (.tmp 20)⟩])
        (.seq (.ops [⟨(some 21), none, .mv (.tmp 6)⟩,
          ⟨(some 22), none, .bin .neq 3 (.tmp 21) (.const (Go.Value.int Go.IntKind.i64 0))⟩])
        (.cond (.tmp 22)
          (.seq (.ops [⟨(some 4), none, .mv (.const (Go.Value.int Go.IntKind.i64 8))⟩])
          (.ret))
          (.skip)))))
      (.ops [⟨(some 23), none, .bin .add 3 (.tmp 17) (.const (Go.Value.int Go.IntKind.i64 1))⟩,
        ⟨(some 17), none, .mv (.tmp 23)⟩])))))))
  (.seq (.seq (.ops [⟨(some 24), none, .mv (.const (Go.Value.int Go.IntKind.i64 0))⟩])
  (.block 3 (.loop (.seq (.ops [⟨(some 25), none, .bin .lss 3 (.tmp 24) (.const (Go.Value.int Go.IntKind.i64 5))⟩])
      (.seq (.cond (.tmp 25)
        (.skip)
        (.exit 3))
      (.seq (.block 4 (.seq (.ops [⟨(some 26), none, .mv (.tmp 24)⟩,
          ⟨(some 7), none, .mv (.tmp 26)⟩])
        (.ops [⟨(some 27), none, .mv (.tmp 0)⟩,
          ⟨(some 28), none, .nilc (.tmp 27)⟩,
          ⟨(some 29), none, .fld (.tmp 28) 0⟩,
          ⟨(some 30), none, .ld (.tmp 29) none⟩,
          ⟨(some 31), none, .mv (.tmp 7)⟩,
          ⟨(some 32), none, .mv (.tmp 1)⟩,
          ⟨(some 33), none, .conv Go.IntKind.u64 (.tmp 32)⟩,
          ⟨(some 34), none, .call 117 [(.tmp 30), (.tmp 31), (.tmp 33)]⟩])))
      (.ops [⟨(some 35), none, .bin .add 3 (.tmp 24) (.const (Go.Value.int Go.IntKind.i64 1))⟩,
        ⟨(some 24), none, .mv (.tmp 35)⟩])))))))
  (.seq (.ops [⟨(some 4), none, .mv (.const (Go.Value.int Go.IntKind.i64 0))⟩])
  (.ret)))))
theorem is_marks_Set_Begin : FnIs Tryz.prog F.marks_Set_Begin X.marks_Set_Begin 36 [.tmp 4] := ⟨by kernel_rfl⟩

end Go.Proofs.YtflbfdmmfoigaaaGreat
