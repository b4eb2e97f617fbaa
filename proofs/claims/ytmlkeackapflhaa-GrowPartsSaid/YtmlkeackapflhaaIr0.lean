import Derived.Test.YtmlkeackapflhaaProg
import Derived.Test.YtmlkeackapflhaaHxQ
import Derived.KernelRfl
namespace Go.Proofs.Ytmlkeackapflhaa
open Go Go.HX
abbrev T.int64 : TypeId := 2
abbrev T.int : TypeId := 3
abbrev T.bool : TypeId := 4
abbrev T.uint8 : TypeId := 5
abbrev T.abi_BoundsErrorCode : TypeId := 6
abbrev T.string : TypeId := 9
abbrev T.uintptr : TypeId := 12
abbrev T.ptr_abi_Type : TypeId := 17
abbrev T.maps_unhashableTypeError : TypeId := 19
abbrev T.interface : TypeId := 20
abbrev T.int32 : TypeId := 21
abbrev T.slice_haycroftlaw17_Act : TypeId := 22
abbrev T.ptr_index_Index : TypeId := 24
abbrev T.api_Errno : TypeId := 25
abbrev T.ptr_index_Index_api_Errno : TypeId := 26
abbrev T.ptr_haycroftref17_Index : TypeId := 28
abbrev T.ptr_haycroftref17_Index_api_Errno : TypeId := 29
abbrev T.uint64 : TypeId := 32
abbrev T.haycroftlaw17_Act : TypeId := 34
abbrev T.slice_uint64 : TypeId := 37
abbrev T.api_Entry : TypeId := 40
abbrev T.api_Entry_api_Errno : TypeId := 41
abbrev T.api_Look : TypeId := 46
abbrev T.api_Look_api_Errno : TypeId := 47
abbrev T.bool_api_Errno : TypeId := 50
abbrev T.int_api_Errno : TypeId := 53
abbrev T.int_int : TypeId := 56
abbrev T.slice_int : TypeId := 59
abbrev T.ptr_pages_Buffer : TypeId := 69
abbrev T.ptr_pages_Buffer_api_Errno : TypeId := 70
abbrev T.ptr_inplace_Writer : TypeId := 72
abbrev T.ptr_inplace_Writer_api_Errno : TypeId := 73
abbrev T.ptr_inplace_Reader : TypeId := 75
abbrev T.ptr_inplace_Reader_api_Errno : TypeId := 76
abbrev T.ptr_index_Index_ptr_haycroftref17_Index_bool : TypeId := 82
abbrev T.uint : TypeId := 86
abbrev T.slice_uint8 : TypeId := 88
abbrev T.slice_haycroftlaw18_Work : TypeId := 89
abbrev T.haycroftlaw18_Work : TypeId := 91
abbrev T.ptr_haycroftlaw18_scene : TypeId := 92
abbrev T.ptr_haycroftlaw18_scene_bool : TypeId := 93
abbrev T.slice_bool : TypeId := 96
abbrev T.ptr_haycroftref18_Cells : TypeId := 97
abbrev T.slice_ptr_inplace_Writer : TypeId := 98
abbrev T.slice_ptr_inplace_Reader : TypeId := 99
abbrev T.slice_ptr_haycroftref18_Work : TypeId := 100
abbrev T.haycroftlaw18_scene : TypeId := 102
abbrev T.haycroftref18_Work : TypeId := 105
abbrev T.ptr_haycroftref18_Work : TypeId := 106
abbrev T.haycroftref18_Cells : TypeId := 111
abbrev T.uint64_api_Errno : TypeId := 113
abbrev T.ptr_cell_Row : TypeId := 117
abbrev T.ptr_cell_Row_api_Errno : TypeId := 118
abbrev T.index_Index : TypeId := 121
abbrev T.slice_8_uint64 : TypeId := 122
abbrev T.haycroftref17_Index : TypeId := 124
abbrev T.slice_slice_uint64 : TypeId := 125
abbrev T.arr_8_uint64 : TypeId := 129
abbrev T.int_bool : TypeId := 138
abbrev T.slice_uint64_api_Errno : TypeId := 140
abbrev T.slice_api_Entry : TypeId := 143
abbrev T.arr_2_int : TypeId := 145
abbrev T.ptr_pages_Buffer_bool : TypeId := 148
abbrev T.pages_Buffer : TypeId := 152
abbrev T.inplace_spot : TypeId := 154
abbrev T.inplace_spot_api_Errno : TypeId := 155
abbrev T.inplace_Writer : TypeId := 159
abbrev T.inplace_Reader : TypeId := 161
abbrev T.string_bool : TypeId := 166
abbrev T.slice_atomic_Uint64 : TypeId := 169
abbrev T.struct : TypeId := 170
abbrev T.atomic_noCopy : TypeId := 171
abbrev T.atomic_align64 : TypeId := 172
abbrev T.atomic_Int64 : TypeId := 174
abbrev T.cell_Row : TypeId := 176
abbrev T.atomic_Uint64 : TypeId := 178
abbrev T.map_uint64_bool : TypeId := 189
abbrev T.string_api_Errno : TypeId := 194
abbrev T.ptr_atomic_Uint64 : TypeId := 202
abbrev T.ptr_uint64 : TypeId := 204
abbrev T.ptr_atomic_Int64 : TypeId := 209
abbrev T.ptr_int64 : TypeId := 211
abbrev T.api_Header : TypeId := 217
abbrev T.api_Record : TypeId := 219
abbrev T.uint32 : TypeId := 229
abbrev T.abi_TFlag : TypeId := 230
abbrev T.abi_Kind : TypeId := 231
abbrev T.ptr_uint8 : TypeId := 233
abbrev T.abi_NameOff : TypeId := 234
abbrev T.abi_TypeOff : TypeId := 235
abbrev T.abi_Type : TypeId := 237
abbrev T.unsafe_Pointer : TypeId := 238
/-- haycroft/mix.May: function 59 -/
abbrev F.mix_May : FuncId := 59
def X.mix_May : X :=
  .seq (.ops [⟨(some 2), none, .mv (.const (Go.Value.bool false))⟩])
  (.seq (.ops [⟨(some 3), none, .mv (.tmp 0)⟩,
    ⟨(some 4), none, .bin .geq 3 (.tmp 3) (.const (Go.Value.int Go.IntKind.i64 1))⟩,
    ⟨(some 5), none, .mv (.tmp 4)⟩,
    ⟨(some 6), (some (5, true)), .mv (.tmp 0)⟩,
    ⟨(some 7), (some (5, true)), .bin .leq 3 (.tmp 6) (.const (Go.Value.int Go.IntKind.i64 1024))⟩,
    ⟨(some 8), none, .pick (.tmp 5) (.tmp 7) (.const (Go.Value.bool false))⟩,
    ⟨(some 9), none, .mv (.tmp 8)⟩,
    ⟨(some 10), (some (9, true)), .mv (.tmp 0)⟩,
    ⟨(some 11), (some (9, true)), .mv (.tmp 0)⟩,
    ⟨(some 12), (some (9, true)), .bin .sub 3 (.tmp 11) (.const (Go.Value.int Go.IntKind.i64 1))⟩,
    ⟨(some 13), (some (9, true)), .bin .and 3 (.tmp 10) (.tmp 12)⟩,
    ⟨(some 14), (some (9, true)), .bin .eql 3 (.tmp 13) (.const (Go.Value.int Go.IntKind.i64 0))⟩,
    ⟨(some 15), none, .pick (.tmp 9) (.tmp 14) (.const (Go.Value.bool false))⟩,
    ⟨(some 2), none, .mv (.tmp 15)⟩])
  (.ret))
theorem is_mix_May : FnIs Try.prog F.mix_May X.mix_May 16 [.tmp 2] := ⟨by kernel_rfl⟩

/-- haycroft/cell.New: function 60 -/
abbrev F.cell_New : FuncId := 60
def X.cell_New : X :=
  .seq (.ops [⟨(some 2), none, .mv (.const (Go.Value.pointer none))⟩,
    ⟨(some 3), none, .mv (.const (Go.Value.int Go.IntKind.i64 0))⟩])
  (.seq (.seq (.ops [⟨(some 4), none, .mv (.tmp 0)⟩,
    ⟨(some 5), none, .bin .lss 3 (.tmp 4) (.const (Go.Value.int Go.IntKind.i64 1))⟩,
    ⟨(some 6), none, .mv (.tmp 5)⟩,
    ⟨(some 7), (some (6, false)), .mv (.tmp 0)⟩,
    ⟨(some 8), (some (6, false)), .bin .gtr 3 (.tmp 7) (.const (Go.Value.int Go.IntKind.i64 65536))⟩,
    ⟨(some 9), none, .pick (.tmp 6) (.const (Go.Value.bool true)) (.tmp 8)⟩])
  (.cond (.tmp 9)
    (.seq (.ops [⟨(some 2), none, .mv (.const (Go.Value.pointer none))⟩,
      ⟨(some 3), none, .mv (.const (Go.Value.int Go.IntKind.i64 1))⟩])
    (.ret))
    (.skip)))
  (.seq (.ops [⟨(some 10), none, .mv (.tmp 0)⟩,
    ⟨(some 11), none, .mks 178 1 8 [(Go.Value.int Go.IntKind.u64 0)] (.tmp 10) (.tmp 10)⟩,
    ⟨(some 12), none, .bld [(Go.Value.slice none 0 0), (Go.Value.int Go.IntKind.i64 0), (Go.Value.int Go.IntKind.i64 0)] [(0, 1, (.tmp 11))]⟩,
    ⟨(some 13), none, .box 176 (.tmp 12)⟩,
    ⟨(some 2), none, .mv (.tmp 13)⟩,
    ⟨(some 3), none, .mv (.const (Go.Value.int Go.IntKind.i64 0))⟩])
  (.ret)))
theorem is_cell_New : FnIs Try.prog F.cell_New X.cell_New 14 [.tmp 2, .tmp 3] := ⟨by kernel_rfl⟩

/-- haycroft/index.New: function 12 -/
abbrev F.index_New : FuncId := 12
def X.index_New : X :=
  .seq (.ops [⟨(some 4), none, .mv (.const (Go.Value.pointer none))⟩,
    ⟨(some 5), none, .mv (.const (Go.Value.int Go.IntKind.i64 0))⟩])
  (.seq (.seq (.ops [⟨(some 9), none, .mv (.tmp 0)⟩,
    ⟨(some 10), none, .call 59 [(.tmp 9)]⟩,
    ⟨(some 11), none, .un .not (.tmp 10)⟩,
    ⟨(some 12), none, .mv (.tmp 11)⟩,
    ⟨(some 13), (some (12, false)), .mv (.tmp 1)⟩,
    ⟨(some 14), (some (12, false)), .bin .lss 3 (.tmp 13) (.const (Go.Value.int Go.IntKind.i64 0))⟩,
    ⟨(some 15), none, .pick (.tmp 12) (.const (Go.Value.bool true)) (.tmp 14)⟩,
    ⟨(some 16), none, .mv (.tmp 15)⟩,
    ⟨(some 17), (some (16, false)), .mv (.tmp 1)⟩,
    ⟨(some 18), (some (16, false)), .bin .gtr 3 (.tmp 17) (.const (Go.Value.int Go.IntKind.i64 64))⟩,
    ⟨(some 19), none, .pick (.tmp 16) (.const (Go.Value.bool true)) (.tmp 18)⟩])
  (.cond (.tmp 19)
    (.seq (.ops [⟨(some 4), none, .mv (.const (Go.Value.pointer none))⟩,
      ⟨(some 5), none, .mv (.const (Go.Value.int Go.IntKind.i64 1))⟩])
    (.ret))
    (.skip)))
  (.seq (.ops [⟨(some 21), none, .mv (.tmp 0)⟩,
    ⟨(some 22), none, .mv (.tmp 1)⟩,
    ⟨(some 23), none, .bin .add 3 (.tmp 21) (.tmp 22)⟩,
    ⟨(some 24), none, .bin .mul 3 (.tmp 23) (.const (Go.Value.int Go.IntKind.i64 8))⟩,
    ⟨(some 25), none, .call 60 [(.tmp 24)]⟩,
    ⟨(some 20), none, .mv (.tmp 25)⟩,
    ⟨(some 26), none, .ext (.tmp 20) 0⟩,
    ⟨(some 27), none, .ext (.tmp 20) 1⟩,
    ⟨(some 6), none, .mv (.tmp 26)⟩,
    ⟨(some 7), none, .mv (.tmp 27)⟩])
  (.seq (.seq (.ops [⟨(some 28), none, .mv (.tmp 7)⟩,
    ⟨(some 29), none, .bin .neq 25 (.tmp 28) (.const (Go.Value.int Go.IntKind.i64 0))⟩])
  (.cond (.tmp 29)
    (.seq (.ops [⟨(some 30), none, .mv (.tmp 7)⟩,
      ⟨(some 4), none, .mv (.const (Go.Value.pointer none))⟩,
      ⟨(some 5), none, .mv (.tmp 30)⟩])
    (.ret))
    (.skip)))
  (.seq (.ops [⟨(some 32), none, .call 60 [(.const (Go.Value.int Go.IntKind.i64 1))]⟩,
    ⟨(some 31), none, .mv (.tmp 32)⟩,
    ⟨(some 33), none, .ext (.tmp 31) 0⟩,
    ⟨(some 34), none, .ext (.tmp 31) 1⟩,
    ⟨(some 8), none, .mv (.tmp 33)⟩,
    ⟨(some 7), none, .mv (.tmp 34)⟩])
  (.seq (.seq (.ops [⟨(some 35), none, .mv (.tmp 7)⟩,
    ⟨(some 36), none, .bin .neq 25 (.tmp 35) (.const (Go.Value.int Go.IntKind.i64 0))⟩])
  (.cond (.tmp 36)
    (.seq (.ops [⟨(some 37), none, .mv (.tmp 7)⟩,
      ⟨(some 4), none, .mv (.const (Go.Value.pointer none))⟩,
      ⟨(some 5), none, .mv (.tmp 37)⟩])
    (.ret))
    (.skip)))
  (.seq (.ops [⟨(some 38), none, .mv (.tmp 0)⟩,
    ⟨(some 39), none, .mv (.tmp 1)⟩,
    ⟨(some 40), none, .mv (.tmp 6)⟩,
    ⟨(some 41), none, .mv (.tmp 8)⟩,
    ⟨(some 42), none, .bld [(Go.Value.int Go.IntKind.i64 0), (Go.Value.int Go.IntKind.i64 0), (Go.Value.pointer none), (Go.Value.pointer none)] [(0, 1, (.tmp 38)), (1, 1, (.tmp 39)), (2, 1, (.tmp 40)), (3, 1, (.tmp 41))]⟩,
    ⟨(some 43), none, .box 121 (.tmp 42)⟩,
    ⟨(some 4), none, .mv (.tmp 43)⟩,
    ⟨(some 5), none, .mv (.const (Go.Value.int Go.IntKind.i64 0))⟩])
  (.ret)))))))
theorem is_index_New : FnIs Try.prog F.index_New X.index_New 44 [.tmp 4, .tmp 5] := ⟨by kernel_rfl⟩

/-- haycroft/mix.Bucket: function 75 -/
abbrev F.mix_Bucket : FuncId := 75
def X.mix_Bucket : X :=
  .seq (.ops [⟨(some 4), none, .mv (.const (Go.Value.int Go.IntKind.i64 0))⟩])
  (.seq (.seq (.ops [⟨(some 5), none, .mv (.tmp 1)⟩,
    ⟨(some 6), none, .call 59 [(.tmp 5)]⟩,
    ⟨(some 7), none, .un .not (.tmp 6)⟩])
  (.cond (.tmp 7)
    (.seq (.ops [⟨(some 4), none, .mv (.const (Go.Value.int Go.IntKind.i64 0))⟩])
    (.ret))
    (.skip)))
  (.seq (.ops [⟨(some 8), none, .mv (.tmp 0)⟩,
    ⟨(some 9), none, .mv (.tmp 1)⟩,
    ⟨(some 10), none, .bin .sub 3 (.tmp 9) (.const (Go.Value.int Go.IntKind.i64 1))⟩,
    ⟨(some 11), none, .conv Go.IntKind.u64 (.tmp 10)⟩,
    ⟨(some 12), none, .bin .and 32 (.tmp 8) (.tmp 11)⟩,
    ⟨(some 13), none, .conv Go.IntKind.i64 (.tmp 12)⟩,
    ⟨(some 4), none, .mv (.tmp 13)⟩])
  (.ret)))
theorem is_mix_Bucket : FnIs Try.prog F.mix_Bucket X.mix_Bucket 14 [.tmp 4] := ⟨by kernel_rfl⟩

/-- (*haycroft/index.Index).all: function 86 -/
abbrev F.index_Index_all : FuncId := 86
def X.index_Index_all : X :=
  .seq (.ops [⟨(some 2), none, .mv (.const (Go.Value.int Go.IntKind.i64 0))⟩])
  (.seq (.seq (.ops [⟨(some 3), none, .mv (.tmp 0)⟩,
    ⟨(some 4), none, .eq false .ptr (.tmp 3) (.const (Go.Value.pointer none))⟩])
  (.cond (.tmp 4)
    (.seq (.ops [⟨(some 2), none, .mv (.const (Go.Value.int Go.IntKind.i64 0))⟩])
    (.ret))
    (.skip)))
  (.seq (.drawn [(0, ⟨(some 5), none, .mv (.tmp 0)⟩),
    (1, ⟨(some 6), none, .nilc (.tmp 5)⟩),
    (2, ⟨(some 7), none, .fld (.tmp 6) 0⟩),
    (3, ⟨(some 8), none, .ld (.tmp 7) none⟩),
    (4, ⟨(some 9), none, .mv (.tmp 0)⟩),
    (5, ⟨(some 10), none, .nilc (.tmp 9)⟩),
    (6, ⟨(some 11), none, .fld (.tmp 10) 1⟩),
    (7, ⟨(some 12), none, .ld (.tmp 11) none⟩),
    (8, ⟨(some 13), none, .bin .add 3 (.tmp 8) (.tmp 12)⟩),
    (9, ⟨(some 2), none, .mv (.tmp 13)⟩)]
    [[], [0], [1], [2], [], [4], [5], [6], [3, 7], [8, 0, 1, 2, 3, 4, 5, 6, 7, 8]]
    [0, 1, 3, 7, 0, 16, 48, 112, 255, 511] 0)
  (.ret)))
theorem is_index_Index_all : FnIs Try.prog F.index_Index_all X.index_Index_all 14 [.tmp 2] := ⟨by kernel_rfl⟩

/-- (*haycroft/cell.Row).Len: function 66 -/
abbrev F.cell_Row_Len : FuncId := 66
def X.cell_Row_Len : X :=
  .seq (.ops [⟨(some 2), none, .mv (.const (Go.Value.int Go.IntKind.i64 0))⟩])
  (.seq (.seq (.ops [⟨(some 3), none, .mv (.tmp 0)⟩,
    ⟨(some 4), none, .eq false .ptr (.tmp 3) (.const (Go.Value.pointer none))⟩])
  (.cond (.tmp 4)
    (.seq (.ops [⟨(some 2), none, .mv (.const (Go.Value.int Go.IntKind.i64 0))⟩])
    (.ret))
    (.skip)))
  (.seq (.ops [⟨(some 5), none, .mv (.tmp 0)⟩,
    ⟨(some 6), none, .nilc (.tmp 5)⟩,
    ⟨(some 7), none, .fld (.tmp 6) 0⟩,
    ⟨(some 8), none, .ld (.tmp 7) none⟩,
    ⟨(some 9), none, .lenS (.tmp 8)⟩,
    ⟨(some 2), none, .mv (.tmp 9)⟩])
  (.ret)))
theorem is_cell_Row_Len : FnIs Try.prog F.cell_Row_Len X.cell_Row_Len 10 [.tmp 2] := ⟨by kernel_rfl⟩

/-- (*haycroft/cell.Row).there: function 118 -/
abbrev F.cell_Row_there : FuncId := 118
def X.cell_Row_there : X :=
  .seq (.ops [⟨(some 4), none, .mv (.const (Go.Value.bool false))⟩])
  (.seq (.ops [⟨(some 5), none, .mv (.tmp 1)⟩,
    ⟨(some 6), none, .bin .geq 3 (.tmp 5) (.const (Go.Value.int Go.IntKind.i64 0))⟩,
    ⟨(some 7), none, .mv (.tmp 6)⟩,
    ⟨(some 8), (some (7, true)), .mv (.tmp 1)⟩,
    ⟨(some 9), (some (7, true)), .mv (.tmp 0)⟩,
    ⟨(some 10), (some (7, true)), .call 66 [(.tmp 9)]⟩,
    ⟨(some 11), (some (7, true)), .bin .lss 3 (.tmp 8) (.tmp 10)⟩,
    ⟨(some 12), none, .pick (.tmp 7) (.tmp 11) (.const (Go.Value.bool false))⟩,
    ⟨(some 4), none, .mv (.tmp 12)⟩])
  (.ret))
theorem is_cell_Row_there : FnIs Try.prog F.cell_Row_there X.cell_Row_there 13 [.tmp 4] := ⟨by kernel_rfl⟩

/-- sync/atomic.LoadUint64: function 155, without a body -/
abbrev F.atomic_LoadUint64 : FuncId := 155
theorem ext_atomic_LoadUint64 : ExtIs Try.prog F.atomic_LoadUint64 Try.f155 (Extern.Atomic.loadT (.int .u64)) := ⟨Try.func155, by kernel_rfl, by kernel_rfl, by kernel_rfl, by kernel_rfl⟩

/-- (*sync/atomic.Uint64).Load: function 119 -/
abbrev F.atomic_Uint64_Load : FuncId := 119
def X.atomic_Uint64_Load : X :=
  .seq (.ops [⟨(some 2), none, .mv (.const (Go.Value.int Go.IntKind.u64 0))⟩])
  (.seq (.ops [⟨(some 3), none, .mv (.tmp 0)⟩,
    ⟨(some 4), none, .nilc (.tmp 3)⟩,
    ⟨(some 5), none, .fld (.tmp 4) 0⟩,
    ⟨(some 6), none, .ext1 155 [(.tmp 5)]⟩,
    ⟨(some 2), none, .mv (.tmp 6)⟩])
  (.ret))
theorem is_atomic_Uint64_Load : FnIs Try.prog F.atomic_Uint64_Load X.atomic_Uint64_Load 7 [.tmp 2] := ⟨by kernel_rfl⟩

/-- (*haycroft/cell.Row).Load: function 63 -/
abbrev F.cell_Row_Load : FuncId := 63
def X.cell_Row_Load : X :=
  .seq (.ops [⟨(some 4), none, .mv (.const (Go.Value.int Go.IntKind.u64 0))⟩])
  (.seq (.seq (.ops [⟨(some 5), none, .mv (.tmp 0)⟩,
    ⟨(some 6), none, .mv (.tmp 1)⟩,
    ⟨(some 7), none, .call 118 [(.tmp 5), (.tmp 6)]⟩,
    ⟨(some 8), none, .un .not (.tmp 7)⟩])
  (.cond (.tmp 8)
    (.seq (.ops [⟨(some 4), none, .mv (.const (Go.Value.int Go.IntKind.u64 0))⟩])
    (.ret))
    (.skip)))
  (.seq (.ops [⟨(some 9), none, .mv (.tmp 0)⟩,
    ⟨(some 10), none, .nilc (.tmp 9)⟩,
    ⟨(some 11), none, .fld (.tmp 10) 0⟩,
    ⟨(some 12), none, .ld (.tmp 11) none⟩,
    ⟨(some 13), none, .mv (.tmp 1)⟩,
    ⟨(some 14), none, .idx (.tmp 12) (.tmp 13) 1⟩,
    ⟨(some 15), none, .call 119 [(.tmp 14)]⟩,
    ⟨(some 4), none, .mv (.tmp 15)⟩])
  (.ret)))
theorem is_cell_Row_Load : FnIs Try.prog F.cell_Row_Load X.cell_Row_Load 16 [.tmp 4] := ⟨by kernel_rfl⟩

/-- (*haycroft/index.Index).link: function 91 -/
abbrev F.index_Index_link : FuncId := 91
def X.index_Index_link : X :=
  .seq (.ops [⟨(some 4), none, .mv (.const (Go.Value.int Go.IntKind.i64 0))⟩,
    ⟨(some 5), none, .mv (.const (Go.Value.bool false))⟩])
  (.seq (.ops [⟨(some 7), none, .mv (.tmp 0)⟩,
    ⟨(some 8), none, .nilc (.tmp 7)⟩,
    ⟨(some 9), none, .fld (.tmp 8) 2⟩,
    ⟨(some 10), none, .ld (.tmp 9) none⟩,
    ⟨(some 11), none, .mv (.tmp 1)⟩,
    ⟨(some 12), none, .bin .mul 3 (.tmp 11) (.const (Go.Value.int Go.IntKind.i64 8))⟩,
    ⟨(some 13), none, .bin .add 3 (.tmp 12) (.const (Go.Value.int Go.IntKind.i64 7))⟩,
    ⟨(some 14), none, .call 63 [(.tmp 10), (.tmp 13)]⟩,
    ⟨(some 6), none, .mv (.tmp 14)⟩])
  (.seq (.ops [⟨(some 15), none, .mv (.tmp 6)⟩,
    ⟨(some 16), none, .conv Go.IntKind.i64 (.tmp 15)⟩,
    ⟨(some 17), none, .bin .sub 3 (.tmp 16) (.const (Go.Value.int Go.IntKind.i64 1))⟩,
    ⟨(some 18), none, .mv (.tmp 6)⟩,
    ⟨(some 19), none, .bin .gtr 32 (.tmp 18) (.const (Go.Value.int Go.IntKind.u64 0))⟩,
    ⟨(some 4), none, .mv (.tmp 17)⟩,
    ⟨(some 5), none, .mv (.tmp 19)⟩])
  (.ret)))
theorem is_index_Index_link : FnIs Try.prog F.index_Index_link X.index_Index_link 20 [.tmp 4, .tmp 5] := ⟨by kernel_rfl⟩

-- loop (inner ones first): [0, 1, 5, 6]
/-- (*haycroft/index.Index).Chain: function 29 -/
abbrev F.index_Index_Chain : FuncId := 29
def X.index_Index_Chain : X :=
  .seq (.ops [⟨(some 4), none, .mv (.const (Go.Value.slice none 0 0))⟩])
  (.seq (.ops [⟨(some 5), none, .mv (.const (Go.Value.slice none 0 0))⟩])
  (.seq (.seq (.ops [⟨(some 7), none, .mv (.tmp 1)⟩,
    ⟨(some 8), none, .bin .geq 3 (.tmp 7) (.const (Go.Value.int Go.IntKind.i64 0))⟩,
    ⟨(some 9), none, .mv (.tmp 8)⟩,
    ⟨(some 10), (some (9, true)), .mv (.tmp 1)⟩,
    ⟨(some 11), (some (9, true)), .mv (.tmp 0)⟩,
    ⟨(some 12), (some (9, true)), .call 86 [(.tmp 11)]⟩,
    ⟨(some 13), (some (9, true)), .bin .lss 3 (.tmp 10) (.tmp 12)⟩,
    ⟨(some 14), none, .pick (.tmp 9) (.tmp 13) (.const (Go.Value.bool false))⟩,
    ⟨(some 6), none, .mv (.tmp 14)⟩])
  (.block 0 (.loop (.seq (.seq (.ops [⟨(some 15), none, .mv (.tmp 6)⟩,
        ⟨(some 16), none, .mv (.tmp 15)⟩,
        ⟨(some 17), (some (16, true)), .mv (.tmp 5)⟩,
        ⟨(some 18), (some (16, true)), .lenS (.tmp 17)⟩,
        ⟨(some 19), (some (16, true)), .mv (.tmp 0)⟩,
        ⟨(some 20), (some (16, true)), .call 86 [(.tmp 19)]⟩,
        ⟨(some 21), (some (16, true)), .bin .leq 3 (.tmp 18) (.tmp 20)⟩,
        ⟨(some 22), none, .pick (.tmp 16) (.tmp 21) (.const (Go.Value.bool false))⟩])
      (.cond (.tmp 22)
        (.skip)
        (.exit 0)))
      (.block 1 (.seq (.ops [⟨(some 23), none, .mv (.tmp 5)⟩,
          ⟨(some 24), none, .mv (.tmp 1)⟩,
          ⟨(some 25), none, .bsl 3 1 1 [(Go.Value.int Go.IntKind.i64 0)] [(0, (.tmp 24))]⟩,
          ⟨(some 26), none, .app 3 1 8 [(Go.Value.int Go.IntKind.i64 0)] (.tmp 23) (.tmp 25)⟩,
          ⟨(some 5), none, .mv (.tmp 26)⟩])
        (.ops [⟨(some 28), none, .mv (.tmp 0)⟩,
          ⟨(some 29), none, .mv (.tmp 1)⟩,
          ⟨(some 30), none, .call 91 [(.tmp 28), (.tmp 29)]⟩,
          ⟨(some 27), none, .mv (.tmp 30)⟩,
          ⟨(some 31), none, .ext (.tmp 27) 0⟩,
          ⟨(some 32), none, .ext (.tmp 27) 1⟩,
          ⟨(some 1), none, .mv (.tmp 31)⟩,
          ⟨(some 6), none, .mv (.tmp 32)⟩])))))))
  (.seq (.ops [⟨(some 33), none, .mv (.tmp 5)⟩,
    ⟨(some 4), none, .mv (.tmp 33)⟩])
  (.ret))))
theorem is_index_Index_Chain : FnIs Try.prog F.index_Index_Chain X.index_Index_Chain 34 [.tmp 4] := ⟨by kernel_rfl⟩

-- loop (inner ones first): [3, 5, 7, 8, 9, 13]
-- loop (inner ones first): [3, 7, 8, 9]
/-- haycroft/index.slots: function 62 -/
abbrev F.index_slots : FuncId := 62
def X.index_slots : X :=
  .seq (.ops [⟨(some 2), none, .mv (.const (Go.Value.slice none 0 0))⟩])
  (.seq (.ops [⟨(some 3), none, .mv (.const (Go.Value.slice none 0 0))⟩])
  (.seq (.seq (.ops [⟨(some 7), none, .mv (.tmp 0)⟩,
    ⟨(some 8), none, .lenS (.tmp 7)⟩,
    ⟨(some 9), none, .mv (.const (Go.Value.int Go.IntKind.i64 0))⟩])
  (.block 0 (.loop (.seq (.ops [⟨(some 10), none, .bin .lss 3 (.tmp 9) (.tmp 8)⟩])
      (.seq (.cond (.tmp 10)
        (.skip)
        (.exit 0))
      (.seq (.block 1 (.seq (.ops [⟨(some 11), none, .idx (.tmp 7) (.tmp 9) 1⟩,
          ⟨(some 12), none, .ld (.tmp 11) none⟩,
          ⟨(some 5), none, .mv (.tmp 12)⟩])
        (.seq (.ops [⟨(some 13), none, .mv (.const (Go.Value.int Go.IntKind.i64 0))⟩])
        (.block 2 (.loop (.seq (.ops [⟨(some 14), none, .bin .lss 3 (.tmp 13) (.const (Go.Value.int Go.IntKind.i64 7))⟩])
            (.seq (.cond (.tmp 14)
              (.skip)
              (.exit 2))
            (.seq (.block 3 (.seq (.ops [⟨(some 15), none, .mv (.tmp 13)⟩,
                ⟨(some 6), none, .mv (.tmp 15)⟩])
              (.ops [⟨(some 16), none, .mv (.tmp 3)⟩,
                ⟨(some 17), none, .mv (.tmp 5)⟩,
                ⟨(some 18), none, .bin .mul 3 (.tmp 17) (.const (Go.Value.int Go.IntKind.i64 8))⟩,
                ⟨(some 19), none, .mv (.tmp 6)⟩,
                ⟨(some 20), none, .bin .add 3 (.tmp 18) (.tmp 19)⟩,
                ⟨(some 21), none, .bsl 3 1 1 [(Go.Value.int Go.IntKind.i64 0)] [(0, (.tmp 20))]⟩,
                ⟨(some 22), none, .app 3 1 8 [(Go.Value.int Go.IntKind.i64 0)] (.tmp 16) (.tmp 21)⟩,
                ⟨(some 3), none, .mv (.tmp 22)⟩])))
            (.ops [⟨(some 23), none, .bin .add 3 (.tmp 13) (.const (Go.Value.int Go.IntKind.i64 1))⟩,
              ⟨(some 13), none, .mv (.tmp 23)⟩])))))))))
      (.ops [⟨(some 24), none, .bin .add 3 (.tmp 9) (.const (Go.Value.int Go.IntKind.i64 1))⟩,
        ⟨(some 9), none, .mv (.tmp 24)⟩])))))))
  (.seq (.ops [⟨(some 25), none, .mv (.tmp 3)⟩,
    ⟨(some 2), none, .mv (.tmp 25)⟩])
  (.ret))))
theorem is_index_slots : FnIs Try.prog F.index_slots X.index_slots 26 [.tmp 2] := ⟨by kernel_rfl⟩

/-- haycroft/field.Right: function 156 -/
abbrev F.field_Right : FuncId := 156
def X.field_Right : X :=
  .seq (.ops [⟨(some 4), none, .mv (.const (Go.Value.bool false))⟩])
  (.seq (.ops [⟨(some 5), none, .mv (.tmp 0)⟩,
    ⟨(some 6), none, .bin .geq 3 (.tmp 5) (.const (Go.Value.int Go.IntKind.i64 0))⟩,
    ⟨(some 7), none, .mv (.tmp 6)⟩,
    ⟨(some 8), (some (7, true)), .mv (.tmp 0)⟩,
    ⟨(some 9), (some (7, true)), .bin .lss 3 (.tmp 8) (.const (Go.Value.int Go.IntKind.i64 64))⟩,
    ⟨(some 10), none, .pick (.tmp 7) (.tmp 9) (.const (Go.Value.bool false))⟩,
    ⟨(some 11), none, .mv (.tmp 10)⟩,
    ⟨(some 12), (some (11, true)), .mv (.tmp 1)⟩,
    ⟨(some 13), (some (11, true)), .bin .geq 3 (.tmp 12) (.const (Go.Value.int Go.IntKind.i64 1))⟩,
    ⟨(some 14), none, .pick (.tmp 11) (.tmp 13) (.const (Go.Value.bool false))⟩,
    ⟨(some 15), none, .mv (.tmp 14)⟩,
    ⟨(some 16), (some (15, true)), .mv (.tmp 1)⟩,
    ⟨(some 17), (some (15, true)), .mv (.tmp 0)⟩,
    ⟨(some 18), (some (15, true)), .bin .sub 3 (.const (Go.Value.int Go.IntKind.i64 64)) (.tmp 17)⟩,
    ⟨(some 19), (some (15, true)), .bin .leq 3 (.tmp 16) (.tmp 18)⟩,
    ⟨(some 20), none, .pick (.tmp 15) (.tmp 19) (.const (Go.Value.bool false))⟩,
    ⟨(some 4), none, .mv (.tmp 20)⟩])
  (.ret))
theorem is_field_Right : FnIs Try.prog F.field_Right X.field_Right 21 [.tmp 4] := ⟨by kernel_rfl⟩

/-- haycroft/field.Most: function 157 -/
abbrev F.field_Most : FuncId := 157
def X.field_Most : X :=
  .seq (.ops [⟨(some 2), none, .mv (.const (Go.Value.int Go.IntKind.u64 0))⟩])
  (.seq (.block 0 (.seq (.ops [⟨(some 4), none, .mv (.tmp 0)⟩,
      ⟨(some 5), none, .bin .lss 3 (.tmp 4) (.const (Go.Value.int Go.IntKind.i64 1))⟩,
      ⟨(some 3), none, .mv (.tmp 5)⟩])
    (.cond (.tmp 3)
      (.seq (.ops [⟨(some 2), none, .mv (.const (Go.Value.int Go.IntKind.u64 0))⟩])
      (.ret))
      (.seq (.ops [⟨(some 7), none, .mv (.tmp 0)⟩,
        ⟨(some 8), none, .bin .geq 3 (.tmp 7) (.const (Go.Value.int Go.IntKind.i64 64))⟩,
        ⟨(some 6), none, .mv (.tmp 8)⟩])
      (.cond (.tmp 6)
        (.seq (.ops [⟨(some 2), none, .mv (.const (Go.Value.int Go.IntKind.u64 18446744073709551615))⟩])
        (.ret))
        (.skip))))))
  (.seq (.ops [⟨(some 9), none, .mv (.tmp 0)⟩,
    ⟨(some 10), none, .bin .shl 32 (.const (Go.Value.int Go.IntKind.u64 1)) (.tmp 9)⟩,
    ⟨(some 11), none, .bin .sub 32 (.tmp 10) (.const (Go.Value.int Go.IntKind.u64 1))⟩,
    ⟨(some 2), none, .mv (.tmp 11)⟩])
  (.ret)))
theorem is_field_Most : FnIs Try.prog F.field_Most X.field_Most 12 [.tmp 2] := ⟨by kernel_rfl⟩

/-- haycroft/field.Get: function 120 -/
abbrev F.field_Get : FuncId := 120
def X.field_Get : X :=
  .seq (.ops [⟨(some 6), none, .mv (.const (Go.Value.int Go.IntKind.u64 0))⟩])
  (.seq (.seq (.ops [⟨(some 7), none, .mv (.tmp 1)⟩,
    ⟨(some 8), none, .mv (.tmp 2)⟩,
    ⟨(some 9), none, .call 156 [(.tmp 7), (.tmp 8)]⟩,
    ⟨(some 10), none, .un .not (.tmp 9)⟩])
  (.cond (.tmp 10)
    (.seq (.ops [⟨(some 6), none, .mv (.const (Go.Value.int Go.IntKind.u64 0))⟩])
    (.ret))
    (.skip)))
  (.seq (.drawn [(0, ⟨(some 11), none, .mv (.tmp 0)⟩),
    (1, ⟨(some 12), none, .mv (.tmp 1)⟩),
    (2, ⟨(some 13), none, .bin .shr 32 (.tmp 11) (.tmp 12)⟩),
    (3, ⟨(some 14), none, .mv (.tmp 2)⟩),
    (4, ⟨(some 15), none, .call 157 [(.tmp 14)]⟩),
    (5, ⟨(some 16), none, .bin .and 32 (.tmp 13) (.tmp 15)⟩),
    (6, ⟨(some 6), none, .mv (.tmp 16)⟩)]
    [[], [], [0, 1], [], [3], [2, 4], [5, 4, 0, 1, 2, 3, 4, 5]]
    [0, 0, 3, 0, 8, 31, 63] 16)
  (.ret)))
theorem is_field_Get : FnIs Try.prog F.field_Get X.field_Get 17 [.tmp 6] := ⟨by kernel_rfl⟩

/-- haycroft/mix.Tag: function 79 -/
abbrev F.mix_Tag : FuncId := 79
def X.mix_Tag : X :=
  .seq (.ops [⟨(some 2), none, .mv (.const (Go.Value.int Go.IntKind.u64 0))⟩])
  (.seq (.ops [⟨(some 3), none, .mv (.tmp 0)⟩,
    ⟨(some 4), none, .call 120 [(.tmp 3), (.const (Go.Value.int Go.IntKind.i64 50)), (.const (Go.Value.int Go.IntKind.i64 14))]⟩,
    ⟨(some 2), none, .mv (.tmp 4)⟩])
  (.ret))
theorem is_mix_Tag : FnIs Try.prog F.mix_Tag X.mix_Tag 5 [.tmp 2] := ⟨by kernel_rfl⟩

/-- haycroft/field.Flag: function 121 -/
abbrev F.field_Flag : FuncId := 121
def X.field_Flag : X :=
  .seq (.ops [⟨(some 4), none, .mv (.const (Go.Value.bool false))⟩])
  (.seq (.ops [⟨(some 5), none, .mv (.tmp 0)⟩,
    ⟨(some 6), none, .mv (.tmp 1)⟩,
    ⟨(some 7), none, .call 120 [(.tmp 5), (.tmp 6), (.const (Go.Value.int Go.IntKind.i64 1))]⟩,
    ⟨(some 8), none, .bin .eql 32 (.tmp 7) (.const (Go.Value.int Go.IntKind.u64 1))⟩,
    ⟨(some 4), none, .mv (.tmp 8)⟩])
  (.ret))
theorem is_field_Flag : FnIs Try.prog F.field_Flag X.field_Flag 9 [.tmp 4] := ⟨by kernel_rfl⟩

/-- haycroft/entry.Right: function 122 -/
abbrev F.entry_Right : FuncId := 122
def X.entry_Right : X :=
  .seq (.ops [⟨(some 1), none, .box 40 (.tmp 0)⟩,
    ⟨(some 2), none, .mv (.const (Go.Value.bool false))⟩])
  (.seq (.drawn [(0, ⟨(some 3), none, .fld (.tmp 1) 0⟩),
    (1, ⟨(some 4), none, .ld (.tmp 3) none⟩),
    (2, ⟨(some 5), none, .bin .leq 32 (.tmp 4) (.const (Go.Value.int Go.IntKind.u64 281474976710655))⟩),
    (3, ⟨(some 6), none, .mv (.tmp 5)⟩),
    (4, ⟨(some 7), (some (6, true)), .fld (.tmp 1) 1⟩),
    (5, ⟨(some 8), (some (6, true)), .ld (.tmp 7) none⟩),
    (6, ⟨(some 9), (some (6, true)), .call 157 [(.const (Go.Value.int Go.IntKind.i64 14))]⟩),
    (7, ⟨(some 10), (some (6, true)), .bin .leq 32 (.tmp 8) (.tmp 9)⟩),
    (8, ⟨(some 11), none, .pick (.tmp 6) (.tmp 10) (.const (Go.Value.bool false))⟩),
    (9, ⟨(some 12), none, .mv (.tmp 11)⟩),
    (10, ⟨(some 13), (some (12, true)), .fld (.tmp 1) 2⟩),
    (11, ⟨(some 14), (some (12, true)), .ld (.tmp 13) none⟩),
    (12, ⟨(some 15), (some (12, true)), .fld (.tmp 1) 0⟩),
    (13, ⟨(some 16), (some (12, true)), .ld (.tmp 15) none⟩),
    (14, ⟨(some 17), (some (12, true)), .bin .eql 32 (.tmp 16) (.const (Go.Value.int Go.IntKind.u64 0))⟩),
    (15, ⟨(some 18), (some (12, true)), .eq false .bool (.tmp 14) (.tmp 17)⟩),
    (16, ⟨(some 19), none, .pick (.tmp 12) (.tmp 18) (.const (Go.Value.bool false))⟩),
    (17, ⟨(some 2), none, .mv (.tmp 19)⟩)]
    [[], [0], [1], [2], [3], [4, 3], [3, 3], [5, 6, 3], [3, 7], [8, 6], [9], [10, 9], [9], [12, 9], [13, 9], [11, 14, 9], [9, 15], [16, 9, 0, 1, 2, 3, 4, 5, 6, 7, 8, 9, 10, 11, 12, 13, 14, 15, 16]]
    [0, 1, 3, 7, 15, 31, 15, 127, 255, 511, 1023, 2047, 1023, 5119, 13311, 32767, 65535, 131071] 64)
  (.ret))
theorem is_entry_Right : FnIs Try.prog F.entry_Right X.entry_Right 20 [.tmp 2] := ⟨by kernel_rfl⟩

/-- haycroft/entry.Unpack: function 64 -/
abbrev F.entry_Unpack : FuncId := 64
def X.entry_Unpack : X :=
  .seq (.ops [⟨(some 2), none, .new 40 (Go.Value.agg #[(Go.Value.int Go.IntKind.u64 0), (Go.Value.int Go.IntKind.u64 0), (Go.Value.bool false)])⟩,
    ⟨(some 3), none, .mv (.const (Go.Value.int Go.IntKind.i64 0))⟩])
  (.seq (.ops [⟨(some 5), none, .mv (.tmp 0)⟩,
    ⟨(some 6), none, .call 120 [(.tmp 5), (.const (Go.Value.int Go.IntKind.i64 0)), (.const (Go.Value.int Go.IntKind.i64 48))]⟩,
    ⟨(some 7), none, .mv (.tmp 0)⟩,
    ⟨(some 8), none, .call 120 [(.tmp 7), (.const (Go.Value.int Go.IntKind.i64 48)), (.const (Go.Value.int Go.IntKind.i64 14))]⟩,
    ⟨(some 9), none, .mv (.tmp 0)⟩,
    ⟨(some 10), none, .call 121 [(.tmp 9), (.const (Go.Value.int Go.IntKind.i64 62))]⟩,
    ⟨(some 11), none, .bld [(Go.Value.int Go.IntKind.u64 0), (Go.Value.int Go.IntKind.u64 0), (Go.Value.bool false)] [(0, 1, (.tmp 6)), (1, 1, (.tmp 8)), (2, 1, (.tmp 10))]⟩,
    ⟨(some 4), none, .new 40 (Go.Value.agg #[(Go.Value.int Go.IntKind.u64 0), (Go.Value.int Go.IntKind.u64 0), (Go.Value.bool false)])⟩,
    ⟨none, none, .st (.tmp 4) (.tmp 11) 3⟩])
  (.seq (.block 0 (.seq (.ops [⟨(some 13), none, .mv (.tmp 0)⟩,
      ⟨(some 14), none, .bin .eql 32 (.tmp 13) (.const (Go.Value.int Go.IntKind.u64 0))⟩,
      ⟨(some 12), none, .mv (.tmp 14)⟩])
    (.cond (.tmp 12)
      (.seq (.ops [⟨(some 15), none, .bld [(Go.Value.int Go.IntKind.u64 0), (Go.Value.int Go.IntKind.u64 0), (Go.Value.bool false)] []⟩,
        ⟨none, none, .st (.tmp 2) (.tmp 15) 3⟩,
        ⟨(some 3), none, .mv (.const (Go.Value.int Go.IntKind.i64 7))⟩])
      (.ret))
      (.seq (.ops [⟨(some 17), none, .mv (.tmp 0)⟩,
        ⟨(some 18), none, .call 121 [(.tmp 17), (.const (Go.Value.int Go.IntKind.i64 63))]⟩,
        ⟨(some 19), none, .un .not (.tmp 18)⟩,
        ⟨(some 20), none, .mv (.tmp 19)⟩,
        ⟨(some 21), (some (20, false)), .ld (.tmp 4) (some 3)⟩,
        ⟨(some 22), (some (20, false)), .call 122 [(.tmp 21)]⟩,
        ⟨(some 23), (some (20, false)), .un .not (.tmp 22)⟩,
        ⟨(some 24), none, .pick (.tmp 20) (.const (Go.Value.bool true)) (.tmp 23)⟩,
        ⟨(some 16), none, .mv (.tmp 24)⟩])
      (.cond (.tmp 16)
        (.seq (.ops [⟨(some 25), none, .bld [(Go.Value.int Go.IntKind.u64 0), (Go.Value.int Go.IntKind.u64 0), (Go.Value.bool false)] []⟩,
          ⟨none, none, .st (.tmp 2) (.tmp 25) 3⟩,
          ⟨(some 3), none, .mv (.const (Go.Value.int Go.IntKind.i64 4))⟩])
        (.ret))
        (.skip))))))
  (.seq (.ops [⟨(some 26), none, .ld (.tmp 4) (some 3)⟩,
    ⟨none, none, .st (.tmp 2) (.tmp 26) 3⟩,
    ⟨(some 3), none, .mv (.const (Go.Value.int Go.IntKind.i64 0))⟩])
  (.ret))))
theorem is_entry_Unpack : FnIs Try.prog F.entry_Unpack X.entry_Unpack 27 [.cell 2 40, .tmp 3] := ⟨by kernel_rfl⟩

/-- haycroft/entry.Has: function 78 -/
abbrev F.entry_Has : FuncId := 78
def X.entry_Has : X :=
  .seq (.ops [⟨(some 4), none, .mv (.const (Go.Value.bool false))⟩])
  (.seq (.ops [⟨(some 8), none, .mv (.tmp 0)⟩,
    ⟨(some 9), none, .call 64 [(.tmp 8)]⟩,
    ⟨(some 7), none, .mv (.tmp 9)⟩,
    ⟨(some 10), none, .ext (.tmp 7) 0⟩,
    ⟨(some 11), none, .ext (.tmp 7) 1⟩,
    ⟨(some 5), none, .new 40 (Go.Value.agg #[(Go.Value.int Go.IntKind.u64 0), (Go.Value.int Go.IntKind.u64 0), (Go.Value.bool false)])⟩,
    ⟨none, none, .st (.tmp 5) (.tmp 10) 3⟩,
    ⟨(some 6), none, .mv (.tmp 11)⟩])
  (.seq (.ops [⟨(some 12), none, .mv (.tmp 6)⟩,
    ⟨(some 13), none, .bin .eql 25 (.tmp 12) (.const (Go.Value.int Go.IntKind.i64 0))⟩,
    ⟨(some 14), none, .mv (.tmp 13)⟩,
    ⟨(some 15), (some (14, true)), .fld (.tmp 5) 1⟩,
    ⟨(some 16), (some (14, true)), .ld (.tmp 15) none⟩,
    ⟨(some 17), (some (14, true)), .mv (.tmp 1)⟩,
    ⟨(some 18), (some (14, true)), .bin .eql 32 (.tmp 16) (.tmp 17)⟩,
    ⟨(some 19), none, .pick (.tmp 14) (.tmp 18) (.const (Go.Value.bool false))⟩,
    ⟨(some 4), none, .mv (.tmp 19)⟩])
  (.ret)))
theorem is_entry_Has : FnIs Try.prog F.entry_Has X.entry_Has 20 [.tmp 4] := ⟨by kernel_rfl⟩

/-- (*haycroft/index.Index).Look$1: function 77 -/
abbrev F.index_Index_Look_1 : FuncId := 77
def X.index_Index_Look_1 : X :=
  .seq (.ops [⟨(some 4), none, .mv (.const (Go.Value.bool false))⟩])
  (.seq (.drawn [(0, ⟨(some 5), none, .ld (.tmp 1) none⟩),
    (1, ⟨(some 6), none, .nilc (.tmp 5)⟩),
    (2, ⟨(some 7), none, .fld (.tmp 6) 2⟩),
    (3, ⟨(some 8), none, .ld (.tmp 7) none⟩),
    (4, ⟨(some 9), none, .mv (.tmp 0)⟩),
    (6, ⟨(some 11), none, .ld (.tmp 2) none⟩),
    (5, ⟨(some 10), none, .call 63 [(.tmp 8), (.tmp 9)]⟩),
    (7, ⟨(some 12), none, .call 79 [(.tmp 11)]⟩),
    (8, ⟨(some 13), none, .call 78 [(.tmp 10), (.tmp 12)]⟩),
    (9, ⟨(some 4), none, .mv (.tmp 13)⟩)]
    [[], [0], [1], [2], [], [3, 4], [], [6, 5], [5, 7, 7], [8, 8, 0, 1, 2, 3, 4, 5, 6, 7, 8]]
    [0, 1, 3, 7, 0, 31, 0, 127, 255, 511] 416)
  (.ret))
theorem is_index_Index_Look_1 : FnIs Try.prog F.index_Index_Look_1 X.index_Index_Look_1 14 [.tmp 4] := ⟨by kernel_rfl⟩

-- loop (inner ones first): [0, 1, 7, 8]
/-- slices.IndexFunc[[]int,int]: function 76 -/
abbrev F.slices_IndexFunc_int_int : FuncId := 76
def X.slices_IndexFunc_int_int : X :=
  .seq (.ops [⟨(some 4), none, .mv (.const (Go.Value.int Go.IntKind.i64 0))⟩])
  (.seq (.seq (.ops [⟨(some 6), none, .mv (.tmp 0)⟩,
    ⟨(some 7), none, .lenS (.tmp 6)⟩,
    ⟨(some 8), none, .mv (.const (Go.Value.int Go.IntKind.i64 0))⟩])
  (.block 0 (.loop (.seq (.ops [⟨(some 9), none, .bin .lss 3 (.tmp 8) (.tmp 7)⟩])
      (.seq (.cond (.tmp 9)
        (.skip)
        (.exit 0))
      (.seq (.block 1 (.seq (.ops [⟨(some 10), none, .mv (.tmp 8)⟩,
          ⟨(some 5), none, .mv (.tmp 10)⟩])
        (.seq (.ops [⟨(some 11), none, .mv (.tmp 1)⟩,
          ⟨(some 12), none, .mv (.tmp 0)⟩,
          ⟨(some 13), none, .mv (.tmp 5)⟩,
          ⟨(some 14), none, .idx (.tmp 12) (.tmp 13) 1⟩,
          ⟨(some 15), none, .ld (.tmp 14) none⟩,
          ⟨(some 16), none, .more (.cv (.tmp 11) [(.tmp 15)])⟩])
        (.cond (.tmp 16)
          (.seq (.ops [⟨(some 17), none, .mv (.tmp 5)⟩,
            ⟨(some 4), none, .mv (.tmp 17)⟩])
          (.ret))
          (.skip)))))
      (.ops [⟨(some 18), none, .bin .add 3 (.tmp 8) (.const (Go.Value.int Go.IntKind.i64 1))⟩,
        ⟨(some 8), none, .mv (.tmp 18)⟩])))))))
  (.seq (.ops [⟨(some 4), none, .mv (.const (Go.Value.int Go.IntKind.i64 (-1)))⟩])
  (.ret)))
theorem is_slices_IndexFunc_int_int : FnIs Try.prog F.slices_IndexFunc_int_int X.slices_IndexFunc_int_int 19 [.tmp 4] := ⟨by kernel_rfl⟩

/-- (*haycroft/index.Index).Look$2: function 80 -/
abbrev F.index_Index_Look_2 : FuncId := 80
def X.index_Index_Look_2 : X :=
  .seq (.ops [⟨(some 3), none, .mv (.const (Go.Value.bool false))⟩])
  (.seq (.ops [⟨(some 4), none, .ld (.tmp 1) none⟩,
    ⟨(some 5), none, .nilc (.tmp 4)⟩,
    ⟨(some 6), none, .fld (.tmp 5) 2⟩,
    ⟨(some 7), none, .ld (.tmp 6) none⟩,
    ⟨(some 8), none, .mv (.tmp 0)⟩,
    ⟨(some 9), none, .call 63 [(.tmp 7), (.tmp 8)]⟩,
    ⟨(some 10), none, .bin .eql 32 (.tmp 9) (.const (Go.Value.int Go.IntKind.u64 0))⟩,
    ⟨(some 3), none, .mv (.tmp 10)⟩])
  (.ret))
theorem is_index_Index_Look_2 : FnIs Try.prog F.index_Index_Look_2 X.index_Index_Look_2 11 [.tmp 3] := ⟨by kernel_rfl⟩

/-- (*haycroft/index.Index).Look: function 22 -/
abbrev F.index_Index_Look : FuncId := 22
def X.index_Index_Look : X :=
  .seq (.ops [⟨(some 2), none, .box 24 (.tmp 0)⟩,
    ⟨(some 3), none, .box 32 (.tmp 1)⟩,
    ⟨(some 4), none, .new 46 (Go.Value.agg #[(Go.Value.int Go.IntKind.i64 0), (Go.Value.int Go.IntKind.i64 0), (Go.Value.int Go.IntKind.u64 0), (Go.Value.int Go.IntKind.i64 0)])⟩,
    ⟨(some 5), none, .mv (.const (Go.Value.int Go.IntKind.i64 0))⟩])
  (.seq (.seq (.ops [⟨(some 10), none, .ld (.tmp 2) none⟩,
    ⟨(some 11), none, .eq false .ptr (.tmp 10) (.const (Go.Value.pointer none))⟩])
  (.cond (.tmp 11)
    (.seq (.ops [⟨(some 12), none, .bld [(Go.Value.int Go.IntKind.i64 0), (Go.Value.int Go.IntKind.i64 0), (Go.Value.int Go.IntKind.u64 0), (Go.Value.int Go.IntKind.i64 0)] []⟩,
      ⟨none, none, .st (.tmp 4) (.tmp 12) 4⟩,
      ⟨(some 5), none, .mv (.const (Go.Value.int Go.IntKind.i64 2))⟩])
    (.ret))
    (.skip)))
  (.seq (.drawn [(0, ⟨(some 13), none, .ld (.tmp 2) none⟩),
    (1, ⟨(some 14), none, .ld (.tmp 3) none⟩),
    (2, ⟨(some 15), none, .ld (.tmp 2) none⟩),
    (3, ⟨(some 16), none, .nilc (.tmp 15)⟩),
    (4, ⟨(some 17), none, .fld (.tmp 16) 0⟩),
    (5, ⟨(some 18), none, .ld (.tmp 17) none⟩),
    (6, ⟨(some 19), none, .call 75 [(.tmp 14), (.tmp 18)]⟩),
    (7, ⟨(some 20), none, .call 29 [(.tmp 13), (.tmp 19)]⟩),
    (8, ⟨(some 6), none, .mv (.tmp 20)⟩)]
    [[], [], [], [2], [3], [4], [1, 5], [0, 6, 6], [7, 7, 0, 1, 2, 3, 4, 5, 6, 7]]
    [0, 0, 0, 4, 12, 28, 62, 127, 255] 192)
  (.seq (.ops [⟨(some 21), none, .mv (.tmp 6)⟩,
    ⟨(some 22), none, .mv (.tmp 6)⟩,
    ⟨(some 23), none, .lenS (.tmp 22)⟩,
    ⟨(some 24), none, .bin .sub 3 (.tmp 23) (.const (Go.Value.int Go.IntKind.i64 1))⟩,
    ⟨(some 25), none, .idx (.tmp 21) (.tmp 24) 1⟩,
    ⟨(some 26), none, .ld (.tmp 25) none⟩,
    ⟨(some 7), none, .mv (.tmp 26)⟩])
  (.seq (.ops [⟨(some 27), none, .mv (.tmp 6)⟩,
    ⟨(some 28), none, .call 62 [(.tmp 27)]⟩,
    ⟨(some 8), none, .mv (.tmp 28)⟩])
  (.seq (.ops [⟨(some 29), none, .mv (.tmp 8)⟩,
    ⟨(some 30), none, .more (.mkf 77 [] [(.tmp 2), (.tmp 3)])⟩,
    ⟨(some 31), none, .call 76 [(.tmp 29), (.tmp 30)]⟩,
    ⟨(some 9), none, .mv (.tmp 31)⟩])
  (.seq (.seq (.ops [⟨(some 32), none, .mv (.tmp 9)⟩,
    ⟨(some 33), none, .bin .geq 3 (.tmp 32) (.const (Go.Value.int Go.IntKind.i64 0))⟩])
  (.cond (.tmp 33)
    (.seq (.drawn [(0, ⟨(some 34), none, .mv (.tmp 8)⟩),
      (1, ⟨(some 35), none, .mv (.tmp 9)⟩),
      (2, ⟨(some 36), none, .idx (.tmp 34) (.tmp 35) 1⟩),
      (3, ⟨(some 37), none, .ld (.tmp 36) none⟩),
      (4, ⟨(some 38), none, .ld (.tmp 2) none⟩),
      (5, ⟨(some 39), none, .nilc (.tmp 38)⟩),
      (6, ⟨(some 40), none, .fld (.tmp 39) 2⟩),
      (7, ⟨(some 41), none, .ld (.tmp 40) none⟩),
      (8, ⟨(some 42), none, .mv (.tmp 8)⟩),
      (9, ⟨(some 43), none, .mv (.tmp 9)⟩),
      (10, ⟨(some 44), none, .idx (.tmp 42) (.tmp 43) 1⟩),
      (11, ⟨(some 45), none, .ld (.tmp 44) none⟩),
      (13, ⟨(some 47), none, .mv (.tmp 7)⟩),
      (12, ⟨(some 46), none, .call 63 [(.tmp 41), (.tmp 45)]⟩),
      (14, ⟨(some 48), none, .bld [(Go.Value.int Go.IntKind.i64 0), (Go.Value.int Go.IntKind.i64 0), (Go.Value.int Go.IntKind.u64 0), (Go.Value.int Go.IntKind.i64 0)] [(0, 1, (.const (Go.Value.int Go.IntKind.i64 1))), (1, 1, (.tmp 37)), (2, 1, (.tmp 46)), (3, 1, (.tmp 47))]⟩),
      (15, ⟨none, none, .st (.tmp 4) (.tmp 48) 4⟩),
      (16, ⟨(some 5), none, .mv (.const (Go.Value.int Go.IntKind.i64 0))⟩)]
      [[], [], [0, 1], [2], [], [4], [5], [6], [], [], [8, 9], [10], [7, 11], [], [3, 12, 13], [14, 12, 0, 1, 2, 3, 4, 5, 6, 7, 8, 9, 10, 11, 12, 13, 14], [15, 0, 1, 2, 3, 4, 5, 6, 7, 8, 9, 10, 11, 12, 13, 14, 15]]
      [0, 0, 3, 7, 0, 16, 48, 112, 0, 0, 768, 1792, 4080, 0, 16383, 32767, 65535] 36864)
    (.ret))
    (.skip)))
  (.seq (.ops [⟨(some 49), none, .mv (.tmp 8)⟩,
    ⟨(some 50), none, .more (.mkf 80 [] [(.tmp 2)])⟩,
    ⟨(some 51), none, .call 76 [(.tmp 49), (.tmp 50)]⟩,
    ⟨(some 9), none, .mv (.tmp 51)⟩])
  (.seq (.seq (.ops [⟨(some 52), none, .mv (.tmp 9)⟩,
    ⟨(some 53), none, .bin .geq 3 (.tmp 52) (.const (Go.Value.int Go.IntKind.i64 0))⟩])
  (.cond (.tmp 53)
    (.seq (.ops [⟨(some 54), none, .mv (.tmp 8)⟩,
      ⟨(some 55), none, .mv (.tmp 9)⟩,
      ⟨(some 56), none, .idx (.tmp 54) (.tmp 55) 1⟩,
      ⟨(some 57), none, .ld (.tmp 56) none⟩,
      ⟨(some 58), none, .mv (.tmp 7)⟩,
      ⟨(some 59), none, .bld [(Go.Value.int Go.IntKind.i64 0), (Go.Value.int Go.IntKind.i64 0), (Go.Value.int Go.IntKind.u64 0), (Go.Value.int Go.IntKind.i64 0)] [(0, 1, (.const (Go.Value.int Go.IntKind.i64 2))), (1, 1, (.tmp 57)), (3, 1, (.tmp 58))]⟩,
      ⟨none, none, .st (.tmp 4) (.tmp 59) 4⟩,
      ⟨(some 5), none, .mv (.const (Go.Value.int Go.IntKind.i64 0))⟩])
    (.ret))
    (.skip)))
  (.seq (.ops [⟨(some 60), none, .mv (.tmp 7)⟩,
    ⟨(some 61), none, .bld [(Go.Value.int Go.IntKind.i64 0), (Go.Value.int Go.IntKind.i64 0), (Go.Value.int Go.IntKind.u64 0), (Go.Value.int Go.IntKind.i64 0)] [(0, 1, (.const (Go.Value.int Go.IntKind.i64 3))), (3, 1, (.tmp 60))]⟩,
    ⟨none, none, .st (.tmp 4) (.tmp 61) 4⟩,
    ⟨(some 5), none, .mv (.const (Go.Value.int Go.IntKind.i64 0))⟩])
  (.ret))))))))))
theorem is_index_Index_Look : FnIs Try.prog F.index_Index_Look X.index_Index_Look 62 [.cell 4 46, .tmp 5] := ⟨by kernel_rfl⟩
theorem bd_index_Index_Look_1 : bodyOk Try.prog F.index_Index_Look_1 = true := by kernel_rfl
theorem bd_index_Index_Look_2 : bodyOk Try.prog F.index_Index_Look_2 = true := by kernel_rfl

/-- (*haycroft/index.Index).slot: function 90 -/
abbrev F.index_Index_slot : FuncId := 90
def X.index_Index_slot : X :=
  .seq (.ops [⟨(some 4), none, .mv (.const (Go.Value.bool false))⟩])
  (.seq (.ops [⟨(some 5), none, .mv (.tmp 0)⟩,
    ⟨(some 6), none, .eq true .ptr (.tmp 5) (.const (Go.Value.pointer none))⟩,
    ⟨(some 7), none, .mv (.tmp 6)⟩,
    ⟨(some 8), (some (7, true)), .mv (.tmp 1)⟩,
    ⟨(some 9), (some (7, true)), .bin .geq 3 (.tmp 8) (.const (Go.Value.int Go.IntKind.i64 0))⟩,
    ⟨(some 10), none, .pick (.tmp 7) (.tmp 9) (.const (Go.Value.bool false))⟩,
    ⟨(some 11), none, .mv (.tmp 10)⟩,
    ⟨(some 12), (some (11, true)), .mv (.tmp 1)⟩,
    ⟨(some 13), (some (11, true)), .mv (.tmp 0)⟩,
    ⟨(some 14), (some (11, true)), .nilc (.tmp 13)⟩,
    ⟨(some 15), (some (11, true)), .fld (.tmp 14) 2⟩,
    ⟨(some 16), (some (11, true)), .ld (.tmp 15) none⟩,
    ⟨(some 17), (some (11, true)), .call 66 [(.tmp 16)]⟩,
    ⟨(some 18), (some (11, true)), .bin .lss 3 (.tmp 12) (.tmp 17)⟩,
    ⟨(some 19), none, .pick (.tmp 11) (.tmp 18) (.const (Go.Value.bool false))⟩,
    ⟨(some 20), none, .mv (.tmp 19)⟩,
    ⟨(some 21), (some (20, true)), .mv (.tmp 1)⟩,
    ⟨(some 22), (some (20, true)), .bin .rem 3 (.tmp 21) (.const (Go.Value.int Go.IntKind.i64 8))⟩,
    ⟨(some 23), (some (20, true)), .bin .neq 3 (.tmp 22) (.const (Go.Value.int Go.IntKind.i64 7))⟩,
    ⟨(some 24), none, .pick (.tmp 20) (.tmp 23) (.const (Go.Value.bool false))⟩,
    ⟨(some 4), none, .mv (.tmp 24)⟩])
  (.ret))
theorem is_index_Index_slot : FnIs Try.prog F.index_Index_slot X.index_Index_slot 25 [.tmp 4] := ⟨by kernel_rfl⟩

/-- (*haycroft/index.Index).may: function 81 -/
abbrev F.index_Index_may : FuncId := 81
def X.index_Index_may : X :=
  .seq (.ops [⟨(some 4), none, .mv (.const (Go.Value.int Go.IntKind.i64 0))⟩])
  (.seq (.block 0 (.seq (.ops [⟨(some 6), none, .mv (.tmp 0)⟩,
      ⟨(some 7), none, .eq false .ptr (.tmp 6) (.const (Go.Value.pointer none))⟩,
      ⟨(some 5), none, .mv (.tmp 7)⟩])
    (.cond (.tmp 5)
      (.seq (.ops [⟨(some 4), none, .mv (.const (Go.Value.int Go.IntKind.i64 2))⟩])
      (.ret))
      (.seq (.ops [⟨(some 9), none, .mv (.tmp 0)⟩,
        ⟨(some 10), none, .mv (.tmp 1)⟩,
        ⟨(some 11), none, .call 90 [(.tmp 9), (.tmp 10)]⟩,
        ⟨(some 12), none, .un .not (.tmp 11)⟩,
        ⟨(some 8), none, .mv (.tmp 12)⟩])
      (.cond (.tmp 8)
        (.seq (.ops [⟨(some 4), none, .mv (.const (Go.Value.int Go.IntKind.i64 1))⟩])
        (.ret))
        (.skip))))))
  (.seq (.ops [⟨(some 4), none, .mv (.const (Go.Value.int Go.IntKind.i64 0))⟩])
  (.ret)))
theorem is_index_Index_may : FnIs Try.prog F.index_Index_may X.index_Index_may 13 [.tmp 4] := ⟨by kernel_rfl⟩

-- loop (inner ones first): [3, 6, 7, 8]
/-- haycroft/field.fit: function 174 -/
abbrev F.field_fit : FuncId := 174
def X.field_fit : X :=
  .seq (.ops [⟨(some 2), none, .mv (.const (Go.Value.bool false))⟩])
  (.seq (.ops [⟨(some 3), none, .mv (.const (Go.Value.int Go.IntKind.i64 64))⟩])
  (.seq (.seq (.ops [⟨(some 6), none, .mv (.tmp 0)⟩,
    ⟨(some 7), none, .lenS (.tmp 6)⟩,
    ⟨(some 8), none, .mv (.const (Go.Value.int Go.IntKind.i64 0))⟩])
  (.block 0 (.loop (.seq (.ops [⟨(some 9), none, .bin .lss 3 (.tmp 8) (.tmp 7)⟩])
      (.seq (.cond (.tmp 9)
        (.skip)
        (.exit 0))
      (.seq (.block 1 (.seq (.ops [⟨(some 10), none, .idx (.tmp 6) (.tmp 8) 1⟩,
          ⟨(some 11), none, .ld (.tmp 10) none⟩,
          ⟨(some 5), none, .mv (.tmp 11)⟩])
        (.seq (.seq (.ops [⟨(some 12), none, .mv (.tmp 5)⟩,
          ⟨(some 13), none, .bin .lss 3 (.tmp 12) (.const (Go.Value.int Go.IntKind.i64 1))⟩,
          ⟨(some 14), none, .mv (.tmp 13)⟩,
          ⟨(some 15), (some (14, false)), .mv (.tmp 5)⟩,
          ⟨(some 16), (some (14, false)), .mv (.tmp 3)⟩,
          ⟨(some 17), (some (14, false)), .bin .gtr 3 (.tmp 15) (.tmp 16)⟩,
          ⟨(some 18), none, .pick (.tmp 14) (.const (Go.Value.bool true)) (.tmp 17)⟩])
        (.cond (.tmp 18)
          (.seq (.ops [⟨(some 2), none, .mv (.const (Go.Value.bool false))⟩])
          (.ret))
          (.skip)))
        (.ops [⟨(some 19), none, .mv (.tmp 3)⟩,
          ⟨(some 20), none, .mv (.tmp 5)⟩,
          ⟨(some 21), none, .bin .sub 3 (.tmp 19) (.tmp 20)⟩,
          ⟨(some 3), none, .mv (.tmp 21)⟩]))))
      (.ops [⟨(some 22), none, .bin .add 3 (.tmp 8) (.const (Go.Value.int Go.IntKind.i64 1))⟩,
        ⟨(some 8), none, .mv (.tmp 22)⟩])))))))
  (.seq (.ops [⟨(some 2), none, .mv (.const (Go.Value.bool true))⟩])
  (.ret))))
theorem is_field_fit : FnIs Try.prog F.field_fit X.field_fit 23 [.tmp 2] := ⟨by kernel_rfl⟩

/-- haycroft/field.Put: function 165 -/
abbrev F.field_Put : FuncId := 165
def X.field_Put : X :=
  .seq (.ops [⟨(some 8), none, .mv (.const (Go.Value.int Go.IntKind.u64 0))⟩,
    ⟨(some 9), none, .mv (.const (Go.Value.int Go.IntKind.i64 0))⟩])
  (.seq (.block 0 (.seq (.ops [⟨(some 11), none, .mv (.tmp 1)⟩,
      ⟨(some 12), none, .mv (.tmp 2)⟩,
      ⟨(some 13), none, .call 156 [(.tmp 11), (.tmp 12)]⟩,
      ⟨(some 14), none, .un .not (.tmp 13)⟩,
      ⟨(some 10), none, .mv (.tmp 14)⟩])
    (.cond (.tmp 10)
      (.seq (.ops [⟨(some 8), none, .mv (.const (Go.Value.int Go.IntKind.u64 0))⟩,
        ⟨(some 9), none, .mv (.const (Go.Value.int Go.IntKind.i64 1))⟩])
      (.ret))
      (.seq (.ops [⟨(some 16), none, .mv (.tmp 3)⟩,
        ⟨(some 17), none, .mv (.tmp 2)⟩,
        ⟨(some 18), none, .call 157 [(.tmp 17)]⟩,
        ⟨(some 19), none, .bin .gtr 32 (.tmp 16) (.tmp 18)⟩,
        ⟨(some 15), none, .mv (.tmp 19)⟩])
      (.cond (.tmp 15)
        (.seq (.ops [⟨(some 8), none, .mv (.const (Go.Value.int Go.IntKind.u64 0))⟩,
          ⟨(some 9), none, .mv (.const (Go.Value.int Go.IntKind.i64 13))⟩])
        (.ret))
        (.skip))))))
  (.seq (.drawn [(0, ⟨(some 20), none, .mv (.tmp 0)⟩),
    (1, ⟨(some 21), none, .mv (.tmp 2)⟩),
    (3, ⟨(some 23), none, .mv (.tmp 1)⟩),
    (6, ⟨(some 26), none, .mv (.tmp 3)⟩),
    (7, ⟨(some 27), none, .mv (.tmp 1)⟩),
    (8, ⟨(some 28), none, .bin .shl 32 (.tmp 26) (.tmp 27)⟩),
    (2, ⟨(some 22), none, .call 157 [(.tmp 21)]⟩),
    (4, ⟨(some 24), none, .bin .shl 32 (.tmp 22) (.tmp 23)⟩),
    (5, ⟨(some 25), none, .bin .andNot 32 (.tmp 20) (.tmp 24)⟩),
    (9, ⟨(some 29), none, .bin .or 32 (.tmp 25) (.tmp 28)⟩),
    (10, ⟨(some 8), none, .mv (.tmp 29)⟩),
    (11, ⟨(some 9), none, .mv (.const (Go.Value.int Go.IntKind.i64 0))⟩)]
    [[], [], [1], [], [2, 3], [0, 4], [], [], [6, 7], [5, 8], [9, 2, 0, 1, 2, 3, 4, 5, 6, 7, 8, 9], [10, 0, 1, 2, 3, 4, 5, 6, 7, 8, 9, 10]]
    [0, 0, 2, 0, 14, 31, 0, 0, 192, 511, 1023, 2047] 4)
  (.ret)))
theorem is_field_Put : FnIs Try.prog F.field_Put X.field_Put 30 [.tmp 8, .tmp 9] := ⟨by kernel_rfl⟩

-- loop (inner ones first): [0, 6, 7, 22, 23, 24]
/-- haycroft/field.Join: function 159 -/
abbrev F.field_Join : FuncId := 159
def X.field_Join : X :=
  .seq (.ops [⟨(some 4), none, .mv (.const (Go.Value.int Go.IntKind.u64 0))⟩,
    ⟨(some 5), none, .mv (.const (Go.Value.int Go.IntKind.i64 0))⟩])
  (.seq (.seq (.ops [⟨(some 12), none, .mv (.tmp 0)⟩,
    ⟨(some 13), none, .lenS (.tmp 12)⟩,
    ⟨(some 14), none, .mv (.tmp 1)⟩,
    ⟨(some 15), none, .lenS (.tmp 14)⟩,
    ⟨(some 16), none, .bin .neq 3 (.tmp 13) (.tmp 15)⟩,
    ⟨(some 17), none, .mv (.tmp 16)⟩,
    ⟨(some 18), (some (17, false)), .mv (.tmp 1)⟩,
    ⟨(some 19), (some (17, false)), .call 174 [(.tmp 18)]⟩,
    ⟨(some 20), (some (17, false)), .un .not (.tmp 19)⟩,
    ⟨(some 21), none, .pick (.tmp 17) (.const (Go.Value.bool true)) (.tmp 20)⟩])
  (.cond (.tmp 21)
    (.seq (.ops [⟨(some 4), none, .mv (.const (Go.Value.int Go.IntKind.u64 0))⟩,
      ⟨(some 5), none, .mv (.const (Go.Value.int Go.IntKind.i64 1))⟩])
    (.ret))
    (.skip)))
  (.seq (.ops [⟨(some 6), none, .mv (.const (Go.Value.int Go.IntKind.u64 0))⟩])
  (.seq (.ops [⟨(some 7), none, .mv (.const (Go.Value.int Go.IntKind.i64 0))⟩])
  (.seq (.seq (.ops [⟨(some 22), none, .mv (.tmp 1)⟩,
    ⟨(some 23), none, .lenS (.tmp 22)⟩,
    ⟨(some 24), none, .mv (.const (Go.Value.int Go.IntKind.i64 0))⟩])
  (.block 0 (.loop (.seq (.ops [⟨(some 25), none, .bin .lss 3 (.tmp 24) (.tmp 23)⟩])
      (.seq (.cond (.tmp 25)
        (.skip)
        (.exit 0))
      (.seq (.block 1 (.seq (.ops [⟨(some 26), none, .mv (.tmp 24)⟩,
          ⟨(some 27), none, .idx (.tmp 22) (.tmp 24) 1⟩,
          ⟨(some 28), none, .ld (.tmp 27) none⟩,
          ⟨(some 8), none, .mv (.tmp 26)⟩,
          ⟨(some 9), none, .mv (.tmp 28)⟩])
        (.seq (.ops [⟨(some 30), none, .mv (.tmp 6)⟩,
          ⟨(some 31), none, .mv (.tmp 7)⟩,
          ⟨(some 32), none, .mv (.tmp 9)⟩,
          ⟨(some 33), none, .mv (.tmp 0)⟩,
          ⟨(some 34), none, .mv (.tmp 8)⟩,
          ⟨(some 35), none, .idx (.tmp 33) (.tmp 34) 1⟩,
          ⟨(some 36), none, .ld (.tmp 35) none⟩,
          ⟨(some 37), none, .call 165 [(.tmp 30), (.tmp 31), (.tmp 32), (.tmp 36)]⟩,
          ⟨(some 29), none, .mv (.tmp 37)⟩,
          ⟨(some 38), none, .ext (.tmp 29) 0⟩,
          ⟨(some 39), none, .ext (.tmp 29) 1⟩,
          ⟨(some 10), none, .mv (.tmp 38)⟩,
          ⟨(some 11), none, .mv (.tmp 39)⟩])
        (.seq (.seq (.ops [⟨(some 40), none, .mv (.tmp 11)⟩,
          ⟨(some 41), none, .bin .neq 25 (.tmp 40) (.const (Go.Value.int Go.IntKind.i64 0))⟩])
        (.cond (.tmp 41)
          (.seq (.ops [⟨(some 42), none, .mv (.tmp 11)⟩,
            ⟨(some 4), none, .mv (.const (Go.Value.int Go.IntKind.u64 0))⟩,
            ⟨(some 5), none, .mv (.tmp 42)⟩])
          (.ret))
          (.skip)))
        (.seq (.ops [⟨(some 43), none, .mv (.tmp 10)⟩,
          ⟨(some 6), none, .mv (.tmp 43)⟩])
        (.ops [⟨(some 44), none, .mv (.tmp 7)⟩,
          ⟨(some 45), none, .mv (.tmp 9)⟩,
          ⟨(some 46), none, .bin .add 3 (.tmp 44) (.tmp 45)⟩,
          ⟨(some 7), none, .mv (.tmp 46)⟩]))))))
      (.ops [⟨(some 47), none, .bin .add 3 (.tmp 24) (.const (Go.Value.int Go.IntKind.i64 1))⟩,
        ⟨(some 24), none, .mv (.tmp 47)⟩])))))))
  (.seq (.ops [⟨(some 48), none, .mv (.tmp 6)⟩,
    ⟨(some 4), none, .mv (.tmp 48)⟩,
    ⟨(some 5), none, .mv (.const (Go.Value.int Go.IntKind.i64 0))⟩])
  (.ret))))))
theorem is_field_Join : FnIs Try.prog F.field_Join X.field_Join 49 [.tmp 4, .tmp 5] := ⟨by kernel_rfl⟩

/-- haycroft/field.Set: function 160 -/
abbrev F.field_Set : FuncId := 160
def X.field_Set : X :=
  .seq (.ops [⟨(some 6), none, .mv (.const (Go.Value.int Go.IntKind.u64 0))⟩])
  (.seq (.ops [⟨(some 7), none, .mv (.const (Go.Value.int Go.IntKind.u64 0))⟩])
  (.seq (.seq (.ops [⟨(some 10), none, .mv (.tmp 2)⟩])
  (.cond (.tmp 10)
    (.ops [⟨(some 7), none, .mv (.const (Go.Value.int Go.IntKind.u64 1))⟩])
    (.skip)))
  (.seq (.ops [⟨(some 12), none, .mv (.tmp 0)⟩,
    ⟨(some 13), none, .mv (.tmp 1)⟩,
    ⟨(some 14), none, .mv (.tmp 7)⟩,
    ⟨(some 15), none, .call 165 [(.tmp 12), (.tmp 13), (.const (Go.Value.int Go.IntKind.i64 1)), (.tmp 14)]⟩,
    ⟨(some 11), none, .mv (.tmp 15)⟩,
    ⟨(some 16), none, .ext (.tmp 11) 0⟩,
    ⟨(some 17), none, .ext (.tmp 11) 1⟩,
    ⟨(some 8), none, .mv (.tmp 16)⟩,
    ⟨(some 9), none, .mv (.tmp 17)⟩])
  (.seq (.seq (.ops [⟨(some 18), none, .mv (.tmp 9)⟩,
    ⟨(some 19), none, .bin .neq 25 (.tmp 18) (.const (Go.Value.int Go.IntKind.i64 0))⟩])
  (.cond (.tmp 19)
    (.seq (.ops [⟨(some 20), none, .mv (.tmp 0)⟩,
      ⟨(some 6), none, .mv (.tmp 20)⟩])
    (.ret))
    (.skip)))
  (.seq (.ops [⟨(some 21), none, .mv (.tmp 8)⟩,
    ⟨(some 6), none, .mv (.tmp 21)⟩])
  (.ret))))))
theorem is_field_Set : FnIs Try.prog F.field_Set X.field_Set 22 [.tmp 6] := ⟨by kernel_rfl⟩

/-- haycroft/entry.Pack: function 129 -/
abbrev F.entry_Pack : FuncId := 129
def X.entry_Pack : X :=
  .seq (.ops [⟨(some 1), none, .box 40 (.tmp 0)⟩,
    ⟨(some 2), none, .mv (.const (Go.Value.int Go.IntKind.u64 0))⟩,
    ⟨(some 3), none, .mv (.const (Go.Value.int Go.IntKind.i64 0))⟩])
  (.seq (.seq (.ops [⟨(some 6), none, .ld (.tmp 1) (some 3)⟩,
    ⟨(some 7), none, .call 122 [(.tmp 6)]⟩,
    ⟨(some 8), none, .un .not (.tmp 7)⟩])
  (.cond (.tmp 8)
    (.seq (.ops [⟨(some 2), none, .mv (.const (Go.Value.int Go.IntKind.u64 0))⟩,
      ⟨(some 3), none, .mv (.const (Go.Value.int Go.IntKind.i64 1))⟩])
    (.ret))
    (.skip)))
  (.seq (.ops [⟨(some 10), none, .fld (.tmp 1) 0⟩,
    ⟨(some 11), none, .ld (.tmp 10) none⟩,
    ⟨(some 12), none, .fld (.tmp 1) 1⟩,
    ⟨(some 13), none, .ld (.tmp 12) none⟩,
    ⟨(some 14), none, .bsl 32 1 2 [(Go.Value.int Go.IntKind.u64 0)] [(0, (.tmp 11)), (1, (.tmp 13))]⟩,
    ⟨(some 15), none, .bsl 3 1 2 [(Go.Value.int Go.IntKind.i64 0)] [(0, (.const (Go.Value.int Go.IntKind.i64 48))), (1, (.const (Go.Value.int Go.IntKind.i64 14)))]⟩,
    ⟨(some 16), none, .call 159 [(.tmp 14), (.tmp 15)]⟩,
    ⟨(some 9), none, .mv (.tmp 16)⟩,
    ⟨(some 17), none, .ext (.tmp 9) 0⟩,
    ⟨(some 18), none, .ext (.tmp 9) 1⟩,
    ⟨(some 4), none, .mv (.tmp 17)⟩,
    ⟨(some 5), none, .mv (.tmp 18)⟩])
  (.seq (.ops [⟨(some 19), none, .mv (.tmp 4)⟩,
    ⟨(some 20), none, .fld (.tmp 1) 2⟩,
    ⟨(some 21), none, .ld (.tmp 20) none⟩,
    ⟨(some 22), none, .call 160 [(.tmp 19), (.const (Go.Value.int Go.IntKind.i64 62)), (.tmp 21)]⟩,
    ⟨(some 23), none, .call 160 [(.tmp 22), (.const (Go.Value.int Go.IntKind.i64 63)), (.const (Go.Value.bool true))]⟩,
    ⟨(some 24), none, .mv (.tmp 5)⟩,
    ⟨(some 2), none, .mv (.tmp 23)⟩,
    ⟨(some 3), none, .mv (.tmp 24)⟩])
  (.ret))))
theorem is_entry_Pack : FnIs Try.prog F.entry_Pack X.entry_Pack 25 [.tmp 2, .tmp 3] := ⟨by kernel_rfl⟩

/-- haycroft/entry.Fresh: function 82 -/
abbrev F.entry_Fresh : FuncId := 82
def X.entry_Fresh : X :=
  .seq (.ops [⟨(some 2), none, .mv (.const (Go.Value.int Go.IntKind.u64 0))⟩,
    ⟨(some 3), none, .mv (.const (Go.Value.int Go.IntKind.i64 0))⟩])
  (.seq (.ops [⟨(some 4), none, .mv (.tmp 0)⟩,
    ⟨(some 5), none, .bld [(Go.Value.int Go.IntKind.u64 0), (Go.Value.int Go.IntKind.u64 0), (Go.Value.bool false)] [(1, 1, (.tmp 4)), (2, 1, (.const (Go.Value.bool true)))]⟩,
    ⟨(some 6), none, .call 129 [(.tmp 5)]⟩,
    ⟨(some 7), none, .ext (.tmp 6) 0⟩,
    ⟨(some 8), none, .ext (.tmp 6) 1⟩,
    ⟨(some 2), none, .mv (.tmp 7)⟩,
    ⟨(some 3), none, .mv (.tmp 8)⟩])
  (.ret))
theorem is_entry_Fresh : FnIs Try.prog F.entry_Fresh X.entry_Fresh 9 [.tmp 2, .tmp 3] := ⟨by kernel_rfl⟩

/-- (*haycroft/cell.Row).may: function 125 -/
abbrev F.cell_Row_may : FuncId := 125
def X.cell_Row_may : X :=
  .seq (.ops [⟨(some 4), none, .mv (.const (Go.Value.int Go.IntKind.i64 0))⟩])
  (.seq (.block 0 (.seq (.ops [⟨(some 6), none, .mv (.tmp 0)⟩,
      ⟨(some 7), none, .eq false .ptr (.tmp 6) (.const (Go.Value.pointer none))⟩,
      ⟨(some 5), none, .mv (.tmp 7)⟩])
    (.cond (.tmp 5)
      (.seq (.ops [⟨(some 4), none, .mv (.const (Go.Value.int Go.IntKind.i64 2))⟩])
      (.ret))
      (.seq (.ops [⟨(some 9), none, .mv (.tmp 0)⟩,
        ⟨(some 10), none, .mv (.tmp 1)⟩,
        ⟨(some 11), none, .call 118 [(.tmp 9), (.tmp 10)]⟩,
        ⟨(some 12), none, .un .not (.tmp 11)⟩,
        ⟨(some 8), none, .mv (.tmp 12)⟩])
      (.cond (.tmp 8)
        (.seq (.ops [⟨(some 4), none, .mv (.const (Go.Value.int Go.IntKind.i64 1))⟩])
        (.ret))
        (.skip))))))
  (.seq (.ops [⟨(some 4), none, .mv (.const (Go.Value.int Go.IntKind.i64 0))⟩])
  (.ret)))
theorem is_cell_Row_may : FnIs Try.prog F.cell_Row_may X.cell_Row_may 13 [.tmp 4] := ⟨by kernel_rfl⟩

/-- sync/atomic.CompareAndSwapUint64: function 161, without a body -/
abbrev F.atomic_CompareAndSwapUint64 : FuncId := 161
theorem ext_atomic_CompareAndSwapUint64 : ExtIs Try.prog F.atomic_CompareAndSwapUint64 Try.f161 (Extern.Atomic.casT (.int .u64)) := ⟨Try.func161, by kernel_rfl, by kernel_rfl, by kernel_rfl, by kernel_rfl⟩

/-- (*sync/atomic.Uint64).CompareAndSwap: function 130 -/
abbrev F.atomic_Uint64_CompareAndSwap : FuncId := 130
def X.atomic_Uint64_CompareAndSwap : X :=
  .seq (.ops [⟨(some 6), none, .mv (.const (Go.Value.bool false))⟩])
  (.seq (.ops [⟨(some 7), none, .mv (.tmp 0)⟩,
    ⟨(some 8), none, .nilc (.tmp 7)⟩,
    ⟨(some 9), none, .fld (.tmp 8) 0⟩,
    ⟨(some 10), none, .mv (.tmp 1)⟩,
    ⟨(some 11), none, .mv (.tmp 2)⟩,
    ⟨(some 12), none, .ext1 161 [(.tmp 9), (.tmp 10), (.tmp 11)]⟩,
    ⟨(some 6), none, .mv (.tmp 12)⟩])
  (.ret))
theorem is_atomic_Uint64_CompareAndSwap : FnIs Try.prog F.atomic_Uint64_CompareAndSwap X.atomic_Uint64_CompareAndSwap 13 [.tmp 6] := ⟨by kernel_rfl⟩

/-- sync/atomic.AddInt64: function 162, without a body -/
abbrev F.atomic_AddInt64 : FuncId := 162
theorem ext_atomic_AddInt64 : ExtIs Try.prog F.atomic_AddInt64 Try.f162 (Extern.Atomic.update (Op.intArith .add) .i64 true) := ⟨Try.func162, by kernel_rfl, by kernel_rfl, by kernel_rfl, by kernel_rfl⟩

/-- (*sync/atomic.Int64).Add: function 131 -/
abbrev F.atomic_Int64_Add : FuncId := 131
def X.atomic_Int64_Add : X :=
  .seq (.ops [⟨(some 4), none, .mv (.const (Go.Value.int Go.IntKind.i64 0))⟩])
  (.seq (.ops [⟨(some 5), none, .mv (.tmp 0)⟩,
    ⟨(some 6), none, .nilc (.tmp 5)⟩,
    ⟨(some 7), none, .fld (.tmp 6) 0⟩,
    ⟨(some 8), none, .mv (.tmp 1)⟩,
    ⟨(some 9), none, .ext1 162 [(.tmp 7), (.tmp 8)]⟩,
    ⟨(some 4), none, .mv (.tmp 9)⟩])
  (.ret))
theorem is_atomic_Int64_Add : FnIs Try.prog F.atomic_Int64_Add X.atomic_Int64_Add 10 [.tmp 4] := ⟨by kernel_rfl⟩

/-- (*haycroft/cell.Row).CAS: function 83 -/
abbrev F.cell_Row_CAS : FuncId := 83
def X.cell_Row_CAS : X :=
  .seq (.ops [⟨(some 8), none, .mv (.const (Go.Value.bool false))⟩,
    ⟨(some 9), none, .mv (.const (Go.Value.int Go.IntKind.i64 0))⟩])
  (.seq (.seq (.ops [⟨(some 12), none, .mv (.tmp 0)⟩,
    ⟨(some 13), none, .mv (.tmp 1)⟩,
    ⟨(some 14), none, .call 125 [(.tmp 12), (.tmp 13)]⟩,
    ⟨(some 10), none, .mv (.tmp 14)⟩])
  (.seq (.ops [⟨(some 15), none, .mv (.tmp 10)⟩,
    ⟨(some 16), none, .bin .neq 25 (.tmp 15) (.const (Go.Value.int Go.IntKind.i64 0))⟩])
  (.cond (.tmp 16)
    (.seq (.ops [⟨(some 17), none, .mv (.tmp 10)⟩,
      ⟨(some 8), none, .mv (.const (Go.Value.bool false))⟩,
      ⟨(some 9), none, .mv (.tmp 17)⟩])
    (.ret))
    (.skip))))
  (.seq (.ops [⟨(some 18), none, .mv (.tmp 0)⟩,
    ⟨(some 19), none, .nilc (.tmp 18)⟩,
    ⟨(some 20), none, .fld (.tmp 19) 0⟩,
    ⟨(some 21), none, .ld (.tmp 20) none⟩,
    ⟨(some 22), none, .mv (.tmp 1)⟩,
    ⟨(some 23), none, .idx (.tmp 21) (.tmp 22) 1⟩,
    ⟨(some 24), none, .mv (.tmp 2)⟩,
    ⟨(some 25), none, .mv (.tmp 3)⟩,
    ⟨(some 26), none, .call 130 [(.tmp 23), (.tmp 24), (.tmp 25)]⟩,
    ⟨(some 11), none, .mv (.tmp 26)⟩])
  (.seq (.seq (.ops [⟨(some 27), none, .mv (.tmp 11)⟩])
  (.cond (.tmp 27)
    (.ops [⟨(some 28), none, .mv (.tmp 0)⟩,
      ⟨(some 29), none, .nilc (.tmp 28)⟩,
      ⟨(some 30), none, .fld (.tmp 29) 1⟩,
      ⟨(some 31), none, .call 131 [(.tmp 30), (.const (Go.Value.int Go.IntKind.i64 1))]⟩])
    (.ops [⟨(some 32), none, .mv (.tmp 0)⟩,
      ⟨(some 33), none, .nilc (.tmp 32)⟩,
      ⟨(some 34), none, .fld (.tmp 33) 2⟩,
      ⟨(some 35), none, .call 131 [(.tmp 34), (.const (Go.Value.int Go.IntKind.i64 1))]⟩])))
  (.seq (.ops [⟨(some 36), none, .mv (.tmp 11)⟩,
    ⟨(some 8), none, .mv (.tmp 36)⟩,
    ⟨(some 9), none, .mv (.const (Go.Value.int Go.IntKind.i64 0))⟩])
  (.ret)))))
theorem is_cell_Row_CAS : FnIs Try.prog F.cell_Row_CAS X.cell_Row_CAS 37 [.tmp 8, .tmp 9] := ⟨by kernel_rfl⟩

/-- (*haycroft/index.Index).Claim: function 23 -/
abbrev F.index_Index_Claim : FuncId := 23
def X.index_Index_Claim : X :=
  .seq (.ops [⟨(some 6), none, .mv (.const (Go.Value.bool false))⟩,
    ⟨(some 7), none, .mv (.const (Go.Value.int Go.IntKind.i64 0))⟩])
  (.seq (.seq (.ops [⟨(some 11), none, .mv (.tmp 0)⟩,
    ⟨(some 12), none, .mv (.tmp 1)⟩,
    ⟨(some 13), none, .call 81 [(.tmp 11), (.tmp 12)]⟩,
    ⟨(some 8), none, .mv (.tmp 13)⟩])
  (.seq (.ops [⟨(some 14), none, .mv (.tmp 8)⟩,
    ⟨(some 15), none, .bin .neq 25 (.tmp 14) (.const (Go.Value.int Go.IntKind.i64 0))⟩])
  (.cond (.tmp 15)
    (.seq (.ops [⟨(some 16), none, .mv (.tmp 8)⟩,
      ⟨(some 6), none, .mv (.const (Go.Value.bool false))⟩,
      ⟨(some 7), none, .mv (.tmp 16)⟩])
    (.ret))
    (.skip))))
  (.seq (.ops [⟨(some 18), none, .mv (.tmp 2)⟩,
    ⟨(some 19), none, .call 79 [(.tmp 18)]⟩,
    ⟨(some 20), none, .call 82 [(.tmp 19)]⟩,
    ⟨(some 17), none, .mv (.tmp 20)⟩,
    ⟨(some 21), none, .ext (.tmp 17) 0⟩,
    ⟨(some 22), none, .ext (.tmp 17) 1⟩,
    ⟨(some 9), none, .mv (.tmp 21)⟩,
    ⟨(some 10), none, .mv (.tmp 22)⟩])
  (.seq (.seq (.ops [⟨(some 23), none, .mv (.tmp 10)⟩,
    ⟨(some 24), none, .bin .neq 25 (.tmp 23) (.const (Go.Value.int Go.IntKind.i64 0))⟩])
  (.cond (.tmp 24)
    (.seq (.ops [⟨(some 25), none, .mv (.tmp 10)⟩,
      ⟨(some 6), none, .mv (.const (Go.Value.bool false))⟩,
      ⟨(some 7), none, .mv (.tmp 25)⟩])
    (.ret))
    (.skip)))
  (.seq (.ops [⟨(some 26), none, .mv (.tmp 0)⟩,
    ⟨(some 27), none, .nilc (.tmp 26)⟩,
    ⟨(some 28), none, .fld (.tmp 27) 2⟩,
    ⟨(some 29), none, .ld (.tmp 28) none⟩,
    ⟨(some 30), none, .mv (.tmp 1)⟩,
    ⟨(some 31), none, .mv (.tmp 9)⟩,
    ⟨(some 32), none, .call 83 [(.tmp 29), (.tmp 30), (.const (Go.Value.int Go.IntKind.u64 0)), (.tmp 31)]⟩,
    ⟨(some 33), none, .ext (.tmp 32) 0⟩,
    ⟨(some 34), none, .ext (.tmp 32) 1⟩,
    ⟨(some 6), none, .mv (.tmp 33)⟩,
    ⟨(some 7), none, .mv (.tmp 34)⟩])
  (.ret)))))
theorem is_index_Index_Claim : FnIs Try.prog F.index_Index_Claim X.index_Index_Claim 35 [.tmp 6, .tmp 7] := ⟨by kernel_rfl⟩

/-- haycroft/haycroftlaw17.awake: function 11 -/
abbrev F.law17_awake : FuncId := 11
def X.law17_awake : X :=
  .seq (.ops [⟨(some 0), none, .mv (.const (Go.Value.bool false))⟩])
  (.seq (.ops [⟨(some 10), none, .call 12 [(.const (Go.Value.int Go.IntKind.i64 1)), (.const (Go.Value.int Go.IntKind.i64 0))]⟩,
    ⟨(some 9), none, .mv (.tmp 10)⟩,
    ⟨(some 11), none, .ext (.tmp 9) 0⟩,
    ⟨(some 12), none, .ext (.tmp 9) 1⟩,
    ⟨(some 1), none, .mv (.tmp 11)⟩,
    ⟨(some 2), none, .mv (.tmp 12)⟩])
  (.seq (.ops [⟨(some 14), none, .mv (.tmp 1)⟩,
    ⟨(some 15), none, .call 22 [(.tmp 14), (.const (Go.Value.int Go.IntKind.u64 77))]⟩,
    ⟨(some 13), none, .mv (.tmp 15)⟩,
    ⟨(some 16), none, .ext (.tmp 13) 0⟩,
    ⟨(some 17), none, .ext (.tmp 13) 1⟩,
    ⟨(some 3), none, .new 46 (Go.Value.agg #[(Go.Value.int Go.IntKind.i64 0), (Go.Value.int Go.IntKind.i64 0), (Go.Value.int Go.IntKind.u64 0), (Go.Value.int Go.IntKind.i64 0)])⟩,
    ⟨none, none, .st (.tmp 3) (.tmp 16) 4⟩,
    ⟨(some 4), none, .mv (.tmp 17)⟩])
  (.seq (.ops [⟨(some 19), none, .mv (.tmp 1)⟩,
    ⟨(some 20), none, .fld (.tmp 3) 1⟩,
    ⟨(some 21), none, .ld (.tmp 20) none⟩,
    ⟨(some 22), none, .call 23 [(.tmp 19), (.tmp 21), (.const (Go.Value.int Go.IntKind.u64 77))]⟩,
    ⟨(some 18), none, .mv (.tmp 22)⟩,
    ⟨(some 23), none, .ext (.tmp 18) 0⟩,
    ⟨(some 24), none, .ext (.tmp 18) 1⟩,
    ⟨(some 5), none, .mv (.tmp 23)⟩,
    ⟨(some 6), none, .mv (.tmp 24)⟩])
  (.seq (.ops [⟨(some 26), none, .mv (.tmp 1)⟩,
    ⟨(some 27), none, .call 22 [(.tmp 26), (.const (Go.Value.int Go.IntKind.u64 77))]⟩,
    ⟨(some 25), none, .mv (.tmp 27)⟩,
    ⟨(some 28), none, .ext (.tmp 25) 0⟩,
    ⟨(some 29), none, .ext (.tmp 25) 1⟩,
    ⟨(some 7), none, .new 46 (Go.Value.agg #[(Go.Value.int Go.IntKind.i64 0), (Go.Value.int Go.IntKind.i64 0), (Go.Value.int Go.IntKind.u64 0), (Go.Value.int Go.IntKind.i64 0)])⟩,
    ⟨none, none, .st (.tmp 7) (.tmp 28) 4⟩,
    ⟨(some 8), none, .mv (.tmp 29)⟩])
  (.seq (.ops [⟨(some 30), none, .mv (.tmp 2)⟩,
    ⟨(some 31), none, .bin .eql 25 (.tmp 30) (.const (Go.Value.int Go.IntKind.i64 0))⟩,
    ⟨(some 32), none, .mv (.tmp 31)⟩,
    ⟨(some 33), (some (32, true)), .fld (.tmp 3) 0⟩,
    ⟨(some 34), (some (32, true)), .ld (.tmp 33) none⟩,
    ⟨(some 35), (some (32, true)), .bin .eql 3 (.tmp 34) (.const (Go.Value.int Go.IntKind.i64 2))⟩,
    ⟨(some 36), none, .pick (.tmp 32) (.tmp 35) (.const (Go.Value.bool false))⟩,
    ⟨(some 37), none, .mv (.tmp 36)⟩,
    ⟨(some 38), (some (37, true)), .fld (.tmp 3) 1⟩,
    ⟨(some 39), (some (37, true)), .ld (.tmp 38) none⟩,
    ⟨(some 40), (some (37, true)), .bin .eql 3 (.tmp 39) (.const (Go.Value.int Go.IntKind.i64 0))⟩,
    ⟨(some 41), none, .pick (.tmp 37) (.tmp 40) (.const (Go.Value.bool false))⟩,
    ⟨(some 42), none, .mv (.tmp 41)⟩,
    ⟨(some 43), (some (42, true)), .mv (.tmp 4)⟩,
    ⟨(some 44), (some (42, true)), .bin .eql 25 (.tmp 43) (.const (Go.Value.int Go.IntKind.i64 0))⟩,
    ⟨(some 45), none, .pick (.tmp 42) (.tmp 44) (.const (Go.Value.bool false))⟩,
    ⟨(some 46), none, .mv (.tmp 45)⟩,
    ⟨(some 47), (some (46, true)), .mv (.tmp 5)⟩,
    ⟨(some 48), none, .pick (.tmp 46) (.tmp 47) (.const (Go.Value.bool false))⟩,
    ⟨(some 49), none, .mv (.tmp 48)⟩,
    ⟨(some 50), (some (49, true)), .mv (.tmp 6)⟩,
    ⟨(some 51), (some (49, true)), .bin .eql 25 (.tmp 50) (.const (Go.Value.int Go.IntKind.i64 0))⟩,
    ⟨(some 52), none, .pick (.tmp 49) (.tmp 51) (.const (Go.Value.bool false))⟩,
    ⟨(some 53), none, .mv (.tmp 52)⟩,
    ⟨(some 54), (some (53, true)), .fld (.tmp 7) 0⟩,
    ⟨(some 55), (some (53, true)), .ld (.tmp 54) none⟩,
    ⟨(some 56), (some (53, true)), .bin .eql 3 (.tmp 55) (.const (Go.Value.int Go.IntKind.i64 1))⟩,
    ⟨(some 57), none, .pick (.tmp 53) (.tmp 56) (.const (Go.Value.bool false))⟩,
    ⟨(some 58), none, .mv (.tmp 57)⟩,
    ⟨(some 59), (some (58, true)), .mv (.tmp 8)⟩,
    ⟨(some 60), (some (58, true)), .bin .eql 25 (.tmp 59) (.const (Go.Value.int Go.IntKind.i64 0))⟩,
    ⟨(some 61), none, .pick (.tmp 58) (.tmp 60) (.const (Go.Value.bool false))⟩,
    ⟨(some 0), none, .mv (.tmp 61)⟩])
  (.ret))))))
theorem is_law17_awake : FnIs Try.prog F.law17_awake X.law17_awake 62 [.tmp 0] := ⟨by kernel_rfl⟩

-- loop (inner ones first): [0, 3]
/-- haycroft/haycroftref03.May: function 61 -/
abbrev F.ref03_May : FuncId := 61
def X.ref03_May : X :=
  .seq (.ops [⟨(some 2), none, .mv (.const (Go.Value.bool false))⟩])
  (.seq (.seq (.ops [⟨(some 3), none, .mv (.const (Go.Value.int Go.IntKind.i64 1))⟩])
  (.block 0 (.loop (.seq (.seq (.ops [⟨(some 4), none, .mv (.tmp 3)⟩,
        ⟨(some 5), none, .bin .leq 3 (.tmp 4) (.const (Go.Value.int Go.IntKind.i64 1024))⟩])
      (.cond (.tmp 5)
        (.skip)
        (.exit 0)))
      (.seq (.block 1 (.seq (.ops [⟨(some 8), none, .mv (.tmp 3)⟩,
          ⟨(some 9), none, .mv (.tmp 0)⟩,
          ⟨(some 10), none, .bin .eql 3 (.tmp 8) (.tmp 9)⟩])
        (.cond (.tmp 10)
          (.seq (.ops [⟨(some 2), none, .mv (.const (Go.Value.bool true))⟩])
          (.ret))
          (.skip))))
      (.ops [⟨(some 6), none, .mv (.tmp 3)⟩,
        ⟨(some 7), none, .bin .mul 3 (.tmp 6) (.const (Go.Value.int Go.IntKind.i64 2))⟩,
        ⟨(some 3), none, .mv (.tmp 7)⟩]))))))
  (.seq (.ops [⟨(some 2), none, .mv (.const (Go.Value.bool false))⟩])
  (.ret)))
theorem is_ref03_May : FnIs Try.prog F.ref03_May X.ref03_May 11 [.tmp 2] := ⟨by kernel_rfl⟩

/-- haycroft/haycroftref17.New: function 13 -/
abbrev F.ref17_New : FuncId := 13
def X.ref17_New : X :=
  .seq (.ops [⟨(some 4), none, .mv (.const (Go.Value.pointer none))⟩,
    ⟨(some 5), none, .mv (.const (Go.Value.int Go.IntKind.i64 0))⟩])
  (.seq (.seq (.ops [⟨(some 6), none, .mv (.tmp 0)⟩,
    ⟨(some 7), none, .call 61 [(.tmp 6)]⟩,
    ⟨(some 8), none, .un .not (.tmp 7)⟩,
    ⟨(some 9), none, .mv (.tmp 8)⟩,
    ⟨(some 10), (some (9, false)), .mv (.tmp 1)⟩,
    ⟨(some 11), (some (9, false)), .bin .lss 3 (.tmp 10) (.const (Go.Value.int Go.IntKind.i64 0))⟩,
    ⟨(some 12), none, .pick (.tmp 9) (.const (Go.Value.bool true)) (.tmp 11)⟩,
    ⟨(some 13), none, .mv (.tmp 12)⟩,
    ⟨(some 14), (some (13, false)), .mv (.tmp 1)⟩,
    ⟨(some 15), (some (13, false)), .bin .gtr 3 (.tmp 14) (.const (Go.Value.int Go.IntKind.i64 64))⟩,
    ⟨(some 16), none, .pick (.tmp 13) (.const (Go.Value.bool true)) (.tmp 15)⟩])
  (.cond (.tmp 16)
    (.seq (.ops [⟨(some 4), none, .mv (.const (Go.Value.pointer none))⟩,
      ⟨(some 5), none, .mv (.const (Go.Value.int Go.IntKind.i64 1))⟩])
    (.ret))
    (.skip)))
  (.seq (.ops [⟨(some 17), none, .mv (.tmp 0)⟩,
    ⟨(some 18), none, .mv (.tmp 1)⟩,
    ⟨(some 19), none, .mv (.tmp 0)⟩,
    ⟨(some 20), none, .mv (.tmp 1)⟩,
    ⟨(some 21), none, .bin .add 3 (.tmp 19) (.tmp 20)⟩,
    ⟨(some 22), none, .mks 129 8 64 [(Go.Value.int Go.IntKind.u64 0), (Go.Value.int Go.IntKind.u64 0), (Go.Value.int Go.IntKind.u64 0), (Go.Value.int Go.IntKind.u64 0), (Go.Value.int Go.IntKind.u64 0), (Go.Value.int Go.IntKind.u64 0), (Go.Value.int Go.IntKind.u64 0), (Go.Value.int Go.IntKind.u64 0)] (.tmp 21) (.tmp 21)⟩,
    ⟨(some 23), none, .bld [(Go.Value.int Go.IntKind.i64 0), (Go.Value.int Go.IntKind.i64 0), (Go.Value.slice none 0 0), (Go.Value.int Go.IntKind.i64 0), (Go.Value.int Go.IntKind.i64 0), (Go.Value.int Go.IntKind.i64 0)] [(0, 1, (.tmp 17)), (1, 1, (.tmp 18)), (2, 1, (.tmp 22))]⟩,
    ⟨(some 24), none, .box 124 (.tmp 23)⟩,
    ⟨(some 4), none, .mv (.tmp 24)⟩,
    ⟨(some 5), none, .mv (.const (Go.Value.int Go.IntKind.i64 0))⟩])
  (.ret)))
theorem is_ref17_New : FnIs Try.prog F.ref17_New X.ref17_New 25 [.tmp 4, .tmp 5] := ⟨by kernel_rfl⟩

/-- haycroft/haycroftlaw17.small: function 14 -/
abbrev F.law17_small : FuncId := 14
def X.law17_small : X :=
  .seq (.ops [⟨(some 4), none, .mv (.const (Go.Value.bool false))⟩])
  (.seq (.ops [⟨(some 5), none, .mv (.tmp 0)⟩,
    ⟨(some 6), none, .bin .leq 3 (.tmp 5) (.const (Go.Value.int Go.IntKind.i64 16))⟩,
    ⟨(some 7), none, .mv (.tmp 6)⟩,
    ⟨(some 8), (some (7, true)), .mv (.tmp 1)⟩,
    ⟨(some 9), (some (7, true)), .bin .leq 3 (.tmp 8) (.const (Go.Value.int Go.IntKind.i64 8))⟩,
    ⟨(some 10), none, .pick (.tmp 7) (.tmp 9) (.const (Go.Value.bool false))⟩,
    ⟨(some 4), none, .mv (.tmp 10)⟩])
  (.ret))
theorem is_law17_small : FnIs Try.prog F.law17_small X.law17_small 11 [.tmp 4] := ⟨by kernel_rfl⟩

/-- (*haycroft/cell.Row).within: function 123 -/
abbrev F.cell_Row_within : FuncId := 123
def X.cell_Row_within : X :=
  .seq (.ops [⟨(some 6), none, .mv (.const (Go.Value.int Go.IntKind.i64 0))⟩])
  (.seq (.block 0 (.seq (.ops [⟨(some 8), none, .mv (.tmp 0)⟩,
      ⟨(some 9), none, .eq false .ptr (.tmp 8) (.const (Go.Value.pointer none))⟩,
      ⟨(some 7), none, .mv (.tmp 9)⟩])
    (.cond (.tmp 7)
      (.seq (.ops [⟨(some 6), none, .mv (.const (Go.Value.int Go.IntKind.i64 2))⟩])
      (.ret))
      (.seq (.seq (.ops [⟨(some 11), none, .mv (.tmp 2)⟩,
        ⟨(some 12), none, .bin .lss 3 (.tmp 11) (.const (Go.Value.int Go.IntKind.i64 0))⟩,
        ⟨(some 10), none, .mv (.tmp 12)⟩])
      (.cond (.tmp 10)
        (.skip)
        (.seq (.ops [⟨(some 13), none, .mv (.tmp 1)⟩,
          ⟨(some 14), none, .bin .lss 3 (.tmp 13) (.const (Go.Value.int Go.IntKind.i64 0))⟩,
          ⟨(some 10), none, .mv (.tmp 14)⟩])
        (.cond (.tmp 10)
          (.skip)
          (.seq (.ops [⟨(some 15), none, .mv (.tmp 2)⟩,
            ⟨(some 16), none, .mv (.tmp 0)⟩,
            ⟨(some 17), none, .call 66 [(.tmp 16)]⟩,
            ⟨(some 18), none, .bin .gtr 3 (.tmp 15) (.tmp 17)⟩,
            ⟨(some 10), none, .mv (.tmp 18)⟩])
          (.cond (.tmp 10)
            (.skip)
            (.ops [⟨(some 19), none, .mv (.tmp 1)⟩,
              ⟨(some 20), none, .mv (.tmp 0)⟩,
              ⟨(some 21), none, .call 66 [(.tmp 20)]⟩,
              ⟨(some 22), none, .mv (.tmp 2)⟩,
              ⟨(some 23), none, .bin .sub 3 (.tmp 21) (.tmp 22)⟩,
              ⟨(some 24), none, .bin .gtr 3 (.tmp 19) (.tmp 23)⟩,
              ⟨(some 10), none, .mv (.tmp 24)⟩])))))))
      (.cond (.tmp 10)
        (.seq (.ops [⟨(some 6), none, .mv (.const (Go.Value.int Go.IntKind.i64 1))⟩])
        (.ret))
        (.skip))))))
  (.seq (.ops [⟨(some 6), none, .mv (.const (Go.Value.int Go.IntKind.i64 0))⟩])
  (.ret)))
theorem is_cell_Row_within : FnIs Try.prog F.cell_Row_within X.cell_Row_within 25 [.tmp 6] := ⟨by kernel_rfl⟩

/-- sync/atomic.StoreUint64: function 158, without a body -/
abbrev F.atomic_StoreUint64 : FuncId := 158
theorem ext_atomic_StoreUint64 : ExtIs Try.prog F.atomic_StoreUint64 Try.f158 Extern.Atomic.storeT := ⟨Try.func158, by kernel_rfl, by kernel_rfl, by kernel_rfl, by kernel_rfl⟩

/-- (*sync/atomic.Uint64).Store: function 124 -/
abbrev F.atomic_Uint64_Store : FuncId := 124
def X.atomic_Uint64_Store : X :=
  .ops [⟨(some 4), none, .mv (.tmp 0)⟩,
    ⟨(some 5), none, .nilc (.tmp 4)⟩,
    ⟨(some 6), none, .fld (.tmp 5) 0⟩,
    ⟨(some 7), none, .mv (.tmp 1)⟩,
    ⟨(some 8), none, .ext1 158 [(.tmp 6), (.tmp 7)]⟩]
theorem is_atomic_Uint64_Store : FnIs Try.prog F.atomic_Uint64_Store X.atomic_Uint64_Store 9 [] := ⟨by kernel_rfl⟩

-- loop (inner ones first): [0, 1, 18, 19, 20]
/-- (*haycroft/cell.Row).Fill: function 65 -/
abbrev F.cell_Row_Fill : FuncId := 65
def X.cell_Row_Fill : X :=
  .seq (.ops [⟨(some 6), none, .mv (.const (Go.Value.int Go.IntKind.i64 0))⟩])
  (.seq (.seq (.ops [⟨(some 10), none, .mv (.tmp 0)⟩,
    ⟨(some 11), none, .mv (.tmp 1)⟩,
    ⟨(some 12), none, .mv (.tmp 2)⟩,
    ⟨(some 13), none, .lenS (.tmp 12)⟩,
    ⟨(some 14), none, .call 123 [(.tmp 10), (.tmp 11), (.tmp 13)]⟩,
    ⟨(some 7), none, .mv (.tmp 14)⟩])
  (.seq (.ops [⟨(some 15), none, .mv (.tmp 7)⟩,
    ⟨(some 16), none, .bin .neq 25 (.tmp 15) (.const (Go.Value.int Go.IntKind.i64 0))⟩])
  (.cond (.tmp 16)
    (.seq (.ops [⟨(some 17), none, .mv (.tmp 7)⟩,
      ⟨(some 6), none, .mv (.tmp 17)⟩])
    (.ret))
    (.skip))))
  (.seq (.seq (.ops [⟨(some 18), none, .mv (.tmp 2)⟩,
    ⟨(some 19), none, .lenS (.tmp 18)⟩,
    ⟨(some 20), none, .mv (.const (Go.Value.int Go.IntKind.i64 0))⟩])
  (.block 0 (.loop (.seq (.ops [⟨(some 21), none, .bin .lss 3 (.tmp 20) (.tmp 19)⟩])
      (.seq (.cond (.tmp 21)
        (.skip)
        (.exit 0))
      (.seq (.block 1 (.seq (.ops [⟨(some 22), none, .mv (.tmp 20)⟩,
          ⟨(some 23), none, .idx (.tmp 18) (.tmp 20) 1⟩,
          ⟨(some 24), none, .ld (.tmp 23) none⟩,
          ⟨(some 8), none, .mv (.tmp 22)⟩,
          ⟨(some 9), none, .mv (.tmp 24)⟩])
        (.ops [⟨(some 25), none, .mv (.tmp 0)⟩,
          ⟨(some 26), none, .nilc (.tmp 25)⟩,
          ⟨(some 27), none, .fld (.tmp 26) 0⟩,
          ⟨(some 28), none, .ld (.tmp 27) none⟩,
          ⟨(some 29), none, .mv (.tmp 1)⟩,
          ⟨(some 30), none, .mv (.tmp 8)⟩,
          ⟨(some 31), none, .bin .add 3 (.tmp 29) (.tmp 30)⟩,
          ⟨(some 32), none, .idx (.tmp 28) (.tmp 31) 1⟩,
          ⟨(some 33), none, .mv (.tmp 9)⟩,
          ⟨(some 34), none, .call 124 [(.tmp 32), (.tmp 33)]⟩])))
      (.ops [⟨(some 35), none, .bin .add 3 (.tmp 20) (.const (Go.Value.int Go.IntKind.i64 1))⟩,
        ⟨(some 20), none, .mv (.tmp 35)⟩])))))))
  (.seq (.ops [⟨(some 6), none, .mv (.const (Go.Value.int Go.IntKind.i64 0))⟩])
  (.ret))))
theorem is_cell_Row_Fill : FnIs Try.prog F.cell_Row_Fill X.cell_Row_Fill 36 [.tmp 6] := ⟨by kernel_rfl⟩

/-- (*haycroft/cell.Row).Store: function 67 -/
abbrev F.cell_Row_Store : FuncId := 67
def X.cell_Row_Store : X :=
  .seq (.ops [⟨(some 6), none, .mv (.const (Go.Value.int Go.IntKind.i64 0))⟩])
  (.seq (.ops [⟨(some 8), none, .mv (.tmp 0)⟩,
    ⟨(some 9), none, .mv (.tmp 1)⟩,
    ⟨(some 10), none, .call 125 [(.tmp 8), (.tmp 9)]⟩,
    ⟨(some 7), none, .mv (.tmp 10)⟩])
  (.seq (.seq (.ops [⟨(some 11), none, .mv (.tmp 7)⟩,
    ⟨(some 12), none, .bin .eql 25 (.tmp 11) (.const (Go.Value.int Go.IntKind.i64 0))⟩])
  (.cond (.tmp 12)
    (.ops [⟨(some 13), none, .mv (.tmp 0)⟩,
      ⟨(some 14), none, .nilc (.tmp 13)⟩,
      ⟨(some 15), none, .fld (.tmp 14) 0⟩,
      ⟨(some 16), none, .ld (.tmp 15) none⟩,
      ⟨(some 17), none, .mv (.tmp 1)⟩,
      ⟨(some 18), none, .idx (.tmp 16) (.tmp 17) 1⟩,
      ⟨(some 19), none, .mv (.tmp 2)⟩,
      ⟨(some 20), none, .call 124 [(.tmp 18), (.tmp 19)]⟩])
    (.skip)))
  (.seq (.ops [⟨(some 21), none, .mv (.tmp 7)⟩,
    ⟨(some 6), none, .mv (.tmp 21)⟩])
  (.ret))))
theorem is_cell_Row_Store : FnIs Try.prog F.cell_Row_Store X.cell_Row_Store 22 [.tmp 6] := ⟨by kernel_rfl⟩

/-- sync/atomic.AddUint64: function 163, without a body -/
abbrev F.atomic_AddUint64 : FuncId := 163
theorem ext_atomic_AddUint64 : ExtIs Try.prog F.atomic_AddUint64 Try.f163 (Extern.Atomic.update (Op.intArith .add) .u64 true) := ⟨Try.func163, by kernel_rfl, by kernel_rfl, by kernel_rfl, by kernel_rfl⟩

/-- (*sync/atomic.Uint64).Add: function 132 -/
abbrev F.atomic_Uint64_Add : FuncId := 132
def X.atomic_Uint64_Add : X :=
  .seq (.ops [⟨(some 4), none, .mv (.const (Go.Value.int Go.IntKind.u64 0))⟩])
  (.seq (.ops [⟨(some 5), none, .mv (.tmp 0)⟩,
    ⟨(some 6), none, .nilc (.tmp 5)⟩,
    ⟨(some 7), none, .fld (.tmp 6) 0⟩,
    ⟨(some 8), none, .mv (.tmp 1)⟩,
    ⟨(some 9), none, .ext1 163 [(.tmp 7), (.tmp 8)]⟩,
    ⟨(some 4), none, .mv (.tmp 9)⟩])
  (.ret))
theorem is_atomic_Uint64_Add : FnIs Try.prog F.atomic_Uint64_Add X.atomic_Uint64_Add 10 [.tmp 4] := ⟨by kernel_rfl⟩

/-- (*haycroft/cell.Row).Add: function 85 -/
abbrev F.cell_Row_Add : FuncId := 85
def X.cell_Row_Add : X :=
  .seq (.ops [⟨(some 6), none, .mv (.const (Go.Value.int Go.IntKind.u64 0))⟩,
    ⟨(some 7), none, .mv (.const (Go.Value.int Go.IntKind.i64 0))⟩])
  (.seq (.seq (.ops [⟨(some 9), none, .mv (.tmp 0)⟩,
    ⟨(some 10), none, .mv (.tmp 1)⟩,
    ⟨(some 11), none, .call 125 [(.tmp 9), (.tmp 10)]⟩,
    ⟨(some 8), none, .mv (.tmp 11)⟩])
  (.seq (.ops [⟨(some 12), none, .mv (.tmp 8)⟩,
    ⟨(some 13), none, .bin .neq 25 (.tmp 12) (.const (Go.Value.int Go.IntKind.i64 0))⟩])
  (.cond (.tmp 13)
    (.seq (.ops [⟨(some 14), none, .mv (.tmp 8)⟩,
      ⟨(some 6), none, .mv (.const (Go.Value.int Go.IntKind.u64 0))⟩,
      ⟨(some 7), none, .mv (.tmp 14)⟩])
    (.ret))
    (.skip))))
  (.seq (.ops [⟨(some 15), none, .mv (.tmp 0)⟩,
    ⟨(some 16), none, .nilc (.tmp 15)⟩,
    ⟨(some 17), none, .fld (.tmp 16) 0⟩,
    ⟨(some 18), none, .ld (.tmp 17) none⟩,
    ⟨(some 19), none, .mv (.tmp 1)⟩,
    ⟨(some 20), none, .idx (.tmp 18) (.tmp 19) 1⟩,
    ⟨(some 21), none, .mv (.tmp 2)⟩,
    ⟨(some 22), none, .call 132 [(.tmp 20), (.tmp 21)]⟩,
    ⟨(some 23), none, .mv (.tmp 2)⟩,
    ⟨(some 24), none, .bin .sub 32 (.tmp 22) (.tmp 23)⟩,
    ⟨(some 6), none, .mv (.tmp 24)⟩,
    ⟨(some 7), none, .mv (.const (Go.Value.int Go.IntKind.i64 0))⟩])
  (.ret)))
theorem is_cell_Row_Add : FnIs Try.prog F.cell_Row_Add X.cell_Row_Add 25 [.tmp 6, .tmp 7] := ⟨by kernel_rfl⟩

/-- (*haycroft/index.Index).Spare: function 25 -/
abbrev F.index_Index_Spare : FuncId := 25
def X.index_Index_Spare : X :=
  .seq (.ops [⟨(some 2), none, .mv (.const (Go.Value.int Go.IntKind.i64 0))⟩,
    ⟨(some 3), none, .mv (.const (Go.Value.int Go.IntKind.i64 0))⟩])
  (.seq (.block 0 (.seq (.ops [⟨(some 7), none, .mv (.tmp 0)⟩,
      ⟨(some 8), none, .eq false .ptr (.tmp 7) (.const (Go.Value.pointer none))⟩,
      ⟨(some 6), none, .mv (.tmp 8)⟩])
    (.cond (.tmp 6)
      (.seq (.ops [⟨(some 2), none, .mv (.const (Go.Value.int Go.IntKind.i64 0))⟩,
        ⟨(some 3), none, .mv (.const (Go.Value.int Go.IntKind.i64 2))⟩])
      (.ret))
      (.seq (.drawn [(0, ⟨(some 10), none, .mv (.tmp 0)⟩),
        (1, ⟨(some 11), none, .nilc (.tmp 10)⟩),
        (2, ⟨(some 12), none, .fld (.tmp 11) 3⟩),
        (3, ⟨(some 13), none, .ld (.tmp 12) none⟩),
        (5, ⟨(some 15), none, .mv (.tmp 0)⟩),
        (6, ⟨(some 16), none, .nilc (.tmp 15)⟩),
        (7, ⟨(some 17), none, .fld (.tmp 16) 1⟩),
        (8, ⟨(some 18), none, .ld (.tmp 17) none⟩),
        (9, ⟨(some 19), none, .conv Go.IntKind.u64 (.tmp 18)⟩),
        (4, ⟨(some 14), none, .call 63 [(.tmp 13), (.const (Go.Value.int Go.IntKind.i64 0))]⟩),
        (10, ⟨(some 20), none, .bin .geq 32 (.tmp 14) (.tmp 19)⟩),
        (11, ⟨(some 9), none, .mv (.tmp 20)⟩)]
        [[], [0], [1], [2], [3], [], [5], [6], [7], [8], [4, 9], [10, 4]]
        [0, 1, 3, 7, 15, 0, 32, 96, 224, 480, 1023, 2047] 16)
      (.cond (.tmp 9)
        (.seq (.ops [⟨(some 2), none, .mv (.const (Go.Value.int Go.IntKind.i64 0))⟩,
          ⟨(some 3), none, .mv (.const (Go.Value.int Go.IntKind.i64 9))⟩])
        (.ret))
        (.skip))))))
  (.seq (.ops [⟨(some 22), none, .mv (.tmp 0)⟩,
    ⟨(some 23), none, .nilc (.tmp 22)⟩,
    ⟨(some 24), none, .fld (.tmp 23) 3⟩,
    ⟨(some 25), none, .ld (.tmp 24) none⟩,
    ⟨(some 26), none, .call 85 [(.tmp 25), (.const (Go.Value.int Go.IntKind.i64 0)), (.const (Go.Value.int Go.IntKind.u64 1))]⟩,
    ⟨(some 21), none, .mv (.tmp 26)⟩,
    ⟨(some 27), none, .ext (.tmp 21) 0⟩,
    ⟨(some 28), none, .ext (.tmp 21) 1⟩,
    ⟨(some 4), none, .mv (.tmp 27)⟩,
    ⟨(some 5), none, .mv (.tmp 28)⟩])
  (.seq (.ops [⟨(some 29), none, .mv (.tmp 0)⟩,
    ⟨(some 30), none, .nilc (.tmp 29)⟩,
    ⟨(some 31), none, .fld (.tmp 30) 0⟩,
    ⟨(some 32), none, .ld (.tmp 31) none⟩,
    ⟨(some 33), none, .mv (.tmp 4)⟩,
    ⟨(some 34), none, .conv Go.IntKind.i64 (.tmp 33)⟩,
    ⟨(some 35), none, .bin .add 3 (.tmp 32) (.tmp 34)⟩,
    ⟨(some 36), none, .mv (.tmp 5)⟩,
    ⟨(some 2), none, .mv (.tmp 35)⟩,
    ⟨(some 3), none, .mv (.tmp 36)⟩])
  (.ret))))
theorem is_index_Index_Spare : FnIs Try.prog F.index_Index_Spare X.index_Index_Spare 37 [.tmp 2, .tmp 3] := ⟨by kernel_rfl⟩

-- loop (inner ones first): [0, 3, 13, 90, 91, 92, 98, 99, 100]
-- loop (inner ones first): [0, 3, 90, 91, 92]
-- loop (inner ones first): [0, 3, 4, 5, 28, 29, 35, 36, 37]
-- loop (inner ones first): [0, 3, 4, 28, 29]
/-- (*haycroft/index.Index).Drop: function 15 -/
abbrev F.index_Index_Drop : FuncId := 15
def X.index_Index_Drop : X :=
  .seq (.ops [⟨(some 2), none, .mv (.const (Go.Value.int Go.IntKind.i64 0))⟩])
  (.seq (.seq (.ops [⟨(some 18), none, .mv (.tmp 0)⟩,
    ⟨(some 19), none, .eq false .ptr (.tmp 18) (.const (Go.Value.pointer none))⟩])
  (.cond (.tmp 19)
    (.seq (.ops [⟨(some 2), none, .mv (.const (Go.Value.int Go.IntKind.i64 0))⟩])
    (.ret))
    (.skip)))
  (.seq (.ops [⟨(some 3), none, .mv (.const (Go.Value.int Go.IntKind.i64 0))⟩])
  (.seq (.ops [⟨(some 20), none, .mv (.tmp 0)⟩,
    ⟨(some 21), none, .nilc (.tmp 20)⟩,
    ⟨(some 22), none, .fld (.tmp 21) 0⟩,
    ⟨(some 23), none, .ld (.tmp 22) none⟩,
    ⟨(some 24), none, .mks 37 1 24 [(Go.Value.slice none 0 0)] (.tmp 23) (.tmp 23)⟩,
    ⟨(some 4), none, .mv (.tmp 24)⟩])
  (.seq (.seq (.ops [⟨(some 25), none, .mv (.tmp 0)⟩,
    ⟨(some 26), none, .nilc (.tmp 25)⟩,
    ⟨(some 27), none, .fld (.tmp 26) 0⟩,
    ⟨(some 28), none, .ld (.tmp 27) none⟩,
    ⟨(some 29), none, .mv (.const (Go.Value.int Go.IntKind.i64 0))⟩])
  (.block 0 (.loop (.seq (.ops [⟨(some 30), none, .bin .lss 3 (.tmp 29) (.tmp 28)⟩])
      (.seq (.cond (.tmp 30)
        (.skip)
        (.exit 0))
      (.seq (.block 1 (.seq (.ops [⟨(some 31), none, .mv (.tmp 29)⟩,
          ⟨(some 5), none, .mv (.tmp 31)⟩])
        (.seq (.ops [⟨(some 32), none, .mv (.tmp 0)⟩,
          ⟨(some 33), none, .mv (.tmp 5)⟩,
          ⟨(some 34), none, .call 29 [(.tmp 32), (.tmp 33)]⟩,
          ⟨(some 35), none, .call 62 [(.tmp 34)]⟩,
          ⟨(some 36), none, .lenS (.tmp 35)⟩,
          ⟨(some 37), none, .mv (.const (Go.Value.int Go.IntKind.i64 0))⟩])
        (.block 2 (.loop (.seq (.ops [⟨(some 38), none, .bin .lss 3 (.tmp 37) (.tmp 36)⟩])
            (.seq (.cond (.tmp 38)
              (.skip)
              (.exit 2))
            (.seq (.block 3 (.seq (.ops [⟨(some 39), none, .idx (.tmp 35) (.tmp 37) 1⟩,
                ⟨(some 40), none, .ld (.tmp 39) none⟩,
                ⟨(some 7), none, .mv (.tmp 40)⟩])
              (.seq (.ops [⟨(some 41), none, .mv (.tmp 0)⟩,
                ⟨(some 42), none, .nilc (.tmp 41)⟩,
                ⟨(some 43), none, .fld (.tmp 42) 2⟩,
                ⟨(some 44), none, .ld (.tmp 43) none⟩,
                ⟨(some 45), none, .mv (.tmp 7)⟩,
                ⟨(some 46), none, .call 63 [(.tmp 44), (.tmp 45)]⟩,
                ⟨(some 8), none, .mv (.tmp 46)⟩])
              (.seq (.ops [⟨(some 48), none, .mv (.tmp 8)⟩,
                ⟨(some 49), none, .call 64 [(.tmp 48)]⟩,
                ⟨(some 47), none, .mv (.tmp 49)⟩,
                ⟨(some 50), none, .ext (.tmp 47) 0⟩,
                ⟨(some 51), none, .ext (.tmp 47) 1⟩,
                ⟨(some 9), none, .new 40 (Go.Value.agg #[(Go.Value.int Go.IntKind.u64 0), (Go.Value.int Go.IntKind.u64 0), (Go.Value.bool false)])⟩,
                ⟨none, none, .st (.tmp 9) (.tmp 50) 3⟩,
                ⟨(some 10), none, .mv (.tmp 51)⟩])
              (.seq (.ops [⟨(some 52), none, .mv (.tmp 10)⟩,
                ⟨(some 53), none, .bin .eql 25 (.tmp 52) (.const (Go.Value.int Go.IntKind.i64 0))⟩,
                ⟨(some 54), none, .mv (.tmp 53)⟩,
                ⟨(some 55), (some (54, true)), .fld (.tmp 9) 2⟩,
                ⟨(some 56), (some (54, true)), .ld (.tmp 55) none⟩,
                ⟨(some 57), none, .pick (.tmp 54) (.tmp 56) (.const (Go.Value.bool false))⟩])
              (.cond (.tmp 57)
                (.ops [⟨(some 58), none, .mv (.tmp 3)⟩,
                  ⟨(some 59), none, .bin .add 3 (.tmp 58) (.const (Go.Value.int Go.IntKind.i64 1))⟩,
                  ⟨(some 3), none, .mv (.tmp 59)⟩])
                (.seq (.ops [⟨(some 60), none, .mv (.tmp 8)⟩,
                  ⟨(some 61), none, .bin .neq 32 (.tmp 60) (.const (Go.Value.int Go.IntKind.u64 0))⟩])
                (.cond (.tmp 61)
                  (.ops [⟨(some 62), none, .mv (.tmp 4)⟩,
                    ⟨(some 63), none, .mv (.tmp 5)⟩,
                    ⟨(some 64), none, .mv (.tmp 4)⟩,
                    ⟨(some 65), none, .mv (.tmp 5)⟩,
                    ⟨(some 66), none, .idx (.tmp 64) (.tmp 65) 1⟩,
                    ⟨(some 67), none, .ld (.tmp 66) none⟩,
                    ⟨(some 68), none, .mv (.tmp 8)⟩,
                    ⟨(some 69), none, .bsl 32 1 1 [(Go.Value.int Go.IntKind.u64 0)] [(0, (.tmp 68))]⟩,
                    ⟨(some 70), none, .app 32 1 8 [(Go.Value.int Go.IntKind.u64 0)] (.tmp 67) (.tmp 69)⟩,
                    ⟨(some 71), none, .idx (.tmp 62) (.tmp 63) 1⟩,
                    ⟨none, none, .st (.tmp 71) (.tmp 70) 1⟩])
                  (.skip)))))))))
            (.ops [⟨(some 72), none, .bin .add 3 (.tmp 37) (.const (Go.Value.int Go.IntKind.i64 1))⟩,
              ⟨(some 37), none, .mv (.tmp 72)⟩])))))))))
      (.ops [⟨(some 73), none, .bin .add 3 (.tmp 29) (.const (Go.Value.int Go.IntKind.i64 1))⟩,
        ⟨(some 29), none, .mv (.tmp 73)⟩])))))))
  (.seq (.drawn [(0, ⟨(some 74), none, .mv (.tmp 0)⟩),
    (1, ⟨(some 75), none, .nilc (.tmp 74)⟩),
    (2, ⟨(some 76), none, .fld (.tmp 75) 2⟩),
    (3, ⟨(some 77), none, .ld (.tmp 76) none⟩),
    (4, ⟨(some 78), none, .mv (.tmp 0)⟩),
    (5, ⟨(some 79), none, .nilc (.tmp 78)⟩),
    (6, ⟨(some 80), none, .fld (.tmp 79) 2⟩),
    (7, ⟨(some 81), none, .ld (.tmp 80) none⟩),
    (8, ⟨(some 82), none, .call 66 [(.tmp 81)]⟩),
    (9, ⟨(some 83), none, .mks 32 1 8 [(Go.Value.int Go.IntKind.u64 0)] (.tmp 82) (.tmp 82)⟩),
    (10, ⟨(some 84), none, .call 65 [(.tmp 77), (.const (Go.Value.int Go.IntKind.i64 0)), (.tmp 83)]⟩)]
    [[], [0], [1], [2], [], [4], [5], [6], [7], [8, 8], [3, 9, 8]]
    [0, 1, 3, 7, 0, 16, 48, 112, 240, 496, 1023] 1792)
  (.seq (.ops [⟨(some 85), none, .mv (.tmp 0)⟩,
    ⟨(some 86), none, .nilc (.tmp 85)⟩,
    ⟨(some 87), none, .fld (.tmp 86) 3⟩,
    ⟨(some 88), none, .ld (.tmp 87) none⟩,
    ⟨(some 89), none, .call 67 [(.tmp 88), (.const (Go.Value.int Go.IntKind.i64 0)), (.const (Go.Value.int Go.IntKind.u64 0))]⟩])
  (.seq (.seq (.ops [⟨(some 90), none, .mv (.tmp 4)⟩,
    ⟨(some 91), none, .lenS (.tmp 90)⟩,
    ⟨(some 92), none, .mv (.const (Go.Value.int Go.IntKind.i64 0))⟩])
  (.block 4 (.loop (.seq (.ops [⟨(some 93), none, .bin .lss 3 (.tmp 92) (.tmp 91)⟩])
      (.seq (.cond (.tmp 93)
        (.skip)
        (.exit 4))
      (.seq (.block 5 (.seq (.ops [⟨(some 94), none, .mv (.tmp 92)⟩,
          ⟨(some 95), none, .idx (.tmp 90) (.tmp 92) 1⟩,
          ⟨(some 96), none, .ld (.tmp 95) none⟩,
          ⟨(some 11), none, .mv (.tmp 94)⟩,
          ⟨(some 12), none, .mv (.tmp 96)⟩])
        (.seq (.ops [⟨(some 97), none, .mv (.tmp 11)⟩,
          ⟨(some 13), none, .mv (.tmp 97)⟩])
        (.seq (.ops [⟨(some 98), none, .mv (.tmp 12)⟩,
          ⟨(some 99), none, .lenS (.tmp 98)⟩,
          ⟨(some 100), none, .mv (.const (Go.Value.int Go.IntKind.i64 0))⟩])
        (.block 6 (.loop (.seq (.ops [⟨(some 101), none, .bin .lss 3 (.tmp 100) (.tmp 99)⟩])
            (.seq (.cond (.tmp 101)
              (.skip)
              (.exit 6))
            (.seq (.block 7 (.seq (.ops [⟨(some 102), none, .mv (.tmp 100)⟩,
                ⟨(some 103), none, .idx (.tmp 98) (.tmp 100) 1⟩,
                ⟨(some 104), none, .ld (.tmp 103) none⟩,
                ⟨(some 14), none, .mv (.tmp 102)⟩,
                ⟨(some 15), none, .mv (.tmp 104)⟩])
              (.seq (.seq (.ops [⟨(some 105), none, .mv (.tmp 14)⟩,
                ⟨(some 106), none, .bin .gtr 3 (.tmp 105) (.const (Go.Value.int Go.IntKind.i64 0))⟩,
                ⟨(some 107), none, .mv (.tmp 106)⟩,
                ⟨(some 108), (some (107, true)), .mv (.tmp 14)⟩,
                ⟨(some 109), (some (107, true)), .bin .rem 3 (.tmp 108) (.const (Go.Value.int Go.IntKind.i64 7))⟩,
                ⟨(some 110), (some (107, true)), .bin .eql 3 (.tmp 109) (.const (Go.Value.int Go.IntKind.i64 0))⟩,
                ⟨(some 111), none, .pick (.tmp 107) (.tmp 110) (.const (Go.Value.bool false))⟩])
              (.cond (.tmp 111)
                (.seq (.ops [⟨(some 113), none, .mv (.tmp 0)⟩,
                  ⟨(some 114), none, .call 25 [(.tmp 113)]⟩,
                  ⟨(some 112), none, .mv (.tmp 114)⟩,
                  ⟨(some 115), none, .ext (.tmp 112) 0⟩,
                  ⟨(some 116), none, .ext (.tmp 112) 1⟩,
                  ⟨(some 16), none, .mv (.tmp 115)⟩,
                  ⟨(some 17), none, .mv (.tmp 116)⟩])
                (.seq (.ops [⟨(some 117), none, .mv (.tmp 0)⟩,
                  ⟨(some 118), none, .nilc (.tmp 117)⟩,
                  ⟨(some 119), none, .fld (.tmp 118) 2⟩,
                  ⟨(some 120), none, .ld (.tmp 119) none⟩,
                  ⟨(some 121), none, .mv (.tmp 13)⟩,
                  ⟨(some 122), none, .bin .mul 3 (.tmp 121) (.const (Go.Value.int Go.IntKind.i64 8))⟩,
                  ⟨(some 123), none, .bin .add 3 (.tmp 122) (.const (Go.Value.int Go.IntKind.i64 7))⟩,
                  ⟨(some 124), none, .mv (.tmp 16)⟩,
                  ⟨(some 125), none, .conv Go.IntKind.u64 (.tmp 124)⟩,
                  ⟨(some 126), none, .bin .add 32 (.tmp 125) (.const (Go.Value.int Go.IntKind.u64 1))⟩,
                  ⟨(some 127), none, .call 67 [(.tmp 120), (.tmp 123), (.tmp 126)]⟩])
                (.ops [⟨(some 128), none, .mv (.tmp 16)⟩,
                  ⟨(some 13), none, .mv (.tmp 128)⟩])))
                (.skip)))
              (.ops [⟨(some 129), none, .mv (.tmp 0)⟩,
                ⟨(some 130), none, .nilc (.tmp 129)⟩,
                ⟨(some 131), none, .fld (.tmp 130) 2⟩,
                ⟨(some 132), none, .ld (.tmp 131) none⟩,
                ⟨(some 133), none, .mv (.tmp 13)⟩,
                ⟨(some 134), none, .bin .mul 3 (.tmp 133) (.const (Go.Value.int Go.IntKind.i64 8))⟩,
                ⟨(some 135), none, .mv (.tmp 14)⟩,
                ⟨(some 136), none, .bin .rem 3 (.tmp 135) (.const (Go.Value.int Go.IntKind.i64 7))⟩,
                ⟨(some 137), none, .bin .add 3 (.tmp 134) (.tmp 136)⟩,
                ⟨(some 138), none, .mv (.tmp 15)⟩,
                ⟨(some 139), none, .call 67 [(.tmp 132), (.tmp 137), (.tmp 138)]⟩]))))
            (.ops [⟨(some 140), none, .bin .add 3 (.tmp 100) (.const (Go.Value.int Go.IntKind.i64 1))⟩,
              ⟨(some 100), none, .mv (.tmp 140)⟩]))))))))))
      (.ops [⟨(some 141), none, .bin .add 3 (.tmp 92) (.const (Go.Value.int Go.IntKind.i64 1))⟩,
        ⟨(some 92), none, .mv (.tmp 141)⟩])))))))
  (.seq (.ops [⟨(some 142), none, .mv (.tmp 3)⟩,
    ⟨(some 2), none, .mv (.tmp 142)⟩])
  (.ret)))))))))
theorem is_index_Index_Drop : FnIs Try.prog F.index_Index_Drop X.index_Index_Drop 143 [.tmp 2] := ⟨by kernel_rfl⟩

-- loop (inner ones first): [0, 1, 5]
/-- (*haycroft/haycroftref17.Index).Chain: function 73 -/
abbrev F.ref17_Index_Chain : FuncId := 73
def X.ref17_Index_Chain : X :=
  .seq (.ops [⟨(some 4), none, .mv (.const (Go.Value.slice none 0 0))⟩])
  (.seq (.ops [⟨(some 6), none, .bsl 3 1 0 [(Go.Value.int Go.IntKind.i64 0)] []⟩,
    ⟨(some 5), none, .mv (.tmp 6)⟩])
  (.seq (.seq (.ops [⟨(some 7), none, .mv (.tmp 1)⟩,
    ⟨(some 8), none, .bin .lss 3 (.tmp 7) (.const (Go.Value.int Go.IntKind.i64 0))⟩,
    ⟨(some 9), none, .mv (.tmp 8)⟩,
    ⟨(some 10), (some (9, false)), .mv (.tmp 1)⟩,
    ⟨(some 11), (some (9, false)), .mv (.tmp 0)⟩,
    ⟨(some 12), (some (9, false)), .nilc (.tmp 11)⟩,
    ⟨(some 13), (some (9, false)), .fld (.tmp 12) 2⟩,
    ⟨(some 14), (some (9, false)), .ld (.tmp 13) none⟩,
    ⟨(some 15), (some (9, false)), .lenS (.tmp 14)⟩,
    ⟨(some 16), (some (9, false)), .bin .geq 3 (.tmp 10) (.tmp 15)⟩,
    ⟨(some 17), none, .pick (.tmp 9) (.const (Go.Value.bool true)) (.tmp 16)⟩])
  (.cond (.tmp 17)
    (.seq (.ops [⟨(some 18), none, .mv (.tmp 5)⟩,
      ⟨(some 4), none, .mv (.tmp 18)⟩])
    (.ret))
    (.skip)))
  (.seq (.ops [⟨(some 19), none, .mv (.tmp 5)⟩,
    ⟨(some 20), none, .mv (.tmp 1)⟩,
    ⟨(some 21), none, .bsl 3 1 1 [(Go.Value.int Go.IntKind.i64 0)] [(0, (.tmp 20))]⟩,
    ⟨(some 22), none, .app 3 1 8 [(Go.Value.int Go.IntKind.i64 0)] (.tmp 19) (.tmp 21)⟩,
    ⟨(some 5), none, .mv (.tmp 22)⟩])
  (.seq (.block 0 (.loop (.seq (.seq (.ops [⟨(some 23), none, .mv (.tmp 0)⟩,
        ⟨(some 24), none, .nilc (.tmp 23)⟩,
        ⟨(some 25), none, .fld (.tmp 24) 2⟩,
        ⟨(some 26), none, .ld (.tmp 25) none⟩,
        ⟨(some 27), none, .mv (.tmp 1)⟩,
        ⟨(some 28), none, .idx (.tmp 26) (.tmp 27) 8⟩,
        ⟨(some 29), none, .ixp (.tmp 28) (.const (Go.Value.int Go.IntKind.i64 7)) 8 1⟩,
        ⟨(some 30), none, .ld (.tmp 29) none⟩,
        ⟨(some 31), none, .bin .gtr 32 (.tmp 30) (.const (Go.Value.int Go.IntKind.u64 0))⟩,
        ⟨(some 32), none, .mv (.tmp 31)⟩,
        ⟨(some 33), (some (32, true)), .mv (.tmp 5)⟩,
        ⟨(some 34), (some (32, true)), .lenS (.tmp 33)⟩,
        ⟨(some 35), (some (32, true)), .mv (.tmp 0)⟩,
        ⟨(some 36), (some (32, true)), .nilc (.tmp 35)⟩,
        ⟨(some 37), (some (32, true)), .fld (.tmp 36) 2⟩,
        ⟨(some 38), (some (32, true)), .ld (.tmp 37) none⟩,
        ⟨(some 39), (some (32, true)), .lenS (.tmp 38)⟩,
        ⟨(some 40), (some (32, true)), .bin .leq 3 (.tmp 34) (.tmp 39)⟩,
        ⟨(some 41), none, .pick (.tmp 32) (.tmp 40) (.const (Go.Value.bool false))⟩])
      (.cond (.tmp 41)
        (.skip)
        (.exit 0)))
      (.block 1 (.seq (.ops [⟨(some 42), none, .mv (.tmp 0)⟩,
          ⟨(some 43), none, .nilc (.tmp 42)⟩,
          ⟨(some 44), none, .fld (.tmp 43) 2⟩,
          ⟨(some 45), none, .ld (.tmp 44) none⟩,
          ⟨(some 46), none, .mv (.tmp 1)⟩,
          ⟨(some 47), none, .idx (.tmp 45) (.tmp 46) 8⟩,
          ⟨(some 48), none, .ixp (.tmp 47) (.const (Go.Value.int Go.IntKind.i64 7)) 8 1⟩,
          ⟨(some 49), none, .ld (.tmp 48) none⟩,
          ⟨(some 50), none, .conv Go.IntKind.i64 (.tmp 49)⟩,
          ⟨(some 51), none, .bin .sub 3 (.tmp 50) (.const (Go.Value.int Go.IntKind.i64 1))⟩,
          ⟨(some 1), none, .mv (.tmp 51)⟩])
        (.ops [⟨(some 52), none, .mv (.tmp 5)⟩,
          ⟨(some 53), none, .mv (.tmp 1)⟩,
          ⟨(some 54), none, .bsl 3 1 1 [(Go.Value.int Go.IntKind.i64 0)] [(0, (.tmp 53))]⟩,
          ⟨(some 55), none, .app 3 1 8 [(Go.Value.int Go.IntKind.i64 0)] (.tmp 52) (.tmp 54)⟩,
          ⟨(some 5), none, .mv (.tmp 55)⟩]))))))
  (.seq (.ops [⟨(some 56), none, .mv (.tmp 5)⟩,
    ⟨(some 4), none, .mv (.tmp 56)⟩])
  (.ret))))))
theorem is_ref17_Index_Chain : FnIs Try.prog F.ref17_Index_Chain X.ref17_Index_Chain 57 [.tmp 4] := ⟨by kernel_rfl⟩

-- loop (inner ones first): [0, 5, 6, 7, 8]
-- loop (inner ones first): [0, 5, 6, 7]
/-- (*haycroft/haycroftref17.Index).Entries: function 18 -/
abbrev F.ref17_Index_Entries : FuncId := 18
def X.ref17_Index_Entries : X :=
  .seq (.ops [⟨(some 4), none, .mv (.const (Go.Value.slice none 0 0))⟩])
  (.seq (.ops [⟨(some 9), none, .bsl 32 1 0 [(Go.Value.int Go.IntKind.u64 0)] []⟩,
    ⟨(some 5), none, .mv (.tmp 9)⟩])
  (.seq (.ops [⟨(some 10), none, .mv (.tmp 0)⟩,
    ⟨(some 11), none, .mv (.tmp 1)⟩,
    ⟨(some 12), none, .call 73 [(.tmp 10), (.tmp 11)]⟩,
    ⟨(some 6), none, .mv (.tmp 12)⟩])
  (.seq (.seq (.ops [⟨(some 7), none, .mv (.const (Go.Value.int Go.IntKind.i64 0))⟩])
  (.block 0 (.loop (.seq (.seq (.ops [⟨(some 13), none, .mv (.tmp 7)⟩,
        ⟨(some 14), none, .mv (.tmp 6)⟩,
        ⟨(some 15), none, .lenS (.tmp 14)⟩,
        ⟨(some 16), none, .bin .lss 3 (.tmp 13) (.tmp 15)⟩])
      (.cond (.tmp 16)
        (.skip)
        (.exit 0)))
      (.seq (.block 1 (.seq (.ops [⟨(some 8), none, .mv (.const (Go.Value.int Go.IntKind.i64 0))⟩])
        (.block 2 (.loop (.seq (.seq (.ops [⟨(some 19), none, .mv (.tmp 8)⟩,
              ⟨(some 20), none, .bin .lss 3 (.tmp 19) (.const (Go.Value.int Go.IntKind.i64 7))⟩])
            (.cond (.tmp 20)
              (.skip)
              (.exit 2)))
            (.seq (.block 3 (.seq (.drawn [(0, ⟨(some 23), none, .mv (.tmp 0)⟩),
                (1, ⟨(some 24), none, .nilc (.tmp 23)⟩),
                (2, ⟨(some 25), none, .fld (.tmp 24) 2⟩),
                (3, ⟨(some 26), none, .ld (.tmp 25) none⟩),
                (4, ⟨(some 27), none, .mv (.tmp 6)⟩),
                (5, ⟨(some 28), none, .mv (.tmp 7)⟩),
                (6, ⟨(some 29), none, .idx (.tmp 27) (.tmp 28) 1⟩),
                (7, ⟨(some 30), none, .ld (.tmp 29) none⟩),
                (8, ⟨(some 31), none, .mv (.tmp 8)⟩),
                (9, ⟨(some 32), none, .idx (.tmp 26) (.tmp 30) 8⟩),
                (10, ⟨(some 33), none, .ixp (.tmp 32) (.tmp 31) 8 1⟩),
                (11, ⟨(some 34), none, .ld (.tmp 33) none⟩),
                (12, ⟨(some 35), none, .bin .gtr 32 (.tmp 34) (.const (Go.Value.int Go.IntKind.u64 0))⟩)]
                [[], [0], [1], [2], [], [], [4, 5], [6], [], [3, 7], [9, 8], [10], [11]]
                [0, 1, 3, 7, 0, 0, 48, 112, 0, 255, 1023, 2047, 4095] 0)
              (.cond (.tmp 35)
                (.drawn [(0, ⟨(some 36), none, .mv (.tmp 5)⟩),
                  (1, ⟨(some 37), none, .mv (.tmp 0)⟩),
                  (2, ⟨(some 38), none, .nilc (.tmp 37)⟩),
                  (3, ⟨(some 39), none, .fld (.tmp 38) 2⟩),
                  (4, ⟨(some 40), none, .ld (.tmp 39) none⟩),
                  (5, ⟨(some 41), none, .mv (.tmp 6)⟩),
                  (6, ⟨(some 42), none, .mv (.tmp 7)⟩),
                  (7, ⟨(some 43), none, .idx (.tmp 41) (.tmp 42) 1⟩),
                  (8, ⟨(some 44), none, .ld (.tmp 43) none⟩),
                  (9, ⟨(some 45), none, .mv (.tmp 8)⟩),
                  (10, ⟨(some 46), none, .idx (.tmp 40) (.tmp 44) 8⟩),
                  (11, ⟨(some 47), none, .ixp (.tmp 46) (.tmp 45) 8 1⟩),
                  (12, ⟨(some 48), none, .ld (.tmp 47) none⟩),
                  (13, ⟨(some 49), none, .bsl 32 1 1 [(Go.Value.int Go.IntKind.u64 0)] [(0, (.tmp 48))]⟩),
                  (14, ⟨(some 50), none, .app 32 1 8 [(Go.Value.int Go.IntKind.u64 0)] (.tmp 36) (.tmp 49)⟩),
                  (15, ⟨(some 5), none, .mv (.tmp 50)⟩)]
                  [[], [], [1], [2], [3], [], [], [5, 6], [7], [], [4, 8], [10, 9], [11], [12], [0, 13], [14, 14, 0, 1, 2, 3, 4, 5, 6, 7, 8, 9, 10, 11, 12, 13, 14]]
                  [0, 0, 2, 6, 14, 0, 0, 96, 224, 0, 510, 2046, 4094, 8190, 16383, 32767] 24576)
                (.skip))))
            (.ops [⟨(some 21), none, .mv (.tmp 8)⟩,
              ⟨(some 22), none, .bin .add 3 (.tmp 21) (.const (Go.Value.int Go.IntKind.i64 1))⟩,
              ⟨(some 8), none, .mv (.tmp 22)⟩])))))))
      (.ops [⟨(some 17), none, .mv (.tmp 7)⟩,
        ⟨(some 18), none, .bin .add 3 (.tmp 17) (.const (Go.Value.int Go.IntKind.i64 1))⟩,
        ⟨(some 7), none, .mv (.tmp 18)⟩]))))))
  (.seq (.ops [⟨(some 51), none, .mv (.tmp 5)⟩,
    ⟨(some 4), none, .mv (.tmp 51)⟩])
  (.ret)))))
theorem is_ref17_Index_Entries : FnIs Try.prog F.ref17_Index_Entries X.ref17_Index_Entries 52 [.tmp 4] := ⟨by kernel_rfl⟩

-- loop (inner ones first): [0, 3, 4, 5, 6, 7, 8, 9, 10]
-- loop (inner ones first): [0, 3, 4, 5, 6]
/-- (*haycroft/haycroftref17.Index).Drop: function 16 -/
abbrev F.ref17_Index_Drop : FuncId := 16
def X.ref17_Index_Drop : X :=
  .seq (.ops [⟨(some 2), none, .mv (.const (Go.Value.int Go.IntKind.i64 0))⟩])
  (.seq (.ops [⟨(some 3), none, .mv (.const (Go.Value.int Go.IntKind.i64 0))⟩])
  (.seq (.ops [⟨(some 12), none, .mv (.tmp 0)⟩,
    ⟨(some 13), none, .nilc (.tmp 12)⟩,
    ⟨(some 14), none, .fld (.tmp 13) 2⟩,
    ⟨(some 15), none, .ld (.tmp 14) none⟩,
    ⟨(some 16), none, .lenS (.tmp 15)⟩,
    ⟨(some 17), none, .mks 129 8 64 [(Go.Value.int Go.IntKind.u64 0), (Go.Value.int Go.IntKind.u64 0), (Go.Value.int Go.IntKind.u64 0), (Go.Value.int Go.IntKind.u64 0), (Go.Value.int Go.IntKind.u64 0), (Go.Value.int Go.IntKind.u64 0), (Go.Value.int Go.IntKind.u64 0), (Go.Value.int Go.IntKind.u64 0)] (.tmp 16) (.tmp 16)⟩,
    ⟨(some 4), none, .mv (.tmp 17)⟩])
  (.seq (.ops [⟨(some 5), none, .mv (.const (Go.Value.int Go.IntKind.i64 0))⟩])
  (.seq (.seq (.ops [⟨(some 6), none, .mv (.const (Go.Value.int Go.IntKind.i64 0))⟩])
  (.block 0 (.loop (.seq (.seq (.ops [⟨(some 18), none, .mv (.tmp 6)⟩,
        ⟨(some 19), none, .mv (.tmp 0)⟩,
        ⟨(some 20), none, .nilc (.tmp 19)⟩,
        ⟨(some 21), none, .fld (.tmp 20) 0⟩,
        ⟨(some 22), none, .ld (.tmp 21) none⟩,
        ⟨(some 23), none, .bin .lss 3 (.tmp 18) (.tmp 22)⟩])
      (.cond (.tmp 23)
        (.skip)
        (.exit 0)))
      (.seq (.block 1 (.seq (.ops [⟨(some 26), none, .mv (.tmp 0)⟩,
          ⟨(some 27), none, .mv (.tmp 6)⟩,
          ⟨(some 28), none, .call 18 [(.tmp 26), (.tmp 27)]⟩,
          ⟨(some 7), none, .mv (.tmp 28)⟩])
        (.seq (.ops [⟨(some 29), none, .mv (.tmp 6)⟩,
          ⟨(some 8), none, .mv (.tmp 29)⟩])
        (.seq (.ops [⟨(some 9), none, .mv (.const (Go.Value.int Go.IntKind.i64 0))⟩])
        (.seq (.ops [⟨(some 10), none, .mv (.const (Go.Value.int Go.IntKind.i64 0))⟩])
        (.block 2 (.loop (.seq (.seq (.ops [⟨(some 30), none, .mv (.tmp 10)⟩,
              ⟨(some 31), none, .mv (.tmp 7)⟩,
              ⟨(some 32), none, .lenS (.tmp 31)⟩,
              ⟨(some 33), none, .bin .lss 3 (.tmp 30) (.tmp 32)⟩])
            (.cond (.tmp 33)
              (.skip)
              (.exit 2)))
            (.seq (.block 3 (.seq (.seq (.ops [⟨(some 36), none, .mv (.tmp 7)⟩,
                ⟨(some 37), none, .mv (.tmp 10)⟩,
                ⟨(some 38), none, .idx (.tmp 36) (.tmp 37) 1⟩,
                ⟨(some 39), none, .ld (.tmp 38) none⟩,
                ⟨(some 40), none, .bin .quo 32 (.tmp 39) (.const (Go.Value.int Go.IntKind.u64 4611686018427387904))⟩,
                ⟨(some 41), none, .bin .rem 32 (.tmp 40) (.const (Go.Value.int Go.IntKind.u64 2))⟩,
                ⟨(some 42), none, .bin .eql 32 (.tmp 41) (.const (Go.Value.int Go.IntKind.u64 1))⟩])
              (.cond (.tmp 42)
                (.seq (.ops [⟨(some 43), none, .mv (.tmp 3)⟩,
                  ⟨(some 44), none, .bin .add 3 (.tmp 43) (.const (Go.Value.int Go.IntKind.i64 1))⟩,
                  ⟨(some 3), none, .mv (.tmp 44)⟩])
                (.exit 3))
                (.skip)))
              (.seq (.seq (.ops [⟨(some 45), none, .mv (.tmp 9)⟩,
                ⟨(some 46), none, .bin .eql 3 (.tmp 45) (.const (Go.Value.int Go.IntKind.i64 7))⟩])
              (.cond (.tmp 46)
                (.seq (.ops [⟨(some 47), none, .mv (.tmp 0)⟩,
                  ⟨(some 48), none, .nilc (.tmp 47)⟩,
                  ⟨(some 49), none, .fld (.tmp 48) 0⟩,
                  ⟨(some 50), none, .ld (.tmp 49) none⟩,
                  ⟨(some 51), none, .mv (.tmp 5)⟩,
                  ⟨(some 52), none, .bin .add 3 (.tmp 50) (.tmp 51)⟩,
                  ⟨(some 11), none, .mv (.tmp 52)⟩])
                (.seq (.ops [⟨(some 53), none, .mv (.tmp 5)⟩,
                  ⟨(some 54), none, .bin .add 3 (.tmp 53) (.const (Go.Value.int Go.IntKind.i64 1))⟩,
                  ⟨(some 5), none, .mv (.tmp 54)⟩])
                (.seq (.ops [⟨(some 55), none, .mv (.tmp 4)⟩,
                  ⟨(some 56), none, .mv (.tmp 8)⟩,
                  ⟨(some 57), none, .mv (.tmp 11)⟩,
                  ⟨(some 58), none, .conv Go.IntKind.u64 (.tmp 57)⟩,
                  ⟨(some 59), none, .bin .add 32 (.tmp 58) (.const (Go.Value.int Go.IntKind.u64 1))⟩,
                  ⟨(some 60), none, .idx (.tmp 55) (.tmp 56) 8⟩,
                  ⟨(some 61), none, .ixp (.tmp 60) (.const (Go.Value.int Go.IntKind.i64 7)) 8 1⟩,
                  ⟨none, none, .st (.tmp 61) (.tmp 59) 1⟩])
                (.seq (.ops [⟨(some 62), none, .mv (.tmp 11)⟩,
                  ⟨(some 8), none, .mv (.tmp 62)⟩])
                (.ops [⟨(some 9), none, .mv (.const (Go.Value.int Go.IntKind.i64 0))⟩])))))
                (.skip)))
              (.seq (.drawn [(0, ⟨(some 63), none, .mv (.tmp 4)⟩),
                (1, ⟨(some 64), none, .mv (.tmp 8)⟩),
                (2, ⟨(some 65), none, .mv (.tmp 9)⟩),
                (3, ⟨(some 66), none, .mv (.tmp 7)⟩),
                (4, ⟨(some 67), none, .mv (.tmp 10)⟩),
                (5, ⟨(some 68), none, .idx (.tmp 66) (.tmp 67) 1⟩),
                (6, ⟨(some 69), none, .ld (.tmp 68) none⟩),
                (7, ⟨(some 70), none, .idx (.tmp 63) (.tmp 64) 8⟩),
                (8, ⟨(some 71), none, .ixp (.tmp 70) (.tmp 65) 8 1⟩),
                (9, ⟨none, none, .st (.tmp 71) (.tmp 69) 1⟩)]
                [[], [], [], [], [], [3, 4], [5], [0, 1], [7, 2, 0, 1, 2, 3, 4, 5, 6], [8, 6, 0, 1, 2, 3, 4, 5, 6]]
                [0, 0, 0, 0, 0, 24, 56, 3, 255, 511] 512)
              (.ops [⟨(some 72), none, .mv (.tmp 9)⟩,
                ⟨(some 73), none, .bin .add 3 (.tmp 72) (.const (Go.Value.int Go.IntKind.i64 1))⟩,
                ⟨(some 9), none, .mv (.tmp 73)⟩])))))
            (.ops [⟨(some 34), none, .mv (.tmp 10)⟩,
              ⟨(some 35), none, .bin .add 3 (.tmp 34) (.const (Go.Value.int Go.IntKind.i64 1))⟩,
              ⟨(some 10), none, .mv (.tmp 35)⟩]))))))))))
      (.ops [⟨(some 24), none, .mv (.tmp 6)⟩,
        ⟨(some 25), none, .bin .add 3 (.tmp 24) (.const (Go.Value.int Go.IntKind.i64 1))⟩,
        ⟨(some 6), none, .mv (.tmp 25)⟩]))))))
  (.seq (.ops [⟨(some 74), none, .mv (.tmp 0)⟩,
    ⟨(some 75), none, .mv (.tmp 4)⟩,
    ⟨(some 76), none, .nilc (.tmp 74)⟩,
    ⟨(some 77), none, .fld (.tmp 76) 2⟩,
    ⟨none, none, .st (.tmp 77) (.tmp 75) 1⟩])
  (.seq (.ops [⟨(some 78), none, .mv (.tmp 0)⟩,
    ⟨(some 79), none, .mv (.tmp 5)⟩,
    ⟨(some 80), none, .nilc (.tmp 78)⟩,
    ⟨(some 81), none, .fld (.tmp 80) 3⟩,
    ⟨none, none, .st (.tmp 81) (.tmp 79) 1⟩])
  (.seq (.ops [⟨(some 82), none, .mv (.tmp 3)⟩,
    ⟨(some 2), none, .mv (.tmp 82)⟩])
  (.ret))))))))
theorem is_ref17_Index_Drop : FnIs Try.prog F.ref17_Index_Drop X.ref17_Index_Drop 83 [.tmp 2] := ⟨by kernel_rfl⟩

/-- haycroft/haycroftref03.Bucket: function 20 -/
abbrev F.ref03_Bucket : FuncId := 20
def X.ref03_Bucket : X :=
  .seq (.ops [⟨(some 4), none, .mv (.const (Go.Value.int Go.IntKind.i64 0))⟩])
  (.seq (.seq (.ops [⟨(some 5), none, .mv (.tmp 1)⟩,
    ⟨(some 6), none, .call 61 [(.tmp 5)]⟩,
    ⟨(some 7), none, .un .not (.tmp 6)⟩])
  (.cond (.tmp 7)
    (.seq (.ops [⟨(some 4), none, .mv (.const (Go.Value.int Go.IntKind.i64 0))⟩])
    (.ret))
    (.skip)))
  (.seq (.ops [⟨(some 8), none, .mv (.tmp 0)⟩,
    ⟨(some 9), none, .mv (.tmp 1)⟩,
    ⟨(some 10), none, .conv Go.IntKind.u64 (.tmp 9)⟩,
    ⟨(some 11), none, .bin .rem 32 (.tmp 8) (.tmp 10)⟩,
    ⟨(some 12), none, .conv Go.IntKind.i64 (.tmp 11)⟩,
    ⟨(some 4), none, .mv (.tmp 12)⟩])
  (.ret)))
theorem is_ref03_Bucket : FnIs Try.prog F.ref03_Bucket X.ref03_Bucket 13 [.tmp 4] := ⟨by kernel_rfl⟩

/-- haycroft/haycroftref16.Right: function 74 -/
abbrev F.ref16_Right : FuncId := 74
def X.ref16_Right : X :=
  .seq (.ops [⟨(some 1), none, .box 40 (.tmp 0)⟩,
    ⟨(some 2), none, .mv (.const (Go.Value.bool false))⟩])
  (.seq (.seq (.ops [⟨(some 3), none, .fld (.tmp 1) 0⟩,
    ⟨(some 4), none, .ld (.tmp 3) none⟩,
    ⟨(some 5), none, .bin .geq 32 (.tmp 4) (.const (Go.Value.int Go.IntKind.u64 281474976710656))⟩,
    ⟨(some 6), none, .mv (.tmp 5)⟩,
    ⟨(some 7), (some (6, false)), .fld (.tmp 1) 1⟩,
    ⟨(some 8), (some (6, false)), .ld (.tmp 7) none⟩,
    ⟨(some 9), (some (6, false)), .bin .geq 32 (.tmp 8) (.const (Go.Value.int Go.IntKind.u64 16384))⟩,
    ⟨(some 10), none, .pick (.tmp 6) (.const (Go.Value.bool true)) (.tmp 9)⟩])
  (.cond (.tmp 10)
    (.seq (.ops [⟨(some 2), none, .mv (.const (Go.Value.bool false))⟩])
    (.ret))
    (.skip)))
  (.seq (.ops [⟨(some 11), none, .fld (.tmp 1) 2⟩,
    ⟨(some 12), none, .ld (.tmp 11) none⟩,
    ⟨(some 13), none, .mv (.tmp 12)⟩,
    ⟨(some 14), (some (13, true)), .fld (.tmp 1) 0⟩,
    ⟨(some 15), (some (13, true)), .ld (.tmp 14) none⟩,
    ⟨(some 16), (some (13, true)), .bin .eql 32 (.tmp 15) (.const (Go.Value.int Go.IntKind.u64 0))⟩,
    ⟨(some 17), none, .pick (.tmp 13) (.tmp 16) (.const (Go.Value.bool false))⟩,
    ⟨(some 18), none, .mv (.tmp 17)⟩,
    ⟨(some 19), (some (18, false)), .fld (.tmp 1) 2⟩,
    ⟨(some 20), (some (18, false)), .ld (.tmp 19) none⟩,
    ⟨(some 21), (some (18, false)), .un .not (.tmp 20)⟩,
    ⟨(some 22), (some (18, false)), .mv (.tmp 21)⟩,
    ⟨(some 23), (some (22, true)), .fld (.tmp 1) 0⟩,
    ⟨(some 24), (some (22, true)), .ld (.tmp 23) none⟩,
    ⟨(some 25), (some (22, true)), .bin .gtr 32 (.tmp 24) (.const (Go.Value.int Go.IntKind.u64 0))⟩,
    ⟨(some 26), (some (18, false)), .pick (.tmp 22) (.tmp 25) (.const (Go.Value.bool false))⟩,
    ⟨(some 27), none, .pick (.tmp 18) (.const (Go.Value.bool true)) (.tmp 26)⟩,
    ⟨(some 2), none, .mv (.tmp 27)⟩])
  (.ret)))
theorem is_ref16_Right : FnIs Try.prog F.ref16_Right X.ref16_Right 28 [.tmp 2] := ⟨by kernel_rfl⟩

/-- haycroft/haycroftref16.Unpack: function 19 -/
abbrev F.ref16_Unpack : FuncId := 19
def X.ref16_Unpack : X :=
  .seq (.ops [⟨(some 2), none, .new 40 (Go.Value.agg #[(Go.Value.int Go.IntKind.u64 0), (Go.Value.int Go.IntKind.u64 0), (Go.Value.bool false)])⟩,
    ⟨(some 3), none, .mv (.const (Go.Value.int Go.IntKind.i64 0))⟩])
  (.seq (.seq (.ops [⟨(some 5), none, .mv (.tmp 0)⟩,
    ⟨(some 6), none, .bin .eql 32 (.tmp 5) (.const (Go.Value.int Go.IntKind.u64 0))⟩])
  (.cond (.tmp 6)
    (.seq (.ops [⟨(some 7), none, .bld [(Go.Value.int Go.IntKind.u64 0), (Go.Value.int Go.IntKind.u64 0), (Go.Value.bool false)] []⟩,
      ⟨none, none, .st (.tmp 2) (.tmp 7) 3⟩,
      ⟨(some 3), none, .mv (.const (Go.Value.int Go.IntKind.i64 7))⟩])
    (.ret))
    (.skip)))
  (.seq (.ops [⟨(some 8), none, .mv (.tmp 0)⟩,
    ⟨(some 9), none, .bin .rem 32 (.tmp 8) (.const (Go.Value.int Go.IntKind.u64 281474976710656))⟩,
    ⟨(some 10), none, .mv (.tmp 0)⟩,
    ⟨(some 11), none, .bin .quo 32 (.tmp 10) (.const (Go.Value.int Go.IntKind.u64 281474976710656))⟩,
    ⟨(some 12), none, .bin .rem 32 (.tmp 11) (.const (Go.Value.int Go.IntKind.u64 16384))⟩,
    ⟨(some 13), none, .mv (.tmp 0)⟩,
    ⟨(some 14), none, .bin .quo 32 (.tmp 13) (.const (Go.Value.int Go.IntKind.u64 4611686018427387904))⟩,
    ⟨(some 15), none, .bin .rem 32 (.tmp 14) (.const (Go.Value.int Go.IntKind.u64 2))⟩,
    ⟨(some 16), none, .bin .eql 32 (.tmp 15) (.const (Go.Value.int Go.IntKind.u64 1))⟩,
    ⟨(some 17), none, .bld [(Go.Value.int Go.IntKind.u64 0), (Go.Value.int Go.IntKind.u64 0), (Go.Value.bool false)] [(0, 1, (.tmp 9)), (1, 1, (.tmp 12)), (2, 1, (.tmp 16))]⟩,
    ⟨(some 4), none, .new 40 (Go.Value.agg #[(Go.Value.int Go.IntKind.u64 0), (Go.Value.int Go.IntKind.u64 0), (Go.Value.bool false)])⟩,
    ⟨none, none, .st (.tmp 4) (.tmp 17) 3⟩])
  (.seq (.seq (.ops [⟨(some 18), none, .mv (.tmp 0)⟩,
    ⟨(some 19), none, .bin .lss 32 (.tmp 18) (.const (Go.Value.int Go.IntKind.u64 9223372036854775808))⟩,
    ⟨(some 20), none, .mv (.tmp 19)⟩,
    ⟨(some 21), (some (20, false)), .ld (.tmp 4) (some 3)⟩,
    ⟨(some 22), (some (20, false)), .call 74 [(.tmp 21)]⟩,
    ⟨(some 23), (some (20, false)), .un .not (.tmp 22)⟩,
    ⟨(some 24), none, .pick (.tmp 20) (.const (Go.Value.bool true)) (.tmp 23)⟩])
  (.cond (.tmp 24)
    (.seq (.ops [⟨(some 25), none, .bld [(Go.Value.int Go.IntKind.u64 0), (Go.Value.int Go.IntKind.u64 0), (Go.Value.bool false)] []⟩,
      ⟨none, none, .st (.tmp 2) (.tmp 25) 3⟩,
      ⟨(some 3), none, .mv (.const (Go.Value.int Go.IntKind.i64 4))⟩])
    (.ret))
    (.skip)))
  (.seq (.ops [⟨(some 26), none, .ld (.tmp 4) (some 3)⟩,
    ⟨none, none, .st (.tmp 2) (.tmp 26) 3⟩,
    ⟨(some 3), none, .mv (.const (Go.Value.int Go.IntKind.i64 0))⟩])
  (.ret)))))
theorem is_ref16_Unpack : FnIs Try.prog F.ref16_Unpack X.ref16_Unpack 27 [.cell 2 40, .tmp 3] := ⟨by kernel_rfl⟩

/-- haycroft/haycroftref03.Tag: function 21 -/
abbrev F.ref03_Tag : FuncId := 21
def X.ref03_Tag : X :=
  .seq (.ops [⟨(some 2), none, .mv (.const (Go.Value.int Go.IntKind.u64 0))⟩])
  (.seq (.ops [⟨(some 3), none, .mv (.tmp 0)⟩,
    ⟨(some 4), none, .bin .quo 32 (.tmp 3) (.const (Go.Value.int Go.IntKind.u64 1125899906842624))⟩,
    ⟨(some 2), none, .mv (.tmp 4)⟩])
  (.ret))
theorem is_ref03_Tag : FnIs Try.prog F.ref03_Tag X.ref03_Tag 5 [.tmp 2] := ⟨by kernel_rfl⟩

-- loop (inner ones first): [0, 1, 4, 5, 6, 7, 8, 9]
-- loop (inner ones first): [0, 1, 4, 5, 6, 7, 8]
/-- (*haycroft/haycroftref17.Index).Look: function 68 -/
abbrev F.ref17_Index_Look : FuncId := 68
def X.ref17_Index_Look : X :=
  .seq (.ops [⟨(some 4), none, .new 46 (Go.Value.agg #[(Go.Value.int Go.IntKind.i64 0), (Go.Value.int Go.IntKind.i64 0), (Go.Value.int Go.IntKind.u64 0), (Go.Value.int Go.IntKind.i64 0)])⟩])
  (.seq (.ops [⟨(some 13), none, .mv (.tmp 0)⟩,
    ⟨(some 14), none, .mv (.tmp 1)⟩,
    ⟨(some 15), none, .mv (.tmp 0)⟩,
    ⟨(some 16), none, .nilc (.tmp 15)⟩,
    ⟨(some 17), none, .fld (.tmp 16) 0⟩,
    ⟨(some 18), none, .ld (.tmp 17) none⟩,
    ⟨(some 19), none, .call 20 [(.tmp 14), (.tmp 18)]⟩,
    ⟨(some 20), none, .call 73 [(.tmp 13), (.tmp 19)]⟩,
    ⟨(some 5), none, .mv (.tmp 20)⟩])
  (.seq (.ops [⟨(some 21), none, .mv (.tmp 5)⟩,
    ⟨(some 22), none, .mv (.tmp 5)⟩,
    ⟨(some 23), none, .lenS (.tmp 22)⟩,
    ⟨(some 24), none, .bin .sub 3 (.tmp 23) (.const (Go.Value.int Go.IntKind.i64 1))⟩,
    ⟨(some 25), none, .idx (.tmp 21) (.tmp 24) 1⟩,
    ⟨(some 26), none, .ld (.tmp 25) none⟩,
    ⟨(some 6), none, .mv (.tmp 26)⟩])
  (.seq (.ops [⟨(some 7), none, .mv (.const (Go.Value.int Go.IntKind.i64 (-1)))⟩])
  (.seq (.seq (.ops [⟨(some 8), none, .mv (.const (Go.Value.int Go.IntKind.i64 0))⟩])
  (.block 0 (.loop (.seq (.seq (.ops [⟨(some 27), none, .mv (.tmp 8)⟩,
        ⟨(some 28), none, .mv (.tmp 5)⟩,
        ⟨(some 29), none, .lenS (.tmp 28)⟩,
        ⟨(some 30), none, .bin .lss 3 (.tmp 27) (.tmp 29)⟩])
      (.cond (.tmp 30)
        (.skip)
        (.exit 0)))
      (.seq (.block 1 (.seq (.ops [⟨(some 9), none, .mv (.const (Go.Value.int Go.IntKind.i64 0))⟩])
        (.block 2 (.loop (.seq (.seq (.ops [⟨(some 33), none, .mv (.tmp 9)⟩,
              ⟨(some 34), none, .bin .lss 3 (.tmp 33) (.const (Go.Value.int Go.IntKind.i64 7))⟩])
            (.cond (.tmp 34)
              (.skip)
              (.exit 2)))
            (.seq (.block 3 (.seq (.drawn [(0, ⟨(some 37), none, .mv (.tmp 0)⟩),
                (1, ⟨(some 38), none, .nilc (.tmp 37)⟩),
                (2, ⟨(some 39), none, .fld (.tmp 38) 2⟩),
                (3, ⟨(some 40), none, .ld (.tmp 39) none⟩),
                (4, ⟨(some 41), none, .mv (.tmp 5)⟩),
                (5, ⟨(some 42), none, .mv (.tmp 8)⟩),
                (6, ⟨(some 43), none, .idx (.tmp 41) (.tmp 42) 1⟩),
                (7, ⟨(some 44), none, .ld (.tmp 43) none⟩),
                (8, ⟨(some 45), none, .mv (.tmp 9)⟩),
                (9, ⟨(some 46), none, .idx (.tmp 40) (.tmp 44) 8⟩),
                (10, ⟨(some 47), none, .ixp (.tmp 46) (.tmp 45) 8 1⟩),
                (11, ⟨(some 48), none, .ld (.tmp 47) none⟩),
                (12, ⟨(some 10), none, .mv (.tmp 48)⟩)]
                [[], [0], [1], [2], [], [], [4, 5], [6], [], [3, 7], [9, 8], [10], [11, 0, 1, 2, 3, 4, 5, 6, 7, 8, 9, 10, 11]]
                [0, 1, 3, 7, 0, 0, 48, 112, 0, 255, 1023, 2047, 4095] 0)
              (.seq (.ops [⟨(some 50), none, .mv (.tmp 10)⟩,
                ⟨(some 51), none, .call 19 [(.tmp 50)]⟩,
                ⟨(some 49), none, .mv (.tmp 51)⟩,
                ⟨(some 52), none, .ext (.tmp 49) 0⟩,
                ⟨(some 53), none, .ext (.tmp 49) 1⟩,
                ⟨(some 11), none, .new 40 (Go.Value.agg #[(Go.Value.int Go.IntKind.u64 0), (Go.Value.int Go.IntKind.u64 0), (Go.Value.bool false)])⟩,
                ⟨none, none, .st (.tmp 11) (.tmp 52) 3⟩,
                ⟨(some 12), none, .mv (.tmp 53)⟩])
              (.seq (.seq (.drawn [(0, ⟨(some 54), none, .mv (.tmp 12)⟩),
                (1, ⟨(some 55), none, .bin .eql 25 (.tmp 54) (.const (Go.Value.int Go.IntKind.i64 0))⟩),
                (2, ⟨(some 56), none, .mv (.tmp 55)⟩),
                (3, ⟨(some 57), (some (56, true)), .fld (.tmp 11) 1⟩),
                (4, ⟨(some 58), (some (56, true)), .ld (.tmp 57) none⟩),
                (5, ⟨(some 59), (some (56, true)), .mv (.tmp 1)⟩),
                (6, ⟨(some 60), (some (56, true)), .call 21 [(.tmp 59)]⟩),
                (7, ⟨(some 61), (some (56, true)), .bin .eql 32 (.tmp 58) (.tmp 60)⟩),
                (8, ⟨(some 62), none, .pick (.tmp 56) (.tmp 61) (.const (Go.Value.bool false))⟩)]
                [[], [0], [1], [2], [3, 2], [2], [5, 2, 2], [4, 6, 2], [2, 7]]
                [0, 1, 3, 7, 15, 7, 39, 127, 255] 64)
              (.cond (.tmp 62)
                (.seq (.ops [⟨(some 63), none, .mv (.tmp 5)⟩,
                  ⟨(some 64), none, .mv (.tmp 8)⟩,
                  ⟨(some 65), none, .idx (.tmp 63) (.tmp 64) 1⟩,
                  ⟨(some 66), none, .ld (.tmp 65) none⟩,
                  ⟨(some 67), none, .bin .mul 3 (.tmp 66) (.const (Go.Value.int Go.IntKind.i64 8))⟩,
                  ⟨(some 68), none, .mv (.tmp 9)⟩,
                  ⟨(some 69), none, .bin .add 3 (.tmp 67) (.tmp 68)⟩,
                  ⟨(some 70), none, .mv (.tmp 10)⟩,
                  ⟨(some 71), none, .mv (.tmp 6)⟩,
                  ⟨(some 72), none, .bld [(Go.Value.int Go.IntKind.i64 0), (Go.Value.int Go.IntKind.i64 0), (Go.Value.int Go.IntKind.u64 0), (Go.Value.int Go.IntKind.i64 0)] [(0, 1, (.const (Go.Value.int Go.IntKind.i64 1))), (1, 1, (.tmp 69)), (2, 1, (.tmp 70)), (3, 1, (.tmp 71))]⟩,
                  ⟨none, none, .st (.tmp 4) (.tmp 72) 4⟩])
                (.ret))
                (.skip)))
              (.seq (.ops [⟨(some 73), none, .mv (.tmp 10)⟩,
                ⟨(some 74), none, .bin .eql 32 (.tmp 73) (.const (Go.Value.int Go.IntKind.u64 0))⟩,
                ⟨(some 75), none, .mv (.tmp 74)⟩,
                ⟨(some 76), (some (75, true)), .mv (.tmp 7)⟩,
                ⟨(some 77), (some (75, true)), .bin .lss 3 (.tmp 76) (.const (Go.Value.int Go.IntKind.i64 0))⟩,
                ⟨(some 78), none, .pick (.tmp 75) (.tmp 77) (.const (Go.Value.bool false))⟩])
              (.cond (.tmp 78)
                (.ops [⟨(some 79), none, .mv (.tmp 5)⟩,
                  ⟨(some 80), none, .mv (.tmp 8)⟩,
                  ⟨(some 81), none, .idx (.tmp 79) (.tmp 80) 1⟩,
                  ⟨(some 82), none, .ld (.tmp 81) none⟩,
                  ⟨(some 83), none, .bin .mul 3 (.tmp 82) (.const (Go.Value.int Go.IntKind.i64 8))⟩,
                  ⟨(some 84), none, .mv (.tmp 9)⟩,
                  ⟨(some 85), none, .bin .add 3 (.tmp 83) (.tmp 84)⟩,
                  ⟨(some 7), none, .mv (.tmp 85)⟩])
                (.skip)))))))
            (.ops [⟨(some 35), none, .mv (.tmp 9)⟩,
              ⟨(some 36), none, .bin .add 3 (.tmp 35) (.const (Go.Value.int Go.IntKind.i64 1))⟩,
              ⟨(some 9), none, .mv (.tmp 36)⟩])))))))
      (.ops [⟨(some 31), none, .mv (.tmp 8)⟩,
        ⟨(some 32), none, .bin .add 3 (.tmp 31) (.const (Go.Value.int Go.IntKind.i64 1))⟩,
        ⟨(some 8), none, .mv (.tmp 32)⟩]))))))
  (.seq (.seq (.ops [⟨(some 86), none, .mv (.tmp 7)⟩,
    ⟨(some 87), none, .bin .geq 3 (.tmp 86) (.const (Go.Value.int Go.IntKind.i64 0))⟩])
  (.cond (.tmp 87)
    (.seq (.ops [⟨(some 88), none, .mv (.tmp 7)⟩,
      ⟨(some 89), none, .mv (.tmp 6)⟩,
      ⟨(some 90), none, .bld [(Go.Value.int Go.IntKind.i64 0), (Go.Value.int Go.IntKind.i64 0), (Go.Value.int Go.IntKind.u64 0), (Go.Value.int Go.IntKind.i64 0)] [(0, 1, (.const (Go.Value.int Go.IntKind.i64 2))), (1, 1, (.tmp 88)), (3, 1, (.tmp 89))]⟩,
      ⟨none, none, .st (.tmp 4) (.tmp 90) 4⟩])
    (.ret))
    (.skip)))
  (.seq (.ops [⟨(some 91), none, .mv (.tmp 6)⟩,
    ⟨(some 92), none, .bld [(Go.Value.int Go.IntKind.i64 0), (Go.Value.int Go.IntKind.i64 0), (Go.Value.int Go.IntKind.u64 0), (Go.Value.int Go.IntKind.i64 0)] [(0, 1, (.const (Go.Value.int Go.IntKind.i64 3))), (3, 1, (.tmp 91))]⟩,
    ⟨none, none, .st (.tmp 4) (.tmp 92) 4⟩])
  (.ret)))))))
theorem is_ref17_Index_Look : FnIs Try.prog F.ref17_Index_Look X.ref17_Index_Look 93 [.cell 4 46] := ⟨by kernel_rfl⟩

/-- haycroft/entry.To: function 84 -/
abbrev F.entry_To : FuncId := 84
def X.entry_To : X :=
  .seq (.ops [⟨(some 4), none, .mv (.const (Go.Value.int Go.IntKind.u64 0))⟩,
    ⟨(some 5), none, .mv (.const (Go.Value.int Go.IntKind.i64 0))⟩])
  (.seq (.ops [⟨(some 9), none, .mv (.tmp 0)⟩,
    ⟨(some 10), none, .call 64 [(.tmp 9)]⟩,
    ⟨(some 8), none, .mv (.tmp 10)⟩,
    ⟨(some 11), none, .ext (.tmp 8) 0⟩,
    ⟨(some 12), none, .ext (.tmp 8) 1⟩,
    ⟨(some 6), none, .new 40 (Go.Value.agg #[(Go.Value.int Go.IntKind.u64 0), (Go.Value.int Go.IntKind.u64 0), (Go.Value.bool false)])⟩,
    ⟨none, none, .st (.tmp 6) (.tmp 11) 3⟩,
    ⟨(some 7), none, .mv (.tmp 12)⟩])
  (.seq (.seq (.ops [⟨(some 13), none, .mv (.tmp 7)⟩,
    ⟨(some 14), none, .bin .neq 25 (.tmp 13) (.const (Go.Value.int Go.IntKind.i64 0))⟩])
  (.cond (.tmp 14)
    (.seq (.ops [⟨(some 15), none, .mv (.tmp 7)⟩,
      ⟨(some 4), none, .mv (.const (Go.Value.int Go.IntKind.u64 0))⟩,
      ⟨(some 5), none, .mv (.tmp 15)⟩])
    (.ret))
    (.skip)))
  (.seq (.ops [⟨(some 16), none, .mv (.tmp 1)⟩,
    ⟨(some 17), none, .fld (.tmp 6) 0⟩,
    ⟨none, none, .st (.tmp 17) (.tmp 16) 1⟩,
    ⟨(some 18), none, .fld (.tmp 6) 2⟩,
    ⟨none, none, .st (.tmp 18) (.const (Go.Value.bool false)) 1⟩])
  (.seq (.ops [⟨(some 19), none, .ld (.tmp 6) (some 3)⟩,
    ⟨(some 20), none, .call 129 [(.tmp 19)]⟩,
    ⟨(some 21), none, .ext (.tmp 20) 0⟩,
    ⟨(some 22), none, .ext (.tmp 20) 1⟩,
    ⟨(some 4), none, .mv (.tmp 21)⟩,
    ⟨(some 5), none, .mv (.tmp 22)⟩])
  (.ret)))))
theorem is_entry_To : FnIs Try.prog F.entry_To X.entry_To 23 [.tmp 4, .tmp 5] := ⟨by kernel_rfl⟩

/-- (*haycroft/index.Index).Turn: function 24 -/
abbrev F.index_Index_Turn : FuncId := 24
def X.index_Index_Turn : X :=
  .seq (.ops [⟨(some 8), none, .mv (.const (Go.Value.bool false))⟩,
    ⟨(some 9), none, .mv (.const (Go.Value.int Go.IntKind.i64 0))⟩])
  (.seq (.seq (.ops [⟨(some 13), none, .mv (.tmp 0)⟩,
    ⟨(some 14), none, .mv (.tmp 1)⟩,
    ⟨(some 15), none, .call 81 [(.tmp 13), (.tmp 14)]⟩,
    ⟨(some 10), none, .mv (.tmp 15)⟩])
  (.seq (.ops [⟨(some 16), none, .mv (.tmp 10)⟩,
    ⟨(some 17), none, .bin .neq 25 (.tmp 16) (.const (Go.Value.int Go.IntKind.i64 0))⟩])
  (.cond (.tmp 17)
    (.seq (.ops [⟨(some 18), none, .mv (.tmp 10)⟩,
      ⟨(some 8), none, .mv (.const (Go.Value.bool false))⟩,
      ⟨(some 9), none, .mv (.tmp 18)⟩])
    (.ret))
    (.skip))))
  (.seq (.ops [⟨(some 20), none, .mv (.tmp 2)⟩,
    ⟨(some 21), none, .mv (.tmp 3)⟩,
    ⟨(some 22), none, .call 84 [(.tmp 20), (.tmp 21)]⟩,
    ⟨(some 19), none, .mv (.tmp 22)⟩,
    ⟨(some 23), none, .ext (.tmp 19) 0⟩,
    ⟨(some 24), none, .ext (.tmp 19) 1⟩,
    ⟨(some 11), none, .mv (.tmp 23)⟩,
    ⟨(some 12), none, .mv (.tmp 24)⟩])
  (.seq (.seq (.ops [⟨(some 25), none, .mv (.tmp 12)⟩,
    ⟨(some 26), none, .bin .neq 25 (.tmp 25) (.const (Go.Value.int Go.IntKind.i64 0))⟩])
  (.cond (.tmp 26)
    (.seq (.ops [⟨(some 27), none, .mv (.tmp 12)⟩,
      ⟨(some 8), none, .mv (.const (Go.Value.bool false))⟩,
      ⟨(some 9), none, .mv (.tmp 27)⟩])
    (.ret))
    (.skip)))
  (.seq (.ops [⟨(some 28), none, .mv (.tmp 0)⟩,
    ⟨(some 29), none, .nilc (.tmp 28)⟩,
    ⟨(some 30), none, .fld (.tmp 29) 2⟩,
    ⟨(some 31), none, .ld (.tmp 30) none⟩,
    ⟨(some 32), none, .mv (.tmp 1)⟩,
    ⟨(some 33), none, .mv (.tmp 2)⟩,
    ⟨(some 34), none, .mv (.tmp 11)⟩,
    ⟨(some 35), none, .call 83 [(.tmp 31), (.tmp 32), (.tmp 33), (.tmp 34)]⟩,
    ⟨(some 36), none, .ext (.tmp 35) 0⟩,
    ⟨(some 37), none, .ext (.tmp 35) 1⟩,
    ⟨(some 8), none, .mv (.tmp 36)⟩,
    ⟨(some 9), none, .mv (.tmp 37)⟩])
  (.ret)))))
theorem is_index_Index_Turn : FnIs Try.prog F.index_Index_Turn X.index_Index_Turn 38 [.tmp 8, .tmp 9] := ⟨by kernel_rfl⟩

/-- (*haycroft/haycroftref17.Index).Slot: function 126 -/
abbrev F.ref17_Index_Slot : FuncId := 126
def X.ref17_Index_Slot : X :=
  .seq (.ops [⟨(some 4), none, .mv (.const (Go.Value.bool false))⟩])
  (.seq (.ops [⟨(some 5), none, .mv (.tmp 1)⟩,
    ⟨(some 6), none, .bin .geq 3 (.tmp 5) (.const (Go.Value.int Go.IntKind.i64 0))⟩,
    ⟨(some 7), none, .mv (.tmp 6)⟩,
    ⟨(some 8), (some (7, true)), .mv (.tmp 1)⟩,
    ⟨(some 9), (some (7, true)), .bin .quo 3 (.tmp 8) (.const (Go.Value.int Go.IntKind.i64 8))⟩,
    ⟨(some 10), (some (7, true)), .mv (.tmp 0)⟩,
    ⟨(some 11), (some (7, true)), .nilc (.tmp 10)⟩,
    ⟨(some 12), (some (7, true)), .fld (.tmp 11) 2⟩,
    ⟨(some 13), (some (7, true)), .ld (.tmp 12) none⟩,
    ⟨(some 14), (some (7, true)), .lenS (.tmp 13)⟩,
    ⟨(some 15), (some (7, true)), .bin .lss 3 (.tmp 9) (.tmp 14)⟩,
    ⟨(some 16), none, .pick (.tmp 7) (.tmp 15) (.const (Go.Value.bool false))⟩,
    ⟨(some 17), none, .mv (.tmp 16)⟩,
    ⟨(some 18), (some (17, true)), .mv (.tmp 1)⟩,
    ⟨(some 19), (some (17, true)), .bin .rem 3 (.tmp 18) (.const (Go.Value.int Go.IntKind.i64 8))⟩,
    ⟨(some 20), (some (17, true)), .bin .neq 3 (.tmp 19) (.const (Go.Value.int Go.IntKind.i64 7))⟩,
    ⟨(some 21), none, .pick (.tmp 17) (.tmp 20) (.const (Go.Value.bool false))⟩,
    ⟨(some 4), none, .mv (.tmp 21)⟩])
  (.ret))
theorem is_ref17_Index_Slot : FnIs Try.prog F.ref17_Index_Slot X.ref17_Index_Slot 22 [.tmp 4] := ⟨by kernel_rfl⟩

/-- haycroft/haycroftref16.Pack: function 127 -/
abbrev F.ref16_Pack : FuncId := 127
def X.ref16_Pack : X :=
  .seq (.ops [⟨(some 1), none, .box 40 (.tmp 0)⟩,
    ⟨(some 2), none, .mv (.const (Go.Value.int Go.IntKind.u64 0))⟩,
    ⟨(some 3), none, .mv (.const (Go.Value.int Go.IntKind.i64 0))⟩])
  (.seq (.seq (.ops [⟨(some 5), none, .ld (.tmp 1) (some 3)⟩,
    ⟨(some 6), none, .call 74 [(.tmp 5)]⟩,
    ⟨(some 7), none, .un .not (.tmp 6)⟩])
  (.cond (.tmp 7)
    (.seq (.ops [⟨(some 2), none, .mv (.const (Go.Value.int Go.IntKind.u64 0))⟩,
      ⟨(some 3), none, .mv (.const (Go.Value.int Go.IntKind.i64 1))⟩])
    (.ret))
    (.skip)))
  (.seq (.ops [⟨(some 8), none, .fld (.tmp 1) 1⟩,
    ⟨(some 9), none, .ld (.tmp 8) none⟩,
    ⟨(some 10), none, .bin .mul 32 (.tmp 9) (.const (Go.Value.int Go.IntKind.u64 281474976710656))⟩,
    ⟨(some 11), none, .bin .add 32 (.const (Go.Value.int Go.IntKind.u64 9223372036854775808)) (.tmp 10)⟩,
    ⟨(some 12), none, .fld (.tmp 1) 0⟩,
    ⟨(some 13), none, .ld (.tmp 12) none⟩,
    ⟨(some 14), none, .bin .add 32 (.tmp 11) (.tmp 13)⟩,
    ⟨(some 4), none, .mv (.tmp 14)⟩])
  (.seq (.seq (.ops [⟨(some 15), none, .fld (.tmp 1) 2⟩,
    ⟨(some 16), none, .ld (.tmp 15) none⟩])
  (.cond (.tmp 16)
    (.ops [⟨(some 17), none, .mv (.tmp 4)⟩,
      ⟨(some 18), none, .bin .add 32 (.tmp 17) (.const (Go.Value.int Go.IntKind.u64 4611686018427387904))⟩,
      ⟨(some 4), none, .mv (.tmp 18)⟩])
    (.skip)))
  (.seq (.ops [⟨(some 19), none, .mv (.tmp 4)⟩,
    ⟨(some 2), none, .mv (.tmp 19)⟩,
    ⟨(some 3), none, .mv (.const (Go.Value.int Go.IntKind.i64 0))⟩])
  (.ret)))))
theorem is_ref16_Pack : FnIs Try.prog F.ref16_Pack X.ref16_Pack 20 [.tmp 2, .tmp 3] := ⟨by kernel_rfl⟩

/-- (*haycroft/haycroftref17.Index).Try: function 128 -/
abbrev F.ref17_Index_Try : FuncId := 128
def X.ref17_Index_Try : X :=
  .seq (.ops [⟨(some 8), none, .mv (.const (Go.Value.bool false))⟩])
  (.seq (.seq (.ops [⟨(some 9), none, .mv (.tmp 0)⟩,
    ⟨(some 10), none, .nilc (.tmp 9)⟩,
    ⟨(some 11), none, .fld (.tmp 10) 2⟩,
    ⟨(some 12), none, .ld (.tmp 11) none⟩,
    ⟨(some 13), none, .mv (.tmp 1)⟩,
    ⟨(some 14), none, .bin .quo 3 (.tmp 13) (.const (Go.Value.int Go.IntKind.i64 8))⟩,
    ⟨(some 15), none, .mv (.tmp 1)⟩,
    ⟨(some 16), none, .bin .rem 3 (.tmp 15) (.const (Go.Value.int Go.IntKind.i64 8))⟩,
    ⟨(some 17), none, .idx (.tmp 12) (.tmp 14) 8⟩,
    ⟨(some 18), none, .ixp (.tmp 17) (.tmp 16) 8 1⟩,
    ⟨(some 19), none, .ld (.tmp 18) none⟩,
    ⟨(some 20), none, .mv (.tmp 2)⟩,
    ⟨(some 21), none, .bin .neq 32 (.tmp 19) (.tmp 20)⟩])
  (.cond (.tmp 21)
    (.seq (.ops [⟨(some 22), none, .mv (.tmp 0)⟩,
      ⟨(some 23), none, .mv (.tmp 0)⟩,
      ⟨(some 24), none, .nilc (.tmp 23)⟩,
      ⟨(some 25), none, .fld (.tmp 24) 5⟩,
      ⟨(some 26), none, .ld (.tmp 25) none⟩,
      ⟨(some 27), none, .bin .add 3 (.tmp 26) (.const (Go.Value.int Go.IntKind.i64 1))⟩,
      ⟨(some 28), none, .nilc (.tmp 22)⟩,
      ⟨(some 29), none, .fld (.tmp 28) 5⟩,
      ⟨none, none, .st (.tmp 29) (.tmp 27) 1⟩])
    (.seq (.ops [⟨(some 8), none, .mv (.const (Go.Value.bool false))⟩])
    (.ret)))
    (.skip)))
  (.seq (.ops [⟨(some 30), none, .mv (.tmp 0)⟩,
    ⟨(some 31), none, .mv (.tmp 0)⟩,
    ⟨(some 32), none, .nilc (.tmp 31)⟩,
    ⟨(some 33), none, .fld (.tmp 32) 4⟩,
    ⟨(some 34), none, .ld (.tmp 33) none⟩,
    ⟨(some 35), none, .bin .add 3 (.tmp 34) (.const (Go.Value.int Go.IntKind.i64 1))⟩,
    ⟨(some 36), none, .nilc (.tmp 30)⟩,
    ⟨(some 37), none, .fld (.tmp 36) 4⟩,
    ⟨none, none, .st (.tmp 37) (.tmp 35) 1⟩])
  (.seq (.ops [⟨(some 38), none, .mv (.tmp 0)⟩,
    ⟨(some 39), none, .nilc (.tmp 38)⟩,
    ⟨(some 40), none, .fld (.tmp 39) 2⟩,
    ⟨(some 41), none, .ld (.tmp 40) none⟩,
    ⟨(some 42), none, .mv (.tmp 1)⟩,
    ⟨(some 43), none, .bin .quo 3 (.tmp 42) (.const (Go.Value.int Go.IntKind.i64 8))⟩,
    ⟨(some 44), none, .mv (.tmp 1)⟩,
    ⟨(some 45), none, .bin .rem 3 (.tmp 44) (.const (Go.Value.int Go.IntKind.i64 8))⟩,
    ⟨(some 46), none, .mv (.tmp 3)⟩,
    ⟨(some 47), none, .idx (.tmp 41) (.tmp 43) 8⟩,
    ⟨(some 48), none, .ixp (.tmp 47) (.tmp 45) 8 1⟩,
    ⟨none, none, .st (.tmp 48) (.tmp 46) 1⟩])
  (.seq (.ops [⟨(some 8), none, .mv (.const (Go.Value.bool true))⟩])
  (.ret)))))
theorem is_ref17_Index_Try : FnIs Try.prog F.ref17_Index_Try X.ref17_Index_Try 49 [.tmp 8] := ⟨by kernel_rfl⟩

/-- (*haycroft/haycroftref17.Index).Turn: function 69 -/
abbrev F.ref17_Index_Turn : FuncId := 69
def X.ref17_Index_Turn : X :=
  .seq (.ops [⟨(some 8), none, .mv (.const (Go.Value.bool false))⟩,
    ⟨(some 9), none, .mv (.const (Go.Value.int Go.IntKind.i64 0))⟩])
  (.seq (.seq (.ops [⟨(some 13), none, .mv (.tmp 0)⟩,
    ⟨(some 14), none, .mv (.tmp 1)⟩,
    ⟨(some 15), none, .call 126 [(.tmp 13), (.tmp 14)]⟩,
    ⟨(some 16), none, .un .not (.tmp 15)⟩])
  (.cond (.tmp 16)
    (.seq (.ops [⟨(some 8), none, .mv (.const (Go.Value.bool false))⟩,
      ⟨(some 9), none, .mv (.const (Go.Value.int Go.IntKind.i64 1))⟩])
    (.ret))
    (.skip)))
  (.seq (.ops [⟨(some 18), none, .mv (.tmp 2)⟩,
    ⟨(some 19), none, .call 19 [(.tmp 18)]⟩,
    ⟨(some 17), none, .mv (.tmp 19)⟩,
    ⟨(some 20), none, .ext (.tmp 17) 0⟩,
    ⟨(some 21), none, .ext (.tmp 17) 1⟩,
    ⟨(some 10), none, .new 40 (Go.Value.agg #[(Go.Value.int Go.IntKind.u64 0), (Go.Value.int Go.IntKind.u64 0), (Go.Value.bool false)])⟩,
    ⟨none, none, .st (.tmp 10) (.tmp 20) 3⟩,
    ⟨(some 11), none, .mv (.tmp 21)⟩])
  (.seq (.seq (.ops [⟨(some 22), none, .mv (.tmp 11)⟩,
    ⟨(some 23), none, .bin .neq 25 (.tmp 22) (.const (Go.Value.int Go.IntKind.i64 0))⟩])
  (.cond (.tmp 23)
    (.seq (.ops [⟨(some 24), none, .mv (.tmp 11)⟩,
      ⟨(some 8), none, .mv (.const (Go.Value.bool false))⟩,
      ⟨(some 9), none, .mv (.tmp 24)⟩])
    (.ret))
    (.skip)))
  (.seq (.ops [⟨(some 26), none, .mv (.tmp 3)⟩,
    ⟨(some 27), none, .fld (.tmp 10) 1⟩,
    ⟨(some 28), none, .ld (.tmp 27) none⟩,
    ⟨(some 29), none, .bld [(Go.Value.int Go.IntKind.u64 0), (Go.Value.int Go.IntKind.u64 0), (Go.Value.bool false)] [(0, 1, (.tmp 26)), (1, 1, (.tmp 28))]⟩,
    ⟨(some 30), none, .call 127 [(.tmp 29)]⟩,
    ⟨(some 25), none, .mv (.tmp 30)⟩,
    ⟨(some 31), none, .ext (.tmp 25) 0⟩,
    ⟨(some 32), none, .ext (.tmp 25) 1⟩,
    ⟨(some 12), none, .mv (.tmp 31)⟩,
    ⟨(some 11), none, .mv (.tmp 32)⟩])
  (.seq (.seq (.ops [⟨(some 33), none, .mv (.tmp 11)⟩,
    ⟨(some 34), none, .bin .neq 25 (.tmp 33) (.const (Go.Value.int Go.IntKind.i64 0))⟩])
  (.cond (.tmp 34)
    (.seq (.ops [⟨(some 35), none, .mv (.tmp 11)⟩,
      ⟨(some 8), none, .mv (.const (Go.Value.bool false))⟩,
      ⟨(some 9), none, .mv (.tmp 35)⟩])
    (.ret))
    (.skip)))
  (.seq (.ops [⟨(some 36), none, .mv (.tmp 0)⟩,
    ⟨(some 37), none, .mv (.tmp 1)⟩,
    ⟨(some 38), none, .mv (.tmp 2)⟩,
    ⟨(some 39), none, .mv (.tmp 12)⟩,
    ⟨(some 40), none, .call 128 [(.tmp 36), (.tmp 37), (.tmp 38), (.tmp 39)]⟩,
    ⟨(some 8), none, .mv (.tmp 40)⟩,
    ⟨(some 9), none, .mv (.const (Go.Value.int Go.IntKind.i64 0))⟩])
  (.ret)))))))
theorem is_ref17_Index_Turn : FnIs Try.prog F.ref17_Index_Turn X.ref17_Index_Turn 41 [.tmp 8, .tmp 9] := ⟨by kernel_rfl⟩

/-- (*haycroft/haycroftref17.Index).Claim: function 70 -/
abbrev F.ref17_Index_Claim : FuncId := 70
def X.ref17_Index_Claim : X :=
  .seq (.ops [⟨(some 6), none, .mv (.const (Go.Value.bool false))⟩,
    ⟨(some 7), none, .mv (.const (Go.Value.int Go.IntKind.i64 0))⟩])
  (.seq (.seq (.ops [⟨(some 10), none, .mv (.tmp 0)⟩,
    ⟨(some 11), none, .mv (.tmp 1)⟩,
    ⟨(some 12), none, .call 126 [(.tmp 10), (.tmp 11)]⟩,
    ⟨(some 13), none, .un .not (.tmp 12)⟩])
  (.cond (.tmp 13)
    (.seq (.ops [⟨(some 6), none, .mv (.const (Go.Value.bool false))⟩,
      ⟨(some 7), none, .mv (.const (Go.Value.int Go.IntKind.i64 1))⟩])
    (.ret))
    (.skip)))
  (.seq (.ops [⟨(some 15), none, .mv (.tmp 2)⟩,
    ⟨(some 16), none, .call 21 [(.tmp 15)]⟩,
    ⟨(some 17), none, .bld [(Go.Value.int Go.IntKind.u64 0), (Go.Value.int Go.IntKind.u64 0), (Go.Value.bool false)] [(1, 1, (.tmp 16)), (2, 1, (.const (Go.Value.bool true)))]⟩,
    ⟨(some 18), none, .call 127 [(.tmp 17)]⟩,
    ⟨(some 14), none, .mv (.tmp 18)⟩,
    ⟨(some 19), none, .ext (.tmp 14) 0⟩,
    ⟨(some 20), none, .ext (.tmp 14) 1⟩,
    ⟨(some 8), none, .mv (.tmp 19)⟩,
    ⟨(some 9), none, .mv (.tmp 20)⟩])
  (.seq (.ops [⟨(some 21), none, .mv (.tmp 0)⟩,
    ⟨(some 22), none, .mv (.tmp 1)⟩,
    ⟨(some 23), none, .mv (.tmp 8)⟩,
    ⟨(some 24), none, .call 128 [(.tmp 21), (.tmp 22), (.const (Go.Value.int Go.IntKind.u64 0)), (.tmp 23)]⟩,
    ⟨(some 6), none, .mv (.tmp 24)⟩,
    ⟨(some 7), none, .mv (.const (Go.Value.int Go.IntKind.i64 0))⟩])
  (.ret))))
theorem is_ref17_Index_Claim : FnIs Try.prog F.ref17_Index_Claim X.ref17_Index_Claim 25 [.tmp 6, .tmp 7] := ⟨by kernel_rfl⟩

/-- (*haycroft/haycroftref17.Index).Spare: function 71 -/
abbrev F.ref17_Index_Spare : FuncId := 71
def X.ref17_Index_Spare : X :=
  .seq (.ops [⟨(some 2), none, .mv (.const (Go.Value.int Go.IntKind.i64 0))⟩,
    ⟨(some 3), none, .mv (.const (Go.Value.int Go.IntKind.i64 0))⟩])
  (.seq (.seq (.drawn [(0, ⟨(some 4), none, .mv (.tmp 0)⟩),
    (1, ⟨(some 5), none, .nilc (.tmp 4)⟩),
    (2, ⟨(some 6), none, .fld (.tmp 5) 3⟩),
    (3, ⟨(some 7), none, .ld (.tmp 6) none⟩),
    (4, ⟨(some 8), none, .mv (.tmp 0)⟩),
    (5, ⟨(some 9), none, .nilc (.tmp 8)⟩),
    (6, ⟨(some 10), none, .fld (.tmp 9) 1⟩),
    (7, ⟨(some 11), none, .ld (.tmp 10) none⟩),
    (8, ⟨(some 12), none, .bin .geq 3 (.tmp 7) (.tmp 11)⟩)]
    [[], [0], [1], [2], [], [4], [5], [6], [3, 7]]
    [0, 1, 3, 7, 0, 16, 48, 112, 255] 0)
  (.cond (.tmp 12)
    (.seq (.ops [⟨(some 2), none, .mv (.const (Go.Value.int Go.IntKind.i64 0))⟩,
      ⟨(some 3), none, .mv (.const (Go.Value.int Go.IntKind.i64 9))⟩])
    (.ret))
    (.skip)))
  (.seq (.ops [⟨(some 13), none, .mv (.tmp 0)⟩,
    ⟨(some 14), none, .mv (.tmp 0)⟩,
    ⟨(some 15), none, .nilc (.tmp 14)⟩,
    ⟨(some 16), none, .fld (.tmp 15) 3⟩,
    ⟨(some 17), none, .ld (.tmp 16) none⟩,
    ⟨(some 18), none, .bin .add 3 (.tmp 17) (.const (Go.Value.int Go.IntKind.i64 1))⟩,
    ⟨(some 19), none, .nilc (.tmp 13)⟩,
    ⟨(some 20), none, .fld (.tmp 19) 3⟩,
    ⟨none, none, .st (.tmp 20) (.tmp 18) 1⟩])
  (.seq (.drawn [(0, ⟨(some 21), none, .mv (.tmp 0)⟩),
    (1, ⟨(some 22), none, .nilc (.tmp 21)⟩),
    (2, ⟨(some 23), none, .fld (.tmp 22) 0⟩),
    (3, ⟨(some 24), none, .ld (.tmp 23) none⟩),
    (4, ⟨(some 25), none, .mv (.tmp 0)⟩),
    (5, ⟨(some 26), none, .nilc (.tmp 25)⟩),
    (6, ⟨(some 27), none, .fld (.tmp 26) 3⟩),
    (7, ⟨(some 28), none, .ld (.tmp 27) none⟩),
    (8, ⟨(some 29), none, .bin .add 3 (.tmp 24) (.tmp 28)⟩),
    (9, ⟨(some 30), none, .bin .sub 3 (.tmp 29) (.const (Go.Value.int Go.IntKind.i64 1))⟩),
    (10, ⟨(some 2), none, .mv (.tmp 30)⟩),
    (11, ⟨(some 3), none, .mv (.const (Go.Value.int Go.IntKind.i64 0))⟩)]
    [[], [0], [1], [2], [], [4], [5], [6], [3, 7], [8], [9, 0, 1, 2, 3, 4, 5, 6, 7, 8, 9], [10, 0, 1, 2, 3, 4, 5, 6, 7, 8, 9, 10]]
    [0, 1, 3, 7, 0, 16, 48, 112, 255, 511, 1023, 2047] 0)
  (.ret))))
theorem is_ref17_Index_Spare : FnIs Try.prog F.ref17_Index_Spare X.ref17_Index_Spare 31 [.tmp 2, .tmp 3] := ⟨by kernel_rfl⟩

-- loop (inner ones first): [0, 1, 9, 10]
/-- (*haycroft/index.Index).linked: function 87 -/
abbrev F.index_Index_linked : FuncId := 87
def X.index_Index_linked : X :=
  .seq (.ops [⟨(some 4), none, .mv (.const (Go.Value.bool false))⟩])
  (.seq (.seq (.ops [⟨(some 8), none, .mv (.tmp 0)⟩,
    ⟨(some 9), none, .call 86 [(.tmp 8)]⟩,
    ⟨(some 10), none, .mv (.const (Go.Value.int Go.IntKind.i64 0))⟩])
  (.block 0 (.loop (.seq (.ops [⟨(some 11), none, .bin .lss 3 (.tmp 10) (.tmp 9)⟩])
      (.seq (.cond (.tmp 11)
        (.skip)
        (.exit 0))
      (.seq (.block 1 (.seq (.ops [⟨(some 12), none, .mv (.tmp 10)⟩,
          ⟨(some 5), none, .mv (.tmp 12)⟩])
        (.seq (.ops [⟨(some 14), none, .mv (.tmp 0)⟩,
          ⟨(some 15), none, .mv (.tmp 5)⟩,
          ⟨(some 16), none, .call 91 [(.tmp 14), (.tmp 15)]⟩,
          ⟨(some 13), none, .mv (.tmp 16)⟩,
          ⟨(some 17), none, .ext (.tmp 13) 0⟩,
          ⟨(some 18), none, .ext (.tmp 13) 1⟩,
          ⟨(some 6), none, .mv (.tmp 17)⟩,
          ⟨(some 7), none, .mv (.tmp 18)⟩])
        (.seq (.ops [⟨(some 19), none, .mv (.tmp 7)⟩,
          ⟨(some 20), none, .mv (.tmp 19)⟩,
          ⟨(some 21), (some (20, true)), .mv (.tmp 6)⟩,
          ⟨(some 22), (some (20, true)), .mv (.tmp 1)⟩,
          ⟨(some 23), (some (20, true)), .bin .eql 3 (.tmp 21) (.tmp 22)⟩,
          ⟨(some 24), none, .pick (.tmp 20) (.tmp 23) (.const (Go.Value.bool false))⟩])
        (.cond (.tmp 24)
          (.seq (.ops [⟨(some 4), none, .mv (.const (Go.Value.bool true))⟩])
          (.ret))
          (.skip))))))
      (.ops [⟨(some 25), none, .bin .add 3 (.tmp 10) (.const (Go.Value.int Go.IntKind.i64 1))⟩,
        ⟨(some 10), none, .mv (.tmp 25)⟩])))))))
  (.seq (.ops [⟨(some 4), none, .mv (.const (Go.Value.bool false))⟩])
  (.ret)))
theorem is_index_Index_linked : FnIs Try.prog F.index_Index_linked X.index_Index_linked 26 [.tmp 4] := ⟨by kernel_rfl⟩

-- loop (inner ones first): [0, 1, 7, 8]
/-- slices.Index[[]int,int]: function 133 -/
abbrev F.slices_Index_int_int : FuncId := 133
def X.slices_Index_int_int : X :=
  .seq (.ops [⟨(some 4), none, .mv (.const (Go.Value.int Go.IntKind.i64 0))⟩])
  (.seq (.seq (.ops [⟨(some 6), none, .mv (.tmp 0)⟩,
    ⟨(some 7), none, .lenS (.tmp 6)⟩,
    ⟨(some 8), none, .mv (.const (Go.Value.int Go.IntKind.i64 0))⟩])
  (.block 0 (.loop (.seq (.ops [⟨(some 9), none, .bin .lss 3 (.tmp 8) (.tmp 7)⟩])
      (.seq (.cond (.tmp 9)
        (.skip)
        (.exit 0))
      (.seq (.block 1 (.seq (.ops [⟨(some 10), none, .mv (.tmp 8)⟩,
          ⟨(some 5), none, .mv (.tmp 10)⟩])
        (.seq (.ops [⟨(some 11), none, .mv (.tmp 1)⟩,
          ⟨(some 12), none, .mv (.tmp 0)⟩,
          ⟨(some 13), none, .mv (.tmp 5)⟩,
          ⟨(some 14), none, .idx (.tmp 12) (.tmp 13) 1⟩,
          ⟨(some 15), none, .ld (.tmp 14) none⟩,
          ⟨(some 16), none, .bin .eql 3 (.tmp 11) (.tmp 15)⟩])
        (.cond (.tmp 16)
          (.seq (.ops [⟨(some 17), none, .mv (.tmp 5)⟩,
            ⟨(some 4), none, .mv (.tmp 17)⟩])
          (.ret))
          (.skip)))))
      (.ops [⟨(some 18), none, .bin .add 3 (.tmp 8) (.const (Go.Value.int Go.IntKind.i64 1))⟩,
        ⟨(some 8), none, .mv (.tmp 18)⟩])))))))
  (.seq (.ops [⟨(some 4), none, .mv (.const (Go.Value.int Go.IntKind.i64 (-1)))⟩])
  (.ret)))
theorem is_slices_Index_int_int : FnIs Try.prog F.slices_Index_int_int X.slices_Index_int_int 19 [.tmp 4] := ⟨by kernel_rfl⟩

/-- slices.Contains[[]int,int]: function 88 -/
abbrev F.slices_Contains_int_int : FuncId := 88
def X.slices_Contains_int_int : X :=
  .seq (.ops [⟨(some 4), none, .mv (.const (Go.Value.bool false))⟩])
  (.seq (.ops [⟨(some 5), none, .mv (.tmp 0)⟩,
    ⟨(some 6), none, .mv (.tmp 1)⟩,
    ⟨(some 7), none, .call 133 [(.tmp 5), (.tmp 6)]⟩,
    ⟨(some 8), none, .bin .geq 3 (.tmp 7) (.const (Go.Value.int Go.IntKind.i64 0))⟩,
    ⟨(some 4), none, .mv (.tmp 8)⟩])
  (.ret))
theorem is_slices_Contains_int_int : FnIs Try.prog F.slices_Contains_int_int X.slices_Contains_int_int 9 [.tmp 4] := ⟨by kernel_rfl⟩

/-- (*haycroft/index.Index).Link: function 26 -/
abbrev F.index_Index_Link : FuncId := 26
def X.index_Index_Link : X :=
  .seq (.ops [⟨(some 6), none, .mv (.const (Go.Value.bool false))⟩,
    ⟨(some 7), none, .mv (.const (Go.Value.int Go.IntKind.i64 0))⟩])
  (.seq (.block 0 (.seq (.ops [⟨(some 9), none, .mv (.tmp 0)⟩,
      ⟨(some 10), none, .eq false .ptr (.tmp 9) (.const (Go.Value.pointer none))⟩,
      ⟨(some 8), none, .mv (.tmp 10)⟩])
    (.cond (.tmp 8)
      (.seq (.ops [⟨(some 6), none, .mv (.const (Go.Value.bool false))⟩,
        ⟨(some 7), none, .mv (.const (Go.Value.int Go.IntKind.i64 2))⟩])
      (.ret))
      (.seq (.seq (.ops [⟨(some 12), none, .mv (.tmp 1)⟩,
        ⟨(some 13), none, .bin .lss 3 (.tmp 12) (.const (Go.Value.int Go.IntKind.i64 0))⟩,
        ⟨(some 14), none, .mv (.tmp 13)⟩,
        ⟨(some 15), (some (14, false)), .mv (.tmp 1)⟩,
        ⟨(some 16), (some (14, false)), .mv (.tmp 0)⟩,
        ⟨(some 17), (some (14, false)), .call 86 [(.tmp 16)]⟩,
        ⟨(some 18), (some (14, false)), .bin .geq 3 (.tmp 15) (.tmp 17)⟩,
        ⟨(some 19), none, .pick (.tmp 14) (.const (Go.Value.bool true)) (.tmp 18)⟩,
        ⟨(some 11), none, .mv (.tmp 19)⟩])
      (.cond (.tmp 11)
        (.skip)
        (.seq (.ops [⟨(some 20), none, .mv (.tmp 2)⟩,
          ⟨(some 21), none, .mv (.tmp 0)⟩,
          ⟨(some 22), none, .nilc (.tmp 21)⟩,
          ⟨(some 23), none, .fld (.tmp 22) 0⟩,
          ⟨(some 24), none, .ld (.tmp 23) none⟩,
          ⟨(some 25), none, .bin .lss 3 (.tmp 20) (.tmp 24)⟩,
          ⟨(some 11), none, .mv (.tmp 25)⟩])
        (.cond (.tmp 11)
          (.skip)
          (.seq (.drawn [(0, ⟨(some 26), none, .mv (.tmp 2)⟩),
            (1, ⟨(some 27), none, .mv (.tmp 0)⟩),
            (2, ⟨(some 28), none, .nilc (.tmp 27)⟩),
            (3, ⟨(some 29), none, .fld (.tmp 28) 0⟩),
            (4, ⟨(some 30), none, .ld (.tmp 29) none⟩),
            (5, ⟨(some 31), none, .mv (.tmp 0)⟩),
            (6, ⟨(some 32), none, .nilc (.tmp 31)⟩),
            (7, ⟨(some 33), none, .fld (.tmp 32) 3⟩),
            (8, ⟨(some 34), none, .ld (.tmp 33) none⟩),
            (9, ⟨(some 35), none, .call 63 [(.tmp 34), (.const (Go.Value.int Go.IntKind.i64 0))]⟩),
            (10, ⟨(some 36), none, .conv Go.IntKind.i64 (.tmp 35)⟩),
            (11, ⟨(some 37), none, .bin .add 3 (.tmp 30) (.tmp 36)⟩),
            (12, ⟨(some 38), none, .bin .geq 3 (.tmp 26) (.tmp 37)⟩),
            (13, ⟨(some 11), none, .mv (.tmp 38)⟩)]
            [[], [], [1], [2], [3], [], [5], [6], [7], [8], [9], [4, 10], [0, 11], [12, 9]]
            [0, 0, 2, 6, 14, 0, 32, 96, 224, 480, 992, 2046, 4095, 8191] 512)
          (.cond (.tmp 11)
            (.skip)
            (.seq (.ops [⟨(some 39), none, .mv (.tmp 0)⟩,
              ⟨(some 40), none, .mv (.tmp 2)⟩,
              ⟨(some 41), none, .call 87 [(.tmp 39), (.tmp 40)]⟩,
              ⟨(some 11), none, .mv (.tmp 41)⟩])
            (.cond (.tmp 11)
              (.skip)
              (.ops [⟨(some 42), none, .mv (.tmp 0)⟩,
                ⟨(some 43), none, .mv (.tmp 2)⟩,
                ⟨(some 44), none, .call 29 [(.tmp 42), (.tmp 43)]⟩,
                ⟨(some 45), none, .mv (.tmp 1)⟩,
                ⟨(some 46), none, .call 88 [(.tmp 44), (.tmp 45)]⟩,
                ⟨(some 11), none, .mv (.tmp 46)⟩])))))))))
      (.cond (.tmp 11)
        (.seq (.ops [⟨(some 6), none, .mv (.const (Go.Value.bool false))⟩,
          ⟨(some 7), none, .mv (.const (Go.Value.int Go.IntKind.i64 1))⟩])
        (.ret))
        (.skip))))))
  (.seq (.ops [⟨(some 47), none, .mv (.tmp 0)⟩,
    ⟨(some 48), none, .nilc (.tmp 47)⟩,
    ⟨(some 49), none, .fld (.tmp 48) 2⟩,
    ⟨(some 50), none, .ld (.tmp 49) none⟩,
    ⟨(some 51), none, .mv (.tmp 1)⟩,
    ⟨(some 52), none, .bin .mul 3 (.tmp 51) (.const (Go.Value.int Go.IntKind.i64 8))⟩,
    ⟨(some 53), none, .bin .add 3 (.tmp 52) (.const (Go.Value.int Go.IntKind.i64 7))⟩,
    ⟨(some 54), none, .mv (.tmp 2)⟩,
    ⟨(some 55), none, .conv Go.IntKind.u64 (.tmp 54)⟩,
    ⟨(some 56), none, .bin .add 32 (.tmp 55) (.const (Go.Value.int Go.IntKind.u64 1))⟩,
    ⟨(some 57), none, .call 83 [(.tmp 50), (.tmp 53), (.const (Go.Value.int Go.IntKind.u64 0)), (.tmp 56)]⟩,
    ⟨(some 58), none, .ext (.tmp 57) 0⟩,
    ⟨(some 59), none, .ext (.tmp 57) 1⟩,
    ⟨(some 6), none, .mv (.tmp 58)⟩,
    ⟨(some 7), none, .mv (.tmp 59)⟩])
  (.ret)))
theorem is_index_Index_Link : FnIs Try.prog F.index_Index_Link X.index_Index_Link 60 [.tmp 6, .tmp 7] := ⟨by kernel_rfl⟩

-- loop (inner ones first): [0, 1, 2, 9, 10]
-- loop (inner ones first): [0, 1, 2, 8]
/-- (*haycroft/haycroftref17.Index).Link: function 72 -/
abbrev F.ref17_Index_Link : FuncId := 72
def X.ref17_Index_Link : X :=
  .seq (.ops [⟨(some 6), none, .mv (.const (Go.Value.bool false))⟩,
    ⟨(some 7), none, .mv (.const (Go.Value.int Go.IntKind.i64 0))⟩])
  (.seq (.seq (.drawn [(0, ⟨(some 11), none, .mv (.tmp 1)⟩),
    (1, ⟨(some 12), none, .bin .lss 3 (.tmp 11) (.const (Go.Value.int Go.IntKind.i64 0))⟩),
    (2, ⟨(some 13), none, .mv (.tmp 12)⟩),
    (3, ⟨(some 14), (some (13, false)), .mv (.tmp 1)⟩),
    (4, ⟨(some 15), (some (13, false)), .mv (.tmp 0)⟩),
    (5, ⟨(some 16), (some (13, false)), .nilc (.tmp 15)⟩),
    (6, ⟨(some 17), (some (13, false)), .fld (.tmp 16) 2⟩),
    (7, ⟨(some 18), (some (13, false)), .ld (.tmp 17) none⟩),
    (8, ⟨(some 19), (some (13, false)), .lenS (.tmp 18)⟩),
    (9, ⟨(some 20), (some (13, false)), .bin .geq 3 (.tmp 14) (.tmp 19)⟩),
    (10, ⟨(some 21), none, .pick (.tmp 13) (.const (Go.Value.bool true)) (.tmp 20)⟩),
    (11, ⟨(some 22), none, .mv (.tmp 21)⟩),
    (12, ⟨(some 23), (some (22, false)), .mv (.tmp 2)⟩),
    (13, ⟨(some 24), (some (22, false)), .mv (.tmp 0)⟩),
    (14, ⟨(some 25), (some (22, false)), .nilc (.tmp 24)⟩),
    (15, ⟨(some 26), (some (22, false)), .fld (.tmp 25) 0⟩),
    (16, ⟨(some 27), (some (22, false)), .ld (.tmp 26) none⟩),
    (17, ⟨(some 28), (some (22, false)), .bin .lss 3 (.tmp 23) (.tmp 27)⟩),
    (18, ⟨(some 29), none, .pick (.tmp 22) (.const (Go.Value.bool true)) (.tmp 28)⟩),
    (19, ⟨(some 30), none, .mv (.tmp 29)⟩),
    (20, ⟨(some 31), (some (30, false)), .mv (.tmp 2)⟩),
    (21, ⟨(some 32), (some (30, false)), .mv (.tmp 0)⟩),
    (22, ⟨(some 33), (some (30, false)), .nilc (.tmp 32)⟩),
    (23, ⟨(some 34), (some (30, false)), .fld (.tmp 33) 0⟩),
    (24, ⟨(some 35), (some (30, false)), .ld (.tmp 34) none⟩),
    (25, ⟨(some 36), (some (30, false)), .mv (.tmp 0)⟩),
    (26, ⟨(some 37), (some (30, false)), .nilc (.tmp 36)⟩),
    (27, ⟨(some 38), (some (30, false)), .fld (.tmp 37) 3⟩),
    (28, ⟨(some 39), (some (30, false)), .ld (.tmp 38) none⟩),
    (29, ⟨(some 40), (some (30, false)), .bin .add 3 (.tmp 35) (.tmp 39)⟩),
    (30, ⟨(some 41), (some (30, false)), .bin .geq 3 (.tmp 31) (.tmp 40)⟩),
    (31, ⟨(some 42), none, .pick (.tmp 30) (.const (Go.Value.bool true)) (.tmp 41)⟩)]
    [[], [0], [1], [2], [2], [4, 2], [5, 2], [6, 2], [7, 2], [3, 8, 2], [2, 9], [10, 2], [11], [11], [13, 11], [14, 11], [15, 11], [12, 16, 11], [11, 17], [18, 11], [19], [19], [21, 19], [22, 19], [23, 19], [19], [25, 19], [26, 19], [27, 19], [24, 28, 19], [20, 29, 19], [19, 30]]
    [0, 1, 3, 7, 7, 23, 55, 119, 247, 511, 1023, 2047, 4095, 4095, 12287, 28671, 61439, 131071, 262143, 524287, 1048575, 1048575, 3145727, 7340031, 15728639, 1048575, 34603007, 101711871, 235929599, 535822335, 1073741823, 2147483647] 0)
  (.cond (.tmp 42)
    (.seq (.ops [⟨(some 6), none, .mv (.const (Go.Value.bool false))⟩,
      ⟨(some 7), none, .mv (.const (Go.Value.int Go.IntKind.i64 1))⟩])
    (.ret))
    (.skip)))
  (.seq (.seq (.ops [⟨(some 8), none, .mv (.const (Go.Value.int Go.IntKind.i64 0))⟩])
  (.block 0 (.loop (.seq (.seq (.ops [⟨(some 43), none, .mv (.tmp 8)⟩,
        ⟨(some 44), none, .mv (.tmp 0)⟩,
        ⟨(some 45), none, .nilc (.tmp 44)⟩,
        ⟨(some 46), none, .fld (.tmp 45) 2⟩,
        ⟨(some 47), none, .ld (.tmp 46) none⟩,
        ⟨(some 48), none, .lenS (.tmp 47)⟩,
        ⟨(some 49), none, .bin .lss 3 (.tmp 43) (.tmp 48)⟩])
      (.cond (.tmp 49)
        (.skip)
        (.exit 0)))
      (.seq (.block 1 (.seq (.ops [⟨(some 52), none, .mv (.tmp 0)⟩,
          ⟨(some 53), none, .nilc (.tmp 52)⟩,
          ⟨(some 54), none, .fld (.tmp 53) 2⟩,
          ⟨(some 55), none, .ld (.tmp 54) none⟩,
          ⟨(some 56), none, .mv (.tmp 8)⟩,
          ⟨(some 57), none, .idx (.tmp 55) (.tmp 56) 8⟩,
          ⟨(some 58), none, .ixp (.tmp 57) (.const (Go.Value.int Go.IntKind.i64 7)) 8 1⟩,
          ⟨(some 59), none, .ld (.tmp 58) none⟩,
          ⟨(some 60), none, .mv (.tmp 2)⟩,
          ⟨(some 61), none, .conv Go.IntKind.u64 (.tmp 60)⟩,
          ⟨(some 62), none, .bin .add 32 (.tmp 61) (.const (Go.Value.int Go.IntKind.u64 1))⟩,
          ⟨(some 63), none, .bin .eql 32 (.tmp 59) (.tmp 62)⟩])
        (.cond (.tmp 63)
          (.seq (.ops [⟨(some 6), none, .mv (.const (Go.Value.bool false))⟩,
            ⟨(some 7), none, .mv (.const (Go.Value.int Go.IntKind.i64 1))⟩])
          (.ret))
          (.skip))))
      (.ops [⟨(some 50), none, .mv (.tmp 8)⟩,
        ⟨(some 51), none, .bin .add 3 (.tmp 50) (.const (Go.Value.int Go.IntKind.i64 1))⟩,
        ⟨(some 8), none, .mv (.tmp 51)⟩]))))))
  (.seq (.ops [⟨(some 64), none, .mv (.tmp 0)⟩,
    ⟨(some 65), none, .mv (.tmp 2)⟩,
    ⟨(some 66), none, .call 73 [(.tmp 64), (.tmp 65)]⟩,
    ⟨(some 9), none, .mv (.tmp 66)⟩])
  (.seq (.seq (.ops [⟨(some 10), none, .mv (.const (Go.Value.int Go.IntKind.i64 0))⟩])
  (.block 2 (.loop (.seq (.seq (.ops [⟨(some 67), none, .mv (.tmp 10)⟩,
        ⟨(some 68), none, .mv (.tmp 9)⟩,
        ⟨(some 69), none, .lenS (.tmp 68)⟩,
        ⟨(some 70), none, .bin .lss 3 (.tmp 67) (.tmp 69)⟩])
      (.cond (.tmp 70)
        (.skip)
        (.exit 2)))
      (.seq (.block 3 (.seq (.ops [⟨(some 73), none, .mv (.tmp 9)⟩,
          ⟨(some 74), none, .mv (.tmp 10)⟩,
          ⟨(some 75), none, .idx (.tmp 73) (.tmp 74) 1⟩,
          ⟨(some 76), none, .ld (.tmp 75) none⟩,
          ⟨(some 77), none, .mv (.tmp 1)⟩,
          ⟨(some 78), none, .bin .eql 3 (.tmp 76) (.tmp 77)⟩])
        (.cond (.tmp 78)
          (.seq (.ops [⟨(some 6), none, .mv (.const (Go.Value.bool false))⟩,
            ⟨(some 7), none, .mv (.const (Go.Value.int Go.IntKind.i64 1))⟩])
          (.ret))
          (.skip))))
      (.ops [⟨(some 71), none, .mv (.tmp 10)⟩,
        ⟨(some 72), none, .bin .add 3 (.tmp 71) (.const (Go.Value.int Go.IntKind.i64 1))⟩,
        ⟨(some 10), none, .mv (.tmp 72)⟩]))))))
  (.seq (.ops [⟨(some 79), none, .mv (.tmp 0)⟩,
    ⟨(some 80), none, .mv (.tmp 1)⟩,
    ⟨(some 81), none, .bin .mul 3 (.tmp 80) (.const (Go.Value.int Go.IntKind.i64 8))⟩,
    ⟨(some 82), none, .bin .add 3 (.tmp 81) (.const (Go.Value.int Go.IntKind.i64 7))⟩,
    ⟨(some 83), none, .mv (.tmp 2)⟩,
    ⟨(some 84), none, .conv Go.IntKind.u64 (.tmp 83)⟩,
    ⟨(some 85), none, .bin .add 32 (.tmp 84) (.const (Go.Value.int Go.IntKind.u64 1))⟩,
    ⟨(some 86), none, .call 128 [(.tmp 79), (.tmp 82), (.const (Go.Value.int Go.IntKind.u64 0)), (.tmp 85)]⟩,
    ⟨(some 6), none, .mv (.tmp 86)⟩,
    ⟨(some 7), none, .mv (.const (Go.Value.int Go.IntKind.i64 0))⟩])
  (.ret))))))
theorem is_ref17_Index_Link : FnIs Try.prog F.ref17_Index_Link X.ref17_Index_Link 87 [.tmp 6, .tmp 7] := ⟨by kernel_rfl⟩

/-- haycroft/haycroftlaw17.grows: function 17 -/
abbrev F.law17_grows : FuncId := 17
def X.law17_grows : X :=
  .seq (.ops [⟨(some 5), none, .box 34 (.tmp 2)⟩,
    ⟨(some 6), none, .mv (.const (Go.Value.bool false))⟩])
  (.seq (.ops [⟨(some 24), none, .mv (.tmp 0)⟩,
    ⟨(some 25), none, .fld (.tmp 5) 1⟩,
    ⟨(some 26), none, .ld (.tmp 25) none⟩,
    ⟨(some 27), none, .call 22 [(.tmp 24), (.tmp 26)]⟩,
    ⟨(some 23), none, .mv (.tmp 27)⟩,
    ⟨(some 28), none, .ext (.tmp 23) 0⟩,
    ⟨(some 29), none, .ext (.tmp 23) 1⟩,
    ⟨(some 7), none, .new 46 (Go.Value.agg #[(Go.Value.int Go.IntKind.i64 0), (Go.Value.int Go.IntKind.i64 0), (Go.Value.int Go.IntKind.u64 0), (Go.Value.int Go.IntKind.i64 0)])⟩,
    ⟨none, none, .st (.tmp 7) (.tmp 28) 4⟩,
    ⟨(some 8), none, .mv (.tmp 29)⟩])
  (.seq (.seq (.drawn [(0, ⟨(some 30), none, .mv (.tmp 8)⟩),
    (1, ⟨(some 31), none, .bin .neq 25 (.tmp 30) (.const (Go.Value.int Go.IntKind.i64 0))⟩),
    (2, ⟨(some 32), none, .mv (.tmp 31)⟩),
    (3, ⟨(some 33), (some (32, false)), .ld (.tmp 7) (some 4)⟩),
    (4, ⟨(some 34), (some (32, false)), .mv (.tmp 1)⟩),
    (5, ⟨(some 35), (some (32, false)), .fld (.tmp 5) 1⟩),
    (6, ⟨(some 36), (some (32, false)), .ld (.tmp 35) none⟩),
    (7, ⟨(some 37), (some (32, false)), .call 68 [(.tmp 34), (.tmp 36)]⟩),
    (8, ⟨(some 38), (some (32, false)), .eq true (.agg 4 [(0, 0), (1, 0), (2, 0), (3, 0)]) (.tmp 33) (.tmp 37)⟩),
    (9, ⟨(some 39), none, .pick (.tmp 32) (.const (Go.Value.bool true)) (.tmp 38)⟩)]
    [[], [0], [1], [2], [2], [2], [5, 2], [4, 6, 2, 2], [3, 7, 2], [2, 8]]
    [0, 1, 3, 7, 7, 7, 39, 119, 255, 511] 128)
  (.cond (.tmp 39)
    (.seq (.ops [⟨(some 6), none, .mv (.const (Go.Value.bool false))⟩])
    (.ret))
    (.skip)))
  (.seq (.seq (.ops [⟨(some 40), none, .fld (.tmp 7) 0⟩,
    ⟨(some 41), none, .ld (.tmp 40) none⟩,
    ⟨(some 42), none, .bin .eql 3 (.tmp 41) (.const (Go.Value.int Go.IntKind.i64 1))⟩])
  (.cond (.tmp 42)
    (.seq (.ops [⟨(some 44), none, .mv (.tmp 0)⟩,
      ⟨(some 45), none, .fld (.tmp 7) 1⟩,
      ⟨(some 46), none, .ld (.tmp 45) none⟩,
      ⟨(some 47), none, .fld (.tmp 7) 2⟩,
      ⟨(some 48), none, .ld (.tmp 47) none⟩,
      ⟨(some 49), none, .fld (.tmp 5) 5⟩,
      ⟨(some 50), none, .ld (.tmp 49) none⟩,
      ⟨(some 51), none, .call 24 [(.tmp 44), (.tmp 46), (.tmp 48), (.tmp 50)]⟩,
      ⟨(some 43), none, .mv (.tmp 51)⟩,
      ⟨(some 52), none, .ext (.tmp 43) 0⟩,
      ⟨(some 53), none, .ext (.tmp 43) 1⟩,
      ⟨(some 9), none, .mv (.tmp 52)⟩,
      ⟨(some 10), none, .mv (.tmp 53)⟩])
    (.seq (.ops [⟨(some 55), none, .mv (.tmp 1)⟩,
      ⟨(some 56), none, .fld (.tmp 7) 1⟩,
      ⟨(some 57), none, .ld (.tmp 56) none⟩,
      ⟨(some 58), none, .fld (.tmp 7) 2⟩,
      ⟨(some 59), none, .ld (.tmp 58) none⟩,
      ⟨(some 60), none, .fld (.tmp 5) 5⟩,
      ⟨(some 61), none, .ld (.tmp 60) none⟩,
      ⟨(some 62), none, .call 69 [(.tmp 55), (.tmp 57), (.tmp 59), (.tmp 61)]⟩,
      ⟨(some 54), none, .mv (.tmp 62)⟩,
      ⟨(some 63), none, .ext (.tmp 54) 0⟩,
      ⟨(some 64), none, .ext (.tmp 54) 1⟩,
      ⟨(some 11), none, .mv (.tmp 63)⟩,
      ⟨(some 12), none, .mv (.tmp 64)⟩])
    (.seq (.ops [⟨(some 65), none, .mv (.tmp 9)⟩,
      ⟨(some 66), none, .mv (.tmp 11)⟩,
      ⟨(some 67), none, .eq false .bool (.tmp 65) (.tmp 66)⟩,
      ⟨(some 68), none, .mv (.tmp 67)⟩,
      ⟨(some 69), (some (68, true)), .mv (.tmp 10)⟩,
      ⟨(some 70), (some (68, true)), .mv (.tmp 12)⟩,
      ⟨(some 71), (some (68, true)), .bin .eql 25 (.tmp 69) (.tmp 70)⟩,
      ⟨(some 72), none, .pick (.tmp 68) (.tmp 71) (.const (Go.Value.bool false))⟩,
      ⟨(some 6), none, .mv (.tmp 72)⟩])
    (.ret))))
    (.skip)))
  (.seq (.seq (.ops [⟨(some 73), none, .fld (.tmp 7) 0⟩,
    ⟨(some 74), none, .ld (.tmp 73) none⟩,
    ⟨(some 75), none, .bin .eql 3 (.tmp 74) (.const (Go.Value.int Go.IntKind.i64 2))⟩])
  (.cond (.tmp 75)
    (.seq (.ops [⟨(some 77), none, .mv (.tmp 0)⟩,
      ⟨(some 78), none, .fld (.tmp 7) 1⟩,
      ⟨(some 79), none, .ld (.tmp 78) none⟩,
      ⟨(some 80), none, .fld (.tmp 5) 1⟩,
      ⟨(some 81), none, .ld (.tmp 80) none⟩,
      ⟨(some 82), none, .call 23 [(.tmp 77), (.tmp 79), (.tmp 81)]⟩,
      ⟨(some 76), none, .mv (.tmp 82)⟩,
      ⟨(some 83), none, .ext (.tmp 76) 0⟩,
      ⟨(some 84), none, .ext (.tmp 76) 1⟩,
      ⟨(some 13), none, .mv (.tmp 83)⟩,
      ⟨(some 14), none, .mv (.tmp 84)⟩])
    (.seq (.ops [⟨(some 86), none, .mv (.tmp 1)⟩,
      ⟨(some 87), none, .fld (.tmp 7) 1⟩,
      ⟨(some 88), none, .ld (.tmp 87) none⟩,
      ⟨(some 89), none, .fld (.tmp 5) 1⟩,
      ⟨(some 90), none, .ld (.tmp 89) none⟩,
      ⟨(some 91), none, .call 70 [(.tmp 86), (.tmp 88), (.tmp 90)]⟩,
      ⟨(some 85), none, .mv (.tmp 91)⟩,
      ⟨(some 92), none, .ext (.tmp 85) 0⟩,
      ⟨(some 93), none, .ext (.tmp 85) 1⟩,
      ⟨(some 15), none, .mv (.tmp 92)⟩,
      ⟨(some 16), none, .mv (.tmp 93)⟩])
    (.seq (.ops [⟨(some 94), none, .mv (.tmp 13)⟩,
      ⟨(some 95), none, .mv (.tmp 94)⟩,
      ⟨(some 96), (some (95, true)), .mv (.tmp 15)⟩,
      ⟨(some 97), none, .pick (.tmp 95) (.tmp 96) (.const (Go.Value.bool false))⟩,
      ⟨(some 98), none, .mv (.tmp 97)⟩,
      ⟨(some 99), (some (98, true)), .mv (.tmp 14)⟩,
      ⟨(some 100), (some (98, true)), .mv (.tmp 16)⟩,
      ⟨(some 101), (some (98, true)), .bin .eql 25 (.tmp 99) (.tmp 100)⟩,
      ⟨(some 102), none, .pick (.tmp 98) (.tmp 101) (.const (Go.Value.bool false))⟩,
      ⟨(some 6), none, .mv (.tmp 102)⟩])
    (.ret))))
    (.skip)))
  (.seq (.ops [⟨(some 104), none, .mv (.tmp 0)⟩,
    ⟨(some 105), none, .call 25 [(.tmp 104)]⟩,
    ⟨(some 103), none, .mv (.tmp 105)⟩,
    ⟨(some 106), none, .ext (.tmp 103) 0⟩,
    ⟨(some 107), none, .ext (.tmp 103) 1⟩,
    ⟨(some 17), none, .mv (.tmp 106)⟩,
    ⟨(some 18), none, .mv (.tmp 107)⟩])
  (.seq (.ops [⟨(some 109), none, .mv (.tmp 1)⟩,
    ⟨(some 110), none, .call 71 [(.tmp 109)]⟩,
    ⟨(some 108), none, .mv (.tmp 110)⟩,
    ⟨(some 111), none, .ext (.tmp 108) 0⟩,
    ⟨(some 112), none, .ext (.tmp 108) 1⟩,
    ⟨(some 19), none, .mv (.tmp 111)⟩,
    ⟨(some 20), none, .mv (.tmp 112)⟩])
  (.seq (.seq (.ops [⟨(some 113), none, .mv (.tmp 17)⟩,
    ⟨(some 114), none, .mv (.tmp 19)⟩,
    ⟨(some 115), none, .bin .neq 3 (.tmp 113) (.tmp 114)⟩,
    ⟨(some 116), none, .mv (.tmp 115)⟩,
    ⟨(some 117), (some (116, false)), .mv (.tmp 18)⟩,
    ⟨(some 118), (some (116, false)), .mv (.tmp 20)⟩,
    ⟨(some 119), (some (116, false)), .bin .neq 25 (.tmp 117) (.tmp 118)⟩,
    ⟨(some 120), none, .pick (.tmp 116) (.const (Go.Value.bool true)) (.tmp 119)⟩])
  (.cond (.tmp 120)
    (.seq (.ops [⟨(some 6), none, .mv (.const (Go.Value.bool false))⟩])
    (.ret))
    (.skip)))
  (.seq (.seq (.ops [⟨(some 121), none, .mv (.tmp 18)⟩,
    ⟨(some 122), none, .bin .neq 25 (.tmp 121) (.const (Go.Value.int Go.IntKind.i64 0))⟩])
  (.cond (.tmp 122)
    (.seq (.ops [⟨(some 6), none, .mv (.const (Go.Value.bool true))⟩])
    (.ret))
    (.skip)))
  (.seq (.ops [⟨(some 124), none, .mv (.tmp 0)⟩,
    ⟨(some 125), none, .fld (.tmp 7) 3⟩,
    ⟨(some 126), none, .ld (.tmp 125) none⟩,
    ⟨(some 127), none, .mv (.tmp 17)⟩,
    ⟨(some 128), none, .call 26 [(.tmp 124), (.tmp 126), (.tmp 127)]⟩,
    ⟨(some 123), none, .mv (.tmp 128)⟩,
    ⟨(some 129), none, .ext (.tmp 123) 0⟩,
    ⟨(some 130), none, .ext (.tmp 123) 1⟩,
    ⟨(some 21), none, .mv (.tmp 129)⟩,
    ⟨(some 18), none, .mv (.tmp 130)⟩])
  (.seq (.ops [⟨(some 132), none, .mv (.tmp 1)⟩,
    ⟨(some 133), none, .fld (.tmp 7) 3⟩,
    ⟨(some 134), none, .ld (.tmp 133) none⟩,
    ⟨(some 135), none, .mv (.tmp 17)⟩,
    ⟨(some 136), none, .call 72 [(.tmp 132), (.tmp 134), (.tmp 135)]⟩,
    ⟨(some 131), none, .mv (.tmp 136)⟩,
    ⟨(some 137), none, .ext (.tmp 131) 0⟩,
    ⟨(some 138), none, .ext (.tmp 131) 1⟩,
    ⟨(some 22), none, .mv (.tmp 137)⟩,
    ⟨(some 20), none, .mv (.tmp 138)⟩])
  (.seq (.ops [⟨(some 139), none, .mv (.tmp 21)⟩,
    ⟨(some 140), none, .mv (.tmp 22)⟩,
    ⟨(some 141), none, .eq false .bool (.tmp 139) (.tmp 140)⟩,
    ⟨(some 142), none, .mv (.tmp 141)⟩,
    ⟨(some 143), (some (142, true)), .mv (.tmp 18)⟩,
    ⟨(some 144), (some (142, true)), .mv (.tmp 20)⟩,
    ⟨(some 145), (some (142, true)), .bin .eql 25 (.tmp 143) (.tmp 144)⟩,
    ⟨(some 146), none, .pick (.tmp 142) (.tmp 145) (.const (Go.Value.bool false))⟩,
    ⟨(some 6), none, .mv (.tmp 146)⟩])
  (.ret))))))))))))
theorem is_law17_grows : FnIs Try.prog F.law17_grows X.law17_grows 147 [.tmp 6] := ⟨by kernel_rfl⟩

-- loop (inner ones first): [0, 2, 7, 9, 21, 22, 23, 24, 25, 26]
-- loop (inner ones first): [0, 2, 7, 9, 21, 22, 23, 24]
-- loop (inner ones first): [0, 2, 7, 9, 21]
-- loop (inner ones first): [0, 2, 7, 9, 11, 13, 14, 15, 16, 18]
-- loop (inner ones first): [0, 2, 7, 9, 11, 13, 14, 15]
-- loop (inner ones first): [0, 2, 7, 9, 11, 13]
-- loop (inner ones first): [0, 2, 7, 9, 11]
/-- haycroft/haycroftlaw17.IndexOnce: function 3 -/
abbrev F.law17_IndexOnce : FuncId := 3
def X.law17_IndexOnce : X :=
  .seq (.ops [⟨(some 6), none, .mv (.const (Go.Value.bool false))⟩])
  (.seq (.seq (.ops [⟨(some 31), none, .call 11 []⟩,
    ⟨(some 32), none, .un .not (.tmp 31)⟩])
  (.cond (.tmp 32)
    (.seq (.ops [⟨(some 6), none, .mv (.const (Go.Value.bool false))⟩])
    (.ret))
    (.skip)))
  (.seq (.ops [⟨(some 34), none, .mv (.tmp 0)⟩,
    ⟨(some 35), none, .mv (.tmp 1)⟩,
    ⟨(some 36), none, .call 12 [(.tmp 34), (.tmp 35)]⟩,
    ⟨(some 33), none, .mv (.tmp 36)⟩,
    ⟨(some 37), none, .ext (.tmp 33) 0⟩,
    ⟨(some 38), none, .ext (.tmp 33) 1⟩,
    ⟨(some 7), none, .mv (.tmp 37)⟩,
    ⟨(some 8), none, .mv (.tmp 38)⟩])
  (.seq (.ops [⟨(some 40), none, .mv (.tmp 0)⟩,
    ⟨(some 41), none, .mv (.tmp 1)⟩,
    ⟨(some 42), none, .call 13 [(.tmp 40), (.tmp 41)]⟩,
    ⟨(some 39), none, .mv (.tmp 42)⟩,
    ⟨(some 43), none, .ext (.tmp 39) 0⟩,
    ⟨(some 44), none, .ext (.tmp 39) 1⟩,
    ⟨(some 9), none, .mv (.tmp 43)⟩,
    ⟨(some 10), none, .mv (.tmp 44)⟩])
  (.seq (.seq (.ops [⟨(some 45), none, .mv (.tmp 0)⟩,
    ⟨(some 46), none, .mv (.tmp 1)⟩,
    ⟨(some 47), none, .call 14 [(.tmp 45), (.tmp 46)]⟩,
    ⟨(some 48), none, .un .not (.tmp 47)⟩,
    ⟨(some 49), none, .mv (.tmp 48)⟩,
    ⟨(some 50), (some (49, false)), .mv (.tmp 8)⟩,
    ⟨(some 51), (some (49, false)), .bin .neq 25 (.tmp 50) (.const (Go.Value.int Go.IntKind.i64 0))⟩,
    ⟨(some 52), none, .pick (.tmp 49) (.const (Go.Value.bool true)) (.tmp 51)⟩,
    ⟨(some 53), none, .mv (.tmp 52)⟩,
    ⟨(some 54), (some (53, false)), .mv (.tmp 10)⟩,
    ⟨(some 55), (some (53, false)), .bin .neq 25 (.tmp 54) (.const (Go.Value.int Go.IntKind.i64 0))⟩,
    ⟨(some 56), none, .pick (.tmp 53) (.const (Go.Value.bool true)) (.tmp 55)⟩])
  (.cond (.tmp 56)
    (.seq (.ops [⟨(some 6), none, .mv (.const (Go.Value.bool true))⟩])
    (.ret))
    (.skip)))
  (.seq (.seq (.ops [⟨(some 11), none, .mv (.const (Go.Value.int Go.IntKind.i64 0))⟩])
  (.block 0 (.loop (.seq (.seq (.ops [⟨(some 57), none, .mv (.tmp 11)⟩,
        ⟨(some 58), none, .mv (.tmp 2)⟩,
        ⟨(some 59), none, .lenS (.tmp 58)⟩,
        ⟨(some 60), none, .bin .lss 3 (.tmp 57) (.tmp 59)⟩,
        ⟨(some 61), none, .mv (.tmp 60)⟩,
        ⟨(some 62), (some (61, true)), .mv (.tmp 11)⟩,
        ⟨(some 63), (some (61, true)), .bin .lss 3 (.tmp 62) (.const (Go.Value.int Go.IntKind.i64 150))⟩,
        ⟨(some 64), none, .pick (.tmp 61) (.tmp 63) (.const (Go.Value.bool false))⟩])
      (.cond (.tmp 64)
        (.skip)
        (.exit 0)))
      (.seq (.block 1 (.seq (.ops [⟨(some 67), none, .mv (.tmp 2)⟩,
          ⟨(some 68), none, .mv (.tmp 11)⟩,
          ⟨(some 69), none, .idx (.tmp 67) (.tmp 68) 8⟩,
          ⟨(some 70), none, .ld (.tmp 69) (some 8)⟩,
          ⟨(some 12), none, .new 34 (Go.Value.agg #[(Go.Value.int Go.IntKind.i64 0), (Go.Value.int Go.IntKind.u64 0), (Go.Value.int Go.IntKind.i64 0), (Go.Value.int Go.IntKind.u64 0), (Go.Value.bool false), (Go.Value.int Go.IntKind.u64 0), (Go.Value.int Go.IntKind.i64 0), (Go.Value.int Go.IntKind.i64 0)])⟩,
          ⟨none, none, .st (.tmp 12) (.tmp 70) 8⟩])
        (.seq (.seq (.ops [⟨(some 71), none, .fld (.tmp 12) 0⟩,
          ⟨(some 72), none, .ld (.tmp 71) none⟩,
          ⟨(some 73), none, .bin .eql 3 (.tmp 72) (.const (Go.Value.int Go.IntKind.i64 5))⟩])
        (.cond (.tmp 73)
          (.seq (.ops [⟨(some 74), none, .mv (.tmp 7)⟩,
            ⟨(some 75), none, .call 15 [(.tmp 74)]⟩])
          (.ops [⟨(some 76), none, .mv (.tmp 9)⟩,
            ⟨(some 77), none, .call 16 [(.tmp 76)]⟩]))
          (.seq (.ops [⟨(some 78), none, .mv (.tmp 7)⟩,
            ⟨(some 79), none, .mv (.tmp 9)⟩,
            ⟨(some 80), none, .ld (.tmp 12) (some 8)⟩,
            ⟨(some 81), none, .call 17 [(.tmp 78), (.tmp 79), (.tmp 80)]⟩,
            ⟨(some 82), none, .un .not (.tmp 81)⟩])
          (.cond (.tmp 82)
            (.seq (.ops [⟨(some 6), none, .mv (.const (Go.Value.bool false))⟩])
            (.ret))
            (.skip)))))
        (.seq (.ops [⟨(some 13), none, .mv (.const (Go.Value.int Go.IntKind.i64 0))⟩])
        (.block 2 (.loop (.seq (.seq (.ops [⟨(some 83), none, .mv (.tmp 13)⟩,
              ⟨(some 84), none, .mv (.tmp 0)⟩,
              ⟨(some 85), none, .bin .lss 3 (.tmp 83) (.tmp 84)⟩])
            (.cond (.tmp 85)
              (.skip)
              (.exit 2)))
            (.seq (.block 3 (.seq (.ops [⟨(some 88), none, .mv (.tmp 9)⟩,
                ⟨(some 89), none, .mv (.tmp 13)⟩,
                ⟨(some 90), none, .call 18 [(.tmp 88), (.tmp 89)]⟩,
                ⟨(some 14), none, .mv (.tmp 90)⟩])
              (.seq (.ops [⟨(some 15), none, .mv (.const (Go.Value.int Go.IntKind.i64 0))⟩])
              (.block 4 (.loop (.seq (.seq (.ops [⟨(some 91), none, .mv (.tmp 15)⟩,
                    ⟨(some 92), none, .mv (.tmp 14)⟩,
                    ⟨(some 93), none, .lenS (.tmp 92)⟩,
                    ⟨(some 94), none, .bin .lss 3 (.tmp 91) (.tmp 93)⟩])
                  (.cond (.tmp 94)
                    (.skip)
                    (.exit 4)))
                  (.seq (.block 5 (.seq (.ops [⟨(some 98), none, .mv (.tmp 14)⟩,
                      ⟨(some 99), none, .mv (.tmp 15)⟩,
                      ⟨(some 100), none, .idx (.tmp 98) (.tmp 99) 1⟩,
                      ⟨(some 101), none, .ld (.tmp 100) none⟩,
                      ⟨(some 102), none, .call 19 [(.tmp 101)]⟩,
                      ⟨(some 97), none, .mv (.tmp 102)⟩,
                      ⟨(some 103), none, .ext (.tmp 97) 0⟩,
                      ⟨(some 104), none, .ext (.tmp 97) 1⟩,
                      ⟨(some 16), none, .new 40 (Go.Value.agg #[(Go.Value.int Go.IntKind.u64 0), (Go.Value.int Go.IntKind.u64 0), (Go.Value.bool false)])⟩,
                      ⟨none, none, .st (.tmp 16) (.tmp 103) 3⟩,
                      ⟨(some 17), none, .mv (.tmp 104)⟩])
                    (.seq (.ops [⟨(some 18), none, .mv (.const (Go.Value.int Go.IntKind.i64 0))⟩])
                    (.block 6 (.loop (.seq (.seq (.ops [⟨(some 105), none, .mv (.tmp 18)⟩,
                          ⟨(some 106), none, .mv (.tmp 15)⟩,
                          ⟨(some 107), none, .bin .lss 3 (.tmp 105) (.tmp 106)⟩])
                        (.cond (.tmp 107)
                          (.skip)
                          (.exit 6)))
                        (.seq (.block 7 (.seq (.ops [⟨(some 111), none, .mv (.tmp 14)⟩,
                            ⟨(some 112), none, .mv (.tmp 18)⟩,
                            ⟨(some 113), none, .idx (.tmp 111) (.tmp 112) 1⟩,
                            ⟨(some 114), none, .ld (.tmp 113) none⟩,
                            ⟨(some 115), none, .call 19 [(.tmp 114)]⟩,
                            ⟨(some 110), none, .mv (.tmp 115)⟩,
                            ⟨(some 116), none, .ext (.tmp 110) 0⟩,
                            ⟨(some 117), none, .ext (.tmp 110) 1⟩,
                            ⟨(some 19), none, .new 40 (Go.Value.agg #[(Go.Value.int Go.IntKind.u64 0), (Go.Value.int Go.IntKind.u64 0), (Go.Value.bool false)])⟩,
                            ⟨none, none, .st (.tmp 19) (.tmp 116) 3⟩,
                            ⟨(some 20), none, .mv (.tmp 117)⟩])
                          (.seq (.ops [⟨(some 118), none, .fld (.tmp 16) 1⟩,
                            ⟨(some 119), none, .ld (.tmp 118) none⟩,
                            ⟨(some 120), none, .fld (.tmp 19) 1⟩,
                            ⟨(some 121), none, .ld (.tmp 120) none⟩,
                            ⟨(some 122), none, .bin .eql 32 (.tmp 119) (.tmp 121)⟩])
                          (.cond (.tmp 122)
                            (.seq (.ops [⟨(some 6), none, .mv (.const (Go.Value.bool false))⟩])
                            (.ret))
                            (.skip)))))
                        (.ops [⟨(some 108), none, .mv (.tmp 18)⟩,
                          ⟨(some 109), none, .bin .add 3 (.tmp 108) (.const (Go.Value.int Go.IntKind.i64 1))⟩,
                          ⟨(some 18), none, .mv (.tmp 109)⟩]))))))))
                  (.ops [⟨(some 95), none, .mv (.tmp 15)⟩,
                    ⟨(some 96), none, .bin .add 3 (.tmp 95) (.const (Go.Value.int Go.IntKind.i64 1))⟩,
                    ⟨(some 15), none, .mv (.tmp 96)⟩]))))))))
            (.ops [⟨(some 86), none, .mv (.tmp 13)⟩,
              ⟨(some 87), none, .bin .add 3 (.tmp 86) (.const (Go.Value.int Go.IntKind.i64 1))⟩,
              ⟨(some 13), none, .mv (.tmp 87)⟩])))))))))
      (.ops [⟨(some 65), none, .mv (.tmp 11)⟩,
        ⟨(some 66), none, .bin .add 3 (.tmp 65) (.const (Go.Value.int Go.IntKind.i64 1))⟩,
        ⟨(some 11), none, .mv (.tmp 66)⟩]))))))
  (.seq (.seq (.ops [⟨(some 21), none, .mv (.const (Go.Value.int Go.IntKind.i64 0))⟩])
  (.block 8 (.loop (.seq (.seq (.ops [⟨(some 123), none, .mv (.tmp 21)⟩,
        ⟨(some 124), none, .mv (.tmp 2)⟩,
        ⟨(some 125), none, .lenS (.tmp 124)⟩,
        ⟨(some 126), none, .bin .lss 3 (.tmp 123) (.tmp 125)⟩,
        ⟨(some 127), none, .mv (.tmp 126)⟩,
        ⟨(some 128), (some (127, true)), .mv (.tmp 21)⟩,
        ⟨(some 129), (some (127, true)), .bin .lss 3 (.tmp 128) (.const (Go.Value.int Go.IntKind.i64 150))⟩,
        ⟨(some 130), none, .pick (.tmp 127) (.tmp 129) (.const (Go.Value.bool false))⟩])
      (.cond (.tmp 130)
        (.skip)
        (.exit 8)))
      (.seq (.block 9 (.seq (.ops [⟨(some 22), none, .mv (.const (Go.Value.int Go.IntKind.u64 0))⟩])
        (.seq (.ops [⟨(some 23), none, .mv (.const (Go.Value.bool false))⟩])
        (.seq (.seq (.ops [⟨(some 24), none, .mv (.const (Go.Value.int Go.IntKind.i64 0))⟩])
        (.block 10 (.loop (.seq (.seq (.ops [⟨(some 133), none, .mv (.tmp 24)⟩,
              ⟨(some 134), none, .mv (.tmp 0)⟩,
              ⟨(some 135), none, .bin .lss 3 (.tmp 133) (.tmp 134)⟩])
            (.cond (.tmp 135)
              (.skip)
              (.exit 10)))
            (.seq (.block 11 (.seq (.ops [⟨(some 138), none, .mv (.tmp 9)⟩,
                ⟨(some 139), none, .mv (.tmp 24)⟩,
                ⟨(some 140), none, .call 18 [(.tmp 138), (.tmp 139)]⟩,
                ⟨(some 25), none, .mv (.tmp 140)⟩])
              (.seq (.ops [⟨(some 26), none, .mv (.const (Go.Value.int Go.IntKind.i64 0))⟩])
              (.block 12 (.loop (.seq (.seq (.ops [⟨(some 141), none, .mv (.tmp 26)⟩,
                    ⟨(some 142), none, .mv (.tmp 25)⟩,
                    ⟨(some 143), none, .lenS (.tmp 142)⟩,
                    ⟨(some 144), none, .bin .lss 3 (.tmp 141) (.tmp 143)⟩])
                  (.cond (.tmp 144)
                    (.skip)
                    (.exit 12)))
                  (.seq (.block 13 (.seq (.ops [⟨(some 148), none, .mv (.tmp 25)⟩,
                      ⟨(some 149), none, .mv (.tmp 26)⟩,
                      ⟨(some 150), none, .idx (.tmp 148) (.tmp 149) 1⟩,
                      ⟨(some 151), none, .ld (.tmp 150) none⟩,
                      ⟨(some 152), none, .call 19 [(.tmp 151)]⟩,
                      ⟨(some 147), none, .mv (.tmp 152)⟩,
                      ⟨(some 153), none, .ext (.tmp 147) 0⟩,
                      ⟨(some 154), none, .ext (.tmp 147) 1⟩,
                      ⟨(some 27), none, .new 40 (Go.Value.agg #[(Go.Value.int Go.IntKind.u64 0), (Go.Value.int Go.IntKind.u64 0), (Go.Value.bool false)])⟩,
                      ⟨none, none, .st (.tmp 27) (.tmp 153) 3⟩,
                      ⟨(some 28), none, .mv (.tmp 154)⟩])
                    (.seq (.drawn [(0, ⟨(some 155), none, .mv (.tmp 24)⟩),
                      (1, ⟨(some 156), none, .mv (.tmp 2)⟩),
                      (2, ⟨(some 157), none, .mv (.tmp 21)⟩),
                      (3, ⟨(some 158), none, .idx (.tmp 156) (.tmp 157) 8⟩),
                      (4, ⟨(some 159), none, .fld (.tmp 158) 1⟩),
                      (5, ⟨(some 160), none, .ld (.tmp 159) none⟩),
                      (6, ⟨(some 161), none, .mv (.tmp 0)⟩),
                      (7, ⟨(some 162), none, .call 20 [(.tmp 160), (.tmp 161)]⟩),
                      (8, ⟨(some 163), none, .bin .eql 3 (.tmp 155) (.tmp 162)⟩),
                      (9, ⟨(some 164), none, .mv (.tmp 163)⟩),
                      (10, ⟨(some 165), (some (164, true)), .fld (.tmp 27) 1⟩),
                      (11, ⟨(some 166), (some (164, true)), .ld (.tmp 165) none⟩),
                      (12, ⟨(some 167), (some (164, true)), .mv (.tmp 2)⟩),
                      (13, ⟨(some 168), (some (164, true)), .mv (.tmp 21)⟩),
                      (14, ⟨(some 169), (some (164, true)), .idx (.tmp 167) (.tmp 168) 8⟩),
                      (15, ⟨(some 170), (some (164, true)), .fld (.tmp 169) 1⟩),
                      (16, ⟨(some 171), (some (164, true)), .ld (.tmp 170) none⟩),
                      (17, ⟨(some 172), (some (164, true)), .call 21 [(.tmp 171)]⟩),
                      (18, ⟨(some 173), (some (164, true)), .bin .eql 32 (.tmp 166) (.tmp 172)⟩),
                      (19, ⟨(some 174), none, .pick (.tmp 164) (.tmp 173) (.const (Go.Value.bool false))⟩)]
                      [[], [], [], [1, 2], [3], [4], [], [5, 6], [0, 7], [8, 7], [9], [10, 9], [9], [9], [12, 13, 9], [14, 9], [15, 9], [16, 9, 9], [11, 17, 9], [9, 18]]
                      [0, 0, 0, 6, 14, 30, 0, 126, 255, 511, 1023, 2047, 1023, 1023, 13311, 29695, 62463, 127999, 262143, 524287] 131200)
                    (.cond (.tmp 174)
                      (.seq (.ops [⟨(some 23), none, .mv (.const (Go.Value.bool true))⟩])
                      (.ops [⟨(some 175), none, .mv (.tmp 25)⟩,
                        ⟨(some 176), none, .mv (.tmp 26)⟩,
                        ⟨(some 177), none, .idx (.tmp 175) (.tmp 176) 1⟩,
                        ⟨(some 178), none, .ld (.tmp 177) none⟩,
                        ⟨(some 22), none, .mv (.tmp 178)⟩]))
                      (.skip)))))
                  (.ops [⟨(some 145), none, .mv (.tmp 26)⟩,
                    ⟨(some 146), none, .bin .add 3 (.tmp 145) (.const (Go.Value.int Go.IntKind.i64 1))⟩,
                    ⟨(some 26), none, .mv (.tmp 146)⟩]))))))))
            (.ops [⟨(some 136), none, .mv (.tmp 24)⟩,
              ⟨(some 137), none, .bin .add 3 (.tmp 136) (.const (Go.Value.int Go.IntKind.i64 1))⟩,
              ⟨(some 24), none, .mv (.tmp 137)⟩]))))))
        (.seq (.ops [⟨(some 180), none, .mv (.tmp 7)⟩,
          ⟨(some 181), none, .mv (.tmp 2)⟩,
          ⟨(some 182), none, .mv (.tmp 21)⟩,
          ⟨(some 183), none, .idx (.tmp 181) (.tmp 182) 8⟩,
          ⟨(some 184), none, .fld (.tmp 183) 1⟩,
          ⟨(some 185), none, .ld (.tmp 184) none⟩,
          ⟨(some 186), none, .call 22 [(.tmp 180), (.tmp 185)]⟩,
          ⟨(some 179), none, .mv (.tmp 186)⟩,
          ⟨(some 187), none, .ext (.tmp 179) 0⟩,
          ⟨(some 188), none, .ext (.tmp 179) 1⟩,
          ⟨(some 29), none, .new 46 (Go.Value.agg #[(Go.Value.int Go.IntKind.i64 0), (Go.Value.int Go.IntKind.i64 0), (Go.Value.int Go.IntKind.u64 0), (Go.Value.int Go.IntKind.i64 0)])⟩,
          ⟨none, none, .st (.tmp 29) (.tmp 187) 4⟩,
          ⟨(some 30), none, .mv (.tmp 188)⟩])
        (.seq (.ops [⟨(some 189), none, .mv (.tmp 30)⟩,
          ⟨(some 190), none, .bin .neq 25 (.tmp 189) (.const (Go.Value.int Go.IntKind.i64 0))⟩,
          ⟨(some 191), none, .mv (.tmp 190)⟩,
          ⟨(some 192), (some (191, false)), .fld (.tmp 29) 0⟩,
          ⟨(some 193), (some (191, false)), .ld (.tmp 192) none⟩,
          ⟨(some 194), (some (191, false)), .bin .eql 3 (.tmp 193) (.const (Go.Value.int Go.IntKind.i64 1))⟩,
          ⟨(some 195), (some (191, false)), .mv (.tmp 23)⟩,
          ⟨(some 196), (some (191, false)), .eq true .bool (.tmp 194) (.tmp 195)⟩,
          ⟨(some 197), none, .pick (.tmp 191) (.const (Go.Value.bool true)) (.tmp 196)⟩,
          ⟨(some 198), none, .mv (.tmp 197)⟩,
          ⟨(some 199), (some (198, false)), .fld (.tmp 29) 2⟩,
          ⟨(some 200), (some (198, false)), .ld (.tmp 199) none⟩,
          ⟨(some 201), (some (198, false)), .mv (.tmp 22)⟩,
          ⟨(some 202), (some (198, false)), .bin .neq 32 (.tmp 200) (.tmp 201)⟩,
          ⟨(some 203), none, .pick (.tmp 198) (.const (Go.Value.bool true)) (.tmp 202)⟩])
        (.cond (.tmp 203)
          (.seq (.ops [⟨(some 6), none, .mv (.const (Go.Value.bool false))⟩])
          (.ret))
          (.skip))))))))
      (.ops [⟨(some 131), none, .mv (.tmp 21)⟩,
        ⟨(some 132), none, .bin .add 3 (.tmp 131) (.const (Go.Value.int Go.IntKind.i64 1))⟩,
        ⟨(some 21), none, .mv (.tmp 132)⟩]))))))
  (.seq (.ops [⟨(some 6), none, .mv (.const (Go.Value.bool true))⟩])
  (.ret))))))))
theorem is_law17_IndexOnce : FnIs Try.prog F.law17_IndexOnce X.law17_IndexOnce 204 [.tmp 6] := ⟨by kernel_rfl⟩

/-- sync/atomic.LoadInt64: function 164, without a body -/
abbrev F.atomic_LoadInt64 : FuncId := 164
theorem ext_atomic_LoadInt64 : ExtIs Try.prog F.atomic_LoadInt64 Try.f164 (Extern.Atomic.loadT (.int .i64)) := ⟨Try.func164, by kernel_rfl, by kernel_rfl, by kernel_rfl, by kernel_rfl⟩

/-- (*sync/atomic.Int64).Load: function 134 -/
abbrev F.atomic_Int64_Load : FuncId := 134
def X.atomic_Int64_Load : X :=
  .seq (.ops [⟨(some 2), none, .mv (.const (Go.Value.int Go.IntKind.i64 0))⟩])
  (.seq (.ops [⟨(some 3), none, .mv (.tmp 0)⟩,
    ⟨(some 4), none, .nilc (.tmp 3)⟩,
    ⟨(some 5), none, .fld (.tmp 4) 0⟩,
    ⟨(some 6), none, .ext1 164 [(.tmp 5)]⟩,
    ⟨(some 2), none, .mv (.tmp 6)⟩])
  (.ret))
theorem is_atomic_Int64_Load : FnIs Try.prog F.atomic_Int64_Load X.atomic_Int64_Load 7 [.tmp 2] := ⟨by kernel_rfl⟩

/-- (*haycroft/cell.Row).Counts: function 89 -/
abbrev F.cell_Row_Counts : FuncId := 89
def X.cell_Row_Counts : X :=
  .seq (.ops [⟨(some 2), none, .mv (.const (Go.Value.int Go.IntKind.i64 0))⟩,
    ⟨(some 3), none, .mv (.const (Go.Value.int Go.IntKind.i64 0))⟩])
  (.seq (.seq (.ops [⟨(some 4), none, .mv (.tmp 0)⟩,
    ⟨(some 5), none, .eq false .ptr (.tmp 4) (.const (Go.Value.pointer none))⟩])
  (.cond (.tmp 5)
    (.seq (.ops [⟨(some 2), none, .mv (.const (Go.Value.int Go.IntKind.i64 0))⟩,
      ⟨(some 3), none, .mv (.const (Go.Value.int Go.IntKind.i64 0))⟩])
    (.ret))
    (.skip)))
  (.seq (.drawn [(0, ⟨(some 6), none, .mv (.tmp 0)⟩),
    (1, ⟨(some 7), none, .nilc (.tmp 6)⟩),
    (2, ⟨(some 8), none, .fld (.tmp 7) 1⟩),
    (4, ⟨(some 10), none, .mv (.tmp 0)⟩),
    (5, ⟨(some 11), none, .nilc (.tmp 10)⟩),
    (6, ⟨(some 12), none, .fld (.tmp 11) 2⟩),
    (3, ⟨(some 9), none, .call 134 [(.tmp 8)]⟩),
    (7, ⟨(some 13), none, .call 134 [(.tmp 12)]⟩),
    (8, ⟨(some 2), none, .mv (.tmp 9)⟩),
    (9, ⟨(some 3), none, .mv (.tmp 13)⟩)]
    [[], [0], [1], [2], [], [4], [5], [6, 3], [3, 7, 0, 1, 2, 3], [7, 8, 0, 1, 2, 3, 4, 5, 6, 7, 8]]
    [0, 1, 3, 7, 0, 16, 48, 127, 255, 511] 136)
  (.ret)))
theorem is_cell_Row_Counts : FnIs Try.prog F.cell_Row_Counts X.cell_Row_Counts 14 [.tmp 2, .tmp 3] := ⟨by kernel_rfl⟩

/-- (*haycroft/index.Index).Counts: function 27 -/
abbrev F.index_Index_Counts : FuncId := 27
def X.index_Index_Counts : X :=
  .seq (.ops [⟨(some 2), none, .mv (.const (Go.Value.int Go.IntKind.i64 0))⟩,
    ⟨(some 3), none, .mv (.const (Go.Value.int Go.IntKind.i64 0))⟩])
  (.seq (.seq (.ops [⟨(some 4), none, .mv (.tmp 0)⟩,
    ⟨(some 5), none, .eq false .ptr (.tmp 4) (.const (Go.Value.pointer none))⟩])
  (.cond (.tmp 5)
    (.seq (.ops [⟨(some 2), none, .mv (.const (Go.Value.int Go.IntKind.i64 0))⟩,
      ⟨(some 3), none, .mv (.const (Go.Value.int Go.IntKind.i64 0))⟩])
    (.ret))
    (.skip)))
  (.seq (.ops [⟨(some 6), none, .mv (.tmp 0)⟩,
    ⟨(some 7), none, .nilc (.tmp 6)⟩,
    ⟨(some 8), none, .fld (.tmp 7) 2⟩,
    ⟨(some 9), none, .ld (.tmp 8) none⟩,
    ⟨(some 10), none, .call 89 [(.tmp 9)]⟩,
    ⟨(some 11), none, .ext (.tmp 10) 0⟩,
    ⟨(some 12), none, .ext (.tmp 10) 1⟩,
    ⟨(some 2), none, .mv (.tmp 11)⟩,
    ⟨(some 3), none, .mv (.tmp 12)⟩])
  (.ret)))
theorem is_index_Index_Counts : FnIs Try.prog F.index_Index_Counts X.index_Index_Counts 13 [.tmp 2, .tmp 3] := ⟨by kernel_rfl⟩

/-- (*haycroft/index.Index).Load: function 28 -/
abbrev F.index_Index_Load : FuncId := 28
def X.index_Index_Load : X :=
  .seq (.ops [⟨(some 4), none, .mv (.const (Go.Value.int Go.IntKind.u64 0))⟩])
  (.seq (.seq (.ops [⟨(some 5), none, .mv (.tmp 0)⟩,
    ⟨(some 6), none, .mv (.tmp 1)⟩,
    ⟨(some 7), none, .call 90 [(.tmp 5), (.tmp 6)]⟩,
    ⟨(some 8), none, .un .not (.tmp 7)⟩])
  (.cond (.tmp 8)
    (.seq (.ops [⟨(some 4), none, .mv (.const (Go.Value.int Go.IntKind.u64 0))⟩])
    (.ret))
    (.skip)))
  (.seq (.ops [⟨(some 9), none, .mv (.tmp 0)⟩,
    ⟨(some 10), none, .nilc (.tmp 9)⟩,
    ⟨(some 11), none, .fld (.tmp 10) 2⟩,
    ⟨(some 12), none, .ld (.tmp 11) none⟩,
    ⟨(some 13), none, .mv (.tmp 1)⟩,
    ⟨(some 14), none, .call 63 [(.tmp 12), (.tmp 13)]⟩,
    ⟨(some 4), none, .mv (.tmp 14)⟩])
  (.ret)))
theorem is_index_Index_Load : FnIs Try.prog F.index_Index_Load X.index_Index_Load 15 [.tmp 4] := ⟨by kernel_rfl⟩

-- loop (inner ones first): [0, 3, 13, 14, 20, 21, 22]
-- loop (inner ones first): [0, 3, 13, 14]
/-- (*haycroft/index.Index).Entries: function 30 -/
abbrev F.index_Index_Entries : FuncId := 30
def X.index_Index_Entries : X :=
  .seq (.ops [⟨(some 2), none, .mv (.const (Go.Value.slice none 0 0))⟩])
  (.seq (.seq (.ops [⟨(some 8), none, .mv (.tmp 0)⟩,
    ⟨(some 9), none, .eq false .ptr (.tmp 8) (.const (Go.Value.pointer none))⟩])
  (.cond (.tmp 9)
    (.seq (.ops [⟨(some 2), none, .mv (.const (Go.Value.slice none 0 0))⟩])
    (.ret))
    (.skip)))
  (.seq (.ops [⟨(some 3), none, .mv (.const (Go.Value.slice none 0 0))⟩])
  (.seq (.seq (.ops [⟨(some 10), none, .mv (.tmp 0)⟩,
    ⟨(some 11), none, .nilc (.tmp 10)⟩,
    ⟨(some 12), none, .fld (.tmp 11) 0⟩,
    ⟨(some 13), none, .ld (.tmp 12) none⟩,
    ⟨(some 14), none, .mv (.const (Go.Value.int Go.IntKind.i64 0))⟩])
  (.block 0 (.loop (.seq (.ops [⟨(some 15), none, .bin .lss 3 (.tmp 14) (.tmp 13)⟩])
      (.seq (.cond (.tmp 15)
        (.skip)
        (.exit 0))
      (.seq (.block 1 (.seq (.ops [⟨(some 16), none, .mv (.tmp 14)⟩,
          ⟨(some 4), none, .mv (.tmp 16)⟩])
        (.seq (.ops [⟨(some 17), none, .mv (.tmp 0)⟩,
          ⟨(some 18), none, .mv (.tmp 4)⟩,
          ⟨(some 19), none, .call 29 [(.tmp 17), (.tmp 18)]⟩,
          ⟨(some 20), none, .call 62 [(.tmp 19)]⟩,
          ⟨(some 21), none, .lenS (.tmp 20)⟩,
          ⟨(some 22), none, .mv (.const (Go.Value.int Go.IntKind.i64 0))⟩])
        (.block 2 (.loop (.seq (.ops [⟨(some 23), none, .bin .lss 3 (.tmp 22) (.tmp 21)⟩])
            (.seq (.cond (.tmp 23)
              (.skip)
              (.exit 2))
            (.seq (.block 3 (.seq (.ops [⟨(some 24), none, .idx (.tmp 20) (.tmp 22) 1⟩,
                ⟨(some 25), none, .ld (.tmp 24) none⟩,
                ⟨(some 6), none, .mv (.tmp 25)⟩])
              (.seq (.ops [⟨(some 26), none, .mv (.tmp 0)⟩,
                ⟨(some 27), none, .nilc (.tmp 26)⟩,
                ⟨(some 28), none, .fld (.tmp 27) 2⟩,
                ⟨(some 29), none, .ld (.tmp 28) none⟩,
                ⟨(some 30), none, .mv (.tmp 6)⟩,
                ⟨(some 31), none, .call 63 [(.tmp 29), (.tmp 30)]⟩,
                ⟨(some 7), none, .mv (.tmp 31)⟩])
              (.seq (.ops [⟨(some 32), none, .mv (.tmp 7)⟩,
                ⟨(some 33), none, .bin .neq 32 (.tmp 32) (.const (Go.Value.int Go.IntKind.u64 0))⟩])
              (.cond (.tmp 33)
                (.ops [⟨(some 34), none, .mv (.tmp 3)⟩,
                  ⟨(some 35), none, .mv (.tmp 7)⟩,
                  ⟨(some 36), none, .bsl 32 1 1 [(Go.Value.int Go.IntKind.u64 0)] [(0, (.tmp 35))]⟩,
                  ⟨(some 37), none, .app 32 1 8 [(Go.Value.int Go.IntKind.u64 0)] (.tmp 34) (.tmp 36)⟩,
                  ⟨(some 3), none, .mv (.tmp 37)⟩])
                (.skip))))))
            (.ops [⟨(some 38), none, .bin .add 3 (.tmp 22) (.const (Go.Value.int Go.IntKind.i64 1))⟩,
              ⟨(some 22), none, .mv (.tmp 38)⟩])))))))))
      (.ops [⟨(some 39), none, .bin .add 3 (.tmp 14) (.const (Go.Value.int Go.IntKind.i64 1))⟩,
        ⟨(some 14), none, .mv (.tmp 39)⟩])))))))
  (.seq (.ops [⟨(some 40), none, .mv (.tmp 3)⟩,
    ⟨(some 2), none, .mv (.tmp 40)⟩])
  (.ret)))))
theorem is_index_Index_Entries : FnIs Try.prog F.index_Index_Entries X.index_Index_Entries 41 [.tmp 2] := ⟨by kernel_rfl⟩

-- loop (inner ones first): [0, 1, 9, 21, 22]
/-- (*haycroft/cell.Row).Words: function 92 -/
abbrev F.cell_Row_Words : FuncId := 92
def X.cell_Row_Words : X :=
  .seq (.ops [⟨(some 6), none, .mv (.const (Go.Value.slice none 0 0))⟩,
    ⟨(some 7), none, .mv (.const (Go.Value.int Go.IntKind.i64 0))⟩])
  (.seq (.seq (.ops [⟨(some 11), none, .mv (.tmp 0)⟩,
    ⟨(some 12), none, .mv (.tmp 1)⟩,
    ⟨(some 13), none, .mv (.tmp 2)⟩,
    ⟨(some 14), none, .call 123 [(.tmp 11), (.tmp 12), (.tmp 13)]⟩,
    ⟨(some 8), none, .mv (.tmp 14)⟩])
  (.seq (.ops [⟨(some 15), none, .mv (.tmp 8)⟩,
    ⟨(some 16), none, .bin .neq 25 (.tmp 15) (.const (Go.Value.int Go.IntKind.i64 0))⟩])
  (.cond (.tmp 16)
    (.seq (.ops [⟨(some 17), none, .mv (.tmp 8)⟩,
      ⟨(some 6), none, .mv (.const (Go.Value.slice none 0 0))⟩,
      ⟨(some 7), none, .mv (.tmp 17)⟩])
    (.ret))
    (.skip))))
  (.seq (.ops [⟨(some 18), none, .mv (.tmp 2)⟩,
    ⟨(some 19), none, .mks 32 1 8 [(Go.Value.int Go.IntKind.u64 0)] (.tmp 18) (.tmp 18)⟩,
    ⟨(some 9), none, .mv (.tmp 19)⟩])
  (.seq (.seq (.ops [⟨(some 20), none, .mv (.tmp 9)⟩,
    ⟨(some 21), none, .lenS (.tmp 20)⟩,
    ⟨(some 22), none, .mv (.const (Go.Value.int Go.IntKind.i64 0))⟩])
  (.block 0 (.loop (.seq (.ops [⟨(some 23), none, .bin .lss 3 (.tmp 22) (.tmp 21)⟩])
      (.seq (.cond (.tmp 23)
        (.skip)
        (.exit 0))
      (.seq (.block 1 (.seq (.ops [⟨(some 24), none, .mv (.tmp 22)⟩,
          ⟨(some 10), none, .mv (.tmp 24)⟩])
        (.ops [⟨(some 25), none, .mv (.tmp 9)⟩,
          ⟨(some 26), none, .mv (.tmp 10)⟩,
          ⟨(some 27), none, .mv (.tmp 0)⟩,
          ⟨(some 28), none, .nilc (.tmp 27)⟩,
          ⟨(some 29), none, .fld (.tmp 28) 0⟩,
          ⟨(some 30), none, .ld (.tmp 29) none⟩,
          ⟨(some 31), none, .mv (.tmp 1)⟩,
          ⟨(some 32), none, .mv (.tmp 10)⟩,
          ⟨(some 33), none, .bin .add 3 (.tmp 31) (.tmp 32)⟩,
          ⟨(some 34), none, .idx (.tmp 30) (.tmp 33) 1⟩,
          ⟨(some 35), none, .call 119 [(.tmp 34)]⟩,
          ⟨(some 36), none, .idx (.tmp 25) (.tmp 26) 1⟩,
          ⟨none, none, .st (.tmp 36) (.tmp 35) 1⟩])))
      (.ops [⟨(some 37), none, .bin .add 3 (.tmp 22) (.const (Go.Value.int Go.IntKind.i64 1))⟩,
        ⟨(some 22), none, .mv (.tmp 37)⟩])))))))
  (.seq (.ops [⟨(some 38), none, .mv (.tmp 9)⟩,
    ⟨(some 6), none, .mv (.tmp 38)⟩,
    ⟨(some 7), none, .mv (.const (Go.Value.int Go.IntKind.i64 0))⟩])
  (.ret)))))
theorem is_cell_Row_Words : FnIs Try.prog F.cell_Row_Words X.cell_Row_Words 39 [.tmp 6, .tmp 7] := ⟨by kernel_rfl⟩

/-- (*haycroft/index.Index).Words: function 31 -/
abbrev F.index_Index_Words : FuncId := 31
def X.index_Index_Words : X :=
  .seq (.ops [⟨(some 2), none, .mv (.const (Go.Value.slice none 0 0))⟩])
  (.seq (.seq (.ops [⟨(some 5), none, .mv (.tmp 0)⟩,
    ⟨(some 6), none, .eq false .ptr (.tmp 5) (.const (Go.Value.pointer none))⟩])
  (.cond (.tmp 6)
    (.seq (.ops [⟨(some 2), none, .mv (.const (Go.Value.slice none 0 0))⟩])
    (.ret))
    (.skip)))
  (.seq (.drawn [(0, ⟨(some 8), none, .mv (.tmp 0)⟩),
    (1, ⟨(some 9), none, .nilc (.tmp 8)⟩),
    (2, ⟨(some 10), none, .fld (.tmp 9) 2⟩),
    (3, ⟨(some 11), none, .ld (.tmp 10) none⟩),
    (4, ⟨(some 12), none, .mv (.tmp 0)⟩),
    (5, ⟨(some 13), none, .nilc (.tmp 12)⟩),
    (6, ⟨(some 14), none, .fld (.tmp 13) 2⟩),
    (7, ⟨(some 15), none, .ld (.tmp 14) none⟩),
    (8, ⟨(some 16), none, .call 66 [(.tmp 15)]⟩),
    (9, ⟨(some 17), none, .call 92 [(.tmp 11), (.const (Go.Value.int Go.IntKind.i64 0)), (.tmp 16)]⟩),
    (10, ⟨(some 7), none, .mv (.tmp 17)⟩),
    (11, ⟨(some 18), none, .ext (.tmp 7) 0⟩),
    (12, ⟨(some 19), none, .ext (.tmp 7) 1⟩),
    (13, ⟨(some 3), none, .mv (.tmp 18)⟩),
    (14, ⟨(some 4), none, .mv (.tmp 19)⟩)]
    [[], [0], [1], [2], [], [4], [5], [6], [7], [3, 8, 8], [9], [10], [10], [11, 9, 0, 1, 2, 3, 4, 5, 6, 7, 8, 9, 10, 11], [12, 13, 0, 1, 2, 3, 4, 5, 6, 7, 8, 9, 10, 11, 12, 13]]
    [0, 1, 3, 7, 0, 16, 48, 112, 240, 511, 1023, 2047, 2047, 4095, 16383] 768)
  (.seq (.ops [⟨(some 20), none, .mv (.tmp 0)⟩,
    ⟨(some 21), none, .nilc (.tmp 20)⟩,
    ⟨(some 22), none, .fld (.tmp 21) 3⟩,
    ⟨(some 23), none, .ld (.tmp 22) none⟩,
    ⟨(some 24), none, .call 63 [(.tmp 23), (.const (Go.Value.int Go.IntKind.i64 0))]⟩,
    ⟨(some 25), none, .bsl 32 1 1 [(Go.Value.int Go.IntKind.u64 0)] [(0, (.tmp 24))]⟩,
    ⟨(some 26), none, .mv (.tmp 3)⟩,
    ⟨(some 27), none, .app 32 1 8 [(Go.Value.int Go.IntKind.u64 0)] (.tmp 25) (.tmp 26)⟩,
    ⟨(some 2), none, .mv (.tmp 27)⟩])
  (.ret))))
theorem is_index_Index_Words : FnIs Try.prog F.index_Index_Words X.index_Index_Words 28 [.tmp 2] := ⟨by kernel_rfl⟩

end Go.Proofs.Ytmlkeackapflhaa
