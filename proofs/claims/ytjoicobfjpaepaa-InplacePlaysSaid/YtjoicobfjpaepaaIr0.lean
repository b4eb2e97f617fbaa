import Derived.Test.YtjoicobfjpaepaaProg
import Derived.Test.YtjoicobfjpaepaaHxS
import Derived.KernelRfl
namespace Go.Proofs.Ytjoicobfjpaepaa
open Go Go.HX
abbrev T.int64 : TypeId := 2
abbrev T.int : TypeId := 3
abbrev T.bool : TypeId := 4
abbrev T.uint8 : TypeId := 5
abbrev T.abi_BoundsErrorCode : TypeId := 6
abbrev T.string : TypeId := 9
abbrev T.uintptr : TypeId := 12
abbrev T.ptr_abi_Type : TypeId := 17
abbrev T.maps_unhashableTypeError : TypeId := 19
abbrev T.interface : TypeId := 20
abbrev T.int32 : TypeId := 21
abbrev T.slice_haycroftlaw17_Act : TypeId := 22
abbrev T.ptr_index_Index : TypeId := 24
abbrev T.api_Errno : TypeId := 25
abbrev T.ptr_index_Index_api_Errno : TypeId := 26
abbrev T.ptr_haycroftref17_Index : TypeId := 28
abbrev T.ptr_haycroftref17_Index_api_Errno : TypeId := 29
abbrev T.uint64 : TypeId := 32
abbrev T.haycroftlaw17_Act : TypeId := 34
abbrev T.slice_uint64 : TypeId := 37
abbrev T.api_Entry : TypeId := 40
abbrev T.api_Entry_api_Errno : TypeId := 41
abbrev T.api_Look : TypeId := 46
abbrev T.api_Look_api_Errno : TypeId := 47
abbrev T.bool_api_Errno : TypeId := 50
abbrev T.int_api_Errno : TypeId := 53
abbrev T.int_int : TypeId := 56
abbrev T.slice_int : TypeId := 59
abbrev T.ptr_index_Index_ptr_haycroftref17_Index_bool : TypeId := 69
abbrev T.uint : TypeId := 73
abbrev T.ptr_pages_Buffer : TypeId := 75
abbrev T.ptr_pages_Buffer_api_Errno : TypeId := 76
abbrev T.ptr_inplace_Writer : TypeId := 78
abbrev T.ptr_inplace_Writer_api_Errno : TypeId := 79
abbrev T.ptr_inplace_Reader : TypeId := 81
abbrev T.ptr_inplace_Reader_api_Errno : TypeId := 82
abbrev T.slice_uint8 : TypeId := 88
abbrev T.slice_haycroftlaw18_Work : TypeId := 89
abbrev T.haycroftlaw18_Work : TypeId := 91
abbrev T.ptr_haycroftlaw18_scene : TypeId := 92
abbrev T.ptr_haycroftlaw18_scene_bool : TypeId := 93
abbrev T.slice_bool : TypeId := 96
abbrev T.ptr_haycroftref18_Cells : TypeId := 97
abbrev T.slice_ptr_inplace_Writer : TypeId := 98
abbrev T.slice_ptr_inplace_Reader : TypeId := 99
abbrev T.slice_ptr_haycroftref18_Work : TypeId := 100
abbrev T.haycroftlaw18_scene : TypeId := 102
abbrev T.haycroftref18_Work : TypeId := 105
abbrev T.ptr_haycroftref18_Work : TypeId := 106
abbrev T.haycroftref18_Cells : TypeId := 111
abbrev T.uint64_api_Errno : TypeId := 113
abbrev T.ptr_cell_Row : TypeId := 117
abbrev T.ptr_cell_Row_api_Errno : TypeId := 118
abbrev T.index_Index : TypeId := 121
abbrev T.slice_8_uint64 : TypeId := 122
abbrev T.haycroftref17_Index : TypeId := 124
abbrev T.slice_slice_uint64 : TypeId := 125
abbrev T.arr_8_uint64 : TypeId := 129
abbrev T.int_bool : TypeId := 138
abbrev T.slice_uint64_api_Errno : TypeId := 140
abbrev T.slice_api_Entry : TypeId := 143
abbrev T.arr_2_int : TypeId := 145
abbrev T.ptr_pages_Buffer_bool : TypeId := 148
abbrev T.pages_Buffer : TypeId := 152
abbrev T.inplace_spot : TypeId := 154
abbrev T.inplace_spot_api_Errno : TypeId := 155
abbrev T.inplace_Writer : TypeId := 159
abbrev T.inplace_Reader : TypeId := 161
abbrev T.string_bool : TypeId := 166
abbrev T.slice_atomic_Uint64 : TypeId := 169
abbrev T.struct : TypeId := 170
abbrev T.atomic_noCopy : TypeId := 171
abbrev T.atomic_align64 : TypeId := 172
abbrev T.atomic_Int64 : TypeId := 174
abbrev T.cell_Row : TypeId := 176
abbrev T.atomic_Uint64 : TypeId := 178
abbrev T.map_uint64_bool : TypeId := 189
abbrev T.string_api_Errno : TypeId := 194
abbrev T.ptr_atomic_Uint64 : TypeId := 202
abbrev T.ptr_uint64 : TypeId := 204
abbrev T.ptr_atomic_Int64 : TypeId := 209
abbrev T.ptr_int64 : TypeId := 211
abbrev T.api_Header : TypeId := 217
abbrev T.api_Record : TypeId := 219
abbrev T.uint32 : TypeId := 229
abbrev T.abi_TFlag : TypeId := 230
abbrev T.abi_Kind : TypeId := 231
abbrev T.ptr_uint8 : TypeId := 233
abbrev T.abi_NameOff : TypeId := 234
abbrev T.abi_TypeOff : TypeId := 235
abbrev T.abi_Type : TypeId := 237
abbrev T.unsafe_Pointer : TypeId := 238
-- loop (inner ones first): [0, 3, 4]
/-- haycroft/haycroftref09.Value: function 51 -/
abbrev F.ref09_Value : FuncId := 51
def X.ref09_Value : X :=
  .seq (.ops [⟨(some 2), none, .mv (.const (Go.Value.string { data := #[] }))⟩])
  (.seq (.ops [⟨(some 5), none, .bsl 5 1 0 [(Go.Value.int Go.IntKind.u8 0)] []⟩,
    ⟨(some 3), none, .mv (.tmp 5)⟩])
  (.seq (.seq (.ops [⟨(some 4), none, .mv (.const (Go.Value.int Go.IntKind.i64 0))⟩])
  (.block 0 (.loop (.seq (.seq (.ops [⟨(some 6), none, .mv (.tmp 4)⟩,
        ⟨(some 7), none, .bin .lss 3 (.tmp 6) (.const (Go.Value.int Go.IntKind.i64 8))⟩])
      (.cond (.tmp 7)
        (.skip)
        (.exit 0)))
      (.seq (.block 1 (.seq (.ops [⟨(some 10), none, .mv (.tmp 3)⟩,
          ⟨(some 11), none, .mv (.tmp 0)⟩,
          ⟨(some 12), none, .bin .rem 32 (.tmp 11) (.const (Go.Value.int Go.IntKind.u64 256))⟩,
          ⟨(some 13), none, .conv Go.IntKind.u8 (.tmp 12)⟩,
          ⟨(some 14), none, .bsl 5 1 1 [(Go.Value.int Go.IntKind.u8 0)] [(0, (.tmp 13))]⟩,
          ⟨(some 15), none, .app 5 1 1 [(Go.Value.int Go.IntKind.u8 0)] (.tmp 10) (.tmp 14)⟩,
          ⟨(some 3), none, .mv (.tmp 15)⟩])
        (.ops [⟨(some 16), none, .mv (.tmp 0)⟩,
          ⟨(some 17), none, .bin .quo 32 (.tmp 16) (.const (Go.Value.int Go.IntKind.u64 256))⟩,
          ⟨(some 0), none, .mv (.tmp 17)⟩])))
      (.ops [⟨(some 8), none, .mv (.tmp 4)⟩,
        ⟨(some 9), none, .bin .add 3 (.tmp 8) (.const (Go.Value.int Go.IntKind.i64 1))⟩,
        ⟨(some 4), none, .mv (.tmp 9)⟩]))))))
  (.seq (.ops [⟨(some 18), none, .mv (.tmp 3)⟩,
    ⟨(some 19), none, .b2s (.tmp 18)⟩,
    ⟨(some 2), none, .mv (.tmp 19)⟩])
  (.ret))))
theorem is_ref09_Value : FnIs Try.prog F.ref09_Value X.ref09_Value 20 [.tmp 2] := ⟨by kernel_rfl⟩

/-- haycroft/place.May: function 98 -/
abbrev F.place_May : FuncId := 98
def X.place_May : X :=
  .seq (.ops [⟨(some 2), none, .mv (.const (Go.Value.bool false))⟩])
  (.seq (.ops [⟨(some 3), none, .mv (.tmp 0)⟩,
    ⟨(some 4), none, .bin .geq 3 (.tmp 3) (.const (Go.Value.int Go.IntKind.i64 5))⟩,
    ⟨(some 5), none, .mv (.tmp 4)⟩,
    ⟨(some 6), (some (5, true)), .mv (.tmp 0)⟩,
    ⟨(some 7), (some (5, true)), .bin .leq 3 (.tmp 6) (.const (Go.Value.int Go.IntKind.i64 9))⟩,
    ⟨(some 8), none, .pick (.tmp 5) (.tmp 7) (.const (Go.Value.bool false))⟩,
    ⟨(some 2), none, .mv (.tmp 8)⟩])
  (.ret))
theorem is_place_May : FnIs Try.prog F.place_May X.place_May 9 [.tmp 2] := ⟨by kernel_rfl⟩

/-- haycroft/place.Size: function 99 -/
abbrev F.place_Size : FuncId := 99
def X.place_Size : X :=
  .seq (.ops [⟨(some 2), none, .mv (.const (Go.Value.int Go.IntKind.i64 0))⟩])
  (.seq (.seq (.ops [⟨(some 3), none, .mv (.tmp 0)⟩,
    ⟨(some 4), none, .call 98 [(.tmp 3)]⟩,
    ⟨(some 5), none, .un .not (.tmp 4)⟩])
  (.cond (.tmp 5)
    (.seq (.ops [⟨(some 2), none, .mv (.const (Go.Value.int Go.IntKind.i64 0))⟩])
    (.ret))
    (.skip)))
  (.seq (.ops [⟨(some 6), none, .mv (.tmp 0)⟩,
    ⟨(some 7), none, .bin .shl 3 (.const (Go.Value.int Go.IntKind.i64 1)) (.tmp 6)⟩,
    ⟨(some 2), none, .mv (.tmp 7)⟩])
  (.ret)))
theorem is_place_Size : FnIs Try.prog F.place_Size X.place_Size 8 [.tmp 2] := ⟨by kernel_rfl⟩

/-- haycroft/cell.New: function 60 -/
abbrev F.cell_New : FuncId := 60
def X.cell_New : X :=
  .seq (.ops [⟨(some 2), none, .mv (.const (Go.Value.pointer none))⟩,
    ⟨(some 3), none, .mv (.const (Go.Value.int Go.IntKind.i64 0))⟩])
  (.seq (.seq (.ops [⟨(some 4), none, .mv (.tmp 0)⟩,
    ⟨(some 5), none, .bin .lss 3 (.tmp 4) (.const (Go.Value.int Go.IntKind.i64 1))⟩,
    ⟨(some 6), none, .mv (.tmp 5)⟩,
    ⟨(some 7), (some (6, false)), .mv (.tmp 0)⟩,
    ⟨(some 8), (some (6, false)), .bin .gtr 3 (.tmp 7) (.const (Go.Value.int Go.IntKind.i64 65536))⟩,
    ⟨(some 9), none, .pick (.tmp 6) (.const (Go.Value.bool true)) (.tmp 8)⟩])
  (.cond (.tmp 9)
    (.seq (.ops [⟨(some 2), none, .mv (.const (Go.Value.pointer none))⟩,
      ⟨(some 3), none, .mv (.const (Go.Value.int Go.IntKind.i64 1))⟩])
    (.ret))
    (.skip)))
  (.seq (.ops [⟨(some 10), none, .mv (.tmp 0)⟩,
    ⟨(some 11), none, .mks 178 1 8 [(Go.Value.int Go.IntKind.u64 0)] (.tmp 10) (.tmp 10)⟩,
    ⟨(some 12), none, .bld [(Go.Value.slice none 0 0), (Go.Value.int Go.IntKind.i64 0), (Go.Value.int Go.IntKind.i64 0)] [(0, 1, (.tmp 11))]⟩,
    ⟨(some 13), none, .box 176 (.tmp 12)⟩,
    ⟨(some 2), none, .mv (.tmp 13)⟩,
    ⟨(some 3), none, .mv (.const (Go.Value.int Go.IntKind.i64 0))⟩])
  (.ret)))
theorem is_cell_New : FnIs Try.prog F.cell_New X.cell_New 14 [.tmp 2, .tmp 3] := ⟨by kernel_rfl⟩

/-- haycroft/pages.New: function 41 -/
abbrev F.pages_New : FuncId := 41
def X.pages_New : X :=
  .seq (.ops [⟨(some 4), none, .mv (.const (Go.Value.pointer none))⟩,
    ⟨(some 5), none, .mv (.const (Go.Value.int Go.IntKind.i64 0))⟩])
  (.seq (.seq (.ops [⟨(some 9), none, .mv (.tmp 0)⟩,
    ⟨(some 10), none, .call 98 [(.tmp 9)]⟩,
    ⟨(some 11), none, .un .not (.tmp 10)⟩,
    ⟨(some 12), none, .mv (.tmp 11)⟩,
    ⟨(some 13), (some (12, false)), .mv (.tmp 1)⟩,
    ⟨(some 14), (some (12, false)), .bin .lss 3 (.tmp 13) (.const (Go.Value.int Go.IntKind.i64 2))⟩,
    ⟨(some 15), none, .pick (.tmp 12) (.const (Go.Value.bool true)) (.tmp 14)⟩,
    ⟨(some 16), none, .mv (.tmp 15)⟩,
    ⟨(some 17), (some (16, false)), .mv (.tmp 1)⟩,
    ⟨(some 18), (some (16, false)), .bin .gtr 3 (.tmp 17) (.const (Go.Value.int Go.IntKind.i64 8))⟩,
    ⟨(some 19), none, .pick (.tmp 16) (.const (Go.Value.bool true)) (.tmp 18)⟩])
  (.cond (.tmp 19)
    (.seq (.ops [⟨(some 4), none, .mv (.const (Go.Value.pointer none))⟩,
      ⟨(some 5), none, .mv (.const (Go.Value.int Go.IntKind.i64 1))⟩])
    (.ret))
    (.skip)))
  (.seq (.ops [⟨(some 21), none, .mv (.tmp 1)⟩,
    ⟨(some 22), none, .mv (.tmp 0)⟩,
    ⟨(some 23), none, .call 99 [(.tmp 22)]⟩,
    ⟨(some 24), none, .bin .mul 3 (.tmp 21) (.tmp 23)⟩,
    ⟨(some 25), none, .call 60 [(.tmp 24)]⟩,
    ⟨(some 20), none, .mv (.tmp 25)⟩,
    ⟨(some 26), none, .ext (.tmp 20) 0⟩,
    ⟨(some 27), none, .ext (.tmp 20) 1⟩,
    ⟨(some 6), none, .mv (.tmp 26)⟩,
    ⟨(some 7), none, .mv (.tmp 27)⟩])
  (.seq (.seq (.ops [⟨(some 28), none, .mv (.tmp 7)⟩,
    ⟨(some 29), none, .bin .neq 25 (.tmp 28) (.const (Go.Value.int Go.IntKind.i64 0))⟩])
  (.cond (.tmp 29)
    (.seq (.ops [⟨(some 30), none, .mv (.tmp 7)⟩,
      ⟨(some 4), none, .mv (.const (Go.Value.pointer none))⟩,
      ⟨(some 5), none, .mv (.tmp 30)⟩])
    (.ret))
    (.skip)))
  (.seq (.ops [⟨(some 32), none, .mv (.tmp 1)⟩,
    ⟨(some 33), none, .call 60 [(.tmp 32)]⟩,
    ⟨(some 31), none, .mv (.tmp 33)⟩,
    ⟨(some 34), none, .ext (.tmp 31) 0⟩,
    ⟨(some 35), none, .ext (.tmp 31) 1⟩,
    ⟨(some 8), none, .mv (.tmp 34)⟩,
    ⟨(some 7), none, .mv (.tmp 35)⟩])
  (.seq (.seq (.ops [⟨(some 36), none, .mv (.tmp 7)⟩,
    ⟨(some 37), none, .bin .neq 25 (.tmp 36) (.const (Go.Value.int Go.IntKind.i64 0))⟩])
  (.cond (.tmp 37)
    (.seq (.ops [⟨(some 38), none, .mv (.tmp 7)⟩,
      ⟨(some 4), none, .mv (.const (Go.Value.pointer none))⟩,
      ⟨(some 5), none, .mv (.tmp 38)⟩])
    (.ret))
    (.skip)))
  (.seq (.ops [⟨(some 39), none, .mv (.tmp 0)⟩,
    ⟨(some 40), none, .mv (.tmp 6)⟩,
    ⟨(some 41), none, .mv (.tmp 8)⟩,
    ⟨(some 42), none, .bld [(Go.Value.int Go.IntKind.i64 0), (Go.Value.pointer none), (Go.Value.pointer none)] [(0, 1, (.tmp 39)), (1, 1, (.tmp 40)), (2, 1, (.tmp 41))]⟩,
    ⟨(some 43), none, .box 152 (.tmp 42)⟩,
    ⟨(some 4), none, .mv (.tmp 43)⟩,
    ⟨(some 5), none, .mv (.const (Go.Value.int Go.IntKind.i64 0))⟩])
  (.ret)))))))
theorem is_pages_New : FnIs Try.prog F.pages_New X.pages_New 44 [.tmp 4, .tmp 5] := ⟨by kernel_rfl⟩

/-- (*haycroft/cell.Row).Len: function 66 -/
abbrev F.cell_Row_Len : FuncId := 66
def X.cell_Row_Len : X :=
  .seq (.ops [⟨(some 2), none, .mv (.const (Go.Value.int Go.IntKind.i64 0))⟩])
  (.seq (.seq (.ops [⟨(some 3), none, .mv (.tmp 0)⟩,
    ⟨(some 4), none, .eq false .ptr (.tmp 3) (.const (Go.Value.pointer none))⟩])
  (.cond (.tmp 4)
    (.seq (.ops [⟨(some 2), none, .mv (.const (Go.Value.int Go.IntKind.i64 0))⟩])
    (.ret))
    (.skip)))
  (.seq (.ops [⟨(some 5), none, .mv (.tmp 0)⟩,
    ⟨(some 6), none, .nilc (.tmp 5)⟩,
    ⟨(some 7), none, .fld (.tmp 6) 0⟩,
    ⟨(some 8), none, .ld (.tmp 7) none⟩,
    ⟨(some 9), none, .lenS (.tmp 8)⟩,
    ⟨(some 2), none, .mv (.tmp 9)⟩])
  (.ret)))
theorem is_cell_Row_Len : FnIs Try.prog F.cell_Row_Len X.cell_Row_Len 10 [.tmp 2] := ⟨by kernel_rfl⟩

/-- (*haycroft/pages.Buffer).frame: function 153 -/
abbrev F.pages_Buffer_frame : FuncId := 153
def X.pages_Buffer_frame : X :=
  .seq (.ops [⟨(some 4), none, .mv (.const (Go.Value.int Go.IntKind.i64 0))⟩])
  (.seq (.ops [⟨(some 5), none, .mv (.tmp 1)⟩,
    ⟨(some 6), none, .mv (.tmp 0)⟩,
    ⟨(some 7), none, .nilc (.tmp 6)⟩,
    ⟨(some 8), none, .fld (.tmp 7) 2⟩,
    ⟨(some 9), none, .ld (.tmp 8) none⟩,
    ⟨(some 10), none, .call 66 [(.tmp 9)]⟩,
    ⟨(some 11), none, .bin .rem 3 (.tmp 5) (.tmp 10)⟩,
    ⟨(some 4), none, .mv (.tmp 11)⟩])
  (.ret))
theorem is_pages_Buffer_frame : FnIs Try.prog F.pages_Buffer_frame X.pages_Buffer_frame 12 [.tmp 4] := ⟨by kernel_rfl⟩

/-- (*haycroft/cell.Row).there: function 118 -/
abbrev F.cell_Row_there : FuncId := 118
def X.cell_Row_there : X :=
  .seq (.ops [⟨(some 4), none, .mv (.const (Go.Value.bool false))⟩])
  (.seq (.ops [⟨(some 5), none, .mv (.tmp 1)⟩,
    ⟨(some 6), none, .bin .geq 3 (.tmp 5) (.const (Go.Value.int Go.IntKind.i64 0))⟩,
    ⟨(some 7), none, .mv (.tmp 6)⟩,
    ⟨(some 8), (some (7, true)), .mv (.tmp 1)⟩,
    ⟨(some 9), (some (7, true)), .mv (.tmp 0)⟩,
    ⟨(some 10), (some (7, true)), .call 66 [(.tmp 9)]⟩,
    ⟨(some 11), (some (7, true)), .bin .lss 3 (.tmp 8) (.tmp 10)⟩,
    ⟨(some 12), none, .pick (.tmp 7) (.tmp 11) (.const (Go.Value.bool false))⟩,
    ⟨(some 4), none, .mv (.tmp 12)⟩])
  (.ret))
theorem is_cell_Row_there : FnIs Try.prog F.cell_Row_there X.cell_Row_there 13 [.tmp 4] := ⟨by kernel_rfl⟩

/-- sync/atomic.LoadUint64: function 155, without a body -/
abbrev F.atomic_LoadUint64 : FuncId := 155
theorem ext_atomic_LoadUint64 : ExtIs Try.prog F.atomic_LoadUint64 Try.f155 (Extern.Atomic.loadT (.int .u64)) := ⟨Try.func155, by kernel_rfl, by kernel_rfl, by kernel_rfl, by kernel_rfl⟩

/-- (*sync/atomic.Uint64).Load: function 119 -/
abbrev F.atomic_Uint64_Load : FuncId := 119
def X.atomic_Uint64_Load : X :=
  .seq (.ops [⟨(some 2), none, .mv (.const (Go.Value.int Go.IntKind.u64 0))⟩])
  (.seq (.ops [⟨(some 3), none, .mv (.tmp 0)⟩,
    ⟨(some 4), none, .nilc (.tmp 3)⟩,
    ⟨(some 5), none, .fld (.tmp 4) 0⟩,
    ⟨(some 6), none, .ext1 155 [(.tmp 5)]⟩,
    ⟨(some 2), none, .mv (.tmp 6)⟩])
  (.ret))
theorem is_atomic_Uint64_Load : FnIs Try.prog F.atomic_Uint64_Load X.atomic_Uint64_Load 7 [.tmp 2] := ⟨by kernel_rfl⟩

/-- (*haycroft/cell.Row).Load: function 63 -/
abbrev F.cell_Row_Load : FuncId := 63
def X.cell_Row_Load : X :=
  .seq (.ops [⟨(some 4), none, .mv (.const (Go.Value.int Go.IntKind.u64 0))⟩])
  (.seq (.seq (.ops [⟨(some 5), none, .mv (.tmp 0)⟩,
    ⟨(some 6), none, .mv (.tmp 1)⟩,
    ⟨(some 7), none, .call 118 [(.tmp 5), (.tmp 6)]⟩,
    ⟨(some 8), none, .un .not (.tmp 7)⟩])
  (.cond (.tmp 8)
    (.seq (.ops [⟨(some 4), none, .mv (.const (Go.Value.int Go.IntKind.u64 0))⟩])
    (.ret))
    (.skip)))
  (.seq (.ops [⟨(some 9), none, .mv (.tmp 0)⟩,
    ⟨(some 10), none, .nilc (.tmp 9)⟩,
    ⟨(some 11), none, .fld (.tmp 10) 0⟩,
    ⟨(some 12), none, .ld (.tmp 11) none⟩,
    ⟨(some 13), none, .mv (.tmp 1)⟩,
    ⟨(some 14), none, .idx (.tmp 12) (.tmp 13) 1⟩,
    ⟨(some 15), none, .call 119 [(.tmp 14)]⟩,
    ⟨(some 4), none, .mv (.tmp 15)⟩])
  (.ret)))
theorem is_cell_Row_Load : FnIs Try.prog F.cell_Row_Load X.cell_Row_Load 16 [.tmp 4] := ⟨by kernel_rfl⟩

/-- haycroft/pages.mark: function 166 -/
abbrev F.pages_mark : FuncId := 166
def X.pages_mark : X :=
  .seq (.ops [⟨(some 2), none, .mv (.const (Go.Value.int Go.IntKind.u64 0))⟩])
  (.seq (.ops [⟨(some 3), none, .mv (.tmp 0)⟩,
    ⟨(some 4), none, .conv Go.IntKind.u64 (.tmp 3)⟩,
    ⟨(some 5), none, .bin .add 32 (.tmp 4) (.const (Go.Value.int Go.IntKind.u64 1))⟩,
    ⟨(some 2), none, .mv (.tmp 5)⟩])
  (.ret))
theorem is_pages_mark : FnIs Try.prog F.pages_mark X.pages_mark 6 [.tmp 2] := ⟨by kernel_rfl⟩

/-- (*haycroft/pages.Buffer).Has: function 151 -/
abbrev F.pages_Buffer_Has : FuncId := 151
def X.pages_Buffer_Has : X :=
  .seq (.ops [⟨(some 4), none, .mv (.const (Go.Value.bool false))⟩])
  (.seq (.drawn [(0, ⟨(some 5), none, .mv (.tmp 0)⟩),
    (1, ⟨(some 6), none, .eq true .ptr (.tmp 5) (.const (Go.Value.pointer none))⟩),
    (2, ⟨(some 7), none, .mv (.tmp 6)⟩),
    (3, ⟨(some 8), (some (7, true)), .mv (.tmp 1)⟩),
    (4, ⟨(some 9), (some (7, true)), .bin .geq 3 (.tmp 8) (.const (Go.Value.int Go.IntKind.i64 0))⟩),
    (5, ⟨(some 10), none, .pick (.tmp 7) (.tmp 9) (.const (Go.Value.bool false))⟩),
    (6, ⟨(some 11), none, .mv (.tmp 10)⟩),
    (7, ⟨(some 12), (some (11, true)), .mv (.tmp 0)⟩),
    (8, ⟨(some 13), (some (11, true)), .nilc (.tmp 12)⟩),
    (9, ⟨(some 14), (some (11, true)), .fld (.tmp 13) 2⟩),
    (10, ⟨(some 15), (some (11, true)), .ld (.tmp 14) none⟩),
    (11, ⟨(some 16), (some (11, true)), .mv (.tmp 0)⟩),
    (12, ⟨(some 17), (some (11, true)), .mv (.tmp 1)⟩),
    (15, ⟨(some 20), (some (11, true)), .mv (.tmp 1)⟩),
    (13, ⟨(some 18), (some (11, true)), .call 153 [(.tmp 16), (.tmp 17)]⟩),
    (14, ⟨(some 19), (some (11, true)), .call 63 [(.tmp 15), (.tmp 18)]⟩),
    (16, ⟨(some 21), (some (11, true)), .call 166 [(.tmp 20)]⟩),
    (17, ⟨(some 22), (some (11, true)), .bin .eql 32 (.tmp 19) (.tmp 21)⟩),
    (18, ⟨(some 23), none, .pick (.tmp 11) (.tmp 22) (.const (Go.Value.bool false))⟩),
    (19, ⟨(some 4), none, .mv (.tmp 23)⟩)]
    [[], [0], [1], [2], [3, 2], [2, 4], [5, 2], [6], [7, 6], [8, 6], [9, 6], [6], [6], [11, 12, 6, 6], [10, 13, 13, 6], [6], [15, 14, 6], [14, 16, 6], [6, 17], [18, 16, 0, 1, 2, 3, 4, 5, 6, 7, 8, 9, 10, 11, 12, 13, 14, 15, 16, 17, 18]]
    [0, 1, 3, 7, 15, 31, 63, 127, 255, 511, 1023, 127, 127, 6271, 16383, 127, 65535, 131071, 262143, 524287] 90112)
  (.ret))
theorem is_pages_Buffer_Has : FnIs Try.prog F.pages_Buffer_Has X.pages_Buffer_Has 24 [.tmp 4] := ⟨by kernel_rfl⟩

/-- (*haycroft/cell.Row).may: function 125 -/
abbrev F.cell_Row_may : FuncId := 125
def X.cell_Row_may : X :=
  .seq (.ops [⟨(some 4), none, .mv (.const (Go.Value.int Go.IntKind.i64 0))⟩])
  (.seq (.block 0 (.seq (.ops [⟨(some 6), none, .mv (.tmp 0)⟩,
      ⟨(some 7), none, .eq false .ptr (.tmp 6) (.const (Go.Value.pointer none))⟩,
      ⟨(some 5), none, .mv (.tmp 7)⟩])
    (.cond (.tmp 5)
      (.seq (.ops [⟨(some 4), none, .mv (.const (Go.Value.int Go.IntKind.i64 2))⟩])
      (.ret))
      (.seq (.ops [⟨(some 9), none, .mv (.tmp 0)⟩,
        ⟨(some 10), none, .mv (.tmp 1)⟩,
        ⟨(some 11), none, .call 118 [(.tmp 9), (.tmp 10)]⟩,
        ⟨(some 12), none, .un .not (.tmp 11)⟩,
        ⟨(some 8), none, .mv (.tmp 12)⟩])
      (.cond (.tmp 8)
        (.seq (.ops [⟨(some 4), none, .mv (.const (Go.Value.int Go.IntKind.i64 1))⟩])
        (.ret))
        (.skip))))))
  (.seq (.ops [⟨(some 4), none, .mv (.const (Go.Value.int Go.IntKind.i64 0))⟩])
  (.ret)))
theorem is_cell_Row_may : FnIs Try.prog F.cell_Row_may X.cell_Row_may 13 [.tmp 4] := ⟨by kernel_rfl⟩

/-- sync/atomic.CompareAndSwapUint64: function 161, without a body -/
abbrev F.atomic_CompareAndSwapUint64 : FuncId := 161
theorem ext_atomic_CompareAndSwapUint64 : ExtIs Try.prog F.atomic_CompareAndSwapUint64 Try.f161 (Extern.Atomic.casT (.int .u64)) := ⟨Try.func161, by kernel_rfl, by kernel_rfl, by kernel_rfl, by kernel_rfl⟩

/-- (*sync/atomic.Uint64).CompareAndSwap: function 130 -/
abbrev F.atomic_Uint64_CompareAndSwap : FuncId := 130
def X.atomic_Uint64_CompareAndSwap : X :=
  .seq (.ops [⟨(some 6), none, .mv (.const (Go.Value.bool false))⟩])
  (.seq (.ops [⟨(some 7), none, .mv (.tmp 0)⟩,
    ⟨(some 8), none, .nilc (.tmp 7)⟩,
    ⟨(some 9), none, .fld (.tmp 8) 0⟩,
    ⟨(some 10), none, .mv (.tmp 1)⟩,
    ⟨(some 11), none, .mv (.tmp 2)⟩,
    ⟨(some 12), none, .ext1 161 [(.tmp 9), (.tmp 10), (.tmp 11)]⟩,
    ⟨(some 6), none, .mv (.tmp 12)⟩])
  (.ret))
theorem is_atomic_Uint64_CompareAndSwap : FnIs Try.prog F.atomic_Uint64_CompareAndSwap X.atomic_Uint64_CompareAndSwap 13 [.tmp 6] := ⟨by kernel_rfl⟩

/-- sync/atomic.AddInt64: function 162, without a body -/
abbrev F.atomic_AddInt64 : FuncId := 162
theorem ext_atomic_AddInt64 : ExtIs Try.prog F.atomic_AddInt64 Try.f162 (Extern.Atomic.update (Op.intArith .add) .i64 true) := ⟨Try.func162, by kernel_rfl, by kernel_rfl, by kernel_rfl, by kernel_rfl⟩

/-- (*sync/atomic.Int64).Add: function 131 -/
abbrev F.atomic_Int64_Add : FuncId := 131
def X.atomic_Int64_Add : X :=
  .seq (.ops [⟨(some 4), none, .mv (.const (Go.Value.int Go.IntKind.i64 0))⟩])
  (.seq (.ops [⟨(some 5), none, .mv (.tmp 0)⟩,
    ⟨(some 6), none, .nilc (.tmp 5)⟩,
    ⟨(some 7), none, .fld (.tmp 6) 0⟩,
    ⟨(some 8), none, .mv (.tmp 1)⟩,
    ⟨(some 9), none, .ext1 162 [(.tmp 7), (.tmp 8)]⟩,
    ⟨(some 4), none, .mv (.tmp 9)⟩])
  (.ret))
theorem is_atomic_Int64_Add : FnIs Try.prog F.atomic_Int64_Add X.atomic_Int64_Add 10 [.tmp 4] := ⟨by kernel_rfl⟩

/-- (*haycroft/cell.Row).CAS: function 83 -/
abbrev F.cell_Row_CAS : FuncId := 83
def X.cell_Row_CAS : X :=
  .seq (.ops [⟨(some 8), none, .mv (.const (Go.Value.bool false))⟩,
    ⟨(some 9), none, .mv (.const (Go.Value.int Go.IntKind.i64 0))⟩])
  (.seq (.seq (.ops [⟨(some 12), none, .mv (.tmp 0)⟩,
    ⟨(some 13), none, .mv (.tmp 1)⟩,
    ⟨(some 14), none, .call 125 [(.tmp 12), (.tmp 13)]⟩,
    ⟨(some 10), none, .mv (.tmp 14)⟩])
  (.seq (.ops [⟨(some 15), none, .mv (.tmp 10)⟩,
    ⟨(some 16), none, .bin .neq 25 (.tmp 15) (.const (Go.Value.int Go.IntKind.i64 0))⟩])
  (.cond (.tmp 16)
    (.seq (.ops [⟨(some 17), none, .mv (.tmp 10)⟩,
      ⟨(some 8), none, .mv (.const (Go.Value.bool false))⟩,
      ⟨(some 9), none, .mv (.tmp 17)⟩])
    (.ret))
    (.skip))))
  (.seq (.ops [⟨(some 18), none, .mv (.tmp 0)⟩,
    ⟨(some 19), none, .nilc (.tmp 18)⟩,
    ⟨(some 20), none, .fld (.tmp 19) 0⟩,
    ⟨(some 21), none, .ld (.tmp 20) none⟩,
    ⟨(some 22), none, .mv (.tmp 1)⟩,
    ⟨(some 23), none, .idx (.tmp 21) (.tmp 22) 1⟩,
    ⟨(some 24), none, .mv (.tmp 2)⟩,
    ⟨(some 25), none, .mv (.tmp 3)⟩,
    ⟨(some 26), none, .call 130 [(.tmp 23), (.tmp 24), (.tmp 25)]⟩,
    ⟨(some 11), none, .mv (.tmp 26)⟩])
  (.seq (.seq (.ops [⟨(some 27), none, .mv (.tmp 11)⟩])
  (.cond (.tmp 27)
    (.ops [⟨(some 28), none, .mv (.tmp 0)⟩,
      ⟨(some 29), none, .nilc (.tmp 28)⟩,
      ⟨(some 30), none, .fld (.tmp 29) 1⟩,
      ⟨(some 31), none, .call 131 [(.tmp 30), (.const (Go.Value.int Go.IntKind.i64 1))]⟩])
    (.ops [⟨(some 32), none, .mv (.tmp 0)⟩,
      ⟨(some 33), none, .nilc (.tmp 32)⟩,
      ⟨(some 34), none, .fld (.tmp 33) 2⟩,
      ⟨(some 35), none, .call 131 [(.tmp 34), (.const (Go.Value.int Go.IntKind.i64 1))]⟩])))
  (.seq (.ops [⟨(some 36), none, .mv (.tmp 11)⟩,
    ⟨(some 8), none, .mv (.tmp 36)⟩,
    ⟨(some 9), none, .mv (.const (Go.Value.int Go.IntKind.i64 0))⟩])
  (.ret)))))
theorem is_cell_Row_CAS : FnIs Try.prog F.cell_Row_CAS X.cell_Row_CAS 37 [.tmp 8, .tmp 9] := ⟨by kernel_rfl⟩

/-- (*haycroft/cell.Row).within: function 123 -/
abbrev F.cell_Row_within : FuncId := 123
def X.cell_Row_within : X :=
  .seq (.ops [⟨(some 6), none, .mv (.const (Go.Value.int Go.IntKind.i64 0))⟩])
  (.seq (.block 0 (.seq (.ops [⟨(some 8), none, .mv (.tmp 0)⟩,
      ⟨(some 9), none, .eq false .ptr (.tmp 8) (.const (Go.Value.pointer none))⟩,
      ⟨(some 7), none, .mv (.tmp 9)⟩])
    (.cond (.tmp 7)
      (.seq (.ops [⟨(some 6), none, .mv (.const (Go.Value.int Go.IntKind.i64 2))⟩])
      (.ret))
      (.seq (.seq (.ops [⟨(some 11), none, .mv (.tmp 2)⟩,
        ⟨(some 12), none, .bin .lss 3 (.tmp 11) (.const (Go.Value.int Go.IntKind.i64 0))⟩,
        ⟨(some 10), none, .mv (.tmp 12)⟩])
      (.cond (.tmp 10)
        (.skip)
        (.seq (.ops [⟨(some 13), none, .mv (.tmp 1)⟩,
          ⟨(some 14), none, .bin .lss 3 (.tmp 13) (.const (Go.Value.int Go.IntKind.i64 0))⟩,
          ⟨(some 10), none, .mv (.tmp 14)⟩])
        (.cond (.tmp 10)
          (.skip)
          (.seq (.ops [⟨(some 15), none, .mv (.tmp 2)⟩,
            ⟨(some 16), none, .mv (.tmp 0)⟩,
            ⟨(some 17), none, .call 66 [(.tmp 16)]⟩,
            ⟨(some 18), none, .bin .gtr 3 (.tmp 15) (.tmp 17)⟩,
            ⟨(some 10), none, .mv (.tmp 18)⟩])
          (.cond (.tmp 10)
            (.skip)
            (.ops [⟨(some 19), none, .mv (.tmp 1)⟩,
              ⟨(some 20), none, .mv (.tmp 0)⟩,
              ⟨(some 21), none, .call 66 [(.tmp 20)]⟩,
              ⟨(some 22), none, .mv (.tmp 2)⟩,
              ⟨(some 23), none, .bin .sub 3 (.tmp 21) (.tmp 22)⟩,
              ⟨(some 24), none, .bin .gtr 3 (.tmp 19) (.tmp 23)⟩,
              ⟨(some 10), none, .mv (.tmp 24)⟩])))))))
      (.cond (.tmp 10)
        (.seq (.ops [⟨(some 6), none, .mv (.const (Go.Value.int Go.IntKind.i64 1))⟩])
        (.ret))
        (.skip))))))
  (.seq (.ops [⟨(some 6), none, .mv (.const (Go.Value.int Go.IntKind.i64 0))⟩])
  (.ret)))
theorem is_cell_Row_within : FnIs Try.prog F.cell_Row_within X.cell_Row_within 25 [.tmp 6] := ⟨by kernel_rfl⟩

/-- sync/atomic.StoreUint64: function 158, without a body -/
abbrev F.atomic_StoreUint64 : FuncId := 158
theorem ext_atomic_StoreUint64 : ExtIs Try.prog F.atomic_StoreUint64 Try.f158 Extern.Atomic.storeT := ⟨Try.func158, by kernel_rfl, by kernel_rfl, by kernel_rfl, by kernel_rfl⟩

/-- (*sync/atomic.Uint64).Store: function 124 -/
abbrev F.atomic_Uint64_Store : FuncId := 124
def X.atomic_Uint64_Store : X :=
  .ops [⟨(some 4), none, .mv (.tmp 0)⟩,
    ⟨(some 5), none, .nilc (.tmp 4)⟩,
    ⟨(some 6), none, .fld (.tmp 5) 0⟩,
    ⟨(some 7), none, .mv (.tmp 1)⟩,
    ⟨(some 8), none, .ext1 158 [(.tmp 6), (.tmp 7)]⟩]
theorem is_atomic_Uint64_Store : FnIs Try.prog F.atomic_Uint64_Store X.atomic_Uint64_Store 9 [] := ⟨by kernel_rfl⟩

-- loop (inner ones first): [0, 1, 18, 19, 20]
/-- (*haycroft/cell.Row).Fill: function 65 -/
abbrev F.cell_Row_Fill : FuncId := 65
def X.cell_Row_Fill : X :=
  .seq (.ops [⟨(some 6), none, .mv (.const (Go.Value.int Go.IntKind.i64 0))⟩])
  (.seq (.seq (.ops [⟨(some 10), none, .mv (.tmp 0)⟩,
    ⟨(some 11), none, .mv (.tmp 1)⟩,
    ⟨(some 12), none, .mv (.tmp 2)⟩,
    ⟨(some 13), none, .lenS (.tmp 12)⟩,
    ⟨(some 14), none, .call 123 [(.tmp 10), (.tmp 11), (.tmp 13)]⟩,
    ⟨(some 7), none, .mv (.tmp 14)⟩])
  (.seq (.ops [⟨(some 15), none, .mv (.tmp 7)⟩,
    ⟨(some 16), none, .bin .neq 25 (.tmp 15) (.const (Go.Value.int Go.IntKind.i64 0))⟩])
  (.cond (.tmp 16)
    (.seq (.ops [⟨(some 17), none, .mv (.tmp 7)⟩,
      ⟨(some 6), none, .mv (.tmp 17)⟩])
    (.ret))
    (.skip))))
  (.seq (.seq (.ops [⟨(some 18), none, .mv (.tmp 2)⟩,
    ⟨(some 19), none, .lenS (.tmp 18)⟩,
    ⟨(some 20), none, .mv (.const (Go.Value.int Go.IntKind.i64 0))⟩])
  (.block 0 (.loop (.seq (.ops [⟨(some 21), none, .bin .lss 3 (.tmp 20) (.tmp 19)⟩])
      (.seq (.cond (.tmp 21)
        (.skip)
        (.exit 0))
      (.seq (.block 1 (.seq (.ops [⟨(some 22), none, .mv (.tmp 20)⟩,
          ⟨(some 23), none, .idx (.tmp 18) (.tmp 20) 1⟩,
          ⟨(some 24), none, .ld (.tmp 23) none⟩,
          ⟨(some 8), none, .mv (.tmp 22)⟩,
          ⟨(some 9), none, .mv (.tmp 24)⟩])
        (.ops [⟨(some 25), none, .mv (.tmp 0)⟩,
          ⟨(some 26), none, .nilc (.tmp 25)⟩,
          ⟨(some 27), none, .fld (.tmp 26) 0⟩,
          ⟨(some 28), none, .ld (.tmp 27) none⟩,
          ⟨(some 29), none, .mv (.tmp 1)⟩,
          ⟨(some 30), none, .mv (.tmp 8)⟩,
          ⟨(some 31), none, .bin .add 3 (.tmp 29) (.tmp 30)⟩,
          ⟨(some 32), none, .idx (.tmp 28) (.tmp 31) 1⟩,
          ⟨(some 33), none, .mv (.tmp 9)⟩,
          ⟨(some 34), none, .call 124 [(.tmp 32), (.tmp 33)]⟩])))
      (.ops [⟨(some 35), none, .bin .add 3 (.tmp 20) (.const (Go.Value.int Go.IntKind.i64 1))⟩,
        ⟨(some 20), none, .mv (.tmp 35)⟩])))))))
  (.seq (.ops [⟨(some 6), none, .mv (.const (Go.Value.int Go.IntKind.i64 0))⟩])
  (.ret))))
theorem is_cell_Row_Fill : FnIs Try.prog F.cell_Row_Fill X.cell_Row_Fill 36 [.tmp 6] := ⟨by kernel_rfl⟩

/-- (*haycroft/pages.Buffer).Open: function 136 -/
abbrev F.pages_Buffer_Open : FuncId := 136
def X.pages_Buffer_Open : X :=
  .seq (.ops [⟨(some 4), none, .mv (.const (Go.Value.int Go.IntKind.i64 0))⟩])
  (.seq (.block 0 (.seq (.ops [⟨(some 10), none, .mv (.tmp 0)⟩,
      ⟨(some 11), none, .eq false .ptr (.tmp 10) (.const (Go.Value.pointer none))⟩,
      ⟨(some 9), none, .mv (.tmp 11)⟩])
    (.cond (.tmp 9)
      (.seq (.ops [⟨(some 4), none, .mv (.const (Go.Value.int Go.IntKind.i64 2))⟩])
      (.ret))
      (.seq (.ops [⟨(some 13), none, .mv (.tmp 1)⟩,
        ⟨(some 14), none, .bin .lss 3 (.tmp 13) (.const (Go.Value.int Go.IntKind.i64 0))⟩,
        ⟨(some 12), none, .mv (.tmp 14)⟩])
      (.cond (.tmp 12)
        (.seq (.ops [⟨(some 4), none, .mv (.const (Go.Value.int Go.IntKind.i64 1))⟩])
        (.ret))
        (.seq (.ops [⟨(some 16), none, .mv (.tmp 0)⟩,
          ⟨(some 17), none, .mv (.tmp 1)⟩,
          ⟨(some 18), none, .call 151 [(.tmp 16), (.tmp 17)]⟩,
          ⟨(some 15), none, .mv (.tmp 18)⟩])
        (.cond (.tmp 15)
          (.seq (.ops [⟨(some 4), none, .mv (.const (Go.Value.int Go.IntKind.i64 8))⟩])
          (.ret))
          (.skip))))))))
  (.seq (.ops [⟨(some 19), none, .mv (.tmp 0)⟩,
    ⟨(some 20), none, .mv (.tmp 1)⟩,
    ⟨(some 21), none, .call 153 [(.tmp 19), (.tmp 20)]⟩,
    ⟨(some 5), none, .mv (.tmp 21)⟩])
  (.seq (.drawn [(0, ⟨(some 23), none, .mv (.tmp 0)⟩),
    (1, ⟨(some 24), none, .nilc (.tmp 23)⟩),
    (2, ⟨(some 25), none, .fld (.tmp 24) 2⟩),
    (3, ⟨(some 26), none, .ld (.tmp 25) none⟩),
    (4, ⟨(some 27), none, .mv (.tmp 5)⟩),
    (5, ⟨(some 28), none, .mv (.tmp 1)⟩),
    (6, ⟨(some 29), none, .call 166 [(.tmp 28)]⟩),
    (7, ⟨(some 30), none, .call 83 [(.tmp 26), (.tmp 27), (.const (Go.Value.int Go.IntKind.u64 0)), (.tmp 29)]⟩),
    (8, ⟨(some 22), none, .mv (.tmp 30)⟩),
    (9, ⟨(some 31), none, .ext (.tmp 22) 0⟩),
    (10, ⟨(some 32), none, .ext (.tmp 22) 1⟩),
    (11, ⟨(some 6), none, .mv (.tmp 31)⟩),
    (12, ⟨(some 7), none, .mv (.tmp 32)⟩)]
    [[], [0], [1], [2], [], [], [5], [3, 4, 6, 6], [7], [8], [8], [9, 7, 0, 1, 2, 3, 4, 5, 6, 7, 8, 9], [10, 11, 0, 1, 2, 3, 4, 5, 6, 7, 8, 9, 10, 11]]
    [0, 1, 3, 7, 0, 0, 32, 127, 255, 511, 511, 1023, 4095] 192)
  (.seq (.seq (.ops [⟨(some 33), none, .mv (.tmp 6)⟩,
    ⟨(some 34), none, .un .not (.tmp 33)⟩])
  (.cond (.tmp 34)
    (.seq (.ops [⟨(some 4), none, .mv (.const (Go.Value.int Go.IntKind.i64 10))⟩])
    (.ret))
    (.skip)))
  (.seq (.ops [⟨(some 35), none, .mv (.tmp 0)⟩,
    ⟨(some 36), none, .nilc (.tmp 35)⟩,
    ⟨(some 37), none, .fld (.tmp 36) 0⟩,
    ⟨(some 38), none, .ld (.tmp 37) none⟩,
    ⟨(some 39), none, .call 99 [(.tmp 38)]⟩,
    ⟨(some 8), none, .mv (.tmp 39)⟩])
  (.seq (.drawn [(0, ⟨(some 40), none, .mv (.tmp 0)⟩),
    (1, ⟨(some 41), none, .nilc (.tmp 40)⟩),
    (2, ⟨(some 42), none, .fld (.tmp 41) 1⟩),
    (3, ⟨(some 43), none, .ld (.tmp 42) none⟩),
    (4, ⟨(some 44), none, .mv (.tmp 5)⟩),
    (5, ⟨(some 45), none, .mv (.tmp 8)⟩),
    (6, ⟨(some 46), none, .bin .mul 3 (.tmp 44) (.tmp 45)⟩),
    (7, ⟨(some 47), none, .mv (.tmp 8)⟩),
    (8, ⟨(some 48), none, .mks 32 1 8 [(Go.Value.int Go.IntKind.u64 0)] (.tmp 47) (.tmp 47)⟩),
    (9, ⟨(some 49), none, .call 65 [(.tmp 43), (.tmp 46), (.tmp 48)]⟩),
    (10, ⟨(some 4), none, .mv (.tmp 49)⟩)]
    [[], [0], [1], [2], [], [], [4, 5], [], [7, 7], [3, 6, 8], [9, 9, 0, 1, 2, 3, 4, 5, 6, 7, 8, 9]]
    [0, 1, 3, 7, 0, 0, 48, 0, 128, 511, 1023] 768)
  (.ret)))))))
theorem is_pages_Buffer_Open : FnIs Try.prog F.pages_Buffer_Open X.pages_Buffer_Open 50 [.tmp 4] := ⟨by kernel_rfl⟩

/-- haycroft/haycroftref08.Pack: function 175 -/
abbrev F.ref08_Pack : FuncId := 175
def X.ref08_Pack : X :=
  .seq (.ops [⟨(some 1), none, .box 217 (.tmp 0)⟩,
    ⟨(some 2), none, .mv (.const (Go.Value.int Go.IntKind.u64 0))⟩,
    ⟨(some 3), none, .mv (.const (Go.Value.int Go.IntKind.i64 0))⟩])
  (.seq (.seq (.ops [⟨(some 5), none, .fld (.tmp 1) 0⟩,
    ⟨(some 6), none, .ld (.tmp 5) none⟩,
    ⟨(some 7), none, .bin .geq 32 (.tmp 6) (.const (Go.Value.int Go.IntKind.u64 281474976710656))⟩])
  (.cond (.tmp 7)
    (.seq (.ops [⟨(some 2), none, .mv (.const (Go.Value.int Go.IntKind.u64 0))⟩,
      ⟨(some 3), none, .mv (.const (Go.Value.int Go.IntKind.i64 1))⟩])
    (.ret))
    (.skip)))
  (.seq (.ops [⟨(some 8), none, .fld (.tmp 1) 0⟩,
    ⟨(some 9), none, .ld (.tmp 8) none⟩,
    ⟨(some 4), none, .mv (.tmp 9)⟩])
  (.seq (.seq (.ops [⟨(some 10), none, .fld (.tmp 1) 1⟩,
    ⟨(some 11), none, .ld (.tmp 10) none⟩])
  (.cond (.tmp 11)
    (.ops [⟨(some 12), none, .mv (.tmp 4)⟩,
      ⟨(some 13), none, .bin .add 32 (.tmp 12) (.const (Go.Value.int Go.IntKind.u64 281474976710656))⟩,
      ⟨(some 4), none, .mv (.tmp 13)⟩])
    (.skip)))
  (.seq (.seq (.ops [⟨(some 14), none, .fld (.tmp 1) 2⟩,
    ⟨(some 15), none, .ld (.tmp 14) none⟩])
  (.cond (.tmp 15)
    (.ops [⟨(some 16), none, .mv (.tmp 4)⟩,
      ⟨(some 17), none, .bin .add 32 (.tmp 16) (.const (Go.Value.int Go.IntKind.u64 562949953421312))⟩,
      ⟨(some 4), none, .mv (.tmp 17)⟩])
    (.skip)))
  (.seq (.ops [⟨(some 18), none, .mv (.tmp 4)⟩,
    ⟨(some 2), none, .mv (.tmp 18)⟩,
    ⟨(some 3), none, .mv (.const (Go.Value.int Go.IntKind.i64 0))⟩])
  (.ret))))))
theorem is_ref08_Pack : FnIs Try.prog F.ref08_Pack X.ref08_Pack 19 [.tmp 2, .tmp 3] := ⟨by kernel_rfl⟩

/-- haycroft/haycroftref08.Lengths: function 176 -/
abbrev F.ref08_Lengths : FuncId := 176
def X.ref08_Lengths : X :=
  .seq (.ops [⟨(some 4), none, .mv (.const (Go.Value.int Go.IntKind.u64 0))⟩,
    ⟨(some 5), none, .mv (.const (Go.Value.int Go.IntKind.i64 0))⟩])
  (.seq (.seq (.ops [⟨(some 6), none, .mv (.tmp 0)⟩,
    ⟨(some 7), none, .bin .lss 3 (.tmp 6) (.const (Go.Value.int Go.IntKind.i64 0))⟩,
    ⟨(some 8), none, .mv (.tmp 7)⟩,
    ⟨(some 9), (some (8, false)), .mv (.tmp 1)⟩,
    ⟨(some 10), (some (8, false)), .bin .lss 3 (.tmp 9) (.const (Go.Value.int Go.IntKind.i64 0))⟩,
    ⟨(some 11), none, .pick (.tmp 8) (.const (Go.Value.bool true)) (.tmp 10)⟩])
  (.cond (.tmp 11)
    (.seq (.ops [⟨(some 4), none, .mv (.const (Go.Value.int Go.IntKind.u64 0))⟩,
      ⟨(some 5), none, .mv (.const (Go.Value.int Go.IntKind.i64 1))⟩])
    (.ret))
    (.skip)))
  (.seq (.seq (.ops [⟨(some 12), none, .mv (.tmp 0)⟩,
    ⟨(some 13), none, .bin .gtr 3 (.tmp 12) (.const (Go.Value.int Go.IntKind.i64 64))⟩,
    ⟨(some 14), none, .mv (.tmp 13)⟩,
    ⟨(some 15), (some (14, false)), .mv (.tmp 1)⟩,
    ⟨(some 16), (some (14, false)), .bin .gtr 3 (.tmp 15) (.const (Go.Value.int Go.IntKind.i64 128))⟩,
    ⟨(some 17), none, .pick (.tmp 14) (.const (Go.Value.bool true)) (.tmp 16)⟩])
  (.cond (.tmp 17)
    (.seq (.ops [⟨(some 4), none, .mv (.const (Go.Value.int Go.IntKind.u64 0))⟩,
      ⟨(some 5), none, .mv (.const (Go.Value.int Go.IntKind.i64 5))⟩])
    (.ret))
    (.skip)))
  (.seq (.ops [⟨(some 18), none, .mv (.tmp 0)⟩,
    ⟨(some 19), none, .conv Go.IntKind.u64 (.tmp 18)⟩,
    ⟨(some 20), none, .mv (.tmp 1)⟩,
    ⟨(some 21), none, .conv Go.IntKind.u64 (.tmp 20)⟩,
    ⟨(some 22), none, .bin .mul 32 (.tmp 21) (.const (Go.Value.int Go.IntKind.u64 65536))⟩,
    ⟨(some 23), none, .bin .add 32 (.tmp 19) (.tmp 22)⟩,
    ⟨(some 24), none, .bin .add 32 (.tmp 23) (.const (Go.Value.int Go.IntKind.u64 189850439385088))⟩,
    ⟨(some 4), none, .mv (.tmp 24)⟩,
    ⟨(some 5), none, .mv (.const (Go.Value.int Go.IntKind.i64 0))⟩])
  (.ret))))
theorem is_ref08_Lengths : FnIs Try.prog F.ref08_Lengths X.ref08_Lengths 25 [.tmp 4, .tmp 5] := ⟨by kernel_rfl⟩

-- loop (inner ones first): [0, 3, 4, 5, 6]
-- loop (inner ones first): [0, 3, 4]
/-- haycroft/haycroftref01.Words: function 113 -/
abbrev F.ref01_Words : FuncId := 113
def X.ref01_Words : X :=
  .seq (.ops [⟨(some 2), none, .mv (.const (Go.Value.slice none 0 0))⟩])
  (.seq (.ops [⟨(some 7), none, .bsl 32 1 0 [(Go.Value.int Go.IntKind.u64 0)] []⟩,
    ⟨(some 3), none, .mv (.tmp 7)⟩])
  (.seq (.seq (.ops [⟨(some 4), none, .mv (.const (Go.Value.int Go.IntKind.i64 0))⟩])
  (.block 0 (.loop (.seq (.seq (.ops [⟨(some 8), none, .mv (.tmp 4)⟩,
        ⟨(some 9), none, .mv (.tmp 0)⟩,
        ⟨(some 10), none, .lenB (.tmp 9)⟩,
        ⟨(some 11), none, .bin .lss 3 (.tmp 8) (.tmp 10)⟩])
      (.cond (.tmp 11)
        (.skip)
        (.exit 0)))
      (.seq (.block 1 (.seq (.ops [⟨(some 5), none, .mv (.const (Go.Value.int Go.IntKind.u64 0))⟩])
        (.seq (.seq (.ops [⟨(some 6), none, .mv (.const (Go.Value.int Go.IntKind.i64 7))⟩])
        (.block 2 (.loop (.seq (.seq (.ops [⟨(some 14), none, .mv (.tmp 6)⟩,
              ⟨(some 15), none, .bin .geq 3 (.tmp 14) (.const (Go.Value.int Go.IntKind.i64 0))⟩])
            (.cond (.tmp 15)
              (.skip)
              (.exit 2)))
            (.seq (.block 3 (.seq (.ops [⟨(some 18), none, .mv (.tmp 5)⟩,
                ⟨(some 19), none, .bin .mul 32 (.tmp 18) (.const (Go.Value.int Go.IntKind.u64 256))⟩,
                ⟨(some 5), none, .mv (.tmp 19)⟩])
              (.seq (.ops [⟨(some 20), none, .mv (.tmp 4)⟩,
                ⟨(some 21), none, .mv (.tmp 6)⟩,
                ⟨(some 22), none, .bin .add 3 (.tmp 20) (.tmp 21)⟩,
                ⟨(some 23), none, .mv (.tmp 0)⟩,
                ⟨(some 24), none, .lenB (.tmp 23)⟩,
                ⟨(some 25), none, .bin .lss 3 (.tmp 22) (.tmp 24)⟩])
              (.cond (.tmp 25)
                (.ops [⟨(some 26), none, .mv (.tmp 5)⟩,
                  ⟨(some 27), none, .mv (.tmp 0)⟩,
                  ⟨(some 28), none, .mv (.tmp 4)⟩,
                  ⟨(some 29), none, .mv (.tmp 6)⟩,
                  ⟨(some 30), none, .bin .add 3 (.tmp 28) (.tmp 29)⟩,
                  ⟨(some 31), none, .ixs (.tmp 27) (.tmp 30)⟩,
                  ⟨(some 32), none, .conv Go.IntKind.u64 (.tmp 31)⟩,
                  ⟨(some 33), none, .bin .add 32 (.tmp 26) (.tmp 32)⟩,
                  ⟨(some 5), none, .mv (.tmp 33)⟩])
                (.skip)))))
            (.ops [⟨(some 16), none, .mv (.tmp 6)⟩,
              ⟨(some 17), none, .bin .sub 3 (.tmp 16) (.const (Go.Value.int Go.IntKind.i64 1))⟩,
              ⟨(some 6), none, .mv (.tmp 17)⟩]))))))
        (.ops [⟨(some 34), none, .mv (.tmp 3)⟩,
          ⟨(some 35), none, .mv (.tmp 5)⟩,
          ⟨(some 36), none, .bsl 32 1 1 [(Go.Value.int Go.IntKind.u64 0)] [(0, (.tmp 35))]⟩,
          ⟨(some 37), none, .app 32 1 8 [(Go.Value.int Go.IntKind.u64 0)] (.tmp 34) (.tmp 36)⟩,
          ⟨(some 3), none, .mv (.tmp 37)⟩]))))
      (.ops [⟨(some 12), none, .mv (.tmp 4)⟩,
        ⟨(some 13), none, .bin .add 3 (.tmp 12) (.const (Go.Value.int Go.IntKind.i64 8))⟩,
        ⟨(some 4), none, .mv (.tmp 13)⟩]))))))
  (.seq (.ops [⟨(some 38), none, .mv (.tmp 3)⟩,
    ⟨(some 2), none, .mv (.tmp 38)⟩])
  (.ret))))
theorem is_ref01_Words : FnIs Try.prog F.ref01_Words X.ref01_Words 39 [.tmp 2] := ⟨by kernel_rfl⟩

/-- haycroft/haycroftref09.Words: function 167 -/
abbrev F.ref09_Words : FuncId := 167
def X.ref09_Words : X :=
  .seq (.ops [⟨(some 1), none, .box 219 (.tmp 0)⟩,
    ⟨(some 2), none, .mv (.const (Go.Value.slice none 0 0))⟩])
  (.seq (.ops [⟨(some 9), none, .fld (.tmp 1) 0⟩,
    ⟨(some 10), none, .ld (.tmp 9) (some 3)⟩,
    ⟨(some 11), none, .call 175 [(.tmp 10)]⟩,
    ⟨(some 8), none, .mv (.tmp 11)⟩,
    ⟨(some 12), none, .ext (.tmp 8) 0⟩,
    ⟨(some 13), none, .ext (.tmp 8) 1⟩,
    ⟨(some 3), none, .mv (.tmp 12)⟩,
    ⟨(some 4), none, .mv (.tmp 13)⟩])
  (.seq (.ops [⟨(some 15), none, .fld (.tmp 1) 3⟩,
    ⟨(some 16), none, .ld (.tmp 15) none⟩,
    ⟨(some 17), none, .lenB (.tmp 16)⟩,
    ⟨(some 18), none, .fld (.tmp 1) 4⟩,
    ⟨(some 19), none, .ld (.tmp 18) none⟩,
    ⟨(some 20), none, .lenB (.tmp 19)⟩,
    ⟨(some 21), none, .call 176 [(.tmp 17), (.tmp 20)]⟩,
    ⟨(some 14), none, .mv (.tmp 21)⟩,
    ⟨(some 22), none, .ext (.tmp 14) 0⟩,
    ⟨(some 23), none, .ext (.tmp 14) 1⟩,
    ⟨(some 5), none, .mv (.tmp 22)⟩,
    ⟨(some 6), none, .mv (.tmp 23)⟩])
  (.seq (.ops [⟨(some 24), none, .mv (.tmp 3)⟩,
    ⟨(some 25), none, .mv (.tmp 5)⟩,
    ⟨(some 26), none, .bsl 32 1 3 [(Go.Value.int Go.IntKind.u64 0)] [(0, (.tmp 24)), (1, (.const (Go.Value.int Go.IntKind.u64 0))), (2, (.tmp 25))]⟩,
    ⟨(some 7), none, .mv (.tmp 26)⟩])
  (.seq (.ops [⟨(some 27), none, .mv (.tmp 7)⟩,
    ⟨(some 28), none, .fld (.tmp 1) 3⟩,
    ⟨(some 29), none, .ld (.tmp 28) none⟩,
    ⟨(some 30), none, .call 113 [(.tmp 29)]⟩,
    ⟨(some 31), none, .app 32 1 8 [(Go.Value.int Go.IntKind.u64 0)] (.tmp 27) (.tmp 30)⟩,
    ⟨(some 7), none, .mv (.tmp 31)⟩])
  (.seq (.ops [⟨(some 32), none, .mv (.tmp 7)⟩,
    ⟨(some 33), none, .fld (.tmp 1) 4⟩,
    ⟨(some 34), none, .ld (.tmp 33) none⟩,
    ⟨(some 35), none, .call 113 [(.tmp 34)]⟩,
    ⟨(some 36), none, .app 32 1 8 [(Go.Value.int Go.IntKind.u64 0)] (.tmp 32) (.tmp 35)⟩,
    ⟨(some 2), none, .mv (.tmp 36)⟩])
  (.ret))))))
theorem is_ref09_Words : FnIs Try.prog F.ref09_Words X.ref09_Words 37 [.tmp 2] := ⟨by kernel_rfl⟩

/-- haycroft/haycroftref18.Fresh: function 138 -/
abbrev F.ref18_Fresh : FuncId := 138
def X.ref18_Fresh : X :=
  .seq (.ops [⟨(some 4), none, .mv (.const (Go.Value.slice none 0 0))⟩])
  (.seq (.ops [⟨(some 5), none, .mv (.tmp 0)⟩,
    ⟨(some 6), none, .mv (.tmp 1)⟩,
    ⟨(some 7), none, .bld [(Go.Value.int Go.IntKind.u64 0), (Go.Value.bool false), (Go.Value.bool false), (Go.Value.string { data := #[] }), (Go.Value.string { data := #[] })] [(3, 1, (.tmp 5)), (4, 1, (.tmp 6))]⟩,
    ⟨(some 8), none, .call 167 [(.tmp 7)]⟩,
    ⟨(some 4), none, .mv (.tmp 8)⟩])
  (.ret))
theorem is_ref18_Fresh : FnIs Try.prog F.ref18_Fresh X.ref18_Fresh 9 [.tmp 4] := ⟨by kernel_rfl⟩

/-- haycroft/field.Right: function 156 -/
abbrev F.field_Right : FuncId := 156
def X.field_Right : X :=
  .seq (.ops [⟨(some 4), none, .mv (.const (Go.Value.bool false))⟩])
  (.seq (.ops [⟨(some 5), none, .mv (.tmp 0)⟩,
    ⟨(some 6), none, .bin .geq 3 (.tmp 5) (.const (Go.Value.int Go.IntKind.i64 0))⟩,
    ⟨(some 7), none, .mv (.tmp 6)⟩,
    ⟨(some 8), (some (7, true)), .mv (.tmp 0)⟩,
    ⟨(some 9), (some (7, true)), .bin .lss 3 (.tmp 8) (.const (Go.Value.int Go.IntKind.i64 64))⟩,
    ⟨(some 10), none, .pick (.tmp 7) (.tmp 9) (.const (Go.Value.bool false))⟩,
    ⟨(some 11), none, .mv (.tmp 10)⟩,
    ⟨(some 12), (some (11, true)), .mv (.tmp 1)⟩,
    ⟨(some 13), (some (11, true)), .bin .geq 3 (.tmp 12) (.const (Go.Value.int Go.IntKind.i64 1))⟩,
    ⟨(some 14), none, .pick (.tmp 11) (.tmp 13) (.const (Go.Value.bool false))⟩,
    ⟨(some 15), none, .mv (.tmp 14)⟩,
    ⟨(some 16), (some (15, true)), .mv (.tmp 1)⟩,
    ⟨(some 17), (some (15, true)), .mv (.tmp 0)⟩,
    ⟨(some 18), (some (15, true)), .bin .sub 3 (.const (Go.Value.int Go.IntKind.i64 64)) (.tmp 17)⟩,
    ⟨(some 19), (some (15, true)), .bin .leq 3 (.tmp 16) (.tmp 18)⟩,
    ⟨(some 20), none, .pick (.tmp 15) (.tmp 19) (.const (Go.Value.bool false))⟩,
    ⟨(some 4), none, .mv (.tmp 20)⟩])
  (.ret))
theorem is_field_Right : FnIs Try.prog F.field_Right X.field_Right 21 [.tmp 4] := ⟨by kernel_rfl⟩

/-- haycroft/field.Most: function 157 -/
abbrev F.field_Most : FuncId := 157
def X.field_Most : X :=
  .seq (.ops [⟨(some 2), none, .mv (.const (Go.Value.int Go.IntKind.u64 0))⟩])
  (.seq (.block 0 (.seq (.ops [⟨(some 4), none, .mv (.tmp 0)⟩,
      ⟨(some 5), none, .bin .lss 3 (.tmp 4) (.const (Go.Value.int Go.IntKind.i64 1))⟩,
      ⟨(some 3), none, .mv (.tmp 5)⟩])
    (.cond (.tmp 3)
      (.seq (.ops [⟨(some 2), none, .mv (.const (Go.Value.int Go.IntKind.u64 0))⟩])
      (.ret))
      (.seq (.ops [⟨(some 7), none, .mv (.tmp 0)⟩,
        ⟨(some 8), none, .bin .geq 3 (.tmp 7) (.const (Go.Value.int Go.IntKind.i64 64))⟩,
        ⟨(some 6), none, .mv (.tmp 8)⟩])
      (.cond (.tmp 6)
        (.seq (.ops [⟨(some 2), none, .mv (.const (Go.Value.int Go.IntKind.u64 18446744073709551615))⟩])
        (.ret))
        (.skip))))))
  (.seq (.ops [⟨(some 9), none, .mv (.tmp 0)⟩,
    ⟨(some 10), none, .bin .shl 32 (.const (Go.Value.int Go.IntKind.u64 1)) (.tmp 9)⟩,
    ⟨(some 11), none, .bin .sub 32 (.tmp 10) (.const (Go.Value.int Go.IntKind.u64 1))⟩,
    ⟨(some 2), none, .mv (.tmp 11)⟩])
  (.ret)))
theorem is_field_Most : FnIs Try.prog F.field_Most X.field_Most 12 [.tmp 2] := ⟨by kernel_rfl⟩

/-- haycroft/field.Get: function 120 -/
abbrev F.field_Get : FuncId := 120
def X.field_Get : X :=
  .seq (.ops [⟨(some 6), none, .mv (.const (Go.Value.int Go.IntKind.u64 0))⟩])
  (.seq (.seq (.ops [⟨(some 7), none, .mv (.tmp 1)⟩,
    ⟨(some 8), none, .mv (.tmp 2)⟩,
    ⟨(some 9), none, .call 156 [(.tmp 7), (.tmp 8)]⟩,
    ⟨(some 10), none, .un .not (.tmp 9)⟩])
  (.cond (.tmp 10)
    (.seq (.ops [⟨(some 6), none, .mv (.const (Go.Value.int Go.IntKind.u64 0))⟩])
    (.ret))
    (.skip)))
  (.seq (.drawn [(0, ⟨(some 11), none, .mv (.tmp 0)⟩),
    (1, ⟨(some 12), none, .mv (.tmp 1)⟩),
    (2, ⟨(some 13), none, .bin .shr 32 (.tmp 11) (.tmp 12)⟩),
    (3, ⟨(some 14), none, .mv (.tmp 2)⟩),
    (4, ⟨(some 15), none, .call 157 [(.tmp 14)]⟩),
    (5, ⟨(some 16), none, .bin .and 32 (.tmp 13) (.tmp 15)⟩),
    (6, ⟨(some 6), none, .mv (.tmp 16)⟩)]
    [[], [], [0, 1], [], [3], [2, 4], [5, 4, 0, 1, 2, 3, 4, 5]]
    [0, 0, 3, 0, 8, 31, 63] 16)
  (.ret)))
theorem is_field_Get : FnIs Try.prog F.field_Get X.field_Get 17 [.tmp 6] := ⟨by kernel_rfl⟩

/-- haycroft/place.part: function 173 -/
abbrev F.place_part : FuncId := 173
def X.place_part : X :=
  .seq (.ops [⟨(some 8), none, .mv (.const (Go.Value.int Go.IntKind.i64 0))⟩])
  (.seq (.seq (.ops [⟨(some 9), none, .mv (.tmp 0)⟩,
    ⟨(some 10), none, .call 98 [(.tmp 9)]⟩,
    ⟨(some 11), none, .un .not (.tmp 10)⟩,
    ⟨(some 12), none, .mv (.tmp 11)⟩,
    ⟨(some 13), (some (12, false)), .mv (.tmp 1)⟩,
    ⟨(some 14), (some (12, false)), .bin .gtr 32 (.tmp 13) (.const (Go.Value.int Go.IntKind.u64 281474976710655))⟩,
    ⟨(some 15), none, .pick (.tmp 12) (.const (Go.Value.bool true)) (.tmp 14)⟩])
  (.cond (.tmp 15)
    (.seq (.ops [⟨(some 8), none, .mv (.const (Go.Value.int Go.IntKind.i64 0))⟩])
    (.ret))
    (.skip)))
  (.seq (.ops [⟨(some 16), none, .mv (.tmp 1)⟩,
    ⟨(some 17), none, .mv (.tmp 2)⟩,
    ⟨(some 18), none, .mv (.tmp 3)⟩,
    ⟨(some 19), none, .call 120 [(.tmp 16), (.tmp 17), (.tmp 18)]⟩,
    ⟨(some 20), none, .conv Go.IntKind.i64 (.tmp 19)⟩,
    ⟨(some 8), none, .mv (.tmp 20)⟩])
  (.ret)))
theorem is_place_part : FnIs Try.prog F.place_part X.place_part 21 [.tmp 8] := ⟨by kernel_rfl⟩

/-- haycroft/place.Page: function 152 -/
abbrev F.place_Page : FuncId := 152
def X.place_Page : X :=
  .seq (.ops [⟨(some 4), none, .mv (.const (Go.Value.int Go.IntKind.i64 0))⟩])
  (.seq (.ops [⟨(some 5), none, .mv (.tmp 0)⟩,
    ⟨(some 6), none, .mv (.tmp 1)⟩,
    ⟨(some 7), none, .mv (.tmp 0)⟩,
    ⟨(some 8), none, .mv (.tmp 0)⟩,
    ⟨(some 9), none, .bin .sub 3 (.const (Go.Value.int Go.IntKind.i64 48)) (.tmp 8)⟩,
    ⟨(some 10), none, .call 173 [(.tmp 5), (.tmp 6), (.tmp 7), (.tmp 9)]⟩,
    ⟨(some 4), none, .mv (.tmp 10)⟩])
  (.ret))
theorem is_place_Page : FnIs Try.prog F.place_Page X.place_Page 11 [.tmp 4] := ⟨by kernel_rfl⟩

/-- haycroft/place.Offset: function 154 -/
abbrev F.place_Offset : FuncId := 154
def X.place_Offset : X :=
  .seq (.ops [⟨(some 4), none, .mv (.const (Go.Value.int Go.IntKind.i64 0))⟩])
  (.seq (.ops [⟨(some 5), none, .mv (.tmp 0)⟩,
    ⟨(some 6), none, .mv (.tmp 1)⟩,
    ⟨(some 7), none, .mv (.tmp 0)⟩,
    ⟨(some 8), none, .call 173 [(.tmp 5), (.tmp 6), (.const (Go.Value.int Go.IntKind.i64 0)), (.tmp 7)]⟩,
    ⟨(some 4), none, .mv (.tmp 8)⟩])
  (.ret))
theorem is_place_Offset : FnIs Try.prog F.place_Offset X.place_Offset 9 [.tmp 4] := ⟨by kernel_rfl⟩

/-- (*haycroft/pages.Buffer).at: function 117 -/
abbrev F.pages_Buffer_at : FuncId := 117
def X.pages_Buffer_at : X :=
  .seq (.ops [⟨(some 4), none, .mv (.const (Go.Value.int Go.IntKind.i64 0))⟩,
    ⟨(some 5), none, .mv (.const (Go.Value.int Go.IntKind.i64 0))⟩])
  (.seq (.block 0 (.seq (.ops [⟨(some 7), none, .mv (.tmp 0)⟩,
      ⟨(some 8), none, .eq false .ptr (.tmp 7) (.const (Go.Value.pointer none))⟩,
      ⟨(some 6), none, .mv (.tmp 8)⟩])
    (.cond (.tmp 6)
      (.seq (.ops [⟨(some 4), none, .mv (.const (Go.Value.int Go.IntKind.i64 0))⟩,
        ⟨(some 5), none, .mv (.const (Go.Value.int Go.IntKind.i64 2))⟩])
      (.ret))
      (.seq (.seq (.ops [⟨(some 10), none, .mv (.tmp 1)⟩,
        ⟨(some 11), none, .bin .gtr 32 (.tmp 10) (.const (Go.Value.int Go.IntKind.u64 281474976710655))⟩,
        ⟨(some 9), none, .mv (.tmp 11)⟩])
      (.cond (.tmp 9)
        (.skip)
        (.ops [⟨(some 12), none, .mv (.tmp 0)⟩,
          ⟨(some 13), none, .mv (.tmp 0)⟩,
          ⟨(some 14), none, .nilc (.tmp 13)⟩,
          ⟨(some 15), none, .fld (.tmp 14) 0⟩,
          ⟨(some 16), none, .ld (.tmp 15) none⟩,
          ⟨(some 17), none, .mv (.tmp 1)⟩,
          ⟨(some 18), none, .call 152 [(.tmp 16), (.tmp 17)]⟩,
          ⟨(some 19), none, .call 151 [(.tmp 12), (.tmp 18)]⟩,
          ⟨(some 20), none, .un .not (.tmp 19)⟩,
          ⟨(some 9), none, .mv (.tmp 20)⟩])))
      (.cond (.tmp 9)
        (.seq (.ops [⟨(some 4), none, .mv (.const (Go.Value.int Go.IntKind.i64 0))⟩,
          ⟨(some 5), none, .mv (.const (Go.Value.int Go.IntKind.i64 7))⟩])
        (.ret))
        (.skip))))))
  (.seq (.drawn [(0, ⟨(some 21), none, .mv (.tmp 0)⟩),
    (1, ⟨(some 22), none, .mv (.tmp 0)⟩),
    (2, ⟨(some 23), none, .nilc (.tmp 22)⟩),
    (3, ⟨(some 24), none, .fld (.tmp 23) 0⟩),
    (4, ⟨(some 25), none, .ld (.tmp 24) none⟩),
    (5, ⟨(some 26), none, .mv (.tmp 1)⟩),
    (8, ⟨(some 29), none, .mv (.tmp 0)⟩),
    (9, ⟨(some 30), none, .nilc (.tmp 29)⟩),
    (10, ⟨(some 31), none, .fld (.tmp 30) 0⟩),
    (11, ⟨(some 32), none, .ld (.tmp 31) none⟩),
    (14, ⟨(some 35), none, .mv (.tmp 0)⟩),
    (15, ⟨(some 36), none, .nilc (.tmp 35)⟩),
    (16, ⟨(some 37), none, .fld (.tmp 36) 0⟩),
    (17, ⟨(some 38), none, .ld (.tmp 37) none⟩),
    (18, ⟨(some 39), none, .mv (.tmp 1)⟩),
    (6, ⟨(some 27), none, .call 152 [(.tmp 25), (.tmp 26)]⟩),
    (7, ⟨(some 28), none, .call 153 [(.tmp 21), (.tmp 27)]⟩),
    (12, ⟨(some 33), none, .call 99 [(.tmp 32)]⟩),
    (13, ⟨(some 34), none, .bin .mul 3 (.tmp 28) (.tmp 33)⟩),
    (19, ⟨(some 40), none, .call 154 [(.tmp 38), (.tmp 39)]⟩),
    (20, ⟨(some 41), none, .bin .add 3 (.tmp 34) (.tmp 40)⟩),
    (21, ⟨(some 4), none, .mv (.tmp 41)⟩),
    (22, ⟨(some 5), none, .mv (.const (Go.Value.int Go.IntKind.i64 0))⟩)]
    [[], [], [1], [2], [3], [], [4, 5], [0, 6, 6], [], [8], [9], [10], [11, 7], [7, 12], [], [14], [15], [16], [], [17, 18, 12], [13, 19], [20, 19, 0, 1, 2, 3, 4, 5, 6, 7, 8, 9, 10, 11, 12, 13, 14, 15, 16, 17, 18, 19, 20], [21, 0, 1, 2, 3, 4, 5, 6, 7, 8, 9, 10, 11, 12, 13, 14, 15, 16, 17, 18, 19, 20, 21]]
    [0, 0, 2, 6, 14, 0, 62, 127, 0, 256, 768, 1792, 4095, 8191, 0, 16384, 49152, 114688, 0, 516095, 1048575, 2097151, 4194303] 528576)
  (.ret)))
theorem is_pages_Buffer_at : FnIs Try.prog F.pages_Buffer_at X.pages_Buffer_at 42 [.tmp 4, .tmp 5] := ⟨by kernel_rfl⟩

/-- haycroft/place.Room: function 170 -/
abbrev F.place_Room : FuncId := 170
def X.place_Room : X :=
  .seq (.ops [⟨(some 4), none, .mv (.const (Go.Value.int Go.IntKind.i64 0))⟩])
  (.seq (.seq (.ops [⟨(some 5), none, .mv (.tmp 0)⟩,
    ⟨(some 6), none, .call 98 [(.tmp 5)]⟩,
    ⟨(some 7), none, .un .not (.tmp 6)⟩,
    ⟨(some 8), none, .mv (.tmp 7)⟩,
    ⟨(some 9), (some (8, false)), .mv (.tmp 1)⟩,
    ⟨(some 10), (some (8, false)), .bin .gtr 32 (.tmp 9) (.const (Go.Value.int Go.IntKind.u64 281474976710655))⟩,
    ⟨(some 11), none, .pick (.tmp 8) (.const (Go.Value.bool true)) (.tmp 10)⟩])
  (.cond (.tmp 11)
    (.seq (.ops [⟨(some 4), none, .mv (.const (Go.Value.int Go.IntKind.i64 0))⟩])
    (.ret))
    (.skip)))
  (.seq (.ops [⟨(some 12), none, .mv (.tmp 0)⟩,
    ⟨(some 13), none, .call 99 [(.tmp 12)]⟩,
    ⟨(some 14), none, .mv (.tmp 0)⟩,
    ⟨(some 15), none, .mv (.tmp 1)⟩,
    ⟨(some 16), none, .call 154 [(.tmp 14), (.tmp 15)]⟩,
    ⟨(some 17), none, .bin .sub 3 (.tmp 13) (.tmp 16)⟩,
    ⟨(some 4), none, .mv (.tmp 17)⟩])
  (.ret)))
theorem is_place_Room : FnIs Try.prog F.place_Room X.place_Room 18 [.tmp 4] := ⟨by kernel_rfl⟩

/-- haycroft/place.Fits: function 140 -/
abbrev F.place_Fits : FuncId := 140
def X.place_Fits : X :=
  .seq (.ops [⟨(some 6), none, .mv (.const (Go.Value.bool false))⟩])
  (.seq (.ops [⟨(some 7), none, .mv (.tmp 2)⟩,
    ⟨(some 8), none, .bin .geq 3 (.tmp 7) (.const (Go.Value.int Go.IntKind.i64 1))⟩,
    ⟨(some 9), none, .mv (.tmp 8)⟩,
    ⟨(some 10), (some (9, true)), .mv (.tmp 2)⟩,
    ⟨(some 11), (some (9, true)), .mv (.tmp 0)⟩,
    ⟨(some 12), (some (9, true)), .mv (.tmp 1)⟩,
    ⟨(some 13), (some (9, true)), .call 170 [(.tmp 11), (.tmp 12)]⟩,
    ⟨(some 14), (some (9, true)), .bin .leq 3 (.tmp 10) (.tmp 13)⟩,
    ⟨(some 15), none, .pick (.tmp 9) (.tmp 14) (.const (Go.Value.bool false))⟩,
    ⟨(some 6), none, .mv (.tmp 15)⟩])
  (.ret))
theorem is_place_Fits : FnIs Try.prog F.place_Fits X.place_Fits 16 [.tmp 6] := ⟨by kernel_rfl⟩

/-- (*haycroft/pages.Buffer).run: function 150 -/
abbrev F.pages_Buffer_run : FuncId := 150
def X.pages_Buffer_run : X :=
  .seq (.ops [⟨(some 6), none, .mv (.const (Go.Value.int Go.IntKind.i64 0))⟩,
    ⟨(some 7), none, .mv (.const (Go.Value.int Go.IntKind.i64 0))⟩])
  (.seq (.ops [⟨(some 11), none, .mv (.tmp 0)⟩,
    ⟨(some 12), none, .mv (.tmp 1)⟩,
    ⟨(some 13), none, .call 117 [(.tmp 11), (.tmp 12)]⟩,
    ⟨(some 10), none, .mv (.tmp 13)⟩,
    ⟨(some 14), none, .ext (.tmp 10) 0⟩,
    ⟨(some 15), none, .ext (.tmp 10) 1⟩,
    ⟨(some 8), none, .mv (.tmp 14)⟩,
    ⟨(some 9), none, .mv (.tmp 15)⟩])
  (.seq (.block 0 (.seq (.ops [⟨(some 17), none, .mv (.tmp 9)⟩,
      ⟨(some 18), none, .bin .neq 25 (.tmp 17) (.const (Go.Value.int Go.IntKind.i64 0))⟩,
      ⟨(some 16), none, .mv (.tmp 18)⟩])
    (.cond (.tmp 16)
      (.seq (.ops [⟨(some 19), none, .mv (.tmp 9)⟩,
        ⟨(some 6), none, .mv (.const (Go.Value.int Go.IntKind.i64 0))⟩,
        ⟨(some 7), none, .mv (.tmp 19)⟩])
      (.ret))
      (.seq (.ops [⟨(some 21), none, .mv (.tmp 0)⟩,
        ⟨(some 22), none, .nilc (.tmp 21)⟩,
        ⟨(some 23), none, .fld (.tmp 22) 0⟩,
        ⟨(some 24), none, .ld (.tmp 23) none⟩,
        ⟨(some 25), none, .mv (.tmp 1)⟩,
        ⟨(some 26), none, .mv (.tmp 2)⟩,
        ⟨(some 27), none, .call 140 [(.tmp 24), (.tmp 25), (.tmp 26)]⟩,
        ⟨(some 28), none, .un .not (.tmp 27)⟩,
        ⟨(some 20), none, .mv (.tmp 28)⟩])
      (.cond (.tmp 20)
        (.seq (.ops [⟨(some 6), none, .mv (.const (Go.Value.int Go.IntKind.i64 0))⟩,
          ⟨(some 7), none, .mv (.const (Go.Value.int Go.IntKind.i64 1))⟩])
        (.ret))
        (.skip))))))
  (.seq (.ops [⟨(some 29), none, .mv (.tmp 8)⟩,
    ⟨(some 6), none, .mv (.tmp 29)⟩,
    ⟨(some 7), none, .mv (.const (Go.Value.int Go.IntKind.i64 0))⟩])
  (.ret))))
theorem is_pages_Buffer_run : FnIs Try.prog F.pages_Buffer_run X.pages_Buffer_run 30 [.tmp 6, .tmp 7] := ⟨by kernel_rfl⟩

/-- (*haycroft/pages.Buffer).Fill: function 137 -/
abbrev F.pages_Buffer_Fill : FuncId := 137
def X.pages_Buffer_Fill : X :=
  .seq (.ops [⟨(some 6), none, .mv (.const (Go.Value.int Go.IntKind.i64 0))⟩])
  (.seq (.ops [⟨(some 10), none, .mv (.tmp 0)⟩,
    ⟨(some 11), none, .mv (.tmp 1)⟩,
    ⟨(some 12), none, .mv (.tmp 2)⟩,
    ⟨(some 13), none, .lenS (.tmp 12)⟩,
    ⟨(some 14), none, .call 150 [(.tmp 10), (.tmp 11), (.tmp 13)]⟩,
    ⟨(some 9), none, .mv (.tmp 14)⟩,
    ⟨(some 15), none, .ext (.tmp 9) 0⟩,
    ⟨(some 16), none, .ext (.tmp 9) 1⟩,
    ⟨(some 7), none, .mv (.tmp 15)⟩,
    ⟨(some 8), none, .mv (.tmp 16)⟩])
  (.seq (.seq (.ops [⟨(some 17), none, .mv (.tmp 8)⟩,
    ⟨(some 18), none, .bin .neq 25 (.tmp 17) (.const (Go.Value.int Go.IntKind.i64 0))⟩])
  (.cond (.tmp 18)
    (.seq (.ops [⟨(some 19), none, .mv (.tmp 8)⟩,
      ⟨(some 6), none, .mv (.tmp 19)⟩])
    (.ret))
    (.skip)))
  (.seq (.ops [⟨(some 20), none, .mv (.tmp 0)⟩,
    ⟨(some 21), none, .nilc (.tmp 20)⟩,
    ⟨(some 22), none, .fld (.tmp 21) 1⟩,
    ⟨(some 23), none, .ld (.tmp 22) none⟩,
    ⟨(some 24), none, .mv (.tmp 7)⟩,
    ⟨(some 25), none, .mv (.tmp 2)⟩,
    ⟨(some 26), none, .call 65 [(.tmp 23), (.tmp 24), (.tmp 25)]⟩,
    ⟨(some 6), none, .mv (.tmp 26)⟩])
  (.ret))))
theorem is_pages_Buffer_Fill : FnIs Try.prog F.pages_Buffer_Fill X.pages_Buffer_Fill 27 [.tmp 6] := ⟨by kernel_rfl⟩

/-- haycroft/haycroftlaw18.begin: function 97 -/
abbrev F.law18_begin : FuncId := 97
def X.law18_begin : X :=
  .seq (.ops [⟨(some 2), none, .mv (.const (Go.Value.pointer none))⟩,
    ⟨(some 3), none, .mv (.const (Go.Value.bool false))⟩])
  (.seq (.ops [⟨(some 7), none, .call 41 [(.const (Go.Value.int Go.IntKind.i64 6)), (.const (Go.Value.int Go.IntKind.i64 2))]⟩,
    ⟨(some 6), none, .mv (.tmp 7)⟩,
    ⟨(some 8), none, .ext (.tmp 6) 0⟩,
    ⟨(some 9), none, .ext (.tmp 6) 1⟩,
    ⟨(some 4), none, .mv (.tmp 8)⟩,
    ⟨(some 5), none, .mv (.tmp 9)⟩])
  (.seq (.seq (.ops [⟨(some 10), none, .mv (.tmp 5)⟩,
    ⟨(some 11), none, .bin .neq 25 (.tmp 10) (.const (Go.Value.int Go.IntKind.i64 0))⟩,
    ⟨(some 12), none, .mv (.tmp 11)⟩,
    ⟨(some 13), (some (12, false)), .mv (.tmp 4)⟩,
    ⟨(some 14), (some (12, false)), .call 136 [(.tmp 13), (.const (Go.Value.int Go.IntKind.i64 0))]⟩,
    ⟨(some 15), (some (12, false)), .bin .neq 25 (.tmp 14) (.const (Go.Value.int Go.IntKind.i64 0))⟩,
    ⟨(some 16), none, .pick (.tmp 12) (.const (Go.Value.bool true)) (.tmp 15)⟩])
  (.cond (.tmp 16)
    (.seq (.ops [⟨(some 17), none, .mv (.tmp 4)⟩,
      ⟨(some 2), none, .mv (.tmp 17)⟩,
      ⟨(some 3), none, .mv (.const (Go.Value.bool false))⟩])
    (.ret))
    (.skip)))
  (.seq (.ops [⟨(some 18), none, .mv (.tmp 4)⟩,
    ⟨(some 19), none, .mv (.tmp 4)⟩,
    ⟨(some 20), none, .mv (.tmp 0)⟩,
    ⟨(some 21), none, .call 138 [(.const (Go.Value.string { data := #[107] })), (.tmp 20)]⟩,
    ⟨(some 22), none, .call 137 [(.tmp 19), (.const (Go.Value.int Go.IntKind.u64 1)), (.tmp 21)]⟩,
    ⟨(some 23), none, .bin .eql 25 (.tmp 22) (.const (Go.Value.int Go.IntKind.i64 0))⟩,
    ⟨(some 2), none, .mv (.tmp 18)⟩,
    ⟨(some 3), none, .mv (.tmp 23)⟩])
  (.ret))))
theorem is_law18_begin : FnIs Try.prog F.law18_begin X.law18_begin 24 [.tmp 2, .tmp 3] := ⟨by kernel_rfl⟩

-- loop (inner ones first): [1, 6, 51, 52, 53]
-- loop (inner ones first): [0, 1, 6, 24, 25]
/-- haycroft/field.Bytes: function 143 -/
abbrev F.field_Bytes : FuncId := 143
def X.field_Bytes : X :=
  .seq (.ops [⟨(some 4), none, .mv (.const (Go.Value.string { data := #[] }))⟩,
    ⟨(some 5), none, .mv (.const (Go.Value.int Go.IntKind.i64 0))⟩])
  (.seq (.block 0 (.seq (.ops [⟨(some 11), none, .mv (.tmp 1)⟩,
      ⟨(some 12), none, .bin .lss 3 (.tmp 11) (.const (Go.Value.int Go.IntKind.i64 0))⟩,
      ⟨(some 10), none, .mv (.tmp 12)⟩])
    (.cond (.tmp 10)
      (.seq (.ops [⟨(some 4), none, .mv (.const (Go.Value.string { data := #[] }))⟩,
        ⟨(some 5), none, .mv (.const (Go.Value.int Go.IntKind.i64 1))⟩])
      (.ret))
      (.seq (.ops [⟨(some 14), none, .mv (.tmp 1)⟩,
        ⟨(some 15), none, .mv (.tmp 0)⟩,
        ⟨(some 16), none, .lenS (.tmp 15)⟩,
        ⟨(some 17), none, .bin .mul 3 (.const (Go.Value.int Go.IntKind.i64 8)) (.tmp 16)⟩,
        ⟨(some 18), none, .bin .gtr 3 (.tmp 14) (.tmp 17)⟩,
        ⟨(some 13), none, .mv (.tmp 18)⟩])
      (.cond (.tmp 13)
        (.seq (.ops [⟨(some 4), none, .mv (.const (Go.Value.string { data := #[] }))⟩,
          ⟨(some 5), none, .mv (.const (Go.Value.int Go.IntKind.i64 3))⟩])
        (.ret))
        (.skip))))))
  (.seq (.ops [⟨(some 19), none, .mv (.tmp 0)⟩,
    ⟨(some 20), none, .lenS (.tmp 19)⟩,
    ⟨(some 21), none, .bin .mul 3 (.const (Go.Value.int Go.IntKind.i64 8)) (.tmp 20)⟩,
    ⟨(some 22), none, .mks 5 1 1 [(Go.Value.int Go.IntKind.u8 0)] (.tmp 21) (.tmp 21)⟩,
    ⟨(some 6), none, .mv (.tmp 22)⟩])
  (.seq (.seq (.ops [⟨(some 23), none, .mv (.tmp 6)⟩,
    ⟨(some 24), none, .lenS (.tmp 23)⟩,
    ⟨(some 25), none, .mv (.const (Go.Value.int Go.IntKind.i64 0))⟩])
  (.block 1 (.loop (.seq (.ops [⟨(some 26), none, .bin .lss 3 (.tmp 25) (.tmp 24)⟩])
      (.seq (.cond (.tmp 26)
        (.skip)
        (.exit 1))
      (.seq (.block 2 (.seq (.ops [⟨(some 27), none, .mv (.tmp 25)⟩,
          ⟨(some 7), none, .mv (.tmp 27)⟩])
        (.ops [⟨(some 28), none, .mv (.tmp 6)⟩,
          ⟨(some 29), none, .mv (.tmp 7)⟩,
          ⟨(some 30), none, .mv (.tmp 0)⟩,
          ⟨(some 31), none, .mv (.tmp 7)⟩,
          ⟨(some 32), none, .bin .quo 3 (.tmp 31) (.const (Go.Value.int Go.IntKind.i64 8))⟩,
          ⟨(some 33), none, .idx (.tmp 30) (.tmp 32) 1⟩,
          ⟨(some 34), none, .ld (.tmp 33) none⟩,
          ⟨(some 35), none, .mv (.tmp 7)⟩,
          ⟨(some 36), none, .bin .rem 3 (.tmp 35) (.const (Go.Value.int Go.IntKind.i64 8))⟩,
          ⟨(some 37), none, .bin .mul 3 (.tmp 36) (.const (Go.Value.int Go.IntKind.i64 8))⟩,
          ⟨(some 38), none, .bin .shr 32 (.tmp 34) (.tmp 37)⟩,
          ⟨(some 39), none, .conv Go.IntKind.u8 (.tmp 38)⟩,
          ⟨(some 40), none, .idx (.tmp 28) (.tmp 29) 1⟩,
          ⟨none, none, .st (.tmp 40) (.tmp 39) 1⟩])))
      (.ops [⟨(some 41), none, .bin .add 3 (.tmp 25) (.const (Go.Value.int Go.IntKind.i64 1))⟩,
        ⟨(some 25), none, .mv (.tmp 41)⟩])))))))
  (.seq (.seq (.ops [⟨(some 42), none, .mv (.tmp 0)⟩,
    ⟨(some 43), none, .lenS (.tmp 42)⟩,
    ⟨(some 44), none, .mv (.tmp 1)⟩,
    ⟨(some 45), none, .bin .add 3 (.tmp 44) (.const (Go.Value.int Go.IntKind.i64 8))⟩,
    ⟨(some 46), none, .bin .sub 3 (.tmp 45) (.const (Go.Value.int Go.IntKind.i64 1))⟩,
    ⟨(some 47), none, .bin .quo 3 (.tmp 46) (.const (Go.Value.int Go.IntKind.i64 8))⟩,
    ⟨(some 48), none, .bin .neq 3 (.tmp 43) (.tmp 47)⟩])
  (.cond (.tmp 48)
    (.seq (.ops [⟨(some 4), none, .mv (.const (Go.Value.string { data := #[] }))⟩,
      ⟨(some 5), none, .mv (.const (Go.Value.int Go.IntKind.i64 4))⟩])
    (.ret))
    (.skip)))
  (.seq (.seq (.ops [⟨(some 49), none, .mv (.tmp 6)⟩,
    ⟨(some 50), none, .mv (.tmp 1)⟩,
    ⟨(some 51), none, .slc 1 (.tmp 49) (some (.tmp 50)) none⟩,
    ⟨(some 52), none, .lenS (.tmp 51)⟩,
    ⟨(some 53), none, .mv (.const (Go.Value.int Go.IntKind.i64 0))⟩])
  (.block 3 (.loop (.seq (.ops [⟨(some 54), none, .bin .lss 3 (.tmp 53) (.tmp 52)⟩])
      (.seq (.cond (.tmp 54)
        (.skip)
        (.exit 3))
      (.seq (.block 4 (.seq (.ops [⟨(some 55), none, .idx (.tmp 51) (.tmp 53) 1⟩,
          ⟨(some 56), none, .ld (.tmp 55) none⟩,
          ⟨(some 9), none, .mv (.tmp 56)⟩])
        (.seq (.ops [⟨(some 57), none, .mv (.tmp 9)⟩,
          ⟨(some 58), none, .bin .neq 5 (.tmp 57) (.const (Go.Value.int Go.IntKind.u8 0))⟩])
        (.cond (.tmp 58)
          (.seq (.ops [⟨(some 4), none, .mv (.const (Go.Value.string { data := #[] }))⟩,
            ⟨(some 5), none, .mv (.const (Go.Value.int Go.IntKind.i64 4))⟩])
          (.ret))
          (.skip)))))
      (.ops [⟨(some 59), none, .bin .add 3 (.tmp 53) (.const (Go.Value.int Go.IntKind.i64 1))⟩,
        ⟨(some 53), none, .mv (.tmp 59)⟩])))))))
  (.seq (.ops [⟨(some 60), none, .mv (.tmp 6)⟩,
    ⟨(some 61), none, .mv (.tmp 1)⟩,
    ⟨(some 62), none, .slc 1 (.tmp 60) none (some (.tmp 61))⟩,
    ⟨(some 63), none, .b2s (.tmp 62)⟩,
    ⟨(some 4), none, .mv (.tmp 63)⟩,
    ⟨(some 5), none, .mv (.const (Go.Value.int Go.IntKind.i64 0))⟩])
  (.ret)))))))
theorem is_field_Bytes : FnIs Try.prog F.field_Bytes X.field_Bytes 64 [.tmp 4, .tmp 5] := ⟨by kernel_rfl⟩

/-- haycroft/record.Value: function 102 -/
abbrev F.record_Value : FuncId := 102
def X.record_Value : X :=
  .seq (.ops [⟨(some 2), none, .mv (.const (Go.Value.string { data := #[] }))⟩])
  (.seq (.ops [⟨(some 6), none, .mv (.tmp 0)⟩,
    ⟨(some 7), none, .bsl 32 1 1 [(Go.Value.int Go.IntKind.u64 0)] [(0, (.tmp 6))]⟩,
    ⟨(some 8), none, .call 143 [(.tmp 7), (.const (Go.Value.int Go.IntKind.i64 8))]⟩,
    ⟨(some 5), none, .mv (.tmp 8)⟩,
    ⟨(some 9), none, .ext (.tmp 5) 0⟩,
    ⟨(some 10), none, .ext (.tmp 5) 1⟩,
    ⟨(some 3), none, .mv (.tmp 9)⟩,
    ⟨(some 4), none, .mv (.tmp 10)⟩])
  (.seq (.ops [⟨(some 11), none, .mv (.tmp 3)⟩,
    ⟨(some 2), none, .mv (.tmp 11)⟩])
  (.ret)))
theorem is_record_Value : FnIs Try.prog F.record_Value X.record_Value 12 [.tmp 2] := ⟨by kernel_rfl⟩

-- loop (inner ones first): [3, 6, 7, 8]
/-- haycroft/field.fit: function 174 -/
abbrev F.field_fit : FuncId := 174
def X.field_fit : X :=
  .seq (.ops [⟨(some 2), none, .mv (.const (Go.Value.bool false))⟩])
  (.seq (.ops [⟨(some 3), none, .mv (.const (Go.Value.int Go.IntKind.i64 64))⟩])
  (.seq (.seq (.ops [⟨(some 6), none, .mv (.tmp 0)⟩,
    ⟨(some 7), none, .lenS (.tmp 6)⟩,
    ⟨(some 8), none, .mv (.const (Go.Value.int Go.IntKind.i64 0))⟩])
  (.block 0 (.loop (.seq (.ops [⟨(some 9), none, .bin .lss 3 (.tmp 8) (.tmp 7)⟩])
      (.seq (.cond (.tmp 9)
        (.skip)
        (.exit 0))
      (.seq (.block 1 (.seq (.ops [⟨(some 10), none, .idx (.tmp 6) (.tmp 8) 1⟩,
          ⟨(some 11), none, .ld (.tmp 10) none⟩,
          ⟨(some 5), none, .mv (.tmp 11)⟩])
        (.seq (.seq (.ops [⟨(some 12), none, .mv (.tmp 5)⟩,
          ⟨(some 13), none, .bin .lss 3 (.tmp 12) (.const (Go.Value.int Go.IntKind.i64 1))⟩,
          ⟨(some 14), none, .mv (.tmp 13)⟩,
          ⟨(some 15), (some (14, false)), .mv (.tmp 5)⟩,
          ⟨(some 16), (some (14, false)), .mv (.tmp 3)⟩,
          ⟨(some 17), (some (14, false)), .bin .gtr 3 (.tmp 15) (.tmp 16)⟩,
          ⟨(some 18), none, .pick (.tmp 14) (.const (Go.Value.bool true)) (.tmp 17)⟩])
        (.cond (.tmp 18)
          (.seq (.ops [⟨(some 2), none, .mv (.const (Go.Value.bool false))⟩])
          (.ret))
          (.skip)))
        (.ops [⟨(some 19), none, .mv (.tmp 3)⟩,
          ⟨(some 20), none, .mv (.tmp 5)⟩,
          ⟨(some 21), none, .bin .sub 3 (.tmp 19) (.tmp 20)⟩,
          ⟨(some 3), none, .mv (.tmp 21)⟩]))))
      (.ops [⟨(some 22), none, .bin .add 3 (.tmp 8) (.const (Go.Value.int Go.IntKind.i64 1))⟩,
        ⟨(some 8), none, .mv (.tmp 22)⟩])))))))
  (.seq (.ops [⟨(some 2), none, .mv (.const (Go.Value.bool true))⟩])
  (.ret))))
theorem is_field_fit : FnIs Try.prog F.field_fit X.field_fit 23 [.tmp 2] := ⟨by kernel_rfl⟩

/-- haycroft/field.Put: function 165 -/
abbrev F.field_Put : FuncId := 165
def X.field_Put : X :=
  .seq (.ops [⟨(some 8), none, .mv (.const (Go.Value.int Go.IntKind.u64 0))⟩,
    ⟨(some 9), none, .mv (.const (Go.Value.int Go.IntKind.i64 0))⟩])
  (.seq (.block 0 (.seq (.ops [⟨(some 11), none, .mv (.tmp 1)⟩,
      ⟨(some 12), none, .mv (.tmp 2)⟩,
      ⟨(some 13), none, .call 156 [(.tmp 11), (.tmp 12)]⟩,
      ⟨(some 14), none, .un .not (.tmp 13)⟩,
      ⟨(some 10), none, .mv (.tmp 14)⟩])
    (.cond (.tmp 10)
      (.seq (.ops [⟨(some 8), none, .mv (.const (Go.Value.int Go.IntKind.u64 0))⟩,
        ⟨(some 9), none, .mv (.const (Go.Value.int Go.IntKind.i64 1))⟩])
      (.ret))
      (.seq (.ops [⟨(some 16), none, .mv (.tmp 3)⟩,
        ⟨(some 17), none, .mv (.tmp 2)⟩,
        ⟨(some 18), none, .call 157 [(.tmp 17)]⟩,
        ⟨(some 19), none, .bin .gtr 32 (.tmp 16) (.tmp 18)⟩,
        ⟨(some 15), none, .mv (.tmp 19)⟩])
      (.cond (.tmp 15)
        (.seq (.ops [⟨(some 8), none, .mv (.const (Go.Value.int Go.IntKind.u64 0))⟩,
          ⟨(some 9), none, .mv (.const (Go.Value.int Go.IntKind.i64 13))⟩])
        (.ret))
        (.skip))))))
  (.seq (.drawn [(0, ⟨(some 20), none, .mv (.tmp 0)⟩),
    (1, ⟨(some 21), none, .mv (.tmp 2)⟩),
    (3, ⟨(some 23), none, .mv (.tmp 1)⟩),
    (6, ⟨(some 26), none, .mv (.tmp 3)⟩),
    (7, ⟨(some 27), none, .mv (.tmp 1)⟩),
    (8, ⟨(some 28), none, .bin .shl 32 (.tmp 26) (.tmp 27)⟩),
    (2, ⟨(some 22), none, .call 157 [(.tmp 21)]⟩),
    (4, ⟨(some 24), none, .bin .shl 32 (.tmp 22) (.tmp 23)⟩),
    (5, ⟨(some 25), none, .bin .andNot 32 (.tmp 20) (.tmp 24)⟩),
    (9, ⟨(some 29), none, .bin .or 32 (.tmp 25) (.tmp 28)⟩),
    (10, ⟨(some 8), none, .mv (.tmp 29)⟩),
    (11, ⟨(some 9), none, .mv (.const (Go.Value.int Go.IntKind.i64 0))⟩)]
    [[], [], [1], [], [2, 3], [0, 4], [], [], [6, 7], [5, 8], [9, 2, 0, 1, 2, 3, 4, 5, 6, 7, 8, 9], [10, 0, 1, 2, 3, 4, 5, 6, 7, 8, 9, 10]]
    [0, 0, 2, 0, 14, 31, 0, 0, 192, 511, 1023, 2047] 4)
  (.ret)))
theorem is_field_Put : FnIs Try.prog F.field_Put X.field_Put 30 [.tmp 8, .tmp 9] := ⟨by kernel_rfl⟩

-- loop (inner ones first): [0, 6, 7, 22, 23, 24]
/-- haycroft/field.Join: function 159 -/
abbrev F.field_Join : FuncId := 159
def X.field_Join : X :=
  .seq (.ops [⟨(some 4), none, .mv (.const (Go.Value.int Go.IntKind.u64 0))⟩,
    ⟨(some 5), none, .mv (.const (Go.Value.int Go.IntKind.i64 0))⟩])
  (.seq (.seq (.ops [⟨(some 12), none, .mv (.tmp 0)⟩,
    ⟨(some 13), none, .lenS (.tmp 12)⟩,
    ⟨(some 14), none, .mv (.tmp 1)⟩,
    ⟨(some 15), none, .lenS (.tmp 14)⟩,
    ⟨(some 16), none, .bin .neq 3 (.tmp 13) (.tmp 15)⟩,
    ⟨(some 17), none, .mv (.tmp 16)⟩,
    ⟨(some 18), (some (17, false)), .mv (.tmp 1)⟩,
    ⟨(some 19), (some (17, false)), .call 174 [(.tmp 18)]⟩,
    ⟨(some 20), (some (17, false)), .un .not (.tmp 19)⟩,
    ⟨(some 21), none, .pick (.tmp 17) (.const (Go.Value.bool true)) (.tmp 20)⟩])
  (.cond (.tmp 21)
    (.seq (.ops [⟨(some 4), none, .mv (.const (Go.Value.int Go.IntKind.u64 0))⟩,
      ⟨(some 5), none, .mv (.const (Go.Value.int Go.IntKind.i64 1))⟩])
    (.ret))
    (.skip)))
  (.seq (.ops [⟨(some 6), none, .mv (.const (Go.Value.int Go.IntKind.u64 0))⟩])
  (.seq (.ops [⟨(some 7), none, .mv (.const (Go.Value.int Go.IntKind.i64 0))⟩])
  (.seq (.seq (.ops [⟨(some 22), none, .mv (.tmp 1)⟩,
    ⟨(some 23), none, .lenS (.tmp 22)⟩,
    ⟨(some 24), none, .mv (.const (Go.Value.int Go.IntKind.i64 0))⟩])
  (.block 0 (.loop (.seq (.ops [⟨(some 25), none, .bin .lss 3 (.tmp 24) (.tmp 23)⟩])
      (.seq (.cond (.tmp 25)
        (.skip)
        (.exit 0))
      (.seq (.block 1 (.seq (.ops [⟨(some 26), none, .mv (.tmp 24)⟩,
          ⟨(some 27), none, .idx (.tmp 22) (.tmp 24) 1⟩,
          ⟨(some 28), none, .ld (.tmp 27) none⟩,
          ⟨(some 8), none, .mv (.tmp 26)⟩,
          ⟨(some 9), none, .mv (.tmp 28)⟩])
        (.seq (.ops [⟨(some 30), none, .mv (.tmp 6)⟩,
          ⟨(some 31), none, .mv (.tmp 7)⟩,
          ⟨(some 32), none, .mv (.tmp 9)⟩,
          ⟨(some 33), none, .mv (.tmp 0)⟩,
          ⟨(some 34), none, .mv (.tmp 8)⟩,
          ⟨(some 35), none, .idx (.tmp 33) (.tmp 34) 1⟩,
          ⟨(some 36), none, .ld (.tmp 35) none⟩,
          ⟨(some 37), none, .call 165 [(.tmp 30), (.tmp 31), (.tmp 32), (.tmp 36)]⟩,
          ⟨(some 29), none, .mv (.tmp 37)⟩,
          ⟨(some 38), none, .ext (.tmp 29) 0⟩,
          ⟨(some 39), none, .ext (.tmp 29) 1⟩,
          ⟨(some 10), none, .mv (.tmp 38)⟩,
          ⟨(some 11), none, .mv (.tmp 39)⟩])
        (.seq (.seq (.ops [⟨(some 40), none, .mv (.tmp 11)⟩,
          ⟨(some 41), none, .bin .neq 25 (.tmp 40) (.const (Go.Value.int Go.IntKind.i64 0))⟩])
        (.cond (.tmp 41)
          (.seq (.ops [⟨(some 42), none, .mv (.tmp 11)⟩,
            ⟨(some 4), none, .mv (.const (Go.Value.int Go.IntKind.u64 0))⟩,
            ⟨(some 5), none, .mv (.tmp 42)⟩])
          (.ret))
          (.skip)))
        (.seq (.ops [⟨(some 43), none, .mv (.tmp 10)⟩,
          ⟨(some 6), none, .mv (.tmp 43)⟩])
        (.ops [⟨(some 44), none, .mv (.tmp 7)⟩,
          ⟨(some 45), none, .mv (.tmp 9)⟩,
          ⟨(some 46), none, .bin .add 3 (.tmp 44) (.tmp 45)⟩,
          ⟨(some 7), none, .mv (.tmp 46)⟩]))))))
      (.ops [⟨(some 47), none, .bin .add 3 (.tmp 24) (.const (Go.Value.int Go.IntKind.i64 1))⟩,
        ⟨(some 24), none, .mv (.tmp 47)⟩])))))))
  (.seq (.ops [⟨(some 48), none, .mv (.tmp 6)⟩,
    ⟨(some 4), none, .mv (.tmp 48)⟩,
    ⟨(some 5), none, .mv (.const (Go.Value.int Go.IntKind.i64 0))⟩])
  (.ret))))))
theorem is_field_Join : FnIs Try.prog F.field_Join X.field_Join 49 [.tmp 4, .tmp 5] := ⟨by kernel_rfl⟩

/-- haycroft/header.Lengths: function 168 -/
abbrev F.header_Lengths : FuncId := 168
def X.header_Lengths : X :=
  .seq (.ops [⟨(some 4), none, .mv (.const (Go.Value.int Go.IntKind.u64 0))⟩,
    ⟨(some 5), none, .mv (.const (Go.Value.int Go.IntKind.i64 0))⟩])
  (.seq (.block 0 (.seq (.ops [⟨(some 7), none, .mv (.tmp 0)⟩,
      ⟨(some 8), none, .bin .lss 3 (.tmp 7) (.const (Go.Value.int Go.IntKind.i64 0))⟩,
      ⟨(some 9), none, .mv (.tmp 8)⟩,
      ⟨(some 10), (some (9, false)), .mv (.tmp 1)⟩,
      ⟨(some 11), (some (9, false)), .bin .lss 3 (.tmp 10) (.const (Go.Value.int Go.IntKind.i64 0))⟩,
      ⟨(some 12), none, .pick (.tmp 9) (.const (Go.Value.bool true)) (.tmp 11)⟩,
      ⟨(some 6), none, .mv (.tmp 12)⟩])
    (.cond (.tmp 6)
      (.seq (.ops [⟨(some 4), none, .mv (.const (Go.Value.int Go.IntKind.u64 0))⟩,
        ⟨(some 5), none, .mv (.const (Go.Value.int Go.IntKind.i64 1))⟩])
      (.ret))
      (.seq (.ops [⟨(some 14), none, .mv (.tmp 0)⟩,
        ⟨(some 15), none, .bin .gtr 3 (.tmp 14) (.const (Go.Value.int Go.IntKind.i64 64))⟩,
        ⟨(some 16), none, .mv (.tmp 15)⟩,
        ⟨(some 17), (some (16, false)), .mv (.tmp 1)⟩,
        ⟨(some 18), (some (16, false)), .bin .gtr 3 (.tmp 17) (.const (Go.Value.int Go.IntKind.i64 128))⟩,
        ⟨(some 19), none, .pick (.tmp 16) (.const (Go.Value.bool true)) (.tmp 18)⟩,
        ⟨(some 13), none, .mv (.tmp 19)⟩])
      (.cond (.tmp 13)
        (.seq (.ops [⟨(some 4), none, .mv (.const (Go.Value.int Go.IntKind.u64 0))⟩,
          ⟨(some 5), none, .mv (.const (Go.Value.int Go.IntKind.i64 5))⟩])
        (.ret))
        (.skip))))))
  (.seq (.ops [⟨(some 20), none, .mv (.tmp 0)⟩,
    ⟨(some 21), none, .conv Go.IntKind.u64 (.tmp 20)⟩,
    ⟨(some 22), none, .mv (.tmp 1)⟩,
    ⟨(some 23), none, .conv Go.IntKind.u64 (.tmp 22)⟩,
    ⟨(some 24), none, .bsl 32 1 3 [(Go.Value.int Go.IntKind.u64 0)] [(0, (.tmp 21)), (1, (.tmp 23)), (2, (.const (Go.Value.int Go.IntKind.u64 44203)))]⟩,
    ⟨(some 25), none, .bsl 3 1 3 [(Go.Value.int Go.IntKind.i64 0)] [(0, (.const (Go.Value.int Go.IntKind.i64 16))), (1, (.const (Go.Value.int Go.IntKind.i64 16))), (2, (.const (Go.Value.int Go.IntKind.i64 16)))]⟩,
    ⟨(some 26), none, .call 159 [(.tmp 24), (.tmp 25)]⟩,
    ⟨(some 27), none, .ext (.tmp 26) 0⟩,
    ⟨(some 28), none, .ext (.tmp 26) 1⟩,
    ⟨(some 4), none, .mv (.tmp 27)⟩,
    ⟨(some 5), none, .mv (.tmp 28)⟩])
  (.ret)))
theorem is_header_Lengths : FnIs Try.prog F.header_Lengths X.header_Lengths 29 [.tmp 4, .tmp 5] := ⟨by kernel_rfl⟩

/-- haycroft/record.words: function 169 -/
abbrev F.record_words : FuncId := 169
def X.record_words : X :=
  .seq (.ops [⟨(some 2), none, .mv (.const (Go.Value.int Go.IntKind.i64 0))⟩])
  (.seq (.ops [⟨(some 3), none, .mv (.tmp 0)⟩,
    ⟨(some 4), none, .bin .add 3 (.tmp 3) (.const (Go.Value.int Go.IntKind.i64 8))⟩,
    ⟨(some 5), none, .bin .sub 3 (.tmp 4) (.const (Go.Value.int Go.IntKind.i64 1))⟩,
    ⟨(some 6), none, .bin .quo 3 (.tmp 5) (.const (Go.Value.int Go.IntKind.i64 8))⟩,
    ⟨(some 2), none, .mv (.tmp 6)⟩])
  (.ret))
theorem is_record_words : FnIs Try.prog F.record_words X.record_words 7 [.tmp 2] := ⟨by kernel_rfl⟩

/-- haycroft/record.Size: function 139 -/
abbrev F.record_Size : FuncId := 139
def X.record_Size : X :=
  .seq (.ops [⟨(some 4), none, .mv (.const (Go.Value.int Go.IntKind.i64 0))⟩])
  (.seq (.seq (.ops [⟨(some 8), none, .mv (.tmp 0)⟩,
    ⟨(some 9), none, .mv (.tmp 1)⟩,
    ⟨(some 10), none, .call 168 [(.tmp 8), (.tmp 9)]⟩,
    ⟨(some 7), none, .mv (.tmp 10)⟩,
    ⟨(some 11), none, .ext (.tmp 7) 0⟩,
    ⟨(some 12), none, .ext (.tmp 7) 1⟩,
    ⟨(some 5), none, .mv (.tmp 11)⟩,
    ⟨(some 6), none, .mv (.tmp 12)⟩])
  (.seq (.ops [⟨(some 13), none, .mv (.tmp 6)⟩,
    ⟨(some 14), none, .bin .neq 25 (.tmp 13) (.const (Go.Value.int Go.IntKind.i64 0))⟩])
  (.cond (.tmp 14)
    (.seq (.ops [⟨(some 4), none, .mv (.const (Go.Value.int Go.IntKind.i64 0))⟩])
    (.ret))
    (.skip))))
  (.seq (.ops [⟨(some 15), none, .mv (.tmp 0)⟩,
    ⟨(some 16), none, .call 169 [(.tmp 15)]⟩,
    ⟨(some 17), none, .bin .add 3 (.const (Go.Value.int Go.IntKind.i64 3)) (.tmp 16)⟩,
    ⟨(some 18), none, .mv (.tmp 1)⟩,
    ⟨(some 19), none, .call 169 [(.tmp 18)]⟩,
    ⟨(some 20), none, .bin .add 3 (.tmp 17) (.tmp 19)⟩,
    ⟨(some 4), none, .mv (.tmp 20)⟩])
  (.ret)))
theorem is_record_Size : FnIs Try.prog F.record_Size X.record_Size 21 [.tmp 4] := ⟨by kernel_rfl⟩

/-- (*haycroft/pages.Buffer).Bits: function 141 -/
abbrev F.pages_Buffer_Bits : FuncId := 141
def X.pages_Buffer_Bits : X :=
  .seq (.ops [⟨(some 2), none, .mv (.const (Go.Value.int Go.IntKind.i64 0))⟩])
  (.seq (.seq (.ops [⟨(some 3), none, .mv (.tmp 0)⟩,
    ⟨(some 4), none, .eq false .ptr (.tmp 3) (.const (Go.Value.pointer none))⟩])
  (.cond (.tmp 4)
    (.seq (.ops [⟨(some 2), none, .mv (.const (Go.Value.int Go.IntKind.i64 0))⟩])
    (.ret))
    (.skip)))
  (.seq (.ops [⟨(some 5), none, .mv (.tmp 0)⟩,
    ⟨(some 6), none, .nilc (.tmp 5)⟩,
    ⟨(some 7), none, .fld (.tmp 6) 0⟩,
    ⟨(some 8), none, .ld (.tmp 7) none⟩,
    ⟨(some 2), none, .mv (.tmp 8)⟩])
  (.ret)))
theorem is_pages_Buffer_Bits : FnIs Try.prog F.pages_Buffer_Bits X.pages_Buffer_Bits 9 [.tmp 2] := ⟨by kernel_rfl⟩

/-- haycroft/record.ValueAt: function 142 -/
abbrev F.record_ValueAt : FuncId := 142
def X.record_ValueAt : X :=
  .seq (.ops [⟨(some 2), none, .mv (.const (Go.Value.int Go.IntKind.i64 0))⟩])
  (.seq (.seq (.ops [⟨(some 6), none, .mv (.tmp 0)⟩,
    ⟨(some 7), none, .call 168 [(.tmp 6), (.const (Go.Value.int Go.IntKind.i64 0))]⟩,
    ⟨(some 5), none, .mv (.tmp 7)⟩,
    ⟨(some 8), none, .ext (.tmp 5) 0⟩,
    ⟨(some 9), none, .ext (.tmp 5) 1⟩,
    ⟨(some 3), none, .mv (.tmp 8)⟩,
    ⟨(some 4), none, .mv (.tmp 9)⟩])
  (.seq (.ops [⟨(some 10), none, .mv (.tmp 4)⟩,
    ⟨(some 11), none, .bin .neq 25 (.tmp 10) (.const (Go.Value.int Go.IntKind.i64 0))⟩])
  (.cond (.tmp 11)
    (.seq (.ops [⟨(some 2), none, .mv (.const (Go.Value.int Go.IntKind.i64 0))⟩])
    (.ret))
    (.skip))))
  (.seq (.ops [⟨(some 12), none, .mv (.tmp 0)⟩,
    ⟨(some 13), none, .call 169 [(.tmp 12)]⟩,
    ⟨(some 14), none, .bin .add 3 (.const (Go.Value.int Go.IntKind.i64 3)) (.tmp 13)⟩,
    ⟨(some 2), none, .mv (.tmp 14)⟩])
  (.ret)))
theorem is_record_ValueAt : FnIs Try.prog F.record_ValueAt X.record_ValueAt 15 [.tmp 2] := ⟨by kernel_rfl⟩

/-- haycroft/inplace.find: function 100 -/
abbrev F.inplace_find : FuncId := 100
def X.inplace_find : X :=
  .seq (.ops [⟨(some 8), none, .new 154 (Go.Value.agg #[(Go.Value.pointer none), (Go.Value.int Go.IntKind.u64 0), (Go.Value.int Go.IntKind.u64 0), (Go.Value.int Go.IntKind.i64 0)])⟩,
    ⟨(some 9), none, .mv (.const (Go.Value.int Go.IntKind.i64 0))⟩])
  (.seq (.ops [⟨(some 12), none, .mv (.tmp 2)⟩,
    ⟨(some 13), none, .mv (.tmp 3)⟩,
    ⟨(some 14), none, .call 139 [(.tmp 12), (.tmp 13)]⟩,
    ⟨(some 10), none, .mv (.tmp 14)⟩])
  (.seq (.block 0 (.seq (.ops [⟨(some 16), none, .mv (.tmp 0)⟩,
      ⟨(some 17), none, .eq false .ptr (.tmp 16) (.const (Go.Value.pointer none))⟩,
      ⟨(some 15), none, .mv (.tmp 17)⟩])
    (.cond (.tmp 15)
      (.seq (.ops [⟨(some 18), none, .bld [(Go.Value.pointer none), (Go.Value.int Go.IntKind.u64 0), (Go.Value.int Go.IntKind.u64 0), (Go.Value.int Go.IntKind.i64 0)] []⟩,
        ⟨none, none, .st (.tmp 8) (.tmp 18) 4⟩,
        ⟨(some 9), none, .mv (.const (Go.Value.int Go.IntKind.i64 2))⟩])
      (.ret))
      (.seq (.ops [⟨(some 20), none, .mv (.tmp 2)⟩,
        ⟨(some 21), none, .bin .lss 3 (.tmp 20) (.const (Go.Value.int Go.IntKind.i64 1))⟩,
        ⟨(some 22), none, .mv (.tmp 21)⟩,
        ⟨(some 23), (some (22, false)), .mv (.tmp 10)⟩,
        ⟨(some 24), (some (22, false)), .bin .eql 3 (.tmp 23) (.const (Go.Value.int Go.IntKind.i64 0))⟩,
        ⟨(some 25), none, .pick (.tmp 22) (.const (Go.Value.bool true)) (.tmp 24)⟩,
        ⟨(some 26), none, .mv (.tmp 25)⟩,
        ⟨(some 27), (some (26, false)), .mv (.tmp 0)⟩,
        ⟨(some 28), (some (26, false)), .call 141 [(.tmp 27)]⟩,
        ⟨(some 29), (some (26, false)), .mv (.tmp 1)⟩,
        ⟨(some 30), (some (26, false)), .mv (.tmp 10)⟩,
        ⟨(some 31), (some (26, false)), .call 140 [(.tmp 28), (.tmp 29), (.tmp 30)]⟩,
        ⟨(some 32), (some (26, false)), .un .not (.tmp 31)⟩,
        ⟨(some 33), none, .pick (.tmp 26) (.const (Go.Value.bool true)) (.tmp 32)⟩,
        ⟨(some 19), none, .mv (.tmp 33)⟩])
      (.cond (.tmp 19)
        (.seq (.ops [⟨(some 34), none, .bld [(Go.Value.pointer none), (Go.Value.int Go.IntKind.u64 0), (Go.Value.int Go.IntKind.u64 0), (Go.Value.int Go.IntKind.i64 0)] []⟩,
          ⟨none, none, .st (.tmp 8) (.tmp 34) 4⟩,
          ⟨(some 9), none, .mv (.const (Go.Value.int Go.IntKind.i64 1))⟩])
        (.ret))
        (.skip))))))
  (.seq (.ops [⟨(some 35), none, .mv (.tmp 2)⟩,
    ⟨(some 36), none, .call 142 [(.tmp 35)]⟩,
    ⟨(some 11), none, .mv (.tmp 36)⟩])
  (.seq (.ops [⟨(some 37), none, .mv (.tmp 0)⟩,
    ⟨(some 38), none, .mv (.tmp 1)⟩,
    ⟨(some 39), none, .bin .add 32 (.tmp 38) (.const (Go.Value.int Go.IntKind.u64 1))⟩,
    ⟨(some 40), none, .mv (.tmp 1)⟩,
    ⟨(some 41), none, .mv (.tmp 11)⟩,
    ⟨(some 42), none, .conv Go.IntKind.u64 (.tmp 41)⟩,
    ⟨(some 43), none, .bin .add 32 (.tmp 40) (.tmp 42)⟩,
    ⟨(some 44), none, .mv (.tmp 10)⟩,
    ⟨(some 45), none, .mv (.tmp 11)⟩,
    ⟨(some 46), none, .bin .sub 3 (.tmp 44) (.tmp 45)⟩,
    ⟨(some 47), none, .bld [(Go.Value.pointer none), (Go.Value.int Go.IntKind.u64 0), (Go.Value.int Go.IntKind.u64 0), (Go.Value.int Go.IntKind.i64 0)] [(0, 1, (.tmp 37)), (1, 1, (.tmp 39)), (2, 1, (.tmp 43)), (3, 1, (.tmp 46))]⟩,
    ⟨none, none, .st (.tmp 8) (.tmp 47) 4⟩,
    ⟨(some 9), none, .mv (.const (Go.Value.int Go.IntKind.i64 0))⟩])
  (.ret)))))
theorem is_inplace_find : FnIs Try.prog F.inplace_find X.inplace_find 48 [.cell 8 154, .tmp 9] := ⟨by kernel_rfl⟩

-- loop (inner ones first): [0, 3, 12, 13]
/-- haycroft/field.Words: function 101 -/
abbrev F.field_Words : FuncId := 101
def X.field_Words : X :=
  .seq (.ops [⟨(some 2), none, .mv (.const (Go.Value.slice none 0 0))⟩])
  (.seq (.ops [⟨(some 5), none, .mv (.tmp 0)⟩,
    ⟨(some 6), none, .lenB (.tmp 5)⟩,
    ⟨(some 7), none, .bin .add 3 (.tmp 6) (.const (Go.Value.int Go.IntKind.i64 8))⟩,
    ⟨(some 8), none, .bin .sub 3 (.tmp 7) (.const (Go.Value.int Go.IntKind.i64 1))⟩,
    ⟨(some 9), none, .bin .quo 3 (.tmp 8) (.const (Go.Value.int Go.IntKind.i64 8))⟩,
    ⟨(some 10), none, .mks 32 1 8 [(Go.Value.int Go.IntKind.u64 0)] (.tmp 9) (.tmp 9)⟩,
    ⟨(some 3), none, .mv (.tmp 10)⟩])
  (.seq (.seq (.ops [⟨(some 11), none, .mv (.tmp 0)⟩,
    ⟨(some 12), none, .lenB (.tmp 11)⟩,
    ⟨(some 13), none, .mv (.const (Go.Value.int Go.IntKind.i64 0))⟩])
  (.block 0 (.loop (.seq (.ops [⟨(some 14), none, .bin .lss 3 (.tmp 13) (.tmp 12)⟩])
      (.seq (.cond (.tmp 14)
        (.skip)
        (.exit 0))
      (.seq (.block 1 (.seq (.ops [⟨(some 15), none, .mv (.tmp 13)⟩,
          ⟨(some 4), none, .mv (.tmp 15)⟩])
        (.drawn [(0, ⟨(some 16), none, .mv (.tmp 3)⟩),
          (1, ⟨(some 17), none, .mv (.tmp 4)⟩),
          (2, ⟨(some 18), none, .bin .quo 3 (.tmp 17) (.const (Go.Value.int Go.IntKind.i64 8))⟩),
          (3, ⟨(some 19), none, .idx (.tmp 16) (.tmp 18) 1⟩),
          (4, ⟨(some 20), none, .ld (.tmp 19) none⟩),
          (5, ⟨(some 21), none, .mv (.tmp 0)⟩),
          (6, ⟨(some 22), none, .mv (.tmp 4)⟩),
          (7, ⟨(some 23), none, .ixs (.tmp 21) (.tmp 22)⟩),
          (8, ⟨(some 24), none, .conv Go.IntKind.u64 (.tmp 23)⟩),
          (9, ⟨(some 25), none, .mv (.tmp 4)⟩),
          (10, ⟨(some 26), none, .bin .rem 3 (.tmp 25) (.const (Go.Value.int Go.IntKind.i64 8))⟩),
          (11, ⟨(some 27), none, .bin .mul 3 (.tmp 26) (.const (Go.Value.int Go.IntKind.i64 8))⟩),
          (12, ⟨(some 28), none, .bin .shl 32 (.tmp 24) (.tmp 27)⟩),
          (13, ⟨(some 29), none, .bin .or 32 (.tmp 20) (.tmp 28)⟩),
          (14, ⟨(some 30), none, .idx (.tmp 16) (.tmp 18) 1⟩),
          (15, ⟨none, none, .st (.tmp 30) (.tmp 29) 1⟩)]
          [[], [], [1], [0, 2], [3], [], [], [5, 6], [7], [], [9], [10], [8, 11], [4, 12], [0, 2, 0, 1, 2, 3, 4, 5, 6, 7, 8, 9, 10, 11, 12, 13], [14, 13, 0, 1, 2, 3, 4, 5, 6, 7, 8, 9, 10, 11, 12, 13]]
          [0, 0, 2, 7, 15, 0, 0, 96, 224, 0, 512, 1536, 4064, 8191, 16383, 32767] 32768)))
      (.ops [⟨(some 31), none, .bin .add 3 (.tmp 13) (.const (Go.Value.int Go.IntKind.i64 1))⟩,
        ⟨(some 13), none, .mv (.tmp 31)⟩])))))))
  (.seq (.ops [⟨(some 32), none, .mv (.tmp 3)⟩,
    ⟨(some 2), none, .mv (.tmp 32)⟩])
  (.ret))))
theorem is_field_Words : FnIs Try.prog F.field_Words X.field_Words 33 [.tmp 2] := ⟨by kernel_rfl⟩

/-- haycroft/inplace.NewWriter: function 42 -/
abbrev F.inplace_NewWriter : FuncId := 42
def X.inplace_NewWriter : X :=
  .seq (.ops [⟨(some 8), none, .mv (.const (Go.Value.pointer none))⟩,
    ⟨(some 9), none, .mv (.const (Go.Value.int Go.IntKind.i64 0))⟩])
  (.seq (.ops [⟨(some 13), none, .mv (.tmp 0)⟩,
    ⟨(some 14), none, .mv (.tmp 1)⟩,
    ⟨(some 15), none, .mv (.tmp 2)⟩,
    ⟨(some 16), none, .mv (.tmp 3)⟩,
    ⟨(some 17), none, .lenB (.tmp 16)⟩,
    ⟨(some 18), none, .call 100 [(.tmp 13), (.tmp 14), (.tmp 15), (.tmp 17)]⟩,
    ⟨(some 12), none, .mv (.tmp 18)⟩,
    ⟨(some 19), none, .ext (.tmp 12) 0⟩,
    ⟨(some 20), none, .ext (.tmp 12) 1⟩,
    ⟨(some 10), none, .new 154 (Go.Value.agg #[(Go.Value.pointer none), (Go.Value.int Go.IntKind.u64 0), (Go.Value.int Go.IntKind.u64 0), (Go.Value.int Go.IntKind.i64 0)])⟩,
    ⟨none, none, .st (.tmp 10) (.tmp 19) 4⟩,
    ⟨(some 11), none, .mv (.tmp 20)⟩])
  (.seq (.seq (.ops [⟨(some 21), none, .mv (.tmp 11)⟩,
    ⟨(some 22), none, .bin .neq 25 (.tmp 21) (.const (Go.Value.int Go.IntKind.i64 0))⟩])
  (.cond (.tmp 22)
    (.seq (.ops [⟨(some 23), none, .mv (.tmp 11)⟩,
      ⟨(some 8), none, .mv (.const (Go.Value.pointer none))⟩,
      ⟨(some 9), none, .mv (.tmp 23)⟩])
    (.ret))
    (.skip)))
  (.seq (.drawn [(0, ⟨(some 24), none, .ld (.tmp 10) (some 4)⟩),
    (1, ⟨(some 25), none, .mv (.tmp 3)⟩),
    (2, ⟨(some 26), none, .call 101 [(.tmp 25)]⟩),
    (3, ⟨(some 27), none, .bld [(Go.Value.pointer none), (Go.Value.int Go.IntKind.u64 0), (Go.Value.int Go.IntKind.u64 0), (Go.Value.int Go.IntKind.i64 0), (Go.Value.int Go.IntKind.i64 0), (Go.Value.bool false), (Go.Value.int Go.IntKind.u64 0), (Go.Value.slice none 0 0), (Go.Value.int Go.IntKind.i64 0), (Go.Value.int Go.IntKind.u64 0)] [(0, 4, (.tmp 24)), (7, 1, (.tmp 26))]⟩),
    (4, ⟨(some 28), none, .box 159 (.tmp 27)⟩),
    (5, ⟨(some 8), none, .mv (.tmp 28)⟩),
    (6, ⟨(some 9), none, .mv (.const (Go.Value.int Go.IntKind.i64 0))⟩)]
    [[], [], [1], [0, 2], [3], [4, 2, 0, 1, 2, 3, 4], [5, 0, 1, 2, 3, 4, 5]]
    [0, 0, 2, 7, 15, 31, 63] 20)
  (.ret))))
theorem is_inplace_NewWriter : FnIs Try.prog F.inplace_NewWriter X.inplace_NewWriter 29 [.tmp 8, .tmp 9] := ⟨by kernel_rfl⟩

/-- haycroft/inplace.NewAdder: function 44 -/
abbrev F.inplace_NewAdder : FuncId := 44
def X.inplace_NewAdder : X :=
  .seq (.ops [⟨(some 8), none, .mv (.const (Go.Value.pointer none))⟩,
    ⟨(some 9), none, .mv (.const (Go.Value.int Go.IntKind.i64 0))⟩])
  (.seq (.ops [⟨(some 13), none, .mv (.tmp 0)⟩,
    ⟨(some 14), none, .mv (.tmp 1)⟩,
    ⟨(some 15), none, .mv (.tmp 2)⟩,
    ⟨(some 16), none, .call 102 [(.const (Go.Value.int Go.IntKind.u64 0))]⟩,
    ⟨(some 17), none, .call 42 [(.tmp 13), (.tmp 14), (.tmp 15), (.tmp 16)]⟩,
    ⟨(some 12), none, .mv (.tmp 17)⟩,
    ⟨(some 18), none, .ext (.tmp 12) 0⟩,
    ⟨(some 19), none, .ext (.tmp 12) 1⟩,
    ⟨(some 10), none, .mv (.tmp 18)⟩,
    ⟨(some 11), none, .mv (.tmp 19)⟩])
  (.seq (.seq (.ops [⟨(some 20), none, .mv (.tmp 11)⟩,
    ⟨(some 21), none, .bin .neq 25 (.tmp 20) (.const (Go.Value.int Go.IntKind.i64 0))⟩])
  (.cond (.tmp 21)
    (.seq (.ops [⟨(some 22), none, .mv (.tmp 11)⟩,
      ⟨(some 8), none, .mv (.const (Go.Value.pointer none))⟩,
      ⟨(some 9), none, .mv (.tmp 22)⟩])
    (.ret))
    (.skip)))
  (.seq (.ops [⟨(some 23), none, .mv (.tmp 10)⟩,
    ⟨(some 24), none, .mv (.tmp 10)⟩,
    ⟨(some 25), none, .mv (.tmp 3)⟩,
    ⟨(some 26), none, .nilc (.tmp 23)⟩,
    ⟨(some 27), none, .fld (.tmp 26) 5⟩,
    ⟨none, none, .st (.tmp 27) (.const (Go.Value.bool true)) 1⟩,
    ⟨(some 28), none, .nilc (.tmp 24)⟩,
    ⟨(some 29), none, .fld (.tmp 28) 6⟩,
    ⟨none, none, .st (.tmp 29) (.tmp 25) 1⟩])
  (.seq (.ops [⟨(some 30), none, .mv (.tmp 10)⟩,
    ⟨(some 8), none, .mv (.tmp 30)⟩,
    ⟨(some 9), none, .mv (.const (Go.Value.int Go.IntKind.i64 0))⟩])
  (.ret)))))
theorem is_inplace_NewAdder : FnIs Try.prog F.inplace_NewAdder X.inplace_NewAdder 31 [.tmp 8, .tmp 9] := ⟨by kernel_rfl⟩

/-- (*haycroft/pages.Buffer).Load: function 58 -/
abbrev F.pages_Buffer_Load : FuncId := 58
def X.pages_Buffer_Load : X :=
  .seq (.ops [⟨(some 4), none, .mv (.const (Go.Value.int Go.IntKind.u64 0))⟩,
    ⟨(some 5), none, .mv (.const (Go.Value.int Go.IntKind.i64 0))⟩])
  (.seq (.ops [⟨(some 9), none, .mv (.tmp 0)⟩,
    ⟨(some 10), none, .mv (.tmp 1)⟩,
    ⟨(some 11), none, .call 117 [(.tmp 9), (.tmp 10)]⟩,
    ⟨(some 8), none, .mv (.tmp 11)⟩,
    ⟨(some 12), none, .ext (.tmp 8) 0⟩,
    ⟨(some 13), none, .ext (.tmp 8) 1⟩,
    ⟨(some 6), none, .mv (.tmp 12)⟩,
    ⟨(some 7), none, .mv (.tmp 13)⟩])
  (.seq (.seq (.ops [⟨(some 14), none, .mv (.tmp 7)⟩,
    ⟨(some 15), none, .bin .neq 25 (.tmp 14) (.const (Go.Value.int Go.IntKind.i64 0))⟩])
  (.cond (.tmp 15)
    (.seq (.ops [⟨(some 16), none, .mv (.tmp 7)⟩,
      ⟨(some 4), none, .mv (.const (Go.Value.int Go.IntKind.u64 0))⟩,
      ⟨(some 5), none, .mv (.tmp 16)⟩])
    (.ret))
    (.skip)))
  (.seq (.ops [⟨(some 17), none, .mv (.tmp 0)⟩,
    ⟨(some 18), none, .nilc (.tmp 17)⟩,
    ⟨(some 19), none, .fld (.tmp 18) 1⟩,
    ⟨(some 20), none, .ld (.tmp 19) none⟩,
    ⟨(some 21), none, .mv (.tmp 6)⟩,
    ⟨(some 22), none, .call 63 [(.tmp 20), (.tmp 21)]⟩,
    ⟨(some 4), none, .mv (.tmp 22)⟩,
    ⟨(some 5), none, .mv (.const (Go.Value.int Go.IntKind.i64 0))⟩])
  (.ret))))
theorem is_pages_Buffer_Load : FnIs Try.prog F.pages_Buffer_Load X.pages_Buffer_Load 23 [.tmp 4, .tmp 5] := ⟨by kernel_rfl⟩

/-- haycroft/header.lock: function 171 -/
abbrev F.header_lock : FuncId := 171
def X.header_lock : X :=
  .seq (.ops [⟨(some 2), none, .mv (.const (Go.Value.bool false))⟩])
  (.seq (.ops [⟨(some 3), none, .mv (.tmp 0)⟩,
    ⟨(some 4), none, .call 120 [(.tmp 3), (.const (Go.Value.int Go.IntKind.i64 32)), (.const (Go.Value.int Go.IntKind.i64 31))]⟩,
    ⟨(some 5), none, .bin .eql 32 (.tmp 4) (.const (Go.Value.int Go.IntKind.u64 0))⟩,
    ⟨(some 2), none, .mv (.tmp 5)⟩])
  (.ret))
theorem is_header_lock : FnIs Try.prog F.header_lock X.header_lock 6 [.tmp 2] := ⟨by kernel_rfl⟩

/-- haycroft/field.Flag: function 121 -/
abbrev F.field_Flag : FuncId := 121
def X.field_Flag : X :=
  .seq (.ops [⟨(some 4), none, .mv (.const (Go.Value.bool false))⟩])
  (.seq (.ops [⟨(some 5), none, .mv (.tmp 0)⟩,
    ⟨(some 6), none, .mv (.tmp 1)⟩,
    ⟨(some 7), none, .call 120 [(.tmp 5), (.tmp 6), (.const (Go.Value.int Go.IntKind.i64 1))]⟩,
    ⟨(some 8), none, .bin .eql 32 (.tmp 7) (.const (Go.Value.int Go.IntKind.u64 1))⟩,
    ⟨(some 4), none, .mv (.tmp 8)⟩])
  (.ret))
theorem is_field_Flag : FnIs Try.prog F.field_Flag X.field_Flag 9 [.tmp 4] := ⟨by kernel_rfl⟩

/-- haycroft/header.Locked: function 149 -/
abbrev F.header_Locked : FuncId := 149
def X.header_Locked : X :=
  .seq (.ops [⟨(some 2), none, .mv (.const (Go.Value.bool false))⟩])
  (.seq (.ops [⟨(some 3), none, .mv (.tmp 0)⟩,
    ⟨(some 4), none, .call 121 [(.tmp 3), (.const (Go.Value.int Go.IntKind.i64 63))]⟩,
    ⟨(some 2), none, .mv (.tmp 4)⟩])
  (.ret))
theorem is_header_Locked : FnIs Try.prog F.header_Locked X.header_Locked 5 [.tmp 2] := ⟨by kernel_rfl⟩

/-- haycroft/field.Set: function 160 -/
abbrev F.field_Set : FuncId := 160
def X.field_Set : X :=
  .seq (.ops [⟨(some 6), none, .mv (.const (Go.Value.int Go.IntKind.u64 0))⟩])
  (.seq (.ops [⟨(some 7), none, .mv (.const (Go.Value.int Go.IntKind.u64 0))⟩])
  (.seq (.seq (.ops [⟨(some 10), none, .mv (.tmp 2)⟩])
  (.cond (.tmp 10)
    (.ops [⟨(some 7), none, .mv (.const (Go.Value.int Go.IntKind.u64 1))⟩])
    (.skip)))
  (.seq (.ops [⟨(some 12), none, .mv (.tmp 0)⟩,
    ⟨(some 13), none, .mv (.tmp 1)⟩,
    ⟨(some 14), none, .mv (.tmp 7)⟩,
    ⟨(some 15), none, .call 165 [(.tmp 12), (.tmp 13), (.const (Go.Value.int Go.IntKind.i64 1)), (.tmp 14)]⟩,
    ⟨(some 11), none, .mv (.tmp 15)⟩,
    ⟨(some 16), none, .ext (.tmp 11) 0⟩,
    ⟨(some 17), none, .ext (.tmp 11) 1⟩,
    ⟨(some 8), none, .mv (.tmp 16)⟩,
    ⟨(some 9), none, .mv (.tmp 17)⟩])
  (.seq (.seq (.ops [⟨(some 18), none, .mv (.tmp 9)⟩,
    ⟨(some 19), none, .bin .neq 25 (.tmp 18) (.const (Go.Value.int Go.IntKind.i64 0))⟩])
  (.cond (.tmp 19)
    (.seq (.ops [⟨(some 20), none, .mv (.tmp 0)⟩,
      ⟨(some 6), none, .mv (.tmp 20)⟩])
    (.ret))
    (.skip)))
  (.seq (.ops [⟨(some 21), none, .mv (.tmp 8)⟩,
    ⟨(some 6), none, .mv (.tmp 21)⟩])
  (.ret))))))
theorem is_field_Set : FnIs Try.prog F.field_Set X.field_Set 22 [.tmp 6] := ⟨by kernel_rfl⟩

/-- haycroft/header.Lock: function 144 -/
abbrev F.header_Lock : FuncId := 144
def X.header_Lock : X :=
  .seq (.ops [⟨(some 2), none, .mv (.const (Go.Value.int Go.IntKind.u64 0))⟩,
    ⟨(some 3), none, .mv (.const (Go.Value.int Go.IntKind.i64 0))⟩])
  (.seq (.block 0 (.seq (.ops [⟨(some 5), none, .mv (.tmp 0)⟩,
      ⟨(some 6), none, .call 171 [(.tmp 5)]⟩,
      ⟨(some 7), none, .un .not (.tmp 6)⟩,
      ⟨(some 4), none, .mv (.tmp 7)⟩])
    (.cond (.tmp 4)
      (.seq (.ops [⟨(some 2), none, .mv (.const (Go.Value.int Go.IntKind.u64 0))⟩,
        ⟨(some 3), none, .mv (.const (Go.Value.int Go.IntKind.i64 4))⟩])
      (.ret))
      (.seq (.ops [⟨(some 9), none, .mv (.tmp 0)⟩,
        ⟨(some 10), none, .call 149 [(.tmp 9)]⟩,
        ⟨(some 8), none, .mv (.tmp 10)⟩])
      (.cond (.tmp 8)
        (.seq (.ops [⟨(some 2), none, .mv (.const (Go.Value.int Go.IntKind.u64 0))⟩,
          ⟨(some 3), none, .mv (.const (Go.Value.int Go.IntKind.i64 10))⟩])
        (.ret))
        (.skip))))))
  (.seq (.ops [⟨(some 11), none, .mv (.tmp 0)⟩,
    ⟨(some 12), none, .call 160 [(.tmp 11), (.const (Go.Value.int Go.IntKind.i64 63)), (.const (Go.Value.bool true))]⟩,
    ⟨(some 2), none, .mv (.tmp 12)⟩,
    ⟨(some 3), none, .mv (.const (Go.Value.int Go.IntKind.i64 0))⟩])
  (.ret)))
theorem is_header_Lock : FnIs Try.prog F.header_Lock X.header_Lock 13 [.tmp 2, .tmp 3] := ⟨by kernel_rfl⟩

/-- (*haycroft/pages.Buffer).CAS: function 145 -/
abbrev F.pages_Buffer_CAS : FuncId := 145
def X.pages_Buffer_CAS : X :=
  .seq (.ops [⟨(some 8), none, .mv (.const (Go.Value.bool false))⟩,
    ⟨(some 9), none, .mv (.const (Go.Value.int Go.IntKind.i64 0))⟩])
  (.seq (.ops [⟨(some 13), none, .mv (.tmp 0)⟩,
    ⟨(some 14), none, .mv (.tmp 1)⟩,
    ⟨(some 15), none, .call 117 [(.tmp 13), (.tmp 14)]⟩,
    ⟨(some 12), none, .mv (.tmp 15)⟩,
    ⟨(some 16), none, .ext (.tmp 12) 0⟩,
    ⟨(some 17), none, .ext (.tmp 12) 1⟩,
    ⟨(some 10), none, .mv (.tmp 16)⟩,
    ⟨(some 11), none, .mv (.tmp 17)⟩])
  (.seq (.seq (.ops [⟨(some 18), none, .mv (.tmp 11)⟩,
    ⟨(some 19), none, .bin .neq 25 (.tmp 18) (.const (Go.Value.int Go.IntKind.i64 0))⟩])
  (.cond (.tmp 19)
    (.seq (.ops [⟨(some 20), none, .mv (.tmp 11)⟩,
      ⟨(some 8), none, .mv (.const (Go.Value.bool false))⟩,
      ⟨(some 9), none, .mv (.tmp 20)⟩])
    (.ret))
    (.skip)))
  (.seq (.ops [⟨(some 21), none, .mv (.tmp 0)⟩,
    ⟨(some 22), none, .nilc (.tmp 21)⟩,
    ⟨(some 23), none, .fld (.tmp 22) 1⟩,
    ⟨(some 24), none, .ld (.tmp 23) none⟩,
    ⟨(some 25), none, .mv (.tmp 10)⟩,
    ⟨(some 26), none, .mv (.tmp 2)⟩,
    ⟨(some 27), none, .mv (.tmp 3)⟩,
    ⟨(some 28), none, .call 83 [(.tmp 24), (.tmp 25), (.tmp 26), (.tmp 27)]⟩,
    ⟨(some 29), none, .ext (.tmp 28) 0⟩,
    ⟨(some 30), none, .ext (.tmp 28) 1⟩,
    ⟨(some 8), none, .mv (.tmp 29)⟩,
    ⟨(some 9), none, .mv (.tmp 30)⟩])
  (.ret))))
theorem is_pages_Buffer_CAS : FnIs Try.prog F.pages_Buffer_CAS X.pages_Buffer_CAS 31 [.tmp 8, .tmp 9] := ⟨by kernel_rfl⟩

/-- (*haycroft/inplace.Writer).goes: function 146 -/
abbrev F.inplace_Writer_goes : FuncId := 146
def X.inplace_Writer_goes : X :=
  .seq (.seq (.ops [⟨(some 4), none, .mv (.tmp 1)⟩,
    ⟨(some 5), none, .bin .eql 3 (.tmp 4) (.const (Go.Value.int Go.IntKind.i64 1))⟩,
    ⟨(some 6), none, .mv (.tmp 5)⟩,
    ⟨(some 7), (some (6, true)), .mv (.tmp 0)⟩,
    ⟨(some 8), (some (6, true)), .nilc (.tmp 7)⟩,
    ⟨(some 9), (some (6, true)), .fld (.tmp 8) 5⟩,
    ⟨(some 10), (some (6, true)), .ld (.tmp 9) none⟩,
    ⟨(some 11), (some (6, true)), .un .not (.tmp 10)⟩,
    ⟨(some 12), none, .pick (.tmp 6) (.tmp 11) (.const (Go.Value.bool false))⟩])
  (.cond (.tmp 12)
    (.ops [⟨(some 1), none, .mv (.const (Go.Value.int Go.IntKind.i64 2))⟩])
    (.skip)))
  (.seq (.seq (.drawn [(0, ⟨(some 13), none, .mv (.tmp 1)⟩),
    (1, ⟨(some 14), none, .bin .eql 3 (.tmp 13) (.const (Go.Value.int Go.IntKind.i64 2))⟩),
    (2, ⟨(some 15), none, .mv (.tmp 14)⟩),
    (3, ⟨(some 16), (some (15, true)), .mv (.tmp 0)⟩),
    (4, ⟨(some 17), (some (15, true)), .nilc (.tmp 16)⟩),
    (5, ⟨(some 18), (some (15, true)), .fld (.tmp 17) 8⟩),
    (6, ⟨(some 19), (some (15, true)), .ld (.tmp 18) none⟩),
    (7, ⟨(some 20), (some (15, true)), .mv (.tmp 0)⟩),
    (8, ⟨(some 21), (some (15, true)), .nilc (.tmp 20)⟩),
    (9, ⟨(some 22), (some (15, true)), .fld (.tmp 21) 0⟩),
    (10, ⟨(some 23), (some (15, true)), .fld (.tmp 22) 3⟩),
    (11, ⟨(some 24), (some (15, true)), .ld (.tmp 23) none⟩),
    (12, ⟨(some 25), (some (15, true)), .bin .geq 3 (.tmp 19) (.tmp 24)⟩),
    (13, ⟨(some 26), none, .pick (.tmp 15) (.tmp 25) (.const (Go.Value.bool false))⟩)]
    [[], [0], [1], [2], [3, 2], [4, 2], [5, 2], [2], [7, 2], [8, 2], [9, 2], [10, 2], [6, 11, 2], [2, 12]]
    [0, 1, 3, 7, 15, 31, 63, 7, 135, 391, 903, 1927, 4095, 8191] 0)
  (.cond (.tmp 26)
    (.ops [⟨(some 1), none, .mv (.const (Go.Value.int Go.IntKind.i64 3))⟩])
    (.skip)))
  (.ops [⟨(some 27), none, .mv (.tmp 0)⟩,
    ⟨(some 28), none, .mv (.tmp 1)⟩,
    ⟨(some 29), none, .nilc (.tmp 27)⟩,
    ⟨(some 30), none, .fld (.tmp 29) 4⟩,
    ⟨none, none, .st (.tmp 30) (.tmp 28) 1⟩]))
theorem is_inplace_Writer_goes : FnIs Try.prog F.inplace_Writer_goes X.inplace_Writer_goes 31 [] := ⟨by kernel_rfl⟩

/-- (*haycroft/inplace.Writer).take: function 104 -/
abbrev F.inplace_Writer_take : FuncId := 104
def X.inplace_Writer_take : X :=
  .seq (.ops [⟨(some 2), none, .mv (.const (Go.Value.int Go.IntKind.i64 0))⟩,
    ⟨(some 3), none, .mv (.const (Go.Value.int Go.IntKind.i64 0))⟩])
  (.seq (.drawn [(0, ⟨(some 9), none, .mv (.tmp 0)⟩),
    (1, ⟨(some 10), none, .nilc (.tmp 9)⟩),
    (2, ⟨(some 11), none, .fld (.tmp 10) 0⟩),
    (3, ⟨(some 12), none, .fld (.tmp 11) 0⟩),
    (4, ⟨(some 13), none, .ld (.tmp 12) none⟩),
    (5, ⟨(some 14), none, .mv (.tmp 0)⟩),
    (6, ⟨(some 15), none, .nilc (.tmp 14)⟩),
    (7, ⟨(some 16), none, .fld (.tmp 15) 0⟩),
    (8, ⟨(some 17), none, .fld (.tmp 16) 1⟩),
    (9, ⟨(some 18), none, .ld (.tmp 17) none⟩),
    (10, ⟨(some 19), none, .call 58 [(.tmp 13), (.tmp 18)]⟩),
    (11, ⟨(some 8), none, .mv (.tmp 19)⟩),
    (12, ⟨(some 20), none, .ext (.tmp 8) 0⟩),
    (13, ⟨(some 21), none, .ext (.tmp 8) 1⟩),
    (14, ⟨(some 4), none, .mv (.tmp 20)⟩),
    (15, ⟨(some 5), none, .mv (.tmp 21)⟩)]
    [[], [0], [1], [2], [3], [], [5], [6], [7], [8], [4, 9], [10], [11], [11], [12, 10, 0, 1, 2, 3, 4, 5, 6, 7, 8, 9, 10, 11, 12], [13, 14, 0, 1, 2, 3, 4, 5, 6, 7, 8, 9, 10, 11, 12, 13, 14]]
    [0, 1, 3, 7, 15, 0, 32, 96, 224, 480, 1023, 2047, 4095, 4095, 8191, 32767] 1024)
  (.seq (.seq (.ops [⟨(some 22), none, .mv (.tmp 5)⟩,
    ⟨(some 23), none, .bin .neq 25 (.tmp 22) (.const (Go.Value.int Go.IntKind.i64 0))⟩])
  (.cond (.tmp 23)
    (.seq (.ops [⟨(some 24), none, .mv (.tmp 5)⟩,
      ⟨(some 2), none, .mv (.const (Go.Value.int Go.IntKind.i64 0))⟩,
      ⟨(some 3), none, .mv (.tmp 24)⟩])
    (.ret))
    (.skip)))
  (.seq (.ops [⟨(some 26), none, .mv (.tmp 4)⟩,
    ⟨(some 27), none, .call 144 [(.tmp 26)]⟩,
    ⟨(some 25), none, .mv (.tmp 27)⟩,
    ⟨(some 28), none, .ext (.tmp 25) 0⟩,
    ⟨(some 29), none, .ext (.tmp 25) 1⟩,
    ⟨(some 6), none, .mv (.tmp 28)⟩,
    ⟨(some 5), none, .mv (.tmp 29)⟩])
  (.seq (.seq (.ops [⟨(some 30), none, .mv (.tmp 5)⟩,
    ⟨(some 31), none, .bin .eql 25 (.tmp 30) (.const (Go.Value.int Go.IntKind.i64 10))⟩])
  (.cond (.tmp 31)
    (.seq (.ops [⟨(some 2), none, .mv (.const (Go.Value.int Go.IntKind.i64 3))⟩,
      ⟨(some 3), none, .mv (.const (Go.Value.int Go.IntKind.i64 0))⟩])
    (.ret))
    (.skip)))
  (.seq (.seq (.ops [⟨(some 32), none, .mv (.tmp 5)⟩,
    ⟨(some 33), none, .bin .neq 25 (.tmp 32) (.const (Go.Value.int Go.IntKind.i64 0))⟩])
  (.cond (.tmp 33)
    (.seq (.ops [⟨(some 34), none, .mv (.tmp 5)⟩,
      ⟨(some 2), none, .mv (.const (Go.Value.int Go.IntKind.i64 0))⟩,
      ⟨(some 3), none, .mv (.tmp 34)⟩])
    (.ret))
    (.skip)))
  (.seq (.drawn [(0, ⟨(some 36), none, .mv (.tmp 0)⟩),
    (1, ⟨(some 37), none, .nilc (.tmp 36)⟩),
    (2, ⟨(some 38), none, .fld (.tmp 37) 0⟩),
    (3, ⟨(some 39), none, .fld (.tmp 38) 0⟩),
    (4, ⟨(some 40), none, .ld (.tmp 39) none⟩),
    (5, ⟨(some 41), none, .mv (.tmp 0)⟩),
    (6, ⟨(some 42), none, .nilc (.tmp 41)⟩),
    (7, ⟨(some 43), none, .fld (.tmp 42) 0⟩),
    (8, ⟨(some 44), none, .fld (.tmp 43) 1⟩),
    (9, ⟨(some 45), none, .ld (.tmp 44) none⟩),
    (10, ⟨(some 46), none, .mv (.tmp 4)⟩),
    (11, ⟨(some 47), none, .mv (.tmp 6)⟩),
    (12, ⟨(some 48), none, .call 145 [(.tmp 40), (.tmp 45), (.tmp 46), (.tmp 47)]⟩),
    (13, ⟨(some 35), none, .mv (.tmp 48)⟩),
    (14, ⟨(some 49), none, .ext (.tmp 35) 0⟩),
    (15, ⟨(some 50), none, .ext (.tmp 35) 1⟩),
    (16, ⟨(some 7), none, .mv (.tmp 49)⟩),
    (17, ⟨(some 5), none, .mv (.tmp 50)⟩)]
    [[], [0], [1], [2], [3], [], [5], [6], [7], [8], [], [], [4, 9, 10, 11], [12], [13], [13], [14, 12, 0, 1, 2, 3, 4, 5, 6, 7, 8, 9, 10, 11, 12, 13, 14], [15, 16, 0, 1, 2, 3, 4, 5, 6, 7, 8, 9, 10, 11, 12, 13, 14, 15, 16]]
    [0, 1, 3, 7, 15, 0, 32, 96, 224, 480, 0, 0, 4095, 8191, 16383, 16383, 32767, 131071] 4096)
  (.seq (.block 0 (.seq (.ops [⟨(some 52), none, .mv (.tmp 5)⟩,
      ⟨(some 53), none, .bin .neq 25 (.tmp 52) (.const (Go.Value.int Go.IntKind.i64 0))⟩,
      ⟨(some 51), none, .mv (.tmp 53)⟩])
    (.cond (.tmp 51)
      (.seq (.ops [⟨(some 54), none, .mv (.tmp 5)⟩,
        ⟨(some 2), none, .mv (.const (Go.Value.int Go.IntKind.i64 0))⟩,
        ⟨(some 3), none, .mv (.tmp 54)⟩])
      (.ret))
      (.seq (.ops [⟨(some 56), none, .mv (.tmp 7)⟩,
        ⟨(some 57), none, .un .not (.tmp 56)⟩,
        ⟨(some 55), none, .mv (.tmp 57)⟩])
      (.cond (.tmp 55)
        (.seq (.ops [⟨(some 2), none, .mv (.const (Go.Value.int Go.IntKind.i64 3))⟩,
          ⟨(some 3), none, .mv (.const (Go.Value.int Go.IntKind.i64 0))⟩])
        (.ret))
        (.skip))))))
  (.seq (.ops [⟨(some 58), none, .mv (.tmp 0)⟩,
    ⟨(some 59), none, .mv (.tmp 6)⟩,
    ⟨(some 60), none, .nilc (.tmp 58)⟩,
    ⟨(some 61), none, .fld (.tmp 60) 9⟩,
    ⟨none, none, .st (.tmp 61) (.tmp 59) 1⟩])
  (.seq (.ops [⟨(some 62), none, .mv (.tmp 0)⟩,
    ⟨(some 63), none, .call 146 [(.tmp 62), (.const (Go.Value.int Go.IntKind.i64 1))]⟩])
  (.seq (.ops [⟨(some 2), none, .mv (.const (Go.Value.int Go.IntKind.i64 1))⟩,
    ⟨(some 3), none, .mv (.const (Go.Value.int Go.IntKind.i64 0))⟩])
  (.ret)))))))))))
theorem is_inplace_Writer_take : FnIs Try.prog F.inplace_Writer_take X.inplace_Writer_take 64 [.tmp 2, .tmp 3] := ⟨by kernel_rfl⟩

/-- (*haycroft/inplace.Writer).read: function 105 -/
abbrev F.inplace_Writer_read : FuncId := 105
def X.inplace_Writer_read : X :=
  .seq (.ops [⟨(some 2), none, .mv (.const (Go.Value.int Go.IntKind.i64 0))⟩,
    ⟨(some 3), none, .mv (.const (Go.Value.int Go.IntKind.i64 0))⟩])
  (.seq (.drawn [(0, ⟨(some 7), none, .mv (.tmp 0)⟩),
    (1, ⟨(some 8), none, .nilc (.tmp 7)⟩),
    (2, ⟨(some 9), none, .fld (.tmp 8) 0⟩),
    (3, ⟨(some 10), none, .fld (.tmp 9) 0⟩),
    (4, ⟨(some 11), none, .ld (.tmp 10) none⟩),
    (5, ⟨(some 12), none, .mv (.tmp 0)⟩),
    (6, ⟨(some 13), none, .nilc (.tmp 12)⟩),
    (7, ⟨(some 14), none, .fld (.tmp 13) 0⟩),
    (8, ⟨(some 15), none, .fld (.tmp 14) 2⟩),
    (9, ⟨(some 16), none, .ld (.tmp 15) none⟩),
    (10, ⟨(some 17), none, .call 58 [(.tmp 11), (.tmp 16)]⟩),
    (11, ⟨(some 6), none, .mv (.tmp 17)⟩),
    (12, ⟨(some 18), none, .ext (.tmp 6) 0⟩),
    (13, ⟨(some 19), none, .ext (.tmp 6) 1⟩),
    (14, ⟨(some 4), none, .mv (.tmp 18)⟩),
    (15, ⟨(some 5), none, .mv (.tmp 19)⟩)]
    [[], [0], [1], [2], [3], [], [5], [6], [7], [8], [4, 9], [10], [11], [11], [12, 10, 0, 1, 2, 3, 4, 5, 6, 7, 8, 9, 10, 11, 12], [13, 14, 0, 1, 2, 3, 4, 5, 6, 7, 8, 9, 10, 11, 12, 13, 14]]
    [0, 1, 3, 7, 15, 0, 32, 96, 224, 480, 1023, 2047, 4095, 4095, 8191, 32767] 1024)
  (.seq (.seq (.ops [⟨(some 20), none, .mv (.tmp 5)⟩,
    ⟨(some 21), none, .bin .neq 25 (.tmp 20) (.const (Go.Value.int Go.IntKind.i64 0))⟩])
  (.cond (.tmp 21)
    (.seq (.ops [⟨(some 22), none, .mv (.tmp 5)⟩,
      ⟨(some 2), none, .mv (.const (Go.Value.int Go.IntKind.i64 0))⟩,
      ⟨(some 3), none, .mv (.tmp 22)⟩])
    (.ret))
    (.skip)))
  (.seq (.drawn [(0, ⟨(some 23), none, .mv (.tmp 0)⟩),
    (1, ⟨(some 24), none, .nilc (.tmp 23)⟩),
    (2, ⟨(some 25), none, .fld (.tmp 24) 7⟩),
    (3, ⟨(some 26), none, .ld (.tmp 25) none⟩),
    (4, ⟨(some 27), none, .mv (.tmp 4)⟩),
    (5, ⟨(some 28), none, .mv (.tmp 0)⟩),
    (6, ⟨(some 29), none, .nilc (.tmp 28)⟩),
    (7, ⟨(some 30), none, .fld (.tmp 29) 6⟩),
    (8, ⟨(some 31), none, .ld (.tmp 30) none⟩),
    (9, ⟨(some 32), none, .bin .add 32 (.tmp 27) (.tmp 31)⟩),
    (10, ⟨(some 33), none, .idx (.tmp 26) (.const (Go.Value.int Go.IntKind.i64 0)) 1⟩),
    (11, ⟨none, none, .st (.tmp 33) (.tmp 32) 1⟩)]
    [[], [0], [1], [2], [], [], [5], [6], [7], [4, 8], [3, 0, 1, 2, 3, 4, 5, 6, 7, 8, 9], [10, 9, 0, 1, 2, 3, 4, 5, 6, 7, 8, 9]]
    [0, 1, 3, 7, 0, 0, 32, 96, 224, 496, 1023, 2047] 2048)
  (.seq (.ops [⟨(some 34), none, .mv (.tmp 0)⟩,
    ⟨(some 35), none, .call 146 [(.tmp 34), (.const (Go.Value.int Go.IntKind.i64 2))]⟩])
  (.seq (.ops [⟨(some 2), none, .mv (.const (Go.Value.int Go.IntKind.i64 1))⟩,
    ⟨(some 3), none, .mv (.const (Go.Value.int Go.IntKind.i64 0))⟩])
  (.ret))))))
theorem is_inplace_Writer_read : FnIs Try.prog F.inplace_Writer_read X.inplace_Writer_read 36 [.tmp 2, .tmp 3] := ⟨by kernel_rfl⟩

/-- (*haycroft/cell.Row).Store: function 67 -/
abbrev F.cell_Row_Store : FuncId := 67
def X.cell_Row_Store : X :=
  .seq (.ops [⟨(some 6), none, .mv (.const (Go.Value.int Go.IntKind.i64 0))⟩])
  (.seq (.ops [⟨(some 8), none, .mv (.tmp 0)⟩,
    ⟨(some 9), none, .mv (.tmp 1)⟩,
    ⟨(some 10), none, .call 125 [(.tmp 8), (.tmp 9)]⟩,
    ⟨(some 7), none, .mv (.tmp 10)⟩])
  (.seq (.seq (.ops [⟨(some 11), none, .mv (.tmp 7)⟩,
    ⟨(some 12), none, .bin .eql 25 (.tmp 11) (.const (Go.Value.int Go.IntKind.i64 0))⟩])
  (.cond (.tmp 12)
    (.ops [⟨(some 13), none, .mv (.tmp 0)⟩,
      ⟨(some 14), none, .nilc (.tmp 13)⟩,
      ⟨(some 15), none, .fld (.tmp 14) 0⟩,
      ⟨(some 16), none, .ld (.tmp 15) none⟩,
      ⟨(some 17), none, .mv (.tmp 1)⟩,
      ⟨(some 18), none, .idx (.tmp 16) (.tmp 17) 1⟩,
      ⟨(some 19), none, .mv (.tmp 2)⟩,
      ⟨(some 20), none, .call 124 [(.tmp 18), (.tmp 19)]⟩])
    (.skip)))
  (.seq (.ops [⟨(some 21), none, .mv (.tmp 7)⟩,
    ⟨(some 6), none, .mv (.tmp 21)⟩])
  (.ret))))
theorem is_cell_Row_Store : FnIs Try.prog F.cell_Row_Store X.cell_Row_Store 22 [.tmp 6] := ⟨by kernel_rfl⟩

/-- (*haycroft/pages.Buffer).Store: function 147 -/
abbrev F.pages_Buffer_Store : FuncId := 147
def X.pages_Buffer_Store : X :=
  .seq (.ops [⟨(some 6), none, .mv (.const (Go.Value.int Go.IntKind.i64 0))⟩])
  (.seq (.ops [⟨(some 10), none, .mv (.tmp 0)⟩,
    ⟨(some 11), none, .mv (.tmp 1)⟩,
    ⟨(some 12), none, .call 117 [(.tmp 10), (.tmp 11)]⟩,
    ⟨(some 9), none, .mv (.tmp 12)⟩,
    ⟨(some 13), none, .ext (.tmp 9) 0⟩,
    ⟨(some 14), none, .ext (.tmp 9) 1⟩,
    ⟨(some 7), none, .mv (.tmp 13)⟩,
    ⟨(some 8), none, .mv (.tmp 14)⟩])
  (.seq (.seq (.ops [⟨(some 15), none, .mv (.tmp 8)⟩,
    ⟨(some 16), none, .bin .neq 25 (.tmp 15) (.const (Go.Value.int Go.IntKind.i64 0))⟩])
  (.cond (.tmp 16)
    (.seq (.ops [⟨(some 17), none, .mv (.tmp 8)⟩,
      ⟨(some 6), none, .mv (.tmp 17)⟩])
    (.ret))
    (.skip)))
  (.seq (.ops [⟨(some 18), none, .mv (.tmp 0)⟩,
    ⟨(some 19), none, .nilc (.tmp 18)⟩,
    ⟨(some 20), none, .fld (.tmp 19) 1⟩,
    ⟨(some 21), none, .ld (.tmp 20) none⟩,
    ⟨(some 22), none, .mv (.tmp 7)⟩,
    ⟨(some 23), none, .mv (.tmp 2)⟩,
    ⟨(some 24), none, .call 67 [(.tmp 21), (.tmp 22), (.tmp 23)]⟩,
    ⟨(some 6), none, .mv (.tmp 24)⟩])
  (.ret))))
theorem is_pages_Buffer_Store : FnIs Try.prog F.pages_Buffer_Store X.pages_Buffer_Store 25 [.tmp 6] := ⟨by kernel_rfl⟩

/-- (*haycroft/inplace.Writer).write: function 106 -/
abbrev F.inplace_Writer_write : FuncId := 106
def X.inplace_Writer_write : X :=
  .seq (.ops [⟨(some 2), none, .mv (.const (Go.Value.int Go.IntKind.i64 0))⟩,
    ⟨(some 3), none, .mv (.const (Go.Value.int Go.IntKind.i64 0))⟩])
  (.seq (.seq (.drawn [(0, ⟨(some 5), none, .mv (.tmp 0)⟩),
    (1, ⟨(some 6), none, .nilc (.tmp 5)⟩),
    (2, ⟨(some 7), none, .fld (.tmp 6) 0⟩),
    (3, ⟨(some 8), none, .fld (.tmp 7) 0⟩),
    (4, ⟨(some 9), none, .ld (.tmp 8) none⟩),
    (5, ⟨(some 10), none, .mv (.tmp 0)⟩),
    (6, ⟨(some 11), none, .nilc (.tmp 10)⟩),
    (7, ⟨(some 12), none, .fld (.tmp 11) 0⟩),
    (8, ⟨(some 13), none, .fld (.tmp 12) 2⟩),
    (9, ⟨(some 14), none, .ld (.tmp 13) none⟩),
    (10, ⟨(some 15), none, .mv (.tmp 0)⟩),
    (11, ⟨(some 16), none, .nilc (.tmp 15)⟩),
    (12, ⟨(some 17), none, .fld (.tmp 16) 8⟩),
    (13, ⟨(some 18), none, .ld (.tmp 17) none⟩),
    (14, ⟨(some 19), none, .conv Go.IntKind.u64 (.tmp 18)⟩),
    (15, ⟨(some 20), none, .bin .add 32 (.tmp 14) (.tmp 19)⟩),
    (16, ⟨(some 21), none, .mv (.tmp 0)⟩),
    (17, ⟨(some 22), none, .nilc (.tmp 21)⟩),
    (18, ⟨(some 23), none, .fld (.tmp 22) 7⟩),
    (19, ⟨(some 24), none, .ld (.tmp 23) none⟩),
    (20, ⟨(some 25), none, .mv (.tmp 0)⟩),
    (21, ⟨(some 26), none, .nilc (.tmp 25)⟩),
    (22, ⟨(some 27), none, .fld (.tmp 26) 8⟩),
    (23, ⟨(some 28), none, .ld (.tmp 27) none⟩),
    (24, ⟨(some 29), none, .idx (.tmp 24) (.tmp 28) 1⟩),
    (25, ⟨(some 30), none, .ld (.tmp 29) none⟩),
    (26, ⟨(some 31), none, .call 147 [(.tmp 9), (.tmp 20), (.tmp 30)]⟩),
    (27, ⟨(some 4), none, .mv (.tmp 31)⟩)]
    [[], [0], [1], [2], [3], [], [5], [6], [7], [8], [], [10], [11], [12], [13], [9, 14], [], [16], [17], [18], [], [20], [21], [22], [19, 23], [24], [4, 15, 25], [26, 26, 0, 1, 2, 3, 4, 5, 6, 7, 8, 9, 10, 11, 12, 13, 14, 15, 16, 17, 18, 19, 20, 21, 22, 23, 24, 25, 26]]
    [0, 1, 3, 7, 15, 0, 32, 96, 224, 480, 0, 1024, 3072, 7168, 15360, 32736, 0, 65536, 196608, 458752, 0, 1048576, 3145728, 7340032, 16711680, 33488896, 67108863, 134217727] 67108864)
  (.seq (.ops [⟨(some 32), none, .mv (.tmp 4)⟩,
    ⟨(some 33), none, .bin .neq 25 (.tmp 32) (.const (Go.Value.int Go.IntKind.i64 0))⟩])
  (.cond (.tmp 33)
    (.seq (.ops [⟨(some 34), none, .mv (.tmp 4)⟩,
      ⟨(some 2), none, .mv (.const (Go.Value.int Go.IntKind.i64 0))⟩,
      ⟨(some 3), none, .mv (.tmp 34)⟩])
    (.ret))
    (.skip))))
  (.seq (.ops [⟨(some 35), none, .mv (.tmp 0)⟩,
    ⟨(some 36), none, .nilc (.tmp 35)⟩,
    ⟨(some 37), none, .fld (.tmp 36) 8⟩,
    ⟨(some 38), none, .ld (.tmp 37) none⟩,
    ⟨(some 39), none, .bin .add 3 (.tmp 38) (.const (Go.Value.int Go.IntKind.i64 1))⟩,
    ⟨(some 40), none, .nilc (.tmp 35)⟩,
    ⟨(some 41), none, .fld (.tmp 40) 8⟩,
    ⟨none, none, .st (.tmp 41) (.tmp 39) 1⟩])
  (.seq (.ops [⟨(some 42), none, .mv (.tmp 0)⟩,
    ⟨(some 43), none, .call 146 [(.tmp 42), (.const (Go.Value.int Go.IntKind.i64 2))]⟩])
  (.seq (.ops [⟨(some 2), none, .mv (.const (Go.Value.int Go.IntKind.i64 1))⟩,
    ⟨(some 3), none, .mv (.const (Go.Value.int Go.IntKind.i64 0))⟩])
  (.ret)))))
theorem is_inplace_Writer_write : FnIs Try.prog F.inplace_Writer_write X.inplace_Writer_write 44 [.tmp 2, .tmp 3] := ⟨by kernel_rfl⟩

/-- haycroft/header.Count: function 172 -/
abbrev F.header_Count : FuncId := 172
def X.header_Count : X :=
  .seq (.ops [⟨(some 2), none, .mv (.const (Go.Value.int Go.IntKind.u64 0))⟩])
  (.seq (.ops [⟨(some 3), none, .mv (.tmp 0)⟩,
    ⟨(some 4), none, .call 120 [(.tmp 3), (.const (Go.Value.int Go.IntKind.i64 0)), (.const (Go.Value.int Go.IntKind.i64 32))]⟩,
    ⟨(some 2), none, .mv (.tmp 4)⟩])
  (.ret))
theorem is_header_Count : FnIs Try.prog F.header_Count X.header_Count 5 [.tmp 2] := ⟨by kernel_rfl⟩

/-- haycroft/header.Unlock: function 148 -/
abbrev F.header_Unlock : FuncId := 148
def X.header_Unlock : X :=
  .seq (.ops [⟨(some 2), none, .mv (.const (Go.Value.int Go.IntKind.u64 0))⟩,
    ⟨(some 3), none, .mv (.const (Go.Value.int Go.IntKind.i64 0))⟩])
  (.seq (.block 0 (.seq (.ops [⟨(some 5), none, .mv (.tmp 0)⟩,
      ⟨(some 6), none, .call 171 [(.tmp 5)]⟩,
      ⟨(some 7), none, .un .not (.tmp 6)⟩,
      ⟨(some 4), none, .mv (.tmp 7)⟩])
    (.cond (.tmp 4)
      (.seq (.ops [⟨(some 2), none, .mv (.const (Go.Value.int Go.IntKind.u64 0))⟩,
        ⟨(some 3), none, .mv (.const (Go.Value.int Go.IntKind.i64 4))⟩])
      (.ret))
      (.seq (.ops [⟨(some 9), none, .mv (.tmp 0)⟩,
        ⟨(some 10), none, .call 149 [(.tmp 9)]⟩,
        ⟨(some 11), none, .un .not (.tmp 10)⟩,
        ⟨(some 8), none, .mv (.tmp 11)⟩])
      (.cond (.tmp 8)
        (.seq (.ops [⟨(some 2), none, .mv (.const (Go.Value.int Go.IntKind.u64 0))⟩,
          ⟨(some 3), none, .mv (.const (Go.Value.int Go.IntKind.i64 7))⟩])
        (.ret))
        (.skip))))))
  (.seq (.ops [⟨(some 12), none, .mv (.tmp 0)⟩,
    ⟨(some 13), none, .call 172 [(.tmp 12)]⟩,
    ⟨(some 14), none, .bin .add 32 (.tmp 13) (.const (Go.Value.int Go.IntKind.u64 1))⟩,
    ⟨(some 15), none, .call 157 [(.const (Go.Value.int Go.IntKind.i64 32))]⟩,
    ⟨(some 16), none, .bin .and 32 (.tmp 14) (.tmp 15)⟩,
    ⟨(some 2), none, .mv (.tmp 16)⟩,
    ⟨(some 3), none, .mv (.const (Go.Value.int Go.IntKind.i64 0))⟩])
  (.ret)))
theorem is_header_Unlock : FnIs Try.prog F.header_Unlock X.header_Unlock 17 [.tmp 2, .tmp 3] := ⟨by kernel_rfl⟩

/-- (*haycroft/inplace.Writer).end: function 107 -/
abbrev F.inplace_Writer_end : FuncId := 107
def X.inplace_Writer_end : X :=
  .seq (.ops [⟨(some 2), none, .mv (.const (Go.Value.int Go.IntKind.i64 0))⟩,
    ⟨(some 3), none, .mv (.const (Go.Value.int Go.IntKind.i64 0))⟩])
  (.seq (.ops [⟨(some 8), none, .mv (.tmp 0)⟩,
    ⟨(some 9), none, .nilc (.tmp 8)⟩,
    ⟨(some 10), none, .fld (.tmp 9) 9⟩,
    ⟨(some 11), none, .ld (.tmp 10) none⟩,
    ⟨(some 12), none, .call 148 [(.tmp 11)]⟩,
    ⟨(some 7), none, .mv (.tmp 12)⟩,
    ⟨(some 13), none, .ext (.tmp 7) 0⟩,
    ⟨(some 14), none, .ext (.tmp 7) 1⟩,
    ⟨(some 4), none, .mv (.tmp 13)⟩,
    ⟨(some 5), none, .mv (.tmp 14)⟩])
  (.seq (.seq (.ops [⟨(some 15), none, .mv (.tmp 5)⟩,
    ⟨(some 16), none, .bin .neq 25 (.tmp 15) (.const (Go.Value.int Go.IntKind.i64 0))⟩])
  (.cond (.tmp 16)
    (.seq (.ops [⟨(some 17), none, .mv (.tmp 5)⟩,
      ⟨(some 2), none, .mv (.const (Go.Value.int Go.IntKind.i64 0))⟩,
      ⟨(some 3), none, .mv (.tmp 17)⟩])
    (.ret))
    (.skip)))
  (.seq (.seq (.drawn [(0, ⟨(some 18), none, .mv (.tmp 0)⟩),
    (1, ⟨(some 19), none, .nilc (.tmp 18)⟩),
    (2, ⟨(some 20), none, .fld (.tmp 19) 0⟩),
    (3, ⟨(some 21), none, .fld (.tmp 20) 0⟩),
    (4, ⟨(some 22), none, .ld (.tmp 21) none⟩),
    (5, ⟨(some 23), none, .mv (.tmp 0)⟩),
    (6, ⟨(some 24), none, .nilc (.tmp 23)⟩),
    (7, ⟨(some 25), none, .fld (.tmp 24) 0⟩),
    (8, ⟨(some 26), none, .fld (.tmp 25) 1⟩),
    (9, ⟨(some 27), none, .ld (.tmp 26) none⟩),
    (10, ⟨(some 28), none, .mv (.tmp 4)⟩),
    (11, ⟨(some 29), none, .call 147 [(.tmp 22), (.tmp 27), (.tmp 28)]⟩),
    (12, ⟨(some 6), none, .mv (.tmp 29)⟩)]
    [[], [0], [1], [2], [3], [], [5], [6], [7], [8], [], [4, 9, 10], [11, 11, 0, 1, 2, 3, 4, 5, 6, 7, 8, 9, 10, 11]]
    [0, 1, 3, 7, 15, 0, 32, 96, 224, 480, 0, 2047, 4095] 2048)
  (.seq (.ops [⟨(some 30), none, .mv (.tmp 6)⟩,
    ⟨(some 31), none, .bin .neq 25 (.tmp 30) (.const (Go.Value.int Go.IntKind.i64 0))⟩])
  (.cond (.tmp 31)
    (.seq (.ops [⟨(some 32), none, .mv (.tmp 6)⟩,
      ⟨(some 2), none, .mv (.const (Go.Value.int Go.IntKind.i64 0))⟩,
      ⟨(some 3), none, .mv (.tmp 32)⟩])
    (.ret))
    (.skip))))
  (.seq (.ops [⟨(some 33), none, .mv (.tmp 0)⟩,
    ⟨(some 34), none, .nilc (.tmp 33)⟩,
    ⟨(some 35), none, .fld (.tmp 34) 4⟩,
    ⟨none, none, .st (.tmp 35) (.const (Go.Value.int Go.IntKind.i64 4)) 1⟩])
  (.seq (.ops [⟨(some 2), none, .mv (.const (Go.Value.int Go.IntKind.i64 2))⟩,
    ⟨(some 3), none, .mv (.const (Go.Value.int Go.IntKind.i64 0))⟩])
  (.ret))))))
theorem is_inplace_Writer_end : FnIs Try.prog F.inplace_Writer_end X.inplace_Writer_end 36 [.tmp 2, .tmp 3] := ⟨by kernel_rfl⟩

/-- (*haycroft/inplace.Writer).Move: function 46 -/
abbrev F.inplace_Writer_Move : FuncId := 46
def X.inplace_Writer_Move : X :=
  .seq (.ops [⟨(some 2), none, .mv (.const (Go.Value.int Go.IntKind.i64 0))⟩,
    ⟨(some 3), none, .mv (.const (Go.Value.int Go.IntKind.i64 0))⟩])
  (.seq (.seq (.ops [⟨(some 4), none, .mv (.tmp 0)⟩,
    ⟨(some 5), none, .eq false .ptr (.tmp 4) (.const (Go.Value.pointer none))⟩])
  (.cond (.tmp 5)
    (.seq (.ops [⟨(some 2), none, .mv (.const (Go.Value.int Go.IntKind.i64 0))⟩,
      ⟨(some 3), none, .mv (.const (Go.Value.int Go.IntKind.i64 2))⟩])
    (.ret))
    (.skip)))
  (.seq (.seq (.ops [⟨(some 6), none, .mv (.tmp 0)⟩,
    ⟨(some 7), none, .nilc (.tmp 6)⟩,
    ⟨(some 8), none, .fld (.tmp 7) 4⟩,
    ⟨(some 9), none, .ld (.tmp 8) none⟩])
  (.block 0 (.seq (.ops [⟨(some 11), none, .bin .eql 3 (.tmp 9) (.const (Go.Value.int Go.IntKind.i64 0))⟩,
      ⟨(some 10), none, .mv (.tmp 11)⟩])
    (.cond (.tmp 10)
      (.seq (.ops [⟨(some 12), none, .mv (.tmp 0)⟩,
        ⟨(some 13), none, .call 104 [(.tmp 12)]⟩,
        ⟨(some 14), none, .ext (.tmp 13) 0⟩,
        ⟨(some 15), none, .ext (.tmp 13) 1⟩,
        ⟨(some 2), none, .mv (.tmp 14)⟩,
        ⟨(some 3), none, .mv (.tmp 15)⟩])
      (.ret))
      (.seq (.ops [⟨(some 17), none, .bin .eql 3 (.tmp 9) (.const (Go.Value.int Go.IntKind.i64 1))⟩,
        ⟨(some 16), none, .mv (.tmp 17)⟩])
      (.cond (.tmp 16)
        (.seq (.ops [⟨(some 18), none, .mv (.tmp 0)⟩,
          ⟨(some 19), none, .call 105 [(.tmp 18)]⟩,
          ⟨(some 20), none, .ext (.tmp 19) 0⟩,
          ⟨(some 21), none, .ext (.tmp 19) 1⟩,
          ⟨(some 2), none, .mv (.tmp 20)⟩,
          ⟨(some 3), none, .mv (.tmp 21)⟩])
        (.ret))
        (.seq (.ops [⟨(some 23), none, .bin .eql 3 (.tmp 9) (.const (Go.Value.int Go.IntKind.i64 2))⟩,
          ⟨(some 22), none, .mv (.tmp 23)⟩])
        (.cond (.tmp 22)
          (.seq (.ops [⟨(some 24), none, .mv (.tmp 0)⟩,
            ⟨(some 25), none, .call 106 [(.tmp 24)]⟩,
            ⟨(some 26), none, .ext (.tmp 25) 0⟩,
            ⟨(some 27), none, .ext (.tmp 25) 1⟩,
            ⟨(some 2), none, .mv (.tmp 26)⟩,
            ⟨(some 3), none, .mv (.tmp 27)⟩])
          (.ret))
          (.seq (.ops [⟨(some 29), none, .bin .eql 3 (.tmp 9) (.const (Go.Value.int Go.IntKind.i64 3))⟩,
            ⟨(some 28), none, .mv (.tmp 29)⟩])
          (.cond (.tmp 28)
            (.seq (.ops [⟨(some 30), none, .mv (.tmp 0)⟩,
              ⟨(some 31), none, .call 107 [(.tmp 30)]⟩,
              ⟨(some 32), none, .ext (.tmp 31) 0⟩,
              ⟨(some 33), none, .ext (.tmp 31) 1⟩,
              ⟨(some 2), none, .mv (.tmp 32)⟩,
              ⟨(some 3), none, .mv (.tmp 33)⟩])
            (.ret))
            (.skip)))))))))))
  (.seq (.ops [⟨(some 2), none, .mv (.const (Go.Value.int Go.IntKind.i64 2))⟩,
    ⟨(some 3), none, .mv (.const (Go.Value.int Go.IntKind.i64 0))⟩])
  (.ret))))
theorem is_inplace_Writer_Move : FnIs Try.prog F.inplace_Writer_Move X.inplace_Writer_Move 34 [.tmp 2, .tmp 3] := ⟨by kernel_rfl⟩

-- loop (inner ones first): [1, 3, 5]
/-- haycroft/haycroftlaw18.awake: function 40 -/
abbrev F.law18_awake : FuncId := 40
def X.law18_awake : X :=
  .seq (.ops [⟨(some 0), none, .mv (.const (Go.Value.bool false))⟩])
  (.seq (.ops [⟨(some 11), none, .call 51 [(.const (Go.Value.int Go.IntKind.u64 5))]⟩,
    ⟨(some 12), none, .call 97 [(.tmp 11)]⟩,
    ⟨(some 10), none, .mv (.tmp 12)⟩,
    ⟨(some 13), none, .ext (.tmp 10) 0⟩,
    ⟨(some 14), none, .ext (.tmp 10) 1⟩,
    ⟨(some 1), none, .mv (.tmp 13)⟩,
    ⟨(some 2), none, .mv (.tmp 14)⟩])
  (.seq (.ops [⟨(some 16), none, .mv (.tmp 1)⟩,
    ⟨(some 17), none, .call 44 [(.tmp 16), (.const (Go.Value.int Go.IntKind.u64 1)), (.const (Go.Value.int Go.IntKind.i64 1)), (.const (Go.Value.int Go.IntKind.u64 7))]⟩,
    ⟨(some 15), none, .mv (.tmp 17)⟩,
    ⟨(some 18), none, .ext (.tmp 15) 0⟩,
    ⟨(some 19), none, .ext (.tmp 15) 1⟩,
    ⟨(some 3), none, .mv (.tmp 18)⟩,
    ⟨(some 4), none, .mv (.tmp 19)⟩])
  (.seq (.seq (.ops [⟨(some 20), none, .mv (.tmp 2)⟩,
    ⟨(some 21), none, .un .not (.tmp 20)⟩,
    ⟨(some 22), none, .mv (.tmp 21)⟩,
    ⟨(some 23), (some (22, false)), .mv (.tmp 4)⟩,
    ⟨(some 24), (some (22, false)), .bin .neq 25 (.tmp 23) (.const (Go.Value.int Go.IntKind.i64 0))⟩,
    ⟨(some 25), none, .pick (.tmp 22) (.const (Go.Value.bool true)) (.tmp 24)⟩])
  (.cond (.tmp 25)
    (.seq (.ops [⟨(some 0), none, .mv (.const (Go.Value.bool false))⟩])
    (.ret))
    (.skip)))
  (.seq (.ops [⟨(some 5), none, .mv (.const (Go.Value.int Go.IntKind.i64 0))⟩])
  (.seq (.block 0 (.loop (.seq (.seq (.ops [⟨(some 26), none, .mv (.tmp 5)⟩,
        ⟨(some 27), none, .bin .lss 3 (.tmp 26) (.const (Go.Value.int Go.IntKind.i64 9))⟩])
      (.cond (.tmp 27)
        (.skip)
        (.exit 0)))
      (.block 1 (.seq (.ops [⟨(some 29), none, .mv (.tmp 3)⟩,
          ⟨(some 30), none, .call 46 [(.tmp 29)]⟩,
          ⟨(some 28), none, .mv (.tmp 30)⟩,
          ⟨(some 31), none, .ext (.tmp 28) 0⟩,
          ⟨(some 32), none, .ext (.tmp 28) 1⟩,
          ⟨(some 6), none, .mv (.tmp 31)⟩,
          ⟨(some 7), none, .mv (.tmp 32)⟩])
        (.seq (.ops [⟨(some 33), none, .mv (.tmp 5)⟩,
          ⟨(some 34), none, .bin .add 3 (.tmp 33) (.const (Go.Value.int Go.IntKind.i64 1))⟩,
          ⟨(some 5), none, .mv (.tmp 34)⟩])
        (.seq (.ops [⟨(some 35), none, .mv (.tmp 7)⟩,
          ⟨(some 36), none, .bin .neq 25 (.tmp 35) (.const (Go.Value.int Go.IntKind.i64 0))⟩,
          ⟨(some 37), none, .mv (.tmp 36)⟩,
          ⟨(some 38), (some (37, false)), .mv (.tmp 6)⟩,
          ⟨(some 39), (some (37, false)), .bin .eql 3 (.tmp 38) (.const (Go.Value.int Go.IntKind.i64 2))⟩,
          ⟨(some 40), none, .pick (.tmp 37) (.const (Go.Value.bool true)) (.tmp 39)⟩])
        (.cond (.tmp 40)
          (.exit 0)
          (.skip)))))))))
  (.seq (.ops [⟨(some 42), none, .mv (.tmp 1)⟩,
    ⟨(some 43), none, .call 58 [(.tmp 42), (.const (Go.Value.int Go.IntKind.u64 5))]⟩,
    ⟨(some 41), none, .mv (.tmp 43)⟩,
    ⟨(some 44), none, .ext (.tmp 41) 0⟩,
    ⟨(some 45), none, .ext (.tmp 41) 1⟩,
    ⟨(some 8), none, .mv (.tmp 44)⟩,
    ⟨(some 9), none, .mv (.tmp 45)⟩])
  (.seq (.ops [⟨(some 46), none, .mv (.tmp 5)⟩,
    ⟨(some 47), none, .bin .eql 3 (.tmp 46) (.const (Go.Value.int Go.IntKind.i64 4))⟩,
    ⟨(some 48), none, .mv (.tmp 47)⟩,
    ⟨(some 49), (some (48, true)), .mv (.tmp 8)⟩,
    ⟨(some 50), (some (48, true)), .bin .eql 32 (.tmp 49) (.const (Go.Value.int Go.IntKind.u64 12))⟩,
    ⟨(some 51), none, .pick (.tmp 48) (.tmp 50) (.const (Go.Value.bool false))⟩,
    ⟨(some 0), none, .mv (.tmp 51)⟩])
  (.ret))))))))
theorem is_law18_awake : FnIs Try.prog F.law18_awake X.law18_awake 52 [.tmp 0] := ⟨by kernel_rfl⟩

/-- haycroft/inplace.NewReader: function 43 -/
abbrev F.inplace_NewReader : FuncId := 43
def X.inplace_NewReader : X :=
  .seq (.ops [⟨(some 8), none, .mv (.const (Go.Value.pointer none))⟩,
    ⟨(some 9), none, .mv (.const (Go.Value.int Go.IntKind.i64 0))⟩])
  (.seq (.ops [⟨(some 13), none, .mv (.tmp 0)⟩,
    ⟨(some 14), none, .mv (.tmp 1)⟩,
    ⟨(some 15), none, .mv (.tmp 2)⟩,
    ⟨(some 16), none, .mv (.tmp 3)⟩,
    ⟨(some 17), none, .call 100 [(.tmp 13), (.tmp 14), (.tmp 15), (.tmp 16)]⟩,
    ⟨(some 12), none, .mv (.tmp 17)⟩,
    ⟨(some 18), none, .ext (.tmp 12) 0⟩,
    ⟨(some 19), none, .ext (.tmp 12) 1⟩,
    ⟨(some 10), none, .new 154 (Go.Value.agg #[(Go.Value.pointer none), (Go.Value.int Go.IntKind.u64 0), (Go.Value.int Go.IntKind.u64 0), (Go.Value.int Go.IntKind.i64 0)])⟩,
    ⟨none, none, .st (.tmp 10) (.tmp 18) 4⟩,
    ⟨(some 11), none, .mv (.tmp 19)⟩])
  (.seq (.seq (.ops [⟨(some 20), none, .mv (.tmp 11)⟩,
    ⟨(some 21), none, .bin .neq 25 (.tmp 20) (.const (Go.Value.int Go.IntKind.i64 0))⟩])
  (.cond (.tmp 21)
    (.seq (.ops [⟨(some 22), none, .mv (.tmp 11)⟩,
      ⟨(some 8), none, .mv (.const (Go.Value.pointer none))⟩,
      ⟨(some 9), none, .mv (.tmp 22)⟩])
    (.ret))
    (.skip)))
  (.seq (.ops [⟨(some 23), none, .ld (.tmp 10) (some 4)⟩,
    ⟨(some 24), none, .mv (.tmp 3)⟩,
    ⟨(some 25), none, .bld [(Go.Value.pointer none), (Go.Value.int Go.IntKind.u64 0), (Go.Value.int Go.IntKind.u64 0), (Go.Value.int Go.IntKind.i64 0), (Go.Value.int Go.IntKind.i64 0), (Go.Value.int Go.IntKind.i64 0), (Go.Value.slice none 0 0), (Go.Value.int Go.IntKind.u64 0), (Go.Value.string { data := #[] })] [(0, 4, (.tmp 23)), (5, 1, (.tmp 24))]⟩,
    ⟨(some 26), none, .box 161 (.tmp 25)⟩,
    ⟨(some 8), none, .mv (.tmp 26)⟩,
    ⟨(some 9), none, .mv (.const (Go.Value.int Go.IntKind.i64 0))⟩])
  (.ret))))
theorem is_inplace_NewReader : FnIs Try.prog F.inplace_NewReader X.inplace_NewReader 27 [.tmp 8, .tmp 9] := ⟨by kernel_rfl⟩

/-- haycroft/haycroftref09.Size: function 103 -/
abbrev F.ref09_Size : FuncId := 103
def X.ref09_Size : X :=
  .seq (.ops [⟨(some 4), none, .mv (.const (Go.Value.int Go.IntKind.i64 0))⟩])
  (.seq (.seq (.ops [⟨(some 5), none, .mv (.tmp 0)⟩,
    ⟨(some 6), none, .bin .lss 3 (.tmp 5) (.const (Go.Value.int Go.IntKind.i64 0))⟩,
    ⟨(some 7), none, .mv (.tmp 6)⟩,
    ⟨(some 8), (some (7, false)), .mv (.tmp 1)⟩,
    ⟨(some 9), (some (7, false)), .bin .lss 3 (.tmp 8) (.const (Go.Value.int Go.IntKind.i64 0))⟩,
    ⟨(some 10), none, .pick (.tmp 7) (.const (Go.Value.bool true)) (.tmp 9)⟩,
    ⟨(some 11), none, .mv (.tmp 10)⟩,
    ⟨(some 12), (some (11, false)), .mv (.tmp 0)⟩,
    ⟨(some 13), (some (11, false)), .bin .gtr 3 (.tmp 12) (.const (Go.Value.int Go.IntKind.i64 64))⟩,
    ⟨(some 14), none, .pick (.tmp 11) (.const (Go.Value.bool true)) (.tmp 13)⟩,
    ⟨(some 15), none, .mv (.tmp 14)⟩,
    ⟨(some 16), (some (15, false)), .mv (.tmp 1)⟩,
    ⟨(some 17), (some (15, false)), .bin .gtr 3 (.tmp 16) (.const (Go.Value.int Go.IntKind.i64 128))⟩,
    ⟨(some 18), none, .pick (.tmp 15) (.const (Go.Value.bool true)) (.tmp 17)⟩])
  (.cond (.tmp 18)
    (.seq (.ops [⟨(some 4), none, .mv (.const (Go.Value.int Go.IntKind.i64 0))⟩])
    (.ret))
    (.skip)))
  (.seq (.ops [⟨(some 19), none, .mv (.tmp 0)⟩,
    ⟨(some 20), none, .bin .add 3 (.tmp 19) (.const (Go.Value.int Go.IntKind.i64 7))⟩,
    ⟨(some 21), none, .bin .quo 3 (.tmp 20) (.const (Go.Value.int Go.IntKind.i64 8))⟩,
    ⟨(some 22), none, .bin .add 3 (.const (Go.Value.int Go.IntKind.i64 3)) (.tmp 21)⟩,
    ⟨(some 23), none, .mv (.tmp 1)⟩,
    ⟨(some 24), none, .bin .add 3 (.tmp 23) (.const (Go.Value.int Go.IntKind.i64 7))⟩,
    ⟨(some 25), none, .bin .quo 3 (.tmp 24) (.const (Go.Value.int Go.IntKind.i64 8))⟩,
    ⟨(some 26), none, .bin .add 3 (.tmp 22) (.tmp 25)⟩,
    ⟨(some 4), none, .mv (.tmp 26)⟩])
  (.ret)))
theorem is_ref09_Size : FnIs Try.prog F.ref09_Size X.ref09_Size 27 [.tmp 4] := ⟨by kernel_rfl⟩

/-- haycroft/haycroftref18.May: function 45 -/
abbrev F.ref18_May : FuncId := 45
def X.ref18_May : X :=
  .seq (.ops [⟨(some 8), none, .mv (.const (Go.Value.bool false))⟩])
  (.seq (.ops [⟨(some 10), none, .mv (.tmp 2)⟩,
    ⟨(some 11), none, .mv (.tmp 3)⟩,
    ⟨(some 12), none, .call 103 [(.tmp 10), (.tmp 11)]⟩,
    ⟨(some 9), none, .mv (.tmp 12)⟩])
  (.seq (.ops [⟨(some 13), none, .mv (.tmp 2)⟩,
    ⟨(some 14), none, .bin .geq 3 (.tmp 13) (.const (Go.Value.int Go.IntKind.i64 1))⟩,
    ⟨(some 15), none, .mv (.tmp 14)⟩,
    ⟨(some 16), (some (15, true)), .mv (.tmp 9)⟩,
    ⟨(some 17), (some (15, true)), .bin .gtr 3 (.tmp 16) (.const (Go.Value.int Go.IntKind.i64 0))⟩,
    ⟨(some 18), none, .pick (.tmp 15) (.tmp 17) (.const (Go.Value.bool false))⟩,
    ⟨(some 19), none, .mv (.tmp 18)⟩,
    ⟨(some 20), (some (19, true)), .mv (.tmp 1)⟩,
    ⟨(some 21), (some (19, true)), .bin .lss 32 (.tmp 20) (.const (Go.Value.int Go.IntKind.u64 281474976710656))⟩,
    ⟨(some 22), none, .pick (.tmp 19) (.tmp 21) (.const (Go.Value.bool false))⟩,
    ⟨(some 23), none, .mv (.tmp 22)⟩,
    ⟨(some 24), (some (23, true)), .mv (.tmp 9)⟩,
    ⟨(some 25), (some (23, true)), .mv (.tmp 0)⟩,
    ⟨(some 26), (some (23, true)), .mv (.tmp 1)⟩,
    ⟨(some 27), (some (23, true)), .mv (.tmp 0)⟩,
    ⟨(some 28), (some (23, true)), .conv Go.IntKind.u64 (.tmp 27)⟩,
    ⟨(some 29), (some (23, true)), .bin .rem 32 (.tmp 26) (.tmp 28)⟩,
    ⟨(some 30), (some (23, true)), .conv Go.IntKind.i64 (.tmp 29)⟩,
    ⟨(some 31), (some (23, true)), .bin .sub 3 (.tmp 25) (.tmp 30)⟩,
    ⟨(some 32), (some (23, true)), .bin .leq 3 (.tmp 24) (.tmp 31)⟩,
    ⟨(some 33), none, .pick (.tmp 23) (.tmp 32) (.const (Go.Value.bool false))⟩,
    ⟨(some 8), none, .mv (.tmp 33)⟩])
  (.ret)))
theorem is_ref18_May : FnIs Try.prog F.ref18_May X.ref18_May 34 [.tmp 8] := ⟨by kernel_rfl⟩

/-- (*haycroft/inplace.Writer).Holds: function 47 -/
abbrev F.inplace_Writer_Holds : FuncId := 47
def X.inplace_Writer_Holds : X :=
  .seq (.ops [⟨(some 2), none, .mv (.const (Go.Value.bool false))⟩])
  (.seq (.ops [⟨(some 3), none, .mv (.tmp 0)⟩,
    ⟨(some 4), none, .eq true .ptr (.tmp 3) (.const (Go.Value.pointer none))⟩,
    ⟨(some 5), none, .mv (.tmp 4)⟩,
    ⟨(some 6), (some (5, true)), .mv (.tmp 0)⟩,
    ⟨(some 7), (some (5, true)), .nilc (.tmp 6)⟩,
    ⟨(some 8), (some (5, true)), .fld (.tmp 7) 4⟩,
    ⟨(some 9), (some (5, true)), .ld (.tmp 8) none⟩,
    ⟨(some 10), (some (5, true)), .bin .gtr 3 (.tmp 9) (.const (Go.Value.int Go.IntKind.i64 0))⟩,
    ⟨(some 11), none, .pick (.tmp 5) (.tmp 10) (.const (Go.Value.bool false))⟩,
    ⟨(some 12), none, .mv (.tmp 11)⟩,
    ⟨(some 13), (some (12, true)), .mv (.tmp 0)⟩,
    ⟨(some 14), (some (12, true)), .nilc (.tmp 13)⟩,
    ⟨(some 15), (some (12, true)), .fld (.tmp 14) 4⟩,
    ⟨(some 16), (some (12, true)), .ld (.tmp 15) none⟩,
    ⟨(some 17), (some (12, true)), .bin .lss 3 (.tmp 16) (.const (Go.Value.int Go.IntKind.i64 4))⟩,
    ⟨(some 18), none, .pick (.tmp 12) (.tmp 17) (.const (Go.Value.bool false))⟩,
    ⟨(some 2), none, .mv (.tmp 18)⟩])
  (.ret))
theorem is_inplace_Writer_Holds : FnIs Try.prog F.inplace_Writer_Holds X.inplace_Writer_Holds 19 [.tmp 2] := ⟨by kernel_rfl⟩

/-- (*haycroft/inplace.Reader).look: function 108 -/
abbrev F.inplace_Reader_look : FuncId := 108
def X.inplace_Reader_look : X :=
  .seq (.ops [⟨(some 2), none, .mv (.const (Go.Value.int Go.IntKind.i64 0))⟩,
    ⟨(some 3), none, .mv (.const (Go.Value.int Go.IntKind.i64 0))⟩])
  (.seq (.drawn [(0, ⟨(some 7), none, .mv (.tmp 0)⟩),
    (1, ⟨(some 8), none, .nilc (.tmp 7)⟩),
    (2, ⟨(some 9), none, .fld (.tmp 8) 0⟩),
    (3, ⟨(some 10), none, .fld (.tmp 9) 0⟩),
    (4, ⟨(some 11), none, .ld (.tmp 10) none⟩),
    (5, ⟨(some 12), none, .mv (.tmp 0)⟩),
    (6, ⟨(some 13), none, .nilc (.tmp 12)⟩),
    (7, ⟨(some 14), none, .fld (.tmp 13) 0⟩),
    (8, ⟨(some 15), none, .fld (.tmp 14) 1⟩),
    (9, ⟨(some 16), none, .ld (.tmp 15) none⟩),
    (10, ⟨(some 17), none, .call 58 [(.tmp 11), (.tmp 16)]⟩),
    (11, ⟨(some 6), none, .mv (.tmp 17)⟩),
    (12, ⟨(some 18), none, .ext (.tmp 6) 0⟩),
    (13, ⟨(some 19), none, .ext (.tmp 6) 1⟩),
    (14, ⟨(some 4), none, .mv (.tmp 18)⟩),
    (15, ⟨(some 5), none, .mv (.tmp 19)⟩)]
    [[], [0], [1], [2], [3], [], [5], [6], [7], [8], [4, 9], [10], [11], [11], [12, 10, 0, 1, 2, 3, 4, 5, 6, 7, 8, 9, 10, 11, 12], [13, 14, 0, 1, 2, 3, 4, 5, 6, 7, 8, 9, 10, 11, 12, 13, 14]]
    [0, 1, 3, 7, 15, 0, 32, 96, 224, 480, 1023, 2047, 4095, 4095, 8191, 32767] 1024)
  (.seq (.block 0 (.seq (.ops [⟨(some 21), none, .mv (.tmp 5)⟩,
      ⟨(some 22), none, .bin .neq 25 (.tmp 21) (.const (Go.Value.int Go.IntKind.i64 0))⟩,
      ⟨(some 20), none, .mv (.tmp 22)⟩])
    (.cond (.tmp 20)
      (.seq (.ops [⟨(some 23), none, .mv (.tmp 5)⟩,
        ⟨(some 2), none, .mv (.const (Go.Value.int Go.IntKind.i64 0))⟩,
        ⟨(some 3), none, .mv (.tmp 23)⟩])
      (.ret))
      (.seq (.ops [⟨(some 25), none, .mv (.tmp 4)⟩,
        ⟨(some 26), none, .call 149 [(.tmp 25)]⟩,
        ⟨(some 24), none, .mv (.tmp 26)⟩])
      (.cond (.tmp 24)
        (.seq (.ops [⟨(some 2), none, .mv (.const (Go.Value.int Go.IntKind.i64 3))⟩,
          ⟨(some 3), none, .mv (.const (Go.Value.int Go.IntKind.i64 0))⟩])
        (.ret))
        (.skip))))))
  (.seq (.ops [⟨(some 27), none, .mv (.tmp 0)⟩,
    ⟨(some 28), none, .mv (.tmp 0)⟩,
    ⟨(some 29), none, .mv (.tmp 0)⟩,
    ⟨(some 30), none, .mv (.tmp 4)⟩,
    ⟨(some 31), none, .nilc (.tmp 27)⟩,
    ⟨(some 32), none, .fld (.tmp 31) 7⟩,
    ⟨none, none, .st (.tmp 32) (.tmp 30) 1⟩,
    ⟨(some 33), none, .nilc (.tmp 28)⟩,
    ⟨(some 34), none, .fld (.tmp 33) 6⟩,
    ⟨none, none, .st (.tmp 34) (.const (Go.Value.slice none 0 0)) 1⟩,
    ⟨(some 35), none, .nilc (.tmp 29)⟩,
    ⟨(some 36), none, .fld (.tmp 35) 4⟩,
    ⟨none, none, .st (.tmp 36) (.const (Go.Value.int Go.IntKind.i64 1)) 1⟩])
  (.seq (.ops [⟨(some 2), none, .mv (.const (Go.Value.int Go.IntKind.i64 1))⟩,
    ⟨(some 3), none, .mv (.const (Go.Value.int Go.IntKind.i64 0))⟩])
  (.ret)))))
theorem is_inplace_Reader_look : FnIs Try.prog F.inplace_Reader_look X.inplace_Reader_look 37 [.tmp 2, .tmp 3] := ⟨by kernel_rfl⟩

/-- (*haycroft/inplace.Reader).read: function 109 -/
abbrev F.inplace_Reader_read : FuncId := 109
def X.inplace_Reader_read : X :=
  .seq (.ops [⟨(some 2), none, .mv (.const (Go.Value.int Go.IntKind.i64 0))⟩,
    ⟨(some 3), none, .mv (.const (Go.Value.int Go.IntKind.i64 0))⟩])
  (.seq (.drawn [(0, ⟨(some 7), none, .mv (.tmp 0)⟩),
    (1, ⟨(some 8), none, .nilc (.tmp 7)⟩),
    (2, ⟨(some 9), none, .fld (.tmp 8) 0⟩),
    (3, ⟨(some 10), none, .fld (.tmp 9) 0⟩),
    (4, ⟨(some 11), none, .ld (.tmp 10) none⟩),
    (5, ⟨(some 12), none, .mv (.tmp 0)⟩),
    (6, ⟨(some 13), none, .nilc (.tmp 12)⟩),
    (7, ⟨(some 14), none, .fld (.tmp 13) 0⟩),
    (8, ⟨(some 15), none, .fld (.tmp 14) 2⟩),
    (9, ⟨(some 16), none, .ld (.tmp 15) none⟩),
    (10, ⟨(some 17), none, .mv (.tmp 0)⟩),
    (11, ⟨(some 18), none, .nilc (.tmp 17)⟩),
    (12, ⟨(some 19), none, .fld (.tmp 18) 6⟩),
    (13, ⟨(some 20), none, .ld (.tmp 19) none⟩),
    (14, ⟨(some 21), none, .lenS (.tmp 20)⟩),
    (15, ⟨(some 22), none, .conv Go.IntKind.u64 (.tmp 21)⟩),
    (16, ⟨(some 23), none, .bin .add 32 (.tmp 16) (.tmp 22)⟩),
    (17, ⟨(some 24), none, .call 58 [(.tmp 11), (.tmp 23)]⟩),
    (18, ⟨(some 6), none, .mv (.tmp 24)⟩),
    (19, ⟨(some 25), none, .ext (.tmp 6) 0⟩),
    (20, ⟨(some 26), none, .ext (.tmp 6) 1⟩),
    (21, ⟨(some 4), none, .mv (.tmp 25)⟩),
    (22, ⟨(some 5), none, .mv (.tmp 26)⟩)]
    [[], [0], [1], [2], [3], [], [5], [6], [7], [8], [], [10], [11], [12], [13], [14], [9, 15], [4, 16], [17], [18], [18], [19, 17, 0, 1, 2, 3, 4, 5, 6, 7, 8, 9, 10, 11, 12, 13, 14, 15, 16, 17, 18, 19], [20, 21, 0, 1, 2, 3, 4, 5, 6, 7, 8, 9, 10, 11, 12, 13, 14, 15, 16, 17, 18, 19, 20, 21]]
    [0, 1, 3, 7, 15, 0, 32, 96, 224, 480, 0, 1024, 3072, 7168, 15360, 31744, 65504, 131071, 262143, 524287, 524287, 1048575, 4194303] 131072)
  (.seq (.seq (.ops [⟨(some 27), none, .mv (.tmp 5)⟩,
    ⟨(some 28), none, .bin .neq 25 (.tmp 27) (.const (Go.Value.int Go.IntKind.i64 0))⟩])
  (.cond (.tmp 28)
    (.seq (.ops [⟨(some 29), none, .mv (.tmp 5)⟩,
      ⟨(some 2), none, .mv (.const (Go.Value.int Go.IntKind.i64 0))⟩,
      ⟨(some 3), none, .mv (.tmp 29)⟩])
    (.ret))
    (.skip)))
  (.seq (.ops [⟨(some 30), none, .mv (.tmp 0)⟩,
    ⟨(some 31), none, .mv (.tmp 0)⟩,
    ⟨(some 32), none, .nilc (.tmp 31)⟩,
    ⟨(some 33), none, .fld (.tmp 32) 6⟩,
    ⟨(some 34), none, .ld (.tmp 33) none⟩,
    ⟨(some 35), none, .mv (.tmp 4)⟩,
    ⟨(some 36), none, .bsl 32 1 1 [(Go.Value.int Go.IntKind.u64 0)] [(0, (.tmp 35))]⟩,
    ⟨(some 37), none, .app 32 1 8 [(Go.Value.int Go.IntKind.u64 0)] (.tmp 34) (.tmp 36)⟩,
    ⟨(some 38), none, .nilc (.tmp 30)⟩,
    ⟨(some 39), none, .fld (.tmp 38) 6⟩,
    ⟨none, none, .st (.tmp 39) (.tmp 37) 1⟩])
  (.seq (.ops [⟨(some 2), none, .mv (.const (Go.Value.int Go.IntKind.i64 1))⟩,
    ⟨(some 3), none, .mv (.const (Go.Value.int Go.IntKind.i64 0))⟩])
  (.ret)))))
theorem is_inplace_Reader_read : FnIs Try.prog F.inplace_Reader_read X.inplace_Reader_read 40 [.tmp 2, .tmp 3] := ⟨by kernel_rfl⟩

/-- (*haycroft/inplace.Reader).check: function 110 -/
abbrev F.inplace_Reader_check : FuncId := 110
def X.inplace_Reader_check : X :=
  .seq (.ops [⟨(some 2), none, .mv (.const (Go.Value.int Go.IntKind.i64 0))⟩,
    ⟨(some 3), none, .mv (.const (Go.Value.int Go.IntKind.i64 0))⟩])
  (.seq (.drawn [(0, ⟨(some 7), none, .mv (.tmp 0)⟩),
    (1, ⟨(some 8), none, .nilc (.tmp 7)⟩),
    (2, ⟨(some 9), none, .fld (.tmp 8) 0⟩),
    (3, ⟨(some 10), none, .fld (.tmp 9) 0⟩),
    (4, ⟨(some 11), none, .ld (.tmp 10) none⟩),
    (5, ⟨(some 12), none, .mv (.tmp 0)⟩),
    (6, ⟨(some 13), none, .nilc (.tmp 12)⟩),
    (7, ⟨(some 14), none, .fld (.tmp 13) 0⟩),
    (8, ⟨(some 15), none, .fld (.tmp 14) 1⟩),
    (9, ⟨(some 16), none, .ld (.tmp 15) none⟩),
    (10, ⟨(some 17), none, .call 58 [(.tmp 11), (.tmp 16)]⟩),
    (11, ⟨(some 6), none, .mv (.tmp 17)⟩),
    (12, ⟨(some 18), none, .ext (.tmp 6) 0⟩),
    (13, ⟨(some 19), none, .ext (.tmp 6) 1⟩),
    (14, ⟨(some 4), none, .mv (.tmp 18)⟩),
    (15, ⟨(some 5), none, .mv (.tmp 19)⟩)]
    [[], [0], [1], [2], [3], [], [5], [6], [7], [8], [4, 9], [10], [11], [11], [12, 10, 0, 1, 2, 3, 4, 5, 6, 7, 8, 9, 10, 11, 12], [13, 14, 0, 1, 2, 3, 4, 5, 6, 7, 8, 9, 10, 11, 12, 13, 14]]
    [0, 1, 3, 7, 15, 0, 32, 96, 224, 480, 1023, 2047, 4095, 4095, 8191, 32767] 1024)
  (.seq (.block 0 (.seq (.ops [⟨(some 21), none, .mv (.tmp 5)⟩,
      ⟨(some 22), none, .bin .neq 25 (.tmp 21) (.const (Go.Value.int Go.IntKind.i64 0))⟩,
      ⟨(some 20), none, .mv (.tmp 22)⟩])
    (.cond (.tmp 20)
      (.seq (.ops [⟨(some 23), none, .mv (.tmp 5)⟩,
        ⟨(some 2), none, .mv (.const (Go.Value.int Go.IntKind.i64 0))⟩,
        ⟨(some 3), none, .mv (.tmp 23)⟩])
      (.ret))
      (.seq (.ops [⟨(some 25), none, .mv (.tmp 4)⟩,
        ⟨(some 26), none, .mv (.tmp 0)⟩,
        ⟨(some 27), none, .nilc (.tmp 26)⟩,
        ⟨(some 28), none, .fld (.tmp 27) 7⟩,
        ⟨(some 29), none, .ld (.tmp 28) none⟩,
        ⟨(some 30), none, .bin .neq 32 (.tmp 25) (.tmp 29)⟩,
        ⟨(some 24), none, .mv (.tmp 30)⟩])
      (.cond (.tmp 24)
        (.seq (.ops [⟨(some 31), none, .mv (.tmp 0)⟩,
          ⟨(some 32), none, .nilc (.tmp 31)⟩,
          ⟨(some 33), none, .fld (.tmp 32) 4⟩,
          ⟨none, none, .st (.tmp 33) (.const (Go.Value.int Go.IntKind.i64 0)) 1⟩])
        (.seq (.ops [⟨(some 2), none, .mv (.const (Go.Value.int Go.IntKind.i64 3))⟩,
          ⟨(some 3), none, .mv (.const (Go.Value.int Go.IntKind.i64 0))⟩])
        (.ret)))
        (.skip))))))
  (.seq (.drawn [(0, ⟨(some 35), none, .mv (.tmp 0)⟩),
    (1, ⟨(some 36), none, .mv (.tmp 0)⟩),
    (2, ⟨(some 37), none, .nilc (.tmp 36)⟩),
    (3, ⟨(some 38), none, .fld (.tmp 37) 6⟩),
    (4, ⟨(some 39), none, .ld (.tmp 38) none⟩),
    (5, ⟨(some 40), none, .mv (.tmp 0)⟩),
    (6, ⟨(some 41), none, .nilc (.tmp 40)⟩),
    (7, ⟨(some 42), none, .fld (.tmp 41) 5⟩),
    (8, ⟨(some 43), none, .ld (.tmp 42) none⟩),
    (9, ⟨(some 44), none, .call 143 [(.tmp 39), (.tmp 43)]⟩),
    (10, ⟨(some 34), none, .mv (.tmp 44)⟩),
    (11, ⟨(some 45), none, .ext (.tmp 34) 0⟩),
    (12, ⟨(some 46), none, .ext (.tmp 34) 1⟩),
    (13, ⟨(some 47), none, .nilc (.tmp 35)⟩),
    (14, ⟨(some 48), none, .fld (.tmp 47) 8⟩),
    (15, ⟨none, none, .st (.tmp 48) (.tmp 45) 1⟩),
    (16, ⟨(some 5), none, .mv (.tmp 46)⟩)]
    [[], [], [1], [2], [3], [], [5], [6], [7], [4, 8], [9], [10], [10], [0, 0, 1, 2, 3, 4, 5, 6, 7, 8, 9, 10, 11], [13, 0, 1, 2, 3, 4, 5, 6, 7, 8, 9, 10, 11], [14, 11, 9, 0, 1, 2, 3, 4, 5, 6, 7, 8, 9, 10, 11], [12, 15, 0, 1, 2, 3, 4, 5, 6, 7, 8, 9, 10, 11, 12, 13, 14, 15]]
    [0, 0, 2, 6, 14, 0, 32, 96, 224, 510, 1022, 2046, 2046, 4095, 12287, 28671, 65535] 33280)
  (.seq (.seq (.ops [⟨(some 49), none, .mv (.tmp 5)⟩,
    ⟨(some 50), none, .bin .neq 25 (.tmp 49) (.const (Go.Value.int Go.IntKind.i64 0))⟩])
  (.cond (.tmp 50)
    (.seq (.ops [⟨(some 51), none, .mv (.tmp 5)⟩,
      ⟨(some 2), none, .mv (.const (Go.Value.int Go.IntKind.i64 0))⟩,
      ⟨(some 3), none, .mv (.tmp 51)⟩])
    (.ret))
    (.skip)))
  (.seq (.ops [⟨(some 52), none, .mv (.tmp 0)⟩,
    ⟨(some 53), none, .nilc (.tmp 52)⟩,
    ⟨(some 54), none, .fld (.tmp 53) 4⟩,
    ⟨none, none, .st (.tmp 54) (.const (Go.Value.int Go.IntKind.i64 4)) 1⟩])
  (.seq (.ops [⟨(some 2), none, .mv (.const (Go.Value.int Go.IntKind.i64 2))⟩,
    ⟨(some 3), none, .mv (.const (Go.Value.int Go.IntKind.i64 0))⟩])
  (.ret)))))))
theorem is_inplace_Reader_check : FnIs Try.prog F.inplace_Reader_check X.inplace_Reader_check 55 [.tmp 2, .tmp 3] := ⟨by kernel_rfl⟩

/-- (*haycroft/inplace.Reader).Move: function 48 -/
abbrev F.inplace_Reader_Move : FuncId := 48
def X.inplace_Reader_Move : X :=
  .seq (.ops [⟨(some 2), none, .mv (.const (Go.Value.int Go.IntKind.i64 0))⟩,
    ⟨(some 3), none, .mv (.const (Go.Value.int Go.IntKind.i64 0))⟩])
  (.seq (.block 0 (.seq (.ops [⟨(some 5), none, .mv (.tmp 0)⟩,
      ⟨(some 6), none, .eq false .ptr (.tmp 5) (.const (Go.Value.pointer none))⟩,
      ⟨(some 4), none, .mv (.tmp 6)⟩])
    (.cond (.tmp 4)
      (.seq (.ops [⟨(some 2), none, .mv (.const (Go.Value.int Go.IntKind.i64 0))⟩,
        ⟨(some 3), none, .mv (.const (Go.Value.int Go.IntKind.i64 2))⟩])
      (.ret))
      (.seq (.ops [⟨(some 8), none, .mv (.tmp 0)⟩,
        ⟨(some 9), none, .nilc (.tmp 8)⟩,
        ⟨(some 10), none, .fld (.tmp 9) 4⟩,
        ⟨(some 11), none, .ld (.tmp 10) none⟩,
        ⟨(some 12), none, .bin .eql 3 (.tmp 11) (.const (Go.Value.int Go.IntKind.i64 0))⟩,
        ⟨(some 7), none, .mv (.tmp 12)⟩])
      (.cond (.tmp 7)
        (.seq (.ops [⟨(some 13), none, .mv (.tmp 0)⟩,
          ⟨(some 14), none, .call 108 [(.tmp 13)]⟩,
          ⟨(some 15), none, .ext (.tmp 14) 0⟩,
          ⟨(some 16), none, .ext (.tmp 14) 1⟩,
          ⟨(some 2), none, .mv (.tmp 15)⟩,
          ⟨(some 3), none, .mv (.tmp 16)⟩])
        (.ret))
        (.seq (.drawn [(0, ⟨(some 18), none, .mv (.tmp 0)⟩),
          (1, ⟨(some 19), none, .nilc (.tmp 18)⟩),
          (2, ⟨(some 20), none, .fld (.tmp 19) 4⟩),
          (3, ⟨(some 21), none, .ld (.tmp 20) none⟩),
          (4, ⟨(some 22), none, .bin .eql 3 (.tmp 21) (.const (Go.Value.int Go.IntKind.i64 1))⟩),
          (5, ⟨(some 23), none, .mv (.tmp 22)⟩),
          (6, ⟨(some 24), (some (23, true)), .mv (.tmp 0)⟩),
          (7, ⟨(some 25), (some (23, true)), .nilc (.tmp 24)⟩),
          (8, ⟨(some 26), (some (23, true)), .fld (.tmp 25) 6⟩),
          (9, ⟨(some 27), (some (23, true)), .ld (.tmp 26) none⟩),
          (10, ⟨(some 28), (some (23, true)), .lenS (.tmp 27)⟩),
          (11, ⟨(some 29), (some (23, true)), .mv (.tmp 0)⟩),
          (12, ⟨(some 30), (some (23, true)), .nilc (.tmp 29)⟩),
          (13, ⟨(some 31), (some (23, true)), .fld (.tmp 30) 0⟩),
          (14, ⟨(some 32), (some (23, true)), .fld (.tmp 31) 3⟩),
          (15, ⟨(some 33), (some (23, true)), .ld (.tmp 32) none⟩),
          (16, ⟨(some 34), (some (23, true)), .bin .lss 3 (.tmp 28) (.tmp 33)⟩),
          (17, ⟨(some 35), none, .pick (.tmp 23) (.tmp 34) (.const (Go.Value.bool false))⟩),
          (18, ⟨(some 17), none, .mv (.tmp 35)⟩)]
          [[], [0], [1], [2], [3], [4], [5], [6, 5], [7, 5], [8, 5], [9, 5], [5], [11, 5], [12, 5], [13, 5], [14, 5], [10, 15, 5], [5, 16], [17, 5]]
          [0, 1, 3, 7, 15, 31, 63, 127, 255, 511, 1023, 63, 2111, 6207, 14399, 30783, 65535, 131071, 262143] 0)
        (.cond (.tmp 17)
          (.seq (.ops [⟨(some 36), none, .mv (.tmp 0)⟩,
            ⟨(some 37), none, .call 109 [(.tmp 36)]⟩,
            ⟨(some 38), none, .ext (.tmp 37) 0⟩,
            ⟨(some 39), none, .ext (.tmp 37) 1⟩,
            ⟨(some 2), none, .mv (.tmp 38)⟩,
            ⟨(some 3), none, .mv (.tmp 39)⟩])
          (.ret))
          (.seq (.ops [⟨(some 41), none, .mv (.tmp 0)⟩,
            ⟨(some 42), none, .nilc (.tmp 41)⟩,
            ⟨(some 43), none, .fld (.tmp 42) 4⟩,
            ⟨(some 44), none, .ld (.tmp 43) none⟩,
            ⟨(some 45), none, .bin .eql 3 (.tmp 44) (.const (Go.Value.int Go.IntKind.i64 1))⟩,
            ⟨(some 40), none, .mv (.tmp 45)⟩])
          (.cond (.tmp 40)
            (.seq (.ops [⟨(some 46), none, .mv (.tmp 0)⟩,
              ⟨(some 47), none, .call 110 [(.tmp 46)]⟩,
              ⟨(some 48), none, .ext (.tmp 47) 0⟩,
              ⟨(some 49), none, .ext (.tmp 47) 1⟩,
              ⟨(some 2), none, .mv (.tmp 48)⟩,
              ⟨(some 3), none, .mv (.tmp 49)⟩])
            (.ret))
            (.skip))))))))))
  (.seq (.ops [⟨(some 2), none, .mv (.const (Go.Value.int Go.IntKind.i64 2))⟩,
    ⟨(some 3), none, .mv (.const (Go.Value.int Go.IntKind.i64 0))⟩])
  (.ret)))
theorem is_inplace_Reader_Move : FnIs Try.prog F.inplace_Reader_Move X.inplace_Reader_Move 50 [.tmp 2, .tmp 3] := ⟨by kernel_rfl⟩

/-- (*haycroft/inplace.Reader).Value: function 49 -/
abbrev F.inplace_Reader_Value : FuncId := 49
def X.inplace_Reader_Value : X :=
  .seq (.ops [⟨(some 2), none, .mv (.const (Go.Value.string { data := #[] }))⟩])
  (.seq (.seq (.ops [⟨(some 3), none, .mv (.tmp 0)⟩,
    ⟨(some 4), none, .eq false .ptr (.tmp 3) (.const (Go.Value.pointer none))⟩])
  (.cond (.tmp 4)
    (.seq (.ops [⟨(some 2), none, .mv (.const (Go.Value.string { data := #[] }))⟩])
    (.ret))
    (.skip)))
  (.seq (.ops [⟨(some 5), none, .mv (.tmp 0)⟩,
    ⟨(some 6), none, .nilc (.tmp 5)⟩,
    ⟨(some 7), none, .fld (.tmp 6) 8⟩,
    ⟨(some 8), none, .ld (.tmp 7) none⟩,
    ⟨(some 2), none, .mv (.tmp 8)⟩])
  (.ret)))
theorem is_inplace_Reader_Value : FnIs Try.prog F.inplace_Reader_Value X.inplace_Reader_Value 9 [.tmp 2] := ⟨by kernel_rfl⟩

/-- haycroft/haycroftlaw18.InplaceMay: function 8 -/
abbrev F.law18_InplaceMay : FuncId := 8
def X.law18_InplaceMay : X :=
  .seq (.ops [⟨(some 8), none, .mv (.const (Go.Value.bool false))⟩])
  (.seq (.seq (.ops [⟨(some 29), none, .call 40 []⟩,
    ⟨(some 30), none, .un .not (.tmp 29)⟩])
  (.cond (.tmp 30)
    (.seq (.ops [⟨(some 8), none, .mv (.const (Go.Value.bool false))⟩])
    (.ret))
    (.skip)))
  (.seq (.seq (.ops [⟨(some 31), none, .mv (.tmp 2)⟩,
    ⟨(some 32), none, .lenB (.tmp 31)⟩,
    ⟨(some 33), none, .bin .gtr 3 (.tmp 32) (.const (Go.Value.int Go.IntKind.i64 1000))⟩])
  (.cond (.tmp 33)
    (.seq (.ops [⟨(some 8), none, .mv (.const (Go.Value.bool true))⟩])
    (.ret))
    (.skip)))
  (.seq (.ops [⟨(some 35), none, .call 41 [(.const (Go.Value.int Go.IntKind.i64 5)), (.const (Go.Value.int Go.IntKind.i64 2))]⟩,
    ⟨(some 34), none, .mv (.tmp 35)⟩,
    ⟨(some 36), none, .ext (.tmp 34) 0⟩,
    ⟨(some 37), none, .ext (.tmp 34) 1⟩,
    ⟨(some 9), none, .mv (.tmp 36)⟩,
    ⟨(some 10), none, .mv (.tmp 37)⟩])
  (.seq (.ops [⟨(some 39), none, .mv (.tmp 9)⟩,
    ⟨(some 40), none, .mv (.tmp 0)⟩,
    ⟨(some 41), none, .mv (.tmp 1)⟩,
    ⟨(some 42), none, .mv (.tmp 2)⟩,
    ⟨(some 43), none, .call 42 [(.tmp 39), (.tmp 40), (.tmp 41), (.tmp 42)]⟩,
    ⟨(some 38), none, .mv (.tmp 43)⟩,
    ⟨(some 44), none, .ext (.tmp 38) 0⟩,
    ⟨(some 45), none, .ext (.tmp 38) 1⟩,
    ⟨(some 11), none, .mv (.tmp 44)⟩,
    ⟨(some 12), none, .mv (.tmp 45)⟩])
  (.seq (.ops [⟨(some 47), none, .mv (.tmp 9)⟩,
    ⟨(some 48), none, .mv (.tmp 0)⟩,
    ⟨(some 49), none, .mv (.tmp 1)⟩,
    ⟨(some 50), none, .mv (.tmp 3)⟩,
    ⟨(some 51), none, .call 43 [(.tmp 47), (.tmp 48), (.tmp 49), (.tmp 50)]⟩,
    ⟨(some 46), none, .mv (.tmp 51)⟩,
    ⟨(some 52), none, .ext (.tmp 46) 0⟩,
    ⟨(some 53), none, .ext (.tmp 46) 1⟩,
    ⟨(some 13), none, .mv (.tmp 52)⟩,
    ⟨(some 14), none, .mv (.tmp 53)⟩])
  (.seq (.ops [⟨(some 55), none, .mv (.tmp 9)⟩,
    ⟨(some 56), none, .mv (.tmp 0)⟩,
    ⟨(some 57), none, .mv (.tmp 1)⟩,
    ⟨(some 58), none, .call 44 [(.tmp 55), (.tmp 56), (.tmp 57), (.const (Go.Value.int Go.IntKind.u64 1))]⟩,
    ⟨(some 54), none, .mv (.tmp 58)⟩,
    ⟨(some 59), none, .ext (.tmp 54) 0⟩,
    ⟨(some 60), none, .ext (.tmp 54) 1⟩,
    ⟨(some 15), none, .mv (.tmp 59)⟩,
    ⟨(some 16), none, .mv (.tmp 60)⟩])
  (.seq (.seq (.ops [⟨(some 61), none, .mv (.tmp 12)⟩,
    ⟨(some 62), none, .bin .eql 25 (.tmp 61) (.const (Go.Value.int Go.IntKind.i64 0))⟩,
    ⟨(some 63), none, .mv (.tmp 0)⟩,
    ⟨(some 64), none, .mv (.tmp 1)⟩,
    ⟨(some 65), none, .mv (.tmp 2)⟩,
    ⟨(some 66), none, .lenB (.tmp 65)⟩,
    ⟨(some 67), none, .call 45 [(.const (Go.Value.int Go.IntKind.i64 32)), (.tmp 63), (.tmp 64), (.tmp 66)]⟩,
    ⟨(some 68), none, .eq true .bool (.tmp 62) (.tmp 67)⟩,
    ⟨(some 69), none, .mv (.tmp 68)⟩,
    ⟨(some 70), (some (69, false)), .mv (.tmp 14)⟩,
    ⟨(some 71), (some (69, false)), .bin .eql 25 (.tmp 70) (.const (Go.Value.int Go.IntKind.i64 0))⟩,
    ⟨(some 72), (some (69, false)), .mv (.tmp 0)⟩,
    ⟨(some 73), (some (69, false)), .mv (.tmp 1)⟩,
    ⟨(some 74), (some (69, false)), .mv (.tmp 3)⟩,
    ⟨(some 75), (some (69, false)), .call 45 [(.const (Go.Value.int Go.IntKind.i64 32)), (.tmp 72), (.tmp 73), (.tmp 74)]⟩,
    ⟨(some 76), (some (69, false)), .eq true .bool (.tmp 71) (.tmp 75)⟩,
    ⟨(some 77), none, .pick (.tmp 69) (.const (Go.Value.bool true)) (.tmp 76)⟩,
    ⟨(some 78), none, .mv (.tmp 77)⟩,
    ⟨(some 79), (some (78, false)), .mv (.tmp 16)⟩,
    ⟨(some 80), (some (78, false)), .bin .eql 25 (.tmp 79) (.const (Go.Value.int Go.IntKind.i64 0))⟩,
    ⟨(some 81), (some (78, false)), .mv (.tmp 0)⟩,
    ⟨(some 82), (some (78, false)), .mv (.tmp 1)⟩,
    ⟨(some 83), (some (78, false)), .call 45 [(.const (Go.Value.int Go.IntKind.i64 32)), (.tmp 81), (.tmp 82), (.const (Go.Value.int Go.IntKind.i64 8))]⟩,
    ⟨(some 84), (some (78, false)), .eq true .bool (.tmp 80) (.tmp 83)⟩,
    ⟨(some 85), none, .pick (.tmp 78) (.const (Go.Value.bool true)) (.tmp 84)⟩])
  (.cond (.tmp 85)
    (.seq (.ops [⟨(some 8), none, .mv (.const (Go.Value.bool false))⟩])
    (.ret))
    (.skip)))
  (.seq (.seq (.ops [⟨(some 86), none, .mv (.tmp 12)⟩,
    ⟨(some 87), none, .bin .neq 25 (.tmp 86) (.const (Go.Value.int Go.IntKind.i64 0))⟩,
    ⟨(some 88), none, .mv (.tmp 87)⟩,
    ⟨(some 89), (some (88, true)), .mv (.tmp 11)⟩,
    ⟨(some 90), (some (88, true)), .eq true .ptr (.tmp 89) (.const (Go.Value.pointer none))⟩,
    ⟨(some 91), (some (88, true)), .mv (.tmp 90)⟩,
    ⟨(some 92), (some (91, false)), .mv (.tmp 12)⟩,
    ⟨(some 93), (some (91, false)), .bin .neq 25 (.tmp 92) (.const (Go.Value.int Go.IntKind.i64 1))⟩,
    ⟨(some 94), (some (88, true)), .pick (.tmp 91) (.const (Go.Value.bool true)) (.tmp 93)⟩,
    ⟨(some 95), none, .pick (.tmp 88) (.tmp 94) (.const (Go.Value.bool false))⟩,
    ⟨(some 96), none, .mv (.tmp 95)⟩,
    ⟨(some 97), (some (96, false)), .mv (.tmp 14)⟩,
    ⟨(some 98), (some (96, false)), .bin .neq 25 (.tmp 97) (.const (Go.Value.int Go.IntKind.i64 0))⟩,
    ⟨(some 99), (some (96, false)), .mv (.tmp 98)⟩,
    ⟨(some 100), (some (99, true)), .mv (.tmp 13)⟩,
    ⟨(some 101), (some (99, true)), .eq true .ptr (.tmp 100) (.const (Go.Value.pointer none))⟩,
    ⟨(some 102), (some (99, true)), .mv (.tmp 101)⟩,
    ⟨(some 103), (some (102, false)), .mv (.tmp 14)⟩,
    ⟨(some 104), (some (102, false)), .bin .neq 25 (.tmp 103) (.const (Go.Value.int Go.IntKind.i64 1))⟩,
    ⟨(some 105), (some (99, true)), .pick (.tmp 102) (.const (Go.Value.bool true)) (.tmp 104)⟩,
    ⟨(some 106), (some (96, false)), .pick (.tmp 99) (.tmp 105) (.const (Go.Value.bool false))⟩,
    ⟨(some 107), none, .pick (.tmp 96) (.const (Go.Value.bool true)) (.tmp 106)⟩,
    ⟨(some 108), none, .mv (.tmp 107)⟩,
    ⟨(some 109), (some (108, false)), .mv (.tmp 16)⟩,
    ⟨(some 110), (some (108, false)), .bin .neq 25 (.tmp 109) (.const (Go.Value.int Go.IntKind.i64 0))⟩,
    ⟨(some 111), (some (108, false)), .mv (.tmp 110)⟩,
    ⟨(some 112), (some (111, true)), .mv (.tmp 15)⟩,
    ⟨(some 113), (some (111, true)), .eq true .ptr (.tmp 112) (.const (Go.Value.pointer none))⟩,
    ⟨(some 114), (some (111, true)), .mv (.tmp 113)⟩,
    ⟨(some 115), (some (114, false)), .mv (.tmp 16)⟩,
    ⟨(some 116), (some (114, false)), .bin .neq 25 (.tmp 115) (.const (Go.Value.int Go.IntKind.i64 1))⟩,
    ⟨(some 117), (some (111, true)), .pick (.tmp 114) (.const (Go.Value.bool true)) (.tmp 116)⟩,
    ⟨(some 118), (some (108, false)), .pick (.tmp 111) (.tmp 117) (.const (Go.Value.bool false))⟩,
    ⟨(some 119), none, .pick (.tmp 108) (.const (Go.Value.bool true)) (.tmp 118)⟩])
  (.cond (.tmp 119)
    (.seq (.ops [⟨(some 8), none, .mv (.const (Go.Value.bool false))⟩])
    (.ret))
    (.skip)))
  (.seq (.seq (.ops [⟨(some 120), none, .mv (.tmp 12)⟩,
    ⟨(some 121), none, .bin .eql 25 (.tmp 120) (.const (Go.Value.int Go.IntKind.i64 0))⟩])
  (.cond (.tmp 121)
    (.seq (.ops [⟨(some 123), none, .mv (.tmp 11)⟩,
      ⟨(some 124), none, .call 46 [(.tmp 123)]⟩,
      ⟨(some 122), none, .mv (.tmp 124)⟩,
      ⟨(some 125), none, .ext (.tmp 122) 0⟩,
      ⟨(some 126), none, .ext (.tmp 122) 1⟩,
      ⟨(some 17), none, .mv (.tmp 125)⟩,
      ⟨(some 18), none, .mv (.tmp 126)⟩])
    (.seq (.ops [⟨(some 127), none, .mv (.tmp 17)⟩,
      ⟨(some 128), none, .bin .neq 3 (.tmp 127) (.const (Go.Value.int Go.IntKind.i64 0))⟩,
      ⟨(some 129), none, .mv (.tmp 128)⟩,
      ⟨(some 130), (some (129, false)), .mv (.tmp 18)⟩,
      ⟨(some 131), (some (129, false)), .bin .neq 25 (.tmp 130) (.const (Go.Value.int Go.IntKind.i64 7))⟩,
      ⟨(some 132), none, .pick (.tmp 129) (.const (Go.Value.bool true)) (.tmp 131)⟩,
      ⟨(some 133), none, .mv (.tmp 132)⟩,
      ⟨(some 134), (some (133, false)), .mv (.tmp 11)⟩,
      ⟨(some 135), (some (133, false)), .call 47 [(.tmp 134)]⟩,
      ⟨(some 136), none, .pick (.tmp 133) (.const (Go.Value.bool true)) (.tmp 135)⟩])
    (.cond (.tmp 136)
      (.seq (.ops [⟨(some 8), none, .mv (.const (Go.Value.bool false))⟩])
      (.ret))
      (.skip))))
    (.skip)))
  (.seq (.seq (.ops [⟨(some 137), none, .mv (.tmp 14)⟩,
    ⟨(some 138), none, .bin .eql 25 (.tmp 137) (.const (Go.Value.int Go.IntKind.i64 0))⟩])
  (.cond (.tmp 138)
    (.seq (.ops [⟨(some 140), none, .mv (.tmp 13)⟩,
      ⟨(some 141), none, .call 48 [(.tmp 140)]⟩,
      ⟨(some 139), none, .mv (.tmp 141)⟩,
      ⟨(some 142), none, .ext (.tmp 139) 0⟩,
      ⟨(some 143), none, .ext (.tmp 139) 1⟩,
      ⟨(some 19), none, .mv (.tmp 142)⟩,
      ⟨(some 20), none, .mv (.tmp 143)⟩])
    (.seq (.ops [⟨(some 144), none, .mv (.tmp 19)⟩,
      ⟨(some 145), none, .bin .neq 3 (.tmp 144) (.const (Go.Value.int Go.IntKind.i64 0))⟩,
      ⟨(some 146), none, .mv (.tmp 145)⟩,
      ⟨(some 147), (some (146, false)), .mv (.tmp 20)⟩,
      ⟨(some 148), (some (146, false)), .bin .neq 25 (.tmp 147) (.const (Go.Value.int Go.IntKind.i64 7))⟩,
      ⟨(some 149), none, .pick (.tmp 146) (.const (Go.Value.bool true)) (.tmp 148)⟩,
      ⟨(some 150), none, .mv (.tmp 149)⟩,
      ⟨(some 151), (some (150, false)), .mv (.tmp 13)⟩,
      ⟨(some 152), (some (150, false)), .call 49 [(.tmp 151)]⟩,
      ⟨(some 153), (some (150, false)), .bin .neq 9 (.tmp 152) (.const (Go.Value.string { data := #[] }))⟩,
      ⟨(some 154), none, .pick (.tmp 150) (.const (Go.Value.bool true)) (.tmp 153)⟩])
    (.cond (.tmp 154)
      (.seq (.ops [⟨(some 8), none, .mv (.const (Go.Value.bool false))⟩])
      (.ret))
      (.skip))))
    (.skip)))
  (.seq (.ops [⟨(some 21), none, .mv (.const (Go.Value.pointer none))⟩])
  (.seq (.ops [⟨(some 22), none, .mv (.const (Go.Value.pointer none))⟩])
  (.seq (.ops [⟨(some 156), none, .mv (.tmp 21)⟩,
    ⟨(some 157), none, .call 46 [(.tmp 156)]⟩,
    ⟨(some 155), none, .mv (.tmp 157)⟩,
    ⟨(some 158), none, .ext (.tmp 155) 0⟩,
    ⟨(some 159), none, .ext (.tmp 155) 1⟩,
    ⟨(some 23), none, .mv (.tmp 158)⟩,
    ⟨(some 24), none, .mv (.tmp 159)⟩])
  (.seq (.ops [⟨(some 161), none, .mv (.tmp 22)⟩,
    ⟨(some 162), none, .call 48 [(.tmp 161)]⟩,
    ⟨(some 160), none, .mv (.tmp 162)⟩,
    ⟨(some 163), none, .ext (.tmp 160) 0⟩,
    ⟨(some 164), none, .ext (.tmp 160) 1⟩,
    ⟨(some 25), none, .mv (.tmp 163)⟩,
    ⟨(some 26), none, .mv (.tmp 164)⟩])
  (.seq (.ops [⟨(some 166), none, .mv (.tmp 0)⟩,
    ⟨(some 167), none, .mv (.tmp 1)⟩,
    ⟨(some 168), none, .mv (.tmp 3)⟩,
    ⟨(some 169), none, .call 43 [(.const (Go.Value.pointer none)), (.tmp 166), (.tmp 167), (.tmp 168)]⟩,
    ⟨(some 165), none, .mv (.tmp 169)⟩,
    ⟨(some 170), none, .ext (.tmp 165) 0⟩,
    ⟨(some 171), none, .ext (.tmp 165) 1⟩,
    ⟨(some 27), none, .mv (.tmp 170)⟩,
    ⟨(some 28), none, .mv (.tmp 171)⟩])
  (.seq (.ops [⟨(some 172), none, .mv (.tmp 23)⟩,
    ⟨(some 173), none, .bin .eql 3 (.tmp 172) (.const (Go.Value.int Go.IntKind.i64 0))⟩,
    ⟨(some 174), none, .mv (.tmp 173)⟩,
    ⟨(some 175), (some (174, true)), .mv (.tmp 24)⟩,
    ⟨(some 176), (some (174, true)), .bin .eql 25 (.tmp 175) (.const (Go.Value.int Go.IntKind.i64 2))⟩,
    ⟨(some 177), none, .pick (.tmp 174) (.tmp 176) (.const (Go.Value.bool false))⟩,
    ⟨(some 178), none, .mv (.tmp 177)⟩,
    ⟨(some 179), (some (178, true)), .mv (.tmp 25)⟩,
    ⟨(some 180), (some (178, true)), .bin .eql 3 (.tmp 179) (.const (Go.Value.int Go.IntKind.i64 0))⟩,
    ⟨(some 181), none, .pick (.tmp 178) (.tmp 180) (.const (Go.Value.bool false))⟩,
    ⟨(some 182), none, .mv (.tmp 181)⟩,
    ⟨(some 183), (some (182, true)), .mv (.tmp 26)⟩,
    ⟨(some 184), (some (182, true)), .bin .eql 25 (.tmp 183) (.const (Go.Value.int Go.IntKind.i64 2))⟩,
    ⟨(some 185), none, .pick (.tmp 182) (.tmp 184) (.const (Go.Value.bool false))⟩,
    ⟨(some 186), none, .mv (.tmp 185)⟩,
    ⟨(some 187), (some (186, true)), .mv (.tmp 28)⟩,
    ⟨(some 188), (some (186, true)), .bin .eql 25 (.tmp 187) (.const (Go.Value.int Go.IntKind.i64 2))⟩,
    ⟨(some 189), none, .pick (.tmp 186) (.tmp 188) (.const (Go.Value.bool false))⟩,
    ⟨(some 190), none, .mv (.tmp 189)⟩,
    ⟨(some 191), (some (190, true)), .mv (.tmp 21)⟩,
    ⟨(some 192), (some (190, true)), .call 47 [(.tmp 191)]⟩,
    ⟨(some 193), (some (190, true)), .un .not (.tmp 192)⟩,
    ⟨(some 194), none, .pick (.tmp 190) (.tmp 193) (.const (Go.Value.bool false))⟩,
    ⟨(some 195), none, .mv (.tmp 194)⟩,
    ⟨(some 196), (some (195, true)), .mv (.tmp 22)⟩,
    ⟨(some 197), (some (195, true)), .call 49 [(.tmp 196)]⟩,
    ⟨(some 198), (some (195, true)), .bin .eql 9 (.tmp 197) (.const (Go.Value.string { data := #[] }))⟩,
    ⟨(some 199), none, .pick (.tmp 195) (.tmp 198) (.const (Go.Value.bool false))⟩,
    ⟨(some 8), none, .mv (.tmp 199)⟩])
  (.ret)))))))))))))))))
theorem is_law18_InplaceMay : FnIs Try.prog F.law18_InplaceMay X.law18_InplaceMay 200 [.tmp 8] := ⟨by kernel_rfl⟩

/-- haycroft/haycroftref18.Of: function 111 -/
abbrev F.ref18_Of : FuncId := 111
def X.ref18_Of : X :=
  .seq (.ops [⟨(some 2), none, .mv (.const (Go.Value.pointer none))⟩])
  (.seq (.ops [⟨(some 3), none, .mv (.tmp 0)⟩,
    ⟨(some 4), none, .call 113 [(.tmp 3)]⟩,
    ⟨(some 5), none, .bld [(Go.Value.bool false), (Go.Value.int Go.IntKind.u64 0), (Go.Value.slice none 0 0)] [(2, 1, (.tmp 4))]⟩,
    ⟨(some 6), none, .box 111 (.tmp 5)⟩,
    ⟨(some 2), none, .mv (.tmp 6)⟩])
  (.ret))
theorem is_ref18_Of : FnIs Try.prog F.ref18_Of X.ref18_Of 7 [.tmp 2] := ⟨by kernel_rfl⟩

/-- haycroft/haycroftlaw18.fit: function 112 -/
abbrev F.law18_fit : FuncId := 112
def X.law18_fit : X :=
  .seq (.ops [⟨(some 4), none, .mv (.const (Go.Value.string { data := #[] }))⟩])
  (.seq (.seq (.ops [⟨(some 5), none, .mv (.tmp 0)⟩,
    ⟨(some 6), none, .lenB (.tmp 5)⟩,
    ⟨(some 7), none, .mv (.tmp 1)⟩,
    ⟨(some 8), none, .bin .geq 3 (.tmp 6) (.tmp 7)⟩])
  (.cond (.tmp 8)
    (.seq (.ops [⟨(some 9), none, .mv (.tmp 0)⟩,
      ⟨(some 10), none, .mv (.tmp 1)⟩,
      ⟨(some 11), none, .sls (.tmp 9) none (some (.tmp 10))⟩,
      ⟨(some 4), none, .mv (.tmp 11)⟩])
    (.ret))
    (.skip)))
  (.seq (.ops [⟨(some 12), none, .mv (.tmp 0)⟩,
    ⟨(some 13), none, .mv (.tmp 1)⟩,
    ⟨(some 14), none, .mv (.tmp 0)⟩,
    ⟨(some 15), none, .lenB (.tmp 14)⟩,
    ⟨(some 16), none, .bin .sub 3 (.tmp 13) (.tmp 15)⟩,
    ⟨(some 17), none, .mks 5 1 1 [(Go.Value.int Go.IntKind.u8 0)] (.tmp 16) (.tmp 16)⟩,
    ⟨(some 18), none, .b2s (.tmp 17)⟩,
    ⟨(some 19), none, .bin .add 9 (.tmp 12) (.tmp 18)⟩,
    ⟨(some 4), none, .mv (.tmp 19)⟩])
  (.ret)))
theorem is_law18_fit : FnIs Try.prog F.law18_fit X.law18_fit 20 [.tmp 4] := ⟨by kernel_rfl⟩

-- loop (inner ones first): [0, 1, 6, 7, 8, 9]
/-- haycroft/haycroftlaw18.open: function 50 -/
abbrev F.law18_open : FuncId := 50
def X.law18_open : X :=
  .seq (.ops [⟨(some 4), none, .mv (.const (Go.Value.pointer none))⟩,
    ⟨(some 5), none, .mv (.const (Go.Value.bool false))⟩])
  (.seq (.ops [⟨(some 16), none, .mv (.tmp 0)⟩,
    ⟨(some 17), none, .call 97 [(.tmp 16)]⟩,
    ⟨(some 15), none, .mv (.tmp 17)⟩,
    ⟨(some 18), none, .ext (.tmp 15) 0⟩,
    ⟨(some 19), none, .ext (.tmp 15) 1⟩,
    ⟨(some 6), none, .mv (.tmp 18)⟩,
    ⟨(some 7), none, .mv (.tmp 19)⟩])
  (.seq (.ops [⟨(some 20), none, .mv (.tmp 6)⟩,
    ⟨(some 21), none, .mv (.tmp 0)⟩,
    ⟨(some 22), none, .call 111 [(.tmp 21)]⟩,
    ⟨(some 23), none, .bld [(Go.Value.pointer none), (Go.Value.pointer none), (Go.Value.slice none 0 0), (Go.Value.slice none 0 0), (Go.Value.slice none 0 0)] [(0, 1, (.tmp 20)), (1, 1, (.tmp 22))]⟩,
    ⟨(some 24), none, .box 102 (.tmp 23)⟩,
    ⟨(some 8), none, .mv (.tmp 24)⟩])
  (.seq (.seq (.ops [⟨(some 9), none, .mv (.const (Go.Value.int Go.IntKind.i64 0))⟩])
  (.block 0 (.loop (.seq (.seq (.ops [⟨(some 25), none, .mv (.tmp 9)⟩,
        ⟨(some 26), none, .mv (.tmp 1)⟩,
        ⟨(some 27), none, .lenS (.tmp 26)⟩,
        ⟨(some 28), none, .bin .lss 3 (.tmp 25) (.tmp 27)⟩,
        ⟨(some 29), none, .mv (.tmp 28)⟩,
        ⟨(some 30), (some (29, true)), .mv (.tmp 9)⟩,
        ⟨(some 31), (some (29, true)), .bin .lss 3 (.tmp 30) (.const (Go.Value.int Go.IntKind.i64 6))⟩,
        ⟨(some 32), none, .pick (.tmp 29) (.tmp 31) (.const (Go.Value.bool false))⟩,
        ⟨(some 33), none, .mv (.tmp 32)⟩,
        ⟨(some 34), (some (33, true)), .mv (.tmp 7)⟩,
        ⟨(some 35), none, .pick (.tmp 33) (.tmp 34) (.const (Go.Value.bool false))⟩])
      (.cond (.tmp 35)
        (.skip)
        (.exit 0)))
      (.seq (.block 1 (.seq (.ops [⟨(some 10), none, .mv (.const (Go.Value.pointer none))⟩])
        (.seq (.ops [⟨(some 11), none, .mv (.const (Go.Value.pointer none))⟩])
        (.seq (.ops [⟨(some 38), none, .bld [(Go.Value.bool false), (Go.Value.bool false), (Go.Value.int Go.IntKind.u64 0), (Go.Value.slice none 0 0), (Go.Value.int Go.IntKind.i64 0), (Go.Value.bool false), (Go.Value.int Go.IntKind.u64 0), (Go.Value.slice none 0 0)] []⟩,
          ⟨(some 39), none, .box 105 (.tmp 38)⟩,
          ⟨(some 12), none, .mv (.tmp 39)⟩])
        (.seq (.ops [⟨(some 13), none, .mv (.const (Go.Value.int Go.IntKind.i64 0))⟩])
        (.seq (.seq (.ops [⟨(some 40), none, .mv (.tmp 1)⟩,
          ⟨(some 41), none, .mv (.tmp 9)⟩,
          ⟨(some 42), none, .idx (.tmp 40) (.tmp 41) 3⟩,
          ⟨(some 43), none, .fld (.tmp 42) 0⟩,
          ⟨(some 44), none, .ld (.tmp 43) none⟩])
        (.block 2 (.seq (.ops [⟨(some 56), none, .bin .eql 3 (.tmp 44) (.const (Go.Value.int Go.IntKind.i64 1))⟩,
            ⟨(some 55), none, .mv (.tmp 56)⟩])
          (.cond (.tmp 55)
            (.seq (.ops [⟨(some 57), none, .mv (.tmp 1)⟩,
              ⟨(some 58), none, .mv (.tmp 9)⟩,
              ⟨(some 59), none, .idx (.tmp 57) (.tmp 58) 3⟩,
              ⟨(some 60), none, .fld (.tmp 59) 1⟩,
              ⟨(some 61), none, .ld (.tmp 60) none⟩,
              ⟨(some 62), none, .mv (.tmp 0)⟩,
              ⟨(some 63), none, .lenB (.tmp 62)⟩,
              ⟨(some 64), none, .call 112 [(.tmp 61), (.tmp 63)]⟩,
              ⟨(some 14), none, .mv (.tmp 64)⟩])
            (.seq (.ops [⟨(some 66), none, .mv (.tmp 6)⟩,
              ⟨(some 67), none, .mv (.tmp 14)⟩,
              ⟨(some 68), none, .call 42 [(.tmp 66), (.const (Go.Value.int Go.IntKind.u64 1)), (.const (Go.Value.int Go.IntKind.i64 1)), (.tmp 67)]⟩,
              ⟨(some 65), none, .mv (.tmp 68)⟩,
              ⟨(some 69), none, .ext (.tmp 65) 0⟩,
              ⟨(some 70), none, .ext (.tmp 65) 1⟩,
              ⟨(some 10), none, .mv (.tmp 69)⟩,
              ⟨(some 13), none, .mv (.tmp 70)⟩])
            (.ops [⟨(some 71), none, .mv (.tmp 12)⟩,
              ⟨(some 72), none, .mv (.tmp 14)⟩,
              ⟨(some 73), none, .call 113 [(.tmp 72)]⟩,
              ⟨(some 74), none, .nilc (.tmp 71)⟩,
              ⟨(some 75), none, .fld (.tmp 74) 3⟩,
              ⟨none, none, .st (.tmp 75) (.tmp 73) 1⟩])))
            (.seq (.ops [⟨(some 77), none, .bin .eql 3 (.tmp 44) (.const (Go.Value.int Go.IntKind.i64 2))⟩,
              ⟨(some 76), none, .mv (.tmp 77)⟩])
            (.cond (.tmp 76)
              (.seq (.seq (.ops [⟨(some 78), none, .mv (.tmp 0)⟩,
                ⟨(some 79), none, .lenB (.tmp 78)⟩,
                ⟨(some 80), none, .bin .neq 3 (.tmp 79) (.const (Go.Value.int Go.IntKind.i64 8))⟩])
              (.cond (.tmp 80)
                (.exit 1)
                (.skip)))
              (.seq (.ops [⟨(some 82), none, .mv (.tmp 6)⟩,
                ⟨(some 83), none, .mv (.tmp 1)⟩,
                ⟨(some 84), none, .mv (.tmp 9)⟩,
                ⟨(some 85), none, .idx (.tmp 83) (.tmp 84) 3⟩,
                ⟨(some 86), none, .fld (.tmp 85) 2⟩,
                ⟨(some 87), none, .ld (.tmp 86) none⟩,
                ⟨(some 88), none, .call 44 [(.tmp 82), (.const (Go.Value.int Go.IntKind.u64 1)), (.const (Go.Value.int Go.IntKind.i64 1)), (.tmp 87)]⟩,
                ⟨(some 81), none, .mv (.tmp 88)⟩,
                ⟨(some 89), none, .ext (.tmp 81) 0⟩,
                ⟨(some 90), none, .ext (.tmp 81) 1⟩,
                ⟨(some 10), none, .mv (.tmp 89)⟩,
                ⟨(some 13), none, .mv (.tmp 90)⟩])
              (.seq (.ops [⟨(some 91), none, .mv (.tmp 12)⟩,
                ⟨(some 92), none, .nilc (.tmp 91)⟩,
                ⟨(some 93), none, .fld (.tmp 92) 1⟩,
                ⟨none, none, .st (.tmp 93) (.const (Go.Value.bool true)) 1⟩])
              (.ops [⟨(some 94), none, .mv (.tmp 12)⟩,
                ⟨(some 95), none, .mv (.tmp 1)⟩,
                ⟨(some 96), none, .mv (.tmp 9)⟩,
                ⟨(some 97), none, .idx (.tmp 95) (.tmp 96) 3⟩,
                ⟨(some 98), none, .fld (.tmp 97) 2⟩,
                ⟨(some 99), none, .ld (.tmp 98) none⟩,
                ⟨(some 100), none, .nilc (.tmp 94)⟩,
                ⟨(some 101), none, .fld (.tmp 100) 2⟩,
                ⟨none, none, .st (.tmp 101) (.tmp 99) 1⟩]))))
              (.seq (.ops [⟨(some 46), none, .mv (.tmp 6)⟩,
                ⟨(some 47), none, .mv (.tmp 0)⟩,
                ⟨(some 48), none, .lenB (.tmp 47)⟩,
                ⟨(some 49), none, .call 43 [(.tmp 46), (.const (Go.Value.int Go.IntKind.u64 1)), (.const (Go.Value.int Go.IntKind.i64 1)), (.tmp 48)]⟩,
                ⟨(some 45), none, .mv (.tmp 49)⟩,
                ⟨(some 50), none, .ext (.tmp 45) 0⟩,
                ⟨(some 51), none, .ext (.tmp 45) 1⟩,
                ⟨(some 11), none, .mv (.tmp 50)⟩,
                ⟨(some 13), none, .mv (.tmp 51)⟩])
              (.ops [⟨(some 52), none, .mv (.tmp 12)⟩,
                ⟨(some 53), none, .nilc (.tmp 52)⟩,
                ⟨(some 54), none, .fld (.tmp 53) 0⟩,
                ⟨none, none, .st (.tmp 54) (.const (Go.Value.bool true)) 1⟩]))))))))
        (.seq (.seq (.ops [⟨(some 102), none, .mv (.tmp 13)⟩,
          ⟨(some 103), none, .bin .neq 25 (.tmp 102) (.const (Go.Value.int Go.IntKind.i64 0))⟩])
        (.cond (.tmp 103)
          (.seq (.ops [⟨(some 104), none, .mv (.tmp 8)⟩,
            ⟨(some 4), none, .mv (.tmp 104)⟩,
            ⟨(some 5), none, .mv (.const (Go.Value.bool false))⟩])
          (.ret))
          (.skip)))
        (.seq (.ops [⟨(some 105), none, .mv (.tmp 8)⟩,
          ⟨(some 106), none, .mv (.tmp 8)⟩,
          ⟨(some 107), none, .nilc (.tmp 106)⟩,
          ⟨(some 108), none, .fld (.tmp 107) 2⟩,
          ⟨(some 109), none, .ld (.tmp 108) none⟩,
          ⟨(some 110), none, .mv (.tmp 10)⟩,
          ⟨(some 111), none, .bsl 78 1 1 [(Go.Value.pointer none)] [(0, (.tmp 110))]⟩,
          ⟨(some 112), none, .app 78 1 8 [(Go.Value.pointer none)] (.tmp 109) (.tmp 111)⟩,
          ⟨(some 113), none, .nilc (.tmp 105)⟩,
          ⟨(some 114), none, .fld (.tmp 113) 2⟩,
          ⟨none, none, .st (.tmp 114) (.tmp 112) 1⟩])
        (.seq (.ops [⟨(some 115), none, .mv (.tmp 8)⟩,
          ⟨(some 116), none, .mv (.tmp 8)⟩,
          ⟨(some 117), none, .nilc (.tmp 116)⟩,
          ⟨(some 118), none, .fld (.tmp 117) 3⟩,
          ⟨(some 119), none, .ld (.tmp 118) none⟩,
          ⟨(some 120), none, .mv (.tmp 11)⟩,
          ⟨(some 121), none, .bsl 81 1 1 [(Go.Value.pointer none)] [(0, (.tmp 120))]⟩,
          ⟨(some 122), none, .app 81 1 8 [(Go.Value.pointer none)] (.tmp 119) (.tmp 121)⟩,
          ⟨(some 123), none, .nilc (.tmp 115)⟩,
          ⟨(some 124), none, .fld (.tmp 123) 3⟩,
          ⟨none, none, .st (.tmp 124) (.tmp 122) 1⟩])
        (.ops [⟨(some 125), none, .mv (.tmp 8)⟩,
          ⟨(some 126), none, .mv (.tmp 8)⟩,
          ⟨(some 127), none, .nilc (.tmp 126)⟩,
          ⟨(some 128), none, .fld (.tmp 127) 4⟩,
          ⟨(some 129), none, .ld (.tmp 128) none⟩,
          ⟨(some 130), none, .mv (.tmp 12)⟩,
          ⟨(some 131), none, .bsl 106 1 1 [(Go.Value.pointer none)] [(0, (.tmp 130))]⟩,
          ⟨(some 132), none, .app 106 1 8 [(Go.Value.pointer none)] (.tmp 129) (.tmp 131)⟩,
          ⟨(some 133), none, .nilc (.tmp 125)⟩,
          ⟨(some 134), none, .fld (.tmp 133) 4⟩,
          ⟨none, none, .st (.tmp 134) (.tmp 132) 1⟩]))))))))))
      (.ops [⟨(some 36), none, .mv (.tmp 9)⟩,
        ⟨(some 37), none, .bin .add 3 (.tmp 36) (.const (Go.Value.int Go.IntKind.i64 1))⟩,
        ⟨(some 9), none, .mv (.tmp 37)⟩]))))))
  (.seq (.ops [⟨(some 135), none, .mv (.tmp 8)⟩,
    ⟨(some 136), none, .mv (.tmp 7)⟩,
    ⟨(some 4), none, .mv (.tmp 135)⟩,
    ⟨(some 5), none, .mv (.tmp 136)⟩])
  (.ret)))))
theorem is_law18_open : FnIs Try.prog F.law18_open X.law18_open 137 [.tmp 4, .tmp 5] := ⟨by kernel_rfl⟩

/-- (*haycroft/haycroftlaw18.scene).move: function 52 -/
abbrev F.law18_scene_move : FuncId := 52
def X.law18_scene_move : X :=
  .seq (.ops [⟨(some 4), none, .mv (.const (Go.Value.int Go.IntKind.i64 0))⟩,
    ⟨(some 5), none, .mv (.const (Go.Value.int Go.IntKind.i64 0))⟩])
  (.seq (.seq (.ops [⟨(some 6), none, .mv (.tmp 0)⟩,
    ⟨(some 7), none, .nilc (.tmp 6)⟩,
    ⟨(some 8), none, .fld (.tmp 7) 4⟩,
    ⟨(some 9), none, .ld (.tmp 8) none⟩,
    ⟨(some 10), none, .mv (.tmp 1)⟩,
    ⟨(some 11), none, .idx (.tmp 9) (.tmp 10) 1⟩,
    ⟨(some 12), none, .ld (.tmp 11) none⟩,
    ⟨(some 13), none, .nilc (.tmp 12)⟩,
    ⟨(some 14), none, .fld (.tmp 13) 0⟩,
    ⟨(some 15), none, .ld (.tmp 14) none⟩])
  (.cond (.tmp 15)
    (.seq (.ops [⟨(some 16), none, .mv (.tmp 0)⟩,
      ⟨(some 17), none, .nilc (.tmp 16)⟩,
      ⟨(some 18), none, .fld (.tmp 17) 3⟩,
      ⟨(some 19), none, .ld (.tmp 18) none⟩,
      ⟨(some 20), none, .mv (.tmp 1)⟩,
      ⟨(some 21), none, .idx (.tmp 19) (.tmp 20) 1⟩,
      ⟨(some 22), none, .ld (.tmp 21) none⟩,
      ⟨(some 23), none, .call 48 [(.tmp 22)]⟩,
      ⟨(some 24), none, .ext (.tmp 23) 0⟩,
      ⟨(some 25), none, .ext (.tmp 23) 1⟩,
      ⟨(some 4), none, .mv (.tmp 24)⟩,
      ⟨(some 5), none, .mv (.tmp 25)⟩])
    (.ret))
    (.skip)))
  (.seq (.ops [⟨(some 26), none, .mv (.tmp 0)⟩,
    ⟨(some 27), none, .nilc (.tmp 26)⟩,
    ⟨(some 28), none, .fld (.tmp 27) 2⟩,
    ⟨(some 29), none, .ld (.tmp 28) none⟩,
    ⟨(some 30), none, .mv (.tmp 1)⟩,
    ⟨(some 31), none, .idx (.tmp 29) (.tmp 30) 1⟩,
    ⟨(some 32), none, .ld (.tmp 31) none⟩,
    ⟨(some 33), none, .call 46 [(.tmp 32)]⟩,
    ⟨(some 34), none, .ext (.tmp 33) 0⟩,
    ⟨(some 35), none, .ext (.tmp 33) 1⟩,
    ⟨(some 4), none, .mv (.tmp 34)⟩,
    ⟨(some 5), none, .mv (.tmp 35)⟩])
  (.ret)))
theorem is_law18_scene_move : FnIs Try.prog F.law18_scene_move X.law18_scene_move 36 [.tmp 4, .tmp 5] := ⟨by kernel_rfl⟩

-- loop (inner ones first): [0, 1, 9, 21, 22]
/-- (*haycroft/cell.Row).Words: function 92 -/
abbrev F.cell_Row_Words : FuncId := 92
def X.cell_Row_Words : X :=
  .seq (.ops [⟨(some 6), none, .mv (.const (Go.Value.slice none 0 0))⟩,
    ⟨(some 7), none, .mv (.const (Go.Value.int Go.IntKind.i64 0))⟩])
  (.seq (.seq (.ops [⟨(some 11), none, .mv (.tmp 0)⟩,
    ⟨(some 12), none, .mv (.tmp 1)⟩,
    ⟨(some 13), none, .mv (.tmp 2)⟩,
    ⟨(some 14), none, .call 123 [(.tmp 11), (.tmp 12), (.tmp 13)]⟩,
    ⟨(some 8), none, .mv (.tmp 14)⟩])
  (.seq (.ops [⟨(some 15), none, .mv (.tmp 8)⟩,
    ⟨(some 16), none, .bin .neq 25 (.tmp 15) (.const (Go.Value.int Go.IntKind.i64 0))⟩])
  (.cond (.tmp 16)
    (.seq (.ops [⟨(some 17), none, .mv (.tmp 8)⟩,
      ⟨(some 6), none, .mv (.const (Go.Value.slice none 0 0))⟩,
      ⟨(some 7), none, .mv (.tmp 17)⟩])
    (.ret))
    (.skip))))
  (.seq (.ops [⟨(some 18), none, .mv (.tmp 2)⟩,
    ⟨(some 19), none, .mks 32 1 8 [(Go.Value.int Go.IntKind.u64 0)] (.tmp 18) (.tmp 18)⟩,
    ⟨(some 9), none, .mv (.tmp 19)⟩])
  (.seq (.seq (.ops [⟨(some 20), none, .mv (.tmp 9)⟩,
    ⟨(some 21), none, .lenS (.tmp 20)⟩,
    ⟨(some 22), none, .mv (.const (Go.Value.int Go.IntKind.i64 0))⟩])
  (.block 0 (.loop (.seq (.ops [⟨(some 23), none, .bin .lss 3 (.tmp 22) (.tmp 21)⟩])
      (.seq (.cond (.tmp 23)
        (.skip)
        (.exit 0))
      (.seq (.block 1 (.seq (.ops [⟨(some 24), none, .mv (.tmp 22)⟩,
          ⟨(some 10), none, .mv (.tmp 24)⟩])
        (.ops [⟨(some 25), none, .mv (.tmp 9)⟩,
          ⟨(some 26), none, .mv (.tmp 10)⟩,
          ⟨(some 27), none, .mv (.tmp 0)⟩,
          ⟨(some 28), none, .nilc (.tmp 27)⟩,
          ⟨(some 29), none, .fld (.tmp 28) 0⟩,
          ⟨(some 30), none, .ld (.tmp 29) none⟩,
          ⟨(some 31), none, .mv (.tmp 1)⟩,
          ⟨(some 32), none, .mv (.tmp 10)⟩,
          ⟨(some 33), none, .bin .add 3 (.tmp 31) (.tmp 32)⟩,
          ⟨(some 34), none, .idx (.tmp 30) (.tmp 33) 1⟩,
          ⟨(some 35), none, .call 119 [(.tmp 34)]⟩,
          ⟨(some 36), none, .idx (.tmp 25) (.tmp 26) 1⟩,
          ⟨none, none, .st (.tmp 36) (.tmp 35) 1⟩])))
      (.ops [⟨(some 37), none, .bin .add 3 (.tmp 22) (.const (Go.Value.int Go.IntKind.i64 1))⟩,
        ⟨(some 22), none, .mv (.tmp 37)⟩])))))))
  (.seq (.ops [⟨(some 38), none, .mv (.tmp 9)⟩,
    ⟨(some 6), none, .mv (.tmp 38)⟩,
    ⟨(some 7), none, .mv (.const (Go.Value.int Go.IntKind.i64 0))⟩])
  (.ret)))))
theorem is_cell_Row_Words : FnIs Try.prog F.cell_Row_Words X.cell_Row_Words 39 [.tmp 6, .tmp 7] := ⟨by kernel_rfl⟩

/-- (*haycroft/pages.Buffer).Words: function 114 -/
abbrev F.pages_Buffer_Words : FuncId := 114
def X.pages_Buffer_Words : X :=
  .seq (.ops [⟨(some 6), none, .mv (.const (Go.Value.slice none 0 0))⟩,
    ⟨(some 7), none, .mv (.const (Go.Value.int Go.IntKind.i64 0))⟩])
  (.seq (.ops [⟨(some 11), none, .mv (.tmp 0)⟩,
    ⟨(some 12), none, .mv (.tmp 1)⟩,
    ⟨(some 13), none, .mv (.tmp 2)⟩,
    ⟨(some 14), none, .call 150 [(.tmp 11), (.tmp 12), (.tmp 13)]⟩,
    ⟨(some 10), none, .mv (.tmp 14)⟩,
    ⟨(some 15), none, .ext (.tmp 10) 0⟩,
    ⟨(some 16), none, .ext (.tmp 10) 1⟩,
    ⟨(some 8), none, .mv (.tmp 15)⟩,
    ⟨(some 9), none, .mv (.tmp 16)⟩])
  (.seq (.seq (.ops [⟨(some 17), none, .mv (.tmp 9)⟩,
    ⟨(some 18), none, .bin .neq 25 (.tmp 17) (.const (Go.Value.int Go.IntKind.i64 0))⟩])
  (.cond (.tmp 18)
    (.seq (.ops [⟨(some 19), none, .mv (.tmp 9)⟩,
      ⟨(some 6), none, .mv (.const (Go.Value.slice none 0 0))⟩,
      ⟨(some 7), none, .mv (.tmp 19)⟩])
    (.ret))
    (.skip)))
  (.seq (.ops [⟨(some 20), none, .mv (.tmp 0)⟩,
    ⟨(some 21), none, .nilc (.tmp 20)⟩,
    ⟨(some 22), none, .fld (.tmp 21) 1⟩,
    ⟨(some 23), none, .ld (.tmp 22) none⟩,
    ⟨(some 24), none, .mv (.tmp 8)⟩,
    ⟨(some 25), none, .mv (.tmp 2)⟩,
    ⟨(some 26), none, .call 92 [(.tmp 23), (.tmp 24), (.tmp 25)]⟩,
    ⟨(some 27), none, .ext (.tmp 26) 0⟩,
    ⟨(some 28), none, .ext (.tmp 26) 1⟩,
    ⟨(some 6), none, .mv (.tmp 27)⟩,
    ⟨(some 7), none, .mv (.tmp 28)⟩])
  (.ret))))
theorem is_pages_Buffer_Words : FnIs Try.prog F.pages_Buffer_Words X.pages_Buffer_Words 29 [.tmp 6, .tmp 7] := ⟨by kernel_rfl⟩

/-- (*haycroft/haycroftlaw18.scene).words: function 53 -/
abbrev F.law18_scene_words : FuncId := 53
def X.law18_scene_words : X :=
  .seq (.ops [⟨(some 2), none, .mv (.const (Go.Value.slice none 0 0))⟩])
  (.seq (.seq (.ops [⟨(some 5), none, .mv (.tmp 0)⟩,
    ⟨(some 6), none, .nilc (.tmp 5)⟩,
    ⟨(some 7), none, .fld (.tmp 6) 1⟩,
    ⟨(some 8), none, .ld (.tmp 7) none⟩,
    ⟨(some 9), none, .nilc (.tmp 8)⟩,
    ⟨(some 10), none, .fld (.tmp 9) 2⟩,
    ⟨(some 11), none, .ld (.tmp 10) none⟩,
    ⟨(some 12), none, .lenS (.tmp 11)⟩,
    ⟨(some 13), none, .bin .eql 3 (.tmp 12) (.const (Go.Value.int Go.IntKind.i64 0))⟩])
  (.cond (.tmp 13)
    (.seq (.ops [⟨(some 2), none, .mv (.const (Go.Value.slice none 0 0))⟩])
    (.ret))
    (.skip)))
  (.seq (.drawn [(0, ⟨(some 15), none, .mv (.tmp 0)⟩),
    (1, ⟨(some 16), none, .nilc (.tmp 15)⟩),
    (2, ⟨(some 17), none, .fld (.tmp 16) 0⟩),
    (3, ⟨(some 18), none, .ld (.tmp 17) none⟩),
    (4, ⟨(some 19), none, .mv (.tmp 0)⟩),
    (5, ⟨(some 20), none, .nilc (.tmp 19)⟩),
    (6, ⟨(some 21), none, .fld (.tmp 20) 1⟩),
    (7, ⟨(some 22), none, .ld (.tmp 21) none⟩),
    (8, ⟨(some 23), none, .nilc (.tmp 22)⟩),
    (9, ⟨(some 24), none, .fld (.tmp 23) 2⟩),
    (10, ⟨(some 25), none, .ld (.tmp 24) none⟩),
    (11, ⟨(some 26), none, .lenS (.tmp 25)⟩),
    (12, ⟨(some 27), none, .call 114 [(.tmp 18), (.const (Go.Value.int Go.IntKind.u64 5)), (.tmp 26)]⟩),
    (13, ⟨(some 14), none, .mv (.tmp 27)⟩),
    (14, ⟨(some 28), none, .ext (.tmp 14) 0⟩),
    (15, ⟨(some 29), none, .ext (.tmp 14) 1⟩),
    (16, ⟨(some 3), none, .mv (.tmp 28)⟩),
    (17, ⟨(some 4), none, .mv (.tmp 29)⟩)]
    [[], [0], [1], [2], [], [4], [5], [6], [7], [8], [9], [10], [3, 11], [12], [13], [13], [14, 12, 0, 1, 2, 3, 4, 5, 6, 7, 8, 9, 10, 11, 12, 13, 14], [15, 16, 0, 1, 2, 3, 4, 5, 6, 7, 8, 9, 10, 11, 12, 13, 14, 15, 16]]
    [0, 1, 3, 7, 0, 16, 48, 112, 240, 496, 1008, 2032, 4095, 8191, 16383, 16383, 32767, 131071] 4096)
  (.seq (.ops [⟨(some 30), none, .mv (.tmp 3)⟩,
    ⟨(some 2), none, .mv (.tmp 30)⟩])
  (.ret))))
theorem is_law18_scene_words : FnIs Try.prog F.law18_scene_words X.law18_scene_words 31 [.tmp 2] := ⟨by kernel_rfl⟩

end Go.Proofs.Ytjoicobfjpaepaa
