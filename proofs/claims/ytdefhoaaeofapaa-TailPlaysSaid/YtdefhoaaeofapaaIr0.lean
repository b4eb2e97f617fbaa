import Derived.Test.YtdefhoaaeofapaaProg
import Derived.Test.YtdefhoaaeofapaaHxO
import Derived.KernelRfl
namespace Go.Proofs.Ytdefhoaaeofapaa
open Go Go.HX
abbrev T.int64 : TypeId := 2
abbrev T.int : TypeId := 3
abbrev T.bool : TypeId := 4
abbrev T.uint8 : TypeId := 5
abbrev T.abi_BoundsErrorCode : TypeId := 6
abbrev T.string : TypeId := 9
abbrev T.uintptr : TypeId := 12
abbrev T.ptr_abi_Type : TypeId := 17
abbrev T.maps_unhashableTypeError : TypeId := 19
abbrev T.interface : TypeId := 20
abbrev T.int32 : TypeId := 21
abbrev T.slice_haycroftlaw06_Act : TypeId := 26
abbrev T.ptr_epoch_Table : TypeId := 27
abbrev T.api_Errno : TypeId := 28
abbrev T.ptr_epoch_Table_api_Errno : TypeId := 29
abbrev T.ptr_haycroftref06_Table : TypeId := 31
abbrev T.ptr_haycroftref06_Table_api_Errno : TypeId := 32
abbrev T.haycroftlaw06_Act : TypeId := 35
abbrev T.uint64 : TypeId := 36
abbrev T.uint64_api_Errno : TypeId := 37
abbrev T.slice_uint64 : TypeId := 39
abbrev T.haycroftref06_Table : TypeId := 41
abbrev T.slice_int : TypeId := 44
abbrev T.slice_bool : TypeId := 49
abbrev T.api_Header : TypeId := 58
abbrev T.api_Record : TypeId := 60
abbrev T.slice_uint64_api_Errno : TypeId := 62
abbrev T.api_Record_int_api_Errno : TypeId := 66
abbrev T.slice_haycroftlaw14_Act : TypeId := 69
abbrev T.ptr_tail_Tail : TypeId := 70
abbrev T.ptr_tail_Tail_api_Errno : TypeId := 71
abbrev T.ptr_haycroftref14_Tail : TypeId := 73
abbrev T.ptr_haycroftref14_Tail_api_Errno : TypeId := 74
abbrev T.haycroftlaw14_Act : TypeId := 77
abbrev T.uint64_int_api_Errno : TypeId := 78
abbrev T.haycroftref14_Tail : TypeId := 82
abbrev T.slice_haycroftlaw14_room : TypeId := 85
abbrev T.haycroftlaw14_room : TypeId := 88
abbrev T.ptr_cell_Row : TypeId := 90
abbrev T.ptr_cell_Row_api_Errno : TypeId := 91
abbrev T.epoch_Table : TypeId := 95
abbrev T.string_api_Errno : TypeId := 98
abbrev T.slice_uint8 : TypeId := 100
abbrev T.int_int_api_Errno : TypeId := 103
abbrev T.api_Header_api_Errno : TypeId := 105
abbrev T.tail_Tail : TypeId := 109
abbrev T.uint : TypeId := 111
abbrev T.int_int : TypeId := 112
abbrev T.slice_atomic_Uint64 : TypeId := 116
abbrev T.struct : TypeId := 117
abbrev T.atomic_noCopy : TypeId := 118
abbrev T.atomic_align64 : TypeId := 119
abbrev T.atomic_Int64 : TypeId := 121
abbrev T.cell_Row : TypeId := 123
abbrev T.atomic_Uint64 : TypeId := 125
abbrev T.ptr_atomic_Uint64 : TypeId := 134
abbrev T.ptr_uint64 : TypeId := 136
abbrev T.uint32 : TypeId := 147
abbrev T.abi_TFlag : TypeId := 148
abbrev T.abi_Kind : TypeId := 149
abbrev T.ptr_uint8 : TypeId := 151
abbrev T.abi_NameOff : TypeId := 152
abbrev T.abi_TypeOff : TypeId := 153
abbrev T.abi_Type : TypeId := 155
abbrev T.unsafe_Pointer : TypeId := 156
/-- haycroft/header.bit: function 95 -/
abbrev F.header_bit : FuncId := 95
def X.header_bit : X :=
  .seq (.ops [⟨(some 2), none, .mv (.const (Go.Value.int Go.IntKind.u64 0))⟩])
  (.seq (.seq (.ops [⟨(some 3), none, .mv (.tmp 0)⟩])
  (.cond (.tmp 3)
    (.seq (.ops [⟨(some 2), none, .mv (.const (Go.Value.int Go.IntKind.u64 1))⟩])
    (.ret))
    (.skip)))
  (.seq (.ops [⟨(some 2), none, .mv (.const (Go.Value.int Go.IntKind.u64 0))⟩])
  (.ret)))
theorem is_header_bit : FnIs Try.prog F.header_bit X.header_bit 4 [.tmp 2] := ⟨by kernel_rfl⟩

-- loop (inner ones first): [3, 6, 7, 8]
/-- haycroft/field.fit: function 102 -/
abbrev F.field_fit : FuncId := 102
def X.field_fit : X :=
  .seq (.ops [⟨(some 2), none, .mv (.const (Go.Value.bool false))⟩])
  (.seq (.ops [⟨(some 3), none, .mv (.const (Go.Value.int Go.IntKind.i64 64))⟩])
  (.seq (.seq (.ops [⟨(some 6), none, .mv (.tmp 0)⟩,
    ⟨(some 7), none, .lenS (.tmp 6)⟩,
    ⟨(some 8), none, .mv (.const (Go.Value.int Go.IntKind.i64 0))⟩])
  (.block 0 (.loop (.seq (.ops [⟨(some 9), none, .bin .lss 3 (.tmp 8) (.tmp 7)⟩])
      (.seq (.cond (.tmp 9)
        (.skip)
        (.exit 0))
      (.seq (.block 1 (.seq (.ops [⟨(some 10), none, .idx (.tmp 6) (.tmp 8) 1⟩,
          ⟨(some 11), none, .ld (.tmp 10) none⟩,
          ⟨(some 5), none, .mv (.tmp 11)⟩])
        (.seq (.seq (.ops [⟨(some 12), none, .mv (.tmp 5)⟩,
          ⟨(some 13), none, .bin .lss 3 (.tmp 12) (.const (Go.Value.int Go.IntKind.i64 1))⟩,
          ⟨(some 14), none, .mv (.tmp 13)⟩,
          ⟨(some 15), (some (14, false)), .mv (.tmp 5)⟩,
          ⟨(some 16), (some (14, false)), .mv (.tmp 3)⟩,
          ⟨(some 17), (some (14, false)), .bin .gtr 3 (.tmp 15) (.tmp 16)⟩,
          ⟨(some 18), none, .pick (.tmp 14) (.const (Go.Value.bool true)) (.tmp 17)⟩])
        (.cond (.tmp 18)
          (.seq (.ops [⟨(some 2), none, .mv (.const (Go.Value.bool false))⟩])
          (.ret))
          (.skip)))
        (.ops [⟨(some 19), none, .mv (.tmp 3)⟩,
          ⟨(some 20), none, .mv (.tmp 5)⟩,
          ⟨(some 21), none, .bin .sub 3 (.tmp 19) (.tmp 20)⟩,
          ⟨(some 3), none, .mv (.tmp 21)⟩]))))
      (.ops [⟨(some 22), none, .bin .add 3 (.tmp 8) (.const (Go.Value.int Go.IntKind.i64 1))⟩,
        ⟨(some 8), none, .mv (.tmp 22)⟩])))))))
  (.seq (.ops [⟨(some 2), none, .mv (.const (Go.Value.bool true))⟩])
  (.ret))))
theorem is_field_fit : FnIs Try.prog F.field_fit X.field_fit 23 [.tmp 2] := ⟨by kernel_rfl⟩

/-- haycroft/field.Right: function 108 -/
abbrev F.field_Right : FuncId := 108
def X.field_Right : X :=
  .seq (.ops [⟨(some 4), none, .mv (.const (Go.Value.bool false))⟩])
  (.seq (.ops [⟨(some 5), none, .mv (.tmp 0)⟩,
    ⟨(some 6), none, .bin .geq 3 (.tmp 5) (.const (Go.Value.int Go.IntKind.i64 0))⟩,
    ⟨(some 7), none, .mv (.tmp 6)⟩,
    ⟨(some 8), (some (7, true)), .mv (.tmp 0)⟩,
    ⟨(some 9), (some (7, true)), .bin .lss 3 (.tmp 8) (.const (Go.Value.int Go.IntKind.i64 64))⟩,
    ⟨(some 10), none, .pick (.tmp 7) (.tmp 9) (.const (Go.Value.bool false))⟩,
    ⟨(some 11), none, .mv (.tmp 10)⟩,
    ⟨(some 12), (some (11, true)), .mv (.tmp 1)⟩,
    ⟨(some 13), (some (11, true)), .bin .geq 3 (.tmp 12) (.const (Go.Value.int Go.IntKind.i64 1))⟩,
    ⟨(some 14), none, .pick (.tmp 11) (.tmp 13) (.const (Go.Value.bool false))⟩,
    ⟨(some 15), none, .mv (.tmp 14)⟩,
    ⟨(some 16), (some (15, true)), .mv (.tmp 1)⟩,
    ⟨(some 17), (some (15, true)), .mv (.tmp 0)⟩,
    ⟨(some 18), (some (15, true)), .bin .sub 3 (.const (Go.Value.int Go.IntKind.i64 64)) (.tmp 17)⟩,
    ⟨(some 19), (some (15, true)), .bin .leq 3 (.tmp 16) (.tmp 18)⟩,
    ⟨(some 20), none, .pick (.tmp 15) (.tmp 19) (.const (Go.Value.bool false))⟩,
    ⟨(some 4), none, .mv (.tmp 20)⟩])
  (.ret))
theorem is_field_Right : FnIs Try.prog F.field_Right X.field_Right 21 [.tmp 4] := ⟨by kernel_rfl⟩

/-- haycroft/field.Most: function 81 -/
abbrev F.field_Most : FuncId := 81
def X.field_Most : X :=
  .seq (.ops [⟨(some 2), none, .mv (.const (Go.Value.int Go.IntKind.u64 0))⟩])
  (.seq (.block 0 (.seq (.ops [⟨(some 4), none, .mv (.tmp 0)⟩,
      ⟨(some 5), none, .bin .lss 3 (.tmp 4) (.const (Go.Value.int Go.IntKind.i64 1))⟩,
      ⟨(some 3), none, .mv (.tmp 5)⟩])
    (.cond (.tmp 3)
      (.seq (.ops [⟨(some 2), none, .mv (.const (Go.Value.int Go.IntKind.u64 0))⟩])
      (.ret))
      (.seq (.ops [⟨(some 7), none, .mv (.tmp 0)⟩,
        ⟨(some 8), none, .bin .geq 3 (.tmp 7) (.const (Go.Value.int Go.IntKind.i64 64))⟩,
        ⟨(some 6), none, .mv (.tmp 8)⟩])
      (.cond (.tmp 6)
        (.seq (.ops [⟨(some 2), none, .mv (.const (Go.Value.int Go.IntKind.u64 18446744073709551615))⟩])
        (.ret))
        (.skip))))))
  (.seq (.ops [⟨(some 9), none, .mv (.tmp 0)⟩,
    ⟨(some 10), none, .bin .shl 36 (.const (Go.Value.int Go.IntKind.u64 1)) (.tmp 9)⟩,
    ⟨(some 11), none, .bin .sub 36 (.tmp 10) (.const (Go.Value.int Go.IntKind.u64 1))⟩,
    ⟨(some 2), none, .mv (.tmp 11)⟩])
  (.ret)))
theorem is_field_Most : FnIs Try.prog F.field_Most X.field_Most 12 [.tmp 2] := ⟨by kernel_rfl⟩

/-- haycroft/field.Put: function 103 -/
abbrev F.field_Put : FuncId := 103
def X.field_Put : X :=
  .seq (.ops [⟨(some 8), none, .mv (.const (Go.Value.int Go.IntKind.u64 0))⟩,
    ⟨(some 9), none, .mv (.const (Go.Value.int Go.IntKind.i64 0))⟩])
  (.seq (.block 0 (.seq (.ops [⟨(some 11), none, .mv (.tmp 1)⟩,
      ⟨(some 12), none, .mv (.tmp 2)⟩,
      ⟨(some 13), none, .call 108 [(.tmp 11), (.tmp 12)]⟩,
      ⟨(some 14), none, .un .not (.tmp 13)⟩,
      ⟨(some 10), none, .mv (.tmp 14)⟩])
    (.cond (.tmp 10)
      (.seq (.ops [⟨(some 8), none, .mv (.const (Go.Value.int Go.IntKind.u64 0))⟩,
        ⟨(some 9), none, .mv (.const (Go.Value.int Go.IntKind.i64 1))⟩])
      (.ret))
      (.seq (.ops [⟨(some 16), none, .mv (.tmp 3)⟩,
        ⟨(some 17), none, .mv (.tmp 2)⟩,
        ⟨(some 18), none, .call 81 [(.tmp 17)]⟩,
        ⟨(some 19), none, .bin .gtr 36 (.tmp 16) (.tmp 18)⟩,
        ⟨(some 15), none, .mv (.tmp 19)⟩])
      (.cond (.tmp 15)
        (.seq (.ops [⟨(some 8), none, .mv (.const (Go.Value.int Go.IntKind.u64 0))⟩,
          ⟨(some 9), none, .mv (.const (Go.Value.int Go.IntKind.i64 13))⟩])
        (.ret))
        (.skip))))))
  (.seq (.drawn [(0, ⟨(some 20), none, .mv (.tmp 0)⟩),
    (1, ⟨(some 21), none, .mv (.tmp 2)⟩),
    (3, ⟨(some 23), none, .mv (.tmp 1)⟩),
    (6, ⟨(some 26), none, .mv (.tmp 3)⟩),
    (7, ⟨(some 27), none, .mv (.tmp 1)⟩),
    (8, ⟨(some 28), none, .bin .shl 36 (.tmp 26) (.tmp 27)⟩),
    (2, ⟨(some 22), none, .call 81 [(.tmp 21)]⟩),
    (4, ⟨(some 24), none, .bin .shl 36 (.tmp 22) (.tmp 23)⟩),
    (5, ⟨(some 25), none, .bin .andNot 36 (.tmp 20) (.tmp 24)⟩),
    (9, ⟨(some 29), none, .bin .or 36 (.tmp 25) (.tmp 28)⟩),
    (10, ⟨(some 8), none, .mv (.tmp 29)⟩),
    (11, ⟨(some 9), none, .mv (.const (Go.Value.int Go.IntKind.i64 0))⟩)]
    [[], [], [1], [], [2, 3], [0, 4], [], [], [6, 7], [5, 8], [9, 2, 0, 1, 2, 3, 4, 5, 6, 7, 8, 9], [10, 0, 1, 2, 3, 4, 5, 6, 7, 8, 9, 10]]
    [0, 0, 2, 0, 14, 31, 0, 0, 192, 511, 1023, 2047] 4)
  (.ret)))
theorem is_field_Put : FnIs Try.prog F.field_Put X.field_Put 30 [.tmp 8, .tmp 9] := ⟨by kernel_rfl⟩

-- loop (inner ones first): [0, 6, 7, 22, 23, 24]
/-- haycroft/field.Join: function 88 -/
abbrev F.field_Join : FuncId := 88
def X.field_Join : X :=
  .seq (.ops [⟨(some 4), none, .mv (.const (Go.Value.int Go.IntKind.u64 0))⟩,
    ⟨(some 5), none, .mv (.const (Go.Value.int Go.IntKind.i64 0))⟩])
  (.seq (.seq (.ops [⟨(some 12), none, .mv (.tmp 0)⟩,
    ⟨(some 13), none, .lenS (.tmp 12)⟩,
    ⟨(some 14), none, .mv (.tmp 1)⟩,
    ⟨(some 15), none, .lenS (.tmp 14)⟩,
    ⟨(some 16), none, .bin .neq 3 (.tmp 13) (.tmp 15)⟩,
    ⟨(some 17), none, .mv (.tmp 16)⟩,
    ⟨(some 18), (some (17, false)), .mv (.tmp 1)⟩,
    ⟨(some 19), (some (17, false)), .call 102 [(.tmp 18)]⟩,
    ⟨(some 20), (some (17, false)), .un .not (.tmp 19)⟩,
    ⟨(some 21), none, .pick (.tmp 17) (.const (Go.Value.bool true)) (.tmp 20)⟩])
  (.cond (.tmp 21)
    (.seq (.ops [⟨(some 4), none, .mv (.const (Go.Value.int Go.IntKind.u64 0))⟩,
      ⟨(some 5), none, .mv (.const (Go.Value.int Go.IntKind.i64 1))⟩])
    (.ret))
    (.skip)))
  (.seq (.ops [⟨(some 6), none, .mv (.const (Go.Value.int Go.IntKind.u64 0))⟩])
  (.seq (.ops [⟨(some 7), none, .mv (.const (Go.Value.int Go.IntKind.i64 0))⟩])
  (.seq (.seq (.ops [⟨(some 22), none, .mv (.tmp 1)⟩,
    ⟨(some 23), none, .lenS (.tmp 22)⟩,
    ⟨(some 24), none, .mv (.const (Go.Value.int Go.IntKind.i64 0))⟩])
  (.block 0 (.loop (.seq (.ops [⟨(some 25), none, .bin .lss 3 (.tmp 24) (.tmp 23)⟩])
      (.seq (.cond (.tmp 25)
        (.skip)
        (.exit 0))
      (.seq (.block 1 (.seq (.ops [⟨(some 26), none, .mv (.tmp 24)⟩,
          ⟨(some 27), none, .idx (.tmp 22) (.tmp 24) 1⟩,
          ⟨(some 28), none, .ld (.tmp 27) none⟩,
          ⟨(some 8), none, .mv (.tmp 26)⟩,
          ⟨(some 9), none, .mv (.tmp 28)⟩])
        (.seq (.ops [⟨(some 30), none, .mv (.tmp 6)⟩,
          ⟨(some 31), none, .mv (.tmp 7)⟩,
          ⟨(some 32), none, .mv (.tmp 9)⟩,
          ⟨(some 33), none, .mv (.tmp 0)⟩,
          ⟨(some 34), none, .mv (.tmp 8)⟩,
          ⟨(some 35), none, .idx (.tmp 33) (.tmp 34) 1⟩,
          ⟨(some 36), none, .ld (.tmp 35) none⟩,
          ⟨(some 37), none, .call 103 [(.tmp 30), (.tmp 31), (.tmp 32), (.tmp 36)]⟩,
          ⟨(some 29), none, .mv (.tmp 37)⟩,
          ⟨(some 38), none, .ext (.tmp 29) 0⟩,
          ⟨(some 39), none, .ext (.tmp 29) 1⟩,
          ⟨(some 10), none, .mv (.tmp 38)⟩,
          ⟨(some 11), none, .mv (.tmp 39)⟩])
        (.seq (.seq (.ops [⟨(some 40), none, .mv (.tmp 11)⟩,
          ⟨(some 41), none, .bin .neq 28 (.tmp 40) (.const (Go.Value.int Go.IntKind.i64 0))⟩])
        (.cond (.tmp 41)
          (.seq (.ops [⟨(some 42), none, .mv (.tmp 11)⟩,
            ⟨(some 4), none, .mv (.const (Go.Value.int Go.IntKind.u64 0))⟩,
            ⟨(some 5), none, .mv (.tmp 42)⟩])
          (.ret))
          (.skip)))
        (.seq (.ops [⟨(some 43), none, .mv (.tmp 10)⟩,
          ⟨(some 6), none, .mv (.tmp 43)⟩])
        (.ops [⟨(some 44), none, .mv (.tmp 7)⟩,
          ⟨(some 45), none, .mv (.tmp 9)⟩,
          ⟨(some 46), none, .bin .add 3 (.tmp 44) (.tmp 45)⟩,
          ⟨(some 7), none, .mv (.tmp 46)⟩]))))))
      (.ops [⟨(some 47), none, .bin .add 3 (.tmp 24) (.const (Go.Value.int Go.IntKind.i64 1))⟩,
        ⟨(some 24), none, .mv (.tmp 47)⟩])))))))
  (.seq (.ops [⟨(some 48), none, .mv (.tmp 6)⟩,
    ⟨(some 4), none, .mv (.tmp 48)⟩,
    ⟨(some 5), none, .mv (.const (Go.Value.int Go.IntKind.i64 0))⟩])
  (.ret))))))
theorem is_field_Join : FnIs Try.prog F.field_Join X.field_Join 49 [.tmp 4, .tmp 5] := ⟨by kernel_rfl⟩

/-- haycroft/header.Pack: function 70 -/
abbrev F.header_Pack : FuncId := 70
def X.header_Pack : X :=
  .seq (.ops [⟨(some 1), none, .box 58 (.tmp 0)⟩,
    ⟨(some 2), none, .mv (.const (Go.Value.int Go.IntKind.u64 0))⟩,
    ⟨(some 3), none, .mv (.const (Go.Value.int Go.IntKind.i64 0))⟩])
  (.seq (.seq (.ops [⟨(some 4), none, .fld (.tmp 1) 0⟩,
    ⟨(some 5), none, .ld (.tmp 4) none⟩,
    ⟨(some 6), none, .bin .gtr 36 (.tmp 5) (.const (Go.Value.int Go.IntKind.u64 281474976710655))⟩])
  (.cond (.tmp 6)
    (.seq (.ops [⟨(some 2), none, .mv (.const (Go.Value.int Go.IntKind.u64 0))⟩,
      ⟨(some 3), none, .mv (.const (Go.Value.int Go.IntKind.i64 1))⟩])
    (.ret))
    (.skip)))
  (.seq (.drawn [(0, ⟨(some 7), none, .fld (.tmp 1) 0⟩),
    (1, ⟨(some 8), none, .ld (.tmp 7) none⟩),
    (2, ⟨(some 9), none, .fld (.tmp 1) 1⟩),
    (3, ⟨(some 10), none, .ld (.tmp 9) none⟩),
    (5, ⟨(some 12), none, .fld (.tmp 1) 2⟩),
    (6, ⟨(some 13), none, .ld (.tmp 12) none⟩),
    (4, ⟨(some 11), none, .call 95 [(.tmp 10)]⟩),
    (7, ⟨(some 14), none, .call 95 [(.tmp 13)]⟩),
    (8, ⟨(some 15), none, .bsl 36 1 3 [(Go.Value.int Go.IntKind.u64 0)] [(0, (.tmp 8)), (1, (.tmp 11)), (2, (.tmp 14))]⟩),
    (9, ⟨(some 16), none, .bsl 3 1 3 [(Go.Value.int Go.IntKind.i64 0)] [(0, (.const (Go.Value.int Go.IntKind.i64 48))), (1, (.const (Go.Value.int Go.IntKind.i64 1))), (2, (.const (Go.Value.int Go.IntKind.i64 1)))]⟩),
    (10, ⟨(some 17), none, .call 88 [(.tmp 15), (.tmp 16)]⟩),
    (11, ⟨(some 18), none, .ext (.tmp 17) 0⟩),
    (12, ⟨(some 19), none, .ext (.tmp 17) 1⟩),
    (13, ⟨(some 2), none, .mv (.tmp 18)⟩),
    (14, ⟨(some 3), none, .mv (.tmp 19)⟩)]
    [[], [0], [], [2], [3], [], [5], [6, 4], [1, 4, 7], [], [8, 9, 7], [10], [10], [11, 10, 0, 1, 2, 3, 4, 5, 6, 7, 8, 9, 10, 11, 12], [12, 13, 0, 1, 2, 3, 4, 5, 6, 7, 8, 9, 10, 11, 12, 13]]
    [0, 1, 0, 4, 12, 0, 32, 124, 255, 0, 1023, 2047, 2047, 8191, 16383] 1936)
  (.ret)))
theorem is_header_Pack : FnIs Try.prog F.header_Pack X.header_Pack 20 [.tmp 2, .tmp 3] := ⟨by kernel_rfl⟩

/-- haycroft/header.Lengths: function 60 -/
abbrev F.header_Lengths : FuncId := 60
def X.header_Lengths : X :=
  .seq (.ops [⟨(some 4), none, .mv (.const (Go.Value.int Go.IntKind.u64 0))⟩,
    ⟨(some 5), none, .mv (.const (Go.Value.int Go.IntKind.i64 0))⟩])
  (.seq (.block 0 (.seq (.ops [⟨(some 7), none, .mv (.tmp 0)⟩,
      ⟨(some 8), none, .bin .lss 3 (.tmp 7) (.const (Go.Value.int Go.IntKind.i64 0))⟩,
      ⟨(some 9), none, .mv (.tmp 8)⟩,
      ⟨(some 10), (some (9, false)), .mv (.tmp 1)⟩,
      ⟨(some 11), (some (9, false)), .bin .lss 3 (.tmp 10) (.const (Go.Value.int Go.IntKind.i64 0))⟩,
      ⟨(some 12), none, .pick (.tmp 9) (.const (Go.Value.bool true)) (.tmp 11)⟩,
      ⟨(some 6), none, .mv (.tmp 12)⟩])
    (.cond (.tmp 6)
      (.seq (.ops [⟨(some 4), none, .mv (.const (Go.Value.int Go.IntKind.u64 0))⟩,
        ⟨(some 5), none, .mv (.const (Go.Value.int Go.IntKind.i64 1))⟩])
      (.ret))
      (.seq (.ops [⟨(some 14), none, .mv (.tmp 0)⟩,
        ⟨(some 15), none, .bin .gtr 3 (.tmp 14) (.const (Go.Value.int Go.IntKind.i64 64))⟩,
        ⟨(some 16), none, .mv (.tmp 15)⟩,
        ⟨(some 17), (some (16, false)), .mv (.tmp 1)⟩,
        ⟨(some 18), (some (16, false)), .bin .gtr 3 (.tmp 17) (.const (Go.Value.int Go.IntKind.i64 128))⟩,
        ⟨(some 19), none, .pick (.tmp 16) (.const (Go.Value.bool true)) (.tmp 18)⟩,
        ⟨(some 13), none, .mv (.tmp 19)⟩])
      (.cond (.tmp 13)
        (.seq (.ops [⟨(some 4), none, .mv (.const (Go.Value.int Go.IntKind.u64 0))⟩,
          ⟨(some 5), none, .mv (.const (Go.Value.int Go.IntKind.i64 5))⟩])
        (.ret))
        (.skip))))))
  (.seq (.ops [⟨(some 20), none, .mv (.tmp 0)⟩,
    ⟨(some 21), none, .conv Go.IntKind.u64 (.tmp 20)⟩,
    ⟨(some 22), none, .mv (.tmp 1)⟩,
    ⟨(some 23), none, .conv Go.IntKind.u64 (.tmp 22)⟩,
    ⟨(some 24), none, .bsl 36 1 3 [(Go.Value.int Go.IntKind.u64 0)] [(0, (.tmp 21)), (1, (.tmp 23)), (2, (.const (Go.Value.int Go.IntKind.u64 44203)))]⟩,
    ⟨(some 25), none, .bsl 3 1 3 [(Go.Value.int Go.IntKind.i64 0)] [(0, (.const (Go.Value.int Go.IntKind.i64 16))), (1, (.const (Go.Value.int Go.IntKind.i64 16))), (2, (.const (Go.Value.int Go.IntKind.i64 16)))]⟩,
    ⟨(some 26), none, .call 88 [(.tmp 24), (.tmp 25)]⟩,
    ⟨(some 27), none, .ext (.tmp 26) 0⟩,
    ⟨(some 28), none, .ext (.tmp 26) 1⟩,
    ⟨(some 4), none, .mv (.tmp 27)⟩,
    ⟨(some 5), none, .mv (.tmp 28)⟩])
  (.ret)))
theorem is_header_Lengths : FnIs Try.prog F.header_Lengths X.header_Lengths 29 [.tmp 4, .tmp 5] := ⟨by kernel_rfl⟩

/-- haycroft/record.Right: function 36 -/
abbrev F.record_Right : FuncId := 36
def X.record_Right : X :=
  .seq (.ops [⟨(some 1), none, .box 60 (.tmp 0)⟩,
    ⟨(some 2), none, .mv (.const (Go.Value.int Go.IntKind.i64 0))⟩])
  (.seq (.seq (.ops [⟨(some 8), none, .fld (.tmp 1) 0⟩,
    ⟨(some 9), none, .ld (.tmp 8) (some 3)⟩,
    ⟨(some 10), none, .call 70 [(.tmp 9)]⟩,
    ⟨(some 7), none, .mv (.tmp 10)⟩,
    ⟨(some 11), none, .ext (.tmp 7) 0⟩,
    ⟨(some 12), none, .ext (.tmp 7) 1⟩,
    ⟨(some 3), none, .mv (.tmp 11)⟩,
    ⟨(some 4), none, .mv (.tmp 12)⟩])
  (.seq (.ops [⟨(some 13), none, .mv (.tmp 4)⟩,
    ⟨(some 14), none, .bin .neq 28 (.tmp 13) (.const (Go.Value.int Go.IntKind.i64 0))⟩,
    ⟨(some 15), none, .mv (.tmp 14)⟩,
    ⟨(some 16), (some (15, false)), .fld (.tmp 1) 3⟩,
    ⟨(some 17), (some (15, false)), .ld (.tmp 16) none⟩,
    ⟨(some 18), (some (15, false)), .bin .eql 9 (.tmp 17) (.const (Go.Value.string { data := #[] }))⟩,
    ⟨(some 19), none, .pick (.tmp 15) (.const (Go.Value.bool true)) (.tmp 18)⟩,
    ⟨(some 20), none, .mv (.tmp 19)⟩,
    ⟨(some 21), (some (20, false)), .fld (.tmp 1) 0⟩,
    ⟨(some 22), (some (20, false)), .fld (.tmp 21) 1⟩,
    ⟨(some 23), (some (20, false)), .ld (.tmp 22) none⟩,
    ⟨(some 24), (some (20, false)), .mv (.tmp 23)⟩,
    ⟨(some 25), (some (24, true)), .fld (.tmp 1) 4⟩,
    ⟨(some 26), (some (24, true)), .ld (.tmp 25) none⟩,
    ⟨(some 27), (some (24, true)), .bin .neq 9 (.tmp 26) (.const (Go.Value.string { data := #[] }))⟩,
    ⟨(some 28), (some (20, false)), .pick (.tmp 24) (.tmp 27) (.const (Go.Value.bool false))⟩,
    ⟨(some 29), none, .pick (.tmp 20) (.const (Go.Value.bool true)) (.tmp 28)⟩])
  (.cond (.tmp 29)
    (.seq (.ops [⟨(some 2), none, .mv (.const (Go.Value.int Go.IntKind.i64 1))⟩])
    (.ret))
    (.skip))))
  (.seq (.ops [⟨(some 31), none, .fld (.tmp 1) 3⟩,
    ⟨(some 32), none, .ld (.tmp 31) none⟩,
    ⟨(some 33), none, .lenB (.tmp 32)⟩,
    ⟨(some 34), none, .fld (.tmp 1) 4⟩,
    ⟨(some 35), none, .ld (.tmp 34) none⟩,
    ⟨(some 36), none, .lenB (.tmp 35)⟩,
    ⟨(some 37), none, .call 60 [(.tmp 33), (.tmp 36)]⟩,
    ⟨(some 30), none, .mv (.tmp 37)⟩,
    ⟨(some 38), none, .ext (.tmp 30) 0⟩,
    ⟨(some 39), none, .ext (.tmp 30) 1⟩,
    ⟨(some 5), none, .mv (.tmp 38)⟩,
    ⟨(some 6), none, .mv (.tmp 39)⟩])
  (.seq (.ops [⟨(some 40), none, .mv (.tmp 6)⟩,
    ⟨(some 2), none, .mv (.tmp 40)⟩])
  (.ret))))
theorem is_record_Right : FnIs Try.prog F.record_Right X.record_Right 41 [.tmp 2] := ⟨by kernel_rfl⟩

-- loop (inner ones first): [0, 3, 12, 13]
/-- haycroft/field.Words: function 69 -/
abbrev F.field_Words : FuncId := 69
def X.field_Words : X :=
  .seq (.ops [⟨(some 2), none, .mv (.const (Go.Value.slice none 0 0))⟩])
  (.seq (.ops [⟨(some 5), none, .mv (.tmp 0)⟩,
    ⟨(some 6), none, .lenB (.tmp 5)⟩,
    ⟨(some 7), none, .bin .add 3 (.tmp 6) (.const (Go.Value.int Go.IntKind.i64 8))⟩,
    ⟨(some 8), none, .bin .sub 3 (.tmp 7) (.const (Go.Value.int Go.IntKind.i64 1))⟩,
    ⟨(some 9), none, .bin .quo 3 (.tmp 8) (.const (Go.Value.int Go.IntKind.i64 8))⟩,
    ⟨(some 10), none, .mks 36 1 8 [(Go.Value.int Go.IntKind.u64 0)] (.tmp 9) (.tmp 9)⟩,
    ⟨(some 3), none, .mv (.tmp 10)⟩])
  (.seq (.seq (.ops [⟨(some 11), none, .mv (.tmp 0)⟩,
    ⟨(some 12), none, .lenB (.tmp 11)⟩,
    ⟨(some 13), none, .mv (.const (Go.Value.int Go.IntKind.i64 0))⟩])
  (.block 0 (.loop (.seq (.ops [⟨(some 14), none, .bin .lss 3 (.tmp 13) (.tmp 12)⟩])
      (.seq (.cond (.tmp 14)
        (.skip)
        (.exit 0))
      (.seq (.block 1 (.seq (.ops [⟨(some 15), none, .mv (.tmp 13)⟩,
          ⟨(some 4), none, .mv (.tmp 15)⟩])
        (.drawn [(0, ⟨(some 16), none, .mv (.tmp 3)⟩),
          (1, ⟨(some 17), none, .mv (.tmp 4)⟩),
          (2, ⟨(some 18), none, .bin .quo 3 (.tmp 17) (.const (Go.Value.int Go.IntKind.i64 8))⟩),
          (3, ⟨(some 19), none, .idx (.tmp 16) (.tmp 18) 1⟩),
          (4, ⟨(some 20), none, .ld (.tmp 19) none⟩),
          (5, ⟨(some 21), none, .mv (.tmp 0)⟩),
          (6, ⟨(some 22), none, .mv (.tmp 4)⟩),
          (7, ⟨(some 23), none, .ixs (.tmp 21) (.tmp 22)⟩),
          (8, ⟨(some 24), none, .conv Go.IntKind.u64 (.tmp 23)⟩),
          (9, ⟨(some 25), none, .mv (.tmp 4)⟩),
          (10, ⟨(some 26), none, .bin .rem 3 (.tmp 25) (.const (Go.Value.int Go.IntKind.i64 8))⟩),
          (11, ⟨(some 27), none, .bin .mul 3 (.tmp 26) (.const (Go.Value.int Go.IntKind.i64 8))⟩),
          (12, ⟨(some 28), none, .bin .shl 36 (.tmp 24) (.tmp 27)⟩),
          (13, ⟨(some 29), none, .bin .or 36 (.tmp 20) (.tmp 28)⟩),
          (14, ⟨(some 30), none, .idx (.tmp 16) (.tmp 18) 1⟩),
          (15, ⟨none, none, .st (.tmp 30) (.tmp 29) 1⟩)]
          [[], [], [1], [0, 2], [3], [], [], [5, 6], [7], [], [9], [10], [8, 11], [4, 12], [0, 2, 0, 1, 2, 3, 4, 5, 6, 7, 8, 9, 10, 11, 12, 13], [14, 13, 0, 1, 2, 3, 4, 5, 6, 7, 8, 9, 10, 11, 12, 13]]
          [0, 0, 2, 7, 15, 0, 0, 96, 224, 0, 512, 1536, 4064, 8191, 16383, 32767] 32768)))
      (.ops [⟨(some 31), none, .bin .add 3 (.tmp 13) (.const (Go.Value.int Go.IntKind.i64 1))⟩,
        ⟨(some 13), none, .mv (.tmp 31)⟩])))))))
  (.seq (.ops [⟨(some 32), none, .mv (.tmp 3)⟩,
    ⟨(some 2), none, .mv (.tmp 32)⟩])
  (.ret))))
theorem is_field_Words : FnIs Try.prog F.field_Words X.field_Words 33 [.tmp 2] := ⟨by kernel_rfl⟩

/-- haycroft/record.Words: function 37 -/
abbrev F.record_Words : FuncId := 37
def X.record_Words : X :=
  .seq (.ops [⟨(some 1), none, .box 60 (.tmp 0)⟩,
    ⟨(some 2), none, .mv (.const (Go.Value.slice none 0 0))⟩,
    ⟨(some 3), none, .mv (.const (Go.Value.int Go.IntKind.i64 0))⟩])
  (.seq (.seq (.ops [⟨(some 10), none, .ld (.tmp 1) (some 5)⟩,
    ⟨(some 11), none, .call 36 [(.tmp 10)]⟩,
    ⟨(some 4), none, .mv (.tmp 11)⟩])
  (.seq (.ops [⟨(some 12), none, .mv (.tmp 4)⟩,
    ⟨(some 13), none, .bin .neq 28 (.tmp 12) (.const (Go.Value.int Go.IntKind.i64 0))⟩])
  (.cond (.tmp 13)
    (.seq (.ops [⟨(some 14), none, .mv (.tmp 4)⟩,
      ⟨(some 2), none, .mv (.const (Go.Value.slice none 0 0))⟩,
      ⟨(some 3), none, .mv (.tmp 14)⟩])
    (.ret))
    (.skip))))
  (.seq (.ops [⟨(some 16), none, .fld (.tmp 1) 0⟩,
    ⟨(some 17), none, .ld (.tmp 16) (some 3)⟩,
    ⟨(some 18), none, .call 70 [(.tmp 17)]⟩,
    ⟨(some 15), none, .mv (.tmp 18)⟩,
    ⟨(some 19), none, .ext (.tmp 15) 0⟩,
    ⟨(some 20), none, .ext (.tmp 15) 1⟩,
    ⟨(some 5), none, .mv (.tmp 19)⟩,
    ⟨(some 6), none, .mv (.tmp 20)⟩])
  (.seq (.ops [⟨(some 22), none, .fld (.tmp 1) 3⟩,
    ⟨(some 23), none, .ld (.tmp 22) none⟩,
    ⟨(some 24), none, .lenB (.tmp 23)⟩,
    ⟨(some 25), none, .fld (.tmp 1) 4⟩,
    ⟨(some 26), none, .ld (.tmp 25) none⟩,
    ⟨(some 27), none, .lenB (.tmp 26)⟩,
    ⟨(some 28), none, .call 60 [(.tmp 24), (.tmp 27)]⟩,
    ⟨(some 21), none, .mv (.tmp 28)⟩,
    ⟨(some 29), none, .ext (.tmp 21) 0⟩,
    ⟨(some 30), none, .ext (.tmp 21) 1⟩,
    ⟨(some 7), none, .mv (.tmp 29)⟩,
    ⟨(some 8), none, .mv (.tmp 30)⟩])
  (.seq (.ops [⟨(some 31), none, .mv (.tmp 5)⟩,
    ⟨(some 32), none, .mv (.tmp 7)⟩,
    ⟨(some 33), none, .bsl 36 1 3 [(Go.Value.int Go.IntKind.u64 0)] [(0, (.tmp 31)), (1, (.const (Go.Value.int Go.IntKind.u64 0))), (2, (.tmp 32))]⟩,
    ⟨(some 34), none, .fld (.tmp 1) 3⟩,
    ⟨(some 35), none, .ld (.tmp 34) none⟩,
    ⟨(some 36), none, .call 69 [(.tmp 35)]⟩,
    ⟨(some 37), none, .app 36 1 8 [(Go.Value.int Go.IntKind.u64 0)] (.tmp 33) (.tmp 36)⟩,
    ⟨(some 9), none, .mv (.tmp 37)⟩])
  (.seq (.ops [⟨(some 38), none, .mv (.tmp 9)⟩,
    ⟨(some 39), none, .fld (.tmp 1) 4⟩,
    ⟨(some 40), none, .ld (.tmp 39) none⟩,
    ⟨(some 41), none, .call 69 [(.tmp 40)]⟩,
    ⟨(some 42), none, .app 36 1 8 [(Go.Value.int Go.IntKind.u64 0)] (.tmp 38) (.tmp 41)⟩,
    ⟨(some 2), none, .mv (.tmp 42)⟩,
    ⟨(some 3), none, .mv (.const (Go.Value.int Go.IntKind.i64 0))⟩])
  (.ret))))))
theorem is_record_Words : FnIs Try.prog F.record_Words X.record_Words 43 [.tmp 2, .tmp 3] := ⟨by kernel_rfl⟩

/-- haycroft/haycroftlaw09.awake: function 13 -/
abbrev F.law09_awake : FuncId := 13
def X.law09_awake : X :=
  .seq (.ops [⟨(some 0), none, .mv (.const (Go.Value.bool false))⟩])
  (.seq (.ops [⟨(some 4), none, .bld [(Go.Value.int Go.IntKind.u64 0), (Go.Value.bool false), (Go.Value.bool false), (Go.Value.string { data := #[] }), (Go.Value.string { data := #[] })] [(3, 1, (.const (Go.Value.string { data := #[97] })))]⟩,
    ⟨(some 5), none, .call 37 [(.tmp 4)]⟩,
    ⟨(some 3), none, .mv (.tmp 5)⟩,
    ⟨(some 6), none, .ext (.tmp 3) 0⟩,
    ⟨(some 7), none, .ext (.tmp 3) 1⟩,
    ⟨(some 1), none, .mv (.tmp 6)⟩,
    ⟨(some 2), none, .mv (.tmp 7)⟩])
  (.seq (.ops [⟨(some 8), none, .mv (.tmp 1)⟩,
    ⟨(some 9), none, .lenS (.tmp 8)⟩,
    ⟨(some 10), none, .bin .eql 3 (.tmp 9) (.const (Go.Value.int Go.IntKind.i64 4))⟩,
    ⟨(some 11), none, .mv (.tmp 10)⟩,
    ⟨(some 12), (some (11, true)), .mv (.tmp 2)⟩,
    ⟨(some 13), (some (11, true)), .bin .eql 28 (.tmp 12) (.const (Go.Value.int Go.IntKind.i64 0))⟩,
    ⟨(some 14), none, .pick (.tmp 11) (.tmp 13) (.const (Go.Value.bool false))⟩,
    ⟨(some 15), none, .mv (.tmp 14)⟩,
    ⟨(some 16), (some (15, true)), .mv (.tmp 1)⟩,
    ⟨(some 17), (some (15, true)), .idx (.tmp 16) (.const (Go.Value.int Go.IntKind.i64 3)) 1⟩,
    ⟨(some 18), (some (15, true)), .ld (.tmp 17) none⟩,
    ⟨(some 19), (some (15, true)), .bin .eql 36 (.tmp 18) (.const (Go.Value.int Go.IntKind.u64 97))⟩,
    ⟨(some 20), none, .pick (.tmp 15) (.tmp 19) (.const (Go.Value.bool false))⟩,
    ⟨(some 0), none, .mv (.tmp 20)⟩])
  (.ret)))
theorem is_law09_awake : FnIs Try.prog F.law09_awake X.law09_awake 21 [.tmp 0] := ⟨by kernel_rfl⟩

/-- haycroft/record.words: function 61 -/
abbrev F.record_words : FuncId := 61
def X.record_words : X :=
  .seq (.ops [⟨(some 2), none, .mv (.const (Go.Value.int Go.IntKind.i64 0))⟩])
  (.seq (.ops [⟨(some 3), none, .mv (.tmp 0)⟩,
    ⟨(some 4), none, .bin .add 3 (.tmp 3) (.const (Go.Value.int Go.IntKind.i64 8))⟩,
    ⟨(some 5), none, .bin .sub 3 (.tmp 4) (.const (Go.Value.int Go.IntKind.i64 1))⟩,
    ⟨(some 6), none, .bin .quo 3 (.tmp 5) (.const (Go.Value.int Go.IntKind.i64 8))⟩,
    ⟨(some 2), none, .mv (.tmp 6)⟩])
  (.ret))
theorem is_record_words : FnIs Try.prog F.record_words X.record_words 7 [.tmp 2] := ⟨by kernel_rfl⟩

/-- haycroft/record.ValueAt: function 14 -/
abbrev F.record_ValueAt : FuncId := 14
def X.record_ValueAt : X :=
  .seq (.ops [⟨(some 2), none, .mv (.const (Go.Value.int Go.IntKind.i64 0))⟩])
  (.seq (.seq (.ops [⟨(some 6), none, .mv (.tmp 0)⟩,
    ⟨(some 7), none, .call 60 [(.tmp 6), (.const (Go.Value.int Go.IntKind.i64 0))]⟩,
    ⟨(some 5), none, .mv (.tmp 7)⟩,
    ⟨(some 8), none, .ext (.tmp 5) 0⟩,
    ⟨(some 9), none, .ext (.tmp 5) 1⟩,
    ⟨(some 3), none, .mv (.tmp 8)⟩,
    ⟨(some 4), none, .mv (.tmp 9)⟩])
  (.seq (.ops [⟨(some 10), none, .mv (.tmp 4)⟩,
    ⟨(some 11), none, .bin .neq 28 (.tmp 10) (.const (Go.Value.int Go.IntKind.i64 0))⟩])
  (.cond (.tmp 11)
    (.seq (.ops [⟨(some 2), none, .mv (.const (Go.Value.int Go.IntKind.i64 0))⟩])
    (.ret))
    (.skip))))
  (.seq (.ops [⟨(some 12), none, .mv (.tmp 0)⟩,
    ⟨(some 13), none, .call 61 [(.tmp 12)]⟩,
    ⟨(some 14), none, .bin .add 3 (.const (Go.Value.int Go.IntKind.i64 3)) (.tmp 13)⟩,
    ⟨(some 2), none, .mv (.tmp 14)⟩])
  (.ret)))
theorem is_record_ValueAt : FnIs Try.prog F.record_ValueAt X.record_ValueAt 15 [.tmp 2] := ⟨by kernel_rfl⟩

/-- haycroft/record.Size: function 15 -/
abbrev F.record_Size : FuncId := 15
def X.record_Size : X :=
  .seq (.ops [⟨(some 4), none, .mv (.const (Go.Value.int Go.IntKind.i64 0))⟩])
  (.seq (.seq (.ops [⟨(some 8), none, .mv (.tmp 0)⟩,
    ⟨(some 9), none, .mv (.tmp 1)⟩,
    ⟨(some 10), none, .call 60 [(.tmp 8), (.tmp 9)]⟩,
    ⟨(some 7), none, .mv (.tmp 10)⟩,
    ⟨(some 11), none, .ext (.tmp 7) 0⟩,
    ⟨(some 12), none, .ext (.tmp 7) 1⟩,
    ⟨(some 5), none, .mv (.tmp 11)⟩,
    ⟨(some 6), none, .mv (.tmp 12)⟩])
  (.seq (.ops [⟨(some 13), none, .mv (.tmp 6)⟩,
    ⟨(some 14), none, .bin .neq 28 (.tmp 13) (.const (Go.Value.int Go.IntKind.i64 0))⟩])
  (.cond (.tmp 14)
    (.seq (.ops [⟨(some 4), none, .mv (.const (Go.Value.int Go.IntKind.i64 0))⟩])
    (.ret))
    (.skip))))
  (.seq (.ops [⟨(some 15), none, .mv (.tmp 0)⟩,
    ⟨(some 16), none, .call 61 [(.tmp 15)]⟩,
    ⟨(some 17), none, .bin .add 3 (.const (Go.Value.int Go.IntKind.i64 3)) (.tmp 16)⟩,
    ⟨(some 18), none, .mv (.tmp 1)⟩,
    ⟨(some 19), none, .call 61 [(.tmp 18)]⟩,
    ⟨(some 20), none, .bin .add 3 (.tmp 17) (.tmp 19)⟩,
    ⟨(some 4), none, .mv (.tmp 20)⟩])
  (.ret)))
theorem is_record_Size : FnIs Try.prog F.record_Size X.record_Size 21 [.tmp 4] := ⟨by kernel_rfl⟩

/-- haycroft/haycroftref09.Size: function 16 -/
abbrev F.ref09_Size : FuncId := 16
def X.ref09_Size : X :=
  .seq (.ops [⟨(some 4), none, .mv (.const (Go.Value.int Go.IntKind.i64 0))⟩])
  (.seq (.seq (.ops [⟨(some 5), none, .mv (.tmp 0)⟩,
    ⟨(some 6), none, .bin .lss 3 (.tmp 5) (.const (Go.Value.int Go.IntKind.i64 0))⟩,
    ⟨(some 7), none, .mv (.tmp 6)⟩,
    ⟨(some 8), (some (7, false)), .mv (.tmp 1)⟩,
    ⟨(some 9), (some (7, false)), .bin .lss 3 (.tmp 8) (.const (Go.Value.int Go.IntKind.i64 0))⟩,
    ⟨(some 10), none, .pick (.tmp 7) (.const (Go.Value.bool true)) (.tmp 9)⟩,
    ⟨(some 11), none, .mv (.tmp 10)⟩,
    ⟨(some 12), (some (11, false)), .mv (.tmp 0)⟩,
    ⟨(some 13), (some (11, false)), .bin .gtr 3 (.tmp 12) (.const (Go.Value.int Go.IntKind.i64 64))⟩,
    ⟨(some 14), none, .pick (.tmp 11) (.const (Go.Value.bool true)) (.tmp 13)⟩,
    ⟨(some 15), none, .mv (.tmp 14)⟩,
    ⟨(some 16), (some (15, false)), .mv (.tmp 1)⟩,
    ⟨(some 17), (some (15, false)), .bin .gtr 3 (.tmp 16) (.const (Go.Value.int Go.IntKind.i64 128))⟩,
    ⟨(some 18), none, .pick (.tmp 15) (.const (Go.Value.bool true)) (.tmp 17)⟩])
  (.cond (.tmp 18)
    (.seq (.ops [⟨(some 4), none, .mv (.const (Go.Value.int Go.IntKind.i64 0))⟩])
    (.ret))
    (.skip)))
  (.seq (.ops [⟨(some 19), none, .mv (.tmp 0)⟩,
    ⟨(some 20), none, .bin .add 3 (.tmp 19) (.const (Go.Value.int Go.IntKind.i64 7))⟩,
    ⟨(some 21), none, .bin .quo 3 (.tmp 20) (.const (Go.Value.int Go.IntKind.i64 8))⟩,
    ⟨(some 22), none, .bin .add 3 (.const (Go.Value.int Go.IntKind.i64 3)) (.tmp 21)⟩,
    ⟨(some 23), none, .mv (.tmp 1)⟩,
    ⟨(some 24), none, .bin .add 3 (.tmp 23) (.const (Go.Value.int Go.IntKind.i64 7))⟩,
    ⟨(some 25), none, .bin .quo 3 (.tmp 24) (.const (Go.Value.int Go.IntKind.i64 8))⟩,
    ⟨(some 26), none, .bin .add 3 (.tmp 22) (.tmp 25)⟩,
    ⟨(some 4), none, .mv (.tmp 26)⟩])
  (.ret)))
theorem is_ref09_Size : FnIs Try.prog F.ref09_Size X.ref09_Size 27 [.tmp 4] := ⟨by kernel_rfl⟩

/-- haycroft/haycroftlaw09.RecordSizes: function 3 -/
abbrev F.law09_RecordSizes : FuncId := 3
def X.law09_RecordSizes : X :=
  .seq (.ops [⟨(some 4), none, .mv (.const (Go.Value.bool false))⟩])
  (.seq (.seq (.ops [⟨(some 6), none, .call 13 []⟩,
    ⟨(some 7), none, .un .not (.tmp 6)⟩])
  (.cond (.tmp 7)
    (.seq (.ops [⟨(some 4), none, .mv (.const (Go.Value.bool false))⟩])
    (.ret))
    (.skip)))
  (.seq (.ops [⟨(some 8), none, .mv (.tmp 0)⟩,
    ⟨(some 9), none, .call 14 [(.tmp 8)]⟩,
    ⟨(some 5), none, .mv (.tmp 9)⟩])
  (.seq (.ops [⟨(some 10), none, .mv (.tmp 0)⟩,
    ⟨(some 11), none, .mv (.tmp 1)⟩,
    ⟨(some 12), none, .call 15 [(.tmp 10), (.tmp 11)]⟩,
    ⟨(some 13), none, .mv (.tmp 0)⟩,
    ⟨(some 14), none, .mv (.tmp 1)⟩,
    ⟨(some 15), none, .call 16 [(.tmp 13), (.tmp 14)]⟩,
    ⟨(some 16), none, .bin .eql 3 (.tmp 12) (.tmp 15)⟩,
    ⟨(some 17), none, .mv (.tmp 16)⟩,
    ⟨(some 18), (some (17, true)), .mv (.tmp 5)⟩,
    ⟨(some 19), (some (17, true)), .mv (.tmp 0)⟩,
    ⟨(some 20), (some (17, true)), .call 16 [(.tmp 19), (.const (Go.Value.int Go.IntKind.i64 0))]⟩,
    ⟨(some 21), (some (17, true)), .bin .eql 3 (.tmp 18) (.tmp 20)⟩,
    ⟨(some 22), none, .pick (.tmp 17) (.tmp 21) (.const (Go.Value.bool false))⟩,
    ⟨(some 4), none, .mv (.tmp 22)⟩])
  (.ret))))
theorem is_law09_RecordSizes : FnIs Try.prog F.law09_RecordSizes X.law09_RecordSizes 23 [.tmp 4] := ⟨by kernel_rfl⟩

/-- haycroft/cell.New: function 62 -/
abbrev F.cell_New : FuncId := 62
def X.cell_New : X :=
  .seq (.ops [⟨(some 2), none, .mv (.const (Go.Value.pointer none))⟩,
    ⟨(some 3), none, .mv (.const (Go.Value.int Go.IntKind.i64 0))⟩])
  (.seq (.seq (.ops [⟨(some 4), none, .mv (.tmp 0)⟩,
    ⟨(some 5), none, .bin .lss 3 (.tmp 4) (.const (Go.Value.int Go.IntKind.i64 1))⟩,
    ⟨(some 6), none, .mv (.tmp 5)⟩,
    ⟨(some 7), (some (6, false)), .mv (.tmp 0)⟩,
    ⟨(some 8), (some (6, false)), .bin .gtr 3 (.tmp 7) (.const (Go.Value.int Go.IntKind.i64 65536))⟩,
    ⟨(some 9), none, .pick (.tmp 6) (.const (Go.Value.bool true)) (.tmp 8)⟩])
  (.cond (.tmp 9)
    (.seq (.ops [⟨(some 2), none, .mv (.const (Go.Value.pointer none))⟩,
      ⟨(some 3), none, .mv (.const (Go.Value.int Go.IntKind.i64 1))⟩])
    (.ret))
    (.skip)))
  (.seq (.ops [⟨(some 10), none, .mv (.tmp 0)⟩,
    ⟨(some 11), none, .mks 125 1 8 [(Go.Value.int Go.IntKind.u64 0)] (.tmp 10) (.tmp 10)⟩,
    ⟨(some 12), none, .bld [(Go.Value.slice none 0 0), (Go.Value.int Go.IntKind.i64 0), (Go.Value.int Go.IntKind.i64 0)] [(0, 1, (.tmp 11))]⟩,
    ⟨(some 13), none, .box 123 (.tmp 12)⟩,
    ⟨(some 2), none, .mv (.tmp 13)⟩,
    ⟨(some 3), none, .mv (.const (Go.Value.int Go.IntKind.i64 0))⟩])
  (.ret)))
theorem is_cell_New : FnIs Try.prog F.cell_New X.cell_New 14 [.tmp 2, .tmp 3] := ⟨by kernel_rfl⟩

/-- (*haycroft/cell.Row).Len: function 92 -/
abbrev F.cell_Row_Len : FuncId := 92
def X.cell_Row_Len : X :=
  .seq (.ops [⟨(some 2), none, .mv (.const (Go.Value.int Go.IntKind.i64 0))⟩])
  (.seq (.seq (.ops [⟨(some 3), none, .mv (.tmp 0)⟩,
    ⟨(some 4), none, .eq false .ptr (.tmp 3) (.const (Go.Value.pointer none))⟩])
  (.cond (.tmp 4)
    (.seq (.ops [⟨(some 2), none, .mv (.const (Go.Value.int Go.IntKind.i64 0))⟩])
    (.ret))
    (.skip)))
  (.seq (.ops [⟨(some 5), none, .mv (.tmp 0)⟩,
    ⟨(some 6), none, .nilc (.tmp 5)⟩,
    ⟨(some 7), none, .fld (.tmp 6) 0⟩,
    ⟨(some 8), none, .ld (.tmp 7) none⟩,
    ⟨(some 9), none, .lenS (.tmp 8)⟩,
    ⟨(some 2), none, .mv (.tmp 9)⟩])
  (.ret)))
theorem is_cell_Row_Len : FnIs Try.prog F.cell_Row_Len X.cell_Row_Len 10 [.tmp 2] := ⟨by kernel_rfl⟩

/-- (*haycroft/cell.Row).there: function 93 -/
abbrev F.cell_Row_there : FuncId := 93
def X.cell_Row_there : X :=
  .seq (.ops [⟨(some 4), none, .mv (.const (Go.Value.bool false))⟩])
  (.seq (.ops [⟨(some 5), none, .mv (.tmp 1)⟩,
    ⟨(some 6), none, .bin .geq 3 (.tmp 5) (.const (Go.Value.int Go.IntKind.i64 0))⟩,
    ⟨(some 7), none, .mv (.tmp 6)⟩,
    ⟨(some 8), (some (7, true)), .mv (.tmp 1)⟩,
    ⟨(some 9), (some (7, true)), .mv (.tmp 0)⟩,
    ⟨(some 10), (some (7, true)), .call 92 [(.tmp 9)]⟩,
    ⟨(some 11), (some (7, true)), .bin .lss 3 (.tmp 8) (.tmp 10)⟩,
    ⟨(some 12), none, .pick (.tmp 7) (.tmp 11) (.const (Go.Value.bool false))⟩,
    ⟨(some 4), none, .mv (.tmp 12)⟩])
  (.ret))
theorem is_cell_Row_there : FnIs Try.prog F.cell_Row_there X.cell_Row_there 13 [.tmp 4] := ⟨by kernel_rfl⟩

/-- (*haycroft/cell.Row).may: function 89 -/
abbrev F.cell_Row_may : FuncId := 89
def X.cell_Row_may : X :=
  .seq (.ops [⟨(some 4), none, .mv (.const (Go.Value.int Go.IntKind.i64 0))⟩])
  (.seq (.block 0 (.seq (.ops [⟨(some 6), none, .mv (.tmp 0)⟩,
      ⟨(some 7), none, .eq false .ptr (.tmp 6) (.const (Go.Value.pointer none))⟩,
      ⟨(some 5), none, .mv (.tmp 7)⟩])
    (.cond (.tmp 5)
      (.seq (.ops [⟨(some 4), none, .mv (.const (Go.Value.int Go.IntKind.i64 2))⟩])
      (.ret))
      (.seq (.ops [⟨(some 9), none, .mv (.tmp 0)⟩,
        ⟨(some 10), none, .mv (.tmp 1)⟩,
        ⟨(some 11), none, .call 93 [(.tmp 9), (.tmp 10)]⟩,
        ⟨(some 12), none, .un .not (.tmp 11)⟩,
        ⟨(some 8), none, .mv (.tmp 12)⟩])
      (.cond (.tmp 8)
        (.seq (.ops [⟨(some 4), none, .mv (.const (Go.Value.int Go.IntKind.i64 1))⟩])
        (.ret))
        (.skip))))))
  (.seq (.ops [⟨(some 4), none, .mv (.const (Go.Value.int Go.IntKind.i64 0))⟩])
  (.ret)))
theorem is_cell_Row_may : FnIs Try.prog F.cell_Row_may X.cell_Row_may 13 [.tmp 4] := ⟨by kernel_rfl⟩

/-- sync/atomic.StoreUint64: function 104, without a body -/
abbrev F.atomic_StoreUint64 : FuncId := 104
theorem ext_atomic_StoreUint64 : ExtIs Try.prog F.atomic_StoreUint64 Try.f104 Extern.Atomic.storeT := ⟨Try.func104, by kernel_rfl, by kernel_rfl, by kernel_rfl, by kernel_rfl⟩

/-- (*sync/atomic.Uint64).Store: function 90 -/
abbrev F.atomic_Uint64_Store : FuncId := 90
def X.atomic_Uint64_Store : X :=
  .ops [⟨(some 4), none, .mv (.tmp 0)⟩,
    ⟨(some 5), none, .nilc (.tmp 4)⟩,
    ⟨(some 6), none, .fld (.tmp 5) 0⟩,
    ⟨(some 7), none, .mv (.tmp 1)⟩,
    ⟨(some 8), none, .ext1 104 [(.tmp 6), (.tmp 7)]⟩]
theorem is_atomic_Uint64_Store : FnIs Try.prog F.atomic_Uint64_Store X.atomic_Uint64_Store 9 [] := ⟨by kernel_rfl⟩

/-- (*haycroft/cell.Row).Store: function 63 -/
abbrev F.cell_Row_Store : FuncId := 63
def X.cell_Row_Store : X :=
  .seq (.ops [⟨(some 6), none, .mv (.const (Go.Value.int Go.IntKind.i64 0))⟩])
  (.seq (.ops [⟨(some 8), none, .mv (.tmp 0)⟩,
    ⟨(some 9), none, .mv (.tmp 1)⟩,
    ⟨(some 10), none, .call 89 [(.tmp 8), (.tmp 9)]⟩,
    ⟨(some 7), none, .mv (.tmp 10)⟩])
  (.seq (.seq (.ops [⟨(some 11), none, .mv (.tmp 7)⟩,
    ⟨(some 12), none, .bin .eql 28 (.tmp 11) (.const (Go.Value.int Go.IntKind.i64 0))⟩])
  (.cond (.tmp 12)
    (.ops [⟨(some 13), none, .mv (.tmp 0)⟩,
      ⟨(some 14), none, .nilc (.tmp 13)⟩,
      ⟨(some 15), none, .fld (.tmp 14) 0⟩,
      ⟨(some 16), none, .ld (.tmp 15) none⟩,
      ⟨(some 17), none, .mv (.tmp 1)⟩,
      ⟨(some 18), none, .idx (.tmp 16) (.tmp 17) 1⟩,
      ⟨(some 19), none, .mv (.tmp 2)⟩,
      ⟨(some 20), none, .call 90 [(.tmp 18), (.tmp 19)]⟩])
    (.skip)))
  (.seq (.ops [⟨(some 21), none, .mv (.tmp 7)⟩,
    ⟨(some 6), none, .mv (.tmp 21)⟩])
  (.ret))))
theorem is_cell_Row_Store : FnIs Try.prog F.cell_Row_Store X.cell_Row_Store 22 [.tmp 6] := ⟨by kernel_rfl⟩

/-- haycroft/epoch.New: function 18 -/
abbrev F.epoch_New : FuncId := 18
def X.epoch_New : X :=
  .seq (.ops [⟨(some 2), none, .mv (.const (Go.Value.pointer none))⟩,
    ⟨(some 3), none, .mv (.const (Go.Value.int Go.IntKind.i64 0))⟩])
  (.seq (.seq (.ops [⟨(some 6), none, .mv (.tmp 0)⟩,
    ⟨(some 7), none, .bin .lss 3 (.tmp 6) (.const (Go.Value.int Go.IntKind.i64 1))⟩,
    ⟨(some 8), none, .mv (.tmp 7)⟩,
    ⟨(some 9), (some (8, false)), .mv (.tmp 0)⟩,
    ⟨(some 10), (some (8, false)), .bin .gtr 3 (.tmp 9) (.const (Go.Value.int Go.IntKind.i64 8))⟩,
    ⟨(some 11), none, .pick (.tmp 8) (.const (Go.Value.bool true)) (.tmp 10)⟩])
  (.cond (.tmp 11)
    (.seq (.ops [⟨(some 2), none, .mv (.const (Go.Value.pointer none))⟩,
      ⟨(some 3), none, .mv (.const (Go.Value.int Go.IntKind.i64 1))⟩])
    (.ret))
    (.skip)))
  (.seq (.ops [⟨(some 13), none, .mv (.tmp 0)⟩,
    ⟨(some 14), none, .bin .add 3 (.const (Go.Value.int Go.IntKind.i64 1)) (.tmp 13)⟩,
    ⟨(some 15), none, .call 62 [(.tmp 14)]⟩,
    ⟨(some 12), none, .mv (.tmp 15)⟩,
    ⟨(some 16), none, .ext (.tmp 12) 0⟩,
    ⟨(some 17), none, .ext (.tmp 12) 1⟩,
    ⟨(some 4), none, .mv (.tmp 16)⟩,
    ⟨(some 5), none, .mv (.tmp 17)⟩])
  (.seq (.seq (.ops [⟨(some 18), none, .mv (.tmp 5)⟩,
    ⟨(some 19), none, .bin .neq 28 (.tmp 18) (.const (Go.Value.int Go.IntKind.i64 0))⟩])
  (.cond (.tmp 19)
    (.seq (.ops [⟨(some 20), none, .mv (.tmp 5)⟩,
      ⟨(some 2), none, .mv (.const (Go.Value.pointer none))⟩,
      ⟨(some 3), none, .mv (.tmp 20)⟩])
    (.ret))
    (.skip)))
  (.seq (.ops [⟨(some 21), none, .mv (.tmp 4)⟩,
    ⟨(some 22), none, .call 63 [(.tmp 21), (.const (Go.Value.int Go.IntKind.i64 0)), (.const (Go.Value.int Go.IntKind.u64 1))]⟩])
  (.seq (.ops [⟨(some 23), none, .mv (.tmp 4)⟩,
    ⟨(some 24), none, .bld [(Go.Value.pointer none)] [(0, 1, (.tmp 23))]⟩,
    ⟨(some 25), none, .box 95 (.tmp 24)⟩,
    ⟨(some 2), none, .mv (.tmp 25)⟩,
    ⟨(some 3), none, .mv (.const (Go.Value.int Go.IntKind.i64 0))⟩])
  (.ret))))))
theorem is_epoch_New : FnIs Try.prog F.epoch_New X.epoch_New 26 [.tmp 2, .tmp 3] := ⟨by kernel_rfl⟩

/-- sync/atomic.LoadUint64: function 106, without a body -/
abbrev F.atomic_LoadUint64 : FuncId := 106
theorem ext_atomic_LoadUint64 : ExtIs Try.prog F.atomic_LoadUint64 Try.f106 (Extern.Atomic.loadT (.int .u64)) := ⟨Try.func106, by kernel_rfl, by kernel_rfl, by kernel_rfl, by kernel_rfl⟩

/-- (*sync/atomic.Uint64).Load: function 94 -/
abbrev F.atomic_Uint64_Load : FuncId := 94
def X.atomic_Uint64_Load : X :=
  .seq (.ops [⟨(some 2), none, .mv (.const (Go.Value.int Go.IntKind.u64 0))⟩])
  (.seq (.ops [⟨(some 3), none, .mv (.tmp 0)⟩,
    ⟨(some 4), none, .nilc (.tmp 3)⟩,
    ⟨(some 5), none, .fld (.tmp 4) 0⟩,
    ⟨(some 6), none, .ext1 106 [(.tmp 5)]⟩,
    ⟨(some 2), none, .mv (.tmp 6)⟩])
  (.ret))
theorem is_atomic_Uint64_Load : FnIs Try.prog F.atomic_Uint64_Load X.atomic_Uint64_Load 7 [.tmp 2] := ⟨by kernel_rfl⟩

/-- (*haycroft/cell.Row).Load: function 66 -/
abbrev F.cell_Row_Load : FuncId := 66
def X.cell_Row_Load : X :=
  .seq (.ops [⟨(some 4), none, .mv (.const (Go.Value.int Go.IntKind.u64 0))⟩])
  (.seq (.seq (.ops [⟨(some 5), none, .mv (.tmp 0)⟩,
    ⟨(some 6), none, .mv (.tmp 1)⟩,
    ⟨(some 7), none, .call 93 [(.tmp 5), (.tmp 6)]⟩,
    ⟨(some 8), none, .un .not (.tmp 7)⟩])
  (.cond (.tmp 8)
    (.seq (.ops [⟨(some 4), none, .mv (.const (Go.Value.int Go.IntKind.u64 0))⟩])
    (.ret))
    (.skip)))
  (.seq (.ops [⟨(some 9), none, .mv (.tmp 0)⟩,
    ⟨(some 10), none, .nilc (.tmp 9)⟩,
    ⟨(some 11), none, .fld (.tmp 10) 0⟩,
    ⟨(some 12), none, .ld (.tmp 11) none⟩,
    ⟨(some 13), none, .mv (.tmp 1)⟩,
    ⟨(some 14), none, .idx (.tmp 12) (.tmp 13) 1⟩,
    ⟨(some 15), none, .call 94 [(.tmp 14)]⟩,
    ⟨(some 4), none, .mv (.tmp 15)⟩])
  (.ret)))
theorem is_cell_Row_Load : FnIs Try.prog F.cell_Row_Load X.cell_Row_Load 16 [.tmp 4] := ⟨by kernel_rfl⟩

/-- (*haycroft/epoch.Table).Now: function 25 -/
abbrev F.epoch_Table_Now : FuncId := 25
def X.epoch_Table_Now : X :=
  .seq (.ops [⟨(some 2), none, .mv (.const (Go.Value.int Go.IntKind.u64 0))⟩])
  (.seq (.seq (.ops [⟨(some 3), none, .mv (.tmp 0)⟩,
    ⟨(some 4), none, .eq false .ptr (.tmp 3) (.const (Go.Value.pointer none))⟩])
  (.cond (.tmp 4)
    (.seq (.ops [⟨(some 2), none, .mv (.const (Go.Value.int Go.IntKind.u64 0))⟩])
    (.ret))
    (.skip)))
  (.seq (.ops [⟨(some 5), none, .mv (.tmp 0)⟩,
    ⟨(some 6), none, .nilc (.tmp 5)⟩,
    ⟨(some 7), none, .fld (.tmp 6) 0⟩,
    ⟨(some 8), none, .ld (.tmp 7) none⟩,
    ⟨(some 9), none, .call 66 [(.tmp 8), (.const (Go.Value.int Go.IntKind.i64 0))]⟩,
    ⟨(some 2), none, .mv (.tmp 9)⟩])
  (.ret)))
theorem is_epoch_Table_Now : FnIs Try.prog F.epoch_Table_Now X.epoch_Table_Now 10 [.tmp 2] := ⟨by kernel_rfl⟩

/-- (*haycroft/epoch.Table).there: function 65 -/
abbrev F.epoch_Table_there : FuncId := 65
def X.epoch_Table_there : X :=
  .seq (.ops [⟨(some 4), none, .mv (.const (Go.Value.bool false))⟩])
  (.seq (.ops [⟨(some 5), none, .mv (.tmp 0)⟩,
    ⟨(some 6), none, .eq true .ptr (.tmp 5) (.const (Go.Value.pointer none))⟩,
    ⟨(some 7), none, .mv (.tmp 6)⟩,
    ⟨(some 8), (some (7, true)), .mv (.tmp 1)⟩,
    ⟨(some 9), (some (7, true)), .bin .geq 3 (.tmp 8) (.const (Go.Value.int Go.IntKind.i64 0))⟩,
    ⟨(some 10), none, .pick (.tmp 7) (.tmp 9) (.const (Go.Value.bool false))⟩,
    ⟨(some 11), none, .mv (.tmp 10)⟩,
    ⟨(some 12), (some (11, true)), .mv (.tmp 1)⟩,
    ⟨(some 13), (some (11, true)), .mv (.tmp 0)⟩,
    ⟨(some 14), (some (11, true)), .nilc (.tmp 13)⟩,
    ⟨(some 15), (some (11, true)), .fld (.tmp 14) 0⟩,
    ⟨(some 16), (some (11, true)), .ld (.tmp 15) none⟩,
    ⟨(some 17), (some (11, true)), .call 92 [(.tmp 16)]⟩,
    ⟨(some 18), (some (11, true)), .bin .sub 3 (.tmp 17) (.const (Go.Value.int Go.IntKind.i64 1))⟩,
    ⟨(some 19), (some (11, true)), .bin .lss 3 (.tmp 12) (.tmp 18)⟩,
    ⟨(some 20), none, .pick (.tmp 11) (.tmp 19) (.const (Go.Value.bool false))⟩,
    ⟨(some 4), none, .mv (.tmp 20)⟩])
  (.ret))
theorem is_epoch_Table_there : FnIs Try.prog F.epoch_Table_there X.epoch_Table_there 21 [.tmp 4] := ⟨by kernel_rfl⟩

/-- (*haycroft/epoch.Table).Seen: function 24 -/
abbrev F.epoch_Table_Seen : FuncId := 24
def X.epoch_Table_Seen : X :=
  .seq (.ops [⟨(some 4), none, .mv (.const (Go.Value.int Go.IntKind.u64 0))⟩])
  (.seq (.seq (.ops [⟨(some 5), none, .mv (.tmp 0)⟩,
    ⟨(some 6), none, .mv (.tmp 1)⟩,
    ⟨(some 7), none, .call 65 [(.tmp 5), (.tmp 6)]⟩,
    ⟨(some 8), none, .un .not (.tmp 7)⟩])
  (.cond (.tmp 8)
    (.seq (.ops [⟨(some 4), none, .mv (.const (Go.Value.int Go.IntKind.u64 0))⟩])
    (.ret))
    (.skip)))
  (.seq (.ops [⟨(some 9), none, .mv (.tmp 0)⟩,
    ⟨(some 10), none, .nilc (.tmp 9)⟩,
    ⟨(some 11), none, .fld (.tmp 10) 0⟩,
    ⟨(some 12), none, .ld (.tmp 11) none⟩,
    ⟨(some 13), none, .mv (.tmp 1)⟩,
    ⟨(some 14), none, .bin .add 3 (.const (Go.Value.int Go.IntKind.i64 1)) (.tmp 13)⟩,
    ⟨(some 15), none, .call 66 [(.tmp 12), (.tmp 14)]⟩,
    ⟨(some 4), none, .mv (.tmp 15)⟩])
  (.ret)))
theorem is_epoch_Table_Seen : FnIs Try.prog F.epoch_Table_Seen X.epoch_Table_Seen 16 [.tmp 4] := ⟨by kernel_rfl⟩

/-- (*haycroft/epoch.Table).turn: function 67 -/
abbrev F.epoch_Table_turn : FuncId := 67
def X.epoch_Table_turn : X :=
  .seq (.ops [⟨(some 10), none, .mv (.const (Go.Value.int Go.IntKind.i64 0))⟩])
  (.seq (.block 0 (.seq (.ops [⟨(some 12), none, .mv (.tmp 0)⟩,
      ⟨(some 13), none, .eq false .ptr (.tmp 12) (.const (Go.Value.pointer none))⟩,
      ⟨(some 11), none, .mv (.tmp 13)⟩])
    (.cond (.tmp 11)
      (.seq (.ops [⟨(some 10), none, .mv (.const (Go.Value.int Go.IntKind.i64 2))⟩])
      (.ret))
      (.seq (.ops [⟨(some 15), none, .mv (.tmp 0)⟩,
        ⟨(some 16), none, .mv (.tmp 1)⟩,
        ⟨(some 17), none, .call 65 [(.tmp 15), (.tmp 16)]⟩,
        ⟨(some 18), none, .un .not (.tmp 17)⟩,
        ⟨(some 14), none, .mv (.tmp 18)⟩])
      (.cond (.tmp 14)
        (.seq (.ops [⟨(some 10), none, .mv (.const (Go.Value.int Go.IntKind.i64 1))⟩])
        (.ret))
        (.seq (.ops [⟨(some 20), none, .mv (.tmp 2)⟩,
          ⟨(some 21), none, .mv (.tmp 0)⟩,
          ⟨(some 22), none, .mv (.tmp 1)⟩,
          ⟨(some 23), none, .call 24 [(.tmp 21), (.tmp 22)]⟩,
          ⟨(some 24), none, .bin .gtr 36 (.tmp 23) (.const (Go.Value.int Go.IntKind.u64 0))⟩,
          ⟨(some 25), none, .eq true .bool (.tmp 20) (.tmp 24)⟩,
          ⟨(some 19), none, .mv (.tmp 25)⟩])
        (.cond (.tmp 19)
          (.seq (.ops [⟨(some 26), none, .mv (.tmp 4)⟩,
            ⟨(some 10), none, .mv (.tmp 26)⟩])
          (.ret))
          (.skip))))))))
  (.seq (.ops [⟨(some 27), none, .mv (.tmp 0)⟩,
    ⟨(some 28), none, .nilc (.tmp 27)⟩,
    ⟨(some 29), none, .fld (.tmp 28) 0⟩,
    ⟨(some 30), none, .ld (.tmp 29) none⟩,
    ⟨(some 31), none, .mv (.tmp 1)⟩,
    ⟨(some 32), none, .bin .add 3 (.const (Go.Value.int Go.IntKind.i64 1)) (.tmp 31)⟩,
    ⟨(some 33), none, .mv (.tmp 3)⟩,
    ⟨(some 34), none, .call 63 [(.tmp 30), (.tmp 32), (.tmp 33)]⟩,
    ⟨(some 10), none, .mv (.tmp 34)⟩])
  (.ret)))
theorem is_epoch_Table_turn : FnIs Try.prog F.epoch_Table_turn X.epoch_Table_turn 35 [.tmp 10] := ⟨by kernel_rfl⟩

/-- (*haycroft/epoch.Table).Enter: function 30 -/
abbrev F.epoch_Table_Enter : FuncId := 30
def X.epoch_Table_Enter : X :=
  .seq (.ops [⟨(some 4), none, .mv (.const (Go.Value.int Go.IntKind.i64 0))⟩])
  (.seq (.ops [⟨(some 5), none, .mv (.tmp 0)⟩,
    ⟨(some 6), none, .mv (.tmp 1)⟩,
    ⟨(some 7), none, .mv (.tmp 0)⟩,
    ⟨(some 8), none, .call 25 [(.tmp 7)]⟩,
    ⟨(some 9), none, .call 67 [(.tmp 5), (.tmp 6), (.const (Go.Value.bool false)), (.tmp 8), (.const (Go.Value.int Go.IntKind.i64 8))]⟩,
    ⟨(some 4), none, .mv (.tmp 9)⟩])
  (.ret))
theorem is_epoch_Table_Enter : FnIs Try.prog F.epoch_Table_Enter X.epoch_Table_Enter 10 [.tmp 4] := ⟨by kernel_rfl⟩

/-- sync/atomic.AddUint64: function 105, without a body -/
abbrev F.atomic_AddUint64 : FuncId := 105
theorem ext_atomic_AddUint64 : ExtIs Try.prog F.atomic_AddUint64 Try.f105 (Extern.Atomic.update (Op.intArith .add) .u64 true) := ⟨Try.func105, by kernel_rfl, by kernel_rfl, by kernel_rfl, by kernel_rfl⟩

/-- (*sync/atomic.Uint64).Add: function 91 -/
abbrev F.atomic_Uint64_Add : FuncId := 91
def X.atomic_Uint64_Add : X :=
  .seq (.ops [⟨(some 4), none, .mv (.const (Go.Value.int Go.IntKind.u64 0))⟩])
  (.seq (.ops [⟨(some 5), none, .mv (.tmp 0)⟩,
    ⟨(some 6), none, .nilc (.tmp 5)⟩,
    ⟨(some 7), none, .fld (.tmp 6) 0⟩,
    ⟨(some 8), none, .mv (.tmp 1)⟩,
    ⟨(some 9), none, .ext1 105 [(.tmp 7), (.tmp 8)]⟩,
    ⟨(some 4), none, .mv (.tmp 9)⟩])
  (.ret))
theorem is_atomic_Uint64_Add : FnIs Try.prog F.atomic_Uint64_Add X.atomic_Uint64_Add 10 [.tmp 4] := ⟨by kernel_rfl⟩

/-- (*haycroft/cell.Row).Add: function 64 -/
abbrev F.cell_Row_Add : FuncId := 64
def X.cell_Row_Add : X :=
  .seq (.ops [⟨(some 6), none, .mv (.const (Go.Value.int Go.IntKind.u64 0))⟩,
    ⟨(some 7), none, .mv (.const (Go.Value.int Go.IntKind.i64 0))⟩])
  (.seq (.seq (.ops [⟨(some 9), none, .mv (.tmp 0)⟩,
    ⟨(some 10), none, .mv (.tmp 1)⟩,
    ⟨(some 11), none, .call 89 [(.tmp 9), (.tmp 10)]⟩,
    ⟨(some 8), none, .mv (.tmp 11)⟩])
  (.seq (.ops [⟨(some 12), none, .mv (.tmp 8)⟩,
    ⟨(some 13), none, .bin .neq 28 (.tmp 12) (.const (Go.Value.int Go.IntKind.i64 0))⟩])
  (.cond (.tmp 13)
    (.seq (.ops [⟨(some 14), none, .mv (.tmp 8)⟩,
      ⟨(some 6), none, .mv (.const (Go.Value.int Go.IntKind.u64 0))⟩,
      ⟨(some 7), none, .mv (.tmp 14)⟩])
    (.ret))
    (.skip))))
  (.seq (.ops [⟨(some 15), none, .mv (.tmp 0)⟩,
    ⟨(some 16), none, .nilc (.tmp 15)⟩,
    ⟨(some 17), none, .fld (.tmp 16) 0⟩,
    ⟨(some 18), none, .ld (.tmp 17) none⟩,
    ⟨(some 19), none, .mv (.tmp 1)⟩,
    ⟨(some 20), none, .idx (.tmp 18) (.tmp 19) 1⟩,
    ⟨(some 21), none, .mv (.tmp 2)⟩,
    ⟨(some 22), none, .call 91 [(.tmp 20), (.tmp 21)]⟩,
    ⟨(some 23), none, .mv (.tmp 2)⟩,
    ⟨(some 24), none, .bin .sub 36 (.tmp 22) (.tmp 23)⟩,
    ⟨(some 6), none, .mv (.tmp 24)⟩,
    ⟨(some 7), none, .mv (.const (Go.Value.int Go.IntKind.i64 0))⟩])
  (.ret)))
theorem is_cell_Row_Add : FnIs Try.prog F.cell_Row_Add X.cell_Row_Add 25 [.tmp 6, .tmp 7] := ⟨by kernel_rfl⟩

/-- (*haycroft/epoch.Table).Bump: function 20 -/
abbrev F.epoch_Table_Bump : FuncId := 20
def X.epoch_Table_Bump : X :=
  .seq (.ops [⟨(some 2), none, .mv (.const (Go.Value.int Go.IntKind.u64 0))⟩,
    ⟨(some 3), none, .mv (.const (Go.Value.int Go.IntKind.i64 0))⟩])
  (.seq (.seq (.ops [⟨(some 4), none, .mv (.tmp 0)⟩,
    ⟨(some 5), none, .eq false .ptr (.tmp 4) (.const (Go.Value.pointer none))⟩])
  (.cond (.tmp 5)
    (.seq (.ops [⟨(some 2), none, .mv (.const (Go.Value.int Go.IntKind.u64 0))⟩,
      ⟨(some 3), none, .mv (.const (Go.Value.int Go.IntKind.i64 2))⟩])
    (.ret))
    (.skip)))
  (.seq (.ops [⟨(some 6), none, .mv (.tmp 0)⟩,
    ⟨(some 7), none, .nilc (.tmp 6)⟩,
    ⟨(some 8), none, .fld (.tmp 7) 0⟩,
    ⟨(some 9), none, .ld (.tmp 8) none⟩,
    ⟨(some 10), none, .call 64 [(.tmp 9), (.const (Go.Value.int Go.IntKind.i64 0)), (.const (Go.Value.int Go.IntKind.u64 1))]⟩,
    ⟨(some 11), none, .ext (.tmp 10) 0⟩,
    ⟨(some 12), none, .ext (.tmp 10) 1⟩,
    ⟨(some 2), none, .mv (.tmp 11)⟩,
    ⟨(some 3), none, .mv (.tmp 12)⟩])
  (.ret)))
theorem is_epoch_Table_Bump : FnIs Try.prog F.epoch_Table_Bump X.epoch_Table_Bump 13 [.tmp 2, .tmp 3] := ⟨by kernel_rfl⟩

-- loop (inner ones first): [0, 3, 4]
/-- (*haycroft/epoch.Table).In: function 23 -/
abbrev F.epoch_Table_In : FuncId := 23
def X.epoch_Table_In : X :=
  .seq (.ops [⟨(some 2), none, .mv (.const (Go.Value.slice none 0 0))⟩])
  (.seq (.ops [⟨(some 3), none, .mv (.const (Go.Value.slice none 0 0))⟩])
  (.seq (.seq (.ops [⟨(some 4), none, .mv (.const (Go.Value.int Go.IntKind.i64 0))⟩])
  (.block 0 (.loop (.seq (.seq (.ops [⟨(some 5), none, .mv (.tmp 0)⟩,
        ⟨(some 6), none, .mv (.tmp 4)⟩,
        ⟨(some 7), none, .call 65 [(.tmp 5), (.tmp 6)]⟩])
      (.cond (.tmp 7)
        (.skip)
        (.exit 0)))
      (.seq (.block 1 (.seq (.ops [⟨(some 10), none, .mv (.tmp 0)⟩,
          ⟨(some 11), none, .mv (.tmp 4)⟩,
          ⟨(some 12), none, .call 24 [(.tmp 10), (.tmp 11)]⟩,
          ⟨(some 13), none, .bin .gtr 36 (.tmp 12) (.const (Go.Value.int Go.IntKind.u64 0))⟩])
        (.cond (.tmp 13)
          (.ops [⟨(some 14), none, .mv (.tmp 3)⟩,
            ⟨(some 15), none, .mv (.tmp 4)⟩,
            ⟨(some 16), none, .bsl 3 1 1 [(Go.Value.int Go.IntKind.i64 0)] [(0, (.tmp 15))]⟩,
            ⟨(some 17), none, .app 3 1 8 [(Go.Value.int Go.IntKind.i64 0)] (.tmp 14) (.tmp 16)⟩,
            ⟨(some 3), none, .mv (.tmp 17)⟩])
          (.skip))))
      (.ops [⟨(some 8), none, .mv (.tmp 4)⟩,
        ⟨(some 9), none, .bin .add 3 (.tmp 8) (.const (Go.Value.int Go.IntKind.i64 1))⟩,
        ⟨(some 4), none, .mv (.tmp 9)⟩]))))))
  (.seq (.ops [⟨(some 18), none, .mv (.tmp 3)⟩,
    ⟨(some 2), none, .mv (.tmp 18)⟩])
  (.ret))))
theorem is_epoch_Table_In : FnIs Try.prog F.epoch_Table_In X.epoch_Table_In 19 [.tmp 2] := ⟨by kernel_rfl⟩

-- loop (inner ones first): [0, 3, 11, 12, 13]
/-- (*haycroft/epoch.Table).Safe: function 26 -/
abbrev F.epoch_Table_Safe : FuncId := 26
def X.epoch_Table_Safe : X :=
  .seq (.ops [⟨(some 2), none, .mv (.const (Go.Value.int Go.IntKind.u64 0))⟩])
  (.seq (.seq (.ops [⟨(some 6), none, .mv (.tmp 0)⟩,
    ⟨(some 7), none, .eq false .ptr (.tmp 6) (.const (Go.Value.pointer none))⟩])
  (.cond (.tmp 7)
    (.seq (.ops [⟨(some 2), none, .mv (.const (Go.Value.int Go.IntKind.u64 0))⟩])
    (.ret))
    (.skip)))
  (.seq (.ops [⟨(some 8), none, .mv (.tmp 0)⟩,
    ⟨(some 9), none, .call 25 [(.tmp 8)]⟩,
    ⟨(some 3), none, .mv (.tmp 9)⟩])
  (.seq (.seq (.ops [⟨(some 10), none, .mv (.tmp 0)⟩,
    ⟨(some 11), none, .call 23 [(.tmp 10)]⟩,
    ⟨(some 12), none, .lenS (.tmp 11)⟩,
    ⟨(some 13), none, .mv (.const (Go.Value.int Go.IntKind.i64 0))⟩])
  (.block 0 (.loop (.seq (.ops [⟨(some 14), none, .bin .lss 3 (.tmp 13) (.tmp 12)⟩])
      (.seq (.cond (.tmp 14)
        (.skip)
        (.exit 0))
      (.seq (.block 1 (.seq (.ops [⟨(some 15), none, .idx (.tmp 11) (.tmp 13) 1⟩,
          ⟨(some 16), none, .ld (.tmp 15) none⟩,
          ⟨(some 5), none, .mv (.tmp 16)⟩])
        (.ops [⟨(some 17), none, .mv (.tmp 3)⟩,
          ⟨(some 18), none, .mv (.tmp 0)⟩,
          ⟨(some 19), none, .mv (.tmp 5)⟩,
          ⟨(some 20), none, .call 24 [(.tmp 18), (.tmp 19)]⟩,
          ⟨(some 21), none, .mnx false (.tmp 17) [(.tmp 20)]⟩,
          ⟨(some 3), none, .mv (.tmp 21)⟩])))
      (.ops [⟨(some 22), none, .bin .add 3 (.tmp 13) (.const (Go.Value.int Go.IntKind.i64 1))⟩,
        ⟨(some 13), none, .mv (.tmp 22)⟩])))))))
  (.seq (.ops [⟨(some 23), none, .mv (.tmp 3)⟩,
    ⟨(some 24), none, .bin .sub 36 (.tmp 23) (.const (Go.Value.int Go.IntKind.u64 1))⟩,
    ⟨(some 2), none, .mv (.tmp 24)⟩])
  (.ret)))))
theorem is_epoch_Table_Safe : FnIs Try.prog F.epoch_Table_Safe X.epoch_Table_Safe 25 [.tmp 2] := ⟨by kernel_rfl⟩

/-- (*haycroft/epoch.Table).Refresh: function 29 -/
abbrev F.epoch_Table_Refresh : FuncId := 29
def X.epoch_Table_Refresh : X :=
  .seq (.ops [⟨(some 4), none, .mv (.const (Go.Value.int Go.IntKind.i64 0))⟩])
  (.seq (.ops [⟨(some 5), none, .mv (.tmp 0)⟩,
    ⟨(some 6), none, .mv (.tmp 1)⟩,
    ⟨(some 7), none, .mv (.tmp 0)⟩,
    ⟨(some 8), none, .call 25 [(.tmp 7)]⟩,
    ⟨(some 9), none, .call 67 [(.tmp 5), (.tmp 6), (.const (Go.Value.bool true)), (.tmp 8), (.const (Go.Value.int Go.IntKind.i64 7))]⟩,
    ⟨(some 4), none, .mv (.tmp 9)⟩])
  (.ret))
theorem is_epoch_Table_Refresh : FnIs Try.prog F.epoch_Table_Refresh X.epoch_Table_Refresh 10 [.tmp 4] := ⟨by kernel_rfl⟩

/-- haycroft/haycroftlaw06.awake: function 17 -/
abbrev F.law06_awake : FuncId := 17
def X.law06_awake : X :=
  .seq (.ops [⟨(some 0), none, .mv (.const (Go.Value.bool false))⟩])
  (.seq (.ops [⟨(some 9), none, .call 18 [(.const (Go.Value.int Go.IntKind.i64 1))]⟩,
    ⟨(some 8), none, .mv (.tmp 9)⟩,
    ⟨(some 10), none, .ext (.tmp 8) 0⟩,
    ⟨(some 11), none, .ext (.tmp 8) 1⟩,
    ⟨(some 1), none, .mv (.tmp 10)⟩,
    ⟨(some 2), none, .mv (.tmp 11)⟩])
  (.seq (.ops [⟨(some 12), none, .mv (.tmp 1)⟩,
    ⟨(some 13), none, .call 30 [(.tmp 12), (.const (Go.Value.int Go.IntKind.i64 0))]⟩,
    ⟨(some 3), none, .mv (.tmp 13)⟩])
  (.seq (.ops [⟨(some 15), none, .mv (.tmp 1)⟩,
    ⟨(some 16), none, .call 20 [(.tmp 15)]⟩,
    ⟨(some 14), none, .mv (.tmp 16)⟩,
    ⟨(some 17), none, .ext (.tmp 14) 0⟩,
    ⟨(some 18), none, .ext (.tmp 14) 1⟩,
    ⟨(some 4), none, .mv (.tmp 17)⟩,
    ⟨(some 5), none, .mv (.tmp 18)⟩])
  (.seq (.ops [⟨(some 19), none, .mv (.tmp 1)⟩,
    ⟨(some 20), none, .call 26 [(.tmp 19)]⟩,
    ⟨(some 6), none, .mv (.tmp 20)⟩])
  (.seq (.ops [⟨(some 21), none, .mv (.tmp 1)⟩,
    ⟨(some 22), none, .call 29 [(.tmp 21), (.const (Go.Value.int Go.IntKind.i64 0))]⟩,
    ⟨(some 7), none, .mv (.tmp 22)⟩])
  (.seq (.ops [⟨(some 23), none, .mv (.tmp 2)⟩,
    ⟨(some 24), none, .bin .eql 28 (.tmp 23) (.const (Go.Value.int Go.IntKind.i64 0))⟩,
    ⟨(some 25), none, .mv (.tmp 24)⟩,
    ⟨(some 26), (some (25, true)), .mv (.tmp 3)⟩,
    ⟨(some 27), (some (25, true)), .bin .eql 28 (.tmp 26) (.const (Go.Value.int Go.IntKind.i64 0))⟩,
    ⟨(some 28), none, .pick (.tmp 25) (.tmp 27) (.const (Go.Value.bool false))⟩,
    ⟨(some 29), none, .mv (.tmp 28)⟩,
    ⟨(some 30), (some (29, true)), .mv (.tmp 4)⟩,
    ⟨(some 31), (some (29, true)), .bin .eql 36 (.tmp 30) (.const (Go.Value.int Go.IntKind.u64 1))⟩,
    ⟨(some 32), none, .pick (.tmp 29) (.tmp 31) (.const (Go.Value.bool false))⟩,
    ⟨(some 33), none, .mv (.tmp 32)⟩,
    ⟨(some 34), (some (33, true)), .mv (.tmp 5)⟩,
    ⟨(some 35), (some (33, true)), .bin .eql 28 (.tmp 34) (.const (Go.Value.int Go.IntKind.i64 0))⟩,
    ⟨(some 36), none, .pick (.tmp 33) (.tmp 35) (.const (Go.Value.bool false))⟩,
    ⟨(some 37), none, .mv (.tmp 36)⟩,
    ⟨(some 38), (some (37, true)), .mv (.tmp 6)⟩,
    ⟨(some 39), (some (37, true)), .bin .eql 36 (.tmp 38) (.const (Go.Value.int Go.IntKind.u64 0))⟩,
    ⟨(some 40), none, .pick (.tmp 37) (.tmp 39) (.const (Go.Value.bool false))⟩,
    ⟨(some 41), none, .mv (.tmp 40)⟩,
    ⟨(some 42), (some (41, true)), .mv (.tmp 7)⟩,
    ⟨(some 43), (some (41, true)), .bin .eql 28 (.tmp 42) (.const (Go.Value.int Go.IntKind.i64 0))⟩,
    ⟨(some 44), none, .pick (.tmp 41) (.tmp 43) (.const (Go.Value.bool false))⟩,
    ⟨(some 45), none, .mv (.tmp 44)⟩,
    ⟨(some 46), (some (45, true)), .mv (.tmp 1)⟩,
    ⟨(some 47), (some (45, true)), .call 26 [(.tmp 46)]⟩,
    ⟨(some 48), (some (45, true)), .bin .eql 36 (.tmp 47) (.const (Go.Value.int Go.IntKind.u64 1))⟩,
    ⟨(some 49), none, .pick (.tmp 45) (.tmp 48) (.const (Go.Value.bool false))⟩,
    ⟨(some 0), none, .mv (.tmp 49)⟩])
  (.ret)))))))
theorem is_law06_awake : FnIs Try.prog F.law06_awake X.law06_awake 50 [.tmp 0] := ⟨by kernel_rfl⟩

/-- haycroft/haycroftref06.New: function 19 -/
abbrev F.ref06_New : FuncId := 19
def X.ref06_New : X :=
  .seq (.ops [⟨(some 2), none, .mv (.const (Go.Value.pointer none))⟩,
    ⟨(some 3), none, .mv (.const (Go.Value.int Go.IntKind.i64 0))⟩])
  (.seq (.seq (.ops [⟨(some 4), none, .mv (.tmp 0)⟩,
    ⟨(some 5), none, .bin .lss 3 (.tmp 4) (.const (Go.Value.int Go.IntKind.i64 1))⟩,
    ⟨(some 6), none, .mv (.tmp 5)⟩,
    ⟨(some 7), (some (6, false)), .mv (.tmp 0)⟩,
    ⟨(some 8), (some (6, false)), .bin .gtr 3 (.tmp 7) (.const (Go.Value.int Go.IntKind.i64 8))⟩,
    ⟨(some 9), none, .pick (.tmp 6) (.const (Go.Value.bool true)) (.tmp 8)⟩])
  (.cond (.tmp 9)
    (.seq (.ops [⟨(some 2), none, .mv (.const (Go.Value.pointer none))⟩,
      ⟨(some 3), none, .mv (.const (Go.Value.int Go.IntKind.i64 1))⟩])
    (.ret))
    (.skip)))
  (.seq (.ops [⟨(some 10), none, .mv (.tmp 0)⟩,
    ⟨(some 11), none, .mks 36 1 8 [(Go.Value.int Go.IntKind.u64 0)] (.tmp 10) (.tmp 10)⟩,
    ⟨(some 12), none, .bld [(Go.Value.int Go.IntKind.u64 0), (Go.Value.slice none 0 0)] [(0, 1, (.const (Go.Value.int Go.IntKind.u64 1))), (1, 1, (.tmp 11))]⟩,
    ⟨(some 13), none, .box 41 (.tmp 12)⟩,
    ⟨(some 2), none, .mv (.tmp 13)⟩,
    ⟨(some 3), none, .mv (.const (Go.Value.int Go.IntKind.i64 0))⟩])
  (.ret)))
theorem is_ref06_New : FnIs Try.prog F.ref06_New X.ref06_New 14 [.tmp 2, .tmp 3] := ⟨by kernel_rfl⟩

/-- (*haycroft/epoch.Table).Leave: function 28 -/
abbrev F.epoch_Table_Leave : FuncId := 28
def X.epoch_Table_Leave : X :=
  .seq (.ops [⟨(some 4), none, .mv (.const (Go.Value.int Go.IntKind.i64 0))⟩])
  (.seq (.ops [⟨(some 5), none, .mv (.tmp 0)⟩,
    ⟨(some 6), none, .mv (.tmp 1)⟩,
    ⟨(some 7), none, .call 67 [(.tmp 5), (.tmp 6), (.const (Go.Value.bool true)), (.const (Go.Value.int Go.IntKind.u64 0)), (.const (Go.Value.int Go.IntKind.i64 7))]⟩,
    ⟨(some 4), none, .mv (.tmp 7)⟩])
  (.ret))
theorem is_epoch_Table_Leave : FnIs Try.prog F.epoch_Table_Leave X.epoch_Table_Leave 8 [.tmp 4] := ⟨by kernel_rfl⟩

/-- haycroft/haycroftlaw06.does: function 21 -/
abbrev F.law06_does : FuncId := 21
def X.law06_does : X :=
  .seq (.ops [⟨(some 3), none, .box 35 (.tmp 1)⟩,
    ⟨(some 4), none, .mv (.const (Go.Value.int Go.IntKind.i64 0))⟩])
  (.seq (.seq (.ops [⟨(some 7), none, .fld (.tmp 3) 0⟩,
    ⟨(some 8), none, .ld (.tmp 7) none⟩])
  (.block 0 (.seq (.ops [⟨(some 10), none, .bin .eql 3 (.tmp 8) (.const (Go.Value.int Go.IntKind.i64 1))⟩,
      ⟨(some 9), none, .mv (.tmp 10)⟩])
    (.cond (.tmp 9)
      (.seq (.ops [⟨(some 11), none, .mv (.tmp 0)⟩,
        ⟨(some 12), none, .fld (.tmp 3) 1⟩,
        ⟨(some 13), none, .ld (.tmp 12) none⟩,
        ⟨(some 14), none, .call 30 [(.tmp 11), (.tmp 13)]⟩,
        ⟨(some 4), none, .mv (.tmp 14)⟩])
      (.ret))
      (.seq (.ops [⟨(some 16), none, .bin .eql 3 (.tmp 8) (.const (Go.Value.int Go.IntKind.i64 2))⟩,
        ⟨(some 15), none, .mv (.tmp 16)⟩])
      (.cond (.tmp 15)
        (.seq (.ops [⟨(some 17), none, .mv (.tmp 0)⟩,
          ⟨(some 18), none, .fld (.tmp 3) 1⟩,
          ⟨(some 19), none, .ld (.tmp 18) none⟩,
          ⟨(some 20), none, .call 29 [(.tmp 17), (.tmp 19)]⟩,
          ⟨(some 4), none, .mv (.tmp 20)⟩])
        (.ret))
        (.seq (.ops [⟨(some 22), none, .bin .eql 3 (.tmp 8) (.const (Go.Value.int Go.IntKind.i64 3))⟩,
          ⟨(some 21), none, .mv (.tmp 22)⟩])
        (.cond (.tmp 21)
          (.seq (.ops [⟨(some 23), none, .mv (.tmp 0)⟩,
            ⟨(some 24), none, .fld (.tmp 3) 1⟩,
            ⟨(some 25), none, .ld (.tmp 24) none⟩,
            ⟨(some 26), none, .call 28 [(.tmp 23), (.tmp 25)]⟩,
            ⟨(some 4), none, .mv (.tmp 26)⟩])
          (.ret))
          (.seq (.ops [⟨(some 28), none, .bin .eql 3 (.tmp 8) (.const (Go.Value.int Go.IntKind.i64 4))⟩,
            ⟨(some 27), none, .mv (.tmp 28)⟩])
          (.cond (.tmp 27)
            (.seq (.ops [⟨(some 30), none, .mv (.tmp 0)⟩,
              ⟨(some 31), none, .call 20 [(.tmp 30)]⟩,
              ⟨(some 29), none, .mv (.tmp 31)⟩,
              ⟨(some 32), none, .ext (.tmp 29) 0⟩,
              ⟨(some 33), none, .ext (.tmp 29) 1⟩,
              ⟨(some 5), none, .mv (.tmp 32)⟩,
              ⟨(some 6), none, .mv (.tmp 33)⟩])
            (.seq (.ops [⟨(some 34), none, .mv (.tmp 6)⟩,
              ⟨(some 4), none, .mv (.tmp 34)⟩])
            (.ret)))
            (.skip)))))))))))
  (.seq (.ops [⟨(some 4), none, .mv (.const (Go.Value.int Go.IntKind.i64 0))⟩])
  (.ret)))
theorem is_law06_does : FnIs Try.prog F.law06_does X.law06_does 35 [.tmp 4] := ⟨by kernel_rfl⟩

/-- (*haycroft/haycroftref06.Table).Does: function 22 -/
abbrev F.ref06_Table_Does : FuncId := 22
def X.ref06_Table_Does : X :=
  .seq (.ops [⟨(some 6), none, .mv (.const (Go.Value.int Go.IntKind.i64 0))⟩])
  (.seq (.seq (.ops [⟨(some 8), none, .mv (.tmp 2)⟩,
    ⟨(some 9), none, .bin .lss 3 (.tmp 8) (.const (Go.Value.int Go.IntKind.i64 0))⟩,
    ⟨(some 10), none, .mv (.tmp 9)⟩,
    ⟨(some 11), (some (10, false)), .mv (.tmp 2)⟩,
    ⟨(some 12), (some (10, false)), .mv (.tmp 0)⟩,
    ⟨(some 13), (some (10, false)), .nilc (.tmp 12)⟩,
    ⟨(some 14), (some (10, false)), .fld (.tmp 13) 1⟩,
    ⟨(some 15), (some (10, false)), .ld (.tmp 14) none⟩,
    ⟨(some 16), (some (10, false)), .lenS (.tmp 15)⟩,
    ⟨(some 17), (some (10, false)), .bin .geq 3 (.tmp 11) (.tmp 16)⟩,
    ⟨(some 18), none, .pick (.tmp 10) (.const (Go.Value.bool true)) (.tmp 17)⟩])
  (.cond (.tmp 18)
    (.seq (.ops [⟨(some 6), none, .mv (.const (Go.Value.int Go.IntKind.i64 1))⟩])
    (.ret))
    (.skip)))
  (.seq (.ops [⟨(some 19), none, .mv (.tmp 0)⟩,
    ⟨(some 20), none, .nilc (.tmp 19)⟩,
    ⟨(some 21), none, .fld (.tmp 20) 1⟩,
    ⟨(some 22), none, .ld (.tmp 21) none⟩,
    ⟨(some 23), none, .mv (.tmp 2)⟩,
    ⟨(some 24), none, .idx (.tmp 22) (.tmp 23) 1⟩,
    ⟨(some 25), none, .ld (.tmp 24) none⟩,
    ⟨(some 26), none, .bin .gtr 36 (.tmp 25) (.const (Go.Value.int Go.IntKind.u64 0))⟩,
    ⟨(some 7), none, .mv (.tmp 26)⟩])
  (.seq (.seq (.ops [⟨(some 27), none, .mv (.tmp 1)⟩,
    ⟨(some 28), none, .bin .eql 3 (.tmp 27) (.const (Go.Value.int Go.IntKind.i64 1))⟩,
    ⟨(some 29), none, .mv (.tmp 28)⟩,
    ⟨(some 30), (some (29, true)), .mv (.tmp 7)⟩,
    ⟨(some 31), none, .pick (.tmp 29) (.tmp 30) (.const (Go.Value.bool false))⟩])
  (.cond (.tmp 31)
    (.seq (.ops [⟨(some 6), none, .mv (.const (Go.Value.int Go.IntKind.i64 8))⟩])
    (.ret))
    (.skip)))
  (.seq (.seq (.ops [⟨(some 32), none, .mv (.tmp 1)⟩,
    ⟨(some 33), none, .bin .neq 3 (.tmp 32) (.const (Go.Value.int Go.IntKind.i64 1))⟩,
    ⟨(some 34), none, .mv (.tmp 33)⟩,
    ⟨(some 35), (some (34, true)), .mv (.tmp 7)⟩,
    ⟨(some 36), (some (34, true)), .un .not (.tmp 35)⟩,
    ⟨(some 37), none, .pick (.tmp 34) (.tmp 36) (.const (Go.Value.bool false))⟩])
  (.cond (.tmp 37)
    (.seq (.ops [⟨(some 6), none, .mv (.const (Go.Value.int Go.IntKind.i64 7))⟩])
    (.ret))
    (.skip)))
  (.seq (.drawn [(0, ⟨(some 38), none, .mv (.tmp 0)⟩),
    (1, ⟨(some 39), none, .nilc (.tmp 38)⟩),
    (2, ⟨(some 40), none, .fld (.tmp 39) 1⟩),
    (3, ⟨(some 41), none, .ld (.tmp 40) none⟩),
    (4, ⟨(some 42), none, .mv (.tmp 2)⟩),
    (5, ⟨(some 43), none, .mv (.tmp 0)⟩),
    (6, ⟨(some 44), none, .nilc (.tmp 43)⟩),
    (7, ⟨(some 45), none, .fld (.tmp 44) 0⟩),
    (8, ⟨(some 46), none, .ld (.tmp 45) none⟩),
    (9, ⟨(some 47), none, .idx (.tmp 41) (.tmp 42) 1⟩),
    (10, ⟨none, none, .st (.tmp 47) (.tmp 46) 1⟩)]
    [[], [0], [1], [2], [], [], [5], [6], [7], [3, 4, 0, 1, 2, 3, 4, 5, 6, 7, 8], [9, 8, 0, 1, 2, 3, 4, 5, 6, 7, 8]]
    [0, 1, 3, 7, 0, 0, 32, 96, 224, 511, 1023] 1024)
  (.seq (.seq (.ops [⟨(some 48), none, .mv (.tmp 1)⟩,
    ⟨(some 49), none, .bin .eql 3 (.tmp 48) (.const (Go.Value.int Go.IntKind.i64 3))⟩])
  (.cond (.tmp 49)
    (.ops [⟨(some 50), none, .mv (.tmp 0)⟩,
      ⟨(some 51), none, .nilc (.tmp 50)⟩,
      ⟨(some 52), none, .fld (.tmp 51) 1⟩,
      ⟨(some 53), none, .ld (.tmp 52) none⟩,
      ⟨(some 54), none, .mv (.tmp 2)⟩,
      ⟨(some 55), none, .idx (.tmp 53) (.tmp 54) 1⟩,
      ⟨none, none, .st (.tmp 55) (.const (Go.Value.int Go.IntKind.u64 0)) 1⟩])
    (.skip)))
  (.seq (.ops [⟨(some 6), none, .mv (.const (Go.Value.int Go.IntKind.i64 0))⟩])
  (.ret))))))))
theorem is_ref06_Table_Does : FnIs Try.prog F.ref06_Table_Does X.ref06_Table_Does 56 [.tmp 6] := ⟨by kernel_rfl⟩

-- loop (inner ones first): [0, 3, 4]
/-- (*haycroft/haycroftref06.Table).Safe: function 27 -/
abbrev F.ref06_Table_Safe : FuncId := 27
def X.ref06_Table_Safe : X :=
  .seq (.ops [⟨(some 2), none, .mv (.const (Go.Value.int Go.IntKind.u64 0))⟩])
  (.seq (.ops [⟨(some 5), none, .mv (.tmp 0)⟩,
    ⟨(some 6), none, .nilc (.tmp 5)⟩,
    ⟨(some 7), none, .fld (.tmp 6) 0⟩,
    ⟨(some 8), none, .ld (.tmp 7) none⟩,
    ⟨(some 9), none, .bin .sub 36 (.tmp 8) (.const (Go.Value.int Go.IntKind.u64 1))⟩,
    ⟨(some 3), none, .mv (.tmp 9)⟩])
  (.seq (.seq (.ops [⟨(some 4), none, .mv (.const (Go.Value.int Go.IntKind.i64 0))⟩])
  (.block 0 (.loop (.seq (.seq (.ops [⟨(some 10), none, .mv (.tmp 4)⟩,
        ⟨(some 11), none, .mv (.tmp 0)⟩,
        ⟨(some 12), none, .nilc (.tmp 11)⟩,
        ⟨(some 13), none, .fld (.tmp 12) 1⟩,
        ⟨(some 14), none, .ld (.tmp 13) none⟩,
        ⟨(some 15), none, .lenS (.tmp 14)⟩,
        ⟨(some 16), none, .bin .lss 3 (.tmp 10) (.tmp 15)⟩])
      (.cond (.tmp 16)
        (.skip)
        (.exit 0)))
      (.seq (.block 1 (.seq (.ops [⟨(some 19), none, .mv (.tmp 0)⟩,
          ⟨(some 20), none, .nilc (.tmp 19)⟩,
          ⟨(some 21), none, .fld (.tmp 20) 1⟩,
          ⟨(some 22), none, .ld (.tmp 21) none⟩,
          ⟨(some 23), none, .mv (.tmp 4)⟩,
          ⟨(some 24), none, .idx (.tmp 22) (.tmp 23) 1⟩,
          ⟨(some 25), none, .ld (.tmp 24) none⟩,
          ⟨(some 26), none, .bin .gtr 36 (.tmp 25) (.const (Go.Value.int Go.IntKind.u64 0))⟩,
          ⟨(some 27), none, .mv (.tmp 26)⟩,
          ⟨(some 28), (some (27, true)), .mv (.tmp 0)⟩,
          ⟨(some 29), (some (27, true)), .nilc (.tmp 28)⟩,
          ⟨(some 30), (some (27, true)), .fld (.tmp 29) 1⟩,
          ⟨(some 31), (some (27, true)), .ld (.tmp 30) none⟩,
          ⟨(some 32), (some (27, true)), .mv (.tmp 4)⟩,
          ⟨(some 33), (some (27, true)), .idx (.tmp 31) (.tmp 32) 1⟩,
          ⟨(some 34), (some (27, true)), .ld (.tmp 33) none⟩,
          ⟨(some 35), (some (27, true)), .mv (.tmp 3)⟩,
          ⟨(some 36), (some (27, true)), .bin .leq 36 (.tmp 34) (.tmp 35)⟩,
          ⟨(some 37), none, .pick (.tmp 27) (.tmp 36) (.const (Go.Value.bool false))⟩])
        (.cond (.tmp 37)
          (.ops [⟨(some 38), none, .mv (.tmp 0)⟩,
            ⟨(some 39), none, .nilc (.tmp 38)⟩,
            ⟨(some 40), none, .fld (.tmp 39) 1⟩,
            ⟨(some 41), none, .ld (.tmp 40) none⟩,
            ⟨(some 42), none, .mv (.tmp 4)⟩,
            ⟨(some 43), none, .idx (.tmp 41) (.tmp 42) 1⟩,
            ⟨(some 44), none, .ld (.tmp 43) none⟩,
            ⟨(some 45), none, .bin .sub 36 (.tmp 44) (.const (Go.Value.int Go.IntKind.u64 1))⟩,
            ⟨(some 3), none, .mv (.tmp 45)⟩])
          (.skip))))
      (.ops [⟨(some 17), none, .mv (.tmp 4)⟩,
        ⟨(some 18), none, .bin .add 3 (.tmp 17) (.const (Go.Value.int Go.IntKind.i64 1))⟩,
        ⟨(some 4), none, .mv (.tmp 18)⟩]))))))
  (.seq (.ops [⟨(some 46), none, .mv (.tmp 3)⟩,
    ⟨(some 2), none, .mv (.tmp 46)⟩])
  (.ret))))
theorem is_ref06_Table_Safe : FnIs Try.prog F.ref06_Table_Safe X.ref06_Table_Safe 47 [.tmp 2] := ⟨by kernel_rfl⟩

-- loop (inner ones first): [0, 1, 5, 7, 9, 13, 14, 15]
-- loop (inner ones first): [0, 1, 5, 7, 9]
/-- haycroft/haycroftlaw06.EpochPlays: function 4 -/
abbrev F.law06_EpochPlays : FuncId := 4
def X.law06_EpochPlays : X :=
  .seq (.ops [⟨(some 4), none, .mv (.const (Go.Value.bool false))⟩])
  (.seq (.seq (.ops [⟨(some 16), none, .call 17 []⟩,
    ⟨(some 17), none, .un .not (.tmp 16)⟩])
  (.cond (.tmp 17)
    (.seq (.ops [⟨(some 4), none, .mv (.const (Go.Value.bool false))⟩])
    (.ret))
    (.skip)))
  (.seq (.ops [⟨(some 19), none, .mv (.tmp 0)⟩,
    ⟨(some 20), none, .call 18 [(.tmp 19)]⟩,
    ⟨(some 18), none, .mv (.tmp 20)⟩,
    ⟨(some 21), none, .ext (.tmp 18) 0⟩,
    ⟨(some 22), none, .ext (.tmp 18) 1⟩,
    ⟨(some 5), none, .mv (.tmp 21)⟩,
    ⟨(some 6), none, .mv (.tmp 22)⟩])
  (.seq (.ops [⟨(some 24), none, .mv (.tmp 0)⟩,
    ⟨(some 25), none, .call 19 [(.tmp 24)]⟩,
    ⟨(some 23), none, .mv (.tmp 25)⟩,
    ⟨(some 26), none, .ext (.tmp 23) 0⟩,
    ⟨(some 27), none, .ext (.tmp 23) 1⟩,
    ⟨(some 7), none, .mv (.tmp 26)⟩,
    ⟨(some 8), none, .mv (.tmp 27)⟩])
  (.seq (.seq (.ops [⟨(some 28), none, .mv (.tmp 6)⟩,
    ⟨(some 29), none, .mv (.tmp 8)⟩,
    ⟨(some 30), none, .bin .neq 28 (.tmp 28) (.tmp 29)⟩,
    ⟨(some 31), none, .mv (.tmp 30)⟩,
    ⟨(some 32), (some (31, false)), .mv (.tmp 8)⟩,
    ⟨(some 33), (some (31, false)), .bin .neq 28 (.tmp 32) (.const (Go.Value.int Go.IntKind.i64 0))⟩,
    ⟨(some 34), none, .pick (.tmp 31) (.const (Go.Value.bool true)) (.tmp 33)⟩])
  (.cond (.tmp 34)
    (.seq (.ops [⟨(some 35), none, .mv (.tmp 6)⟩,
      ⟨(some 36), none, .mv (.tmp 8)⟩,
      ⟨(some 37), none, .bin .eql 28 (.tmp 35) (.tmp 36)⟩,
      ⟨(some 38), none, .mv (.tmp 37)⟩,
      ⟨(some 39), (some (38, true)), .mv (.tmp 5)⟩,
      ⟨(some 40), (some (38, true)), .eq false .ptr (.tmp 39) (.const (Go.Value.pointer none))⟩,
      ⟨(some 41), none, .pick (.tmp 38) (.tmp 40) (.const (Go.Value.bool false))⟩,
      ⟨(some 4), none, .mv (.tmp 41)⟩])
    (.ret))
    (.skip)))
  (.seq (.seq (.ops [⟨(some 9), none, .mv (.const (Go.Value.int Go.IntKind.i64 0))⟩])
  (.block 0 (.loop (.seq (.seq (.ops [⟨(some 42), none, .mv (.tmp 9)⟩,
        ⟨(some 43), none, .mv (.tmp 1)⟩,
        ⟨(some 44), none, .lenS (.tmp 43)⟩,
        ⟨(some 45), none, .bin .lss 3 (.tmp 42) (.tmp 44)⟩,
        ⟨(some 46), none, .mv (.tmp 45)⟩,
        ⟨(some 47), (some (46, true)), .mv (.tmp 9)⟩,
        ⟨(some 48), (some (46, true)), .bin .lss 3 (.tmp 47) (.const (Go.Value.int Go.IntKind.i64 200))⟩,
        ⟨(some 49), none, .pick (.tmp 46) (.tmp 48) (.const (Go.Value.bool false))⟩])
      (.cond (.tmp 49)
        (.skip)
        (.exit 0)))
      (.seq (.block 1 (.seq (.ops [⟨(some 52), none, .mv (.tmp 1)⟩,
          ⟨(some 53), none, .mv (.tmp 9)⟩,
          ⟨(some 54), none, .idx (.tmp 52) (.tmp 53) 2⟩,
          ⟨(some 55), none, .ld (.tmp 54) (some 2)⟩,
          ⟨(some 10), none, .new 35 (Go.Value.agg #[(Go.Value.int Go.IntKind.i64 0), (Go.Value.int Go.IntKind.i64 0)])⟩,
          ⟨none, none, .st (.tmp 10) (.tmp 55) 2⟩])
        (.seq (.seq (.ops [⟨(some 56), none, .fld (.tmp 10) 0⟩,
          ⟨(some 57), none, .ld (.tmp 56) none⟩,
          ⟨(some 58), none, .bin .eql 3 (.tmp 57) (.const (Go.Value.int Go.IntKind.i64 4))⟩])
        (.cond (.tmp 58)
          (.seq (.ops [⟨(some 60), none, .mv (.tmp 5)⟩,
            ⟨(some 61), none, .call 20 [(.tmp 60)]⟩,
            ⟨(some 59), none, .mv (.tmp 61)⟩,
            ⟨(some 62), none, .ext (.tmp 59) 0⟩,
            ⟨(some 63), none, .ext (.tmp 59) 1⟩,
            ⟨(some 11), none, .mv (.tmp 62)⟩,
            ⟨(some 12), none, .mv (.tmp 63)⟩])
          (.seq (.seq (.ops [⟨(some 64), none, .mv (.tmp 11)⟩,
            ⟨(some 65), none, .mv (.tmp 7)⟩,
            ⟨(some 66), none, .nilc (.tmp 65)⟩,
            ⟨(some 67), none, .fld (.tmp 66) 0⟩,
            ⟨(some 68), none, .ld (.tmp 67) none⟩,
            ⟨(some 69), none, .bin .neq 36 (.tmp 64) (.tmp 68)⟩,
            ⟨(some 70), none, .mv (.tmp 69)⟩,
            ⟨(some 71), (some (70, false)), .mv (.tmp 12)⟩,
            ⟨(some 72), (some (70, false)), .bin .neq 28 (.tmp 71) (.const (Go.Value.int Go.IntKind.i64 0))⟩,
            ⟨(some 73), none, .pick (.tmp 70) (.const (Go.Value.bool true)) (.tmp 72)⟩])
          (.cond (.tmp 73)
            (.seq (.ops [⟨(some 4), none, .mv (.const (Go.Value.bool false))⟩])
            (.ret))
            (.skip)))
          (.ops [⟨(some 74), none, .mv (.tmp 7)⟩,
            ⟨(some 75), none, .mv (.tmp 7)⟩,
            ⟨(some 76), none, .nilc (.tmp 75)⟩,
            ⟨(some 77), none, .fld (.tmp 76) 0⟩,
            ⟨(some 78), none, .ld (.tmp 77) none⟩,
            ⟨(some 79), none, .bin .add 36 (.tmp 78) (.const (Go.Value.int Go.IntKind.u64 1))⟩,
            ⟨(some 80), none, .nilc (.tmp 74)⟩,
            ⟨(some 81), none, .fld (.tmp 80) 0⟩,
            ⟨none, none, .st (.tmp 81) (.tmp 79) 1⟩])))
          (.seq (.drawn [(0, ⟨(some 82), none, .fld (.tmp 10) 0⟩),
            (1, ⟨(some 83), none, .ld (.tmp 82) none⟩),
            (2, ⟨(some 84), none, .bin .geq 3 (.tmp 83) (.const (Go.Value.int Go.IntKind.i64 1))⟩),
            (3, ⟨(some 85), none, .mv (.tmp 84)⟩),
            (4, ⟨(some 86), (some (85, true)), .fld (.tmp 10) 0⟩),
            (5, ⟨(some 87), (some (85, true)), .ld (.tmp 86) none⟩),
            (6, ⟨(some 88), (some (85, true)), .bin .leq 3 (.tmp 87) (.const (Go.Value.int Go.IntKind.i64 3))⟩),
            (7, ⟨(some 89), none, .pick (.tmp 85) (.tmp 88) (.const (Go.Value.bool false))⟩),
            (8, ⟨(some 90), none, .mv (.tmp 89)⟩),
            (9, ⟨(some 91), (some (90, true)), .mv (.tmp 5)⟩),
            (10, ⟨(some 92), (some (90, true)), .ld (.tmp 10) (some 2)⟩),
            (12, ⟨(some 94), (some (90, true)), .mv (.tmp 7)⟩),
            (13, ⟨(some 95), (some (90, true)), .fld (.tmp 10) 0⟩),
            (14, ⟨(some 96), (some (90, true)), .ld (.tmp 95) none⟩),
            (15, ⟨(some 97), (some (90, true)), .fld (.tmp 10) 1⟩),
            (16, ⟨(some 98), (some (90, true)), .ld (.tmp 97) none⟩),
            (11, ⟨(some 93), (some (90, true)), .call 21 [(.tmp 91), (.tmp 92)]⟩),
            (17, ⟨(some 99), (some (90, true)), .call 22 [(.tmp 94), (.tmp 96), (.tmp 98)]⟩),
            (18, ⟨(some 100), (some (90, true)), .bin .neq 28 (.tmp 93) (.tmp 99)⟩),
            (19, ⟨(some 101), none, .pick (.tmp 90) (.tmp 100) (.const (Go.Value.bool false))⟩)]
            [[], [0], [1], [2], [3], [4, 3], [5, 3], [3, 6], [7, 3], [8], [8], [9, 10, 8, 8], [8], [8], [13, 8], [8], [15, 8], [12, 14, 16, 11, 8], [11, 17, 8], [8, 18]]
            [0, 1, 3, 7, 15, 31, 63, 127, 255, 511, 511, 2047, 511, 511, 8703, 511, 33279, 131071, 262143, 524287] 133120)
          (.cond (.tmp 101)
            (.seq (.ops [⟨(some 4), none, .mv (.const (Go.Value.bool false))⟩])
            (.ret))
            (.skip)))))
        (.seq (.ops [⟨(some 102), none, .mv (.tmp 5)⟩,
          ⟨(some 103), none, .call 23 [(.tmp 102)]⟩,
          ⟨(some 13), none, .mv (.tmp 103)⟩])
        (.seq (.ops [⟨(some 14), none, .mv (.const (Go.Value.int Go.IntKind.i64 0))⟩])
        (.seq (.seq (.ops [⟨(some 15), none, .mv (.const (Go.Value.int Go.IntKind.i64 0))⟩])
        (.block 2 (.loop (.seq (.seq (.ops [⟨(some 104), none, .mv (.tmp 15)⟩,
              ⟨(some 105), none, .mv (.tmp 7)⟩,
              ⟨(some 106), none, .nilc (.tmp 105)⟩,
              ⟨(some 107), none, .fld (.tmp 106) 1⟩,
              ⟨(some 108), none, .ld (.tmp 107) none⟩,
              ⟨(some 109), none, .lenS (.tmp 108)⟩,
              ⟨(some 110), none, .bin .lss 3 (.tmp 104) (.tmp 109)⟩])
            (.cond (.tmp 110)
              (.skip)
              (.exit 2)))
            (.seq (.block 3 (.seq (.seq (.drawn [(0, ⟨(some 113), none, .mv (.tmp 5)⟩),
                (1, ⟨(some 114), none, .mv (.tmp 15)⟩),
                (3, ⟨(some 116), none, .mv (.tmp 7)⟩),
                (4, ⟨(some 117), none, .nilc (.tmp 116)⟩),
                (5, ⟨(some 118), none, .fld (.tmp 117) 1⟩),
                (6, ⟨(some 119), none, .ld (.tmp 118) none⟩),
                (7, ⟨(some 120), none, .mv (.tmp 15)⟩),
                (8, ⟨(some 121), none, .idx (.tmp 119) (.tmp 120) 1⟩),
                (9, ⟨(some 122), none, .ld (.tmp 121) none⟩),
                (2, ⟨(some 115), none, .call 24 [(.tmp 113), (.tmp 114)]⟩),
                (10, ⟨(some 123), none, .bin .neq 36 (.tmp 115) (.tmp 122)⟩)]
                [[], [], [0, 1], [], [3], [4], [5], [], [6, 7], [8], [2, 9]]
                [0, 0, 3, 0, 8, 24, 56, 0, 248, 504, 1023] 4)
              (.cond (.tmp 123)
                (.seq (.ops [⟨(some 4), none, .mv (.const (Go.Value.bool false))⟩])
                (.ret))
                (.skip)))
              (.seq (.ops [⟨(some 124), none, .mv (.tmp 7)⟩,
                ⟨(some 125), none, .nilc (.tmp 124)⟩,
                ⟨(some 126), none, .fld (.tmp 125) 1⟩,
                ⟨(some 127), none, .ld (.tmp 126) none⟩,
                ⟨(some 128), none, .mv (.tmp 15)⟩,
                ⟨(some 129), none, .idx (.tmp 127) (.tmp 128) 1⟩,
                ⟨(some 130), none, .ld (.tmp 129) none⟩,
                ⟨(some 131), none, .bin .gtr 36 (.tmp 130) (.const (Go.Value.int Go.IntKind.u64 0))⟩])
              (.cond (.tmp 131)
                (.seq (.seq (.ops [⟨(some 132), none, .mv (.tmp 14)⟩,
                  ⟨(some 133), none, .mv (.tmp 13)⟩,
                  ⟨(some 134), none, .lenS (.tmp 133)⟩,
                  ⟨(some 135), none, .bin .geq 3 (.tmp 132) (.tmp 134)⟩,
                  ⟨(some 136), none, .mv (.tmp 135)⟩,
                  ⟨(some 137), (some (136, false)), .mv (.tmp 13)⟩,
                  ⟨(some 138), (some (136, false)), .mv (.tmp 14)⟩,
                  ⟨(some 139), (some (136, false)), .idx (.tmp 137) (.tmp 138) 1⟩,
                  ⟨(some 140), (some (136, false)), .ld (.tmp 139) none⟩,
                  ⟨(some 141), (some (136, false)), .mv (.tmp 15)⟩,
                  ⟨(some 142), (some (136, false)), .bin .neq 3 (.tmp 140) (.tmp 141)⟩,
                  ⟨(some 143), none, .pick (.tmp 136) (.const (Go.Value.bool true)) (.tmp 142)⟩])
                (.cond (.tmp 143)
                  (.seq (.ops [⟨(some 4), none, .mv (.const (Go.Value.bool false))⟩])
                  (.ret))
                  (.skip)))
                (.ops [⟨(some 144), none, .mv (.tmp 14)⟩,
                  ⟨(some 145), none, .bin .add 3 (.tmp 144) (.const (Go.Value.int Go.IntKind.i64 1))⟩,
                  ⟨(some 14), none, .mv (.tmp 145)⟩]))
                (.skip)))))
            (.ops [⟨(some 111), none, .mv (.tmp 15)⟩,
              ⟨(some 112), none, .bin .add 3 (.tmp 111) (.const (Go.Value.int Go.IntKind.i64 1))⟩,
              ⟨(some 15), none, .mv (.tmp 112)⟩]))))))
        (.seq (.drawn [(0, ⟨(some 146), none, .mv (.tmp 14)⟩),
          (1, ⟨(some 147), none, .mv (.tmp 13)⟩),
          (2, ⟨(some 148), none, .lenS (.tmp 147)⟩),
          (3, ⟨(some 149), none, .bin .neq 3 (.tmp 146) (.tmp 148)⟩),
          (4, ⟨(some 150), none, .mv (.tmp 149)⟩),
          (5, ⟨(some 151), (some (150, false)), .mv (.tmp 5)⟩),
          (7, ⟨(some 153), (some (150, false)), .mv (.tmp 7)⟩),
          (8, ⟨(some 154), (some (150, false)), .nilc (.tmp 153)⟩),
          (9, ⟨(some 155), (some (150, false)), .fld (.tmp 154) 0⟩),
          (10, ⟨(some 156), (some (150, false)), .ld (.tmp 155) none⟩),
          (6, ⟨(some 152), (some (150, false)), .call 25 [(.tmp 151)]⟩),
          (11, ⟨(some 157), (some (150, false)), .bin .neq 36 (.tmp 152) (.tmp 156)⟩),
          (12, ⟨(some 158), none, .pick (.tmp 150) (.const (Go.Value.bool true)) (.tmp 157)⟩),
          (13, ⟨(some 159), none, .mv (.tmp 158)⟩),
          (14, ⟨(some 160), (some (159, false)), .mv (.tmp 5)⟩),
          (16, ⟨(some 162), (some (159, false)), .mv (.tmp 7)⟩),
          (15, ⟨(some 161), (some (159, false)), .call 26 [(.tmp 160)]⟩),
          (17, ⟨(some 163), (some (159, false)), .call 27 [(.tmp 162)]⟩),
          (18, ⟨(some 164), (some (159, false)), .bin .neq 36 (.tmp 161) (.tmp 163)⟩),
          (19, ⟨(some 165), none, .pick (.tmp 159) (.const (Go.Value.bool true)) (.tmp 164)⟩),
          (20, ⟨(some 166), none, .mv (.tmp 165)⟩),
          (21, ⟨(some 167), (some (166, false)), .mv (.tmp 5)⟩),
          (22, ⟨(some 168), (some (166, false)), .mv (.tmp 0)⟩),
          (23, ⟨(some 169), (some (166, false)), .call 24 [(.tmp 167), (.tmp 168)]⟩),
          (24, ⟨(some 170), (some (166, false)), .bin .neq 36 (.tmp 169) (.const (Go.Value.int Go.IntKind.u64 0))⟩),
          (25, ⟨(some 171), none, .pick (.tmp 166) (.const (Go.Value.bool true)) (.tmp 170)⟩),
          (26, ⟨(some 172), none, .mv (.tmp 171)⟩),
          (27, ⟨(some 173), (some (172, false)), .mv (.tmp 5)⟩),
          (28, ⟨(some 174), (some (172, false)), .call 24 [(.tmp 173), (.const (Go.Value.int Go.IntKind.i64 (-1)))]⟩),
          (29, ⟨(some 175), (some (172, false)), .bin .neq 36 (.tmp 174) (.const (Go.Value.int Go.IntKind.u64 0))⟩),
          (30, ⟨(some 176), none, .pick (.tmp 172) (.const (Go.Value.bool true)) (.tmp 175)⟩)]
          [[], [], [1], [0, 2], [3], [4], [5, 4, 4], [4], [7, 4], [8, 4], [9, 4], [6, 10, 4], [4, 11], [12, 6], [13], [14, 13, 13], [13], [16, 15, 13], [15, 17, 13], [13, 18], [19, 17], [20], [20], [21, 22, 20, 20], [23, 20], [20, 24], [25, 23], [26], [27, 26, 26], [28, 26], [26, 29]]
          [0, 0, 2, 7, 15, 31, 63, 31, 159, 415, 927, 2047, 4095, 8191, 16383, 32767, 16383, 131071, 262143, 524287, 1048575, 2097151, 2097151, 8388607, 16777215, 33554431, 67108863, 134217727, 268435455, 536870911, 1073741823] 276987968)
        (.cond (.tmp 176)
          (.seq (.ops [⟨(some 4), none, .mv (.const (Go.Value.bool false))⟩])
          (.ret))
          (.skip)))))))))
      (.ops [⟨(some 50), none, .mv (.tmp 9)⟩,
        ⟨(some 51), none, .bin .add 3 (.tmp 50) (.const (Go.Value.int Go.IntKind.i64 1))⟩,
        ⟨(some 9), none, .mv (.tmp 51)⟩]))))))
  (.seq (.ops [⟨(some 4), none, .mv (.const (Go.Value.bool true))⟩])
  (.ret)))))))
theorem is_law06_EpochPlays : FnIs Try.prog F.law06_EpochPlays X.law06_EpochPlays 177 [.tmp 4] := ⟨by kernel_rfl⟩

-- loop (inner ones first): [1, 5, 8, 9, 10, 11]
-- loop (inner ones first): [1, 5, 7, 8]
/-- haycroft/haycroftlaw06.EpochRises: function 5 -/
abbrev F.law06_EpochRises : FuncId := 5
def X.law06_EpochRises : X :=
  .seq (.ops [⟨(some 4), none, .mv (.const (Go.Value.bool false))⟩])
  (.seq (.seq (.ops [⟨(some 12), none, .call 17 []⟩,
    ⟨(some 13), none, .un .not (.tmp 12)⟩])
  (.cond (.tmp 13)
    (.seq (.ops [⟨(some 4), none, .mv (.const (Go.Value.bool false))⟩])
    (.ret))
    (.skip)))
  (.seq (.ops [⟨(some 15), none, .mv (.tmp 0)⟩,
    ⟨(some 16), none, .call 18 [(.tmp 15)]⟩,
    ⟨(some 14), none, .mv (.tmp 16)⟩,
    ⟨(some 17), none, .ext (.tmp 14) 0⟩,
    ⟨(some 18), none, .ext (.tmp 14) 1⟩,
    ⟨(some 5), none, .mv (.tmp 17)⟩,
    ⟨(some 6), none, .mv (.tmp 18)⟩])
  (.seq (.seq (.ops [⟨(some 19), none, .mv (.tmp 6)⟩,
    ⟨(some 20), none, .bin .neq 28 (.tmp 19) (.const (Go.Value.int Go.IntKind.i64 0))⟩])
  (.cond (.tmp 20)
    (.seq (.ops [⟨(some 4), none, .mv (.const (Go.Value.bool true))⟩])
    (.ret))
    (.skip)))
  (.seq (.ops [⟨(some 21), none, .mv (.tmp 5)⟩,
    ⟨(some 22), none, .call 26 [(.tmp 21)]⟩,
    ⟨(some 7), none, .mv (.tmp 22)⟩])
  (.seq (.seq (.ops [⟨(some 8), none, .mv (.const (Go.Value.int Go.IntKind.i64 0))⟩])
  (.block 0 (.loop (.seq (.seq (.ops [⟨(some 23), none, .mv (.tmp 8)⟩,
        ⟨(some 24), none, .mv (.tmp 1)⟩,
        ⟨(some 25), none, .lenS (.tmp 24)⟩,
        ⟨(some 26), none, .bin .lss 3 (.tmp 23) (.tmp 25)⟩,
        ⟨(some 27), none, .mv (.tmp 26)⟩,
        ⟨(some 28), (some (27, true)), .mv (.tmp 8)⟩,
        ⟨(some 29), (some (27, true)), .bin .lss 3 (.tmp 28) (.const (Go.Value.int Go.IntKind.i64 200))⟩,
        ⟨(some 30), none, .pick (.tmp 27) (.tmp 29) (.const (Go.Value.bool false))⟩])
      (.cond (.tmp 30)
        (.skip)
        (.exit 0)))
      (.seq (.block 1 (.seq (.ops [⟨(some 33), none, .mv (.tmp 5)⟩,
          ⟨(some 34), none, .mv (.tmp 1)⟩,
          ⟨(some 35), none, .mv (.tmp 8)⟩,
          ⟨(some 36), none, .idx (.tmp 34) (.tmp 35) 2⟩,
          ⟨(some 37), none, .ld (.tmp 36) (some 2)⟩,
          ⟨(some 38), none, .call 21 [(.tmp 33), (.tmp 37)]⟩])
        (.seq (.ops [⟨(some 39), none, .mv (.tmp 5)⟩,
          ⟨(some 40), none, .call 26 [(.tmp 39)]⟩,
          ⟨(some 9), none, .mv (.tmp 40)⟩])
        (.seq (.seq (.ops [⟨(some 41), none, .mv (.tmp 9)⟩,
          ⟨(some 42), none, .mv (.tmp 7)⟩,
          ⟨(some 43), none, .bin .lss 36 (.tmp 41) (.tmp 42)⟩,
          ⟨(some 44), none, .mv (.tmp 43)⟩,
          ⟨(some 45), (some (44, false)), .mv (.tmp 9)⟩,
          ⟨(some 46), (some (44, false)), .mv (.tmp 5)⟩,
          ⟨(some 47), (some (44, false)), .call 25 [(.tmp 46)]⟩,
          ⟨(some 48), (some (44, false)), .bin .geq 36 (.tmp 45) (.tmp 47)⟩,
          ⟨(some 49), none, .pick (.tmp 44) (.const (Go.Value.bool true)) (.tmp 48)⟩])
        (.cond (.tmp 49)
          (.seq (.ops [⟨(some 4), none, .mv (.const (Go.Value.bool false))⟩])
          (.ret))
          (.skip)))
        (.seq (.ops [⟨(some 50), none, .mv (.tmp 5)⟩,
          ⟨(some 51), none, .call 23 [(.tmp 50)]⟩,
          ⟨(some 10), none, .mv (.tmp 51)⟩])
        (.seq (.seq (.ops [⟨(some 11), none, .mv (.const (Go.Value.int Go.IntKind.i64 0))⟩])
        (.block 2 (.loop (.seq (.seq (.ops [⟨(some 52), none, .mv (.tmp 11)⟩,
              ⟨(some 53), none, .mv (.tmp 10)⟩,
              ⟨(some 54), none, .lenS (.tmp 53)⟩,
              ⟨(some 55), none, .bin .lss 3 (.tmp 52) (.tmp 54)⟩])
            (.cond (.tmp 55)
              (.skip)
              (.exit 2)))
            (.seq (.block 3 (.seq (.ops [⟨(some 58), none, .mv (.tmp 5)⟩,
                ⟨(some 59), none, .mv (.tmp 10)⟩,
                ⟨(some 60), none, .mv (.tmp 11)⟩,
                ⟨(some 61), none, .idx (.tmp 59) (.tmp 60) 1⟩,
                ⟨(some 62), none, .ld (.tmp 61) none⟩,
                ⟨(some 63), none, .call 24 [(.tmp 58), (.tmp 62)]⟩,
                ⟨(some 64), none, .mv (.tmp 9)⟩,
                ⟨(some 65), none, .bin .leq 36 (.tmp 63) (.tmp 64)⟩])
              (.cond (.tmp 65)
                (.seq (.ops [⟨(some 4), none, .mv (.const (Go.Value.bool false))⟩])
                (.ret))
                (.skip))))
            (.ops [⟨(some 56), none, .mv (.tmp 11)⟩,
              ⟨(some 57), none, .bin .add 3 (.tmp 56) (.const (Go.Value.int Go.IntKind.i64 1))⟩,
              ⟨(some 11), none, .mv (.tmp 57)⟩]))))))
        (.ops [⟨(some 66), none, .mv (.tmp 9)⟩,
          ⟨(some 7), none, .mv (.tmp 66)⟩])))))))
      (.ops [⟨(some 31), none, .mv (.tmp 8)⟩,
        ⟨(some 32), none, .bin .add 3 (.tmp 31) (.const (Go.Value.int Go.IntKind.i64 1))⟩,
        ⟨(some 8), none, .mv (.tmp 32)⟩]))))))
  (.seq (.ops [⟨(some 4), none, .mv (.const (Go.Value.bool true))⟩])
  (.ret)))))))
theorem is_law06_EpochRises : FnIs Try.prog F.law06_EpochRises X.law06_EpochRises 67 [.tmp 4] := ⟨by kernel_rfl⟩

-- loop (inner ones first): [2, 7, 10, 12, 13]
-- loop (inner ones first): [1, 2, 7, 9]
/-- haycroft/haycroftlaw06.EpochComes: function 6 -/
abbrev F.law06_EpochComes : FuncId := 6
def X.law06_EpochComes : X :=
  .seq (.ops [⟨(some 6), none, .mv (.const (Go.Value.bool false))⟩])
  (.seq (.seq (.ops [⟨(some 14), none, .call 17 []⟩,
    ⟨(some 15), none, .un .not (.tmp 14)⟩])
  (.cond (.tmp 15)
    (.seq (.ops [⟨(some 6), none, .mv (.const (Go.Value.bool false))⟩])
    (.ret))
    (.skip)))
  (.seq (.ops [⟨(some 17), none, .mv (.tmp 0)⟩,
    ⟨(some 18), none, .call 18 [(.tmp 17)]⟩,
    ⟨(some 16), none, .mv (.tmp 18)⟩,
    ⟨(some 19), none, .ext (.tmp 16) 0⟩,
    ⟨(some 20), none, .ext (.tmp 16) 1⟩,
    ⟨(some 7), none, .mv (.tmp 19)⟩,
    ⟨(some 8), none, .mv (.tmp 20)⟩])
  (.seq (.seq (.ops [⟨(some 21), none, .mv (.tmp 8)⟩,
    ⟨(some 22), none, .bin .neq 28 (.tmp 21) (.const (Go.Value.int Go.IntKind.i64 0))⟩])
  (.cond (.tmp 22)
    (.seq (.ops [⟨(some 6), none, .mv (.const (Go.Value.bool true))⟩])
    (.ret))
    (.skip)))
  (.seq (.seq (.ops [⟨(some 9), none, .mv (.const (Go.Value.int Go.IntKind.i64 0))⟩])
  (.block 0 (.loop (.seq (.seq (.ops [⟨(some 23), none, .mv (.tmp 9)⟩,
        ⟨(some 24), none, .mv (.tmp 1)⟩,
        ⟨(some 25), none, .lenS (.tmp 24)⟩,
        ⟨(some 26), none, .bin .lss 3 (.tmp 23) (.tmp 25)⟩,
        ⟨(some 27), none, .mv (.tmp 26)⟩,
        ⟨(some 28), (some (27, true)), .mv (.tmp 9)⟩,
        ⟨(some 29), (some (27, true)), .bin .lss 3 (.tmp 28) (.const (Go.Value.int Go.IntKind.i64 200))⟩,
        ⟨(some 30), none, .pick (.tmp 27) (.tmp 29) (.const (Go.Value.bool false))⟩])
      (.cond (.tmp 30)
        (.skip)
        (.exit 0)))
      (.seq (.block 1 (.ops [⟨(some 33), none, .mv (.tmp 7)⟩,
          ⟨(some 34), none, .mv (.tmp 1)⟩,
          ⟨(some 35), none, .mv (.tmp 9)⟩,
          ⟨(some 36), none, .idx (.tmp 34) (.tmp 35) 2⟩,
          ⟨(some 37), none, .ld (.tmp 36) (some 2)⟩,
          ⟨(some 38), none, .call 21 [(.tmp 33), (.tmp 37)]⟩]))
      (.ops [⟨(some 31), none, .mv (.tmp 9)⟩,
        ⟨(some 32), none, .bin .add 3 (.tmp 31) (.const (Go.Value.int Go.IntKind.i64 1))⟩,
        ⟨(some 9), none, .mv (.tmp 32)⟩]))))))
  (.seq (.ops [⟨(some 40), none, .mv (.tmp 7)⟩,
    ⟨(some 41), none, .call 20 [(.tmp 40)]⟩,
    ⟨(some 39), none, .mv (.tmp 41)⟩,
    ⟨(some 42), none, .ext (.tmp 39) 0⟩,
    ⟨(some 43), none, .ext (.tmp 39) 1⟩,
    ⟨(some 10), none, .mv (.tmp 42)⟩,
    ⟨(some 11), none, .mv (.tmp 43)⟩])
  (.seq (.ops [⟨(some 44), none, .mv (.tmp 7)⟩,
    ⟨(some 45), none, .call 23 [(.tmp 44)]⟩,
    ⟨(some 12), none, .mv (.tmp 45)⟩])
  (.seq (.seq (.ops [⟨(some 13), none, .mv (.const (Go.Value.int Go.IntKind.i64 0))⟩])
  (.block 2 (.loop (.seq (.seq (.ops [⟨(some 46), none, .mv (.tmp 13)⟩,
        ⟨(some 47), none, .mv (.tmp 12)⟩,
        ⟨(some 48), none, .lenS (.tmp 47)⟩,
        ⟨(some 49), none, .bin .lss 3 (.tmp 46) (.tmp 48)⟩])
      (.cond (.tmp 49)
        (.skip)
        (.exit 2)))
      (.seq (.block 3 (.seq (.seq (.ops [⟨(some 52), none, .mv (.tmp 7)⟩,
          ⟨(some 53), none, .call 26 [(.tmp 52)]⟩,
          ⟨(some 54), none, .mv (.tmp 10)⟩,
          ⟨(some 55), none, .bin .geq 36 (.tmp 53) (.tmp 54)⟩])
        (.cond (.tmp 55)
          (.seq (.ops [⟨(some 6), none, .mv (.const (Go.Value.bool false))⟩])
          (.ret))
          (.skip)))
        (.seq (.ops [⟨(some 56), none, .mv (.tmp 13)⟩,
          ⟨(some 57), none, .mv (.tmp 2)⟩,
          ⟨(some 58), none, .lenS (.tmp 57)⟩,
          ⟨(some 59), none, .bin .lss 3 (.tmp 56) (.tmp 58)⟩,
          ⟨(some 60), none, .mv (.tmp 59)⟩,
          ⟨(some 61), (some (60, true)), .mv (.tmp 2)⟩,
          ⟨(some 62), (some (60, true)), .mv (.tmp 13)⟩,
          ⟨(some 63), (some (60, true)), .idx (.tmp 61) (.tmp 62) 1⟩,
          ⟨(some 64), (some (60, true)), .ld (.tmp 63) none⟩,
          ⟨(some 65), none, .pick (.tmp 60) (.tmp 64) (.const (Go.Value.bool false))⟩])
        (.cond (.tmp 65)
          (.ops [⟨(some 66), none, .mv (.tmp 7)⟩,
            ⟨(some 67), none, .mv (.tmp 12)⟩,
            ⟨(some 68), none, .mv (.tmp 13)⟩,
            ⟨(some 69), none, .idx (.tmp 67) (.tmp 68) 1⟩,
            ⟨(some 70), none, .ld (.tmp 69) none⟩,
            ⟨(some 71), none, .call 28 [(.tmp 66), (.tmp 70)]⟩])
          (.ops [⟨(some 72), none, .mv (.tmp 7)⟩,
            ⟨(some 73), none, .mv (.tmp 12)⟩,
            ⟨(some 74), none, .mv (.tmp 13)⟩,
            ⟨(some 75), none, .idx (.tmp 73) (.tmp 74) 1⟩,
            ⟨(some 76), none, .ld (.tmp 75) none⟩,
            ⟨(some 77), none, .call 29 [(.tmp 72), (.tmp 76)]⟩])))))
      (.ops [⟨(some 50), none, .mv (.tmp 13)⟩,
        ⟨(some 51), none, .bin .add 3 (.tmp 50) (.const (Go.Value.int Go.IntKind.i64 1))⟩,
        ⟨(some 13), none, .mv (.tmp 51)⟩]))))))
  (.seq (.ops [⟨(some 78), none, .mv (.tmp 7)⟩,
    ⟨(some 79), none, .call 26 [(.tmp 78)]⟩,
    ⟨(some 80), none, .mv (.tmp 10)⟩,
    ⟨(some 81), none, .bin .eql 36 (.tmp 79) (.tmp 80)⟩,
    ⟨(some 6), none, .mv (.tmp 81)⟩])
  (.ret)))))))))
theorem is_law06_EpochComes : FnIs Try.prog F.law06_EpochComes X.law06_EpochComes 82 [.tmp 6] := ⟨by kernel_rfl⟩

/-- haycroft/haycroftlaw06.EpochNil: function 7 -/
abbrev F.law06_EpochNil : FuncId := 7
def X.law06_EpochNil : X :=
  .seq (.ops [⟨(some 2), none, .mv (.const (Go.Value.bool false))⟩])
  (.seq (.seq (.ops [⟨(some 6), none, .call 17 []⟩,
    ⟨(some 7), none, .un .not (.tmp 6)⟩])
  (.cond (.tmp 7)
    (.seq (.ops [⟨(some 2), none, .mv (.const (Go.Value.bool false))⟩])
    (.ret))
    (.skip)))
  (.seq (.ops [⟨(some 3), none, .mv (.const (Go.Value.pointer none))⟩])
  (.seq (.ops [⟨(some 9), none, .mv (.tmp 3)⟩,
    ⟨(some 10), none, .call 20 [(.tmp 9)]⟩,
    ⟨(some 8), none, .mv (.tmp 10)⟩,
    ⟨(some 11), none, .ext (.tmp 8) 0⟩,
    ⟨(some 12), none, .ext (.tmp 8) 1⟩,
    ⟨(some 4), none, .mv (.tmp 11)⟩,
    ⟨(some 5), none, .mv (.tmp 12)⟩])
  (.seq (.ops [⟨(some 13), none, .mv (.tmp 3)⟩,
    ⟨(some 14), none, .call 25 [(.tmp 13)]⟩,
    ⟨(some 15), none, .bin .eql 36 (.tmp 14) (.const (Go.Value.int Go.IntKind.u64 0))⟩,
    ⟨(some 16), none, .mv (.tmp 15)⟩,
    ⟨(some 17), (some (16, true)), .mv (.tmp 3)⟩,
    ⟨(some 18), (some (16, true)), .mv (.tmp 0)⟩,
    ⟨(some 19), (some (16, true)), .call 30 [(.tmp 17), (.tmp 18)]⟩,
    ⟨(some 20), (some (16, true)), .bin .eql 28 (.tmp 19) (.const (Go.Value.int Go.IntKind.i64 2))⟩,
    ⟨(some 21), none, .pick (.tmp 16) (.tmp 20) (.const (Go.Value.bool false))⟩,
    ⟨(some 22), none, .mv (.tmp 21)⟩,
    ⟨(some 23), (some (22, true)), .mv (.tmp 3)⟩,
    ⟨(some 24), (some (22, true)), .mv (.tmp 0)⟩,
    ⟨(some 25), (some (22, true)), .call 29 [(.tmp 23), (.tmp 24)]⟩,
    ⟨(some 26), (some (22, true)), .bin .eql 28 (.tmp 25) (.const (Go.Value.int Go.IntKind.i64 2))⟩,
    ⟨(some 27), none, .pick (.tmp 22) (.tmp 26) (.const (Go.Value.bool false))⟩,
    ⟨(some 28), none, .mv (.tmp 27)⟩,
    ⟨(some 29), (some (28, true)), .mv (.tmp 3)⟩,
    ⟨(some 30), (some (28, true)), .mv (.tmp 0)⟩,
    ⟨(some 31), (some (28, true)), .call 28 [(.tmp 29), (.tmp 30)]⟩,
    ⟨(some 32), (some (28, true)), .bin .eql 28 (.tmp 31) (.const (Go.Value.int Go.IntKind.i64 2))⟩,
    ⟨(some 33), none, .pick (.tmp 28) (.tmp 32) (.const (Go.Value.bool false))⟩,
    ⟨(some 34), none, .mv (.tmp 33)⟩,
    ⟨(some 35), (some (34, true)), .mv (.tmp 3)⟩,
    ⟨(some 36), (some (34, true)), .mv (.tmp 0)⟩,
    ⟨(some 37), (some (34, true)), .call 24 [(.tmp 35), (.tmp 36)]⟩,
    ⟨(some 38), (some (34, true)), .bin .eql 36 (.tmp 37) (.const (Go.Value.int Go.IntKind.u64 0))⟩,
    ⟨(some 39), none, .pick (.tmp 34) (.tmp 38) (.const (Go.Value.bool false))⟩,
    ⟨(some 40), none, .mv (.tmp 39)⟩,
    ⟨(some 41), (some (40, true)), .mv (.tmp 3)⟩,
    ⟨(some 42), (some (40, true)), .call 23 [(.tmp 41)]⟩,
    ⟨(some 43), (some (40, true)), .lenS (.tmp 42)⟩,
    ⟨(some 44), (some (40, true)), .bin .eql 3 (.tmp 43) (.const (Go.Value.int Go.IntKind.i64 0))⟩,
    ⟨(some 45), none, .pick (.tmp 40) (.tmp 44) (.const (Go.Value.bool false))⟩,
    ⟨(some 46), none, .mv (.tmp 45)⟩,
    ⟨(some 47), (some (46, true)), .mv (.tmp 4)⟩,
    ⟨(some 48), (some (46, true)), .bin .eql 36 (.tmp 47) (.const (Go.Value.int Go.IntKind.u64 0))⟩,
    ⟨(some 49), none, .pick (.tmp 46) (.tmp 48) (.const (Go.Value.bool false))⟩,
    ⟨(some 50), none, .mv (.tmp 49)⟩,
    ⟨(some 51), (some (50, true)), .mv (.tmp 5)⟩,
    ⟨(some 52), (some (50, true)), .bin .eql 28 (.tmp 51) (.const (Go.Value.int Go.IntKind.i64 2))⟩,
    ⟨(some 53), none, .pick (.tmp 50) (.tmp 52) (.const (Go.Value.bool false))⟩,
    ⟨(some 54), none, .mv (.tmp 53)⟩,
    ⟨(some 55), (some (54, true)), .mv (.tmp 3)⟩,
    ⟨(some 56), (some (54, true)), .call 26 [(.tmp 55)]⟩,
    ⟨(some 57), (some (54, true)), .bin .eql 36 (.tmp 56) (.const (Go.Value.int Go.IntKind.u64 0))⟩,
    ⟨(some 58), none, .pick (.tmp 54) (.tmp 57) (.const (Go.Value.bool false))⟩,
    ⟨(some 2), none, .mv (.tmp 58)⟩])
  (.ret)))))
theorem is_law06_EpochNil : FnIs Try.prog F.law06_EpochNil X.law06_EpochNil 59 [.tmp 2] := ⟨by kernel_rfl⟩

-- loop (inner ones first): [1, 6, 51, 52, 53]
-- loop (inner ones first): [0, 1, 6, 24, 25]
/-- haycroft/field.Bytes: function 68 -/
abbrev F.field_Bytes : FuncId := 68
def X.field_Bytes : X :=
  .seq (.ops [⟨(some 4), none, .mv (.const (Go.Value.string { data := #[] }))⟩,
    ⟨(some 5), none, .mv (.const (Go.Value.int Go.IntKind.i64 0))⟩])
  (.seq (.block 0 (.seq (.ops [⟨(some 11), none, .mv (.tmp 1)⟩,
      ⟨(some 12), none, .bin .lss 3 (.tmp 11) (.const (Go.Value.int Go.IntKind.i64 0))⟩,
      ⟨(some 10), none, .mv (.tmp 12)⟩])
    (.cond (.tmp 10)
      (.seq (.ops [⟨(some 4), none, .mv (.const (Go.Value.string { data := #[] }))⟩,
        ⟨(some 5), none, .mv (.const (Go.Value.int Go.IntKind.i64 1))⟩])
      (.ret))
      (.seq (.ops [⟨(some 14), none, .mv (.tmp 1)⟩,
        ⟨(some 15), none, .mv (.tmp 0)⟩,
        ⟨(some 16), none, .lenS (.tmp 15)⟩,
        ⟨(some 17), none, .bin .mul 3 (.const (Go.Value.int Go.IntKind.i64 8)) (.tmp 16)⟩,
        ⟨(some 18), none, .bin .gtr 3 (.tmp 14) (.tmp 17)⟩,
        ⟨(some 13), none, .mv (.tmp 18)⟩])
      (.cond (.tmp 13)
        (.seq (.ops [⟨(some 4), none, .mv (.const (Go.Value.string { data := #[] }))⟩,
          ⟨(some 5), none, .mv (.const (Go.Value.int Go.IntKind.i64 3))⟩])
        (.ret))
        (.skip))))))
  (.seq (.ops [⟨(some 19), none, .mv (.tmp 0)⟩,
    ⟨(some 20), none, .lenS (.tmp 19)⟩,
    ⟨(some 21), none, .bin .mul 3 (.const (Go.Value.int Go.IntKind.i64 8)) (.tmp 20)⟩,
    ⟨(some 22), none, .mks 5 1 1 [(Go.Value.int Go.IntKind.u8 0)] (.tmp 21) (.tmp 21)⟩,
    ⟨(some 6), none, .mv (.tmp 22)⟩])
  (.seq (.seq (.ops [⟨(some 23), none, .mv (.tmp 6)⟩,
    ⟨(some 24), none, .lenS (.tmp 23)⟩,
    ⟨(some 25), none, .mv (.const (Go.Value.int Go.IntKind.i64 0))⟩])
  (.block 1 (.loop (.seq (.ops [⟨(some 26), none, .bin .lss 3 (.tmp 25) (.tmp 24)⟩])
      (.seq (.cond (.tmp 26)
        (.skip)
        (.exit 1))
      (.seq (.block 2 (.seq (.ops [⟨(some 27), none, .mv (.tmp 25)⟩,
          ⟨(some 7), none, .mv (.tmp 27)⟩])
        (.ops [⟨(some 28), none, .mv (.tmp 6)⟩,
          ⟨(some 29), none, .mv (.tmp 7)⟩,
          ⟨(some 30), none, .mv (.tmp 0)⟩,
          ⟨(some 31), none, .mv (.tmp 7)⟩,
          ⟨(some 32), none, .bin .quo 3 (.tmp 31) (.const (Go.Value.int Go.IntKind.i64 8))⟩,
          ⟨(some 33), none, .idx (.tmp 30) (.tmp 32) 1⟩,
          ⟨(some 34), none, .ld (.tmp 33) none⟩,
          ⟨(some 35), none, .mv (.tmp 7)⟩,
          ⟨(some 36), none, .bin .rem 3 (.tmp 35) (.const (Go.Value.int Go.IntKind.i64 8))⟩,
          ⟨(some 37), none, .bin .mul 3 (.tmp 36) (.const (Go.Value.int Go.IntKind.i64 8))⟩,
          ⟨(some 38), none, .bin .shr 36 (.tmp 34) (.tmp 37)⟩,
          ⟨(some 39), none, .conv Go.IntKind.u8 (.tmp 38)⟩,
          ⟨(some 40), none, .idx (.tmp 28) (.tmp 29) 1⟩,
          ⟨none, none, .st (.tmp 40) (.tmp 39) 1⟩])))
      (.ops [⟨(some 41), none, .bin .add 3 (.tmp 25) (.const (Go.Value.int Go.IntKind.i64 1))⟩,
        ⟨(some 25), none, .mv (.tmp 41)⟩])))))))
  (.seq (.seq (.ops [⟨(some 42), none, .mv (.tmp 0)⟩,
    ⟨(some 43), none, .lenS (.tmp 42)⟩,
    ⟨(some 44), none, .mv (.tmp 1)⟩,
    ⟨(some 45), none, .bin .add 3 (.tmp 44) (.const (Go.Value.int Go.IntKind.i64 8))⟩,
    ⟨(some 46), none, .bin .sub 3 (.tmp 45) (.const (Go.Value.int Go.IntKind.i64 1))⟩,
    ⟨(some 47), none, .bin .quo 3 (.tmp 46) (.const (Go.Value.int Go.IntKind.i64 8))⟩,
    ⟨(some 48), none, .bin .neq 3 (.tmp 43) (.tmp 47)⟩])
  (.cond (.tmp 48)
    (.seq (.ops [⟨(some 4), none, .mv (.const (Go.Value.string { data := #[] }))⟩,
      ⟨(some 5), none, .mv (.const (Go.Value.int Go.IntKind.i64 4))⟩])
    (.ret))
    (.skip)))
  (.seq (.seq (.ops [⟨(some 49), none, .mv (.tmp 6)⟩,
    ⟨(some 50), none, .mv (.tmp 1)⟩,
    ⟨(some 51), none, .slc 1 (.tmp 49) (some (.tmp 50)) none⟩,
    ⟨(some 52), none, .lenS (.tmp 51)⟩,
    ⟨(some 53), none, .mv (.const (Go.Value.int Go.IntKind.i64 0))⟩])
  (.block 3 (.loop (.seq (.ops [⟨(some 54), none, .bin .lss 3 (.tmp 53) (.tmp 52)⟩])
      (.seq (.cond (.tmp 54)
        (.skip)
        (.exit 3))
      (.seq (.block 4 (.seq (.ops [⟨(some 55), none, .idx (.tmp 51) (.tmp 53) 1⟩,
          ⟨(some 56), none, .ld (.tmp 55) none⟩,
          ⟨(some 9), none, .mv (.tmp 56)⟩])
        (.seq (.ops [⟨(some 57), none, .mv (.tmp 9)⟩,
          ⟨(some 58), none, .bin .neq 5 (.tmp 57) (.const (Go.Value.int Go.IntKind.u8 0))⟩])
        (.cond (.tmp 58)
          (.seq (.ops [⟨(some 4), none, .mv (.const (Go.Value.string { data := #[] }))⟩,
            ⟨(some 5), none, .mv (.const (Go.Value.int Go.IntKind.i64 4))⟩])
          (.ret))
          (.skip)))))
      (.ops [⟨(some 59), none, .bin .add 3 (.tmp 53) (.const (Go.Value.int Go.IntKind.i64 1))⟩,
        ⟨(some 53), none, .mv (.tmp 59)⟩])))))))
  (.seq (.ops [⟨(some 60), none, .mv (.tmp 6)⟩,
    ⟨(some 61), none, .mv (.tmp 1)⟩,
    ⟨(some 62), none, .slc 1 (.tmp 60) none (some (.tmp 61))⟩,
    ⟨(some 63), none, .b2s (.tmp 62)⟩,
    ⟨(some 4), none, .mv (.tmp 63)⟩,
    ⟨(some 5), none, .mv (.const (Go.Value.int Go.IntKind.i64 0))⟩])
  (.ret)))))))
theorem is_field_Bytes : FnIs Try.prog F.field_Bytes X.field_Bytes 64 [.tmp 4, .tmp 5] := ⟨by kernel_rfl⟩

/-- haycroft/record.Value: function 31 -/
abbrev F.record_Value : FuncId := 31
def X.record_Value : X :=
  .seq (.ops [⟨(some 2), none, .mv (.const (Go.Value.string { data := #[] }))⟩])
  (.seq (.ops [⟨(some 6), none, .mv (.tmp 0)⟩,
    ⟨(some 7), none, .bsl 36 1 1 [(Go.Value.int Go.IntKind.u64 0)] [(0, (.tmp 6))]⟩,
    ⟨(some 8), none, .call 68 [(.tmp 7), (.const (Go.Value.int Go.IntKind.i64 8))]⟩,
    ⟨(some 5), none, .mv (.tmp 8)⟩,
    ⟨(some 9), none, .ext (.tmp 5) 0⟩,
    ⟨(some 10), none, .ext (.tmp 5) 1⟩,
    ⟨(some 3), none, .mv (.tmp 9)⟩,
    ⟨(some 4), none, .mv (.tmp 10)⟩])
  (.seq (.ops [⟨(some 11), none, .mv (.tmp 3)⟩,
    ⟨(some 2), none, .mv (.tmp 11)⟩])
  (.ret)))
theorem is_record_Value : FnIs Try.prog F.record_Value X.record_Value 12 [.tmp 2] := ⟨by kernel_rfl⟩

-- loop (inner ones first): [0, 3, 4]
/-- haycroft/haycroftref09.Value: function 32 -/
abbrev F.ref09_Value : FuncId := 32
def X.ref09_Value : X :=
  .seq (.ops [⟨(some 2), none, .mv (.const (Go.Value.string { data := #[] }))⟩])
  (.seq (.ops [⟨(some 5), none, .bsl 5 1 0 [(Go.Value.int Go.IntKind.u8 0)] []⟩,
    ⟨(some 3), none, .mv (.tmp 5)⟩])
  (.seq (.seq (.ops [⟨(some 4), none, .mv (.const (Go.Value.int Go.IntKind.i64 0))⟩])
  (.block 0 (.loop (.seq (.seq (.ops [⟨(some 6), none, .mv (.tmp 4)⟩,
        ⟨(some 7), none, .bin .lss 3 (.tmp 6) (.const (Go.Value.int Go.IntKind.i64 8))⟩])
      (.cond (.tmp 7)
        (.skip)
        (.exit 0)))
      (.seq (.block 1 (.seq (.ops [⟨(some 10), none, .mv (.tmp 3)⟩,
          ⟨(some 11), none, .mv (.tmp 0)⟩,
          ⟨(some 12), none, .bin .rem 36 (.tmp 11) (.const (Go.Value.int Go.IntKind.u64 256))⟩,
          ⟨(some 13), none, .conv Go.IntKind.u8 (.tmp 12)⟩,
          ⟨(some 14), none, .bsl 5 1 1 [(Go.Value.int Go.IntKind.u8 0)] [(0, (.tmp 13))]⟩,
          ⟨(some 15), none, .app 5 1 1 [(Go.Value.int Go.IntKind.u8 0)] (.tmp 10) (.tmp 14)⟩,
          ⟨(some 3), none, .mv (.tmp 15)⟩])
        (.ops [⟨(some 16), none, .mv (.tmp 0)⟩,
          ⟨(some 17), none, .bin .quo 36 (.tmp 16) (.const (Go.Value.int Go.IntKind.u64 256))⟩,
          ⟨(some 0), none, .mv (.tmp 17)⟩])))
      (.ops [⟨(some 8), none, .mv (.tmp 4)⟩,
        ⟨(some 9), none, .bin .add 3 (.tmp 8) (.const (Go.Value.int Go.IntKind.i64 1))⟩,
        ⟨(some 4), none, .mv (.tmp 9)⟩]))))))
  (.seq (.ops [⟨(some 18), none, .mv (.tmp 3)⟩,
    ⟨(some 19), none, .b2s (.tmp 18)⟩,
    ⟨(some 2), none, .mv (.tmp 19)⟩])
  (.ret))))
theorem is_ref09_Value : FnIs Try.prog F.ref09_Value X.ref09_Value 20 [.tmp 2] := ⟨by kernel_rfl⟩

/-- haycroft/record.Number: function 33 -/
abbrev F.record_Number : FuncId := 33
def X.record_Number : X :=
  .seq (.ops [⟨(some 2), none, .mv (.const (Go.Value.int Go.IntKind.u64 0))⟩])
  (.seq (.seq (.ops [⟨(some 3), none, .mv (.tmp 0)⟩,
    ⟨(some 4), none, .lenB (.tmp 3)⟩,
    ⟨(some 5), none, .bin .neq 3 (.tmp 4) (.const (Go.Value.int Go.IntKind.i64 8))⟩])
  (.cond (.tmp 5)
    (.seq (.ops [⟨(some 2), none, .mv (.const (Go.Value.int Go.IntKind.u64 0))⟩])
    (.ret))
    (.skip)))
  (.seq (.ops [⟨(some 6), none, .mv (.tmp 0)⟩,
    ⟨(some 7), none, .call 69 [(.tmp 6)]⟩,
    ⟨(some 8), none, .idx (.tmp 7) (.const (Go.Value.int Go.IntKind.i64 0)) 1⟩,
    ⟨(some 9), none, .ld (.tmp 8) none⟩,
    ⟨(some 2), none, .mv (.tmp 9)⟩])
  (.ret)))
theorem is_record_Number : FnIs Try.prog F.record_Number X.record_Number 10 [.tmp 2] := ⟨by kernel_rfl⟩

-- loop (inner ones first): [0, 3, 4]
/-- haycroft/haycroftref09.Number: function 34 -/
abbrev F.ref09_Number : FuncId := 34
def X.ref09_Number : X :=
  .seq (.ops [⟨(some 2), none, .mv (.const (Go.Value.int Go.IntKind.u64 0))⟩])
  (.seq (.seq (.ops [⟨(some 5), none, .mv (.tmp 0)⟩,
    ⟨(some 6), none, .lenB (.tmp 5)⟩,
    ⟨(some 7), none, .bin .neq 3 (.tmp 6) (.const (Go.Value.int Go.IntKind.i64 8))⟩])
  (.cond (.tmp 7)
    (.seq (.ops [⟨(some 2), none, .mv (.const (Go.Value.int Go.IntKind.u64 0))⟩])
    (.ret))
    (.skip)))
  (.seq (.ops [⟨(some 3), none, .mv (.const (Go.Value.int Go.IntKind.u64 0))⟩])
  (.seq (.seq (.ops [⟨(some 4), none, .mv (.const (Go.Value.int Go.IntKind.i64 7))⟩])
  (.block 0 (.loop (.seq (.seq (.ops [⟨(some 8), none, .mv (.tmp 4)⟩,
        ⟨(some 9), none, .bin .geq 3 (.tmp 8) (.const (Go.Value.int Go.IntKind.i64 0))⟩])
      (.cond (.tmp 9)
        (.skip)
        (.exit 0)))
      (.seq (.block 1 (.ops [⟨(some 12), none, .mv (.tmp 3)⟩,
          ⟨(some 13), none, .bin .mul 36 (.tmp 12) (.const (Go.Value.int Go.IntKind.u64 256))⟩,
          ⟨(some 14), none, .mv (.tmp 0)⟩,
          ⟨(some 15), none, .mv (.tmp 4)⟩,
          ⟨(some 16), none, .ixs (.tmp 14) (.tmp 15)⟩,
          ⟨(some 17), none, .conv Go.IntKind.u64 (.tmp 16)⟩,
          ⟨(some 18), none, .bin .add 36 (.tmp 13) (.tmp 17)⟩,
          ⟨(some 3), none, .mv (.tmp 18)⟩]))
      (.ops [⟨(some 10), none, .mv (.tmp 4)⟩,
        ⟨(some 11), none, .bin .sub 3 (.tmp 10) (.const (Go.Value.int Go.IntKind.i64 1))⟩,
        ⟨(some 4), none, .mv (.tmp 11)⟩]))))))
  (.seq (.ops [⟨(some 19), none, .mv (.tmp 3)⟩,
    ⟨(some 2), none, .mv (.tmp 19)⟩])
  (.ret)))))
theorem is_ref09_Number : FnIs Try.prog F.ref09_Number X.ref09_Number 20 [.tmp 2] := ⟨by kernel_rfl⟩

/-- haycroft/record.Adds: function 35 -/
abbrev F.record_Adds : FuncId := 35
def X.record_Adds : X :=
  .seq (.ops [⟨(some 4), none, .mv (.const (Go.Value.string { data := #[] }))⟩])
  (.seq (.ops [⟨(some 5), none, .mv (.tmp 0)⟩,
    ⟨(some 6), none, .call 33 [(.tmp 5)]⟩,
    ⟨(some 7), none, .mv (.tmp 1)⟩,
    ⟨(some 8), none, .bin .add 36 (.tmp 6) (.tmp 7)⟩,
    ⟨(some 9), none, .call 31 [(.tmp 8)]⟩,
    ⟨(some 4), none, .mv (.tmp 9)⟩])
  (.ret))
theorem is_record_Adds : FnIs Try.prog F.record_Adds X.record_Adds 10 [.tmp 4] := ⟨by kernel_rfl⟩

/-- haycroft/haycroftlaw09.RecordNumbers: function 8 -/
abbrev F.law09_RecordNumbers : FuncId := 8
def X.law09_RecordNumbers : X :=
  .seq (.ops [⟨(some 4), none, .mv (.const (Go.Value.bool false))⟩])
  (.seq (.seq (.ops [⟨(some 6), none, .call 13 []⟩,
    ⟨(some 7), none, .un .not (.tmp 6)⟩])
  (.cond (.tmp 7)
    (.seq (.ops [⟨(some 4), none, .mv (.const (Go.Value.bool false))⟩])
    (.ret))
    (.skip)))
  (.seq (.seq (.ops [⟨(some 8), none, .mv (.tmp 1)⟩,
    ⟨(some 9), none, .lenB (.tmp 8)⟩,
    ⟨(some 10), none, .bin .gtr 3 (.tmp 9) (.const (Go.Value.int Go.IntKind.i64 1000))⟩])
  (.cond (.tmp 10)
    (.seq (.ops [⟨(some 4), none, .mv (.const (Go.Value.bool true))⟩])
    (.ret))
    (.skip)))
  (.seq (.ops [⟨(some 11), none, .mv (.tmp 0)⟩,
    ⟨(some 12), none, .call 31 [(.tmp 11)]⟩,
    ⟨(some 5), none, .mv (.tmp 12)⟩])
  (.seq (.ops [⟨(some 13), none, .mv (.tmp 5)⟩,
    ⟨(some 14), none, .mv (.tmp 0)⟩,
    ⟨(some 15), none, .call 32 [(.tmp 14)]⟩,
    ⟨(some 16), none, .bin .eql 9 (.tmp 13) (.tmp 15)⟩,
    ⟨(some 17), none, .mv (.tmp 16)⟩,
    ⟨(some 18), (some (17, true)), .mv (.tmp 5)⟩,
    ⟨(some 19), (some (17, true)), .call 33 [(.tmp 18)]⟩,
    ⟨(some 20), (some (17, true)), .mv (.tmp 0)⟩,
    ⟨(some 21), (some (17, true)), .bin .eql 36 (.tmp 19) (.tmp 20)⟩,
    ⟨(some 22), none, .pick (.tmp 17) (.tmp 21) (.const (Go.Value.bool false))⟩,
    ⟨(some 23), none, .mv (.tmp 22)⟩,
    ⟨(some 24), (some (23, true)), .mv (.tmp 1)⟩,
    ⟨(some 25), (some (23, true)), .call 33 [(.tmp 24)]⟩,
    ⟨(some 26), (some (23, true)), .mv (.tmp 1)⟩,
    ⟨(some 27), (some (23, true)), .call 34 [(.tmp 26)]⟩,
    ⟨(some 28), (some (23, true)), .bin .eql 36 (.tmp 25) (.tmp 27)⟩,
    ⟨(some 29), none, .pick (.tmp 23) (.tmp 28) (.const (Go.Value.bool false))⟩,
    ⟨(some 30), none, .mv (.tmp 29)⟩,
    ⟨(some 31), (some (30, true)), .mv (.tmp 1)⟩,
    ⟨(some 32), (some (30, true)), .mv (.tmp 0)⟩,
    ⟨(some 33), (some (30, true)), .call 35 [(.tmp 31), (.tmp 32)]⟩,
    ⟨(some 34), (some (30, true)), .mv (.tmp 1)⟩,
    ⟨(some 35), (some (30, true)), .call 34 [(.tmp 34)]⟩,
    ⟨(some 36), (some (30, true)), .mv (.tmp 0)⟩,
    ⟨(some 37), (some (30, true)), .bin .add 36 (.tmp 35) (.tmp 36)⟩,
    ⟨(some 38), (some (30, true)), .call 32 [(.tmp 37)]⟩,
    ⟨(some 39), (some (30, true)), .bin .eql 9 (.tmp 33) (.tmp 38)⟩,
    ⟨(some 40), none, .pick (.tmp 30) (.tmp 39) (.const (Go.Value.bool false))⟩,
    ⟨(some 4), none, .mv (.tmp 40)⟩])
  (.ret)))))
theorem is_law09_RecordNumbers : FnIs Try.prog F.law09_RecordNumbers X.law09_RecordNumbers 41 [.tmp 4] := ⟨by kernel_rfl⟩

/-- haycroft/haycroftref09.Right: function 38 -/
abbrev F.ref09_Right : FuncId := 38
def X.ref09_Right : X :=
  .seq (.ops [⟨(some 1), none, .box 60 (.tmp 0)⟩,
    ⟨(some 2), none, .mv (.const (Go.Value.int Go.IntKind.i64 0))⟩])
  (.seq (.seq (.ops [⟨(some 3), none, .fld (.tmp 1) 0⟩,
    ⟨(some 4), none, .fld (.tmp 3) 0⟩,
    ⟨(some 5), none, .ld (.tmp 4) none⟩,
    ⟨(some 6), none, .bin .geq 36 (.tmp 5) (.const (Go.Value.int Go.IntKind.u64 281474976710656))⟩,
    ⟨(some 7), none, .mv (.tmp 6)⟩,
    ⟨(some 8), (some (7, false)), .fld (.tmp 1) 3⟩,
    ⟨(some 9), (some (7, false)), .ld (.tmp 8) none⟩,
    ⟨(some 10), (some (7, false)), .lenB (.tmp 9)⟩,
    ⟨(some 11), (some (7, false)), .bin .eql 3 (.tmp 10) (.const (Go.Value.int Go.IntKind.i64 0))⟩,
    ⟨(some 12), none, .pick (.tmp 7) (.const (Go.Value.bool true)) (.tmp 11)⟩,
    ⟨(some 13), none, .mv (.tmp 12)⟩,
    ⟨(some 14), (some (13, false)), .fld (.tmp 1) 0⟩,
    ⟨(some 15), (some (13, false)), .fld (.tmp 14) 1⟩,
    ⟨(some 16), (some (13, false)), .ld (.tmp 15) none⟩,
    ⟨(some 17), (some (13, false)), .mv (.tmp 16)⟩,
    ⟨(some 18), (some (17, true)), .fld (.tmp 1) 4⟩,
    ⟨(some 19), (some (17, true)), .ld (.tmp 18) none⟩,
    ⟨(some 20), (some (17, true)), .lenB (.tmp 19)⟩,
    ⟨(some 21), (some (17, true)), .bin .gtr 3 (.tmp 20) (.const (Go.Value.int Go.IntKind.i64 0))⟩,
    ⟨(some 22), (some (13, false)), .pick (.tmp 17) (.tmp 21) (.const (Go.Value.bool false))⟩,
    ⟨(some 23), none, .pick (.tmp 13) (.const (Go.Value.bool true)) (.tmp 22)⟩])
  (.cond (.tmp 23)
    (.seq (.ops [⟨(some 2), none, .mv (.const (Go.Value.int Go.IntKind.i64 1))⟩])
    (.ret))
    (.skip)))
  (.seq (.seq (.ops [⟨(some 24), none, .fld (.tmp 1) 3⟩,
    ⟨(some 25), none, .ld (.tmp 24) none⟩,
    ⟨(some 26), none, .lenB (.tmp 25)⟩,
    ⟨(some 27), none, .bin .gtr 3 (.tmp 26) (.const (Go.Value.int Go.IntKind.i64 64))⟩,
    ⟨(some 28), none, .mv (.tmp 27)⟩,
    ⟨(some 29), (some (28, false)), .fld (.tmp 1) 4⟩,
    ⟨(some 30), (some (28, false)), .ld (.tmp 29) none⟩,
    ⟨(some 31), (some (28, false)), .lenB (.tmp 30)⟩,
    ⟨(some 32), (some (28, false)), .bin .gtr 3 (.tmp 31) (.const (Go.Value.int Go.IntKind.i64 128))⟩,
    ⟨(some 33), none, .pick (.tmp 28) (.const (Go.Value.bool true)) (.tmp 32)⟩])
  (.cond (.tmp 33)
    (.seq (.ops [⟨(some 2), none, .mv (.const (Go.Value.int Go.IntKind.i64 5))⟩])
    (.ret))
    (.skip)))
  (.seq (.ops [⟨(some 2), none, .mv (.const (Go.Value.int Go.IntKind.i64 0))⟩])
  (.ret))))
theorem is_ref09_Right : FnIs Try.prog F.ref09_Right X.ref09_Right 34 [.tmp 2] := ⟨by kernel_rfl⟩

/-- haycroft/haycroftref08.Pack: function 71 -/
abbrev F.ref08_Pack : FuncId := 71
def X.ref08_Pack : X :=
  .seq (.ops [⟨(some 1), none, .box 58 (.tmp 0)⟩,
    ⟨(some 2), none, .mv (.const (Go.Value.int Go.IntKind.u64 0))⟩,
    ⟨(some 3), none, .mv (.const (Go.Value.int Go.IntKind.i64 0))⟩])
  (.seq (.seq (.ops [⟨(some 5), none, .fld (.tmp 1) 0⟩,
    ⟨(some 6), none, .ld (.tmp 5) none⟩,
    ⟨(some 7), none, .bin .geq 36 (.tmp 6) (.const (Go.Value.int Go.IntKind.u64 281474976710656))⟩])
  (.cond (.tmp 7)
    (.seq (.ops [⟨(some 2), none, .mv (.const (Go.Value.int Go.IntKind.u64 0))⟩,
      ⟨(some 3), none, .mv (.const (Go.Value.int Go.IntKind.i64 1))⟩])
    (.ret))
    (.skip)))
  (.seq (.ops [⟨(some 8), none, .fld (.tmp 1) 0⟩,
    ⟨(some 9), none, .ld (.tmp 8) none⟩,
    ⟨(some 4), none, .mv (.tmp 9)⟩])
  (.seq (.seq (.ops [⟨(some 10), none, .fld (.tmp 1) 1⟩,
    ⟨(some 11), none, .ld (.tmp 10) none⟩])
  (.cond (.tmp 11)
    (.ops [⟨(some 12), none, .mv (.tmp 4)⟩,
      ⟨(some 13), none, .bin .add 36 (.tmp 12) (.const (Go.Value.int Go.IntKind.u64 281474976710656))⟩,
      ⟨(some 4), none, .mv (.tmp 13)⟩])
    (.skip)))
  (.seq (.seq (.ops [⟨(some 14), none, .fld (.tmp 1) 2⟩,
    ⟨(some 15), none, .ld (.tmp 14) none⟩])
  (.cond (.tmp 15)
    (.ops [⟨(some 16), none, .mv (.tmp 4)⟩,
      ⟨(some 17), none, .bin .add 36 (.tmp 16) (.const (Go.Value.int Go.IntKind.u64 562949953421312))⟩,
      ⟨(some 4), none, .mv (.tmp 17)⟩])
    (.skip)))
  (.seq (.ops [⟨(some 18), none, .mv (.tmp 4)⟩,
    ⟨(some 2), none, .mv (.tmp 18)⟩,
    ⟨(some 3), none, .mv (.const (Go.Value.int Go.IntKind.i64 0))⟩])
  (.ret))))))
theorem is_ref08_Pack : FnIs Try.prog F.ref08_Pack X.ref08_Pack 19 [.tmp 2, .tmp 3] := ⟨by kernel_rfl⟩

/-- haycroft/haycroftref08.Lengths: function 72 -/
abbrev F.ref08_Lengths : FuncId := 72
def X.ref08_Lengths : X :=
  .seq (.ops [⟨(some 4), none, .mv (.const (Go.Value.int Go.IntKind.u64 0))⟩,
    ⟨(some 5), none, .mv (.const (Go.Value.int Go.IntKind.i64 0))⟩])
  (.seq (.seq (.ops [⟨(some 6), none, .mv (.tmp 0)⟩,
    ⟨(some 7), none, .bin .lss 3 (.tmp 6) (.const (Go.Value.int Go.IntKind.i64 0))⟩,
    ⟨(some 8), none, .mv (.tmp 7)⟩,
    ⟨(some 9), (some (8, false)), .mv (.tmp 1)⟩,
    ⟨(some 10), (some (8, false)), .bin .lss 3 (.tmp 9) (.const (Go.Value.int Go.IntKind.i64 0))⟩,
    ⟨(some 11), none, .pick (.tmp 8) (.const (Go.Value.bool true)) (.tmp 10)⟩])
  (.cond (.tmp 11)
    (.seq (.ops [⟨(some 4), none, .mv (.const (Go.Value.int Go.IntKind.u64 0))⟩,
      ⟨(some 5), none, .mv (.const (Go.Value.int Go.IntKind.i64 1))⟩])
    (.ret))
    (.skip)))
  (.seq (.seq (.ops [⟨(some 12), none, .mv (.tmp 0)⟩,
    ⟨(some 13), none, .bin .gtr 3 (.tmp 12) (.const (Go.Value.int Go.IntKind.i64 64))⟩,
    ⟨(some 14), none, .mv (.tmp 13)⟩,
    ⟨(some 15), (some (14, false)), .mv (.tmp 1)⟩,
    ⟨(some 16), (some (14, false)), .bin .gtr 3 (.tmp 15) (.const (Go.Value.int Go.IntKind.i64 128))⟩,
    ⟨(some 17), none, .pick (.tmp 14) (.const (Go.Value.bool true)) (.tmp 16)⟩])
  (.cond (.tmp 17)
    (.seq (.ops [⟨(some 4), none, .mv (.const (Go.Value.int Go.IntKind.u64 0))⟩,
      ⟨(some 5), none, .mv (.const (Go.Value.int Go.IntKind.i64 5))⟩])
    (.ret))
    (.skip)))
  (.seq (.ops [⟨(some 18), none, .mv (.tmp 0)⟩,
    ⟨(some 19), none, .conv Go.IntKind.u64 (.tmp 18)⟩,
    ⟨(some 20), none, .mv (.tmp 1)⟩,
    ⟨(some 21), none, .conv Go.IntKind.u64 (.tmp 20)⟩,
    ⟨(some 22), none, .bin .mul 36 (.tmp 21) (.const (Go.Value.int Go.IntKind.u64 65536))⟩,
    ⟨(some 23), none, .bin .add 36 (.tmp 19) (.tmp 22)⟩,
    ⟨(some 24), none, .bin .add 36 (.tmp 23) (.const (Go.Value.int Go.IntKind.u64 189850439385088))⟩,
    ⟨(some 4), none, .mv (.tmp 24)⟩,
    ⟨(some 5), none, .mv (.const (Go.Value.int Go.IntKind.i64 0))⟩])
  (.ret))))
theorem is_ref08_Lengths : FnIs Try.prog F.ref08_Lengths X.ref08_Lengths 25 [.tmp 4, .tmp 5] := ⟨by kernel_rfl⟩

-- loop (inner ones first): [0, 3, 4, 5, 6]
-- loop (inner ones first): [0, 3, 4]
/-- haycroft/haycroftref01.Words: function 73 -/
abbrev F.ref01_Words : FuncId := 73
def X.ref01_Words : X :=
  .seq (.ops [⟨(some 2), none, .mv (.const (Go.Value.slice none 0 0))⟩])
  (.seq (.ops [⟨(some 7), none, .bsl 36 1 0 [(Go.Value.int Go.IntKind.u64 0)] []⟩,
    ⟨(some 3), none, .mv (.tmp 7)⟩])
  (.seq (.seq (.ops [⟨(some 4), none, .mv (.const (Go.Value.int Go.IntKind.i64 0))⟩])
  (.block 0 (.loop (.seq (.seq (.ops [⟨(some 8), none, .mv (.tmp 4)⟩,
        ⟨(some 9), none, .mv (.tmp 0)⟩,
        ⟨(some 10), none, .lenB (.tmp 9)⟩,
        ⟨(some 11), none, .bin .lss 3 (.tmp 8) (.tmp 10)⟩])
      (.cond (.tmp 11)
        (.skip)
        (.exit 0)))
      (.seq (.block 1 (.seq (.ops [⟨(some 5), none, .mv (.const (Go.Value.int Go.IntKind.u64 0))⟩])
        (.seq (.seq (.ops [⟨(some 6), none, .mv (.const (Go.Value.int Go.IntKind.i64 7))⟩])
        (.block 2 (.loop (.seq (.seq (.ops [⟨(some 14), none, .mv (.tmp 6)⟩,
              ⟨(some 15), none, .bin .geq 3 (.tmp 14) (.const (Go.Value.int Go.IntKind.i64 0))⟩])
            (.cond (.tmp 15)
              (.skip)
              (.exit 2)))
            (.seq (.block 3 (.seq (.ops [⟨(some 18), none, .mv (.tmp 5)⟩,
                ⟨(some 19), none, .bin .mul 36 (.tmp 18) (.const (Go.Value.int Go.IntKind.u64 256))⟩,
                ⟨(some 5), none, .mv (.tmp 19)⟩])
              (.seq (.ops [⟨(some 20), none, .mv (.tmp 4)⟩,
                ⟨(some 21), none, .mv (.tmp 6)⟩,
                ⟨(some 22), none, .bin .add 3 (.tmp 20) (.tmp 21)⟩,
                ⟨(some 23), none, .mv (.tmp 0)⟩,
                ⟨(some 24), none, .lenB (.tmp 23)⟩,
                ⟨(some 25), none, .bin .lss 3 (.tmp 22) (.tmp 24)⟩])
              (.cond (.tmp 25)
                (.ops [⟨(some 26), none, .mv (.tmp 5)⟩,
                  ⟨(some 27), none, .mv (.tmp 0)⟩,
                  ⟨(some 28), none, .mv (.tmp 4)⟩,
                  ⟨(some 29), none, .mv (.tmp 6)⟩,
                  ⟨(some 30), none, .bin .add 3 (.tmp 28) (.tmp 29)⟩,
                  ⟨(some 31), none, .ixs (.tmp 27) (.tmp 30)⟩,
                  ⟨(some 32), none, .conv Go.IntKind.u64 (.tmp 31)⟩,
                  ⟨(some 33), none, .bin .add 36 (.tmp 26) (.tmp 32)⟩,
                  ⟨(some 5), none, .mv (.tmp 33)⟩])
                (.skip)))))
            (.ops [⟨(some 16), none, .mv (.tmp 6)⟩,
              ⟨(some 17), none, .bin .sub 3 (.tmp 16) (.const (Go.Value.int Go.IntKind.i64 1))⟩,
              ⟨(some 6), none, .mv (.tmp 17)⟩]))))))
        (.ops [⟨(some 34), none, .mv (.tmp 3)⟩,
          ⟨(some 35), none, .mv (.tmp 5)⟩,
          ⟨(some 36), none, .bsl 36 1 1 [(Go.Value.int Go.IntKind.u64 0)] [(0, (.tmp 35))]⟩,
          ⟨(some 37), none, .app 36 1 8 [(Go.Value.int Go.IntKind.u64 0)] (.tmp 34) (.tmp 36)⟩,
          ⟨(some 3), none, .mv (.tmp 37)⟩]))))
      (.ops [⟨(some 12), none, .mv (.tmp 4)⟩,
        ⟨(some 13), none, .bin .add 3 (.tmp 12) (.const (Go.Value.int Go.IntKind.i64 8))⟩,
        ⟨(some 4), none, .mv (.tmp 13)⟩]))))))
  (.seq (.ops [⟨(some 38), none, .mv (.tmp 3)⟩,
    ⟨(some 2), none, .mv (.tmp 38)⟩])
  (.ret))))
theorem is_ref01_Words : FnIs Try.prog F.ref01_Words X.ref01_Words 39 [.tmp 2] := ⟨by kernel_rfl⟩

/-- haycroft/haycroftref09.Words: function 40 -/
abbrev F.ref09_Words : FuncId := 40
def X.ref09_Words : X :=
  .seq (.ops [⟨(some 1), none, .box 60 (.tmp 0)⟩,
    ⟨(some 2), none, .mv (.const (Go.Value.slice none 0 0))⟩])
  (.seq (.ops [⟨(some 9), none, .fld (.tmp 1) 0⟩,
    ⟨(some 10), none, .ld (.tmp 9) (some 3)⟩,
    ⟨(some 11), none, .call 71 [(.tmp 10)]⟩,
    ⟨(some 8), none, .mv (.tmp 11)⟩,
    ⟨(some 12), none, .ext (.tmp 8) 0⟩,
    ⟨(some 13), none, .ext (.tmp 8) 1⟩,
    ⟨(some 3), none, .mv (.tmp 12)⟩,
    ⟨(some 4), none, .mv (.tmp 13)⟩])
  (.seq (.ops [⟨(some 15), none, .fld (.tmp 1) 3⟩,
    ⟨(some 16), none, .ld (.tmp 15) none⟩,
    ⟨(some 17), none, .lenB (.tmp 16)⟩,
    ⟨(some 18), none, .fld (.tmp 1) 4⟩,
    ⟨(some 19), none, .ld (.tmp 18) none⟩,
    ⟨(some 20), none, .lenB (.tmp 19)⟩,
    ⟨(some 21), none, .call 72 [(.tmp 17), (.tmp 20)]⟩,
    ⟨(some 14), none, .mv (.tmp 21)⟩,
    ⟨(some 22), none, .ext (.tmp 14) 0⟩,
    ⟨(some 23), none, .ext (.tmp 14) 1⟩,
    ⟨(some 5), none, .mv (.tmp 22)⟩,
    ⟨(some 6), none, .mv (.tmp 23)⟩])
  (.seq (.ops [⟨(some 24), none, .mv (.tmp 3)⟩,
    ⟨(some 25), none, .mv (.tmp 5)⟩,
    ⟨(some 26), none, .bsl 36 1 3 [(Go.Value.int Go.IntKind.u64 0)] [(0, (.tmp 24)), (1, (.const (Go.Value.int Go.IntKind.u64 0))), (2, (.tmp 25))]⟩,
    ⟨(some 7), none, .mv (.tmp 26)⟩])
  (.seq (.ops [⟨(some 27), none, .mv (.tmp 7)⟩,
    ⟨(some 28), none, .fld (.tmp 1) 3⟩,
    ⟨(some 29), none, .ld (.tmp 28) none⟩,
    ⟨(some 30), none, .call 73 [(.tmp 29)]⟩,
    ⟨(some 31), none, .app 36 1 8 [(Go.Value.int Go.IntKind.u64 0)] (.tmp 27) (.tmp 30)⟩,
    ⟨(some 7), none, .mv (.tmp 31)⟩])
  (.seq (.ops [⟨(some 32), none, .mv (.tmp 7)⟩,
    ⟨(some 33), none, .fld (.tmp 1) 4⟩,
    ⟨(some 34), none, .ld (.tmp 33) none⟩,
    ⟨(some 35), none, .call 73 [(.tmp 34)]⟩,
    ⟨(some 36), none, .app 36 1 8 [(Go.Value.int Go.IntKind.u64 0)] (.tmp 32) (.tmp 35)⟩,
    ⟨(some 2), none, .mv (.tmp 36)⟩])
  (.ret))))))
theorem is_ref09_Words : FnIs Try.prog F.ref09_Words X.ref09_Words 37 [.tmp 2] := ⟨by kernel_rfl⟩

-- loop (inner ones first): [0, 1, 5]
/-- haycroft/haycroftref01.Same: function 39 -/
abbrev F.ref01_Same : FuncId := 39
def X.ref01_Same : X :=
  .seq (.ops [⟨(some 4), none, .mv (.const (Go.Value.bool false))⟩])
  (.seq (.seq (.ops [⟨(some 6), none, .mv (.tmp 0)⟩,
    ⟨(some 7), none, .lenS (.tmp 6)⟩,
    ⟨(some 8), none, .mv (.tmp 1)⟩,
    ⟨(some 9), none, .lenS (.tmp 8)⟩,
    ⟨(some 10), none, .bin .neq 3 (.tmp 7) (.tmp 9)⟩])
  (.cond (.tmp 10)
    (.seq (.ops [⟨(some 4), none, .mv (.const (Go.Value.bool false))⟩])
    (.ret))
    (.skip)))
  (.seq (.seq (.ops [⟨(some 5), none, .mv (.const (Go.Value.int Go.IntKind.i64 0))⟩])
  (.block 0 (.loop (.seq (.seq (.ops [⟨(some 11), none, .mv (.tmp 5)⟩,
        ⟨(some 12), none, .mv (.tmp 0)⟩,
        ⟨(some 13), none, .lenS (.tmp 12)⟩,
        ⟨(some 14), none, .bin .lss 3 (.tmp 11) (.tmp 13)⟩])
      (.cond (.tmp 14)
        (.skip)
        (.exit 0)))
      (.seq (.block 1 (.seq (.drawn [(0, ⟨(some 17), none, .mv (.tmp 0)⟩),
          (1, ⟨(some 18), none, .mv (.tmp 5)⟩),
          (2, ⟨(some 19), none, .idx (.tmp 17) (.tmp 18) 1⟩),
          (3, ⟨(some 20), none, .ld (.tmp 19) none⟩),
          (4, ⟨(some 21), none, .mv (.tmp 1)⟩),
          (5, ⟨(some 22), none, .mv (.tmp 5)⟩),
          (6, ⟨(some 23), none, .idx (.tmp 21) (.tmp 22) 1⟩),
          (7, ⟨(some 24), none, .ld (.tmp 23) none⟩),
          (8, ⟨(some 25), none, .bin .neq 36 (.tmp 20) (.tmp 24)⟩)]
          [[], [], [0, 1], [2], [], [], [4, 5], [6], [3, 7]]
          [0, 0, 3, 7, 0, 0, 48, 112, 255] 0)
        (.cond (.tmp 25)
          (.seq (.ops [⟨(some 4), none, .mv (.const (Go.Value.bool false))⟩])
          (.ret))
          (.skip))))
      (.ops [⟨(some 15), none, .mv (.tmp 5)⟩,
        ⟨(some 16), none, .bin .add 3 (.tmp 15) (.const (Go.Value.int Go.IntKind.i64 1))⟩,
        ⟨(some 5), none, .mv (.tmp 16)⟩]))))))
  (.seq (.ops [⟨(some 4), none, .mv (.const (Go.Value.bool true))⟩])
  (.ret))))
theorem is_ref01_Same : FnIs Try.prog F.ref01_Same X.ref01_Same 26 [.tmp 4] := ⟨by kernel_rfl⟩

/-- haycroft/field.Get: function 97 -/
abbrev F.field_Get : FuncId := 97
def X.field_Get : X :=
  .seq (.ops [⟨(some 6), none, .mv (.const (Go.Value.int Go.IntKind.u64 0))⟩])
  (.seq (.seq (.ops [⟨(some 7), none, .mv (.tmp 1)⟩,
    ⟨(some 8), none, .mv (.tmp 2)⟩,
    ⟨(some 9), none, .call 108 [(.tmp 7), (.tmp 8)]⟩,
    ⟨(some 10), none, .un .not (.tmp 9)⟩])
  (.cond (.tmp 10)
    (.seq (.ops [⟨(some 6), none, .mv (.const (Go.Value.int Go.IntKind.u64 0))⟩])
    (.ret))
    (.skip)))
  (.seq (.drawn [(0, ⟨(some 11), none, .mv (.tmp 0)⟩),
    (1, ⟨(some 12), none, .mv (.tmp 1)⟩),
    (2, ⟨(some 13), none, .bin .shr 36 (.tmp 11) (.tmp 12)⟩),
    (3, ⟨(some 14), none, .mv (.tmp 2)⟩),
    (4, ⟨(some 15), none, .call 81 [(.tmp 14)]⟩),
    (5, ⟨(some 16), none, .bin .and 36 (.tmp 13) (.tmp 15)⟩),
    (6, ⟨(some 6), none, .mv (.tmp 16)⟩)]
    [[], [], [0, 1], [], [3], [2, 4], [5, 4, 0, 1, 2, 3, 4, 5]]
    [0, 0, 3, 0, 8, 31, 63] 16)
  (.ret)))
theorem is_field_Get : FnIs Try.prog F.field_Get X.field_Get 17 [.tmp 6] := ⟨by kernel_rfl⟩

-- loop (inner ones first): [0, 6, 7, 13, 14, 15]
/-- haycroft/field.Spread: function 107 -/
abbrev F.field_Spread : FuncId := 107
def X.field_Spread : X :=
  .seq (.ops [⟨(some 4), none, .mv (.const (Go.Value.slice none 0 0))⟩,
    ⟨(some 5), none, .mv (.const (Go.Value.int Go.IntKind.i64 0))⟩])
  (.seq (.seq (.ops [⟨(some 10), none, .mv (.tmp 1)⟩,
    ⟨(some 11), none, .call 102 [(.tmp 10)]⟩,
    ⟨(some 12), none, .un .not (.tmp 11)⟩])
  (.cond (.tmp 12)
    (.seq (.ops [⟨(some 4), none, .mv (.const (Go.Value.slice none 0 0))⟩,
      ⟨(some 5), none, .mv (.const (Go.Value.int Go.IntKind.i64 1))⟩])
    (.ret))
    (.skip)))
  (.seq (.ops [⟨(some 6), none, .mv (.const (Go.Value.slice none 0 0))⟩])
  (.seq (.ops [⟨(some 7), none, .mv (.const (Go.Value.int Go.IntKind.i64 0))⟩])
  (.seq (.seq (.ops [⟨(some 13), none, .mv (.tmp 1)⟩,
    ⟨(some 14), none, .lenS (.tmp 13)⟩,
    ⟨(some 15), none, .mv (.const (Go.Value.int Go.IntKind.i64 0))⟩])
  (.block 0 (.loop (.seq (.ops [⟨(some 16), none, .bin .lss 3 (.tmp 15) (.tmp 14)⟩])
      (.seq (.cond (.tmp 16)
        (.skip)
        (.exit 0))
      (.seq (.block 1 (.seq (.ops [⟨(some 17), none, .idx (.tmp 13) (.tmp 15) 1⟩,
          ⟨(some 18), none, .ld (.tmp 17) none⟩,
          ⟨(some 9), none, .mv (.tmp 18)⟩])
        (.seq (.ops [⟨(some 19), none, .mv (.tmp 6)⟩,
          ⟨(some 20), none, .mv (.tmp 0)⟩,
          ⟨(some 21), none, .mv (.tmp 7)⟩,
          ⟨(some 22), none, .mv (.tmp 9)⟩,
          ⟨(some 23), none, .call 97 [(.tmp 20), (.tmp 21), (.tmp 22)]⟩,
          ⟨(some 24), none, .bsl 36 1 1 [(Go.Value.int Go.IntKind.u64 0)] [(0, (.tmp 23))]⟩,
          ⟨(some 25), none, .app 36 1 8 [(Go.Value.int Go.IntKind.u64 0)] (.tmp 19) (.tmp 24)⟩,
          ⟨(some 6), none, .mv (.tmp 25)⟩])
        (.ops [⟨(some 26), none, .mv (.tmp 7)⟩,
          ⟨(some 27), none, .mv (.tmp 9)⟩,
          ⟨(some 28), none, .bin .add 3 (.tmp 26) (.tmp 27)⟩,
          ⟨(some 7), none, .mv (.tmp 28)⟩]))))
      (.ops [⟨(some 29), none, .bin .add 3 (.tmp 15) (.const (Go.Value.int Go.IntKind.i64 1))⟩,
        ⟨(some 15), none, .mv (.tmp 29)⟩])))))))
  (.seq (.ops [⟨(some 30), none, .mv (.tmp 6)⟩,
    ⟨(some 4), none, .mv (.tmp 30)⟩,
    ⟨(some 5), none, .mv (.const (Go.Value.int Go.IntKind.i64 0))⟩])
  (.ret))))))
theorem is_field_Spread : FnIs Try.prog F.field_Spread X.field_Spread 31 [.tmp 4, .tmp 5] := ⟨by kernel_rfl⟩

/-- haycroft/header.Told: function 96 -/
abbrev F.header_Told : FuncId := 96
def X.header_Told : X :=
  .seq (.ops [⟨(some 2), none, .mv (.const (Go.Value.int Go.IntKind.i64 0))⟩,
    ⟨(some 3), none, .mv (.const (Go.Value.int Go.IntKind.i64 0))⟩,
    ⟨(some 4), none, .mv (.const (Go.Value.int Go.IntKind.i64 0))⟩])
  (.seq (.ops [⟨(some 8), none, .mv (.tmp 0)⟩,
    ⟨(some 9), none, .bsl 3 1 4 [(Go.Value.int Go.IntKind.i64 0)] [(0, (.const (Go.Value.int Go.IntKind.i64 16))), (1, (.const (Go.Value.int Go.IntKind.i64 16))), (2, (.const (Go.Value.int Go.IntKind.i64 16))), (3, (.const (Go.Value.int Go.IntKind.i64 16)))]⟩,
    ⟨(some 10), none, .call 107 [(.tmp 8), (.tmp 9)]⟩,
    ⟨(some 7), none, .mv (.tmp 10)⟩,
    ⟨(some 11), none, .ext (.tmp 7) 0⟩,
    ⟨(some 12), none, .ext (.tmp 7) 1⟩,
    ⟨(some 5), none, .mv (.tmp 11)⟩,
    ⟨(some 6), none, .mv (.tmp 12)⟩])
  (.seq (.seq (.ops [⟨(some 13), none, .mv (.tmp 5)⟩,
    ⟨(some 14), none, .idx (.tmp 13) (.const (Go.Value.int Go.IntKind.i64 0)) 1⟩,
    ⟨(some 15), none, .ld (.tmp 14) none⟩,
    ⟨(some 16), none, .bin .gtr 36 (.tmp 15) (.const (Go.Value.int Go.IntKind.u64 64))⟩,
    ⟨(some 17), none, .mv (.tmp 16)⟩,
    ⟨(some 18), (some (17, false)), .mv (.tmp 5)⟩,
    ⟨(some 19), (some (17, false)), .idx (.tmp 18) (.const (Go.Value.int Go.IntKind.i64 1)) 1⟩,
    ⟨(some 20), (some (17, false)), .ld (.tmp 19) none⟩,
    ⟨(some 21), (some (17, false)), .bin .gtr 36 (.tmp 20) (.const (Go.Value.int Go.IntKind.u64 128))⟩,
    ⟨(some 22), none, .pick (.tmp 17) (.const (Go.Value.bool true)) (.tmp 21)⟩,
    ⟨(some 23), none, .mv (.tmp 22)⟩,
    ⟨(some 24), (some (23, false)), .mv (.tmp 5)⟩,
    ⟨(some 25), (some (23, false)), .idx (.tmp 24) (.const (Go.Value.int Go.IntKind.i64 2)) 1⟩,
    ⟨(some 26), (some (23, false)), .ld (.tmp 25) none⟩,
    ⟨(some 27), (some (23, false)), .bin .neq 36 (.tmp 26) (.const (Go.Value.int Go.IntKind.u64 44203))⟩,
    ⟨(some 28), none, .pick (.tmp 23) (.const (Go.Value.bool true)) (.tmp 27)⟩,
    ⟨(some 29), none, .mv (.tmp 28)⟩,
    ⟨(some 30), (some (29, false)), .mv (.tmp 5)⟩,
    ⟨(some 31), (some (29, false)), .idx (.tmp 30) (.const (Go.Value.int Go.IntKind.i64 3)) 1⟩,
    ⟨(some 32), (some (29, false)), .ld (.tmp 31) none⟩,
    ⟨(some 33), (some (29, false)), .bin .neq 36 (.tmp 32) (.const (Go.Value.int Go.IntKind.u64 0))⟩,
    ⟨(some 34), none, .pick (.tmp 29) (.const (Go.Value.bool true)) (.tmp 33)⟩])
  (.cond (.tmp 34)
    (.seq (.ops [⟨(some 2), none, .mv (.const (Go.Value.int Go.IntKind.i64 0))⟩,
      ⟨(some 3), none, .mv (.const (Go.Value.int Go.IntKind.i64 0))⟩,
      ⟨(some 4), none, .mv (.const (Go.Value.int Go.IntKind.i64 4))⟩])
    (.ret))
    (.skip)))
  (.seq (.drawn [(0, ⟨(some 35), none, .mv (.tmp 5)⟩),
    (1, ⟨(some 36), none, .idx (.tmp 35) (.const (Go.Value.int Go.IntKind.i64 0)) 1⟩),
    (2, ⟨(some 37), none, .ld (.tmp 36) none⟩),
    (3, ⟨(some 38), none, .conv Go.IntKind.i64 (.tmp 37)⟩),
    (4, ⟨(some 39), none, .mv (.tmp 5)⟩),
    (5, ⟨(some 40), none, .idx (.tmp 39) (.const (Go.Value.int Go.IntKind.i64 1)) 1⟩),
    (6, ⟨(some 41), none, .ld (.tmp 40) none⟩),
    (7, ⟨(some 42), none, .conv Go.IntKind.i64 (.tmp 41)⟩),
    (8, ⟨(some 2), none, .mv (.tmp 38)⟩),
    (9, ⟨(some 3), none, .mv (.tmp 42)⟩),
    (10, ⟨(some 4), none, .mv (.const (Go.Value.int Go.IntKind.i64 0))⟩)]
    [[], [0], [1], [2], [], [4], [5], [6], [3, 0, 1, 2, 3], [7, 8, 0, 1, 2, 3, 4, 5, 6, 7, 8], [9, 0, 1, 2, 3, 4, 5, 6, 7, 8, 9]]
    [0, 1, 3, 7, 0, 16, 48, 112, 15, 511, 1023] 0)
  (.ret))))
theorem is_header_Told : FnIs Try.prog F.header_Told X.header_Told 43 [.tmp 2, .tmp 3, .tmp 4] := ⟨by kernel_rfl⟩

/-- haycroft/record.Head: function 74 -/
abbrev F.record_Head : FuncId := 74
def X.record_Head : X :=
  .seq (.ops [⟨(some 2), none, .mv (.const (Go.Value.int Go.IntKind.i64 0))⟩,
    ⟨(some 3), none, .mv (.const (Go.Value.int Go.IntKind.i64 0))⟩,
    ⟨(some 4), none, .mv (.const (Go.Value.int Go.IntKind.i64 0))⟩])
  (.seq (.seq (.ops [⟨(some 5), none, .mv (.tmp 0)⟩,
    ⟨(some 6), none, .lenS (.tmp 5)⟩,
    ⟨(some 7), none, .bin .lss 3 (.tmp 6) (.const (Go.Value.int Go.IntKind.i64 3))⟩])
  (.cond (.tmp 7)
    (.seq (.ops [⟨(some 2), none, .mv (.const (Go.Value.int Go.IntKind.i64 0))⟩,
      ⟨(some 3), none, .mv (.const (Go.Value.int Go.IntKind.i64 0))⟩,
      ⟨(some 4), none, .mv (.const (Go.Value.int Go.IntKind.i64 3))⟩])
    (.ret))
    (.skip)))
  (.seq (.ops [⟨(some 8), none, .mv (.tmp 0)⟩,
    ⟨(some 9), none, .idx (.tmp 8) (.const (Go.Value.int Go.IntKind.i64 2)) 1⟩,
    ⟨(some 10), none, .ld (.tmp 9) none⟩,
    ⟨(some 11), none, .call 96 [(.tmp 10)]⟩,
    ⟨(some 12), none, .ext (.tmp 11) 0⟩,
    ⟨(some 13), none, .ext (.tmp 11) 1⟩,
    ⟨(some 14), none, .ext (.tmp 11) 2⟩,
    ⟨(some 2), none, .mv (.tmp 12)⟩,
    ⟨(some 3), none, .mv (.tmp 13)⟩,
    ⟨(some 4), none, .mv (.tmp 14)⟩])
  (.ret)))
theorem is_record_Head : FnIs Try.prog F.record_Head X.record_Head 15 [.tmp 2, .tmp 3, .tmp 4] := ⟨by kernel_rfl⟩

/-- haycroft/field.Flag: function 98 -/
abbrev F.field_Flag : FuncId := 98
def X.field_Flag : X :=
  .seq (.ops [⟨(some 4), none, .mv (.const (Go.Value.bool false))⟩])
  (.seq (.ops [⟨(some 5), none, .mv (.tmp 0)⟩,
    ⟨(some 6), none, .mv (.tmp 1)⟩,
    ⟨(some 7), none, .call 97 [(.tmp 5), (.tmp 6), (.const (Go.Value.int Go.IntKind.i64 1))]⟩,
    ⟨(some 8), none, .bin .eql 36 (.tmp 7) (.const (Go.Value.int Go.IntKind.u64 1))⟩,
    ⟨(some 4), none, .mv (.tmp 8)⟩])
  (.ret))
theorem is_field_Flag : FnIs Try.prog F.field_Flag X.field_Flag 9 [.tmp 4] := ⟨by kernel_rfl⟩

/-- haycroft/header.Unpack: function 75 -/
abbrev F.header_Unpack : FuncId := 75
def X.header_Unpack : X :=
  .seq (.ops [⟨(some 2), none, .new 58 (Go.Value.agg #[(Go.Value.int Go.IntKind.u64 0), (Go.Value.bool false), (Go.Value.bool false)])⟩,
    ⟨(some 3), none, .mv (.const (Go.Value.int Go.IntKind.i64 0))⟩])
  (.seq (.seq (.ops [⟨(some 4), none, .mv (.tmp 0)⟩,
    ⟨(some 5), none, .call 81 [(.const (Go.Value.int Go.IntKind.i64 50))]⟩,
    ⟨(some 6), none, .bin .gtr 36 (.tmp 4) (.tmp 5)⟩])
  (.cond (.tmp 6)
    (.seq (.ops [⟨(some 7), none, .bld [(Go.Value.int Go.IntKind.u64 0), (Go.Value.bool false), (Go.Value.bool false)] []⟩,
      ⟨none, none, .st (.tmp 2) (.tmp 7) 3⟩,
      ⟨(some 3), none, .mv (.const (Go.Value.int Go.IntKind.i64 4))⟩])
    (.ret))
    (.skip)))
  (.seq (.ops [⟨(some 8), none, .mv (.tmp 0)⟩,
    ⟨(some 9), none, .call 97 [(.tmp 8), (.const (Go.Value.int Go.IntKind.i64 0)), (.const (Go.Value.int Go.IntKind.i64 48))]⟩,
    ⟨(some 10), none, .mv (.tmp 0)⟩,
    ⟨(some 11), none, .call 98 [(.tmp 10), (.const (Go.Value.int Go.IntKind.i64 48))]⟩,
    ⟨(some 12), none, .mv (.tmp 0)⟩,
    ⟨(some 13), none, .call 98 [(.tmp 12), (.const (Go.Value.int Go.IntKind.i64 49))]⟩,
    ⟨(some 14), none, .bld [(Go.Value.int Go.IntKind.u64 0), (Go.Value.bool false), (Go.Value.bool false)] [(0, 1, (.tmp 9)), (1, 1, (.tmp 11)), (2, 1, (.tmp 13))]⟩,
    ⟨none, none, .st (.tmp 2) (.tmp 14) 3⟩,
    ⟨(some 3), none, .mv (.const (Go.Value.int Go.IntKind.i64 0))⟩])
  (.ret)))
theorem is_header_Unpack : FnIs Try.prog F.header_Unpack X.header_Unpack 15 [.cell 2 58, .tmp 3] := ⟨by kernel_rfl⟩

/-- haycroft/header.Count: function 76 -/
abbrev F.header_Count : FuncId := 76
def X.header_Count : X :=
  .seq (.ops [⟨(some 2), none, .mv (.const (Go.Value.int Go.IntKind.u64 0))⟩])
  (.seq (.ops [⟨(some 3), none, .mv (.tmp 0)⟩,
    ⟨(some 4), none, .call 97 [(.tmp 3), (.const (Go.Value.int Go.IntKind.i64 0)), (.const (Go.Value.int Go.IntKind.i64 32))]⟩,
    ⟨(some 2), none, .mv (.tmp 4)⟩])
  (.ret))
theorem is_header_Count : FnIs Try.prog F.header_Count X.header_Count 5 [.tmp 2] := ⟨by kernel_rfl⟩

/-- haycroft/record.Of: function 41 -/
abbrev F.record_Of : FuncId := 41
def X.record_Of : X :=
  .seq (.ops [⟨(some 2), none, .new 60 (Go.Value.agg #[(Go.Value.int Go.IntKind.u64 0), (Go.Value.bool false), (Go.Value.bool false), (Go.Value.string { data := #[] }), (Go.Value.string { data := #[] })])⟩,
    ⟨(some 3), none, .mv (.const (Go.Value.int Go.IntKind.i64 0))⟩,
    ⟨(some 4), none, .mv (.const (Go.Value.int Go.IntKind.i64 0))⟩])
  (.seq (.ops [⟨(some 17), none, .mv (.tmp 0)⟩,
    ⟨(some 18), none, .call 74 [(.tmp 17)]⟩,
    ⟨(some 16), none, .mv (.tmp 18)⟩,
    ⟨(some 19), none, .ext (.tmp 16) 0⟩,
    ⟨(some 20), none, .ext (.tmp 16) 1⟩,
    ⟨(some 21), none, .ext (.tmp 16) 2⟩,
    ⟨(some 5), none, .mv (.tmp 19)⟩,
    ⟨(some 6), none, .mv (.tmp 20)⟩,
    ⟨(some 7), none, .mv (.tmp 21)⟩])
  (.seq (.seq (.ops [⟨(some 22), none, .mv (.tmp 7)⟩,
    ⟨(some 23), none, .bin .neq 28 (.tmp 22) (.const (Go.Value.int Go.IntKind.i64 0))⟩])
  (.cond (.tmp 23)
    (.seq (.ops [⟨(some 24), none, .bld [(Go.Value.int Go.IntKind.u64 0), (Go.Value.bool false), (Go.Value.bool false), (Go.Value.string { data := #[] }), (Go.Value.string { data := #[] })] []⟩,
      ⟨(some 25), none, .mv (.tmp 7)⟩,
      ⟨none, none, .st (.tmp 2) (.tmp 24) 5⟩,
      ⟨(some 3), none, .mv (.const (Go.Value.int Go.IntKind.i64 0))⟩,
      ⟨(some 4), none, .mv (.tmp 25)⟩])
    (.ret))
    (.skip)))
  (.seq (.ops [⟨(some 26), none, .mv (.tmp 5)⟩,
    ⟨(some 27), none, .mv (.tmp 6)⟩,
    ⟨(some 28), none, .call 15 [(.tmp 26), (.tmp 27)]⟩,
    ⟨(some 8), none, .mv (.tmp 28)⟩])
  (.seq (.seq (.ops [⟨(some 29), none, .mv (.tmp 0)⟩,
    ⟨(some 30), none, .lenS (.tmp 29)⟩,
    ⟨(some 31), none, .mv (.tmp 8)⟩,
    ⟨(some 32), none, .bin .lss 3 (.tmp 30) (.tmp 31)⟩])
  (.cond (.tmp 32)
    (.seq (.ops [⟨(some 33), none, .bld [(Go.Value.int Go.IntKind.u64 0), (Go.Value.bool false), (Go.Value.bool false), (Go.Value.string { data := #[] }), (Go.Value.string { data := #[] })] []⟩,
      ⟨none, none, .st (.tmp 2) (.tmp 33) 5⟩,
      ⟨(some 3), none, .mv (.const (Go.Value.int Go.IntKind.i64 0))⟩,
      ⟨(some 4), none, .mv (.const (Go.Value.int Go.IntKind.i64 3))⟩])
    (.ret))
    (.skip)))
  (.seq (.ops [⟨(some 35), none, .mv (.tmp 0)⟩,
    ⟨(some 36), none, .idx (.tmp 35) (.const (Go.Value.int Go.IntKind.i64 0)) 1⟩,
    ⟨(some 37), none, .ld (.tmp 36) none⟩,
    ⟨(some 38), none, .call 75 [(.tmp 37)]⟩,
    ⟨(some 34), none, .mv (.tmp 38)⟩,
    ⟨(some 39), none, .ext (.tmp 34) 0⟩,
    ⟨(some 40), none, .ext (.tmp 34) 1⟩,
    ⟨(some 9), none, .new 58 (Go.Value.agg #[(Go.Value.int Go.IntKind.u64 0), (Go.Value.bool false), (Go.Value.bool false)])⟩,
    ⟨none, none, .st (.tmp 9) (.tmp 39) 3⟩,
    ⟨(some 7), none, .mv (.tmp 40)⟩])
  (.seq (.ops [⟨(some 42), none, .mv (.tmp 0)⟩,
    ⟨(some 43), none, .mv (.tmp 5)⟩,
    ⟨(some 44), none, .call 14 [(.tmp 43)]⟩,
    ⟨(some 45), none, .slc 1 (.tmp 42) (some (.const (Go.Value.int Go.IntKind.i64 3))) (some (.tmp 44))⟩,
    ⟨(some 46), none, .mv (.tmp 5)⟩,
    ⟨(some 47), none, .call 68 [(.tmp 45), (.tmp 46)]⟩,
    ⟨(some 41), none, .mv (.tmp 47)⟩,
    ⟨(some 48), none, .ext (.tmp 41) 0⟩,
    ⟨(some 49), none, .ext (.tmp 41) 1⟩,
    ⟨(some 10), none, .mv (.tmp 48)⟩,
    ⟨(some 11), none, .mv (.tmp 49)⟩])
  (.seq (.ops [⟨(some 51), none, .mv (.tmp 0)⟩,
    ⟨(some 52), none, .mv (.tmp 5)⟩,
    ⟨(some 53), none, .call 14 [(.tmp 52)]⟩,
    ⟨(some 54), none, .mv (.tmp 8)⟩,
    ⟨(some 55), none, .slc 1 (.tmp 51) (some (.tmp 53)) (some (.tmp 54))⟩,
    ⟨(some 56), none, .mv (.tmp 6)⟩,
    ⟨(some 57), none, .call 68 [(.tmp 55), (.tmp 56)]⟩,
    ⟨(some 50), none, .mv (.tmp 57)⟩,
    ⟨(some 58), none, .ext (.tmp 50) 0⟩,
    ⟨(some 59), none, .ext (.tmp 50) 1⟩,
    ⟨(some 12), none, .mv (.tmp 58)⟩,
    ⟨(some 13), none, .mv (.tmp 59)⟩])
  (.seq (.ops [⟨(some 60), none, .ld (.tmp 9) (some 3)⟩,
    ⟨(some 61), none, .mv (.tmp 10)⟩,
    ⟨(some 62), none, .mv (.tmp 12)⟩,
    ⟨(some 63), none, .bld [(Go.Value.int Go.IntKind.u64 0), (Go.Value.bool false), (Go.Value.bool false), (Go.Value.string { data := #[] }), (Go.Value.string { data := #[] })] [(0, 3, (.tmp 60)), (3, 1, (.tmp 61)), (4, 1, (.tmp 62))]⟩,
    ⟨(some 14), none, .new 60 (Go.Value.agg #[(Go.Value.int Go.IntKind.u64 0), (Go.Value.bool false), (Go.Value.bool false), (Go.Value.string { data := #[] }), (Go.Value.string { data := #[] })])⟩,
    ⟨none, none, .st (.tmp 14) (.tmp 63) 5⟩])
  (.seq (.drawn [(0, ⟨(some 64), none, .mv (.tmp 0)⟩),
    (1, ⟨(some 65), none, .idx (.tmp 64) (.const (Go.Value.int Go.IntKind.i64 1)) 1⟩),
    (2, ⟨(some 66), none, .ld (.tmp 65) none⟩),
    (3, ⟨(some 67), none, .mv (.tmp 0)⟩),
    (4, ⟨(some 68), none, .idx (.tmp 67) (.const (Go.Value.int Go.IntKind.i64 1)) 1⟩),
    (5, ⟨(some 69), none, .ld (.tmp 68) none⟩),
    (6, ⟨(some 70), none, .call 76 [(.tmp 69)]⟩),
    (7, ⟨(some 71), none, .bin .eql 36 (.tmp 66) (.tmp 70)⟩),
    (8, ⟨(some 15), none, .mv (.tmp 71)⟩)]
    [[], [0], [1], [], [3], [4], [5], [2, 6], [7, 6, 0, 1, 2, 3, 4, 5, 6, 7]]
    [0, 1, 3, 0, 8, 24, 56, 127, 255] 64)
  (.seq (.seq (.ops [⟨(some 72), none, .mv (.tmp 7)⟩,
    ⟨(some 73), none, .bin .neq 28 (.tmp 72) (.const (Go.Value.int Go.IntKind.i64 0))⟩,
    ⟨(some 74), none, .mv (.tmp 73)⟩,
    ⟨(some 75), (some (74, false)), .mv (.tmp 11)⟩,
    ⟨(some 76), (some (74, false)), .bin .neq 28 (.tmp 75) (.const (Go.Value.int Go.IntKind.i64 0))⟩,
    ⟨(some 77), none, .pick (.tmp 74) (.const (Go.Value.bool true)) (.tmp 76)⟩,
    ⟨(some 78), none, .mv (.tmp 77)⟩,
    ⟨(some 79), (some (78, false)), .mv (.tmp 13)⟩,
    ⟨(some 80), (some (78, false)), .bin .neq 28 (.tmp 79) (.const (Go.Value.int Go.IntKind.i64 0))⟩,
    ⟨(some 81), none, .pick (.tmp 78) (.const (Go.Value.bool true)) (.tmp 80)⟩,
    ⟨(some 82), none, .mv (.tmp 81)⟩,
    ⟨(some 83), (some (82, false)), .mv (.tmp 15)⟩,
    ⟨(some 84), (some (82, false)), .un .not (.tmp 83)⟩,
    ⟨(some 85), none, .pick (.tmp 82) (.const (Go.Value.bool true)) (.tmp 84)⟩,
    ⟨(some 86), none, .mv (.tmp 85)⟩,
    ⟨(some 87), (some (86, false)), .ld (.tmp 14) (some 5)⟩,
    ⟨(some 88), (some (86, false)), .call 36 [(.tmp 87)]⟩,
    ⟨(some 89), (some (86, false)), .bin .neq 28 (.tmp 88) (.const (Go.Value.int Go.IntKind.i64 0))⟩,
    ⟨(some 90), none, .pick (.tmp 86) (.const (Go.Value.bool true)) (.tmp 89)⟩])
  (.cond (.tmp 90)
    (.seq (.ops [⟨(some 91), none, .bld [(Go.Value.int Go.IntKind.u64 0), (Go.Value.bool false), (Go.Value.bool false), (Go.Value.string { data := #[] }), (Go.Value.string { data := #[] })] []⟩,
      ⟨none, none, .st (.tmp 2) (.tmp 91) 5⟩,
      ⟨(some 3), none, .mv (.const (Go.Value.int Go.IntKind.i64 0))⟩,
      ⟨(some 4), none, .mv (.const (Go.Value.int Go.IntKind.i64 4))⟩])
    (.ret))
    (.skip)))
  (.seq (.ops [⟨(some 92), none, .ld (.tmp 14) (some 5)⟩,
    ⟨(some 93), none, .mv (.tmp 8)⟩,
    ⟨none, none, .st (.tmp 2) (.tmp 92) 5⟩,
    ⟨(some 3), none, .mv (.tmp 93)⟩,
    ⟨(some 4), none, .mv (.const (Go.Value.int Go.IntKind.i64 0))⟩])
  (.ret))))))))))))
theorem is_record_Of : FnIs Try.prog F.record_Of X.record_Of 94 [.cell 2 60, .tmp 3, .tmp 4] := ⟨by kernel_rfl⟩

-- loop (inner ones first): [6, 11]
/-- haycroft/haycroftlaw09.RecordWords: function 9 -/
abbrev F.law09_RecordWords : FuncId := 9
def X.law09_RecordWords : X :=
  .seq (.ops [⟨(some 2), none, .box 60 (.tmp 0)⟩,
    ⟨(some 4), none, .mv (.const (Go.Value.bool false))⟩])
  (.seq (.seq (.ops [⟨(some 15), none, .call 13 []⟩,
    ⟨(some 16), none, .un .not (.tmp 15)⟩])
  (.cond (.tmp 16)
    (.seq (.ops [⟨(some 4), none, .mv (.const (Go.Value.bool false))⟩])
    (.ret))
    (.skip)))
  (.seq (.seq (.ops [⟨(some 17), none, .fld (.tmp 2) 3⟩,
    ⟨(some 18), none, .ld (.tmp 17) none⟩,
    ⟨(some 19), none, .lenB (.tmp 18)⟩,
    ⟨(some 20), none, .bin .gtr 3 (.tmp 19) (.const (Go.Value.int Go.IntKind.i64 1000))⟩,
    ⟨(some 21), none, .mv (.tmp 20)⟩,
    ⟨(some 22), (some (21, false)), .fld (.tmp 2) 4⟩,
    ⟨(some 23), (some (21, false)), .ld (.tmp 22) none⟩,
    ⟨(some 24), (some (21, false)), .lenB (.tmp 23)⟩,
    ⟨(some 25), (some (21, false)), .bin .gtr 3 (.tmp 24) (.const (Go.Value.int Go.IntKind.i64 1000))⟩,
    ⟨(some 26), none, .pick (.tmp 21) (.const (Go.Value.bool true)) (.tmp 25)⟩,
    ⟨(some 27), none, .mv (.tmp 26)⟩,
    ⟨(some 28), (some (27, false)), .mv (.tmp 1)⟩,
    ⟨(some 29), (some (27, false)), .lenS (.tmp 28)⟩,
    ⟨(some 30), (some (27, false)), .bin .gtr 3 (.tmp 29) (.const (Go.Value.int Go.IntKind.i64 100))⟩,
    ⟨(some 31), none, .pick (.tmp 27) (.const (Go.Value.bool true)) (.tmp 30)⟩])
  (.cond (.tmp 31)
    (.seq (.ops [⟨(some 4), none, .mv (.const (Go.Value.bool true))⟩])
    (.ret))
    (.skip)))
  (.seq (.ops [⟨(some 32), none, .ld (.tmp 2) (some 5)⟩,
    ⟨(some 33), none, .call 36 [(.tmp 32)]⟩,
    ⟨(some 5), none, .mv (.tmp 33)⟩])
  (.seq (.ops [⟨(some 35), none, .ld (.tmp 2) (some 5)⟩,
    ⟨(some 36), none, .call 37 [(.tmp 35)]⟩,
    ⟨(some 34), none, .mv (.tmp 36)⟩,
    ⟨(some 37), none, .ext (.tmp 34) 0⟩,
    ⟨(some 38), none, .ext (.tmp 34) 1⟩,
    ⟨(some 6), none, .mv (.tmp 37)⟩,
    ⟨(some 7), none, .mv (.tmp 38)⟩])
  (.seq (.seq (.ops [⟨(some 39), none, .mv (.tmp 5)⟩,
    ⟨(some 40), none, .ld (.tmp 2) (some 5)⟩,
    ⟨(some 41), none, .call 38 [(.tmp 40)]⟩,
    ⟨(some 42), none, .bin .neq 28 (.tmp 39) (.tmp 41)⟩,
    ⟨(some 43), none, .mv (.tmp 42)⟩,
    ⟨(some 44), (some (43, false)), .mv (.tmp 7)⟩,
    ⟨(some 45), (some (43, false)), .mv (.tmp 5)⟩,
    ⟨(some 46), (some (43, false)), .bin .neq 28 (.tmp 44) (.tmp 45)⟩,
    ⟨(some 47), none, .pick (.tmp 43) (.const (Go.Value.bool true)) (.tmp 46)⟩])
  (.cond (.tmp 47)
    (.seq (.ops [⟨(some 4), none, .mv (.const (Go.Value.bool false))⟩])
    (.ret))
    (.skip)))
  (.seq (.seq (.ops [⟨(some 48), none, .mv (.tmp 5)⟩,
    ⟨(some 49), none, .bin .neq 28 (.tmp 48) (.const (Go.Value.int Go.IntKind.i64 0))⟩])
  (.cond (.tmp 49)
    (.seq (.ops [⟨(some 50), none, .mv (.tmp 6)⟩,
      ⟨(some 51), none, .lenS (.tmp 50)⟩,
      ⟨(some 52), none, .bin .eql 3 (.tmp 51) (.const (Go.Value.int Go.IntKind.i64 0))⟩,
      ⟨(some 4), none, .mv (.tmp 52)⟩])
    (.ret))
    (.skip)))
  (.seq (.seq (.ops [⟨(some 53), none, .mv (.tmp 6)⟩,
    ⟨(some 54), none, .ld (.tmp 2) (some 5)⟩,
    ⟨(some 55), none, .call 40 [(.tmp 54)]⟩,
    ⟨(some 56), none, .call 39 [(.tmp 53), (.tmp 55)]⟩,
    ⟨(some 57), none, .un .not (.tmp 56)⟩,
    ⟨(some 58), none, .mv (.tmp 57)⟩,
    ⟨(some 59), (some (58, false)), .mv (.tmp 6)⟩,
    ⟨(some 60), (some (58, false)), .lenS (.tmp 59)⟩,
    ⟨(some 61), (some (58, false)), .fld (.tmp 2) 3⟩,
    ⟨(some 62), (some (58, false)), .ld (.tmp 61) none⟩,
    ⟨(some 63), (some (58, false)), .lenB (.tmp 62)⟩,
    ⟨(some 64), (some (58, false)), .fld (.tmp 2) 4⟩,
    ⟨(some 65), (some (58, false)), .ld (.tmp 64) none⟩,
    ⟨(some 66), (some (58, false)), .lenB (.tmp 65)⟩,
    ⟨(some 67), (some (58, false)), .call 15 [(.tmp 63), (.tmp 66)]⟩,
    ⟨(some 68), (some (58, false)), .bin .neq 3 (.tmp 60) (.tmp 67)⟩,
    ⟨(some 69), none, .pick (.tmp 58) (.const (Go.Value.bool true)) (.tmp 68)⟩])
  (.cond (.tmp 69)
    (.seq (.ops [⟨(some 4), none, .mv (.const (Go.Value.bool false))⟩])
    (.ret))
    (.skip)))
  (.seq (.ops [⟨(some 71), none, .bsl 36 1 0 [(Go.Value.int Go.IntKind.u64 0)] []⟩,
    ⟨(some 72), none, .mv (.tmp 6)⟩,
    ⟨(some 73), none, .app 36 1 8 [(Go.Value.int Go.IntKind.u64 0)] (.tmp 71) (.tmp 72)⟩,
    ⟨(some 74), none, .mv (.tmp 1)⟩,
    ⟨(some 75), none, .app 36 1 8 [(Go.Value.int Go.IntKind.u64 0)] (.tmp 73) (.tmp 74)⟩,
    ⟨(some 76), none, .call 41 [(.tmp 75)]⟩,
    ⟨(some 70), none, .mv (.tmp 76)⟩,
    ⟨(some 77), none, .ext (.tmp 70) 0⟩,
    ⟨(some 78), none, .ext (.tmp 70) 1⟩,
    ⟨(some 79), none, .ext (.tmp 70) 2⟩,
    ⟨(some 8), none, .new 60 (Go.Value.agg #[(Go.Value.int Go.IntKind.u64 0), (Go.Value.bool false), (Go.Value.bool false), (Go.Value.string { data := #[] }), (Go.Value.string { data := #[] })])⟩,
    ⟨none, none, .st (.tmp 8) (.tmp 77) 5⟩,
    ⟨(some 9), none, .mv (.tmp 78)⟩,
    ⟨(some 10), none, .mv (.tmp 79)⟩])
  (.seq (.seq (.ops [⟨(some 80), none, .ld (.tmp 8) (some 5)⟩,
    ⟨(some 81), none, .ld (.tmp 2) (some 5)⟩,
    ⟨(some 82), none, .eq true (.agg 5 [(0, 0), (1, 1), (2, 1), (3, 2), (4, 2)]) (.tmp 80) (.tmp 81)⟩,
    ⟨(some 83), none, .mv (.tmp 82)⟩,
    ⟨(some 84), (some (83, false)), .mv (.tmp 9)⟩,
    ⟨(some 85), (some (83, false)), .mv (.tmp 6)⟩,
    ⟨(some 86), (some (83, false)), .lenS (.tmp 85)⟩,
    ⟨(some 87), (some (83, false)), .bin .neq 3 (.tmp 84) (.tmp 86)⟩,
    ⟨(some 88), none, .pick (.tmp 83) (.const (Go.Value.bool true)) (.tmp 87)⟩,
    ⟨(some 89), none, .mv (.tmp 88)⟩,
    ⟨(some 90), (some (89, false)), .mv (.tmp 10)⟩,
    ⟨(some 91), (some (89, false)), .bin .neq 28 (.tmp 90) (.const (Go.Value.int Go.IntKind.i64 0))⟩,
    ⟨(some 92), none, .pick (.tmp 89) (.const (Go.Value.bool true)) (.tmp 91)⟩])
  (.cond (.tmp 92)
    (.seq (.ops [⟨(some 4), none, .mv (.const (Go.Value.bool false))⟩])
    (.ret))
    (.skip)))
  (.seq (.seq (.ops [⟨(some 11), none, .mv (.const (Go.Value.int Go.IntKind.i64 0))⟩])
  (.block 0 (.loop (.seq (.seq (.ops [⟨(some 93), none, .mv (.tmp 11)⟩,
        ⟨(some 94), none, .mv (.tmp 6)⟩,
        ⟨(some 95), none, .lenS (.tmp 94)⟩,
        ⟨(some 96), none, .bin .lss 3 (.tmp 93) (.tmp 95)⟩])
      (.cond (.tmp 96)
        (.skip)
        (.exit 0)))
      (.seq (.block 1 (.seq (.ops [⟨(some 100), none, .mv (.tmp 6)⟩,
          ⟨(some 101), none, .mv (.tmp 11)⟩,
          ⟨(some 102), none, .slc 1 (.tmp 100) none (some (.tmp 101))⟩,
          ⟨(some 103), none, .call 41 [(.tmp 102)]⟩,
          ⟨(some 99), none, .mv (.tmp 103)⟩,
          ⟨(some 104), none, .ext (.tmp 99) 0⟩,
          ⟨(some 105), none, .ext (.tmp 99) 1⟩,
          ⟨(some 106), none, .ext (.tmp 99) 2⟩,
          ⟨(some 12), none, .new 60 (Go.Value.agg #[(Go.Value.int Go.IntKind.u64 0), (Go.Value.bool false), (Go.Value.bool false), (Go.Value.string { data := #[] }), (Go.Value.string { data := #[] })])⟩,
          ⟨none, none, .st (.tmp 12) (.tmp 104) 5⟩,
          ⟨(some 13), none, .mv (.tmp 105)⟩,
          ⟨(some 14), none, .mv (.tmp 106)⟩])
        (.seq (.ops [⟨(some 107), none, .mv (.tmp 13)⟩,
          ⟨(some 108), none, .bin .neq 3 (.tmp 107) (.const (Go.Value.int Go.IntKind.i64 0))⟩,
          ⟨(some 109), none, .mv (.tmp 108)⟩,
          ⟨(some 110), (some (109, false)), .mv (.tmp 14)⟩,
          ⟨(some 111), (some (109, false)), .bin .neq 28 (.tmp 110) (.const (Go.Value.int Go.IntKind.i64 3))⟩,
          ⟨(some 112), none, .pick (.tmp 109) (.const (Go.Value.bool true)) (.tmp 111)⟩])
        (.cond (.tmp 112)
          (.seq (.ops [⟨(some 4), none, .mv (.const (Go.Value.bool false))⟩])
          (.ret))
          (.skip)))))
      (.ops [⟨(some 97), none, .mv (.tmp 11)⟩,
        ⟨(some 98), none, .bin .add 3 (.tmp 97) (.const (Go.Value.int Go.IntKind.i64 1))⟩,
        ⟨(some 11), none, .mv (.tmp 98)⟩]))))))
  (.seq (.ops [⟨(some 4), none, .mv (.const (Go.Value.bool true))⟩])
  (.ret))))))))))))
theorem is_law09_RecordWords : FnIs Try.prog F.law09_RecordWords X.law09_RecordWords 113 [.tmp 4] := ⟨by kernel_rfl⟩

/-- haycroft/place.May: function 77 -/
abbrev F.place_May : FuncId := 77
def X.place_May : X :=
  .seq (.ops [⟨(some 2), none, .mv (.const (Go.Value.bool false))⟩])
  (.seq (.ops [⟨(some 3), none, .mv (.tmp 0)⟩,
    ⟨(some 4), none, .bin .geq 3 (.tmp 3) (.const (Go.Value.int Go.IntKind.i64 5))⟩,
    ⟨(some 5), none, .mv (.tmp 4)⟩,
    ⟨(some 6), (some (5, true)), .mv (.tmp 0)⟩,
    ⟨(some 7), (some (5, true)), .bin .leq 3 (.tmp 6) (.const (Go.Value.int Go.IntKind.i64 9))⟩,
    ⟨(some 8), none, .pick (.tmp 5) (.tmp 7) (.const (Go.Value.bool false))⟩,
    ⟨(some 2), none, .mv (.tmp 8)⟩])
  (.ret))
theorem is_place_May : FnIs Try.prog F.place_May X.place_May 9 [.tmp 2] := ⟨by kernel_rfl⟩

/-- haycroft/tail.first: function 85 -/
abbrev F.tail_first : FuncId := 85
def X.tail_first : X :=
  .seq (.ops [⟨(some 2), none, .mv (.const (Go.Value.int Go.IntKind.i64 0))⟩])
  (.seq (.seq (.ops [⟨(some 3), none, .mv (.tmp 0)⟩,
    ⟨(some 4), none, .bin .eql 3 (.tmp 3) (.const (Go.Value.int Go.IntKind.i64 0))⟩])
  (.cond (.tmp 4)
    (.seq (.ops [⟨(some 2), none, .mv (.const (Go.Value.int Go.IntKind.i64 1))⟩])
    (.ret))
    (.skip)))
  (.seq (.ops [⟨(some 2), none, .mv (.const (Go.Value.int Go.IntKind.i64 0))⟩])
  (.ret)))
theorem is_tail_first : FnIs Try.prog F.tail_first X.tail_first 5 [.tmp 2] := ⟨by kernel_rfl⟩

/-- haycroft/tail.pack: function 84 -/
abbrev F.tail_pack : FuncId := 84
def X.tail_pack : X :=
  .seq (.ops [⟨(some 4), none, .mv (.const (Go.Value.int Go.IntKind.u64 0))⟩])
  (.seq (.ops [⟨(some 5), none, .mv (.tmp 0)⟩,
    ⟨(some 6), none, .conv Go.IntKind.u64 (.tmp 5)⟩,
    ⟨(some 7), none, .bin .shl 36 (.tmp 6) (.const (Go.Value.int Go.IntKind.u64 32))⟩,
    ⟨(some 8), none, .mv (.tmp 1)⟩,
    ⟨(some 9), none, .conv Go.IntKind.u64 (.tmp 8)⟩,
    ⟨(some 10), none, .bin .or 36 (.tmp 7) (.tmp 9)⟩,
    ⟨(some 4), none, .mv (.tmp 10)⟩])
  (.ret))
theorem is_tail_pack : FnIs Try.prog F.tail_pack X.tail_pack 11 [.tmp 4] := ⟨by kernel_rfl⟩

/-- (*haycroft/tail.Tail).Begin: function 51 -/
abbrev F.tail_Tail_Begin : FuncId := 51
def X.tail_Tail_Begin : X :=
  .seq (.ops [⟨(some 4), none, .mv (.const (Go.Value.int Go.IntKind.i64 0))⟩])
  (.seq (.block 0 (.seq (.ops [⟨(some 6), none, .mv (.tmp 0)⟩,
      ⟨(some 7), none, .eq false .ptr (.tmp 6) (.const (Go.Value.pointer none))⟩,
      ⟨(some 5), none, .mv (.tmp 7)⟩])
    (.cond (.tmp 5)
      (.seq (.ops [⟨(some 4), none, .mv (.const (Go.Value.int Go.IntKind.i64 2))⟩])
      (.ret))
      (.seq (.ops [⟨(some 9), none, .mv (.tmp 1)⟩,
        ⟨(some 10), none, .bin .lss 3 (.tmp 9) (.const (Go.Value.int Go.IntKind.i64 0))⟩,
        ⟨(some 11), none, .mv (.tmp 10)⟩,
        ⟨(some 12), (some (11, false)), .mv (.tmp 1)⟩,
        ⟨(some 13), (some (11, false)), .mv (.tmp 0)⟩,
        ⟨(some 14), (some (11, false)), .nilc (.tmp 13)⟩,
        ⟨(some 15), (some (11, false)), .fld (.tmp 14) 1⟩,
        ⟨(some 16), (some (11, false)), .ld (.tmp 15) none⟩,
        ⟨(some 17), (some (11, false)), .bin .geq 3 (.tmp 12) (.tmp 16)⟩,
        ⟨(some 18), none, .pick (.tmp 11) (.const (Go.Value.bool true)) (.tmp 17)⟩,
        ⟨(some 8), none, .mv (.tmp 18)⟩])
      (.cond (.tmp 8)
        (.seq (.ops [⟨(some 4), none, .mv (.const (Go.Value.int Go.IntKind.i64 1))⟩])
        (.ret))
        (.skip))))))
  (.seq (.drawn [(0, ⟨(some 19), none, .mv (.tmp 0)⟩),
    (1, ⟨(some 20), none, .nilc (.tmp 19)⟩),
    (2, ⟨(some 21), none, .fld (.tmp 20) 2⟩),
    (3, ⟨(some 22), none, .ld (.tmp 21) none⟩),
    (4, ⟨(some 23), none, .mv (.tmp 1)⟩),
    (5, ⟨(some 24), none, .mv (.tmp 1)⟩),
    (6, ⟨(some 25), none, .call 85 [(.tmp 24)]⟩),
    (7, ⟨(some 26), none, .call 84 [(.tmp 23), (.tmp 25)]⟩),
    (8, ⟨(some 27), none, .call 63 [(.tmp 22), (.const (Go.Value.int Go.IntKind.i64 0)), (.tmp 26)]⟩),
    (9, ⟨(some 4), none, .mv (.tmp 27)⟩)]
    [[], [0], [1], [2], [], [], [5], [4, 6, 6], [3, 7, 7], [8, 8, 0, 1, 2, 3, 4, 5, 6, 7, 8]]
    [0, 1, 3, 7, 0, 0, 32, 112, 255, 511] 448)
  (.ret)))
theorem is_tail_Tail_Begin : FnIs Try.prog F.tail_Tail_Begin X.tail_Tail_Begin 28 [.tmp 4] := ⟨by kernel_rfl⟩

/-- haycroft/tail.New: function 43 -/
abbrev F.tail_New : FuncId := 43
def X.tail_New : X :=
  .seq (.ops [⟨(some 4), none, .mv (.const (Go.Value.pointer none))⟩,
    ⟨(some 5), none, .mv (.const (Go.Value.int Go.IntKind.i64 0))⟩])
  (.seq (.seq (.ops [⟨(some 9), none, .mv (.tmp 0)⟩,
    ⟨(some 10), none, .call 77 [(.tmp 9)]⟩,
    ⟨(some 11), none, .un .not (.tmp 10)⟩,
    ⟨(some 12), none, .mv (.tmp 11)⟩,
    ⟨(some 13), (some (12, false)), .mv (.tmp 1)⟩,
    ⟨(some 14), (some (12, false)), .bin .lss 3 (.tmp 13) (.const (Go.Value.int Go.IntKind.i64 1))⟩,
    ⟨(some 15), none, .pick (.tmp 12) (.const (Go.Value.bool true)) (.tmp 14)⟩,
    ⟨(some 16), none, .mv (.tmp 15)⟩,
    ⟨(some 17), (some (16, false)), .mv (.tmp 1)⟩,
    ⟨(some 18), (some (16, false)), .bin .gtr 3 (.tmp 17) (.const (Go.Value.int Go.IntKind.i64 64))⟩,
    ⟨(some 19), none, .pick (.tmp 16) (.const (Go.Value.bool true)) (.tmp 18)⟩])
  (.cond (.tmp 19)
    (.seq (.ops [⟨(some 4), none, .mv (.const (Go.Value.pointer none))⟩,
      ⟨(some 5), none, .mv (.const (Go.Value.int Go.IntKind.i64 1))⟩])
    (.ret))
    (.skip)))
  (.seq (.ops [⟨(some 21), none, .call 62 [(.const (Go.Value.int Go.IntKind.i64 1))]⟩,
    ⟨(some 20), none, .mv (.tmp 21)⟩,
    ⟨(some 22), none, .ext (.tmp 20) 0⟩,
    ⟨(some 23), none, .ext (.tmp 20) 1⟩,
    ⟨(some 6), none, .mv (.tmp 22)⟩,
    ⟨(some 7), none, .mv (.tmp 23)⟩])
  (.seq (.seq (.ops [⟨(some 24), none, .mv (.tmp 7)⟩,
    ⟨(some 25), none, .bin .neq 28 (.tmp 24) (.const (Go.Value.int Go.IntKind.i64 0))⟩])
  (.cond (.tmp 25)
    (.seq (.ops [⟨(some 26), none, .mv (.tmp 7)⟩,
      ⟨(some 4), none, .mv (.const (Go.Value.pointer none))⟩,
      ⟨(some 5), none, .mv (.tmp 26)⟩])
    (.ret))
    (.skip)))
  (.seq (.ops [⟨(some 27), none, .mv (.tmp 0)⟩,
    ⟨(some 28), none, .mv (.tmp 1)⟩,
    ⟨(some 29), none, .mv (.tmp 6)⟩,
    ⟨(some 30), none, .bld [(Go.Value.int Go.IntKind.i64 0), (Go.Value.int Go.IntKind.i64 0), (Go.Value.pointer none)] [(0, 1, (.tmp 27)), (1, 1, (.tmp 28)), (2, 1, (.tmp 29))]⟩,
    ⟨(some 31), none, .box 109 (.tmp 30)⟩,
    ⟨(some 8), none, .mv (.tmp 31)⟩])
  (.seq (.ops [⟨(some 32), none, .mv (.tmp 8)⟩,
    ⟨(some 33), none, .mv (.tmp 8)⟩,
    ⟨(some 34), none, .call 51 [(.tmp 33), (.const (Go.Value.int Go.IntKind.i64 0))]⟩,
    ⟨(some 4), none, .mv (.tmp 32)⟩,
    ⟨(some 5), none, .mv (.tmp 34)⟩])
  (.ret))))))
theorem is_tail_New : FnIs Try.prog F.tail_New X.tail_New 35 [.tmp 4, .tmp 5] := ⟨by kernel_rfl⟩

/-- haycroft/place.Size: function 99 -/
abbrev F.place_Size : FuncId := 99
def X.place_Size : X :=
  .seq (.ops [⟨(some 2), none, .mv (.const (Go.Value.int Go.IntKind.i64 0))⟩])
  (.seq (.seq (.ops [⟨(some 3), none, .mv (.tmp 0)⟩,
    ⟨(some 4), none, .call 77 [(.tmp 3)]⟩,
    ⟨(some 5), none, .un .not (.tmp 4)⟩])
  (.cond (.tmp 5)
    (.seq (.ops [⟨(some 2), none, .mv (.const (Go.Value.int Go.IntKind.i64 0))⟩])
    (.ret))
    (.skip)))
  (.seq (.ops [⟨(some 6), none, .mv (.tmp 0)⟩,
    ⟨(some 7), none, .bin .shl 3 (.const (Go.Value.int Go.IntKind.i64 1)) (.tmp 6)⟩,
    ⟨(some 2), none, .mv (.tmp 7)⟩])
  (.ret)))
theorem is_place_Size : FnIs Try.prog F.place_Size X.place_Size 8 [.tmp 2] := ⟨by kernel_rfl⟩

/-- (*haycroft/tail.Tail).size: function 79 -/
abbrev F.tail_Tail_size : FuncId := 79
def X.tail_Tail_size : X :=
  .seq (.ops [⟨(some 2), none, .mv (.const (Go.Value.int Go.IntKind.i64 0))⟩])
  (.seq (.ops [⟨(some 3), none, .mv (.tmp 0)⟩,
    ⟨(some 4), none, .nilc (.tmp 3)⟩,
    ⟨(some 5), none, .fld (.tmp 4) 0⟩,
    ⟨(some 6), none, .ld (.tmp 5) none⟩,
    ⟨(some 7), none, .call 99 [(.tmp 6)]⟩,
    ⟨(some 2), none, .mv (.tmp 7)⟩])
  (.ret))
theorem is_tail_Tail_size : FnIs Try.prog F.tail_Tail_size X.tail_Tail_size 8 [.tmp 2] := ⟨by kernel_rfl⟩

/-- (*haycroft/tail.Tail).now: function 86 -/
abbrev F.tail_Tail_now : FuncId := 86
def X.tail_Tail_now : X :=
  .seq (.ops [⟨(some 2), none, .mv (.const (Go.Value.int Go.IntKind.i64 0))⟩,
    ⟨(some 3), none, .mv (.const (Go.Value.int Go.IntKind.i64 0))⟩])
  (.seq (.ops [⟨(some 5), none, .mv (.tmp 0)⟩,
    ⟨(some 6), none, .nilc (.tmp 5)⟩,
    ⟨(some 7), none, .fld (.tmp 6) 2⟩,
    ⟨(some 8), none, .ld (.tmp 7) none⟩,
    ⟨(some 9), none, .call 66 [(.tmp 8), (.const (Go.Value.int Go.IntKind.i64 0))]⟩,
    ⟨(some 4), none, .mv (.tmp 9)⟩])
  (.seq (.ops [⟨(some 10), none, .mv (.tmp 4)⟩,
    ⟨(some 11), none, .bin .shr 36 (.tmp 10) (.const (Go.Value.int Go.IntKind.u64 32))⟩,
    ⟨(some 12), none, .conv Go.IntKind.i64 (.tmp 11)⟩,
    ⟨(some 13), none, .mv (.tmp 4)⟩,
    ⟨(some 14), none, .call 81 [(.const (Go.Value.int Go.IntKind.i64 32))]⟩,
    ⟨(some 15), none, .bin .and 36 (.tmp 13) (.tmp 14)⟩,
    ⟨(some 16), none, .conv Go.IntKind.i64 (.tmp 15)⟩,
    ⟨(some 2), none, .mv (.tmp 12)⟩,
    ⟨(some 3), none, .mv (.tmp 16)⟩])
  (.ret)))
theorem is_tail_Tail_now : FnIs Try.prog F.tail_Tail_now X.tail_Tail_now 17 [.tmp 2, .tmp 3] := ⟨by kernel_rfl⟩

/-- (*haycroft/tail.Tail).Over: function 55 -/
abbrev F.tail_Tail_Over : FuncId := 55
def X.tail_Tail_Over : X :=
  .seq (.ops [⟨(some 2), none, .mv (.const (Go.Value.bool false))⟩])
  (.seq (.seq (.ops [⟨(some 5), none, .mv (.tmp 0)⟩,
    ⟨(some 6), none, .eq false .ptr (.tmp 5) (.const (Go.Value.pointer none))⟩])
  (.cond (.tmp 6)
    (.seq (.ops [⟨(some 2), none, .mv (.const (Go.Value.bool false))⟩])
    (.ret))
    (.skip)))
  (.seq (.ops [⟨(some 8), none, .mv (.tmp 0)⟩,
    ⟨(some 9), none, .call 86 [(.tmp 8)]⟩,
    ⟨(some 7), none, .mv (.tmp 9)⟩,
    ⟨(some 10), none, .ext (.tmp 7) 0⟩,
    ⟨(some 11), none, .ext (.tmp 7) 1⟩,
    ⟨(some 3), none, .mv (.tmp 10)⟩,
    ⟨(some 4), none, .mv (.tmp 11)⟩])
  (.seq (.ops [⟨(some 12), none, .mv (.tmp 4)⟩,
    ⟨(some 13), none, .mv (.tmp 0)⟩,
    ⟨(some 14), none, .call 79 [(.tmp 13)]⟩,
    ⟨(some 15), none, .bin .gtr 3 (.tmp 12) (.tmp 14)⟩,
    ⟨(some 2), none, .mv (.tmp 15)⟩])
  (.ret))))
theorem is_tail_Tail_Over : FnIs Try.prog F.tail_Tail_Over X.tail_Tail_Over 16 [.tmp 2] := ⟨by kernel_rfl⟩

/-- (*haycroft/tail.Tail).Page: function 53 -/
abbrev F.tail_Tail_Page : FuncId := 53
def X.tail_Tail_Page : X :=
  .seq (.ops [⟨(some 2), none, .mv (.const (Go.Value.int Go.IntKind.i64 0))⟩])
  (.seq (.seq (.ops [⟨(some 5), none, .mv (.tmp 0)⟩,
    ⟨(some 6), none, .eq false .ptr (.tmp 5) (.const (Go.Value.pointer none))⟩])
  (.cond (.tmp 6)
    (.seq (.ops [⟨(some 2), none, .mv (.const (Go.Value.int Go.IntKind.i64 0))⟩])
    (.ret))
    (.skip)))
  (.seq (.ops [⟨(some 8), none, .mv (.tmp 0)⟩,
    ⟨(some 9), none, .call 86 [(.tmp 8)]⟩,
    ⟨(some 7), none, .mv (.tmp 9)⟩,
    ⟨(some 10), none, .ext (.tmp 7) 0⟩,
    ⟨(some 11), none, .ext (.tmp 7) 1⟩,
    ⟨(some 3), none, .mv (.tmp 10)⟩,
    ⟨(some 4), none, .mv (.tmp 11)⟩])
  (.seq (.ops [⟨(some 12), none, .mv (.tmp 3)⟩,
    ⟨(some 2), none, .mv (.tmp 12)⟩])
  (.ret))))
theorem is_tail_Tail_Page : FnIs Try.prog F.tail_Tail_Page X.tail_Tail_Page 13 [.tmp 2] := ⟨by kernel_rfl⟩

/-- (*haycroft/tail.Tail).Last: function 57 -/
abbrev F.tail_Tail_Last : FuncId := 57
def X.tail_Tail_Last : X :=
  .seq (.ops [⟨(some 2), none, .mv (.const (Go.Value.bool false))⟩])
  (.seq (.drawn [(0, ⟨(some 3), none, .mv (.tmp 0)⟩),
    (1, ⟨(some 4), none, .eq true .ptr (.tmp 3) (.const (Go.Value.pointer none))⟩),
    (2, ⟨(some 5), none, .mv (.tmp 4)⟩),
    (3, ⟨(some 6), (some (5, true)), .mv (.tmp 0)⟩),
    (6, ⟨(some 9), (some (5, true)), .mv (.tmp 0)⟩),
    (7, ⟨(some 10), (some (5, true)), .nilc (.tmp 9)⟩),
    (8, ⟨(some 11), (some (5, true)), .fld (.tmp 10) 1⟩),
    (9, ⟨(some 12), (some (5, true)), .ld (.tmp 11) none⟩),
    (4, ⟨(some 7), (some (5, true)), .call 53 [(.tmp 6)]⟩),
    (5, ⟨(some 8), (some (5, true)), .bin .add 3 (.tmp 7) (.const (Go.Value.int Go.IntKind.i64 1))⟩),
    (10, ⟨(some 13), (some (5, true)), .bin .geq 3 (.tmp 8) (.tmp 12)⟩),
    (11, ⟨(some 14), none, .pick (.tmp 5) (.tmp 13) (.const (Go.Value.bool false))⟩),
    (12, ⟨(some 2), none, .mv (.tmp 14)⟩)]
    [[], [0], [1], [2], [3, 2, 2], [4, 2], [2], [6, 2], [7, 2], [8, 2], [5, 9, 2], [2, 10], [11, 4, 0, 1, 2, 3, 4, 5, 6, 7, 8, 9, 10, 11]]
    [0, 1, 3, 7, 15, 31, 7, 71, 199, 455, 1023, 2047, 4095] 16)
  (.ret))
theorem is_tail_Tail_Last : FnIs Try.prog F.tail_Tail_Last X.tail_Tail_Last 15 [.tmp 2] := ⟨by kernel_rfl⟩

/-- (*haycroft/tail.Tail).none: function 80 -/
abbrev F.tail_Tail_none : FuncId := 80
def X.tail_Tail_none : X :=
  .seq (.ops [⟨(some 4), none, .mv (.const (Go.Value.int Go.IntKind.i64 0))⟩])
  (.seq (.seq (.ops [⟨(some 5), none, .mv (.tmp 0)⟩,
    ⟨(some 6), none, .call 57 [(.tmp 5)]⟩])
  (.cond (.tmp 6)
    (.seq (.ops [⟨(some 4), none, .mv (.const (Go.Value.int Go.IntKind.i64 4))⟩])
    (.ret))
    (.skip)))
  (.seq (.ops [⟨(some 7), none, .mv (.tmp 1)⟩,
    ⟨(some 4), none, .mv (.tmp 7)⟩])
  (.ret)))
theorem is_tail_Tail_none : FnIs Try.prog F.tail_Tail_none X.tail_Tail_none 8 [.tmp 4] := ⟨by kernel_rfl⟩

/-- haycroft/place.Of: function 100 -/
abbrev F.place_Of : FuncId := 100
def X.place_Of : X :=
  .seq (.ops [⟨(some 6), none, .mv (.const (Go.Value.int Go.IntKind.u64 0))⟩,
    ⟨(some 7), none, .mv (.const (Go.Value.int Go.IntKind.i64 0))⟩])
  (.seq (.block 0 (.seq (.seq (.ops [⟨(some 9), none, .mv (.tmp 0)⟩,
      ⟨(some 10), none, .call 77 [(.tmp 9)]⟩,
      ⟨(some 11), none, .un .not (.tmp 10)⟩,
      ⟨(some 8), none, .mv (.tmp 11)⟩])
    (.cond (.tmp 8)
      (.skip)
      (.seq (.ops [⟨(some 12), none, .mv (.tmp 1)⟩,
        ⟨(some 13), none, .bin .lss 3 (.tmp 12) (.const (Go.Value.int Go.IntKind.i64 0))⟩,
        ⟨(some 8), none, .mv (.tmp 13)⟩])
      (.cond (.tmp 8)
        (.skip)
        (.seq (.ops [⟨(some 14), none, .mv (.tmp 2)⟩,
          ⟨(some 15), none, .bin .lss 3 (.tmp 14) (.const (Go.Value.int Go.IntKind.i64 0))⟩,
          ⟨(some 8), none, .mv (.tmp 15)⟩])
        (.cond (.tmp 8)
          (.skip)
          (.ops [⟨(some 16), none, .mv (.tmp 2)⟩,
            ⟨(some 17), none, .mv (.tmp 0)⟩,
            ⟨(some 18), none, .call 99 [(.tmp 17)]⟩,
            ⟨(some 19), none, .bin .geq 3 (.tmp 16) (.tmp 18)⟩,
            ⟨(some 8), none, .mv (.tmp 19)⟩])))))))
    (.cond (.tmp 8)
      (.seq (.ops [⟨(some 6), none, .mv (.const (Go.Value.int Go.IntKind.u64 0))⟩,
        ⟨(some 7), none, .mv (.const (Go.Value.int Go.IntKind.i64 1))⟩])
      (.ret))
      (.seq (.ops [⟨(some 21), none, .mv (.tmp 1)⟩,
        ⟨(some 22), none, .conv Go.IntKind.u64 (.tmp 21)⟩,
        ⟨(some 23), none, .mv (.tmp 0)⟩,
        ⟨(some 24), none, .bin .shr 36 (.const (Go.Value.int Go.IntKind.u64 281474976710655)) (.tmp 23)⟩,
        ⟨(some 25), none, .bin .gtr 36 (.tmp 22) (.tmp 24)⟩,
        ⟨(some 20), none, .mv (.tmp 25)⟩])
      (.cond (.tmp 20)
        (.seq (.ops [⟨(some 6), none, .mv (.const (Go.Value.int Go.IntKind.u64 0))⟩,
          ⟨(some 7), none, .mv (.const (Go.Value.int Go.IntKind.i64 13))⟩])
        (.ret))
        (.skip))))))
  (.seq (.ops [⟨(some 26), none, .mv (.tmp 1)⟩,
    ⟨(some 27), none, .conv Go.IntKind.u64 (.tmp 26)⟩,
    ⟨(some 28), none, .mv (.tmp 0)⟩,
    ⟨(some 29), none, .bin .shl 36 (.tmp 27) (.tmp 28)⟩,
    ⟨(some 30), none, .mv (.tmp 2)⟩,
    ⟨(some 31), none, .conv Go.IntKind.u64 (.tmp 30)⟩,
    ⟨(some 32), none, .bin .or 36 (.tmp 29) (.tmp 31)⟩,
    ⟨(some 6), none, .mv (.tmp 32)⟩,
    ⟨(some 7), none, .mv (.const (Go.Value.int Go.IntKind.i64 0))⟩])
  (.ret)))
theorem is_place_Of : FnIs Try.prog F.place_Of X.place_Of 33 [.tmp 6, .tmp 7] := ⟨by kernel_rfl⟩

/-- haycroft/place.First: function 82 -/
abbrev F.place_First : FuncId := 82
def X.place_First : X :=
  .seq (.ops [⟨(some 4), none, .mv (.const (Go.Value.int Go.IntKind.u64 0))⟩])
  (.seq (.ops [⟨(some 8), none, .mv (.tmp 0)⟩,
    ⟨(some 9), none, .mv (.tmp 1)⟩,
    ⟨(some 10), none, .call 100 [(.tmp 8), (.tmp 9), (.const (Go.Value.int Go.IntKind.i64 0))]⟩,
    ⟨(some 7), none, .mv (.tmp 10)⟩,
    ⟨(some 11), none, .ext (.tmp 7) 0⟩,
    ⟨(some 12), none, .ext (.tmp 7) 1⟩,
    ⟨(some 5), none, .mv (.tmp 11)⟩,
    ⟨(some 6), none, .mv (.tmp 12)⟩])
  (.seq (.ops [⟨(some 13), none, .mv (.tmp 5)⟩,
    ⟨(some 4), none, .mv (.tmp 13)⟩])
  (.ret)))
theorem is_place_First : FnIs Try.prog F.place_First X.place_First 14 [.tmp 4] := ⟨by kernel_rfl⟩

/-- (*haycroft/tail.Tail).Take: function 45 -/
abbrev F.tail_Tail_Take : FuncId := 45
def X.tail_Tail_Take : X :=
  .seq (.ops [⟨(some 4), none, .mv (.const (Go.Value.int Go.IntKind.u64 0))⟩,
    ⟨(some 5), none, .mv (.const (Go.Value.int Go.IntKind.i64 0))⟩,
    ⟨(some 6), none, .mv (.const (Go.Value.int Go.IntKind.i64 0))⟩])
  (.seq (.block 0 (.seq (.ops [⟨(some 11), none, .mv (.tmp 0)⟩,
      ⟨(some 12), none, .eq false .ptr (.tmp 11) (.const (Go.Value.pointer none))⟩,
      ⟨(some 10), none, .mv (.tmp 12)⟩])
    (.cond (.tmp 10)
      (.seq (.ops [⟨(some 4), none, .mv (.const (Go.Value.int Go.IntKind.u64 0))⟩,
        ⟨(some 5), none, .mv (.const (Go.Value.int Go.IntKind.i64 0))⟩,
        ⟨(some 6), none, .mv (.const (Go.Value.int Go.IntKind.i64 2))⟩])
      (.ret))
      (.seq (.ops [⟨(some 14), none, .mv (.tmp 1)⟩,
        ⟨(some 15), none, .bin .lss 3 (.tmp 14) (.const (Go.Value.int Go.IntKind.i64 1))⟩,
        ⟨(some 13), none, .mv (.tmp 15)⟩])
      (.cond (.tmp 13)
        (.seq (.ops [⟨(some 4), none, .mv (.const (Go.Value.int Go.IntKind.u64 0))⟩,
          ⟨(some 5), none, .mv (.const (Go.Value.int Go.IntKind.i64 0))⟩,
          ⟨(some 6), none, .mv (.const (Go.Value.int Go.IntKind.i64 1))⟩])
        (.ret))
        (.seq (.ops [⟨(some 17), none, .mv (.tmp 1)⟩,
          ⟨(some 18), none, .mv (.tmp 0)⟩,
          ⟨(some 19), none, .call 79 [(.tmp 18)]⟩,
          ⟨(some 20), none, .bin .gtr 3 (.tmp 17) (.tmp 19)⟩,
          ⟨(some 16), none, .mv (.tmp 20)⟩])
        (.cond (.tmp 16)
          (.seq (.ops [⟨(some 4), none, .mv (.const (Go.Value.int Go.IntKind.u64 0))⟩,
            ⟨(some 5), none, .mv (.const (Go.Value.int Go.IntKind.i64 0))⟩,
            ⟨(some 6), none, .mv (.const (Go.Value.int Go.IntKind.i64 5))⟩])
          (.ret))
          (.seq (.ops [⟨(some 22), none, .mv (.tmp 0)⟩,
            ⟨(some 23), none, .call 55 [(.tmp 22)]⟩,
            ⟨(some 21), none, .mv (.tmp 23)⟩])
          (.cond (.tmp 21)
            (.seq (.ops [⟨(some 24), none, .mv (.tmp 0)⟩,
              ⟨(some 25), none, .call 80 [(.tmp 24), (.const (Go.Value.int Go.IntKind.i64 3))]⟩,
              ⟨(some 4), none, .mv (.const (Go.Value.int Go.IntKind.u64 0))⟩,
              ⟨(some 5), none, .mv (.tmp 25)⟩,
              ⟨(some 6), none, .mv (.const (Go.Value.int Go.IntKind.i64 0))⟩])
            (.ret))
            (.skip))))))))))
  (.seq (.ops [⟨(some 27), none, .mv (.tmp 0)⟩,
    ⟨(some 28), none, .nilc (.tmp 27)⟩,
    ⟨(some 29), none, .fld (.tmp 28) 2⟩,
    ⟨(some 30), none, .ld (.tmp 29) none⟩,
    ⟨(some 31), none, .mv (.tmp 1)⟩,
    ⟨(some 32), none, .conv Go.IntKind.u64 (.tmp 31)⟩,
    ⟨(some 33), none, .call 64 [(.tmp 30), (.const (Go.Value.int Go.IntKind.i64 0)), (.tmp 32)]⟩,
    ⟨(some 26), none, .mv (.tmp 33)⟩,
    ⟨(some 34), none, .ext (.tmp 26) 0⟩,
    ⟨(some 35), none, .ext (.tmp 26) 1⟩,
    ⟨(some 7), none, .mv (.tmp 34)⟩,
    ⟨(some 8), none, .mv (.tmp 35)⟩])
  (.seq (.seq (.ops [⟨(some 36), none, .mv (.tmp 8)⟩,
    ⟨(some 37), none, .bin .neq 28 (.tmp 36) (.const (Go.Value.int Go.IntKind.i64 0))⟩])
  (.cond (.tmp 37)
    (.seq (.ops [⟨(some 38), none, .mv (.tmp 8)⟩,
      ⟨(some 4), none, .mv (.const (Go.Value.int Go.IntKind.u64 0))⟩,
      ⟨(some 5), none, .mv (.const (Go.Value.int Go.IntKind.i64 0))⟩,
      ⟨(some 6), none, .mv (.tmp 38)⟩])
    (.ret))
    (.skip)))
  (.seq (.ops [⟨(some 39), none, .mv (.tmp 7)⟩,
    ⟨(some 40), none, .call 81 [(.const (Go.Value.int Go.IntKind.i64 32))]⟩,
    ⟨(some 41), none, .bin .and 36 (.tmp 39) (.tmp 40)⟩,
    ⟨(some 42), none, .conv Go.IntKind.i64 (.tmp 41)⟩,
    ⟨(some 9), none, .mv (.tmp 42)⟩])
  (.seq (.seq (.ops [⟨(some 43), none, .mv (.tmp 9)⟩,
    ⟨(some 44), none, .mv (.tmp 1)⟩,
    ⟨(some 45), none, .bin .add 3 (.tmp 43) (.tmp 44)⟩,
    ⟨(some 46), none, .mv (.tmp 0)⟩,
    ⟨(some 47), none, .call 79 [(.tmp 46)]⟩,
    ⟨(some 48), none, .bin .gtr 3 (.tmp 45) (.tmp 47)⟩])
  (.cond (.tmp 48)
    (.seq (.ops [⟨(some 49), none, .mv (.tmp 0)⟩,
      ⟨(some 50), none, .call 80 [(.tmp 49), (.const (Go.Value.int Go.IntKind.i64 2))]⟩,
      ⟨(some 4), none, .mv (.const (Go.Value.int Go.IntKind.u64 0))⟩,
      ⟨(some 5), none, .mv (.tmp 50)⟩,
      ⟨(some 6), none, .mv (.const (Go.Value.int Go.IntKind.i64 0))⟩])
    (.ret))
    (.skip)))
  (.seq (.ops [⟨(some 51), none, .mv (.tmp 0)⟩,
    ⟨(some 52), none, .nilc (.tmp 51)⟩,
    ⟨(some 53), none, .fld (.tmp 52) 0⟩,
    ⟨(some 54), none, .ld (.tmp 53) none⟩,
    ⟨(some 55), none, .mv (.tmp 7)⟩,
    ⟨(some 56), none, .bin .shr 36 (.tmp 55) (.const (Go.Value.int Go.IntKind.u64 32))⟩,
    ⟨(some 57), none, .conv Go.IntKind.i64 (.tmp 56)⟩,
    ⟨(some 58), none, .call 82 [(.tmp 54), (.tmp 57)]⟩,
    ⟨(some 59), none, .mv (.tmp 9)⟩,
    ⟨(some 60), none, .conv Go.IntKind.u64 (.tmp 59)⟩,
    ⟨(some 61), none, .bin .add 36 (.tmp 58) (.tmp 60)⟩,
    ⟨(some 4), none, .mv (.tmp 61)⟩,
    ⟨(some 5), none, .mv (.const (Go.Value.int Go.IntKind.i64 1))⟩,
    ⟨(some 6), none, .mv (.const (Go.Value.int Go.IntKind.i64 0))⟩])
  (.ret)))))))
theorem is_tail_Tail_Take : FnIs Try.prog F.tail_Tail_Take X.tail_Tail_Take 62 [.tmp 4, .tmp 5, .tmp 6] := ⟨by kernel_rfl⟩

/-- (*haycroft/tail.Tail).next: function 83 -/
abbrev F.tail_Tail_next : FuncId := 83
def X.tail_Tail_next : X :=
  .seq (.ops [⟨(some 2), none, .mv (.const (Go.Value.int Go.IntKind.i64 0))⟩])
  (.seq (.seq (.ops [⟨(some 3), none, .mv (.tmp 0)⟩,
    ⟨(some 4), none, .call 57 [(.tmp 3)]⟩])
  (.cond (.tmp 4)
    (.seq (.ops [⟨(some 2), none, .mv (.const (Go.Value.int Go.IntKind.i64 9))⟩])
    (.ret))
    (.skip)))
  (.seq (.drawn [(0, ⟨(some 5), none, .mv (.tmp 0)⟩),
    (1, ⟨(some 6), none, .nilc (.tmp 5)⟩),
    (2, ⟨(some 7), none, .fld (.tmp 6) 2⟩),
    (3, ⟨(some 8), none, .ld (.tmp 7) none⟩),
    (4, ⟨(some 9), none, .mv (.tmp 0)⟩),
    (5, ⟨(some 10), none, .call 53 [(.tmp 9)]⟩),
    (6, ⟨(some 11), none, .bin .add 3 (.tmp 10) (.const (Go.Value.int Go.IntKind.i64 1))⟩),
    (7, ⟨(some 12), none, .call 84 [(.tmp 11), (.const (Go.Value.int Go.IntKind.i64 0))]⟩),
    (8, ⟨(some 13), none, .call 63 [(.tmp 8), (.const (Go.Value.int Go.IntKind.i64 0)), (.tmp 12)]⟩),
    (9, ⟨(some 2), none, .mv (.tmp 13)⟩)]
    [[], [0], [1], [2], [], [4], [5], [6, 5], [3, 7, 7], [8, 8, 0, 1, 2, 3, 4, 5, 6, 7, 8]]
    [0, 1, 3, 7, 0, 16, 48, 112, 255, 511] 416)
  (.ret)))
theorem is_tail_Tail_next : FnIs Try.prog F.tail_Tail_next X.tail_Tail_next 14 [.tmp 2] := ⟨by kernel_rfl⟩

/-- (*haycroft/tail.Tail).Turn: function 47 -/
abbrev F.tail_Tail_Turn : FuncId := 47
def X.tail_Tail_Turn : X :=
  .seq (.ops [⟨(some 2), none, .mv (.const (Go.Value.int Go.IntKind.i64 0))⟩])
  (.seq (.block 0 (.seq (.ops [⟨(some 4), none, .mv (.tmp 0)⟩,
      ⟨(some 5), none, .eq false .ptr (.tmp 4) (.const (Go.Value.pointer none))⟩,
      ⟨(some 3), none, .mv (.tmp 5)⟩])
    (.cond (.tmp 3)
      (.seq (.ops [⟨(some 2), none, .mv (.const (Go.Value.int Go.IntKind.i64 2))⟩])
      (.ret))
      (.seq (.ops [⟨(some 7), none, .mv (.tmp 0)⟩,
        ⟨(some 8), none, .call 55 [(.tmp 7)]⟩,
        ⟨(some 9), none, .un .not (.tmp 8)⟩,
        ⟨(some 6), none, .mv (.tmp 9)⟩])
      (.cond (.tmp 6)
        (.seq (.ops [⟨(some 2), none, .mv (.const (Go.Value.int Go.IntKind.i64 7))⟩])
        (.ret))
        (.skip))))))
  (.seq (.ops [⟨(some 10), none, .mv (.tmp 0)⟩,
    ⟨(some 11), none, .call 83 [(.tmp 10)]⟩,
    ⟨(some 2), none, .mv (.tmp 11)⟩])
  (.ret)))
theorem is_tail_Tail_Turn : FnIs Try.prog F.tail_Tail_Turn X.tail_Tail_Turn 12 [.tmp 2] := ⟨by kernel_rfl⟩

/-- haycroft/haycroftlaw14.awake: function 42 -/
abbrev F.law14_awake : FuncId := 42
def X.law14_awake : X :=
  .seq (.ops [⟨(some 0), none, .mv (.const (Go.Value.bool false))⟩])
  (.seq (.ops [⟨(some 17), none, .call 43 [(.const (Go.Value.int Go.IntKind.i64 5)), (.const (Go.Value.int Go.IntKind.i64 2))]⟩,
    ⟨(some 16), none, .mv (.tmp 17)⟩,
    ⟨(some 18), none, .ext (.tmp 16) 0⟩,
    ⟨(some 19), none, .ext (.tmp 16) 1⟩,
    ⟨(some 1), none, .mv (.tmp 18)⟩,
    ⟨(some 2), none, .mv (.tmp 19)⟩])
  (.seq (.ops [⟨(some 21), none, .mv (.tmp 1)⟩,
    ⟨(some 22), none, .call 45 [(.tmp 21), (.const (Go.Value.int Go.IntKind.i64 30))]⟩,
    ⟨(some 20), none, .mv (.tmp 22)⟩,
    ⟨(some 23), none, .ext (.tmp 20) 0⟩,
    ⟨(some 24), none, .ext (.tmp 20) 1⟩,
    ⟨(some 25), none, .ext (.tmp 20) 2⟩,
    ⟨(some 3), none, .mv (.tmp 23)⟩,
    ⟨(some 4), none, .mv (.tmp 24)⟩,
    ⟨(some 5), none, .mv (.tmp 25)⟩])
  (.seq (.ops [⟨(some 27), none, .mv (.tmp 1)⟩,
    ⟨(some 28), none, .call 45 [(.tmp 27), (.const (Go.Value.int Go.IntKind.i64 2))]⟩,
    ⟨(some 26), none, .mv (.tmp 28)⟩,
    ⟨(some 29), none, .ext (.tmp 26) 0⟩,
    ⟨(some 30), none, .ext (.tmp 26) 1⟩,
    ⟨(some 31), none, .ext (.tmp 26) 2⟩,
    ⟨(some 6), none, .mv (.tmp 29)⟩,
    ⟨(some 7), none, .mv (.tmp 30)⟩,
    ⟨(some 8), none, .mv (.tmp 31)⟩])
  (.seq (.ops [⟨(some 33), none, .mv (.tmp 1)⟩,
    ⟨(some 34), none, .call 45 [(.tmp 33), (.const (Go.Value.int Go.IntKind.i64 1))]⟩,
    ⟨(some 32), none, .mv (.tmp 34)⟩,
    ⟨(some 35), none, .ext (.tmp 32) 0⟩,
    ⟨(some 36), none, .ext (.tmp 32) 1⟩,
    ⟨(some 37), none, .ext (.tmp 32) 2⟩,
    ⟨(some 9), none, .mv (.tmp 35)⟩,
    ⟨(some 10), none, .mv (.tmp 36)⟩,
    ⟨(some 11), none, .mv (.tmp 37)⟩])
  (.seq (.ops [⟨(some 38), none, .mv (.tmp 1)⟩,
    ⟨(some 39), none, .call 47 [(.tmp 38)]⟩,
    ⟨(some 12), none, .mv (.tmp 39)⟩])
  (.seq (.ops [⟨(some 41), none, .mv (.tmp 1)⟩,
    ⟨(some 42), none, .call 45 [(.tmp 41), (.const (Go.Value.int Go.IntKind.i64 2))]⟩,
    ⟨(some 40), none, .mv (.tmp 42)⟩,
    ⟨(some 43), none, .ext (.tmp 40) 0⟩,
    ⟨(some 44), none, .ext (.tmp 40) 1⟩,
    ⟨(some 45), none, .ext (.tmp 40) 2⟩,
    ⟨(some 13), none, .mv (.tmp 43)⟩,
    ⟨(some 14), none, .mv (.tmp 44)⟩,
    ⟨(some 15), none, .mv (.tmp 45)⟩])
  (.seq (.ops [⟨(some 46), none, .mv (.tmp 2)⟩,
    ⟨(some 47), none, .bin .eql 28 (.tmp 46) (.const (Go.Value.int Go.IntKind.i64 0))⟩,
    ⟨(some 48), none, .mv (.tmp 47)⟩,
    ⟨(some 49), (some (48, true)), .mv (.tmp 3)⟩,
    ⟨(some 50), (some (48, true)), .bin .eql 36 (.tmp 49) (.const (Go.Value.int Go.IntKind.u64 1))⟩,
    ⟨(some 51), none, .pick (.tmp 48) (.tmp 50) (.const (Go.Value.bool false))⟩,
    ⟨(some 52), none, .mv (.tmp 51)⟩,
    ⟨(some 53), (some (52, true)), .mv (.tmp 4)⟩,
    ⟨(some 54), (some (52, true)), .bin .eql 3 (.tmp 53) (.const (Go.Value.int Go.IntKind.i64 1))⟩,
    ⟨(some 55), none, .pick (.tmp 52) (.tmp 54) (.const (Go.Value.bool false))⟩,
    ⟨(some 56), none, .mv (.tmp 55)⟩,
    ⟨(some 57), (some (56, true)), .mv (.tmp 5)⟩,
    ⟨(some 58), (some (56, true)), .bin .eql 28 (.tmp 57) (.const (Go.Value.int Go.IntKind.i64 0))⟩,
    ⟨(some 59), none, .pick (.tmp 56) (.tmp 58) (.const (Go.Value.bool false))⟩,
    ⟨(some 60), none, .mv (.tmp 59)⟩,
    ⟨(some 61), (some (60, true)), .mv (.tmp 7)⟩,
    ⟨(some 62), (some (60, true)), .bin .eql 3 (.tmp 61) (.const (Go.Value.int Go.IntKind.i64 2))⟩,
    ⟨(some 63), none, .pick (.tmp 60) (.tmp 62) (.const (Go.Value.bool false))⟩,
    ⟨(some 64), none, .mv (.tmp 63)⟩,
    ⟨(some 65), (some (64, true)), .mv (.tmp 8)⟩,
    ⟨(some 66), (some (64, true)), .bin .eql 28 (.tmp 65) (.const (Go.Value.int Go.IntKind.i64 0))⟩,
    ⟨(some 67), none, .pick (.tmp 64) (.tmp 66) (.const (Go.Value.bool false))⟩,
    ⟨(some 68), none, .mv (.tmp 67)⟩,
    ⟨(some 69), (some (68, true)), .mv (.tmp 10)⟩,
    ⟨(some 70), (some (68, true)), .bin .eql 3 (.tmp 69) (.const (Go.Value.int Go.IntKind.i64 3))⟩,
    ⟨(some 71), none, .pick (.tmp 68) (.tmp 70) (.const (Go.Value.bool false))⟩,
    ⟨(some 72), none, .mv (.tmp 71)⟩,
    ⟨(some 73), (some (72, true)), .mv (.tmp 11)⟩,
    ⟨(some 74), (some (72, true)), .bin .eql 28 (.tmp 73) (.const (Go.Value.int Go.IntKind.i64 0))⟩,
    ⟨(some 75), none, .pick (.tmp 72) (.tmp 74) (.const (Go.Value.bool false))⟩,
    ⟨(some 76), none, .mv (.tmp 75)⟩,
    ⟨(some 77), (some (76, true)), .mv (.tmp 12)⟩,
    ⟨(some 78), (some (76, true)), .bin .eql 28 (.tmp 77) (.const (Go.Value.int Go.IntKind.i64 0))⟩,
    ⟨(some 79), none, .pick (.tmp 76) (.tmp 78) (.const (Go.Value.bool false))⟩,
    ⟨(some 80), none, .mv (.tmp 79)⟩,
    ⟨(some 81), (some (80, true)), .mv (.tmp 13)⟩,
    ⟨(some 82), (some (80, true)), .bin .eql 36 (.tmp 81) (.const (Go.Value.int Go.IntKind.u64 32))⟩,
    ⟨(some 83), none, .pick (.tmp 80) (.tmp 82) (.const (Go.Value.bool false))⟩,
    ⟨(some 84), none, .mv (.tmp 83)⟩,
    ⟨(some 85), (some (84, true)), .mv (.tmp 14)⟩,
    ⟨(some 86), (some (84, true)), .bin .eql 3 (.tmp 85) (.const (Go.Value.int Go.IntKind.i64 1))⟩,
    ⟨(some 87), none, .pick (.tmp 84) (.tmp 86) (.const (Go.Value.bool false))⟩,
    ⟨(some 88), none, .mv (.tmp 87)⟩,
    ⟨(some 89), (some (88, true)), .mv (.tmp 15)⟩,
    ⟨(some 90), (some (88, true)), .bin .eql 28 (.tmp 89) (.const (Go.Value.int Go.IntKind.i64 0))⟩,
    ⟨(some 91), none, .pick (.tmp 88) (.tmp 90) (.const (Go.Value.bool false))⟩,
    ⟨(some 0), none, .mv (.tmp 91)⟩])
  (.ret))))))))
theorem is_law14_awake : FnIs Try.prog F.law14_awake X.law14_awake 92 [.tmp 0] := ⟨by kernel_rfl⟩

/-- haycroft/haycroftref02.Size: function 78 -/
abbrev F.ref02_Size : FuncId := 78
def X.ref02_Size : X :=
  .seq (.ops [⟨(some 2), none, .mv (.const (Go.Value.int Go.IntKind.i64 0))⟩])
  (.seq (.seq (.ops [⟨(some 3), none, .mv (.tmp 0)⟩])
  (.block 0 (.seq (.ops [⟨(some 5), none, .bin .eql 3 (.tmp 3) (.const (Go.Value.int Go.IntKind.i64 5))⟩,
      ⟨(some 4), none, .mv (.tmp 5)⟩])
    (.cond (.tmp 4)
      (.seq (.ops [⟨(some 2), none, .mv (.const (Go.Value.int Go.IntKind.i64 32))⟩])
      (.ret))
      (.seq (.ops [⟨(some 7), none, .bin .eql 3 (.tmp 3) (.const (Go.Value.int Go.IntKind.i64 6))⟩,
        ⟨(some 6), none, .mv (.tmp 7)⟩])
      (.cond (.tmp 6)
        (.seq (.ops [⟨(some 2), none, .mv (.const (Go.Value.int Go.IntKind.i64 64))⟩])
        (.ret))
        (.seq (.ops [⟨(some 9), none, .bin .eql 3 (.tmp 3) (.const (Go.Value.int Go.IntKind.i64 7))⟩,
          ⟨(some 8), none, .mv (.tmp 9)⟩])
        (.cond (.tmp 8)
          (.seq (.ops [⟨(some 2), none, .mv (.const (Go.Value.int Go.IntKind.i64 128))⟩])
          (.ret))
          (.seq (.ops [⟨(some 11), none, .bin .eql 3 (.tmp 3) (.const (Go.Value.int Go.IntKind.i64 8))⟩,
            ⟨(some 10), none, .mv (.tmp 11)⟩])
          (.cond (.tmp 10)
            (.seq (.ops [⟨(some 2), none, .mv (.const (Go.Value.int Go.IntKind.i64 256))⟩])
            (.ret))
            (.seq (.ops [⟨(some 13), none, .bin .eql 3 (.tmp 3) (.const (Go.Value.int Go.IntKind.i64 9))⟩,
              ⟨(some 12), none, .mv (.tmp 13)⟩])
            (.cond (.tmp 12)
              (.seq (.ops [⟨(some 2), none, .mv (.const (Go.Value.int Go.IntKind.i64 512))⟩])
              (.ret))
              (.skip)))))))))))))
  (.seq (.ops [⟨(some 2), none, .mv (.const (Go.Value.int Go.IntKind.i64 0))⟩])
  (.ret)))
theorem is_ref02_Size : FnIs Try.prog F.ref02_Size X.ref02_Size 14 [.tmp 2] := ⟨by kernel_rfl⟩

/-- haycroft/haycroftref14.New: function 44 -/
abbrev F.ref14_New : FuncId := 44
def X.ref14_New : X :=
  .seq (.ops [⟨(some 4), none, .mv (.const (Go.Value.pointer none))⟩,
    ⟨(some 5), none, .mv (.const (Go.Value.int Go.IntKind.i64 0))⟩])
  (.seq (.ops [⟨(some 7), none, .mv (.tmp 0)⟩,
    ⟨(some 8), none, .call 78 [(.tmp 7)]⟩,
    ⟨(some 6), none, .mv (.tmp 8)⟩])
  (.seq (.seq (.ops [⟨(some 9), none, .mv (.tmp 6)⟩,
    ⟨(some 10), none, .bin .eql 3 (.tmp 9) (.const (Go.Value.int Go.IntKind.i64 0))⟩,
    ⟨(some 11), none, .mv (.tmp 10)⟩,
    ⟨(some 12), (some (11, false)), .mv (.tmp 1)⟩,
    ⟨(some 13), (some (11, false)), .bin .lss 3 (.tmp 12) (.const (Go.Value.int Go.IntKind.i64 1))⟩,
    ⟨(some 14), none, .pick (.tmp 11) (.const (Go.Value.bool true)) (.tmp 13)⟩,
    ⟨(some 15), none, .mv (.tmp 14)⟩,
    ⟨(some 16), (some (15, false)), .mv (.tmp 1)⟩,
    ⟨(some 17), (some (15, false)), .bin .gtr 3 (.tmp 16) (.const (Go.Value.int Go.IntKind.i64 64))⟩,
    ⟨(some 18), none, .pick (.tmp 15) (.const (Go.Value.bool true)) (.tmp 17)⟩])
  (.cond (.tmp 18)
    (.seq (.ops [⟨(some 4), none, .mv (.const (Go.Value.pointer none))⟩,
      ⟨(some 5), none, .mv (.const (Go.Value.int Go.IntKind.i64 1))⟩])
    (.ret))
    (.skip)))
  (.seq (.ops [⟨(some 19), none, .mv (.tmp 6)⟩,
    ⟨(some 20), none, .mv (.tmp 1)⟩,
    ⟨(some 21), none, .bld [(Go.Value.int Go.IntKind.i64 0), (Go.Value.int Go.IntKind.i64 0), (Go.Value.int Go.IntKind.i64 0), (Go.Value.int Go.IntKind.i64 0)] [(0, 1, (.tmp 19)), (1, 1, (.tmp 20)), (3, 1, (.const (Go.Value.int Go.IntKind.i64 1)))]⟩,
    ⟨(some 22), none, .box 82 (.tmp 21)⟩,
    ⟨(some 4), none, .mv (.tmp 22)⟩,
    ⟨(some 5), none, .mv (.const (Go.Value.int Go.IntKind.i64 0))⟩])
  (.ret))))
theorem is_ref14_New : FnIs Try.prog F.ref14_New X.ref14_New 23 [.tmp 4, .tmp 5] := ⟨by kernel_rfl⟩

/-- (*haycroft/haycroftref14.Tail).Last: function 58 -/
abbrev F.ref14_Tail_Last : FuncId := 58
def X.ref14_Tail_Last : X :=
  .seq (.ops [⟨(some 2), none, .mv (.const (Go.Value.bool false))⟩])
  (.seq (.drawn [(0, ⟨(some 3), none, .mv (.tmp 0)⟩),
    (1, ⟨(some 4), none, .nilc (.tmp 3)⟩),
    (2, ⟨(some 5), none, .fld (.tmp 4) 2⟩),
    (3, ⟨(some 6), none, .ld (.tmp 5) none⟩),
    (4, ⟨(some 7), none, .bin .add 3 (.tmp 6) (.const (Go.Value.int Go.IntKind.i64 1))⟩),
    (5, ⟨(some 8), none, .mv (.tmp 0)⟩),
    (6, ⟨(some 9), none, .nilc (.tmp 8)⟩),
    (7, ⟨(some 10), none, .fld (.tmp 9) 1⟩),
    (8, ⟨(some 11), none, .ld (.tmp 10) none⟩),
    (9, ⟨(some 12), none, .bin .geq 3 (.tmp 7) (.tmp 11)⟩),
    (10, ⟨(some 2), none, .mv (.tmp 12)⟩)]
    [[], [0], [1], [2], [3], [], [5], [6], [7], [4, 8], [9, 0, 1, 2, 3, 4, 5, 6, 7, 8, 9]]
    [0, 1, 3, 7, 15, 0, 32, 96, 224, 511, 1023] 0)
  (.ret))
theorem is_ref14_Tail_Last : FnIs Try.prog F.ref14_Tail_Last X.ref14_Tail_Last 13 [.tmp 2] := ⟨by kernel_rfl⟩

end Go.Proofs.Ytdefhoaaeofapaa
