import Derived.Test.YtjlpjhbmfakpjaaProg
import Derived.Test.YtjlpjhbmfakpjaaHxO
import Derived.KernelRfl
namespace Go.Proofs.Ytjlpjhbmfakpjaa
open Go Go.HX
abbrev T.int64 : TypeId := 2
abbrev T.int : TypeId := 3
abbrev T.bool : TypeId := 4
abbrev T.uint8 : TypeId := 5
abbrev T.abi_BoundsErrorCode : TypeId := 6
abbrev T.string : TypeId := 9
abbrev T.uintptr : TypeId := 12
abbrev T.ptr_abi_Type : TypeId := 17
abbrev T.maps_unhashableTypeError : TypeId := 19
abbrev T.interface : TypeId := 20
abbrev T.int32 : TypeId := 21
abbrev T.uint64 : TypeId := 22
abbrev T.api_Errno : TypeId := 24
abbrev T.uint64_api_Errno : TypeId := 25
abbrev T.slice_api_Action : TypeId := 37
abbrev T.slice_uint8 : TypeId := 38
abbrev T.ptr_drain_List : TypeId := 39
abbrev T.api_Action : TypeId := 43
abbrev T.slice_int : TypeId := 49
abbrev T.slice_uint64 : TypeId := 53
abbrev T.string_api_Errno : TypeId := 55
abbrev T.slice_haycroftlaw07_Act : TypeId := 61
abbrev T.ptr_haycroftref07_List : TypeId := 62
abbrev T.slice_bool : TypeId := 63
abbrev T.haycroftref07_List : TypeId := 65
abbrev T.haycroftlaw07_Act : TypeId := 67
abbrev T.slice_uint64_api_Errno : TypeId := 77
abbrev T.drain_List : TypeId := 83
abbrev T.uint32 : TypeId := 91
abbrev T.abi_TFlag : TypeId := 92
abbrev T.abi_Kind : TypeId := 93
abbrev T.ptr_uint8 : TypeId := 95
abbrev T.abi_NameOff : TypeId := 96
abbrev T.abi_TypeOff : TypeId := 97
abbrev T.abi_Type : TypeId := 99
abbrev T.unsafe_Pointer : TypeId := 100
/-- haycroft/field.Right: function 17 -/
abbrev F.field_Right : FuncId := 17
def X.field_Right : X :=
  .seq (.ops [⟨(some 4), none, .mv (.const (Go.Value.bool false))⟩])
  (.seq (.ops [⟨(some 5), none, .mv (.tmp 0)⟩,
    ⟨(some 6), none, .bin .geq 3 (.tmp 5) (.const (Go.Value.int Go.IntKind.i64 0))⟩,
    ⟨(some 7), none, .mv (.tmp 6)⟩,
    ⟨(some 8), (some (7, true)), .mv (.tmp 0)⟩,
    ⟨(some 9), (some (7, true)), .bin .lss 3 (.tmp 8) (.const (Go.Value.int Go.IntKind.i64 64))⟩,
    ⟨(some 10), none, .pick (.tmp 7) (.tmp 9) (.const (Go.Value.bool false))⟩,
    ⟨(some 11), none, .mv (.tmp 10)⟩,
    ⟨(some 12), (some (11, true)), .mv (.tmp 1)⟩,
    ⟨(some 13), (some (11, true)), .bin .geq 3 (.tmp 12) (.const (Go.Value.int Go.IntKind.i64 1))⟩,
    ⟨(some 14), none, .pick (.tmp 11) (.tmp 13) (.const (Go.Value.bool false))⟩,
    ⟨(some 15), none, .mv (.tmp 14)⟩,
    ⟨(some 16), (some (15, true)), .mv (.tmp 1)⟩,
    ⟨(some 17), (some (15, true)), .mv (.tmp 0)⟩,
    ⟨(some 18), (some (15, true)), .bin .sub 3 (.const (Go.Value.int Go.IntKind.i64 64)) (.tmp 17)⟩,
    ⟨(some 19), (some (15, true)), .bin .leq 3 (.tmp 16) (.tmp 18)⟩,
    ⟨(some 20), none, .pick (.tmp 15) (.tmp 19) (.const (Go.Value.bool false))⟩,
    ⟨(some 4), none, .mv (.tmp 20)⟩])
  (.ret))
theorem is_field_Right : FnIs Try.prog F.field_Right X.field_Right 21 [.tmp 4] := ⟨by kernel_rfl⟩

/-- haycroft/field.Most: function 19 -/
abbrev F.field_Most : FuncId := 19
def X.field_Most : X :=
  .seq (.ops [⟨(some 2), none, .mv (.const (Go.Value.int Go.IntKind.u64 0))⟩])
  (.seq (.block 0 (.seq (.ops [⟨(some 4), none, .mv (.tmp 0)⟩,
      ⟨(some 5), none, .bin .lss 3 (.tmp 4) (.const (Go.Value.int Go.IntKind.i64 1))⟩,
      ⟨(some 3), none, .mv (.tmp 5)⟩])
    (.cond (.tmp 3)
      (.seq (.ops [⟨(some 2), none, .mv (.const (Go.Value.int Go.IntKind.u64 0))⟩])
      (.ret))
      (.seq (.ops [⟨(some 7), none, .mv (.tmp 0)⟩,
        ⟨(some 8), none, .bin .geq 3 (.tmp 7) (.const (Go.Value.int Go.IntKind.i64 64))⟩,
        ⟨(some 6), none, .mv (.tmp 8)⟩])
      (.cond (.tmp 6)
        (.seq (.ops [⟨(some 2), none, .mv (.const (Go.Value.int Go.IntKind.u64 18446744073709551615))⟩])
        (.ret))
        (.skip))))))
  (.seq (.ops [⟨(some 9), none, .mv (.tmp 0)⟩,
    ⟨(some 10), none, .bin .shl 22 (.const (Go.Value.int Go.IntKind.u64 1)) (.tmp 9)⟩,
    ⟨(some 11), none, .bin .sub 22 (.tmp 10) (.const (Go.Value.int Go.IntKind.u64 1))⟩,
    ⟨(some 2), none, .mv (.tmp 11)⟩])
  (.ret)))
theorem is_field_Most : FnIs Try.prog F.field_Most X.field_Most 12 [.tmp 2] := ⟨by kernel_rfl⟩

/-- haycroft/field.Put: function 15 -/
abbrev F.field_Put : FuncId := 15
def X.field_Put : X :=
  .seq (.ops [⟨(some 8), none, .mv (.const (Go.Value.int Go.IntKind.u64 0))⟩,
    ⟨(some 9), none, .mv (.const (Go.Value.int Go.IntKind.i64 0))⟩])
  (.seq (.block 0 (.seq (.ops [⟨(some 11), none, .mv (.tmp 1)⟩,
      ⟨(some 12), none, .mv (.tmp 2)⟩,
      ⟨(some 13), none, .call 17 [(.tmp 11), (.tmp 12)]⟩,
      ⟨(some 14), none, .un .not (.tmp 13)⟩,
      ⟨(some 10), none, .mv (.tmp 14)⟩])
    (.cond (.tmp 10)
      (.seq (.ops [⟨(some 8), none, .mv (.const (Go.Value.int Go.IntKind.u64 0))⟩,
        ⟨(some 9), none, .mv (.const (Go.Value.int Go.IntKind.i64 1))⟩])
      (.ret))
      (.seq (.ops [⟨(some 16), none, .mv (.tmp 3)⟩,
        ⟨(some 17), none, .mv (.tmp 2)⟩,
        ⟨(some 18), none, .call 19 [(.tmp 17)]⟩,
        ⟨(some 19), none, .bin .gtr 22 (.tmp 16) (.tmp 18)⟩,
        ⟨(some 15), none, .mv (.tmp 19)⟩])
      (.cond (.tmp 15)
        (.seq (.ops [⟨(some 8), none, .mv (.const (Go.Value.int Go.IntKind.u64 0))⟩,
          ⟨(some 9), none, .mv (.const (Go.Value.int Go.IntKind.i64 13))⟩])
        (.ret))
        (.skip))))))
  (.seq (.drawn [(0, ⟨(some 20), none, .mv (.tmp 0)⟩),
    (1, ⟨(some 21), none, .mv (.tmp 2)⟩),
    (3, ⟨(some 23), none, .mv (.tmp 1)⟩),
    (6, ⟨(some 26), none, .mv (.tmp 3)⟩),
    (7, ⟨(some 27), none, .mv (.tmp 1)⟩),
    (8, ⟨(some 28), none, .bin .shl 22 (.tmp 26) (.tmp 27)⟩),
    (2, ⟨(some 22), none, .call 19 [(.tmp 21)]⟩),
    (4, ⟨(some 24), none, .bin .shl 22 (.tmp 22) (.tmp 23)⟩),
    (5, ⟨(some 25), none, .bin .andNot 22 (.tmp 20) (.tmp 24)⟩),
    (9, ⟨(some 29), none, .bin .or 22 (.tmp 25) (.tmp 28)⟩),
    (10, ⟨(some 8), none, .mv (.tmp 29)⟩),
    (11, ⟨(some 9), none, .mv (.const (Go.Value.int Go.IntKind.i64 0))⟩)]
    [[], [], [1], [], [2, 3], [0, 4], [], [], [6, 7], [5, 8], [9, 2, 0, 1, 2, 3, 4, 5, 6, 7, 8, 9], [10, 0, 1, 2, 3, 4, 5, 6, 7, 8, 9, 10]]
    [0, 0, 2, 0, 14, 31, 0, 0, 192, 511, 1023, 2047] 4)
  (.ret)))
theorem is_field_Put : FnIs Try.prog F.field_Put X.field_Put 30 [.tmp 8, .tmp 9] := ⟨by kernel_rfl⟩

-- loop (inner ones first): [0, 3, 12, 13]
/-- haycroft/field.Words: function 43 -/
abbrev F.field_Words : FuncId := 43
def X.field_Words : X :=
  .seq (.ops [⟨(some 2), none, .mv (.const (Go.Value.slice none 0 0))⟩])
  (.seq (.ops [⟨(some 5), none, .mv (.tmp 0)⟩,
    ⟨(some 6), none, .lenB (.tmp 5)⟩,
    ⟨(some 7), none, .bin .add 3 (.tmp 6) (.const (Go.Value.int Go.IntKind.i64 8))⟩,
    ⟨(some 8), none, .bin .sub 3 (.tmp 7) (.const (Go.Value.int Go.IntKind.i64 1))⟩,
    ⟨(some 9), none, .bin .quo 3 (.tmp 8) (.const (Go.Value.int Go.IntKind.i64 8))⟩,
    ⟨(some 10), none, .mks 22 1 8 [(Go.Value.int Go.IntKind.u64 0)] (.tmp 9) (.tmp 9)⟩,
    ⟨(some 3), none, .mv (.tmp 10)⟩])
  (.seq (.seq (.ops [⟨(some 11), none, .mv (.tmp 0)⟩,
    ⟨(some 12), none, .lenB (.tmp 11)⟩,
    ⟨(some 13), none, .mv (.const (Go.Value.int Go.IntKind.i64 0))⟩])
  (.block 0 (.loop (.seq (.ops [⟨(some 14), none, .bin .lss 3 (.tmp 13) (.tmp 12)⟩])
      (.seq (.cond (.tmp 14)
        (.skip)
        (.exit 0))
      (.seq (.block 1 (.seq (.ops [⟨(some 15), none, .mv (.tmp 13)⟩,
          ⟨(some 4), none, .mv (.tmp 15)⟩])
        (.drawn [(0, ⟨(some 16), none, .mv (.tmp 3)⟩),
          (1, ⟨(some 17), none, .mv (.tmp 4)⟩),
          (2, ⟨(some 18), none, .bin .quo 3 (.tmp 17) (.const (Go.Value.int Go.IntKind.i64 8))⟩),
          (3, ⟨(some 19), none, .idx (.tmp 16) (.tmp 18) 1⟩),
          (4, ⟨(some 20), none, .ld (.tmp 19) none⟩),
          (5, ⟨(some 21), none, .mv (.tmp 0)⟩),
          (6, ⟨(some 22), none, .mv (.tmp 4)⟩),
          (7, ⟨(some 23), none, .ixs (.tmp 21) (.tmp 22)⟩),
          (8, ⟨(some 24), none, .conv Go.IntKind.u64 (.tmp 23)⟩),
          (9, ⟨(some 25), none, .mv (.tmp 4)⟩),
          (10, ⟨(some 26), none, .bin .rem 3 (.tmp 25) (.const (Go.Value.int Go.IntKind.i64 8))⟩),
          (11, ⟨(some 27), none, .bin .mul 3 (.tmp 26) (.const (Go.Value.int Go.IntKind.i64 8))⟩),
          (12, ⟨(some 28), none, .bin .shl 22 (.tmp 24) (.tmp 27)⟩),
          (13, ⟨(some 29), none, .bin .or 22 (.tmp 20) (.tmp 28)⟩),
          (14, ⟨(some 30), none, .idx (.tmp 16) (.tmp 18) 1⟩),
          (15, ⟨none, none, .st (.tmp 30) (.tmp 29) 1⟩)]
          [[], [], [1], [0, 2], [3], [], [], [5, 6], [7], [], [9], [10], [8, 11], [4, 12], [0, 2, 0, 1, 2, 3, 4, 5, 6, 7, 8, 9, 10, 11, 12, 13], [14, 13, 0, 1, 2, 3, 4, 5, 6, 7, 8, 9, 10, 11, 12, 13]]
          [0, 0, 2, 7, 15, 0, 0, 96, 224, 0, 512, 1536, 4064, 8191, 16383, 32767] 32768)))
      (.ops [⟨(some 31), none, .bin .add 3 (.tmp 13) (.const (Go.Value.int Go.IntKind.i64 1))⟩,
        ⟨(some 13), none, .mv (.tmp 31)⟩])))))))
  (.seq (.ops [⟨(some 32), none, .mv (.tmp 3)⟩,
    ⟨(some 2), none, .mv (.tmp 32)⟩])
  (.ret))))
theorem is_field_Words : FnIs Try.prog F.field_Words X.field_Words 33 [.tmp 2] := ⟨by kernel_rfl⟩

/-- haycroft/haycroftlaw01.awake: function 14 -/
abbrev F.law01_awake : FuncId := 14
def X.law01_awake : X :=
  .seq (.ops [⟨(some 0), none, .mv (.const (Go.Value.bool false))⟩])
  (.seq (.ops [⟨(some 5), none, .call 15 [(.const (Go.Value.int Go.IntKind.u64 0)), (.const (Go.Value.int Go.IntKind.i64 4)), (.const (Go.Value.int Go.IntKind.i64 4)), (.const (Go.Value.int Go.IntKind.u64 15))]⟩,
    ⟨(some 4), none, .mv (.tmp 5)⟩,
    ⟨(some 6), none, .ext (.tmp 4) 0⟩,
    ⟨(some 7), none, .ext (.tmp 4) 1⟩,
    ⟨(some 1), none, .mv (.tmp 6)⟩,
    ⟨(some 2), none, .mv (.tmp 7)⟩])
  (.seq (.ops [⟨(some 8), none, .call 43 [(.const (Go.Value.string { data := #[97, 98, 99] }))]⟩,
    ⟨(some 3), none, .mv (.tmp 8)⟩])
  (.seq (.ops [⟨(some 9), none, .mv (.tmp 1)⟩,
    ⟨(some 10), none, .bin .eql 22 (.tmp 9) (.const (Go.Value.int Go.IntKind.u64 240))⟩,
    ⟨(some 11), none, .mv (.tmp 10)⟩,
    ⟨(some 12), (some (11, true)), .mv (.tmp 2)⟩,
    ⟨(some 13), (some (11, true)), .bin .eql 24 (.tmp 12) (.const (Go.Value.int Go.IntKind.i64 0))⟩,
    ⟨(some 14), none, .pick (.tmp 11) (.tmp 13) (.const (Go.Value.bool false))⟩,
    ⟨(some 15), none, .mv (.tmp 14)⟩,
    ⟨(some 16), (some (15, true)), .mv (.tmp 3)⟩,
    ⟨(some 17), (some (15, true)), .lenS (.tmp 16)⟩,
    ⟨(some 18), (some (15, true)), .bin .eql 3 (.tmp 17) (.const (Go.Value.int Go.IntKind.i64 1))⟩,
    ⟨(some 19), none, .pick (.tmp 15) (.tmp 18) (.const (Go.Value.bool false))⟩,
    ⟨(some 20), none, .mv (.tmp 19)⟩,
    ⟨(some 21), (some (20, true)), .mv (.tmp 3)⟩,
    ⟨(some 22), (some (20, true)), .idx (.tmp 21) (.const (Go.Value.int Go.IntKind.i64 0)) 1⟩,
    ⟨(some 23), (some (20, true)), .ld (.tmp 22) none⟩,
    ⟨(some 24), (some (20, true)), .bin .eql 22 (.tmp 23) (.const (Go.Value.int Go.IntKind.u64 6513249))⟩,
    ⟨(some 25), none, .pick (.tmp 20) (.tmp 24) (.const (Go.Value.bool false))⟩,
    ⟨(some 0), none, .mv (.tmp 25)⟩])
  (.ret))))
theorem is_law01_awake : FnIs Try.prog F.law01_awake X.law01_awake 26 [.tmp 0] := ⟨by kernel_rfl⟩

/-- haycroft/haycroftref01.Right: function 18 -/
abbrev F.ref01_Right : FuncId := 18
def X.ref01_Right : X :=
  .seq (.ops [⟨(some 4), none, .mv (.const (Go.Value.bool false))⟩])
  (.seq (.ops [⟨(some 5), none, .mv (.tmp 0)⟩,
    ⟨(some 6), none, .bin .geq 3 (.tmp 5) (.const (Go.Value.int Go.IntKind.i64 0))⟩,
    ⟨(some 7), none, .mv (.tmp 6)⟩,
    ⟨(some 8), (some (7, true)), .mv (.tmp 0)⟩,
    ⟨(some 9), (some (7, true)), .bin .leq 3 (.tmp 8) (.const (Go.Value.int Go.IntKind.i64 63))⟩,
    ⟨(some 10), none, .pick (.tmp 7) (.tmp 9) (.const (Go.Value.bool false))⟩,
    ⟨(some 11), none, .mv (.tmp 10)⟩,
    ⟨(some 12), (some (11, true)), .mv (.tmp 1)⟩,
    ⟨(some 13), (some (11, true)), .bin .geq 3 (.tmp 12) (.const (Go.Value.int Go.IntKind.i64 1))⟩,
    ⟨(some 14), none, .pick (.tmp 11) (.tmp 13) (.const (Go.Value.bool false))⟩,
    ⟨(some 15), none, .mv (.tmp 14)⟩,
    ⟨(some 16), (some (15, true)), .mv (.tmp 1)⟩,
    ⟨(some 17), (some (15, true)), .bin .leq 3 (.tmp 16) (.const (Go.Value.int Go.IntKind.i64 64))⟩,
    ⟨(some 18), none, .pick (.tmp 15) (.tmp 17) (.const (Go.Value.bool false))⟩,
    ⟨(some 19), none, .mv (.tmp 18)⟩,
    ⟨(some 20), (some (19, true)), .mv (.tmp 0)⟩,
    ⟨(some 21), (some (19, true)), .mv (.tmp 1)⟩,
    ⟨(some 22), (some (19, true)), .bin .sub 3 (.const (Go.Value.int Go.IntKind.i64 64)) (.tmp 21)⟩,
    ⟨(some 23), (some (19, true)), .bin .leq 3 (.tmp 20) (.tmp 22)⟩,
    ⟨(some 24), none, .pick (.tmp 19) (.tmp 23) (.const (Go.Value.bool false))⟩,
    ⟨(some 4), none, .mv (.tmp 24)⟩])
  (.ret))
theorem is_ref01_Right : FnIs Try.prog F.ref01_Right X.ref01_Right 25 [.tmp 4] := ⟨by kernel_rfl⟩

-- loop (inner ones first): [0, 3, 4]
/-- haycroft/haycroftref01.Most: function 20 -/
abbrev F.ref01_Most : FuncId := 20
def X.ref01_Most : X :=
  .seq (.ops [⟨(some 2), none, .mv (.const (Go.Value.int Go.IntKind.u64 0))⟩])
  (.seq (.ops [⟨(some 3), none, .mv (.const (Go.Value.int Go.IntKind.u64 0))⟩])
  (.seq (.seq (.ops [⟨(some 4), none, .mv (.const (Go.Value.int Go.IntKind.i64 0))⟩])
  (.block 0 (.loop (.seq (.seq (.ops [⟨(some 5), none, .mv (.tmp 4)⟩,
        ⟨(some 6), none, .mv (.tmp 0)⟩,
        ⟨(some 7), none, .bin .lss 3 (.tmp 5) (.tmp 6)⟩,
        ⟨(some 8), none, .mv (.tmp 7)⟩,
        ⟨(some 9), (some (8, true)), .mv (.tmp 4)⟩,
        ⟨(some 10), (some (8, true)), .bin .lss 3 (.tmp 9) (.const (Go.Value.int Go.IntKind.i64 64))⟩,
        ⟨(some 11), none, .pick (.tmp 8) (.tmp 10) (.const (Go.Value.bool false))⟩])
      (.cond (.tmp 11)
        (.skip)
        (.exit 0)))
      (.seq (.block 1 (.ops [⟨(some 14), none, .mv (.tmp 3)⟩,
          ⟨(some 15), none, .bin .mul 22 (.const (Go.Value.int Go.IntKind.u64 2)) (.tmp 14)⟩,
          ⟨(some 16), none, .bin .add 22 (.tmp 15) (.const (Go.Value.int Go.IntKind.u64 1))⟩,
          ⟨(some 3), none, .mv (.tmp 16)⟩]))
      (.ops [⟨(some 12), none, .mv (.tmp 4)⟩,
        ⟨(some 13), none, .bin .add 3 (.tmp 12) (.const (Go.Value.int Go.IntKind.i64 1))⟩,
        ⟨(some 4), none, .mv (.tmp 13)⟩]))))))
  (.seq (.ops [⟨(some 17), none, .mv (.tmp 3)⟩,
    ⟨(some 2), none, .mv (.tmp 17)⟩])
  (.ret))))
theorem is_ref01_Most : FnIs Try.prog F.ref01_Most X.ref01_Most 18 [.tmp 2] := ⟨by kernel_rfl⟩

-- loop (inner ones first): [0, 3, 4]
/-- haycroft/haycroftref01.Bits: function 41 -/
abbrev F.ref01_Bits : FuncId := 41
def X.ref01_Bits : X :=
  .seq (.ops [⟨(some 2), none, .mv (.const (Go.Value.slice none 0 0))⟩])
  (.seq (.ops [⟨(some 5), none, .bsl 3 1 0 [(Go.Value.int Go.IntKind.i64 0)] []⟩,
    ⟨(some 3), none, .mv (.tmp 5)⟩])
  (.seq (.seq (.ops [⟨(some 4), none, .mv (.const (Go.Value.int Go.IntKind.i64 0))⟩])
  (.block 0 (.loop (.seq (.seq (.ops [⟨(some 6), none, .mv (.tmp 4)⟩,
        ⟨(some 7), none, .bin .lss 3 (.tmp 6) (.const (Go.Value.int Go.IntKind.i64 64))⟩])
      (.cond (.tmp 7)
        (.skip)
        (.exit 0)))
      (.seq (.block 1 (.seq (.ops [⟨(some 10), none, .mv (.tmp 3)⟩,
          ⟨(some 11), none, .mv (.tmp 0)⟩,
          ⟨(some 12), none, .bin .rem 22 (.tmp 11) (.const (Go.Value.int Go.IntKind.u64 2))⟩,
          ⟨(some 13), none, .conv Go.IntKind.i64 (.tmp 12)⟩,
          ⟨(some 14), none, .bsl 3 1 1 [(Go.Value.int Go.IntKind.i64 0)] [(0, (.tmp 13))]⟩,
          ⟨(some 15), none, .app 3 1 8 [(Go.Value.int Go.IntKind.i64 0)] (.tmp 10) (.tmp 14)⟩,
          ⟨(some 3), none, .mv (.tmp 15)⟩])
        (.ops [⟨(some 16), none, .mv (.tmp 0)⟩,
          ⟨(some 17), none, .bin .quo 22 (.tmp 16) (.const (Go.Value.int Go.IntKind.u64 2))⟩,
          ⟨(some 0), none, .mv (.tmp 17)⟩])))
      (.ops [⟨(some 8), none, .mv (.tmp 4)⟩,
        ⟨(some 9), none, .bin .add 3 (.tmp 8) (.const (Go.Value.int Go.IntKind.i64 1))⟩,
        ⟨(some 4), none, .mv (.tmp 9)⟩]))))))
  (.seq (.ops [⟨(some 18), none, .mv (.tmp 3)⟩,
    ⟨(some 2), none, .mv (.tmp 18)⟩])
  (.ret))))
theorem is_ref01_Bits : FnIs Try.prog F.ref01_Bits X.ref01_Bits 19 [.tmp 2] := ⟨by kernel_rfl⟩

-- loop (inner ones first): [0, 3, 4]
/-- haycroft/haycroftref01.Word: function 42 -/
abbrev F.ref01_Word : FuncId := 42
def X.ref01_Word : X :=
  .seq (.ops [⟨(some 2), none, .mv (.const (Go.Value.int Go.IntKind.u64 0))⟩])
  (.seq (.ops [⟨(some 3), none, .mv (.const (Go.Value.int Go.IntKind.u64 0))⟩])
  (.seq (.seq (.ops [⟨(some 5), none, .mv (.tmp 0)⟩,
    ⟨(some 6), none, .lenS (.tmp 5)⟩,
    ⟨(some 7), none, .bin .sub 3 (.tmp 6) (.const (Go.Value.int Go.IntKind.i64 1))⟩,
    ⟨(some 4), none, .mv (.tmp 7)⟩])
  (.block 0 (.loop (.seq (.seq (.ops [⟨(some 8), none, .mv (.tmp 4)⟩,
        ⟨(some 9), none, .bin .geq 3 (.tmp 8) (.const (Go.Value.int Go.IntKind.i64 0))⟩])
      (.cond (.tmp 9)
        (.skip)
        (.exit 0)))
      (.seq (.block 1 (.ops [⟨(some 12), none, .mv (.tmp 3)⟩,
          ⟨(some 13), none, .bin .mul 22 (.const (Go.Value.int Go.IntKind.u64 2)) (.tmp 12)⟩,
          ⟨(some 14), none, .mv (.tmp 0)⟩,
          ⟨(some 15), none, .mv (.tmp 4)⟩,
          ⟨(some 16), none, .idx (.tmp 14) (.tmp 15) 1⟩,
          ⟨(some 17), none, .ld (.tmp 16) none⟩,
          ⟨(some 18), none, .conv Go.IntKind.u64 (.tmp 17)⟩,
          ⟨(some 19), none, .bin .add 22 (.tmp 13) (.tmp 18)⟩,
          ⟨(some 3), none, .mv (.tmp 19)⟩]))
      (.ops [⟨(some 10), none, .mv (.tmp 4)⟩,
        ⟨(some 11), none, .bin .sub 3 (.tmp 10) (.const (Go.Value.int Go.IntKind.i64 1))⟩,
        ⟨(some 4), none, .mv (.tmp 11)⟩]))))))
  (.seq (.ops [⟨(some 20), none, .mv (.tmp 3)⟩,
    ⟨(some 2), none, .mv (.tmp 20)⟩])
  (.ret))))
theorem is_ref01_Word : FnIs Try.prog F.ref01_Word X.ref01_Word 21 [.tmp 2] := ⟨by kernel_rfl⟩

-- loop (inner ones first): [1, 2, 10, 11, 12]
/-- haycroft/haycroftref01.Put: function 16 -/
abbrev F.ref01_Put : FuncId := 16
def X.ref01_Put : X :=
  .seq (.ops [⟨(some 8), none, .mv (.const (Go.Value.int Go.IntKind.u64 0))⟩,
    ⟨(some 9), none, .mv (.const (Go.Value.int Go.IntKind.i64 0))⟩])
  (.seq (.seq (.ops [⟨(some 13), none, .mv (.tmp 1)⟩,
    ⟨(some 14), none, .mv (.tmp 2)⟩,
    ⟨(some 15), none, .call 18 [(.tmp 13), (.tmp 14)]⟩,
    ⟨(some 16), none, .un .not (.tmp 15)⟩])
  (.cond (.tmp 16)
    (.seq (.ops [⟨(some 8), none, .mv (.const (Go.Value.int Go.IntKind.u64 0))⟩,
      ⟨(some 9), none, .mv (.const (Go.Value.int Go.IntKind.i64 1))⟩])
    (.ret))
    (.skip)))
  (.seq (.seq (.ops [⟨(some 17), none, .mv (.tmp 3)⟩,
    ⟨(some 18), none, .mv (.tmp 2)⟩,
    ⟨(some 19), none, .call 20 [(.tmp 18)]⟩,
    ⟨(some 20), none, .bin .gtr 22 (.tmp 17) (.tmp 19)⟩])
  (.cond (.tmp 20)
    (.seq (.ops [⟨(some 8), none, .mv (.const (Go.Value.int Go.IntKind.u64 0))⟩,
      ⟨(some 9), none, .mv (.const (Go.Value.int Go.IntKind.i64 13))⟩])
    (.ret))
    (.skip)))
  (.seq (.ops [⟨(some 21), none, .mv (.tmp 0)⟩,
    ⟨(some 22), none, .call 41 [(.tmp 21)]⟩,
    ⟨(some 10), none, .mv (.tmp 22)⟩])
  (.seq (.ops [⟨(some 23), none, .mv (.tmp 3)⟩,
    ⟨(some 24), none, .call 41 [(.tmp 23)]⟩,
    ⟨(some 11), none, .mv (.tmp 24)⟩])
  (.seq (.seq (.ops [⟨(some 12), none, .mv (.const (Go.Value.int Go.IntKind.i64 0))⟩])
  (.block 0 (.loop (.seq (.seq (.ops [⟨(some 25), none, .mv (.tmp 12)⟩,
        ⟨(some 26), none, .mv (.tmp 2)⟩,
        ⟨(some 27), none, .bin .lss 3 (.tmp 25) (.tmp 26)⟩])
      (.cond (.tmp 27)
        (.skip)
        (.exit 0)))
      (.seq (.block 1 (.ops [⟨(some 30), none, .mv (.tmp 10)⟩,
          ⟨(some 31), none, .mv (.tmp 1)⟩,
          ⟨(some 32), none, .mv (.tmp 12)⟩,
          ⟨(some 33), none, .bin .add 3 (.tmp 31) (.tmp 32)⟩,
          ⟨(some 34), none, .mv (.tmp 11)⟩,
          ⟨(some 35), none, .mv (.tmp 12)⟩,
          ⟨(some 36), none, .idx (.tmp 34) (.tmp 35) 1⟩,
          ⟨(some 37), none, .ld (.tmp 36) none⟩,
          ⟨(some 38), none, .idx (.tmp 30) (.tmp 33) 1⟩,
          ⟨none, none, .st (.tmp 38) (.tmp 37) 1⟩]))
      (.ops [⟨(some 28), none, .mv (.tmp 12)⟩,
        ⟨(some 29), none, .bin .add 3 (.tmp 28) (.const (Go.Value.int Go.IntKind.i64 1))⟩,
        ⟨(some 12), none, .mv (.tmp 29)⟩]))))))
  (.seq (.ops [⟨(some 39), none, .mv (.tmp 10)⟩,
    ⟨(some 40), none, .call 42 [(.tmp 39)]⟩,
    ⟨(some 8), none, .mv (.tmp 40)⟩,
    ⟨(some 9), none, .mv (.const (Go.Value.int Go.IntKind.i64 0))⟩])
  (.ret)))))))
theorem is_ref01_Put : FnIs Try.prog F.ref01_Put X.ref01_Put 41 [.tmp 8, .tmp 9] := ⟨by kernel_rfl⟩

/-- haycroft/field.Get: function 21 -/
abbrev F.field_Get : FuncId := 21
def X.field_Get : X :=
  .seq (.ops [⟨(some 6), none, .mv (.const (Go.Value.int Go.IntKind.u64 0))⟩])
  (.seq (.seq (.ops [⟨(some 7), none, .mv (.tmp 1)⟩,
    ⟨(some 8), none, .mv (.tmp 2)⟩,
    ⟨(some 9), none, .call 17 [(.tmp 7), (.tmp 8)]⟩,
    ⟨(some 10), none, .un .not (.tmp 9)⟩])
  (.cond (.tmp 10)
    (.seq (.ops [⟨(some 6), none, .mv (.const (Go.Value.int Go.IntKind.u64 0))⟩])
    (.ret))
    (.skip)))
  (.seq (.drawn [(0, ⟨(some 11), none, .mv (.tmp 0)⟩),
    (1, ⟨(some 12), none, .mv (.tmp 1)⟩),
    (2, ⟨(some 13), none, .bin .shr 22 (.tmp 11) (.tmp 12)⟩),
    (3, ⟨(some 14), none, .mv (.tmp 2)⟩),
    (4, ⟨(some 15), none, .call 19 [(.tmp 14)]⟩),
    (5, ⟨(some 16), none, .bin .and 22 (.tmp 13) (.tmp 15)⟩),
    (6, ⟨(some 6), none, .mv (.tmp 16)⟩)]
    [[], [], [0, 1], [], [3], [2, 4], [5, 4, 0, 1, 2, 3, 4, 5]]
    [0, 0, 3, 0, 8, 31, 63] 16)
  (.ret)))
theorem is_field_Get : FnIs Try.prog F.field_Get X.field_Get 17 [.tmp 6] := ⟨by kernel_rfl⟩

/-- haycroft/haycroftref01.Get: function 22 -/
abbrev F.ref01_Get : FuncId := 22
def X.ref01_Get : X :=
  .seq (.ops [⟨(some 6), none, .mv (.const (Go.Value.int Go.IntKind.u64 0))⟩])
  (.seq (.seq (.ops [⟨(some 7), none, .mv (.tmp 1)⟩,
    ⟨(some 8), none, .mv (.tmp 2)⟩,
    ⟨(some 9), none, .call 18 [(.tmp 7), (.tmp 8)]⟩,
    ⟨(some 10), none, .un .not (.tmp 9)⟩])
  (.cond (.tmp 10)
    (.seq (.ops [⟨(some 6), none, .mv (.const (Go.Value.int Go.IntKind.u64 0))⟩])
    (.ret))
    (.skip)))
  (.seq (.ops [⟨(some 11), none, .mv (.tmp 0)⟩,
    ⟨(some 12), none, .call 41 [(.tmp 11)]⟩,
    ⟨(some 13), none, .mv (.tmp 1)⟩,
    ⟨(some 14), none, .mv (.tmp 1)⟩,
    ⟨(some 15), none, .mv (.tmp 2)⟩,
    ⟨(some 16), none, .bin .add 3 (.tmp 14) (.tmp 15)⟩,
    ⟨(some 17), none, .slc 1 (.tmp 12) (some (.tmp 13)) (some (.tmp 16))⟩,
    ⟨(some 18), none, .call 42 [(.tmp 17)]⟩,
    ⟨(some 6), none, .mv (.tmp 18)⟩])
  (.ret)))
theorem is_ref01_Get : FnIs Try.prog F.ref01_Get X.ref01_Get 19 [.tmp 6] := ⟨by kernel_rfl⟩

/-- haycroft/haycroftlaw01.FieldGets: function 3 -/
abbrev F.law01_FieldGets : FuncId := 3
def X.law01_FieldGets : X :=
  .seq (.ops [⟨(some 8), none, .mv (.const (Go.Value.bool false))⟩])
  (.seq (.seq (.ops [⟨(some 13), none, .call 14 []⟩,
    ⟨(some 14), none, .un .not (.tmp 13)⟩])
  (.cond (.tmp 14)
    (.seq (.ops [⟨(some 8), none, .mv (.const (Go.Value.bool false))⟩])
    (.ret))
    (.skip)))
  (.seq (.ops [⟨(some 16), none, .mv (.tmp 0)⟩,
    ⟨(some 17), none, .mv (.tmp 1)⟩,
    ⟨(some 18), none, .mv (.tmp 2)⟩,
    ⟨(some 19), none, .mv (.tmp 3)⟩,
    ⟨(some 20), none, .call 15 [(.tmp 16), (.tmp 17), (.tmp 18), (.tmp 19)]⟩,
    ⟨(some 15), none, .mv (.tmp 20)⟩,
    ⟨(some 21), none, .ext (.tmp 15) 0⟩,
    ⟨(some 22), none, .ext (.tmp 15) 1⟩,
    ⟨(some 9), none, .mv (.tmp 21)⟩,
    ⟨(some 10), none, .mv (.tmp 22)⟩])
  (.seq (.ops [⟨(some 24), none, .mv (.tmp 0)⟩,
    ⟨(some 25), none, .mv (.tmp 1)⟩,
    ⟨(some 26), none, .mv (.tmp 2)⟩,
    ⟨(some 27), none, .mv (.tmp 3)⟩,
    ⟨(some 28), none, .call 16 [(.tmp 24), (.tmp 25), (.tmp 26), (.tmp 27)]⟩,
    ⟨(some 23), none, .mv (.tmp 28)⟩,
    ⟨(some 29), none, .ext (.tmp 23) 0⟩,
    ⟨(some 30), none, .ext (.tmp 23) 1⟩,
    ⟨(some 11), none, .mv (.tmp 29)⟩,
    ⟨(some 12), none, .mv (.tmp 30)⟩])
  (.seq (.ops [⟨(some 31), none, .mv (.tmp 9)⟩,
    ⟨(some 32), none, .mv (.tmp 11)⟩,
    ⟨(some 33), none, .bin .eql 22 (.tmp 31) (.tmp 32)⟩,
    ⟨(some 34), none, .mv (.tmp 33)⟩,
    ⟨(some 35), (some (34, true)), .mv (.tmp 10)⟩,
    ⟨(some 36), (some (34, true)), .mv (.tmp 12)⟩,
    ⟨(some 37), (some (34, true)), .bin .eql 24 (.tmp 35) (.tmp 36)⟩,
    ⟨(some 38), none, .pick (.tmp 34) (.tmp 37) (.const (Go.Value.bool false))⟩,
    ⟨(some 39), none, .mv (.tmp 38)⟩,
    ⟨(some 40), (some (39, true)), .mv (.tmp 1)⟩,
    ⟨(some 41), (some (39, true)), .mv (.tmp 2)⟩,
    ⟨(some 42), (some (39, true)), .call 17 [(.tmp 40), (.tmp 41)]⟩,
    ⟨(some 43), (some (39, true)), .mv (.tmp 1)⟩,
    ⟨(some 44), (some (39, true)), .mv (.tmp 2)⟩,
    ⟨(some 45), (some (39, true)), .call 18 [(.tmp 43), (.tmp 44)]⟩,
    ⟨(some 46), (some (39, true)), .eq false .bool (.tmp 42) (.tmp 45)⟩,
    ⟨(some 47), none, .pick (.tmp 39) (.tmp 46) (.const (Go.Value.bool false))⟩,
    ⟨(some 48), none, .mv (.tmp 47)⟩,
    ⟨(some 49), (some (48, true)), .mv (.tmp 2)⟩,
    ⟨(some 50), (some (48, true)), .call 19 [(.tmp 49)]⟩,
    ⟨(some 51), (some (48, true)), .mv (.tmp 2)⟩,
    ⟨(some 52), (some (48, true)), .call 20 [(.tmp 51)]⟩,
    ⟨(some 53), (some (48, true)), .bin .eql 22 (.tmp 50) (.tmp 52)⟩,
    ⟨(some 54), none, .pick (.tmp 48) (.tmp 53) (.const (Go.Value.bool false))⟩,
    ⟨(some 55), none, .mv (.tmp 54)⟩,
    ⟨(some 56), (some (55, true)), .mv (.tmp 0)⟩,
    ⟨(some 57), (some (55, true)), .mv (.tmp 1)⟩,
    ⟨(some 58), (some (55, true)), .mv (.tmp 2)⟩,
    ⟨(some 59), (some (55, true)), .call 21 [(.tmp 56), (.tmp 57), (.tmp 58)]⟩,
    ⟨(some 60), (some (55, true)), .mv (.tmp 0)⟩,
    ⟨(some 61), (some (55, true)), .mv (.tmp 1)⟩,
    ⟨(some 62), (some (55, true)), .mv (.tmp 2)⟩,
    ⟨(some 63), (some (55, true)), .call 22 [(.tmp 60), (.tmp 61), (.tmp 62)]⟩,
    ⟨(some 64), (some (55, true)), .bin .eql 22 (.tmp 59) (.tmp 63)⟩,
    ⟨(some 65), none, .pick (.tmp 55) (.tmp 64) (.const (Go.Value.bool false))⟩,
    ⟨(some 8), none, .mv (.tmp 65)⟩])
  (.ret)))))
theorem is_law01_FieldGets : FnIs Try.prog F.law01_FieldGets X.law01_FieldGets 66 [.tmp 8] := ⟨by kernel_rfl⟩

/-- haycroft/haycroftlaw01.FieldBack: function 4 -/
abbrev F.law01_FieldBack : FuncId := 4
def X.law01_FieldBack : X :=
  .seq (.ops [⟨(some 12), none, .mv (.const (Go.Value.bool false))⟩])
  (.seq (.seq (.ops [⟨(some 17), none, .call 14 []⟩,
    ⟨(some 18), none, .un .not (.tmp 17)⟩])
  (.cond (.tmp 18)
    (.seq (.ops [⟨(some 12), none, .mv (.const (Go.Value.bool false))⟩])
    (.ret))
    (.skip)))
  (.seq (.ops [⟨(some 20), none, .mv (.tmp 0)⟩,
    ⟨(some 21), none, .mv (.tmp 1)⟩,
    ⟨(some 22), none, .mv (.tmp 2)⟩,
    ⟨(some 23), none, .mv (.tmp 3)⟩,
    ⟨(some 24), none, .call 15 [(.tmp 20), (.tmp 21), (.tmp 22), (.tmp 23)]⟩,
    ⟨(some 19), none, .mv (.tmp 24)⟩,
    ⟨(some 25), none, .ext (.tmp 19) 0⟩,
    ⟨(some 26), none, .ext (.tmp 19) 1⟩,
    ⟨(some 13), none, .mv (.tmp 25)⟩,
    ⟨(some 14), none, .mv (.tmp 26)⟩])
  (.seq (.seq (.ops [⟨(some 27), none, .mv (.tmp 14)⟩,
    ⟨(some 28), none, .bin .neq 24 (.tmp 27) (.const (Go.Value.int Go.IntKind.i64 0))⟩])
  (.cond (.tmp 28)
    (.seq (.ops [⟨(some 29), none, .mv (.tmp 13)⟩,
      ⟨(some 30), none, .bin .eql 22 (.tmp 29) (.const (Go.Value.int Go.IntKind.u64 0))⟩,
      ⟨(some 12), none, .mv (.tmp 30)⟩])
    (.ret))
    (.skip)))
  (.seq (.ops [⟨(some 32), none, .mv (.tmp 13)⟩,
    ⟨(some 33), none, .mv (.tmp 1)⟩,
    ⟨(some 34), none, .mv (.tmp 2)⟩,
    ⟨(some 35), none, .mv (.tmp 0)⟩,
    ⟨(some 36), none, .mv (.tmp 1)⟩,
    ⟨(some 37), none, .mv (.tmp 2)⟩,
    ⟨(some 38), none, .call 21 [(.tmp 35), (.tmp 36), (.tmp 37)]⟩,
    ⟨(some 39), none, .call 15 [(.tmp 32), (.tmp 33), (.tmp 34), (.tmp 38)]⟩,
    ⟨(some 31), none, .mv (.tmp 39)⟩,
    ⟨(some 40), none, .ext (.tmp 31) 0⟩,
    ⟨(some 41), none, .ext (.tmp 31) 1⟩,
    ⟨(some 15), none, .mv (.tmp 40)⟩,
    ⟨(some 16), none, .mv (.tmp 41)⟩])
  (.seq (.seq (.ops [⟨(some 42), none, .mv (.tmp 13)⟩,
    ⟨(some 43), none, .mv (.tmp 1)⟩,
    ⟨(some 44), none, .mv (.tmp 2)⟩,
    ⟨(some 45), none, .call 21 [(.tmp 42), (.tmp 43), (.tmp 44)]⟩,
    ⟨(some 46), none, .mv (.tmp 3)⟩,
    ⟨(some 47), none, .bin .neq 22 (.tmp 45) (.tmp 46)⟩,
    ⟨(some 48), none, .mv (.tmp 47)⟩,
    ⟨(some 49), (some (48, false)), .mv (.tmp 15)⟩,
    ⟨(some 50), (some (48, false)), .mv (.tmp 0)⟩,
    ⟨(some 51), (some (48, false)), .bin .neq 22 (.tmp 49) (.tmp 50)⟩,
    ⟨(some 52), none, .pick (.tmp 48) (.const (Go.Value.bool true)) (.tmp 51)⟩,
    ⟨(some 53), none, .mv (.tmp 52)⟩,
    ⟨(some 54), (some (53, false)), .mv (.tmp 16)⟩,
    ⟨(some 55), (some (53, false)), .bin .neq 24 (.tmp 54) (.const (Go.Value.int Go.IntKind.i64 0))⟩,
    ⟨(some 56), none, .pick (.tmp 53) (.const (Go.Value.bool true)) (.tmp 55)⟩])
  (.cond (.tmp 56)
    (.seq (.ops [⟨(some 12), none, .mv (.const (Go.Value.bool false))⟩])
    (.ret))
    (.skip)))
  (.seq (.seq (.ops [⟨(some 57), none, .mv (.tmp 4)⟩,
    ⟨(some 58), none, .mv (.tmp 5)⟩,
    ⟨(some 59), none, .call 18 [(.tmp 57), (.tmp 58)]⟩,
    ⟨(some 60), none, .un .not (.tmp 59)⟩,
    ⟨(some 61), none, .mv (.tmp 60)⟩,
    ⟨(some 62), (some (61, false)), .mv (.tmp 4)⟩,
    ⟨(some 63), (some (61, false)), .mv (.tmp 1)⟩,
    ⟨(some 64), (some (61, false)), .mv (.tmp 2)⟩,
    ⟨(some 65), (some (61, false)), .bin .add 3 (.tmp 63) (.tmp 64)⟩,
    ⟨(some 66), (some (61, false)), .bin .lss 3 (.tmp 62) (.tmp 65)⟩,
    ⟨(some 67), (some (61, false)), .mv (.tmp 66)⟩,
    ⟨(some 68), (some (67, true)), .mv (.tmp 1)⟩,
    ⟨(some 69), (some (67, true)), .mv (.tmp 4)⟩,
    ⟨(some 70), (some (67, true)), .mv (.tmp 5)⟩,
    ⟨(some 71), (some (67, true)), .bin .add 3 (.tmp 69) (.tmp 70)⟩,
    ⟨(some 72), (some (67, true)), .bin .lss 3 (.tmp 68) (.tmp 71)⟩,
    ⟨(some 73), (some (61, false)), .pick (.tmp 67) (.tmp 72) (.const (Go.Value.bool false))⟩,
    ⟨(some 74), none, .pick (.tmp 61) (.const (Go.Value.bool true)) (.tmp 73)⟩])
  (.cond (.tmp 74)
    (.seq (.ops [⟨(some 12), none, .mv (.const (Go.Value.bool true))⟩])
    (.ret))
    (.skip)))
  (.seq (.ops [⟨(some 75), none, .mv (.tmp 13)⟩,
    ⟨(some 76), none, .mv (.tmp 4)⟩,
    ⟨(some 77), none, .mv (.tmp 5)⟩,
    ⟨(some 78), none, .call 21 [(.tmp 75), (.tmp 76), (.tmp 77)]⟩,
    ⟨(some 79), none, .mv (.tmp 0)⟩,
    ⟨(some 80), none, .mv (.tmp 4)⟩,
    ⟨(some 81), none, .mv (.tmp 5)⟩,
    ⟨(some 82), none, .call 21 [(.tmp 79), (.tmp 80), (.tmp 81)]⟩,
    ⟨(some 83), none, .bin .eql 22 (.tmp 78) (.tmp 82)⟩,
    ⟨(some 12), none, .mv (.tmp 83)⟩])
  (.ret))))))))
theorem is_law01_FieldBack : FnIs Try.prog F.law01_FieldBack X.law01_FieldBack 84 [.tmp 12] := ⟨by kernel_rfl⟩

/-- haycroft/place.May: function 24 -/
abbrev F.place_May : FuncId := 24
def X.place_May : X :=
  .seq (.ops [⟨(some 2), none, .mv (.const (Go.Value.bool false))⟩])
  (.seq (.ops [⟨(some 3), none, .mv (.tmp 0)⟩,
    ⟨(some 4), none, .bin .geq 3 (.tmp 3) (.const (Go.Value.int Go.IntKind.i64 5))⟩,
    ⟨(some 5), none, .mv (.tmp 4)⟩,
    ⟨(some 6), (some (5, true)), .mv (.tmp 0)⟩,
    ⟨(some 7), (some (5, true)), .bin .leq 3 (.tmp 6) (.const (Go.Value.int Go.IntKind.i64 9))⟩,
    ⟨(some 8), none, .pick (.tmp 5) (.tmp 7) (.const (Go.Value.bool false))⟩,
    ⟨(some 2), none, .mv (.tmp 8)⟩])
  (.ret))
theorem is_place_May : FnIs Try.prog F.place_May X.place_May 9 [.tmp 2] := ⟨by kernel_rfl⟩

/-- haycroft/place.part: function 63 -/
abbrev F.place_part : FuncId := 63
def X.place_part : X :=
  .seq (.ops [⟨(some 8), none, .mv (.const (Go.Value.int Go.IntKind.i64 0))⟩])
  (.seq (.seq (.ops [⟨(some 9), none, .mv (.tmp 0)⟩,
    ⟨(some 10), none, .call 24 [(.tmp 9)]⟩,
    ⟨(some 11), none, .un .not (.tmp 10)⟩,
    ⟨(some 12), none, .mv (.tmp 11)⟩,
    ⟨(some 13), (some (12, false)), .mv (.tmp 1)⟩,
    ⟨(some 14), (some (12, false)), .bin .gtr 22 (.tmp 13) (.const (Go.Value.int Go.IntKind.u64 281474976710655))⟩,
    ⟨(some 15), none, .pick (.tmp 12) (.const (Go.Value.bool true)) (.tmp 14)⟩])
  (.cond (.tmp 15)
    (.seq (.ops [⟨(some 8), none, .mv (.const (Go.Value.int Go.IntKind.i64 0))⟩])
    (.ret))
    (.skip)))
  (.seq (.ops [⟨(some 16), none, .mv (.tmp 1)⟩,
    ⟨(some 17), none, .mv (.tmp 2)⟩,
    ⟨(some 18), none, .mv (.tmp 3)⟩,
    ⟨(some 19), none, .call 21 [(.tmp 16), (.tmp 17), (.tmp 18)]⟩,
    ⟨(some 20), none, .conv Go.IntKind.i64 (.tmp 19)⟩,
    ⟨(some 8), none, .mv (.tmp 20)⟩])
  (.ret)))
theorem is_place_part : FnIs Try.prog F.place_part X.place_part 21 [.tmp 8] := ⟨by kernel_rfl⟩

/-- haycroft/place.Page: function 27 -/
abbrev F.place_Page : FuncId := 27
def X.place_Page : X :=
  .seq (.ops [⟨(some 4), none, .mv (.const (Go.Value.int Go.IntKind.i64 0))⟩])
  (.seq (.ops [⟨(some 5), none, .mv (.tmp 0)⟩,
    ⟨(some 6), none, .mv (.tmp 1)⟩,
    ⟨(some 7), none, .mv (.tmp 0)⟩,
    ⟨(some 8), none, .mv (.tmp 0)⟩,
    ⟨(some 9), none, .bin .sub 3 (.const (Go.Value.int Go.IntKind.i64 48)) (.tmp 8)⟩,
    ⟨(some 10), none, .call 63 [(.tmp 5), (.tmp 6), (.tmp 7), (.tmp 9)]⟩,
    ⟨(some 4), none, .mv (.tmp 10)⟩])
  (.ret))
theorem is_place_Page : FnIs Try.prog F.place_Page X.place_Page 11 [.tmp 4] := ⟨by kernel_rfl⟩

/-- haycroft/place.Offset: function 29 -/
abbrev F.place_Offset : FuncId := 29
def X.place_Offset : X :=
  .seq (.ops [⟨(some 4), none, .mv (.const (Go.Value.int Go.IntKind.i64 0))⟩])
  (.seq (.ops [⟨(some 5), none, .mv (.tmp 0)⟩,
    ⟨(some 6), none, .mv (.tmp 1)⟩,
    ⟨(some 7), none, .mv (.tmp 0)⟩,
    ⟨(some 8), none, .call 63 [(.tmp 5), (.tmp 6), (.const (Go.Value.int Go.IntKind.i64 0)), (.tmp 7)]⟩,
    ⟨(some 4), none, .mv (.tmp 8)⟩])
  (.ret))
theorem is_place_Offset : FnIs Try.prog F.place_Offset X.place_Offset 9 [.tmp 4] := ⟨by kernel_rfl⟩

/-- haycroft/place.Size: function 26 -/
abbrev F.place_Size : FuncId := 26
def X.place_Size : X :=
  .seq (.ops [⟨(some 2), none, .mv (.const (Go.Value.int Go.IntKind.i64 0))⟩])
  (.seq (.seq (.ops [⟨(some 3), none, .mv (.tmp 0)⟩,
    ⟨(some 4), none, .call 24 [(.tmp 3)]⟩,
    ⟨(some 5), none, .un .not (.tmp 4)⟩])
  (.cond (.tmp 5)
    (.seq (.ops [⟨(some 2), none, .mv (.const (Go.Value.int Go.IntKind.i64 0))⟩])
    (.ret))
    (.skip)))
  (.seq (.ops [⟨(some 6), none, .mv (.tmp 0)⟩,
    ⟨(some 7), none, .bin .shl 3 (.const (Go.Value.int Go.IntKind.i64 1)) (.tmp 6)⟩,
    ⟨(some 2), none, .mv (.tmp 7)⟩])
  (.ret)))
theorem is_place_Size : FnIs Try.prog F.place_Size X.place_Size 8 [.tmp 2] := ⟨by kernel_rfl⟩

/-- haycroft/place.Room: function 31 -/
abbrev F.place_Room : FuncId := 31
def X.place_Room : X :=
  .seq (.ops [⟨(some 4), none, .mv (.const (Go.Value.int Go.IntKind.i64 0))⟩])
  (.seq (.seq (.ops [⟨(some 5), none, .mv (.tmp 0)⟩,
    ⟨(some 6), none, .call 24 [(.tmp 5)]⟩,
    ⟨(some 7), none, .un .not (.tmp 6)⟩,
    ⟨(some 8), none, .mv (.tmp 7)⟩,
    ⟨(some 9), (some (8, false)), .mv (.tmp 1)⟩,
    ⟨(some 10), (some (8, false)), .bin .gtr 22 (.tmp 9) (.const (Go.Value.int Go.IntKind.u64 281474976710655))⟩,
    ⟨(some 11), none, .pick (.tmp 8) (.const (Go.Value.bool true)) (.tmp 10)⟩])
  (.cond (.tmp 11)
    (.seq (.ops [⟨(some 4), none, .mv (.const (Go.Value.int Go.IntKind.i64 0))⟩])
    (.ret))
    (.skip)))
  (.seq (.ops [⟨(some 12), none, .mv (.tmp 0)⟩,
    ⟨(some 13), none, .call 26 [(.tmp 12)]⟩,
    ⟨(some 14), none, .mv (.tmp 0)⟩,
    ⟨(some 15), none, .mv (.tmp 1)⟩,
    ⟨(some 16), none, .call 29 [(.tmp 14), (.tmp 15)]⟩,
    ⟨(some 17), none, .bin .sub 3 (.tmp 13) (.tmp 16)⟩,
    ⟨(some 4), none, .mv (.tmp 17)⟩])
  (.ret)))
theorem is_place_Room : FnIs Try.prog F.place_Room X.place_Room 18 [.tmp 4] := ⟨by kernel_rfl⟩

/-- haycroft/haycroftlaw02.awake: function 23 -/
abbrev F.law02_awake : FuncId := 23
def X.law02_awake : X :=
  .seq (.ops [⟨(some 0), none, .mv (.const (Go.Value.bool false))⟩])
  (.seq (.ops [⟨(some 1), none, .call 27 [(.const (Go.Value.int Go.IntKind.i64 5)), (.const (Go.Value.int Go.IntKind.u64 70))]⟩,
    ⟨(some 2), none, .bin .eql 3 (.tmp 1) (.const (Go.Value.int Go.IntKind.i64 2))⟩,
    ⟨(some 3), none, .mv (.tmp 2)⟩,
    ⟨(some 4), (some (3, true)), .call 29 [(.const (Go.Value.int Go.IntKind.i64 5)), (.const (Go.Value.int Go.IntKind.u64 70))]⟩,
    ⟨(some 5), (some (3, true)), .bin .eql 3 (.tmp 4) (.const (Go.Value.int Go.IntKind.i64 6))⟩,
    ⟨(some 6), none, .pick (.tmp 3) (.tmp 5) (.const (Go.Value.bool false))⟩,
    ⟨(some 7), none, .mv (.tmp 6)⟩,
    ⟨(some 8), (some (7, true)), .call 31 [(.const (Go.Value.int Go.IntKind.i64 5)), (.const (Go.Value.int Go.IntKind.u64 70))]⟩,
    ⟨(some 9), (some (7, true)), .bin .eql 3 (.tmp 8) (.const (Go.Value.int Go.IntKind.i64 26))⟩,
    ⟨(some 10), none, .pick (.tmp 7) (.tmp 9) (.const (Go.Value.bool false))⟩,
    ⟨(some 0), none, .mv (.tmp 10)⟩])
  (.ret))
theorem is_law02_awake : FnIs Try.prog F.law02_awake X.law02_awake 11 [.tmp 0] := ⟨by kernel_rfl⟩

/-- haycroft/haycroftref02.Size: function 25 -/
abbrev F.ref02_Size : FuncId := 25
def X.ref02_Size : X :=
  .seq (.ops [⟨(some 2), none, .mv (.const (Go.Value.int Go.IntKind.i64 0))⟩])
  (.seq (.seq (.ops [⟨(some 3), none, .mv (.tmp 0)⟩])
  (.block 0 (.seq (.ops [⟨(some 5), none, .bin .eql 3 (.tmp 3) (.const (Go.Value.int Go.IntKind.i64 5))⟩,
      ⟨(some 4), none, .mv (.tmp 5)⟩])
    (.cond (.tmp 4)
      (.seq (.ops [⟨(some 2), none, .mv (.const (Go.Value.int Go.IntKind.i64 32))⟩])
      (.ret))
      (.seq (.ops [⟨(some 7), none, .bin .eql 3 (.tmp 3) (.const (Go.Value.int Go.IntKind.i64 6))⟩,
        ⟨(some 6), none, .mv (.tmp 7)⟩])
      (.cond (.tmp 6)
        (.seq (.ops [⟨(some 2), none, .mv (.const (Go.Value.int Go.IntKind.i64 64))⟩])
        (.ret))
        (.seq (.ops [⟨(some 9), none, .bin .eql 3 (.tmp 3) (.const (Go.Value.int Go.IntKind.i64 7))⟩,
          ⟨(some 8), none, .mv (.tmp 9)⟩])
        (.cond (.tmp 8)
          (.seq (.ops [⟨(some 2), none, .mv (.const (Go.Value.int Go.IntKind.i64 128))⟩])
          (.ret))
          (.seq (.ops [⟨(some 11), none, .bin .eql 3 (.tmp 3) (.const (Go.Value.int Go.IntKind.i64 8))⟩,
            ⟨(some 10), none, .mv (.tmp 11)⟩])
          (.cond (.tmp 10)
            (.seq (.ops [⟨(some 2), none, .mv (.const (Go.Value.int Go.IntKind.i64 256))⟩])
            (.ret))
            (.seq (.ops [⟨(some 13), none, .bin .eql 3 (.tmp 3) (.const (Go.Value.int Go.IntKind.i64 9))⟩,
              ⟨(some 12), none, .mv (.tmp 13)⟩])
            (.cond (.tmp 12)
              (.seq (.ops [⟨(some 2), none, .mv (.const (Go.Value.int Go.IntKind.i64 512))⟩])
              (.ret))
              (.skip)))))))))))))
  (.seq (.ops [⟨(some 2), none, .mv (.const (Go.Value.int Go.IntKind.i64 0))⟩])
  (.ret)))
theorem is_ref02_Size : FnIs Try.prog F.ref02_Size X.ref02_Size 14 [.tmp 2] := ⟨by kernel_rfl⟩

/-- haycroft/haycroftref02.Page: function 28 -/
abbrev F.ref02_Page : FuncId := 28
def X.ref02_Page : X :=
  .seq (.ops [⟨(some 4), none, .mv (.const (Go.Value.int Go.IntKind.i64 0))⟩])
  (.seq (.ops [⟨(some 6), none, .mv (.tmp 0)⟩,
    ⟨(some 7), none, .call 25 [(.tmp 6)]⟩,
    ⟨(some 5), none, .mv (.tmp 7)⟩])
  (.seq (.seq (.ops [⟨(some 8), none, .mv (.tmp 5)⟩,
    ⟨(some 9), none, .bin .eql 3 (.tmp 8) (.const (Go.Value.int Go.IntKind.i64 0))⟩,
    ⟨(some 10), none, .mv (.tmp 9)⟩,
    ⟨(some 11), (some (10, false)), .mv (.tmp 1)⟩,
    ⟨(some 12), (some (10, false)), .bin .gtr 22 (.tmp 11) (.const (Go.Value.int Go.IntKind.u64 281474976710655))⟩,
    ⟨(some 13), none, .pick (.tmp 10) (.const (Go.Value.bool true)) (.tmp 12)⟩])
  (.cond (.tmp 13)
    (.seq (.ops [⟨(some 4), none, .mv (.const (Go.Value.int Go.IntKind.i64 0))⟩])
    (.ret))
    (.skip)))
  (.seq (.ops [⟨(some 14), none, .mv (.tmp 1)⟩,
    ⟨(some 15), none, .mv (.tmp 5)⟩,
    ⟨(some 16), none, .conv Go.IntKind.u64 (.tmp 15)⟩,
    ⟨(some 17), none, .bin .quo 22 (.tmp 14) (.tmp 16)⟩,
    ⟨(some 18), none, .conv Go.IntKind.i64 (.tmp 17)⟩,
    ⟨(some 4), none, .mv (.tmp 18)⟩])
  (.ret))))
theorem is_ref02_Page : FnIs Try.prog F.ref02_Page X.ref02_Page 19 [.tmp 4] := ⟨by kernel_rfl⟩

/-- haycroft/haycroftref02.Offset: function 30 -/
abbrev F.ref02_Offset : FuncId := 30
def X.ref02_Offset : X :=
  .seq (.ops [⟨(some 4), none, .mv (.const (Go.Value.int Go.IntKind.i64 0))⟩])
  (.seq (.ops [⟨(some 6), none, .mv (.tmp 0)⟩,
    ⟨(some 7), none, .call 25 [(.tmp 6)]⟩,
    ⟨(some 5), none, .mv (.tmp 7)⟩])
  (.seq (.seq (.ops [⟨(some 8), none, .mv (.tmp 5)⟩,
    ⟨(some 9), none, .bin .eql 3 (.tmp 8) (.const (Go.Value.int Go.IntKind.i64 0))⟩,
    ⟨(some 10), none, .mv (.tmp 9)⟩,
    ⟨(some 11), (some (10, false)), .mv (.tmp 1)⟩,
    ⟨(some 12), (some (10, false)), .bin .gtr 22 (.tmp 11) (.const (Go.Value.int Go.IntKind.u64 281474976710655))⟩,
    ⟨(some 13), none, .pick (.tmp 10) (.const (Go.Value.bool true)) (.tmp 12)⟩])
  (.cond (.tmp 13)
    (.seq (.ops [⟨(some 4), none, .mv (.const (Go.Value.int Go.IntKind.i64 0))⟩])
    (.ret))
    (.skip)))
  (.seq (.ops [⟨(some 14), none, .mv (.tmp 1)⟩,
    ⟨(some 15), none, .mv (.tmp 5)⟩,
    ⟨(some 16), none, .conv Go.IntKind.u64 (.tmp 15)⟩,
    ⟨(some 17), none, .bin .rem 22 (.tmp 14) (.tmp 16)⟩,
    ⟨(some 18), none, .conv Go.IntKind.i64 (.tmp 17)⟩,
    ⟨(some 4), none, .mv (.tmp 18)⟩])
  (.ret))))
theorem is_ref02_Offset : FnIs Try.prog F.ref02_Offset X.ref02_Offset 19 [.tmp 4] := ⟨by kernel_rfl⟩

/-- haycroft/haycroftref02.Room: function 32 -/
abbrev F.ref02_Room : FuncId := 32
def X.ref02_Room : X :=
  .seq (.ops [⟨(some 4), none, .mv (.const (Go.Value.int Go.IntKind.i64 0))⟩])
  (.seq (.seq (.ops [⟨(some 5), none, .mv (.tmp 0)⟩,
    ⟨(some 6), none, .call 25 [(.tmp 5)]⟩,
    ⟨(some 7), none, .bin .eql 3 (.tmp 6) (.const (Go.Value.int Go.IntKind.i64 0))⟩,
    ⟨(some 8), none, .mv (.tmp 7)⟩,
    ⟨(some 9), (some (8, false)), .mv (.tmp 1)⟩,
    ⟨(some 10), (some (8, false)), .bin .gtr 22 (.tmp 9) (.const (Go.Value.int Go.IntKind.u64 281474976710655))⟩,
    ⟨(some 11), none, .pick (.tmp 8) (.const (Go.Value.bool true)) (.tmp 10)⟩])
  (.cond (.tmp 11)
    (.seq (.ops [⟨(some 4), none, .mv (.const (Go.Value.int Go.IntKind.i64 0))⟩])
    (.ret))
    (.skip)))
  (.seq (.ops [⟨(some 12), none, .mv (.tmp 0)⟩,
    ⟨(some 13), none, .call 25 [(.tmp 12)]⟩,
    ⟨(some 14), none, .mv (.tmp 0)⟩,
    ⟨(some 15), none, .mv (.tmp 1)⟩,
    ⟨(some 16), none, .call 30 [(.tmp 14), (.tmp 15)]⟩,
    ⟨(some 17), none, .bin .sub 3 (.tmp 13) (.tmp 16)⟩,
    ⟨(some 4), none, .mv (.tmp 17)⟩])
  (.ret)))
theorem is_ref02_Room : FnIs Try.prog F.ref02_Room X.ref02_Room 18 [.tmp 4] := ⟨by kernel_rfl⟩

/-- haycroft/place.Right: function 33 -/
abbrev F.place_Right : FuncId := 33
def X.place_Right : X :=
  .seq (.ops [⟨(some 2), none, .mv (.const (Go.Value.bool false))⟩])
  (.seq (.ops [⟨(some 3), none, .mv (.tmp 0)⟩,
    ⟨(some 4), none, .bin .gtr 22 (.tmp 3) (.const (Go.Value.int Go.IntKind.u64 0))⟩,
    ⟨(some 5), none, .mv (.tmp 4)⟩,
    ⟨(some 6), (some (5, true)), .mv (.tmp 0)⟩,
    ⟨(some 7), (some (5, true)), .bin .leq 22 (.tmp 6) (.const (Go.Value.int Go.IntKind.u64 281474976710655))⟩,
    ⟨(some 8), none, .pick (.tmp 5) (.tmp 7) (.const (Go.Value.bool false))⟩,
    ⟨(some 2), none, .mv (.tmp 8)⟩])
  (.ret))
theorem is_place_Right : FnIs Try.prog F.place_Right X.place_Right 9 [.tmp 2] := ⟨by kernel_rfl⟩

/-- haycroft/haycroftlaw02.PlaceParts: function 5 -/
abbrev F.law02_PlaceParts : FuncId := 5
def X.law02_PlaceParts : X :=
  .seq (.ops [⟨(some 4), none, .mv (.const (Go.Value.bool false))⟩])
  (.seq (.seq (.ops [⟨(some 5), none, .call 23 []⟩,
    ⟨(some 6), none, .un .not (.tmp 5)⟩])
  (.cond (.tmp 6)
    (.seq (.ops [⟨(some 4), none, .mv (.const (Go.Value.bool false))⟩])
    (.ret))
    (.skip)))
  (.seq (.ops [⟨(some 7), none, .mv (.tmp 0)⟩,
    ⟨(some 8), none, .call 24 [(.tmp 7)]⟩,
    ⟨(some 9), none, .mv (.tmp 0)⟩,
    ⟨(some 10), none, .call 25 [(.tmp 9)]⟩,
    ⟨(some 11), none, .bin .gtr 3 (.tmp 10) (.const (Go.Value.int Go.IntKind.i64 0))⟩,
    ⟨(some 12), none, .eq false .bool (.tmp 8) (.tmp 11)⟩,
    ⟨(some 13), none, .mv (.tmp 12)⟩,
    ⟨(some 14), (some (13, true)), .mv (.tmp 0)⟩,
    ⟨(some 15), (some (13, true)), .call 26 [(.tmp 14)]⟩,
    ⟨(some 16), (some (13, true)), .mv (.tmp 0)⟩,
    ⟨(some 17), (some (13, true)), .call 25 [(.tmp 16)]⟩,
    ⟨(some 18), (some (13, true)), .bin .eql 3 (.tmp 15) (.tmp 17)⟩,
    ⟨(some 19), none, .pick (.tmp 13) (.tmp 18) (.const (Go.Value.bool false))⟩,
    ⟨(some 20), none, .mv (.tmp 19)⟩,
    ⟨(some 21), (some (20, true)), .mv (.tmp 0)⟩,
    ⟨(some 22), (some (20, true)), .mv (.tmp 1)⟩,
    ⟨(some 23), (some (20, true)), .call 27 [(.tmp 21), (.tmp 22)]⟩,
    ⟨(some 24), (some (20, true)), .mv (.tmp 0)⟩,
    ⟨(some 25), (some (20, true)), .mv (.tmp 1)⟩,
    ⟨(some 26), (some (20, true)), .call 28 [(.tmp 24), (.tmp 25)]⟩,
    ⟨(some 27), (some (20, true)), .bin .eql 3 (.tmp 23) (.tmp 26)⟩,
    ⟨(some 28), none, .pick (.tmp 20) (.tmp 27) (.const (Go.Value.bool false))⟩,
    ⟨(some 29), none, .mv (.tmp 28)⟩,
    ⟨(some 30), (some (29, true)), .mv (.tmp 0)⟩,
    ⟨(some 31), (some (29, true)), .mv (.tmp 1)⟩,
    ⟨(some 32), (some (29, true)), .call 29 [(.tmp 30), (.tmp 31)]⟩,
    ⟨(some 33), (some (29, true)), .mv (.tmp 0)⟩,
    ⟨(some 34), (some (29, true)), .mv (.tmp 1)⟩,
    ⟨(some 35), (some (29, true)), .call 30 [(.tmp 33), (.tmp 34)]⟩,
    ⟨(some 36), (some (29, true)), .bin .eql 3 (.tmp 32) (.tmp 35)⟩,
    ⟨(some 37), none, .pick (.tmp 29) (.tmp 36) (.const (Go.Value.bool false))⟩,
    ⟨(some 38), none, .mv (.tmp 37)⟩,
    ⟨(some 39), (some (38, true)), .mv (.tmp 0)⟩,
    ⟨(some 40), (some (38, true)), .mv (.tmp 1)⟩,
    ⟨(some 41), (some (38, true)), .call 31 [(.tmp 39), (.tmp 40)]⟩,
    ⟨(some 42), (some (38, true)), .mv (.tmp 0)⟩,
    ⟨(some 43), (some (38, true)), .mv (.tmp 1)⟩,
    ⟨(some 44), (some (38, true)), .call 32 [(.tmp 42), (.tmp 43)]⟩,
    ⟨(some 45), (some (38, true)), .bin .eql 3 (.tmp 41) (.tmp 44)⟩,
    ⟨(some 46), none, .pick (.tmp 38) (.tmp 45) (.const (Go.Value.bool false))⟩,
    ⟨(some 47), none, .mv (.tmp 46)⟩,
    ⟨(some 48), (some (47, true)), .mv (.tmp 1)⟩,
    ⟨(some 49), (some (47, true)), .call 33 [(.tmp 48)]⟩,
    ⟨(some 50), (some (47, true)), .mv (.tmp 1)⟩,
    ⟨(some 51), (some (47, true)), .bin .geq 22 (.tmp 50) (.const (Go.Value.int Go.IntKind.u64 1))⟩,
    ⟨(some 52), (some (47, true)), .mv (.tmp 51)⟩,
    ⟨(some 53), (some (52, true)), .mv (.tmp 1)⟩,
    ⟨(some 54), (some (52, true)), .bin .leq 22 (.tmp 53) (.const (Go.Value.int Go.IntKind.u64 281474976710655))⟩,
    ⟨(some 55), (some (47, true)), .pick (.tmp 52) (.tmp 54) (.const (Go.Value.bool false))⟩,
    ⟨(some 56), (some (47, true)), .eq false .bool (.tmp 49) (.tmp 55)⟩,
    ⟨(some 57), none, .pick (.tmp 47) (.tmp 56) (.const (Go.Value.bool false))⟩,
    ⟨(some 4), none, .mv (.tmp 57)⟩])
  (.ret)))
theorem is_law02_PlaceParts : FnIs Try.prog F.law02_PlaceParts X.law02_PlaceParts 58 [.tmp 4] := ⟨by kernel_rfl⟩

/-- haycroft/drain.New: function 35 -/
abbrev F.drain_New : FuncId := 35
def X.drain_New : X :=
  .seq (.ops [⟨(some 0), none, .mv (.const (Go.Value.pointer none))⟩])
  (.seq (.ops [⟨(some 1), none, .bld [(Go.Value.slice none 0 0)] []⟩,
    ⟨(some 2), none, .box 83 (.tmp 1)⟩,
    ⟨(some 0), none, .mv (.tmp 2)⟩])
  (.ret))
theorem is_drain_New : FnIs Try.prog F.drain_New X.drain_New 3 [.tmp 0] := ⟨by kernel_rfl⟩

/-- (*haycroft/drain.List).Put: function 36 -/
abbrev F.drain_List_Put : FuncId := 36
def X.drain_List_Put : X :=
  .seq (.ops [⟨(some 3), none, .box 43 (.tmp 1)⟩,
    ⟨(some 4), none, .mv (.const (Go.Value.int Go.IntKind.i64 0))⟩])
  (.seq (.block 0 (.seq (.ops [⟨(some 6), none, .mv (.tmp 0)⟩,
      ⟨(some 7), none, .eq false .ptr (.tmp 6) (.const (Go.Value.pointer none))⟩,
      ⟨(some 5), none, .mv (.tmp 7)⟩])
    (.cond (.tmp 5)
      (.seq (.ops [⟨(some 4), none, .mv (.const (Go.Value.int Go.IntKind.i64 2))⟩])
      (.ret))
      (.seq (.ops [⟨(some 9), none, .mv (.tmp 0)⟩,
        ⟨(some 10), none, .nilc (.tmp 9)⟩,
        ⟨(some 11), none, .fld (.tmp 10) 0⟩,
        ⟨(some 12), none, .ld (.tmp 11) none⟩,
        ⟨(some 13), none, .lenS (.tmp 12)⟩,
        ⟨(some 14), none, .bin .geq 3 (.tmp 13) (.const (Go.Value.int Go.IntKind.i64 16))⟩,
        ⟨(some 8), none, .mv (.tmp 14)⟩])
      (.cond (.tmp 8)
        (.seq (.ops [⟨(some 4), none, .mv (.const (Go.Value.int Go.IntKind.i64 9))⟩])
        (.ret))
        (.skip))))))
  (.seq (.drawn [(0, ⟨(some 15), none, .mv (.tmp 0)⟩),
    (1, ⟨(some 16), none, .mv (.tmp 0)⟩),
    (2, ⟨(some 17), none, .nilc (.tmp 16)⟩),
    (3, ⟨(some 18), none, .fld (.tmp 17) 0⟩),
    (4, ⟨(some 19), none, .ld (.tmp 18) none⟩),
    (5, ⟨(some 20), none, .ld (.tmp 3) (some 3)⟩),
    (6, ⟨(some 21), none, .bsl 43 3 1 [(Go.Value.int Go.IntKind.u64 0), (Go.Value.int Go.IntKind.i64 0), (Go.Value.int Go.IntKind.i64 0)] [(0, (.tmp 20))]⟩),
    (7, ⟨(some 22), none, .app 43 3 24 [(Go.Value.int Go.IntKind.u64 0), (Go.Value.int Go.IntKind.i64 0), (Go.Value.int Go.IntKind.i64 0)] (.tmp 19) (.tmp 21)⟩),
    (8, ⟨(some 23), none, .nilc (.tmp 15)⟩),
    (9, ⟨(some 24), none, .fld (.tmp 23) 0⟩),
    (10, ⟨none, none, .st (.tmp 24) (.tmp 22) 1⟩)]
    [[], [], [1], [2], [3], [], [5], [4, 6], [0, 0, 1, 2, 3, 4, 5, 6, 7], [8, 0, 1, 2, 3, 4, 5, 6, 7], [9, 7, 7, 0, 1, 2, 3, 4, 5, 6, 7]]
    [0, 0, 2, 6, 14, 0, 32, 126, 255, 511, 1023] 1216)
  (.seq (.ops [⟨(some 4), none, .mv (.const (Go.Value.int Go.IntKind.i64 0))⟩])
  (.ret))))
theorem is_drain_List_Put : FnIs Try.prog F.drain_List_Put X.drain_List_Put 25 [.tmp 4] := ⟨by kernel_rfl⟩

-- loop (inner ones first): [0, 1, 5, 6, 14, 15, 16]
/-- (*haycroft/drain.List).Ready: function 37 -/
abbrev F.drain_List_Ready : FuncId := 37
def X.drain_List_Ready : X :=
  .seq (.ops [⟨(some 4), none, .mv (.const (Go.Value.slice none 0 0))⟩])
  (.seq (.seq (.ops [⟨(some 9), none, .mv (.tmp 0)⟩,
    ⟨(some 10), none, .eq false .ptr (.tmp 9) (.const (Go.Value.pointer none))⟩])
  (.cond (.tmp 10)
    (.seq (.ops [⟨(some 4), none, .mv (.const (Go.Value.slice none 0 0))⟩])
    (.ret))
    (.skip)))
  (.seq (.ops [⟨(some 5), none, .mv (.const (Go.Value.slice none 0 0))⟩,
    ⟨(some 6), none, .mv (.const (Go.Value.slice none 0 0))⟩])
  (.seq (.seq (.ops [⟨(some 11), none, .mv (.tmp 0)⟩,
    ⟨(some 12), none, .nilc (.tmp 11)⟩,
    ⟨(some 13), none, .fld (.tmp 12) 0⟩,
    ⟨(some 14), none, .ld (.tmp 13) none⟩,
    ⟨(some 15), none, .lenS (.tmp 14)⟩,
    ⟨(some 16), none, .mv (.const (Go.Value.int Go.IntKind.i64 0))⟩])
  (.block 0 (.loop (.seq (.ops [⟨(some 17), none, .bin .lss 3 (.tmp 16) (.tmp 15)⟩])
      (.seq (.cond (.tmp 17)
        (.skip)
        (.exit 0))
      (.seq (.block 1 (.seq (.ops [⟨(some 18), none, .idx (.tmp 14) (.tmp 16) 3⟩,
          ⟨(some 19), none, .ld (.tmp 18) (some 3)⟩,
          ⟨(some 8), none, .new 43 (Go.Value.agg #[(Go.Value.int Go.IntKind.u64 0), (Go.Value.int Go.IntKind.i64 0), (Go.Value.int Go.IntKind.i64 0)])⟩,
          ⟨none, none, .st (.tmp 8) (.tmp 19) 3⟩])
        (.seq (.ops [⟨(some 20), none, .fld (.tmp 8) 0⟩,
          ⟨(some 21), none, .ld (.tmp 20) none⟩,
          ⟨(some 22), none, .mv (.tmp 1)⟩,
          ⟨(some 23), none, .bin .leq 22 (.tmp 21) (.tmp 22)⟩])
        (.cond (.tmp 23)
          (.ops [⟨(some 24), none, .mv (.tmp 5)⟩,
            ⟨(some 25), none, .ld (.tmp 8) (some 3)⟩,
            ⟨(some 26), none, .bsl 43 3 1 [(Go.Value.int Go.IntKind.u64 0), (Go.Value.int Go.IntKind.i64 0), (Go.Value.int Go.IntKind.i64 0)] [(0, (.tmp 25))]⟩,
            ⟨(some 27), none, .app 43 3 24 [(Go.Value.int Go.IntKind.u64 0), (Go.Value.int Go.IntKind.i64 0), (Go.Value.int Go.IntKind.i64 0)] (.tmp 24) (.tmp 26)⟩,
            ⟨(some 5), none, .mv (.tmp 27)⟩])
          (.ops [⟨(some 28), none, .mv (.tmp 6)⟩,
            ⟨(some 29), none, .ld (.tmp 8) (some 3)⟩,
            ⟨(some 30), none, .bsl 43 3 1 [(Go.Value.int Go.IntKind.u64 0), (Go.Value.int Go.IntKind.i64 0), (Go.Value.int Go.IntKind.i64 0)] [(0, (.tmp 29))]⟩,
            ⟨(some 31), none, .app 43 3 24 [(Go.Value.int Go.IntKind.u64 0), (Go.Value.int Go.IntKind.i64 0), (Go.Value.int Go.IntKind.i64 0)] (.tmp 28) (.tmp 30)⟩,
            ⟨(some 6), none, .mv (.tmp 31)⟩])))))
      (.ops [⟨(some 32), none, .bin .add 3 (.tmp 16) (.const (Go.Value.int Go.IntKind.i64 1))⟩,
        ⟨(some 16), none, .mv (.tmp 32)⟩])))))))
  (.seq (.ops [⟨(some 33), none, .mv (.tmp 0)⟩,
    ⟨(some 34), none, .mv (.tmp 6)⟩,
    ⟨(some 35), none, .nilc (.tmp 33)⟩,
    ⟨(some 36), none, .fld (.tmp 35) 0⟩,
    ⟨none, none, .st (.tmp 36) (.tmp 34) 1⟩])
  (.seq (.ops [⟨(some 37), none, .mv (.tmp 5)⟩,
    ⟨(some 4), none, .mv (.tmp 37)⟩])
  (.ret))))))
theorem is_drain_List_Ready : FnIs Try.prog F.drain_List_Ready X.drain_List_Ready 38 [.tmp 4] := ⟨by kernel_rfl⟩

/-- haycroft/haycroftlaw07.awake: function 34 -/
abbrev F.law07_awake : FuncId := 34
def X.law07_awake : X :=
  .seq (.ops [⟨(some 0), none, .mv (.const (Go.Value.bool false))⟩])
  (.seq (.ops [⟨(some 3), none, .call 35 []⟩,
    ⟨(some 1), none, .mv (.tmp 3)⟩])
  (.seq (.ops [⟨(some 4), none, .mv (.tmp 1)⟩,
    ⟨(some 5), none, .bld [(Go.Value.int Go.IntKind.u64 0), (Go.Value.int Go.IntKind.i64 0), (Go.Value.int Go.IntKind.i64 0)] [(0, 1, (.const (Go.Value.int Go.IntKind.u64 3))), (1, 1, (.const (Go.Value.int Go.IntKind.i64 1)))]⟩,
    ⟨(some 6), none, .call 36 [(.tmp 4), (.tmp 5)]⟩,
    ⟨(some 2), none, .mv (.tmp 6)⟩])
  (.seq (.ops [⟨(some 7), none, .mv (.tmp 2)⟩,
    ⟨(some 8), none, .bin .eql 24 (.tmp 7) (.const (Go.Value.int Go.IntKind.i64 0))⟩,
    ⟨(some 9), none, .mv (.tmp 8)⟩,
    ⟨(some 10), (some (9, true)), .mv (.tmp 1)⟩,
    ⟨(some 11), (some (9, true)), .call 37 [(.tmp 10), (.const (Go.Value.int Go.IntKind.u64 2))]⟩,
    ⟨(some 12), (some (9, true)), .lenS (.tmp 11)⟩,
    ⟨(some 13), (some (9, true)), .bin .eql 3 (.tmp 12) (.const (Go.Value.int Go.IntKind.i64 0))⟩,
    ⟨(some 14), none, .pick (.tmp 9) (.tmp 13) (.const (Go.Value.bool false))⟩,
    ⟨(some 15), none, .mv (.tmp 14)⟩,
    ⟨(some 16), (some (15, true)), .mv (.tmp 1)⟩,
    ⟨(some 17), (some (15, true)), .call 37 [(.tmp 16), (.const (Go.Value.int Go.IntKind.u64 3))]⟩,
    ⟨(some 18), (some (15, true)), .lenS (.tmp 17)⟩,
    ⟨(some 19), (some (15, true)), .bin .eql 3 (.tmp 18) (.const (Go.Value.int Go.IntKind.i64 1))⟩,
    ⟨(some 20), none, .pick (.tmp 15) (.tmp 19) (.const (Go.Value.bool false))⟩,
    ⟨(some 21), none, .mv (.tmp 20)⟩,
    ⟨(some 22), (some (21, true)), .mv (.tmp 1)⟩,
    ⟨(some 23), (some (21, true)), .call 37 [(.tmp 22), (.const (Go.Value.int Go.IntKind.u64 3))]⟩,
    ⟨(some 24), (some (21, true)), .lenS (.tmp 23)⟩,
    ⟨(some 25), (some (21, true)), .bin .eql 3 (.tmp 24) (.const (Go.Value.int Go.IntKind.i64 0))⟩,
    ⟨(some 26), none, .pick (.tmp 21) (.tmp 25) (.const (Go.Value.bool false))⟩,
    ⟨(some 0), none, .mv (.tmp 26)⟩])
  (.ret))))
theorem is_law07_awake : FnIs Try.prog F.law07_awake X.law07_awake 27 [.tmp 0] := ⟨by kernel_rfl⟩

/-- slices.Clone[[]haycroft/api.Action,haycroft/api.Action]: function 64 -/
abbrev F.slices_Clone_api_Action_api_Action : FuncId := 64
def X.slices_Clone_api_Action_api_Action : X :=
  .seq (.ops [⟨(some 2), none, .mv (.const (Go.Value.slice none 0 0))⟩])
  (.seq (.seq (.ops [⟨(some 3), none, .mv (.tmp 0)⟩,
    ⟨(some 4), none, .eq false .slice (.tmp 3) (.const (Go.Value.slice none 0 0))⟩])
  (.cond (.tmp 4)
    (.seq (.ops [⟨(some 2), none, .mv (.const (Go.Value.slice none 0 0))⟩])
    (.ret))
    (.skip)))
  (.seq (.ops [⟨(some 5), none, .bsl 43 3 0 [(Go.Value.int Go.IntKind.u64 0), (Go.Value.int Go.IntKind.i64 0), (Go.Value.int Go.IntKind.i64 0)] []⟩,
    ⟨(some 6), none, .mv (.tmp 0)⟩,
    ⟨(some 7), none, .app 43 3 24 [(Go.Value.int Go.IntKind.u64 0), (Go.Value.int Go.IntKind.i64 0), (Go.Value.int Go.IntKind.i64 0)] (.tmp 5) (.tmp 6)⟩,
    ⟨(some 2), none, .mv (.tmp 7)⟩])
  (.ret)))
theorem is_slices_Clone_api_Action_api_Action : FnIs Try.prog F.slices_Clone_api_Action_api_Action X.slices_Clone_api_Action_api_Action 8 [.tmp 2] := ⟨by kernel_rfl⟩

/-- (*haycroft/drain.List).Waiting: function 54 -/
abbrev F.drain_List_Waiting : FuncId := 54
def X.drain_List_Waiting : X :=
  .seq (.ops [⟨(some 2), none, .mv (.const (Go.Value.slice none 0 0))⟩])
  (.seq (.seq (.ops [⟨(some 3), none, .mv (.tmp 0)⟩,
    ⟨(some 4), none, .eq false .ptr (.tmp 3) (.const (Go.Value.pointer none))⟩])
  (.cond (.tmp 4)
    (.seq (.ops [⟨(some 2), none, .mv (.const (Go.Value.slice none 0 0))⟩])
    (.ret))
    (.skip)))
  (.seq (.ops [⟨(some 5), none, .mv (.tmp 0)⟩,
    ⟨(some 6), none, .nilc (.tmp 5)⟩,
    ⟨(some 7), none, .fld (.tmp 6) 0⟩,
    ⟨(some 8), none, .ld (.tmp 7) none⟩,
    ⟨(some 9), none, .call 64 [(.tmp 8)]⟩,
    ⟨(some 2), none, .mv (.tmp 9)⟩])
  (.ret)))
theorem is_drain_List_Waiting : FnIs Try.prog F.drain_List_Waiting X.drain_List_Waiting 10 [.tmp 2] := ⟨by kernel_rfl⟩

/-- (*haycroft/drain.List).Len: function 38 -/
abbrev F.drain_List_Len : FuncId := 38
def X.drain_List_Len : X :=
  .seq (.ops [⟨(some 2), none, .mv (.const (Go.Value.int Go.IntKind.i64 0))⟩])
  (.seq (.ops [⟨(some 3), none, .mv (.tmp 0)⟩,
    ⟨(some 4), none, .call 54 [(.tmp 3)]⟩,
    ⟨(some 5), none, .lenS (.tmp 4)⟩,
    ⟨(some 2), none, .mv (.tmp 5)⟩])
  (.ret))
theorem is_drain_List_Len : FnIs Try.prog F.drain_List_Len X.drain_List_Len 6 [.tmp 2] := ⟨by kernel_rfl⟩

-- loop (inner ones first): [1, 5, 6, 8, 9, 10, 11, 12, 13]
-- loop (inner ones first): [1, 5, 6, 8, 9, 10]
-- loop (inner ones first): [0, 1, 5, 6, 7]
/-- haycroft/haycroftlaw07.DrainOnce: function 6 -/
abbrev F.law07_DrainOnce : FuncId := 6
def X.law07_DrainOnce : X :=
  .seq (.ops [⟨(some 4), none, .mv (.const (Go.Value.bool false))⟩])
  (.seq (.seq (.ops [⟨(some 14), none, .call 34 []⟩,
    ⟨(some 15), none, .un .not (.tmp 14)⟩])
  (.cond (.tmp 15)
    (.seq (.ops [⟨(some 4), none, .mv (.const (Go.Value.bool false))⟩])
    (.ret))
    (.skip)))
  (.seq (.ops [⟨(some 16), none, .call 35 []⟩,
    ⟨(some 5), none, .mv (.tmp 16)⟩])
  (.seq (.ops [⟨(some 6), none, .mv (.const (Go.Value.int Go.IntKind.i64 0))⟩])
  (.seq (.seq (.ops [⟨(some 7), none, .mv (.const (Go.Value.int Go.IntKind.i64 0))⟩])
  (.block 0 (.loop (.seq (.seq (.ops [⟨(some 17), none, .mv (.tmp 7)⟩,
        ⟨(some 18), none, .mv (.tmp 0)⟩,
        ⟨(some 19), none, .lenS (.tmp 18)⟩,
        ⟨(some 20), none, .bin .lss 3 (.tmp 17) (.tmp 19)⟩,
        ⟨(some 21), none, .mv (.tmp 20)⟩,
        ⟨(some 22), (some (21, true)), .mv (.tmp 7)⟩,
        ⟨(some 23), (some (21, true)), .bin .lss 3 (.tmp 22) (.const (Go.Value.int Go.IntKind.i64 16))⟩,
        ⟨(some 24), none, .pick (.tmp 21) (.tmp 23) (.const (Go.Value.bool false))⟩])
      (.cond (.tmp 24)
        (.skip)
        (.exit 0)))
      (.seq (.block 1 (.seq (.seq (.ops [⟨(some 27), none, .mv (.tmp 5)⟩,
          ⟨(some 28), none, .mv (.tmp 0)⟩,
          ⟨(some 29), none, .mv (.tmp 7)⟩,
          ⟨(some 30), none, .idx (.tmp 28) (.tmp 29) 3⟩,
          ⟨(some 31), none, .ld (.tmp 30) (some 3)⟩,
          ⟨(some 32), none, .call 36 [(.tmp 27), (.tmp 31)]⟩,
          ⟨(some 33), none, .bin .neq 24 (.tmp 32) (.const (Go.Value.int Go.IntKind.i64 0))⟩])
        (.cond (.tmp 33)
          (.seq (.ops [⟨(some 4), none, .mv (.const (Go.Value.bool false))⟩])
          (.ret))
          (.skip)))
        (.ops [⟨(some 34), none, .mv (.tmp 6)⟩,
          ⟨(some 35), none, .bin .add 3 (.tmp 34) (.const (Go.Value.int Go.IntKind.i64 1))⟩,
          ⟨(some 6), none, .mv (.tmp 35)⟩])))
      (.ops [⟨(some 25), none, .mv (.tmp 7)⟩,
        ⟨(some 26), none, .bin .add 3 (.tmp 25) (.const (Go.Value.int Go.IntKind.i64 1))⟩,
        ⟨(some 7), none, .mv (.tmp 26)⟩]))))))
  (.seq (.ops [⟨(some 8), none, .mv (.const (Go.Value.int Go.IntKind.u64 0))⟩])
  (.seq (.ops [⟨(some 9), none, .mv (.const (Go.Value.int Go.IntKind.i64 0))⟩])
  (.seq (.seq (.ops [⟨(some 10), none, .mv (.const (Go.Value.int Go.IntKind.i64 0))⟩])
  (.block 2 (.loop (.seq (.seq (.ops [⟨(some 36), none, .mv (.tmp 10)⟩,
        ⟨(some 37), none, .mv (.tmp 1)⟩,
        ⟨(some 38), none, .lenS (.tmp 37)⟩,
        ⟨(some 39), none, .bin .lss 3 (.tmp 36) (.tmp 38)⟩,
        ⟨(some 40), none, .mv (.tmp 39)⟩,
        ⟨(some 41), (some (40, true)), .mv (.tmp 10)⟩,
        ⟨(some 42), (some (40, true)), .bin .lss 3 (.tmp 41) (.const (Go.Value.int Go.IntKind.i64 100))⟩,
        ⟨(some 43), none, .pick (.tmp 40) (.tmp 42) (.const (Go.Value.bool false))⟩])
      (.cond (.tmp 43)
        (.skip)
        (.exit 2)))
      (.seq (.block 3 (.seq (.ops [⟨(some 46), none, .mv (.tmp 8)⟩,
          ⟨(some 11), none, .mv (.tmp 46)⟩])
        (.seq (.ops [⟨(some 47), none, .mv (.tmp 8)⟩,
          ⟨(some 48), none, .mv (.tmp 1)⟩,
          ⟨(some 49), none, .mv (.tmp 10)⟩,
          ⟨(some 50), none, .idx (.tmp 48) (.tmp 49) 1⟩,
          ⟨(some 51), none, .ld (.tmp 50) none⟩,
          ⟨(some 52), none, .conv Go.IntKind.u64 (.tmp 51)⟩,
          ⟨(some 53), none, .bin .add 22 (.tmp 47) (.tmp 52)⟩,
          ⟨(some 8), none, .mv (.tmp 53)⟩])
        (.seq (.ops [⟨(some 54), none, .mv (.tmp 5)⟩,
          ⟨(some 55), none, .mv (.tmp 8)⟩,
          ⟨(some 56), none, .call 37 [(.tmp 54), (.tmp 55)]⟩,
          ⟨(some 12), none, .mv (.tmp 56)⟩])
        (.seq (.seq (.ops [⟨(some 13), none, .mv (.const (Go.Value.int Go.IntKind.i64 0))⟩])
        (.block 4 (.loop (.seq (.seq (.ops [⟨(some 57), none, .mv (.tmp 13)⟩,
              ⟨(some 58), none, .mv (.tmp 12)⟩,
              ⟨(some 59), none, .lenS (.tmp 58)⟩,
              ⟨(some 60), none, .bin .lss 3 (.tmp 57) (.tmp 59)⟩])
            (.cond (.tmp 60)
              (.skip)
              (.exit 4)))
            (.seq (.block 5 (.seq (.ops [⟨(some 63), none, .mv (.tmp 12)⟩,
                ⟨(some 64), none, .mv (.tmp 13)⟩,
                ⟨(some 65), none, .idx (.tmp 63) (.tmp 64) 3⟩,
                ⟨(some 66), none, .fld (.tmp 65) 0⟩,
                ⟨(some 67), none, .ld (.tmp 66) none⟩,
                ⟨(some 68), none, .mv (.tmp 8)⟩,
                ⟨(some 69), none, .bin .gtr 22 (.tmp 67) (.tmp 68)⟩,
                ⟨(some 70), none, .mv (.tmp 69)⟩,
                ⟨(some 71), (some (70, false)), .mv (.tmp 10)⟩,
                ⟨(some 72), (some (70, false)), .bin .gtr 3 (.tmp 71) (.const (Go.Value.int Go.IntKind.i64 0))⟩,
                ⟨(some 73), (some (70, false)), .mv (.tmp 72)⟩,
                ⟨(some 74), (some (73, true)), .mv (.tmp 12)⟩,
                ⟨(some 75), (some (73, true)), .mv (.tmp 13)⟩,
                ⟨(some 76), (some (73, true)), .idx (.tmp 74) (.tmp 75) 3⟩,
                ⟨(some 77), (some (73, true)), .fld (.tmp 76) 0⟩,
                ⟨(some 78), (some (73, true)), .ld (.tmp 77) none⟩,
                ⟨(some 79), (some (73, true)), .mv (.tmp 11)⟩,
                ⟨(some 80), (some (73, true)), .bin .leq 22 (.tmp 78) (.tmp 79)⟩,
                ⟨(some 81), (some (70, false)), .pick (.tmp 73) (.tmp 80) (.const (Go.Value.bool false))⟩,
                ⟨(some 82), none, .pick (.tmp 70) (.const (Go.Value.bool true)) (.tmp 81)⟩])
              (.cond (.tmp 82)
                (.seq (.ops [⟨(some 4), none, .mv (.const (Go.Value.bool false))⟩])
                (.ret))
                (.skip))))
            (.ops [⟨(some 61), none, .mv (.tmp 13)⟩,
              ⟨(some 62), none, .bin .add 3 (.tmp 61) (.const (Go.Value.int Go.IntKind.i64 1))⟩,
              ⟨(some 13), none, .mv (.tmp 62)⟩]))))))
        (.ops [⟨(some 83), none, .mv (.tmp 9)⟩,
          ⟨(some 84), none, .mv (.tmp 12)⟩,
          ⟨(some 85), none, .lenS (.tmp 84)⟩,
          ⟨(some 86), none, .bin .add 3 (.tmp 83) (.tmp 85)⟩,
          ⟨(some 9), none, .mv (.tmp 86)⟩]))))))
      (.ops [⟨(some 44), none, .mv (.tmp 10)⟩,
        ⟨(some 45), none, .bin .add 3 (.tmp 44) (.const (Go.Value.int Go.IntKind.i64 1))⟩,
        ⟨(some 10), none, .mv (.tmp 45)⟩]))))))
  (.seq (.ops [⟨(some 87), none, .mv (.tmp 9)⟩,
    ⟨(some 88), none, .mv (.tmp 5)⟩,
    ⟨(some 89), none, .call 38 [(.tmp 88)]⟩,
    ⟨(some 90), none, .bin .add 3 (.tmp 87) (.tmp 89)⟩,
    ⟨(some 91), none, .mv (.tmp 6)⟩,
    ⟨(some 92), none, .bin .eql 3 (.tmp 90) (.tmp 91)⟩,
    ⟨(some 4), none, .mv (.tmp 92)⟩])
  (.ret)))))))))
theorem is_law07_DrainOnce : FnIs Try.prog F.law07_DrainOnce X.law07_DrainOnce 93 [.tmp 4] := ⟨by kernel_rfl⟩

/-- haycroft/field.Set: function 39 -/
abbrev F.field_Set : FuncId := 39
def X.field_Set : X :=
  .seq (.ops [⟨(some 6), none, .mv (.const (Go.Value.int Go.IntKind.u64 0))⟩])
  (.seq (.ops [⟨(some 7), none, .mv (.const (Go.Value.int Go.IntKind.u64 0))⟩])
  (.seq (.seq (.ops [⟨(some 10), none, .mv (.tmp 2)⟩])
  (.cond (.tmp 10)
    (.ops [⟨(some 7), none, .mv (.const (Go.Value.int Go.IntKind.u64 1))⟩])
    (.skip)))
  (.seq (.ops [⟨(some 12), none, .mv (.tmp 0)⟩,
    ⟨(some 13), none, .mv (.tmp 1)⟩,
    ⟨(some 14), none, .mv (.tmp 7)⟩,
    ⟨(some 15), none, .call 15 [(.tmp 12), (.tmp 13), (.const (Go.Value.int Go.IntKind.i64 1)), (.tmp 14)]⟩,
    ⟨(some 11), none, .mv (.tmp 15)⟩,
    ⟨(some 16), none, .ext (.tmp 11) 0⟩,
    ⟨(some 17), none, .ext (.tmp 11) 1⟩,
    ⟨(some 8), none, .mv (.tmp 16)⟩,
    ⟨(some 9), none, .mv (.tmp 17)⟩])
  (.seq (.seq (.ops [⟨(some 18), none, .mv (.tmp 9)⟩,
    ⟨(some 19), none, .bin .neq 24 (.tmp 18) (.const (Go.Value.int Go.IntKind.i64 0))⟩])
  (.cond (.tmp 19)
    (.seq (.ops [⟨(some 20), none, .mv (.tmp 0)⟩,
      ⟨(some 6), none, .mv (.tmp 20)⟩])
    (.ret))
    (.skip)))
  (.seq (.ops [⟨(some 21), none, .mv (.tmp 8)⟩,
    ⟨(some 6), none, .mv (.tmp 21)⟩])
  (.ret))))))
theorem is_field_Set : FnIs Try.prog F.field_Set X.field_Set 22 [.tmp 6] := ⟨by kernel_rfl⟩

/-- haycroft/field.Flag: function 40 -/
abbrev F.field_Flag : FuncId := 40
def X.field_Flag : X :=
  .seq (.ops [⟨(some 4), none, .mv (.const (Go.Value.bool false))⟩])
  (.seq (.ops [⟨(some 5), none, .mv (.tmp 0)⟩,
    ⟨(some 6), none, .mv (.tmp 1)⟩,
    ⟨(some 7), none, .call 21 [(.tmp 5), (.tmp 6), (.const (Go.Value.int Go.IntKind.i64 1))]⟩,
    ⟨(some 8), none, .bin .eql 22 (.tmp 7) (.const (Go.Value.int Go.IntKind.u64 1))⟩,
    ⟨(some 4), none, .mv (.tmp 8)⟩])
  (.ret))
theorem is_field_Flag : FnIs Try.prog F.field_Flag X.field_Flag 9 [.tmp 4] := ⟨by kernel_rfl⟩

/-- haycroft/haycroftlaw01.FieldFlags: function 7 -/
abbrev F.law01_FieldFlags : FuncId := 7
def X.law01_FieldFlags : X :=
  .seq (.ops [⟨(some 6), none, .mv (.const (Go.Value.bool false))⟩])
  (.seq (.seq (.ops [⟨(some 10), none, .call 14 []⟩,
    ⟨(some 11), none, .un .not (.tmp 10)⟩])
  (.cond (.tmp 11)
    (.seq (.ops [⟨(some 6), none, .mv (.const (Go.Value.bool false))⟩])
    (.ret))
    (.skip)))
  (.seq (.ops [⟨(some 12), none, .mv (.tmp 0)⟩,
    ⟨(some 13), none, .mv (.tmp 1)⟩,
    ⟨(some 14), none, .mv (.tmp 2)⟩,
    ⟨(some 15), none, .call 39 [(.tmp 12), (.tmp 13), (.tmp 14)]⟩,
    ⟨(some 7), none, .mv (.tmp 15)⟩])
  (.seq (.seq (.ops [⟨(some 16), none, .mv (.tmp 1)⟩,
    ⟨(some 17), none, .bin .lss 3 (.tmp 16) (.const (Go.Value.int Go.IntKind.i64 0))⟩,
    ⟨(some 18), none, .mv (.tmp 17)⟩,
    ⟨(some 19), (some (18, false)), .mv (.tmp 1)⟩,
    ⟨(some 20), (some (18, false)), .bin .gtr 3 (.tmp 19) (.const (Go.Value.int Go.IntKind.i64 63))⟩,
    ⟨(some 21), none, .pick (.tmp 18) (.const (Go.Value.bool true)) (.tmp 20)⟩])
  (.cond (.tmp 21)
    (.seq (.ops [⟨(some 22), none, .mv (.tmp 7)⟩,
      ⟨(some 23), none, .mv (.tmp 0)⟩,
      ⟨(some 24), none, .bin .eql 22 (.tmp 22) (.tmp 23)⟩,
      ⟨(some 25), none, .mv (.tmp 24)⟩,
      ⟨(some 26), (some (25, true)), .mv (.tmp 0)⟩,
      ⟨(some 27), (some (25, true)), .mv (.tmp 1)⟩,
      ⟨(some 28), (some (25, true)), .call 40 [(.tmp 26), (.tmp 27)]⟩,
      ⟨(some 29), (some (25, true)), .un .not (.tmp 28)⟩,
      ⟨(some 30), none, .pick (.tmp 25) (.tmp 29) (.const (Go.Value.bool false))⟩,
      ⟨(some 6), none, .mv (.tmp 30)⟩])
    (.ret))
    (.skip)))
  (.seq (.ops [⟨(some 31), none, .mv (.tmp 0)⟩,
    ⟨(some 32), none, .call 41 [(.tmp 31)]⟩,
    ⟨(some 8), none, .mv (.tmp 32)⟩])
  (.seq (.ops [⟨(some 33), none, .mv (.tmp 8)⟩,
    ⟨(some 34), none, .mv (.tmp 1)⟩,
    ⟨(some 35), none, .idx (.tmp 33) (.tmp 34) 1⟩,
    ⟨(some 36), none, .ld (.tmp 35) none⟩,
    ⟨(some 37), none, .bin .eql 3 (.tmp 36) (.const (Go.Value.int Go.IntKind.i64 1))⟩,
    ⟨(some 9), none, .mv (.tmp 37)⟩])
  (.seq (.ops [⟨(some 38), none, .mv (.tmp 8)⟩,
    ⟨(some 39), none, .mv (.tmp 1)⟩,
    ⟨(some 40), none, .idx (.tmp 38) (.tmp 39) 1⟩,
    ⟨none, none, .st (.tmp 40) (.const (Go.Value.int Go.IntKind.i64 0)) 1⟩])
  (.seq (.seq (.ops [⟨(some 41), none, .mv (.tmp 2)⟩])
  (.cond (.tmp 41)
    (.ops [⟨(some 42), none, .mv (.tmp 8)⟩,
      ⟨(some 43), none, .mv (.tmp 1)⟩,
      ⟨(some 44), none, .idx (.tmp 42) (.tmp 43) 1⟩,
      ⟨none, none, .st (.tmp 44) (.const (Go.Value.int Go.IntKind.i64 1)) 1⟩])
    (.skip)))
  (.seq (.ops [⟨(some 45), none, .mv (.tmp 0)⟩,
    ⟨(some 46), none, .mv (.tmp 1)⟩,
    ⟨(some 47), none, .call 40 [(.tmp 45), (.tmp 46)]⟩,
    ⟨(some 48), none, .mv (.tmp 9)⟩,
    ⟨(some 49), none, .eq false .bool (.tmp 47) (.tmp 48)⟩,
    ⟨(some 50), none, .mv (.tmp 49)⟩,
    ⟨(some 51), (some (50, true)), .mv (.tmp 7)⟩,
    ⟨(some 52), (some (50, true)), .mv (.tmp 8)⟩,
    ⟨(some 53), (some (50, true)), .call 42 [(.tmp 52)]⟩,
    ⟨(some 54), (some (50, true)), .bin .eql 22 (.tmp 51) (.tmp 53)⟩,
    ⟨(some 55), none, .pick (.tmp 50) (.tmp 54) (.const (Go.Value.bool false))⟩,
    ⟨(some 56), none, .mv (.tmp 55)⟩,
    ⟨(some 57), (some (56, true)), .mv (.tmp 7)⟩,
    ⟨(some 58), (some (56, true)), .mv (.tmp 1)⟩,
    ⟨(some 59), (some (56, true)), .call 40 [(.tmp 57), (.tmp 58)]⟩,
    ⟨(some 60), (some (56, true)), .mv (.tmp 2)⟩,
    ⟨(some 61), (some (56, true)), .eq false .bool (.tmp 59) (.tmp 60)⟩,
    ⟨(some 62), none, .pick (.tmp 56) (.tmp 61) (.const (Go.Value.bool false))⟩,
    ⟨(some 6), none, .mv (.tmp 62)⟩])
  (.ret)))))))))
theorem is_law01_FieldFlags : FnIs Try.prog F.law01_FieldFlags X.law01_FieldFlags 63 [.tmp 6] := ⟨by kernel_rfl⟩

-- loop (inner ones first): [1, 6, 51, 52, 53]
-- loop (inner ones first): [0, 1, 6, 24, 25]
/-- haycroft/field.Bytes: function 44 -/
abbrev F.field_Bytes : FuncId := 44
def X.field_Bytes : X :=
  .seq (.ops [⟨(some 4), none, .mv (.const (Go.Value.string { data := #[] }))⟩,
    ⟨(some 5), none, .mv (.const (Go.Value.int Go.IntKind.i64 0))⟩])
  (.seq (.block 0 (.seq (.ops [⟨(some 11), none, .mv (.tmp 1)⟩,
      ⟨(some 12), none, .bin .lss 3 (.tmp 11) (.const (Go.Value.int Go.IntKind.i64 0))⟩,
      ⟨(some 10), none, .mv (.tmp 12)⟩])
    (.cond (.tmp 10)
      (.seq (.ops [⟨(some 4), none, .mv (.const (Go.Value.string { data := #[] }))⟩,
        ⟨(some 5), none, .mv (.const (Go.Value.int Go.IntKind.i64 1))⟩])
      (.ret))
      (.seq (.ops [⟨(some 14), none, .mv (.tmp 1)⟩,
        ⟨(some 15), none, .mv (.tmp 0)⟩,
        ⟨(some 16), none, .lenS (.tmp 15)⟩,
        ⟨(some 17), none, .bin .mul 3 (.const (Go.Value.int Go.IntKind.i64 8)) (.tmp 16)⟩,
        ⟨(some 18), none, .bin .gtr 3 (.tmp 14) (.tmp 17)⟩,
        ⟨(some 13), none, .mv (.tmp 18)⟩])
      (.cond (.tmp 13)
        (.seq (.ops [⟨(some 4), none, .mv (.const (Go.Value.string { data := #[] }))⟩,
          ⟨(some 5), none, .mv (.const (Go.Value.int Go.IntKind.i64 3))⟩])
        (.ret))
        (.skip))))))
  (.seq (.ops [⟨(some 19), none, .mv (.tmp 0)⟩,
    ⟨(some 20), none, .lenS (.tmp 19)⟩,
    ⟨(some 21), none, .bin .mul 3 (.const (Go.Value.int Go.IntKind.i64 8)) (.tmp 20)⟩,
    ⟨(some 22), none, .mks 5 1 1 [(Go.Value.int Go.IntKind.u8 0)] (.tmp 21) (.tmp 21)⟩,
    ⟨(some 6), none, .mv (.tmp 22)⟩])
  (.seq (.seq (.ops [⟨(some 23), none, .mv (.tmp 6)⟩,
    ⟨(some 24), none, .lenS (.tmp 23)⟩,
    ⟨(some 25), none, .mv (.const (Go.Value.int Go.IntKind.i64 0))⟩])
  (.block 1 (.loop (.seq (.ops [⟨(some 26), none, .bin .lss 3 (.tmp 25) (.tmp 24)⟩])
      (.seq (.cond (.tmp 26)
        (.skip)
        (.exit 1))
      (.seq (.block 2 (.seq (.ops [⟨(some 27), none, .mv (.tmp 25)⟩,
          ⟨(some 7), none, .mv (.tmp 27)⟩])
        (.ops [⟨(some 28), none, .mv (.tmp 6)⟩,
          ⟨(some 29), none, .mv (.tmp 7)⟩,
          ⟨(some 30), none, .mv (.tmp 0)⟩,
          ⟨(some 31), none, .mv (.tmp 7)⟩,
          ⟨(some 32), none, .bin .quo 3 (.tmp 31) (.const (Go.Value.int Go.IntKind.i64 8))⟩,
          ⟨(some 33), none, .idx (.tmp 30) (.tmp 32) 1⟩,
          ⟨(some 34), none, .ld (.tmp 33) none⟩,
          ⟨(some 35), none, .mv (.tmp 7)⟩,
          ⟨(some 36), none, .bin .rem 3 (.tmp 35) (.const (Go.Value.int Go.IntKind.i64 8))⟩,
          ⟨(some 37), none, .bin .mul 3 (.tmp 36) (.const (Go.Value.int Go.IntKind.i64 8))⟩,
          ⟨(some 38), none, .bin .shr 22 (.tmp 34) (.tmp 37)⟩,
          ⟨(some 39), none, .conv Go.IntKind.u8 (.tmp 38)⟩,
          ⟨(some 40), none, .idx (.tmp 28) (.tmp 29) 1⟩,
          ⟨none, none, .st (.tmp 40) (.tmp 39) 1⟩])))
      (.ops [⟨(some 41), none, .bin .add 3 (.tmp 25) (.const (Go.Value.int Go.IntKind.i64 1))⟩,
        ⟨(some 25), none, .mv (.tmp 41)⟩])))))))
  (.seq (.seq (.ops [⟨(some 42), none, .mv (.tmp 0)⟩,
    ⟨(some 43), none, .lenS (.tmp 42)⟩,
    ⟨(some 44), none, .mv (.tmp 1)⟩,
    ⟨(some 45), none, .bin .add 3 (.tmp 44) (.const (Go.Value.int Go.IntKind.i64 8))⟩,
    ⟨(some 46), none, .bin .sub 3 (.tmp 45) (.const (Go.Value.int Go.IntKind.i64 1))⟩,
    ⟨(some 47), none, .bin .quo 3 (.tmp 46) (.const (Go.Value.int Go.IntKind.i64 8))⟩,
    ⟨(some 48), none, .bin .neq 3 (.tmp 43) (.tmp 47)⟩])
  (.cond (.tmp 48)
    (.seq (.ops [⟨(some 4), none, .mv (.const (Go.Value.string { data := #[] }))⟩,
      ⟨(some 5), none, .mv (.const (Go.Value.int Go.IntKind.i64 4))⟩])
    (.ret))
    (.skip)))
  (.seq (.seq (.ops [⟨(some 49), none, .mv (.tmp 6)⟩,
    ⟨(some 50), none, .mv (.tmp 1)⟩,
    ⟨(some 51), none, .slc 1 (.tmp 49) (some (.tmp 50)) none⟩,
    ⟨(some 52), none, .lenS (.tmp 51)⟩,
    ⟨(some 53), none, .mv (.const (Go.Value.int Go.IntKind.i64 0))⟩])
  (.block 3 (.loop (.seq (.ops [⟨(some 54), none, .bin .lss 3 (.tmp 53) (.tmp 52)⟩])
      (.seq (.cond (.tmp 54)
        (.skip)
        (.exit 3))
      (.seq (.block 4 (.seq (.ops [⟨(some 55), none, .idx (.tmp 51) (.tmp 53) 1⟩,
          ⟨(some 56), none, .ld (.tmp 55) none⟩,
          ⟨(some 9), none, .mv (.tmp 56)⟩])
        (.seq (.ops [⟨(some 57), none, .mv (.tmp 9)⟩,
          ⟨(some 58), none, .bin .neq 5 (.tmp 57) (.const (Go.Value.int Go.IntKind.u8 0))⟩])
        (.cond (.tmp 58)
          (.seq (.ops [⟨(some 4), none, .mv (.const (Go.Value.string { data := #[] }))⟩,
            ⟨(some 5), none, .mv (.const (Go.Value.int Go.IntKind.i64 4))⟩])
          (.ret))
          (.skip)))))
      (.ops [⟨(some 59), none, .bin .add 3 (.tmp 53) (.const (Go.Value.int Go.IntKind.i64 1))⟩,
        ⟨(some 53), none, .mv (.tmp 59)⟩])))))))
  (.seq (.ops [⟨(some 60), none, .mv (.tmp 6)⟩,
    ⟨(some 61), none, .mv (.tmp 1)⟩,
    ⟨(some 62), none, .slc 1 (.tmp 60) none (some (.tmp 61))⟩,
    ⟨(some 63), none, .b2s (.tmp 62)⟩,
    ⟨(some 4), none, .mv (.tmp 63)⟩,
    ⟨(some 5), none, .mv (.const (Go.Value.int Go.IntKind.i64 0))⟩])
  (.ret)))))))
theorem is_field_Bytes : FnIs Try.prog F.field_Bytes X.field_Bytes 64 [.tmp 4, .tmp 5] := ⟨by kernel_rfl⟩

-- loop (inner ones first): [0, 3, 4, 5, 6]
-- loop (inner ones first): [0, 3, 4]
/-- haycroft/haycroftref01.Words: function 46 -/
abbrev F.ref01_Words : FuncId := 46
def X.ref01_Words : X :=
  .seq (.ops [⟨(some 2), none, .mv (.const (Go.Value.slice none 0 0))⟩])
  (.seq (.ops [⟨(some 7), none, .bsl 22 1 0 [(Go.Value.int Go.IntKind.u64 0)] []⟩,
    ⟨(some 3), none, .mv (.tmp 7)⟩])
  (.seq (.seq (.ops [⟨(some 4), none, .mv (.const (Go.Value.int Go.IntKind.i64 0))⟩])
  (.block 0 (.loop (.seq (.seq (.ops [⟨(some 8), none, .mv (.tmp 4)⟩,
        ⟨(some 9), none, .mv (.tmp 0)⟩,
        ⟨(some 10), none, .lenB (.tmp 9)⟩,
        ⟨(some 11), none, .bin .lss 3 (.tmp 8) (.tmp 10)⟩])
      (.cond (.tmp 11)
        (.skip)
        (.exit 0)))
      (.seq (.block 1 (.seq (.ops [⟨(some 5), none, .mv (.const (Go.Value.int Go.IntKind.u64 0))⟩])
        (.seq (.seq (.ops [⟨(some 6), none, .mv (.const (Go.Value.int Go.IntKind.i64 7))⟩])
        (.block 2 (.loop (.seq (.seq (.ops [⟨(some 14), none, .mv (.tmp 6)⟩,
              ⟨(some 15), none, .bin .geq 3 (.tmp 14) (.const (Go.Value.int Go.IntKind.i64 0))⟩])
            (.cond (.tmp 15)
              (.skip)
              (.exit 2)))
            (.seq (.block 3 (.seq (.ops [⟨(some 18), none, .mv (.tmp 5)⟩,
                ⟨(some 19), none, .bin .mul 22 (.tmp 18) (.const (Go.Value.int Go.IntKind.u64 256))⟩,
                ⟨(some 5), none, .mv (.tmp 19)⟩])
              (.seq (.ops [⟨(some 20), none, .mv (.tmp 4)⟩,
                ⟨(some 21), none, .mv (.tmp 6)⟩,
                ⟨(some 22), none, .bin .add 3 (.tmp 20) (.tmp 21)⟩,
                ⟨(some 23), none, .mv (.tmp 0)⟩,
                ⟨(some 24), none, .lenB (.tmp 23)⟩,
                ⟨(some 25), none, .bin .lss 3 (.tmp 22) (.tmp 24)⟩])
              (.cond (.tmp 25)
                (.ops [⟨(some 26), none, .mv (.tmp 5)⟩,
                  ⟨(some 27), none, .mv (.tmp 0)⟩,
                  ⟨(some 28), none, .mv (.tmp 4)⟩,
                  ⟨(some 29), none, .mv (.tmp 6)⟩,
                  ⟨(some 30), none, .bin .add 3 (.tmp 28) (.tmp 29)⟩,
                  ⟨(some 31), none, .ixs (.tmp 27) (.tmp 30)⟩,
                  ⟨(some 32), none, .conv Go.IntKind.u64 (.tmp 31)⟩,
                  ⟨(some 33), none, .bin .add 22 (.tmp 26) (.tmp 32)⟩,
                  ⟨(some 5), none, .mv (.tmp 33)⟩])
                (.skip)))))
            (.ops [⟨(some 16), none, .mv (.tmp 6)⟩,
              ⟨(some 17), none, .bin .sub 3 (.tmp 16) (.const (Go.Value.int Go.IntKind.i64 1))⟩,
              ⟨(some 6), none, .mv (.tmp 17)⟩]))))))
        (.ops [⟨(some 34), none, .mv (.tmp 3)⟩,
          ⟨(some 35), none, .mv (.tmp 5)⟩,
          ⟨(some 36), none, .bsl 22 1 1 [(Go.Value.int Go.IntKind.u64 0)] [(0, (.tmp 35))]⟩,
          ⟨(some 37), none, .app 22 1 8 [(Go.Value.int Go.IntKind.u64 0)] (.tmp 34) (.tmp 36)⟩,
          ⟨(some 3), none, .mv (.tmp 37)⟩]))))
      (.ops [⟨(some 12), none, .mv (.tmp 4)⟩,
        ⟨(some 13), none, .bin .add 3 (.tmp 12) (.const (Go.Value.int Go.IntKind.i64 8))⟩,
        ⟨(some 4), none, .mv (.tmp 13)⟩]))))))
  (.seq (.ops [⟨(some 38), none, .mv (.tmp 3)⟩,
    ⟨(some 2), none, .mv (.tmp 38)⟩])
  (.ret))))
theorem is_ref01_Words : FnIs Try.prog F.ref01_Words X.ref01_Words 39 [.tmp 2] := ⟨by kernel_rfl⟩

-- loop (inner ones first): [0, 1, 5]
/-- haycroft/haycroftref01.Same: function 45 -/
abbrev F.ref01_Same : FuncId := 45
def X.ref01_Same : X :=
  .seq (.ops [⟨(some 4), none, .mv (.const (Go.Value.bool false))⟩])
  (.seq (.seq (.ops [⟨(some 6), none, .mv (.tmp 0)⟩,
    ⟨(some 7), none, .lenS (.tmp 6)⟩,
    ⟨(some 8), none, .mv (.tmp 1)⟩,
    ⟨(some 9), none, .lenS (.tmp 8)⟩,
    ⟨(some 10), none, .bin .neq 3 (.tmp 7) (.tmp 9)⟩])
  (.cond (.tmp 10)
    (.seq (.ops [⟨(some 4), none, .mv (.const (Go.Value.bool false))⟩])
    (.ret))
    (.skip)))
  (.seq (.seq (.ops [⟨(some 5), none, .mv (.const (Go.Value.int Go.IntKind.i64 0))⟩])
  (.block 0 (.loop (.seq (.seq (.ops [⟨(some 11), none, .mv (.tmp 5)⟩,
        ⟨(some 12), none, .mv (.tmp 0)⟩,
        ⟨(some 13), none, .lenS (.tmp 12)⟩,
        ⟨(some 14), none, .bin .lss 3 (.tmp 11) (.tmp 13)⟩])
      (.cond (.tmp 14)
        (.skip)
        (.exit 0)))
      (.seq (.block 1 (.seq (.drawn [(0, ⟨(some 17), none, .mv (.tmp 0)⟩),
          (1, ⟨(some 18), none, .mv (.tmp 5)⟩),
          (2, ⟨(some 19), none, .idx (.tmp 17) (.tmp 18) 1⟩),
          (3, ⟨(some 20), none, .ld (.tmp 19) none⟩),
          (4, ⟨(some 21), none, .mv (.tmp 1)⟩),
          (5, ⟨(some 22), none, .mv (.tmp 5)⟩),
          (6, ⟨(some 23), none, .idx (.tmp 21) (.tmp 22) 1⟩),
          (7, ⟨(some 24), none, .ld (.tmp 23) none⟩),
          (8, ⟨(some 25), none, .bin .neq 22 (.tmp 20) (.tmp 24)⟩)]
          [[], [], [0, 1], [2], [], [], [4, 5], [6], [3, 7]]
          [0, 0, 3, 7, 0, 0, 48, 112, 255] 0)
        (.cond (.tmp 25)
          (.seq (.ops [⟨(some 4), none, .mv (.const (Go.Value.bool false))⟩])
          (.ret))
          (.skip))))
      (.ops [⟨(some 15), none, .mv (.tmp 5)⟩,
        ⟨(some 16), none, .bin .add 3 (.tmp 15) (.const (Go.Value.int Go.IntKind.i64 1))⟩,
        ⟨(some 5), none, .mv (.tmp 16)⟩]))))))
  (.seq (.ops [⟨(some 4), none, .mv (.const (Go.Value.bool true))⟩])
  (.ret))))
theorem is_ref01_Same : FnIs Try.prog F.ref01_Same X.ref01_Same 26 [.tmp 4] := ⟨by kernel_rfl⟩

/-- haycroft/haycroftlaw01.FieldWords: function 8 -/
abbrev F.law01_FieldWords : FuncId := 8
def X.law01_FieldWords : X :=
  .seq (.ops [⟨(some 6), none, .mv (.const (Go.Value.bool false))⟩])
  (.seq (.seq (.ops [⟨(some 14), none, .call 14 []⟩,
    ⟨(some 15), none, .un .not (.tmp 14)⟩])
  (.cond (.tmp 15)
    (.seq (.ops [⟨(some 6), none, .mv (.const (Go.Value.bool false))⟩])
    (.ret))
    (.skip)))
  (.seq (.seq (.ops [⟨(some 16), none, .mv (.tmp 0)⟩,
    ⟨(some 17), none, .lenB (.tmp 16)⟩,
    ⟨(some 18), none, .bin .gtr 3 (.tmp 17) (.const (Go.Value.int Go.IntKind.i64 1000))⟩,
    ⟨(some 19), none, .mv (.tmp 18)⟩,
    ⟨(some 20), (some (19, false)), .mv (.tmp 1)⟩,
    ⟨(some 21), (some (19, false)), .lenS (.tmp 20)⟩,
    ⟨(some 22), (some (19, false)), .bin .gtr 3 (.tmp 21) (.const (Go.Value.int Go.IntKind.i64 1000))⟩,
    ⟨(some 23), none, .pick (.tmp 19) (.const (Go.Value.bool true)) (.tmp 22)⟩])
  (.cond (.tmp 23)
    (.seq (.ops [⟨(some 6), none, .mv (.const (Go.Value.bool true))⟩])
    (.ret))
    (.skip)))
  (.seq (.ops [⟨(some 24), none, .mv (.tmp 0)⟩,
    ⟨(some 25), none, .call 43 [(.tmp 24)]⟩,
    ⟨(some 7), none, .mv (.tmp 25)⟩])
  (.seq (.ops [⟨(some 27), none, .mv (.tmp 7)⟩,
    ⟨(some 28), none, .mv (.tmp 0)⟩,
    ⟨(some 29), none, .lenB (.tmp 28)⟩,
    ⟨(some 30), none, .call 44 [(.tmp 27), (.tmp 29)]⟩,
    ⟨(some 26), none, .mv (.tmp 30)⟩,
    ⟨(some 31), none, .ext (.tmp 26) 0⟩,
    ⟨(some 32), none, .ext (.tmp 26) 1⟩,
    ⟨(some 8), none, .mv (.tmp 31)⟩,
    ⟨(some 9), none, .mv (.tmp 32)⟩])
  (.seq (.seq (.ops [⟨(some 33), none, .mv (.tmp 7)⟩,
    ⟨(some 34), none, .mv (.tmp 0)⟩,
    ⟨(some 35), none, .call 46 [(.tmp 34)]⟩,
    ⟨(some 36), none, .call 45 [(.tmp 33), (.tmp 35)]⟩,
    ⟨(some 37), none, .un .not (.tmp 36)⟩,
    ⟨(some 38), none, .mv (.tmp 37)⟩,
    ⟨(some 39), (some (38, false)), .mv (.tmp 8)⟩,
    ⟨(some 40), (some (38, false)), .mv (.tmp 0)⟩,
    ⟨(some 41), (some (38, false)), .bin .neq 9 (.tmp 39) (.tmp 40)⟩,
    ⟨(some 42), none, .pick (.tmp 38) (.const (Go.Value.bool true)) (.tmp 41)⟩,
    ⟨(some 43), none, .mv (.tmp 42)⟩,
    ⟨(some 44), (some (43, false)), .mv (.tmp 9)⟩,
    ⟨(some 45), (some (43, false)), .bin .neq 24 (.tmp 44) (.const (Go.Value.int Go.IntKind.i64 0))⟩,
    ⟨(some 46), none, .pick (.tmp 43) (.const (Go.Value.bool true)) (.tmp 45)⟩])
  (.cond (.tmp 46)
    (.seq (.ops [⟨(some 6), none, .mv (.const (Go.Value.bool false))⟩])
    (.ret))
    (.skip)))
  (.seq (.ops [⟨(some 48), none, .mv (.tmp 1)⟩,
    ⟨(some 49), none, .mv (.tmp 2)⟩,
    ⟨(some 50), none, .call 44 [(.tmp 48), (.tmp 49)]⟩,
    ⟨(some 47), none, .mv (.tmp 50)⟩,
    ⟨(some 51), none, .ext (.tmp 47) 0⟩,
    ⟨(some 52), none, .ext (.tmp 47) 1⟩,
    ⟨(some 10), none, .mv (.tmp 51)⟩,
    ⟨(some 11), none, .mv (.tmp 52)⟩])
  (.seq (.block 0 (.seq (.ops [⟨(some 54), none, .mv (.tmp 2)⟩,
      ⟨(some 55), none, .bin .lss 3 (.tmp 54) (.const (Go.Value.int Go.IntKind.i64 0))⟩,
      ⟨(some 53), none, .mv (.tmp 55)⟩])
    (.cond (.tmp 53)
      (.seq (.ops [⟨(some 56), none, .mv (.tmp 10)⟩,
        ⟨(some 57), none, .bin .eql 9 (.tmp 56) (.const (Go.Value.string { data := #[] }))⟩,
        ⟨(some 58), none, .mv (.tmp 57)⟩,
        ⟨(some 59), (some (58, true)), .mv (.tmp 11)⟩,
        ⟨(some 60), (some (58, true)), .bin .eql 24 (.tmp 59) (.const (Go.Value.int Go.IntKind.i64 1))⟩,
        ⟨(some 61), none, .pick (.tmp 58) (.tmp 60) (.const (Go.Value.bool false))⟩,
        ⟨(some 6), none, .mv (.tmp 61)⟩])
      (.ret))
      (.seq (.ops [⟨(some 63), none, .mv (.tmp 2)⟩,
        ⟨(some 64), none, .mv (.tmp 1)⟩,
        ⟨(some 65), none, .lenS (.tmp 64)⟩,
        ⟨(some 66), none, .bin .mul 3 (.const (Go.Value.int Go.IntKind.i64 8)) (.tmp 65)⟩,
        ⟨(some 67), none, .bin .gtr 3 (.tmp 63) (.tmp 66)⟩,
        ⟨(some 62), none, .mv (.tmp 67)⟩])
      (.cond (.tmp 62)
        (.seq (.ops [⟨(some 68), none, .mv (.tmp 10)⟩,
          ⟨(some 69), none, .bin .eql 9 (.tmp 68) (.const (Go.Value.string { data := #[] }))⟩,
          ⟨(some 70), none, .mv (.tmp 69)⟩,
          ⟨(some 71), (some (70, true)), .mv (.tmp 11)⟩,
          ⟨(some 72), (some (70, true)), .bin .eql 24 (.tmp 71) (.const (Go.Value.int Go.IntKind.i64 3))⟩,
          ⟨(some 73), none, .pick (.tmp 70) (.tmp 72) (.const (Go.Value.bool false))⟩,
          ⟨(some 6), none, .mv (.tmp 73)⟩])
        (.ret))
        (.seq (.ops [⟨(some 75), none, .mv (.tmp 11)⟩,
          ⟨(some 76), none, .bin .neq 24 (.tmp 75) (.const (Go.Value.int Go.IntKind.i64 0))⟩,
          ⟨(some 74), none, .mv (.tmp 76)⟩])
        (.cond (.tmp 74)
          (.seq (.ops [⟨(some 78), none, .mv (.tmp 1)⟩,
            ⟨(some 79), none, .mv (.tmp 1)⟩,
            ⟨(some 80), none, .lenS (.tmp 79)⟩,
            ⟨(some 81), none, .bin .mul 3 (.const (Go.Value.int Go.IntKind.i64 8)) (.tmp 80)⟩,
            ⟨(some 82), none, .call 44 [(.tmp 78), (.tmp 81)]⟩,
            ⟨(some 77), none, .mv (.tmp 82)⟩,
            ⟨(some 83), none, .ext (.tmp 77) 0⟩,
            ⟨(some 84), none, .ext (.tmp 77) 1⟩,
            ⟨(some 12), none, .mv (.tmp 83)⟩,
            ⟨(some 13), none, .mv (.tmp 84)⟩])
          (.seq (.ops [⟨(some 85), none, .mv (.tmp 10)⟩,
            ⟨(some 86), none, .bin .eql 9 (.tmp 85) (.const (Go.Value.string { data := #[] }))⟩,
            ⟨(some 87), none, .mv (.tmp 86)⟩,
            ⟨(some 88), (some (87, true)), .mv (.tmp 11)⟩,
            ⟨(some 89), (some (87, true)), .bin .eql 24 (.tmp 88) (.const (Go.Value.int Go.IntKind.i64 4))⟩,
            ⟨(some 90), none, .pick (.tmp 87) (.tmp 89) (.const (Go.Value.bool false))⟩,
            ⟨(some 91), none, .mv (.tmp 90)⟩,
            ⟨(some 92), (some (91, true)), .mv (.tmp 1)⟩,
            ⟨(some 93), (some (91, true)), .lenS (.tmp 92)⟩,
            ⟨(some 94), (some (91, true)), .mv (.tmp 2)⟩,
            ⟨(some 95), (some (91, true)), .bin .add 3 (.tmp 94) (.const (Go.Value.int Go.IntKind.i64 7))⟩,
            ⟨(some 96), (some (91, true)), .bin .quo 3 (.tmp 95) (.const (Go.Value.int Go.IntKind.i64 8))⟩,
            ⟨(some 97), (some (91, true)), .bin .gtr 3 (.tmp 93) (.tmp 96)⟩,
            ⟨(some 98), (some (91, true)), .mv (.tmp 97)⟩,
            ⟨(some 99), (some (98, false)), .mv (.tmp 12)⟩,
            ⟨(some 100), (some (98, false)), .mv (.tmp 2)⟩,
            ⟨(some 101), (some (98, false)), .sls (.tmp 99) none (some (.tmp 100))⟩,
            ⟨(some 102), (some (98, false)), .call 46 [(.tmp 101)]⟩,
            ⟨(some 103), (some (98, false)), .mv (.tmp 1)⟩,
            ⟨(some 104), (some (98, false)), .call 45 [(.tmp 102), (.tmp 103)]⟩,
            ⟨(some 105), (some (98, false)), .un .not (.tmp 104)⟩,
            ⟨(some 106), (some (91, true)), .pick (.tmp 98) (.const (Go.Value.bool true)) (.tmp 105)⟩,
            ⟨(some 107), none, .pick (.tmp 91) (.tmp 106) (.const (Go.Value.bool false))⟩,
            ⟨(some 6), none, .mv (.tmp 107)⟩])
          (.ret)))
          (.skip))))))))
  (.seq (.ops [⟨(some 108), none, .mv (.tmp 10)⟩,
    ⟨(some 109), none, .lenB (.tmp 108)⟩,
    ⟨(some 110), none, .mv (.tmp 2)⟩,
    ⟨(some 111), none, .bin .eql 3 (.tmp 109) (.tmp 110)⟩,
    ⟨(some 112), none, .mv (.tmp 111)⟩,
    ⟨(some 113), (some (112, true)), .mv (.tmp 10)⟩,
    ⟨(some 114), (some (112, true)), .call 46 [(.tmp 113)]⟩,
    ⟨(some 115), (some (112, true)), .mv (.tmp 1)⟩,
    ⟨(some 116), (some (112, true)), .call 45 [(.tmp 114), (.tmp 115)]⟩,
    ⟨(some 117), none, .pick (.tmp 112) (.tmp 116) (.const (Go.Value.bool false))⟩,
    ⟨(some 6), none, .mv (.tmp 117)⟩])
  (.ret)))))))))
theorem is_law01_FieldWords : FnIs Try.prog F.law01_FieldWords X.law01_FieldWords 118 [.tmp 6] := ⟨by kernel_rfl⟩

/-- haycroft/place.Add: function 47 -/
abbrev F.place_Add : FuncId := 47
def X.place_Add : X :=
  .seq (.ops [⟨(some 4), none, .mv (.const (Go.Value.int Go.IntKind.u64 0))⟩,
    ⟨(some 5), none, .mv (.const (Go.Value.int Go.IntKind.i64 0))⟩])
  (.seq (.block 0 (.seq (.seq (.ops [⟨(some 7), none, .mv (.tmp 0)⟩,
      ⟨(some 8), none, .bin .gtr 22 (.tmp 7) (.const (Go.Value.int Go.IntKind.u64 281474976710655))⟩,
      ⟨(some 6), none, .mv (.tmp 8)⟩])
    (.cond (.tmp 6)
      (.skip)
      (.ops [⟨(some 9), none, .mv (.tmp 1)⟩,
        ⟨(some 10), none, .bin .lss 3 (.tmp 9) (.const (Go.Value.int Go.IntKind.i64 0))⟩,
        ⟨(some 6), none, .mv (.tmp 10)⟩])))
    (.cond (.tmp 6)
      (.seq (.ops [⟨(some 4), none, .mv (.const (Go.Value.int Go.IntKind.u64 0))⟩,
        ⟨(some 5), none, .mv (.const (Go.Value.int Go.IntKind.i64 1))⟩])
      (.ret))
      (.seq (.ops [⟨(some 12), none, .mv (.tmp 1)⟩,
        ⟨(some 13), none, .conv Go.IntKind.u64 (.tmp 12)⟩,
        ⟨(some 14), none, .mv (.tmp 0)⟩,
        ⟨(some 15), none, .bin .sub 22 (.const (Go.Value.int Go.IntKind.u64 281474976710655)) (.tmp 14)⟩,
        ⟨(some 16), none, .bin .gtr 22 (.tmp 13) (.tmp 15)⟩,
        ⟨(some 11), none, .mv (.tmp 16)⟩])
      (.cond (.tmp 11)
        (.seq (.ops [⟨(some 4), none, .mv (.const (Go.Value.int Go.IntKind.u64 0))⟩,
          ⟨(some 5), none, .mv (.const (Go.Value.int Go.IntKind.i64 13))⟩])
        (.ret))
        (.skip))))))
  (.seq (.ops [⟨(some 17), none, .mv (.tmp 0)⟩,
    ⟨(some 18), none, .mv (.tmp 1)⟩,
    ⟨(some 19), none, .conv Go.IntKind.u64 (.tmp 18)⟩,
    ⟨(some 20), none, .bin .add 22 (.tmp 17) (.tmp 19)⟩,
    ⟨(some 4), none, .mv (.tmp 20)⟩,
    ⟨(some 5), none, .mv (.const (Go.Value.int Go.IntKind.i64 0))⟩])
  (.ret)))
theorem is_place_Add : FnIs Try.prog F.place_Add X.place_Add 21 [.tmp 4, .tmp 5] := ⟨by kernel_rfl⟩

/-- haycroft/haycroftref02.Add: function 48 -/
abbrev F.ref02_Add : FuncId := 48
def X.ref02_Add : X :=
  .seq (.ops [⟨(some 4), none, .mv (.const (Go.Value.int Go.IntKind.u64 0))⟩,
    ⟨(some 5), none, .mv (.const (Go.Value.int Go.IntKind.i64 0))⟩])
  (.seq (.seq (.ops [⟨(some 6), none, .mv (.tmp 0)⟩,
    ⟨(some 7), none, .bin .gtr 22 (.tmp 6) (.const (Go.Value.int Go.IntKind.u64 281474976710655))⟩,
    ⟨(some 8), none, .mv (.tmp 7)⟩,
    ⟨(some 9), (some (8, false)), .mv (.tmp 1)⟩,
    ⟨(some 10), (some (8, false)), .bin .lss 3 (.tmp 9) (.const (Go.Value.int Go.IntKind.i64 0))⟩,
    ⟨(some 11), none, .pick (.tmp 8) (.const (Go.Value.bool true)) (.tmp 10)⟩])
  (.cond (.tmp 11)
    (.seq (.ops [⟨(some 4), none, .mv (.const (Go.Value.int Go.IntKind.u64 0))⟩,
      ⟨(some 5), none, .mv (.const (Go.Value.int Go.IntKind.i64 1))⟩])
    (.ret))
    (.skip)))
  (.seq (.seq (.ops [⟨(some 12), none, .mv (.tmp 1)⟩,
    ⟨(some 13), none, .conv Go.IntKind.u64 (.tmp 12)⟩,
    ⟨(some 14), none, .mv (.tmp 0)⟩,
    ⟨(some 15), none, .bin .sub 22 (.const (Go.Value.int Go.IntKind.u64 281474976710655)) (.tmp 14)⟩,
    ⟨(some 16), none, .bin .gtr 22 (.tmp 13) (.tmp 15)⟩])
  (.cond (.tmp 16)
    (.seq (.ops [⟨(some 4), none, .mv (.const (Go.Value.int Go.IntKind.u64 0))⟩,
      ⟨(some 5), none, .mv (.const (Go.Value.int Go.IntKind.i64 13))⟩])
    (.ret))
    (.skip)))
  (.seq (.ops [⟨(some 17), none, .mv (.tmp 0)⟩,
    ⟨(some 18), none, .mv (.tmp 1)⟩,
    ⟨(some 19), none, .conv Go.IntKind.u64 (.tmp 18)⟩,
    ⟨(some 20), none, .bin .add 22 (.tmp 17) (.tmp 19)⟩,
    ⟨(some 4), none, .mv (.tmp 20)⟩,
    ⟨(some 5), none, .mv (.const (Go.Value.int Go.IntKind.i64 0))⟩])
  (.ret))))
theorem is_ref02_Add : FnIs Try.prog F.ref02_Add X.ref02_Add 21 [.tmp 4, .tmp 5] := ⟨by kernel_rfl⟩

/-- haycroft/place.Fits: function 49 -/
abbrev F.place_Fits : FuncId := 49
def X.place_Fits : X :=
  .seq (.ops [⟨(some 6), none, .mv (.const (Go.Value.bool false))⟩])
  (.seq (.ops [⟨(some 7), none, .mv (.tmp 2)⟩,
    ⟨(some 8), none, .bin .geq 3 (.tmp 7) (.const (Go.Value.int Go.IntKind.i64 1))⟩,
    ⟨(some 9), none, .mv (.tmp 8)⟩,
    ⟨(some 10), (some (9, true)), .mv (.tmp 2)⟩,
    ⟨(some 11), (some (9, true)), .mv (.tmp 0)⟩,
    ⟨(some 12), (some (9, true)), .mv (.tmp 1)⟩,
    ⟨(some 13), (some (9, true)), .call 31 [(.tmp 11), (.tmp 12)]⟩,
    ⟨(some 14), (some (9, true)), .bin .leq 3 (.tmp 10) (.tmp 13)⟩,
    ⟨(some 15), none, .pick (.tmp 9) (.tmp 14) (.const (Go.Value.bool false))⟩,
    ⟨(some 6), none, .mv (.tmp 15)⟩])
  (.ret))
theorem is_place_Fits : FnIs Try.prog F.place_Fits X.place_Fits 16 [.tmp 6] := ⟨by kernel_rfl⟩

/-- haycroft/haycroftlaw02.PlaceAdds: function 9 -/
abbrev F.law02_PlaceAdds : FuncId := 9
def X.law02_PlaceAdds : X :=
  .seq (.ops [⟨(some 6), none, .mv (.const (Go.Value.bool false))⟩])
  (.seq (.seq (.ops [⟨(some 14), none, .call 23 []⟩,
    ⟨(some 15), none, .un .not (.tmp 14)⟩])
  (.cond (.tmp 15)
    (.seq (.ops [⟨(some 6), none, .mv (.const (Go.Value.bool false))⟩])
    (.ret))
    (.skip)))
  (.seq (.ops [⟨(some 17), none, .mv (.tmp 1)⟩,
    ⟨(some 18), none, .mv (.tmp 2)⟩,
    ⟨(some 19), none, .call 47 [(.tmp 17), (.tmp 18)]⟩,
    ⟨(some 16), none, .mv (.tmp 19)⟩,
    ⟨(some 20), none, .ext (.tmp 16) 0⟩,
    ⟨(some 21), none, .ext (.tmp 16) 1⟩,
    ⟨(some 7), none, .mv (.tmp 20)⟩,
    ⟨(some 8), none, .mv (.tmp 21)⟩])
  (.seq (.ops [⟨(some 23), none, .mv (.tmp 1)⟩,
    ⟨(some 24), none, .mv (.tmp 2)⟩,
    ⟨(some 25), none, .call 48 [(.tmp 23), (.tmp 24)]⟩,
    ⟨(some 22), none, .mv (.tmp 25)⟩,
    ⟨(some 26), none, .ext (.tmp 22) 0⟩,
    ⟨(some 27), none, .ext (.tmp 22) 1⟩,
    ⟨(some 9), none, .mv (.tmp 26)⟩,
    ⟨(some 10), none, .mv (.tmp 27)⟩])
  (.seq (.seq (.ops [⟨(some 28), none, .mv (.tmp 7)⟩,
    ⟨(some 29), none, .mv (.tmp 9)⟩,
    ⟨(some 30), none, .bin .neq 22 (.tmp 28) (.tmp 29)⟩,
    ⟨(some 31), none, .mv (.tmp 30)⟩,
    ⟨(some 32), (some (31, false)), .mv (.tmp 8)⟩,
    ⟨(some 33), (some (31, false)), .mv (.tmp 10)⟩,
    ⟨(some 34), (some (31, false)), .bin .neq 24 (.tmp 32) (.tmp 33)⟩,
    ⟨(some 35), none, .pick (.tmp 31) (.const (Go.Value.bool true)) (.tmp 34)⟩])
  (.cond (.tmp 35)
    (.seq (.ops [⟨(some 6), none, .mv (.const (Go.Value.bool false))⟩])
    (.ret))
    (.skip)))
  (.seq (.ops [⟨(some 36), none, .mv (.tmp 0)⟩,
    ⟨(some 37), none, .mv (.tmp 1)⟩,
    ⟨(some 38), none, .mv (.tmp 2)⟩,
    ⟨(some 39), none, .call 49 [(.tmp 36), (.tmp 37), (.tmp 38)]⟩,
    ⟨(some 11), none, .mv (.tmp 39)⟩])
  (.seq (.seq (.ops [⟨(some 40), none, .mv (.tmp 0)⟩,
    ⟨(some 41), none, .call 24 [(.tmp 40)]⟩,
    ⟨(some 42), none, .un .not (.tmp 41)⟩,
    ⟨(some 43), none, .mv (.tmp 42)⟩,
    ⟨(some 44), (some (43, false)), .mv (.tmp 1)⟩,
    ⟨(some 45), (some (43, false)), .bin .gtr 22 (.tmp 44) (.const (Go.Value.int Go.IntKind.u64 281474976710655))⟩,
    ⟨(some 46), none, .pick (.tmp 43) (.const (Go.Value.bool true)) (.tmp 45)⟩,
    ⟨(some 47), none, .mv (.tmp 46)⟩,
    ⟨(some 48), (some (47, false)), .mv (.tmp 2)⟩,
    ⟨(some 49), (some (47, false)), .bin .lss 3 (.tmp 48) (.const (Go.Value.int Go.IntKind.i64 1))⟩,
    ⟨(some 50), none, .pick (.tmp 47) (.const (Go.Value.bool true)) (.tmp 49)⟩])
  (.cond (.tmp 50)
    (.seq (.ops [⟨(some 51), none, .mv (.tmp 11)⟩,
      ⟨(some 52), none, .un .not (.tmp 51)⟩,
      ⟨(some 6), none, .mv (.tmp 52)⟩])
    (.ret))
    (.skip)))
  (.seq (.ops [⟨(some 54), none, .mv (.tmp 1)⟩,
    ⟨(some 55), none, .mv (.tmp 2)⟩,
    ⟨(some 56), none, .bin .sub 3 (.tmp 55) (.const (Go.Value.int Go.IntKind.i64 1))⟩,
    ⟨(some 57), none, .call 47 [(.tmp 54), (.tmp 56)]⟩,
    ⟨(some 53), none, .mv (.tmp 57)⟩,
    ⟨(some 58), none, .ext (.tmp 53) 0⟩,
    ⟨(some 59), none, .ext (.tmp 53) 1⟩,
    ⟨(some 12), none, .mv (.tmp 58)⟩,
    ⟨(some 13), none, .mv (.tmp 59)⟩])
  (.seq (.ops [⟨(some 60), none, .mv (.tmp 11)⟩,
    ⟨(some 61), none, .mv (.tmp 13)⟩,
    ⟨(some 62), none, .bin .eql 24 (.tmp 61) (.const (Go.Value.int Go.IntKind.i64 0))⟩,
    ⟨(some 63), none, .mv (.tmp 62)⟩,
    ⟨(some 64), (some (63, true)), .mv (.tmp 0)⟩,
    ⟨(some 65), (some (63, true)), .mv (.tmp 12)⟩,
    ⟨(some 66), (some (63, true)), .call 27 [(.tmp 64), (.tmp 65)]⟩,
    ⟨(some 67), (some (63, true)), .mv (.tmp 0)⟩,
    ⟨(some 68), (some (63, true)), .mv (.tmp 1)⟩,
    ⟨(some 69), (some (63, true)), .call 27 [(.tmp 67), (.tmp 68)]⟩,
    ⟨(some 70), (some (63, true)), .bin .eql 3 (.tmp 66) (.tmp 69)⟩,
    ⟨(some 71), none, .pick (.tmp 63) (.tmp 70) (.const (Go.Value.bool false))⟩,
    ⟨(some 72), none, .eq false .bool (.tmp 60) (.tmp 71)⟩,
    ⟨(some 6), none, .mv (.tmp 72)⟩])
  (.ret)))))))))
theorem is_law02_PlaceAdds : FnIs Try.prog F.law02_PlaceAdds X.law02_PlaceAdds 73 [.tmp 6] := ⟨by kernel_rfl⟩

-- loop (inner ones first): [0, 3, 4]
/-- (*haycroft/haycroftref07.List).Waiting: function 53 -/
abbrev F.ref07_List_Waiting : FuncId := 53
def X.ref07_List_Waiting : X :=
  .seq (.ops [⟨(some 2), none, .mv (.const (Go.Value.slice none 0 0))⟩])
  (.seq (.ops [⟨(some 5), none, .bsl 43 3 0 [(Go.Value.int Go.IntKind.u64 0), (Go.Value.int Go.IntKind.i64 0), (Go.Value.int Go.IntKind.i64 0)] []⟩,
    ⟨(some 3), none, .mv (.tmp 5)⟩])
  (.seq (.seq (.ops [⟨(some 4), none, .mv (.const (Go.Value.int Go.IntKind.i64 0))⟩])
  (.block 0 (.loop (.seq (.seq (.ops [⟨(some 6), none, .mv (.tmp 4)⟩,
        ⟨(some 7), none, .mv (.tmp 0)⟩,
        ⟨(some 8), none, .nilc (.tmp 7)⟩,
        ⟨(some 9), none, .fld (.tmp 8) 0⟩,
        ⟨(some 10), none, .ld (.tmp 9) none⟩,
        ⟨(some 11), none, .lenS (.tmp 10)⟩,
        ⟨(some 12), none, .bin .lss 3 (.tmp 6) (.tmp 11)⟩])
      (.cond (.tmp 12)
        (.skip)
        (.exit 0)))
      (.seq (.block 1 (.seq (.ops [⟨(some 15), none, .mv (.tmp 0)⟩,
          ⟨(some 16), none, .nilc (.tmp 15)⟩,
          ⟨(some 17), none, .fld (.tmp 16) 1⟩,
          ⟨(some 18), none, .ld (.tmp 17) none⟩,
          ⟨(some 19), none, .mv (.tmp 4)⟩,
          ⟨(some 20), none, .idx (.tmp 18) (.tmp 19) 1⟩,
          ⟨(some 21), none, .ld (.tmp 20) none⟩,
          ⟨(some 22), none, .un .not (.tmp 21)⟩])
        (.cond (.tmp 22)
          (.ops [⟨(some 23), none, .mv (.tmp 3)⟩,
            ⟨(some 24), none, .mv (.tmp 0)⟩,
            ⟨(some 25), none, .nilc (.tmp 24)⟩,
            ⟨(some 26), none, .fld (.tmp 25) 0⟩,
            ⟨(some 27), none, .ld (.tmp 26) none⟩,
            ⟨(some 28), none, .mv (.tmp 4)⟩,
            ⟨(some 29), none, .idx (.tmp 27) (.tmp 28) 3⟩,
            ⟨(some 30), none, .ld (.tmp 29) (some 3)⟩,
            ⟨(some 31), none, .bsl 43 3 1 [(Go.Value.int Go.IntKind.u64 0), (Go.Value.int Go.IntKind.i64 0), (Go.Value.int Go.IntKind.i64 0)] [(0, (.tmp 30))]⟩,
            ⟨(some 32), none, .app 43 3 24 [(Go.Value.int Go.IntKind.u64 0), (Go.Value.int Go.IntKind.i64 0), (Go.Value.int Go.IntKind.i64 0)] (.tmp 23) (.tmp 31)⟩,
            ⟨(some 3), none, .mv (.tmp 32)⟩])
          (.skip))))
      (.ops [⟨(some 13), none, .mv (.tmp 4)⟩,
        ⟨(some 14), none, .bin .add 3 (.tmp 13) (.const (Go.Value.int Go.IntKind.i64 1))⟩,
        ⟨(some 4), none, .mv (.tmp 14)⟩]))))))
  (.seq (.ops [⟨(some 33), none, .mv (.tmp 3)⟩,
    ⟨(some 2), none, .mv (.tmp 33)⟩])
  (.ret))))
theorem is_ref07_List_Waiting : FnIs Try.prog F.ref07_List_Waiting X.ref07_List_Waiting 34 [.tmp 2] := ⟨by kernel_rfl⟩

/-- (*haycroft/haycroftref07.List).Put: function 50 -/
abbrev F.ref07_List_Put : FuncId := 50
def X.ref07_List_Put : X :=
  .seq (.ops [⟨(some 3), none, .box 43 (.tmp 1)⟩,
    ⟨(some 4), none, .mv (.const (Go.Value.int Go.IntKind.i64 0))⟩])
  (.seq (.seq (.ops [⟨(some 5), none, .mv (.tmp 0)⟩,
    ⟨(some 6), none, .call 53 [(.tmp 5)]⟩,
    ⟨(some 7), none, .lenS (.tmp 6)⟩,
    ⟨(some 8), none, .bin .geq 3 (.tmp 7) (.const (Go.Value.int Go.IntKind.i64 16))⟩])
  (.cond (.tmp 8)
    (.seq (.ops [⟨(some 4), none, .mv (.const (Go.Value.int Go.IntKind.i64 9))⟩])
    (.ret))
    (.skip)))
  (.seq (.drawn [(0, ⟨(some 9), none, .mv (.tmp 0)⟩),
    (1, ⟨(some 10), none, .mv (.tmp 0)⟩),
    (2, ⟨(some 11), none, .nilc (.tmp 10)⟩),
    (3, ⟨(some 12), none, .fld (.tmp 11) 0⟩),
    (4, ⟨(some 13), none, .ld (.tmp 12) none⟩),
    (5, ⟨(some 14), none, .ld (.tmp 3) (some 3)⟩),
    (6, ⟨(some 15), none, .bsl 43 3 1 [(Go.Value.int Go.IntKind.u64 0), (Go.Value.int Go.IntKind.i64 0), (Go.Value.int Go.IntKind.i64 0)] [(0, (.tmp 14))]⟩),
    (7, ⟨(some 16), none, .app 43 3 24 [(Go.Value.int Go.IntKind.u64 0), (Go.Value.int Go.IntKind.i64 0), (Go.Value.int Go.IntKind.i64 0)] (.tmp 13) (.tmp 15)⟩),
    (8, ⟨(some 17), none, .nilc (.tmp 9)⟩),
    (9, ⟨(some 18), none, .fld (.tmp 17) 0⟩),
    (10, ⟨none, none, .st (.tmp 18) (.tmp 16) 1⟩)]
    [[], [], [1], [2], [3], [], [5], [4, 6], [0, 0, 1, 2, 3, 4, 5, 6, 7], [8, 0, 1, 2, 3, 4, 5, 6, 7], [9, 7, 7, 0, 1, 2, 3, 4, 5, 6, 7]]
    [0, 0, 2, 6, 14, 0, 32, 126, 255, 511, 1023] 1216)
  (.seq (.ops [⟨(some 19), none, .mv (.tmp 0)⟩,
    ⟨(some 20), none, .mv (.tmp 0)⟩,
    ⟨(some 21), none, .nilc (.tmp 20)⟩,
    ⟨(some 22), none, .fld (.tmp 21) 1⟩,
    ⟨(some 23), none, .ld (.tmp 22) none⟩,
    ⟨(some 24), none, .bsl 4 1 1 [(Go.Value.bool false)] [(0, (.const (Go.Value.bool false)))]⟩,
    ⟨(some 25), none, .app 4 1 1 [(Go.Value.bool false)] (.tmp 23) (.tmp 24)⟩,
    ⟨(some 26), none, .nilc (.tmp 19)⟩,
    ⟨(some 27), none, .fld (.tmp 26) 1⟩,
    ⟨none, none, .st (.tmp 27) (.tmp 25) 1⟩])
  (.seq (.ops [⟨(some 4), none, .mv (.const (Go.Value.int Go.IntKind.i64 0))⟩])
  (.ret)))))
theorem is_ref07_List_Put : FnIs Try.prog F.ref07_List_Put X.ref07_List_Put 28 [.tmp 4] := ⟨by kernel_rfl⟩

-- loop (inner ones first): [0, 1, 5, 6]
/-- (*haycroft/haycroftref07.List).Ready: function 52 -/
abbrev F.ref07_List_Ready : FuncId := 52
def X.ref07_List_Ready : X :=
  .seq (.ops [⟨(some 4), none, .mv (.const (Go.Value.slice none 0 0))⟩])
  (.seq (.ops [⟨(some 7), none, .bsl 43 3 0 [(Go.Value.int Go.IntKind.u64 0), (Go.Value.int Go.IntKind.i64 0), (Go.Value.int Go.IntKind.i64 0)] []⟩,
    ⟨(some 5), none, .mv (.tmp 7)⟩])
  (.seq (.seq (.ops [⟨(some 6), none, .mv (.const (Go.Value.int Go.IntKind.i64 0))⟩])
  (.block 0 (.loop (.seq (.seq (.ops [⟨(some 8), none, .mv (.tmp 6)⟩,
        ⟨(some 9), none, .mv (.tmp 0)⟩,
        ⟨(some 10), none, .nilc (.tmp 9)⟩,
        ⟨(some 11), none, .fld (.tmp 10) 0⟩,
        ⟨(some 12), none, .ld (.tmp 11) none⟩,
        ⟨(some 13), none, .lenS (.tmp 12)⟩,
        ⟨(some 14), none, .bin .lss 3 (.tmp 8) (.tmp 13)⟩])
      (.cond (.tmp 14)
        (.skip)
        (.exit 0)))
      (.seq (.block 1 (.seq (.ops [⟨(some 17), none, .mv (.tmp 0)⟩,
          ⟨(some 18), none, .nilc (.tmp 17)⟩,
          ⟨(some 19), none, .fld (.tmp 18) 1⟩,
          ⟨(some 20), none, .ld (.tmp 19) none⟩,
          ⟨(some 21), none, .mv (.tmp 6)⟩,
          ⟨(some 22), none, .idx (.tmp 20) (.tmp 21) 1⟩,
          ⟨(some 23), none, .ld (.tmp 22) none⟩,
          ⟨(some 24), none, .un .not (.tmp 23)⟩,
          ⟨(some 25), none, .mv (.tmp 24)⟩,
          ⟨(some 26), (some (25, true)), .mv (.tmp 0)⟩,
          ⟨(some 27), (some (25, true)), .nilc (.tmp 26)⟩,
          ⟨(some 28), (some (25, true)), .fld (.tmp 27) 0⟩,
          ⟨(some 29), (some (25, true)), .ld (.tmp 28) none⟩,
          ⟨(some 30), (some (25, true)), .mv (.tmp 6)⟩,
          ⟨(some 31), (some (25, true)), .idx (.tmp 29) (.tmp 30) 3⟩,
          ⟨(some 32), (some (25, true)), .fld (.tmp 31) 0⟩,
          ⟨(some 33), (some (25, true)), .ld (.tmp 32) none⟩,
          ⟨(some 34), (some (25, true)), .mv (.tmp 1)⟩,
          ⟨(some 35), (some (25, true)), .bin .leq 22 (.tmp 33) (.tmp 34)⟩,
          ⟨(some 36), none, .pick (.tmp 25) (.tmp 35) (.const (Go.Value.bool false))⟩])
        (.cond (.tmp 36)
          (.seq (.ops [⟨(some 37), none, .mv (.tmp 5)⟩,
            ⟨(some 38), none, .mv (.tmp 0)⟩,
            ⟨(some 39), none, .nilc (.tmp 38)⟩,
            ⟨(some 40), none, .fld (.tmp 39) 0⟩,
            ⟨(some 41), none, .ld (.tmp 40) none⟩,
            ⟨(some 42), none, .mv (.tmp 6)⟩,
            ⟨(some 43), none, .idx (.tmp 41) (.tmp 42) 3⟩,
            ⟨(some 44), none, .ld (.tmp 43) (some 3)⟩,
            ⟨(some 45), none, .bsl 43 3 1 [(Go.Value.int Go.IntKind.u64 0), (Go.Value.int Go.IntKind.i64 0), (Go.Value.int Go.IntKind.i64 0)] [(0, (.tmp 44))]⟩,
            ⟨(some 46), none, .app 43 3 24 [(Go.Value.int Go.IntKind.u64 0), (Go.Value.int Go.IntKind.i64 0), (Go.Value.int Go.IntKind.i64 0)] (.tmp 37) (.tmp 45)⟩,
            ⟨(some 5), none, .mv (.tmp 46)⟩])
          (.ops [⟨(some 47), none, .mv (.tmp 0)⟩,
            ⟨(some 48), none, .nilc (.tmp 47)⟩,
            ⟨(some 49), none, .fld (.tmp 48) 1⟩,
            ⟨(some 50), none, .ld (.tmp 49) none⟩,
            ⟨(some 51), none, .mv (.tmp 6)⟩,
            ⟨(some 52), none, .idx (.tmp 50) (.tmp 51) 1⟩,
            ⟨none, none, .st (.tmp 52) (.const (Go.Value.bool true)) 1⟩]))
          (.skip))))
      (.ops [⟨(some 15), none, .mv (.tmp 6)⟩,
        ⟨(some 16), none, .bin .add 3 (.tmp 15) (.const (Go.Value.int Go.IntKind.i64 1))⟩,
        ⟨(some 6), none, .mv (.tmp 16)⟩]))))))
  (.seq (.ops [⟨(some 53), none, .mv (.tmp 5)⟩,
    ⟨(some 4), none, .mv (.tmp 53)⟩])
  (.ret))))
theorem is_ref07_List_Ready : FnIs Try.prog F.ref07_List_Ready X.ref07_List_Ready 54 [.tmp 4] := ⟨by kernel_rfl⟩

-- loop (inner ones first): [0, 1, 5]
/-- haycroft/haycroftref07.Same: function 51 -/
abbrev F.ref07_Same : FuncId := 51
def X.ref07_Same : X :=
  .seq (.ops [⟨(some 4), none, .mv (.const (Go.Value.bool false))⟩])
  (.seq (.seq (.ops [⟨(some 6), none, .mv (.tmp 0)⟩,
    ⟨(some 7), none, .lenS (.tmp 6)⟩,
    ⟨(some 8), none, .mv (.tmp 1)⟩,
    ⟨(some 9), none, .lenS (.tmp 8)⟩,
    ⟨(some 10), none, .bin .neq 3 (.tmp 7) (.tmp 9)⟩])
  (.cond (.tmp 10)
    (.seq (.ops [⟨(some 4), none, .mv (.const (Go.Value.bool false))⟩])
    (.ret))
    (.skip)))
  (.seq (.seq (.ops [⟨(some 5), none, .mv (.const (Go.Value.int Go.IntKind.i64 0))⟩])
  (.block 0 (.loop (.seq (.seq (.ops [⟨(some 11), none, .mv (.tmp 5)⟩,
        ⟨(some 12), none, .mv (.tmp 0)⟩,
        ⟨(some 13), none, .lenS (.tmp 12)⟩,
        ⟨(some 14), none, .bin .lss 3 (.tmp 11) (.tmp 13)⟩])
      (.cond (.tmp 14)
        (.skip)
        (.exit 0)))
      (.seq (.block 1 (.seq (.drawn [(0, ⟨(some 17), none, .mv (.tmp 0)⟩),
          (1, ⟨(some 18), none, .mv (.tmp 5)⟩),
          (2, ⟨(some 19), none, .idx (.tmp 17) (.tmp 18) 3⟩),
          (3, ⟨(some 20), none, .ld (.tmp 19) (some 3)⟩),
          (4, ⟨(some 21), none, .mv (.tmp 1)⟩),
          (5, ⟨(some 22), none, .mv (.tmp 5)⟩),
          (6, ⟨(some 23), none, .idx (.tmp 21) (.tmp 22) 3⟩),
          (7, ⟨(some 24), none, .ld (.tmp 23) (some 3)⟩),
          (8, ⟨(some 25), none, .eq true (.agg 3 [(0, 0), (1, 0), (2, 0)]) (.tmp 20) (.tmp 24)⟩)]
          [[], [], [0, 1], [2], [], [], [4, 5], [6], [3, 7]]
          [0, 0, 3, 7, 0, 0, 48, 112, 255] 0)
        (.cond (.tmp 25)
          (.seq (.ops [⟨(some 4), none, .mv (.const (Go.Value.bool false))⟩])
          (.ret))
          (.skip))))
      (.ops [⟨(some 15), none, .mv (.tmp 5)⟩,
        ⟨(some 16), none, .bin .add 3 (.tmp 15) (.const (Go.Value.int Go.IntKind.i64 1))⟩,
        ⟨(some 5), none, .mv (.tmp 16)⟩]))))))
  (.seq (.ops [⟨(some 4), none, .mv (.const (Go.Value.bool true))⟩])
  (.ret))))
theorem is_ref07_Same : FnIs Try.prog F.ref07_Same X.ref07_Same 26 [.tmp 4] := ⟨by kernel_rfl⟩

-- loop (inner ones first): [3, 7, 8, 9]
/-- (*haycroft/drain.List).Least: function 55 -/
abbrev F.drain_List_Least : FuncId := 55
def X.drain_List_Least : X :=
  .seq (.ops [⟨(some 2), none, .mv (.const (Go.Value.int Go.IntKind.u64 0))⟩])
  (.seq (.ops [⟨(some 3), none, .mv (.const (Go.Value.int Go.IntKind.u64 0))⟩])
  (.seq (.seq (.ops [⟨(some 6), none, .mv (.tmp 0)⟩,
    ⟨(some 7), none, .call 54 [(.tmp 6)]⟩,
    ⟨(some 8), none, .lenS (.tmp 7)⟩,
    ⟨(some 9), none, .mv (.const (Go.Value.int Go.IntKind.i64 0))⟩])
  (.block 0 (.loop (.seq (.ops [⟨(some 10), none, .bin .lss 3 (.tmp 9) (.tmp 8)⟩])
      (.seq (.cond (.tmp 10)
        (.skip)
        (.exit 0))
      (.seq (.block 1 (.seq (.ops [⟨(some 11), none, .mv (.tmp 9)⟩,
          ⟨(some 12), none, .idx (.tmp 7) (.tmp 9) 3⟩,
          ⟨(some 13), none, .ld (.tmp 12) (some 3)⟩,
          ⟨(some 5), none, .new 43 (Go.Value.agg #[(Go.Value.int Go.IntKind.u64 0), (Go.Value.int Go.IntKind.i64 0), (Go.Value.int Go.IntKind.i64 0)])⟩,
          ⟨(some 4), none, .mv (.tmp 11)⟩,
          ⟨none, none, .st (.tmp 5) (.tmp 13) 3⟩])
        (.seq (.ops [⟨(some 14), none, .mv (.tmp 4)⟩,
          ⟨(some 15), none, .bin .eql 3 (.tmp 14) (.const (Go.Value.int Go.IntKind.i64 0))⟩,
          ⟨(some 16), none, .mv (.tmp 15)⟩,
          ⟨(some 17), (some (16, false)), .fld (.tmp 5) 0⟩,
          ⟨(some 18), (some (16, false)), .ld (.tmp 17) none⟩,
          ⟨(some 19), (some (16, false)), .mv (.tmp 3)⟩,
          ⟨(some 20), (some (16, false)), .bin .lss 22 (.tmp 18) (.tmp 19)⟩,
          ⟨(some 21), none, .pick (.tmp 16) (.const (Go.Value.bool true)) (.tmp 20)⟩])
        (.cond (.tmp 21)
          (.ops [⟨(some 22), none, .fld (.tmp 5) 0⟩,
            ⟨(some 23), none, .ld (.tmp 22) none⟩,
            ⟨(some 3), none, .mv (.tmp 23)⟩])
          (.skip)))))
      (.ops [⟨(some 24), none, .bin .add 3 (.tmp 9) (.const (Go.Value.int Go.IntKind.i64 1))⟩,
        ⟨(some 9), none, .mv (.tmp 24)⟩])))))))
  (.seq (.ops [⟨(some 25), none, .mv (.tmp 3)⟩,
    ⟨(some 2), none, .mv (.tmp 25)⟩])
  (.ret))))
theorem is_drain_List_Least : FnIs Try.prog F.drain_List_Least X.drain_List_Least 26 [.tmp 2] := ⟨by kernel_rfl⟩

-- loop (inner ones first): [0, 3, 4, 5, 6, 7, 8]
-- loop (inner ones first): [0, 3, 4, 5]
/-- haycroft/haycroftlaw07.DrainPlays: function 10 -/
abbrev F.law07_DrainPlays : FuncId := 10
def X.law07_DrainPlays : X :=
  .seq (.ops [⟨(some 2), none, .mv (.const (Go.Value.bool false))⟩])
  (.seq (.seq (.ops [⟨(some 9), none, .call 34 []⟩,
    ⟨(some 10), none, .un .not (.tmp 9)⟩])
  (.cond (.tmp 10)
    (.seq (.ops [⟨(some 2), none, .mv (.const (Go.Value.bool false))⟩])
    (.ret))
    (.skip)))
  (.seq (.ops [⟨(some 11), none, .call 35 []⟩,
    ⟨(some 3), none, .mv (.tmp 11)⟩])
  (.seq (.ops [⟨(some 12), none, .bld [(Go.Value.slice none 0 0), (Go.Value.slice none 0 0)] []⟩,
    ⟨(some 13), none, .box 65 (.tmp 12)⟩,
    ⟨(some 4), none, .mv (.tmp 13)⟩])
  (.seq (.seq (.ops [⟨(some 5), none, .mv (.const (Go.Value.int Go.IntKind.i64 0))⟩])
  (.block 0 (.loop (.seq (.seq (.ops [⟨(some 14), none, .mv (.tmp 5)⟩,
        ⟨(some 15), none, .mv (.tmp 0)⟩,
        ⟨(some 16), none, .lenS (.tmp 15)⟩,
        ⟨(some 17), none, .bin .lss 3 (.tmp 14) (.tmp 16)⟩,
        ⟨(some 18), none, .mv (.tmp 17)⟩,
        ⟨(some 19), (some (18, true)), .mv (.tmp 5)⟩,
        ⟨(some 20), (some (18, true)), .bin .lss 3 (.tmp 19) (.const (Go.Value.int Go.IntKind.i64 200))⟩,
        ⟨(some 21), none, .pick (.tmp 18) (.tmp 20) (.const (Go.Value.bool false))⟩])
      (.cond (.tmp 21)
        (.skip)
        (.exit 0)))
      (.seq (.block 1 (.seq (.seq (.ops [⟨(some 24), none, .mv (.tmp 0)⟩,
          ⟨(some 25), none, .mv (.tmp 5)⟩,
          ⟨(some 26), none, .idx (.tmp 24) (.tmp 25) 5⟩,
          ⟨(some 27), none, .fld (.tmp 26) 0⟩,
          ⟨(some 28), none, .ld (.tmp 27) none⟩])
        (.cond (.tmp 28)
          (.seq (.drawn [(0, ⟨(some 29), none, .mv (.tmp 3)⟩),
            (1, ⟨(some 30), none, .mv (.tmp 0)⟩),
            (2, ⟨(some 31), none, .mv (.tmp 5)⟩),
            (3, ⟨(some 32), none, .idx (.tmp 30) (.tmp 31) 5⟩),
            (4, ⟨(some 33), none, .fld (.tmp 32) 1⟩),
            (5, ⟨(some 34), none, .ld (.tmp 33) (some 3)⟩),
            (7, ⟨(some 36), none, .mv (.tmp 4)⟩),
            (8, ⟨(some 37), none, .mv (.tmp 0)⟩),
            (9, ⟨(some 38), none, .mv (.tmp 5)⟩),
            (10, ⟨(some 39), none, .idx (.tmp 37) (.tmp 38) 5⟩),
            (11, ⟨(some 40), none, .fld (.tmp 39) 1⟩),
            (12, ⟨(some 41), none, .ld (.tmp 40) (some 3)⟩),
            (6, ⟨(some 35), none, .call 36 [(.tmp 29), (.tmp 34)]⟩),
            (13, ⟨(some 42), none, .call 50 [(.tmp 36), (.tmp 41)]⟩),
            (14, ⟨(some 43), none, .bin .neq 24 (.tmp 35) (.tmp 42)⟩)]
            [[], [], [], [1, 2], [3], [4], [0, 5], [], [], [], [8, 9], [10], [11], [7, 12, 6], [6, 13]]
            [0, 0, 0, 6, 14, 30, 63, 0, 0, 0, 768, 1792, 3840, 8191, 16383] 8256)
          (.cond (.tmp 43)
            (.seq (.ops [⟨(some 2), none, .mv (.const (Go.Value.bool false))⟩])
            (.ret))
            (.skip)))
          (.seq (.drawn [(0, ⟨(some 44), none, .mv (.tmp 3)⟩),
            (1, ⟨(some 45), none, .mv (.tmp 0)⟩),
            (2, ⟨(some 46), none, .mv (.tmp 5)⟩),
            (3, ⟨(some 47), none, .idx (.tmp 45) (.tmp 46) 5⟩),
            (4, ⟨(some 48), none, .fld (.tmp 47) 4⟩),
            (5, ⟨(some 49), none, .ld (.tmp 48) none⟩),
            (7, ⟨(some 51), none, .mv (.tmp 4)⟩),
            (8, ⟨(some 52), none, .mv (.tmp 0)⟩),
            (9, ⟨(some 53), none, .mv (.tmp 5)⟩),
            (10, ⟨(some 54), none, .idx (.tmp 52) (.tmp 53) 5⟩),
            (11, ⟨(some 55), none, .fld (.tmp 54) 4⟩),
            (12, ⟨(some 56), none, .ld (.tmp 55) none⟩),
            (6, ⟨(some 50), none, .call 37 [(.tmp 44), (.tmp 49)]⟩),
            (13, ⟨(some 57), none, .call 52 [(.tmp 51), (.tmp 56)]⟩),
            (14, ⟨(some 58), none, .call 51 [(.tmp 50), (.tmp 57)]⟩),
            (15, ⟨(some 59), none, .un .not (.tmp 58)⟩)]
            [[], [], [], [1, 2], [3], [4], [0, 5], [], [], [], [8, 9], [10], [11], [7, 12, 6], [6, 13, 13], [14]]
            [0, 0, 0, 6, 14, 30, 63, 0, 0, 0, 768, 1792, 3840, 8191, 16383, 32767] 24640)
          (.cond (.tmp 59)
            (.seq (.ops [⟨(some 2), none, .mv (.const (Go.Value.bool false))⟩])
            (.ret))
            (.skip)))))
        (.seq (.ops [⟨(some 60), none, .mv (.tmp 4)⟩,
          ⟨(some 61), none, .call 53 [(.tmp 60)]⟩,
          ⟨(some 6), none, .mv (.tmp 61)⟩])
        (.seq (.ops [⟨(some 7), none, .mv (.const (Go.Value.int Go.IntKind.u64 0))⟩])
        (.seq (.seq (.ops [⟨(some 8), none, .mv (.const (Go.Value.int Go.IntKind.i64 0))⟩])
        (.block 2 (.loop (.seq (.seq (.ops [⟨(some 62), none, .mv (.tmp 8)⟩,
              ⟨(some 63), none, .mv (.tmp 6)⟩,
              ⟨(some 64), none, .lenS (.tmp 63)⟩,
              ⟨(some 65), none, .bin .lss 3 (.tmp 62) (.tmp 64)⟩])
            (.cond (.tmp 65)
              (.skip)
              (.exit 2)))
            (.seq (.block 3 (.seq (.ops [⟨(some 68), none, .mv (.tmp 8)⟩,
                ⟨(some 69), none, .bin .eql 3 (.tmp 68) (.const (Go.Value.int Go.IntKind.i64 0))⟩,
                ⟨(some 70), none, .mv (.tmp 69)⟩,
                ⟨(some 71), (some (70, false)), .mv (.tmp 6)⟩,
                ⟨(some 72), (some (70, false)), .mv (.tmp 8)⟩,
                ⟨(some 73), (some (70, false)), .idx (.tmp 71) (.tmp 72) 3⟩,
                ⟨(some 74), (some (70, false)), .fld (.tmp 73) 0⟩,
                ⟨(some 75), (some (70, false)), .ld (.tmp 74) none⟩,
                ⟨(some 76), (some (70, false)), .mv (.tmp 7)⟩,
                ⟨(some 77), (some (70, false)), .bin .lss 22 (.tmp 75) (.tmp 76)⟩,
                ⟨(some 78), none, .pick (.tmp 70) (.const (Go.Value.bool true)) (.tmp 77)⟩])
              (.cond (.tmp 78)
                (.ops [⟨(some 79), none, .mv (.tmp 6)⟩,
                  ⟨(some 80), none, .mv (.tmp 8)⟩,
                  ⟨(some 81), none, .idx (.tmp 79) (.tmp 80) 3⟩,
                  ⟨(some 82), none, .fld (.tmp 81) 0⟩,
                  ⟨(some 83), none, .ld (.tmp 82) none⟩,
                  ⟨(some 7), none, .mv (.tmp 83)⟩])
                (.skip))))
            (.ops [⟨(some 66), none, .mv (.tmp 8)⟩,
              ⟨(some 67), none, .bin .add 3 (.tmp 66) (.const (Go.Value.int Go.IntKind.i64 1))⟩,
              ⟨(some 8), none, .mv (.tmp 67)⟩]))))))
        (.seq (.ops [⟨(some 84), none, .mv (.tmp 3)⟩,
          ⟨(some 85), none, .call 54 [(.tmp 84)]⟩,
          ⟨(some 86), none, .mv (.tmp 6)⟩,
          ⟨(some 87), none, .call 51 [(.tmp 85), (.tmp 86)]⟩,
          ⟨(some 88), none, .un .not (.tmp 87)⟩,
          ⟨(some 89), none, .mv (.tmp 88)⟩,
          ⟨(some 90), (some (89, false)), .mv (.tmp 3)⟩,
          ⟨(some 91), (some (89, false)), .call 38 [(.tmp 90)]⟩,
          ⟨(some 92), (some (89, false)), .mv (.tmp 6)⟩,
          ⟨(some 93), (some (89, false)), .lenS (.tmp 92)⟩,
          ⟨(some 94), (some (89, false)), .bin .neq 3 (.tmp 91) (.tmp 93)⟩,
          ⟨(some 95), none, .pick (.tmp 89) (.const (Go.Value.bool true)) (.tmp 94)⟩,
          ⟨(some 96), none, .mv (.tmp 95)⟩,
          ⟨(some 97), (some (96, false)), .mv (.tmp 3)⟩,
          ⟨(some 98), (some (96, false)), .call 55 [(.tmp 97)]⟩,
          ⟨(some 99), (some (96, false)), .mv (.tmp 7)⟩,
          ⟨(some 100), (some (96, false)), .bin .neq 22 (.tmp 98) (.tmp 99)⟩,
          ⟨(some 101), none, .pick (.tmp 96) (.const (Go.Value.bool true)) (.tmp 100)⟩])
        (.cond (.tmp 101)
          (.seq (.ops [⟨(some 2), none, .mv (.const (Go.Value.bool false))⟩])
          (.ret))
          (.skip))))))))
      (.ops [⟨(some 22), none, .mv (.tmp 5)⟩,
        ⟨(some 23), none, .bin .add 3 (.tmp 22) (.const (Go.Value.int Go.IntKind.i64 1))⟩,
        ⟨(some 5), none, .mv (.tmp 23)⟩]))))))
  (.seq (.ops [⟨(some 2), none, .mv (.const (Go.Value.bool true))⟩])
  (.ret))))))
theorem is_law07_DrainPlays : FnIs Try.prog F.law07_DrainPlays X.law07_DrainPlays 102 [.tmp 2] := ⟨by kernel_rfl⟩

/-- haycroft/haycroftlaw07.DrainNil: function 11 -/
abbrev F.law07_DrainNil : FuncId := 11
def X.law07_DrainNil : X :=
  .seq (.ops [⟨(some 1), none, .box 43 (.tmp 0)⟩,
    ⟨(some 2), none, .mv (.const (Go.Value.bool false))⟩])
  (.seq (.seq (.ops [⟨(some 4), none, .call 34 []⟩,
    ⟨(some 5), none, .un .not (.tmp 4)⟩])
  (.cond (.tmp 5)
    (.seq (.ops [⟨(some 2), none, .mv (.const (Go.Value.bool false))⟩])
    (.ret))
    (.skip)))
  (.seq (.ops [⟨(some 3), none, .mv (.const (Go.Value.pointer none))⟩])
  (.seq (.ops [⟨(some 6), none, .mv (.tmp 3)⟩,
    ⟨(some 7), none, .ld (.tmp 1) (some 3)⟩,
    ⟨(some 8), none, .call 36 [(.tmp 6), (.tmp 7)]⟩,
    ⟨(some 9), none, .bin .eql 24 (.tmp 8) (.const (Go.Value.int Go.IntKind.i64 2))⟩,
    ⟨(some 10), none, .mv (.tmp 9)⟩,
    ⟨(some 11), (some (10, true)), .mv (.tmp 3)⟩,
    ⟨(some 12), (some (10, true)), .fld (.tmp 1) 0⟩,
    ⟨(some 13), (some (10, true)), .ld (.tmp 12) none⟩,
    ⟨(some 14), (some (10, true)), .call 37 [(.tmp 11), (.tmp 13)]⟩,
    ⟨(some 15), (some (10, true)), .lenS (.tmp 14)⟩,
    ⟨(some 16), (some (10, true)), .bin .eql 3 (.tmp 15) (.const (Go.Value.int Go.IntKind.i64 0))⟩,
    ⟨(some 17), none, .pick (.tmp 10) (.tmp 16) (.const (Go.Value.bool false))⟩,
    ⟨(some 18), none, .mv (.tmp 17)⟩,
    ⟨(some 19), (some (18, true)), .mv (.tmp 3)⟩,
    ⟨(some 20), (some (18, true)), .call 54 [(.tmp 19)]⟩,
    ⟨(some 21), (some (18, true)), .lenS (.tmp 20)⟩,
    ⟨(some 22), (some (18, true)), .bin .eql 3 (.tmp 21) (.const (Go.Value.int Go.IntKind.i64 0))⟩,
    ⟨(some 23), none, .pick (.tmp 18) (.tmp 22) (.const (Go.Value.bool false))⟩,
    ⟨(some 24), none, .mv (.tmp 23)⟩,
    ⟨(some 25), (some (24, true)), .mv (.tmp 3)⟩,
    ⟨(some 26), (some (24, true)), .call 38 [(.tmp 25)]⟩,
    ⟨(some 27), (some (24, true)), .bin .eql 3 (.tmp 26) (.const (Go.Value.int Go.IntKind.i64 0))⟩,
    ⟨(some 28), none, .pick (.tmp 24) (.tmp 27) (.const (Go.Value.bool false))⟩,
    ⟨(some 29), none, .mv (.tmp 28)⟩,
    ⟨(some 30), (some (29, true)), .mv (.tmp 3)⟩,
    ⟨(some 31), (some (29, true)), .call 55 [(.tmp 30)]⟩,
    ⟨(some 32), (some (29, true)), .bin .eql 22 (.tmp 31) (.const (Go.Value.int Go.IntKind.u64 0))⟩,
    ⟨(some 33), none, .pick (.tmp 29) (.tmp 32) (.const (Go.Value.bool false))⟩,
    ⟨(some 2), none, .mv (.tmp 33)⟩])
  (.ret))))
theorem is_law07_DrainNil : FnIs Try.prog F.law07_DrainNil X.law07_DrainNil 34 [.tmp 2] := ⟨by kernel_rfl⟩

/-- haycroft/place.Of: function 56 -/
abbrev F.place_Of : FuncId := 56
def X.place_Of : X :=
  .seq (.ops [⟨(some 6), none, .mv (.const (Go.Value.int Go.IntKind.u64 0))⟩,
    ⟨(some 7), none, .mv (.const (Go.Value.int Go.IntKind.i64 0))⟩])
  (.seq (.block 0 (.seq (.seq (.ops [⟨(some 9), none, .mv (.tmp 0)⟩,
      ⟨(some 10), none, .call 24 [(.tmp 9)]⟩,
      ⟨(some 11), none, .un .not (.tmp 10)⟩,
      ⟨(some 8), none, .mv (.tmp 11)⟩])
    (.cond (.tmp 8)
      (.skip)
      (.seq (.ops [⟨(some 12), none, .mv (.tmp 1)⟩,
        ⟨(some 13), none, .bin .lss 3 (.tmp 12) (.const (Go.Value.int Go.IntKind.i64 0))⟩,
        ⟨(some 8), none, .mv (.tmp 13)⟩])
      (.cond (.tmp 8)
        (.skip)
        (.seq (.ops [⟨(some 14), none, .mv (.tmp 2)⟩,
          ⟨(some 15), none, .bin .lss 3 (.tmp 14) (.const (Go.Value.int Go.IntKind.i64 0))⟩,
          ⟨(some 8), none, .mv (.tmp 15)⟩])
        (.cond (.tmp 8)
          (.skip)
          (.ops [⟨(some 16), none, .mv (.tmp 2)⟩,
            ⟨(some 17), none, .mv (.tmp 0)⟩,
            ⟨(some 18), none, .call 26 [(.tmp 17)]⟩,
            ⟨(some 19), none, .bin .geq 3 (.tmp 16) (.tmp 18)⟩,
            ⟨(some 8), none, .mv (.tmp 19)⟩])))))))
    (.cond (.tmp 8)
      (.seq (.ops [⟨(some 6), none, .mv (.const (Go.Value.int Go.IntKind.u64 0))⟩,
        ⟨(some 7), none, .mv (.const (Go.Value.int Go.IntKind.i64 1))⟩])
      (.ret))
      (.seq (.ops [⟨(some 21), none, .mv (.tmp 1)⟩,
        ⟨(some 22), none, .conv Go.IntKind.u64 (.tmp 21)⟩,
        ⟨(some 23), none, .mv (.tmp 0)⟩,
        ⟨(some 24), none, .bin .shr 22 (.const (Go.Value.int Go.IntKind.u64 281474976710655)) (.tmp 23)⟩,
        ⟨(some 25), none, .bin .gtr 22 (.tmp 22) (.tmp 24)⟩,
        ⟨(some 20), none, .mv (.tmp 25)⟩])
      (.cond (.tmp 20)
        (.seq (.ops [⟨(some 6), none, .mv (.const (Go.Value.int Go.IntKind.u64 0))⟩,
          ⟨(some 7), none, .mv (.const (Go.Value.int Go.IntKind.i64 13))⟩])
        (.ret))
        (.skip))))))
  (.seq (.ops [⟨(some 26), none, .mv (.tmp 1)⟩,
    ⟨(some 27), none, .conv Go.IntKind.u64 (.tmp 26)⟩,
    ⟨(some 28), none, .mv (.tmp 0)⟩,
    ⟨(some 29), none, .bin .shl 22 (.tmp 27) (.tmp 28)⟩,
    ⟨(some 30), none, .mv (.tmp 2)⟩,
    ⟨(some 31), none, .conv Go.IntKind.u64 (.tmp 30)⟩,
    ⟨(some 32), none, .bin .or 22 (.tmp 29) (.tmp 31)⟩,
    ⟨(some 6), none, .mv (.tmp 32)⟩,
    ⟨(some 7), none, .mv (.const (Go.Value.int Go.IntKind.i64 0))⟩])
  (.ret)))
theorem is_place_Of : FnIs Try.prog F.place_Of X.place_Of 33 [.tmp 6, .tmp 7] := ⟨by kernel_rfl⟩

/-- haycroft/haycroftref02.Of: function 57 -/
abbrev F.ref02_Of : FuncId := 57
def X.ref02_Of : X :=
  .seq (.ops [⟨(some 6), none, .mv (.const (Go.Value.int Go.IntKind.u64 0))⟩,
    ⟨(some 7), none, .mv (.const (Go.Value.int Go.IntKind.i64 0))⟩])
  (.seq (.ops [⟨(some 9), none, .mv (.tmp 0)⟩,
    ⟨(some 10), none, .call 25 [(.tmp 9)]⟩,
    ⟨(some 8), none, .mv (.tmp 10)⟩])
  (.seq (.seq (.ops [⟨(some 11), none, .mv (.tmp 8)⟩,
    ⟨(some 12), none, .bin .eql 3 (.tmp 11) (.const (Go.Value.int Go.IntKind.i64 0))⟩,
    ⟨(some 13), none, .mv (.tmp 12)⟩,
    ⟨(some 14), (some (13, false)), .mv (.tmp 1)⟩,
    ⟨(some 15), (some (13, false)), .bin .lss 3 (.tmp 14) (.const (Go.Value.int Go.IntKind.i64 0))⟩,
    ⟨(some 16), none, .pick (.tmp 13) (.const (Go.Value.bool true)) (.tmp 15)⟩,
    ⟨(some 17), none, .mv (.tmp 16)⟩,
    ⟨(some 18), (some (17, false)), .mv (.tmp 2)⟩,
    ⟨(some 19), (some (17, false)), .bin .lss 3 (.tmp 18) (.const (Go.Value.int Go.IntKind.i64 0))⟩,
    ⟨(some 20), none, .pick (.tmp 17) (.const (Go.Value.bool true)) (.tmp 19)⟩,
    ⟨(some 21), none, .mv (.tmp 20)⟩,
    ⟨(some 22), (some (21, false)), .mv (.tmp 2)⟩,
    ⟨(some 23), (some (21, false)), .mv (.tmp 8)⟩,
    ⟨(some 24), (some (21, false)), .bin .geq 3 (.tmp 22) (.tmp 23)⟩,
    ⟨(some 25), none, .pick (.tmp 21) (.const (Go.Value.bool true)) (.tmp 24)⟩])
  (.cond (.tmp 25)
    (.seq (.ops [⟨(some 6), none, .mv (.const (Go.Value.int Go.IntKind.u64 0))⟩,
      ⟨(some 7), none, .mv (.const (Go.Value.int Go.IntKind.i64 1))⟩])
    (.ret))
    (.skip)))
  (.seq (.seq (.ops [⟨(some 26), none, .mv (.tmp 1)⟩,
    ⟨(some 27), none, .conv Go.IntKind.u64 (.tmp 26)⟩,
    ⟨(some 28), none, .mv (.tmp 2)⟩,
    ⟨(some 29), none, .conv Go.IntKind.u64 (.tmp 28)⟩,
    ⟨(some 30), none, .bin .sub 22 (.const (Go.Value.int Go.IntKind.u64 281474976710655)) (.tmp 29)⟩,
    ⟨(some 31), none, .mv (.tmp 8)⟩,
    ⟨(some 32), none, .conv Go.IntKind.u64 (.tmp 31)⟩,
    ⟨(some 33), none, .bin .quo 22 (.tmp 30) (.tmp 32)⟩,
    ⟨(some 34), none, .bin .gtr 22 (.tmp 27) (.tmp 33)⟩])
  (.cond (.tmp 34)
    (.seq (.ops [⟨(some 6), none, .mv (.const (Go.Value.int Go.IntKind.u64 0))⟩,
      ⟨(some 7), none, .mv (.const (Go.Value.int Go.IntKind.i64 13))⟩])
    (.ret))
    (.skip)))
  (.seq (.ops [⟨(some 35), none, .mv (.tmp 1)⟩,
    ⟨(some 36), none, .conv Go.IntKind.u64 (.tmp 35)⟩,
    ⟨(some 37), none, .mv (.tmp 8)⟩,
    ⟨(some 38), none, .conv Go.IntKind.u64 (.tmp 37)⟩,
    ⟨(some 39), none, .bin .mul 22 (.tmp 36) (.tmp 38)⟩,
    ⟨(some 40), none, .mv (.tmp 2)⟩,
    ⟨(some 41), none, .conv Go.IntKind.u64 (.tmp 40)⟩,
    ⟨(some 42), none, .bin .add 22 (.tmp 39) (.tmp 41)⟩,
    ⟨(some 6), none, .mv (.tmp 42)⟩,
    ⟨(some 7), none, .mv (.const (Go.Value.int Go.IntKind.i64 0))⟩])
  (.ret)))))
theorem is_ref02_Of : FnIs Try.prog F.ref02_Of X.ref02_Of 43 [.tmp 6, .tmp 7] := ⟨by kernel_rfl⟩

/-- haycroft/place.First: function 58 -/
abbrev F.place_First : FuncId := 58
def X.place_First : X :=
  .seq (.ops [⟨(some 4), none, .mv (.const (Go.Value.int Go.IntKind.u64 0))⟩])
  (.seq (.ops [⟨(some 8), none, .mv (.tmp 0)⟩,
    ⟨(some 9), none, .mv (.tmp 1)⟩,
    ⟨(some 10), none, .call 56 [(.tmp 8), (.tmp 9), (.const (Go.Value.int Go.IntKind.i64 0))]⟩,
    ⟨(some 7), none, .mv (.tmp 10)⟩,
    ⟨(some 11), none, .ext (.tmp 7) 0⟩,
    ⟨(some 12), none, .ext (.tmp 7) 1⟩,
    ⟨(some 5), none, .mv (.tmp 11)⟩,
    ⟨(some 6), none, .mv (.tmp 12)⟩])
  (.seq (.ops [⟨(some 13), none, .mv (.tmp 5)⟩,
    ⟨(some 4), none, .mv (.tmp 13)⟩])
  (.ret)))
theorem is_place_First : FnIs Try.prog F.place_First X.place_First 14 [.tmp 4] := ⟨by kernel_rfl⟩

/-- haycroft/haycroftlaw02.PlaceOf: function 12 -/
abbrev F.law02_PlaceOf : FuncId := 12
def X.law02_PlaceOf : X :=
  .seq (.ops [⟨(some 8), none, .mv (.const (Go.Value.bool false))⟩])
  (.seq (.seq (.ops [⟨(some 17), none, .call 23 []⟩,
    ⟨(some 18), none, .un .not (.tmp 17)⟩])
  (.cond (.tmp 18)
    (.seq (.ops [⟨(some 8), none, .mv (.const (Go.Value.bool false))⟩])
    (.ret))
    (.skip)))
  (.seq (.ops [⟨(some 20), none, .mv (.tmp 0)⟩,
    ⟨(some 21), none, .mv (.tmp 1)⟩,
    ⟨(some 22), none, .mv (.tmp 2)⟩,
    ⟨(some 23), none, .call 56 [(.tmp 20), (.tmp 21), (.tmp 22)]⟩,
    ⟨(some 19), none, .mv (.tmp 23)⟩,
    ⟨(some 24), none, .ext (.tmp 19) 0⟩,
    ⟨(some 25), none, .ext (.tmp 19) 1⟩,
    ⟨(some 9), none, .mv (.tmp 24)⟩,
    ⟨(some 10), none, .mv (.tmp 25)⟩])
  (.seq (.ops [⟨(some 27), none, .mv (.tmp 0)⟩,
    ⟨(some 28), none, .mv (.tmp 1)⟩,
    ⟨(some 29), none, .mv (.tmp 2)⟩,
    ⟨(some 30), none, .call 57 [(.tmp 27), (.tmp 28), (.tmp 29)]⟩,
    ⟨(some 26), none, .mv (.tmp 30)⟩,
    ⟨(some 31), none, .ext (.tmp 26) 0⟩,
    ⟨(some 32), none, .ext (.tmp 26) 1⟩,
    ⟨(some 11), none, .mv (.tmp 31)⟩,
    ⟨(some 12), none, .mv (.tmp 32)⟩])
  (.seq (.ops [⟨(some 34), none, .mv (.tmp 0)⟩,
    ⟨(some 35), none, .mv (.tmp 1)⟩,
    ⟨(some 36), none, .call 57 [(.tmp 34), (.tmp 35), (.const (Go.Value.int Go.IntKind.i64 0))]⟩,
    ⟨(some 33), none, .mv (.tmp 36)⟩,
    ⟨(some 37), none, .ext (.tmp 33) 0⟩,
    ⟨(some 38), none, .ext (.tmp 33) 1⟩,
    ⟨(some 13), none, .mv (.tmp 37)⟩,
    ⟨(some 14), none, .mv (.tmp 38)⟩])
  (.seq (.seq (.ops [⟨(some 39), none, .mv (.tmp 9)⟩,
    ⟨(some 40), none, .mv (.tmp 11)⟩,
    ⟨(some 41), none, .bin .neq 22 (.tmp 39) (.tmp 40)⟩,
    ⟨(some 42), none, .mv (.tmp 41)⟩,
    ⟨(some 43), (some (42, false)), .mv (.tmp 10)⟩,
    ⟨(some 44), (some (42, false)), .mv (.tmp 12)⟩,
    ⟨(some 45), (some (42, false)), .bin .neq 24 (.tmp 43) (.tmp 44)⟩,
    ⟨(some 46), none, .pick (.tmp 42) (.const (Go.Value.bool true)) (.tmp 45)⟩,
    ⟨(some 47), none, .mv (.tmp 46)⟩,
    ⟨(some 48), (some (47, false)), .mv (.tmp 0)⟩,
    ⟨(some 49), (some (47, false)), .mv (.tmp 1)⟩,
    ⟨(some 50), (some (47, false)), .call 58 [(.tmp 48), (.tmp 49)]⟩,
    ⟨(some 51), (some (47, false)), .mv (.tmp 13)⟩,
    ⟨(some 52), (some (47, false)), .bin .neq 22 (.tmp 50) (.tmp 51)⟩,
    ⟨(some 53), none, .pick (.tmp 47) (.const (Go.Value.bool true)) (.tmp 52)⟩])
  (.cond (.tmp 53)
    (.seq (.ops [⟨(some 8), none, .mv (.const (Go.Value.bool false))⟩])
    (.ret))
    (.skip)))
  (.seq (.seq (.ops [⟨(some 54), none, .mv (.tmp 0)⟩,
    ⟨(some 55), none, .call 24 [(.tmp 54)]⟩,
    ⟨(some 56), none, .un .not (.tmp 55)⟩,
    ⟨(some 57), none, .mv (.tmp 56)⟩,
    ⟨(some 58), (some (57, false)), .mv (.tmp 3)⟩,
    ⟨(some 59), (some (57, false)), .bin .gtr 22 (.tmp 58) (.const (Go.Value.int Go.IntKind.u64 281474976710655))⟩,
    ⟨(some 60), none, .pick (.tmp 57) (.const (Go.Value.bool true)) (.tmp 59)⟩])
  (.cond (.tmp 60)
    (.seq (.ops [⟨(some 8), none, .mv (.const (Go.Value.bool true))⟩])
    (.ret))
    (.skip)))
  (.seq (.ops [⟨(some 62), none, .mv (.tmp 0)⟩,
    ⟨(some 63), none, .mv (.tmp 0)⟩,
    ⟨(some 64), none, .mv (.tmp 3)⟩,
    ⟨(some 65), none, .call 27 [(.tmp 63), (.tmp 64)]⟩,
    ⟨(some 66), none, .mv (.tmp 0)⟩,
    ⟨(some 67), none, .mv (.tmp 3)⟩,
    ⟨(some 68), none, .call 29 [(.tmp 66), (.tmp 67)]⟩,
    ⟨(some 69), none, .call 56 [(.tmp 62), (.tmp 65), (.tmp 68)]⟩,
    ⟨(some 61), none, .mv (.tmp 69)⟩,
    ⟨(some 70), none, .ext (.tmp 61) 0⟩,
    ⟨(some 71), none, .ext (.tmp 61) 1⟩,
    ⟨(some 15), none, .mv (.tmp 70)⟩,
    ⟨(some 16), none, .mv (.tmp 71)⟩])
  (.seq (.ops [⟨(some 72), none, .mv (.tmp 15)⟩,
    ⟨(some 73), none, .mv (.tmp 3)⟩,
    ⟨(some 74), none, .bin .eql 22 (.tmp 72) (.tmp 73)⟩,
    ⟨(some 75), none, .mv (.tmp 74)⟩,
    ⟨(some 76), (some (75, true)), .mv (.tmp 16)⟩,
    ⟨(some 77), (some (75, true)), .bin .eql 24 (.tmp 76) (.const (Go.Value.int Go.IntKind.i64 0))⟩,
    ⟨(some 78), none, .pick (.tmp 75) (.tmp 77) (.const (Go.Value.bool false))⟩,
    ⟨(some 8), none, .mv (.tmp 78)⟩])
  (.ret)))))))))
theorem is_law02_PlaceOf : FnIs Try.prog F.law02_PlaceOf X.law02_PlaceOf 79 [.tmp 8] := ⟨by kernel_rfl⟩

-- loop (inner ones first): [3, 6, 7, 8]
/-- haycroft/field.fit: function 65 -/
abbrev F.field_fit : FuncId := 65
def X.field_fit : X :=
  .seq (.ops [⟨(some 2), none, .mv (.const (Go.Value.bool false))⟩])
  (.seq (.ops [⟨(some 3), none, .mv (.const (Go.Value.int Go.IntKind.i64 64))⟩])
  (.seq (.seq (.ops [⟨(some 6), none, .mv (.tmp 0)⟩,
    ⟨(some 7), none, .lenS (.tmp 6)⟩,
    ⟨(some 8), none, .mv (.const (Go.Value.int Go.IntKind.i64 0))⟩])
  (.block 0 (.loop (.seq (.ops [⟨(some 9), none, .bin .lss 3 (.tmp 8) (.tmp 7)⟩])
      (.seq (.cond (.tmp 9)
        (.skip)
        (.exit 0))
      (.seq (.block 1 (.seq (.ops [⟨(some 10), none, .idx (.tmp 6) (.tmp 8) 1⟩,
          ⟨(some 11), none, .ld (.tmp 10) none⟩,
          ⟨(some 5), none, .mv (.tmp 11)⟩])
        (.seq (.seq (.ops [⟨(some 12), none, .mv (.tmp 5)⟩,
          ⟨(some 13), none, .bin .lss 3 (.tmp 12) (.const (Go.Value.int Go.IntKind.i64 1))⟩,
          ⟨(some 14), none, .mv (.tmp 13)⟩,
          ⟨(some 15), (some (14, false)), .mv (.tmp 5)⟩,
          ⟨(some 16), (some (14, false)), .mv (.tmp 3)⟩,
          ⟨(some 17), (some (14, false)), .bin .gtr 3 (.tmp 15) (.tmp 16)⟩,
          ⟨(some 18), none, .pick (.tmp 14) (.const (Go.Value.bool true)) (.tmp 17)⟩])
        (.cond (.tmp 18)
          (.seq (.ops [⟨(some 2), none, .mv (.const (Go.Value.bool false))⟩])
          (.ret))
          (.skip)))
        (.ops [⟨(some 19), none, .mv (.tmp 3)⟩,
          ⟨(some 20), none, .mv (.tmp 5)⟩,
          ⟨(some 21), none, .bin .sub 3 (.tmp 19) (.tmp 20)⟩,
          ⟨(some 3), none, .mv (.tmp 21)⟩]))))
      (.ops [⟨(some 22), none, .bin .add 3 (.tmp 8) (.const (Go.Value.int Go.IntKind.i64 1))⟩,
        ⟨(some 8), none, .mv (.tmp 22)⟩])))))))
  (.seq (.ops [⟨(some 2), none, .mv (.const (Go.Value.bool true))⟩])
  (.ret))))
theorem is_field_fit : FnIs Try.prog F.field_fit X.field_fit 23 [.tmp 2] := ⟨by kernel_rfl⟩

-- loop (inner ones first): [0, 6, 7, 22, 23, 24]
/-- haycroft/field.Join: function 59 -/
abbrev F.field_Join : FuncId := 59
def X.field_Join : X :=
  .seq (.ops [⟨(some 4), none, .mv (.const (Go.Value.int Go.IntKind.u64 0))⟩,
    ⟨(some 5), none, .mv (.const (Go.Value.int Go.IntKind.i64 0))⟩])
  (.seq (.seq (.ops [⟨(some 12), none, .mv (.tmp 0)⟩,
    ⟨(some 13), none, .lenS (.tmp 12)⟩,
    ⟨(some 14), none, .mv (.tmp 1)⟩,
    ⟨(some 15), none, .lenS (.tmp 14)⟩,
    ⟨(some 16), none, .bin .neq 3 (.tmp 13) (.tmp 15)⟩,
    ⟨(some 17), none, .mv (.tmp 16)⟩,
    ⟨(some 18), (some (17, false)), .mv (.tmp 1)⟩,
    ⟨(some 19), (some (17, false)), .call 65 [(.tmp 18)]⟩,
    ⟨(some 20), (some (17, false)), .un .not (.tmp 19)⟩,
    ⟨(some 21), none, .pick (.tmp 17) (.const (Go.Value.bool true)) (.tmp 20)⟩])
  (.cond (.tmp 21)
    (.seq (.ops [⟨(some 4), none, .mv (.const (Go.Value.int Go.IntKind.u64 0))⟩,
      ⟨(some 5), none, .mv (.const (Go.Value.int Go.IntKind.i64 1))⟩])
    (.ret))
    (.skip)))
  (.seq (.ops [⟨(some 6), none, .mv (.const (Go.Value.int Go.IntKind.u64 0))⟩])
  (.seq (.ops [⟨(some 7), none, .mv (.const (Go.Value.int Go.IntKind.i64 0))⟩])
  (.seq (.seq (.ops [⟨(some 22), none, .mv (.tmp 1)⟩,
    ⟨(some 23), none, .lenS (.tmp 22)⟩,
    ⟨(some 24), none, .mv (.const (Go.Value.int Go.IntKind.i64 0))⟩])
  (.block 0 (.loop (.seq (.ops [⟨(some 25), none, .bin .lss 3 (.tmp 24) (.tmp 23)⟩])
      (.seq (.cond (.tmp 25)
        (.skip)
        (.exit 0))
      (.seq (.block 1 (.seq (.ops [⟨(some 26), none, .mv (.tmp 24)⟩,
          ⟨(some 27), none, .idx (.tmp 22) (.tmp 24) 1⟩,
          ⟨(some 28), none, .ld (.tmp 27) none⟩,
          ⟨(some 8), none, .mv (.tmp 26)⟩,
          ⟨(some 9), none, .mv (.tmp 28)⟩])
        (.seq (.ops [⟨(some 30), none, .mv (.tmp 6)⟩,
          ⟨(some 31), none, .mv (.tmp 7)⟩,
          ⟨(some 32), none, .mv (.tmp 9)⟩,
          ⟨(some 33), none, .mv (.tmp 0)⟩,
          ⟨(some 34), none, .mv (.tmp 8)⟩,
          ⟨(some 35), none, .idx (.tmp 33) (.tmp 34) 1⟩,
          ⟨(some 36), none, .ld (.tmp 35) none⟩,
          ⟨(some 37), none, .call 15 [(.tmp 30), (.tmp 31), (.tmp 32), (.tmp 36)]⟩,
          ⟨(some 29), none, .mv (.tmp 37)⟩,
          ⟨(some 38), none, .ext (.tmp 29) 0⟩,
          ⟨(some 39), none, .ext (.tmp 29) 1⟩,
          ⟨(some 10), none, .mv (.tmp 38)⟩,
          ⟨(some 11), none, .mv (.tmp 39)⟩])
        (.seq (.seq (.ops [⟨(some 40), none, .mv (.tmp 11)⟩,
          ⟨(some 41), none, .bin .neq 24 (.tmp 40) (.const (Go.Value.int Go.IntKind.i64 0))⟩])
        (.cond (.tmp 41)
          (.seq (.ops [⟨(some 42), none, .mv (.tmp 11)⟩,
            ⟨(some 4), none, .mv (.const (Go.Value.int Go.IntKind.u64 0))⟩,
            ⟨(some 5), none, .mv (.tmp 42)⟩])
          (.ret))
          (.skip)))
        (.seq (.ops [⟨(some 43), none, .mv (.tmp 10)⟩,
          ⟨(some 6), none, .mv (.tmp 43)⟩])
        (.ops [⟨(some 44), none, .mv (.tmp 7)⟩,
          ⟨(some 45), none, .mv (.tmp 9)⟩,
          ⟨(some 46), none, .bin .add 3 (.tmp 44) (.tmp 45)⟩,
          ⟨(some 7), none, .mv (.tmp 46)⟩]))))))
      (.ops [⟨(some 47), none, .bin .add 3 (.tmp 24) (.const (Go.Value.int Go.IntKind.i64 1))⟩,
        ⟨(some 24), none, .mv (.tmp 47)⟩])))))))
  (.seq (.ops [⟨(some 48), none, .mv (.tmp 6)⟩,
    ⟨(some 4), none, .mv (.tmp 48)⟩,
    ⟨(some 5), none, .mv (.const (Go.Value.int Go.IntKind.i64 0))⟩])
  (.ret))))))
theorem is_field_Join : FnIs Try.prog F.field_Join X.field_Join 49 [.tmp 4, .tmp 5] := ⟨by kernel_rfl⟩

-- loop (inner ones first): [0, 3, 4]
/-- haycroft/haycroftref01.Fit: function 62 -/
abbrev F.ref01_Fit : FuncId := 62
def X.ref01_Fit : X :=
  .seq (.ops [⟨(some 2), none, .mv (.const (Go.Value.bool false))⟩])
  (.seq (.ops [⟨(some 3), none, .mv (.const (Go.Value.int Go.IntKind.i64 0))⟩])
  (.seq (.seq (.ops [⟨(some 4), none, .mv (.const (Go.Value.int Go.IntKind.i64 0))⟩])
  (.block 0 (.loop (.seq (.seq (.ops [⟨(some 5), none, .mv (.tmp 4)⟩,
        ⟨(some 6), none, .mv (.tmp 0)⟩,
        ⟨(some 7), none, .lenS (.tmp 6)⟩,
        ⟨(some 8), none, .bin .lss 3 (.tmp 5) (.tmp 7)⟩])
      (.cond (.tmp 8)
        (.skip)
        (.exit 0)))
      (.seq (.block 1 (.seq (.seq (.ops [⟨(some 11), none, .mv (.tmp 0)⟩,
          ⟨(some 12), none, .mv (.tmp 4)⟩,
          ⟨(some 13), none, .idx (.tmp 11) (.tmp 12) 1⟩,
          ⟨(some 14), none, .ld (.tmp 13) none⟩,
          ⟨(some 15), none, .bin .lss 3 (.tmp 14) (.const (Go.Value.int Go.IntKind.i64 1))⟩,
          ⟨(some 16), none, .mv (.tmp 15)⟩,
          ⟨(some 17), (some (16, false)), .mv (.tmp 0)⟩,
          ⟨(some 18), (some (16, false)), .mv (.tmp 4)⟩,
          ⟨(some 19), (some (16, false)), .idx (.tmp 17) (.tmp 18) 1⟩,
          ⟨(some 20), (some (16, false)), .ld (.tmp 19) none⟩,
          ⟨(some 21), (some (16, false)), .bin .gtr 3 (.tmp 20) (.const (Go.Value.int Go.IntKind.i64 64))⟩,
          ⟨(some 22), none, .pick (.tmp 16) (.const (Go.Value.bool true)) (.tmp 21)⟩])
        (.cond (.tmp 22)
          (.seq (.ops [⟨(some 2), none, .mv (.const (Go.Value.bool false))⟩])
          (.ret))
          (.skip)))
        (.seq (.ops [⟨(some 23), none, .mv (.tmp 3)⟩,
          ⟨(some 24), none, .mv (.tmp 0)⟩,
          ⟨(some 25), none, .mv (.tmp 4)⟩,
          ⟨(some 26), none, .idx (.tmp 24) (.tmp 25) 1⟩,
          ⟨(some 27), none, .ld (.tmp 26) none⟩,
          ⟨(some 28), none, .bin .add 3 (.tmp 23) (.tmp 27)⟩,
          ⟨(some 3), none, .mv (.tmp 28)⟩])
        (.seq (.ops [⟨(some 29), none, .mv (.tmp 3)⟩,
          ⟨(some 30), none, .bin .gtr 3 (.tmp 29) (.const (Go.Value.int Go.IntKind.i64 64))⟩])
        (.cond (.tmp 30)
          (.seq (.ops [⟨(some 2), none, .mv (.const (Go.Value.bool false))⟩])
          (.ret))
          (.skip))))))
      (.ops [⟨(some 9), none, .mv (.tmp 4)⟩,
        ⟨(some 10), none, .bin .add 3 (.tmp 9) (.const (Go.Value.int Go.IntKind.i64 1))⟩,
        ⟨(some 4), none, .mv (.tmp 10)⟩]))))))
  (.seq (.ops [⟨(some 2), none, .mv (.const (Go.Value.bool true))⟩])
  (.ret))))
theorem is_ref01_Fit : FnIs Try.prog F.ref01_Fit X.ref01_Fit 31 [.tmp 2] := ⟨by kernel_rfl⟩

-- loop (inner ones first): [0, 1, 6, 7]
/-- haycroft/haycroftref01.Join: function 60 -/
abbrev F.ref01_Join : FuncId := 60
def X.ref01_Join : X :=
  .seq (.ops [⟨(some 4), none, .mv (.const (Go.Value.int Go.IntKind.u64 0))⟩,
    ⟨(some 5), none, .mv (.const (Go.Value.int Go.IntKind.i64 0))⟩])
  (.seq (.seq (.ops [⟨(some 8), none, .mv (.tmp 0)⟩,
    ⟨(some 9), none, .lenS (.tmp 8)⟩,
    ⟨(some 10), none, .mv (.tmp 1)⟩,
    ⟨(some 11), none, .lenS (.tmp 10)⟩,
    ⟨(some 12), none, .bin .neq 3 (.tmp 9) (.tmp 11)⟩,
    ⟨(some 13), none, .mv (.tmp 12)⟩,
    ⟨(some 14), (some (13, false)), .mv (.tmp 1)⟩,
    ⟨(some 15), (some (13, false)), .call 62 [(.tmp 14)]⟩,
    ⟨(some 16), (some (13, false)), .un .not (.tmp 15)⟩,
    ⟨(some 17), none, .pick (.tmp 13) (.const (Go.Value.bool true)) (.tmp 16)⟩])
  (.cond (.tmp 17)
    (.seq (.ops [⟨(some 4), none, .mv (.const (Go.Value.int Go.IntKind.u64 0))⟩,
      ⟨(some 5), none, .mv (.const (Go.Value.int Go.IntKind.i64 1))⟩])
    (.ret))
    (.skip)))
  (.seq (.ops [⟨(some 18), none, .bsl 3 1 0 [(Go.Value.int Go.IntKind.i64 0)] []⟩,
    ⟨(some 6), none, .mv (.tmp 18)⟩])
  (.seq (.seq (.ops [⟨(some 7), none, .mv (.const (Go.Value.int Go.IntKind.i64 0))⟩])
  (.block 0 (.loop (.seq (.seq (.ops [⟨(some 19), none, .mv (.tmp 7)⟩,
        ⟨(some 20), none, .mv (.tmp 1)⟩,
        ⟨(some 21), none, .lenS (.tmp 20)⟩,
        ⟨(some 22), none, .bin .lss 3 (.tmp 19) (.tmp 21)⟩])
      (.cond (.tmp 22)
        (.skip)
        (.exit 0)))
      (.seq (.block 1 (.seq (.seq (.drawn [(0, ⟨(some 25), none, .mv (.tmp 0)⟩),
          (1, ⟨(some 26), none, .mv (.tmp 7)⟩),
          (2, ⟨(some 27), none, .idx (.tmp 25) (.tmp 26) 1⟩),
          (3, ⟨(some 28), none, .ld (.tmp 27) none⟩),
          (4, ⟨(some 29), none, .mv (.tmp 1)⟩),
          (5, ⟨(some 30), none, .mv (.tmp 7)⟩),
          (6, ⟨(some 31), none, .idx (.tmp 29) (.tmp 30) 1⟩),
          (7, ⟨(some 32), none, .ld (.tmp 31) none⟩),
          (8, ⟨(some 33), none, .call 20 [(.tmp 32)]⟩),
          (9, ⟨(some 34), none, .bin .gtr 22 (.tmp 28) (.tmp 33)⟩)]
          [[], [], [0, 1], [2], [], [], [4, 5], [6], [7], [3, 8]]
          [0, 0, 3, 7, 0, 0, 48, 112, 240, 511] 256)
        (.cond (.tmp 34)
          (.seq (.ops [⟨(some 4), none, .mv (.const (Go.Value.int Go.IntKind.u64 0))⟩,
            ⟨(some 5), none, .mv (.const (Go.Value.int Go.IntKind.i64 13))⟩])
          (.ret))
          (.skip)))
        (.drawn [(0, ⟨(some 35), none, .mv (.tmp 6)⟩),
          (1, ⟨(some 36), none, .mv (.tmp 0)⟩),
          (2, ⟨(some 37), none, .mv (.tmp 7)⟩),
          (3, ⟨(some 38), none, .idx (.tmp 36) (.tmp 37) 1⟩),
          (4, ⟨(some 39), none, .ld (.tmp 38) none⟩),
          (6, ⟨(some 41), none, .mv (.tmp 1)⟩),
          (7, ⟨(some 42), none, .mv (.tmp 7)⟩),
          (8, ⟨(some 43), none, .idx (.tmp 41) (.tmp 42) 1⟩),
          (9, ⟨(some 44), none, .ld (.tmp 43) none⟩),
          (5, ⟨(some 40), none, .call 41 [(.tmp 39)]⟩),
          (10, ⟨(some 45), none, .slc 1 (.tmp 40) none (some (.tmp 44))⟩),
          (11, ⟨(some 46), none, .app 3 1 8 [(Go.Value.int Go.IntKind.i64 0)] (.tmp 35) (.tmp 45)⟩),
          (12, ⟨(some 6), none, .mv (.tmp 46)⟩)]
          [[], [], [], [1, 2], [3], [4], [], [], [6, 7], [8], [5, 9], [0, 10, 5], [11, 11, 0, 1, 2, 3, 4, 5, 6, 7, 8, 9, 10, 11]]
          [0, 0, 0, 6, 14, 30, 0, 0, 192, 448, 1022, 2047, 4095] 2080)))
      (.ops [⟨(some 23), none, .mv (.tmp 7)⟩,
        ⟨(some 24), none, .bin .add 3 (.tmp 23) (.const (Go.Value.int Go.IntKind.i64 1))⟩,
        ⟨(some 7), none, .mv (.tmp 24)⟩]))))))
  (.seq (.ops [⟨(some 47), none, .mv (.tmp 6)⟩,
    ⟨(some 48), none, .call 42 [(.tmp 47)]⟩,
    ⟨(some 4), none, .mv (.tmp 48)⟩,
    ⟨(some 5), none, .mv (.const (Go.Value.int Go.IntKind.i64 0))⟩])
  (.ret)))))
theorem is_ref01_Join : FnIs Try.prog F.ref01_Join X.ref01_Join 49 [.tmp 4, .tmp 5] := ⟨by kernel_rfl⟩

-- loop (inner ones first): [0, 6, 7, 13, 14, 15]
/-- haycroft/field.Spread: function 61 -/
abbrev F.field_Spread : FuncId := 61
def X.field_Spread : X :=
  .seq (.ops [⟨(some 4), none, .mv (.const (Go.Value.slice none 0 0))⟩,
    ⟨(some 5), none, .mv (.const (Go.Value.int Go.IntKind.i64 0))⟩])
  (.seq (.seq (.ops [⟨(some 10), none, .mv (.tmp 1)⟩,
    ⟨(some 11), none, .call 65 [(.tmp 10)]⟩,
    ⟨(some 12), none, .un .not (.tmp 11)⟩])
  (.cond (.tmp 12)
    (.seq (.ops [⟨(some 4), none, .mv (.const (Go.Value.slice none 0 0))⟩,
      ⟨(some 5), none, .mv (.const (Go.Value.int Go.IntKind.i64 1))⟩])
    (.ret))
    (.skip)))
  (.seq (.ops [⟨(some 6), none, .mv (.const (Go.Value.slice none 0 0))⟩])
  (.seq (.ops [⟨(some 7), none, .mv (.const (Go.Value.int Go.IntKind.i64 0))⟩])
  (.seq (.seq (.ops [⟨(some 13), none, .mv (.tmp 1)⟩,
    ⟨(some 14), none, .lenS (.tmp 13)⟩,
    ⟨(some 15), none, .mv (.const (Go.Value.int Go.IntKind.i64 0))⟩])
  (.block 0 (.loop (.seq (.ops [⟨(some 16), none, .bin .lss 3 (.tmp 15) (.tmp 14)⟩])
      (.seq (.cond (.tmp 16)
        (.skip)
        (.exit 0))
      (.seq (.block 1 (.seq (.ops [⟨(some 17), none, .idx (.tmp 13) (.tmp 15) 1⟩,
          ⟨(some 18), none, .ld (.tmp 17) none⟩,
          ⟨(some 9), none, .mv (.tmp 18)⟩])
        (.seq (.ops [⟨(some 19), none, .mv (.tmp 6)⟩,
          ⟨(some 20), none, .mv (.tmp 0)⟩,
          ⟨(some 21), none, .mv (.tmp 7)⟩,
          ⟨(some 22), none, .mv (.tmp 9)⟩,
          ⟨(some 23), none, .call 21 [(.tmp 20), (.tmp 21), (.tmp 22)]⟩,
          ⟨(some 24), none, .bsl 22 1 1 [(Go.Value.int Go.IntKind.u64 0)] [(0, (.tmp 23))]⟩,
          ⟨(some 25), none, .app 22 1 8 [(Go.Value.int Go.IntKind.u64 0)] (.tmp 19) (.tmp 24)⟩,
          ⟨(some 6), none, .mv (.tmp 25)⟩])
        (.ops [⟨(some 26), none, .mv (.tmp 7)⟩,
          ⟨(some 27), none, .mv (.tmp 9)⟩,
          ⟨(some 28), none, .bin .add 3 (.tmp 26) (.tmp 27)⟩,
          ⟨(some 7), none, .mv (.tmp 28)⟩]))))
      (.ops [⟨(some 29), none, .bin .add 3 (.tmp 15) (.const (Go.Value.int Go.IntKind.i64 1))⟩,
        ⟨(some 15), none, .mv (.tmp 29)⟩])))))))
  (.seq (.ops [⟨(some 30), none, .mv (.tmp 6)⟩,
    ⟨(some 4), none, .mv (.tmp 30)⟩,
    ⟨(some 5), none, .mv (.const (Go.Value.int Go.IntKind.i64 0))⟩])
  (.ret))))))
theorem is_field_Spread : FnIs Try.prog F.field_Spread X.field_Spread 31 [.tmp 4, .tmp 5] := ⟨by kernel_rfl⟩

-- loop (inner ones first): [0, 2, 11, 12, 13, 14, 15, 16]
/-- haycroft/haycroftlaw01.FieldJoins: function 13 -/
abbrev F.law01_FieldJoins : FuncId := 13
def X.law01_FieldJoins : X :=
  .seq (.ops [⟨(some 6), none, .mv (.const (Go.Value.bool false))⟩])
  (.seq (.seq (.ops [⟨(some 17), none, .call 14 []⟩,
    ⟨(some 18), none, .un .not (.tmp 17)⟩])
  (.cond (.tmp 18)
    (.seq (.ops [⟨(some 6), none, .mv (.const (Go.Value.bool false))⟩])
    (.ret))
    (.skip)))
  (.seq (.seq (.ops [⟨(some 19), none, .mv (.tmp 1)⟩,
    ⟨(some 20), none, .lenS (.tmp 19)⟩,
    ⟨(some 21), none, .bin .gtr 3 (.tmp 20) (.const (Go.Value.int Go.IntKind.i64 100))⟩,
    ⟨(some 22), none, .mv (.tmp 21)⟩,
    ⟨(some 23), (some (22, false)), .mv (.tmp 2)⟩,
    ⟨(some 24), (some (22, false)), .lenS (.tmp 23)⟩,
    ⟨(some 25), (some (22, false)), .bin .gtr 3 (.tmp 24) (.const (Go.Value.int Go.IntKind.i64 100))⟩,
    ⟨(some 26), none, .pick (.tmp 22) (.const (Go.Value.bool true)) (.tmp 25)⟩])
  (.cond (.tmp 26)
    (.seq (.ops [⟨(some 6), none, .mv (.const (Go.Value.bool true))⟩])
    (.ret))
    (.skip)))
  (.seq (.ops [⟨(some 28), none, .mv (.tmp 1)⟩,
    ⟨(some 29), none, .mv (.tmp 2)⟩,
    ⟨(some 30), none, .call 59 [(.tmp 28), (.tmp 29)]⟩,
    ⟨(some 27), none, .mv (.tmp 30)⟩,
    ⟨(some 31), none, .ext (.tmp 27) 0⟩,
    ⟨(some 32), none, .ext (.tmp 27) 1⟩,
    ⟨(some 7), none, .mv (.tmp 31)⟩,
    ⟨(some 8), none, .mv (.tmp 32)⟩])
  (.seq (.ops [⟨(some 34), none, .mv (.tmp 1)⟩,
    ⟨(some 35), none, .mv (.tmp 2)⟩,
    ⟨(some 36), none, .call 60 [(.tmp 34), (.tmp 35)]⟩,
    ⟨(some 33), none, .mv (.tmp 36)⟩,
    ⟨(some 37), none, .ext (.tmp 33) 0⟩,
    ⟨(some 38), none, .ext (.tmp 33) 1⟩,
    ⟨(some 9), none, .mv (.tmp 37)⟩,
    ⟨(some 10), none, .mv (.tmp 38)⟩])
  (.seq (.ops [⟨(some 40), none, .mv (.tmp 0)⟩,
    ⟨(some 41), none, .mv (.tmp 2)⟩,
    ⟨(some 42), none, .call 61 [(.tmp 40), (.tmp 41)]⟩,
    ⟨(some 39), none, .mv (.tmp 42)⟩,
    ⟨(some 43), none, .ext (.tmp 39) 0⟩,
    ⟨(some 44), none, .ext (.tmp 39) 1⟩,
    ⟨(some 11), none, .mv (.tmp 43)⟩,
    ⟨(some 12), none, .mv (.tmp 44)⟩])
  (.seq (.seq (.ops [⟨(some 45), none, .mv (.tmp 7)⟩,
    ⟨(some 46), none, .mv (.tmp 9)⟩,
    ⟨(some 47), none, .bin .neq 22 (.tmp 45) (.tmp 46)⟩,
    ⟨(some 48), none, .mv (.tmp 47)⟩,
    ⟨(some 49), (some (48, false)), .mv (.tmp 8)⟩,
    ⟨(some 50), (some (48, false)), .mv (.tmp 10)⟩,
    ⟨(some 51), (some (48, false)), .bin .neq 24 (.tmp 49) (.tmp 50)⟩,
    ⟨(some 52), none, .pick (.tmp 48) (.const (Go.Value.bool true)) (.tmp 51)⟩])
  (.cond (.tmp 52)
    (.seq (.ops [⟨(some 6), none, .mv (.const (Go.Value.bool false))⟩])
    (.ret))
    (.skip)))
  (.seq (.seq (.ops [⟨(some 53), none, .mv (.tmp 2)⟩,
    ⟨(some 54), none, .call 62 [(.tmp 53)]⟩,
    ⟨(some 55), none, .un .not (.tmp 54)⟩])
  (.cond (.tmp 55)
    (.seq (.ops [⟨(some 56), none, .mv (.tmp 12)⟩,
      ⟨(some 57), none, .bin .eql 24 (.tmp 56) (.const (Go.Value.int Go.IntKind.i64 1))⟩,
      ⟨(some 58), none, .mv (.tmp 57)⟩,
      ⟨(some 59), (some (58, true)), .mv (.tmp 11)⟩,
      ⟨(some 60), (some (58, true)), .lenS (.tmp 59)⟩,
      ⟨(some 61), (some (58, true)), .bin .eql 3 (.tmp 60) (.const (Go.Value.int Go.IntKind.i64 0))⟩,
      ⟨(some 62), none, .pick (.tmp 58) (.tmp 61) (.const (Go.Value.bool false))⟩,
      ⟨(some 6), none, .mv (.tmp 62)⟩])
    (.ret))
    (.skip)))
  (.seq (.ops [⟨(some 64), none, .mv (.tmp 11)⟩,
    ⟨(some 65), none, .mv (.tmp 2)⟩,
    ⟨(some 66), none, .call 59 [(.tmp 64), (.tmp 65)]⟩,
    ⟨(some 63), none, .mv (.tmp 66)⟩,
    ⟨(some 67), none, .ext (.tmp 63) 0⟩,
    ⟨(some 68), none, .ext (.tmp 63) 1⟩,
    ⟨(some 13), none, .mv (.tmp 67)⟩,
    ⟨(some 14), none, .mv (.tmp 68)⟩])
  (.seq (.ops [⟨(some 15), none, .mv (.const (Go.Value.int Go.IntKind.i64 0))⟩])
  (.seq (.seq (.ops [⟨(some 16), none, .mv (.const (Go.Value.int Go.IntKind.i64 0))⟩])
  (.block 0 (.loop (.seq (.seq (.ops [⟨(some 69), none, .mv (.tmp 16)⟩,
        ⟨(some 70), none, .mv (.tmp 2)⟩,
        ⟨(some 71), none, .lenS (.tmp 70)⟩,
        ⟨(some 72), none, .bin .lss 3 (.tmp 69) (.tmp 71)⟩])
      (.cond (.tmp 72)
        (.skip)
        (.exit 0)))
      (.seq (.block 1 (.seq (.seq (.drawn [(0, ⟨(some 75), none, .mv (.tmp 11)⟩),
          (1, ⟨(some 76), none, .mv (.tmp 16)⟩),
          (2, ⟨(some 77), none, .idx (.tmp 75) (.tmp 76) 1⟩),
          (3, ⟨(some 78), none, .ld (.tmp 77) none⟩),
          (4, ⟨(some 79), none, .mv (.tmp 0)⟩),
          (5, ⟨(some 80), none, .mv (.tmp 15)⟩),
          (6, ⟨(some 81), none, .mv (.tmp 2)⟩),
          (7, ⟨(some 82), none, .mv (.tmp 16)⟩),
          (8, ⟨(some 83), none, .idx (.tmp 81) (.tmp 82) 1⟩),
          (9, ⟨(some 84), none, .ld (.tmp 83) none⟩),
          (10, ⟨(some 85), none, .call 22 [(.tmp 79), (.tmp 80), (.tmp 84)]⟩),
          (11, ⟨(some 86), none, .bin .neq 22 (.tmp 78) (.tmp 85)⟩)]
          [[], [], [0, 1], [2], [], [], [], [], [6, 7], [8], [4, 5, 9], [3, 10]]
          [0, 0, 3, 7, 0, 0, 0, 0, 192, 448, 1008, 2047] 1024)
        (.cond (.tmp 86)
          (.seq (.ops [⟨(some 6), none, .mv (.const (Go.Value.bool false))⟩])
          (.ret))
          (.skip)))
        (.ops [⟨(some 87), none, .mv (.tmp 15)⟩,
          ⟨(some 88), none, .mv (.tmp 2)⟩,
          ⟨(some 89), none, .mv (.tmp 16)⟩,
          ⟨(some 90), none, .idx (.tmp 88) (.tmp 89) 1⟩,
          ⟨(some 91), none, .ld (.tmp 90) none⟩,
          ⟨(some 92), none, .bin .add 3 (.tmp 87) (.tmp 91)⟩,
          ⟨(some 15), none, .mv (.tmp 92)⟩])))
      (.ops [⟨(some 73), none, .mv (.tmp 16)⟩,
        ⟨(some 74), none, .bin .add 3 (.tmp 73) (.const (Go.Value.int Go.IntKind.i64 1))⟩,
        ⟨(some 16), none, .mv (.tmp 74)⟩]))))))
  (.seq (.ops [⟨(some 93), none, .mv (.tmp 12)⟩,
    ⟨(some 94), none, .bin .eql 24 (.tmp 93) (.const (Go.Value.int Go.IntKind.i64 0))⟩,
    ⟨(some 95), none, .mv (.tmp 94)⟩,
    ⟨(some 96), (some (95, true)), .mv (.tmp 11)⟩,
    ⟨(some 97), (some (95, true)), .lenS (.tmp 96)⟩,
    ⟨(some 98), (some (95, true)), .mv (.tmp 2)⟩,
    ⟨(some 99), (some (95, true)), .lenS (.tmp 98)⟩,
    ⟨(some 100), (some (95, true)), .bin .eql 3 (.tmp 97) (.tmp 99)⟩,
    ⟨(some 101), none, .pick (.tmp 95) (.tmp 100) (.const (Go.Value.bool false))⟩,
    ⟨(some 102), none, .mv (.tmp 101)⟩,
    ⟨(some 103), (some (102, true)), .mv (.tmp 14)⟩,
    ⟨(some 104), (some (102, true)), .bin .eql 24 (.tmp 103) (.const (Go.Value.int Go.IntKind.i64 0))⟩,
    ⟨(some 105), none, .pick (.tmp 102) (.tmp 104) (.const (Go.Value.bool false))⟩,
    ⟨(some 106), none, .mv (.tmp 105)⟩,
    ⟨(some 107), (some (106, true)), .mv (.tmp 13)⟩,
    ⟨(some 108), (some (106, true)), .mv (.tmp 0)⟩,
    ⟨(some 109), (some (106, true)), .mv (.tmp 15)⟩,
    ⟨(some 110), (some (106, true)), .call 22 [(.tmp 108), (.const (Go.Value.int Go.IntKind.i64 0)), (.tmp 109)]⟩,
    ⟨(some 111), (some (106, true)), .bin .eql 22 (.tmp 107) (.tmp 110)⟩,
    ⟨(some 112), none, .pick (.tmp 106) (.tmp 111) (.const (Go.Value.bool false))⟩,
    ⟨(some 6), none, .mv (.tmp 112)⟩])
  (.ret))))))))))))
theorem is_law01_FieldJoins : FnIs Try.prog F.law01_FieldJoins X.law01_FieldJoins 113 [.tmp 6] := ⟨by kernel_rfl⟩

end Go.Proofs.Ytjlpjhbmfakpjaa
