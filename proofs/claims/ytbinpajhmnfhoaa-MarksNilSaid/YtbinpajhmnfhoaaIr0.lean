import Derived.Test.YtbinpajhmnfhoaaProg
import Derived.Test.YtbinpajhmnfhoaaHxO
import Derived.KernelRfl
namespace Go.Proofs.Ytbinpajhmnfhoaa
open Go Go.HX
abbrev T.int64 : TypeId := 2
abbrev T.int : TypeId := 3
abbrev T.bool : TypeId := 4
abbrev T.uint8 : TypeId := 5
abbrev T.abi_BoundsErrorCode : TypeId := 6
abbrev T.string : TypeId := 9
abbrev T.uintptr : TypeId := 12
abbrev T.ptr_abi_Type : TypeId := 17
abbrev T.maps_unhashableTypeError : TypeId := 19
abbrev T.interface : TypeId := 20
abbrev T.int32 : TypeId := 21
abbrev T.uint64 : TypeId := 22
abbrev T.slice_uint64 : TypeId := 23
abbrev T.ptr_cell_Row : TypeId := 25
abbrev T.api_Errno : TypeId := 26
abbrev T.ptr_cell_Row_api_Errno : TypeId := 27
abbrev T.bool_api_Errno : TypeId := 30
abbrev T.api_Header : TypeId := 35
abbrev T.uint64_api_Errno : TypeId := 36
abbrev T.api_Header_api_Errno : TypeId := 38
abbrev T.int_int_api_Errno : TypeId := 42
abbrev T.api_Entry : TypeId := 46
abbrev T.api_Entry_api_Errno : TypeId := 49
abbrev T.slice_haycroftlaw13_Act : TypeId := 52
abbrev T.ptr_marks_Set : TypeId := 53
abbrev T.slice_int : TypeId := 55
abbrev T.haycroftlaw13_Act : TypeId := 59
abbrev T.bool_bool_uint64 : TypeId := 62
abbrev T.uint32 : TypeId := 67
abbrev T.haycroftlaw05_Act : TypeId := 70
abbrev T.slice_uint64_api_Errno : TypeId := 72
abbrev T.int_int : TypeId := 74
abbrev T.ptr_haycroftref13_Set : TypeId := 82
abbrev T.haycroftref13_Set : TypeId := 85
abbrev T.slice_atomic_Uint64 : TypeId := 90
abbrev T.struct : TypeId := 91
abbrev T.atomic_noCopy : TypeId := 92
abbrev T.atomic_align64 : TypeId := 93
abbrev T.atomic_Int64 : TypeId := 95
abbrev T.cell_Row : TypeId := 97
abbrev T.atomic_Uint64 : TypeId := 99
abbrev T.marks_Set : TypeId := 111
abbrev T.ptr_atomic_Uint64 : TypeId := 114
abbrev T.ptr_uint64 : TypeId := 116
abbrev T.ptr_atomic_Int64 : TypeId := 118
abbrev T.ptr_int64 : TypeId := 120
abbrev T.abi_TFlag : TypeId := 133
abbrev T.abi_Kind : TypeId := 134
abbrev T.ptr_uint8 : TypeId := 136
abbrev T.abi_NameOff : TypeId := 137
abbrev T.abi_TypeOff : TypeId := 138
abbrev T.abi_Type : TypeId := 140
abbrev T.unsafe_Pointer : TypeId := 141
/-- haycroft/cell.New: function 15 -/
abbrev F.cell_New : FuncId := 15
def X.cell_New : X :=
  .seq (.ops [⟨(some 2), none, .mv (.const (Go.Value.pointer none))⟩,
    ⟨(some 3), none, .mv (.const (Go.Value.int Go.IntKind.i64 0))⟩])
  (.seq (.seq (.ops [⟨(some 4), none, .mv (.tmp 0)⟩,
    ⟨(some 5), none, .bin .lss 3 (.tmp 4) (.const (Go.Value.int Go.IntKind.i64 1))⟩,
    ⟨(some 6), none, .mv (.tmp 5)⟩,
    ⟨(some 7), (some (6, false)), .mv (.tmp 0)⟩,
    ⟨(some 8), (some (6, false)), .bin .gtr 3 (.tmp 7) (.const (Go.Value.int Go.IntKind.i64 65536))⟩,
    ⟨(some 9), none, .pick (.tmp 6) (.const (Go.Value.bool true)) (.tmp 8)⟩])
  (.cond (.tmp 9)
    (.seq (.ops [⟨(some 2), none, .mv (.const (Go.Value.pointer none))⟩,
      ⟨(some 3), none, .mv (.const (Go.Value.int Go.IntKind.i64 1))⟩])
    (.ret))
    (.skip)))
  (.seq (.ops [⟨(some 10), none, .mv (.tmp 0)⟩,
    ⟨(some 11), none, .mks 99 1 8 [(Go.Value.int Go.IntKind.u64 0)] (.tmp 10) (.tmp 10)⟩,
    ⟨(some 12), none, .bld [(Go.Value.slice none 0 0), (Go.Value.int Go.IntKind.i64 0), (Go.Value.int Go.IntKind.i64 0)] [(0, 1, (.tmp 11))]⟩,
    ⟨(some 13), none, .box 97 (.tmp 12)⟩,
    ⟨(some 2), none, .mv (.tmp 13)⟩,
    ⟨(some 3), none, .mv (.const (Go.Value.int Go.IntKind.i64 0))⟩])
  (.ret)))
theorem is_cell_New : FnIs Try.prog F.cell_New X.cell_New 14 [.tmp 2, .tmp 3] := ⟨by kernel_rfl⟩

/-- (*haycroft/cell.Row).Len: function 47 -/
abbrev F.cell_Row_Len : FuncId := 47
def X.cell_Row_Len : X :=
  .seq (.ops [⟨(some 2), none, .mv (.const (Go.Value.int Go.IntKind.i64 0))⟩])
  (.seq (.seq (.ops [⟨(some 3), none, .mv (.tmp 0)⟩,
    ⟨(some 4), none, .eq false .ptr (.tmp 3) (.const (Go.Value.pointer none))⟩])
  (.cond (.tmp 4)
    (.seq (.ops [⟨(some 2), none, .mv (.const (Go.Value.int Go.IntKind.i64 0))⟩])
    (.ret))
    (.skip)))
  (.seq (.ops [⟨(some 5), none, .mv (.tmp 0)⟩,
    ⟨(some 6), none, .nilc (.tmp 5)⟩,
    ⟨(some 7), none, .fld (.tmp 6) 0⟩,
    ⟨(some 8), none, .ld (.tmp 7) none⟩,
    ⟨(some 9), none, .lenS (.tmp 8)⟩,
    ⟨(some 2), none, .mv (.tmp 9)⟩])
  (.ret)))
theorem is_cell_Row_Len : FnIs Try.prog F.cell_Row_Len X.cell_Row_Len 10 [.tmp 2] := ⟨by kernel_rfl⟩

/-- (*haycroft/cell.Row).there: function 62 -/
abbrev F.cell_Row_there : FuncId := 62
def X.cell_Row_there : X :=
  .seq (.ops [⟨(some 4), none, .mv (.const (Go.Value.bool false))⟩])
  (.seq (.ops [⟨(some 5), none, .mv (.tmp 1)⟩,
    ⟨(some 6), none, .bin .geq 3 (.tmp 5) (.const (Go.Value.int Go.IntKind.i64 0))⟩,
    ⟨(some 7), none, .mv (.tmp 6)⟩,
    ⟨(some 8), (some (7, true)), .mv (.tmp 1)⟩,
    ⟨(some 9), (some (7, true)), .mv (.tmp 0)⟩,
    ⟨(some 10), (some (7, true)), .call 47 [(.tmp 9)]⟩,
    ⟨(some 11), (some (7, true)), .bin .lss 3 (.tmp 8) (.tmp 10)⟩,
    ⟨(some 12), none, .pick (.tmp 7) (.tmp 11) (.const (Go.Value.bool false))⟩,
    ⟨(some 4), none, .mv (.tmp 12)⟩])
  (.ret))
theorem is_cell_Row_there : FnIs Try.prog F.cell_Row_there X.cell_Row_there 13 [.tmp 4] := ⟨by kernel_rfl⟩

/-- (*haycroft/cell.Row).may: function 58 -/
abbrev F.cell_Row_may : FuncId := 58
def X.cell_Row_may : X :=
  .seq (.ops [⟨(some 4), none, .mv (.const (Go.Value.int Go.IntKind.i64 0))⟩])
  (.seq (.block 0 (.seq (.ops [⟨(some 6), none, .mv (.tmp 0)⟩,
      ⟨(some 7), none, .eq false .ptr (.tmp 6) (.const (Go.Value.pointer none))⟩,
      ⟨(some 5), none, .mv (.tmp 7)⟩])
    (.cond (.tmp 5)
      (.seq (.ops [⟨(some 4), none, .mv (.const (Go.Value.int Go.IntKind.i64 2))⟩])
      (.ret))
      (.seq (.ops [⟨(some 9), none, .mv (.tmp 0)⟩,
        ⟨(some 10), none, .mv (.tmp 1)⟩,
        ⟨(some 11), none, .call 62 [(.tmp 9), (.tmp 10)]⟩,
        ⟨(some 12), none, .un .not (.tmp 11)⟩,
        ⟨(some 8), none, .mv (.tmp 12)⟩])
      (.cond (.tmp 8)
        (.seq (.ops [⟨(some 4), none, .mv (.const (Go.Value.int Go.IntKind.i64 1))⟩])
        (.ret))
        (.skip))))))
  (.seq (.ops [⟨(some 4), none, .mv (.const (Go.Value.int Go.IntKind.i64 0))⟩])
  (.ret)))
theorem is_cell_Row_may : FnIs Try.prog F.cell_Row_may X.cell_Row_may 13 [.tmp 4] := ⟨by kernel_rfl⟩

/-- sync/atomic.CompareAndSwapUint64: function 78, without a body -/
abbrev F.atomic_CompareAndSwapUint64 : FuncId := 78
theorem ext_atomic_CompareAndSwapUint64 : ExtIs Try.prog F.atomic_CompareAndSwapUint64 Try.f78 (Extern.Atomic.casT (.int .u64)) := ⟨Try.func78, by kernel_rfl, by kernel_rfl, by kernel_rfl, by kernel_rfl⟩

/-- (*sync/atomic.Uint64).CompareAndSwap: function 60 -/
abbrev F.atomic_Uint64_CompareAndSwap : FuncId := 60
def X.atomic_Uint64_CompareAndSwap : X :=
  .seq (.ops [⟨(some 6), none, .mv (.const (Go.Value.bool false))⟩])
  (.seq (.ops [⟨(some 7), none, .mv (.tmp 0)⟩,
    ⟨(some 8), none, .nilc (.tmp 7)⟩,
    ⟨(some 9), none, .fld (.tmp 8) 0⟩,
    ⟨(some 10), none, .mv (.tmp 1)⟩,
    ⟨(some 11), none, .mv (.tmp 2)⟩,
    ⟨(some 12), none, .ext1 78 [(.tmp 9), (.tmp 10), (.tmp 11)]⟩,
    ⟨(some 6), none, .mv (.tmp 12)⟩])
  (.ret))
theorem is_atomic_Uint64_CompareAndSwap : FnIs Try.prog F.atomic_Uint64_CompareAndSwap X.atomic_Uint64_CompareAndSwap 13 [.tmp 6] := ⟨by kernel_rfl⟩

/-- sync/atomic.AddInt64: function 79, without a body -/
abbrev F.atomic_AddInt64 : FuncId := 79
theorem ext_atomic_AddInt64 : ExtIs Try.prog F.atomic_AddInt64 Try.f79 (Extern.Atomic.update (Op.intArith .add) .i64 true) := ⟨Try.func79, by kernel_rfl, by kernel_rfl, by kernel_rfl, by kernel_rfl⟩

/-- (*sync/atomic.Int64).Add: function 61 -/
abbrev F.atomic_Int64_Add : FuncId := 61
def X.atomic_Int64_Add : X :=
  .seq (.ops [⟨(some 4), none, .mv (.const (Go.Value.int Go.IntKind.i64 0))⟩])
  (.seq (.ops [⟨(some 5), none, .mv (.tmp 0)⟩,
    ⟨(some 6), none, .nilc (.tmp 5)⟩,
    ⟨(some 7), none, .fld (.tmp 6) 0⟩,
    ⟨(some 8), none, .mv (.tmp 1)⟩,
    ⟨(some 9), none, .ext1 79 [(.tmp 7), (.tmp 8)]⟩,
    ⟨(some 4), none, .mv (.tmp 9)⟩])
  (.ret))
theorem is_atomic_Int64_Add : FnIs Try.prog F.atomic_Int64_Add X.atomic_Int64_Add 10 [.tmp 4] := ⟨by kernel_rfl⟩

/-- (*haycroft/cell.Row).CAS: function 17 -/
abbrev F.cell_Row_CAS : FuncId := 17
def X.cell_Row_CAS : X :=
  .seq (.ops [⟨(some 8), none, .mv (.const (Go.Value.bool false))⟩,
    ⟨(some 9), none, .mv (.const (Go.Value.int Go.IntKind.i64 0))⟩])
  (.seq (.seq (.ops [⟨(some 12), none, .mv (.tmp 0)⟩,
    ⟨(some 13), none, .mv (.tmp 1)⟩,
    ⟨(some 14), none, .call 58 [(.tmp 12), (.tmp 13)]⟩,
    ⟨(some 10), none, .mv (.tmp 14)⟩])
  (.seq (.ops [⟨(some 15), none, .mv (.tmp 10)⟩,
    ⟨(some 16), none, .bin .neq 26 (.tmp 15) (.const (Go.Value.int Go.IntKind.i64 0))⟩])
  (.cond (.tmp 16)
    (.seq (.ops [⟨(some 17), none, .mv (.tmp 10)⟩,
      ⟨(some 8), none, .mv (.const (Go.Value.bool false))⟩,
      ⟨(some 9), none, .mv (.tmp 17)⟩])
    (.ret))
    (.skip))))
  (.seq (.ops [⟨(some 18), none, .mv (.tmp 0)⟩,
    ⟨(some 19), none, .nilc (.tmp 18)⟩,
    ⟨(some 20), none, .fld (.tmp 19) 0⟩,
    ⟨(some 21), none, .ld (.tmp 20) none⟩,
    ⟨(some 22), none, .mv (.tmp 1)⟩,
    ⟨(some 23), none, .idx (.tmp 21) (.tmp 22) 1⟩,
    ⟨(some 24), none, .mv (.tmp 2)⟩,
    ⟨(some 25), none, .mv (.tmp 3)⟩,
    ⟨(some 26), none, .call 60 [(.tmp 23), (.tmp 24), (.tmp 25)]⟩,
    ⟨(some 11), none, .mv (.tmp 26)⟩])
  (.seq (.seq (.ops [⟨(some 27), none, .mv (.tmp 11)⟩])
  (.cond (.tmp 27)
    (.ops [⟨(some 28), none, .mv (.tmp 0)⟩,
      ⟨(some 29), none, .nilc (.tmp 28)⟩,
      ⟨(some 30), none, .fld (.tmp 29) 1⟩,
      ⟨(some 31), none, .call 61 [(.tmp 30), (.const (Go.Value.int Go.IntKind.i64 1))]⟩])
    (.ops [⟨(some 32), none, .mv (.tmp 0)⟩,
      ⟨(some 33), none, .nilc (.tmp 32)⟩,
      ⟨(some 34), none, .fld (.tmp 33) 2⟩,
      ⟨(some 35), none, .call 61 [(.tmp 34), (.const (Go.Value.int Go.IntKind.i64 1))]⟩])))
  (.seq (.ops [⟨(some 36), none, .mv (.tmp 11)⟩,
    ⟨(some 8), none, .mv (.tmp 36)⟩,
    ⟨(some 9), none, .mv (.const (Go.Value.int Go.IntKind.i64 0))⟩])
  (.ret)))))
theorem is_cell_Row_CAS : FnIs Try.prog F.cell_Row_CAS X.cell_Row_CAS 37 [.tmp 8, .tmp 9] := ⟨by kernel_rfl⟩

/-- sync/atomic.LoadInt64: function 85, without a body -/
abbrev F.atomic_LoadInt64 : FuncId := 85
theorem ext_atomic_LoadInt64 : ExtIs Try.prog F.atomic_LoadInt64 Try.f85 (Extern.Atomic.loadT (.int .i64)) := ⟨Try.func85, by kernel_rfl, by kernel_rfl, by kernel_rfl, by kernel_rfl⟩

/-- (*sync/atomic.Int64).Load: function 76 -/
abbrev F.atomic_Int64_Load : FuncId := 76
def X.atomic_Int64_Load : X :=
  .seq (.ops [⟨(some 2), none, .mv (.const (Go.Value.int Go.IntKind.i64 0))⟩])
  (.seq (.ops [⟨(some 3), none, .mv (.tmp 0)⟩,
    ⟨(some 4), none, .nilc (.tmp 3)⟩,
    ⟨(some 5), none, .fld (.tmp 4) 0⟩,
    ⟨(some 6), none, .ext1 85 [(.tmp 5)]⟩,
    ⟨(some 2), none, .mv (.tmp 6)⟩])
  (.ret))
theorem is_atomic_Int64_Load : FnIs Try.prog F.atomic_Int64_Load X.atomic_Int64_Load 7 [.tmp 2] := ⟨by kernel_rfl⟩

/-- (*haycroft/cell.Row).Counts: function 46 -/
abbrev F.cell_Row_Counts : FuncId := 46
def X.cell_Row_Counts : X :=
  .seq (.ops [⟨(some 2), none, .mv (.const (Go.Value.int Go.IntKind.i64 0))⟩,
    ⟨(some 3), none, .mv (.const (Go.Value.int Go.IntKind.i64 0))⟩])
  (.seq (.seq (.ops [⟨(some 4), none, .mv (.tmp 0)⟩,
    ⟨(some 5), none, .eq false .ptr (.tmp 4) (.const (Go.Value.pointer none))⟩])
  (.cond (.tmp 5)
    (.seq (.ops [⟨(some 2), none, .mv (.const (Go.Value.int Go.IntKind.i64 0))⟩,
      ⟨(some 3), none, .mv (.const (Go.Value.int Go.IntKind.i64 0))⟩])
    (.ret))
    (.skip)))
  (.seq (.drawn [(0, ⟨(some 6), none, .mv (.tmp 0)⟩),
    (1, ⟨(some 7), none, .nilc (.tmp 6)⟩),
    (2, ⟨(some 8), none, .fld (.tmp 7) 1⟩),
    (4, ⟨(some 10), none, .mv (.tmp 0)⟩),
    (5, ⟨(some 11), none, .nilc (.tmp 10)⟩),
    (6, ⟨(some 12), none, .fld (.tmp 11) 2⟩),
    (3, ⟨(some 9), none, .call 76 [(.tmp 8)]⟩),
    (7, ⟨(some 13), none, .call 76 [(.tmp 12)]⟩),
    (8, ⟨(some 2), none, .mv (.tmp 9)⟩),
    (9, ⟨(some 3), none, .mv (.tmp 13)⟩)]
    [[], [0], [1], [2], [], [4], [5], [6, 3], [3, 7, 0, 1, 2, 3], [7, 8, 0, 1, 2, 3, 4, 5, 6, 7, 8]]
    [0, 1, 3, 7, 0, 16, 48, 127, 255, 511] 136)
  (.ret)))
theorem is_cell_Row_Counts : FnIs Try.prog F.cell_Row_Counts X.cell_Row_Counts 14 [.tmp 2, .tmp 3] := ⟨by kernel_rfl⟩

/-- sync/atomic.LoadUint64: function 80, without a body -/
abbrev F.atomic_LoadUint64 : FuncId := 80
theorem ext_atomic_LoadUint64 : ExtIs Try.prog F.atomic_LoadUint64 Try.f80 (Extern.Atomic.loadT (.int .u64)) := ⟨Try.func80, by kernel_rfl, by kernel_rfl, by kernel_rfl, by kernel_rfl⟩

/-- (*sync/atomic.Uint64).Load: function 63 -/
abbrev F.atomic_Uint64_Load : FuncId := 63
def X.atomic_Uint64_Load : X :=
  .seq (.ops [⟨(some 2), none, .mv (.const (Go.Value.int Go.IntKind.u64 0))⟩])
  (.seq (.ops [⟨(some 3), none, .mv (.tmp 0)⟩,
    ⟨(some 4), none, .nilc (.tmp 3)⟩,
    ⟨(some 5), none, .fld (.tmp 4) 0⟩,
    ⟨(some 6), none, .ext1 80 [(.tmp 5)]⟩,
    ⟨(some 2), none, .mv (.tmp 6)⟩])
  (.ret))
theorem is_atomic_Uint64_Load : FnIs Try.prog F.atomic_Uint64_Load X.atomic_Uint64_Load 7 [.tmp 2] := ⟨by kernel_rfl⟩

/-- (*haycroft/cell.Row).Load: function 18 -/
abbrev F.cell_Row_Load : FuncId := 18
def X.cell_Row_Load : X :=
  .seq (.ops [⟨(some 4), none, .mv (.const (Go.Value.int Go.IntKind.u64 0))⟩])
  (.seq (.seq (.ops [⟨(some 5), none, .mv (.tmp 0)⟩,
    ⟨(some 6), none, .mv (.tmp 1)⟩,
    ⟨(some 7), none, .call 62 [(.tmp 5), (.tmp 6)]⟩,
    ⟨(some 8), none, .un .not (.tmp 7)⟩])
  (.cond (.tmp 8)
    (.seq (.ops [⟨(some 4), none, .mv (.const (Go.Value.int Go.IntKind.u64 0))⟩])
    (.ret))
    (.skip)))
  (.seq (.ops [⟨(some 9), none, .mv (.tmp 0)⟩,
    ⟨(some 10), none, .nilc (.tmp 9)⟩,
    ⟨(some 11), none, .fld (.tmp 10) 0⟩,
    ⟨(some 12), none, .ld (.tmp 11) none⟩,
    ⟨(some 13), none, .mv (.tmp 1)⟩,
    ⟨(some 14), none, .idx (.tmp 12) (.tmp 13) 1⟩,
    ⟨(some 15), none, .call 63 [(.tmp 14)]⟩,
    ⟨(some 4), none, .mv (.tmp 15)⟩])
  (.ret)))
theorem is_cell_Row_Load : FnIs Try.prog F.cell_Row_Load X.cell_Row_Load 16 [.tmp 4] := ⟨by kernel_rfl⟩

/-- haycroft/haycroftlaw05.awake: function 14 -/
abbrev F.law05_awake : FuncId := 14
def X.law05_awake : X :=
  .seq (.ops [⟨(some 0), none, .mv (.const (Go.Value.bool false))⟩])
  (.seq (.ops [⟨(some 10), none, .call 15 [(.const (Go.Value.int Go.IntKind.i64 2))]⟩,
    ⟨(some 9), none, .mv (.tmp 10)⟩,
    ⟨(some 11), none, .ext (.tmp 9) 0⟩,
    ⟨(some 12), none, .ext (.tmp 9) 1⟩,
    ⟨(some 1), none, .mv (.tmp 11)⟩,
    ⟨(some 2), none, .mv (.tmp 12)⟩])
  (.seq (.ops [⟨(some 14), none, .mv (.tmp 1)⟩,
    ⟨(some 15), none, .call 17 [(.tmp 14), (.const (Go.Value.int Go.IntKind.i64 0)), (.const (Go.Value.int Go.IntKind.u64 0)), (.const (Go.Value.int Go.IntKind.u64 5))]⟩,
    ⟨(some 13), none, .mv (.tmp 15)⟩,
    ⟨(some 16), none, .ext (.tmp 13) 0⟩,
    ⟨(some 17), none, .ext (.tmp 13) 1⟩,
    ⟨(some 3), none, .mv (.tmp 16)⟩,
    ⟨(some 4), none, .mv (.tmp 17)⟩])
  (.seq (.ops [⟨(some 19), none, .mv (.tmp 1)⟩,
    ⟨(some 20), none, .call 17 [(.tmp 19), (.const (Go.Value.int Go.IntKind.i64 0)), (.const (Go.Value.int Go.IntKind.u64 0)), (.const (Go.Value.int Go.IntKind.u64 6))]⟩,
    ⟨(some 18), none, .mv (.tmp 20)⟩,
    ⟨(some 21), none, .ext (.tmp 18) 0⟩,
    ⟨(some 22), none, .ext (.tmp 18) 1⟩,
    ⟨(some 5), none, .mv (.tmp 21)⟩,
    ⟨(some 6), none, .mv (.tmp 22)⟩])
  (.seq (.ops [⟨(some 24), none, .mv (.tmp 1)⟩,
    ⟨(some 25), none, .call 46 [(.tmp 24)]⟩,
    ⟨(some 23), none, .mv (.tmp 25)⟩,
    ⟨(some 26), none, .ext (.tmp 23) 0⟩,
    ⟨(some 27), none, .ext (.tmp 23) 1⟩,
    ⟨(some 7), none, .mv (.tmp 26)⟩,
    ⟨(some 8), none, .mv (.tmp 27)⟩])
  (.seq (.ops [⟨(some 28), none, .mv (.tmp 2)⟩,
    ⟨(some 29), none, .bin .eql 26 (.tmp 28) (.const (Go.Value.int Go.IntKind.i64 0))⟩,
    ⟨(some 30), none, .mv (.tmp 29)⟩,
    ⟨(some 31), (some (30, true)), .mv (.tmp 3)⟩,
    ⟨(some 32), none, .pick (.tmp 30) (.tmp 31) (.const (Go.Value.bool false))⟩,
    ⟨(some 33), none, .mv (.tmp 32)⟩,
    ⟨(some 34), (some (33, true)), .mv (.tmp 4)⟩,
    ⟨(some 35), (some (33, true)), .bin .eql 26 (.tmp 34) (.const (Go.Value.int Go.IntKind.i64 0))⟩,
    ⟨(some 36), none, .pick (.tmp 33) (.tmp 35) (.const (Go.Value.bool false))⟩,
    ⟨(some 37), none, .mv (.tmp 36)⟩,
    ⟨(some 38), (some (37, true)), .mv (.tmp 5)⟩,
    ⟨(some 39), (some (37, true)), .un .not (.tmp 38)⟩,
    ⟨(some 40), none, .pick (.tmp 37) (.tmp 39) (.const (Go.Value.bool false))⟩,
    ⟨(some 41), none, .mv (.tmp 40)⟩,
    ⟨(some 42), (some (41, true)), .mv (.tmp 6)⟩,
    ⟨(some 43), (some (41, true)), .bin .eql 26 (.tmp 42) (.const (Go.Value.int Go.IntKind.i64 0))⟩,
    ⟨(some 44), none, .pick (.tmp 41) (.tmp 43) (.const (Go.Value.bool false))⟩,
    ⟨(some 45), none, .mv (.tmp 44)⟩,
    ⟨(some 46), (some (45, true)), .mv (.tmp 1)⟩,
    ⟨(some 47), (some (45, true)), .call 18 [(.tmp 46), (.const (Go.Value.int Go.IntKind.i64 0))]⟩,
    ⟨(some 48), (some (45, true)), .bin .eql 22 (.tmp 47) (.const (Go.Value.int Go.IntKind.u64 5))⟩,
    ⟨(some 49), none, .pick (.tmp 45) (.tmp 48) (.const (Go.Value.bool false))⟩,
    ⟨(some 50), none, .mv (.tmp 49)⟩,
    ⟨(some 51), (some (50, true)), .mv (.tmp 7)⟩,
    ⟨(some 52), (some (50, true)), .bin .eql 3 (.tmp 51) (.const (Go.Value.int Go.IntKind.i64 1))⟩,
    ⟨(some 53), none, .pick (.tmp 50) (.tmp 52) (.const (Go.Value.bool false))⟩,
    ⟨(some 54), none, .mv (.tmp 53)⟩,
    ⟨(some 55), (some (54, true)), .mv (.tmp 8)⟩,
    ⟨(some 56), (some (54, true)), .bin .eql 3 (.tmp 55) (.const (Go.Value.int Go.IntKind.i64 1))⟩,
    ⟨(some 57), none, .pick (.tmp 54) (.tmp 56) (.const (Go.Value.bool false))⟩,
    ⟨(some 0), none, .mv (.tmp 57)⟩])
  (.ret))))))
theorem is_law05_awake : FnIs Try.prog F.law05_awake X.law05_awake 58 [.tmp 0] := ⟨by kernel_rfl⟩

/-- sync/atomic.StoreUint64: function 77, without a body -/
abbrev F.atomic_StoreUint64 : FuncId := 77
theorem ext_atomic_StoreUint64 : ExtIs Try.prog F.atomic_StoreUint64 Try.f77 Extern.Atomic.storeT := ⟨Try.func77, by kernel_rfl, by kernel_rfl, by kernel_rfl, by kernel_rfl⟩

/-- (*sync/atomic.Uint64).Store: function 59 -/
abbrev F.atomic_Uint64_Store : FuncId := 59
def X.atomic_Uint64_Store : X :=
  .ops [⟨(some 4), none, .mv (.tmp 0)⟩,
    ⟨(some 5), none, .nilc (.tmp 4)⟩,
    ⟨(some 6), none, .fld (.tmp 5) 0⟩,
    ⟨(some 7), none, .mv (.tmp 1)⟩,
    ⟨(some 8), none, .ext1 77 [(.tmp 6), (.tmp 7)]⟩]
theorem is_atomic_Uint64_Store : FnIs Try.prog F.atomic_Uint64_Store X.atomic_Uint64_Store 9 [] := ⟨by kernel_rfl⟩

/-- (*haycroft/cell.Row).Store: function 16 -/
abbrev F.cell_Row_Store : FuncId := 16
def X.cell_Row_Store : X :=
  .seq (.ops [⟨(some 6), none, .mv (.const (Go.Value.int Go.IntKind.i64 0))⟩])
  (.seq (.ops [⟨(some 8), none, .mv (.tmp 0)⟩,
    ⟨(some 9), none, .mv (.tmp 1)⟩,
    ⟨(some 10), none, .call 58 [(.tmp 8), (.tmp 9)]⟩,
    ⟨(some 7), none, .mv (.tmp 10)⟩])
  (.seq (.seq (.ops [⟨(some 11), none, .mv (.tmp 7)⟩,
    ⟨(some 12), none, .bin .eql 26 (.tmp 11) (.const (Go.Value.int Go.IntKind.i64 0))⟩])
  (.cond (.tmp 12)
    (.ops [⟨(some 13), none, .mv (.tmp 0)⟩,
      ⟨(some 14), none, .nilc (.tmp 13)⟩,
      ⟨(some 15), none, .fld (.tmp 14) 0⟩,
      ⟨(some 16), none, .ld (.tmp 15) none⟩,
      ⟨(some 17), none, .mv (.tmp 1)⟩,
      ⟨(some 18), none, .idx (.tmp 16) (.tmp 17) 1⟩,
      ⟨(some 19), none, .mv (.tmp 2)⟩,
      ⟨(some 20), none, .call 59 [(.tmp 18), (.tmp 19)]⟩])
    (.skip)))
  (.seq (.ops [⟨(some 21), none, .mv (.tmp 7)⟩,
    ⟨(some 6), none, .mv (.tmp 21)⟩])
  (.ret))))
theorem is_cell_Row_Store : FnIs Try.prog F.cell_Row_Store X.cell_Row_Store 22 [.tmp 6] := ⟨by kernel_rfl⟩

-- loop (inner ones first): [0, 1, 2, 7, 9, 10]
/-- haycroft/haycroftlaw05.CellOnce: function 3 -/
abbrev F.law05_CellOnce : FuncId := 3
def X.law05_CellOnce : X :=
  .seq (.ops [⟨(some 6), none, .mv (.const (Go.Value.bool false))⟩])
  (.seq (.seq (.ops [⟨(some 13), none, .call 14 []⟩,
    ⟨(some 14), none, .un .not (.tmp 13)⟩])
  (.cond (.tmp 14)
    (.seq (.ops [⟨(some 6), none, .mv (.const (Go.Value.bool false))⟩])
    (.ret))
    (.skip)))
  (.seq (.ops [⟨(some 16), none, .call 15 [(.const (Go.Value.int Go.IntKind.i64 8))]⟩,
    ⟨(some 15), none, .mv (.tmp 16)⟩,
    ⟨(some 17), none, .ext (.tmp 15) 0⟩,
    ⟨(some 18), none, .ext (.tmp 15) 1⟩,
    ⟨(some 7), none, .mv (.tmp 17)⟩,
    ⟨(some 8), none, .mv (.tmp 18)⟩])
  (.seq (.ops [⟨(some 19), none, .mv (.tmp 0)⟩,
    ⟨(some 20), none, .bin .and 3 (.tmp 19) (.const (Go.Value.int Go.IntKind.i64 7))⟩,
    ⟨(some 0), none, .mv (.tmp 20)⟩])
  (.seq (.seq (.ops [⟨(some 21), none, .mv (.tmp 8)⟩,
    ⟨(some 22), none, .bin .neq 26 (.tmp 21) (.const (Go.Value.int Go.IntKind.i64 0))⟩,
    ⟨(some 23), none, .mv (.tmp 22)⟩,
    ⟨(some 24), (some (23, false)), .mv (.tmp 7)⟩,
    ⟨(some 25), (some (23, false)), .mv (.tmp 0)⟩,
    ⟨(some 26), (some (23, false)), .mv (.tmp 1)⟩,
    ⟨(some 27), (some (23, false)), .call 16 [(.tmp 24), (.tmp 25), (.tmp 26)]⟩,
    ⟨(some 28), (some (23, false)), .bin .neq 26 (.tmp 27) (.const (Go.Value.int Go.IntKind.i64 0))⟩,
    ⟨(some 29), none, .pick (.tmp 23) (.const (Go.Value.bool true)) (.tmp 28)⟩])
  (.cond (.tmp 29)
    (.seq (.ops [⟨(some 6), none, .mv (.const (Go.Value.bool false))⟩])
    (.ret))
    (.skip)))
  (.seq (.ops [⟨(some 9), none, .mv (.const (Go.Value.int Go.IntKind.i64 (-1)))⟩])
  (.seq (.seq (.ops [⟨(some 10), none, .mv (.const (Go.Value.int Go.IntKind.i64 0))⟩])
  (.block 0 (.loop (.seq (.seq (.ops [⟨(some 30), none, .mv (.tmp 10)⟩,
        ⟨(some 31), none, .mv (.tmp 2)⟩,
        ⟨(some 32), none, .lenS (.tmp 31)⟩,
        ⟨(some 33), none, .bin .lss 3 (.tmp 30) (.tmp 32)⟩,
        ⟨(some 34), none, .mv (.tmp 33)⟩,
        ⟨(some 35), (some (34, true)), .mv (.tmp 10)⟩,
        ⟨(some 36), (some (34, true)), .bin .lss 3 (.tmp 35) (.const (Go.Value.int Go.IntKind.i64 100))⟩,
        ⟨(some 37), none, .pick (.tmp 34) (.tmp 36) (.const (Go.Value.bool false))⟩])
      (.cond (.tmp 37)
        (.skip)
        (.exit 0)))
      (.seq (.block 1 (.seq (.seq (.ops [⟨(some 40), none, .mv (.tmp 2)⟩,
          ⟨(some 41), none, .mv (.tmp 10)⟩,
          ⟨(some 42), none, .idx (.tmp 40) (.tmp 41) 1⟩,
          ⟨(some 43), none, .ld (.tmp 42) none⟩,
          ⟨(some 44), none, .mv (.tmp 1)⟩,
          ⟨(some 45), none, .bin .eql 22 (.tmp 43) (.tmp 44)⟩])
        (.cond (.tmp 45)
          (.exit 1)
          (.skip)))
        (.seq (.ops [⟨(some 47), none, .mv (.tmp 7)⟩,
          ⟨(some 48), none, .mv (.tmp 0)⟩,
          ⟨(some 49), none, .mv (.tmp 1)⟩,
          ⟨(some 50), none, .mv (.tmp 2)⟩,
          ⟨(some 51), none, .mv (.tmp 10)⟩,
          ⟨(some 52), none, .idx (.tmp 50) (.tmp 51) 1⟩,
          ⟨(some 53), none, .ld (.tmp 52) none⟩,
          ⟨(some 54), none, .call 17 [(.tmp 47), (.tmp 48), (.tmp 49), (.tmp 53)]⟩,
          ⟨(some 46), none, .mv (.tmp 54)⟩,
          ⟨(some 55), none, .ext (.tmp 46) 0⟩,
          ⟨(some 56), none, .ext (.tmp 46) 1⟩,
          ⟨(some 11), none, .mv (.tmp 55)⟩,
          ⟨(some 12), none, .mv (.tmp 56)⟩])
        (.seq (.seq (.ops [⟨(some 57), none, .mv (.tmp 12)⟩,
          ⟨(some 58), none, .bin .neq 26 (.tmp 57) (.const (Go.Value.int Go.IntKind.i64 0))⟩,
          ⟨(some 59), none, .mv (.tmp 58)⟩,
          ⟨(some 60), (some (59, false)), .mv (.tmp 11)⟩,
          ⟨(some 61), (some (59, false)), .mv (.tmp 9)⟩,
          ⟨(some 62), (some (59, false)), .bin .lss 3 (.tmp 61) (.const (Go.Value.int Go.IntKind.i64 0))⟩,
          ⟨(some 63), (some (59, false)), .eq true .bool (.tmp 60) (.tmp 62)⟩,
          ⟨(some 64), none, .pick (.tmp 59) (.const (Go.Value.bool true)) (.tmp 63)⟩])
        (.cond (.tmp 64)
          (.seq (.ops [⟨(some 6), none, .mv (.const (Go.Value.bool false))⟩])
          (.ret))
          (.skip)))
        (.seq (.ops [⟨(some 65), none, .mv (.tmp 11)⟩])
        (.cond (.tmp 65)
          (.ops [⟨(some 66), none, .mv (.tmp 10)⟩,
            ⟨(some 9), none, .mv (.tmp 66)⟩])
          (.skip)))))))
      (.ops [⟨(some 38), none, .mv (.tmp 10)⟩,
        ⟨(some 39), none, .bin .add 3 (.tmp 38) (.const (Go.Value.int Go.IntKind.i64 1))⟩,
        ⟨(some 10), none, .mv (.tmp 39)⟩]))))))
  (.seq (.drawn [(0, ⟨(some 67), none, .mv (.tmp 9)⟩),
    (1, ⟨(some 68), none, .bin .lss 3 (.tmp 67) (.const (Go.Value.int Go.IntKind.i64 0))⟩),
    (2, ⟨(some 69), none, .mv (.tmp 68)⟩),
    (3, ⟨(some 70), (some (69, true)), .mv (.tmp 7)⟩),
    (4, ⟨(some 71), (some (69, true)), .mv (.tmp 0)⟩),
    (6, ⟨(some 73), (some (69, true)), .mv (.tmp 1)⟩),
    (5, ⟨(some 72), (some (69, true)), .call 18 [(.tmp 70), (.tmp 71)]⟩),
    (7, ⟨(some 74), (some (69, true)), .bin .eql 22 (.tmp 72) (.tmp 73)⟩),
    (8, ⟨(some 75), none, .pick (.tmp 69) (.tmp 74) (.const (Go.Value.bool false))⟩),
    (9, ⟨(some 76), none, .mv (.tmp 75)⟩),
    (10, ⟨(some 77), (some (76, false)), .mv (.tmp 9)⟩),
    (11, ⟨(some 78), (some (76, false)), .bin .geq 3 (.tmp 77) (.const (Go.Value.int Go.IntKind.i64 0))⟩),
    (12, ⟨(some 79), (some (76, false)), .mv (.tmp 78)⟩),
    (13, ⟨(some 80), (some (79, true)), .mv (.tmp 7)⟩),
    (14, ⟨(some 81), (some (79, true)), .mv (.tmp 0)⟩),
    (16, ⟨(some 83), (some (79, true)), .mv (.tmp 2)⟩),
    (17, ⟨(some 84), (some (79, true)), .mv (.tmp 9)⟩),
    (18, ⟨(some 85), (some (79, true)), .idx (.tmp 83) (.tmp 84) 1⟩),
    (19, ⟨(some 86), (some (79, true)), .ld (.tmp 85) none⟩),
    (15, ⟨(some 82), (some (79, true)), .call 18 [(.tmp 80), (.tmp 81)]⟩),
    (20, ⟨(some 87), (some (79, true)), .bin .eql 22 (.tmp 82) (.tmp 86)⟩),
    (21, ⟨(some 88), (some (76, false)), .pick (.tmp 79) (.tmp 87) (.const (Go.Value.bool false))⟩),
    (22, ⟨(some 89), none, .pick (.tmp 76) (.const (Go.Value.bool true)) (.tmp 88)⟩),
    (23, ⟨(some 6), none, .mv (.tmp 89)⟩)]
    [[], [0], [1], [2], [2], [3, 4, 2, 2], [2], [5, 6, 2], [2, 7], [8, 5], [9], [10, 9], [11, 9, 9], [12], [12], [13, 14, 12, 12], [12], [12], [16, 17, 12], [18, 12], [15, 19, 12], [12, 20, 9], [9, 21], [22, 15, 0, 1, 2, 3, 4, 5, 6, 7, 8, 9, 10, 11, 12, 13, 14, 15, 16, 17, 18, 19, 20, 21, 22]]
    [0, 1, 3, 7, 7, 31, 7, 127, 255, 511, 1023, 2047, 4095, 8191, 8191, 32767, 8191, 8191, 204799, 466943, 1048575, 2097151, 4194303, 8388607] 32800)
  (.ret))))))))
theorem is_law05_CellOnce : FnIs Try.prog F.law05_CellOnce X.law05_CellOnce 90 [.tmp 6] := ⟨by kernel_rfl⟩

-- loop (inner ones first): [3, 6, 7, 8]
/-- haycroft/field.fit: function 81 -/
abbrev F.field_fit : FuncId := 81
def X.field_fit : X :=
  .seq (.ops [⟨(some 2), none, .mv (.const (Go.Value.bool false))⟩])
  (.seq (.ops [⟨(some 3), none, .mv (.const (Go.Value.int Go.IntKind.i64 64))⟩])
  (.seq (.seq (.ops [⟨(some 6), none, .mv (.tmp 0)⟩,
    ⟨(some 7), none, .lenS (.tmp 6)⟩,
    ⟨(some 8), none, .mv (.const (Go.Value.int Go.IntKind.i64 0))⟩])
  (.block 0 (.loop (.seq (.ops [⟨(some 9), none, .bin .lss 3 (.tmp 8) (.tmp 7)⟩])
      (.seq (.cond (.tmp 9)
        (.skip)
        (.exit 0))
      (.seq (.block 1 (.seq (.ops [⟨(some 10), none, .idx (.tmp 6) (.tmp 8) 1⟩,
          ⟨(some 11), none, .ld (.tmp 10) none⟩,
          ⟨(some 5), none, .mv (.tmp 11)⟩])
        (.seq (.seq (.ops [⟨(some 12), none, .mv (.tmp 5)⟩,
          ⟨(some 13), none, .bin .lss 3 (.tmp 12) (.const (Go.Value.int Go.IntKind.i64 1))⟩,
          ⟨(some 14), none, .mv (.tmp 13)⟩,
          ⟨(some 15), (some (14, false)), .mv (.tmp 5)⟩,
          ⟨(some 16), (some (14, false)), .mv (.tmp 3)⟩,
          ⟨(some 17), (some (14, false)), .bin .gtr 3 (.tmp 15) (.tmp 16)⟩,
          ⟨(some 18), none, .pick (.tmp 14) (.const (Go.Value.bool true)) (.tmp 17)⟩])
        (.cond (.tmp 18)
          (.seq (.ops [⟨(some 2), none, .mv (.const (Go.Value.bool false))⟩])
          (.ret))
          (.skip)))
        (.ops [⟨(some 19), none, .mv (.tmp 3)⟩,
          ⟨(some 20), none, .mv (.tmp 5)⟩,
          ⟨(some 21), none, .bin .sub 3 (.tmp 19) (.tmp 20)⟩,
          ⟨(some 3), none, .mv (.tmp 21)⟩]))))
      (.ops [⟨(some 22), none, .bin .add 3 (.tmp 8) (.const (Go.Value.int Go.IntKind.i64 1))⟩,
        ⟨(some 8), none, .mv (.tmp 22)⟩])))))))
  (.seq (.ops [⟨(some 2), none, .mv (.const (Go.Value.bool true))⟩])
  (.ret))))
theorem is_field_fit : FnIs Try.prog F.field_fit X.field_fit 23 [.tmp 2] := ⟨by kernel_rfl⟩

/-- haycroft/field.Right: function 83 -/
abbrev F.field_Right : FuncId := 83
def X.field_Right : X :=
  .seq (.ops [⟨(some 4), none, .mv (.const (Go.Value.bool false))⟩])
  (.seq (.ops [⟨(some 5), none, .mv (.tmp 0)⟩,
    ⟨(some 6), none, .bin .geq 3 (.tmp 5) (.const (Go.Value.int Go.IntKind.i64 0))⟩,
    ⟨(some 7), none, .mv (.tmp 6)⟩,
    ⟨(some 8), (some (7, true)), .mv (.tmp 0)⟩,
    ⟨(some 9), (some (7, true)), .bin .lss 3 (.tmp 8) (.const (Go.Value.int Go.IntKind.i64 64))⟩,
    ⟨(some 10), none, .pick (.tmp 7) (.tmp 9) (.const (Go.Value.bool false))⟩,
    ⟨(some 11), none, .mv (.tmp 10)⟩,
    ⟨(some 12), (some (11, true)), .mv (.tmp 1)⟩,
    ⟨(some 13), (some (11, true)), .bin .geq 3 (.tmp 12) (.const (Go.Value.int Go.IntKind.i64 1))⟩,
    ⟨(some 14), none, .pick (.tmp 11) (.tmp 13) (.const (Go.Value.bool false))⟩,
    ⟨(some 15), none, .mv (.tmp 14)⟩,
    ⟨(some 16), (some (15, true)), .mv (.tmp 1)⟩,
    ⟨(some 17), (some (15, true)), .mv (.tmp 0)⟩,
    ⟨(some 18), (some (15, true)), .bin .sub 3 (.const (Go.Value.int Go.IntKind.i64 64)) (.tmp 17)⟩,
    ⟨(some 19), (some (15, true)), .bin .leq 3 (.tmp 16) (.tmp 18)⟩,
    ⟨(some 20), none, .pick (.tmp 15) (.tmp 19) (.const (Go.Value.bool false))⟩,
    ⟨(some 4), none, .mv (.tmp 20)⟩])
  (.ret))
theorem is_field_Right : FnIs Try.prog F.field_Right X.field_Right 21 [.tmp 4] := ⟨by kernel_rfl⟩

/-- haycroft/field.Most: function 66 -/
abbrev F.field_Most : FuncId := 66
def X.field_Most : X :=
  .seq (.ops [⟨(some 2), none, .mv (.const (Go.Value.int Go.IntKind.u64 0))⟩])
  (.seq (.block 0 (.seq (.ops [⟨(some 4), none, .mv (.tmp 0)⟩,
      ⟨(some 5), none, .bin .lss 3 (.tmp 4) (.const (Go.Value.int Go.IntKind.i64 1))⟩,
      ⟨(some 3), none, .mv (.tmp 5)⟩])
    (.cond (.tmp 3)
      (.seq (.ops [⟨(some 2), none, .mv (.const (Go.Value.int Go.IntKind.u64 0))⟩])
      (.ret))
      (.seq (.ops [⟨(some 7), none, .mv (.tmp 0)⟩,
        ⟨(some 8), none, .bin .geq 3 (.tmp 7) (.const (Go.Value.int Go.IntKind.i64 64))⟩,
        ⟨(some 6), none, .mv (.tmp 8)⟩])
      (.cond (.tmp 6)
        (.seq (.ops [⟨(some 2), none, .mv (.const (Go.Value.int Go.IntKind.u64 18446744073709551615))⟩])
        (.ret))
        (.skip))))))
  (.seq (.ops [⟨(some 9), none, .mv (.tmp 0)⟩,
    ⟨(some 10), none, .bin .shl 22 (.const (Go.Value.int Go.IntKind.u64 1)) (.tmp 9)⟩,
    ⟨(some 11), none, .bin .sub 22 (.tmp 10) (.const (Go.Value.int Go.IntKind.u64 1))⟩,
    ⟨(some 2), none, .mv (.tmp 11)⟩])
  (.ret)))
theorem is_field_Most : FnIs Try.prog F.field_Most X.field_Most 12 [.tmp 2] := ⟨by kernel_rfl⟩

/-- haycroft/field.Put: function 82 -/
abbrev F.field_Put : FuncId := 82
def X.field_Put : X :=
  .seq (.ops [⟨(some 8), none, .mv (.const (Go.Value.int Go.IntKind.u64 0))⟩,
    ⟨(some 9), none, .mv (.const (Go.Value.int Go.IntKind.i64 0))⟩])
  (.seq (.block 0 (.seq (.ops [⟨(some 11), none, .mv (.tmp 1)⟩,
      ⟨(some 12), none, .mv (.tmp 2)⟩,
      ⟨(some 13), none, .call 83 [(.tmp 11), (.tmp 12)]⟩,
      ⟨(some 14), none, .un .not (.tmp 13)⟩,
      ⟨(some 10), none, .mv (.tmp 14)⟩])
    (.cond (.tmp 10)
      (.seq (.ops [⟨(some 8), none, .mv (.const (Go.Value.int Go.IntKind.u64 0))⟩,
        ⟨(some 9), none, .mv (.const (Go.Value.int Go.IntKind.i64 1))⟩])
      (.ret))
      (.seq (.ops [⟨(some 16), none, .mv (.tmp 3)⟩,
        ⟨(some 17), none, .mv (.tmp 2)⟩,
        ⟨(some 18), none, .call 66 [(.tmp 17)]⟩,
        ⟨(some 19), none, .bin .gtr 22 (.tmp 16) (.tmp 18)⟩,
        ⟨(some 15), none, .mv (.tmp 19)⟩])
      (.cond (.tmp 15)
        (.seq (.ops [⟨(some 8), none, .mv (.const (Go.Value.int Go.IntKind.u64 0))⟩,
          ⟨(some 9), none, .mv (.const (Go.Value.int Go.IntKind.i64 13))⟩])
        (.ret))
        (.skip))))))
  (.seq (.drawn [(0, ⟨(some 20), none, .mv (.tmp 0)⟩),
    (1, ⟨(some 21), none, .mv (.tmp 2)⟩),
    (3, ⟨(some 23), none, .mv (.tmp 1)⟩),
    (6, ⟨(some 26), none, .mv (.tmp 3)⟩),
    (7, ⟨(some 27), none, .mv (.tmp 1)⟩),
    (8, ⟨(some 28), none, .bin .shl 22 (.tmp 26) (.tmp 27)⟩),
    (2, ⟨(some 22), none, .call 66 [(.tmp 21)]⟩),
    (4, ⟨(some 24), none, .bin .shl 22 (.tmp 22) (.tmp 23)⟩),
    (5, ⟨(some 25), none, .bin .andNot 22 (.tmp 20) (.tmp 24)⟩),
    (9, ⟨(some 29), none, .bin .or 22 (.tmp 25) (.tmp 28)⟩),
    (10, ⟨(some 8), none, .mv (.tmp 29)⟩),
    (11, ⟨(some 9), none, .mv (.const (Go.Value.int Go.IntKind.i64 0))⟩)]
    [[], [], [1], [], [2, 3], [0, 4], [], [], [6, 7], [5, 8], [9, 2, 0, 1, 2, 3, 4, 5, 6, 7, 8, 9], [10, 0, 1, 2, 3, 4, 5, 6, 7, 8, 9, 10]]
    [0, 0, 2, 0, 14, 31, 0, 0, 192, 511, 1023, 2047] 4)
  (.ret)))
theorem is_field_Put : FnIs Try.prog F.field_Put X.field_Put 30 [.tmp 8, .tmp 9] := ⟨by kernel_rfl⟩

-- loop (inner ones first): [0, 6, 7, 22, 23, 24]
/-- haycroft/field.Join: function 64 -/
abbrev F.field_Join : FuncId := 64
def X.field_Join : X :=
  .seq (.ops [⟨(some 4), none, .mv (.const (Go.Value.int Go.IntKind.u64 0))⟩,
    ⟨(some 5), none, .mv (.const (Go.Value.int Go.IntKind.i64 0))⟩])
  (.seq (.seq (.ops [⟨(some 12), none, .mv (.tmp 0)⟩,
    ⟨(some 13), none, .lenS (.tmp 12)⟩,
    ⟨(some 14), none, .mv (.tmp 1)⟩,
    ⟨(some 15), none, .lenS (.tmp 14)⟩,
    ⟨(some 16), none, .bin .neq 3 (.tmp 13) (.tmp 15)⟩,
    ⟨(some 17), none, .mv (.tmp 16)⟩,
    ⟨(some 18), (some (17, false)), .mv (.tmp 1)⟩,
    ⟨(some 19), (some (17, false)), .call 81 [(.tmp 18)]⟩,
    ⟨(some 20), (some (17, false)), .un .not (.tmp 19)⟩,
    ⟨(some 21), none, .pick (.tmp 17) (.const (Go.Value.bool true)) (.tmp 20)⟩])
  (.cond (.tmp 21)
    (.seq (.ops [⟨(some 4), none, .mv (.const (Go.Value.int Go.IntKind.u64 0))⟩,
      ⟨(some 5), none, .mv (.const (Go.Value.int Go.IntKind.i64 1))⟩])
    (.ret))
    (.skip)))
  (.seq (.ops [⟨(some 6), none, .mv (.const (Go.Value.int Go.IntKind.u64 0))⟩])
  (.seq (.ops [⟨(some 7), none, .mv (.const (Go.Value.int Go.IntKind.i64 0))⟩])
  (.seq (.seq (.ops [⟨(some 22), none, .mv (.tmp 1)⟩,
    ⟨(some 23), none, .lenS (.tmp 22)⟩,
    ⟨(some 24), none, .mv (.const (Go.Value.int Go.IntKind.i64 0))⟩])
  (.block 0 (.loop (.seq (.ops [⟨(some 25), none, .bin .lss 3 (.tmp 24) (.tmp 23)⟩])
      (.seq (.cond (.tmp 25)
        (.skip)
        (.exit 0))
      (.seq (.block 1 (.seq (.ops [⟨(some 26), none, .mv (.tmp 24)⟩,
          ⟨(some 27), none, .idx (.tmp 22) (.tmp 24) 1⟩,
          ⟨(some 28), none, .ld (.tmp 27) none⟩,
          ⟨(some 8), none, .mv (.tmp 26)⟩,
          ⟨(some 9), none, .mv (.tmp 28)⟩])
        (.seq (.ops [⟨(some 30), none, .mv (.tmp 6)⟩,
          ⟨(some 31), none, .mv (.tmp 7)⟩,
          ⟨(some 32), none, .mv (.tmp 9)⟩,
          ⟨(some 33), none, .mv (.tmp 0)⟩,
          ⟨(some 34), none, .mv (.tmp 8)⟩,
          ⟨(some 35), none, .idx (.tmp 33) (.tmp 34) 1⟩,
          ⟨(some 36), none, .ld (.tmp 35) none⟩,
          ⟨(some 37), none, .call 82 [(.tmp 30), (.tmp 31), (.tmp 32), (.tmp 36)]⟩,
          ⟨(some 29), none, .mv (.tmp 37)⟩,
          ⟨(some 38), none, .ext (.tmp 29) 0⟩,
          ⟨(some 39), none, .ext (.tmp 29) 1⟩,
          ⟨(some 10), none, .mv (.tmp 38)⟩,
          ⟨(some 11), none, .mv (.tmp 39)⟩])
        (.seq (.seq (.ops [⟨(some 40), none, .mv (.tmp 11)⟩,
          ⟨(some 41), none, .bin .neq 26 (.tmp 40) (.const (Go.Value.int Go.IntKind.i64 0))⟩])
        (.cond (.tmp 41)
          (.seq (.ops [⟨(some 42), none, .mv (.tmp 11)⟩,
            ⟨(some 4), none, .mv (.const (Go.Value.int Go.IntKind.u64 0))⟩,
            ⟨(some 5), none, .mv (.tmp 42)⟩])
          (.ret))
          (.skip)))
        (.seq (.ops [⟨(some 43), none, .mv (.tmp 10)⟩,
          ⟨(some 6), none, .mv (.tmp 43)⟩])
        (.ops [⟨(some 44), none, .mv (.tmp 7)⟩,
          ⟨(some 45), none, .mv (.tmp 9)⟩,
          ⟨(some 46), none, .bin .add 3 (.tmp 44) (.tmp 45)⟩,
          ⟨(some 7), none, .mv (.tmp 46)⟩]))))))
      (.ops [⟨(some 47), none, .bin .add 3 (.tmp 24) (.const (Go.Value.int Go.IntKind.i64 1))⟩,
        ⟨(some 24), none, .mv (.tmp 47)⟩])))))))
  (.seq (.ops [⟨(some 48), none, .mv (.tmp 6)⟩,
    ⟨(some 4), none, .mv (.tmp 48)⟩,
    ⟨(some 5), none, .mv (.const (Go.Value.int Go.IntKind.i64 0))⟩])
  (.ret))))))
theorem is_field_Join : FnIs Try.prog F.field_Join X.field_Join 49 [.tmp 4, .tmp 5] := ⟨by kernel_rfl⟩

/-- haycroft/header.Lengths: function 24 -/
abbrev F.header_Lengths : FuncId := 24
def X.header_Lengths : X :=
  .seq (.ops [⟨(some 4), none, .mv (.const (Go.Value.int Go.IntKind.u64 0))⟩,
    ⟨(some 5), none, .mv (.const (Go.Value.int Go.IntKind.i64 0))⟩])
  (.seq (.block 0 (.seq (.ops [⟨(some 7), none, .mv (.tmp 0)⟩,
      ⟨(some 8), none, .bin .lss 3 (.tmp 7) (.const (Go.Value.int Go.IntKind.i64 0))⟩,
      ⟨(some 9), none, .mv (.tmp 8)⟩,
      ⟨(some 10), (some (9, false)), .mv (.tmp 1)⟩,
      ⟨(some 11), (some (9, false)), .bin .lss 3 (.tmp 10) (.const (Go.Value.int Go.IntKind.i64 0))⟩,
      ⟨(some 12), none, .pick (.tmp 9) (.const (Go.Value.bool true)) (.tmp 11)⟩,
      ⟨(some 6), none, .mv (.tmp 12)⟩])
    (.cond (.tmp 6)
      (.seq (.ops [⟨(some 4), none, .mv (.const (Go.Value.int Go.IntKind.u64 0))⟩,
        ⟨(some 5), none, .mv (.const (Go.Value.int Go.IntKind.i64 1))⟩])
      (.ret))
      (.seq (.ops [⟨(some 14), none, .mv (.tmp 0)⟩,
        ⟨(some 15), none, .bin .gtr 3 (.tmp 14) (.const (Go.Value.int Go.IntKind.i64 64))⟩,
        ⟨(some 16), none, .mv (.tmp 15)⟩,
        ⟨(some 17), (some (16, false)), .mv (.tmp 1)⟩,
        ⟨(some 18), (some (16, false)), .bin .gtr 3 (.tmp 17) (.const (Go.Value.int Go.IntKind.i64 128))⟩,
        ⟨(some 19), none, .pick (.tmp 16) (.const (Go.Value.bool true)) (.tmp 18)⟩,
        ⟨(some 13), none, .mv (.tmp 19)⟩])
      (.cond (.tmp 13)
        (.seq (.ops [⟨(some 4), none, .mv (.const (Go.Value.int Go.IntKind.u64 0))⟩,
          ⟨(some 5), none, .mv (.const (Go.Value.int Go.IntKind.i64 5))⟩])
        (.ret))
        (.skip))))))
  (.seq (.ops [⟨(some 20), none, .mv (.tmp 0)⟩,
    ⟨(some 21), none, .conv Go.IntKind.u64 (.tmp 20)⟩,
    ⟨(some 22), none, .mv (.tmp 1)⟩,
    ⟨(some 23), none, .conv Go.IntKind.u64 (.tmp 22)⟩,
    ⟨(some 24), none, .bsl 22 1 3 [(Go.Value.int Go.IntKind.u64 0)] [(0, (.tmp 21)), (1, (.tmp 23)), (2, (.const (Go.Value.int Go.IntKind.u64 44203)))]⟩,
    ⟨(some 25), none, .bsl 3 1 3 [(Go.Value.int Go.IntKind.i64 0)] [(0, (.const (Go.Value.int Go.IntKind.i64 16))), (1, (.const (Go.Value.int Go.IntKind.i64 16))), (2, (.const (Go.Value.int Go.IntKind.i64 16)))]⟩,
    ⟨(some 26), none, .call 64 [(.tmp 24), (.tmp 25)]⟩,
    ⟨(some 27), none, .ext (.tmp 26) 0⟩,
    ⟨(some 28), none, .ext (.tmp 26) 1⟩,
    ⟨(some 4), none, .mv (.tmp 27)⟩,
    ⟨(some 5), none, .mv (.tmp 28)⟩])
  (.ret)))
theorem is_header_Lengths : FnIs Try.prog F.header_Lengths X.header_Lengths 29 [.tmp 4, .tmp 5] := ⟨by kernel_rfl⟩

/-- haycroft/haycroftlaw08.awake: function 19 -/
abbrev F.law08_awake : FuncId := 19
def X.law08_awake : X :=
  .seq (.ops [⟨(some 0), none, .mv (.const (Go.Value.bool false))⟩])
  (.seq (.ops [⟨(some 4), none, .call 24 [(.const (Go.Value.int Go.IntKind.i64 3)), (.const (Go.Value.int Go.IntKind.i64 8))]⟩,
    ⟨(some 3), none, .mv (.tmp 4)⟩,
    ⟨(some 5), none, .ext (.tmp 3) 0⟩,
    ⟨(some 6), none, .ext (.tmp 3) 1⟩,
    ⟨(some 1), none, .mv (.tmp 5)⟩,
    ⟨(some 2), none, .mv (.tmp 6)⟩])
  (.seq (.ops [⟨(some 7), none, .mv (.tmp 1)⟩,
    ⟨(some 8), none, .bin .eql 22 (.tmp 7) (.const (Go.Value.int Go.IntKind.u64 189850439909379))⟩,
    ⟨(some 9), none, .mv (.tmp 8)⟩,
    ⟨(some 10), (some (9, true)), .mv (.tmp 2)⟩,
    ⟨(some 11), (some (9, true)), .bin .eql 26 (.tmp 10) (.const (Go.Value.int Go.IntKind.i64 0))⟩,
    ⟨(some 12), none, .pick (.tmp 9) (.tmp 11) (.const (Go.Value.bool false))⟩,
    ⟨(some 0), none, .mv (.tmp 12)⟩])
  (.ret)))
theorem is_law08_awake : FnIs Try.prog F.law08_awake X.law08_awake 13 [.tmp 0] := ⟨by kernel_rfl⟩

/-- haycroft/header.bit: function 65 -/
abbrev F.header_bit : FuncId := 65
def X.header_bit : X :=
  .seq (.ops [⟨(some 2), none, .mv (.const (Go.Value.int Go.IntKind.u64 0))⟩])
  (.seq (.seq (.ops [⟨(some 3), none, .mv (.tmp 0)⟩])
  (.cond (.tmp 3)
    (.seq (.ops [⟨(some 2), none, .mv (.const (Go.Value.int Go.IntKind.u64 1))⟩])
    (.ret))
    (.skip)))
  (.seq (.ops [⟨(some 2), none, .mv (.const (Go.Value.int Go.IntKind.u64 0))⟩])
  (.ret)))
theorem is_header_bit : FnIs Try.prog F.header_bit X.header_bit 4 [.tmp 2] := ⟨by kernel_rfl⟩

/-- haycroft/header.Pack: function 20 -/
abbrev F.header_Pack : FuncId := 20
def X.header_Pack : X :=
  .seq (.ops [⟨(some 1), none, .box 35 (.tmp 0)⟩,
    ⟨(some 2), none, .mv (.const (Go.Value.int Go.IntKind.u64 0))⟩,
    ⟨(some 3), none, .mv (.const (Go.Value.int Go.IntKind.i64 0))⟩])
  (.seq (.seq (.ops [⟨(some 4), none, .fld (.tmp 1) 0⟩,
    ⟨(some 5), none, .ld (.tmp 4) none⟩,
    ⟨(some 6), none, .bin .gtr 22 (.tmp 5) (.const (Go.Value.int Go.IntKind.u64 281474976710655))⟩])
  (.cond (.tmp 6)
    (.seq (.ops [⟨(some 2), none, .mv (.const (Go.Value.int Go.IntKind.u64 0))⟩,
      ⟨(some 3), none, .mv (.const (Go.Value.int Go.IntKind.i64 1))⟩])
    (.ret))
    (.skip)))
  (.seq (.drawn [(0, ⟨(some 7), none, .fld (.tmp 1) 0⟩),
    (1, ⟨(some 8), none, .ld (.tmp 7) none⟩),
    (2, ⟨(some 9), none, .fld (.tmp 1) 1⟩),
    (3, ⟨(some 10), none, .ld (.tmp 9) none⟩),
    (5, ⟨(some 12), none, .fld (.tmp 1) 2⟩),
    (6, ⟨(some 13), none, .ld (.tmp 12) none⟩),
    (4, ⟨(some 11), none, .call 65 [(.tmp 10)]⟩),
    (7, ⟨(some 14), none, .call 65 [(.tmp 13)]⟩),
    (8, ⟨(some 15), none, .bsl 22 1 3 [(Go.Value.int Go.IntKind.u64 0)] [(0, (.tmp 8)), (1, (.tmp 11)), (2, (.tmp 14))]⟩),
    (9, ⟨(some 16), none, .bsl 3 1 3 [(Go.Value.int Go.IntKind.i64 0)] [(0, (.const (Go.Value.int Go.IntKind.i64 48))), (1, (.const (Go.Value.int Go.IntKind.i64 1))), (2, (.const (Go.Value.int Go.IntKind.i64 1)))]⟩),
    (10, ⟨(some 17), none, .call 64 [(.tmp 15), (.tmp 16)]⟩),
    (11, ⟨(some 18), none, .ext (.tmp 17) 0⟩),
    (12, ⟨(some 19), none, .ext (.tmp 17) 1⟩),
    (13, ⟨(some 2), none, .mv (.tmp 18)⟩),
    (14, ⟨(some 3), none, .mv (.tmp 19)⟩)]
    [[], [0], [], [2], [3], [], [5], [6, 4], [1, 4, 7], [], [8, 9, 7], [10], [10], [11, 10, 0, 1, 2, 3, 4, 5, 6, 7, 8, 9, 10, 11, 12], [12, 13, 0, 1, 2, 3, 4, 5, 6, 7, 8, 9, 10, 11, 12, 13]]
    [0, 1, 0, 4, 12, 0, 32, 124, 255, 0, 1023, 2047, 2047, 8191, 16383] 1936)
  (.ret)))
theorem is_header_Pack : FnIs Try.prog F.header_Pack X.header_Pack 20 [.tmp 2, .tmp 3] := ⟨by kernel_rfl⟩

/-- haycroft/haycroftref08.Pack: function 21 -/
abbrev F.ref08_Pack : FuncId := 21
def X.ref08_Pack : X :=
  .seq (.ops [⟨(some 1), none, .box 35 (.tmp 0)⟩,
    ⟨(some 2), none, .mv (.const (Go.Value.int Go.IntKind.u64 0))⟩,
    ⟨(some 3), none, .mv (.const (Go.Value.int Go.IntKind.i64 0))⟩])
  (.seq (.seq (.ops [⟨(some 5), none, .fld (.tmp 1) 0⟩,
    ⟨(some 6), none, .ld (.tmp 5) none⟩,
    ⟨(some 7), none, .bin .geq 22 (.tmp 6) (.const (Go.Value.int Go.IntKind.u64 281474976710656))⟩])
  (.cond (.tmp 7)
    (.seq (.ops [⟨(some 2), none, .mv (.const (Go.Value.int Go.IntKind.u64 0))⟩,
      ⟨(some 3), none, .mv (.const (Go.Value.int Go.IntKind.i64 1))⟩])
    (.ret))
    (.skip)))
  (.seq (.ops [⟨(some 8), none, .fld (.tmp 1) 0⟩,
    ⟨(some 9), none, .ld (.tmp 8) none⟩,
    ⟨(some 4), none, .mv (.tmp 9)⟩])
  (.seq (.seq (.ops [⟨(some 10), none, .fld (.tmp 1) 1⟩,
    ⟨(some 11), none, .ld (.tmp 10) none⟩])
  (.cond (.tmp 11)
    (.ops [⟨(some 12), none, .mv (.tmp 4)⟩,
      ⟨(some 13), none, .bin .add 22 (.tmp 12) (.const (Go.Value.int Go.IntKind.u64 281474976710656))⟩,
      ⟨(some 4), none, .mv (.tmp 13)⟩])
    (.skip)))
  (.seq (.seq (.ops [⟨(some 14), none, .fld (.tmp 1) 2⟩,
    ⟨(some 15), none, .ld (.tmp 14) none⟩])
  (.cond (.tmp 15)
    (.ops [⟨(some 16), none, .mv (.tmp 4)⟩,
      ⟨(some 17), none, .bin .add 22 (.tmp 16) (.const (Go.Value.int Go.IntKind.u64 562949953421312))⟩,
      ⟨(some 4), none, .mv (.tmp 17)⟩])
    (.skip)))
  (.seq (.ops [⟨(some 18), none, .mv (.tmp 4)⟩,
    ⟨(some 2), none, .mv (.tmp 18)⟩,
    ⟨(some 3), none, .mv (.const (Go.Value.int Go.IntKind.i64 0))⟩])
  (.ret))))))
theorem is_ref08_Pack : FnIs Try.prog F.ref08_Pack X.ref08_Pack 19 [.tmp 2, .tmp 3] := ⟨by kernel_rfl⟩

/-- haycroft/field.Get: function 67 -/
abbrev F.field_Get : FuncId := 67
def X.field_Get : X :=
  .seq (.ops [⟨(some 6), none, .mv (.const (Go.Value.int Go.IntKind.u64 0))⟩])
  (.seq (.seq (.ops [⟨(some 7), none, .mv (.tmp 1)⟩,
    ⟨(some 8), none, .mv (.tmp 2)⟩,
    ⟨(some 9), none, .call 83 [(.tmp 7), (.tmp 8)]⟩,
    ⟨(some 10), none, .un .not (.tmp 9)⟩])
  (.cond (.tmp 10)
    (.seq (.ops [⟨(some 6), none, .mv (.const (Go.Value.int Go.IntKind.u64 0))⟩])
    (.ret))
    (.skip)))
  (.seq (.drawn [(0, ⟨(some 11), none, .mv (.tmp 0)⟩),
    (1, ⟨(some 12), none, .mv (.tmp 1)⟩),
    (2, ⟨(some 13), none, .bin .shr 22 (.tmp 11) (.tmp 12)⟩),
    (3, ⟨(some 14), none, .mv (.tmp 2)⟩),
    (4, ⟨(some 15), none, .call 66 [(.tmp 14)]⟩),
    (5, ⟨(some 16), none, .bin .and 22 (.tmp 13) (.tmp 15)⟩),
    (6, ⟨(some 6), none, .mv (.tmp 16)⟩)]
    [[], [], [0, 1], [], [3], [2, 4], [5, 4, 0, 1, 2, 3, 4, 5]]
    [0, 0, 3, 0, 8, 31, 63] 16)
  (.ret)))
theorem is_field_Get : FnIs Try.prog F.field_Get X.field_Get 17 [.tmp 6] := ⟨by kernel_rfl⟩

/-- haycroft/field.Flag: function 68 -/
abbrev F.field_Flag : FuncId := 68
def X.field_Flag : X :=
  .seq (.ops [⟨(some 4), none, .mv (.const (Go.Value.bool false))⟩])
  (.seq (.ops [⟨(some 5), none, .mv (.tmp 0)⟩,
    ⟨(some 6), none, .mv (.tmp 1)⟩,
    ⟨(some 7), none, .call 67 [(.tmp 5), (.tmp 6), (.const (Go.Value.int Go.IntKind.i64 1))]⟩,
    ⟨(some 8), none, .bin .eql 22 (.tmp 7) (.const (Go.Value.int Go.IntKind.u64 1))⟩,
    ⟨(some 4), none, .mv (.tmp 8)⟩])
  (.ret))
theorem is_field_Flag : FnIs Try.prog F.field_Flag X.field_Flag 9 [.tmp 4] := ⟨by kernel_rfl⟩

/-- haycroft/header.Unpack: function 22 -/
abbrev F.header_Unpack : FuncId := 22
def X.header_Unpack : X :=
  .seq (.ops [⟨(some 2), none, .new 35 (Go.Value.agg #[(Go.Value.int Go.IntKind.u64 0), (Go.Value.bool false), (Go.Value.bool false)])⟩,
    ⟨(some 3), none, .mv (.const (Go.Value.int Go.IntKind.i64 0))⟩])
  (.seq (.seq (.ops [⟨(some 4), none, .mv (.tmp 0)⟩,
    ⟨(some 5), none, .call 66 [(.const (Go.Value.int Go.IntKind.i64 50))]⟩,
    ⟨(some 6), none, .bin .gtr 22 (.tmp 4) (.tmp 5)⟩])
  (.cond (.tmp 6)
    (.seq (.ops [⟨(some 7), none, .bld [(Go.Value.int Go.IntKind.u64 0), (Go.Value.bool false), (Go.Value.bool false)] []⟩,
      ⟨none, none, .st (.tmp 2) (.tmp 7) 3⟩,
      ⟨(some 3), none, .mv (.const (Go.Value.int Go.IntKind.i64 4))⟩])
    (.ret))
    (.skip)))
  (.seq (.ops [⟨(some 8), none, .mv (.tmp 0)⟩,
    ⟨(some 9), none, .call 67 [(.tmp 8), (.const (Go.Value.int Go.IntKind.i64 0)), (.const (Go.Value.int Go.IntKind.i64 48))]⟩,
    ⟨(some 10), none, .mv (.tmp 0)⟩,
    ⟨(some 11), none, .call 68 [(.tmp 10), (.const (Go.Value.int Go.IntKind.i64 48))]⟩,
    ⟨(some 12), none, .mv (.tmp 0)⟩,
    ⟨(some 13), none, .call 68 [(.tmp 12), (.const (Go.Value.int Go.IntKind.i64 49))]⟩,
    ⟨(some 14), none, .bld [(Go.Value.int Go.IntKind.u64 0), (Go.Value.bool false), (Go.Value.bool false)] [(0, 1, (.tmp 9)), (1, 1, (.tmp 11)), (2, 1, (.tmp 13))]⟩,
    ⟨none, none, .st (.tmp 2) (.tmp 14) 3⟩,
    ⟨(some 3), none, .mv (.const (Go.Value.int Go.IntKind.i64 0))⟩])
  (.ret)))
theorem is_header_Unpack : FnIs Try.prog F.header_Unpack X.header_Unpack 15 [.cell 2 35, .tmp 3] := ⟨by kernel_rfl⟩

/-- haycroft/haycroftref08.Unpack: function 23 -/
abbrev F.ref08_Unpack : FuncId := 23
def X.ref08_Unpack : X :=
  .seq (.ops [⟨(some 2), none, .new 35 (Go.Value.agg #[(Go.Value.int Go.IntKind.u64 0), (Go.Value.bool false), (Go.Value.bool false)])⟩,
    ⟨(some 3), none, .mv (.const (Go.Value.int Go.IntKind.i64 0))⟩])
  (.seq (.ops [⟨(some 5), none, .mv (.tmp 0)⟩,
    ⟨(some 6), none, .bin .quo 22 (.tmp 5) (.const (Go.Value.int Go.IntKind.u64 281474976710656))⟩,
    ⟨(some 4), none, .mv (.tmp 6)⟩])
  (.seq (.seq (.ops [⟨(some 7), none, .mv (.tmp 4)⟩,
    ⟨(some 8), none, .bin .gtr 22 (.tmp 7) (.const (Go.Value.int Go.IntKind.u64 3))⟩])
  (.cond (.tmp 8)
    (.seq (.ops [⟨(some 9), none, .bld [(Go.Value.int Go.IntKind.u64 0), (Go.Value.bool false), (Go.Value.bool false)] []⟩,
      ⟨none, none, .st (.tmp 2) (.tmp 9) 3⟩,
      ⟨(some 3), none, .mv (.const (Go.Value.int Go.IntKind.i64 4))⟩])
    (.ret))
    (.skip)))
  (.seq (.ops [⟨(some 10), none, .mv (.tmp 0)⟩,
    ⟨(some 11), none, .bin .rem 22 (.tmp 10) (.const (Go.Value.int Go.IntKind.u64 281474976710656))⟩,
    ⟨(some 12), none, .mv (.tmp 4)⟩,
    ⟨(some 13), none, .bin .rem 22 (.tmp 12) (.const (Go.Value.int Go.IntKind.u64 2))⟩,
    ⟨(some 14), none, .bin .eql 22 (.tmp 13) (.const (Go.Value.int Go.IntKind.u64 1))⟩,
    ⟨(some 15), none, .mv (.tmp 4)⟩,
    ⟨(some 16), none, .bin .geq 22 (.tmp 15) (.const (Go.Value.int Go.IntKind.u64 2))⟩,
    ⟨(some 17), none, .bld [(Go.Value.int Go.IntKind.u64 0), (Go.Value.bool false), (Go.Value.bool false)] [(0, 1, (.tmp 11)), (1, 1, (.tmp 14)), (2, 1, (.tmp 16))]⟩,
    ⟨none, none, .st (.tmp 2) (.tmp 17) 3⟩,
    ⟨(some 3), none, .mv (.const (Go.Value.int Go.IntKind.i64 0))⟩])
  (.ret))))
theorem is_ref08_Unpack : FnIs Try.prog F.ref08_Unpack X.ref08_Unpack 18 [.cell 2 35, .tmp 3] := ⟨by kernel_rfl⟩

/-- haycroft/haycroftlaw08.HeaderPacks: function 4 -/
abbrev F.law08_HeaderPacks : FuncId := 4
def X.law08_HeaderPacks : X :=
  .seq (.ops [⟨(some 2), none, .box 35 (.tmp 0)⟩,
    ⟨(some 4), none, .mv (.const (Go.Value.bool false))⟩])
  (.seq (.seq (.ops [⟨(some 15), none, .call 19 []⟩,
    ⟨(some 16), none, .un .not (.tmp 15)⟩])
  (.cond (.tmp 16)
    (.seq (.ops [⟨(some 4), none, .mv (.const (Go.Value.bool false))⟩])
    (.ret))
    (.skip)))
  (.seq (.ops [⟨(some 18), none, .ld (.tmp 2) (some 3)⟩,
    ⟨(some 19), none, .call 20 [(.tmp 18)]⟩,
    ⟨(some 17), none, .mv (.tmp 19)⟩,
    ⟨(some 20), none, .ext (.tmp 17) 0⟩,
    ⟨(some 21), none, .ext (.tmp 17) 1⟩,
    ⟨(some 5), none, .mv (.tmp 20)⟩,
    ⟨(some 6), none, .mv (.tmp 21)⟩])
  (.seq (.ops [⟨(some 23), none, .ld (.tmp 2) (some 3)⟩,
    ⟨(some 24), none, .call 21 [(.tmp 23)]⟩,
    ⟨(some 22), none, .mv (.tmp 24)⟩,
    ⟨(some 25), none, .ext (.tmp 22) 0⟩,
    ⟨(some 26), none, .ext (.tmp 22) 1⟩,
    ⟨(some 7), none, .mv (.tmp 25)⟩,
    ⟨(some 8), none, .mv (.tmp 26)⟩])
  (.seq (.seq (.ops [⟨(some 27), none, .mv (.tmp 5)⟩,
    ⟨(some 28), none, .mv (.tmp 7)⟩,
    ⟨(some 29), none, .bin .neq 22 (.tmp 27) (.tmp 28)⟩,
    ⟨(some 30), none, .mv (.tmp 29)⟩,
    ⟨(some 31), (some (30, false)), .mv (.tmp 6)⟩,
    ⟨(some 32), (some (30, false)), .mv (.tmp 8)⟩,
    ⟨(some 33), (some (30, false)), .bin .neq 26 (.tmp 31) (.tmp 32)⟩,
    ⟨(some 34), none, .pick (.tmp 30) (.const (Go.Value.bool true)) (.tmp 33)⟩])
  (.cond (.tmp 34)
    (.seq (.ops [⟨(some 4), none, .mv (.const (Go.Value.bool false))⟩])
    (.ret))
    (.skip)))
  (.seq (.seq (.ops [⟨(some 35), none, .mv (.tmp 6)⟩,
    ⟨(some 36), none, .bin .eql 26 (.tmp 35) (.const (Go.Value.int Go.IntKind.i64 0))⟩])
  (.cond (.tmp 36)
    (.seq (.ops [⟨(some 38), none, .mv (.tmp 5)⟩,
      ⟨(some 39), none, .call 22 [(.tmp 38)]⟩,
      ⟨(some 37), none, .mv (.tmp 39)⟩,
      ⟨(some 40), none, .ext (.tmp 37) 0⟩,
      ⟨(some 41), none, .ext (.tmp 37) 1⟩,
      ⟨(some 9), none, .new 35 (Go.Value.agg #[(Go.Value.int Go.IntKind.u64 0), (Go.Value.bool false), (Go.Value.bool false)])⟩,
      ⟨none, none, .st (.tmp 9) (.tmp 40) 3⟩,
      ⟨(some 10), none, .mv (.tmp 41)⟩])
    (.seq (.ops [⟨(some 42), none, .ld (.tmp 9) (some 3)⟩,
      ⟨(some 43), none, .ld (.tmp 2) (some 3)⟩,
      ⟨(some 44), none, .eq true (.agg 3 [(0, 0), (1, 1), (2, 1)]) (.tmp 42) (.tmp 43)⟩,
      ⟨(some 45), none, .mv (.tmp 44)⟩,
      ⟨(some 46), (some (45, false)), .mv (.tmp 10)⟩,
      ⟨(some 47), (some (45, false)), .bin .neq 26 (.tmp 46) (.const (Go.Value.int Go.IntKind.i64 0))⟩,
      ⟨(some 48), none, .pick (.tmp 45) (.const (Go.Value.bool true)) (.tmp 47)⟩])
    (.cond (.tmp 48)
      (.seq (.ops [⟨(some 4), none, .mv (.const (Go.Value.bool false))⟩])
      (.ret))
      (.skip))))
    (.skip)))
  (.seq (.ops [⟨(some 50), none, .mv (.tmp 1)⟩,
    ⟨(some 51), none, .call 22 [(.tmp 50)]⟩,
    ⟨(some 49), none, .mv (.tmp 51)⟩,
    ⟨(some 52), none, .ext (.tmp 49) 0⟩,
    ⟨(some 53), none, .ext (.tmp 49) 1⟩,
    ⟨(some 11), none, .new 35 (Go.Value.agg #[(Go.Value.int Go.IntKind.u64 0), (Go.Value.bool false), (Go.Value.bool false)])⟩,
    ⟨none, none, .st (.tmp 11) (.tmp 52) 3⟩,
    ⟨(some 12), none, .mv (.tmp 53)⟩])
  (.seq (.ops [⟨(some 55), none, .mv (.tmp 1)⟩,
    ⟨(some 56), none, .call 23 [(.tmp 55)]⟩,
    ⟨(some 54), none, .mv (.tmp 56)⟩,
    ⟨(some 57), none, .ext (.tmp 54) 0⟩,
    ⟨(some 58), none, .ext (.tmp 54) 1⟩,
    ⟨(some 13), none, .new 35 (Go.Value.agg #[(Go.Value.int Go.IntKind.u64 0), (Go.Value.bool false), (Go.Value.bool false)])⟩,
    ⟨none, none, .st (.tmp 13) (.tmp 57) 3⟩,
    ⟨(some 14), none, .mv (.tmp 58)⟩])
  (.seq (.ops [⟨(some 59), none, .ld (.tmp 11) (some 3)⟩,
    ⟨(some 60), none, .ld (.tmp 13) (some 3)⟩,
    ⟨(some 61), none, .eq false (.agg 3 [(0, 0), (1, 1), (2, 1)]) (.tmp 59) (.tmp 60)⟩,
    ⟨(some 62), none, .mv (.tmp 61)⟩,
    ⟨(some 63), (some (62, true)), .mv (.tmp 12)⟩,
    ⟨(some 64), (some (62, true)), .mv (.tmp 14)⟩,
    ⟨(some 65), (some (62, true)), .bin .eql 26 (.tmp 63) (.tmp 64)⟩,
    ⟨(some 66), none, .pick (.tmp 62) (.tmp 65) (.const (Go.Value.bool false))⟩,
    ⟨(some 4), none, .mv (.tmp 66)⟩])
  (.ret)))))))))
theorem is_law08_HeaderPacks : FnIs Try.prog F.law08_HeaderPacks X.law08_HeaderPacks 67 [.tmp 4] := ⟨by kernel_rfl⟩

/-- haycroft/haycroftref08.Lengths: function 25 -/
abbrev F.ref08_Lengths : FuncId := 25
def X.ref08_Lengths : X :=
  .seq (.ops [⟨(some 4), none, .mv (.const (Go.Value.int Go.IntKind.u64 0))⟩,
    ⟨(some 5), none, .mv (.const (Go.Value.int Go.IntKind.i64 0))⟩])
  (.seq (.seq (.ops [⟨(some 6), none, .mv (.tmp 0)⟩,
    ⟨(some 7), none, .bin .lss 3 (.tmp 6) (.const (Go.Value.int Go.IntKind.i64 0))⟩,
    ⟨(some 8), none, .mv (.tmp 7)⟩,
    ⟨(some 9), (some (8, false)), .mv (.tmp 1)⟩,
    ⟨(some 10), (some (8, false)), .bin .lss 3 (.tmp 9) (.const (Go.Value.int Go.IntKind.i64 0))⟩,
    ⟨(some 11), none, .pick (.tmp 8) (.const (Go.Value.bool true)) (.tmp 10)⟩])
  (.cond (.tmp 11)
    (.seq (.ops [⟨(some 4), none, .mv (.const (Go.Value.int Go.IntKind.u64 0))⟩,
      ⟨(some 5), none, .mv (.const (Go.Value.int Go.IntKind.i64 1))⟩])
    (.ret))
    (.skip)))
  (.seq (.seq (.ops [⟨(some 12), none, .mv (.tmp 0)⟩,
    ⟨(some 13), none, .bin .gtr 3 (.tmp 12) (.const (Go.Value.int Go.IntKind.i64 64))⟩,
    ⟨(some 14), none, .mv (.tmp 13)⟩,
    ⟨(some 15), (some (14, false)), .mv (.tmp 1)⟩,
    ⟨(some 16), (some (14, false)), .bin .gtr 3 (.tmp 15) (.const (Go.Value.int Go.IntKind.i64 128))⟩,
    ⟨(some 17), none, .pick (.tmp 14) (.const (Go.Value.bool true)) (.tmp 16)⟩])
  (.cond (.tmp 17)
    (.seq (.ops [⟨(some 4), none, .mv (.const (Go.Value.int Go.IntKind.u64 0))⟩,
      ⟨(some 5), none, .mv (.const (Go.Value.int Go.IntKind.i64 5))⟩])
    (.ret))
    (.skip)))
  (.seq (.ops [⟨(some 18), none, .mv (.tmp 0)⟩,
    ⟨(some 19), none, .conv Go.IntKind.u64 (.tmp 18)⟩,
    ⟨(some 20), none, .mv (.tmp 1)⟩,
    ⟨(some 21), none, .conv Go.IntKind.u64 (.tmp 20)⟩,
    ⟨(some 22), none, .bin .mul 22 (.tmp 21) (.const (Go.Value.int Go.IntKind.u64 65536))⟩,
    ⟨(some 23), none, .bin .add 22 (.tmp 19) (.tmp 22)⟩,
    ⟨(some 24), none, .bin .add 22 (.tmp 23) (.const (Go.Value.int Go.IntKind.u64 189850439385088))⟩,
    ⟨(some 4), none, .mv (.tmp 24)⟩,
    ⟨(some 5), none, .mv (.const (Go.Value.int Go.IntKind.i64 0))⟩])
  (.ret))))
theorem is_ref08_Lengths : FnIs Try.prog F.ref08_Lengths X.ref08_Lengths 25 [.tmp 4, .tmp 5] := ⟨by kernel_rfl⟩

-- loop (inner ones first): [0, 6, 7, 13, 14, 15]
/-- haycroft/field.Spread: function 69 -/
abbrev F.field_Spread : FuncId := 69
def X.field_Spread : X :=
  .seq (.ops [⟨(some 4), none, .mv (.const (Go.Value.slice none 0 0))⟩,
    ⟨(some 5), none, .mv (.const (Go.Value.int Go.IntKind.i64 0))⟩])
  (.seq (.seq (.ops [⟨(some 10), none, .mv (.tmp 1)⟩,
    ⟨(some 11), none, .call 81 [(.tmp 10)]⟩,
    ⟨(some 12), none, .un .not (.tmp 11)⟩])
  (.cond (.tmp 12)
    (.seq (.ops [⟨(some 4), none, .mv (.const (Go.Value.slice none 0 0))⟩,
      ⟨(some 5), none, .mv (.const (Go.Value.int Go.IntKind.i64 1))⟩])
    (.ret))
    (.skip)))
  (.seq (.ops [⟨(some 6), none, .mv (.const (Go.Value.slice none 0 0))⟩])
  (.seq (.ops [⟨(some 7), none, .mv (.const (Go.Value.int Go.IntKind.i64 0))⟩])
  (.seq (.seq (.ops [⟨(some 13), none, .mv (.tmp 1)⟩,
    ⟨(some 14), none, .lenS (.tmp 13)⟩,
    ⟨(some 15), none, .mv (.const (Go.Value.int Go.IntKind.i64 0))⟩])
  (.block 0 (.loop (.seq (.ops [⟨(some 16), none, .bin .lss 3 (.tmp 15) (.tmp 14)⟩])
      (.seq (.cond (.tmp 16)
        (.skip)
        (.exit 0))
      (.seq (.block 1 (.seq (.ops [⟨(some 17), none, .idx (.tmp 13) (.tmp 15) 1⟩,
          ⟨(some 18), none, .ld (.tmp 17) none⟩,
          ⟨(some 9), none, .mv (.tmp 18)⟩])
        (.seq (.ops [⟨(some 19), none, .mv (.tmp 6)⟩,
          ⟨(some 20), none, .mv (.tmp 0)⟩,
          ⟨(some 21), none, .mv (.tmp 7)⟩,
          ⟨(some 22), none, .mv (.tmp 9)⟩,
          ⟨(some 23), none, .call 67 [(.tmp 20), (.tmp 21), (.tmp 22)]⟩,
          ⟨(some 24), none, .bsl 22 1 1 [(Go.Value.int Go.IntKind.u64 0)] [(0, (.tmp 23))]⟩,
          ⟨(some 25), none, .app 22 1 8 [(Go.Value.int Go.IntKind.u64 0)] (.tmp 19) (.tmp 24)⟩,
          ⟨(some 6), none, .mv (.tmp 25)⟩])
        (.ops [⟨(some 26), none, .mv (.tmp 7)⟩,
          ⟨(some 27), none, .mv (.tmp 9)⟩,
          ⟨(some 28), none, .bin .add 3 (.tmp 26) (.tmp 27)⟩,
          ⟨(some 7), none, .mv (.tmp 28)⟩]))))
      (.ops [⟨(some 29), none, .bin .add 3 (.tmp 15) (.const (Go.Value.int Go.IntKind.i64 1))⟩,
        ⟨(some 15), none, .mv (.tmp 29)⟩])))))))
  (.seq (.ops [⟨(some 30), none, .mv (.tmp 6)⟩,
    ⟨(some 4), none, .mv (.tmp 30)⟩,
    ⟨(some 5), none, .mv (.const (Go.Value.int Go.IntKind.i64 0))⟩])
  (.ret))))))
theorem is_field_Spread : FnIs Try.prog F.field_Spread X.field_Spread 31 [.tmp 4, .tmp 5] := ⟨by kernel_rfl⟩

/-- haycroft/header.Told: function 26 -/
abbrev F.header_Told : FuncId := 26
def X.header_Told : X :=
  .seq (.ops [⟨(some 2), none, .mv (.const (Go.Value.int Go.IntKind.i64 0))⟩,
    ⟨(some 3), none, .mv (.const (Go.Value.int Go.IntKind.i64 0))⟩,
    ⟨(some 4), none, .mv (.const (Go.Value.int Go.IntKind.i64 0))⟩])
  (.seq (.ops [⟨(some 8), none, .mv (.tmp 0)⟩,
    ⟨(some 9), none, .bsl 3 1 4 [(Go.Value.int Go.IntKind.i64 0)] [(0, (.const (Go.Value.int Go.IntKind.i64 16))), (1, (.const (Go.Value.int Go.IntKind.i64 16))), (2, (.const (Go.Value.int Go.IntKind.i64 16))), (3, (.const (Go.Value.int Go.IntKind.i64 16)))]⟩,
    ⟨(some 10), none, .call 69 [(.tmp 8), (.tmp 9)]⟩,
    ⟨(some 7), none, .mv (.tmp 10)⟩,
    ⟨(some 11), none, .ext (.tmp 7) 0⟩,
    ⟨(some 12), none, .ext (.tmp 7) 1⟩,
    ⟨(some 5), none, .mv (.tmp 11)⟩,
    ⟨(some 6), none, .mv (.tmp 12)⟩])
  (.seq (.seq (.ops [⟨(some 13), none, .mv (.tmp 5)⟩,
    ⟨(some 14), none, .idx (.tmp 13) (.const (Go.Value.int Go.IntKind.i64 0)) 1⟩,
    ⟨(some 15), none, .ld (.tmp 14) none⟩,
    ⟨(some 16), none, .bin .gtr 22 (.tmp 15) (.const (Go.Value.int Go.IntKind.u64 64))⟩,
    ⟨(some 17), none, .mv (.tmp 16)⟩,
    ⟨(some 18), (some (17, false)), .mv (.tmp 5)⟩,
    ⟨(some 19), (some (17, false)), .idx (.tmp 18) (.const (Go.Value.int Go.IntKind.i64 1)) 1⟩,
    ⟨(some 20), (some (17, false)), .ld (.tmp 19) none⟩,
    ⟨(some 21), (some (17, false)), .bin .gtr 22 (.tmp 20) (.const (Go.Value.int Go.IntKind.u64 128))⟩,
    ⟨(some 22), none, .pick (.tmp 17) (.const (Go.Value.bool true)) (.tmp 21)⟩,
    ⟨(some 23), none, .mv (.tmp 22)⟩,
    ⟨(some 24), (some (23, false)), .mv (.tmp 5)⟩,
    ⟨(some 25), (some (23, false)), .idx (.tmp 24) (.const (Go.Value.int Go.IntKind.i64 2)) 1⟩,
    ⟨(some 26), (some (23, false)), .ld (.tmp 25) none⟩,
    ⟨(some 27), (some (23, false)), .bin .neq 22 (.tmp 26) (.const (Go.Value.int Go.IntKind.u64 44203))⟩,
    ⟨(some 28), none, .pick (.tmp 23) (.const (Go.Value.bool true)) (.tmp 27)⟩,
    ⟨(some 29), none, .mv (.tmp 28)⟩,
    ⟨(some 30), (some (29, false)), .mv (.tmp 5)⟩,
    ⟨(some 31), (some (29, false)), .idx (.tmp 30) (.const (Go.Value.int Go.IntKind.i64 3)) 1⟩,
    ⟨(some 32), (some (29, false)), .ld (.tmp 31) none⟩,
    ⟨(some 33), (some (29, false)), .bin .neq 22 (.tmp 32) (.const (Go.Value.int Go.IntKind.u64 0))⟩,
    ⟨(some 34), none, .pick (.tmp 29) (.const (Go.Value.bool true)) (.tmp 33)⟩])
  (.cond (.tmp 34)
    (.seq (.ops [⟨(some 2), none, .mv (.const (Go.Value.int Go.IntKind.i64 0))⟩,
      ⟨(some 3), none, .mv (.const (Go.Value.int Go.IntKind.i64 0))⟩,
      ⟨(some 4), none, .mv (.const (Go.Value.int Go.IntKind.i64 4))⟩])
    (.ret))
    (.skip)))
  (.seq (.drawn [(0, ⟨(some 35), none, .mv (.tmp 5)⟩),
    (1, ⟨(some 36), none, .idx (.tmp 35) (.const (Go.Value.int Go.IntKind.i64 0)) 1⟩),
    (2, ⟨(some 37), none, .ld (.tmp 36) none⟩),
    (3, ⟨(some 38), none, .conv Go.IntKind.i64 (.tmp 37)⟩),
    (4, ⟨(some 39), none, .mv (.tmp 5)⟩),
    (5, ⟨(some 40), none, .idx (.tmp 39) (.const (Go.Value.int Go.IntKind.i64 1)) 1⟩),
    (6, ⟨(some 41), none, .ld (.tmp 40) none⟩),
    (7, ⟨(some 42), none, .conv Go.IntKind.i64 (.tmp 41)⟩),
    (8, ⟨(some 2), none, .mv (.tmp 38)⟩),
    (9, ⟨(some 3), none, .mv (.tmp 42)⟩),
    (10, ⟨(some 4), none, .mv (.const (Go.Value.int Go.IntKind.i64 0))⟩)]
    [[], [0], [1], [2], [], [4], [5], [6], [3, 0, 1, 2, 3], [7, 8, 0, 1, 2, 3, 4, 5, 6, 7, 8], [9, 0, 1, 2, 3, 4, 5, 6, 7, 8, 9]]
    [0, 1, 3, 7, 0, 16, 48, 112, 15, 511, 1023] 0)
  (.ret))))
theorem is_header_Told : FnIs Try.prog F.header_Told X.header_Told 43 [.tmp 2, .tmp 3, .tmp 4] := ⟨by kernel_rfl⟩

/-- haycroft/haycroftref08.Told: function 27 -/
abbrev F.ref08_Told : FuncId := 27
def X.ref08_Told : X :=
  .seq (.ops [⟨(some 2), none, .mv (.const (Go.Value.int Go.IntKind.i64 0))⟩,
    ⟨(some 3), none, .mv (.const (Go.Value.int Go.IntKind.i64 0))⟩,
    ⟨(some 4), none, .mv (.const (Go.Value.int Go.IntKind.i64 0))⟩])
  (.seq (.ops [⟨(some 7), none, .mv (.tmp 0)⟩,
    ⟨(some 8), none, .bin .rem 22 (.tmp 7) (.const (Go.Value.int Go.IntKind.u64 65536))⟩,
    ⟨(some 9), none, .conv Go.IntKind.i64 (.tmp 8)⟩,
    ⟨(some 5), none, .mv (.tmp 9)⟩])
  (.seq (.ops [⟨(some 10), none, .mv (.tmp 0)⟩,
    ⟨(some 11), none, .bin .quo 22 (.tmp 10) (.const (Go.Value.int Go.IntKind.u64 65536))⟩,
    ⟨(some 12), none, .bin .rem 22 (.tmp 11) (.const (Go.Value.int Go.IntKind.u64 65536))⟩,
    ⟨(some 13), none, .conv Go.IntKind.i64 (.tmp 12)⟩,
    ⟨(some 6), none, .mv (.tmp 13)⟩])
  (.seq (.seq (.ops [⟨(some 14), none, .mv (.tmp 0)⟩,
    ⟨(some 15), none, .bin .quo 22 (.tmp 14) (.const (Go.Value.int Go.IntKind.u64 4294967296))⟩,
    ⟨(some 16), none, .bin .neq 22 (.tmp 15) (.const (Go.Value.int Go.IntKind.u64 44203))⟩,
    ⟨(some 17), none, .mv (.tmp 16)⟩,
    ⟨(some 18), (some (17, false)), .mv (.tmp 5)⟩,
    ⟨(some 19), (some (17, false)), .bin .gtr 3 (.tmp 18) (.const (Go.Value.int Go.IntKind.i64 64))⟩,
    ⟨(some 20), none, .pick (.tmp 17) (.const (Go.Value.bool true)) (.tmp 19)⟩,
    ⟨(some 21), none, .mv (.tmp 20)⟩,
    ⟨(some 22), (some (21, false)), .mv (.tmp 6)⟩,
    ⟨(some 23), (some (21, false)), .bin .gtr 3 (.tmp 22) (.const (Go.Value.int Go.IntKind.i64 128))⟩,
    ⟨(some 24), none, .pick (.tmp 21) (.const (Go.Value.bool true)) (.tmp 23)⟩])
  (.cond (.tmp 24)
    (.seq (.ops [⟨(some 2), none, .mv (.const (Go.Value.int Go.IntKind.i64 0))⟩,
      ⟨(some 3), none, .mv (.const (Go.Value.int Go.IntKind.i64 0))⟩,
      ⟨(some 4), none, .mv (.const (Go.Value.int Go.IntKind.i64 4))⟩])
    (.ret))
    (.skip)))
  (.seq (.ops [⟨(some 25), none, .mv (.tmp 5)⟩,
    ⟨(some 26), none, .mv (.tmp 6)⟩,
    ⟨(some 2), none, .mv (.tmp 25)⟩,
    ⟨(some 3), none, .mv (.tmp 26)⟩,
    ⟨(some 4), none, .mv (.const (Go.Value.int Go.IntKind.i64 0))⟩])
  (.ret)))))
theorem is_ref08_Told : FnIs Try.prog F.ref08_Told X.ref08_Told 27 [.tmp 2, .tmp 3, .tmp 4] := ⟨by kernel_rfl⟩

/-- haycroft/haycroftlaw08.HeaderLengths: function 5 -/
abbrev F.law08_HeaderLengths : FuncId := 5
def X.law08_HeaderLengths : X :=
  .seq (.ops [⟨(some 6), none, .mv (.const (Go.Value.bool false))⟩])
  (.seq (.seq (.ops [⟨(some 20), none, .call 19 []⟩,
    ⟨(some 21), none, .un .not (.tmp 20)⟩])
  (.cond (.tmp 21)
    (.seq (.ops [⟨(some 6), none, .mv (.const (Go.Value.bool false))⟩])
    (.ret))
    (.skip)))
  (.seq (.ops [⟨(some 23), none, .mv (.tmp 0)⟩,
    ⟨(some 24), none, .mv (.tmp 1)⟩,
    ⟨(some 25), none, .call 24 [(.tmp 23), (.tmp 24)]⟩,
    ⟨(some 22), none, .mv (.tmp 25)⟩,
    ⟨(some 26), none, .ext (.tmp 22) 0⟩,
    ⟨(some 27), none, .ext (.tmp 22) 1⟩,
    ⟨(some 7), none, .mv (.tmp 26)⟩,
    ⟨(some 8), none, .mv (.tmp 27)⟩])
  (.seq (.ops [⟨(some 29), none, .mv (.tmp 0)⟩,
    ⟨(some 30), none, .mv (.tmp 1)⟩,
    ⟨(some 31), none, .call 25 [(.tmp 29), (.tmp 30)]⟩,
    ⟨(some 28), none, .mv (.tmp 31)⟩,
    ⟨(some 32), none, .ext (.tmp 28) 0⟩,
    ⟨(some 33), none, .ext (.tmp 28) 1⟩,
    ⟨(some 9), none, .mv (.tmp 32)⟩,
    ⟨(some 10), none, .mv (.tmp 33)⟩])
  (.seq (.seq (.ops [⟨(some 34), none, .mv (.tmp 7)⟩,
    ⟨(some 35), none, .mv (.tmp 9)⟩,
    ⟨(some 36), none, .bin .neq 22 (.tmp 34) (.tmp 35)⟩,
    ⟨(some 37), none, .mv (.tmp 36)⟩,
    ⟨(some 38), (some (37, false)), .mv (.tmp 8)⟩,
    ⟨(some 39), (some (37, false)), .mv (.tmp 10)⟩,
    ⟨(some 40), (some (37, false)), .bin .neq 26 (.tmp 38) (.tmp 39)⟩,
    ⟨(some 41), none, .pick (.tmp 37) (.const (Go.Value.bool true)) (.tmp 40)⟩])
  (.cond (.tmp 41)
    (.seq (.ops [⟨(some 6), none, .mv (.const (Go.Value.bool false))⟩])
    (.ret))
    (.skip)))
  (.seq (.seq (.ops [⟨(some 42), none, .mv (.tmp 8)⟩,
    ⟨(some 43), none, .bin .eql 26 (.tmp 42) (.const (Go.Value.int Go.IntKind.i64 0))⟩])
  (.cond (.tmp 43)
    (.seq (.ops [⟨(some 45), none, .mv (.tmp 7)⟩,
      ⟨(some 46), none, .call 26 [(.tmp 45)]⟩,
      ⟨(some 44), none, .mv (.tmp 46)⟩,
      ⟨(some 47), none, .ext (.tmp 44) 0⟩,
      ⟨(some 48), none, .ext (.tmp 44) 1⟩,
      ⟨(some 49), none, .ext (.tmp 44) 2⟩,
      ⟨(some 11), none, .mv (.tmp 47)⟩,
      ⟨(some 12), none, .mv (.tmp 48)⟩,
      ⟨(some 13), none, .mv (.tmp 49)⟩])
    (.seq (.ops [⟨(some 50), none, .mv (.tmp 11)⟩,
      ⟨(some 51), none, .mv (.tmp 0)⟩,
      ⟨(some 52), none, .bin .neq 3 (.tmp 50) (.tmp 51)⟩,
      ⟨(some 53), none, .mv (.tmp 52)⟩,
      ⟨(some 54), (some (53, false)), .mv (.tmp 12)⟩,
      ⟨(some 55), (some (53, false)), .mv (.tmp 1)⟩,
      ⟨(some 56), (some (53, false)), .bin .neq 3 (.tmp 54) (.tmp 55)⟩,
      ⟨(some 57), none, .pick (.tmp 53) (.const (Go.Value.bool true)) (.tmp 56)⟩,
      ⟨(some 58), none, .mv (.tmp 57)⟩,
      ⟨(some 59), (some (58, false)), .mv (.tmp 13)⟩,
      ⟨(some 60), (some (58, false)), .bin .neq 26 (.tmp 59) (.const (Go.Value.int Go.IntKind.i64 0))⟩,
      ⟨(some 61), none, .pick (.tmp 58) (.const (Go.Value.bool true)) (.tmp 60)⟩])
    (.cond (.tmp 61)
      (.seq (.ops [⟨(some 6), none, .mv (.const (Go.Value.bool false))⟩])
      (.ret))
      (.skip))))
    (.skip)))
  (.seq (.ops [⟨(some 63), none, .mv (.tmp 2)⟩,
    ⟨(some 64), none, .call 26 [(.tmp 63)]⟩,
    ⟨(some 62), none, .mv (.tmp 64)⟩,
    ⟨(some 65), none, .ext (.tmp 62) 0⟩,
    ⟨(some 66), none, .ext (.tmp 62) 1⟩,
    ⟨(some 67), none, .ext (.tmp 62) 2⟩,
    ⟨(some 14), none, .mv (.tmp 65)⟩,
    ⟨(some 15), none, .mv (.tmp 66)⟩,
    ⟨(some 16), none, .mv (.tmp 67)⟩])
  (.seq (.ops [⟨(some 69), none, .mv (.tmp 2)⟩,
    ⟨(some 70), none, .call 27 [(.tmp 69)]⟩,
    ⟨(some 68), none, .mv (.tmp 70)⟩,
    ⟨(some 71), none, .ext (.tmp 68) 0⟩,
    ⟨(some 72), none, .ext (.tmp 68) 1⟩,
    ⟨(some 73), none, .ext (.tmp 68) 2⟩,
    ⟨(some 17), none, .mv (.tmp 71)⟩,
    ⟨(some 18), none, .mv (.tmp 72)⟩,
    ⟨(some 19), none, .mv (.tmp 73)⟩])
  (.seq (.ops [⟨(some 74), none, .mv (.tmp 14)⟩,
    ⟨(some 75), none, .mv (.tmp 17)⟩,
    ⟨(some 76), none, .bin .eql 3 (.tmp 74) (.tmp 75)⟩,
    ⟨(some 77), none, .mv (.tmp 76)⟩,
    ⟨(some 78), (some (77, true)), .mv (.tmp 15)⟩,
    ⟨(some 79), (some (77, true)), .mv (.tmp 18)⟩,
    ⟨(some 80), (some (77, true)), .bin .eql 3 (.tmp 78) (.tmp 79)⟩,
    ⟨(some 81), none, .pick (.tmp 77) (.tmp 80) (.const (Go.Value.bool false))⟩,
    ⟨(some 82), none, .mv (.tmp 81)⟩,
    ⟨(some 83), (some (82, true)), .mv (.tmp 16)⟩,
    ⟨(some 84), (some (82, true)), .mv (.tmp 19)⟩,
    ⟨(some 85), (some (82, true)), .bin .eql 26 (.tmp 83) (.tmp 84)⟩,
    ⟨(some 86), none, .pick (.tmp 82) (.tmp 85) (.const (Go.Value.bool false))⟩,
    ⟨(some 6), none, .mv (.tmp 86)⟩])
  (.ret)))))))))
theorem is_law08_HeaderLengths : FnIs Try.prog F.law08_HeaderLengths X.law08_HeaderLengths 87 [.tmp 6] := ⟨by kernel_rfl⟩

/-- haycroft/entry.Right: function 31 -/
abbrev F.entry_Right : FuncId := 31
def X.entry_Right : X :=
  .seq (.ops [⟨(some 1), none, .box 46 (.tmp 0)⟩,
    ⟨(some 2), none, .mv (.const (Go.Value.bool false))⟩])
  (.seq (.drawn [(0, ⟨(some 3), none, .fld (.tmp 1) 0⟩),
    (1, ⟨(some 4), none, .ld (.tmp 3) none⟩),
    (2, ⟨(some 5), none, .bin .leq 22 (.tmp 4) (.const (Go.Value.int Go.IntKind.u64 281474976710655))⟩),
    (3, ⟨(some 6), none, .mv (.tmp 5)⟩),
    (4, ⟨(some 7), (some (6, true)), .fld (.tmp 1) 1⟩),
    (5, ⟨(some 8), (some (6, true)), .ld (.tmp 7) none⟩),
    (6, ⟨(some 9), (some (6, true)), .call 66 [(.const (Go.Value.int Go.IntKind.i64 14))]⟩),
    (7, ⟨(some 10), (some (6, true)), .bin .leq 22 (.tmp 8) (.tmp 9)⟩),
    (8, ⟨(some 11), none, .pick (.tmp 6) (.tmp 10) (.const (Go.Value.bool false))⟩),
    (9, ⟨(some 12), none, .mv (.tmp 11)⟩),
    (10, ⟨(some 13), (some (12, true)), .fld (.tmp 1) 2⟩),
    (11, ⟨(some 14), (some (12, true)), .ld (.tmp 13) none⟩),
    (12, ⟨(some 15), (some (12, true)), .fld (.tmp 1) 0⟩),
    (13, ⟨(some 16), (some (12, true)), .ld (.tmp 15) none⟩),
    (14, ⟨(some 17), (some (12, true)), .bin .eql 22 (.tmp 16) (.const (Go.Value.int Go.IntKind.u64 0))⟩),
    (15, ⟨(some 18), (some (12, true)), .eq false .bool (.tmp 14) (.tmp 17)⟩),
    (16, ⟨(some 19), none, .pick (.tmp 12) (.tmp 18) (.const (Go.Value.bool false))⟩),
    (17, ⟨(some 2), none, .mv (.tmp 19)⟩)]
    [[], [0], [1], [2], [3], [4, 3], [3, 3], [5, 6, 3], [3, 7], [8, 6], [9], [10, 9], [9], [12, 9], [13, 9], [11, 14, 9], [9, 15], [16, 9, 0, 1, 2, 3, 4, 5, 6, 7, 8, 9, 10, 11, 12, 13, 14, 15, 16]]
    [0, 1, 3, 7, 15, 31, 15, 127, 255, 511, 1023, 2047, 1023, 5119, 13311, 32767, 65535, 131071] 64)
  (.ret))
theorem is_entry_Right : FnIs Try.prog F.entry_Right X.entry_Right 20 [.tmp 2] := ⟨by kernel_rfl⟩

/-- haycroft/field.Set: function 70 -/
abbrev F.field_Set : FuncId := 70
def X.field_Set : X :=
  .seq (.ops [⟨(some 6), none, .mv (.const (Go.Value.int Go.IntKind.u64 0))⟩])
  (.seq (.ops [⟨(some 7), none, .mv (.const (Go.Value.int Go.IntKind.u64 0))⟩])
  (.seq (.seq (.ops [⟨(some 10), none, .mv (.tmp 2)⟩])
  (.cond (.tmp 10)
    (.ops [⟨(some 7), none, .mv (.const (Go.Value.int Go.IntKind.u64 1))⟩])
    (.skip)))
  (.seq (.ops [⟨(some 12), none, .mv (.tmp 0)⟩,
    ⟨(some 13), none, .mv (.tmp 1)⟩,
    ⟨(some 14), none, .mv (.tmp 7)⟩,
    ⟨(some 15), none, .call 82 [(.tmp 12), (.tmp 13), (.const (Go.Value.int Go.IntKind.i64 1)), (.tmp 14)]⟩,
    ⟨(some 11), none, .mv (.tmp 15)⟩,
    ⟨(some 16), none, .ext (.tmp 11) 0⟩,
    ⟨(some 17), none, .ext (.tmp 11) 1⟩,
    ⟨(some 8), none, .mv (.tmp 16)⟩,
    ⟨(some 9), none, .mv (.tmp 17)⟩])
  (.seq (.seq (.ops [⟨(some 18), none, .mv (.tmp 9)⟩,
    ⟨(some 19), none, .bin .neq 26 (.tmp 18) (.const (Go.Value.int Go.IntKind.i64 0))⟩])
  (.cond (.tmp 19)
    (.seq (.ops [⟨(some 20), none, .mv (.tmp 0)⟩,
      ⟨(some 6), none, .mv (.tmp 20)⟩])
    (.ret))
    (.skip)))
  (.seq (.ops [⟨(some 21), none, .mv (.tmp 8)⟩,
    ⟨(some 6), none, .mv (.tmp 21)⟩])
  (.ret))))))
theorem is_field_Set : FnIs Try.prog F.field_Set X.field_Set 22 [.tmp 6] := ⟨by kernel_rfl⟩

/-- haycroft/entry.Pack: function 29 -/
abbrev F.entry_Pack : FuncId := 29
def X.entry_Pack : X :=
  .seq (.ops [⟨(some 1), none, .box 46 (.tmp 0)⟩,
    ⟨(some 2), none, .mv (.const (Go.Value.int Go.IntKind.u64 0))⟩,
    ⟨(some 3), none, .mv (.const (Go.Value.int Go.IntKind.i64 0))⟩])
  (.seq (.seq (.ops [⟨(some 6), none, .ld (.tmp 1) (some 3)⟩,
    ⟨(some 7), none, .call 31 [(.tmp 6)]⟩,
    ⟨(some 8), none, .un .not (.tmp 7)⟩])
  (.cond (.tmp 8)
    (.seq (.ops [⟨(some 2), none, .mv (.const (Go.Value.int Go.IntKind.u64 0))⟩,
      ⟨(some 3), none, .mv (.const (Go.Value.int Go.IntKind.i64 1))⟩])
    (.ret))
    (.skip)))
  (.seq (.ops [⟨(some 10), none, .fld (.tmp 1) 0⟩,
    ⟨(some 11), none, .ld (.tmp 10) none⟩,
    ⟨(some 12), none, .fld (.tmp 1) 1⟩,
    ⟨(some 13), none, .ld (.tmp 12) none⟩,
    ⟨(some 14), none, .bsl 22 1 2 [(Go.Value.int Go.IntKind.u64 0)] [(0, (.tmp 11)), (1, (.tmp 13))]⟩,
    ⟨(some 15), none, .bsl 3 1 2 [(Go.Value.int Go.IntKind.i64 0)] [(0, (.const (Go.Value.int Go.IntKind.i64 48))), (1, (.const (Go.Value.int Go.IntKind.i64 14)))]⟩,
    ⟨(some 16), none, .call 64 [(.tmp 14), (.tmp 15)]⟩,
    ⟨(some 9), none, .mv (.tmp 16)⟩,
    ⟨(some 17), none, .ext (.tmp 9) 0⟩,
    ⟨(some 18), none, .ext (.tmp 9) 1⟩,
    ⟨(some 4), none, .mv (.tmp 17)⟩,
    ⟨(some 5), none, .mv (.tmp 18)⟩])
  (.seq (.ops [⟨(some 19), none, .mv (.tmp 4)⟩,
    ⟨(some 20), none, .fld (.tmp 1) 2⟩,
    ⟨(some 21), none, .ld (.tmp 20) none⟩,
    ⟨(some 22), none, .call 70 [(.tmp 19), (.const (Go.Value.int Go.IntKind.i64 62)), (.tmp 21)]⟩,
    ⟨(some 23), none, .call 70 [(.tmp 22), (.const (Go.Value.int Go.IntKind.i64 63)), (.const (Go.Value.bool true))]⟩,
    ⟨(some 24), none, .mv (.tmp 5)⟩,
    ⟨(some 2), none, .mv (.tmp 23)⟩,
    ⟨(some 3), none, .mv (.tmp 24)⟩])
  (.ret))))
theorem is_entry_Pack : FnIs Try.prog F.entry_Pack X.entry_Pack 25 [.tmp 2, .tmp 3] := ⟨by kernel_rfl⟩

/-- haycroft/entry.Fresh: function 49 -/
abbrev F.entry_Fresh : FuncId := 49
def X.entry_Fresh : X :=
  .seq (.ops [⟨(some 2), none, .mv (.const (Go.Value.int Go.IntKind.u64 0))⟩,
    ⟨(some 3), none, .mv (.const (Go.Value.int Go.IntKind.i64 0))⟩])
  (.seq (.ops [⟨(some 4), none, .mv (.tmp 0)⟩,
    ⟨(some 5), none, .bld [(Go.Value.int Go.IntKind.u64 0), (Go.Value.int Go.IntKind.u64 0), (Go.Value.bool false)] [(1, 1, (.tmp 4)), (2, 1, (.const (Go.Value.bool true)))]⟩,
    ⟨(some 6), none, .call 29 [(.tmp 5)]⟩,
    ⟨(some 7), none, .ext (.tmp 6) 0⟩,
    ⟨(some 8), none, .ext (.tmp 6) 1⟩,
    ⟨(some 2), none, .mv (.tmp 7)⟩,
    ⟨(some 3), none, .mv (.tmp 8)⟩])
  (.ret))
theorem is_entry_Fresh : FnIs Try.prog F.entry_Fresh X.entry_Fresh 9 [.tmp 2, .tmp 3] := ⟨by kernel_rfl⟩

/-- haycroft/haycroftlaw16.awake: function 28 -/
abbrev F.law16_awake : FuncId := 28
def X.law16_awake : X :=
  .seq (.ops [⟨(some 0), none, .mv (.const (Go.Value.bool false))⟩])
  (.seq (.ops [⟨(some 4), none, .call 49 [(.const (Go.Value.int Go.IntKind.u64 1))]⟩,
    ⟨(some 3), none, .mv (.tmp 4)⟩,
    ⟨(some 5), none, .ext (.tmp 3) 0⟩,
    ⟨(some 6), none, .ext (.tmp 3) 1⟩,
    ⟨(some 1), none, .mv (.tmp 5)⟩,
    ⟨(some 2), none, .mv (.tmp 6)⟩])
  (.seq (.ops [⟨(some 7), none, .mv (.tmp 1)⟩,
    ⟨(some 8), none, .bin .eql 22 (.tmp 7) (.const (Go.Value.int Go.IntKind.u64 13835339530258874368))⟩,
    ⟨(some 9), none, .mv (.tmp 8)⟩,
    ⟨(some 10), (some (9, true)), .mv (.tmp 2)⟩,
    ⟨(some 11), (some (9, true)), .bin .eql 26 (.tmp 10) (.const (Go.Value.int Go.IntKind.i64 0))⟩,
    ⟨(some 12), none, .pick (.tmp 9) (.tmp 11) (.const (Go.Value.bool false))⟩,
    ⟨(some 0), none, .mv (.tmp 12)⟩])
  (.ret)))
theorem is_law16_awake : FnIs Try.prog F.law16_awake X.law16_awake 13 [.tmp 0] := ⟨by kernel_rfl⟩

/-- haycroft/haycroftref16.Right: function 71 -/
abbrev F.ref16_Right : FuncId := 71
def X.ref16_Right : X :=
  .seq (.ops [⟨(some 1), none, .box 46 (.tmp 0)⟩,
    ⟨(some 2), none, .mv (.const (Go.Value.bool false))⟩])
  (.seq (.seq (.ops [⟨(some 3), none, .fld (.tmp 1) 0⟩,
    ⟨(some 4), none, .ld (.tmp 3) none⟩,
    ⟨(some 5), none, .bin .geq 22 (.tmp 4) (.const (Go.Value.int Go.IntKind.u64 281474976710656))⟩,
    ⟨(some 6), none, .mv (.tmp 5)⟩,
    ⟨(some 7), (some (6, false)), .fld (.tmp 1) 1⟩,
    ⟨(some 8), (some (6, false)), .ld (.tmp 7) none⟩,
    ⟨(some 9), (some (6, false)), .bin .geq 22 (.tmp 8) (.const (Go.Value.int Go.IntKind.u64 16384))⟩,
    ⟨(some 10), none, .pick (.tmp 6) (.const (Go.Value.bool true)) (.tmp 9)⟩])
  (.cond (.tmp 10)
    (.seq (.ops [⟨(some 2), none, .mv (.const (Go.Value.bool false))⟩])
    (.ret))
    (.skip)))
  (.seq (.ops [⟨(some 11), none, .fld (.tmp 1) 2⟩,
    ⟨(some 12), none, .ld (.tmp 11) none⟩,
    ⟨(some 13), none, .mv (.tmp 12)⟩,
    ⟨(some 14), (some (13, true)), .fld (.tmp 1) 0⟩,
    ⟨(some 15), (some (13, true)), .ld (.tmp 14) none⟩,
    ⟨(some 16), (some (13, true)), .bin .eql 22 (.tmp 15) (.const (Go.Value.int Go.IntKind.u64 0))⟩,
    ⟨(some 17), none, .pick (.tmp 13) (.tmp 16) (.const (Go.Value.bool false))⟩,
    ⟨(some 18), none, .mv (.tmp 17)⟩,
    ⟨(some 19), (some (18, false)), .fld (.tmp 1) 2⟩,
    ⟨(some 20), (some (18, false)), .ld (.tmp 19) none⟩,
    ⟨(some 21), (some (18, false)), .un .not (.tmp 20)⟩,
    ⟨(some 22), (some (18, false)), .mv (.tmp 21)⟩,
    ⟨(some 23), (some (22, true)), .fld (.tmp 1) 0⟩,
    ⟨(some 24), (some (22, true)), .ld (.tmp 23) none⟩,
    ⟨(some 25), (some (22, true)), .bin .gtr 22 (.tmp 24) (.const (Go.Value.int Go.IntKind.u64 0))⟩,
    ⟨(some 26), (some (18, false)), .pick (.tmp 22) (.tmp 25) (.const (Go.Value.bool false))⟩,
    ⟨(some 27), none, .pick (.tmp 18) (.const (Go.Value.bool true)) (.tmp 26)⟩,
    ⟨(some 2), none, .mv (.tmp 27)⟩])
  (.ret)))
theorem is_ref16_Right : FnIs Try.prog F.ref16_Right X.ref16_Right 28 [.tmp 2] := ⟨by kernel_rfl⟩

/-- haycroft/haycroftref16.Pack: function 30 -/
abbrev F.ref16_Pack : FuncId := 30
def X.ref16_Pack : X :=
  .seq (.ops [⟨(some 1), none, .box 46 (.tmp 0)⟩,
    ⟨(some 2), none, .mv (.const (Go.Value.int Go.IntKind.u64 0))⟩,
    ⟨(some 3), none, .mv (.const (Go.Value.int Go.IntKind.i64 0))⟩])
  (.seq (.seq (.ops [⟨(some 5), none, .ld (.tmp 1) (some 3)⟩,
    ⟨(some 6), none, .call 71 [(.tmp 5)]⟩,
    ⟨(some 7), none, .un .not (.tmp 6)⟩])
  (.cond (.tmp 7)
    (.seq (.ops [⟨(some 2), none, .mv (.const (Go.Value.int Go.IntKind.u64 0))⟩,
      ⟨(some 3), none, .mv (.const (Go.Value.int Go.IntKind.i64 1))⟩])
    (.ret))
    (.skip)))
  (.seq (.ops [⟨(some 8), none, .fld (.tmp 1) 1⟩,
    ⟨(some 9), none, .ld (.tmp 8) none⟩,
    ⟨(some 10), none, .bin .mul 22 (.tmp 9) (.const (Go.Value.int Go.IntKind.u64 281474976710656))⟩,
    ⟨(some 11), none, .bin .add 22 (.const (Go.Value.int Go.IntKind.u64 9223372036854775808)) (.tmp 10)⟩,
    ⟨(some 12), none, .fld (.tmp 1) 0⟩,
    ⟨(some 13), none, .ld (.tmp 12) none⟩,
    ⟨(some 14), none, .bin .add 22 (.tmp 11) (.tmp 13)⟩,
    ⟨(some 4), none, .mv (.tmp 14)⟩])
  (.seq (.seq (.ops [⟨(some 15), none, .fld (.tmp 1) 2⟩,
    ⟨(some 16), none, .ld (.tmp 15) none⟩])
  (.cond (.tmp 16)
    (.ops [⟨(some 17), none, .mv (.tmp 4)⟩,
      ⟨(some 18), none, .bin .add 22 (.tmp 17) (.const (Go.Value.int Go.IntKind.u64 4611686018427387904))⟩,
      ⟨(some 4), none, .mv (.tmp 18)⟩])
    (.skip)))
  (.seq (.ops [⟨(some 19), none, .mv (.tmp 4)⟩,
    ⟨(some 2), none, .mv (.tmp 19)⟩,
    ⟨(some 3), none, .mv (.const (Go.Value.int Go.IntKind.i64 0))⟩])
  (.ret)))))
theorem is_ref16_Pack : FnIs Try.prog F.ref16_Pack X.ref16_Pack 20 [.tmp 2, .tmp 3] := ⟨by kernel_rfl⟩

/-- haycroft/entry.Unpack: function 32 -/
abbrev F.entry_Unpack : FuncId := 32
def X.entry_Unpack : X :=
  .seq (.ops [⟨(some 2), none, .new 46 (Go.Value.agg #[(Go.Value.int Go.IntKind.u64 0), (Go.Value.int Go.IntKind.u64 0), (Go.Value.bool false)])⟩,
    ⟨(some 3), none, .mv (.const (Go.Value.int Go.IntKind.i64 0))⟩])
  (.seq (.ops [⟨(some 5), none, .mv (.tmp 0)⟩,
    ⟨(some 6), none, .call 67 [(.tmp 5), (.const (Go.Value.int Go.IntKind.i64 0)), (.const (Go.Value.int Go.IntKind.i64 48))]⟩,
    ⟨(some 7), none, .mv (.tmp 0)⟩,
    ⟨(some 8), none, .call 67 [(.tmp 7), (.const (Go.Value.int Go.IntKind.i64 48)), (.const (Go.Value.int Go.IntKind.i64 14))]⟩,
    ⟨(some 9), none, .mv (.tmp 0)⟩,
    ⟨(some 10), none, .call 68 [(.tmp 9), (.const (Go.Value.int Go.IntKind.i64 62))]⟩,
    ⟨(some 11), none, .bld [(Go.Value.int Go.IntKind.u64 0), (Go.Value.int Go.IntKind.u64 0), (Go.Value.bool false)] [(0, 1, (.tmp 6)), (1, 1, (.tmp 8)), (2, 1, (.tmp 10))]⟩,
    ⟨(some 4), none, .new 46 (Go.Value.agg #[(Go.Value.int Go.IntKind.u64 0), (Go.Value.int Go.IntKind.u64 0), (Go.Value.bool false)])⟩,
    ⟨none, none, .st (.tmp 4) (.tmp 11) 3⟩])
  (.seq (.block 0 (.seq (.ops [⟨(some 13), none, .mv (.tmp 0)⟩,
      ⟨(some 14), none, .bin .eql 22 (.tmp 13) (.const (Go.Value.int Go.IntKind.u64 0))⟩,
      ⟨(some 12), none, .mv (.tmp 14)⟩])
    (.cond (.tmp 12)
      (.seq (.ops [⟨(some 15), none, .bld [(Go.Value.int Go.IntKind.u64 0), (Go.Value.int Go.IntKind.u64 0), (Go.Value.bool false)] []⟩,
        ⟨none, none, .st (.tmp 2) (.tmp 15) 3⟩,
        ⟨(some 3), none, .mv (.const (Go.Value.int Go.IntKind.i64 7))⟩])
      (.ret))
      (.seq (.ops [⟨(some 17), none, .mv (.tmp 0)⟩,
        ⟨(some 18), none, .call 68 [(.tmp 17), (.const (Go.Value.int Go.IntKind.i64 63))]⟩,
        ⟨(some 19), none, .un .not (.tmp 18)⟩,
        ⟨(some 20), none, .mv (.tmp 19)⟩,
        ⟨(some 21), (some (20, false)), .ld (.tmp 4) (some 3)⟩,
        ⟨(some 22), (some (20, false)), .call 31 [(.tmp 21)]⟩,
        ⟨(some 23), (some (20, false)), .un .not (.tmp 22)⟩,
        ⟨(some 24), none, .pick (.tmp 20) (.const (Go.Value.bool true)) (.tmp 23)⟩,
        ⟨(some 16), none, .mv (.tmp 24)⟩])
      (.cond (.tmp 16)
        (.seq (.ops [⟨(some 25), none, .bld [(Go.Value.int Go.IntKind.u64 0), (Go.Value.int Go.IntKind.u64 0), (Go.Value.bool false)] []⟩,
          ⟨none, none, .st (.tmp 2) (.tmp 25) 3⟩,
          ⟨(some 3), none, .mv (.const (Go.Value.int Go.IntKind.i64 4))⟩])
        (.ret))
        (.skip))))))
  (.seq (.ops [⟨(some 26), none, .ld (.tmp 4) (some 3)⟩,
    ⟨none, none, .st (.tmp 2) (.tmp 26) 3⟩,
    ⟨(some 3), none, .mv (.const (Go.Value.int Go.IntKind.i64 0))⟩])
  (.ret))))
theorem is_entry_Unpack : FnIs Try.prog F.entry_Unpack X.entry_Unpack 27 [.cell 2 46, .tmp 3] := ⟨by kernel_rfl⟩

/-- haycroft/haycroftref16.Unpack: function 33 -/
abbrev F.ref16_Unpack : FuncId := 33
def X.ref16_Unpack : X :=
  .seq (.ops [⟨(some 2), none, .new 46 (Go.Value.agg #[(Go.Value.int Go.IntKind.u64 0), (Go.Value.int Go.IntKind.u64 0), (Go.Value.bool false)])⟩,
    ⟨(some 3), none, .mv (.const (Go.Value.int Go.IntKind.i64 0))⟩])
  (.seq (.seq (.ops [⟨(some 5), none, .mv (.tmp 0)⟩,
    ⟨(some 6), none, .bin .eql 22 (.tmp 5) (.const (Go.Value.int Go.IntKind.u64 0))⟩])
  (.cond (.tmp 6)
    (.seq (.ops [⟨(some 7), none, .bld [(Go.Value.int Go.IntKind.u64 0), (Go.Value.int Go.IntKind.u64 0), (Go.Value.bool false)] []⟩,
      ⟨none, none, .st (.tmp 2) (.tmp 7) 3⟩,
      ⟨(some 3), none, .mv (.const (Go.Value.int Go.IntKind.i64 7))⟩])
    (.ret))
    (.skip)))
  (.seq (.ops [⟨(some 8), none, .mv (.tmp 0)⟩,
    ⟨(some 9), none, .bin .rem 22 (.tmp 8) (.const (Go.Value.int Go.IntKind.u64 281474976710656))⟩,
    ⟨(some 10), none, .mv (.tmp 0)⟩,
    ⟨(some 11), none, .bin .quo 22 (.tmp 10) (.const (Go.Value.int Go.IntKind.u64 281474976710656))⟩,
    ⟨(some 12), none, .bin .rem 22 (.tmp 11) (.const (Go.Value.int Go.IntKind.u64 16384))⟩,
    ⟨(some 13), none, .mv (.tmp 0)⟩,
    ⟨(some 14), none, .bin .quo 22 (.tmp 13) (.const (Go.Value.int Go.IntKind.u64 4611686018427387904))⟩,
    ⟨(some 15), none, .bin .rem 22 (.tmp 14) (.const (Go.Value.int Go.IntKind.u64 2))⟩,
    ⟨(some 16), none, .bin .eql 22 (.tmp 15) (.const (Go.Value.int Go.IntKind.u64 1))⟩,
    ⟨(some 17), none, .bld [(Go.Value.int Go.IntKind.u64 0), (Go.Value.int Go.IntKind.u64 0), (Go.Value.bool false)] [(0, 1, (.tmp 9)), (1, 1, (.tmp 12)), (2, 1, (.tmp 16))]⟩,
    ⟨(some 4), none, .new 46 (Go.Value.agg #[(Go.Value.int Go.IntKind.u64 0), (Go.Value.int Go.IntKind.u64 0), (Go.Value.bool false)])⟩,
    ⟨none, none, .st (.tmp 4) (.tmp 17) 3⟩])
  (.seq (.seq (.ops [⟨(some 18), none, .mv (.tmp 0)⟩,
    ⟨(some 19), none, .bin .lss 22 (.tmp 18) (.const (Go.Value.int Go.IntKind.u64 9223372036854775808))⟩,
    ⟨(some 20), none, .mv (.tmp 19)⟩,
    ⟨(some 21), (some (20, false)), .ld (.tmp 4) (some 3)⟩,
    ⟨(some 22), (some (20, false)), .call 71 [(.tmp 21)]⟩,
    ⟨(some 23), (some (20, false)), .un .not (.tmp 22)⟩,
    ⟨(some 24), none, .pick (.tmp 20) (.const (Go.Value.bool true)) (.tmp 23)⟩])
  (.cond (.tmp 24)
    (.seq (.ops [⟨(some 25), none, .bld [(Go.Value.int Go.IntKind.u64 0), (Go.Value.int Go.IntKind.u64 0), (Go.Value.bool false)] []⟩,
      ⟨none, none, .st (.tmp 2) (.tmp 25) 3⟩,
      ⟨(some 3), none, .mv (.const (Go.Value.int Go.IntKind.i64 4))⟩])
    (.ret))
    (.skip)))
  (.seq (.ops [⟨(some 26), none, .ld (.tmp 4) (some 3)⟩,
    ⟨none, none, .st (.tmp 2) (.tmp 26) 3⟩,
    ⟨(some 3), none, .mv (.const (Go.Value.int Go.IntKind.i64 0))⟩])
  (.ret)))))
theorem is_ref16_Unpack : FnIs Try.prog F.ref16_Unpack X.ref16_Unpack 27 [.cell 2 46, .tmp 3] := ⟨by kernel_rfl⟩

/-- haycroft/haycroftlaw16.EntryPacks: function 6 -/
abbrev F.law16_EntryPacks : FuncId := 6
def X.law16_EntryPacks : X :=
  .seq (.ops [⟨(some 2), none, .box 46 (.tmp 0)⟩,
    ⟨(some 4), none, .mv (.const (Go.Value.bool false))⟩])
  (.seq (.seq (.ops [⟨(some 15), none, .call 28 []⟩,
    ⟨(some 16), none, .un .not (.tmp 15)⟩])
  (.cond (.tmp 16)
    (.seq (.ops [⟨(some 4), none, .mv (.const (Go.Value.bool false))⟩])
    (.ret))
    (.skip)))
  (.seq (.ops [⟨(some 18), none, .ld (.tmp 2) (some 3)⟩,
    ⟨(some 19), none, .call 29 [(.tmp 18)]⟩,
    ⟨(some 17), none, .mv (.tmp 19)⟩,
    ⟨(some 20), none, .ext (.tmp 17) 0⟩,
    ⟨(some 21), none, .ext (.tmp 17) 1⟩,
    ⟨(some 5), none, .mv (.tmp 20)⟩,
    ⟨(some 6), none, .mv (.tmp 21)⟩])
  (.seq (.ops [⟨(some 23), none, .ld (.tmp 2) (some 3)⟩,
    ⟨(some 24), none, .call 30 [(.tmp 23)]⟩,
    ⟨(some 22), none, .mv (.tmp 24)⟩,
    ⟨(some 25), none, .ext (.tmp 22) 0⟩,
    ⟨(some 26), none, .ext (.tmp 22) 1⟩,
    ⟨(some 7), none, .mv (.tmp 25)⟩,
    ⟨(some 8), none, .mv (.tmp 26)⟩])
  (.seq (.seq (.ops [⟨(some 27), none, .mv (.tmp 5)⟩,
    ⟨(some 28), none, .mv (.tmp 7)⟩,
    ⟨(some 29), none, .bin .neq 22 (.tmp 27) (.tmp 28)⟩,
    ⟨(some 30), none, .mv (.tmp 29)⟩,
    ⟨(some 31), (some (30, false)), .mv (.tmp 6)⟩,
    ⟨(some 32), (some (30, false)), .mv (.tmp 8)⟩,
    ⟨(some 33), (some (30, false)), .bin .neq 26 (.tmp 31) (.tmp 32)⟩,
    ⟨(some 34), none, .pick (.tmp 30) (.const (Go.Value.bool true)) (.tmp 33)⟩,
    ⟨(some 35), none, .mv (.tmp 34)⟩,
    ⟨(some 36), (some (35, false)), .ld (.tmp 2) (some 3)⟩,
    ⟨(some 37), (some (35, false)), .call 31 [(.tmp 36)]⟩,
    ⟨(some 38), (some (35, false)), .mv (.tmp 6)⟩,
    ⟨(some 39), (some (35, false)), .bin .eql 26 (.tmp 38) (.const (Go.Value.int Go.IntKind.i64 0))⟩,
    ⟨(some 40), (some (35, false)), .eq true .bool (.tmp 37) (.tmp 39)⟩,
    ⟨(some 41), none, .pick (.tmp 35) (.const (Go.Value.bool true)) (.tmp 40)⟩])
  (.cond (.tmp 41)
    (.seq (.ops [⟨(some 4), none, .mv (.const (Go.Value.bool false))⟩])
    (.ret))
    (.skip)))
  (.seq (.seq (.ops [⟨(some 42), none, .mv (.tmp 6)⟩,
    ⟨(some 43), none, .bin .eql 26 (.tmp 42) (.const (Go.Value.int Go.IntKind.i64 0))⟩])
  (.cond (.tmp 43)
    (.seq (.ops [⟨(some 45), none, .mv (.tmp 5)⟩,
      ⟨(some 46), none, .call 32 [(.tmp 45)]⟩,
      ⟨(some 44), none, .mv (.tmp 46)⟩,
      ⟨(some 47), none, .ext (.tmp 44) 0⟩,
      ⟨(some 48), none, .ext (.tmp 44) 1⟩,
      ⟨(some 9), none, .new 46 (Go.Value.agg #[(Go.Value.int Go.IntKind.u64 0), (Go.Value.int Go.IntKind.u64 0), (Go.Value.bool false)])⟩,
      ⟨none, none, .st (.tmp 9) (.tmp 47) 3⟩,
      ⟨(some 10), none, .mv (.tmp 48)⟩])
    (.seq (.ops [⟨(some 49), none, .ld (.tmp 9) (some 3)⟩,
      ⟨(some 50), none, .ld (.tmp 2) (some 3)⟩,
      ⟨(some 51), none, .eq true (.agg 3 [(0, 0), (1, 0), (2, 1)]) (.tmp 49) (.tmp 50)⟩,
      ⟨(some 52), none, .mv (.tmp 51)⟩,
      ⟨(some 53), (some (52, false)), .mv (.tmp 10)⟩,
      ⟨(some 54), (some (52, false)), .bin .neq 26 (.tmp 53) (.const (Go.Value.int Go.IntKind.i64 0))⟩,
      ⟨(some 55), none, .pick (.tmp 52) (.const (Go.Value.bool true)) (.tmp 54)⟩,
      ⟨(some 56), none, .mv (.tmp 55)⟩,
      ⟨(some 57), (some (56, false)), .mv (.tmp 5)⟩,
      ⟨(some 58), (some (56, false)), .bin .eql 22 (.tmp 57) (.const (Go.Value.int Go.IntKind.u64 0))⟩,
      ⟨(some 59), none, .pick (.tmp 56) (.const (Go.Value.bool true)) (.tmp 58)⟩])
    (.cond (.tmp 59)
      (.seq (.ops [⟨(some 4), none, .mv (.const (Go.Value.bool false))⟩])
      (.ret))
      (.skip))))
    (.skip)))
  (.seq (.ops [⟨(some 61), none, .mv (.tmp 1)⟩,
    ⟨(some 62), none, .call 32 [(.tmp 61)]⟩,
    ⟨(some 60), none, .mv (.tmp 62)⟩,
    ⟨(some 63), none, .ext (.tmp 60) 0⟩,
    ⟨(some 64), none, .ext (.tmp 60) 1⟩,
    ⟨(some 11), none, .new 46 (Go.Value.agg #[(Go.Value.int Go.IntKind.u64 0), (Go.Value.int Go.IntKind.u64 0), (Go.Value.bool false)])⟩,
    ⟨none, none, .st (.tmp 11) (.tmp 63) 3⟩,
    ⟨(some 12), none, .mv (.tmp 64)⟩])
  (.seq (.ops [⟨(some 66), none, .mv (.tmp 1)⟩,
    ⟨(some 67), none, .call 33 [(.tmp 66)]⟩,
    ⟨(some 65), none, .mv (.tmp 67)⟩,
    ⟨(some 68), none, .ext (.tmp 65) 0⟩,
    ⟨(some 69), none, .ext (.tmp 65) 1⟩,
    ⟨(some 13), none, .new 46 (Go.Value.agg #[(Go.Value.int Go.IntKind.u64 0), (Go.Value.int Go.IntKind.u64 0), (Go.Value.bool false)])⟩,
    ⟨none, none, .st (.tmp 13) (.tmp 68) 3⟩,
    ⟨(some 14), none, .mv (.tmp 69)⟩])
  (.seq (.ops [⟨(some 70), none, .ld (.tmp 11) (some 3)⟩,
    ⟨(some 71), none, .ld (.tmp 13) (some 3)⟩,
    ⟨(some 72), none, .eq false (.agg 3 [(0, 0), (1, 0), (2, 1)]) (.tmp 70) (.tmp 71)⟩,
    ⟨(some 73), none, .mv (.tmp 72)⟩,
    ⟨(some 74), (some (73, true)), .mv (.tmp 12)⟩,
    ⟨(some 75), (some (73, true)), .mv (.tmp 14)⟩,
    ⟨(some 76), (some (73, true)), .bin .eql 26 (.tmp 74) (.tmp 75)⟩,
    ⟨(some 77), none, .pick (.tmp 73) (.tmp 76) (.const (Go.Value.bool false))⟩,
    ⟨(some 4), none, .mv (.tmp 77)⟩])
  (.ret)))))))))
theorem is_law16_EntryPacks : FnIs Try.prog F.law16_EntryPacks X.law16_EntryPacks 78 [.tmp 4] := ⟨by kernel_rfl⟩

/-- haycroft/marks.New: function 35 -/
abbrev F.marks_New : FuncId := 35
def X.marks_New : X :=
  .seq (.ops [⟨(some 0), none, .mv (.const (Go.Value.pointer none))⟩])
  (.seq (.ops [⟨(some 4), none, .call 15 [(.const (Go.Value.int Go.IntKind.i64 5))]⟩,
    ⟨(some 3), none, .mv (.tmp 4)⟩,
    ⟨(some 5), none, .ext (.tmp 3) 0⟩,
    ⟨(some 6), none, .ext (.tmp 3) 1⟩,
    ⟨(some 1), none, .mv (.tmp 5)⟩,
    ⟨(some 2), none, .mv (.tmp 6)⟩])
  (.seq (.ops [⟨(some 7), none, .mv (.tmp 1)⟩,
    ⟨(some 8), none, .bld [(Go.Value.pointer none)] [(0, 1, (.tmp 7))]⟩,
    ⟨(some 9), none, .box 111 (.tmp 8)⟩,
    ⟨(some 0), none, .mv (.tmp 9)⟩])
  (.ret)))
theorem is_marks_New : FnIs Try.prog F.marks_New X.marks_New 10 [.tmp 0] := ⟨by kernel_rfl⟩

/-- haycroft/marks.there: function 72 -/
abbrev F.marks_there : FuncId := 72
def X.marks_there : X :=
  .seq (.ops [⟨(some 2), none, .mv (.const (Go.Value.bool false))⟩])
  (.seq (.ops [⟨(some 3), none, .mv (.tmp 0)⟩,
    ⟨(some 4), none, .bin .geq 3 (.tmp 3) (.const (Go.Value.int Go.IntKind.i64 0))⟩,
    ⟨(some 5), none, .mv (.tmp 4)⟩,
    ⟨(some 6), (some (5, true)), .mv (.tmp 0)⟩,
    ⟨(some 7), (some (5, true)), .bin .lss 3 (.tmp 6) (.const (Go.Value.int Go.IntKind.i64 5))⟩,
    ⟨(some 8), none, .pick (.tmp 5) (.tmp 7) (.const (Go.Value.bool false))⟩,
    ⟨(some 2), none, .mv (.tmp 8)⟩])
  (.ret))
theorem is_marks_there : FnIs Try.prog F.marks_there X.marks_there 9 [.tmp 2] := ⟨by kernel_rfl⟩

/-- (*haycroft/marks.Set).At: function 55 -/
abbrev F.marks_Set_At : FuncId := 55
def X.marks_Set_At : X :=
  .seq (.ops [⟨(some 4), none, .mv (.const (Go.Value.int Go.IntKind.i64 0))⟩])
  (.seq (.seq (.ops [⟨(some 5), none, .mv (.tmp 0)⟩,
    ⟨(some 6), none, .eq false .ptr (.tmp 5) (.const (Go.Value.pointer none))⟩,
    ⟨(some 7), none, .mv (.tmp 6)⟩,
    ⟨(some 8), (some (7, false)), .mv (.tmp 1)⟩,
    ⟨(some 9), (some (7, false)), .call 72 [(.tmp 8)]⟩,
    ⟨(some 10), (some (7, false)), .un .not (.tmp 9)⟩,
    ⟨(some 11), none, .pick (.tmp 7) (.const (Go.Value.bool true)) (.tmp 10)⟩])
  (.cond (.tmp 11)
    (.seq (.ops [⟨(some 4), none, .mv (.const (Go.Value.int Go.IntKind.i64 0))⟩])
    (.ret))
    (.skip)))
  (.seq (.ops [⟨(some 12), none, .mv (.tmp 0)⟩,
    ⟨(some 13), none, .nilc (.tmp 12)⟩,
    ⟨(some 14), none, .fld (.tmp 13) 0⟩,
    ⟨(some 15), none, .ld (.tmp 14) none⟩,
    ⟨(some 16), none, .mv (.tmp 1)⟩,
    ⟨(some 17), none, .call 18 [(.tmp 15), (.tmp 16)]⟩,
    ⟨(some 18), none, .conv Go.IntKind.i64 (.tmp 17)⟩,
    ⟨(some 4), none, .mv (.tmp 18)⟩])
  (.ret)))
theorem is_marks_Set_At : FnIs Try.prog F.marks_Set_At X.marks_Set_At 19 [.tmp 4] := ⟨by kernel_rfl⟩

/-- (*haycroft/marks.Set).Most: function 56 -/
abbrev F.marks_Set_Most : FuncId := 56
def X.marks_Set_Most : X :=
  .seq (.ops [⟨(some 6), none, .mv (.const (Go.Value.int Go.IntKind.i64 0))⟩])
  (.seq (.block 0 (.seq (.ops [⟨(some 8), none, .mv (.tmp 0)⟩,
      ⟨(some 9), none, .eq false .ptr (.tmp 8) (.const (Go.Value.pointer none))⟩,
      ⟨(some 10), none, .mv (.tmp 9)⟩,
      ⟨(some 11), (some (10, false)), .mv (.tmp 1)⟩,
      ⟨(some 12), (some (10, false)), .call 72 [(.tmp 11)]⟩,
      ⟨(some 13), (some (10, false)), .un .not (.tmp 12)⟩,
      ⟨(some 14), none, .pick (.tmp 10) (.const (Go.Value.bool true)) (.tmp 13)⟩,
      ⟨(some 7), none, .mv (.tmp 14)⟩])
    (.cond (.tmp 7)
      (.seq (.ops [⟨(some 6), none, .mv (.const (Go.Value.int Go.IntKind.i64 0))⟩])
      (.ret))
      (.seq (.ops [⟨(some 16), none, .mv (.tmp 1)⟩,
        ⟨(some 17), none, .bin .eql 3 (.tmp 16) (.const (Go.Value.int Go.IntKind.i64 0))⟩,
        ⟨(some 15), none, .mv (.tmp 17)⟩])
      (.cond (.tmp 15)
        (.seq (.ops [⟨(some 18), none, .mv (.tmp 2)⟩,
          ⟨(some 6), none, .mv (.tmp 18)⟩])
        (.ret))
        (.skip))))))
  (.seq (.ops [⟨(some 19), none, .mv (.tmp 0)⟩,
    ⟨(some 20), none, .mv (.tmp 1)⟩,
    ⟨(some 21), none, .bin .sub 3 (.tmp 20) (.const (Go.Value.int Go.IntKind.i64 1))⟩,
    ⟨(some 22), none, .call 55 [(.tmp 19), (.tmp 21)]⟩,
    ⟨(some 6), none, .mv (.tmp 22)⟩])
  (.ret)))
theorem is_marks_Set_Most : FnIs Try.prog F.marks_Set_Most X.marks_Set_Most 23 [.tmp 6] := ⟨by kernel_rfl⟩

/-- (*haycroft/marks.Set).Raise: function 38 -/
abbrev F.marks_Set_Raise : FuncId := 38
def X.marks_Set_Raise : X :=
  .seq (.ops [⟨(some 8), none, .mv (.const (Go.Value.int Go.IntKind.i64 0))⟩])
  (.seq (.block 0 (.seq (.ops [⟨(some 10), none, .mv (.tmp 0)⟩,
      ⟨(some 11), none, .eq false .ptr (.tmp 10) (.const (Go.Value.pointer none))⟩,
      ⟨(some 9), none, .mv (.tmp 11)⟩])
    (.cond (.tmp 9)
      (.seq (.ops [⟨(some 8), none, .mv (.const (Go.Value.int Go.IntKind.i64 2))⟩])
      (.ret))
      (.seq (.ops [⟨(some 13), none, .mv (.tmp 1)⟩,
        ⟨(some 14), none, .call 72 [(.tmp 13)]⟩,
        ⟨(some 15), none, .un .not (.tmp 14)⟩,
        ⟨(some 12), none, .mv (.tmp 15)⟩])
      (.cond (.tmp 12)
        (.seq (.ops [⟨(some 8), none, .mv (.const (Go.Value.int Go.IntKind.i64 1))⟩])
        (.ret))
        (.seq (.ops [⟨(some 17), none, .mv (.tmp 2)⟩,
          ⟨(some 18), none, .mv (.tmp 0)⟩,
          ⟨(some 19), none, .mv (.tmp 1)⟩,
          ⟨(some 20), none, .call 55 [(.tmp 18), (.tmp 19)]⟩,
          ⟨(some 21), none, .bin .leq 3 (.tmp 17) (.tmp 20)⟩,
          ⟨(some 16), none, .mv (.tmp 21)⟩])
        (.cond (.tmp 16)
          (.seq (.ops [⟨(some 8), none, .mv (.const (Go.Value.int Go.IntKind.i64 8))⟩])
          (.ret))
          (.seq (.ops [⟨(some 23), none, .mv (.tmp 2)⟩,
            ⟨(some 24), none, .mv (.tmp 0)⟩,
            ⟨(some 25), none, .mv (.tmp 1)⟩,
            ⟨(some 26), none, .mv (.tmp 3)⟩,
            ⟨(some 27), none, .call 56 [(.tmp 24), (.tmp 25), (.tmp 26)]⟩,
            ⟨(some 28), none, .bin .gtr 3 (.tmp 23) (.tmp 27)⟩,
            ⟨(some 22), none, .mv (.tmp 28)⟩])
          (.cond (.tmp 22)
            (.seq (.ops [⟨(some 8), none, .mv (.const (Go.Value.int Go.IntKind.i64 13))⟩])
            (.ret))
            (.skip))))))))))
  (.seq (.ops [⟨(some 29), none, .mv (.tmp 0)⟩,
    ⟨(some 30), none, .nilc (.tmp 29)⟩,
    ⟨(some 31), none, .fld (.tmp 30) 0⟩,
    ⟨(some 32), none, .ld (.tmp 31) none⟩,
    ⟨(some 33), none, .mv (.tmp 1)⟩,
    ⟨(some 34), none, .mv (.tmp 2)⟩,
    ⟨(some 35), none, .conv Go.IntKind.u64 (.tmp 34)⟩,
    ⟨(some 36), none, .call 16 [(.tmp 32), (.tmp 33), (.tmp 35)]⟩,
    ⟨(some 8), none, .mv (.tmp 36)⟩])
  (.ret)))
theorem is_marks_Set_Raise : FnIs Try.prog F.marks_Set_Raise X.marks_Set_Raise 37 [.tmp 8] := ⟨by kernel_rfl⟩

/-- (*haycroft/marks.Set).Region: function 37 -/
abbrev F.marks_Set_Region : FuncId := 37
def X.marks_Set_Region : X :=
  .seq (.ops [⟨(some 6), none, .mv (.const (Go.Value.int Go.IntKind.i64 0))⟩])
  (.seq (.block 0 (.seq (.ops [⟨(some 8), none, .mv (.tmp 0)⟩,
      ⟨(some 9), none, .eq false .ptr (.tmp 8) (.const (Go.Value.pointer none))⟩,
      ⟨(some 10), none, .mv (.tmp 9)⟩,
      ⟨(some 11), (some (10, false)), .mv (.tmp 1)⟩,
      ⟨(some 12), (some (10, false)), .bin .lss 3 (.tmp 11) (.const (Go.Value.int Go.IntKind.i64 0))⟩,
      ⟨(some 13), none, .pick (.tmp 10) (.const (Go.Value.bool true)) (.tmp 12)⟩,
      ⟨(some 14), none, .mv (.tmp 13)⟩,
      ⟨(some 15), (some (14, false)), .mv (.tmp 1)⟩,
      ⟨(some 16), (some (14, false)), .mv (.tmp 2)⟩,
      ⟨(some 17), (some (14, false)), .bin .gtr 3 (.tmp 15) (.tmp 16)⟩,
      ⟨(some 18), none, .pick (.tmp 14) (.const (Go.Value.bool true)) (.tmp 17)⟩,
      ⟨(some 7), none, .mv (.tmp 18)⟩])
    (.cond (.tmp 7)
      (.seq (.ops [⟨(some 6), none, .mv (.const (Go.Value.int Go.IntKind.i64 0))⟩])
      (.ret))
      (.seq (.ops [⟨(some 20), none, .mv (.tmp 1)⟩,
        ⟨(some 21), none, .mv (.tmp 0)⟩,
        ⟨(some 22), none, .call 55 [(.tmp 21), (.const (Go.Value.int Go.IntKind.i64 0))]⟩,
        ⟨(some 23), none, .bin .geq 3 (.tmp 20) (.tmp 22)⟩,
        ⟨(some 19), none, .mv (.tmp 23)⟩])
      (.cond (.tmp 19)
        (.seq (.ops [⟨(some 6), none, .mv (.const (Go.Value.int Go.IntKind.i64 1))⟩])
        (.ret))
        (.seq (.ops [⟨(some 25), none, .mv (.tmp 1)⟩,
          ⟨(some 26), none, .mv (.tmp 0)⟩,
          ⟨(some 27), none, .call 55 [(.tmp 26), (.const (Go.Value.int Go.IntKind.i64 1))]⟩,
          ⟨(some 28), none, .bin .geq 3 (.tmp 25) (.tmp 27)⟩,
          ⟨(some 24), none, .mv (.tmp 28)⟩])
        (.cond (.tmp 24)
          (.seq (.ops [⟨(some 6), none, .mv (.const (Go.Value.int Go.IntKind.i64 2))⟩])
          (.ret))
          (.seq (.ops [⟨(some 30), none, .mv (.tmp 1)⟩,
            ⟨(some 31), none, .mv (.tmp 0)⟩,
            ⟨(some 32), none, .call 55 [(.tmp 31), (.const (Go.Value.int Go.IntKind.i64 3))]⟩,
            ⟨(some 33), none, .bin .geq 3 (.tmp 30) (.tmp 32)⟩,
            ⟨(some 29), none, .mv (.tmp 33)⟩])
          (.cond (.tmp 29)
            (.seq (.ops [⟨(some 6), none, .mv (.const (Go.Value.int Go.IntKind.i64 3))⟩])
            (.ret))
            (.skip))))))))))
  (.seq (.ops [⟨(some 6), none, .mv (.const (Go.Value.int Go.IntKind.i64 4))⟩])
  (.ret)))
theorem is_marks_Set_Region : FnIs Try.prog F.marks_Set_Region X.marks_Set_Region 34 [.tmp 6] := ⟨by kernel_rfl⟩

/-- haycroft/haycroftlaw13.awake: function 34 -/
abbrev F.law13_awake : FuncId := 34
def X.law13_awake : X :=
  .seq (.ops [⟨(some 0), none, .mv (.const (Go.Value.bool false))⟩])
  (.seq (.ops [⟨(some 2), none, .call 35 []⟩,
    ⟨(some 1), none, .mv (.tmp 2)⟩])
  (.seq (.ops [⟨(some 3), none, .mv (.tmp 1)⟩,
    ⟨(some 4), none, .call 38 [(.tmp 3), (.const (Go.Value.int Go.IntKind.i64 0)), (.const (Go.Value.int Go.IntKind.i64 2)), (.const (Go.Value.int Go.IntKind.i64 3))]⟩,
    ⟨(some 5), none, .bin .eql 26 (.tmp 4) (.const (Go.Value.int Go.IntKind.i64 0))⟩,
    ⟨(some 6), none, .mv (.tmp 5)⟩,
    ⟨(some 7), (some (6, true)), .mv (.tmp 1)⟩,
    ⟨(some 8), (some (6, true)), .call 37 [(.tmp 7), (.const (Go.Value.int Go.IntKind.i64 1)), (.const (Go.Value.int Go.IntKind.i64 3))]⟩,
    ⟨(some 9), (some (6, true)), .bin .eql 3 (.tmp 8) (.const (Go.Value.int Go.IntKind.i64 2))⟩,
    ⟨(some 10), none, .pick (.tmp 6) (.tmp 9) (.const (Go.Value.bool false))⟩,
    ⟨(some 11), none, .mv (.tmp 10)⟩,
    ⟨(some 12), (some (11, true)), .mv (.tmp 1)⟩,
    ⟨(some 13), (some (11, true)), .call 37 [(.tmp 12), (.const (Go.Value.int Go.IntKind.i64 2)), (.const (Go.Value.int Go.IntKind.i64 3))]⟩,
    ⟨(some 14), (some (11, true)), .bin .eql 3 (.tmp 13) (.const (Go.Value.int Go.IntKind.i64 1))⟩,
    ⟨(some 15), none, .pick (.tmp 11) (.tmp 14) (.const (Go.Value.bool false))⟩,
    ⟨(some 0), none, .mv (.tmp 15)⟩])
  (.ret)))
theorem is_law13_awake : FnIs Try.prog F.law13_awake X.law13_awake 16 [.tmp 0] := ⟨by kernel_rfl⟩

-- loop (inner ones first): [0, 3, 7]
/-- (*haycroft/marks.Set).All: function 36 -/
abbrev F.marks_Set_All : FuncId := 36
def X.marks_Set_All : X :=
  .seq (.ops [⟨(some 2), none, .mv (.const (Go.Value.slice none 0 0))⟩])
  (.seq (.seq (.ops [⟨(some 5), none, .mv (.tmp 0)⟩,
    ⟨(some 6), none, .eq false .ptr (.tmp 5) (.const (Go.Value.pointer none))⟩])
  (.cond (.tmp 6)
    (.seq (.ops [⟨(some 2), none, .mv (.const (Go.Value.slice none 0 0))⟩])
    (.ret))
    (.skip)))
  (.seq (.ops [⟨(some 3), none, .mv (.const (Go.Value.slice none 0 0))⟩])
  (.seq (.seq (.ops [⟨(some 7), none, .mv (.const (Go.Value.int Go.IntKind.i64 0))⟩])
  (.block 0 (.loop (.seq (.ops [⟨(some 8), none, .bin .lss 3 (.tmp 7) (.const (Go.Value.int Go.IntKind.i64 5))⟩])
      (.seq (.cond (.tmp 8)
        (.skip)
        (.exit 0))
      (.seq (.block 1 (.seq (.ops [⟨(some 9), none, .mv (.tmp 7)⟩,
          ⟨(some 4), none, .mv (.tmp 9)⟩])
        (.ops [⟨(some 10), none, .mv (.tmp 3)⟩,
          ⟨(some 11), none, .mv (.tmp 0)⟩,
          ⟨(some 12), none, .mv (.tmp 4)⟩,
          ⟨(some 13), none, .call 55 [(.tmp 11), (.tmp 12)]⟩,
          ⟨(some 14), none, .bsl 3 1 1 [(Go.Value.int Go.IntKind.i64 0)] [(0, (.tmp 13))]⟩,
          ⟨(some 15), none, .app 3 1 8 [(Go.Value.int Go.IntKind.i64 0)] (.tmp 10) (.tmp 14)⟩,
          ⟨(some 3), none, .mv (.tmp 15)⟩])))
      (.ops [⟨(some 16), none, .bin .add 3 (.tmp 7) (.const (Go.Value.int Go.IntKind.i64 1))⟩,
        ⟨(some 7), none, .mv (.tmp 16)⟩])))))))
  (.seq (.ops [⟨(some 17), none, .mv (.tmp 3)⟩,
    ⟨(some 2), none, .mv (.tmp 17)⟩])
  (.ret)))))
theorem is_marks_Set_All : FnIs Try.prog F.marks_Set_All X.marks_Set_All 18 [.tmp 2] := ⟨by kernel_rfl⟩

-- loop (inner ones first): [0, 1, 5, 6, 7, 8, 9, 10, 11]
-- loop (inner ones first): [0, 1, 5, 6, 7, 8, 9]
/-- haycroft/haycroftlaw13.MarksRise: function 7 -/
abbrev F.law13_MarksRise : FuncId := 7
def X.law13_MarksRise : X :=
  .seq (.ops [⟨(some 4), none, .mv (.const (Go.Value.bool false))⟩])
  (.seq (.seq (.ops [⟨(some 13), none, .call 34 []⟩,
    ⟨(some 14), none, .un .not (.tmp 13)⟩])
  (.cond (.tmp 14)
    (.seq (.ops [⟨(some 4), none, .mv (.const (Go.Value.bool false))⟩])
    (.ret))
    (.skip)))
  (.seq (.ops [⟨(some 15), none, .call 35 []⟩,
    ⟨(some 5), none, .mv (.tmp 15)⟩])
  (.seq (.ops [⟨(some 6), none, .mv (.const (Go.Value.int Go.IntKind.i64 0))⟩])
  (.seq (.ops [⟨(some 16), none, .mv (.tmp 5)⟩,
    ⟨(some 17), none, .call 36 [(.tmp 16)]⟩,
    ⟨(some 7), none, .mv (.tmp 17)⟩])
  (.seq (.ops [⟨(some 18), none, .mv (.tmp 5)⟩,
    ⟨(some 19), none, .mv (.tmp 1)⟩,
    ⟨(some 20), none, .conv Go.IntKind.i64 (.tmp 19)⟩,
    ⟨(some 21), none, .mv (.tmp 6)⟩,
    ⟨(some 22), none, .call 37 [(.tmp 18), (.tmp 20), (.tmp 21)]⟩,
    ⟨(some 8), none, .mv (.tmp 22)⟩])
  (.seq (.seq (.ops [⟨(some 9), none, .mv (.const (Go.Value.int Go.IntKind.i64 0))⟩])
  (.block 0 (.loop (.seq (.seq (.ops [⟨(some 23), none, .mv (.tmp 9)⟩,
        ⟨(some 24), none, .mv (.tmp 0)⟩,
        ⟨(some 25), none, .lenS (.tmp 24)⟩,
        ⟨(some 26), none, .bin .lss 3 (.tmp 23) (.tmp 25)⟩,
        ⟨(some 27), none, .mv (.tmp 26)⟩,
        ⟨(some 28), (some (27, true)), .mv (.tmp 9)⟩,
        ⟨(some 29), (some (27, true)), .bin .lss 3 (.tmp 28) (.const (Go.Value.int Go.IntKind.i64 150))⟩,
        ⟨(some 30), none, .pick (.tmp 27) (.tmp 29) (.const (Go.Value.bool false))⟩])
      (.cond (.tmp 30)
        (.skip)
        (.exit 0)))
      (.seq (.block 1 (.seq (.ops [⟨(some 33), none, .mv (.tmp 6)⟩,
          ⟨(some 34), none, .mv (.tmp 0)⟩,
          ⟨(some 35), none, .mv (.tmp 9)⟩,
          ⟨(some 36), none, .idx (.tmp 34) (.tmp 35) 4⟩,
          ⟨(some 37), none, .fld (.tmp 36) 3⟩,
          ⟨(some 38), none, .ld (.tmp 37) none⟩,
          ⟨(some 39), none, .conv Go.IntKind.i64 (.tmp 38)⟩,
          ⟨(some 40), none, .bin .add 3 (.tmp 33) (.tmp 39)⟩,
          ⟨(some 6), none, .mv (.tmp 40)⟩])
        (.seq (.drawn [(0, ⟨(some 41), none, .mv (.tmp 5)⟩),
          (1, ⟨(some 42), none, .mv (.tmp 0)⟩),
          (2, ⟨(some 43), none, .mv (.tmp 9)⟩),
          (3, ⟨(some 44), none, .idx (.tmp 42) (.tmp 43) 4⟩),
          (4, ⟨(some 45), none, .fld (.tmp 44) 1⟩),
          (5, ⟨(some 46), none, .ld (.tmp 45) none⟩),
          (6, ⟨(some 47), none, .mv (.tmp 0)⟩),
          (7, ⟨(some 48), none, .mv (.tmp 9)⟩),
          (8, ⟨(some 49), none, .idx (.tmp 47) (.tmp 48) 4⟩),
          (9, ⟨(some 50), none, .fld (.tmp 49) 2⟩),
          (10, ⟨(some 51), none, .ld (.tmp 50) none⟩),
          (11, ⟨(some 52), none, .mv (.tmp 6)⟩),
          (12, ⟨(some 53), none, .call 38 [(.tmp 41), (.tmp 46), (.tmp 51), (.tmp 52)]⟩)]
          [[], [], [], [1, 2], [3], [4], [], [], [6, 7], [8], [9], [], [0, 5, 10, 11]]
          [0, 0, 0, 6, 14, 30, 0, 0, 192, 448, 960, 0, 4095] 4096)
        (.seq (.ops [⟨(some 54), none, .mv (.tmp 5)⟩,
          ⟨(some 55), none, .call 36 [(.tmp 54)]⟩,
          ⟨(some 10), none, .mv (.tmp 55)⟩])
        (.seq (.seq (.ops [⟨(some 56), none, .mv (.tmp 10)⟩,
          ⟨(some 57), none, .lenS (.tmp 56)⟩,
          ⟨(some 58), none, .bin .neq 3 (.tmp 57) (.const (Go.Value.int Go.IntKind.i64 5))⟩,
          ⟨(some 59), none, .mv (.tmp 58)⟩,
          ⟨(some 60), (some (59, false)), .mv (.tmp 10)⟩,
          ⟨(some 61), (some (59, false)), .idx (.tmp 60) (.const (Go.Value.int Go.IntKind.i64 0)) 1⟩,
          ⟨(some 62), (some (59, false)), .ld (.tmp 61) none⟩,
          ⟨(some 63), (some (59, false)), .mv (.tmp 6)⟩,
          ⟨(some 64), (some (59, false)), .bin .gtr 3 (.tmp 62) (.tmp 63)⟩,
          ⟨(some 65), none, .pick (.tmp 59) (.const (Go.Value.bool true)) (.tmp 64)⟩])
        (.cond (.tmp 65)
          (.seq (.ops [⟨(some 4), none, .mv (.const (Go.Value.bool false))⟩])
          (.ret))
          (.skip)))
        (.seq (.seq (.ops [⟨(some 11), none, .mv (.const (Go.Value.int Go.IntKind.i64 0))⟩])
        (.block 2 (.loop (.seq (.seq (.ops [⟨(some 66), none, .mv (.tmp 11)⟩,
              ⟨(some 67), none, .bin .lss 3 (.tmp 66) (.const (Go.Value.int Go.IntKind.i64 5))⟩])
            (.cond (.tmp 67)
              (.skip)
              (.exit 2)))
            (.seq (.block 3 (.seq (.drawn [(0, ⟨(some 70), none, .mv (.tmp 10)⟩),
                (1, ⟨(some 71), none, .mv (.tmp 11)⟩),
                (2, ⟨(some 72), none, .idx (.tmp 70) (.tmp 71) 1⟩),
                (3, ⟨(some 73), none, .ld (.tmp 72) none⟩),
                (4, ⟨(some 74), none, .mv (.tmp 7)⟩),
                (5, ⟨(some 75), none, .mv (.tmp 11)⟩),
                (6, ⟨(some 76), none, .idx (.tmp 74) (.tmp 75) 1⟩),
                (7, ⟨(some 77), none, .ld (.tmp 76) none⟩),
                (8, ⟨(some 78), none, .bin .lss 3 (.tmp 73) (.tmp 77)⟩),
                (9, ⟨(some 79), none, .mv (.tmp 78)⟩),
                (10, ⟨(some 80), (some (79, false)), .mv (.tmp 11)⟩),
                (11, ⟨(some 81), (some (79, false)), .bin .gtr 3 (.tmp 80) (.const (Go.Value.int Go.IntKind.i64 0))⟩),
                (12, ⟨(some 82), (some (79, false)), .mv (.tmp 81)⟩),
                (13, ⟨(some 83), (some (82, true)), .mv (.tmp 10)⟩),
                (14, ⟨(some 84), (some (82, true)), .mv (.tmp 11)⟩),
                (15, ⟨(some 85), (some (82, true)), .idx (.tmp 83) (.tmp 84) 1⟩),
                (16, ⟨(some 86), (some (82, true)), .ld (.tmp 85) none⟩),
                (17, ⟨(some 87), (some (82, true)), .mv (.tmp 10)⟩),
                (18, ⟨(some 88), (some (82, true)), .mv (.tmp 11)⟩),
                (19, ⟨(some 89), (some (82, true)), .bin .sub 3 (.tmp 88) (.const (Go.Value.int Go.IntKind.i64 1))⟩),
                (20, ⟨(some 90), (some (82, true)), .idx (.tmp 87) (.tmp 89) 1⟩),
                (21, ⟨(some 91), (some (82, true)), .ld (.tmp 90) none⟩),
                (22, ⟨(some 92), (some (82, true)), .bin .gtr 3 (.tmp 86) (.tmp 91)⟩),
                (23, ⟨(some 93), (some (79, false)), .pick (.tmp 82) (.tmp 92) (.const (Go.Value.bool false))⟩),
                (24, ⟨(some 94), none, .pick (.tmp 79) (.const (Go.Value.bool true)) (.tmp 93)⟩)]
                [[], [], [0, 1], [2], [], [], [4, 5], [6], [3, 7], [8], [9], [10, 9], [11, 9, 9], [12], [12], [13, 14, 12], [15, 12], [12], [12], [18, 12], [17, 19, 12], [20, 12], [16, 21, 12], [12, 22, 9], [9, 23]]
                [0, 0, 3, 7, 0, 0, 48, 112, 255, 511, 1023, 2047, 4095, 8191, 8191, 32767, 65535, 8191, 8191, 270335, 925695, 1974271, 4194303, 8388607, 16777215] 0)
              (.cond (.tmp 94)
                (.seq (.ops [⟨(some 4), none, .mv (.const (Go.Value.bool false))⟩])
                (.ret))
                (.skip))))
            (.ops [⟨(some 68), none, .mv (.tmp 11)⟩,
              ⟨(some 69), none, .bin .add 3 (.tmp 68) (.const (Go.Value.int Go.IntKind.i64 1))⟩,
              ⟨(some 11), none, .mv (.tmp 69)⟩]))))))
        (.seq (.ops [⟨(some 95), none, .mv (.tmp 5)⟩,
          ⟨(some 96), none, .mv (.tmp 1)⟩,
          ⟨(some 97), none, .conv Go.IntKind.i64 (.tmp 96)⟩,
          ⟨(some 98), none, .mv (.tmp 6)⟩,
          ⟨(some 99), none, .call 37 [(.tmp 95), (.tmp 97), (.tmp 98)]⟩,
          ⟨(some 12), none, .mv (.tmp 99)⟩])
        (.seq (.seq (.ops [⟨(some 100), none, .mv (.tmp 12)⟩,
          ⟨(some 101), none, .mv (.tmp 8)⟩,
          ⟨(some 102), none, .bin .lss 3 (.tmp 100) (.tmp 101)⟩])
        (.cond (.tmp 102)
          (.seq (.ops [⟨(some 4), none, .mv (.const (Go.Value.bool false))⟩])
          (.ret))
          (.skip)))
        (.seq (.ops [⟨(some 103), none, .mv (.tmp 10)⟩,
          ⟨(some 7), none, .mv (.tmp 103)⟩])
        (.ops [⟨(some 104), none, .mv (.tmp 12)⟩,
          ⟨(some 8), none, .mv (.tmp 104)⟩]))))))))))
      (.ops [⟨(some 31), none, .mv (.tmp 9)⟩,
        ⟨(some 32), none, .bin .add 3 (.tmp 31) (.const (Go.Value.int Go.IntKind.i64 1))⟩,
        ⟨(some 9), none, .mv (.tmp 32)⟩]))))))
  (.seq (.ops [⟨(some 4), none, .mv (.const (Go.Value.bool true))⟩])
  (.ret))))))))
theorem is_law13_MarksRise : FnIs Try.prog F.law13_MarksRise X.law13_MarksRise 105 [.tmp 4] := ⟨by kernel_rfl⟩

/-- haycroft/haycroftref08.Lock: function 39 -/
abbrev F.ref08_Lock : FuncId := 39
def X.ref08_Lock : X :=
  .seq (.ops [⟨(some 2), none, .mv (.const (Go.Value.bool false))⟩,
    ⟨(some 3), none, .mv (.const (Go.Value.bool false))⟩,
    ⟨(some 4), none, .mv (.const (Go.Value.int Go.IntKind.u64 0))⟩])
  (.seq (.ops [⟨(some 5), none, .mv (.tmp 0)⟩,
    ⟨(some 6), none, .bin .rem 22 (.tmp 5) (.const (Go.Value.int Go.IntKind.u64 9223372036854775808))⟩,
    ⟨(some 7), none, .bin .quo 22 (.tmp 6) (.const (Go.Value.int Go.IntKind.u64 4294967296))⟩,
    ⟨(some 8), none, .bin .eql 22 (.tmp 7) (.const (Go.Value.int Go.IntKind.u64 0))⟩,
    ⟨(some 9), none, .mv (.tmp 0)⟩,
    ⟨(some 10), none, .bin .geq 22 (.tmp 9) (.const (Go.Value.int Go.IntKind.u64 9223372036854775808))⟩,
    ⟨(some 11), none, .mv (.tmp 0)⟩,
    ⟨(some 12), none, .bin .rem 22 (.tmp 11) (.const (Go.Value.int Go.IntKind.u64 4294967296))⟩,
    ⟨(some 2), none, .mv (.tmp 8)⟩,
    ⟨(some 3), none, .mv (.tmp 10)⟩,
    ⟨(some 4), none, .mv (.tmp 12)⟩])
  (.ret))
theorem is_ref08_Lock : FnIs Try.prog F.ref08_Lock X.ref08_Lock 13 [.tmp 2, .tmp 3, .tmp 4] := ⟨by kernel_rfl⟩

/-- haycroft/header.lock: function 73 -/
abbrev F.header_lock : FuncId := 73
def X.header_lock : X :=
  .seq (.ops [⟨(some 2), none, .mv (.const (Go.Value.bool false))⟩])
  (.seq (.ops [⟨(some 3), none, .mv (.tmp 0)⟩,
    ⟨(some 4), none, .call 67 [(.tmp 3), (.const (Go.Value.int Go.IntKind.i64 32)), (.const (Go.Value.int Go.IntKind.i64 31))]⟩,
    ⟨(some 5), none, .bin .eql 22 (.tmp 4) (.const (Go.Value.int Go.IntKind.u64 0))⟩,
    ⟨(some 2), none, .mv (.tmp 5)⟩])
  (.ret))
theorem is_header_lock : FnIs Try.prog F.header_lock X.header_lock 6 [.tmp 2] := ⟨by kernel_rfl⟩

/-- haycroft/header.Locked: function 42 -/
abbrev F.header_Locked : FuncId := 42
def X.header_Locked : X :=
  .seq (.ops [⟨(some 2), none, .mv (.const (Go.Value.bool false))⟩])
  (.seq (.ops [⟨(some 3), none, .mv (.tmp 0)⟩,
    ⟨(some 4), none, .call 68 [(.tmp 3), (.const (Go.Value.int Go.IntKind.i64 63))]⟩,
    ⟨(some 2), none, .mv (.tmp 4)⟩])
  (.ret))
theorem is_header_Locked : FnIs Try.prog F.header_Locked X.header_Locked 5 [.tmp 2] := ⟨by kernel_rfl⟩

/-- haycroft/header.Lock: function 40 -/
abbrev F.header_Lock : FuncId := 40
def X.header_Lock : X :=
  .seq (.ops [⟨(some 2), none, .mv (.const (Go.Value.int Go.IntKind.u64 0))⟩,
    ⟨(some 3), none, .mv (.const (Go.Value.int Go.IntKind.i64 0))⟩])
  (.seq (.block 0 (.seq (.ops [⟨(some 5), none, .mv (.tmp 0)⟩,
      ⟨(some 6), none, .call 73 [(.tmp 5)]⟩,
      ⟨(some 7), none, .un .not (.tmp 6)⟩,
      ⟨(some 4), none, .mv (.tmp 7)⟩])
    (.cond (.tmp 4)
      (.seq (.ops [⟨(some 2), none, .mv (.const (Go.Value.int Go.IntKind.u64 0))⟩,
        ⟨(some 3), none, .mv (.const (Go.Value.int Go.IntKind.i64 4))⟩])
      (.ret))
      (.seq (.ops [⟨(some 9), none, .mv (.tmp 0)⟩,
        ⟨(some 10), none, .call 42 [(.tmp 9)]⟩,
        ⟨(some 8), none, .mv (.tmp 10)⟩])
      (.cond (.tmp 8)
        (.seq (.ops [⟨(some 2), none, .mv (.const (Go.Value.int Go.IntKind.u64 0))⟩,
          ⟨(some 3), none, .mv (.const (Go.Value.int Go.IntKind.i64 10))⟩])
        (.ret))
        (.skip))))))
  (.seq (.ops [⟨(some 11), none, .mv (.tmp 0)⟩,
    ⟨(some 12), none, .call 70 [(.tmp 11), (.const (Go.Value.int Go.IntKind.i64 63)), (.const (Go.Value.bool true))]⟩,
    ⟨(some 2), none, .mv (.tmp 12)⟩,
    ⟨(some 3), none, .mv (.const (Go.Value.int Go.IntKind.i64 0))⟩])
  (.ret)))
theorem is_header_Lock : FnIs Try.prog F.header_Lock X.header_Lock 13 [.tmp 2, .tmp 3] := ⟨by kernel_rfl⟩

/-- haycroft/header.Count: function 43 -/
abbrev F.header_Count : FuncId := 43
def X.header_Count : X :=
  .seq (.ops [⟨(some 2), none, .mv (.const (Go.Value.int Go.IntKind.u64 0))⟩])
  (.seq (.ops [⟨(some 3), none, .mv (.tmp 0)⟩,
    ⟨(some 4), none, .call 67 [(.tmp 3), (.const (Go.Value.int Go.IntKind.i64 0)), (.const (Go.Value.int Go.IntKind.i64 32))]⟩,
    ⟨(some 2), none, .mv (.tmp 4)⟩])
  (.ret))
theorem is_header_Count : FnIs Try.prog F.header_Count X.header_Count 5 [.tmp 2] := ⟨by kernel_rfl⟩

/-- haycroft/header.Unlock: function 41 -/
abbrev F.header_Unlock : FuncId := 41
def X.header_Unlock : X :=
  .seq (.ops [⟨(some 2), none, .mv (.const (Go.Value.int Go.IntKind.u64 0))⟩,
    ⟨(some 3), none, .mv (.const (Go.Value.int Go.IntKind.i64 0))⟩])
  (.seq (.block 0 (.seq (.ops [⟨(some 5), none, .mv (.tmp 0)⟩,
      ⟨(some 6), none, .call 73 [(.tmp 5)]⟩,
      ⟨(some 7), none, .un .not (.tmp 6)⟩,
      ⟨(some 4), none, .mv (.tmp 7)⟩])
    (.cond (.tmp 4)
      (.seq (.ops [⟨(some 2), none, .mv (.const (Go.Value.int Go.IntKind.u64 0))⟩,
        ⟨(some 3), none, .mv (.const (Go.Value.int Go.IntKind.i64 4))⟩])
      (.ret))
      (.seq (.ops [⟨(some 9), none, .mv (.tmp 0)⟩,
        ⟨(some 10), none, .call 42 [(.tmp 9)]⟩,
        ⟨(some 11), none, .un .not (.tmp 10)⟩,
        ⟨(some 8), none, .mv (.tmp 11)⟩])
      (.cond (.tmp 8)
        (.seq (.ops [⟨(some 2), none, .mv (.const (Go.Value.int Go.IntKind.u64 0))⟩,
          ⟨(some 3), none, .mv (.const (Go.Value.int Go.IntKind.i64 7))⟩])
        (.ret))
        (.skip))))))
  (.seq (.ops [⟨(some 12), none, .mv (.tmp 0)⟩,
    ⟨(some 13), none, .call 43 [(.tmp 12)]⟩,
    ⟨(some 14), none, .bin .add 22 (.tmp 13) (.const (Go.Value.int Go.IntKind.u64 1))⟩,
    ⟨(some 15), none, .call 66 [(.const (Go.Value.int Go.IntKind.i64 32))]⟩,
    ⟨(some 16), none, .bin .and 22 (.tmp 14) (.tmp 15)⟩,
    ⟨(some 2), none, .mv (.tmp 16)⟩,
    ⟨(some 3), none, .mv (.const (Go.Value.int Go.IntKind.i64 0))⟩])
  (.ret)))
theorem is_header_Unlock : FnIs Try.prog F.header_Unlock X.header_Unlock 17 [.tmp 2, .tmp 3] := ⟨by kernel_rfl⟩

/-- haycroft/haycroftlaw08.HeaderLocks: function 8 -/
abbrev F.law08_HeaderLocks : FuncId := 8
def X.law08_HeaderLocks : X :=
  .seq (.ops [⟨(some 2), none, .mv (.const (Go.Value.bool false))⟩])
  (.seq (.seq (.ops [⟨(some 10), none, .call 19 []⟩,
    ⟨(some 11), none, .un .not (.tmp 10)⟩])
  (.cond (.tmp 11)
    (.seq (.ops [⟨(some 2), none, .mv (.const (Go.Value.bool false))⟩])
    (.ret))
    (.skip)))
  (.seq (.ops [⟨(some 13), none, .mv (.tmp 0)⟩,
    ⟨(some 14), none, .call 39 [(.tmp 13)]⟩,
    ⟨(some 12), none, .mv (.tmp 14)⟩,
    ⟨(some 15), none, .ext (.tmp 12) 0⟩,
    ⟨(some 16), none, .ext (.tmp 12) 1⟩,
    ⟨(some 17), none, .ext (.tmp 12) 2⟩,
    ⟨(some 3), none, .mv (.tmp 15)⟩,
    ⟨(some 4), none, .mv (.tmp 16)⟩,
    ⟨(some 5), none, .mv (.tmp 17)⟩])
  (.seq (.ops [⟨(some 19), none, .mv (.tmp 0)⟩,
    ⟨(some 20), none, .call 40 [(.tmp 19)]⟩,
    ⟨(some 18), none, .mv (.tmp 20)⟩,
    ⟨(some 21), none, .ext (.tmp 18) 0⟩,
    ⟨(some 22), none, .ext (.tmp 18) 1⟩,
    ⟨(some 6), none, .mv (.tmp 21)⟩,
    ⟨(some 7), none, .mv (.tmp 22)⟩])
  (.seq (.ops [⟨(some 24), none, .mv (.tmp 0)⟩,
    ⟨(some 25), none, .call 41 [(.tmp 24)]⟩,
    ⟨(some 23), none, .mv (.tmp 25)⟩,
    ⟨(some 26), none, .ext (.tmp 23) 0⟩,
    ⟨(some 27), none, .ext (.tmp 23) 1⟩,
    ⟨(some 8), none, .mv (.tmp 26)⟩,
    ⟨(some 9), none, .mv (.tmp 27)⟩])
  (.seq (.seq (.ops [⟨(some 28), none, .mv (.tmp 0)⟩,
    ⟨(some 29), none, .call 42 [(.tmp 28)]⟩,
    ⟨(some 30), none, .mv (.tmp 4)⟩,
    ⟨(some 31), none, .eq true .bool (.tmp 29) (.tmp 30)⟩,
    ⟨(some 32), none, .mv (.tmp 31)⟩,
    ⟨(some 33), (some (32, false)), .mv (.tmp 0)⟩,
    ⟨(some 34), (some (32, false)), .call 43 [(.tmp 33)]⟩,
    ⟨(some 35), (some (32, false)), .mv (.tmp 5)⟩,
    ⟨(some 36), (some (32, false)), .bin .neq 22 (.tmp 34) (.tmp 35)⟩,
    ⟨(some 37), none, .pick (.tmp 32) (.const (Go.Value.bool true)) (.tmp 36)⟩])
  (.cond (.tmp 37)
    (.seq (.ops [⟨(some 2), none, .mv (.const (Go.Value.bool false))⟩])
    (.ret))
    (.skip)))
  (.seq (.seq (.ops [⟨(some 38), none, .mv (.tmp 3)⟩,
    ⟨(some 39), none, .un .not (.tmp 38)⟩])
  (.cond (.tmp 39)
    (.seq (.ops [⟨(some 40), none, .mv (.tmp 6)⟩,
      ⟨(some 41), none, .bin .eql 22 (.tmp 40) (.const (Go.Value.int Go.IntKind.u64 0))⟩,
      ⟨(some 42), none, .mv (.tmp 41)⟩,
      ⟨(some 43), (some (42, true)), .mv (.tmp 7)⟩,
      ⟨(some 44), (some (42, true)), .bin .eql 26 (.tmp 43) (.const (Go.Value.int Go.IntKind.i64 4))⟩,
      ⟨(some 45), none, .pick (.tmp 42) (.tmp 44) (.const (Go.Value.bool false))⟩,
      ⟨(some 46), none, .mv (.tmp 45)⟩,
      ⟨(some 47), (some (46, true)), .mv (.tmp 8)⟩,
      ⟨(some 48), (some (46, true)), .bin .eql 22 (.tmp 47) (.const (Go.Value.int Go.IntKind.u64 0))⟩,
      ⟨(some 49), none, .pick (.tmp 46) (.tmp 48) (.const (Go.Value.bool false))⟩,
      ⟨(some 50), none, .mv (.tmp 49)⟩,
      ⟨(some 51), (some (50, true)), .mv (.tmp 9)⟩,
      ⟨(some 52), (some (50, true)), .bin .eql 26 (.tmp 51) (.const (Go.Value.int Go.IntKind.i64 4))⟩,
      ⟨(some 53), none, .pick (.tmp 50) (.tmp 52) (.const (Go.Value.bool false))⟩,
      ⟨(some 2), none, .mv (.tmp 53)⟩])
    (.ret))
    (.skip)))
  (.seq (.seq (.ops [⟨(some 54), none, .mv (.tmp 4)⟩])
  (.cond (.tmp 54)
    (.seq (.ops [⟨(some 55), none, .mv (.tmp 6)⟩,
      ⟨(some 56), none, .bin .eql 22 (.tmp 55) (.const (Go.Value.int Go.IntKind.u64 0))⟩,
      ⟨(some 57), none, .mv (.tmp 56)⟩,
      ⟨(some 58), (some (57, true)), .mv (.tmp 7)⟩,
      ⟨(some 59), (some (57, true)), .bin .eql 26 (.tmp 58) (.const (Go.Value.int Go.IntKind.i64 10))⟩,
      ⟨(some 60), none, .pick (.tmp 57) (.tmp 59) (.const (Go.Value.bool false))⟩,
      ⟨(some 61), none, .mv (.tmp 60)⟩,
      ⟨(some 62), (some (61, true)), .mv (.tmp 8)⟩,
      ⟨(some 63), (some (61, true)), .mv (.tmp 5)⟩,
      ⟨(some 64), (some (61, true)), .bin .add 22 (.tmp 63) (.const (Go.Value.int Go.IntKind.u64 1))⟩,
      ⟨(some 65), (some (61, true)), .bin .rem 22 (.tmp 64) (.const (Go.Value.int Go.IntKind.u64 4294967296))⟩,
      ⟨(some 66), (some (61, true)), .bin .eql 22 (.tmp 62) (.tmp 65)⟩,
      ⟨(some 67), none, .pick (.tmp 61) (.tmp 66) (.const (Go.Value.bool false))⟩,
      ⟨(some 68), none, .mv (.tmp 67)⟩,
      ⟨(some 69), (some (68, true)), .mv (.tmp 9)⟩,
      ⟨(some 70), (some (68, true)), .bin .eql 26 (.tmp 69) (.const (Go.Value.int Go.IntKind.i64 0))⟩,
      ⟨(some 71), none, .pick (.tmp 68) (.tmp 70) (.const (Go.Value.bool false))⟩,
      ⟨(some 2), none, .mv (.tmp 71)⟩])
    (.ret))
    (.skip)))
  (.seq (.ops [⟨(some 72), none, .mv (.tmp 6)⟩,
    ⟨(some 73), none, .mv (.tmp 0)⟩,
    ⟨(some 74), none, .bin .add 22 (.tmp 73) (.const (Go.Value.int Go.IntKind.u64 9223372036854775808))⟩,
    ⟨(some 75), none, .bin .eql 22 (.tmp 72) (.tmp 74)⟩,
    ⟨(some 76), none, .mv (.tmp 75)⟩,
    ⟨(some 77), (some (76, true)), .mv (.tmp 7)⟩,
    ⟨(some 78), (some (76, true)), .bin .eql 26 (.tmp 77) (.const (Go.Value.int Go.IntKind.i64 0))⟩,
    ⟨(some 79), none, .pick (.tmp 76) (.tmp 78) (.const (Go.Value.bool false))⟩,
    ⟨(some 80), none, .mv (.tmp 79)⟩,
    ⟨(some 81), (some (80, true)), .mv (.tmp 8)⟩,
    ⟨(some 82), (some (80, true)), .bin .eql 22 (.tmp 81) (.const (Go.Value.int Go.IntKind.u64 0))⟩,
    ⟨(some 83), none, .pick (.tmp 80) (.tmp 82) (.const (Go.Value.bool false))⟩,
    ⟨(some 84), none, .mv (.tmp 83)⟩,
    ⟨(some 85), (some (84, true)), .mv (.tmp 9)⟩,
    ⟨(some 86), (some (84, true)), .bin .eql 26 (.tmp 85) (.const (Go.Value.int Go.IntKind.i64 7))⟩,
    ⟨(some 87), none, .pick (.tmp 84) (.tmp 86) (.const (Go.Value.bool false))⟩,
    ⟨(some 2), none, .mv (.tmp 87)⟩])
  (.ret)))))))))
theorem is_law08_HeaderLocks : FnIs Try.prog F.law08_HeaderLocks X.law08_HeaderLocks 88 [.tmp 2] := ⟨by kernel_rfl⟩

/-- haycroft/haycroftlaw08.HeaderTurns: function 9 -/
abbrev F.law08_HeaderTurns : FuncId := 9
def X.law08_HeaderTurns : X :=
  .seq (.ops [⟨(some 2), none, .mv (.const (Go.Value.bool false))⟩])
  (.seq (.seq (.ops [⟨(some 9), none, .call 19 []⟩,
    ⟨(some 10), none, .un .not (.tmp 9)⟩])
  (.cond (.tmp 10)
    (.seq (.ops [⟨(some 2), none, .mv (.const (Go.Value.bool false))⟩])
    (.ret))
    (.skip)))
  (.seq (.ops [⟨(some 12), none, .mv (.tmp 0)⟩,
    ⟨(some 13), none, .conv Go.IntKind.u64 (.tmp 12)⟩,
    ⟨(some 14), none, .call 40 [(.tmp 13)]⟩,
    ⟨(some 11), none, .mv (.tmp 14)⟩,
    ⟨(some 15), none, .ext (.tmp 11) 0⟩,
    ⟨(some 16), none, .ext (.tmp 11) 1⟩,
    ⟨(some 3), none, .mv (.tmp 15)⟩,
    ⟨(some 4), none, .mv (.tmp 16)⟩])
  (.seq (.ops [⟨(some 18), none, .mv (.tmp 3)⟩,
    ⟨(some 19), none, .call 40 [(.tmp 18)]⟩,
    ⟨(some 17), none, .mv (.tmp 19)⟩,
    ⟨(some 20), none, .ext (.tmp 17) 0⟩,
    ⟨(some 21), none, .ext (.tmp 17) 1⟩,
    ⟨(some 5), none, .mv (.tmp 20)⟩,
    ⟨(some 6), none, .mv (.tmp 21)⟩])
  (.seq (.ops [⟨(some 23), none, .mv (.tmp 3)⟩,
    ⟨(some 24), none, .call 41 [(.tmp 23)]⟩,
    ⟨(some 22), none, .mv (.tmp 24)⟩,
    ⟨(some 25), none, .ext (.tmp 22) 0⟩,
    ⟨(some 26), none, .ext (.tmp 22) 1⟩,
    ⟨(some 7), none, .mv (.tmp 25)⟩,
    ⟨(some 8), none, .mv (.tmp 26)⟩])
  (.seq (.ops [⟨(some 27), none, .mv (.tmp 4)⟩,
    ⟨(some 28), none, .bin .eql 26 (.tmp 27) (.const (Go.Value.int Go.IntKind.i64 0))⟩,
    ⟨(some 29), none, .mv (.tmp 28)⟩,
    ⟨(some 30), (some (29, true)), .mv (.tmp 6)⟩,
    ⟨(some 31), (some (29, true)), .bin .eql 26 (.tmp 30) (.const (Go.Value.int Go.IntKind.i64 10))⟩,
    ⟨(some 32), none, .pick (.tmp 29) (.tmp 31) (.const (Go.Value.bool false))⟩,
    ⟨(some 33), none, .mv (.tmp 32)⟩,
    ⟨(some 34), (some (33, true)), .mv (.tmp 8)⟩,
    ⟨(some 35), (some (33, true)), .bin .eql 26 (.tmp 34) (.const (Go.Value.int Go.IntKind.i64 0))⟩,
    ⟨(some 36), none, .pick (.tmp 33) (.tmp 35) (.const (Go.Value.bool false))⟩,
    ⟨(some 37), none, .mv (.tmp 36)⟩,
    ⟨(some 38), (some (37, true)), .mv (.tmp 7)⟩,
    ⟨(some 39), (some (37, true)), .call 42 [(.tmp 38)]⟩,
    ⟨(some 40), (some (37, true)), .un .not (.tmp 39)⟩,
    ⟨(some 41), none, .pick (.tmp 37) (.tmp 40) (.const (Go.Value.bool false))⟩,
    ⟨(some 42), none, .mv (.tmp 41)⟩,
    ⟨(some 43), (some (42, true)), .mv (.tmp 7)⟩,
    ⟨(some 44), (some (42, true)), .mv (.tmp 0)⟩,
    ⟨(some 45), (some (42, true)), .bin .add 67 (.tmp 44) (.const (Go.Value.int Go.IntKind.u32 1))⟩,
    ⟨(some 46), (some (42, true)), .conv Go.IntKind.u64 (.tmp 45)⟩,
    ⟨(some 47), (some (42, true)), .bin .eql 22 (.tmp 43) (.tmp 46)⟩,
    ⟨(some 48), none, .pick (.tmp 42) (.tmp 47) (.const (Go.Value.bool false))⟩,
    ⟨(some 2), none, .mv (.tmp 48)⟩])
  (.ret))))))
theorem is_law08_HeaderTurns : FnIs Try.prog F.law08_HeaderTurns X.law08_HeaderTurns 49 [.tmp 2] := ⟨by kernel_rfl⟩

/-- sync/atomic.AddUint64: function 84, without a body -/
abbrev F.atomic_AddUint64 : FuncId := 84
theorem ext_atomic_AddUint64 : ExtIs Try.prog F.atomic_AddUint64 Try.f84 (Extern.Atomic.update (Op.intArith .add) .u64 true) := ⟨Try.func84, by kernel_rfl, by kernel_rfl, by kernel_rfl, by kernel_rfl⟩

/-- (*sync/atomic.Uint64).Add: function 74 -/
abbrev F.atomic_Uint64_Add : FuncId := 74
def X.atomic_Uint64_Add : X :=
  .seq (.ops [⟨(some 4), none, .mv (.const (Go.Value.int Go.IntKind.u64 0))⟩])
  (.seq (.ops [⟨(some 5), none, .mv (.tmp 0)⟩,
    ⟨(some 6), none, .nilc (.tmp 5)⟩,
    ⟨(some 7), none, .fld (.tmp 6) 0⟩,
    ⟨(some 8), none, .mv (.tmp 1)⟩,
    ⟨(some 9), none, .ext1 84 [(.tmp 7), (.tmp 8)]⟩,
    ⟨(some 4), none, .mv (.tmp 9)⟩])
  (.ret))
theorem is_atomic_Uint64_Add : FnIs Try.prog F.atomic_Uint64_Add X.atomic_Uint64_Add 10 [.tmp 4] := ⟨by kernel_rfl⟩

/-- (*haycroft/cell.Row).Add: function 44 -/
abbrev F.cell_Row_Add : FuncId := 44
def X.cell_Row_Add : X :=
  .seq (.ops [⟨(some 6), none, .mv (.const (Go.Value.int Go.IntKind.u64 0))⟩,
    ⟨(some 7), none, .mv (.const (Go.Value.int Go.IntKind.i64 0))⟩])
  (.seq (.seq (.ops [⟨(some 9), none, .mv (.tmp 0)⟩,
    ⟨(some 10), none, .mv (.tmp 1)⟩,
    ⟨(some 11), none, .call 58 [(.tmp 9), (.tmp 10)]⟩,
    ⟨(some 8), none, .mv (.tmp 11)⟩])
  (.seq (.ops [⟨(some 12), none, .mv (.tmp 8)⟩,
    ⟨(some 13), none, .bin .neq 26 (.tmp 12) (.const (Go.Value.int Go.IntKind.i64 0))⟩])
  (.cond (.tmp 13)
    (.seq (.ops [⟨(some 14), none, .mv (.tmp 8)⟩,
      ⟨(some 6), none, .mv (.const (Go.Value.int Go.IntKind.u64 0))⟩,
      ⟨(some 7), none, .mv (.tmp 14)⟩])
    (.ret))
    (.skip))))
  (.seq (.ops [⟨(some 15), none, .mv (.tmp 0)⟩,
    ⟨(some 16), none, .nilc (.tmp 15)⟩,
    ⟨(some 17), none, .fld (.tmp 16) 0⟩,
    ⟨(some 18), none, .ld (.tmp 17) none⟩,
    ⟨(some 19), none, .mv (.tmp 1)⟩,
    ⟨(some 20), none, .idx (.tmp 18) (.tmp 19) 1⟩,
    ⟨(some 21), none, .mv (.tmp 2)⟩,
    ⟨(some 22), none, .call 74 [(.tmp 20), (.tmp 21)]⟩,
    ⟨(some 23), none, .mv (.tmp 2)⟩,
    ⟨(some 24), none, .bin .sub 22 (.tmp 22) (.tmp 23)⟩,
    ⟨(some 6), none, .mv (.tmp 24)⟩,
    ⟨(some 7), none, .mv (.const (Go.Value.int Go.IntKind.i64 0))⟩])
  (.ret)))
theorem is_cell_Row_Add : FnIs Try.prog F.cell_Row_Add X.cell_Row_Add 25 [.tmp 6, .tmp 7] := ⟨by kernel_rfl⟩

/-- (*haycroft/cell.Row).within: function 75 -/
abbrev F.cell_Row_within : FuncId := 75
def X.cell_Row_within : X :=
  .seq (.ops [⟨(some 6), none, .mv (.const (Go.Value.int Go.IntKind.i64 0))⟩])
  (.seq (.block 0 (.seq (.ops [⟨(some 8), none, .mv (.tmp 0)⟩,
      ⟨(some 9), none, .eq false .ptr (.tmp 8) (.const (Go.Value.pointer none))⟩,
      ⟨(some 7), none, .mv (.tmp 9)⟩])
    (.cond (.tmp 7)
      (.seq (.ops [⟨(some 6), none, .mv (.const (Go.Value.int Go.IntKind.i64 2))⟩])
      (.ret))
      (.seq (.seq (.ops [⟨(some 11), none, .mv (.tmp 2)⟩,
        ⟨(some 12), none, .bin .lss 3 (.tmp 11) (.const (Go.Value.int Go.IntKind.i64 0))⟩,
        ⟨(some 10), none, .mv (.tmp 12)⟩])
      (.cond (.tmp 10)
        (.skip)
        (.seq (.ops [⟨(some 13), none, .mv (.tmp 1)⟩,
          ⟨(some 14), none, .bin .lss 3 (.tmp 13) (.const (Go.Value.int Go.IntKind.i64 0))⟩,
          ⟨(some 10), none, .mv (.tmp 14)⟩])
        (.cond (.tmp 10)
          (.skip)
          (.seq (.ops [⟨(some 15), none, .mv (.tmp 2)⟩,
            ⟨(some 16), none, .mv (.tmp 0)⟩,
            ⟨(some 17), none, .call 47 [(.tmp 16)]⟩,
            ⟨(some 18), none, .bin .gtr 3 (.tmp 15) (.tmp 17)⟩,
            ⟨(some 10), none, .mv (.tmp 18)⟩])
          (.cond (.tmp 10)
            (.skip)
            (.ops [⟨(some 19), none, .mv (.tmp 1)⟩,
              ⟨(some 20), none, .mv (.tmp 0)⟩,
              ⟨(some 21), none, .call 47 [(.tmp 20)]⟩,
              ⟨(some 22), none, .mv (.tmp 2)⟩,
              ⟨(some 23), none, .bin .sub 3 (.tmp 21) (.tmp 22)⟩,
              ⟨(some 24), none, .bin .gtr 3 (.tmp 19) (.tmp 23)⟩,
              ⟨(some 10), none, .mv (.tmp 24)⟩])))))))
      (.cond (.tmp 10)
        (.seq (.ops [⟨(some 6), none, .mv (.const (Go.Value.int Go.IntKind.i64 1))⟩])
        (.ret))
        (.skip))))))
  (.seq (.ops [⟨(some 6), none, .mv (.const (Go.Value.int Go.IntKind.i64 0))⟩])
  (.ret)))
theorem is_cell_Row_within : FnIs Try.prog F.cell_Row_within X.cell_Row_within 25 [.tmp 6] := ⟨by kernel_rfl⟩

-- loop (inner ones first): [0, 1, 9, 21, 22]
/-- (*haycroft/cell.Row).Words: function 45 -/
abbrev F.cell_Row_Words : FuncId := 45
def X.cell_Row_Words : X :=
  .seq (.ops [⟨(some 6), none, .mv (.const (Go.Value.slice none 0 0))⟩,
    ⟨(some 7), none, .mv (.const (Go.Value.int Go.IntKind.i64 0))⟩])
  (.seq (.seq (.ops [⟨(some 11), none, .mv (.tmp 0)⟩,
    ⟨(some 12), none, .mv (.tmp 1)⟩,
    ⟨(some 13), none, .mv (.tmp 2)⟩,
    ⟨(some 14), none, .call 75 [(.tmp 11), (.tmp 12), (.tmp 13)]⟩,
    ⟨(some 8), none, .mv (.tmp 14)⟩])
  (.seq (.ops [⟨(some 15), none, .mv (.tmp 8)⟩,
    ⟨(some 16), none, .bin .neq 26 (.tmp 15) (.const (Go.Value.int Go.IntKind.i64 0))⟩])
  (.cond (.tmp 16)
    (.seq (.ops [⟨(some 17), none, .mv (.tmp 8)⟩,
      ⟨(some 6), none, .mv (.const (Go.Value.slice none 0 0))⟩,
      ⟨(some 7), none, .mv (.tmp 17)⟩])
    (.ret))
    (.skip))))
  (.seq (.ops [⟨(some 18), none, .mv (.tmp 2)⟩,
    ⟨(some 19), none, .mks 22 1 8 [(Go.Value.int Go.IntKind.u64 0)] (.tmp 18) (.tmp 18)⟩,
    ⟨(some 9), none, .mv (.tmp 19)⟩])
  (.seq (.seq (.ops [⟨(some 20), none, .mv (.tmp 9)⟩,
    ⟨(some 21), none, .lenS (.tmp 20)⟩,
    ⟨(some 22), none, .mv (.const (Go.Value.int Go.IntKind.i64 0))⟩])
  (.block 0 (.loop (.seq (.ops [⟨(some 23), none, .bin .lss 3 (.tmp 22) (.tmp 21)⟩])
      (.seq (.cond (.tmp 23)
        (.skip)
        (.exit 0))
      (.seq (.block 1 (.seq (.ops [⟨(some 24), none, .mv (.tmp 22)⟩,
          ⟨(some 10), none, .mv (.tmp 24)⟩])
        (.ops [⟨(some 25), none, .mv (.tmp 9)⟩,
          ⟨(some 26), none, .mv (.tmp 10)⟩,
          ⟨(some 27), none, .mv (.tmp 0)⟩,
          ⟨(some 28), none, .nilc (.tmp 27)⟩,
          ⟨(some 29), none, .fld (.tmp 28) 0⟩,
          ⟨(some 30), none, .ld (.tmp 29) none⟩,
          ⟨(some 31), none, .mv (.tmp 1)⟩,
          ⟨(some 32), none, .mv (.tmp 10)⟩,
          ⟨(some 33), none, .bin .add 3 (.tmp 31) (.tmp 32)⟩,
          ⟨(some 34), none, .idx (.tmp 30) (.tmp 33) 1⟩,
          ⟨(some 35), none, .call 63 [(.tmp 34)]⟩,
          ⟨(some 36), none, .idx (.tmp 25) (.tmp 26) 1⟩,
          ⟨none, none, .st (.tmp 36) (.tmp 35) 1⟩])))
      (.ops [⟨(some 37), none, .bin .add 3 (.tmp 22) (.const (Go.Value.int Go.IntKind.i64 1))⟩,
        ⟨(some 22), none, .mv (.tmp 37)⟩])))))))
  (.seq (.ops [⟨(some 38), none, .mv (.tmp 9)⟩,
    ⟨(some 6), none, .mv (.tmp 38)⟩,
    ⟨(some 7), none, .mv (.const (Go.Value.int Go.IntKind.i64 0))⟩])
  (.ret)))))
theorem is_cell_Row_Words : FnIs Try.prog F.cell_Row_Words X.cell_Row_Words 39 [.tmp 6, .tmp 7] := ⟨by kernel_rfl⟩

-- loop (inner ones first): [0, 1, 18, 19, 20]
/-- (*haycroft/cell.Row).Fill: function 48 -/
abbrev F.cell_Row_Fill : FuncId := 48
def X.cell_Row_Fill : X :=
  .seq (.ops [⟨(some 6), none, .mv (.const (Go.Value.int Go.IntKind.i64 0))⟩])
  (.seq (.seq (.ops [⟨(some 10), none, .mv (.tmp 0)⟩,
    ⟨(some 11), none, .mv (.tmp 1)⟩,
    ⟨(some 12), none, .mv (.tmp 2)⟩,
    ⟨(some 13), none, .lenS (.tmp 12)⟩,
    ⟨(some 14), none, .call 75 [(.tmp 10), (.tmp 11), (.tmp 13)]⟩,
    ⟨(some 7), none, .mv (.tmp 14)⟩])
  (.seq (.ops [⟨(some 15), none, .mv (.tmp 7)⟩,
    ⟨(some 16), none, .bin .neq 26 (.tmp 15) (.const (Go.Value.int Go.IntKind.i64 0))⟩])
  (.cond (.tmp 16)
    (.seq (.ops [⟨(some 17), none, .mv (.tmp 7)⟩,
      ⟨(some 6), none, .mv (.tmp 17)⟩])
    (.ret))
    (.skip))))
  (.seq (.seq (.ops [⟨(some 18), none, .mv (.tmp 2)⟩,
    ⟨(some 19), none, .lenS (.tmp 18)⟩,
    ⟨(some 20), none, .mv (.const (Go.Value.int Go.IntKind.i64 0))⟩])
  (.block 0 (.loop (.seq (.ops [⟨(some 21), none, .bin .lss 3 (.tmp 20) (.tmp 19)⟩])
      (.seq (.cond (.tmp 21)
        (.skip)
        (.exit 0))
      (.seq (.block 1 (.seq (.ops [⟨(some 22), none, .mv (.tmp 20)⟩,
          ⟨(some 23), none, .idx (.tmp 18) (.tmp 20) 1⟩,
          ⟨(some 24), none, .ld (.tmp 23) none⟩,
          ⟨(some 8), none, .mv (.tmp 22)⟩,
          ⟨(some 9), none, .mv (.tmp 24)⟩])
        (.ops [⟨(some 25), none, .mv (.tmp 0)⟩,
          ⟨(some 26), none, .nilc (.tmp 25)⟩,
          ⟨(some 27), none, .fld (.tmp 26) 0⟩,
          ⟨(some 28), none, .ld (.tmp 27) none⟩,
          ⟨(some 29), none, .mv (.tmp 1)⟩,
          ⟨(some 30), none, .mv (.tmp 8)⟩,
          ⟨(some 31), none, .bin .add 3 (.tmp 29) (.tmp 30)⟩,
          ⟨(some 32), none, .idx (.tmp 28) (.tmp 31) 1⟩,
          ⟨(some 33), none, .mv (.tmp 9)⟩,
          ⟨(some 34), none, .call 59 [(.tmp 32), (.tmp 33)]⟩])))
      (.ops [⟨(some 35), none, .bin .add 3 (.tmp 20) (.const (Go.Value.int Go.IntKind.i64 1))⟩,
        ⟨(some 20), none, .mv (.tmp 35)⟩])))))))
  (.seq (.ops [⟨(some 6), none, .mv (.const (Go.Value.int Go.IntKind.i64 0))⟩])
  (.ret))))
theorem is_cell_Row_Fill : FnIs Try.prog F.cell_Row_Fill X.cell_Row_Fill 36 [.tmp 6] := ⟨by kernel_rfl⟩

/-- haycroft/haycroftlaw05.CellNil: function 10 -/
abbrev F.law05_CellNil : FuncId := 10
def X.law05_CellNil : X :=
  .seq (.ops [⟨(some 1), none, .box 70 (.tmp 0)⟩,
    ⟨(some 2), none, .mv (.const (Go.Value.bool false))⟩])
  (.seq (.seq (.ops [⟨(some 12), none, .call 14 []⟩,
    ⟨(some 13), none, .un .not (.tmp 12)⟩])
  (.cond (.tmp 13)
    (.seq (.ops [⟨(some 2), none, .mv (.const (Go.Value.bool false))⟩])
    (.ret))
    (.skip)))
  (.seq (.ops [⟨(some 3), none, .mv (.const (Go.Value.pointer none))⟩])
  (.seq (.ops [⟨(some 15), none, .mv (.tmp 3)⟩,
    ⟨(some 16), none, .fld (.tmp 1) 1⟩,
    ⟨(some 17), none, .ld (.tmp 16) none⟩,
    ⟨(some 18), none, .fld (.tmp 1) 3⟩,
    ⟨(some 19), none, .ld (.tmp 18) none⟩,
    ⟨(some 20), none, .fld (.tmp 1) 4⟩,
    ⟨(some 21), none, .ld (.tmp 20) none⟩,
    ⟨(some 22), none, .call 17 [(.tmp 15), (.tmp 17), (.tmp 19), (.tmp 21)]⟩,
    ⟨(some 14), none, .mv (.tmp 22)⟩,
    ⟨(some 23), none, .ext (.tmp 14) 0⟩,
    ⟨(some 24), none, .ext (.tmp 14) 1⟩,
    ⟨(some 4), none, .mv (.tmp 23)⟩,
    ⟨(some 5), none, .mv (.tmp 24)⟩])
  (.seq (.ops [⟨(some 26), none, .mv (.tmp 3)⟩,
    ⟨(some 27), none, .fld (.tmp 1) 1⟩,
    ⟨(some 28), none, .ld (.tmp 27) none⟩,
    ⟨(some 29), none, .fld (.tmp 1) 4⟩,
    ⟨(some 30), none, .ld (.tmp 29) none⟩,
    ⟨(some 31), none, .call 44 [(.tmp 26), (.tmp 28), (.tmp 30)]⟩,
    ⟨(some 25), none, .mv (.tmp 31)⟩,
    ⟨(some 32), none, .ext (.tmp 25) 0⟩,
    ⟨(some 33), none, .ext (.tmp 25) 1⟩,
    ⟨(some 6), none, .mv (.tmp 32)⟩,
    ⟨(some 7), none, .mv (.tmp 33)⟩])
  (.seq (.ops [⟨(some 35), none, .mv (.tmp 3)⟩,
    ⟨(some 36), none, .fld (.tmp 1) 1⟩,
    ⟨(some 37), none, .ld (.tmp 36) none⟩,
    ⟨(some 38), none, .fld (.tmp 1) 2⟩,
    ⟨(some 39), none, .ld (.tmp 38) none⟩,
    ⟨(some 40), none, .call 45 [(.tmp 35), (.tmp 37), (.tmp 39)]⟩,
    ⟨(some 34), none, .mv (.tmp 40)⟩,
    ⟨(some 41), none, .ext (.tmp 34) 0⟩,
    ⟨(some 42), none, .ext (.tmp 34) 1⟩,
    ⟨(some 8), none, .mv (.tmp 41)⟩,
    ⟨(some 9), none, .mv (.tmp 42)⟩])
  (.seq (.ops [⟨(some 44), none, .mv (.tmp 3)⟩,
    ⟨(some 45), none, .call 46 [(.tmp 44)]⟩,
    ⟨(some 43), none, .mv (.tmp 45)⟩,
    ⟨(some 46), none, .ext (.tmp 43) 0⟩,
    ⟨(some 47), none, .ext (.tmp 43) 1⟩,
    ⟨(some 10), none, .mv (.tmp 46)⟩,
    ⟨(some 11), none, .mv (.tmp 47)⟩])
  (.seq (.ops [⟨(some 48), none, .mv (.tmp 3)⟩,
    ⟨(some 49), none, .call 47 [(.tmp 48)]⟩,
    ⟨(some 50), none, .bin .eql 3 (.tmp 49) (.const (Go.Value.int Go.IntKind.i64 0))⟩,
    ⟨(some 51), none, .mv (.tmp 50)⟩,
    ⟨(some 52), (some (51, true)), .mv (.tmp 3)⟩,
    ⟨(some 53), (some (51, true)), .fld (.tmp 1) 1⟩,
    ⟨(some 54), (some (51, true)), .ld (.tmp 53) none⟩,
    ⟨(some 55), (some (51, true)), .call 18 [(.tmp 52), (.tmp 54)]⟩,
    ⟨(some 56), (some (51, true)), .bin .eql 22 (.tmp 55) (.const (Go.Value.int Go.IntKind.u64 0))⟩,
    ⟨(some 57), none, .pick (.tmp 51) (.tmp 56) (.const (Go.Value.bool false))⟩,
    ⟨(some 58), none, .mv (.tmp 57)⟩,
    ⟨(some 59), (some (58, true)), .mv (.tmp 3)⟩,
    ⟨(some 60), (some (58, true)), .fld (.tmp 1) 1⟩,
    ⟨(some 61), (some (58, true)), .ld (.tmp 60) none⟩,
    ⟨(some 62), (some (58, true)), .fld (.tmp 1) 4⟩,
    ⟨(some 63), (some (58, true)), .ld (.tmp 62) none⟩,
    ⟨(some 64), (some (58, true)), .call 16 [(.tmp 59), (.tmp 61), (.tmp 63)]⟩,
    ⟨(some 65), (some (58, true)), .bin .eql 26 (.tmp 64) (.const (Go.Value.int Go.IntKind.i64 2))⟩,
    ⟨(some 66), none, .pick (.tmp 58) (.tmp 65) (.const (Go.Value.bool false))⟩,
    ⟨(some 67), none, .mv (.tmp 66)⟩,
    ⟨(some 68), (some (67, true)), .mv (.tmp 4)⟩,
    ⟨(some 69), (some (67, true)), .un .not (.tmp 68)⟩,
    ⟨(some 70), none, .pick (.tmp 67) (.tmp 69) (.const (Go.Value.bool false))⟩,
    ⟨(some 71), none, .mv (.tmp 70)⟩,
    ⟨(some 72), (some (71, true)), .mv (.tmp 5)⟩,
    ⟨(some 73), (some (71, true)), .bin .eql 26 (.tmp 72) (.const (Go.Value.int Go.IntKind.i64 2))⟩,
    ⟨(some 74), none, .pick (.tmp 71) (.tmp 73) (.const (Go.Value.bool false))⟩,
    ⟨(some 75), none, .mv (.tmp 74)⟩,
    ⟨(some 76), (some (75, true)), .mv (.tmp 6)⟩,
    ⟨(some 77), (some (75, true)), .bin .eql 22 (.tmp 76) (.const (Go.Value.int Go.IntKind.u64 0))⟩,
    ⟨(some 78), none, .pick (.tmp 75) (.tmp 77) (.const (Go.Value.bool false))⟩,
    ⟨(some 79), none, .mv (.tmp 78)⟩,
    ⟨(some 80), (some (79, true)), .mv (.tmp 7)⟩,
    ⟨(some 81), (some (79, true)), .bin .eql 26 (.tmp 80) (.const (Go.Value.int Go.IntKind.i64 2))⟩,
    ⟨(some 82), none, .pick (.tmp 79) (.tmp 81) (.const (Go.Value.bool false))⟩,
    ⟨(some 83), none, .mv (.tmp 82)⟩,
    ⟨(some 84), (some (83, true)), .mv (.tmp 8)⟩,
    ⟨(some 85), (some (83, true)), .lenS (.tmp 84)⟩,
    ⟨(some 86), (some (83, true)), .bin .eql 3 (.tmp 85) (.const (Go.Value.int Go.IntKind.i64 0))⟩,
    ⟨(some 87), none, .pick (.tmp 83) (.tmp 86) (.const (Go.Value.bool false))⟩,
    ⟨(some 88), none, .mv (.tmp 87)⟩,
    ⟨(some 89), (some (88, true)), .mv (.tmp 9)⟩,
    ⟨(some 90), (some (88, true)), .bin .eql 26 (.tmp 89) (.const (Go.Value.int Go.IntKind.i64 2))⟩,
    ⟨(some 91), none, .pick (.tmp 88) (.tmp 90) (.const (Go.Value.bool false))⟩,
    ⟨(some 92), none, .mv (.tmp 91)⟩,
    ⟨(some 93), (some (92, true)), .mv (.tmp 3)⟩,
    ⟨(some 94), (some (92, true)), .fld (.tmp 1) 1⟩,
    ⟨(some 95), (some (92, true)), .ld (.tmp 94) none⟩,
    ⟨(some 96), (some (92, true)), .fld (.tmp 1) 5⟩,
    ⟨(some 97), (some (92, true)), .ld (.tmp 96) none⟩,
    ⟨(some 98), (some (92, true)), .call 48 [(.tmp 93), (.tmp 95), (.tmp 97)]⟩,
    ⟨(some 99), (some (92, true)), .bin .eql 26 (.tmp 98) (.const (Go.Value.int Go.IntKind.i64 2))⟩,
    ⟨(some 100), none, .pick (.tmp 92) (.tmp 99) (.const (Go.Value.bool false))⟩,
    ⟨(some 101), none, .mv (.tmp 100)⟩,
    ⟨(some 102), (some (101, true)), .mv (.tmp 10)⟩,
    ⟨(some 103), (some (101, true)), .bin .eql 3 (.tmp 102) (.const (Go.Value.int Go.IntKind.i64 0))⟩,
    ⟨(some 104), none, .pick (.tmp 101) (.tmp 103) (.const (Go.Value.bool false))⟩,
    ⟨(some 105), none, .mv (.tmp 104)⟩,
    ⟨(some 106), (some (105, true)), .mv (.tmp 11)⟩,
    ⟨(some 107), (some (105, true)), .bin .eql 3 (.tmp 106) (.const (Go.Value.int Go.IntKind.i64 0))⟩,
    ⟨(some 108), none, .pick (.tmp 105) (.tmp 107) (.const (Go.Value.bool false))⟩,
    ⟨(some 2), none, .mv (.tmp 108)⟩])
  (.ret))))))))
theorem is_law05_CellNil : FnIs Try.prog F.law05_CellNil X.law05_CellNil 109 [.tmp 2] := ⟨by kernel_rfl⟩

/-- haycroft/entry.Has: function 50 -/
abbrev F.entry_Has : FuncId := 50
def X.entry_Has : X :=
  .seq (.ops [⟨(some 4), none, .mv (.const (Go.Value.bool false))⟩])
  (.seq (.ops [⟨(some 8), none, .mv (.tmp 0)⟩,
    ⟨(some 9), none, .call 32 [(.tmp 8)]⟩,
    ⟨(some 7), none, .mv (.tmp 9)⟩,
    ⟨(some 10), none, .ext (.tmp 7) 0⟩,
    ⟨(some 11), none, .ext (.tmp 7) 1⟩,
    ⟨(some 5), none, .new 46 (Go.Value.agg #[(Go.Value.int Go.IntKind.u64 0), (Go.Value.int Go.IntKind.u64 0), (Go.Value.bool false)])⟩,
    ⟨none, none, .st (.tmp 5) (.tmp 10) 3⟩,
    ⟨(some 6), none, .mv (.tmp 11)⟩])
  (.seq (.ops [⟨(some 12), none, .mv (.tmp 6)⟩,
    ⟨(some 13), none, .bin .eql 26 (.tmp 12) (.const (Go.Value.int Go.IntKind.i64 0))⟩,
    ⟨(some 14), none, .mv (.tmp 13)⟩,
    ⟨(some 15), (some (14, true)), .fld (.tmp 5) 1⟩,
    ⟨(some 16), (some (14, true)), .ld (.tmp 15) none⟩,
    ⟨(some 17), (some (14, true)), .mv (.tmp 1)⟩,
    ⟨(some 18), (some (14, true)), .bin .eql 22 (.tmp 16) (.tmp 17)⟩,
    ⟨(some 19), none, .pick (.tmp 14) (.tmp 18) (.const (Go.Value.bool false))⟩,
    ⟨(some 4), none, .mv (.tmp 19)⟩])
  (.ret)))
theorem is_entry_Has : FnIs Try.prog F.entry_Has X.entry_Has 20 [.tmp 4] := ⟨by kernel_rfl⟩

/-- haycroft/entry.To: function 51 -/
abbrev F.entry_To : FuncId := 51
def X.entry_To : X :=
  .seq (.ops [⟨(some 4), none, .mv (.const (Go.Value.int Go.IntKind.u64 0))⟩,
    ⟨(some 5), none, .mv (.const (Go.Value.int Go.IntKind.i64 0))⟩])
  (.seq (.ops [⟨(some 9), none, .mv (.tmp 0)⟩,
    ⟨(some 10), none, .call 32 [(.tmp 9)]⟩,
    ⟨(some 8), none, .mv (.tmp 10)⟩,
    ⟨(some 11), none, .ext (.tmp 8) 0⟩,
    ⟨(some 12), none, .ext (.tmp 8) 1⟩,
    ⟨(some 6), none, .new 46 (Go.Value.agg #[(Go.Value.int Go.IntKind.u64 0), (Go.Value.int Go.IntKind.u64 0), (Go.Value.bool false)])⟩,
    ⟨none, none, .st (.tmp 6) (.tmp 11) 3⟩,
    ⟨(some 7), none, .mv (.tmp 12)⟩])
  (.seq (.seq (.ops [⟨(some 13), none, .mv (.tmp 7)⟩,
    ⟨(some 14), none, .bin .neq 26 (.tmp 13) (.const (Go.Value.int Go.IntKind.i64 0))⟩])
  (.cond (.tmp 14)
    (.seq (.ops [⟨(some 15), none, .mv (.tmp 7)⟩,
      ⟨(some 4), none, .mv (.const (Go.Value.int Go.IntKind.u64 0))⟩,
      ⟨(some 5), none, .mv (.tmp 15)⟩])
    (.ret))
    (.skip)))
  (.seq (.ops [⟨(some 16), none, .mv (.tmp 1)⟩,
    ⟨(some 17), none, .fld (.tmp 6) 0⟩,
    ⟨none, none, .st (.tmp 17) (.tmp 16) 1⟩,
    ⟨(some 18), none, .fld (.tmp 6) 2⟩,
    ⟨none, none, .st (.tmp 18) (.const (Go.Value.bool false)) 1⟩])
  (.seq (.ops [⟨(some 19), none, .ld (.tmp 6) (some 3)⟩,
    ⟨(some 20), none, .call 29 [(.tmp 19)]⟩,
    ⟨(some 21), none, .ext (.tmp 20) 0⟩,
    ⟨(some 22), none, .ext (.tmp 20) 1⟩,
    ⟨(some 4), none, .mv (.tmp 21)⟩,
    ⟨(some 5), none, .mv (.tmp 22)⟩])
  (.ret)))))
theorem is_entry_To : FnIs Try.prog F.entry_To X.entry_To 23 [.tmp 4, .tmp 5] := ⟨by kernel_rfl⟩

/-- haycroft/haycroftlaw16.EntryTurns: function 11 -/
abbrev F.law16_EntryTurns : FuncId := 11
def X.law16_EntryTurns : X :=
  .seq (.ops [⟨(some 6), none, .mv (.const (Go.Value.bool false))⟩])
  (.seq (.seq (.ops [⟨(some 17), none, .call 28 []⟩,
    ⟨(some 18), none, .un .not (.tmp 17)⟩])
  (.cond (.tmp 18)
    (.seq (.ops [⟨(some 6), none, .mv (.const (Go.Value.bool false))⟩])
    (.ret))
    (.skip)))
  (.seq (.ops [⟨(some 20), none, .mv (.tmp 1)⟩,
    ⟨(some 21), none, .call 49 [(.tmp 20)]⟩,
    ⟨(some 19), none, .mv (.tmp 21)⟩,
    ⟨(some 22), none, .ext (.tmp 19) 0⟩,
    ⟨(some 23), none, .ext (.tmp 19) 1⟩,
    ⟨(some 7), none, .mv (.tmp 22)⟩,
    ⟨(some 8), none, .mv (.tmp 23)⟩])
  (.seq (.ops [⟨(some 25), none, .mv (.tmp 1)⟩,
    ⟨(some 26), none, .bld [(Go.Value.int Go.IntKind.u64 0), (Go.Value.int Go.IntKind.u64 0), (Go.Value.bool false)] [(1, 1, (.tmp 25)), (2, 1, (.const (Go.Value.bool true)))]⟩,
    ⟨(some 27), none, .call 30 [(.tmp 26)]⟩,
    ⟨(some 24), none, .mv (.tmp 27)⟩,
    ⟨(some 28), none, .ext (.tmp 24) 0⟩,
    ⟨(some 29), none, .ext (.tmp 24) 1⟩,
    ⟨(some 9), none, .mv (.tmp 28)⟩,
    ⟨(some 10), none, .mv (.tmp 29)⟩])
  (.seq (.ops [⟨(some 31), none, .mv (.tmp 0)⟩,
    ⟨(some 32), none, .call 33 [(.tmp 31)]⟩,
    ⟨(some 30), none, .mv (.tmp 32)⟩,
    ⟨(some 33), none, .ext (.tmp 30) 0⟩,
    ⟨(some 34), none, .ext (.tmp 30) 1⟩,
    ⟨(some 11), none, .new 46 (Go.Value.agg #[(Go.Value.int Go.IntKind.u64 0), (Go.Value.int Go.IntKind.u64 0), (Go.Value.bool false)])⟩,
    ⟨none, none, .st (.tmp 11) (.tmp 33) 3⟩,
    ⟨(some 12), none, .mv (.tmp 34)⟩])
  (.seq (.seq (.ops [⟨(some 35), none, .mv (.tmp 7)⟩,
    ⟨(some 36), none, .mv (.tmp 9)⟩,
    ⟨(some 37), none, .bin .neq 22 (.tmp 35) (.tmp 36)⟩,
    ⟨(some 38), none, .mv (.tmp 37)⟩,
    ⟨(some 39), (some (38, false)), .mv (.tmp 8)⟩,
    ⟨(some 40), (some (38, false)), .mv (.tmp 10)⟩,
    ⟨(some 41), (some (38, false)), .bin .neq 26 (.tmp 39) (.tmp 40)⟩,
    ⟨(some 42), none, .pick (.tmp 38) (.const (Go.Value.bool true)) (.tmp 41)⟩,
    ⟨(some 43), none, .mv (.tmp 42)⟩,
    ⟨(some 44), (some (43, false)), .mv (.tmp 0)⟩,
    ⟨(some 45), (some (43, false)), .mv (.tmp 1)⟩,
    ⟨(some 46), (some (43, false)), .call 50 [(.tmp 44), (.tmp 45)]⟩,
    ⟨(some 47), (some (43, false)), .mv (.tmp 12)⟩,
    ⟨(some 48), (some (43, false)), .bin .eql 26 (.tmp 47) (.const (Go.Value.int Go.IntKind.i64 0))⟩,
    ⟨(some 49), (some (43, false)), .mv (.tmp 48)⟩,
    ⟨(some 50), (some (49, true)), .fld (.tmp 11) 1⟩,
    ⟨(some 51), (some (49, true)), .ld (.tmp 50) none⟩,
    ⟨(some 52), (some (49, true)), .mv (.tmp 1)⟩,
    ⟨(some 53), (some (49, true)), .bin .eql 22 (.tmp 51) (.tmp 52)⟩,
    ⟨(some 54), (some (43, false)), .pick (.tmp 49) (.tmp 53) (.const (Go.Value.bool false))⟩,
    ⟨(some 55), (some (43, false)), .eq true .bool (.tmp 46) (.tmp 54)⟩,
    ⟨(some 56), none, .pick (.tmp 43) (.const (Go.Value.bool true)) (.tmp 55)⟩])
  (.cond (.tmp 56)
    (.seq (.ops [⟨(some 6), none, .mv (.const (Go.Value.bool false))⟩])
    (.ret))
    (.skip)))
  (.seq (.ops [⟨(some 58), none, .mv (.tmp 0)⟩,
    ⟨(some 59), none, .mv (.tmp 2)⟩,
    ⟨(some 60), none, .call 51 [(.tmp 58), (.tmp 59)]⟩,
    ⟨(some 57), none, .mv (.tmp 60)⟩,
    ⟨(some 61), none, .ext (.tmp 57) 0⟩,
    ⟨(some 62), none, .ext (.tmp 57) 1⟩,
    ⟨(some 13), none, .mv (.tmp 61)⟩,
    ⟨(some 14), none, .mv (.tmp 62)⟩])
  (.seq (.seq (.ops [⟨(some 63), none, .mv (.tmp 12)⟩,
    ⟨(some 64), none, .bin .neq 26 (.tmp 63) (.const (Go.Value.int Go.IntKind.i64 0))⟩])
  (.cond (.tmp 64)
    (.seq (.ops [⟨(some 65), none, .mv (.tmp 13)⟩,
      ⟨(some 66), none, .bin .eql 22 (.tmp 65) (.const (Go.Value.int Go.IntKind.u64 0))⟩,
      ⟨(some 67), none, .mv (.tmp 66)⟩,
      ⟨(some 68), (some (67, true)), .mv (.tmp 14)⟩,
      ⟨(some 69), (some (67, true)), .mv (.tmp 12)⟩,
      ⟨(some 70), (some (67, true)), .bin .eql 26 (.tmp 68) (.tmp 69)⟩,
      ⟨(some 71), none, .pick (.tmp 67) (.tmp 70) (.const (Go.Value.bool false))⟩,
      ⟨(some 6), none, .mv (.tmp 71)⟩])
    (.ret))
    (.skip)))
  (.seq (.ops [⟨(some 73), none, .mv (.tmp 2)⟩,
    ⟨(some 74), none, .fld (.tmp 11) 1⟩,
    ⟨(some 75), none, .ld (.tmp 74) none⟩,
    ⟨(some 76), none, .bld [(Go.Value.int Go.IntKind.u64 0), (Go.Value.int Go.IntKind.u64 0), (Go.Value.bool false)] [(0, 1, (.tmp 73)), (1, 1, (.tmp 75))]⟩,
    ⟨(some 77), none, .call 30 [(.tmp 76)]⟩,
    ⟨(some 72), none, .mv (.tmp 77)⟩,
    ⟨(some 78), none, .ext (.tmp 72) 0⟩,
    ⟨(some 79), none, .ext (.tmp 72) 1⟩,
    ⟨(some 15), none, .mv (.tmp 78)⟩,
    ⟨(some 16), none, .mv (.tmp 79)⟩])
  (.seq (.ops [⟨(some 80), none, .mv (.tmp 13)⟩,
    ⟨(some 81), none, .mv (.tmp 15)⟩,
    ⟨(some 82), none, .bin .eql 22 (.tmp 80) (.tmp 81)⟩,
    ⟨(some 83), none, .mv (.tmp 82)⟩,
    ⟨(some 84), (some (83, true)), .mv (.tmp 14)⟩,
    ⟨(some 85), (some (83, true)), .mv (.tmp 16)⟩,
    ⟨(some 86), (some (83, true)), .bin .eql 26 (.tmp 84) (.tmp 85)⟩,
    ⟨(some 87), none, .pick (.tmp 83) (.tmp 86) (.const (Go.Value.bool false))⟩,
    ⟨(some 88), none, .mv (.tmp 87)⟩,
    ⟨(some 89), (some (88, true)), .mv (.tmp 14)⟩,
    ⟨(some 90), (some (88, true)), .bin .neq 26 (.tmp 89) (.const (Go.Value.int Go.IntKind.i64 0))⟩,
    ⟨(some 91), (some (88, true)), .mv (.tmp 90)⟩,
    ⟨(some 92), (some (91, false)), .mv (.tmp 13)⟩,
    ⟨(some 93), (some (91, false)), .fld (.tmp 11) 1⟩,
    ⟨(some 94), (some (91, false)), .ld (.tmp 93) none⟩,
    ⟨(some 95), (some (91, false)), .call 50 [(.tmp 92), (.tmp 94)]⟩,
    ⟨(some 96), (some (88, true)), .pick (.tmp 91) (.const (Go.Value.bool true)) (.tmp 95)⟩,
    ⟨(some 97), none, .pick (.tmp 88) (.tmp 96) (.const (Go.Value.bool false))⟩,
    ⟨(some 6), none, .mv (.tmp 97)⟩])
  (.ret))))))))))
theorem is_law16_EntryTurns : FnIs Try.prog F.law16_EntryTurns X.law16_EntryTurns 98 [.tmp 6] := ⟨by kernel_rfl⟩

-- loop (inner ones first): [0, 1, 24]
-- loop (inner ones first): [0, 1, 15, 16, 17]
/-- (*haycroft/marks.Set).Begin: function 52 -/
abbrev F.marks_Set_Begin : FuncId := 52
def X.marks_Set_Begin : X :=
  .seq (.ops [⟨(some 4), none, .mv (.const (Go.Value.int Go.IntKind.i64 0))⟩])
  (.seq (.block 0 (.seq (.ops [⟨(some 9), none, .mv (.tmp 0)⟩,
      ⟨(some 10), none, .eq false .ptr (.tmp 9) (.const (Go.Value.pointer none))⟩,
      ⟨(some 8), none, .mv (.tmp 10)⟩])
    (.cond (.tmp 8)
      (.seq (.ops [⟨(some 4), none, .mv (.const (Go.Value.int Go.IntKind.i64 2))⟩])
      (.ret))
      (.seq (.ops [⟨(some 12), none, .mv (.tmp 1)⟩,
        ⟨(some 13), none, .bin .lss 3 (.tmp 12) (.const (Go.Value.int Go.IntKind.i64 0))⟩,
        ⟨(some 11), none, .mv (.tmp 13)⟩])
      (.cond (.tmp 11)
        (.seq (.ops [⟨(some 4), none, .mv (.const (Go.Value.int Go.IntKind.i64 1))⟩])
        (.ret))
        (.skip))))))
  (.seq (.seq (.ops [⟨(some 14), none, .mv (.tmp 0)⟩,
    ⟨(some 15), none, .call 36 [(.tmp 14)]⟩,
    ⟨(some 16), none, .lenS (.tmp 15)⟩,
    ⟨(some 17), none, .mv (.const (Go.Value.int Go.IntKind.i64 0))⟩])
  (.block 1 (.loop (.seq (.ops [⟨(some 18), none, .bin .lss 3 (.tmp 17) (.tmp 16)⟩])
      (.seq (.cond (.tmp 18)
        (.skip)
        (.exit 1))
      (.seq (.block 2 (.seq (.ops [⟨(some 19), none, .idx (.tmp 15) (.tmp 17) 1⟩,
          ⟨(some 20), none, .ld (.tmp 19) none⟩,
          ⟨(some 6), none, .mv (.tmp 20)⟩])
        (.seq (.ops [⟨(some 21), none, .mv (.tmp 6)⟩,
          ⟨(some 22), none, .bin .neq 3 (.tmp 21) (.const (Go.Value.int Go.IntKind.i64 0))⟩])
        (.cond (.tmp 22)
          (.seq (.ops [⟨(some 4), none, .mv (.const (Go.Value.int Go.IntKind.i64 8))⟩])
          (.ret))
          (.skip)))))
      (.ops [⟨(some 23), none, .bin .add 3 (.tmp 17) (.const (Go.Value.int Go.IntKind.i64 1))⟩,
        ⟨(some 17), none, .mv (.tmp 23)⟩])))))))
  (.seq (.seq (.ops [⟨(some 24), none, .mv (.const (Go.Value.int Go.IntKind.i64 0))⟩])
  (.block 3 (.loop (.seq (.ops [⟨(some 25), none, .bin .lss 3 (.tmp 24) (.const (Go.Value.int Go.IntKind.i64 5))⟩])
      (.seq (.cond (.tmp 25)
        (.skip)
        (.exit 3))
      (.seq (.block 4 (.seq (.ops [⟨(some 26), none, .mv (.tmp 24)⟩,
          ⟨(some 7), none, .mv (.tmp 26)⟩])
        (.ops [⟨(some 27), none, .mv (.tmp 0)⟩,
          ⟨(some 28), none, .nilc (.tmp 27)⟩,
          ⟨(some 29), none, .fld (.tmp 28) 0⟩,
          ⟨(some 30), none, .ld (.tmp 29) none⟩,
          ⟨(some 31), none, .mv (.tmp 7)⟩,
          ⟨(some 32), none, .mv (.tmp 1)⟩,
          ⟨(some 33), none, .conv Go.IntKind.u64 (.tmp 32)⟩,
          ⟨(some 34), none, .call 16 [(.tmp 30), (.tmp 31), (.tmp 33)]⟩])))
      (.ops [⟨(some 35), none, .bin .add 3 (.tmp 24) (.const (Go.Value.int Go.IntKind.i64 1))⟩,
        ⟨(some 24), none, .mv (.tmp 35)⟩])))))))
  (.seq (.ops [⟨(some 4), none, .mv (.const (Go.Value.int Go.IntKind.i64 0))⟩])
  (.ret)))))
theorem is_marks_Set_Begin : FnIs Try.prog F.marks_Set_Begin X.marks_Set_Begin 36 [.tmp 4] := ⟨by kernel_rfl⟩

-- loop (inner ones first): [0, 1, 6]
-- loop (inner ones first): [0, 1, 5]
/-- (*haycroft/haycroftref13.Set).Begin: function 53 -/
abbrev F.ref13_Set_Begin : FuncId := 53
def X.ref13_Set_Begin : X :=
  .seq (.ops [⟨(some 4), none, .mv (.const (Go.Value.int Go.IntKind.i64 0))⟩])
  (.seq (.seq (.ops [⟨(some 7), none, .mv (.tmp 1)⟩,
    ⟨(some 8), none, .bin .lss 3 (.tmp 7) (.const (Go.Value.int Go.IntKind.i64 0))⟩])
  (.cond (.tmp 8)
    (.seq (.ops [⟨(some 4), none, .mv (.const (Go.Value.int Go.IntKind.i64 1))⟩])
    (.ret))
    (.skip)))
  (.seq (.seq (.ops [⟨(some 5), none, .mv (.const (Go.Value.int Go.IntKind.i64 0))⟩])
  (.block 0 (.loop (.seq (.seq (.ops [⟨(some 9), none, .mv (.tmp 5)⟩,
        ⟨(some 10), none, .bin .lss 3 (.tmp 9) (.const (Go.Value.int Go.IntKind.i64 5))⟩])
      (.cond (.tmp 10)
        (.skip)
        (.exit 0)))
      (.seq (.block 1 (.seq (.ops [⟨(some 13), none, .mv (.tmp 0)⟩,
          ⟨(some 14), none, .mv (.tmp 5)⟩,
          ⟨(some 15), none, .nilc (.tmp 13)⟩,
          ⟨(some 16), none, .fld (.tmp 15) 0⟩,
          ⟨(some 17), none, .ixp (.tmp 16) (.tmp 14) 5 1⟩,
          ⟨(some 18), none, .ld (.tmp 17) none⟩,
          ⟨(some 19), none, .bin .neq 3 (.tmp 18) (.const (Go.Value.int Go.IntKind.i64 0))⟩])
        (.cond (.tmp 19)
          (.seq (.ops [⟨(some 4), none, .mv (.const (Go.Value.int Go.IntKind.i64 8))⟩])
          (.ret))
          (.skip))))
      (.ops [⟨(some 11), none, .mv (.tmp 5)⟩,
        ⟨(some 12), none, .bin .add 3 (.tmp 11) (.const (Go.Value.int Go.IntKind.i64 1))⟩,
        ⟨(some 5), none, .mv (.tmp 12)⟩]))))))
  (.seq (.seq (.ops [⟨(some 6), none, .mv (.const (Go.Value.int Go.IntKind.i64 0))⟩])
  (.block 2 (.loop (.seq (.seq (.ops [⟨(some 20), none, .mv (.tmp 6)⟩,
        ⟨(some 21), none, .bin .lss 3 (.tmp 20) (.const (Go.Value.int Go.IntKind.i64 5))⟩])
      (.cond (.tmp 21)
        (.skip)
        (.exit 2)))
      (.seq (.block 3 (.ops [⟨(some 24), none, .mv (.tmp 0)⟩,
          ⟨(some 25), none, .mv (.tmp 6)⟩,
          ⟨(some 26), none, .mv (.tmp 1)⟩,
          ⟨(some 27), none, .nilc (.tmp 24)⟩,
          ⟨(some 28), none, .fld (.tmp 27) 0⟩,
          ⟨(some 29), none, .ixp (.tmp 28) (.tmp 25) 5 1⟩,
          ⟨none, none, .st (.tmp 29) (.tmp 26) 1⟩]))
      (.ops [⟨(some 22), none, .mv (.tmp 6)⟩,
        ⟨(some 23), none, .bin .add 3 (.tmp 22) (.const (Go.Value.int Go.IntKind.i64 1))⟩,
        ⟨(some 6), none, .mv (.tmp 23)⟩]))))))
  (.seq (.ops [⟨(some 4), none, .mv (.const (Go.Value.int Go.IntKind.i64 0))⟩])
  (.ret)))))
theorem is_ref13_Set_Begin : FnIs Try.prog F.ref13_Set_Begin X.ref13_Set_Begin 30 [.tmp 4] := ⟨by kernel_rfl⟩

/-- (*haycroft/haycroftref13.Set).Raise: function 54 -/
abbrev F.ref13_Set_Raise : FuncId := 54
def X.ref13_Set_Raise : X :=
  .seq (.ops [⟨(some 8), none, .mv (.const (Go.Value.int Go.IntKind.i64 0))⟩])
  (.seq (.seq (.ops [⟨(some 10), none, .mv (.tmp 1)⟩,
    ⟨(some 11), none, .bin .lss 3 (.tmp 10) (.const (Go.Value.int Go.IntKind.i64 0))⟩,
    ⟨(some 12), none, .mv (.tmp 11)⟩,
    ⟨(some 13), (some (12, false)), .mv (.tmp 1)⟩,
    ⟨(some 14), (some (12, false)), .bin .gtr 3 (.tmp 13) (.const (Go.Value.int Go.IntKind.i64 4))⟩,
    ⟨(some 15), none, .pick (.tmp 12) (.const (Go.Value.bool true)) (.tmp 14)⟩])
  (.cond (.tmp 15)
    (.seq (.ops [⟨(some 8), none, .mv (.const (Go.Value.int Go.IntKind.i64 1))⟩])
    (.ret))
    (.skip)))
  (.seq (.seq (.ops [⟨(some 16), none, .mv (.tmp 2)⟩,
    ⟨(some 17), none, .mv (.tmp 0)⟩,
    ⟨(some 18), none, .mv (.tmp 1)⟩,
    ⟨(some 19), none, .nilc (.tmp 17)⟩,
    ⟨(some 20), none, .fld (.tmp 19) 0⟩,
    ⟨(some 21), none, .ixp (.tmp 20) (.tmp 18) 5 1⟩,
    ⟨(some 22), none, .ld (.tmp 21) none⟩,
    ⟨(some 23), none, .bin .leq 3 (.tmp 16) (.tmp 22)⟩])
  (.cond (.tmp 23)
    (.seq (.ops [⟨(some 8), none, .mv (.const (Go.Value.int Go.IntKind.i64 8))⟩])
    (.ret))
    (.skip)))
  (.seq (.ops [⟨(some 24), none, .mv (.tmp 3)⟩,
    ⟨(some 9), none, .mv (.tmp 24)⟩])
  (.seq (.seq (.ops [⟨(some 25), none, .mv (.tmp 1)⟩,
    ⟨(some 26), none, .bin .gtr 3 (.tmp 25) (.const (Go.Value.int Go.IntKind.i64 0))⟩])
  (.cond (.tmp 26)
    (.ops [⟨(some 27), none, .mv (.tmp 0)⟩,
      ⟨(some 28), none, .mv (.tmp 1)⟩,
      ⟨(some 29), none, .bin .sub 3 (.tmp 28) (.const (Go.Value.int Go.IntKind.i64 1))⟩,
      ⟨(some 30), none, .nilc (.tmp 27)⟩,
      ⟨(some 31), none, .fld (.tmp 30) 0⟩,
      ⟨(some 32), none, .ixp (.tmp 31) (.tmp 29) 5 1⟩,
      ⟨(some 33), none, .ld (.tmp 32) none⟩,
      ⟨(some 9), none, .mv (.tmp 33)⟩])
    (.skip)))
  (.seq (.seq (.ops [⟨(some 34), none, .mv (.tmp 2)⟩,
    ⟨(some 35), none, .mv (.tmp 9)⟩,
    ⟨(some 36), none, .bin .gtr 3 (.tmp 34) (.tmp 35)⟩])
  (.cond (.tmp 36)
    (.seq (.ops [⟨(some 8), none, .mv (.const (Go.Value.int Go.IntKind.i64 13))⟩])
    (.ret))
    (.skip)))
  (.seq (.ops [⟨(some 37), none, .mv (.tmp 0)⟩,
    ⟨(some 38), none, .mv (.tmp 1)⟩,
    ⟨(some 39), none, .mv (.tmp 2)⟩,
    ⟨(some 40), none, .nilc (.tmp 37)⟩,
    ⟨(some 41), none, .fld (.tmp 40) 0⟩,
    ⟨(some 42), none, .ixp (.tmp 41) (.tmp 38) 5 1⟩,
    ⟨none, none, .st (.tmp 42) (.tmp 39) 1⟩])
  (.seq (.ops [⟨(some 8), none, .mv (.const (Go.Value.int Go.IntKind.i64 0))⟩])
  (.ret))))))))
theorem is_ref13_Set_Raise : FnIs Try.prog F.ref13_Set_Raise X.ref13_Set_Raise 43 [.tmp 8] := ⟨by kernel_rfl⟩

/-- (*haycroft/haycroftref13.Set).Region: function 57 -/
abbrev F.ref13_Set_Region : FuncId := 57
def X.ref13_Set_Region : X :=
  .seq (.ops [⟨(some 6), none, .mv (.const (Go.Value.int Go.IntKind.i64 0))⟩])
  (.seq (.seq (.ops [⟨(some 7), none, .mv (.tmp 1)⟩,
    ⟨(some 8), none, .bin .lss 3 (.tmp 7) (.const (Go.Value.int Go.IntKind.i64 0))⟩,
    ⟨(some 9), none, .mv (.tmp 8)⟩,
    ⟨(some 10), (some (9, false)), .mv (.tmp 1)⟩,
    ⟨(some 11), (some (9, false)), .mv (.tmp 2)⟩,
    ⟨(some 12), (some (9, false)), .bin .gtr 3 (.tmp 10) (.tmp 11)⟩,
    ⟨(some 13), none, .pick (.tmp 9) (.const (Go.Value.bool true)) (.tmp 12)⟩])
  (.cond (.tmp 13)
    (.seq (.ops [⟨(some 6), none, .mv (.const (Go.Value.int Go.IntKind.i64 0))⟩])
    (.ret))
    (.skip)))
  (.seq (.seq (.ops [⟨(some 14), none, .mv (.tmp 0)⟩,
    ⟨(some 15), none, .nilc (.tmp 14)⟩,
    ⟨(some 16), none, .fld (.tmp 15) 0⟩,
    ⟨(some 17), none, .ixp (.tmp 16) (.const (Go.Value.int Go.IntKind.i64 0)) 5 1⟩,
    ⟨(some 18), none, .ld (.tmp 17) none⟩,
    ⟨(some 19), none, .mv (.tmp 1)⟩,
    ⟨(some 20), none, .bin .leq 3 (.tmp 18) (.tmp 19)⟩])
  (.cond (.tmp 20)
    (.seq (.ops [⟨(some 6), none, .mv (.const (Go.Value.int Go.IntKind.i64 1))⟩])
    (.ret))
    (.skip)))
  (.seq (.seq (.ops [⟨(some 21), none, .mv (.tmp 0)⟩,
    ⟨(some 22), none, .nilc (.tmp 21)⟩,
    ⟨(some 23), none, .fld (.tmp 22) 0⟩,
    ⟨(some 24), none, .ixp (.tmp 23) (.const (Go.Value.int Go.IntKind.i64 1)) 5 1⟩,
    ⟨(some 25), none, .ld (.tmp 24) none⟩,
    ⟨(some 26), none, .mv (.tmp 1)⟩,
    ⟨(some 27), none, .bin .leq 3 (.tmp 25) (.tmp 26)⟩])
  (.cond (.tmp 27)
    (.seq (.ops [⟨(some 6), none, .mv (.const (Go.Value.int Go.IntKind.i64 2))⟩])
    (.ret))
    (.skip)))
  (.seq (.seq (.ops [⟨(some 28), none, .mv (.tmp 0)⟩,
    ⟨(some 29), none, .nilc (.tmp 28)⟩,
    ⟨(some 30), none, .fld (.tmp 29) 0⟩,
    ⟨(some 31), none, .ixp (.tmp 30) (.const (Go.Value.int Go.IntKind.i64 3)) 5 1⟩,
    ⟨(some 32), none, .ld (.tmp 31) none⟩,
    ⟨(some 33), none, .mv (.tmp 1)⟩,
    ⟨(some 34), none, .bin .leq 3 (.tmp 32) (.tmp 33)⟩])
  (.cond (.tmp 34)
    (.seq (.ops [⟨(some 6), none, .mv (.const (Go.Value.int Go.IntKind.i64 3))⟩])
    (.ret))
    (.skip)))
  (.seq (.ops [⟨(some 6), none, .mv (.const (Go.Value.int Go.IntKind.i64 4))⟩])
  (.ret))))))
theorem is_ref13_Set_Region : FnIs Try.prog F.ref13_Set_Region X.ref13_Set_Region 35 [.tmp 6] := ⟨by kernel_rfl⟩

-- loop (inner ones first): [0, 1, 5, 6, 7, 8, 10, 11]
-- loop (inner ones first): [0, 1, 5, 6, 7, 8]
/-- haycroft/haycroftlaw13.MarksPlay: function 12 -/
abbrev F.law13_MarksPlay : FuncId := 12
def X.law13_MarksPlay : X :=
  .seq (.ops [⟨(some 4), none, .mv (.const (Go.Value.bool false))⟩])
  (.seq (.seq (.ops [⟨(some 13), none, .call 34 []⟩,
    ⟨(some 14), none, .un .not (.tmp 13)⟩])
  (.cond (.tmp 14)
    (.seq (.ops [⟨(some 4), none, .mv (.const (Go.Value.bool false))⟩])
    (.ret))
    (.skip)))
  (.seq (.ops [⟨(some 15), none, .call 35 []⟩,
    ⟨(some 5), none, .mv (.tmp 15)⟩])
  (.seq (.ops [⟨(some 16), none, .bld [(Go.Value.int Go.IntKind.i64 0), (Go.Value.int Go.IntKind.i64 0), (Go.Value.int Go.IntKind.i64 0), (Go.Value.int Go.IntKind.i64 0), (Go.Value.int Go.IntKind.i64 0)] []⟩,
    ⟨(some 17), none, .box 85 (.tmp 16)⟩,
    ⟨(some 6), none, .mv (.tmp 17)⟩])
  (.seq (.ops [⟨(some 7), none, .mv (.const (Go.Value.int Go.IntKind.i64 0))⟩])
  (.seq (.seq (.ops [⟨(some 8), none, .mv (.const (Go.Value.int Go.IntKind.i64 0))⟩])
  (.block 0 (.loop (.seq (.seq (.ops [⟨(some 18), none, .mv (.tmp 8)⟩,
        ⟨(some 19), none, .mv (.tmp 0)⟩,
        ⟨(some 20), none, .lenS (.tmp 19)⟩,
        ⟨(some 21), none, .bin .lss 3 (.tmp 18) (.tmp 20)⟩,
        ⟨(some 22), none, .mv (.tmp 21)⟩,
        ⟨(some 23), (some (22, true)), .mv (.tmp 8)⟩,
        ⟨(some 24), (some (22, true)), .bin .lss 3 (.tmp 23) (.const (Go.Value.int Go.IntKind.i64 150))⟩,
        ⟨(some 25), none, .pick (.tmp 22) (.tmp 24) (.const (Go.Value.bool false))⟩])
      (.cond (.tmp 25)
        (.skip)
        (.exit 0)))
      (.seq (.block 1 (.seq (.ops [⟨(some 28), none, .mv (.tmp 0)⟩,
          ⟨(some 29), none, .mv (.tmp 8)⟩,
          ⟨(some 30), none, .idx (.tmp 28) (.tmp 29) 4⟩,
          ⟨(some 31), none, .ld (.tmp 30) (some 4)⟩,
          ⟨(some 9), none, .new 59 (Go.Value.agg #[(Go.Value.bool false), (Go.Value.int Go.IntKind.i64 0), (Go.Value.int Go.IntKind.i64 0), (Go.Value.int Go.IntKind.u8 0)])⟩,
          ⟨none, none, .st (.tmp 9) (.tmp 31) 4⟩])
        (.seq (.ops [⟨(some 32), none, .mv (.tmp 7)⟩,
          ⟨(some 33), none, .fld (.tmp 9) 3⟩,
          ⟨(some 34), none, .ld (.tmp 33) none⟩,
          ⟨(some 35), none, .conv Go.IntKind.i64 (.tmp 34)⟩,
          ⟨(some 36), none, .bin .add 3 (.tmp 32) (.tmp 35)⟩,
          ⟨(some 7), none, .mv (.tmp 36)⟩])
        (.seq (.seq (.ops [⟨(some 37), none, .fld (.tmp 9) 0⟩,
          ⟨(some 38), none, .ld (.tmp 37) none⟩])
        (.cond (.tmp 38)
          (.seq (.drawn [(0, ⟨(some 39), none, .mv (.tmp 5)⟩),
            (1, ⟨(some 40), none, .fld (.tmp 9) 2⟩),
            (2, ⟨(some 41), none, .ld (.tmp 40) none⟩),
            (4, ⟨(some 43), none, .mv (.tmp 6)⟩),
            (5, ⟨(some 44), none, .fld (.tmp 9) 2⟩),
            (6, ⟨(some 45), none, .ld (.tmp 44) none⟩),
            (3, ⟨(some 42), none, .call 52 [(.tmp 39), (.tmp 41)]⟩),
            (7, ⟨(some 46), none, .call 53 [(.tmp 43), (.tmp 45)]⟩),
            (8, ⟨(some 47), none, .bin .neq 26 (.tmp 42) (.tmp 46)⟩)]
            [[], [], [1], [0, 2], [], [], [5], [4, 6, 3], [3, 7]]
            [0, 0, 2, 7, 0, 0, 32, 127, 255] 136)
          (.cond (.tmp 47)
            (.seq (.ops [⟨(some 4), none, .mv (.const (Go.Value.bool false))⟩])
            (.ret))
            (.skip)))
          (.seq (.drawn [(0, ⟨(some 48), none, .mv (.tmp 5)⟩),
            (1, ⟨(some 49), none, .fld (.tmp 9) 1⟩),
            (2, ⟨(some 50), none, .ld (.tmp 49) none⟩),
            (3, ⟨(some 51), none, .fld (.tmp 9) 2⟩),
            (4, ⟨(some 52), none, .ld (.tmp 51) none⟩),
            (5, ⟨(some 53), none, .mv (.tmp 7)⟩),
            (7, ⟨(some 55), none, .mv (.tmp 6)⟩),
            (8, ⟨(some 56), none, .fld (.tmp 9) 1⟩),
            (9, ⟨(some 57), none, .ld (.tmp 56) none⟩),
            (10, ⟨(some 58), none, .fld (.tmp 9) 2⟩),
            (11, ⟨(some 59), none, .ld (.tmp 58) none⟩),
            (12, ⟨(some 60), none, .mv (.tmp 7)⟩),
            (6, ⟨(some 54), none, .call 38 [(.tmp 48), (.tmp 50), (.tmp 52), (.tmp 53)]⟩),
            (13, ⟨(some 61), none, .call 54 [(.tmp 55), (.tmp 57), (.tmp 59), (.tmp 60)]⟩),
            (14, ⟨(some 62), none, .bin .neq 26 (.tmp 54) (.tmp 61)⟩)]
            [[], [], [1], [], [3], [], [0, 2, 4, 5], [], [], [8], [], [10], [], [7, 9, 11, 12, 6], [6, 13]]
            [0, 0, 2, 0, 8, 0, 63, 0, 0, 256, 0, 1024, 0, 8191, 16383] 8256)
          (.cond (.tmp 62)
            (.seq (.ops [⟨(some 4), none, .mv (.const (Go.Value.bool false))⟩])
            (.ret))
            (.skip)))))
        (.seq (.ops [⟨(some 63), none, .mv (.tmp 5)⟩,
          ⟨(some 64), none, .call 36 [(.tmp 63)]⟩,
          ⟨(some 10), none, .mv (.tmp 64)⟩])
        (.seq (.seq (.ops [⟨(some 11), none, .mv (.const (Go.Value.int Go.IntKind.i64 0))⟩])
        (.block 2 (.loop (.seq (.seq (.ops [⟨(some 65), none, .mv (.tmp 11)⟩,
              ⟨(some 66), none, .bin .lss 3 (.tmp 65) (.const (Go.Value.int Go.IntKind.i64 5))⟩])
            (.cond (.tmp 66)
              (.skip)
              (.exit 2)))
            (.seq (.block 3 (.seq (.ops [⟨(some 69), none, .mv (.tmp 7)⟩,
                ⟨(some 12), none, .mv (.tmp 69)⟩])
              (.seq (.seq (.ops [⟨(some 70), none, .mv (.tmp 11)⟩,
                ⟨(some 71), none, .bin .gtr 3 (.tmp 70) (.const (Go.Value.int Go.IntKind.i64 0))⟩])
              (.cond (.tmp 71)
                (.ops [⟨(some 72), none, .mv (.tmp 6)⟩,
                  ⟨(some 73), none, .mv (.tmp 11)⟩,
                  ⟨(some 74), none, .bin .sub 3 (.tmp 73) (.const (Go.Value.int Go.IntKind.i64 1))⟩,
                  ⟨(some 75), none, .nilc (.tmp 72)⟩,
                  ⟨(some 76), none, .fld (.tmp 75) 0⟩,
                  ⟨(some 77), none, .ixp (.tmp 76) (.tmp 74) 5 1⟩,
                  ⟨(some 78), none, .ld (.tmp 77) none⟩,
                  ⟨(some 12), none, .mv (.tmp 78)⟩])
                (.skip)))
              (.seq (.drawn [(0, ⟨(some 79), none, .mv (.tmp 10)⟩),
                (1, ⟨(some 80), none, .lenS (.tmp 79)⟩),
                (2, ⟨(some 81), none, .bin .neq 3 (.tmp 80) (.const (Go.Value.int Go.IntKind.i64 5))⟩),
                (3, ⟨(some 82), none, .mv (.tmp 81)⟩),
                (4, ⟨(some 83), (some (82, false)), .mv (.tmp 10)⟩),
                (5, ⟨(some 84), (some (82, false)), .mv (.tmp 11)⟩),
                (6, ⟨(some 85), (some (82, false)), .idx (.tmp 83) (.tmp 84) 1⟩),
                (7, ⟨(some 86), (some (82, false)), .ld (.tmp 85) none⟩),
                (8, ⟨(some 87), (some (82, false)), .mv (.tmp 6)⟩),
                (9, ⟨(some 88), (some (82, false)), .mv (.tmp 11)⟩),
                (10, ⟨(some 89), (some (82, false)), .nilc (.tmp 87)⟩),
                (11, ⟨(some 90), (some (82, false)), .fld (.tmp 89) 0⟩),
                (12, ⟨(some 91), (some (82, false)), .ixp (.tmp 90) (.tmp 88) 5 1⟩),
                (13, ⟨(some 92), (some (82, false)), .ld (.tmp 91) none⟩),
                (14, ⟨(some 93), (some (82, false)), .bin .neq 3 (.tmp 86) (.tmp 92)⟩),
                (15, ⟨(some 94), none, .pick (.tmp 82) (.const (Go.Value.bool true)) (.tmp 93)⟩),
                (16, ⟨(some 95), none, .mv (.tmp 94)⟩),
                (17, ⟨(some 96), (some (95, false)), .mv (.tmp 5)⟩),
                (18, ⟨(some 97), (some (95, false)), .mv (.tmp 11)⟩),
                (20, ⟨(some 99), (some (95, false)), .mv (.tmp 6)⟩),
                (21, ⟨(some 100), (some (95, false)), .mv (.tmp 11)⟩),
                (22, ⟨(some 101), (some (95, false)), .nilc (.tmp 99)⟩),
                (23, ⟨(some 102), (some (95, false)), .fld (.tmp 101) 0⟩),
                (24, ⟨(some 103), (some (95, false)), .ixp (.tmp 102) (.tmp 100) 5 1⟩),
                (25, ⟨(some 104), (some (95, false)), .ld (.tmp 103) none⟩),
                (19, ⟨(some 98), (some (95, false)), .call 55 [(.tmp 96), (.tmp 97)]⟩),
                (26, ⟨(some 105), (some (95, false)), .bin .neq 3 (.tmp 98) (.tmp 104)⟩),
                (27, ⟨(some 106), none, .pick (.tmp 95) (.const (Go.Value.bool true)) (.tmp 105)⟩),
                (28, ⟨(some 107), none, .mv (.tmp 106)⟩),
                (29, ⟨(some 108), (some (107, false)), .mv (.tmp 5)⟩),
                (30, ⟨(some 109), (some (107, false)), .mv (.tmp 11)⟩),
                (31, ⟨(some 110), (some (107, false)), .mv (.tmp 7)⟩),
                (33, ⟨(some 112), (some (107, false)), .mv (.tmp 12)⟩),
                (32, ⟨(some 111), (some (107, false)), .call 56 [(.tmp 108), (.tmp 109), (.tmp 110)]⟩),
                (34, ⟨(some 113), (some (107, false)), .bin .neq 3 (.tmp 111) (.tmp 112)⟩),
                (35, ⟨(some 114), none, .pick (.tmp 107) (.const (Go.Value.bool true)) (.tmp 113)⟩)]
                [[], [0], [1], [2], [3], [3], [4, 5, 3], [6, 3], [3], [3], [8, 3], [10, 3], [11, 9, 3], [12, 3], [7, 13, 3], [3, 14], [15, 3], [16], [16], [17, 18, 16, 16], [16], [16], [20, 16], [22, 16], [23, 21, 16], [24, 16], [19, 25, 16], [16, 26], [27, 19], [28], [28], [28], [29, 30, 31, 28, 28], [28], [32, 33, 28], [28, 34]]
                [0, 1, 3, 7, 15, 15, 63, 127, 15, 15, 271, 1295, 3855, 7951, 16383, 32767, 65535, 131071, 131071, 524287, 131071, 131071, 1179647, 5373951, 15859711, 32636927, 67108863, 134217727, 268435455, 536870911, 536870911, 536870911, 4294967295, 536870911, 17179869183, 34359738367] 4295491584)
              (.cond (.tmp 114)
                (.seq (.ops [⟨(some 4), none, .mv (.const (Go.Value.bool false))⟩])
                (.ret))
                (.skip))))))
            (.ops [⟨(some 67), none, .mv (.tmp 11)⟩,
              ⟨(some 68), none, .bin .add 3 (.tmp 67) (.const (Go.Value.int Go.IntKind.i64 1))⟩,
              ⟨(some 11), none, .mv (.tmp 68)⟩]))))))
        (.seq (.ops [⟨(some 115), none, .mv (.tmp 5)⟩,
          ⟨(some 116), none, .mv (.tmp 1)⟩,
          ⟨(some 117), none, .mv (.tmp 7)⟩,
          ⟨(some 118), none, .call 37 [(.tmp 115), (.tmp 116), (.tmp 117)]⟩,
          ⟨(some 119), none, .mv (.tmp 6)⟩,
          ⟨(some 120), none, .mv (.tmp 1)⟩,
          ⟨(some 121), none, .mv (.tmp 7)⟩,
          ⟨(some 122), none, .call 57 [(.tmp 119), (.tmp 120), (.tmp 121)]⟩,
          ⟨(some 123), none, .bin .neq 3 (.tmp 118) (.tmp 122)⟩,
          ⟨(some 124), none, .mv (.tmp 123)⟩,
          ⟨(some 125), (some (124, false)), .mv (.tmp 5)⟩,
          ⟨(some 126), (some (124, false)), .call 55 [(.tmp 125), (.const (Go.Value.int Go.IntKind.i64 5))]⟩,
          ⟨(some 127), (some (124, false)), .bin .neq 3 (.tmp 126) (.const (Go.Value.int Go.IntKind.i64 0))⟩,
          ⟨(some 128), none, .pick (.tmp 124) (.const (Go.Value.bool true)) (.tmp 127)⟩,
          ⟨(some 129), none, .mv (.tmp 128)⟩,
          ⟨(some 130), (some (129, false)), .mv (.tmp 5)⟩,
          ⟨(some 131), (some (129, false)), .call 55 [(.tmp 130), (.const (Go.Value.int Go.IntKind.i64 (-1)))]⟩,
          ⟨(some 132), (some (129, false)), .bin .neq 3 (.tmp 131) (.const (Go.Value.int Go.IntKind.i64 0))⟩,
          ⟨(some 133), none, .pick (.tmp 129) (.const (Go.Value.bool true)) (.tmp 132)⟩,
          ⟨(some 134), none, .mv (.tmp 133)⟩,
          ⟨(some 135), (some (134, false)), .mv (.tmp 5)⟩,
          ⟨(some 136), (some (134, false)), .mv (.tmp 7)⟩,
          ⟨(some 137), (some (134, false)), .call 56 [(.tmp 135), (.const (Go.Value.int Go.IntKind.i64 5)), (.tmp 136)]⟩,
          ⟨(some 138), (some (134, false)), .bin .neq 3 (.tmp 137) (.const (Go.Value.int Go.IntKind.i64 0))⟩,
          ⟨(some 139), none, .pick (.tmp 134) (.const (Go.Value.bool true)) (.tmp 138)⟩])
        (.cond (.tmp 139)
          (.seq (.ops [⟨(some 4), none, .mv (.const (Go.Value.bool false))⟩])
          (.ret))
          (.skip)))))))))
      (.ops [⟨(some 26), none, .mv (.tmp 8)⟩,
        ⟨(some 27), none, .bin .add 3 (.tmp 26) (.const (Go.Value.int Go.IntKind.i64 1))⟩,
        ⟨(some 8), none, .mv (.tmp 27)⟩]))))))
  (.seq (.ops [⟨(some 4), none, .mv (.const (Go.Value.bool true))⟩])
  (.ret)))))))
theorem is_law13_MarksPlay : FnIs Try.prog F.law13_MarksPlay X.law13_MarksPlay 140 [.tmp 4] := ⟨by kernel_rfl⟩

/-- haycroft/haycroftlaw13.MarksNil: function 13 -/
abbrev F.law13_MarksNil : FuncId := 13
def X.law13_MarksNil : X :=
  .seq (.ops [⟨(some 1), none, .box 59 (.tmp 0)⟩,
    ⟨(some 2), none, .mv (.const (Go.Value.bool false))⟩])
  (.seq (.seq (.ops [⟨(some 4), none, .call 34 []⟩,
    ⟨(some 5), none, .un .not (.tmp 4)⟩])
  (.cond (.tmp 5)
    (.seq (.ops [⟨(some 2), none, .mv (.const (Go.Value.bool false))⟩])
    (.ret))
    (.skip)))
  (.seq (.ops [⟨(some 3), none, .mv (.const (Go.Value.pointer none))⟩])
  (.seq (.ops [⟨(some 6), none, .mv (.tmp 3)⟩,
    ⟨(some 7), none, .fld (.tmp 1) 1⟩,
    ⟨(some 8), none, .ld (.tmp 7) none⟩,
    ⟨(some 9), none, .call 55 [(.tmp 6), (.tmp 8)]⟩,
    ⟨(some 10), none, .bin .eql 3 (.tmp 9) (.const (Go.Value.int Go.IntKind.i64 0))⟩,
    ⟨(some 11), none, .mv (.tmp 10)⟩,
    ⟨(some 12), (some (11, true)), .mv (.tmp 3)⟩,
    ⟨(some 13), (some (11, true)), .fld (.tmp 1) 1⟩,
    ⟨(some 14), (some (11, true)), .ld (.tmp 13) none⟩,
    ⟨(some 15), (some (11, true)), .fld (.tmp 1) 2⟩,
    ⟨(some 16), (some (11, true)), .ld (.tmp 15) none⟩,
    ⟨(some 17), (some (11, true)), .call 56 [(.tmp 12), (.tmp 14), (.tmp 16)]⟩,
    ⟨(some 18), (some (11, true)), .bin .eql 3 (.tmp 17) (.const (Go.Value.int Go.IntKind.i64 0))⟩,
    ⟨(some 19), none, .pick (.tmp 11) (.tmp 18) (.const (Go.Value.bool false))⟩,
    ⟨(some 20), none, .mv (.tmp 19)⟩,
    ⟨(some 21), (some (20, true)), .mv (.tmp 3)⟩,
    ⟨(some 22), (some (20, true)), .fld (.tmp 1) 1⟩,
    ⟨(some 23), (some (20, true)), .ld (.tmp 22) none⟩,
    ⟨(some 24), (some (20, true)), .fld (.tmp 1) 2⟩,
    ⟨(some 25), (some (20, true)), .ld (.tmp 24) none⟩,
    ⟨(some 26), (some (20, true)), .fld (.tmp 1) 2⟩,
    ⟨(some 27), (some (20, true)), .ld (.tmp 26) none⟩,
    ⟨(some 28), (some (20, true)), .call 38 [(.tmp 21), (.tmp 23), (.tmp 25), (.tmp 27)]⟩,
    ⟨(some 29), (some (20, true)), .bin .eql 26 (.tmp 28) (.const (Go.Value.int Go.IntKind.i64 2))⟩,
    ⟨(some 30), none, .pick (.tmp 20) (.tmp 29) (.const (Go.Value.bool false))⟩,
    ⟨(some 31), none, .mv (.tmp 30)⟩,
    ⟨(some 32), (some (31, true)), .mv (.tmp 3)⟩,
    ⟨(some 33), (some (31, true)), .fld (.tmp 1) 2⟩,
    ⟨(some 34), (some (31, true)), .ld (.tmp 33) none⟩,
    ⟨(some 35), (some (31, true)), .fld (.tmp 1) 2⟩,
    ⟨(some 36), (some (31, true)), .ld (.tmp 35) none⟩,
    ⟨(some 37), (some (31, true)), .call 37 [(.tmp 32), (.tmp 34), (.tmp 36)]⟩,
    ⟨(some 38), (some (31, true)), .bin .eql 3 (.tmp 37) (.const (Go.Value.int Go.IntKind.i64 0))⟩,
    ⟨(some 39), none, .pick (.tmp 31) (.tmp 38) (.const (Go.Value.bool false))⟩,
    ⟨(some 40), none, .mv (.tmp 39)⟩,
    ⟨(some 41), (some (40, true)), .mv (.tmp 3)⟩,
    ⟨(some 42), (some (40, true)), .call 36 [(.tmp 41)]⟩,
    ⟨(some 43), (some (40, true)), .lenS (.tmp 42)⟩,
    ⟨(some 44), (some (40, true)), .bin .eql 3 (.tmp 43) (.const (Go.Value.int Go.IntKind.i64 0))⟩,
    ⟨(some 45), none, .pick (.tmp 40) (.tmp 44) (.const (Go.Value.bool false))⟩,
    ⟨(some 46), none, .mv (.tmp 45)⟩,
    ⟨(some 47), (some (46, true)), .mv (.tmp 3)⟩,
    ⟨(some 48), (some (46, true)), .fld (.tmp 1) 2⟩,
    ⟨(some 49), (some (46, true)), .ld (.tmp 48) none⟩,
    ⟨(some 50), (some (46, true)), .call 52 [(.tmp 47), (.tmp 49)]⟩,
    ⟨(some 51), (some (46, true)), .bin .eql 26 (.tmp 50) (.const (Go.Value.int Go.IntKind.i64 2))⟩,
    ⟨(some 52), none, .pick (.tmp 46) (.tmp 51) (.const (Go.Value.bool false))⟩,
    ⟨(some 2), none, .mv (.tmp 52)⟩])
  (.ret))))
theorem is_law13_MarksNil : FnIs Try.prog F.law13_MarksNil X.law13_MarksNil 53 [.tmp 2] := ⟨by kernel_rfl⟩

end Go.Proofs.Ytbinpajhmnfhoaa
