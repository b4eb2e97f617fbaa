import Derived.Test.YtfchenbihepjaaaProg
import Derived.Test.YtfchenbihepjaaaHxS
import Derived.KernelRfl
namespace Go.Proofs.Ytfchenbihepjaaa
open Go Go.HX
abbrev T.int64 : TypeId := 2
abbrev T.int : TypeId := 3
abbrev T.bool : TypeId := 4
abbrev T.uint8 : TypeId := 5
abbrev T.abi_BoundsErrorCode : TypeId := 6
abbrev T.string : TypeId := 9
abbrev T.uintptr : TypeId := 12
abbrev T.ptr_abi_Type : TypeId := 17
abbrev T.maps_unhashableTypeError : TypeId := 19
abbrev T.interface : TypeId := 20
abbrev T.int32 : TypeId := 21
abbrev T.slice_haycroftlaw11_Act : TypeId := 22
abbrev T.api_Block : TypeId := 24
abbrev T.ptr_device_Device : TypeId := 26
abbrev T.slice_int : TypeId := 28
abbrev T.haycroftlaw11_Act : TypeId := 30
abbrev T.api_Errno : TypeId := 31
abbrev T.int_api_Errno : TypeId := 32
abbrev T.string_api_Errno : TypeId := 36
abbrev T.string_bool : TypeId := 39
abbrev T.ptr_haycroftref11_Device : TypeId := 44
abbrev T.slice_haycroftref11_Item : TypeId := 45
abbrev T.slice_haycroftref11_Job : TypeId := 46
abbrev T.haycroftref11_Device : TypeId := 48
abbrev T.slice_api_Block : TypeId := 54
abbrev T.slice_haycroftlaw12_Act : TypeId := 57
abbrev T.ptr_pages_Buffer : TypeId := 58
abbrev T.ptr_pages_Buffer_api_Errno : TypeId := 59
abbrev T.ptr_haycroftref12_Buffer : TypeId := 61
abbrev T.ptr_haycroftref12_Buffer_api_Errno : TypeId := 62
abbrev T.uint64 : TypeId := 65
abbrev T.slice_uint64 : TypeId := 66
abbrev T.haycroftlaw12_Act : TypeId := 68
abbrev T.slice_uint64_api_Errno : TypeId := 69
abbrev T.slice_haycroftref12_One : TypeId := 74
abbrev T.haycroftref12_Buffer : TypeId := 76
abbrev T.haycroftref12_One : TypeId := 79
abbrev T.uint64_api_Errno : TypeId := 82
abbrev T.bool_api_Errno : TypeId := 84
abbrev T.map_api_Block_string : TypeId := 90
abbrev T.map_int_device_job : TypeId := 91
abbrev T.map_int_device_answer : TypeId := 92
abbrev T.device_Device : TypeId := 94
abbrev T.device_job : TypeId := 97
abbrev T.device_job_bool : TypeId := 98
abbrev T.device_answer : TypeId := 100
abbrev T.device_answer_bool : TypeId := 101
abbrev T.haycroftref11_Item : TypeId := 105
abbrev T.iter_Seq_int : TypeId := 108
abbrev T.haycroftref11_Job : TypeId := 111
abbrev T.iter_Seq_haycroft_api_Block : TypeId := 114
abbrev T.ptr_cell_Row : TypeId := 119
abbrev T.ptr_cell_Row_api_Errno : TypeId := 120
abbrev T.pages_Buffer : TypeId := 123
abbrev T.int_int_api_Errno : TypeId := 124
abbrev T.slice_device_job : TypeId := 137
abbrev T.iter_Seq_haycroft_device_job : TypeId := 140
abbrev T.slice_atomic_Uint64 : TypeId := 146
abbrev T.struct : TypeId := 147
abbrev T.atomic_noCopy : TypeId := 148
abbrev T.atomic_align64 : TypeId := 149
abbrev T.atomic_Int64 : TypeId := 151
abbrev T.cell_Row : TypeId := 153
abbrev T.atomic_Uint64 : TypeId := 157
abbrev T.uint : TypeId := 161
abbrev T.ptr_atomic_Uint64 : TypeId := 172
abbrev T.ptr_uint64 : TypeId := 174
abbrev T.slices_sortedHint : TypeId := 176
abbrev T.int_slices_sortedHint : TypeId := 177
abbrev T.int_bool : TypeId := 181
abbrev T.uint32 : TypeId := 184
abbrev T.ptr_atomic_Int64 : TypeId := 186
abbrev T.ptr_int64 : TypeId := 188
abbrev T.slices_xorshift : TypeId := 196
abbrev T.ptr_int : TypeId := 199
abbrev T.ptr_slices_xorshift : TypeId := 204
abbrev T.int_int : TypeId := 205
abbrev T.abi_TFlag : TypeId := 214
abbrev T.abi_Kind : TypeId := 215
abbrev T.ptr_uint8 : TypeId := 217
abbrev T.abi_NameOff : TypeId := 218
abbrev T.abi_TypeOff : TypeId := 219
abbrev T.abi_Type : TypeId := 221
abbrev T.unsafe_Pointer : TypeId := 223
/-- haycroft/device.New: function 10 -/
abbrev F.device_New : FuncId := 10
def X.device_New : X :=
  .seq (.ops [⟨(some 0), none, .mv (.const (Go.Value.pointer none))⟩])
  (.seq (.ops [⟨(some 1), none, .more .mkm⟩,
    ⟨(some 2), none, .more .mkm⟩,
    ⟨(some 3), none, .more .mkm⟩,
    ⟨(some 4), none, .bld [(Go.Value.bool false), (Go.Value.map none), (Go.Value.map none), (Go.Value.map none), (Go.Value.int Go.IntKind.i64 0)] [(1, 1, (.tmp 1)), (2, 1, (.tmp 2)), (3, 1, (.tmp 3))]⟩,
    ⟨(some 5), none, .box 94 (.tmp 4)⟩,
    ⟨(some 0), none, .mv (.tmp 5)⟩])
  (.ret))
theorem is_device_New : FnIs Try.prog F.device_New X.device_New 6 [.tmp 0] := ⟨by kernel_rfl⟩

/-- (*haycroft/device.Device).ask$1: function 77 -/
abbrev F.device_Device_ask_1 : FuncId := 77
def X.device_Device_ask_1 : X :=
  .seq (.ops [⟨(some 2), none, .box 97 (.tmp 0)⟩,
    ⟨(some 3), none, .mv (.const (Go.Value.bool false))⟩])
  (.seq (.ops [⟨(some 4), none, .fld (.tmp 2) 2⟩,
    ⟨(some 5), none, .ld (.tmp 4) none⟩,
    ⟨(some 6), none, .mv (.tmp 5)⟩,
    ⟨(some 7), (some (6, true)), .fld (.tmp 2) 0⟩,
    ⟨(some 8), (some (6, true)), .ld (.tmp 7) (some 2)⟩,
    ⟨(some 9), (some (6, true)), .fld (.tmp 1) 0⟩,
    ⟨(some 10), (some (6, true)), .ld (.tmp 9) (some 2)⟩,
    ⟨(some 11), (some (6, true)), .eq false (.agg 2 [(0, 0), (1, 0)]) (.tmp 8) (.tmp 10)⟩,
    ⟨(some 12), none, .pick (.tmp 6) (.tmp 11) (.const (Go.Value.bool false))⟩,
    ⟨(some 3), none, .mv (.tmp 12)⟩])
  (.ret))
theorem is_device_Device_ask_1 : FnIs Try.prog F.device_Device_ask_1 X.device_Device_ask_1 13 [.tmp 3] := ⟨by kernel_rfl⟩

/-- (*haycroft/device.Device).power: function 46 -/
abbrev F.device_Device_power : FuncId := 46
def X.device_Device_power : X :=
  .seq (.ops [⟨(some 2), none, .mv (.const (Go.Value.int Go.IntKind.i64 0))⟩])
  (.seq (.block 0 (.seq (.ops [⟨(some 4), none, .mv (.tmp 0)⟩,
      ⟨(some 5), none, .eq false .ptr (.tmp 4) (.const (Go.Value.pointer none))⟩,
      ⟨(some 3), none, .mv (.tmp 5)⟩])
    (.cond (.tmp 3)
      (.seq (.ops [⟨(some 2), none, .mv (.const (Go.Value.int Go.IntKind.i64 2))⟩])
      (.ret))
      (.seq (.ops [⟨(some 7), none, .mv (.tmp 0)⟩,
        ⟨(some 8), none, .nilc (.tmp 7)⟩,
        ⟨(some 9), none, .fld (.tmp 8) 0⟩,
        ⟨(some 10), none, .ld (.tmp 9) none⟩,
        ⟨(some 6), none, .mv (.tmp 10)⟩])
      (.cond (.tmp 6)
        (.seq (.ops [⟨(some 2), none, .mv (.const (Go.Value.int Go.IntKind.i64 6))⟩])
        (.ret))
        (.skip))))))
  (.seq (.ops [⟨(some 2), none, .mv (.const (Go.Value.int Go.IntKind.i64 0))⟩])
  (.ret)))
theorem is_device_Device_power : FnIs Try.prog F.device_Device_power X.device_Device_power 11 [.tmp 2] := ⟨by kernel_rfl⟩

/-- haycroft/device.may: function 78 -/
abbrev F.device_may : FuncId := 78
def X.device_may : X :=
  .seq (.ops [⟨(some 1), none, .box 24 (.tmp 0)⟩,
    ⟨(some 2), none, .mv (.const (Go.Value.bool false))⟩])
  (.seq (.ops [⟨(some 3), none, .fld (.tmp 1) 0⟩,
    ⟨(some 4), none, .ld (.tmp 3) none⟩,
    ⟨(some 5), none, .bin .geq 3 (.tmp 4) (.const (Go.Value.int Go.IntKind.i64 0))⟩,
    ⟨(some 6), none, .mv (.tmp 5)⟩,
    ⟨(some 7), (some (6, true)), .fld (.tmp 1) 0⟩,
    ⟨(some 8), (some (6, true)), .ld (.tmp 7) none⟩,
    ⟨(some 9), (some (6, true)), .bin .leq 3 (.tmp 8) (.const (Go.Value.int Go.IntKind.i64 2))⟩,
    ⟨(some 10), none, .pick (.tmp 6) (.tmp 9) (.const (Go.Value.bool false))⟩,
    ⟨(some 11), none, .mv (.tmp 10)⟩,
    ⟨(some 12), (some (11, true)), .fld (.tmp 1) 1⟩,
    ⟨(some 13), (some (11, true)), .ld (.tmp 12) none⟩,
    ⟨(some 14), (some (11, true)), .bin .geq 3 (.tmp 13) (.const (Go.Value.int Go.IntKind.i64 0))⟩,
    ⟨(some 15), none, .pick (.tmp 11) (.tmp 14) (.const (Go.Value.bool false))⟩,
    ⟨(some 16), none, .mv (.tmp 15)⟩,
    ⟨(some 17), (some (16, true)), .fld (.tmp 1) 1⟩,
    ⟨(some 18), (some (16, true)), .ld (.tmp 17) none⟩,
    ⟨(some 19), (some (16, true)), .bin .lss 3 (.tmp 18) (.const (Go.Value.int Go.IntKind.i64 64))⟩,
    ⟨(some 20), none, .pick (.tmp 16) (.tmp 19) (.const (Go.Value.bool false))⟩,
    ⟨(some 2), none, .mv (.tmp 20)⟩])
  (.ret))
theorem is_device_may : FnIs Try.prog F.device_may X.device_may 21 [.tmp 2] := ⟨by kernel_rfl⟩

-- loop (inner ones first): [0, 6]
/-- maps.Values[map[int]haycroft/device.job,int,haycroft/device.job]$1: function 109 -/
abbrev F.maps_Values_map_int_device_job_int_device_job_1 : FuncId := 109
def X.maps_Values_map_int_device_job_int_device_job_1 : X :=
  .seq (.ops [⟨(some 5), none, .ld (.tmp 1) none⟩,
    ⟨(some 6), none, .more (.rng (.tmp 5))⟩])
  (.block 0 (.loop (.seq (.ops [⟨(some 7), none, .more (.nxt (.tmp 6))⟩,
        ⟨(some 8), none, .ext (.tmp 7) 0⟩])
      (.seq (.cond (.tmp 8)
        (.skip)
        (.exit 0))
      (.block 1 (.seq (.ops [⟨(some 9), none, .more (.ent (.tmp 6))⟩,
          ⟨(some 10), none, .ext (.tmp 9) 1⟩,
          ⟨(some 4), none, .new 97 (Go.Value.agg #[(Go.Value.int Go.IntKind.i64 0), (Go.Value.int Go.IntKind.i64 0), (Go.Value.bool false), (Go.Value.string { data := #[] })])⟩,
          ⟨none, none, .st (.tmp 4) (.tmp 10) 4⟩])
        (.seq (.ops [⟨(some 11), none, .mv (.tmp 0)⟩,
          ⟨(some 12), none, .ld (.tmp 4) (some 4)⟩,
          ⟨(some 13), none, .more (.cv (.tmp 11) [(.tmp 12)])⟩,
          ⟨(some 14), none, .un .not (.tmp 13)⟩])
        (.cond (.tmp 14)
          (.ret)
          (.skip)))))))))
theorem is_maps_Values_map_int_device_job_int_device_job_1 : FnIs Try.prog F.maps_Values_map_int_device_job_int_device_job_1 X.maps_Values_map_int_device_job_int_device_job_1 15 [] := ⟨by kernel_rfl⟩

/-- maps.Values[map[int]haycroft/device.job,int,haycroft/device.job]: function 81 -/
abbrev F.maps_Values_map_int_device_job_int_device_job : FuncId := 81
def X.maps_Values_map_int_device_job_int_device_job : X :=
  .seq (.ops [⟨(some 1), none, .box 91 (.tmp 0)⟩,
    ⟨(some 2), none, .mv (.const Go.Value.nilFunc)⟩])
  (.seq (.ops [⟨(some 3), none, .more (.mkf 109 [] [(.tmp 1)])⟩,
    ⟨(some 2), none, .mv (.tmp 3)⟩])
  (.ret))
theorem is_maps_Values_map_int_device_job_int_device_job : FnIs Try.prog F.maps_Values_map_int_device_job_int_device_job X.maps_Values_map_int_device_job_int_device_job 4 [.tmp 2] := ⟨by kernel_rfl⟩
theorem bd_maps_Values_map_int_device_job_int_device_job_1 : bodyOk Try.prog F.maps_Values_map_int_device_job_int_device_job_1 = true := by kernel_rfl

/-- slices.AppendSeq[[]haycroft/device.job,haycroft/device.job]: function 108, not walked -/
abbrev F.slices_AppendSeq_device_job_device_job : FuncId := 108

/-- slices.Collect[haycroft/device.job]: function 80 -/
abbrev F.slices_Collect_device_job : FuncId := 80
def X.slices_Collect_device_job : X :=
  .seq (.ops [⟨(some 2), none, .mv (.const (Go.Value.slice none 0 0))⟩])
  (.seq (.ops [⟨(some 3), none, .mv (.tmp 0)⟩,
    ⟨(some 4), none, .call 108 [(.const (Go.Value.slice none 0 0)), (.tmp 3)]⟩,
    ⟨(some 2), none, .mv (.tmp 4)⟩])
  (.ret))
theorem is_slices_Collect_device_job : FnIs Try.prog F.slices_Collect_device_job X.slices_Collect_device_job 5 [.tmp 2] := ⟨by kernel_rfl⟩

-- loop (inner ones first): [0, 1, 7, 8]
/-- slices.IndexFunc[[]haycroft/device.job,haycroft/device.job]: function 107 -/
abbrev F.slices_IndexFunc_device_job_device_job : FuncId := 107
def X.slices_IndexFunc_device_job_device_job : X :=
  .seq (.ops [⟨(some 4), none, .mv (.const (Go.Value.int Go.IntKind.i64 0))⟩])
  (.seq (.seq (.ops [⟨(some 6), none, .mv (.tmp 0)⟩,
    ⟨(some 7), none, .lenS (.tmp 6)⟩,
    ⟨(some 8), none, .mv (.const (Go.Value.int Go.IntKind.i64 0))⟩])
  (.block 0 (.loop (.seq (.ops [⟨(some 9), none, .bin .lss 3 (.tmp 8) (.tmp 7)⟩])
      (.seq (.cond (.tmp 9)
        (.skip)
        (.exit 0))
      (.seq (.block 1 (.seq (.ops [⟨(some 10), none, .mv (.tmp 8)⟩,
          ⟨(some 5), none, .mv (.tmp 10)⟩])
        (.seq (.ops [⟨(some 11), none, .mv (.tmp 1)⟩,
          ⟨(some 12), none, .mv (.tmp 0)⟩,
          ⟨(some 13), none, .mv (.tmp 5)⟩,
          ⟨(some 14), none, .idx (.tmp 12) (.tmp 13) 4⟩,
          ⟨(some 15), none, .ld (.tmp 14) (some 4)⟩,
          ⟨(some 16), none, .more (.cv (.tmp 11) [(.tmp 15)])⟩])
        (.cond (.tmp 16)
          (.seq (.ops [⟨(some 17), none, .mv (.tmp 5)⟩,
            ⟨(some 4), none, .mv (.tmp 17)⟩])
          (.ret))
          (.skip)))))
      (.ops [⟨(some 18), none, .bin .add 3 (.tmp 8) (.const (Go.Value.int Go.IntKind.i64 1))⟩,
        ⟨(some 8), none, .mv (.tmp 18)⟩])))))))
  (.seq (.ops [⟨(some 4), none, .mv (.const (Go.Value.int Go.IntKind.i64 (-1)))⟩])
  (.ret)))
theorem is_slices_IndexFunc_device_job_device_job : FnIs Try.prog F.slices_IndexFunc_device_job_device_job X.slices_IndexFunc_device_job_device_job 19 [.tmp 4] := ⟨by kernel_rfl⟩

/-- slices.ContainsFunc[[]haycroft/device.job,haycroft/device.job]: function 79 -/
abbrev F.slices_ContainsFunc_device_job_device_job : FuncId := 79
def X.slices_ContainsFunc_device_job_device_job : X :=
  .seq (.ops [⟨(some 4), none, .mv (.const (Go.Value.bool false))⟩])
  (.seq (.ops [⟨(some 5), none, .mv (.tmp 0)⟩,
    ⟨(some 6), none, .mv (.tmp 1)⟩,
    ⟨(some 7), none, .call 107 [(.tmp 5), (.tmp 6)]⟩,
    ⟨(some 8), none, .bin .geq 3 (.tmp 7) (.const (Go.Value.int Go.IntKind.i64 0))⟩,
    ⟨(some 4), none, .mv (.tmp 8)⟩])
  (.ret))
theorem is_slices_ContainsFunc_device_job_device_job : FnIs Try.prog F.slices_ContainsFunc_device_job_device_job X.slices_ContainsFunc_device_job_device_job 9 [.tmp 4] := ⟨by kernel_rfl⟩

/-- (*haycroft/device.Device).ask: function 45 -/
abbrev F.device_Device_ask : FuncId := 45
def X.device_Device_ask : X :=
  .seq (.ops [⟨(some 3), none, .box 97 (.tmp 1)⟩,
    ⟨(some 4), none, .mv (.const (Go.Value.int Go.IntKind.i64 0))⟩,
    ⟨(some 5), none, .mv (.const (Go.Value.int Go.IntKind.i64 0))⟩])
  (.seq (.ops [⟨(some 8), none, .more (.mkf 77 [] [(.tmp 3)])⟩,
    ⟨(some 6), none, .mv (.tmp 8)⟩])
  (.seq (.seq (.ops [⟨(some 9), none, .mv (.tmp 0)⟩,
    ⟨(some 10), none, .call 46 [(.tmp 9)]⟩,
    ⟨(some 7), none, .mv (.tmp 10)⟩])
  (.block 0 (.seq (.ops [⟨(some 12), none, .mv (.tmp 7)⟩,
      ⟨(some 13), none, .bin .neq 31 (.tmp 12) (.const (Go.Value.int Go.IntKind.i64 0))⟩,
      ⟨(some 11), none, .mv (.tmp 13)⟩])
    (.cond (.tmp 11)
      (.seq (.ops [⟨(some 14), none, .mv (.tmp 7)⟩,
        ⟨(some 4), none, .mv (.const (Go.Value.int Go.IntKind.i64 0))⟩,
        ⟨(some 5), none, .mv (.tmp 14)⟩])
      (.ret))
      (.seq (.ops [⟨(some 16), none, .fld (.tmp 3) 0⟩,
        ⟨(some 17), none, .ld (.tmp 16) (some 2)⟩,
        ⟨(some 18), none, .call 78 [(.tmp 17)]⟩,
        ⟨(some 19), none, .un .not (.tmp 18)⟩,
        ⟨(some 15), none, .mv (.tmp 19)⟩])
      (.cond (.tmp 15)
        (.seq (.ops [⟨(some 4), none, .mv (.const (Go.Value.int Go.IntKind.i64 0))⟩,
          ⟨(some 5), none, .mv (.const (Go.Value.int Go.IntKind.i64 1))⟩])
        (.ret))
        (.seq (.ops [⟨(some 21), none, .fld (.tmp 3) 3⟩,
          ⟨(some 22), none, .ld (.tmp 21) none⟩,
          ⟨(some 23), none, .lenB (.tmp 22)⟩,
          ⟨(some 24), none, .bin .gtr 3 (.tmp 23) (.const (Go.Value.int Go.IntKind.i64 131072))⟩,
          ⟨(some 20), none, .mv (.tmp 24)⟩])
        (.cond (.tmp 20)
          (.seq (.ops [⟨(some 4), none, .mv (.const (Go.Value.int Go.IntKind.i64 0))⟩,
            ⟨(some 5), none, .mv (.const (Go.Value.int Go.IntKind.i64 5))⟩])
          (.ret))
          (.seq (.ops [⟨(some 26), none, .fld (.tmp 3) 2⟩,
            ⟨(some 27), none, .ld (.tmp 26) none⟩,
            ⟨(some 28), none, .mv (.tmp 27)⟩,
            ⟨(some 29), (some (28, true)), .mv (.tmp 0)⟩,
            ⟨(some 30), (some (28, true)), .nilc (.tmp 29)⟩,
            ⟨(some 31), (some (28, true)), .fld (.tmp 30) 2⟩,
            ⟨(some 32), (some (28, true)), .ld (.tmp 31) none⟩,
            ⟨(some 33), (some (28, true)), .call 81 [(.tmp 32)]⟩,
            ⟨(some 34), (some (28, true)), .call 80 [(.tmp 33)]⟩,
            ⟨(some 35), (some (28, true)), .mv (.tmp 6)⟩,
            ⟨(some 36), (some (28, true)), .call 79 [(.tmp 34), (.tmp 35)]⟩,
            ⟨(some 37), none, .pick (.tmp 28) (.tmp 36) (.const (Go.Value.bool false))⟩,
            ⟨(some 25), none, .mv (.tmp 37)⟩])
          (.cond (.tmp 25)
            (.seq (.ops [⟨(some 4), none, .mv (.const (Go.Value.int Go.IntKind.i64 0))⟩,
              ⟨(some 5), none, .mv (.const (Go.Value.int Go.IntKind.i64 10))⟩])
            (.ret))
            (.seq (.ops [⟨(some 39), none, .mv (.tmp 0)⟩,
              ⟨(some 40), none, .nilc (.tmp 39)⟩,
              ⟨(some 41), none, .fld (.tmp 40) 2⟩,
              ⟨(some 42), none, .ld (.tmp 41) none⟩,
              ⟨(some 43), none, .more (.lenM (.tmp 42))⟩,
              ⟨(some 44), none, .bin .geq 3 (.tmp 43) (.const (Go.Value.int Go.IntKind.i64 32))⟩,
              ⟨(some 38), none, .mv (.tmp 44)⟩])
            (.cond (.tmp 38)
              (.seq (.ops [⟨(some 4), none, .mv (.const (Go.Value.int Go.IntKind.i64 0))⟩,
                ⟨(some 5), none, .mv (.const (Go.Value.int Go.IntKind.i64 9))⟩])
              (.ret))
              (.skip)))))))))))))
  (.seq (.ops [⟨(some 45), none, .mv (.tmp 0)⟩,
    ⟨(some 46), none, .nilc (.tmp 45)⟩,
    ⟨(some 47), none, .fld (.tmp 46) 4⟩,
    ⟨(some 48), none, .ld (.tmp 47) none⟩,
    ⟨(some 49), none, .bin .add 3 (.tmp 48) (.const (Go.Value.int Go.IntKind.i64 1))⟩,
    ⟨(some 50), none, .nilc (.tmp 45)⟩,
    ⟨(some 51), none, .fld (.tmp 50) 4⟩,
    ⟨none, none, .st (.tmp 51) (.tmp 49) 1⟩])
  (.seq (.drawn [(0, ⟨(some 52), none, .mv (.tmp 0)⟩),
    (1, ⟨(some 53), none, .nilc (.tmp 52)⟩),
    (2, ⟨(some 54), none, .fld (.tmp 53) 2⟩),
    (3, ⟨(some 55), none, .ld (.tmp 54) none⟩),
    (4, ⟨(some 56), none, .mv (.tmp 0)⟩),
    (5, ⟨(some 57), none, .nilc (.tmp 56)⟩),
    (6, ⟨(some 58), none, .fld (.tmp 57) 4⟩),
    (7, ⟨(some 59), none, .ld (.tmp 58) none⟩),
    (8, ⟨(some 60), none, .ld (.tmp 3) (some 4)⟩),
    (9, ⟨none, none, .more (.mup 3 (.tmp 55) (.tmp 59) (.tmp 60))⟩)]
    [[], [0], [1], [2], [], [4], [5], [6], [], [3, 7, 8, 0, 1, 2, 3, 4, 5, 6, 7, 8]]
    [0, 1, 3, 7, 0, 16, 48, 112, 0, 511] 512)
  (.seq (.ops [⟨(some 61), none, .mv (.tmp 0)⟩,
    ⟨(some 62), none, .nilc (.tmp 61)⟩,
    ⟨(some 63), none, .fld (.tmp 62) 4⟩,
    ⟨(some 64), none, .ld (.tmp 63) none⟩,
    ⟨(some 4), none, .mv (.tmp 64)⟩,
    ⟨(some 5), none, .mv (.const (Go.Value.int Go.IntKind.i64 0))⟩])
  (.ret))))))
theorem is_device_Device_ask : FnIs Try.prog F.device_Device_ask X.device_Device_ask 65 [.tmp 4, .tmp 5] := ⟨by kernel_rfl⟩
theorem bd_device_Device_ask_1 : bodyOk Try.prog F.device_Device_ask_1 = true := by kernel_rfl

/-- (*haycroft/device.Device).Write: function 11 -/
abbrev F.device_Device_Write : FuncId := 11
def X.device_Device_Write : X :=
  .seq (.ops [⟨(some 4), none, .box 24 (.tmp 1)⟩,
    ⟨(some 6), none, .mv (.const (Go.Value.int Go.IntKind.i64 0))⟩,
    ⟨(some 7), none, .mv (.const (Go.Value.int Go.IntKind.i64 0))⟩])
  (.seq (.ops [⟨(some 8), none, .mv (.tmp 0)⟩,
    ⟨(some 9), none, .ld (.tmp 4) (some 2)⟩,
    ⟨(some 10), none, .mv (.tmp 2)⟩,
    ⟨(some 11), none, .bld [(Go.Value.int Go.IntKind.i64 0), (Go.Value.int Go.IntKind.i64 0), (Go.Value.bool false), (Go.Value.string { data := #[] })] [(0, 2, (.tmp 9)), (2, 1, (.const (Go.Value.bool true))), (3, 1, (.tmp 10))]⟩,
    ⟨(some 12), none, .call 45 [(.tmp 8), (.tmp 11)]⟩,
    ⟨(some 13), none, .ext (.tmp 12) 0⟩,
    ⟨(some 14), none, .ext (.tmp 12) 1⟩,
    ⟨(some 6), none, .mv (.tmp 13)⟩,
    ⟨(some 7), none, .mv (.tmp 14)⟩])
  (.ret))
theorem is_device_Device_Write : FnIs Try.prog F.device_Device_Write X.device_Device_Write 15 [.tmp 6, .tmp 7] := ⟨by kernel_rfl⟩

/-- (*haycroft/device.Device).Peek: function 16 -/
abbrev F.device_Device_Peek : FuncId := 16
def X.device_Device_Peek : X :=
  .seq (.ops [⟨(some 3), none, .box 24 (.tmp 1)⟩,
    ⟨(some 4), none, .mv (.const (Go.Value.string { data := #[] }))⟩,
    ⟨(some 5), none, .mv (.const (Go.Value.bool false))⟩])
  (.seq (.seq (.ops [⟨(some 8), none, .mv (.tmp 0)⟩,
    ⟨(some 9), none, .eq false .ptr (.tmp 8) (.const (Go.Value.pointer none))⟩])
  (.cond (.tmp 9)
    (.seq (.ops [⟨(some 4), none, .mv (.const (Go.Value.string { data := #[] }))⟩,
      ⟨(some 5), none, .mv (.const (Go.Value.bool false))⟩])
    (.ret))
    (.skip)))
  (.seq (.drawn [(0, ⟨(some 11), none, .mv (.tmp 0)⟩),
    (1, ⟨(some 12), none, .nilc (.tmp 11)⟩),
    (2, ⟨(some 13), none, .fld (.tmp 12) 1⟩),
    (3, ⟨(some 14), none, .ld (.tmp 13) none⟩),
    (4, ⟨(some 15), none, .ld (.tmp 3) (some 2)⟩),
    (5, ⟨(some 16), none, .more (.lkp 24 (Go.Value.string { data := #[] }) true (.tmp 14) (.tmp 15))⟩),
    (6, ⟨(some 10), none, .mv (.tmp 16)⟩),
    (7, ⟨(some 17), none, .ext (.tmp 10) 0⟩),
    (8, ⟨(some 18), none, .ext (.tmp 10) 1⟩),
    (9, ⟨(some 6), none, .mv (.tmp 17)⟩),
    (10, ⟨(some 7), none, .mv (.tmp 18)⟩)]
    [[], [0], [1], [2], [], [3, 4], [5], [6], [6], [7, 0, 1, 2, 3, 4, 5, 6, 7], [8, 9, 0, 1, 2, 3, 4, 5, 6, 7, 8, 9]]
    [0, 1, 3, 7, 0, 31, 63, 127, 127, 255, 1023] 0)
  (.seq (.ops [⟨(some 19), none, .mv (.tmp 6)⟩,
    ⟨(some 20), none, .mv (.tmp 7)⟩,
    ⟨(some 4), none, .mv (.tmp 19)⟩,
    ⟨(some 5), none, .mv (.tmp 20)⟩])
  (.ret))))
theorem is_device_Device_Peek : FnIs Try.prog F.device_Device_Peek X.device_Device_Peek 21 [.tmp 4, .tmp 5] := ⟨by kernel_rfl⟩

/-- (*haycroft/device.Device).Do: function 13 -/
abbrev F.device_Device_Do : FuncId := 13
def X.device_Device_Do : X :=
  .seq (.ops [⟨(some 4), none, .mv (.const (Go.Value.int Go.IntKind.i64 0))⟩])
  (.seq (.seq (.ops [⟨(some 11), none, .mv (.tmp 0)⟩,
    ⟨(some 12), none, .call 46 [(.tmp 11)]⟩,
    ⟨(some 5), none, .mv (.tmp 12)⟩])
  (.seq (.ops [⟨(some 13), none, .mv (.tmp 5)⟩,
    ⟨(some 14), none, .bin .neq 31 (.tmp 13) (.const (Go.Value.int Go.IntKind.i64 0))⟩])
  (.cond (.tmp 14)
    (.seq (.ops [⟨(some 15), none, .mv (.tmp 5)⟩,
      ⟨(some 4), none, .mv (.tmp 15)⟩])
    (.ret))
    (.skip))))
  (.seq (.ops [⟨(some 17), none, .mv (.tmp 0)⟩,
    ⟨(some 18), none, .nilc (.tmp 17)⟩,
    ⟨(some 19), none, .fld (.tmp 18) 2⟩,
    ⟨(some 20), none, .ld (.tmp 19) none⟩,
    ⟨(some 21), none, .mv (.tmp 1)⟩,
    ⟨(some 22), none, .more (.lkp 3 (Go.Value.agg #[(Go.Value.int Go.IntKind.i64 0), (Go.Value.int Go.IntKind.i64 0), (Go.Value.bool false), (Go.Value.string { data := #[] })]) true (.tmp 20) (.tmp 21))⟩,
    ⟨(some 16), none, .mv (.tmp 22)⟩,
    ⟨(some 23), none, .ext (.tmp 16) 0⟩,
    ⟨(some 24), none, .ext (.tmp 16) 1⟩,
    ⟨(some 6), none, .new 97 (Go.Value.agg #[(Go.Value.int Go.IntKind.i64 0), (Go.Value.int Go.IntKind.i64 0), (Go.Value.bool false), (Go.Value.string { data := #[] })])⟩,
    ⟨none, none, .st (.tmp 6) (.tmp 23) 4⟩,
    ⟨(some 7), none, .mv (.tmp 24)⟩])
  (.seq (.seq (.ops [⟨(some 25), none, .mv (.tmp 7)⟩,
    ⟨(some 26), none, .un .not (.tmp 25)⟩])
  (.cond (.tmp 26)
    (.seq (.ops [⟨(some 4), none, .mv (.const (Go.Value.int Go.IntKind.i64 7))⟩])
    (.ret))
    (.skip)))
  (.seq (.ops [⟨(some 27), none, .mv (.tmp 0)⟩,
    ⟨(some 28), none, .nilc (.tmp 27)⟩,
    ⟨(some 29), none, .fld (.tmp 28) 2⟩,
    ⟨(some 30), none, .ld (.tmp 29) none⟩,
    ⟨(some 31), none, .mv (.tmp 1)⟩,
    ⟨none, none, .more (.del 3 (.tmp 30) (.tmp 31))⟩])
  (.seq (.ops [⟨(some 8), none, .new 100 (Go.Value.agg #[(Go.Value.string { data := #[] }), (Go.Value.bool false)])⟩])
  (.seq (.seq (.ops [⟨(some 32), none, .fld (.tmp 6) 2⟩,
    ⟨(some 33), none, .ld (.tmp 32) none⟩])
  (.cond (.tmp 33)
    (.drawn [(0, ⟨(some 34), none, .mv (.tmp 0)⟩),
      (1, ⟨(some 35), none, .nilc (.tmp 34)⟩),
      (2, ⟨(some 36), none, .fld (.tmp 35) 1⟩),
      (3, ⟨(some 37), none, .ld (.tmp 36) none⟩),
      (4, ⟨(some 38), none, .fld (.tmp 6) 0⟩),
      (5, ⟨(some 39), none, .ld (.tmp 38) (some 2)⟩),
      (6, ⟨(some 40), none, .fld (.tmp 6) 3⟩),
      (7, ⟨(some 41), none, .ld (.tmp 40) none⟩),
      (8, ⟨none, none, .more (.mup 24 (.tmp 37) (.tmp 39) (.tmp 41))⟩)]
      [[], [0], [1], [2], [], [4], [], [6], [3, 5, 7, 0, 1, 2, 3, 4, 5, 6, 7]]
      [0, 1, 3, 7, 0, 16, 0, 64, 255] 256)
    (.seq (.drawn [(0, ⟨(some 43), none, .mv (.tmp 0)⟩),
      (1, ⟨(some 44), none, .nilc (.tmp 43)⟩),
      (2, ⟨(some 45), none, .fld (.tmp 44) 1⟩),
      (3, ⟨(some 46), none, .ld (.tmp 45) none⟩),
      (4, ⟨(some 47), none, .fld (.tmp 6) 0⟩),
      (5, ⟨(some 48), none, .ld (.tmp 47) (some 2)⟩),
      (6, ⟨(some 49), none, .more (.lkp 24 (Go.Value.string { data := #[] }) true (.tmp 46) (.tmp 48))⟩),
      (7, ⟨(some 42), none, .mv (.tmp 49)⟩),
      (8, ⟨(some 50), none, .ext (.tmp 42) 0⟩),
      (9, ⟨(some 51), none, .ext (.tmp 42) 1⟩),
      (10, ⟨(some 9), none, .mv (.tmp 50)⟩),
      (11, ⟨(some 10), none, .mv (.tmp 51)⟩)]
      [[], [0], [1], [2], [], [4], [3, 5], [6], [7], [7], [8, 0, 1, 2, 3, 4, 5, 6, 7, 8], [9, 10, 0, 1, 2, 3, 4, 5, 6, 7, 8, 9, 10]]
      [0, 1, 3, 7, 0, 16, 63, 127, 255, 255, 511, 2047] 0)
    (.ops [⟨(some 52), none, .mv (.tmp 9)⟩,
      ⟨(some 53), none, .mv (.tmp 10)⟩,
      ⟨(some 54), none, .un .not (.tmp 53)⟩,
      ⟨(some 55), none, .bld [(Go.Value.string { data := #[] }), (Go.Value.bool false)] [(0, 1, (.tmp 52)), (1, 1, (.tmp 54))]⟩,
      ⟨none, none, .st (.tmp 8) (.tmp 55) 2⟩]))))
  (.seq (.drawn [(0, ⟨(some 56), none, .mv (.tmp 0)⟩),
    (1, ⟨(some 57), none, .nilc (.tmp 56)⟩),
    (2, ⟨(some 58), none, .fld (.tmp 57) 3⟩),
    (3, ⟨(some 59), none, .ld (.tmp 58) none⟩),
    (4, ⟨(some 60), none, .mv (.tmp 1)⟩),
    (5, ⟨(some 61), none, .ld (.tmp 8) (some 2)⟩),
    (6, ⟨none, none, .more (.mup 3 (.tmp 59) (.tmp 60) (.tmp 61))⟩)]
    [[], [0], [1], [2], [], [], [3, 4, 5, 0, 1, 2, 3, 4, 5]]
    [0, 1, 3, 7, 0, 0, 63] 64)
  (.seq (.ops [⟨(some 4), none, .mv (.const (Go.Value.int Go.IntKind.i64 0))⟩])
  (.ret)))))))))
theorem is_device_Device_Do : FnIs Try.prog F.device_Device_Do X.device_Device_Do 62 [.tmp 4] := ⟨by kernel_rfl⟩

/-- (*haycroft/device.Device).Take: function 14 -/
abbrev F.device_Device_Take : FuncId := 14
def X.device_Device_Take : X :=
  .seq (.ops [⟨(some 4), none, .mv (.const (Go.Value.string { data := #[] }))⟩,
    ⟨(some 5), none, .mv (.const (Go.Value.int Go.IntKind.i64 0))⟩])
  (.seq (.seq (.ops [⟨(some 11), none, .mv (.tmp 0)⟩,
    ⟨(some 12), none, .call 46 [(.tmp 11)]⟩,
    ⟨(some 6), none, .mv (.tmp 12)⟩])
  (.seq (.ops [⟨(some 13), none, .mv (.tmp 6)⟩,
    ⟨(some 14), none, .bin .neq 31 (.tmp 13) (.const (Go.Value.int Go.IntKind.i64 0))⟩])
  (.cond (.tmp 14)
    (.seq (.ops [⟨(some 15), none, .mv (.tmp 6)⟩,
      ⟨(some 4), none, .mv (.const (Go.Value.string { data := #[] }))⟩,
      ⟨(some 5), none, .mv (.tmp 15)⟩])
    (.ret))
    (.skip))))
  (.seq (.seq (.ops [⟨(some 17), none, .mv (.tmp 0)⟩,
    ⟨(some 18), none, .nilc (.tmp 17)⟩,
    ⟨(some 19), none, .fld (.tmp 18) 2⟩,
    ⟨(some 20), none, .ld (.tmp 19) none⟩,
    ⟨(some 21), none, .mv (.tmp 1)⟩,
    ⟨(some 22), none, .more (.lkp 3 (Go.Value.agg #[(Go.Value.int Go.IntKind.i64 0), (Go.Value.int Go.IntKind.i64 0), (Go.Value.bool false), (Go.Value.string { data := #[] })]) true (.tmp 20) (.tmp 21))⟩,
    ⟨(some 16), none, .mv (.tmp 22)⟩,
    ⟨(some 23), none, .ext (.tmp 16) 0⟩,
    ⟨(some 24), none, .ext (.tmp 16) 1⟩,
    ⟨(some 7), none, .new 97 (Go.Value.agg #[(Go.Value.int Go.IntKind.i64 0), (Go.Value.int Go.IntKind.i64 0), (Go.Value.bool false), (Go.Value.string { data := #[] })])⟩,
    ⟨none, none, .st (.tmp 7) (.tmp 23) 4⟩,
    ⟨(some 8), none, .mv (.tmp 24)⟩])
  (.seq (.ops [⟨(some 25), none, .mv (.tmp 8)⟩])
  (.cond (.tmp 25)
    (.seq (.ops [⟨(some 4), none, .mv (.const (Go.Value.string { data := #[] }))⟩,
      ⟨(some 5), none, .mv (.const (Go.Value.int Go.IntKind.i64 10))⟩])
    (.ret))
    (.skip))))
  (.seq (.ops [⟨(some 27), none, .mv (.tmp 0)⟩,
    ⟨(some 28), none, .nilc (.tmp 27)⟩,
    ⟨(some 29), none, .fld (.tmp 28) 3⟩,
    ⟨(some 30), none, .ld (.tmp 29) none⟩,
    ⟨(some 31), none, .mv (.tmp 1)⟩,
    ⟨(some 32), none, .more (.lkp 3 (Go.Value.agg #[(Go.Value.string { data := #[] }), (Go.Value.bool false)]) true (.tmp 30) (.tmp 31))⟩,
    ⟨(some 26), none, .mv (.tmp 32)⟩,
    ⟨(some 33), none, .ext (.tmp 26) 0⟩,
    ⟨(some 34), none, .ext (.tmp 26) 1⟩,
    ⟨(some 9), none, .new 100 (Go.Value.agg #[(Go.Value.string { data := #[] }), (Go.Value.bool false)])⟩,
    ⟨none, none, .st (.tmp 9) (.tmp 33) 2⟩,
    ⟨(some 10), none, .mv (.tmp 34)⟩])
  (.seq (.ops [⟨(some 35), none, .mv (.tmp 0)⟩,
    ⟨(some 36), none, .nilc (.tmp 35)⟩,
    ⟨(some 37), none, .fld (.tmp 36) 3⟩,
    ⟨(some 38), none, .ld (.tmp 37) none⟩,
    ⟨(some 39), none, .mv (.tmp 1)⟩,
    ⟨none, none, .more (.del 3 (.tmp 38) (.tmp 39))⟩])
  (.seq (.seq (.ops [⟨(some 40), none, .mv (.tmp 10)⟩,
    ⟨(some 41), none, .un .not (.tmp 40)⟩,
    ⟨(some 42), none, .mv (.tmp 41)⟩,
    ⟨(some 43), (some (42, false)), .fld (.tmp 9) 1⟩,
    ⟨(some 44), (some (42, false)), .ld (.tmp 43) none⟩,
    ⟨(some 45), none, .pick (.tmp 42) (.const (Go.Value.bool true)) (.tmp 44)⟩])
  (.cond (.tmp 45)
    (.seq (.ops [⟨(some 4), none, .mv (.const (Go.Value.string { data := #[] }))⟩,
      ⟨(some 5), none, .mv (.const (Go.Value.int Go.IntKind.i64 7))⟩])
    (.ret))
    (.skip)))
  (.seq (.ops [⟨(some 46), none, .fld (.tmp 9) 0⟩,
    ⟨(some 47), none, .ld (.tmp 46) none⟩,
    ⟨(some 4), none, .mv (.tmp 47)⟩,
    ⟨(some 5), none, .mv (.const (Go.Value.int Go.IntKind.i64 0))⟩])
  (.ret)))))))
theorem is_device_Device_Take : FnIs Try.prog F.device_Device_Take X.device_Device_Take 48 [.tmp 4, .tmp 5] := ⟨by kernel_rfl⟩

/-- haycroft/haycroftlaw11.awake: function 9 -/
abbrev F.law11_awake : FuncId := 9
def X.law11_awake : X :=
  .seq (.ops [⟨(some 0), none, .mv (.const (Go.Value.bool false))⟩])
  (.seq (.ops [⟨(some 14), none, .call 10 []⟩,
    ⟨(some 1), none, .mv (.tmp 14)⟩])
  (.seq (.ops [⟨(some 15), none, .bld [(Go.Value.int Go.IntKind.i64 0), (Go.Value.int Go.IntKind.i64 0)] [(0, 1, (.const (Go.Value.int Go.IntKind.i64 0))), (1, 1, (.const (Go.Value.int Go.IntKind.i64 3)))]⟩,
    ⟨(some 2), none, .new 24 (Go.Value.agg #[(Go.Value.int Go.IntKind.i64 0), (Go.Value.int Go.IntKind.i64 0)])⟩,
    ⟨none, none, .st (.tmp 2) (.tmp 15) 2⟩])
  (.seq (.ops [⟨(some 17), none, .mv (.tmp 1)⟩,
    ⟨(some 18), none, .ld (.tmp 2) (some 2)⟩,
    ⟨(some 19), none, .call 11 [(.tmp 17), (.tmp 18), (.const (Go.Value.string { data := #[120] }))]⟩,
    ⟨(some 16), none, .mv (.tmp 19)⟩,
    ⟨(some 20), none, .ext (.tmp 16) 0⟩,
    ⟨(some 21), none, .ext (.tmp 16) 1⟩,
    ⟨(some 3), none, .mv (.tmp 20)⟩,
    ⟨(some 4), none, .mv (.tmp 21)⟩])
  (.seq (.ops [⟨(some 23), none, .mv (.tmp 1)⟩,
    ⟨(some 24), none, .ld (.tmp 2) (some 2)⟩,
    ⟨(some 25), none, .call 16 [(.tmp 23), (.tmp 24)]⟩,
    ⟨(some 22), none, .mv (.tmp 25)⟩,
    ⟨(some 26), none, .ext (.tmp 22) 0⟩,
    ⟨(some 27), none, .ext (.tmp 22) 1⟩,
    ⟨(some 5), none, .mv (.tmp 26)⟩,
    ⟨(some 6), none, .mv (.tmp 27)⟩])
  (.seq (.ops [⟨(some 28), none, .mv (.tmp 1)⟩,
    ⟨(some 29), none, .mv (.tmp 3)⟩,
    ⟨(some 30), none, .call 13 [(.tmp 28), (.tmp 29)]⟩,
    ⟨(some 7), none, .mv (.tmp 30)⟩])
  (.seq (.ops [⟨(some 32), none, .mv (.tmp 1)⟩,
    ⟨(some 33), none, .ld (.tmp 2) (some 2)⟩,
    ⟨(some 34), none, .call 16 [(.tmp 32), (.tmp 33)]⟩,
    ⟨(some 31), none, .mv (.tmp 34)⟩,
    ⟨(some 35), none, .ext (.tmp 31) 0⟩,
    ⟨(some 36), none, .ext (.tmp 31) 1⟩,
    ⟨(some 8), none, .mv (.tmp 35)⟩,
    ⟨(some 9), none, .mv (.tmp 36)⟩])
  (.seq (.ops [⟨(some 38), none, .mv (.tmp 1)⟩,
    ⟨(some 39), none, .mv (.tmp 3)⟩,
    ⟨(some 40), none, .call 14 [(.tmp 38), (.tmp 39)]⟩,
    ⟨(some 37), none, .mv (.tmp 40)⟩,
    ⟨(some 41), none, .ext (.tmp 37) 0⟩,
    ⟨(some 42), none, .ext (.tmp 37) 1⟩,
    ⟨(some 10), none, .mv (.tmp 41)⟩,
    ⟨(some 11), none, .mv (.tmp 42)⟩])
  (.seq (.ops [⟨(some 44), none, .mv (.tmp 1)⟩,
    ⟨(some 45), none, .mv (.tmp 3)⟩,
    ⟨(some 46), none, .call 14 [(.tmp 44), (.tmp 45)]⟩,
    ⟨(some 43), none, .mv (.tmp 46)⟩,
    ⟨(some 47), none, .ext (.tmp 43) 0⟩,
    ⟨(some 48), none, .ext (.tmp 43) 1⟩,
    ⟨(some 12), none, .mv (.tmp 47)⟩,
    ⟨(some 13), none, .mv (.tmp 48)⟩])
  (.seq (.ops [⟨(some 49), none, .mv (.tmp 3)⟩,
    ⟨(some 50), none, .bin .eql 3 (.tmp 49) (.const (Go.Value.int Go.IntKind.i64 1))⟩,
    ⟨(some 51), none, .mv (.tmp 50)⟩,
    ⟨(some 52), (some (51, true)), .mv (.tmp 4)⟩,
    ⟨(some 53), (some (51, true)), .bin .eql 31 (.tmp 52) (.const (Go.Value.int Go.IntKind.i64 0))⟩,
    ⟨(some 54), none, .pick (.tmp 51) (.tmp 53) (.const (Go.Value.bool false))⟩,
    ⟨(some 55), none, .mv (.tmp 54)⟩,
    ⟨(some 56), (some (55, true)), .mv (.tmp 6)⟩,
    ⟨(some 57), (some (55, true)), .un .not (.tmp 56)⟩,
    ⟨(some 58), none, .pick (.tmp 55) (.tmp 57) (.const (Go.Value.bool false))⟩,
    ⟨(some 59), none, .mv (.tmp 58)⟩,
    ⟨(some 60), (some (59, true)), .mv (.tmp 7)⟩,
    ⟨(some 61), (some (59, true)), .bin .eql 31 (.tmp 60) (.const (Go.Value.int Go.IntKind.i64 0))⟩,
    ⟨(some 62), none, .pick (.tmp 59) (.tmp 61) (.const (Go.Value.bool false))⟩,
    ⟨(some 63), none, .mv (.tmp 62)⟩,
    ⟨(some 64), (some (63, true)), .mv (.tmp 8)⟩,
    ⟨(some 65), (some (63, true)), .bin .eql 9 (.tmp 64) (.const (Go.Value.string { data := #[120] }))⟩,
    ⟨(some 66), none, .pick (.tmp 63) (.tmp 65) (.const (Go.Value.bool false))⟩,
    ⟨(some 67), none, .mv (.tmp 66)⟩,
    ⟨(some 68), (some (67, true)), .mv (.tmp 9)⟩,
    ⟨(some 69), none, .pick (.tmp 67) (.tmp 68) (.const (Go.Value.bool false))⟩,
    ⟨(some 70), none, .mv (.tmp 69)⟩,
    ⟨(some 71), (some (70, true)), .mv (.tmp 11)⟩,
    ⟨(some 72), (some (70, true)), .bin .eql 31 (.tmp 71) (.const (Go.Value.int Go.IntKind.i64 0))⟩,
    ⟨(some 73), none, .pick (.tmp 70) (.tmp 72) (.const (Go.Value.bool false))⟩,
    ⟨(some 74), none, .mv (.tmp 73)⟩,
    ⟨(some 75), (some (74, true)), .mv (.tmp 13)⟩,
    ⟨(some 76), (some (74, true)), .bin .eql 31 (.tmp 75) (.const (Go.Value.int Go.IntKind.i64 7))⟩,
    ⟨(some 77), none, .pick (.tmp 74) (.tmp 76) (.const (Go.Value.bool false))⟩,
    ⟨(some 0), none, .mv (.tmp 77)⟩])
  (.ret))))))))))
theorem is_law11_awake : FnIs Try.prog F.law11_awake X.law11_awake 78 [.tmp 0] := ⟨by kernel_rfl⟩

/-- (*haycroft/device.Device).Read: function 12 -/
abbrev F.device_Device_Read : FuncId := 12
def X.device_Device_Read : X :=
  .seq (.ops [⟨(some 3), none, .box 24 (.tmp 1)⟩,
    ⟨(some 4), none, .mv (.const (Go.Value.int Go.IntKind.i64 0))⟩,
    ⟨(some 5), none, .mv (.const (Go.Value.int Go.IntKind.i64 0))⟩])
  (.seq (.ops [⟨(some 6), none, .mv (.tmp 0)⟩,
    ⟨(some 7), none, .ld (.tmp 3) (some 2)⟩,
    ⟨(some 8), none, .bld [(Go.Value.int Go.IntKind.i64 0), (Go.Value.int Go.IntKind.i64 0), (Go.Value.bool false), (Go.Value.string { data := #[] })] [(0, 2, (.tmp 7)), (2, 1, (.const (Go.Value.bool false))), (3, 1, (.const (Go.Value.string { data := #[] })))]⟩,
    ⟨(some 9), none, .call 45 [(.tmp 6), (.tmp 8)]⟩,
    ⟨(some 10), none, .ext (.tmp 9) 0⟩,
    ⟨(some 11), none, .ext (.tmp 9) 1⟩,
    ⟨(some 4), none, .mv (.tmp 10)⟩,
    ⟨(some 5), none, .mv (.tmp 11)⟩])
  (.ret))
theorem is_device_Device_Read : FnIs Try.prog F.device_Device_Read X.device_Device_Read 12 [.tmp 4, .tmp 5] := ⟨by kernel_rfl⟩

-- loop (inner ones first): [0, 5]
/-- maps.Keys[map[int]haycroft/device.job,int,haycroft/device.job]$1: function 87 -/
abbrev F.maps_Keys_map_int_device_job_int_device_job_1 : FuncId := 87
def X.maps_Keys_map_int_device_job_int_device_job_1 : X :=
  .seq (.ops [⟨(some 4), none, .ld (.tmp 1) none⟩,
    ⟨(some 5), none, .more (.rng (.tmp 4))⟩])
  (.block 0 (.loop (.seq (.ops [⟨(some 6), none, .more (.nxt (.tmp 5))⟩,
        ⟨(some 7), none, .ext (.tmp 6) 0⟩])
      (.seq (.cond (.tmp 7)
        (.skip)
        (.exit 0))
      (.block 1 (.seq (.ops [⟨(some 8), none, .more (.ent (.tmp 5))⟩,
          ⟨(some 9), none, .ext (.tmp 8) 0⟩,
          ⟨(some 3), none, .mv (.tmp 9)⟩])
        (.seq (.ops [⟨(some 10), none, .mv (.tmp 0)⟩,
          ⟨(some 11), none, .mv (.tmp 3)⟩,
          ⟨(some 12), none, .more (.cv (.tmp 10) [(.tmp 11)])⟩,
          ⟨(some 13), none, .un .not (.tmp 12)⟩])
        (.cond (.tmp 13)
          (.ret)
          (.skip)))))))))
theorem is_maps_Keys_map_int_device_job_int_device_job_1 : FnIs Try.prog F.maps_Keys_map_int_device_job_int_device_job_1 X.maps_Keys_map_int_device_job_int_device_job_1 14 [] := ⟨by kernel_rfl⟩

/-- maps.Keys[map[int]haycroft/device.job,int,haycroft/device.job]: function 54 -/
abbrev F.maps_Keys_map_int_device_job_int_device_job : FuncId := 54
def X.maps_Keys_map_int_device_job_int_device_job : X :=
  .seq (.ops [⟨(some 1), none, .box 91 (.tmp 0)⟩,
    ⟨(some 2), none, .mv (.const Go.Value.nilFunc)⟩])
  (.seq (.ops [⟨(some 3), none, .more (.mkf 87 [] [(.tmp 1)])⟩,
    ⟨(some 2), none, .mv (.tmp 3)⟩])
  (.ret))
theorem is_maps_Keys_map_int_device_job_int_device_job : FnIs Try.prog F.maps_Keys_map_int_device_job_int_device_job X.maps_Keys_map_int_device_job_int_device_job 4 [.tmp 2] := ⟨by kernel_rfl⟩
theorem bd_maps_Keys_map_int_device_job_int_device_job_1 : bodyOk Try.prog F.maps_Keys_map_int_device_job_int_device_job_1 = true := by kernel_rfl

/-- slices.AppendSeq[[]int,int]: function 110, not walked -/
abbrev F.slices_AppendSeq_int_int : FuncId := 110

/-- slices.Collect[int]: function 86 -/
abbrev F.slices_Collect_int : FuncId := 86
def X.slices_Collect_int : X :=
  .seq (.ops [⟨(some 2), none, .mv (.const (Go.Value.slice none 0 0))⟩])
  (.seq (.ops [⟨(some 3), none, .mv (.tmp 0)⟩,
    ⟨(some 4), none, .call 110 [(.const (Go.Value.slice none 0 0)), (.tmp 3)]⟩,
    ⟨(some 2), none, .mv (.tmp 4)⟩])
  (.ret))
theorem is_slices_Collect_int : FnIs Try.prog F.slices_Collect_int X.slices_Collect_int 5 [.tmp 2] := ⟨by kernel_rfl⟩

/-- slices.Sort[[]int,int]: function 67, not walked -/
abbrev F.slices_Sort_int_int : FuncId := 67

/-- slices.Sorted[int]: function 53 -/
abbrev F.slices_Sorted_int : FuncId := 53
def X.slices_Sorted_int : X :=
  .seq (.ops [⟨(some 2), none, .mv (.const (Go.Value.slice none 0 0))⟩])
  (.seq (.ops [⟨(some 4), none, .mv (.tmp 0)⟩,
    ⟨(some 5), none, .call 86 [(.tmp 4)]⟩,
    ⟨(some 3), none, .mv (.tmp 5)⟩])
  (.seq (.ops [⟨(some 6), none, .mv (.tmp 3)⟩,
    ⟨(some 7), none, .call 67 [(.tmp 6)]⟩])
  (.seq (.ops [⟨(some 8), none, .mv (.tmp 3)⟩,
    ⟨(some 2), none, .mv (.tmp 8)⟩])
  (.ret))))
theorem is_slices_Sorted_int : FnIs Try.prog F.slices_Sorted_int X.slices_Sorted_int 9 [.tmp 2] := ⟨by kernel_rfl⟩

/-- (*haycroft/device.Device).Flight: function 22 -/
abbrev F.device_Device_Flight : FuncId := 22
def X.device_Device_Flight : X :=
  .seq (.ops [⟨(some 2), none, .mv (.const (Go.Value.slice none 0 0))⟩])
  (.seq (.seq (.ops [⟨(some 3), none, .mv (.tmp 0)⟩,
    ⟨(some 4), none, .eq false .ptr (.tmp 3) (.const (Go.Value.pointer none))⟩])
  (.cond (.tmp 4)
    (.seq (.ops [⟨(some 2), none, .mv (.const (Go.Value.slice none 0 0))⟩])
    (.ret))
    (.skip)))
  (.seq (.ops [⟨(some 5), none, .mv (.tmp 0)⟩,
    ⟨(some 6), none, .nilc (.tmp 5)⟩,
    ⟨(some 7), none, .fld (.tmp 6) 2⟩,
    ⟨(some 8), none, .ld (.tmp 7) none⟩,
    ⟨(some 9), none, .call 54 [(.tmp 8)]⟩,
    ⟨(some 10), none, .call 53 [(.tmp 9)]⟩,
    ⟨(some 2), none, .mv (.tmp 10)⟩])
  (.ret)))
theorem is_device_Device_Flight : FnIs Try.prog F.device_Device_Flight X.device_Device_Flight 11 [.tmp 2] := ⟨by kernel_rfl⟩

/-- haycroft/device.torn: function 47 -/
abbrev F.device_torn : FuncId := 47
def X.device_torn : X :=
  .seq (.ops [⟨(some 6), none, .mv (.const (Go.Value.string { data := #[] }))⟩])
  (.seq (.ops [⟨(some 8), none, .mv (.tmp 2)⟩,
    ⟨(some 9), none, .bin .sub 3 (.tmp 8) (.const (Go.Value.int Go.IntKind.i64 2))⟩,
    ⟨(some 10), none, .mv (.tmp 1)⟩,
    ⟨(some 11), none, .lenB (.tmp 10)⟩,
    ⟨(some 12), none, .bin .add 3 (.tmp 11) (.const (Go.Value.int Go.IntKind.i64 1))⟩,
    ⟨(some 13), none, .bin .rem 3 (.tmp 9) (.tmp 12)⟩,
    ⟨(some 7), none, .mv (.tmp 13)⟩])
  (.seq (.drawn [(0, ⟨(some 14), none, .mv (.tmp 1)⟩),
    (1, ⟨(some 15), none, .mv (.tmp 7)⟩),
    (2, ⟨(some 16), none, .sls (.tmp 14) none (some (.tmp 15))⟩),
    (3, ⟨(some 17), none, .mv (.tmp 0)⟩),
    (4, ⟨(some 18), none, .mv (.tmp 7)⟩),
    (5, ⟨(some 19), none, .mv (.tmp 0)⟩),
    (6, ⟨(some 20), none, .lenB (.tmp 19)⟩),
    (7, ⟨(some 21), none, .mnx false (.tmp 18) [(.tmp 20)]⟩),
    (8, ⟨(some 22), none, .sls (.tmp 17) (some (.tmp 21)) none⟩),
    (9, ⟨(some 23), none, .bin .add 9 (.tmp 16) (.tmp 22)⟩),
    (10, ⟨(some 6), none, .mv (.tmp 23)⟩)]
    [[], [], [0, 1], [], [], [], [5], [4, 6], [3, 7], [2, 8], [9, 0, 1, 2, 3, 4, 5, 6, 7, 8, 9]]
    [0, 0, 3, 0, 0, 0, 32, 112, 248, 511, 1023] 0)
  (.ret)))
theorem is_device_torn : FnIs Try.prog F.device_torn X.device_torn 24 [.tmp 6] := ⟨by kernel_rfl⟩

-- loop (inner ones first): [0, 1, 16, 17, 18]
/-- (*haycroft/device.Device).Crash: function 15 -/
abbrev F.device_Device_Crash : FuncId := 15
def X.device_Device_Crash : X :=
  .seq (.ops [⟨(some 4), none, .mv (.const (Go.Value.int Go.IntKind.i64 0))⟩])
  (.seq (.seq (.ops [⟨(some 10), none, .mv (.tmp 0)⟩,
    ⟨(some 11), none, .call 46 [(.tmp 10)]⟩,
    ⟨(some 5), none, .mv (.tmp 11)⟩])
  (.seq (.ops [⟨(some 12), none, .mv (.tmp 5)⟩,
    ⟨(some 13), none, .bin .neq 31 (.tmp 12) (.const (Go.Value.int Go.IntKind.i64 0))⟩])
  (.cond (.tmp 13)
    (.seq (.ops [⟨(some 14), none, .mv (.tmp 5)⟩,
      ⟨(some 4), none, .mv (.tmp 14)⟩])
    (.ret))
    (.skip))))
  (.seq (.seq (.ops [⟨(some 15), none, .mv (.tmp 0)⟩,
    ⟨(some 16), none, .call 22 [(.tmp 15)]⟩,
    ⟨(some 17), none, .lenS (.tmp 16)⟩,
    ⟨(some 18), none, .mv (.const (Go.Value.int Go.IntKind.i64 0))⟩])
  (.block 0 (.loop (.seq (.ops [⟨(some 19), none, .bin .lss 3 (.tmp 18) (.tmp 17)⟩])
      (.seq (.cond (.tmp 19)
        (.skip)
        (.exit 0))
      (.seq (.block 1 (.seq (.ops [⟨(some 20), none, .idx (.tmp 16) (.tmp 18) 1⟩,
          ⟨(some 21), none, .ld (.tmp 20) none⟩,
          ⟨(some 7), none, .mv (.tmp 21)⟩])
        (.seq (.ops [⟨(some 22), none, .mv (.tmp 0)⟩,
          ⟨(some 23), none, .nilc (.tmp 22)⟩,
          ⟨(some 24), none, .fld (.tmp 23) 2⟩,
          ⟨(some 25), none, .ld (.tmp 24) none⟩,
          ⟨(some 26), none, .mv (.tmp 7)⟩,
          ⟨(some 27), none, .more (.lkp 3 (Go.Value.agg #[(Go.Value.int Go.IntKind.i64 0), (Go.Value.int Go.IntKind.i64 0), (Go.Value.bool false), (Go.Value.string { data := #[] })]) false (.tmp 25) (.tmp 26))⟩,
          ⟨(some 8), none, .new 97 (Go.Value.agg #[(Go.Value.int Go.IntKind.i64 0), (Go.Value.int Go.IntKind.i64 0), (Go.Value.bool false), (Go.Value.string { data := #[] })])⟩,
          ⟨none, none, .st (.tmp 8) (.tmp 27) 4⟩])
        (.seq (.seq (.ops [⟨(some 28), none, .fld (.tmp 8) 2⟩,
          ⟨(some 29), none, .ld (.tmp 28) none⟩,
          ⟨(some 30), none, .un .not (.tmp 29)⟩])
        (.cond (.tmp 30)
          (.exit 1)
          (.skip)))
        (.seq (.ops [⟨(some 9), none, .mv (.const (Go.Value.int Go.IntKind.i64 0))⟩])
        (.seq (.seq (.ops [⟨(some 31), none, .mv (.tmp 1)⟩,
          ⟨(some 32), none, .lenS (.tmp 31)⟩,
          ⟨(some 33), none, .bin .gtr 3 (.tmp 32) (.const (Go.Value.int Go.IntKind.i64 0))⟩])
        (.cond (.tmp 33)
          (.drawn [(0, ⟨(some 34), none, .mv (.tmp 1)⟩),
            (1, ⟨(some 35), none, .idx (.tmp 34) (.const (Go.Value.int Go.IntKind.i64 0)) 1⟩),
            (2, ⟨(some 36), none, .ld (.tmp 35) none⟩),
            (3, ⟨(some 37), none, .mv (.tmp 1)⟩),
            (4, ⟨(some 38), none, .slc 1 (.tmp 37) (some (.const (Go.Value.int Go.IntKind.i64 1))) none⟩),
            (5, ⟨(some 9), none, .mv (.tmp 36)⟩),
            (6, ⟨(some 1), none, .mv (.tmp 38)⟩)]
            [[], [0], [1], [], [3], [2, 0, 1, 2], [4, 5, 0, 1, 2, 3, 4, 5]]
            [0, 1, 3, 0, 8, 7, 63] 0)
          (.skip)))
        (.block 2 (.seq (.ops [⟨(some 40), none, .mv (.tmp 9)⟩,
            ⟨(some 41), none, .bin .eql 3 (.tmp 40) (.const (Go.Value.int Go.IntKind.i64 1))⟩,
            ⟨(some 39), none, .mv (.tmp 41)⟩])
          (.cond (.tmp 39)
            (.drawn [(0, ⟨(some 42), none, .mv (.tmp 0)⟩),
              (1, ⟨(some 43), none, .nilc (.tmp 42)⟩),
              (2, ⟨(some 44), none, .fld (.tmp 43) 1⟩),
              (3, ⟨(some 45), none, .ld (.tmp 44) none⟩),
              (4, ⟨(some 46), none, .fld (.tmp 8) 0⟩),
              (5, ⟨(some 47), none, .ld (.tmp 46) (some 2)⟩),
              (6, ⟨(some 48), none, .fld (.tmp 8) 3⟩),
              (7, ⟨(some 49), none, .ld (.tmp 48) none⟩),
              (8, ⟨none, none, .more (.mup 24 (.tmp 45) (.tmp 47) (.tmp 49))⟩)]
              [[], [0], [1], [2], [], [4], [], [6], [3, 5, 7, 0, 1, 2, 3, 4, 5, 6, 7]]
              [0, 1, 3, 7, 0, 16, 0, 64, 255] 256)
            (.seq (.ops [⟨(some 51), none, .mv (.tmp 9)⟩,
              ⟨(some 52), none, .bin .gtr 3 (.tmp 51) (.const (Go.Value.int Go.IntKind.i64 1))⟩,
              ⟨(some 50), none, .mv (.tmp 52)⟩])
            (.cond (.tmp 50)
              (.drawn [(0, ⟨(some 53), none, .mv (.tmp 0)⟩),
                (1, ⟨(some 54), none, .nilc (.tmp 53)⟩),
                (2, ⟨(some 55), none, .fld (.tmp 54) 1⟩),
                (3, ⟨(some 56), none, .ld (.tmp 55) none⟩),
                (4, ⟨(some 57), none, .fld (.tmp 8) 0⟩),
                (5, ⟨(some 58), none, .ld (.tmp 57) (some 2)⟩),
                (6, ⟨(some 59), none, .mv (.tmp 0)⟩),
                (7, ⟨(some 60), none, .nilc (.tmp 59)⟩),
                (8, ⟨(some 61), none, .fld (.tmp 60) 1⟩),
                (9, ⟨(some 62), none, .ld (.tmp 61) none⟩),
                (10, ⟨(some 63), none, .fld (.tmp 8) 0⟩),
                (11, ⟨(some 64), none, .ld (.tmp 63) (some 2)⟩),
                (12, ⟨(some 65), none, .more (.lkp 24 (Go.Value.string { data := #[] }) false (.tmp 62) (.tmp 64))⟩),
                (13, ⟨(some 66), none, .fld (.tmp 8) 3⟩),
                (14, ⟨(some 67), none, .ld (.tmp 66) none⟩),
                (15, ⟨(some 68), none, .mv (.tmp 9)⟩),
                (16, ⟨(some 69), none, .call 47 [(.tmp 65), (.tmp 67), (.tmp 68)]⟩),
                (17, ⟨none, none, .more (.mup 24 (.tmp 56) (.tmp 58) (.tmp 69))⟩)]
                [[], [0], [1], [2], [], [4], [], [6], [7], [8], [], [10], [9, 11], [], [13], [], [12, 14, 15], [3, 5, 16, 16, 0, 1, 2, 3, 4, 5, 6, 7, 8, 9, 10, 11, 12, 13, 14, 15, 16]]
                [0, 1, 3, 7, 0, 16, 0, 64, 192, 448, 0, 1024, 4032, 0, 8192, 0, 65472, 131071] 196608)
              (.skip))))))))))))
      (.ops [⟨(some 70), none, .bin .add 3 (.tmp 18) (.const (Go.Value.int Go.IntKind.i64 1))⟩,
        ⟨(some 18), none, .mv (.tmp 70)⟩])))))))
  (.seq (.ops [⟨(some 71), none, .mv (.tmp 0)⟩,
    ⟨(some 72), none, .nilc (.tmp 71)⟩,
    ⟨(some 73), none, .fld (.tmp 72) 2⟩,
    ⟨(some 74), none, .ld (.tmp 73) none⟩,
    ⟨none, none, .more (.clrm (.tmp 74))⟩])
  (.seq (.ops [⟨(some 75), none, .mv (.tmp 0)⟩,
    ⟨(some 76), none, .nilc (.tmp 75)⟩,
    ⟨(some 77), none, .fld (.tmp 76) 3⟩,
    ⟨(some 78), none, .ld (.tmp 77) none⟩,
    ⟨none, none, .more (.clrm (.tmp 78))⟩])
  (.seq (.ops [⟨(some 79), none, .mv (.tmp 0)⟩,
    ⟨(some 80), none, .nilc (.tmp 79)⟩,
    ⟨(some 81), none, .fld (.tmp 80) 0⟩,
    ⟨none, none, .st (.tmp 81) (.const (Go.Value.bool true)) 1⟩])
  (.seq (.ops [⟨(some 4), none, .mv (.const (Go.Value.int Go.IntKind.i64 0))⟩])
  (.ret)))))))
theorem is_device_Device_Crash : FnIs Try.prog F.device_Device_Crash X.device_Device_Crash 82 [.tmp 4] := ⟨by kernel_rfl⟩

/-- (*haycroft/device.Device).Start: function 18 -/
abbrev F.device_Device_Start : FuncId := 18
def X.device_Device_Start : X :=
  .seq (.ops [⟨(some 2), none, .mv (.const (Go.Value.int Go.IntKind.i64 0))⟩])
  (.seq (.block 0 (.seq (.ops [⟨(some 4), none, .mv (.tmp 0)⟩,
      ⟨(some 5), none, .eq false .ptr (.tmp 4) (.const (Go.Value.pointer none))⟩,
      ⟨(some 3), none, .mv (.tmp 5)⟩])
    (.cond (.tmp 3)
      (.seq (.ops [⟨(some 2), none, .mv (.const (Go.Value.int Go.IntKind.i64 2))⟩])
      (.ret))
      (.seq (.ops [⟨(some 7), none, .mv (.tmp 0)⟩,
        ⟨(some 8), none, .nilc (.tmp 7)⟩,
        ⟨(some 9), none, .fld (.tmp 8) 0⟩,
        ⟨(some 10), none, .ld (.tmp 9) none⟩,
        ⟨(some 11), none, .un .not (.tmp 10)⟩,
        ⟨(some 6), none, .mv (.tmp 11)⟩])
      (.cond (.tmp 6)
        (.seq (.ops [⟨(some 2), none, .mv (.const (Go.Value.int Go.IntKind.i64 10))⟩])
        (.ret))
        (.skip))))))
  (.seq (.ops [⟨(some 12), none, .mv (.tmp 0)⟩,
    ⟨(some 13), none, .nilc (.tmp 12)⟩,
    ⟨(some 14), none, .fld (.tmp 13) 0⟩,
    ⟨none, none, .st (.tmp 14) (.const (Go.Value.bool false)) 1⟩])
  (.seq (.ops [⟨(some 2), none, .mv (.const (Go.Value.int Go.IntKind.i64 0))⟩])
  (.ret))))
theorem is_device_Device_Start : FnIs Try.prog F.device_Device_Start X.device_Device_Start 15 [.tmp 2] := ⟨by kernel_rfl⟩

/-- (*haycroft/device.Device).On: function 24 -/
abbrev F.device_Device_On : FuncId := 24
def X.device_Device_On : X :=
  .seq (.ops [⟨(some 2), none, .mv (.const (Go.Value.bool false))⟩])
  (.seq (.ops [⟨(some 3), none, .mv (.tmp 0)⟩,
    ⟨(some 4), none, .call 46 [(.tmp 3)]⟩,
    ⟨(some 5), none, .bin .eql 31 (.tmp 4) (.const (Go.Value.int Go.IntKind.i64 0))⟩,
    ⟨(some 2), none, .mv (.tmp 5)⟩])
  (.ret))
theorem is_device_Device_On : FnIs Try.prog F.device_Device_On X.device_Device_On 6 [.tmp 2] := ⟨by kernel_rfl⟩

-- loop (inner ones first): [0, 5]
/-- maps.Keys[map[haycroft/api.Block]string,haycroft/api.Block,string]$1: function 90 -/
abbrev F.maps_Keys_map_api_Block_string_api_Block_string_1 : FuncId := 90
def X.maps_Keys_map_api_Block_string_api_Block_string_1 : X :=
  .seq (.ops [⟨(some 4), none, .ld (.tmp 1) none⟩,
    ⟨(some 5), none, .more (.rng (.tmp 4))⟩])
  (.block 0 (.loop (.seq (.ops [⟨(some 6), none, .more (.nxt (.tmp 5))⟩,
        ⟨(some 7), none, .ext (.tmp 6) 0⟩])
      (.seq (.cond (.tmp 7)
        (.skip)
        (.exit 0))
      (.block 1 (.seq (.ops [⟨(some 8), none, .more (.ent (.tmp 5))⟩,
          ⟨(some 9), none, .ext (.tmp 8) 0⟩,
          ⟨(some 3), none, .new 24 (Go.Value.agg #[(Go.Value.int Go.IntKind.i64 0), (Go.Value.int Go.IntKind.i64 0)])⟩,
          ⟨none, none, .st (.tmp 3) (.tmp 9) 2⟩])
        (.seq (.ops [⟨(some 10), none, .mv (.tmp 0)⟩,
          ⟨(some 11), none, .ld (.tmp 3) (some 2)⟩,
          ⟨(some 12), none, .more (.cv (.tmp 10) [(.tmp 11)])⟩,
          ⟨(some 13), none, .un .not (.tmp 12)⟩])
        (.cond (.tmp 13)
          (.ret)
          (.skip)))))))))
theorem is_maps_Keys_map_api_Block_string_api_Block_string_1 : FnIs Try.prog F.maps_Keys_map_api_Block_string_api_Block_string_1 X.maps_Keys_map_api_Block_string_api_Block_string_1 14 [] := ⟨by kernel_rfl⟩

/-- maps.Keys[map[haycroft/api.Block]string,haycroft/api.Block,string]: function 56 -/
abbrev F.maps_Keys_map_api_Block_string_api_Block_string : FuncId := 56
def X.maps_Keys_map_api_Block_string_api_Block_string : X :=
  .seq (.ops [⟨(some 1), none, .box 90 (.tmp 0)⟩,
    ⟨(some 2), none, .mv (.const Go.Value.nilFunc)⟩])
  (.seq (.ops [⟨(some 3), none, .more (.mkf 90 [] [(.tmp 1)])⟩,
    ⟨(some 2), none, .mv (.tmp 3)⟩])
  (.ret))
theorem is_maps_Keys_map_api_Block_string_api_Block_string : FnIs Try.prog F.maps_Keys_map_api_Block_string_api_Block_string X.maps_Keys_map_api_Block_string_api_Block_string 4 [.tmp 2] := ⟨by kernel_rfl⟩
theorem bd_maps_Keys_map_api_Block_string_api_Block_string_1 : bodyOk Try.prog F.maps_Keys_map_api_Block_string_api_Block_string_1 = true := by kernel_rfl

/-- slices.AppendSeq[[]haycroft/api.Block,haycroft/api.Block]: function 111, not walked -/
abbrev F.slices_AppendSeq_api_Block_api_Block : FuncId := 111

/-- slices.Collect[haycroft/api.Block]: function 88 -/
abbrev F.slices_Collect_api_Block : FuncId := 88
def X.slices_Collect_api_Block : X :=
  .seq (.ops [⟨(some 2), none, .mv (.const (Go.Value.slice none 0 0))⟩])
  (.seq (.ops [⟨(some 3), none, .mv (.tmp 0)⟩,
    ⟨(some 4), none, .call 111 [(.const (Go.Value.slice none 0 0)), (.tmp 3)]⟩,
    ⟨(some 2), none, .mv (.tmp 4)⟩])
  (.ret))
theorem is_slices_Collect_api_Block : FnIs Try.prog F.slices_Collect_api_Block X.slices_Collect_api_Block 5 [.tmp 2] := ⟨by kernel_rfl⟩

/-- slices.SortFunc[[]haycroft/api.Block,haycroft/api.Block]: function 89, not walked -/
abbrev F.slices_SortFunc_api_Block_api_Block : FuncId := 89

/-- slices.SortedFunc[haycroft/api.Block]: function 55 -/
abbrev F.slices_SortedFunc_api_Block : FuncId := 55
def X.slices_SortedFunc_api_Block : X :=
  .seq (.ops [⟨(some 4), none, .mv (.const (Go.Value.slice none 0 0))⟩])
  (.seq (.ops [⟨(some 6), none, .mv (.tmp 0)⟩,
    ⟨(some 7), none, .call 88 [(.tmp 6)]⟩,
    ⟨(some 5), none, .mv (.tmp 7)⟩])
  (.seq (.ops [⟨(some 8), none, .mv (.tmp 5)⟩,
    ⟨(some 9), none, .mv (.tmp 1)⟩,
    ⟨(some 10), none, .call 89 [(.tmp 8), (.tmp 9)]⟩])
  (.seq (.ops [⟨(some 11), none, .mv (.tmp 5)⟩,
    ⟨(some 4), none, .mv (.tmp 11)⟩])
  (.ret))))
theorem is_slices_SortedFunc_api_Block : FnIs Try.prog F.slices_SortedFunc_api_Block X.slices_SortedFunc_api_Block 12 [.tmp 4] := ⟨by kernel_rfl⟩

/-- cmp.isNaN[int]: function 91 -/
abbrev F.cmp_isNaN_int : FuncId := 91
def X.cmp_isNaN_int : X :=
  .seq (.ops [⟨(some 2), none, .mv (.const (Go.Value.bool false))⟩])
  (.seq (.ops [⟨(some 3), none, .mv (.tmp 0)⟩,
    ⟨(some 4), none, .mv (.tmp 0)⟩,
    ⟨(some 5), none, .bin .neq 3 (.tmp 3) (.tmp 4)⟩,
    ⟨(some 2), none, .mv (.tmp 5)⟩])
  (.ret))
theorem is_cmp_isNaN_int : FnIs Try.prog F.cmp_isNaN_int X.cmp_isNaN_int 6 [.tmp 2] := ⟨by kernel_rfl⟩

/-- cmp.Compare[int]: function 59 -/
abbrev F.cmp_Compare_int : FuncId := 59
def X.cmp_Compare_int : X :=
  .seq (.ops [⟨(some 4), none, .mv (.const (Go.Value.int Go.IntKind.i64 0))⟩])
  (.seq (.ops [⟨(some 7), none, .mv (.tmp 0)⟩,
    ⟨(some 8), none, .call 91 [(.tmp 7)]⟩,
    ⟨(some 5), none, .mv (.tmp 8)⟩])
  (.seq (.ops [⟨(some 9), none, .mv (.tmp 1)⟩,
    ⟨(some 10), none, .call 91 [(.tmp 9)]⟩,
    ⟨(some 6), none, .mv (.tmp 10)⟩])
  (.seq (.seq (.ops [⟨(some 11), none, .mv (.tmp 5)⟩])
  (.cond (.tmp 11)
    (.seq (.seq (.ops [⟨(some 12), none, .mv (.tmp 6)⟩])
    (.cond (.tmp 12)
      (.seq (.ops [⟨(some 4), none, .mv (.const (Go.Value.int Go.IntKind.i64 0))⟩])
      (.ret))
      (.skip)))
    (.seq (.ops [⟨(some 4), none, .mv (.const (Go.Value.int Go.IntKind.i64 (-1)))⟩])
    (.ret)))
    (.skip)))
  (.seq (.seq (.ops [⟨(some 13), none, .mv (.tmp 6)⟩])
  (.cond (.tmp 13)
    (.seq (.ops [⟨(some 4), none, .mv (.const (Go.Value.int Go.IntKind.i64 1))⟩])
    (.ret))
    (.skip)))
  (.seq (.seq (.ops [⟨(some 14), none, .mv (.tmp 0)⟩,
    ⟨(some 15), none, .mv (.tmp 1)⟩,
    ⟨(some 16), none, .bin .lss 3 (.tmp 14) (.tmp 15)⟩])
  (.cond (.tmp 16)
    (.seq (.ops [⟨(some 4), none, .mv (.const (Go.Value.int Go.IntKind.i64 (-1)))⟩])
    (.ret))
    (.skip)))
  (.seq (.seq (.ops [⟨(some 17), none, .mv (.tmp 0)⟩,
    ⟨(some 18), none, .mv (.tmp 1)⟩,
    ⟨(some 19), none, .bin .gtr 3 (.tmp 17) (.tmp 18)⟩])
  (.cond (.tmp 19)
    (.seq (.ops [⟨(some 4), none, .mv (.const (Go.Value.int Go.IntKind.i64 1))⟩])
    (.ret))
    (.skip)))
  (.seq (.ops [⟨(some 4), none, .mv (.const (Go.Value.int Go.IntKind.i64 0))⟩])
  (.ret))))))))
theorem is_cmp_Compare_int : FnIs Try.prog F.cmp_Compare_int X.cmp_Compare_int 20 [.tmp 4] := ⟨by kernel_rfl⟩

-- loop (inner ones first): [3, 6, 7, 8]
/-- cmp.Or[int]: function 58 -/
abbrev F.cmp_Or_int : FuncId := 58
def X.cmp_Or_int : X :=
  .seq (.ops [⟨(some 2), none, .mv (.const (Go.Value.int Go.IntKind.i64 0))⟩])
  (.seq (.ops [⟨(some 3), none, .mv (.const (Go.Value.int Go.IntKind.i64 0))⟩])
  (.seq (.seq (.ops [⟨(some 6), none, .mv (.tmp 0)⟩,
    ⟨(some 7), none, .lenS (.tmp 6)⟩,
    ⟨(some 8), none, .mv (.const (Go.Value.int Go.IntKind.i64 0))⟩])
  (.block 0 (.loop (.seq (.ops [⟨(some 9), none, .bin .lss 3 (.tmp 8) (.tmp 7)⟩])
      (.seq (.cond (.tmp 9)
        (.skip)
        (.exit 0))
      (.seq (.block 1 (.seq (.ops [⟨(some 10), none, .idx (.tmp 6) (.tmp 8) 1⟩,
          ⟨(some 11), none, .ld (.tmp 10) none⟩,
          ⟨(some 5), none, .mv (.tmp 11)⟩])
        (.seq (.ops [⟨(some 12), none, .mv (.tmp 5)⟩,
          ⟨(some 13), none, .mv (.tmp 3)⟩,
          ⟨(some 14), none, .bin .neq 3 (.tmp 12) (.tmp 13)⟩])
        (.cond (.tmp 14)
          (.seq (.ops [⟨(some 15), none, .mv (.tmp 5)⟩,
            ⟨(some 2), none, .mv (.tmp 15)⟩])
          (.ret))
          (.skip)))))
      (.ops [⟨(some 16), none, .bin .add 3 (.tmp 8) (.const (Go.Value.int Go.IntKind.i64 1))⟩,
        ⟨(some 8), none, .mv (.tmp 16)⟩])))))))
  (.seq (.ops [⟨(some 17), none, .mv (.tmp 3)⟩,
    ⟨(some 2), none, .mv (.tmp 17)⟩])
  (.ret))))
theorem is_cmp_Or_int : FnIs Try.prog F.cmp_Or_int X.cmp_Or_int 18 [.tmp 2] := ⟨by kernel_rfl⟩

/-- (*haycroft/device.Device).Blocks$1: function 57 -/
abbrev F.device_Device_Blocks_1 : FuncId := 57
def X.device_Device_Blocks_1 : X :=
  .seq (.ops [⟨(some 2), none, .box 24 (.tmp 0)⟩,
    ⟨(some 3), none, .box 24 (.tmp 1)⟩,
    ⟨(some 4), none, .mv (.const (Go.Value.int Go.IntKind.i64 0))⟩])
  (.seq (.drawn [(0, ⟨(some 5), none, .fld (.tmp 2) 0⟩),
    (1, ⟨(some 6), none, .ld (.tmp 5) none⟩),
    (2, ⟨(some 7), none, .fld (.tmp 3) 0⟩),
    (3, ⟨(some 8), none, .ld (.tmp 7) none⟩),
    (5, ⟨(some 10), none, .fld (.tmp 2) 1⟩),
    (6, ⟨(some 11), none, .ld (.tmp 10) none⟩),
    (7, ⟨(some 12), none, .fld (.tmp 3) 1⟩),
    (8, ⟨(some 13), none, .ld (.tmp 12) none⟩),
    (4, ⟨(some 9), none, .call 59 [(.tmp 6), (.tmp 8)]⟩),
    (9, ⟨(some 14), none, .call 59 [(.tmp 11), (.tmp 13)]⟩),
    (10, ⟨(some 15), none, .bsl 3 1 2 [(Go.Value.int Go.IntKind.i64 0)] [(0, (.tmp 9)), (1, (.tmp 14))]⟩),
    (11, ⟨(some 16), none, .call 58 [(.tmp 15)]⟩),
    (12, ⟨(some 4), none, .mv (.tmp 16)⟩)]
    [[], [0], [], [2], [1, 3], [], [5], [], [7], [6, 8, 4], [4, 9], [10, 9], [11, 11, 0, 1, 2, 3, 4, 5, 6, 7, 8, 9, 10, 11]]
    [0, 1, 0, 4, 15, 0, 32, 0, 128, 511, 1023, 2047, 4095] 3600)
  (.ret))
theorem is_device_Device_Blocks_1 : FnIs Try.prog F.device_Device_Blocks_1 X.device_Device_Blocks_1 17 [.tmp 4] := ⟨by kernel_rfl⟩

/-- (*haycroft/device.Device).Blocks: function 25 -/
abbrev F.device_Device_Blocks : FuncId := 25
def X.device_Device_Blocks : X :=
  .seq (.ops [⟨(some 2), none, .mv (.const (Go.Value.slice none 0 0))⟩])
  (.seq (.seq (.ops [⟨(some 3), none, .mv (.tmp 0)⟩,
    ⟨(some 4), none, .eq false .ptr (.tmp 3) (.const (Go.Value.pointer none))⟩])
  (.cond (.tmp 4)
    (.seq (.ops [⟨(some 2), none, .mv (.const (Go.Value.slice none 0 0))⟩])
    (.ret))
    (.skip)))
  (.seq (.ops [⟨(some 5), none, .mv (.tmp 0)⟩,
    ⟨(some 6), none, .nilc (.tmp 5)⟩,
    ⟨(some 7), none, .fld (.tmp 6) 1⟩,
    ⟨(some 8), none, .ld (.tmp 7) none⟩,
    ⟨(some 9), none, .call 56 [(.tmp 8)]⟩,
    ⟨(some 10), none, .call 55 [(.tmp 9), (.func 57)]⟩,
    ⟨(some 2), none, .mv (.tmp 10)⟩])
  (.ret)))
theorem is_device_Device_Blocks : FnIs Try.prog F.device_Device_Blocks X.device_Device_Blocks 11 [.tmp 2] := ⟨by kernel_rfl⟩
theorem bd_device_Device_Blocks_1 : bodyOk Try.prog F.device_Device_Blocks_1 = true := by kernel_rfl

/-- haycroft/haycroftlaw11.DeviceNil: function 5 -/
abbrev F.law11_DeviceNil : FuncId := 5
def X.law11_DeviceNil : X :=
  .seq (.ops [⟨(some 1), none, .box 30 (.tmp 0)⟩,
    ⟨(some 2), none, .mv (.const (Go.Value.bool false))⟩])
  (.seq (.seq (.ops [⟨(some 12), none, .call 9 []⟩,
    ⟨(some 13), none, .un .not (.tmp 12)⟩])
  (.cond (.tmp 13)
    (.seq (.ops [⟨(some 2), none, .mv (.const (Go.Value.bool false))⟩])
    (.ret))
    (.skip)))
  (.seq (.ops [⟨(some 3), none, .mv (.const (Go.Value.pointer none))⟩])
  (.seq (.ops [⟨(some 15), none, .mv (.tmp 3)⟩,
    ⟨(some 16), none, .fld (.tmp 1) 1⟩,
    ⟨(some 17), none, .ld (.tmp 16) (some 2)⟩,
    ⟨(some 18), none, .fld (.tmp 1) 3⟩,
    ⟨(some 19), none, .ld (.tmp 18) none⟩,
    ⟨(some 20), none, .call 11 [(.tmp 15), (.tmp 17), (.tmp 19)]⟩,
    ⟨(some 14), none, .mv (.tmp 20)⟩,
    ⟨(some 21), none, .ext (.tmp 14) 0⟩,
    ⟨(some 22), none, .ext (.tmp 14) 1⟩,
    ⟨(some 4), none, .mv (.tmp 21)⟩,
    ⟨(some 5), none, .mv (.tmp 22)⟩])
  (.seq (.ops [⟨(some 24), none, .mv (.tmp 3)⟩,
    ⟨(some 25), none, .fld (.tmp 1) 1⟩,
    ⟨(some 26), none, .ld (.tmp 25) (some 2)⟩,
    ⟨(some 27), none, .call 12 [(.tmp 24), (.tmp 26)]⟩,
    ⟨(some 23), none, .mv (.tmp 27)⟩,
    ⟨(some 28), none, .ext (.tmp 23) 0⟩,
    ⟨(some 29), none, .ext (.tmp 23) 1⟩,
    ⟨(some 6), none, .mv (.tmp 28)⟩,
    ⟨(some 7), none, .mv (.tmp 29)⟩])
  (.seq (.ops [⟨(some 31), none, .mv (.tmp 3)⟩,
    ⟨(some 32), none, .fld (.tmp 1) 4⟩,
    ⟨(some 33), none, .ld (.tmp 32) none⟩,
    ⟨(some 34), none, .call 14 [(.tmp 31), (.tmp 33)]⟩,
    ⟨(some 30), none, .mv (.tmp 34)⟩,
    ⟨(some 35), none, .ext (.tmp 30) 0⟩,
    ⟨(some 36), none, .ext (.tmp 30) 1⟩,
    ⟨(some 8), none, .mv (.tmp 35)⟩,
    ⟨(some 9), none, .mv (.tmp 36)⟩])
  (.seq (.ops [⟨(some 38), none, .mv (.tmp 3)⟩,
    ⟨(some 39), none, .fld (.tmp 1) 1⟩,
    ⟨(some 40), none, .ld (.tmp 39) (some 2)⟩,
    ⟨(some 41), none, .call 16 [(.tmp 38), (.tmp 40)]⟩,
    ⟨(some 37), none, .mv (.tmp 41)⟩,
    ⟨(some 42), none, .ext (.tmp 37) 0⟩,
    ⟨(some 43), none, .ext (.tmp 37) 1⟩,
    ⟨(some 10), none, .mv (.tmp 42)⟩,
    ⟨(some 11), none, .mv (.tmp 43)⟩])
  (.seq (.ops [⟨(some 44), none, .mv (.tmp 4)⟩,
    ⟨(some 45), none, .bin .eql 3 (.tmp 44) (.const (Go.Value.int Go.IntKind.i64 0))⟩,
    ⟨(some 46), none, .mv (.tmp 45)⟩,
    ⟨(some 47), (some (46, true)), .mv (.tmp 5)⟩,
    ⟨(some 48), (some (46, true)), .bin .eql 31 (.tmp 47) (.const (Go.Value.int Go.IntKind.i64 2))⟩,
    ⟨(some 49), none, .pick (.tmp 46) (.tmp 48) (.const (Go.Value.bool false))⟩,
    ⟨(some 50), none, .mv (.tmp 49)⟩,
    ⟨(some 51), (some (50, true)), .mv (.tmp 6)⟩,
    ⟨(some 52), (some (50, true)), .bin .eql 3 (.tmp 51) (.const (Go.Value.int Go.IntKind.i64 0))⟩,
    ⟨(some 53), none, .pick (.tmp 50) (.tmp 52) (.const (Go.Value.bool false))⟩,
    ⟨(some 54), none, .mv (.tmp 53)⟩,
    ⟨(some 55), (some (54, true)), .mv (.tmp 7)⟩,
    ⟨(some 56), (some (54, true)), .bin .eql 31 (.tmp 55) (.const (Go.Value.int Go.IntKind.i64 2))⟩,
    ⟨(some 57), none, .pick (.tmp 54) (.tmp 56) (.const (Go.Value.bool false))⟩,
    ⟨(some 58), none, .mv (.tmp 57)⟩,
    ⟨(some 59), (some (58, true)), .mv (.tmp 3)⟩,
    ⟨(some 60), (some (58, true)), .fld (.tmp 1) 4⟩,
    ⟨(some 61), (some (58, true)), .ld (.tmp 60) none⟩,
    ⟨(some 62), (some (58, true)), .call 13 [(.tmp 59), (.tmp 61)]⟩,
    ⟨(some 63), (some (58, true)), .bin .eql 31 (.tmp 62) (.const (Go.Value.int Go.IntKind.i64 2))⟩,
    ⟨(some 64), none, .pick (.tmp 58) (.tmp 63) (.const (Go.Value.bool false))⟩,
    ⟨(some 65), none, .mv (.tmp 64)⟩,
    ⟨(some 66), (some (65, true)), .mv (.tmp 8)⟩,
    ⟨(some 67), (some (65, true)), .bin .eql 9 (.tmp 66) (.const (Go.Value.string { data := #[] }))⟩,
    ⟨(some 68), none, .pick (.tmp 65) (.tmp 67) (.const (Go.Value.bool false))⟩,
    ⟨(some 69), none, .mv (.tmp 68)⟩,
    ⟨(some 70), (some (69, true)), .mv (.tmp 9)⟩,
    ⟨(some 71), (some (69, true)), .bin .eql 31 (.tmp 70) (.const (Go.Value.int Go.IntKind.i64 2))⟩,
    ⟨(some 72), none, .pick (.tmp 69) (.tmp 71) (.const (Go.Value.bool false))⟩,
    ⟨(some 73), none, .mv (.tmp 72)⟩,
    ⟨(some 74), (some (73, true)), .mv (.tmp 3)⟩,
    ⟨(some 75), (some (73, true)), .call 22 [(.tmp 74)]⟩,
    ⟨(some 76), (some (73, true)), .lenS (.tmp 75)⟩,
    ⟨(some 77), (some (73, true)), .bin .eql 3 (.tmp 76) (.const (Go.Value.int Go.IntKind.i64 0))⟩,
    ⟨(some 78), none, .pick (.tmp 73) (.tmp 77) (.const (Go.Value.bool false))⟩,
    ⟨(some 79), none, .mv (.tmp 78)⟩,
    ⟨(some 80), (some (79, true)), .mv (.tmp 3)⟩,
    ⟨(some 81), (some (79, true)), .fld (.tmp 1) 5⟩,
    ⟨(some 82), (some (79, true)), .ld (.tmp 81) none⟩,
    ⟨(some 83), (some (79, true)), .call 15 [(.tmp 80), (.tmp 82)]⟩,
    ⟨(some 84), (some (79, true)), .bin .eql 31 (.tmp 83) (.const (Go.Value.int Go.IntKind.i64 2))⟩,
    ⟨(some 85), none, .pick (.tmp 79) (.tmp 84) (.const (Go.Value.bool false))⟩,
    ⟨(some 86), none, .mv (.tmp 85)⟩,
    ⟨(some 87), (some (86, true)), .mv (.tmp 3)⟩,
    ⟨(some 88), (some (86, true)), .call 18 [(.tmp 87)]⟩,
    ⟨(some 89), (some (86, true)), .bin .eql 31 (.tmp 88) (.const (Go.Value.int Go.IntKind.i64 2))⟩,
    ⟨(some 90), none, .pick (.tmp 86) (.tmp 89) (.const (Go.Value.bool false))⟩,
    ⟨(some 91), none, .mv (.tmp 90)⟩,
    ⟨(some 92), (some (91, true)), .mv (.tmp 3)⟩,
    ⟨(some 93), (some (91, true)), .call 24 [(.tmp 92)]⟩,
    ⟨(some 94), (some (91, true)), .un .not (.tmp 93)⟩,
    ⟨(some 95), none, .pick (.tmp 91) (.tmp 94) (.const (Go.Value.bool false))⟩,
    ⟨(some 96), none, .mv (.tmp 95)⟩,
    ⟨(some 97), (some (96, true)), .mv (.tmp 10)⟩,
    ⟨(some 98), (some (96, true)), .bin .eql 9 (.tmp 97) (.const (Go.Value.string { data := #[] }))⟩,
    ⟨(some 99), none, .pick (.tmp 96) (.tmp 98) (.const (Go.Value.bool false))⟩,
    ⟨(some 100), none, .mv (.tmp 99)⟩,
    ⟨(some 101), (some (100, true)), .mv (.tmp 11)⟩,
    ⟨(some 102), (some (100, true)), .un .not (.tmp 101)⟩,
    ⟨(some 103), none, .pick (.tmp 100) (.tmp 102) (.const (Go.Value.bool false))⟩,
    ⟨(some 104), none, .mv (.tmp 103)⟩,
    ⟨(some 105), (some (104, true)), .mv (.tmp 3)⟩,
    ⟨(some 106), (some (104, true)), .call 25 [(.tmp 105)]⟩,
    ⟨(some 107), (some (104, true)), .lenS (.tmp 106)⟩,
    ⟨(some 108), (some (104, true)), .bin .eql 3 (.tmp 107) (.const (Go.Value.int Go.IntKind.i64 0))⟩,
    ⟨(some 109), none, .pick (.tmp 104) (.tmp 108) (.const (Go.Value.bool false))⟩,
    ⟨(some 2), none, .mv (.tmp 109)⟩])
  (.ret))))))))
theorem is_law11_DeviceNil : FnIs Try.prog F.law11_DeviceNil X.law11_DeviceNil 110 [.tmp 2] := ⟨by kernel_rfl⟩

-- loop (inner ones first): [0, 1, 2, 7]
/-- haycroft/haycroftlaw11.between: function 17 -/
abbrev F.law11_between : FuncId := 17
def X.law11_between : X :=
  .seq (.ops [⟨(some 6), none, .mv (.const (Go.Value.bool false))⟩])
  (.seq (.seq (.ops [⟨(some 7), none, .mv (.const (Go.Value.int Go.IntKind.i64 0))⟩])
  (.block 0 (.loop (.seq (.seq (.ops [⟨(some 8), none, .mv (.tmp 7)⟩,
        ⟨(some 9), none, .mv (.tmp 2)⟩,
        ⟨(some 10), none, .lenB (.tmp 9)⟩,
        ⟨(some 11), none, .bin .leq 3 (.tmp 8) (.tmp 10)⟩])
      (.cond (.tmp 11)
        (.skip)
        (.exit 0)))
      (.seq (.block 1 (.seq (.drawn [(0, ⟨(some 14), none, .mv (.tmp 0)⟩),
          (1, ⟨(some 15), none, .mv (.tmp 2)⟩),
          (2, ⟨(some 16), none, .mv (.tmp 7)⟩),
          (3, ⟨(some 17), none, .sls (.tmp 15) none (some (.tmp 16))⟩),
          (4, ⟨(some 18), none, .mv (.tmp 1)⟩),
          (5, ⟨(some 19), none, .mv (.tmp 7)⟩),
          (6, ⟨(some 20), none, .mv (.tmp 1)⟩),
          (7, ⟨(some 21), none, .lenB (.tmp 20)⟩),
          (8, ⟨(some 22), none, .mnx false (.tmp 19) [(.tmp 21)]⟩),
          (9, ⟨(some 23), none, .sls (.tmp 18) (some (.tmp 22)) none⟩),
          (10, ⟨(some 24), none, .bin .add 9 (.tmp 17) (.tmp 23)⟩),
          (11, ⟨(some 25), none, .bin .eql 9 (.tmp 14) (.tmp 24)⟩)]
          [[], [], [], [1, 2], [], [], [], [6], [5, 7], [4, 8], [3, 9], [0, 10]]
          [0, 0, 0, 6, 0, 0, 0, 64, 224, 496, 1022, 2047] 0)
        (.cond (.tmp 25)
          (.seq (.ops [⟨(some 6), none, .mv (.const (Go.Value.bool true))⟩])
          (.ret))
          (.skip))))
      (.ops [⟨(some 12), none, .mv (.tmp 7)⟩,
        ⟨(some 13), none, .bin .add 3 (.tmp 12) (.const (Go.Value.int Go.IntKind.i64 1))⟩,
        ⟨(some 7), none, .mv (.tmp 13)⟩]))))))
  (.seq (.ops [⟨(some 26), none, .mv (.tmp 0)⟩,
    ⟨(some 27), none, .mv (.tmp 2)⟩,
    ⟨(some 28), none, .bin .eql 9 (.tmp 26) (.tmp 27)⟩,
    ⟨(some 6), none, .mv (.tmp 28)⟩])
  (.ret)))
theorem is_law11_between : FnIs Try.prog F.law11_between X.law11_between 29 [.tmp 6] := ⟨by kernel_rfl⟩

-- loop (inner ones first): [0, 3, 5, 6, 7, 8, 9]
/-- haycroft/haycroftlaw11.DeviceLasts: function 3 -/
abbrev F.law11_DeviceLasts : FuncId := 3
def X.law11_DeviceLasts : X :=
  .seq (.ops [⟨(some 3), none, .box 24 (.tmp 1)⟩,
    ⟨(some 4), none, .mv (.const (Go.Value.bool false))⟩])
  (.seq (.seq (.ops [⟨(some 17), none, .call 9 []⟩,
    ⟨(some 18), none, .un .not (.tmp 17)⟩])
  (.cond (.tmp 18)
    (.seq (.ops [⟨(some 4), none, .mv (.const (Go.Value.bool false))⟩])
    (.ret))
    (.skip)))
  (.seq (.ops [⟨(some 19), none, .call 10 []⟩,
    ⟨(some 5), none, .mv (.tmp 19)⟩])
  (.seq (.ops [⟨(some 6), none, .mv (.const (Go.Value.string { data := #[] }))⟩])
  (.seq (.ops [⟨(some 7), none, .mv (.const (Go.Value.int Go.IntKind.i64 0))⟩])
  (.seq (.ops [⟨(some 8), none, .mv (.const (Go.Value.string { data := #[] }))⟩])
  (.seq (.seq (.ops [⟨(some 9), none, .mv (.const (Go.Value.int Go.IntKind.i64 0))⟩])
  (.block 0 (.loop (.seq (.seq (.ops [⟨(some 20), none, .mv (.tmp 9)⟩,
        ⟨(some 21), none, .mv (.tmp 0)⟩,
        ⟨(some 22), none, .lenS (.tmp 21)⟩,
        ⟨(some 23), none, .bin .lss 3 (.tmp 20) (.tmp 22)⟩,
        ⟨(some 24), none, .mv (.tmp 23)⟩,
        ⟨(some 25), (some (24, true)), .mv (.tmp 9)⟩,
        ⟨(some 26), (some (24, true)), .bin .lss 3 (.tmp 25) (.const (Go.Value.int Go.IntKind.i64 120))⟩,
        ⟨(some 27), none, .pick (.tmp 24) (.tmp 26) (.const (Go.Value.bool false))⟩])
      (.cond (.tmp 27)
        (.skip)
        (.exit 0)))
      (.seq (.block 1 (.seq (.ops [⟨(some 30), none, .mv (.tmp 0)⟩,
          ⟨(some 31), none, .mv (.tmp 9)⟩,
          ⟨(some 32), none, .idx (.tmp 30) (.tmp 31) 6⟩,
          ⟨(some 33), none, .ld (.tmp 32) (some 6)⟩,
          ⟨(some 10), none, .new 30 (Go.Value.agg #[(Go.Value.int Go.IntKind.i64 0), (Go.Value.int Go.IntKind.i64 0), (Go.Value.int Go.IntKind.i64 0), (Go.Value.string { data := #[] }), (Go.Value.int Go.IntKind.i64 0), (Go.Value.slice none 0 0)])⟩,
          ⟨none, none, .st (.tmp 10) (.tmp 33) 6⟩])
        (.seq (.seq (.ops [⟨(some 34), none, .fld (.tmp 10) 3⟩,
          ⟨(some 35), none, .ld (.tmp 34) none⟩,
          ⟨(some 36), none, .lenB (.tmp 35)⟩,
          ⟨(some 37), none, .bin .gtr 3 (.tmp 36) (.const (Go.Value.int Go.IntKind.i64 2000))⟩])
        (.cond (.tmp 37)
          (.exit 1)
          (.skip)))
        (.seq (.seq (.ops [⟨(some 38), none, .fld (.tmp 10) 0⟩,
          ⟨(some 39), none, .ld (.tmp 38) none⟩])
        (.block 2 (.seq (.ops [⟨(some 41), none, .bin .eql 3 (.tmp 39) (.const (Go.Value.int Go.IntKind.i64 1))⟩,
            ⟨(some 40), none, .mv (.tmp 41)⟩])
          (.cond (.tmp 40)
            (.seq (.ops [⟨(some 43), none, .mv (.tmp 5)⟩,
              ⟨(some 44), none, .fld (.tmp 10) 1⟩,
              ⟨(some 45), none, .ld (.tmp 44) (some 2)⟩,
              ⟨(some 46), none, .fld (.tmp 10) 3⟩,
              ⟨(some 47), none, .ld (.tmp 46) none⟩,
              ⟨(some 48), none, .call 11 [(.tmp 43), (.tmp 45), (.tmp 47)]⟩,
              ⟨(some 42), none, .mv (.tmp 48)⟩,
              ⟨(some 49), none, .ext (.tmp 42) 0⟩,
              ⟨(some 50), none, .ext (.tmp 42) 1⟩,
              ⟨(some 11), none, .mv (.tmp 49)⟩,
              ⟨(some 12), none, .mv (.tmp 50)⟩])
            (.seq (.ops [⟨(some 51), none, .mv (.tmp 12)⟩,
              ⟨(some 52), none, .bin .eql 31 (.tmp 51) (.const (Go.Value.int Go.IntKind.i64 0))⟩,
              ⟨(some 53), none, .mv (.tmp 52)⟩,
              ⟨(some 54), (some (53, true)), .fld (.tmp 10) 1⟩,
              ⟨(some 55), (some (53, true)), .ld (.tmp 54) (some 2)⟩,
              ⟨(some 56), (some (53, true)), .ld (.tmp 3) (some 2)⟩,
              ⟨(some 57), (some (53, true)), .eq false (.agg 2 [(0, 0), (1, 0)]) (.tmp 55) (.tmp 56)⟩,
              ⟨(some 58), none, .pick (.tmp 53) (.tmp 57) (.const (Go.Value.bool false))⟩])
            (.cond (.tmp 58)
              (.seq (.ops [⟨(some 59), none, .mv (.tmp 11)⟩,
                ⟨(some 7), none, .mv (.tmp 59)⟩])
              (.ops [⟨(some 60), none, .fld (.tmp 10) 3⟩,
                ⟨(some 61), none, .ld (.tmp 60) none⟩,
                ⟨(some 8), none, .mv (.tmp 61)⟩]))
              (.skip))))
            (.seq (.ops [⟨(some 63), none, .bin .eql 3 (.tmp 39) (.const (Go.Value.int Go.IntKind.i64 2))⟩,
              ⟨(some 62), none, .mv (.tmp 63)⟩])
            (.cond (.tmp 62)
              (.ops [⟨(some 64), none, .mv (.tmp 5)⟩,
                ⟨(some 65), none, .fld (.tmp 10) 1⟩,
                ⟨(some 66), none, .ld (.tmp 65) (some 2)⟩,
                ⟨(some 67), none, .call 12 [(.tmp 64), (.tmp 66)]⟩])
              (.seq (.ops [⟨(some 69), none, .bin .eql 3 (.tmp 39) (.const (Go.Value.int Go.IntKind.i64 3))⟩,
                ⟨(some 68), none, .mv (.tmp 69)⟩])
              (.cond (.tmp 68)
                (.seq (.ops [⟨(some 70), none, .mv (.tmp 5)⟩,
                  ⟨(some 71), none, .fld (.tmp 10) 4⟩,
                  ⟨(some 72), none, .ld (.tmp 71) none⟩,
                  ⟨(some 73), none, .call 13 [(.tmp 70), (.tmp 72)]⟩,
                  ⟨(some 74), none, .bin .eql 31 (.tmp 73) (.const (Go.Value.int Go.IntKind.i64 0))⟩,
                  ⟨(some 75), none, .mv (.tmp 74)⟩,
                  ⟨(some 76), (some (75, true)), .mv (.tmp 7)⟩,
                  ⟨(some 77), (some (75, true)), .bin .gtr 3 (.tmp 76) (.const (Go.Value.int Go.IntKind.i64 0))⟩,
                  ⟨(some 78), none, .pick (.tmp 75) (.tmp 77) (.const (Go.Value.bool false))⟩,
                  ⟨(some 79), none, .mv (.tmp 78)⟩,
                  ⟨(some 80), (some (79, true)), .fld (.tmp 10) 4⟩,
                  ⟨(some 81), (some (79, true)), .ld (.tmp 80) none⟩,
                  ⟨(some 82), (some (79, true)), .mv (.tmp 7)⟩,
                  ⟨(some 83), (some (79, true)), .bin .eql 3 (.tmp 81) (.tmp 82)⟩,
                  ⟨(some 84), none, .pick (.tmp 79) (.tmp 83) (.const (Go.Value.bool false))⟩])
                (.cond (.tmp 84)
                  (.seq (.ops [⟨(some 85), none, .mv (.tmp 8)⟩,
                    ⟨(some 6), none, .mv (.tmp 85)⟩])
                  (.ops [⟨(some 7), none, .mv (.const (Go.Value.int Go.IntKind.i64 0))⟩]))
                  (.skip)))
                (.seq (.ops [⟨(some 87), none, .bin .eql 3 (.tmp 39) (.const (Go.Value.int Go.IntKind.i64 4))⟩,
                  ⟨(some 86), none, .mv (.tmp 87)⟩])
                (.cond (.tmp 86)
                  (.ops [⟨(some 88), none, .mv (.tmp 5)⟩,
                    ⟨(some 89), none, .fld (.tmp 10) 4⟩,
                    ⟨(some 90), none, .ld (.tmp 89) none⟩,
                    ⟨(some 91), none, .call 14 [(.tmp 88), (.tmp 90)]⟩])
                  (.seq (.ops [⟨(some 93), none, .bin .eql 3 (.tmp 39) (.const (Go.Value.int Go.IntKind.i64 5))⟩,
                    ⟨(some 92), none, .mv (.tmp 93)⟩])
                  (.cond (.tmp 92)
                    (.seq (.ops [⟨(some 94), none, .mv (.tmp 5)⟩,
                      ⟨(some 95), none, .fld (.tmp 10) 5⟩,
                      ⟨(some 96), none, .ld (.tmp 95) none⟩,
                      ⟨(some 97), none, .call 15 [(.tmp 94), (.tmp 96)]⟩,
                      ⟨(some 98), none, .bin .eql 31 (.tmp 97) (.const (Go.Value.int Go.IntKind.i64 0))⟩])
                    (.cond (.tmp 98)
                      (.seq (.ops [⟨(some 100), none, .mv (.tmp 5)⟩,
                        ⟨(some 101), none, .ld (.tmp 3) (some 2)⟩,
                        ⟨(some 102), none, .call 16 [(.tmp 100), (.tmp 101)]⟩,
                        ⟨(some 99), none, .mv (.tmp 102)⟩,
                        ⟨(some 103), none, .ext (.tmp 99) 0⟩,
                        ⟨(some 104), none, .ext (.tmp 99) 1⟩,
                        ⟨(some 13), none, .mv (.tmp 103)⟩,
                        ⟨(some 14), none, .mv (.tmp 104)⟩])
                      (.seq (.seq (.ops [⟨(some 105), none, .mv (.tmp 13)⟩,
                        ⟨(some 106), none, .mv (.tmp 6)⟩,
                        ⟨(some 107), none, .bin .neq 9 (.tmp 105) (.tmp 106)⟩,
                        ⟨(some 108), none, .mv (.tmp 107)⟩,
                        ⟨(some 109), (some (108, true)), .mv (.tmp 7)⟩,
                        ⟨(some 110), (some (108, true)), .bin .eql 3 (.tmp 109) (.const (Go.Value.int Go.IntKind.i64 0))⟩,
                        ⟨(some 111), (some (108, true)), .mv (.tmp 110)⟩,
                        ⟨(some 112), (some (111, false)), .mv (.tmp 13)⟩,
                        ⟨(some 113), (some (111, false)), .mv (.tmp 6)⟩,
                        ⟨(some 114), (some (111, false)), .mv (.tmp 8)⟩,
                        ⟨(some 115), (some (111, false)), .call 17 [(.tmp 112), (.tmp 113), (.tmp 114)]⟩,
                        ⟨(some 116), (some (111, false)), .un .not (.tmp 115)⟩,
                        ⟨(some 117), (some (108, true)), .pick (.tmp 111) (.const (Go.Value.bool true)) (.tmp 116)⟩,
                        ⟨(some 118), none, .pick (.tmp 108) (.tmp 117) (.const (Go.Value.bool false))⟩])
                      (.cond (.tmp 118)
                        (.seq (.ops [⟨(some 4), none, .mv (.const (Go.Value.bool false))⟩])
                        (.ret))
                        (.skip)))
                      (.seq (.ops [⟨(some 119), none, .mv (.tmp 13)⟩,
                        ⟨(some 6), none, .mv (.tmp 119)⟩])
                      (.ops [⟨(some 7), none, .mv (.const (Go.Value.int Go.IntKind.i64 0))⟩]))))
                      (.skip)))
                    (.seq (.ops [⟨(some 121), none, .bin .eql 3 (.tmp 39) (.const (Go.Value.int Go.IntKind.i64 6))⟩,
                      ⟨(some 120), none, .mv (.tmp 121)⟩])
                    (.cond (.tmp 120)
                      (.ops [⟨(some 122), none, .mv (.tmp 5)⟩,
                        ⟨(some 123), none, .call 18 [(.tmp 122)]⟩])
                      (.skip)))))))))))))))
        (.seq (.ops [⟨(some 125), none, .mv (.tmp 5)⟩,
          ⟨(some 126), none, .ld (.tmp 3) (some 2)⟩,
          ⟨(some 127), none, .call 16 [(.tmp 125), (.tmp 126)]⟩,
          ⟨(some 124), none, .mv (.tmp 127)⟩,
          ⟨(some 128), none, .ext (.tmp 124) 0⟩,
          ⟨(some 129), none, .ext (.tmp 124) 1⟩,
          ⟨(some 15), none, .mv (.tmp 128)⟩,
          ⟨(some 16), none, .mv (.tmp 129)⟩])
        (.seq (.ops [⟨(some 130), none, .mv (.tmp 15)⟩,
          ⟨(some 131), none, .mv (.tmp 6)⟩,
          ⟨(some 132), none, .bin .neq 9 (.tmp 130) (.tmp 131)⟩])
        (.cond (.tmp 132)
          (.seq (.ops [⟨(some 4), none, .mv (.const (Go.Value.bool false))⟩])
          (.ret))
          (.skip))))))))
      (.ops [⟨(some 28), none, .mv (.tmp 9)⟩,
        ⟨(some 29), none, .bin .add 3 (.tmp 28) (.const (Go.Value.int Go.IntKind.i64 1))⟩,
        ⟨(some 9), none, .mv (.tmp 29)⟩]))))))
  (.seq (.ops [⟨(some 4), none, .mv (.const (Go.Value.bool true))⟩])
  (.ret))))))))
theorem is_law11_DeviceLasts : FnIs Try.prog F.law11_DeviceLasts X.law11_DeviceLasts 133 [.tmp 4] := ⟨by kernel_rfl⟩

/-- haycroft/haycroftref11.May: function 82 -/
abbrev F.ref11_May : FuncId := 82
def X.ref11_May : X :=
  .seq (.ops [⟨(some 1), none, .box 24 (.tmp 0)⟩,
    ⟨(some 2), none, .mv (.const (Go.Value.bool false))⟩])
  (.seq (.ops [⟨(some 3), none, .fld (.tmp 1) 0⟩,
    ⟨(some 4), none, .ld (.tmp 3) none⟩,
    ⟨(some 5), none, .bin .geq 3 (.tmp 4) (.const (Go.Value.int Go.IntKind.i64 0))⟩,
    ⟨(some 6), none, .mv (.tmp 5)⟩,
    ⟨(some 7), (some (6, true)), .fld (.tmp 1) 0⟩,
    ⟨(some 8), (some (6, true)), .ld (.tmp 7) none⟩,
    ⟨(some 9), (some (6, true)), .bin .leq 3 (.tmp 8) (.const (Go.Value.int Go.IntKind.i64 2))⟩,
    ⟨(some 10), none, .pick (.tmp 6) (.tmp 9) (.const (Go.Value.bool false))⟩,
    ⟨(some 11), none, .mv (.tmp 10)⟩,
    ⟨(some 12), (some (11, true)), .fld (.tmp 1) 1⟩,
    ⟨(some 13), (some (11, true)), .ld (.tmp 12) none⟩,
    ⟨(some 14), (some (11, true)), .bin .geq 3 (.tmp 13) (.const (Go.Value.int Go.IntKind.i64 0))⟩,
    ⟨(some 15), none, .pick (.tmp 11) (.tmp 14) (.const (Go.Value.bool false))⟩,
    ⟨(some 16), none, .mv (.tmp 15)⟩,
    ⟨(some 17), (some (16, true)), .fld (.tmp 1) 1⟩,
    ⟨(some 18), (some (16, true)), .ld (.tmp 17) none⟩,
    ⟨(some 19), (some (16, true)), .bin .leq 3 (.tmp 18) (.const (Go.Value.int Go.IntKind.i64 63))⟩,
    ⟨(some 20), none, .pick (.tmp 16) (.tmp 19) (.const (Go.Value.bool false))⟩,
    ⟨(some 2), none, .mv (.tmp 20)⟩])
  (.ret))
theorem is_ref11_May : FnIs Try.prog F.ref11_May X.ref11_May 21 [.tmp 2] := ⟨by kernel_rfl⟩

-- loop (inner ones first): [0, 3, 4]
/-- (*haycroft/haycroftref11.Device).Flight: function 23 -/
abbrev F.ref11_Device_Flight : FuncId := 23
def X.ref11_Device_Flight : X :=
  .seq (.ops [⟨(some 2), none, .mv (.const (Go.Value.slice none 0 0))⟩])
  (.seq (.ops [⟨(some 5), none, .bsl 3 1 0 [(Go.Value.int Go.IntKind.i64 0)] []⟩,
    ⟨(some 3), none, .mv (.tmp 5)⟩])
  (.seq (.seq (.ops [⟨(some 4), none, .mv (.const (Go.Value.int Go.IntKind.i64 0))⟩])
  (.block 0 (.loop (.seq (.seq (.ops [⟨(some 6), none, .mv (.tmp 4)⟩,
        ⟨(some 7), none, .mv (.tmp 0)⟩,
        ⟨(some 8), none, .nilc (.tmp 7)⟩,
        ⟨(some 9), none, .fld (.tmp 8) 2⟩,
        ⟨(some 10), none, .ld (.tmp 9) none⟩,
        ⟨(some 11), none, .lenS (.tmp 10)⟩,
        ⟨(some 12), none, .bin .lss 3 (.tmp 6) (.tmp 11)⟩])
      (.cond (.tmp 12)
        (.skip)
        (.exit 0)))
      (.seq (.block 1 (.seq (.ops [⟨(some 15), none, .mv (.tmp 0)⟩,
          ⟨(some 16), none, .nilc (.tmp 15)⟩,
          ⟨(some 17), none, .fld (.tmp 16) 2⟩,
          ⟨(some 18), none, .ld (.tmp 17) none⟩,
          ⟨(some 19), none, .mv (.tmp 4)⟩,
          ⟨(some 20), none, .idx (.tmp 18) (.tmp 19) 6⟩,
          ⟨(some 21), none, .fld (.tmp 20) 5⟩,
          ⟨(some 22), none, .ld (.tmp 21) none⟩,
          ⟨(some 23), none, .bin .eql 3 (.tmp 22) (.const (Go.Value.int Go.IntKind.i64 0))⟩])
        (.cond (.tmp 23)
          (.ops [⟨(some 24), none, .mv (.tmp 3)⟩,
            ⟨(some 25), none, .mv (.tmp 4)⟩,
            ⟨(some 26), none, .bin .add 3 (.tmp 25) (.const (Go.Value.int Go.IntKind.i64 1))⟩,
            ⟨(some 27), none, .bsl 3 1 1 [(Go.Value.int Go.IntKind.i64 0)] [(0, (.tmp 26))]⟩,
            ⟨(some 28), none, .app 3 1 8 [(Go.Value.int Go.IntKind.i64 0)] (.tmp 24) (.tmp 27)⟩,
            ⟨(some 3), none, .mv (.tmp 28)⟩])
          (.skip))))
      (.ops [⟨(some 13), none, .mv (.tmp 4)⟩,
        ⟨(some 14), none, .bin .add 3 (.tmp 13) (.const (Go.Value.int Go.IntKind.i64 1))⟩,
        ⟨(some 4), none, .mv (.tmp 14)⟩]))))))
  (.seq (.ops [⟨(some 29), none, .mv (.tmp 3)⟩,
    ⟨(some 2), none, .mv (.tmp 29)⟩])
  (.ret))))
theorem is_ref11_Device_Flight : FnIs Try.prog F.ref11_Device_Flight X.ref11_Device_Flight 30 [.tmp 2] := ⟨by kernel_rfl⟩

-- loop (inner ones first): [0, 2, 3, 5, 10]
/-- (*haycroft/haycroftref11.Device).Ask: function 48 -/
abbrev F.ref11_Device_Ask : FuncId := 48
def X.ref11_Device_Ask : X :=
  .seq (.ops [⟨(some 5), none, .box 24 (.tmp 1)⟩,
    ⟨(some 8), none, .mv (.const (Go.Value.int Go.IntKind.i64 0))⟩,
    ⟨(some 9), none, .mv (.const (Go.Value.int Go.IntKind.i64 0))⟩])
  (.seq (.seq (.ops [⟨(some 11), none, .mv (.tmp 0)⟩,
    ⟨(some 12), none, .nilc (.tmp 11)⟩,
    ⟨(some 13), none, .fld (.tmp 12) 0⟩,
    ⟨(some 14), none, .ld (.tmp 13) none⟩])
  (.cond (.tmp 14)
    (.seq (.ops [⟨(some 8), none, .mv (.const (Go.Value.int Go.IntKind.i64 0))⟩,
      ⟨(some 9), none, .mv (.const (Go.Value.int Go.IntKind.i64 6))⟩])
    (.ret))
    (.skip)))
  (.seq (.seq (.ops [⟨(some 15), none, .ld (.tmp 5) (some 2)⟩,
    ⟨(some 16), none, .call 82 [(.tmp 15)]⟩,
    ⟨(some 17), none, .un .not (.tmp 16)⟩])
  (.cond (.tmp 17)
    (.seq (.ops [⟨(some 8), none, .mv (.const (Go.Value.int Go.IntKind.i64 0))⟩,
      ⟨(some 9), none, .mv (.const (Go.Value.int Go.IntKind.i64 1))⟩])
    (.ret))
    (.skip)))
  (.seq (.seq (.ops [⟨(some 18), none, .mv (.tmp 3)⟩,
    ⟨(some 19), none, .lenB (.tmp 18)⟩,
    ⟨(some 20), none, .bin .gtr 3 (.tmp 19) (.const (Go.Value.int Go.IntKind.i64 131072))⟩])
  (.cond (.tmp 20)
    (.seq (.ops [⟨(some 8), none, .mv (.const (Go.Value.int Go.IntKind.i64 0))⟩,
      ⟨(some 9), none, .mv (.const (Go.Value.int Go.IntKind.i64 5))⟩])
    (.ret))
    (.skip)))
  (.seq (.seq (.ops [⟨(some 10), none, .mv (.const (Go.Value.int Go.IntKind.i64 0))⟩])
  (.block 0 (.loop (.seq (.seq (.ops [⟨(some 21), none, .mv (.tmp 10)⟩,
        ⟨(some 22), none, .mv (.tmp 0)⟩,
        ⟨(some 23), none, .nilc (.tmp 22)⟩,
        ⟨(some 24), none, .fld (.tmp 23) 2⟩,
        ⟨(some 25), none, .ld (.tmp 24) none⟩,
        ⟨(some 26), none, .lenS (.tmp 25)⟩,
        ⟨(some 27), none, .bin .lss 3 (.tmp 21) (.tmp 26)⟩])
      (.cond (.tmp 27)
        (.skip)
        (.exit 0)))
      (.seq (.block 1 (.seq (.drawn [(0, ⟨(some 30), none, .mv (.tmp 2)⟩),
          (1, ⟨(some 31), none, .mv (.tmp 30)⟩),
          (2, ⟨(some 32), (some (31, true)), .mv (.tmp 0)⟩),
          (3, ⟨(some 33), (some (31, true)), .nilc (.tmp 32)⟩),
          (4, ⟨(some 34), (some (31, true)), .fld (.tmp 33) 2⟩),
          (5, ⟨(some 35), (some (31, true)), .ld (.tmp 34) none⟩),
          (6, ⟨(some 36), (some (31, true)), .mv (.tmp 10)⟩),
          (7, ⟨(some 37), (some (31, true)), .idx (.tmp 35) (.tmp 36) 6⟩),
          (8, ⟨(some 38), (some (31, true)), .fld (.tmp 37) 5⟩),
          (9, ⟨(some 39), (some (31, true)), .ld (.tmp 38) none⟩),
          (10, ⟨(some 40), (some (31, true)), .bin .eql 3 (.tmp 39) (.const (Go.Value.int Go.IntKind.i64 0))⟩),
          (11, ⟨(some 41), none, .pick (.tmp 31) (.tmp 40) (.const (Go.Value.bool false))⟩),
          (12, ⟨(some 42), none, .mv (.tmp 41)⟩),
          (13, ⟨(some 43), (some (42, true)), .mv (.tmp 0)⟩),
          (14, ⟨(some 44), (some (42, true)), .nilc (.tmp 43)⟩),
          (15, ⟨(some 45), (some (42, true)), .fld (.tmp 44) 2⟩),
          (16, ⟨(some 46), (some (42, true)), .ld (.tmp 45) none⟩),
          (17, ⟨(some 47), (some (42, true)), .mv (.tmp 10)⟩),
          (18, ⟨(some 48), (some (42, true)), .idx (.tmp 46) (.tmp 47) 6⟩),
          (19, ⟨(some 49), (some (42, true)), .fld (.tmp 48) 2⟩),
          (20, ⟨(some 50), (some (42, true)), .ld (.tmp 49) none⟩),
          (21, ⟨(some 51), none, .pick (.tmp 42) (.tmp 50) (.const (Go.Value.bool false))⟩),
          (22, ⟨(some 52), none, .mv (.tmp 51)⟩),
          (23, ⟨(some 53), (some (52, true)), .mv (.tmp 0)⟩),
          (24, ⟨(some 54), (some (52, true)), .nilc (.tmp 53)⟩),
          (25, ⟨(some 55), (some (52, true)), .fld (.tmp 54) 2⟩),
          (26, ⟨(some 56), (some (52, true)), .ld (.tmp 55) none⟩),
          (27, ⟨(some 57), (some (52, true)), .mv (.tmp 10)⟩),
          (28, ⟨(some 58), (some (52, true)), .idx (.tmp 56) (.tmp 57) 6⟩),
          (29, ⟨(some 59), (some (52, true)), .fld (.tmp 58) 0⟩),
          (30, ⟨(some 60), (some (52, true)), .ld (.tmp 59) (some 2)⟩),
          (31, ⟨(some 61), (some (52, true)), .ld (.tmp 5) (some 2)⟩),
          (32, ⟨(some 62), (some (52, true)), .eq false (.agg 2 [(0, 0), (1, 0)]) (.tmp 60) (.tmp 61)⟩),
          (33, ⟨(some 63), none, .pick (.tmp 52) (.tmp 62) (.const (Go.Value.bool false))⟩)]
          [[], [0], [1], [2, 1], [3, 1], [4, 1], [1], [5, 6, 1], [7, 1], [8, 1], [9, 1], [1, 10], [11, 1], [12], [13, 12], [14, 12], [15, 12], [12], [16, 17, 12], [18, 12], [19, 12], [12, 20], [21, 12], [22], [23, 22], [24, 22], [25, 22], [22], [26, 27, 22], [28, 22], [29, 22], [22], [30, 31, 22], [22, 32]]
          [0, 1, 3, 7, 15, 31, 3, 127, 255, 511, 1023, 2047, 4095, 8191, 16383, 32767, 65535, 8191, 262143, 524287, 1048575, 2097151, 4194303, 8388607, 16777215, 33554431, 67108863, 8388607, 268435455, 536870911, 1073741823, 8388607, 4294967295, 8589934591] 0)
        (.cond (.tmp 63)
          (.seq (.ops [⟨(some 8), none, .mv (.const (Go.Value.int Go.IntKind.i64 0))⟩,
            ⟨(some 9), none, .mv (.const (Go.Value.int Go.IntKind.i64 10))⟩])
          (.ret))
          (.skip))))
      (.ops [⟨(some 28), none, .mv (.tmp 10)⟩,
        ⟨(some 29), none, .bin .add 3 (.tmp 28) (.const (Go.Value.int Go.IntKind.i64 1))⟩,
        ⟨(some 10), none, .mv (.tmp 29)⟩]))))))
  (.seq (.seq (.ops [⟨(some 64), none, .mv (.tmp 0)⟩,
    ⟨(some 65), none, .call 23 [(.tmp 64)]⟩,
    ⟨(some 66), none, .lenS (.tmp 65)⟩,
    ⟨(some 67), none, .bin .geq 3 (.tmp 66) (.const (Go.Value.int Go.IntKind.i64 32))⟩])
  (.cond (.tmp 67)
    (.seq (.ops [⟨(some 8), none, .mv (.const (Go.Value.int Go.IntKind.i64 0))⟩,
      ⟨(some 9), none, .mv (.const (Go.Value.int Go.IntKind.i64 9))⟩])
    (.ret))
    (.skip)))
  (.seq (.drawn [(0, ⟨(some 68), none, .mv (.tmp 0)⟩),
    (1, ⟨(some 69), none, .mv (.tmp 0)⟩),
    (2, ⟨(some 70), none, .nilc (.tmp 69)⟩),
    (3, ⟨(some 71), none, .fld (.tmp 70) 2⟩),
    (4, ⟨(some 72), none, .ld (.tmp 71) none⟩),
    (5, ⟨(some 73), none, .ld (.tmp 5) (some 2)⟩),
    (6, ⟨(some 74), none, .mv (.tmp 2)⟩),
    (7, ⟨(some 75), none, .mv (.tmp 3)⟩),
    (8, ⟨(some 76), none, .bld [(Go.Value.int Go.IntKind.i64 0), (Go.Value.int Go.IntKind.i64 0), (Go.Value.bool false), (Go.Value.string { data := #[] }), (Go.Value.bool false), (Go.Value.int Go.IntKind.i64 0)] [(0, 2, (.tmp 73)), (2, 1, (.tmp 74)), (3, 1, (.tmp 75))]⟩),
    (9, ⟨(some 77), none, .bsl 111 6 1 [(Go.Value.int Go.IntKind.i64 0), (Go.Value.int Go.IntKind.i64 0), (Go.Value.bool false), (Go.Value.string { data := #[] }), (Go.Value.bool false), (Go.Value.int Go.IntKind.i64 0)] [(0, (.tmp 76))]⟩),
    (10, ⟨(some 78), none, .app 111 6 56 [(Go.Value.int Go.IntKind.i64 0), (Go.Value.int Go.IntKind.i64 0), (Go.Value.bool false), (Go.Value.string { data := #[] }), (Go.Value.bool false), (Go.Value.int Go.IntKind.i64 0)] (.tmp 72) (.tmp 77)⟩),
    (11, ⟨(some 79), none, .nilc (.tmp 68)⟩),
    (12, ⟨(some 80), none, .fld (.tmp 79) 2⟩),
    (13, ⟨none, none, .st (.tmp 80) (.tmp 78) 1⟩)]
    [[], [], [1], [2], [3], [], [], [], [5, 6, 7], [8], [4, 9], [0, 0, 1, 2, 3, 4, 5, 6, 7, 8, 9, 10], [11, 0, 1, 2, 3, 4, 5, 6, 7, 8, 9, 10], [12, 10, 10, 0, 1, 2, 3, 4, 5, 6, 7, 8, 9, 10]]
    [0, 0, 2, 6, 14, 0, 0, 0, 224, 480, 1022, 2047, 4095, 8191] 9728)
  (.seq (.ops [⟨(some 81), none, .mv (.tmp 0)⟩,
    ⟨(some 82), none, .nilc (.tmp 81)⟩,
    ⟨(some 83), none, .fld (.tmp 82) 2⟩,
    ⟨(some 84), none, .ld (.tmp 83) none⟩,
    ⟨(some 85), none, .lenS (.tmp 84)⟩,
    ⟨(some 8), none, .mv (.tmp 85)⟩,
    ⟨(some 9), none, .mv (.const (Go.Value.int Go.IntKind.i64 0))⟩])
  (.ret))))))))
theorem is_ref11_Device_Ask : FnIs Try.prog F.ref11_Device_Ask X.ref11_Device_Ask 86 [.tmp 8, .tmp 9] := ⟨by kernel_rfl⟩

/-- (*haycroft/haycroftref11.Device).At: function 83 -/
abbrev F.ref11_Device_At : FuncId := 83
def X.ref11_Device_At : X :=
  .seq (.ops [⟨(some 6), none, .mv (.const (Go.Value.bool false))⟩])
  (.seq (.ops [⟨(some 7), none, .mv (.tmp 1)⟩,
    ⟨(some 8), none, .bin .geq 3 (.tmp 7) (.const (Go.Value.int Go.IntKind.i64 1))⟩,
    ⟨(some 9), none, .mv (.tmp 8)⟩,
    ⟨(some 10), (some (9, true)), .mv (.tmp 1)⟩,
    ⟨(some 11), (some (9, true)), .mv (.tmp 0)⟩,
    ⟨(some 12), (some (9, true)), .nilc (.tmp 11)⟩,
    ⟨(some 13), (some (9, true)), .fld (.tmp 12) 2⟩,
    ⟨(some 14), (some (9, true)), .ld (.tmp 13) none⟩,
    ⟨(some 15), (some (9, true)), .lenS (.tmp 14)⟩,
    ⟨(some 16), (some (9, true)), .bin .leq 3 (.tmp 10) (.tmp 15)⟩,
    ⟨(some 17), none, .pick (.tmp 9) (.tmp 16) (.const (Go.Value.bool false))⟩,
    ⟨(some 18), none, .mv (.tmp 17)⟩,
    ⟨(some 19), (some (18, true)), .mv (.tmp 0)⟩,
    ⟨(some 20), (some (18, true)), .nilc (.tmp 19)⟩,
    ⟨(some 21), (some (18, true)), .fld (.tmp 20) 2⟩,
    ⟨(some 22), (some (18, true)), .ld (.tmp 21) none⟩,
    ⟨(some 23), (some (18, true)), .mv (.tmp 1)⟩,
    ⟨(some 24), (some (18, true)), .bin .sub 3 (.tmp 23) (.const (Go.Value.int Go.IntKind.i64 1))⟩,
    ⟨(some 25), (some (18, true)), .idx (.tmp 22) (.tmp 24) 6⟩,
    ⟨(some 26), (some (18, true)), .fld (.tmp 25) 5⟩,
    ⟨(some 27), (some (18, true)), .ld (.tmp 26) none⟩,
    ⟨(some 28), (some (18, true)), .mv (.tmp 2)⟩,
    ⟨(some 29), (some (18, true)), .bin .eql 3 (.tmp 27) (.tmp 28)⟩,
    ⟨(some 30), none, .pick (.tmp 18) (.tmp 29) (.const (Go.Value.bool false))⟩,
    ⟨(some 6), none, .mv (.tmp 30)⟩])
  (.ret))
theorem is_ref11_Device_At : FnIs Try.prog F.ref11_Device_At X.ref11_Device_At 31 [.tmp 6] := ⟨by kernel_rfl⟩

-- loop (inner ones first): [0, 2, 4, 6, 7, 8]
/-- (*haycroft/haycroftref11.Device).Lay: function 84 -/
abbrev F.ref11_Device_Lay : FuncId := 84
def X.ref11_Device_Lay : X :=
  .seq (.ops [⟨(some 4), none, .box 24 (.tmp 1)⟩])
  (.seq (.ops [⟨(some 10), none, .bsl 105 3 0 [(Go.Value.int Go.IntKind.i64 0), (Go.Value.int Go.IntKind.i64 0), (Go.Value.string { data := #[] })] []⟩,
    ⟨(some 6), none, .mv (.tmp 10)⟩])
  (.seq (.ops [⟨(some 7), none, .mv (.const (Go.Value.bool false))⟩])
  (.seq (.seq (.ops [⟨(some 8), none, .mv (.const (Go.Value.int Go.IntKind.i64 0))⟩])
  (.block 0 (.loop (.seq (.seq (.ops [⟨(some 11), none, .mv (.tmp 8)⟩,
        ⟨(some 12), none, .mv (.tmp 0)⟩,
        ⟨(some 13), none, .nilc (.tmp 12)⟩,
        ⟨(some 14), none, .fld (.tmp 13) 1⟩,
        ⟨(some 15), none, .ld (.tmp 14) none⟩,
        ⟨(some 16), none, .lenS (.tmp 15)⟩,
        ⟨(some 17), none, .bin .lss 3 (.tmp 11) (.tmp 16)⟩])
      (.cond (.tmp 17)
        (.skip)
        (.exit 0)))
      (.seq (.block 1 (.seq (.ops [⟨(some 20), none, .mv (.tmp 0)⟩,
          ⟨(some 21), none, .nilc (.tmp 20)⟩,
          ⟨(some 22), none, .fld (.tmp 21) 1⟩,
          ⟨(some 23), none, .ld (.tmp 22) none⟩,
          ⟨(some 24), none, .mv (.tmp 8)⟩,
          ⟨(some 25), none, .idx (.tmp 23) (.tmp 24) 3⟩,
          ⟨(some 26), none, .ld (.tmp 25) (some 3)⟩,
          ⟨(some 9), none, .new 105 (Go.Value.agg #[(Go.Value.int Go.IntKind.i64 0), (Go.Value.int Go.IntKind.i64 0), (Go.Value.string { data := #[] })])⟩,
          ⟨none, none, .st (.tmp 9) (.tmp 26) 3⟩])
        (.seq (.seq (.ops [⟨(some 27), none, .mv (.tmp 7)⟩,
          ⟨(some 28), none, .un .not (.tmp 27)⟩,
          ⟨(some 29), none, .mv (.tmp 28)⟩,
          ⟨(some 30), (some (29, true)), .fld (.tmp 4) 0⟩,
          ⟨(some 31), (some (29, true)), .ld (.tmp 30) none⟩,
          ⟨(some 32), (some (29, true)), .fld (.tmp 9) 0⟩,
          ⟨(some 33), (some (29, true)), .fld (.tmp 32) 0⟩,
          ⟨(some 34), (some (29, true)), .ld (.tmp 33) none⟩,
          ⟨(some 35), (some (29, true)), .bin .lss 3 (.tmp 31) (.tmp 34)⟩,
          ⟨(some 36), (some (29, true)), .mv (.tmp 35)⟩,
          ⟨(some 37), (some (36, false)), .fld (.tmp 4) 0⟩,
          ⟨(some 38), (some (36, false)), .ld (.tmp 37) none⟩,
          ⟨(some 39), (some (36, false)), .fld (.tmp 9) 0⟩,
          ⟨(some 40), (some (36, false)), .fld (.tmp 39) 0⟩,
          ⟨(some 41), (some (36, false)), .ld (.tmp 40) none⟩,
          ⟨(some 42), (some (36, false)), .bin .eql 3 (.tmp 38) (.tmp 41)⟩,
          ⟨(some 43), (some (36, false)), .mv (.tmp 42)⟩,
          ⟨(some 44), (some (43, true)), .fld (.tmp 4) 1⟩,
          ⟨(some 45), (some (43, true)), .ld (.tmp 44) none⟩,
          ⟨(some 46), (some (43, true)), .fld (.tmp 9) 0⟩,
          ⟨(some 47), (some (43, true)), .fld (.tmp 46) 1⟩,
          ⟨(some 48), (some (43, true)), .ld (.tmp 47) none⟩,
          ⟨(some 49), (some (43, true)), .bin .leq 3 (.tmp 45) (.tmp 48)⟩,
          ⟨(some 50), (some (36, false)), .pick (.tmp 43) (.tmp 49) (.const (Go.Value.bool false))⟩,
          ⟨(some 51), (some (29, true)), .pick (.tmp 36) (.const (Go.Value.bool true)) (.tmp 50)⟩,
          ⟨(some 52), none, .pick (.tmp 29) (.tmp 51) (.const (Go.Value.bool false))⟩])
        (.cond (.tmp 52)
          (.seq (.ops [⟨(some 53), none, .mv (.tmp 6)⟩,
            ⟨(some 54), none, .ld (.tmp 4) (some 2)⟩,
            ⟨(some 55), none, .mv (.tmp 2)⟩,
            ⟨(some 56), none, .bld [(Go.Value.int Go.IntKind.i64 0), (Go.Value.int Go.IntKind.i64 0), (Go.Value.string { data := #[] })] [(0, 2, (.tmp 54)), (2, 1, (.tmp 55))]⟩,
            ⟨(some 57), none, .bsl 105 3 1 [(Go.Value.int Go.IntKind.i64 0), (Go.Value.int Go.IntKind.i64 0), (Go.Value.string { data := #[] })] [(0, (.tmp 56))]⟩,
            ⟨(some 58), none, .app 105 3 32 [(Go.Value.int Go.IntKind.i64 0), (Go.Value.int Go.IntKind.i64 0), (Go.Value.string { data := #[] })] (.tmp 53) (.tmp 57)⟩,
            ⟨(some 6), none, .mv (.tmp 58)⟩])
          (.ops [⟨(some 7), none, .mv (.const (Go.Value.bool true))⟩]))
          (.skip)))
        (.seq (.ops [⟨(some 59), none, .fld (.tmp 9) 0⟩,
          ⟨(some 60), none, .ld (.tmp 59) (some 2)⟩,
          ⟨(some 61), none, .ld (.tmp 4) (some 2)⟩,
          ⟨(some 62), none, .eq true (.agg 2 [(0, 0), (1, 0)]) (.tmp 60) (.tmp 61)⟩])
        (.cond (.tmp 62)
          (.ops [⟨(some 63), none, .mv (.tmp 6)⟩,
            ⟨(some 64), none, .ld (.tmp 9) (some 3)⟩,
            ⟨(some 65), none, .bsl 105 3 1 [(Go.Value.int Go.IntKind.i64 0), (Go.Value.int Go.IntKind.i64 0), (Go.Value.string { data := #[] })] [(0, (.tmp 64))]⟩,
            ⟨(some 66), none, .app 105 3 32 [(Go.Value.int Go.IntKind.i64 0), (Go.Value.int Go.IntKind.i64 0), (Go.Value.string { data := #[] })] (.tmp 63) (.tmp 65)⟩,
            ⟨(some 6), none, .mv (.tmp 66)⟩])
          (.skip))))))
      (.ops [⟨(some 18), none, .mv (.tmp 8)⟩,
        ⟨(some 19), none, .bin .add 3 (.tmp 18) (.const (Go.Value.int Go.IntKind.i64 1))⟩,
        ⟨(some 8), none, .mv (.tmp 19)⟩]))))))
  (.seq (.seq (.ops [⟨(some 67), none, .mv (.tmp 7)⟩,
    ⟨(some 68), none, .un .not (.tmp 67)⟩])
  (.cond (.tmp 68)
    (.ops [⟨(some 69), none, .mv (.tmp 6)⟩,
      ⟨(some 70), none, .ld (.tmp 4) (some 2)⟩,
      ⟨(some 71), none, .mv (.tmp 2)⟩,
      ⟨(some 72), none, .bld [(Go.Value.int Go.IntKind.i64 0), (Go.Value.int Go.IntKind.i64 0), (Go.Value.string { data := #[] })] [(0, 2, (.tmp 70)), (2, 1, (.tmp 71))]⟩,
      ⟨(some 73), none, .bsl 105 3 1 [(Go.Value.int Go.IntKind.i64 0), (Go.Value.int Go.IntKind.i64 0), (Go.Value.string { data := #[] })] [(0, (.tmp 72))]⟩,
      ⟨(some 74), none, .app 105 3 32 [(Go.Value.int Go.IntKind.i64 0), (Go.Value.int Go.IntKind.i64 0), (Go.Value.string { data := #[] })] (.tmp 69) (.tmp 73)⟩,
      ⟨(some 6), none, .mv (.tmp 74)⟩])
    (.skip)))
  (.ops [⟨(some 75), none, .mv (.tmp 0)⟩,
    ⟨(some 76), none, .mv (.tmp 6)⟩,
    ⟨(some 77), none, .nilc (.tmp 75)⟩,
    ⟨(some 78), none, .fld (.tmp 77) 1⟩,
    ⟨none, none, .st (.tmp 78) (.tmp 76) 1⟩])))))
theorem is_ref11_Device_Lay : FnIs Try.prog F.ref11_Device_Lay X.ref11_Device_Lay 79 [] := ⟨by kernel_rfl⟩

-- loop (inner ones first): [0, 3, 6]
/-- (*haycroft/haycroftref11.Device).Peek: function 85 -/
abbrev F.ref11_Device_Peek : FuncId := 85
def X.ref11_Device_Peek : X :=
  .seq (.ops [⟨(some 3), none, .box 24 (.tmp 1)⟩,
    ⟨(some 4), none, .mv (.const (Go.Value.string { data := #[] }))⟩,
    ⟨(some 5), none, .mv (.const (Go.Value.bool false))⟩])
  (.seq (.seq (.ops [⟨(some 6), none, .mv (.const (Go.Value.int Go.IntKind.i64 0))⟩])
  (.block 0 (.loop (.seq (.seq (.ops [⟨(some 7), none, .mv (.tmp 6)⟩,
        ⟨(some 8), none, .mv (.tmp 0)⟩,
        ⟨(some 9), none, .nilc (.tmp 8)⟩,
        ⟨(some 10), none, .fld (.tmp 9) 1⟩,
        ⟨(some 11), none, .ld (.tmp 10) none⟩,
        ⟨(some 12), none, .lenS (.tmp 11)⟩,
        ⟨(some 13), none, .bin .lss 3 (.tmp 7) (.tmp 12)⟩])
      (.cond (.tmp 13)
        (.skip)
        (.exit 0)))
      (.seq (.block 1 (.seq (.drawn [(0, ⟨(some 16), none, .mv (.tmp 0)⟩),
          (1, ⟨(some 17), none, .nilc (.tmp 16)⟩),
          (2, ⟨(some 18), none, .fld (.tmp 17) 1⟩),
          (3, ⟨(some 19), none, .ld (.tmp 18) none⟩),
          (4, ⟨(some 20), none, .mv (.tmp 6)⟩),
          (5, ⟨(some 21), none, .idx (.tmp 19) (.tmp 20) 3⟩),
          (6, ⟨(some 22), none, .fld (.tmp 21) 0⟩),
          (7, ⟨(some 23), none, .ld (.tmp 22) (some 2)⟩),
          (8, ⟨(some 24), none, .ld (.tmp 3) (some 2)⟩),
          (9, ⟨(some 25), none, .eq false (.agg 2 [(0, 0), (1, 0)]) (.tmp 23) (.tmp 24)⟩)]
          [[], [0], [1], [2], [], [3, 4], [5], [6], [], [7, 8]]
          [0, 1, 3, 7, 0, 31, 63, 127, 0, 511] 0)
        (.cond (.tmp 25)
          (.seq (.ops [⟨(some 26), none, .mv (.tmp 0)⟩,
            ⟨(some 27), none, .nilc (.tmp 26)⟩,
            ⟨(some 28), none, .fld (.tmp 27) 1⟩,
            ⟨(some 29), none, .ld (.tmp 28) none⟩,
            ⟨(some 30), none, .mv (.tmp 6)⟩,
            ⟨(some 31), none, .idx (.tmp 29) (.tmp 30) 3⟩,
            ⟨(some 32), none, .fld (.tmp 31) 2⟩,
            ⟨(some 33), none, .ld (.tmp 32) none⟩,
            ⟨(some 4), none, .mv (.tmp 33)⟩,
            ⟨(some 5), none, .mv (.const (Go.Value.bool true))⟩])
          (.ret))
          (.skip))))
      (.ops [⟨(some 14), none, .mv (.tmp 6)⟩,
        ⟨(some 15), none, .bin .add 3 (.tmp 14) (.const (Go.Value.int Go.IntKind.i64 1))⟩,
        ⟨(some 6), none, .mv (.tmp 15)⟩]))))))
  (.seq (.ops [⟨(some 4), none, .mv (.const (Go.Value.string { data := #[] }))⟩,
    ⟨(some 5), none, .mv (.const (Go.Value.bool false))⟩])
  (.ret)))
theorem is_ref11_Device_Peek : FnIs Try.prog F.ref11_Device_Peek X.ref11_Device_Peek 34 [.tmp 4, .tmp 5] := ⟨by kernel_rfl⟩

/-- (*haycroft/haycroftref11.Device).Do: function 49 -/
abbrev F.ref11_Device_Do : FuncId := 49
def X.ref11_Device_Do : X :=
  .seq (.ops [⟨(some 4), none, .mv (.const (Go.Value.int Go.IntKind.i64 0))⟩])
  (.seq (.seq (.ops [⟨(some 8), none, .mv (.tmp 0)⟩,
    ⟨(some 9), none, .nilc (.tmp 8)⟩,
    ⟨(some 10), none, .fld (.tmp 9) 0⟩,
    ⟨(some 11), none, .ld (.tmp 10) none⟩])
  (.cond (.tmp 11)
    (.seq (.ops [⟨(some 4), none, .mv (.const (Go.Value.int Go.IntKind.i64 6))⟩])
    (.ret))
    (.skip)))
  (.seq (.seq (.ops [⟨(some 12), none, .mv (.tmp 0)⟩,
    ⟨(some 13), none, .mv (.tmp 1)⟩,
    ⟨(some 14), none, .call 83 [(.tmp 12), (.tmp 13), (.const (Go.Value.int Go.IntKind.i64 0))]⟩,
    ⟨(some 15), none, .un .not (.tmp 14)⟩])
  (.cond (.tmp 15)
    (.seq (.ops [⟨(some 4), none, .mv (.const (Go.Value.int Go.IntKind.i64 7))⟩])
    (.ret))
    (.skip)))
  (.seq (.ops [⟨(some 16), none, .mv (.tmp 0)⟩,
    ⟨(some 17), none, .nilc (.tmp 16)⟩,
    ⟨(some 18), none, .fld (.tmp 17) 2⟩,
    ⟨(some 19), none, .ld (.tmp 18) none⟩,
    ⟨(some 20), none, .mv (.tmp 1)⟩,
    ⟨(some 21), none, .bin .sub 3 (.tmp 20) (.const (Go.Value.int Go.IntKind.i64 1))⟩,
    ⟨(some 22), none, .idx (.tmp 19) (.tmp 21) 6⟩,
    ⟨(some 23), none, .ld (.tmp 22) (some 6)⟩,
    ⟨(some 5), none, .new 111 (Go.Value.agg #[(Go.Value.int Go.IntKind.i64 0), (Go.Value.int Go.IntKind.i64 0), (Go.Value.bool false), (Go.Value.string { data := #[] }), (Go.Value.bool false), (Go.Value.int Go.IntKind.i64 0)])⟩,
    ⟨none, none, .st (.tmp 5) (.tmp 23) 6⟩])
  (.seq (.ops [⟨(some 24), none, .fld (.tmp 5) 5⟩,
    ⟨none, none, .st (.tmp 24) (.const (Go.Value.int Go.IntKind.i64 1)) 1⟩])
  (.seq (.seq (.ops [⟨(some 25), none, .fld (.tmp 5) 2⟩,
    ⟨(some 26), none, .ld (.tmp 25) none⟩])
  (.cond (.tmp 26)
    (.seq (.ops [⟨(some 27), none, .mv (.tmp 0)⟩,
      ⟨(some 28), none, .fld (.tmp 5) 0⟩,
      ⟨(some 29), none, .ld (.tmp 28) (some 2)⟩,
      ⟨(some 30), none, .fld (.tmp 5) 3⟩,
      ⟨(some 31), none, .ld (.tmp 30) none⟩,
      ⟨(some 32), none, .call 84 [(.tmp 27), (.tmp 29), (.tmp 31)]⟩])
    (.ops [⟨(some 33), none, .fld (.tmp 5) 3⟩,
      ⟨none, none, .st (.tmp 33) (.const (Go.Value.string { data := #[] })) 1⟩]))
    (.seq (.ops [⟨(some 35), none, .mv (.tmp 0)⟩,
      ⟨(some 36), none, .fld (.tmp 5) 0⟩,
      ⟨(some 37), none, .ld (.tmp 36) (some 2)⟩,
      ⟨(some 38), none, .call 85 [(.tmp 35), (.tmp 37)]⟩,
      ⟨(some 34), none, .mv (.tmp 38)⟩,
      ⟨(some 39), none, .ext (.tmp 34) 0⟩,
      ⟨(some 40), none, .ext (.tmp 34) 1⟩,
      ⟨(some 6), none, .mv (.tmp 39)⟩,
      ⟨(some 7), none, .mv (.tmp 40)⟩])
    (.seq (.ops [⟨(some 41), none, .mv (.tmp 6)⟩,
      ⟨(some 42), none, .fld (.tmp 5) 3⟩,
      ⟨none, none, .st (.tmp 42) (.tmp 41) 1⟩])
    (.ops [⟨(some 43), none, .mv (.tmp 7)⟩,
      ⟨(some 44), none, .un .not (.tmp 43)⟩,
      ⟨(some 45), none, .fld (.tmp 5) 4⟩,
      ⟨none, none, .st (.tmp 45) (.tmp 44) 1⟩])))))
  (.seq (.drawn [(0, ⟨(some 46), none, .mv (.tmp 0)⟩),
    (1, ⟨(some 47), none, .nilc (.tmp 46)⟩),
    (2, ⟨(some 48), none, .fld (.tmp 47) 2⟩),
    (3, ⟨(some 49), none, .ld (.tmp 48) none⟩),
    (4, ⟨(some 50), none, .mv (.tmp 1)⟩),
    (5, ⟨(some 51), none, .bin .sub 3 (.tmp 50) (.const (Go.Value.int Go.IntKind.i64 1))⟩),
    (6, ⟨(some 52), none, .ld (.tmp 5) (some 6)⟩),
    (7, ⟨(some 53), none, .idx (.tmp 49) (.tmp 51) 6⟩),
    (8, ⟨none, none, .st (.tmp 53) (.tmp 52) 6⟩)]
    [[], [0], [1], [2], [], [4], [], [3, 5, 0, 1, 2, 3, 4, 5, 6], [7, 6, 0, 1, 2, 3, 4, 5, 6]]
    [0, 1, 3, 7, 0, 16, 0, 127, 255] 256)
  (.seq (.ops [⟨(some 4), none, .mv (.const (Go.Value.int Go.IntKind.i64 0))⟩])
  (.ret))))))))
theorem is_ref11_Device_Do : FnIs Try.prog F.ref11_Device_Do X.ref11_Device_Do 54 [.tmp 4] := ⟨by kernel_rfl⟩

/-- (*haycroft/haycroftref11.Device).Take: function 50 -/
abbrev F.ref11_Device_Take : FuncId := 50
def X.ref11_Device_Take : X :=
  .seq (.ops [⟨(some 4), none, .mv (.const (Go.Value.string { data := #[] }))⟩,
    ⟨(some 5), none, .mv (.const (Go.Value.int Go.IntKind.i64 0))⟩])
  (.seq (.seq (.ops [⟨(some 7), none, .mv (.tmp 0)⟩,
    ⟨(some 8), none, .nilc (.tmp 7)⟩,
    ⟨(some 9), none, .fld (.tmp 8) 0⟩,
    ⟨(some 10), none, .ld (.tmp 9) none⟩])
  (.cond (.tmp 10)
    (.seq (.ops [⟨(some 4), none, .mv (.const (Go.Value.string { data := #[] }))⟩,
      ⟨(some 5), none, .mv (.const (Go.Value.int Go.IntKind.i64 6))⟩])
    (.ret))
    (.skip)))
  (.seq (.seq (.ops [⟨(some 11), none, .mv (.tmp 0)⟩,
    ⟨(some 12), none, .mv (.tmp 1)⟩,
    ⟨(some 13), none, .call 83 [(.tmp 11), (.tmp 12), (.const (Go.Value.int Go.IntKind.i64 0))]⟩])
  (.cond (.tmp 13)
    (.seq (.ops [⟨(some 4), none, .mv (.const (Go.Value.string { data := #[] }))⟩,
      ⟨(some 5), none, .mv (.const (Go.Value.int Go.IntKind.i64 10))⟩])
    (.ret))
    (.skip)))
  (.seq (.seq (.ops [⟨(some 14), none, .mv (.tmp 0)⟩,
    ⟨(some 15), none, .mv (.tmp 1)⟩,
    ⟨(some 16), none, .call 83 [(.tmp 14), (.tmp 15), (.const (Go.Value.int Go.IntKind.i64 1))]⟩,
    ⟨(some 17), none, .un .not (.tmp 16)⟩])
  (.cond (.tmp 17)
    (.seq (.ops [⟨(some 4), none, .mv (.const (Go.Value.string { data := #[] }))⟩,
      ⟨(some 5), none, .mv (.const (Go.Value.int Go.IntKind.i64 7))⟩])
    (.ret))
    (.skip)))
  (.seq (.ops [⟨(some 18), none, .mv (.tmp 0)⟩,
    ⟨(some 19), none, .nilc (.tmp 18)⟩,
    ⟨(some 20), none, .fld (.tmp 19) 2⟩,
    ⟨(some 21), none, .ld (.tmp 20) none⟩,
    ⟨(some 22), none, .mv (.tmp 1)⟩,
    ⟨(some 23), none, .bin .sub 3 (.tmp 22) (.const (Go.Value.int Go.IntKind.i64 1))⟩,
    ⟨(some 24), none, .idx (.tmp 21) (.tmp 23) 6⟩,
    ⟨(some 25), none, .ld (.tmp 24) (some 6)⟩,
    ⟨(some 6), none, .new 111 (Go.Value.agg #[(Go.Value.int Go.IntKind.i64 0), (Go.Value.int Go.IntKind.i64 0), (Go.Value.bool false), (Go.Value.string { data := #[] }), (Go.Value.bool false), (Go.Value.int Go.IntKind.i64 0)])⟩,
    ⟨none, none, .st (.tmp 6) (.tmp 25) 6⟩])
  (.seq (.ops [⟨(some 26), none, .mv (.tmp 0)⟩,
    ⟨(some 27), none, .nilc (.tmp 26)⟩,
    ⟨(some 28), none, .fld (.tmp 27) 2⟩,
    ⟨(some 29), none, .ld (.tmp 28) none⟩,
    ⟨(some 30), none, .mv (.tmp 1)⟩,
    ⟨(some 31), none, .bin .sub 3 (.tmp 30) (.const (Go.Value.int Go.IntKind.i64 1))⟩,
    ⟨(some 32), none, .idx (.tmp 29) (.tmp 31) 6⟩,
    ⟨(some 33), none, .fld (.tmp 32) 5⟩,
    ⟨none, none, .st (.tmp 33) (.const (Go.Value.int Go.IntKind.i64 2)) 1⟩])
  (.seq (.seq (.ops [⟨(some 34), none, .fld (.tmp 6) 4⟩,
    ⟨(some 35), none, .ld (.tmp 34) none⟩])
  (.cond (.tmp 35)
    (.seq (.ops [⟨(some 4), none, .mv (.const (Go.Value.string { data := #[] }))⟩,
      ⟨(some 5), none, .mv (.const (Go.Value.int Go.IntKind.i64 7))⟩])
    (.ret))
    (.skip)))
  (.seq (.ops [⟨(some 36), none, .fld (.tmp 6) 3⟩,
    ⟨(some 37), none, .ld (.tmp 36) none⟩,
    ⟨(some 4), none, .mv (.tmp 37)⟩,
    ⟨(some 5), none, .mv (.const (Go.Value.int Go.IntKind.i64 0))⟩])
  (.ret))))))))
theorem is_ref11_Device_Take : FnIs Try.prog F.ref11_Device_Take X.ref11_Device_Take 38 [.tmp 4, .tmp 5] := ⟨by kernel_rfl⟩

-- loop (inner ones first): [0, 1, 5, 6, 7, 9, 12, 13]
-- loop (inner ones first): [0, 1, 5, 6]
/-- (*haycroft/haycroftref11.Device).Crash: function 51 -/
abbrev F.ref11_Device_Crash : FuncId := 51
def X.ref11_Device_Crash : X :=
  .seq (.ops [⟨(some 4), none, .mv (.const (Go.Value.int Go.IntKind.i64 0))⟩])
  (.seq (.seq (.ops [⟨(some 14), none, .mv (.tmp 0)⟩,
    ⟨(some 15), none, .nilc (.tmp 14)⟩,
    ⟨(some 16), none, .fld (.tmp 15) 0⟩,
    ⟨(some 17), none, .ld (.tmp 16) none⟩])
  (.cond (.tmp 17)
    (.seq (.ops [⟨(some 4), none, .mv (.const (Go.Value.int Go.IntKind.i64 6))⟩])
    (.ret))
    (.skip)))
  (.seq (.ops [⟨(some 5), none, .mv (.const (Go.Value.int Go.IntKind.i64 0))⟩])
  (.seq (.seq (.ops [⟨(some 6), none, .mv (.const (Go.Value.int Go.IntKind.i64 0))⟩])
  (.block 0 (.loop (.seq (.seq (.ops [⟨(some 18), none, .mv (.tmp 6)⟩,
        ⟨(some 19), none, .mv (.tmp 0)⟩,
        ⟨(some 20), none, .nilc (.tmp 19)⟩,
        ⟨(some 21), none, .fld (.tmp 20) 2⟩,
        ⟨(some 22), none, .ld (.tmp 21) none⟩,
        ⟨(some 23), none, .lenS (.tmp 22)⟩,
        ⟨(some 24), none, .bin .lss 3 (.tmp 18) (.tmp 23)⟩])
      (.cond (.tmp 24)
        (.skip)
        (.exit 0)))
      (.seq (.block 1 (.seq (.ops [⟨(some 27), none, .mv (.tmp 0)⟩,
          ⟨(some 28), none, .nilc (.tmp 27)⟩,
          ⟨(some 29), none, .fld (.tmp 28) 2⟩,
          ⟨(some 30), none, .ld (.tmp 29) none⟩,
          ⟨(some 31), none, .mv (.tmp 6)⟩,
          ⟨(some 32), none, .idx (.tmp 30) (.tmp 31) 6⟩,
          ⟨(some 33), none, .ld (.tmp 32) (some 6)⟩,
          ⟨(some 7), none, .new 111 (Go.Value.agg #[(Go.Value.int Go.IntKind.i64 0), (Go.Value.int Go.IntKind.i64 0), (Go.Value.bool false), (Go.Value.string { data := #[] }), (Go.Value.bool false), (Go.Value.int Go.IntKind.i64 0)])⟩,
          ⟨none, none, .st (.tmp 7) (.tmp 33) 6⟩])
        (.seq (.seq (.ops [⟨(some 34), none, .fld (.tmp 7) 5⟩,
          ⟨(some 35), none, .ld (.tmp 34) none⟩,
          ⟨(some 36), none, .bin .eql 3 (.tmp 35) (.const (Go.Value.int Go.IntKind.i64 0))⟩,
          ⟨(some 37), none, .mv (.tmp 36)⟩,
          ⟨(some 38), (some (37, true)), .fld (.tmp 7) 2⟩,
          ⟨(some 39), (some (37, true)), .ld (.tmp 38) none⟩,
          ⟨(some 40), none, .pick (.tmp 37) (.tmp 39) (.const (Go.Value.bool false))⟩])
        (.cond (.tmp 40)
          (.seq (.ops [⟨(some 8), none, .mv (.const (Go.Value.int Go.IntKind.i64 0))⟩])
          (.seq (.seq (.ops [⟨(some 41), none, .mv (.tmp 5)⟩,
            ⟨(some 42), none, .mv (.tmp 1)⟩,
            ⟨(some 43), none, .lenS (.tmp 42)⟩,
            ⟨(some 44), none, .bin .lss 3 (.tmp 41) (.tmp 43)⟩])
          (.cond (.tmp 44)
            (.ops [⟨(some 45), none, .mv (.tmp 1)⟩,
              ⟨(some 46), none, .mv (.tmp 5)⟩,
              ⟨(some 47), none, .idx (.tmp 45) (.tmp 46) 1⟩,
              ⟨(some 48), none, .ld (.tmp 47) none⟩,
              ⟨(some 8), none, .mv (.tmp 48)⟩])
            (.skip)))
          (.seq (.ops [⟨(some 49), none, .mv (.tmp 5)⟩,
            ⟨(some 50), none, .bin .add 3 (.tmp 49) (.const (Go.Value.int Go.IntKind.i64 1))⟩,
            ⟨(some 5), none, .mv (.tmp 50)⟩])
          (.seq (.ops [⟨(some 52), none, .mv (.tmp 0)⟩,
            ⟨(some 53), none, .fld (.tmp 7) 0⟩,
            ⟨(some 54), none, .ld (.tmp 53) (some 2)⟩,
            ⟨(some 55), none, .call 85 [(.tmp 52), (.tmp 54)]⟩,
            ⟨(some 51), none, .mv (.tmp 55)⟩,
            ⟨(some 56), none, .ext (.tmp 51) 0⟩,
            ⟨(some 57), none, .ext (.tmp 51) 1⟩,
            ⟨(some 9), none, .mv (.tmp 56)⟩,
            ⟨(some 10), none, .mv (.tmp 57)⟩])
          (.seq (.seq (.ops [⟨(some 58), none, .mv (.tmp 8)⟩,
            ⟨(some 59), none, .bin .eql 3 (.tmp 58) (.const (Go.Value.int Go.IntKind.i64 1))⟩])
          (.cond (.tmp 59)
            (.ops [⟨(some 60), none, .mv (.tmp 0)⟩,
              ⟨(some 61), none, .fld (.tmp 7) 0⟩,
              ⟨(some 62), none, .ld (.tmp 61) (some 2)⟩,
              ⟨(some 63), none, .fld (.tmp 7) 3⟩,
              ⟨(some 64), none, .ld (.tmp 63) none⟩,
              ⟨(some 65), none, .call 84 [(.tmp 60), (.tmp 62), (.tmp 64)]⟩])
            (.skip)))
          (.seq (.ops [⟨(some 66), none, .mv (.tmp 8)⟩,
            ⟨(some 67), none, .bin .gtr 3 (.tmp 66) (.const (Go.Value.int Go.IntKind.i64 1))⟩])
          (.cond (.tmp 67)
            (.seq (.ops [⟨(some 68), none, .mv (.tmp 8)⟩,
              ⟨(some 69), none, .bin .sub 3 (.tmp 68) (.const (Go.Value.int Go.IntKind.i64 2))⟩,
              ⟨(some 70), none, .fld (.tmp 7) 3⟩,
              ⟨(some 71), none, .ld (.tmp 70) none⟩,
              ⟨(some 72), none, .lenB (.tmp 71)⟩,
              ⟨(some 73), none, .bin .add 3 (.tmp 72) (.const (Go.Value.int Go.IntKind.i64 1))⟩,
              ⟨(some 74), none, .bin .rem 3 (.tmp 69) (.tmp 73)⟩,
              ⟨(some 11), none, .mv (.tmp 74)⟩])
            (.seq (.ops [⟨(some 75), none, .fld (.tmp 7) 3⟩,
              ⟨(some 76), none, .ld (.tmp 75) none⟩,
              ⟨(some 77), none, .mv (.tmp 11)⟩,
              ⟨(some 78), none, .sls (.tmp 76) none (some (.tmp 77))⟩,
              ⟨(some 12), none, .mv (.tmp 78)⟩])
            (.seq (.seq (.ops [⟨(some 79), none, .mv (.tmp 11)⟩,
              ⟨(some 13), none, .mv (.tmp 79)⟩])
            (.block 2 (.loop (.seq (.seq (.ops [⟨(some 80), none, .mv (.tmp 13)⟩,
                  ⟨(some 81), none, .mv (.tmp 9)⟩,
                  ⟨(some 82), none, .lenB (.tmp 81)⟩,
                  ⟨(some 83), none, .bin .lss 3 (.tmp 80) (.tmp 82)⟩])
                (.cond (.tmp 83)
                  (.skip)
                  (.exit 2)))
                (.seq (.block 3 (.ops [⟨(some 86), none, .mv (.tmp 12)⟩,
                    ⟨(some 87), none, .mv (.tmp 9)⟩,
                    ⟨(some 88), none, .mv (.tmp 13)⟩,
                    ⟨(some 89), none, .mv (.tmp 13)⟩,
                    ⟨(some 90), none, .bin .add 3 (.tmp 89) (.const (Go.Value.int Go.IntKind.i64 1))⟩,
                    ⟨(some 91), none, .sls (.tmp 87) (some (.tmp 88)) (some (.tmp 90))⟩,
                    ⟨(some 92), none, .bin .add 9 (.tmp 86) (.tmp 91)⟩,
                    ⟨(some 12), none, .mv (.tmp 92)⟩]))
                (.ops [⟨(some 84), none, .mv (.tmp 13)⟩,
                  ⟨(some 85), none, .bin .add 3 (.tmp 84) (.const (Go.Value.int Go.IntKind.i64 1))⟩,
                  ⟨(some 13), none, .mv (.tmp 85)⟩]))))))
            (.ops [⟨(some 93), none, .mv (.tmp 0)⟩,
              ⟨(some 94), none, .fld (.tmp 7) 0⟩,
              ⟨(some 95), none, .ld (.tmp 94) (some 2)⟩,
              ⟨(some 96), none, .mv (.tmp 12)⟩,
              ⟨(some 97), none, .call 84 [(.tmp 93), (.tmp 95), (.tmp 96)]⟩]))))
            (.skip))))))))
          (.skip)))
        (.ops [⟨(some 98), none, .mv (.tmp 0)⟩,
          ⟨(some 99), none, .nilc (.tmp 98)⟩,
          ⟨(some 100), none, .fld (.tmp 99) 2⟩,
          ⟨(some 101), none, .ld (.tmp 100) none⟩,
          ⟨(some 102), none, .mv (.tmp 6)⟩,
          ⟨(some 103), none, .idx (.tmp 101) (.tmp 102) 6⟩,
          ⟨(some 104), none, .fld (.tmp 103) 5⟩,
          ⟨none, none, .st (.tmp 104) (.const (Go.Value.int Go.IntKind.i64 2)) 1⟩]))))
      (.ops [⟨(some 25), none, .mv (.tmp 6)⟩,
        ⟨(some 26), none, .bin .add 3 (.tmp 25) (.const (Go.Value.int Go.IntKind.i64 1))⟩,
        ⟨(some 6), none, .mv (.tmp 26)⟩]))))))
  (.seq (.ops [⟨(some 105), none, .mv (.tmp 0)⟩,
    ⟨(some 106), none, .nilc (.tmp 105)⟩,
    ⟨(some 107), none, .fld (.tmp 106) 0⟩,
    ⟨none, none, .st (.tmp 107) (.const (Go.Value.bool true)) 1⟩])
  (.seq (.ops [⟨(some 4), none, .mv (.const (Go.Value.int Go.IntKind.i64 0))⟩])
  (.ret))))))
theorem is_ref11_Device_Crash : FnIs Try.prog F.ref11_Device_Crash X.ref11_Device_Crash 108 [.tmp 4] := ⟨by kernel_rfl⟩

/-- (*haycroft/haycroftref11.Device).Start: function 52 -/
abbrev F.ref11_Device_Start : FuncId := 52
def X.ref11_Device_Start : X :=
  .seq (.ops [⟨(some 2), none, .mv (.const (Go.Value.int Go.IntKind.i64 0))⟩])
  (.seq (.seq (.ops [⟨(some 3), none, .mv (.tmp 0)⟩,
    ⟨(some 4), none, .nilc (.tmp 3)⟩,
    ⟨(some 5), none, .fld (.tmp 4) 0⟩,
    ⟨(some 6), none, .ld (.tmp 5) none⟩,
    ⟨(some 7), none, .un .not (.tmp 6)⟩])
  (.cond (.tmp 7)
    (.seq (.ops [⟨(some 2), none, .mv (.const (Go.Value.int Go.IntKind.i64 10))⟩])
    (.ret))
    (.skip)))
  (.seq (.ops [⟨(some 8), none, .mv (.tmp 0)⟩,
    ⟨(some 9), none, .nilc (.tmp 8)⟩,
    ⟨(some 10), none, .fld (.tmp 9) 0⟩,
    ⟨none, none, .st (.tmp 10) (.const (Go.Value.bool false)) 1⟩])
  (.seq (.ops [⟨(some 2), none, .mv (.const (Go.Value.int Go.IntKind.i64 0))⟩])
  (.ret))))
theorem is_ref11_Device_Start : FnIs Try.prog F.ref11_Device_Start X.ref11_Device_Start 11 [.tmp 2] := ⟨by kernel_rfl⟩

/-- haycroft/haycroftlaw11.does: function 19 -/
abbrev F.law11_does : FuncId := 19
def X.law11_does : X :=
  .seq (.ops [⟨(some 5), none, .box 30 (.tmp 2)⟩,
    ⟨(some 6), none, .mv (.const (Go.Value.bool false))⟩])
  (.seq (.seq (.ops [⟨(some 19), none, .fld (.tmp 5) 0⟩,
    ⟨(some 20), none, .ld (.tmp 19) none⟩])
  (.block 0 (.seq (.ops [⟨(some 22), none, .bin .eql 3 (.tmp 20) (.const (Go.Value.int Go.IntKind.i64 1))⟩,
      ⟨(some 21), none, .mv (.tmp 22)⟩])
    (.cond (.tmp 21)
      (.seq (.ops [⟨(some 24), none, .mv (.tmp 0)⟩,
        ⟨(some 25), none, .fld (.tmp 5) 1⟩,
        ⟨(some 26), none, .ld (.tmp 25) (some 2)⟩,
        ⟨(some 27), none, .fld (.tmp 5) 3⟩,
        ⟨(some 28), none, .ld (.tmp 27) none⟩,
        ⟨(some 29), none, .call 11 [(.tmp 24), (.tmp 26), (.tmp 28)]⟩,
        ⟨(some 23), none, .mv (.tmp 29)⟩,
        ⟨(some 30), none, .ext (.tmp 23) 0⟩,
        ⟨(some 31), none, .ext (.tmp 23) 1⟩,
        ⟨(some 7), none, .mv (.tmp 30)⟩,
        ⟨(some 8), none, .mv (.tmp 31)⟩])
      (.seq (.ops [⟨(some 33), none, .mv (.tmp 1)⟩,
        ⟨(some 34), none, .fld (.tmp 5) 1⟩,
        ⟨(some 35), none, .ld (.tmp 34) (some 2)⟩,
        ⟨(some 36), none, .fld (.tmp 5) 3⟩,
        ⟨(some 37), none, .ld (.tmp 36) none⟩,
        ⟨(some 38), none, .call 48 [(.tmp 33), (.tmp 35), (.const (Go.Value.bool true)), (.tmp 37)]⟩,
        ⟨(some 32), none, .mv (.tmp 38)⟩,
        ⟨(some 39), none, .ext (.tmp 32) 0⟩,
        ⟨(some 40), none, .ext (.tmp 32) 1⟩,
        ⟨(some 9), none, .mv (.tmp 39)⟩,
        ⟨(some 10), none, .mv (.tmp 40)⟩])
      (.seq (.ops [⟨(some 41), none, .mv (.tmp 7)⟩,
        ⟨(some 42), none, .mv (.tmp 9)⟩,
        ⟨(some 43), none, .bin .eql 3 (.tmp 41) (.tmp 42)⟩,
        ⟨(some 44), none, .mv (.tmp 43)⟩,
        ⟨(some 45), (some (44, true)), .mv (.tmp 8)⟩,
        ⟨(some 46), (some (44, true)), .mv (.tmp 10)⟩,
        ⟨(some 47), (some (44, true)), .bin .eql 31 (.tmp 45) (.tmp 46)⟩,
        ⟨(some 48), none, .pick (.tmp 44) (.tmp 47) (.const (Go.Value.bool false))⟩,
        ⟨(some 6), none, .mv (.tmp 48)⟩])
      (.ret))))
      (.seq (.ops [⟨(some 50), none, .bin .eql 3 (.tmp 20) (.const (Go.Value.int Go.IntKind.i64 2))⟩,
        ⟨(some 49), none, .mv (.tmp 50)⟩])
      (.cond (.tmp 49)
        (.seq (.ops [⟨(some 52), none, .mv (.tmp 0)⟩,
          ⟨(some 53), none, .fld (.tmp 5) 1⟩,
          ⟨(some 54), none, .ld (.tmp 53) (some 2)⟩,
          ⟨(some 55), none, .call 12 [(.tmp 52), (.tmp 54)]⟩,
          ⟨(some 51), none, .mv (.tmp 55)⟩,
          ⟨(some 56), none, .ext (.tmp 51) 0⟩,
          ⟨(some 57), none, .ext (.tmp 51) 1⟩,
          ⟨(some 11), none, .mv (.tmp 56)⟩,
          ⟨(some 12), none, .mv (.tmp 57)⟩])
        (.seq (.ops [⟨(some 59), none, .mv (.tmp 1)⟩,
          ⟨(some 60), none, .fld (.tmp 5) 1⟩,
          ⟨(some 61), none, .ld (.tmp 60) (some 2)⟩,
          ⟨(some 62), none, .call 48 [(.tmp 59), (.tmp 61), (.const (Go.Value.bool false)), (.const (Go.Value.string { data := #[] }))]⟩,
          ⟨(some 58), none, .mv (.tmp 62)⟩,
          ⟨(some 63), none, .ext (.tmp 58) 0⟩,
          ⟨(some 64), none, .ext (.tmp 58) 1⟩,
          ⟨(some 13), none, .mv (.tmp 63)⟩,
          ⟨(some 14), none, .mv (.tmp 64)⟩])
        (.seq (.ops [⟨(some 65), none, .mv (.tmp 11)⟩,
          ⟨(some 66), none, .mv (.tmp 13)⟩,
          ⟨(some 67), none, .bin .eql 3 (.tmp 65) (.tmp 66)⟩,
          ⟨(some 68), none, .mv (.tmp 67)⟩,
          ⟨(some 69), (some (68, true)), .mv (.tmp 12)⟩,
          ⟨(some 70), (some (68, true)), .mv (.tmp 14)⟩,
          ⟨(some 71), (some (68, true)), .bin .eql 31 (.tmp 69) (.tmp 70)⟩,
          ⟨(some 72), none, .pick (.tmp 68) (.tmp 71) (.const (Go.Value.bool false))⟩,
          ⟨(some 6), none, .mv (.tmp 72)⟩])
        (.ret))))
        (.seq (.ops [⟨(some 74), none, .bin .eql 3 (.tmp 20) (.const (Go.Value.int Go.IntKind.i64 3))⟩,
          ⟨(some 73), none, .mv (.tmp 74)⟩])
        (.cond (.tmp 73)
          (.seq (.drawn [(0, ⟨(some 75), none, .mv (.tmp 0)⟩),
            (1, ⟨(some 76), none, .fld (.tmp 5) 4⟩),
            (2, ⟨(some 77), none, .ld (.tmp 76) none⟩),
            (4, ⟨(some 79), none, .mv (.tmp 1)⟩),
            (5, ⟨(some 80), none, .fld (.tmp 5) 4⟩),
            (6, ⟨(some 81), none, .ld (.tmp 80) none⟩),
            (3, ⟨(some 78), none, .call 13 [(.tmp 75), (.tmp 77)]⟩),
            (7, ⟨(some 82), none, .call 49 [(.tmp 79), (.tmp 81)]⟩),
            (8, ⟨(some 83), none, .bin .eql 31 (.tmp 78) (.tmp 82)⟩),
            (9, ⟨(some 6), none, .mv (.tmp 83)⟩)]
            [[], [], [1], [0, 2], [], [], [5], [4, 6, 3], [3, 7], [8, 7, 0, 1, 2, 3, 4, 5, 6, 7, 8]]
            [0, 0, 2, 7, 0, 0, 32, 127, 255, 511] 136)
          (.ret))
          (.seq (.ops [⟨(some 85), none, .bin .eql 3 (.tmp 20) (.const (Go.Value.int Go.IntKind.i64 4))⟩,
            ⟨(some 84), none, .mv (.tmp 85)⟩])
          (.cond (.tmp 84)
            (.seq (.ops [⟨(some 87), none, .mv (.tmp 0)⟩,
              ⟨(some 88), none, .fld (.tmp 5) 4⟩,
              ⟨(some 89), none, .ld (.tmp 88) none⟩,
              ⟨(some 90), none, .call 14 [(.tmp 87), (.tmp 89)]⟩,
              ⟨(some 86), none, .mv (.tmp 90)⟩,
              ⟨(some 91), none, .ext (.tmp 86) 0⟩,
              ⟨(some 92), none, .ext (.tmp 86) 1⟩,
              ⟨(some 15), none, .mv (.tmp 91)⟩,
              ⟨(some 16), none, .mv (.tmp 92)⟩])
            (.seq (.ops [⟨(some 94), none, .mv (.tmp 1)⟩,
              ⟨(some 95), none, .fld (.tmp 5) 4⟩,
              ⟨(some 96), none, .ld (.tmp 95) none⟩,
              ⟨(some 97), none, .call 50 [(.tmp 94), (.tmp 96)]⟩,
              ⟨(some 93), none, .mv (.tmp 97)⟩,
              ⟨(some 98), none, .ext (.tmp 93) 0⟩,
              ⟨(some 99), none, .ext (.tmp 93) 1⟩,
              ⟨(some 17), none, .mv (.tmp 98)⟩,
              ⟨(some 18), none, .mv (.tmp 99)⟩])
            (.seq (.ops [⟨(some 100), none, .mv (.tmp 15)⟩,
              ⟨(some 101), none, .mv (.tmp 17)⟩,
              ⟨(some 102), none, .bin .eql 9 (.tmp 100) (.tmp 101)⟩,
              ⟨(some 103), none, .mv (.tmp 102)⟩,
              ⟨(some 104), (some (103, true)), .mv (.tmp 16)⟩,
              ⟨(some 105), (some (103, true)), .mv (.tmp 18)⟩,
              ⟨(some 106), (some (103, true)), .bin .eql 31 (.tmp 104) (.tmp 105)⟩,
              ⟨(some 107), none, .pick (.tmp 103) (.tmp 106) (.const (Go.Value.bool false))⟩,
              ⟨(some 6), none, .mv (.tmp 107)⟩])
            (.ret))))
            (.seq (.ops [⟨(some 109), none, .bin .eql 3 (.tmp 20) (.const (Go.Value.int Go.IntKind.i64 5))⟩,
              ⟨(some 108), none, .mv (.tmp 109)⟩])
            (.cond (.tmp 108)
              (.seq (.drawn [(0, ⟨(some 110), none, .mv (.tmp 0)⟩),
                (1, ⟨(some 111), none, .fld (.tmp 5) 5⟩),
                (2, ⟨(some 112), none, .ld (.tmp 111) none⟩),
                (4, ⟨(some 114), none, .mv (.tmp 1)⟩),
                (5, ⟨(some 115), none, .fld (.tmp 5) 5⟩),
                (6, ⟨(some 116), none, .ld (.tmp 115) none⟩),
                (3, ⟨(some 113), none, .call 15 [(.tmp 110), (.tmp 112)]⟩),
                (7, ⟨(some 117), none, .call 51 [(.tmp 114), (.tmp 116)]⟩),
                (8, ⟨(some 118), none, .bin .eql 31 (.tmp 113) (.tmp 117)⟩),
                (9, ⟨(some 6), none, .mv (.tmp 118)⟩)]
                [[], [], [1], [0, 2], [], [], [5], [4, 6, 3], [3, 7], [8, 7, 0, 1, 2, 3, 4, 5, 6, 7, 8]]
                [0, 0, 2, 7, 0, 0, 32, 127, 255, 511] 136)
              (.ret))
              (.seq (.ops [⟨(some 120), none, .bin .eql 3 (.tmp 20) (.const (Go.Value.int Go.IntKind.i64 6))⟩,
                ⟨(some 119), none, .mv (.tmp 120)⟩])
              (.cond (.tmp 119)
                (.seq (.ops [⟨(some 121), none, .mv (.tmp 0)⟩,
                  ⟨(some 122), none, .call 18 [(.tmp 121)]⟩,
                  ⟨(some 123), none, .mv (.tmp 1)⟩,
                  ⟨(some 124), none, .call 52 [(.tmp 123)]⟩,
                  ⟨(some 125), none, .bin .eql 31 (.tmp 122) (.tmp 124)⟩,
                  ⟨(some 6), none, .mv (.tmp 125)⟩])
                (.ret))
                (.skip)))))))))))))))
  (.seq (.ops [⟨(some 6), none, .mv (.const (Go.Value.bool true))⟩])
  (.ret)))
theorem is_law11_does : FnIs Try.prog F.law11_does X.law11_does 126 [.tmp 6] := ⟨by kernel_rfl⟩

-- loop (inner ones first): [0, 1, 5, 6]
/-- haycroft/haycroftlaw11.alike: function 20 -/
abbrev F.law11_alike : FuncId := 20
def X.law11_alike : X :=
  .seq (.ops [⟨(some 4), none, .mv (.const (Go.Value.bool false))⟩])
  (.seq (.ops [⟨(some 9), none, .mv (.tmp 0)⟩,
    ⟨(some 10), none, .call 25 [(.tmp 9)]⟩,
    ⟨(some 5), none, .mv (.tmp 10)⟩])
  (.seq (.seq (.ops [⟨(some 11), none, .mv (.tmp 5)⟩,
    ⟨(some 12), none, .lenS (.tmp 11)⟩,
    ⟨(some 13), none, .mv (.tmp 1)⟩,
    ⟨(some 14), none, .nilc (.tmp 13)⟩,
    ⟨(some 15), none, .fld (.tmp 14) 1⟩,
    ⟨(some 16), none, .ld (.tmp 15) none⟩,
    ⟨(some 17), none, .lenS (.tmp 16)⟩,
    ⟨(some 18), none, .bin .neq 3 (.tmp 12) (.tmp 17)⟩])
  (.cond (.tmp 18)
    (.seq (.ops [⟨(some 4), none, .mv (.const (Go.Value.bool false))⟩])
    (.ret))
    (.skip)))
  (.seq (.seq (.ops [⟨(some 6), none, .mv (.const (Go.Value.int Go.IntKind.i64 0))⟩])
  (.block 0 (.loop (.seq (.seq (.ops [⟨(some 19), none, .mv (.tmp 6)⟩,
        ⟨(some 20), none, .mv (.tmp 5)⟩,
        ⟨(some 21), none, .lenS (.tmp 20)⟩,
        ⟨(some 22), none, .bin .lss 3 (.tmp 19) (.tmp 21)⟩])
      (.cond (.tmp 22)
        (.skip)
        (.exit 0)))
      (.seq (.block 1 (.seq (.ops [⟨(some 26), none, .mv (.tmp 0)⟩,
          ⟨(some 27), none, .mv (.tmp 5)⟩,
          ⟨(some 28), none, .mv (.tmp 6)⟩,
          ⟨(some 29), none, .idx (.tmp 27) (.tmp 28) 2⟩,
          ⟨(some 30), none, .ld (.tmp 29) (some 2)⟩,
          ⟨(some 31), none, .call 16 [(.tmp 26), (.tmp 30)]⟩,
          ⟨(some 25), none, .mv (.tmp 31)⟩,
          ⟨(some 32), none, .ext (.tmp 25) 0⟩,
          ⟨(some 33), none, .ext (.tmp 25) 1⟩,
          ⟨(some 7), none, .mv (.tmp 32)⟩,
          ⟨(some 8), none, .mv (.tmp 33)⟩])
        (.seq (.drawn [(0, ⟨(some 34), none, .mv (.tmp 5)⟩),
          (1, ⟨(some 35), none, .mv (.tmp 6)⟩),
          (2, ⟨(some 36), none, .idx (.tmp 34) (.tmp 35) 2⟩),
          (3, ⟨(some 37), none, .ld (.tmp 36) (some 2)⟩),
          (4, ⟨(some 38), none, .mv (.tmp 1)⟩),
          (5, ⟨(some 39), none, .nilc (.tmp 38)⟩),
          (6, ⟨(some 40), none, .fld (.tmp 39) 1⟩),
          (7, ⟨(some 41), none, .ld (.tmp 40) none⟩),
          (8, ⟨(some 42), none, .mv (.tmp 6)⟩),
          (9, ⟨(some 43), none, .idx (.tmp 41) (.tmp 42) 3⟩),
          (10, ⟨(some 44), none, .fld (.tmp 43) 0⟩),
          (11, ⟨(some 45), none, .ld (.tmp 44) (some 2)⟩),
          (12, ⟨(some 46), none, .eq true (.agg 2 [(0, 0), (1, 0)]) (.tmp 37) (.tmp 45)⟩),
          (13, ⟨(some 47), none, .mv (.tmp 46)⟩),
          (14, ⟨(some 48), (some (47, false)), .mv (.tmp 7)⟩),
          (15, ⟨(some 49), (some (47, false)), .mv (.tmp 1)⟩),
          (16, ⟨(some 50), (some (47, false)), .nilc (.tmp 49)⟩),
          (17, ⟨(some 51), (some (47, false)), .fld (.tmp 50) 1⟩),
          (18, ⟨(some 52), (some (47, false)), .ld (.tmp 51) none⟩),
          (19, ⟨(some 53), (some (47, false)), .mv (.tmp 6)⟩),
          (20, ⟨(some 54), (some (47, false)), .idx (.tmp 52) (.tmp 53) 3⟩),
          (21, ⟨(some 55), (some (47, false)), .fld (.tmp 54) 2⟩),
          (22, ⟨(some 56), (some (47, false)), .ld (.tmp 55) none⟩),
          (23, ⟨(some 57), (some (47, false)), .bin .neq 9 (.tmp 48) (.tmp 56)⟩),
          (24, ⟨(some 58), none, .pick (.tmp 47) (.const (Go.Value.bool true)) (.tmp 57)⟩),
          (25, ⟨(some 59), none, .mv (.tmp 58)⟩),
          (26, ⟨(some 60), (some (59, false)), .mv (.tmp 8)⟩),
          (27, ⟨(some 61), (some (59, false)), .un .not (.tmp 60)⟩),
          (28, ⟨(some 62), none, .pick (.tmp 59) (.const (Go.Value.bool true)) (.tmp 61)⟩)]
          [[], [], [0, 1], [2], [], [4], [5], [6], [], [7, 8], [9], [10], [3, 11], [12], [13], [13], [15, 13], [16, 13], [17, 13], [13], [18, 19, 13], [20, 13], [21, 13], [14, 22, 13], [13, 23], [24, 13], [25], [26, 25], [25, 27]]
          [0, 0, 3, 7, 0, 16, 48, 112, 0, 496, 1008, 2032, 4095, 8191, 16383, 16383, 49151, 114687, 245759, 16383, 1032191, 2080767, 4177919, 8388607, 16777215, 33554431, 67108863, 134217727, 268435455] 0)
        (.cond (.tmp 62)
          (.seq (.ops [⟨(some 4), none, .mv (.const (Go.Value.bool false))⟩])
          (.ret))
          (.skip)))))
      (.ops [⟨(some 23), none, .mv (.tmp 6)⟩,
        ⟨(some 24), none, .bin .add 3 (.tmp 23) (.const (Go.Value.int Go.IntKind.i64 1))⟩,
        ⟨(some 6), none, .mv (.tmp 24)⟩]))))))
  (.seq (.ops [⟨(some 4), none, .mv (.const (Go.Value.bool true))⟩])
  (.ret)))))
theorem is_law11_alike : FnIs Try.prog F.law11_alike X.law11_alike 63 [.tmp 4] := ⟨by kernel_rfl⟩

-- loop (inner ones first): [0, 1, 5]
/-- haycroft/haycroftref11.Ints: function 21 -/
abbrev F.ref11_Ints : FuncId := 21
def X.ref11_Ints : X :=
  .seq (.ops [⟨(some 4), none, .mv (.const (Go.Value.bool false))⟩])
  (.seq (.seq (.ops [⟨(some 6), none, .mv (.tmp 0)⟩,
    ⟨(some 7), none, .lenS (.tmp 6)⟩,
    ⟨(some 8), none, .mv (.tmp 1)⟩,
    ⟨(some 9), none, .lenS (.tmp 8)⟩,
    ⟨(some 10), none, .bin .neq 3 (.tmp 7) (.tmp 9)⟩])
  (.cond (.tmp 10)
    (.seq (.ops [⟨(some 4), none, .mv (.const (Go.Value.bool false))⟩])
    (.ret))
    (.skip)))
  (.seq (.seq (.ops [⟨(some 5), none, .mv (.const (Go.Value.int Go.IntKind.i64 0))⟩])
  (.block 0 (.loop (.seq (.seq (.ops [⟨(some 11), none, .mv (.tmp 5)⟩,
        ⟨(some 12), none, .mv (.tmp 0)⟩,
        ⟨(some 13), none, .lenS (.tmp 12)⟩,
        ⟨(some 14), none, .bin .lss 3 (.tmp 11) (.tmp 13)⟩])
      (.cond (.tmp 14)
        (.skip)
        (.exit 0)))
      (.seq (.block 1 (.seq (.drawn [(0, ⟨(some 17), none, .mv (.tmp 0)⟩),
          (1, ⟨(some 18), none, .mv (.tmp 5)⟩),
          (2, ⟨(some 19), none, .idx (.tmp 17) (.tmp 18) 1⟩),
          (3, ⟨(some 20), none, .ld (.tmp 19) none⟩),
          (4, ⟨(some 21), none, .mv (.tmp 1)⟩),
          (5, ⟨(some 22), none, .mv (.tmp 5)⟩),
          (6, ⟨(some 23), none, .idx (.tmp 21) (.tmp 22) 1⟩),
          (7, ⟨(some 24), none, .ld (.tmp 23) none⟩),
          (8, ⟨(some 25), none, .bin .neq 3 (.tmp 20) (.tmp 24)⟩)]
          [[], [], [0, 1], [2], [], [], [4, 5], [6], [3, 7]]
          [0, 0, 3, 7, 0, 0, 48, 112, 255] 0)
        (.cond (.tmp 25)
          (.seq (.ops [⟨(some 4), none, .mv (.const (Go.Value.bool false))⟩])
          (.ret))
          (.skip))))
      (.ops [⟨(some 15), none, .mv (.tmp 5)⟩,
        ⟨(some 16), none, .bin .add 3 (.tmp 15) (.const (Go.Value.int Go.IntKind.i64 1))⟩,
        ⟨(some 5), none, .mv (.tmp 16)⟩]))))))
  (.seq (.ops [⟨(some 4), none, .mv (.const (Go.Value.bool true))⟩])
  (.ret))))
theorem is_ref11_Ints : FnIs Try.prog F.ref11_Ints X.ref11_Ints 26 [.tmp 4] := ⟨by kernel_rfl⟩

-- loop (inner ones first): [0, 3, 4, 5]
/-- haycroft/haycroftlaw11.DevicePlays: function 4 -/
abbrev F.law11_DevicePlays : FuncId := 4
def X.law11_DevicePlays : X :=
  .seq (.ops [⟨(some 2), none, .mv (.const (Go.Value.bool false))⟩])
  (.seq (.seq (.ops [⟨(some 6), none, .call 9 []⟩,
    ⟨(some 7), none, .un .not (.tmp 6)⟩])
  (.cond (.tmp 7)
    (.seq (.ops [⟨(some 2), none, .mv (.const (Go.Value.bool false))⟩])
    (.ret))
    (.skip)))
  (.seq (.ops [⟨(some 8), none, .call 10 []⟩,
    ⟨(some 3), none, .mv (.tmp 8)⟩])
  (.seq (.ops [⟨(some 9), none, .bld [(Go.Value.bool false), (Go.Value.slice none 0 0), (Go.Value.slice none 0 0)] []⟩,
    ⟨(some 10), none, .box 48 (.tmp 9)⟩,
    ⟨(some 4), none, .mv (.tmp 10)⟩])
  (.seq (.seq (.ops [⟨(some 5), none, .mv (.const (Go.Value.int Go.IntKind.i64 0))⟩])
  (.block 0 (.loop (.seq (.seq (.ops [⟨(some 11), none, .mv (.tmp 5)⟩,
        ⟨(some 12), none, .mv (.tmp 0)⟩,
        ⟨(some 13), none, .lenS (.tmp 12)⟩,
        ⟨(some 14), none, .bin .lss 3 (.tmp 11) (.tmp 13)⟩,
        ⟨(some 15), none, .mv (.tmp 14)⟩,
        ⟨(some 16), (some (15, true)), .mv (.tmp 5)⟩,
        ⟨(some 17), (some (15, true)), .bin .lss 3 (.tmp 16) (.const (Go.Value.int Go.IntKind.i64 120))⟩,
        ⟨(some 18), none, .pick (.tmp 15) (.tmp 17) (.const (Go.Value.bool false))⟩])
      (.cond (.tmp 18)
        (.skip)
        (.exit 0)))
      (.seq (.block 1 (.seq (.seq (.ops [⟨(some 21), none, .mv (.tmp 0)⟩,
          ⟨(some 22), none, .mv (.tmp 5)⟩,
          ⟨(some 23), none, .idx (.tmp 21) (.tmp 22) 6⟩,
          ⟨(some 24), none, .fld (.tmp 23) 3⟩,
          ⟨(some 25), none, .ld (.tmp 24) none⟩,
          ⟨(some 26), none, .lenB (.tmp 25)⟩,
          ⟨(some 27), none, .bin .gtr 3 (.tmp 26) (.const (Go.Value.int Go.IntKind.i64 2000))⟩,
          ⟨(some 28), none, .mv (.tmp 27)⟩,
          ⟨(some 29), (some (28, true)), .mv (.tmp 0)⟩,
          ⟨(some 30), (some (28, true)), .mv (.tmp 5)⟩,
          ⟨(some 31), (some (28, true)), .idx (.tmp 29) (.tmp 30) 6⟩,
          ⟨(some 32), (some (28, true)), .fld (.tmp 31) 3⟩,
          ⟨(some 33), (some (28, true)), .ld (.tmp 32) none⟩,
          ⟨(some 34), (some (28, true)), .lenB (.tmp 33)⟩,
          ⟨(some 35), (some (28, true)), .bin .leq 3 (.tmp 34) (.const (Go.Value.int Go.IntKind.i64 131072))⟩,
          ⟨(some 36), none, .pick (.tmp 28) (.tmp 35) (.const (Go.Value.bool false))⟩])
        (.cond (.tmp 36)
          (.exit 1)
          (.skip)))
        (.seq (.drawn [(0, ⟨(some 37), none, .mv (.tmp 3)⟩),
          (1, ⟨(some 38), none, .mv (.tmp 4)⟩),
          (2, ⟨(some 39), none, .mv (.tmp 0)⟩),
          (3, ⟨(some 40), none, .mv (.tmp 5)⟩),
          (4, ⟨(some 41), none, .idx (.tmp 39) (.tmp 40) 6⟩),
          (5, ⟨(some 42), none, .ld (.tmp 41) (some 6)⟩),
          (6, ⟨(some 43), none, .call 19 [(.tmp 37), (.tmp 38), (.tmp 42)]⟩),
          (7, ⟨(some 44), none, .un .not (.tmp 43)⟩),
          (8, ⟨(some 45), none, .mv (.tmp 44)⟩),
          (9, ⟨(some 46), (some (45, false)), .mv (.tmp 3)⟩),
          (10, ⟨(some 47), (some (45, false)), .mv (.tmp 4)⟩),
          (11, ⟨(some 48), (some (45, false)), .call 20 [(.tmp 46), (.tmp 47)]⟩),
          (12, ⟨(some 49), (some (45, false)), .un .not (.tmp 48)⟩),
          (13, ⟨(some 50), none, .pick (.tmp 45) (.const (Go.Value.bool true)) (.tmp 49)⟩),
          (14, ⟨(some 51), none, .mv (.tmp 50)⟩),
          (15, ⟨(some 52), (some (51, false)), .mv (.tmp 3)⟩),
          (17, ⟨(some 54), (some (51, false)), .mv (.tmp 4)⟩),
          (16, ⟨(some 53), (some (51, false)), .call 22 [(.tmp 52)]⟩),
          (18, ⟨(some 55), (some (51, false)), .call 23 [(.tmp 54)]⟩),
          (19, ⟨(some 56), (some (51, false)), .call 21 [(.tmp 53), (.tmp 55)]⟩),
          (20, ⟨(some 57), (some (51, false)), .un .not (.tmp 56)⟩),
          (21, ⟨(some 58), none, .pick (.tmp 51) (.const (Go.Value.bool true)) (.tmp 57)⟩),
          (22, ⟨(some 59), none, .mv (.tmp 58)⟩),
          (23, ⟨(some 60), (some (59, false)), .mv (.tmp 3)⟩),
          (25, ⟨(some 62), (some (59, false)), .mv (.tmp 4)⟩),
          (26, ⟨(some 63), (some (59, false)), .nilc (.tmp 62)⟩),
          (27, ⟨(some 64), (some (59, false)), .fld (.tmp 63) 0⟩),
          (28, ⟨(some 65), (some (59, false)), .ld (.tmp 64) none⟩),
          (24, ⟨(some 61), (some (59, false)), .call 24 [(.tmp 60)]⟩),
          (29, ⟨(some 66), (some (59, false)), .eq false .bool (.tmp 61) (.tmp 65)⟩),
          (30, ⟨(some 67), none, .pick (.tmp 59) (.const (Go.Value.bool true)) (.tmp 66)⟩)]
          [[], [], [], [], [2, 3], [4], [0, 1, 5], [6], [7, 6], [8], [8], [9, 10, 8, 8], [11, 8], [8, 12], [13, 11], [14], [15, 14, 14], [14], [17, 16, 14], [16, 18, 18, 14], [19, 14], [14, 20], [21, 19], [22], [23, 22, 22], [22], [25, 22], [26, 22], [27, 22], [24, 28, 22], [22, 29]]
          [0, 0, 0, 0, 12, 28, 63, 127, 255, 511, 511, 2047, 4095, 8191, 16383, 32767, 65535, 32767, 262143, 524287, 1048575, 2097151, 4194303, 8388607, 16777215, 8388607, 41943039, 109051903, 243269631, 536870911, 1073741823] 17631296)
        (.cond (.tmp 67)
          (.seq (.ops [⟨(some 2), none, .mv (.const (Go.Value.bool false))⟩])
          (.ret))
          (.skip)))))
      (.ops [⟨(some 19), none, .mv (.tmp 5)⟩,
        ⟨(some 20), none, .bin .add 3 (.tmp 19) (.const (Go.Value.int Go.IntKind.i64 1))⟩,
        ⟨(some 5), none, .mv (.tmp 20)⟩]))))))
  (.seq (.ops [⟨(some 2), none, .mv (.const (Go.Value.bool true))⟩])
  (.ret))))))
theorem is_law11_DevicePlays : FnIs Try.prog F.law11_DevicePlays X.law11_DevicePlays 68 [.tmp 2] := ⟨by kernel_rfl⟩

end Go.Proofs.Ytfchenbihepjaaa
