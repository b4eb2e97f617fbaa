import Derived.Test.YtojopmkekimpjaaProg
import Derived.Test.YtojopmkekimpjaaHxS
import Derived.KernelRfl
namespace Go.Proofs.Ytojopmkekimpjaa
open Go Go.HX
abbrev T.int64 : TypeId := 2
abbrev T.int : TypeId := 3
abbrev T.bool : TypeId := 4
abbrev T.uint8 : TypeId := 5
abbrev T.abi_BoundsErrorCode : TypeId := 6
abbrev T.string : TypeId := 9
abbrev T.uintptr : TypeId := 12
abbrev T.ptr_abi_Type : TypeId := 17
abbrev T.maps_unhashableTypeError : TypeId := 19
abbrev T.interface : TypeId := 20
abbrev T.int32 : TypeId := 21
abbrev T.slice_api_Event : TypeId := 22
abbrev T.api_Waits : TypeId := 25
abbrev T.api_Errno : TypeId := 26
abbrev T.api_Waits_api_Errno : TypeId := 27
abbrev T.int_api_Errno : TypeId := 31
abbrev T.slice_int : TypeId := 33
abbrev T.slice_int_api_Errno : TypeId := 36
abbrev T.uint64 : TypeId := 38
abbrev T.api_Op : TypeId := 40
abbrev T.api_Outcome : TypeId := 42
abbrev T.api_Event : TypeId := 44
abbrev T.string_int_api_Errno : TypeId := 46
abbrev T.map_string_int : TypeId := 53
abbrev T.slice_meter_turn : TypeId := 57
abbrev T.meter_turn : TypeId := 59
abbrev T.uint : TypeId := 67
abbrev T.slices_sortedHint : TypeId := 71
abbrev T.int_slices_sortedHint : TypeId := 72
abbrev T.int_bool : TypeId := 77
abbrev T.uint32 : TypeId := 80
abbrev T.slices_xorshift : TypeId := 87
abbrev T.ptr_int : TypeId := 91
abbrev T.ptr_slices_xorshift : TypeId := 95
abbrev T.int_int : TypeId := 96
abbrev T.abi_TFlag : TypeId := 106
abbrev T.abi_Kind : TypeId := 107
abbrev T.ptr_uint8 : TypeId := 109
abbrev T.abi_NameOff : TypeId := 110
abbrev T.abi_TypeOff : TypeId := 111
abbrev T.abi_Type : TypeId := 113
abbrev T.unsafe_Pointer : TypeId := 114
-- loop (inner ones first): [1, 2]
/-- haycroft/haycroftlaw29.three: function 20 -/
abbrev F.law29_three : FuncId := 20
def X.law29_three : X :=
  .seq (.ops [⟨(some 0), none, .mv (.const (Go.Value.slice none 0 0))⟩])
  (.seq (.ops [⟨(some 3), none, .bsl 44 8 0 [(Go.Value.int Go.IntKind.i64 0), (Go.Value.string { data := #[] }), (Go.Value.string { data := #[] }), (Go.Value.int Go.IntKind.u64 0), (Go.Value.int Go.IntKind.i64 0), (Go.Value.string { data := #[] }), (Go.Value.int Go.IntKind.i64 0), (Go.Value.int Go.IntKind.i64 0)] []⟩,
    ⟨(some 1), none, .mv (.tmp 3)⟩])
  (.seq (.seq (.ops [⟨(some 2), none, .mv (.const (Go.Value.int Go.IntKind.i64 0))⟩])
  (.block 0 (.loop (.seq (.seq (.ops [⟨(some 4), none, .mv (.tmp 2)⟩,
        ⟨(some 5), none, .bin .lss 3 (.tmp 4) (.const (Go.Value.int Go.IntKind.i64 3))⟩])
      (.cond (.tmp 5)
        (.skip)
        (.exit 0)))
      (.seq (.block 1 (.ops [⟨(some 8), none, .mv (.tmp 1)⟩,
          ⟨(some 9), none, .bld [(Go.Value.int Go.IntKind.i64 0), (Go.Value.string { data := #[] }), (Go.Value.string { data := #[] }), (Go.Value.int Go.IntKind.u64 0)] [(0, 1, (.const (Go.Value.int Go.IntKind.i64 1)))]⟩,
          ⟨(some 10), none, .mv (.tmp 2)⟩,
          ⟨(some 11), none, .bin .mul 3 (.const (Go.Value.int Go.IntKind.i64 4)) (.tmp 10)⟩,
          ⟨(some 12), none, .bin .add 3 (.const (Go.Value.int Go.IntKind.i64 2)) (.tmp 11)⟩,
          ⟨(some 13), none, .bld [(Go.Value.int Go.IntKind.i64 0), (Go.Value.string { data := #[] }), (Go.Value.string { data := #[] }), (Go.Value.int Go.IntKind.u64 0), (Go.Value.int Go.IntKind.i64 0), (Go.Value.string { data := #[] }), (Go.Value.int Go.IntKind.i64 0), (Go.Value.int Go.IntKind.i64 0)] [(0, 4, (.tmp 9)), (6, 1, (.const (Go.Value.int Go.IntKind.i64 1))), (7, 1, (.tmp 12))]⟩,
          ⟨(some 14), none, .bsl 44 8 1 [(Go.Value.int Go.IntKind.i64 0), (Go.Value.string { data := #[] }), (Go.Value.string { data := #[] }), (Go.Value.int Go.IntKind.u64 0), (Go.Value.int Go.IntKind.i64 0), (Go.Value.string { data := #[] }), (Go.Value.int Go.IntKind.i64 0), (Go.Value.int Go.IntKind.i64 0)] [(0, (.tmp 13))]⟩,
          ⟨(some 15), none, .app 44 8 88 [(Go.Value.int Go.IntKind.i64 0), (Go.Value.string { data := #[] }), (Go.Value.string { data := #[] }), (Go.Value.int Go.IntKind.u64 0), (Go.Value.int Go.IntKind.i64 0), (Go.Value.string { data := #[] }), (Go.Value.int Go.IntKind.i64 0), (Go.Value.int Go.IntKind.i64 0)] (.tmp 8) (.tmp 14)⟩,
          ⟨(some 1), none, .mv (.tmp 15)⟩]))
      (.ops [⟨(some 6), none, .mv (.tmp 2)⟩,
        ⟨(some 7), none, .bin .add 3 (.tmp 6) (.const (Go.Value.int Go.IntKind.i64 1))⟩,
        ⟨(some 2), none, .mv (.tmp 7)⟩]))))))
  (.seq (.ops [⟨(some 16), none, .mv (.tmp 1)⟩,
    ⟨(some 0), none, .mv (.tmp 16)⟩])
  (.ret))))
theorem is_law29_three : FnIs Try.prog F.law29_three X.law29_three 17 [.tmp 0] := ⟨by kernel_rfl⟩

-- loop (inner ones first): [0, 1, 7, 8]
/-- slices.IndexFunc[[]haycroft/api.Event,haycroft/api.Event]: function 35 -/
abbrev F.slices_IndexFunc_api_Event_api_Event : FuncId := 35
def X.slices_IndexFunc_api_Event_api_Event : X :=
  .seq (.ops [⟨(some 4), none, .mv (.const (Go.Value.int Go.IntKind.i64 0))⟩])
  (.seq (.seq (.ops [⟨(some 6), none, .mv (.tmp 0)⟩,
    ⟨(some 7), none, .lenS (.tmp 6)⟩,
    ⟨(some 8), none, .mv (.const (Go.Value.int Go.IntKind.i64 0))⟩])
  (.block 0 (.loop (.seq (.ops [⟨(some 9), none, .bin .lss 3 (.tmp 8) (.tmp 7)⟩])
      (.seq (.cond (.tmp 9)
        (.skip)
        (.exit 0))
      (.seq (.block 1 (.seq (.ops [⟨(some 10), none, .mv (.tmp 8)⟩,
          ⟨(some 5), none, .mv (.tmp 10)⟩])
        (.seq (.ops [⟨(some 11), none, .mv (.tmp 1)⟩,
          ⟨(some 12), none, .mv (.tmp 0)⟩,
          ⟨(some 13), none, .mv (.tmp 5)⟩,
          ⟨(some 14), none, .idx (.tmp 12) (.tmp 13) 8⟩,
          ⟨(some 15), none, .ld (.tmp 14) (some 8)⟩,
          ⟨(some 16), none, .more (.cv (.tmp 11) [(.tmp 15)])⟩])
        (.cond (.tmp 16)
          (.seq (.ops [⟨(some 17), none, .mv (.tmp 5)⟩,
            ⟨(some 4), none, .mv (.tmp 17)⟩])
          (.ret))
          (.skip)))))
      (.ops [⟨(some 18), none, .bin .add 3 (.tmp 8) (.const (Go.Value.int Go.IntKind.i64 1))⟩,
        ⟨(some 8), none, .mv (.tmp 18)⟩])))))))
  (.seq (.ops [⟨(some 4), none, .mv (.const (Go.Value.int Go.IntKind.i64 (-1)))⟩])
  (.ret)))
theorem is_slices_IndexFunc_api_Event_api_Event : FnIs Try.prog F.slices_IndexFunc_api_Event_api_Event X.slices_IndexFunc_api_Event_api_Event 19 [.tmp 4] := ⟨by kernel_rfl⟩

/-- slices.ContainsFunc[[]haycroft/api.Event,haycroft/api.Event]: function 27 -/
abbrev F.slices_ContainsFunc_api_Event_api_Event : FuncId := 27
def X.slices_ContainsFunc_api_Event_api_Event : X :=
  .seq (.ops [⟨(some 4), none, .mv (.const (Go.Value.bool false))⟩])
  (.seq (.ops [⟨(some 5), none, .mv (.tmp 0)⟩,
    ⟨(some 6), none, .mv (.tmp 1)⟩,
    ⟨(some 7), none, .call 35 [(.tmp 5), (.tmp 6)]⟩,
    ⟨(some 8), none, .bin .geq 3 (.tmp 7) (.const (Go.Value.int Go.IntKind.i64 0))⟩,
    ⟨(some 4), none, .mv (.tmp 8)⟩])
  (.ret))
theorem is_slices_ContainsFunc_api_Event_api_Event : FnIs Try.prog F.slices_ContainsFunc_api_Event_api_Event X.slices_ContainsFunc_api_Event_api_Event 9 [.tmp 4] := ⟨by kernel_rfl⟩

/-- haycroft/history.Right$1: function 34 -/
abbrev F.history_Right_1 : FuncId := 34
def X.history_Right_1 : X :=
  .seq (.ops [⟨(some 1), none, .box 44 (.tmp 0)⟩,
    ⟨(some 2), none, .mv (.const (Go.Value.bool false))⟩])
  (.seq (.ops [⟨(some 3), none, .fld (.tmp 1) 0⟩,
    ⟨(some 4), none, .fld (.tmp 3) 0⟩,
    ⟨(some 5), none, .ld (.tmp 4) none⟩,
    ⟨(some 6), none, .bin .lss 3 (.tmp 5) (.const (Go.Value.int Go.IntKind.i64 1))⟩,
    ⟨(some 7), none, .mv (.tmp 6)⟩,
    ⟨(some 8), (some (7, false)), .fld (.tmp 1) 0⟩,
    ⟨(some 9), (some (7, false)), .fld (.tmp 8) 0⟩,
    ⟨(some 10), (some (7, false)), .ld (.tmp 9) none⟩,
    ⟨(some 11), (some (7, false)), .bin .gtr 3 (.tmp 10) (.const (Go.Value.int Go.IntKind.i64 4))⟩,
    ⟨(some 12), none, .pick (.tmp 7) (.const (Go.Value.bool true)) (.tmp 11)⟩,
    ⟨(some 13), none, .mv (.tmp 12)⟩,
    ⟨(some 14), (some (13, false)), .fld (.tmp 1) 6⟩,
    ⟨(some 15), (some (13, false)), .ld (.tmp 14) none⟩,
    ⟨(some 16), (some (13, false)), .bin .lss 3 (.tmp 15) (.const (Go.Value.int Go.IntKind.i64 1))⟩,
    ⟨(some 17), none, .pick (.tmp 13) (.const (Go.Value.bool true)) (.tmp 16)⟩,
    ⟨(some 18), none, .mv (.tmp 17)⟩,
    ⟨(some 19), (some (18, false)), .fld (.tmp 1) 7⟩,
    ⟨(some 20), (some (18, false)), .ld (.tmp 19) none⟩,
    ⟨(some 21), (some (18, false)), .bin .neq 3 (.tmp 20) (.const (Go.Value.int Go.IntKind.i64 0))⟩,
    ⟨(some 22), (some (18, false)), .mv (.tmp 21)⟩,
    ⟨(some 23), (some (22, true)), .fld (.tmp 1) 7⟩,
    ⟨(some 24), (some (22, true)), .ld (.tmp 23) none⟩,
    ⟨(some 25), (some (22, true)), .fld (.tmp 1) 6⟩,
    ⟨(some 26), (some (22, true)), .ld (.tmp 25) none⟩,
    ⟨(some 27), (some (22, true)), .bin .leq 3 (.tmp 24) (.tmp 26)⟩,
    ⟨(some 28), (some (18, false)), .pick (.tmp 22) (.tmp 27) (.const (Go.Value.bool false))⟩,
    ⟨(some 29), none, .pick (.tmp 18) (.const (Go.Value.bool true)) (.tmp 28)⟩,
    ⟨(some 2), none, .mv (.tmp 29)⟩])
  (.ret))
theorem is_history_Right_1 : FnIs Try.prog F.history_Right_1 X.history_Right_1 30 [.tmp 2] := ⟨by kernel_rfl⟩

/-- haycroft/history.Right: function 26 -/
abbrev F.history_Right : FuncId := 26
def X.history_Right : X :=
  .seq (.ops [⟨(some 2), none, .mv (.const (Go.Value.bool false))⟩])
  (.seq (.ops [⟨(some 3), none, .mv (.tmp 0)⟩,
    ⟨(some 4), none, .call 27 [(.tmp 3), (.func 34)]⟩,
    ⟨(some 5), none, .un .not (.tmp 4)⟩,
    ⟨(some 2), none, .mv (.tmp 5)⟩])
  (.ret))
theorem is_history_Right : FnIs Try.prog F.history_Right X.history_Right 6 [.tmp 2] := ⟨by kernel_rfl⟩
theorem bd_history_Right_1 : bodyOk Try.prog F.history_Right_1 = true := by kernel_rfl

/-- haycroft/meter.may$1: function 28 -/
abbrev F.meter_may_1 : FuncId := 28
def X.meter_may_1 : X :=
  .seq (.ops [⟨(some 1), none, .box 44 (.tmp 0)⟩,
    ⟨(some 2), none, .mv (.const (Go.Value.bool false))⟩])
  (.seq (.ops [⟨(some 3), none, .fld (.tmp 1) 6⟩,
    ⟨(some 4), none, .ld (.tmp 3) none⟩,
    ⟨(some 5), none, .bin .gtr 3 (.tmp 4) (.const (Go.Value.int Go.IntKind.i64 999999999))⟩,
    ⟨(some 6), none, .mv (.tmp 5)⟩,
    ⟨(some 7), (some (6, false)), .fld (.tmp 1) 7⟩,
    ⟨(some 8), (some (6, false)), .ld (.tmp 7) none⟩,
    ⟨(some 9), (some (6, false)), .bin .gtr 3 (.tmp 8) (.const (Go.Value.int Go.IntKind.i64 999999999))⟩,
    ⟨(some 10), none, .pick (.tmp 6) (.const (Go.Value.bool true)) (.tmp 9)⟩,
    ⟨(some 2), none, .mv (.tmp 10)⟩])
  (.ret))
theorem is_meter_may_1 : FnIs Try.prog F.meter_may_1 X.meter_may_1 11 [.tmp 2] := ⟨by kernel_rfl⟩

/-- haycroft/meter.may: function 21 -/
abbrev F.meter_may : FuncId := 21
def X.meter_may : X :=
  .seq (.ops [⟨(some 2), none, .mv (.const (Go.Value.bool false))⟩])
  (.seq (.ops [⟨(some 3), none, .mv (.tmp 0)⟩,
    ⟨(some 4), none, .call 26 [(.tmp 3)]⟩,
    ⟨(some 5), none, .mv (.tmp 4)⟩,
    ⟨(some 6), (some (5, true)), .mv (.tmp 0)⟩,
    ⟨(some 7), (some (5, true)), .call 27 [(.tmp 6), (.func 28)]⟩,
    ⟨(some 8), (some (5, true)), .un .not (.tmp 7)⟩,
    ⟨(some 9), none, .pick (.tmp 5) (.tmp 8) (.const (Go.Value.bool false))⟩,
    ⟨(some 2), none, .mv (.tmp 9)⟩])
  (.ret))
theorem is_meter_may : FnIs Try.prog F.meter_may X.meter_may 10 [.tmp 2] := ⟨by kernel_rfl⟩
theorem bd_meter_may_1 : bodyOk Try.prog F.meter_may_1 = true := by kernel_rfl

/-- slices.Sort[[]int,int]: function 29, not walked -/
abbrev F.slices_Sort_int_int : FuncId := 29

-- loop (inner ones first): [3, 6, 7, 8]
/-- haycroft/meter.waits: function 22 -/
abbrev F.meter_waits : FuncId := 22
def X.meter_waits : X :=
  .seq (.ops [⟨(some 2), none, .mv (.const (Go.Value.slice none 0 0))⟩])
  (.seq (.ops [⟨(some 3), none, .mv (.const (Go.Value.slice none 0 0))⟩])
  (.seq (.seq (.ops [⟨(some 6), none, .mv (.tmp 0)⟩,
    ⟨(some 7), none, .lenS (.tmp 6)⟩,
    ⟨(some 8), none, .mv (.const (Go.Value.int Go.IntKind.i64 0))⟩])
  (.block 0 (.loop (.seq (.ops [⟨(some 9), none, .bin .lss 3 (.tmp 8) (.tmp 7)⟩])
      (.seq (.cond (.tmp 9)
        (.skip)
        (.exit 0))
      (.seq (.block 1 (.seq (.ops [⟨(some 10), none, .idx (.tmp 6) (.tmp 8) 8⟩,
          ⟨(some 11), none, .ld (.tmp 10) (some 8)⟩,
          ⟨(some 5), none, .new 44 (Go.Value.agg #[(Go.Value.int Go.IntKind.i64 0), (Go.Value.string { data := #[] }), (Go.Value.string { data := #[] }), (Go.Value.int Go.IntKind.u64 0), (Go.Value.int Go.IntKind.i64 0), (Go.Value.string { data := #[] }), (Go.Value.int Go.IntKind.i64 0), (Go.Value.int Go.IntKind.i64 0)])⟩,
          ⟨none, none, .st (.tmp 5) (.tmp 11) 8⟩])
        (.seq (.ops [⟨(some 12), none, .fld (.tmp 5) 7⟩,
          ⟨(some 13), none, .ld (.tmp 12) none⟩,
          ⟨(some 14), none, .bin .neq 3 (.tmp 13) (.const (Go.Value.int Go.IntKind.i64 0))⟩])
        (.cond (.tmp 14)
          (.ops [⟨(some 15), none, .mv (.tmp 3)⟩,
            ⟨(some 16), none, .fld (.tmp 5) 7⟩,
            ⟨(some 17), none, .ld (.tmp 16) none⟩,
            ⟨(some 18), none, .fld (.tmp 5) 6⟩,
            ⟨(some 19), none, .ld (.tmp 18) none⟩,
            ⟨(some 20), none, .bin .sub 3 (.tmp 17) (.tmp 19)⟩,
            ⟨(some 21), none, .bsl 3 1 1 [(Go.Value.int Go.IntKind.i64 0)] [(0, (.tmp 20))]⟩,
            ⟨(some 22), none, .app 3 1 8 [(Go.Value.int Go.IntKind.i64 0)] (.tmp 15) (.tmp 21)⟩,
            ⟨(some 3), none, .mv (.tmp 22)⟩])
          (.skip)))))
      (.ops [⟨(some 23), none, .bin .add 3 (.tmp 8) (.const (Go.Value.int Go.IntKind.i64 1))⟩,
        ⟨(some 8), none, .mv (.tmp 23)⟩])))))))
  (.seq (.ops [⟨(some 24), none, .mv (.tmp 3)⟩,
    ⟨(some 25), none, .call 29 [(.tmp 24)]⟩])
  (.seq (.ops [⟨(some 26), none, .mv (.tmp 3)⟩,
    ⟨(some 2), none, .mv (.tmp 26)⟩])
  (.ret)))))
theorem is_meter_waits : FnIs Try.prog F.meter_waits X.meter_waits 27 [.tmp 2] := ⟨by kernel_rfl⟩

/-- slices.SortFunc[[]haycroft/meter.turn,haycroft/meter.turn]: function 30, not walked -/
abbrev F.slices_SortFunc_meter_turn_meter_turn : FuncId := 30

/-- cmp.isNaN[int]: function 39 -/
abbrev F.cmp_isNaN_int : FuncId := 39
def X.cmp_isNaN_int : X :=
  .seq (.ops [⟨(some 2), none, .mv (.const (Go.Value.bool false))⟩])
  (.seq (.ops [⟨(some 3), none, .mv (.tmp 0)⟩,
    ⟨(some 4), none, .mv (.tmp 0)⟩,
    ⟨(some 5), none, .bin .neq 3 (.tmp 3) (.tmp 4)⟩,
    ⟨(some 2), none, .mv (.tmp 5)⟩])
  (.ret))
theorem is_cmp_isNaN_int : FnIs Try.prog F.cmp_isNaN_int X.cmp_isNaN_int 6 [.tmp 2] := ⟨by kernel_rfl⟩

/-- cmp.Compare[int]: function 33 -/
abbrev F.cmp_Compare_int : FuncId := 33
def X.cmp_Compare_int : X :=
  .seq (.ops [⟨(some 4), none, .mv (.const (Go.Value.int Go.IntKind.i64 0))⟩])
  (.seq (.ops [⟨(some 7), none, .mv (.tmp 0)⟩,
    ⟨(some 8), none, .call 39 [(.tmp 7)]⟩,
    ⟨(some 5), none, .mv (.tmp 8)⟩])
  (.seq (.ops [⟨(some 9), none, .mv (.tmp 1)⟩,
    ⟨(some 10), none, .call 39 [(.tmp 9)]⟩,
    ⟨(some 6), none, .mv (.tmp 10)⟩])
  (.seq (.seq (.ops [⟨(some 11), none, .mv (.tmp 5)⟩])
  (.cond (.tmp 11)
    (.seq (.seq (.ops [⟨(some 12), none, .mv (.tmp 6)⟩])
    (.cond (.tmp 12)
      (.seq (.ops [⟨(some 4), none, .mv (.const (Go.Value.int Go.IntKind.i64 0))⟩])
      (.ret))
      (.skip)))
    (.seq (.ops [⟨(some 4), none, .mv (.const (Go.Value.int Go.IntKind.i64 (-1)))⟩])
    (.ret)))
    (.skip)))
  (.seq (.seq (.ops [⟨(some 13), none, .mv (.tmp 6)⟩])
  (.cond (.tmp 13)
    (.seq (.ops [⟨(some 4), none, .mv (.const (Go.Value.int Go.IntKind.i64 1))⟩])
    (.ret))
    (.skip)))
  (.seq (.seq (.ops [⟨(some 14), none, .mv (.tmp 0)⟩,
    ⟨(some 15), none, .mv (.tmp 1)⟩,
    ⟨(some 16), none, .bin .lss 3 (.tmp 14) (.tmp 15)⟩])
  (.cond (.tmp 16)
    (.seq (.ops [⟨(some 4), none, .mv (.const (Go.Value.int Go.IntKind.i64 (-1)))⟩])
    (.ret))
    (.skip)))
  (.seq (.seq (.ops [⟨(some 17), none, .mv (.tmp 0)⟩,
    ⟨(some 18), none, .mv (.tmp 1)⟩,
    ⟨(some 19), none, .bin .gtr 3 (.tmp 17) (.tmp 18)⟩])
  (.cond (.tmp 19)
    (.seq (.ops [⟨(some 4), none, .mv (.const (Go.Value.int Go.IntKind.i64 1))⟩])
    (.ret))
    (.skip)))
  (.seq (.ops [⟨(some 4), none, .mv (.const (Go.Value.int Go.IntKind.i64 0))⟩])
  (.ret))))))))
theorem is_cmp_Compare_int : FnIs Try.prog F.cmp_Compare_int X.cmp_Compare_int 20 [.tmp 4] := ⟨by kernel_rfl⟩

-- loop (inner ones first): [3, 6, 7, 8]
/-- cmp.Or[int]: function 32 -/
abbrev F.cmp_Or_int : FuncId := 32
def X.cmp_Or_int : X :=
  .seq (.ops [⟨(some 2), none, .mv (.const (Go.Value.int Go.IntKind.i64 0))⟩])
  (.seq (.ops [⟨(some 3), none, .mv (.const (Go.Value.int Go.IntKind.i64 0))⟩])
  (.seq (.seq (.ops [⟨(some 6), none, .mv (.tmp 0)⟩,
    ⟨(some 7), none, .lenS (.tmp 6)⟩,
    ⟨(some 8), none, .mv (.const (Go.Value.int Go.IntKind.i64 0))⟩])
  (.block 0 (.loop (.seq (.ops [⟨(some 9), none, .bin .lss 3 (.tmp 8) (.tmp 7)⟩])
      (.seq (.cond (.tmp 9)
        (.skip)
        (.exit 0))
      (.seq (.block 1 (.seq (.ops [⟨(some 10), none, .idx (.tmp 6) (.tmp 8) 1⟩,
          ⟨(some 11), none, .ld (.tmp 10) none⟩,
          ⟨(some 5), none, .mv (.tmp 11)⟩])
        (.seq (.ops [⟨(some 12), none, .mv (.tmp 5)⟩,
          ⟨(some 13), none, .mv (.tmp 3)⟩,
          ⟨(some 14), none, .bin .neq 3 (.tmp 12) (.tmp 13)⟩])
        (.cond (.tmp 14)
          (.seq (.ops [⟨(some 15), none, .mv (.tmp 5)⟩,
            ⟨(some 2), none, .mv (.tmp 15)⟩])
          (.ret))
          (.skip)))))
      (.ops [⟨(some 16), none, .bin .add 3 (.tmp 8) (.const (Go.Value.int Go.IntKind.i64 1))⟩,
        ⟨(some 8), none, .mv (.tmp 16)⟩])))))))
  (.seq (.ops [⟨(some 17), none, .mv (.tmp 3)⟩,
    ⟨(some 2), none, .mv (.tmp 17)⟩])
  (.ret))))
theorem is_cmp_Or_int : FnIs Try.prog F.cmp_Or_int X.cmp_Or_int 18 [.tmp 2] := ⟨by kernel_rfl⟩

/-- haycroft/meter.wide$1: function 31 -/
abbrev F.meter_wide_1 : FuncId := 31
def X.meter_wide_1 : X :=
  .seq (.ops [⟨(some 2), none, .box 59 (.tmp 0)⟩,
    ⟨(some 3), none, .box 59 (.tmp 1)⟩,
    ⟨(some 4), none, .mv (.const (Go.Value.int Go.IntKind.i64 0))⟩])
  (.seq (.drawn [(0, ⟨(some 5), none, .fld (.tmp 2) 0⟩),
    (1, ⟨(some 6), none, .ld (.tmp 5) none⟩),
    (2, ⟨(some 7), none, .fld (.tmp 3) 0⟩),
    (3, ⟨(some 8), none, .ld (.tmp 7) none⟩),
    (5, ⟨(some 10), none, .fld (.tmp 2) 1⟩),
    (6, ⟨(some 11), none, .ld (.tmp 10) none⟩),
    (7, ⟨(some 12), none, .fld (.tmp 3) 1⟩),
    (8, ⟨(some 13), none, .ld (.tmp 12) none⟩),
    (4, ⟨(some 9), none, .call 33 [(.tmp 6), (.tmp 8)]⟩),
    (9, ⟨(some 14), none, .call 33 [(.tmp 11), (.tmp 13)]⟩),
    (10, ⟨(some 15), none, .bsl 3 1 2 [(Go.Value.int Go.IntKind.i64 0)] [(0, (.tmp 9)), (1, (.tmp 14))]⟩),
    (11, ⟨(some 16), none, .call 32 [(.tmp 15)]⟩),
    (12, ⟨(some 4), none, .mv (.tmp 16)⟩)]
    [[], [0], [], [2], [1, 3], [], [5], [], [7], [6, 8, 4], [4, 9], [10, 9], [11, 11, 0, 1, 2, 3, 4, 5, 6, 7, 8, 9, 10, 11]]
    [0, 1, 0, 4, 15, 0, 32, 0, 128, 511, 1023, 2047, 4095] 3600)
  (.ret))
theorem is_meter_wide_1 : FnIs Try.prog F.meter_wide_1 X.meter_wide_1 17 [.tmp 4] := ⟨by kernel_rfl⟩

-- loop (inner ones first): [6, 7, 34, 35, 36]
-- loop (inner ones first): [3, 10, 11, 12]
/-- haycroft/meter.wide: function 23 -/
abbrev F.meter_wide : FuncId := 23
def X.meter_wide : X :=
  .seq (.ops [⟨(some 2), none, .mv (.const (Go.Value.int Go.IntKind.i64 0))⟩])
  (.seq (.ops [⟨(some 3), none, .mv (.const (Go.Value.slice none 0 0))⟩])
  (.seq (.seq (.ops [⟨(some 10), none, .mv (.tmp 0)⟩,
    ⟨(some 11), none, .lenS (.tmp 10)⟩,
    ⟨(some 12), none, .mv (.const (Go.Value.int Go.IntKind.i64 0))⟩])
  (.block 0 (.loop (.seq (.ops [⟨(some 13), none, .bin .lss 3 (.tmp 12) (.tmp 11)⟩])
      (.seq (.cond (.tmp 13)
        (.skip)
        (.exit 0))
      (.seq (.block 1 (.seq (.ops [⟨(some 14), none, .idx (.tmp 10) (.tmp 12) 8⟩,
          ⟨(some 15), none, .ld (.tmp 14) (some 8)⟩,
          ⟨(some 5), none, .new 44 (Go.Value.agg #[(Go.Value.int Go.IntKind.i64 0), (Go.Value.string { data := #[] }), (Go.Value.string { data := #[] }), (Go.Value.int Go.IntKind.u64 0), (Go.Value.int Go.IntKind.i64 0), (Go.Value.string { data := #[] }), (Go.Value.int Go.IntKind.i64 0), (Go.Value.int Go.IntKind.i64 0)])⟩,
          ⟨none, none, .st (.tmp 5) (.tmp 15) 8⟩])
        (.seq (.ops [⟨(some 16), none, .mv (.tmp 3)⟩,
          ⟨(some 17), none, .fld (.tmp 5) 6⟩,
          ⟨(some 18), none, .ld (.tmp 17) none⟩,
          ⟨(some 19), none, .bld [(Go.Value.int Go.IntKind.i64 0), (Go.Value.int Go.IntKind.i64 0)] [(0, 1, (.tmp 18)), (1, 1, (.const (Go.Value.int Go.IntKind.i64 1)))]⟩,
          ⟨(some 20), none, .bsl 59 2 1 [(Go.Value.int Go.IntKind.i64 0), (Go.Value.int Go.IntKind.i64 0)] [(0, (.tmp 19))]⟩,
          ⟨(some 21), none, .app 59 2 16 [(Go.Value.int Go.IntKind.i64 0), (Go.Value.int Go.IntKind.i64 0)] (.tmp 16) (.tmp 20)⟩,
          ⟨(some 3), none, .mv (.tmp 21)⟩])
        (.seq (.ops [⟨(some 22), none, .fld (.tmp 5) 7⟩,
          ⟨(some 23), none, .ld (.tmp 22) none⟩,
          ⟨(some 24), none, .bin .neq 3 (.tmp 23) (.const (Go.Value.int Go.IntKind.i64 0))⟩])
        (.cond (.tmp 24)
          (.ops [⟨(some 25), none, .mv (.tmp 3)⟩,
            ⟨(some 26), none, .fld (.tmp 5) 7⟩,
            ⟨(some 27), none, .ld (.tmp 26) none⟩,
            ⟨(some 28), none, .bld [(Go.Value.int Go.IntKind.i64 0), (Go.Value.int Go.IntKind.i64 0)] [(0, 1, (.tmp 27)), (1, 1, (.const (Go.Value.int Go.IntKind.i64 (-1))))]⟩,
            ⟨(some 29), none, .bsl 59 2 1 [(Go.Value.int Go.IntKind.i64 0), (Go.Value.int Go.IntKind.i64 0)] [(0, (.tmp 28))]⟩,
            ⟨(some 30), none, .app 59 2 16 [(Go.Value.int Go.IntKind.i64 0), (Go.Value.int Go.IntKind.i64 0)] (.tmp 25) (.tmp 29)⟩,
            ⟨(some 3), none, .mv (.tmp 30)⟩])
          (.skip))))))
      (.ops [⟨(some 31), none, .bin .add 3 (.tmp 12) (.const (Go.Value.int Go.IntKind.i64 1))⟩,
        ⟨(some 12), none, .mv (.tmp 31)⟩])))))))
  (.seq (.ops [⟨(some 32), none, .mv (.tmp 3)⟩,
    ⟨(some 33), none, .call 30 [(.tmp 32), (.func 31)]⟩])
  (.seq (.ops [⟨(some 6), none, .mv (.const (Go.Value.int Go.IntKind.i64 0))⟩,
    ⟨(some 7), none, .mv (.const (Go.Value.int Go.IntKind.i64 0))⟩])
  (.seq (.seq (.ops [⟨(some 34), none, .mv (.tmp 3)⟩,
    ⟨(some 35), none, .lenS (.tmp 34)⟩,
    ⟨(some 36), none, .mv (.const (Go.Value.int Go.IntKind.i64 0))⟩])
  (.block 2 (.loop (.seq (.ops [⟨(some 37), none, .bin .lss 3 (.tmp 36) (.tmp 35)⟩])
      (.seq (.cond (.tmp 37)
        (.skip)
        (.exit 2))
      (.seq (.block 3 (.seq (.ops [⟨(some 38), none, .idx (.tmp 34) (.tmp 36) 2⟩,
          ⟨(some 39), none, .ld (.tmp 38) (some 2)⟩,
          ⟨(some 9), none, .new 59 (Go.Value.agg #[(Go.Value.int Go.IntKind.i64 0), (Go.Value.int Go.IntKind.i64 0)])⟩,
          ⟨none, none, .st (.tmp 9) (.tmp 39) 2⟩])
        (.seq (.ops [⟨(some 40), none, .mv (.tmp 6)⟩,
          ⟨(some 41), none, .fld (.tmp 9) 1⟩,
          ⟨(some 42), none, .ld (.tmp 41) none⟩,
          ⟨(some 43), none, .bin .add 3 (.tmp 40) (.tmp 42)⟩,
          ⟨(some 6), none, .mv (.tmp 43)⟩])
        (.ops [⟨(some 44), none, .mv (.tmp 7)⟩,
          ⟨(some 45), none, .mv (.tmp 6)⟩,
          ⟨(some 46), none, .mnx true (.tmp 44) [(.tmp 45)]⟩,
          ⟨(some 7), none, .mv (.tmp 46)⟩]))))
      (.ops [⟨(some 47), none, .bin .add 3 (.tmp 36) (.const (Go.Value.int Go.IntKind.i64 1))⟩,
        ⟨(some 36), none, .mv (.tmp 47)⟩])))))))
  (.seq (.ops [⟨(some 48), none, .mv (.tmp 7)⟩,
    ⟨(some 2), none, .mv (.tmp 48)⟩])
  (.ret)))))))
theorem is_meter_wide : FnIs Try.prog F.meter_wide X.meter_wide 49 [.tmp 2] := ⟨by kernel_rfl⟩
theorem bd_meter_wide_1 : bodyOk Try.prog F.meter_wide_1 = true := by kernel_rfl

-- loop (inner ones first): [2, 5, 47, 48, 49]
/-- haycroft/meter.Measure: function 9 -/
abbrev F.meter_Measure : FuncId := 9
def X.meter_Measure : X :=
  .seq (.ops [⟨(some 2), none, .new 25 (Go.Value.agg #[(Go.Value.int Go.IntKind.i64 0), (Go.Value.int Go.IntKind.i64 0), (Go.Value.int Go.IntKind.i64 0), (Go.Value.int Go.IntKind.i64 0), (Go.Value.int Go.IntKind.i64 0), (Go.Value.int Go.IntKind.i64 0), (Go.Value.int Go.IntKind.i64 0)])⟩,
    ⟨(some 3), none, .mv (.const (Go.Value.int Go.IntKind.i64 0))⟩])
  (.seq (.seq (.ops [⟨(some 8), none, .mv (.tmp 0)⟩,
    ⟨(some 9), none, .call 21 [(.tmp 8)]⟩,
    ⟨(some 10), none, .un .not (.tmp 9)⟩])
  (.cond (.tmp 10)
    (.seq (.ops [⟨(some 11), none, .bld [(Go.Value.int Go.IntKind.i64 0), (Go.Value.int Go.IntKind.i64 0), (Go.Value.int Go.IntKind.i64 0), (Go.Value.int Go.IntKind.i64 0), (Go.Value.int Go.IntKind.i64 0), (Go.Value.int Go.IntKind.i64 0), (Go.Value.int Go.IntKind.i64 0)] []⟩,
      ⟨none, none, .st (.tmp 2) (.tmp 11) 7⟩,
      ⟨(some 3), none, .mv (.const (Go.Value.int Go.IntKind.i64 1))⟩])
    (.ret))
    (.skip)))
  (.seq (.ops [⟨(some 12), none, .mv (.tmp 0)⟩,
    ⟨(some 13), none, .call 22 [(.tmp 12)]⟩,
    ⟨(some 4), none, .mv (.tmp 13)⟩])
  (.seq (.ops [⟨(some 14), none, .mv (.tmp 4)⟩,
    ⟨(some 15), none, .lenS (.tmp 14)⟩,
    ⟨(some 16), none, .mv (.tmp 0)⟩,
    ⟨(some 17), none, .lenS (.tmp 16)⟩,
    ⟨(some 18), none, .mv (.tmp 4)⟩,
    ⟨(some 19), none, .lenS (.tmp 18)⟩,
    ⟨(some 20), none, .bin .sub 3 (.tmp 17) (.tmp 19)⟩,
    ⟨(some 21), none, .mv (.tmp 0)⟩,
    ⟨(some 22), none, .call 23 [(.tmp 21)]⟩,
    ⟨(some 23), none, .bld [(Go.Value.int Go.IntKind.i64 0), (Go.Value.int Go.IntKind.i64 0), (Go.Value.int Go.IntKind.i64 0), (Go.Value.int Go.IntKind.i64 0), (Go.Value.int Go.IntKind.i64 0), (Go.Value.int Go.IntKind.i64 0), (Go.Value.int Go.IntKind.i64 0)] [(0, 1, (.tmp 15)), (1, 1, (.tmp 20)), (6, 1, (.tmp 22))]⟩,
    ⟨(some 5), none, .new 25 (Go.Value.agg #[(Go.Value.int Go.IntKind.i64 0), (Go.Value.int Go.IntKind.i64 0), (Go.Value.int Go.IntKind.i64 0), (Go.Value.int Go.IntKind.i64 0), (Go.Value.int Go.IntKind.i64 0), (Go.Value.int Go.IntKind.i64 0), (Go.Value.int Go.IntKind.i64 0)])⟩,
    ⟨none, none, .st (.tmp 5) (.tmp 23) 7⟩])
  (.seq (.seq (.ops [⟨(some 24), none, .mv (.tmp 4)⟩,
    ⟨(some 25), none, .lenS (.tmp 24)⟩,
    ⟨(some 26), none, .bin .eql 3 (.tmp 25) (.const (Go.Value.int Go.IntKind.i64 0))⟩])
  (.cond (.tmp 26)
    (.seq (.ops [⟨(some 27), none, .ld (.tmp 5) (some 7)⟩,
      ⟨none, none, .st (.tmp 2) (.tmp 27) 7⟩,
      ⟨(some 3), none, .mv (.const (Go.Value.int Go.IntKind.i64 0))⟩])
    (.ret))
    (.skip)))
  (.seq (.drawn [(0, ⟨(some 28), none, .mv (.tmp 4)⟩),
    (1, ⟨(some 29), none, .idx (.tmp 28) (.const (Go.Value.int Go.IntKind.i64 0)) 1⟩),
    (2, ⟨(some 30), none, .ld (.tmp 29) none⟩),
    (3, ⟨(some 31), none, .mv (.tmp 4)⟩),
    (4, ⟨(some 32), none, .mv (.tmp 4)⟩),
    (5, ⟨(some 33), none, .lenS (.tmp 32)⟩),
    (6, ⟨(some 34), none, .bin .sub 3 (.tmp 33) (.const (Go.Value.int Go.IntKind.i64 1))⟩),
    (7, ⟨(some 35), none, .bin .quo 3 (.tmp 34) (.const (Go.Value.int Go.IntKind.i64 2))⟩),
    (8, ⟨(some 36), none, .idx (.tmp 31) (.tmp 35) 1⟩),
    (9, ⟨(some 37), none, .ld (.tmp 36) none⟩),
    (10, ⟨(some 38), none, .mv (.tmp 4)⟩),
    (11, ⟨(some 39), none, .mv (.tmp 4)⟩),
    (12, ⟨(some 40), none, .lenS (.tmp 39)⟩),
    (13, ⟨(some 41), none, .bin .sub 3 (.tmp 40) (.const (Go.Value.int Go.IntKind.i64 1))⟩),
    (14, ⟨(some 42), none, .idx (.tmp 38) (.tmp 41) 1⟩),
    (15, ⟨(some 43), none, .ld (.tmp 42) none⟩),
    (16, ⟨(some 44), none, .fld (.tmp 5) 2⟩),
    (17, ⟨none, none, .st (.tmp 44) (.tmp 30) 1⟩),
    (18, ⟨(some 45), none, .fld (.tmp 5) 5⟩),
    (19, ⟨none, none, .st (.tmp 45) (.tmp 37) 1⟩),
    (20, ⟨(some 46), none, .fld (.tmp 5) 3⟩),
    (21, ⟨none, none, .st (.tmp 46) (.tmp 43) 1⟩)]
    [[], [0], [1], [], [], [4], [5], [6], [3, 7], [8], [], [], [11], [12], [10, 13], [14], [0, 1, 2], [16, 2, 0, 1, 2], [0, 1, 2, 3, 4, 5, 6, 7, 8, 9, 16, 17], [18, 9, 17, 0, 1, 2, 3, 4, 5, 6, 7, 8, 9, 16, 17], [0, 1, 2, 3, 4, 5, 6, 7, 8, 9, 10, 11, 12, 13, 14, 15, 16, 17, 18, 19], [20, 15, 19, 0, 1, 2, 3, 4, 5, 6, 7, 8, 9, 10, 11, 12, 13, 14, 15, 16, 17, 18, 19]]
    [0, 1, 3, 0, 0, 16, 48, 112, 248, 504, 0, 0, 2048, 6144, 15360, 31744, 7, 65543, 197631, 459775, 1048575, 2097151] 2752512)
  (.seq (.seq (.ops [⟨(some 47), none, .mv (.tmp 4)⟩,
    ⟨(some 48), none, .lenS (.tmp 47)⟩,
    ⟨(some 49), none, .mv (.const (Go.Value.int Go.IntKind.i64 0))⟩])
  (.block 0 (.loop (.seq (.ops [⟨(some 50), none, .bin .lss 3 (.tmp 49) (.tmp 48)⟩])
      (.seq (.cond (.tmp 50)
        (.skip)
        (.exit 0))
      (.seq (.block 1 (.seq (.ops [⟨(some 51), none, .idx (.tmp 47) (.tmp 49) 1⟩,
          ⟨(some 52), none, .ld (.tmp 51) none⟩,
          ⟨(some 7), none, .mv (.tmp 52)⟩])
        (.ops [⟨(some 53), none, .fld (.tmp 5) 4⟩,
          ⟨(some 54), none, .ld (.tmp 53) none⟩,
          ⟨(some 55), none, .mv (.tmp 7)⟩,
          ⟨(some 56), none, .bin .add 3 (.tmp 54) (.tmp 55)⟩,
          ⟨(some 57), none, .fld (.tmp 5) 4⟩,
          ⟨none, none, .st (.tmp 57) (.tmp 56) 1⟩])))
      (.ops [⟨(some 58), none, .bin .add 3 (.tmp 49) (.const (Go.Value.int Go.IntKind.i64 1))⟩,
        ⟨(some 49), none, .mv (.tmp 58)⟩])))))))
  (.seq (.ops [⟨(some 59), none, .ld (.tmp 5) (some 7)⟩,
    ⟨none, none, .st (.tmp 2) (.tmp 59) 7⟩,
    ⟨(some 3), none, .mv (.const (Go.Value.int Go.IntKind.i64 0))⟩])
  (.ret))))))))
theorem is_meter_Measure : FnIs Try.prog F.meter_Measure X.meter_Measure 60 [.cell 2 25, .tmp 3] := ⟨by kernel_rfl⟩

/-- haycroft/meter.Share: function 12 -/
abbrev F.meter_Share : FuncId := 12
def X.meter_Share : X :=
  .seq (.ops [⟨(some 6), none, .mv (.const (Go.Value.int Go.IntKind.i64 0))⟩,
    ⟨(some 7), none, .mv (.const (Go.Value.int Go.IntKind.i64 0))⟩])
  (.seq (.seq (.ops [⟨(some 9), none, .mv (.tmp 0)⟩,
    ⟨(some 10), none, .call 21 [(.tmp 9)]⟩,
    ⟨(some 11), none, .un .not (.tmp 10)⟩,
    ⟨(some 12), none, .mv (.tmp 11)⟩,
    ⟨(some 13), (some (12, false)), .mv (.tmp 2)⟩,
    ⟨(some 14), (some (12, false)), .bin .lss 3 (.tmp 13) (.const (Go.Value.int Go.IntKind.i64 1))⟩,
    ⟨(some 15), none, .pick (.tmp 12) (.const (Go.Value.bool true)) (.tmp 14)⟩,
    ⟨(some 16), none, .mv (.tmp 15)⟩,
    ⟨(some 17), (some (16, false)), .mv (.tmp 2)⟩,
    ⟨(some 18), (some (16, false)), .bin .gtr 3 (.tmp 17) (.const (Go.Value.int Go.IntKind.i64 1000))⟩,
    ⟨(some 19), none, .pick (.tmp 16) (.const (Go.Value.bool true)) (.tmp 18)⟩,
    ⟨(some 20), none, .mv (.tmp 19)⟩,
    ⟨(some 21), (some (20, false)), .mv (.tmp 1)⟩,
    ⟨(some 22), (some (20, false)), .bin .lss 3 (.tmp 21) (.const (Go.Value.int Go.IntKind.i64 0))⟩,
    ⟨(some 23), none, .pick (.tmp 20) (.const (Go.Value.bool true)) (.tmp 22)⟩,
    ⟨(some 24), none, .mv (.tmp 23)⟩,
    ⟨(some 25), (some (24, false)), .mv (.tmp 1)⟩,
    ⟨(some 26), (some (24, false)), .mv (.tmp 2)⟩,
    ⟨(some 27), (some (24, false)), .bin .gtr 3 (.tmp 25) (.tmp 26)⟩,
    ⟨(some 28), none, .pick (.tmp 24) (.const (Go.Value.bool true)) (.tmp 27)⟩])
  (.cond (.tmp 28)
    (.seq (.ops [⟨(some 6), none, .mv (.const (Go.Value.int Go.IntKind.i64 0))⟩,
      ⟨(some 7), none, .mv (.const (Go.Value.int Go.IntKind.i64 1))⟩])
    (.ret))
    (.skip)))
  (.seq (.ops [⟨(some 29), none, .mv (.tmp 0)⟩,
    ⟨(some 30), none, .call 22 [(.tmp 29)]⟩,
    ⟨(some 8), none, .mv (.tmp 30)⟩])
  (.seq (.seq (.ops [⟨(some 31), none, .mv (.tmp 8)⟩,
    ⟨(some 32), none, .lenS (.tmp 31)⟩,
    ⟨(some 33), none, .bin .eql 3 (.tmp 32) (.const (Go.Value.int Go.IntKind.i64 0))⟩])
  (.cond (.tmp 33)
    (.seq (.ops [⟨(some 6), none, .mv (.const (Go.Value.int Go.IntKind.i64 0))⟩,
      ⟨(some 7), none, .mv (.const (Go.Value.int Go.IntKind.i64 0))⟩])
    (.ret))
    (.skip)))
  (.seq (.ops [⟨(some 34), none, .mv (.tmp 8)⟩,
    ⟨(some 35), none, .mv (.tmp 1)⟩,
    ⟨(some 36), none, .mv (.tmp 8)⟩,
    ⟨(some 37), none, .lenS (.tmp 36)⟩,
    ⟨(some 38), none, .bin .mul 3 (.tmp 35) (.tmp 37)⟩,
    ⟨(some 39), none, .mv (.tmp 2)⟩,
    ⟨(some 40), none, .bin .add 3 (.tmp 38) (.tmp 39)⟩,
    ⟨(some 41), none, .bin .sub 3 (.tmp 40) (.const (Go.Value.int Go.IntKind.i64 1))⟩,
    ⟨(some 42), none, .mv (.tmp 2)⟩,
    ⟨(some 43), none, .bin .quo 3 (.tmp 41) (.tmp 42)⟩,
    ⟨(some 44), none, .bin .sub 3 (.tmp 43) (.const (Go.Value.int Go.IntKind.i64 1))⟩,
    ⟨(some 45), none, .mnx true (.tmp 44) [(.const (Go.Value.int Go.IntKind.i64 0))]⟩,
    ⟨(some 46), none, .idx (.tmp 34) (.tmp 45) 1⟩,
    ⟨(some 47), none, .ld (.tmp 46) none⟩,
    ⟨(some 6), none, .mv (.tmp 47)⟩,
    ⟨(some 7), none, .mv (.const (Go.Value.int Go.IntKind.i64 0))⟩])
  (.ret)))))
theorem is_meter_Share : FnIs Try.prog F.meter_Share X.meter_Share 48 [.tmp 6, .tmp 7] := ⟨by kernel_rfl⟩

/-- haycroft/haycroftlaw29.awake: function 8 -/
abbrev F.law29_awake : FuncId := 8
def X.law29_awake : X :=
  .seq (.ops [⟨(some 0), none, .mv (.const (Go.Value.bool false))⟩])
  (.seq (.ops [⟨(some 6), none, .call 20 []⟩,
    ⟨(some 7), none, .call 9 [(.tmp 6)]⟩,
    ⟨(some 5), none, .mv (.tmp 7)⟩,
    ⟨(some 8), none, .ext (.tmp 5) 0⟩,
    ⟨(some 9), none, .ext (.tmp 5) 1⟩,
    ⟨(some 1), none, .new 25 (Go.Value.agg #[(Go.Value.int Go.IntKind.i64 0), (Go.Value.int Go.IntKind.i64 0), (Go.Value.int Go.IntKind.i64 0), (Go.Value.int Go.IntKind.i64 0), (Go.Value.int Go.IntKind.i64 0), (Go.Value.int Go.IntKind.i64 0), (Go.Value.int Go.IntKind.i64 0)])⟩,
    ⟨none, none, .st (.tmp 1) (.tmp 8) 7⟩,
    ⟨(some 2), none, .mv (.tmp 9)⟩])
  (.seq (.ops [⟨(some 11), none, .call 20 []⟩,
    ⟨(some 12), none, .call 12 [(.tmp 11), (.const (Go.Value.int Go.IntKind.i64 9)), (.const (Go.Value.int Go.IntKind.i64 10))]⟩,
    ⟨(some 10), none, .mv (.tmp 12)⟩,
    ⟨(some 13), none, .ext (.tmp 10) 0⟩,
    ⟨(some 14), none, .ext (.tmp 10) 1⟩,
    ⟨(some 3), none, .mv (.tmp 13)⟩,
    ⟨(some 4), none, .mv (.tmp 14)⟩])
  (.seq (.ops [⟨(some 15), none, .fld (.tmp 1) 5⟩,
    ⟨(some 16), none, .ld (.tmp 15) none⟩,
    ⟨(some 17), none, .bin .eql 3 (.tmp 16) (.const (Go.Value.int Go.IntKind.i64 5))⟩,
    ⟨(some 18), none, .mv (.tmp 17)⟩,
    ⟨(some 19), (some (18, true)), .mv (.tmp 2)⟩,
    ⟨(some 20), (some (18, true)), .bin .eql 26 (.tmp 19) (.const (Go.Value.int Go.IntKind.i64 0))⟩,
    ⟨(some 21), none, .pick (.tmp 18) (.tmp 20) (.const (Go.Value.bool false))⟩,
    ⟨(some 22), none, .mv (.tmp 21)⟩,
    ⟨(some 23), (some (22, true)), .mv (.tmp 3)⟩,
    ⟨(some 24), (some (22, true)), .bin .eql 3 (.tmp 23) (.const (Go.Value.int Go.IntKind.i64 9))⟩,
    ⟨(some 25), none, .pick (.tmp 22) (.tmp 24) (.const (Go.Value.bool false))⟩,
    ⟨(some 26), none, .mv (.tmp 25)⟩,
    ⟨(some 27), (some (26, true)), .mv (.tmp 4)⟩,
    ⟨(some 28), (some (26, true)), .bin .eql 26 (.tmp 27) (.const (Go.Value.int Go.IntKind.i64 0))⟩,
    ⟨(some 29), none, .pick (.tmp 26) (.tmp 28) (.const (Go.Value.bool false))⟩,
    ⟨(some 0), none, .mv (.tmp 29)⟩])
  (.ret))))
theorem is_law29_awake : FnIs Try.prog F.law29_awake X.law29_awake 30 [.tmp 0] := ⟨by kernel_rfl⟩

-- loop (inner ones first): [0, 3]
/-- haycroft/haycroftref20.Right: function 24 -/
abbrev F.ref20_Right : FuncId := 24
def X.ref20_Right : X :=
  .seq (.ops [⟨(some 2), none, .mv (.const (Go.Value.bool false))⟩])
  (.seq (.seq (.ops [⟨(some 3), none, .mv (.const (Go.Value.int Go.IntKind.i64 0))⟩])
  (.block 0 (.loop (.seq (.seq (.ops [⟨(some 5), none, .mv (.tmp 3)⟩,
        ⟨(some 6), none, .mv (.tmp 0)⟩,
        ⟨(some 7), none, .lenS (.tmp 6)⟩,
        ⟨(some 8), none, .bin .lss 3 (.tmp 5) (.tmp 7)⟩])
      (.cond (.tmp 8)
        (.skip)
        (.exit 0)))
      (.seq (.block 1 (.seq (.ops [⟨(some 11), none, .mv (.tmp 0)⟩,
          ⟨(some 12), none, .mv (.tmp 3)⟩,
          ⟨(some 13), none, .idx (.tmp 11) (.tmp 12) 8⟩,
          ⟨(some 14), none, .ld (.tmp 13) (some 8)⟩,
          ⟨(some 4), none, .new 44 (Go.Value.agg #[(Go.Value.int Go.IntKind.i64 0), (Go.Value.string { data := #[] }), (Go.Value.string { data := #[] }), (Go.Value.int Go.IntKind.u64 0), (Go.Value.int Go.IntKind.i64 0), (Go.Value.string { data := #[] }), (Go.Value.int Go.IntKind.i64 0), (Go.Value.int Go.IntKind.i64 0)])⟩,
          ⟨none, none, .st (.tmp 4) (.tmp 14) 8⟩])
        (.seq (.ops [⟨(some 15), none, .fld (.tmp 4) 0⟩,
          ⟨(some 16), none, .fld (.tmp 15) 0⟩,
          ⟨(some 17), none, .ld (.tmp 16) none⟩,
          ⟨(some 18), none, .bin .lss 3 (.tmp 17) (.const (Go.Value.int Go.IntKind.i64 1))⟩,
          ⟨(some 19), none, .mv (.tmp 18)⟩,
          ⟨(some 20), (some (19, false)), .fld (.tmp 4) 0⟩,
          ⟨(some 21), (some (19, false)), .fld (.tmp 20) 0⟩,
          ⟨(some 22), (some (19, false)), .ld (.tmp 21) none⟩,
          ⟨(some 23), (some (19, false)), .bin .gtr 3 (.tmp 22) (.const (Go.Value.int Go.IntKind.i64 4))⟩,
          ⟨(some 24), none, .pick (.tmp 19) (.const (Go.Value.bool true)) (.tmp 23)⟩,
          ⟨(some 25), none, .mv (.tmp 24)⟩,
          ⟨(some 26), (some (25, false)), .fld (.tmp 4) 6⟩,
          ⟨(some 27), (some (25, false)), .ld (.tmp 26) none⟩,
          ⟨(some 28), (some (25, false)), .bin .lss 3 (.tmp 27) (.const (Go.Value.int Go.IntKind.i64 1))⟩,
          ⟨(some 29), none, .pick (.tmp 25) (.const (Go.Value.bool true)) (.tmp 28)⟩,
          ⟨(some 30), none, .mv (.tmp 29)⟩,
          ⟨(some 31), (some (30, false)), .fld (.tmp 4) 7⟩,
          ⟨(some 32), (some (30, false)), .ld (.tmp 31) none⟩,
          ⟨(some 33), (some (30, false)), .bin .neq 3 (.tmp 32) (.const (Go.Value.int Go.IntKind.i64 0))⟩,
          ⟨(some 34), (some (30, false)), .mv (.tmp 33)⟩,
          ⟨(some 35), (some (34, true)), .fld (.tmp 4) 7⟩,
          ⟨(some 36), (some (34, true)), .ld (.tmp 35) none⟩,
          ⟨(some 37), (some (34, true)), .fld (.tmp 4) 6⟩,
          ⟨(some 38), (some (34, true)), .ld (.tmp 37) none⟩,
          ⟨(some 39), (some (34, true)), .bin .leq 3 (.tmp 36) (.tmp 38)⟩,
          ⟨(some 40), (some (30, false)), .pick (.tmp 34) (.tmp 39) (.const (Go.Value.bool false))⟩,
          ⟨(some 41), none, .pick (.tmp 30) (.const (Go.Value.bool true)) (.tmp 40)⟩])
        (.cond (.tmp 41)
          (.seq (.ops [⟨(some 2), none, .mv (.const (Go.Value.bool false))⟩])
          (.ret))
          (.skip)))))
      (.ops [⟨(some 9), none, .mv (.tmp 3)⟩,
        ⟨(some 10), none, .bin .add 3 (.tmp 9) (.const (Go.Value.int Go.IntKind.i64 1))⟩,
        ⟨(some 3), none, .mv (.tmp 10)⟩]))))))
  (.seq (.ops [⟨(some 2), none, .mv (.const (Go.Value.bool true))⟩])
  (.ret)))
theorem is_ref20_Right : FnIs Try.prog F.ref20_Right X.ref20_Right 42 [.tmp 2] := ⟨by kernel_rfl⟩

-- loop (inner ones first): [0, 3]
/-- haycroft/haycroftref29.May: function 10 -/
abbrev F.ref29_May : FuncId := 10
def X.ref29_May : X :=
  .seq (.ops [⟨(some 2), none, .mv (.const (Go.Value.bool false))⟩])
  (.seq (.seq (.ops [⟨(some 3), none, .mv (.const (Go.Value.int Go.IntKind.i64 0))⟩])
  (.block 0 (.loop (.seq (.seq (.ops [⟨(some 4), none, .mv (.tmp 3)⟩,
        ⟨(some 5), none, .mv (.tmp 0)⟩,
        ⟨(some 6), none, .lenS (.tmp 5)⟩,
        ⟨(some 7), none, .bin .lss 3 (.tmp 4) (.tmp 6)⟩])
      (.cond (.tmp 7)
        (.skip)
        (.exit 0)))
      (.seq (.block 1 (.seq (.ops [⟨(some 10), none, .mv (.tmp 0)⟩,
          ⟨(some 11), none, .mv (.tmp 3)⟩,
          ⟨(some 12), none, .idx (.tmp 10) (.tmp 11) 8⟩,
          ⟨(some 13), none, .fld (.tmp 12) 6⟩,
          ⟨(some 14), none, .ld (.tmp 13) none⟩,
          ⟨(some 15), none, .bin .gtr 3 (.tmp 14) (.const (Go.Value.int Go.IntKind.i64 999999999))⟩,
          ⟨(some 16), none, .mv (.tmp 15)⟩,
          ⟨(some 17), (some (16, false)), .mv (.tmp 0)⟩,
          ⟨(some 18), (some (16, false)), .mv (.tmp 3)⟩,
          ⟨(some 19), (some (16, false)), .idx (.tmp 17) (.tmp 18) 8⟩,
          ⟨(some 20), (some (16, false)), .fld (.tmp 19) 7⟩,
          ⟨(some 21), (some (16, false)), .ld (.tmp 20) none⟩,
          ⟨(some 22), (some (16, false)), .bin .gtr 3 (.tmp 21) (.const (Go.Value.int Go.IntKind.i64 999999999))⟩,
          ⟨(some 23), none, .pick (.tmp 16) (.const (Go.Value.bool true)) (.tmp 22)⟩])
        (.cond (.tmp 23)
          (.seq (.ops [⟨(some 2), none, .mv (.const (Go.Value.bool false))⟩])
          (.ret))
          (.skip))))
      (.ops [⟨(some 8), none, .mv (.tmp 3)⟩,
        ⟨(some 9), none, .bin .add 3 (.tmp 8) (.const (Go.Value.int Go.IntKind.i64 1))⟩,
        ⟨(some 3), none, .mv (.tmp 9)⟩]))))))
  (.seq (.ops [⟨(some 24), none, .mv (.tmp 0)⟩,
    ⟨(some 25), none, .call 24 [(.tmp 24)]⟩,
    ⟨(some 2), none, .mv (.tmp 25)⟩])
  (.ret)))
theorem is_ref29_May : FnIs Try.prog F.ref29_May X.ref29_May 26 [.tmp 2] := ⟨by kernel_rfl⟩

-- loop (inner ones first): [0, 3, 4, 5, 6, 7, 8]
-- loop (inner ones first): [0, 3, 4]
/-- haycroft/haycroftref29.Waits: function 13 -/
abbrev F.ref29_Waits : FuncId := 13
def X.ref29_Waits : X :=
  .seq (.ops [⟨(some 2), none, .mv (.const (Go.Value.slice none 0 0))⟩])
  (.seq (.ops [⟨(some 9), none, .bsl 3 1 0 [(Go.Value.int Go.IntKind.i64 0)] []⟩,
    ⟨(some 3), none, .mv (.tmp 9)⟩])
  (.seq (.seq (.ops [⟨(some 4), none, .mv (.const (Go.Value.int Go.IntKind.i64 0))⟩])
  (.block 0 (.loop (.seq (.seq (.ops [⟨(some 10), none, .mv (.tmp 4)⟩,
        ⟨(some 11), none, .mv (.tmp 0)⟩,
        ⟨(some 12), none, .lenS (.tmp 11)⟩,
        ⟨(some 13), none, .bin .lss 3 (.tmp 10) (.tmp 12)⟩])
      (.cond (.tmp 13)
        (.skip)
        (.exit 0)))
      (.seq (.block 1 (.seq (.seq (.ops [⟨(some 16), none, .mv (.tmp 0)⟩,
          ⟨(some 17), none, .mv (.tmp 4)⟩,
          ⟨(some 18), none, .idx (.tmp 16) (.tmp 17) 8⟩,
          ⟨(some 19), none, .fld (.tmp 18) 7⟩,
          ⟨(some 20), none, .ld (.tmp 19) none⟩,
          ⟨(some 21), none, .bin .eql 3 (.tmp 20) (.const (Go.Value.int Go.IntKind.i64 0))⟩])
        (.cond (.tmp 21)
          (.exit 1)
          (.skip)))
        (.seq (.drawn [(0, ⟨(some 22), none, .mv (.tmp 0)⟩),
          (1, ⟨(some 23), none, .mv (.tmp 4)⟩),
          (2, ⟨(some 24), none, .idx (.tmp 22) (.tmp 23) 8⟩),
          (3, ⟨(some 25), none, .fld (.tmp 24) 7⟩),
          (4, ⟨(some 26), none, .ld (.tmp 25) none⟩),
          (5, ⟨(some 27), none, .mv (.tmp 0)⟩),
          (6, ⟨(some 28), none, .mv (.tmp 4)⟩),
          (7, ⟨(some 29), none, .idx (.tmp 27) (.tmp 28) 8⟩),
          (8, ⟨(some 30), none, .fld (.tmp 29) 6⟩),
          (9, ⟨(some 31), none, .ld (.tmp 30) none⟩),
          (10, ⟨(some 32), none, .bin .sub 3 (.tmp 26) (.tmp 31)⟩),
          (11, ⟨(some 5), none, .mv (.tmp 32)⟩)]
          [[], [], [0, 1], [2], [3], [], [], [5, 6], [7], [8], [4, 9], [10, 0, 1, 2, 3, 4, 5, 6, 7, 8, 9, 10]]
          [0, 0, 3, 7, 15, 0, 0, 96, 224, 480, 1023, 2047] 0)
        (.seq (.ops [⟨(some 33), none, .bsl 3 1 0 [(Go.Value.int Go.IntKind.i64 0)] []⟩,
          ⟨(some 6), none, .mv (.tmp 33)⟩])
        (.seq (.ops [⟨(some 7), none, .mv (.const (Go.Value.bool false))⟩])
        (.seq (.seq (.ops [⟨(some 8), none, .mv (.const (Go.Value.int Go.IntKind.i64 0))⟩])
        (.block 2 (.loop (.seq (.seq (.ops [⟨(some 34), none, .mv (.tmp 8)⟩,
              ⟨(some 35), none, .mv (.tmp 3)⟩,
              ⟨(some 36), none, .lenS (.tmp 35)⟩,
              ⟨(some 37), none, .bin .lss 3 (.tmp 34) (.tmp 36)⟩])
            (.cond (.tmp 37)
              (.skip)
              (.exit 2)))
            (.seq (.block 3 (.seq (.seq (.ops [⟨(some 40), none, .mv (.tmp 7)⟩,
                ⟨(some 41), none, .un .not (.tmp 40)⟩,
                ⟨(some 42), none, .mv (.tmp 41)⟩,
                ⟨(some 43), (some (42, true)), .mv (.tmp 5)⟩,
                ⟨(some 44), (some (42, true)), .mv (.tmp 3)⟩,
                ⟨(some 45), (some (42, true)), .mv (.tmp 8)⟩,
                ⟨(some 46), (some (42, true)), .idx (.tmp 44) (.tmp 45) 1⟩,
                ⟨(some 47), (some (42, true)), .ld (.tmp 46) none⟩,
                ⟨(some 48), (some (42, true)), .bin .lss 3 (.tmp 43) (.tmp 47)⟩,
                ⟨(some 49), none, .pick (.tmp 42) (.tmp 48) (.const (Go.Value.bool false))⟩])
              (.cond (.tmp 49)
                (.seq (.ops [⟨(some 50), none, .mv (.tmp 6)⟩,
                  ⟨(some 51), none, .mv (.tmp 5)⟩,
                  ⟨(some 52), none, .bsl 3 1 1 [(Go.Value.int Go.IntKind.i64 0)] [(0, (.tmp 51))]⟩,
                  ⟨(some 53), none, .app 3 1 8 [(Go.Value.int Go.IntKind.i64 0)] (.tmp 50) (.tmp 52)⟩,
                  ⟨(some 6), none, .mv (.tmp 53)⟩])
                (.ops [⟨(some 7), none, .mv (.const (Go.Value.bool true))⟩]))
                (.skip)))
              (.ops [⟨(some 54), none, .mv (.tmp 6)⟩,
                ⟨(some 55), none, .mv (.tmp 3)⟩,
                ⟨(some 56), none, .mv (.tmp 8)⟩,
                ⟨(some 57), none, .idx (.tmp 55) (.tmp 56) 1⟩,
                ⟨(some 58), none, .ld (.tmp 57) none⟩,
                ⟨(some 59), none, .bsl 3 1 1 [(Go.Value.int Go.IntKind.i64 0)] [(0, (.tmp 58))]⟩,
                ⟨(some 60), none, .app 3 1 8 [(Go.Value.int Go.IntKind.i64 0)] (.tmp 54) (.tmp 59)⟩,
                ⟨(some 6), none, .mv (.tmp 60)⟩])))
            (.ops [⟨(some 38), none, .mv (.tmp 8)⟩,
              ⟨(some 39), none, .bin .add 3 (.tmp 38) (.const (Go.Value.int Go.IntKind.i64 1))⟩,
              ⟨(some 8), none, .mv (.tmp 39)⟩]))))))
        (.seq (.seq (.ops [⟨(some 61), none, .mv (.tmp 7)⟩,
          ⟨(some 62), none, .un .not (.tmp 61)⟩])
        (.cond (.tmp 62)
          (.ops [⟨(some 63), none, .mv (.tmp 6)⟩,
            ⟨(some 64), none, .mv (.tmp 5)⟩,
            ⟨(some 65), none, .bsl 3 1 1 [(Go.Value.int Go.IntKind.i64 0)] [(0, (.tmp 64))]⟩,
            ⟨(some 66), none, .app 3 1 8 [(Go.Value.int Go.IntKind.i64 0)] (.tmp 63) (.tmp 65)⟩,
            ⟨(some 6), none, .mv (.tmp 66)⟩])
          (.skip)))
        (.ops [⟨(some 67), none, .mv (.tmp 6)⟩,
          ⟨(some 3), none, .mv (.tmp 67)⟩]))))))))
      (.ops [⟨(some 14), none, .mv (.tmp 4)⟩,
        ⟨(some 15), none, .bin .add 3 (.tmp 14) (.const (Go.Value.int Go.IntKind.i64 1))⟩,
        ⟨(some 4), none, .mv (.tmp 15)⟩]))))))
  (.seq (.ops [⟨(some 68), none, .mv (.tmp 3)⟩,
    ⟨(some 2), none, .mv (.tmp 68)⟩])
  (.ret))))
theorem is_ref29_Waits : FnIs Try.prog F.ref29_Waits X.ref29_Waits 69 [.tmp 2] := ⟨by kernel_rfl⟩

-- loop (inner ones first): [0, 3, 4, 5, 6]
-- loop (inner ones first): [0, 3, 4]
/-- haycroft/haycroftref29.Wide: function 25 -/
abbrev F.ref29_Wide : FuncId := 25
def X.ref29_Wide : X :=
  .seq (.ops [⟨(some 2), none, .mv (.const (Go.Value.int Go.IntKind.i64 0))⟩])
  (.seq (.ops [⟨(some 3), none, .mv (.const (Go.Value.int Go.IntKind.i64 0))⟩])
  (.seq (.seq (.ops [⟨(some 4), none, .mv (.const (Go.Value.int Go.IntKind.i64 0))⟩])
  (.block 0 (.loop (.seq (.seq (.ops [⟨(some 7), none, .mv (.tmp 4)⟩,
        ⟨(some 8), none, .mv (.tmp 0)⟩,
        ⟨(some 9), none, .lenS (.tmp 8)⟩,
        ⟨(some 10), none, .bin .lss 3 (.tmp 7) (.tmp 9)⟩])
      (.cond (.tmp 10)
        (.skip)
        (.exit 0)))
      (.seq (.block 1 (.seq (.ops [⟨(some 5), none, .mv (.const (Go.Value.int Go.IntKind.i64 0))⟩])
        (.seq (.seq (.ops [⟨(some 6), none, .mv (.const (Go.Value.int Go.IntKind.i64 0))⟩])
        (.block 2 (.loop (.seq (.seq (.ops [⟨(some 13), none, .mv (.tmp 6)⟩,
              ⟨(some 14), none, .mv (.tmp 0)⟩,
              ⟨(some 15), none, .lenS (.tmp 14)⟩,
              ⟨(some 16), none, .bin .lss 3 (.tmp 13) (.tmp 15)⟩])
            (.cond (.tmp 16)
              (.skip)
              (.exit 2)))
            (.seq (.block 3 (.seq (.drawn [(0, ⟨(some 19), none, .mv (.tmp 0)⟩),
                (1, ⟨(some 20), none, .mv (.tmp 6)⟩),
                (2, ⟨(some 21), none, .idx (.tmp 19) (.tmp 20) 8⟩),
                (3, ⟨(some 22), none, .fld (.tmp 21) 6⟩),
                (4, ⟨(some 23), none, .ld (.tmp 22) none⟩),
                (5, ⟨(some 24), none, .mv (.tmp 0)⟩),
                (6, ⟨(some 25), none, .mv (.tmp 4)⟩),
                (7, ⟨(some 26), none, .idx (.tmp 24) (.tmp 25) 8⟩),
                (8, ⟨(some 27), none, .fld (.tmp 26) 6⟩),
                (9, ⟨(some 28), none, .ld (.tmp 27) none⟩),
                (10, ⟨(some 29), none, .bin .leq 3 (.tmp 23) (.tmp 28)⟩),
                (11, ⟨(some 30), none, .mv (.tmp 29)⟩),
                (12, ⟨(some 31), (some (30, true)), .mv (.tmp 0)⟩),
                (13, ⟨(some 32), (some (30, true)), .mv (.tmp 6)⟩),
                (14, ⟨(some 33), (some (30, true)), .idx (.tmp 31) (.tmp 32) 8⟩),
                (15, ⟨(some 34), (some (30, true)), .fld (.tmp 33) 7⟩),
                (16, ⟨(some 35), (some (30, true)), .ld (.tmp 34) none⟩),
                (17, ⟨(some 36), (some (30, true)), .bin .eql 3 (.tmp 35) (.const (Go.Value.int Go.IntKind.i64 0))⟩),
                (18, ⟨(some 37), (some (30, true)), .mv (.tmp 36)⟩),
                (19, ⟨(some 38), (some (37, false)), .mv (.tmp 0)⟩),
                (20, ⟨(some 39), (some (37, false)), .mv (.tmp 6)⟩),
                (21, ⟨(some 40), (some (37, false)), .idx (.tmp 38) (.tmp 39) 8⟩),
                (22, ⟨(some 41), (some (37, false)), .fld (.tmp 40) 7⟩),
                (23, ⟨(some 42), (some (37, false)), .ld (.tmp 41) none⟩),
                (24, ⟨(some 43), (some (37, false)), .mv (.tmp 0)⟩),
                (25, ⟨(some 44), (some (37, false)), .mv (.tmp 4)⟩),
                (26, ⟨(some 45), (some (37, false)), .idx (.tmp 43) (.tmp 44) 8⟩),
                (27, ⟨(some 46), (some (37, false)), .fld (.tmp 45) 6⟩),
                (28, ⟨(some 47), (some (37, false)), .ld (.tmp 46) none⟩),
                (29, ⟨(some 48), (some (37, false)), .bin .gtr 3 (.tmp 42) (.tmp 47)⟩),
                (30, ⟨(some 49), (some (30, true)), .pick (.tmp 37) (.const (Go.Value.bool true)) (.tmp 48)⟩),
                (31, ⟨(some 50), none, .pick (.tmp 30) (.tmp 49) (.const (Go.Value.bool false))⟩)]
                [[], [], [0, 1], [2], [3], [], [], [5, 6], [7], [8], [4, 9], [10], [11], [11], [12, 13, 11], [14, 11], [15, 11], [16, 11], [17, 11, 11], [18], [18], [19, 20, 18], [21, 18], [22, 18], [18], [18], [24, 25, 18], [26, 18], [27, 18], [23, 28, 18], [18, 29, 11], [11, 30]]
                [0, 0, 3, 7, 15, 0, 0, 96, 224, 480, 1023, 2047, 4095, 4095, 16383, 32767, 65535, 131071, 262143, 524287, 524287, 2097151, 4194303, 8388607, 524287, 524287, 50855935, 117964799, 252182527, 536870911, 1073741823, 2147483647] 0)
              (.cond (.tmp 50)
                (.ops [⟨(some 51), none, .mv (.tmp 5)⟩,
                  ⟨(some 52), none, .bin .add 3 (.tmp 51) (.const (Go.Value.int Go.IntKind.i64 1))⟩,
                  ⟨(some 5), none, .mv (.tmp 52)⟩])
                (.skip))))
            (.ops [⟨(some 17), none, .mv (.tmp 6)⟩,
              ⟨(some 18), none, .bin .add 3 (.tmp 17) (.const (Go.Value.int Go.IntKind.i64 1))⟩,
              ⟨(some 6), none, .mv (.tmp 18)⟩]))))))
        (.ops [⟨(some 53), none, .mv (.tmp 3)⟩,
          ⟨(some 54), none, .mv (.tmp 5)⟩,
          ⟨(some 55), none, .mnx true (.tmp 53) [(.tmp 54)]⟩,
          ⟨(some 3), none, .mv (.tmp 55)⟩]))))
      (.ops [⟨(some 11), none, .mv (.tmp 4)⟩,
        ⟨(some 12), none, .bin .add 3 (.tmp 11) (.const (Go.Value.int Go.IntKind.i64 1))⟩,
        ⟨(some 4), none, .mv (.tmp 12)⟩]))))))
  (.seq (.ops [⟨(some 56), none, .mv (.tmp 3)⟩,
    ⟨(some 2), none, .mv (.tmp 56)⟩])
  (.ret))))
theorem is_ref29_Wide : FnIs Try.prog F.ref29_Wide X.ref29_Wide 57 [.tmp 2] := ⟨by kernel_rfl⟩

-- loop (inner ones first): [2, 3, 4, 5]
/-- haycroft/haycroftref29.Measure: function 11 -/
abbrev F.ref29_Measure : FuncId := 11
def X.ref29_Measure : X :=
  .seq (.ops [⟨(some 2), none, .new 25 (Go.Value.agg #[(Go.Value.int Go.IntKind.i64 0), (Go.Value.int Go.IntKind.i64 0), (Go.Value.int Go.IntKind.i64 0), (Go.Value.int Go.IntKind.i64 0), (Go.Value.int Go.IntKind.i64 0), (Go.Value.int Go.IntKind.i64 0), (Go.Value.int Go.IntKind.i64 0)])⟩])
  (.seq (.ops [⟨(some 6), none, .mv (.tmp 0)⟩,
    ⟨(some 7), none, .call 13 [(.tmp 6)]⟩,
    ⟨(some 3), none, .mv (.tmp 7)⟩])
  (.seq (.ops [⟨(some 8), none, .mv (.tmp 3)⟩,
    ⟨(some 9), none, .lenS (.tmp 8)⟩,
    ⟨(some 10), none, .mv (.tmp 0)⟩,
    ⟨(some 11), none, .lenS (.tmp 10)⟩,
    ⟨(some 12), none, .mv (.tmp 3)⟩,
    ⟨(some 13), none, .lenS (.tmp 12)⟩,
    ⟨(some 14), none, .bin .sub 3 (.tmp 11) (.tmp 13)⟩,
    ⟨(some 15), none, .mv (.tmp 0)⟩,
    ⟨(some 16), none, .call 25 [(.tmp 15)]⟩,
    ⟨(some 17), none, .bld [(Go.Value.int Go.IntKind.i64 0), (Go.Value.int Go.IntKind.i64 0), (Go.Value.int Go.IntKind.i64 0), (Go.Value.int Go.IntKind.i64 0), (Go.Value.int Go.IntKind.i64 0), (Go.Value.int Go.IntKind.i64 0), (Go.Value.int Go.IntKind.i64 0)] [(0, 1, (.tmp 9)), (1, 1, (.tmp 14)), (6, 1, (.tmp 16))]⟩,
    ⟨(some 4), none, .new 25 (Go.Value.agg #[(Go.Value.int Go.IntKind.i64 0), (Go.Value.int Go.IntKind.i64 0), (Go.Value.int Go.IntKind.i64 0), (Go.Value.int Go.IntKind.i64 0), (Go.Value.int Go.IntKind.i64 0), (Go.Value.int Go.IntKind.i64 0), (Go.Value.int Go.IntKind.i64 0)])⟩,
    ⟨none, none, .st (.tmp 4) (.tmp 17) 7⟩])
  (.seq (.seq (.ops [⟨(some 5), none, .mv (.const (Go.Value.int Go.IntKind.i64 0))⟩])
  (.block 0 (.loop (.seq (.seq (.ops [⟨(some 18), none, .mv (.tmp 5)⟩,
        ⟨(some 19), none, .mv (.tmp 3)⟩,
        ⟨(some 20), none, .lenS (.tmp 19)⟩,
        ⟨(some 21), none, .bin .lss 3 (.tmp 18) (.tmp 20)⟩])
      (.cond (.tmp 21)
        (.skip)
        (.exit 0)))
      (.seq (.block 1 (.drawn [(0, ⟨(some 24), none, .fld (.tmp 4) 4⟩),
          (1, ⟨(some 25), none, .ld (.tmp 24) none⟩),
          (2, ⟨(some 26), none, .mv (.tmp 3)⟩),
          (3, ⟨(some 27), none, .mv (.tmp 5)⟩),
          (4, ⟨(some 28), none, .idx (.tmp 26) (.tmp 27) 1⟩),
          (5, ⟨(some 29), none, .ld (.tmp 28) none⟩),
          (6, ⟨(some 30), none, .bin .add 3 (.tmp 25) (.tmp 29)⟩),
          (7, ⟨(some 31), none, .fld (.tmp 4) 4⟩),
          (8, ⟨none, none, .st (.tmp 31) (.tmp 30) 1⟩)]
          [[], [0], [], [], [2, 3], [4], [1, 5], [0, 1, 2, 3, 4, 5, 6], [7, 6, 0, 1, 2, 3, 4, 5, 6]]
          [0, 1, 0, 0, 12, 28, 63, 127, 255] 256))
      (.ops [⟨(some 22), none, .mv (.tmp 5)⟩,
        ⟨(some 23), none, .bin .add 3 (.tmp 22) (.const (Go.Value.int Go.IntKind.i64 1))⟩,
        ⟨(some 5), none, .mv (.tmp 23)⟩]))))))
  (.seq (.seq (.ops [⟨(some 32), none, .mv (.tmp 3)⟩,
    ⟨(some 33), none, .lenS (.tmp 32)⟩,
    ⟨(some 34), none, .bin .gtr 3 (.tmp 33) (.const (Go.Value.int Go.IntKind.i64 0))⟩])
  (.cond (.tmp 34)
    (.seq (.ops [⟨(some 35), none, .mv (.tmp 3)⟩,
      ⟨(some 36), none, .idx (.tmp 35) (.const (Go.Value.int Go.IntKind.i64 0)) 1⟩,
      ⟨(some 37), none, .ld (.tmp 36) none⟩,
      ⟨(some 38), none, .fld (.tmp 4) 2⟩,
      ⟨none, none, .st (.tmp 38) (.tmp 37) 1⟩])
    (.seq (.ops [⟨(some 39), none, .mv (.tmp 3)⟩,
      ⟨(some 40), none, .mv (.tmp 3)⟩,
      ⟨(some 41), none, .lenS (.tmp 40)⟩,
      ⟨(some 42), none, .bin .sub 3 (.tmp 41) (.const (Go.Value.int Go.IntKind.i64 1))⟩,
      ⟨(some 43), none, .idx (.tmp 39) (.tmp 42) 1⟩,
      ⟨(some 44), none, .ld (.tmp 43) none⟩,
      ⟨(some 45), none, .fld (.tmp 4) 3⟩,
      ⟨none, none, .st (.tmp 45) (.tmp 44) 1⟩])
    (.ops [⟨(some 46), none, .mv (.tmp 3)⟩,
      ⟨(some 47), none, .mv (.tmp 3)⟩,
      ⟨(some 48), none, .lenS (.tmp 47)⟩,
      ⟨(some 49), none, .bin .sub 3 (.tmp 48) (.const (Go.Value.int Go.IntKind.i64 1))⟩,
      ⟨(some 50), none, .bin .quo 3 (.tmp 49) (.const (Go.Value.int Go.IntKind.i64 2))⟩,
      ⟨(some 51), none, .idx (.tmp 46) (.tmp 50) 1⟩,
      ⟨(some 52), none, .ld (.tmp 51) none⟩,
      ⟨(some 53), none, .fld (.tmp 4) 5⟩,
      ⟨none, none, .st (.tmp 53) (.tmp 52) 1⟩])))
    (.skip)))
  (.seq (.ops [⟨(some 54), none, .ld (.tmp 4) (some 7)⟩,
    ⟨none, none, .st (.tmp 2) (.tmp 54) 7⟩])
  (.ret))))))
theorem is_ref29_Measure : FnIs Try.prog F.ref29_Measure X.ref29_Measure 55 [.cell 2 25] := ⟨by kernel_rfl⟩

/-- haycroft/haycroftlaw29.MeterMeasures: function 3 -/
abbrev F.law29_MeterMeasures : FuncId := 3
def X.law29_MeterMeasures : X :=
  .seq (.ops [⟨(some 2), none, .mv (.const (Go.Value.bool false))⟩])
  (.seq (.seq (.ops [⟨(some 5), none, .call 8 []⟩,
    ⟨(some 6), none, .un .not (.tmp 5)⟩])
  (.cond (.tmp 6)
    (.seq (.ops [⟨(some 2), none, .mv (.const (Go.Value.bool false))⟩])
    (.ret))
    (.skip)))
  (.seq (.seq (.ops [⟨(some 7), none, .mv (.tmp 0)⟩,
    ⟨(some 8), none, .lenS (.tmp 7)⟩,
    ⟨(some 9), none, .bin .gtr 3 (.tmp 8) (.const (Go.Value.int Go.IntKind.i64 100))⟩])
  (.cond (.tmp 9)
    (.seq (.ops [⟨(some 2), none, .mv (.const (Go.Value.bool true))⟩])
    (.ret))
    (.skip)))
  (.seq (.ops [⟨(some 11), none, .mv (.tmp 0)⟩,
    ⟨(some 12), none, .call 9 [(.tmp 11)]⟩,
    ⟨(some 10), none, .mv (.tmp 12)⟩,
    ⟨(some 13), none, .ext (.tmp 10) 0⟩,
    ⟨(some 14), none, .ext (.tmp 10) 1⟩,
    ⟨(some 3), none, .new 25 (Go.Value.agg #[(Go.Value.int Go.IntKind.i64 0), (Go.Value.int Go.IntKind.i64 0), (Go.Value.int Go.IntKind.i64 0), (Go.Value.int Go.IntKind.i64 0), (Go.Value.int Go.IntKind.i64 0), (Go.Value.int Go.IntKind.i64 0), (Go.Value.int Go.IntKind.i64 0)])⟩,
    ⟨none, none, .st (.tmp 3) (.tmp 13) 7⟩,
    ⟨(some 4), none, .mv (.tmp 14)⟩])
  (.seq (.seq (.ops [⟨(some 15), none, .mv (.tmp 0)⟩,
    ⟨(some 16), none, .call 10 [(.tmp 15)]⟩,
    ⟨(some 17), none, .un .not (.tmp 16)⟩])
  (.cond (.tmp 17)
    (.seq (.ops [⟨(some 18), none, .ld (.tmp 3) (some 7)⟩,
      ⟨(some 19), none, .bld [(Go.Value.int Go.IntKind.i64 0), (Go.Value.int Go.IntKind.i64 0), (Go.Value.int Go.IntKind.i64 0), (Go.Value.int Go.IntKind.i64 0), (Go.Value.int Go.IntKind.i64 0), (Go.Value.int Go.IntKind.i64 0), (Go.Value.int Go.IntKind.i64 0)] []⟩,
      ⟨(some 20), none, .eq false (.agg 7 [(0, 0), (1, 0), (2, 0), (3, 0), (4, 0), (5, 0), (6, 0)]) (.tmp 18) (.tmp 19)⟩,
      ⟨(some 21), none, .mv (.tmp 20)⟩,
      ⟨(some 22), (some (21, true)), .mv (.tmp 4)⟩,
      ⟨(some 23), (some (21, true)), .bin .eql 26 (.tmp 22) (.const (Go.Value.int Go.IntKind.i64 1))⟩,
      ⟨(some 24), none, .pick (.tmp 21) (.tmp 23) (.const (Go.Value.bool false))⟩,
      ⟨(some 2), none, .mv (.tmp 24)⟩])
    (.ret))
    (.skip)))
  (.seq (.drawn [(0, ⟨(some 25), none, .ld (.tmp 3) (some 7)⟩),
    (1, ⟨(some 26), none, .mv (.tmp 0)⟩),
    (2, ⟨(some 27), none, .call 11 [(.tmp 26)]⟩),
    (3, ⟨(some 28), none, .eq false (.agg 7 [(0, 0), (1, 0), (2, 0), (3, 0), (4, 0), (5, 0), (6, 0)]) (.tmp 25) (.tmp 27)⟩),
    (4, ⟨(some 29), none, .mv (.tmp 28)⟩),
    (5, ⟨(some 30), (some (29, true)), .mv (.tmp 4)⟩),
    (6, ⟨(some 31), (some (29, true)), .bin .eql 26 (.tmp 30) (.const (Go.Value.int Go.IntKind.i64 0))⟩),
    (7, ⟨(some 32), none, .pick (.tmp 29) (.tmp 31) (.const (Go.Value.bool false))⟩),
    (8, ⟨(some 2), none, .mv (.tmp 32)⟩)]
    [[], [], [1], [0, 2], [3, 2], [4], [5, 4], [4, 6], [7, 4, 0, 1, 2, 3, 4, 5, 6, 7]]
    [0, 0, 2, 7, 15, 31, 63, 127, 255] 4)
  (.ret))))))
theorem is_law29_MeterMeasures : FnIs Try.prog F.law29_MeterMeasures X.law29_MeterMeasures 33 [.tmp 2] := ⟨by kernel_rfl⟩

-- loop (inner ones first): [0, 1, 2, 7, 8, 9, 10, 11, 12]
/-- haycroft/haycroftlaw29.MeterShares: function 4 -/
abbrev F.law29_MeterShares : FuncId := 4
def X.law29_MeterShares : X :=
  .seq (.ops [⟨(some 6), none, .mv (.const (Go.Value.bool false))⟩])
  (.seq (.seq (.ops [⟨(some 17), none, .call 8 []⟩,
    ⟨(some 18), none, .un .not (.tmp 17)⟩])
  (.cond (.tmp 18)
    (.seq (.ops [⟨(some 6), none, .mv (.const (Go.Value.bool false))⟩])
    (.ret))
    (.skip)))
  (.seq (.seq (.ops [⟨(some 19), none, .mv (.tmp 0)⟩,
    ⟨(some 20), none, .lenS (.tmp 19)⟩,
    ⟨(some 21), none, .bin .gtr 3 (.tmp 20) (.const (Go.Value.int Go.IntKind.i64 100))⟩])
  (.cond (.tmp 21)
    (.seq (.ops [⟨(some 6), none, .mv (.const (Go.Value.bool true))⟩])
    (.ret))
    (.skip)))
  (.seq (.ops [⟨(some 23), none, .mv (.tmp 0)⟩,
    ⟨(some 24), none, .mv (.tmp 1)⟩,
    ⟨(some 25), none, .mv (.tmp 2)⟩,
    ⟨(some 26), none, .call 12 [(.tmp 23), (.tmp 24), (.tmp 25)]⟩,
    ⟨(some 22), none, .mv (.tmp 26)⟩,
    ⟨(some 27), none, .ext (.tmp 22) 0⟩,
    ⟨(some 28), none, .ext (.tmp 22) 1⟩,
    ⟨(some 7), none, .mv (.tmp 27)⟩,
    ⟨(some 8), none, .mv (.tmp 28)⟩])
  (.seq (.seq (.ops [⟨(some 29), none, .mv (.tmp 0)⟩,
    ⟨(some 30), none, .call 10 [(.tmp 29)]⟩,
    ⟨(some 31), none, .un .not (.tmp 30)⟩,
    ⟨(some 32), none, .mv (.tmp 31)⟩,
    ⟨(some 33), (some (32, false)), .mv (.tmp 2)⟩,
    ⟨(some 34), (some (32, false)), .bin .lss 3 (.tmp 33) (.const (Go.Value.int Go.IntKind.i64 1))⟩,
    ⟨(some 35), none, .pick (.tmp 32) (.const (Go.Value.bool true)) (.tmp 34)⟩,
    ⟨(some 36), none, .mv (.tmp 35)⟩,
    ⟨(some 37), (some (36, false)), .mv (.tmp 2)⟩,
    ⟨(some 38), (some (36, false)), .bin .gtr 3 (.tmp 37) (.const (Go.Value.int Go.IntKind.i64 1000))⟩,
    ⟨(some 39), none, .pick (.tmp 36) (.const (Go.Value.bool true)) (.tmp 38)⟩,
    ⟨(some 40), none, .mv (.tmp 39)⟩,
    ⟨(some 41), (some (40, false)), .mv (.tmp 1)⟩,
    ⟨(some 42), (some (40, false)), .bin .lss 3 (.tmp 41) (.const (Go.Value.int Go.IntKind.i64 0))⟩,
    ⟨(some 43), none, .pick (.tmp 40) (.const (Go.Value.bool true)) (.tmp 42)⟩,
    ⟨(some 44), none, .mv (.tmp 43)⟩,
    ⟨(some 45), (some (44, false)), .mv (.tmp 1)⟩,
    ⟨(some 46), (some (44, false)), .mv (.tmp 2)⟩,
    ⟨(some 47), (some (44, false)), .bin .gtr 3 (.tmp 45) (.tmp 46)⟩,
    ⟨(some 48), none, .pick (.tmp 44) (.const (Go.Value.bool true)) (.tmp 47)⟩])
  (.cond (.tmp 48)
    (.seq (.ops [⟨(some 49), none, .mv (.tmp 7)⟩,
      ⟨(some 50), none, .bin .eql 3 (.tmp 49) (.const (Go.Value.int Go.IntKind.i64 0))⟩,
      ⟨(some 51), none, .mv (.tmp 50)⟩,
      ⟨(some 52), (some (51, true)), .mv (.tmp 8)⟩,
      ⟨(some 53), (some (51, true)), .bin .eql 26 (.tmp 52) (.const (Go.Value.int Go.IntKind.i64 1))⟩,
      ⟨(some 54), none, .pick (.tmp 51) (.tmp 53) (.const (Go.Value.bool false))⟩,
      ⟨(some 6), none, .mv (.tmp 54)⟩])
    (.ret))
    (.skip)))
  (.seq (.ops [⟨(some 55), none, .mv (.tmp 0)⟩,
    ⟨(some 56), none, .call 13 [(.tmp 55)]⟩,
    ⟨(some 9), none, .mv (.tmp 56)⟩])
  (.seq (.seq (.ops [⟨(some 57), none, .mv (.tmp 9)⟩,
    ⟨(some 58), none, .lenS (.tmp 57)⟩,
    ⟨(some 59), none, .bin .eql 3 (.tmp 58) (.const (Go.Value.int Go.IntKind.i64 0))⟩])
  (.cond (.tmp 59)
    (.seq (.ops [⟨(some 60), none, .mv (.tmp 7)⟩,
      ⟨(some 61), none, .bin .eql 3 (.tmp 60) (.const (Go.Value.int Go.IntKind.i64 0))⟩,
      ⟨(some 62), none, .mv (.tmp 61)⟩,
      ⟨(some 63), (some (62, true)), .mv (.tmp 8)⟩,
      ⟨(some 64), (some (62, true)), .bin .eql 26 (.tmp 63) (.const (Go.Value.int Go.IntKind.i64 0))⟩,
      ⟨(some 65), none, .pick (.tmp 62) (.tmp 64) (.const (Go.Value.bool false))⟩,
      ⟨(some 6), none, .mv (.tmp 65)⟩])
    (.ret))
    (.skip)))
  (.seq (.ops [⟨(some 10), none, .mv (.const (Go.Value.int Go.IntKind.i64 0))⟩,
    ⟨(some 11), none, .mv (.const (Go.Value.int Go.IntKind.i64 0))⟩])
  (.seq (.seq (.ops [⟨(some 12), none, .mv (.const (Go.Value.int Go.IntKind.i64 0))⟩])
  (.block 0 (.loop (.seq (.seq (.ops [⟨(some 66), none, .mv (.tmp 12)⟩,
        ⟨(some 67), none, .mv (.tmp 9)⟩,
        ⟨(some 68), none, .lenS (.tmp 67)⟩,
        ⟨(some 69), none, .bin .lss 3 (.tmp 66) (.tmp 68)⟩])
      (.cond (.tmp 69)
        (.skip)
        (.exit 0)))
      (.seq (.block 1 (.seq (.seq (.ops [⟨(some 72), none, .mv (.tmp 9)⟩,
          ⟨(some 73), none, .mv (.tmp 12)⟩,
          ⟨(some 74), none, .idx (.tmp 72) (.tmp 73) 1⟩,
          ⟨(some 75), none, .ld (.tmp 74) none⟩,
          ⟨(some 76), none, .mv (.tmp 7)⟩,
          ⟨(some 77), none, .bin .leq 3 (.tmp 75) (.tmp 76)⟩])
        (.cond (.tmp 77)
          (.ops [⟨(some 78), none, .mv (.tmp 10)⟩,
            ⟨(some 79), none, .bin .add 3 (.tmp 78) (.const (Go.Value.int Go.IntKind.i64 1))⟩,
            ⟨(some 10), none, .mv (.tmp 79)⟩])
          (.skip)))
        (.seq (.ops [⟨(some 80), none, .mv (.tmp 9)⟩,
          ⟨(some 81), none, .mv (.tmp 12)⟩,
          ⟨(some 82), none, .idx (.tmp 80) (.tmp 81) 1⟩,
          ⟨(some 83), none, .ld (.tmp 82) none⟩,
          ⟨(some 84), none, .mv (.tmp 7)⟩,
          ⟨(some 85), none, .bin .lss 3 (.tmp 83) (.tmp 84)⟩])
        (.cond (.tmp 85)
          (.ops [⟨(some 86), none, .mv (.tmp 11)⟩,
            ⟨(some 87), none, .bin .add 3 (.tmp 86) (.const (Go.Value.int Go.IntKind.i64 1))⟩,
            ⟨(some 11), none, .mv (.tmp 87)⟩])
          (.skip)))))
      (.ops [⟨(some 70), none, .mv (.tmp 12)⟩,
        ⟨(some 71), none, .bin .add 3 (.tmp 70) (.const (Go.Value.int Go.IntKind.i64 1))⟩,
        ⟨(some 12), none, .mv (.tmp 71)⟩]))))))
  (.seq (.ops [⟨(some 89), none, .mv (.tmp 0)⟩,
    ⟨(some 90), none, .call 9 [(.tmp 89)]⟩,
    ⟨(some 88), none, .mv (.tmp 90)⟩,
    ⟨(some 91), none, .ext (.tmp 88) 0⟩,
    ⟨(some 92), none, .ext (.tmp 88) 1⟩,
    ⟨(some 13), none, .new 25 (Go.Value.agg #[(Go.Value.int Go.IntKind.i64 0), (Go.Value.int Go.IntKind.i64 0), (Go.Value.int Go.IntKind.i64 0), (Go.Value.int Go.IntKind.i64 0), (Go.Value.int Go.IntKind.i64 0), (Go.Value.int Go.IntKind.i64 0), (Go.Value.int Go.IntKind.i64 0)])⟩,
    ⟨none, none, .st (.tmp 13) (.tmp 91) 7⟩,
    ⟨(some 14), none, .mv (.tmp 92)⟩])
  (.seq (.ops [⟨(some 94), none, .mv (.tmp 0)⟩,
    ⟨(some 95), none, .call 12 [(.tmp 94), (.const (Go.Value.int Go.IntKind.i64 1)), (.const (Go.Value.int Go.IntKind.i64 2))]⟩,
    ⟨(some 93), none, .mv (.tmp 95)⟩,
    ⟨(some 96), none, .ext (.tmp 93) 0⟩,
    ⟨(some 97), none, .ext (.tmp 93) 1⟩,
    ⟨(some 15), none, .mv (.tmp 96)⟩,
    ⟨(some 16), none, .mv (.tmp 97)⟩])
  (.seq (.ops [⟨(some 98), none, .mv (.tmp 8)⟩,
    ⟨(some 99), none, .bin .eql 26 (.tmp 98) (.const (Go.Value.int Go.IntKind.i64 0))⟩,
    ⟨(some 100), none, .mv (.tmp 99)⟩,
    ⟨(some 101), (some (100, true)), .mv (.tmp 10)⟩,
    ⟨(some 102), (some (100, true)), .mv (.tmp 2)⟩,
    ⟨(some 103), (some (100, true)), .bin .mul 3 (.tmp 101) (.tmp 102)⟩,
    ⟨(some 104), (some (100, true)), .mv (.tmp 1)⟩,
    ⟨(some 105), (some (100, true)), .mv (.tmp 9)⟩,
    ⟨(some 106), (some (100, true)), .lenS (.tmp 105)⟩,
    ⟨(some 107), (some (100, true)), .bin .mul 3 (.tmp 104) (.tmp 106)⟩,
    ⟨(some 108), (some (100, true)), .bin .geq 3 (.tmp 103) (.tmp 107)⟩,
    ⟨(some 109), none, .pick (.tmp 100) (.tmp 108) (.const (Go.Value.bool false))⟩,
    ⟨(some 110), none, .mv (.tmp 109)⟩,
    ⟨(some 111), (some (110, true)), .mv (.tmp 11)⟩,
    ⟨(some 112), (some (110, true)), .bin .eql 3 (.tmp 111) (.const (Go.Value.int Go.IntKind.i64 0))⟩,
    ⟨(some 113), (some (110, true)), .mv (.tmp 112)⟩,
    ⟨(some 114), (some (113, false)), .mv (.tmp 11)⟩,
    ⟨(some 115), (some (113, false)), .mv (.tmp 2)⟩,
    ⟨(some 116), (some (113, false)), .bin .mul 3 (.tmp 114) (.tmp 115)⟩,
    ⟨(some 117), (some (113, false)), .mv (.tmp 1)⟩,
    ⟨(some 118), (some (113, false)), .mv (.tmp 9)⟩,
    ⟨(some 119), (some (113, false)), .lenS (.tmp 118)⟩,
    ⟨(some 120), (some (113, false)), .bin .mul 3 (.tmp 117) (.tmp 119)⟩,
    ⟨(some 121), (some (113, false)), .bin .lss 3 (.tmp 116) (.tmp 120)⟩,
    ⟨(some 122), (some (110, true)), .pick (.tmp 113) (.const (Go.Value.bool true)) (.tmp 121)⟩,
    ⟨(some 123), none, .pick (.tmp 110) (.tmp 122) (.const (Go.Value.bool false))⟩,
    ⟨(some 124), none, .mv (.tmp 123)⟩,
    ⟨(some 125), (some (124, true)), .mv (.tmp 15)⟩,
    ⟨(some 126), (some (124, true)), .fld (.tmp 13) 5⟩,
    ⟨(some 127), (some (124, true)), .ld (.tmp 126) none⟩,
    ⟨(some 128), (some (124, true)), .bin .eql 3 (.tmp 125) (.tmp 127)⟩,
    ⟨(some 129), none, .pick (.tmp 124) (.tmp 128) (.const (Go.Value.bool false))⟩,
    ⟨(some 6), none, .mv (.tmp 129)⟩])
  (.ret))))))))))))
theorem is_law29_MeterShares : FnIs Try.prog F.law29_MeterShares X.law29_MeterShares 130 [.tmp 6] := ⟨by kernel_rfl⟩

/-- haycroft/haycroftlaw29.MeterBetween: function 5 -/
abbrev F.law29_MeterBetween : FuncId := 5
def X.law29_MeterBetween : X :=
  .seq (.ops [⟨(some 2), none, .mv (.const (Go.Value.bool false))⟩])
  (.seq (.seq (.ops [⟨(some 5), none, .call 8 []⟩,
    ⟨(some 6), none, .un .not (.tmp 5)⟩])
  (.cond (.tmp 6)
    (.seq (.ops [⟨(some 2), none, .mv (.const (Go.Value.bool false))⟩])
    (.ret))
    (.skip)))
  (.seq (.seq (.ops [⟨(some 7), none, .mv (.tmp 0)⟩,
    ⟨(some 8), none, .lenS (.tmp 7)⟩,
    ⟨(some 9), none, .bin .gtr 3 (.tmp 8) (.const (Go.Value.int Go.IntKind.i64 200))⟩])
  (.cond (.tmp 9)
    (.seq (.ops [⟨(some 2), none, .mv (.const (Go.Value.bool true))⟩])
    (.ret))
    (.skip)))
  (.seq (.ops [⟨(some 11), none, .mv (.tmp 0)⟩,
    ⟨(some 12), none, .call 9 [(.tmp 11)]⟩,
    ⟨(some 10), none, .mv (.tmp 12)⟩,
    ⟨(some 13), none, .ext (.tmp 10) 0⟩,
    ⟨(some 14), none, .ext (.tmp 10) 1⟩,
    ⟨(some 3), none, .new 25 (Go.Value.agg #[(Go.Value.int Go.IntKind.i64 0), (Go.Value.int Go.IntKind.i64 0), (Go.Value.int Go.IntKind.i64 0), (Go.Value.int Go.IntKind.i64 0), (Go.Value.int Go.IntKind.i64 0), (Go.Value.int Go.IntKind.i64 0), (Go.Value.int Go.IntKind.i64 0)])⟩,
    ⟨none, none, .st (.tmp 3) (.tmp 13) 7⟩,
    ⟨(some 4), none, .mv (.tmp 14)⟩])
  (.seq (.seq (.ops [⟨(some 15), none, .mv (.tmp 4)⟩,
    ⟨(some 16), none, .bin .neq 26 (.tmp 15) (.const (Go.Value.int Go.IntKind.i64 0))⟩])
  (.cond (.tmp 16)
    (.seq (.ops [⟨(some 2), none, .mv (.const (Go.Value.bool true))⟩])
    (.ret))
    (.skip)))
  (.seq (.ops [⟨(some 17), none, .fld (.tmp 3) 2⟩,
    ⟨(some 18), none, .ld (.tmp 17) none⟩,
    ⟨(some 19), none, .fld (.tmp 3) 5⟩,
    ⟨(some 20), none, .ld (.tmp 19) none⟩,
    ⟨(some 21), none, .bin .leq 3 (.tmp 18) (.tmp 20)⟩,
    ⟨(some 22), none, .mv (.tmp 21)⟩,
    ⟨(some 23), (some (22, true)), .fld (.tmp 3) 5⟩,
    ⟨(some 24), (some (22, true)), .ld (.tmp 23) none⟩,
    ⟨(some 25), (some (22, true)), .fld (.tmp 3) 3⟩,
    ⟨(some 26), (some (22, true)), .ld (.tmp 25) none⟩,
    ⟨(some 27), (some (22, true)), .bin .leq 3 (.tmp 24) (.tmp 26)⟩,
    ⟨(some 28), none, .pick (.tmp 22) (.tmp 27) (.const (Go.Value.bool false))⟩,
    ⟨(some 29), none, .mv (.tmp 28)⟩,
    ⟨(some 30), (some (29, true)), .fld (.tmp 3) 4⟩,
    ⟨(some 31), (some (29, true)), .ld (.tmp 30) none⟩,
    ⟨(some 32), (some (29, true)), .fld (.tmp 3) 0⟩,
    ⟨(some 33), (some (29, true)), .ld (.tmp 32) none⟩,
    ⟨(some 34), (some (29, true)), .fld (.tmp 3) 2⟩,
    ⟨(some 35), (some (29, true)), .ld (.tmp 34) none⟩,
    ⟨(some 36), (some (29, true)), .bin .mul 3 (.tmp 33) (.tmp 35)⟩,
    ⟨(some 37), (some (29, true)), .bin .geq 3 (.tmp 31) (.tmp 36)⟩,
    ⟨(some 38), none, .pick (.tmp 29) (.tmp 37) (.const (Go.Value.bool false))⟩,
    ⟨(some 39), none, .mv (.tmp 38)⟩,
    ⟨(some 40), (some (39, true)), .fld (.tmp 3) 4⟩,
    ⟨(some 41), (some (39, true)), .ld (.tmp 40) none⟩,
    ⟨(some 42), (some (39, true)), .fld (.tmp 3) 0⟩,
    ⟨(some 43), (some (39, true)), .ld (.tmp 42) none⟩,
    ⟨(some 44), (some (39, true)), .fld (.tmp 3) 3⟩,
    ⟨(some 45), (some (39, true)), .ld (.tmp 44) none⟩,
    ⟨(some 46), (some (39, true)), .bin .mul 3 (.tmp 43) (.tmp 45)⟩,
    ⟨(some 47), (some (39, true)), .bin .leq 3 (.tmp 41) (.tmp 46)⟩,
    ⟨(some 48), none, .pick (.tmp 39) (.tmp 47) (.const (Go.Value.bool false))⟩,
    ⟨(some 49), none, .mv (.tmp 48)⟩,
    ⟨(some 50), (some (49, true)), .fld (.tmp 3) 0⟩,
    ⟨(some 51), (some (49, true)), .ld (.tmp 50) none⟩,
    ⟨(some 52), (some (49, true)), .fld (.tmp 3) 1⟩,
    ⟨(some 53), (some (49, true)), .ld (.tmp 52) none⟩,
    ⟨(some 54), (some (49, true)), .bin .add 3 (.tmp 51) (.tmp 53)⟩,
    ⟨(some 55), (some (49, true)), .mv (.tmp 0)⟩,
    ⟨(some 56), (some (49, true)), .lenS (.tmp 55)⟩,
    ⟨(some 57), (some (49, true)), .bin .eql 3 (.tmp 54) (.tmp 56)⟩,
    ⟨(some 58), none, .pick (.tmp 49) (.tmp 57) (.const (Go.Value.bool false))⟩,
    ⟨(some 59), none, .mv (.tmp 58)⟩,
    ⟨(some 60), (some (59, true)), .fld (.tmp 3) 6⟩,
    ⟨(some 61), (some (59, true)), .ld (.tmp 60) none⟩,
    ⟨(some 62), (some (59, true)), .mv (.tmp 0)⟩,
    ⟨(some 63), (some (59, true)), .lenS (.tmp 62)⟩,
    ⟨(some 64), (some (59, true)), .bin .leq 3 (.tmp 61) (.tmp 63)⟩,
    ⟨(some 65), none, .pick (.tmp 59) (.tmp 64) (.const (Go.Value.bool false))⟩,
    ⟨(some 66), none, .mv (.tmp 65)⟩,
    ⟨(some 67), (some (66, true)), .fld (.tmp 3) 6⟩,
    ⟨(some 68), (some (66, true)), .ld (.tmp 67) none⟩,
    ⟨(some 69), (some (66, true)), .bin .gtr 3 (.tmp 68) (.const (Go.Value.int Go.IntKind.i64 0))⟩,
    ⟨(some 70), (some (66, true)), .mv (.tmp 0)⟩,
    ⟨(some 71), (some (66, true)), .lenS (.tmp 70)⟩,
    ⟨(some 72), (some (66, true)), .bin .gtr 3 (.tmp 71) (.const (Go.Value.int Go.IntKind.i64 0))⟩,
    ⟨(some 73), (some (66, true)), .eq false .bool (.tmp 69) (.tmp 72)⟩,
    ⟨(some 74), none, .pick (.tmp 66) (.tmp 73) (.const (Go.Value.bool false))⟩,
    ⟨(some 75), none, .mv (.tmp 74)⟩,
    ⟨(some 76), (some (75, true)), .fld (.tmp 3) 1⟩,
    ⟨(some 77), (some (75, true)), .ld (.tmp 76) none⟩,
    ⟨(some 78), (some (75, true)), .fld (.tmp 3) 6⟩,
    ⟨(some 79), (some (75, true)), .ld (.tmp 78) none⟩,
    ⟨(some 80), (some (75, true)), .bin .leq 3 (.tmp 77) (.tmp 79)⟩,
    ⟨(some 81), none, .pick (.tmp 75) (.tmp 80) (.const (Go.Value.bool false))⟩,
    ⟨(some 2), none, .mv (.tmp 81)⟩])
  (.ret))))))
theorem is_law29_MeterBetween : FnIs Try.prog F.law29_MeterBetween X.law29_MeterBetween 82 [.tmp 2] := ⟨by kernel_rfl⟩

-- loop (inner ones first): [1, 9, 43, 44, 45]
-- loop (inner ones first): [0, 1, 6, 19, 20, 21]
/-- haycroft/meter.Rates: function 14 -/
abbrev F.meter_Rates : FuncId := 14
def X.meter_Rates : X :=
  .seq (.ops [⟨(some 4), none, .mv (.const (Go.Value.slice none 0 0))⟩,
    ⟨(some 5), none, .mv (.const (Go.Value.int Go.IntKind.i64 0))⟩])
  (.seq (.seq (.ops [⟨(some 12), none, .mv (.tmp 0)⟩,
    ⟨(some 13), none, .call 21 [(.tmp 12)]⟩,
    ⟨(some 14), none, .un .not (.tmp 13)⟩,
    ⟨(some 15), none, .mv (.tmp 14)⟩,
    ⟨(some 16), (some (15, false)), .mv (.tmp 1)⟩,
    ⟨(some 17), (some (15, false)), .bin .lss 3 (.tmp 16) (.const (Go.Value.int Go.IntKind.i64 1))⟩,
    ⟨(some 18), none, .pick (.tmp 15) (.const (Go.Value.bool true)) (.tmp 17)⟩])
  (.cond (.tmp 18)
    (.seq (.ops [⟨(some 4), none, .mv (.const (Go.Value.slice none 0 0))⟩,
      ⟨(some 5), none, .mv (.const (Go.Value.int Go.IntKind.i64 1))⟩])
    (.ret))
    (.skip)))
  (.seq (.ops [⟨(some 6), none, .mv (.const (Go.Value.int Go.IntKind.i64 0))⟩])
  (.seq (.seq (.ops [⟨(some 19), none, .mv (.tmp 0)⟩,
    ⟨(some 20), none, .lenS (.tmp 19)⟩,
    ⟨(some 21), none, .mv (.const (Go.Value.int Go.IntKind.i64 0))⟩])
  (.block 0 (.loop (.seq (.ops [⟨(some 22), none, .bin .lss 3 (.tmp 21) (.tmp 20)⟩])
      (.seq (.cond (.tmp 22)
        (.skip)
        (.exit 0))
      (.seq (.block 1 (.seq (.ops [⟨(some 23), none, .idx (.tmp 19) (.tmp 21) 8⟩,
          ⟨(some 24), none, .ld (.tmp 23) (some 8)⟩,
          ⟨(some 8), none, .new 44 (Go.Value.agg #[(Go.Value.int Go.IntKind.i64 0), (Go.Value.string { data := #[] }), (Go.Value.string { data := #[] }), (Go.Value.int Go.IntKind.u64 0), (Go.Value.int Go.IntKind.i64 0), (Go.Value.string { data := #[] }), (Go.Value.int Go.IntKind.i64 0), (Go.Value.int Go.IntKind.i64 0)])⟩,
          ⟨none, none, .st (.tmp 8) (.tmp 24) 8⟩])
        (.ops [⟨(some 25), none, .mv (.tmp 6)⟩,
          ⟨(some 26), none, .fld (.tmp 8) 7⟩,
          ⟨(some 27), none, .ld (.tmp 26) none⟩,
          ⟨(some 28), none, .mnx true (.tmp 25) [(.tmp 27)]⟩,
          ⟨(some 6), none, .mv (.tmp 28)⟩])))
      (.ops [⟨(some 29), none, .bin .add 3 (.tmp 21) (.const (Go.Value.int Go.IntKind.i64 1))⟩,
        ⟨(some 21), none, .mv (.tmp 29)⟩])))))))
  (.seq (.block 2 (.seq (.ops [⟨(some 31), none, .mv (.tmp 6)⟩,
      ⟨(some 32), none, .bin .eql 3 (.tmp 31) (.const (Go.Value.int Go.IntKind.i64 0))⟩,
      ⟨(some 30), none, .mv (.tmp 32)⟩])
    (.cond (.tmp 30)
      (.seq (.ops [⟨(some 4), none, .mv (.const (Go.Value.slice none 0 0))⟩,
        ⟨(some 5), none, .mv (.const (Go.Value.int Go.IntKind.i64 0))⟩])
      (.ret))
      (.seq (.ops [⟨(some 34), none, .mv (.tmp 6)⟩,
        ⟨(some 35), none, .mv (.tmp 1)⟩,
        ⟨(some 36), none, .bin .quo 3 (.tmp 34) (.tmp 35)⟩,
        ⟨(some 37), none, .bin .geq 3 (.tmp 36) (.const (Go.Value.int Go.IntKind.i64 10000))⟩,
        ⟨(some 33), none, .mv (.tmp 37)⟩])
      (.cond (.tmp 33)
        (.seq (.ops [⟨(some 4), none, .mv (.const (Go.Value.slice none 0 0))⟩,
          ⟨(some 5), none, .mv (.const (Go.Value.int Go.IntKind.i64 5))⟩])
        (.ret))
        (.skip))))))
  (.seq (.ops [⟨(some 38), none, .mv (.tmp 6)⟩,
    ⟨(some 39), none, .mv (.tmp 1)⟩,
    ⟨(some 40), none, .bin .quo 3 (.tmp 38) (.tmp 39)⟩,
    ⟨(some 41), none, .bin .add 3 (.tmp 40) (.const (Go.Value.int Go.IntKind.i64 1))⟩,
    ⟨(some 42), none, .mks 3 1 8 [(Go.Value.int Go.IntKind.i64 0)] (.tmp 41) (.tmp 41)⟩,
    ⟨(some 9), none, .mv (.tmp 42)⟩])
  (.seq (.seq (.ops [⟨(some 43), none, .mv (.tmp 0)⟩,
    ⟨(some 44), none, .lenS (.tmp 43)⟩,
    ⟨(some 45), none, .mv (.const (Go.Value.int Go.IntKind.i64 0))⟩])
  (.block 3 (.loop (.seq (.ops [⟨(some 46), none, .bin .lss 3 (.tmp 45) (.tmp 44)⟩])
      (.seq (.cond (.tmp 46)
        (.skip)
        (.exit 3))
      (.seq (.block 4 (.seq (.ops [⟨(some 47), none, .idx (.tmp 43) (.tmp 45) 8⟩,
          ⟨(some 48), none, .ld (.tmp 47) (some 8)⟩,
          ⟨(some 11), none, .new 44 (Go.Value.agg #[(Go.Value.int Go.IntKind.i64 0), (Go.Value.string { data := #[] }), (Go.Value.string { data := #[] }), (Go.Value.int Go.IntKind.u64 0), (Go.Value.int Go.IntKind.i64 0), (Go.Value.string { data := #[] }), (Go.Value.int Go.IntKind.i64 0), (Go.Value.int Go.IntKind.i64 0)])⟩,
          ⟨none, none, .st (.tmp 11) (.tmp 48) 8⟩])
        (.seq (.ops [⟨(some 49), none, .fld (.tmp 11) 7⟩,
          ⟨(some 50), none, .ld (.tmp 49) none⟩,
          ⟨(some 51), none, .bin .neq 3 (.tmp 50) (.const (Go.Value.int Go.IntKind.i64 0))⟩])
        (.cond (.tmp 51)
          (.ops [⟨(some 52), none, .mv (.tmp 9)⟩,
            ⟨(some 53), none, .fld (.tmp 11) 7⟩,
            ⟨(some 54), none, .ld (.tmp 53) none⟩,
            ⟨(some 55), none, .mv (.tmp 1)⟩,
            ⟨(some 56), none, .bin .quo 3 (.tmp 54) (.tmp 55)⟩,
            ⟨(some 57), none, .idx (.tmp 52) (.tmp 56) 1⟩,
            ⟨(some 58), none, .ld (.tmp 57) none⟩,
            ⟨(some 59), none, .bin .add 3 (.tmp 58) (.const (Go.Value.int Go.IntKind.i64 1))⟩,
            ⟨(some 60), none, .idx (.tmp 52) (.tmp 56) 1⟩,
            ⟨none, none, .st (.tmp 60) (.tmp 59) 1⟩])
          (.skip)))))
      (.ops [⟨(some 61), none, .bin .add 3 (.tmp 45) (.const (Go.Value.int Go.IntKind.i64 1))⟩,
        ⟨(some 45), none, .mv (.tmp 61)⟩])))))))
  (.seq (.ops [⟨(some 62), none, .mv (.tmp 9)⟩,
    ⟨(some 4), none, .mv (.tmp 62)⟩,
    ⟨(some 5), none, .mv (.const (Go.Value.int Go.IntKind.i64 0))⟩])
  (.ret))))))))
theorem is_meter_Rates : FnIs Try.prog F.meter_Rates X.meter_Rates 63 [.tmp 4, .tmp 5] := ⟨by kernel_rfl⟩

-- loop (inner ones first): [0, 1, 5, 8, 10, 11, 12]
-- loop (inner ones first): [0, 1, 5, 8, 10]
-- loop (inner ones first): [0, 1, 5, 6, 7, 8, 9]
/-- haycroft/haycroftlaw29.MeterRates: function 6 -/
abbrev F.law29_MeterRates : FuncId := 6
def X.law29_MeterRates : X :=
  .seq (.ops [⟨(some 4), none, .mv (.const (Go.Value.bool false))⟩])
  (.seq (.seq (.ops [⟨(some 13), none, .call 8 []⟩,
    ⟨(some 14), none, .un .not (.tmp 13)⟩])
  (.cond (.tmp 14)
    (.seq (.ops [⟨(some 4), none, .mv (.const (Go.Value.bool false))⟩])
    (.ret))
    (.skip)))
  (.seq (.seq (.ops [⟨(some 15), none, .mv (.tmp 0)⟩,
    ⟨(some 16), none, .lenS (.tmp 15)⟩,
    ⟨(some 17), none, .bin .gtr 3 (.tmp 16) (.const (Go.Value.int Go.IntKind.i64 100))⟩])
  (.cond (.tmp 17)
    (.seq (.ops [⟨(some 4), none, .mv (.const (Go.Value.bool true))⟩])
    (.ret))
    (.skip)))
  (.seq (.ops [⟨(some 19), none, .mv (.tmp 0)⟩,
    ⟨(some 20), none, .mv (.tmp 1)⟩,
    ⟨(some 21), none, .call 14 [(.tmp 19), (.tmp 20)]⟩,
    ⟨(some 18), none, .mv (.tmp 21)⟩,
    ⟨(some 22), none, .ext (.tmp 18) 0⟩,
    ⟨(some 23), none, .ext (.tmp 18) 1⟩,
    ⟨(some 5), none, .mv (.tmp 22)⟩,
    ⟨(some 6), none, .mv (.tmp 23)⟩])
  (.seq (.seq (.ops [⟨(some 24), none, .mv (.tmp 0)⟩,
    ⟨(some 25), none, .call 10 [(.tmp 24)]⟩,
    ⟨(some 26), none, .un .not (.tmp 25)⟩,
    ⟨(some 27), none, .mv (.tmp 26)⟩,
    ⟨(some 28), (some (27, false)), .mv (.tmp 1)⟩,
    ⟨(some 29), (some (27, false)), .bin .lss 3 (.tmp 28) (.const (Go.Value.int Go.IntKind.i64 1))⟩,
    ⟨(some 30), none, .pick (.tmp 27) (.const (Go.Value.bool true)) (.tmp 29)⟩])
  (.cond (.tmp 30)
    (.seq (.ops [⟨(some 31), none, .mv (.tmp 5)⟩,
      ⟨(some 32), none, .lenS (.tmp 31)⟩,
      ⟨(some 33), none, .bin .eql 3 (.tmp 32) (.const (Go.Value.int Go.IntKind.i64 0))⟩,
      ⟨(some 34), none, .mv (.tmp 33)⟩,
      ⟨(some 35), (some (34, true)), .mv (.tmp 6)⟩,
      ⟨(some 36), (some (34, true)), .bin .eql 26 (.tmp 35) (.const (Go.Value.int Go.IntKind.i64 1))⟩,
      ⟨(some 37), none, .pick (.tmp 34) (.tmp 36) (.const (Go.Value.bool false))⟩,
      ⟨(some 4), none, .mv (.tmp 37)⟩])
    (.ret))
    (.skip)))
  (.seq (.ops [⟨(some 7), none, .mv (.const (Go.Value.int Go.IntKind.i64 0))⟩])
  (.seq (.ops [⟨(some 8), none, .mv (.const (Go.Value.int Go.IntKind.i64 0))⟩])
  (.seq (.seq (.ops [⟨(some 9), none, .mv (.const (Go.Value.int Go.IntKind.i64 0))⟩])
  (.block 0 (.loop (.seq (.seq (.ops [⟨(some 38), none, .mv (.tmp 9)⟩,
        ⟨(some 39), none, .mv (.tmp 0)⟩,
        ⟨(some 40), none, .lenS (.tmp 39)⟩,
        ⟨(some 41), none, .bin .lss 3 (.tmp 38) (.tmp 40)⟩])
      (.cond (.tmp 41)
        (.skip)
        (.exit 0)))
      (.seq (.block 1 (.seq (.ops [⟨(some 44), none, .mv (.tmp 7)⟩,
          ⟨(some 45), none, .mv (.tmp 0)⟩,
          ⟨(some 46), none, .mv (.tmp 9)⟩,
          ⟨(some 47), none, .idx (.tmp 45) (.tmp 46) 8⟩,
          ⟨(some 48), none, .fld (.tmp 47) 7⟩,
          ⟨(some 49), none, .ld (.tmp 48) none⟩,
          ⟨(some 50), none, .mnx true (.tmp 44) [(.tmp 49)]⟩,
          ⟨(some 7), none, .mv (.tmp 50)⟩])
        (.seq (.ops [⟨(some 51), none, .mv (.tmp 0)⟩,
          ⟨(some 52), none, .mv (.tmp 9)⟩,
          ⟨(some 53), none, .idx (.tmp 51) (.tmp 52) 8⟩,
          ⟨(some 54), none, .fld (.tmp 53) 7⟩,
          ⟨(some 55), none, .ld (.tmp 54) none⟩,
          ⟨(some 56), none, .bin .gtr 3 (.tmp 55) (.const (Go.Value.int Go.IntKind.i64 0))⟩])
        (.cond (.tmp 56)
          (.ops [⟨(some 57), none, .mv (.tmp 8)⟩,
            ⟨(some 58), none, .bin .add 3 (.tmp 57) (.const (Go.Value.int Go.IntKind.i64 1))⟩,
            ⟨(some 8), none, .mv (.tmp 58)⟩])
          (.skip)))))
      (.ops [⟨(some 42), none, .mv (.tmp 9)⟩,
        ⟨(some 43), none, .bin .add 3 (.tmp 42) (.const (Go.Value.int Go.IntKind.i64 1))⟩,
        ⟨(some 9), none, .mv (.tmp 43)⟩]))))))
  (.seq (.seq (.ops [⟨(some 59), none, .mv (.tmp 7)⟩,
    ⟨(some 60), none, .bin .eql 3 (.tmp 59) (.const (Go.Value.int Go.IntKind.i64 0))⟩])
  (.cond (.tmp 60)
    (.seq (.ops [⟨(some 61), none, .mv (.tmp 5)⟩,
      ⟨(some 62), none, .lenS (.tmp 61)⟩,
      ⟨(some 63), none, .bin .eql 3 (.tmp 62) (.const (Go.Value.int Go.IntKind.i64 0))⟩,
      ⟨(some 64), none, .mv (.tmp 63)⟩,
      ⟨(some 65), (some (64, true)), .mv (.tmp 6)⟩,
      ⟨(some 66), (some (64, true)), .bin .eql 26 (.tmp 65) (.const (Go.Value.int Go.IntKind.i64 0))⟩,
      ⟨(some 67), none, .pick (.tmp 64) (.tmp 66) (.const (Go.Value.bool false))⟩,
      ⟨(some 4), none, .mv (.tmp 67)⟩])
    (.ret))
    (.skip)))
  (.seq (.seq (.ops [⟨(some 68), none, .mv (.tmp 7)⟩,
    ⟨(some 69), none, .mv (.tmp 1)⟩,
    ⟨(some 70), none, .bin .quo 3 (.tmp 68) (.tmp 69)⟩,
    ⟨(some 71), none, .bin .gtr 3 (.tmp 70) (.const (Go.Value.int Go.IntKind.i64 9999))⟩])
  (.cond (.tmp 71)
    (.seq (.ops [⟨(some 72), none, .mv (.tmp 5)⟩,
      ⟨(some 73), none, .lenS (.tmp 72)⟩,
      ⟨(some 74), none, .bin .eql 3 (.tmp 73) (.const (Go.Value.int Go.IntKind.i64 0))⟩,
      ⟨(some 75), none, .mv (.tmp 74)⟩,
      ⟨(some 76), (some (75, true)), .mv (.tmp 6)⟩,
      ⟨(some 77), (some (75, true)), .bin .eql 26 (.tmp 76) (.const (Go.Value.int Go.IntKind.i64 5))⟩,
      ⟨(some 78), none, .pick (.tmp 75) (.tmp 77) (.const (Go.Value.bool false))⟩,
      ⟨(some 4), none, .mv (.tmp 78)⟩])
    (.ret))
    (.skip)))
  (.seq (.seq (.ops [⟨(some 79), none, .mv (.tmp 6)⟩,
    ⟨(some 80), none, .bin .neq 26 (.tmp 79) (.const (Go.Value.int Go.IntKind.i64 0))⟩,
    ⟨(some 81), none, .mv (.tmp 80)⟩,
    ⟨(some 82), (some (81, false)), .mv (.tmp 5)⟩,
    ⟨(some 83), (some (81, false)), .lenS (.tmp 82)⟩,
    ⟨(some 84), (some (81, false)), .mv (.tmp 7)⟩,
    ⟨(some 85), (some (81, false)), .mv (.tmp 1)⟩,
    ⟨(some 86), (some (81, false)), .bin .quo 3 (.tmp 84) (.tmp 85)⟩,
    ⟨(some 87), (some (81, false)), .bin .add 3 (.tmp 86) (.const (Go.Value.int Go.IntKind.i64 1))⟩,
    ⟨(some 88), (some (81, false)), .bin .neq 3 (.tmp 83) (.tmp 87)⟩,
    ⟨(some 89), none, .pick (.tmp 81) (.const (Go.Value.bool true)) (.tmp 88)⟩])
  (.cond (.tmp 89)
    (.seq (.ops [⟨(some 4), none, .mv (.const (Go.Value.bool false))⟩])
    (.ret))
    (.skip)))
  (.seq (.seq (.ops [⟨(some 10), none, .mv (.const (Go.Value.int Go.IntKind.i64 0))⟩])
  (.block 2 (.loop (.seq (.seq (.ops [⟨(some 90), none, .mv (.tmp 10)⟩,
        ⟨(some 91), none, .mv (.tmp 5)⟩,
        ⟨(some 92), none, .lenS (.tmp 91)⟩,
        ⟨(some 93), none, .bin .lss 3 (.tmp 90) (.tmp 92)⟩])
      (.cond (.tmp 93)
        (.skip)
        (.exit 2)))
      (.seq (.block 3 (.seq (.ops [⟨(some 11), none, .mv (.const (Go.Value.int Go.IntKind.i64 0))⟩])
        (.seq (.seq (.ops [⟨(some 12), none, .mv (.const (Go.Value.int Go.IntKind.i64 0))⟩])
        (.block 4 (.loop (.seq (.seq (.ops [⟨(some 96), none, .mv (.tmp 12)⟩,
              ⟨(some 97), none, .mv (.tmp 0)⟩,
              ⟨(some 98), none, .lenS (.tmp 97)⟩,
              ⟨(some 99), none, .bin .lss 3 (.tmp 96) (.tmp 98)⟩])
            (.cond (.tmp 99)
              (.skip)
              (.exit 4)))
            (.seq (.block 5 (.seq (.ops [⟨(some 102), none, .mv (.tmp 0)⟩,
                ⟨(some 103), none, .mv (.tmp 12)⟩,
                ⟨(some 104), none, .idx (.tmp 102) (.tmp 103) 8⟩,
                ⟨(some 105), none, .fld (.tmp 104) 7⟩,
                ⟨(some 106), none, .ld (.tmp 105) none⟩,
                ⟨(some 107), none, .bin .gtr 3 (.tmp 106) (.const (Go.Value.int Go.IntKind.i64 0))⟩,
                ⟨(some 108), none, .mv (.tmp 107)⟩,
                ⟨(some 109), (some (108, true)), .mv (.tmp 0)⟩,
                ⟨(some 110), (some (108, true)), .mv (.tmp 12)⟩,
                ⟨(some 111), (some (108, true)), .idx (.tmp 109) (.tmp 110) 8⟩,
                ⟨(some 112), (some (108, true)), .fld (.tmp 111) 7⟩,
                ⟨(some 113), (some (108, true)), .ld (.tmp 112) none⟩,
                ⟨(some 114), (some (108, true)), .mv (.tmp 1)⟩,
                ⟨(some 115), (some (108, true)), .bin .quo 3 (.tmp 113) (.tmp 114)⟩,
                ⟨(some 116), (some (108, true)), .mv (.tmp 10)⟩,
                ⟨(some 117), (some (108, true)), .bin .eql 3 (.tmp 115) (.tmp 116)⟩,
                ⟨(some 118), none, .pick (.tmp 108) (.tmp 117) (.const (Go.Value.bool false))⟩])
              (.cond (.tmp 118)
                (.ops [⟨(some 119), none, .mv (.tmp 11)⟩,
                  ⟨(some 120), none, .bin .add 3 (.tmp 119) (.const (Go.Value.int Go.IntKind.i64 1))⟩,
                  ⟨(some 11), none, .mv (.tmp 120)⟩])
                (.skip))))
            (.ops [⟨(some 100), none, .mv (.tmp 12)⟩,
              ⟨(some 101), none, .bin .add 3 (.tmp 100) (.const (Go.Value.int Go.IntKind.i64 1))⟩,
              ⟨(some 12), none, .mv (.tmp 101)⟩]))))))
        (.seq (.seq (.ops [⟨(some 121), none, .mv (.tmp 5)⟩,
          ⟨(some 122), none, .mv (.tmp 10)⟩,
          ⟨(some 123), none, .idx (.tmp 121) (.tmp 122) 1⟩,
          ⟨(some 124), none, .ld (.tmp 123) none⟩,
          ⟨(some 125), none, .mv (.tmp 11)⟩,
          ⟨(some 126), none, .bin .neq 3 (.tmp 124) (.tmp 125)⟩])
        (.cond (.tmp 126)
          (.seq (.ops [⟨(some 4), none, .mv (.const (Go.Value.bool false))⟩])
          (.ret))
          (.skip)))
        (.ops [⟨(some 127), none, .mv (.tmp 8)⟩,
          ⟨(some 128), none, .mv (.tmp 11)⟩,
          ⟨(some 129), none, .bin .sub 3 (.tmp 127) (.tmp 128)⟩,
          ⟨(some 8), none, .mv (.tmp 129)⟩])))))
      (.ops [⟨(some 94), none, .mv (.tmp 10)⟩,
        ⟨(some 95), none, .bin .add 3 (.tmp 94) (.const (Go.Value.int Go.IntKind.i64 1))⟩,
        ⟨(some 10), none, .mv (.tmp 95)⟩]))))))
  (.seq (.ops [⟨(some 130), none, .mv (.tmp 8)⟩,
    ⟨(some 131), none, .bin .eql 3 (.tmp 130) (.const (Go.Value.int Go.IntKind.i64 0))⟩,
    ⟨(some 4), none, .mv (.tmp 131)⟩])
  (.ret)))))))))))))
theorem is_law29_MeterRates : FnIs Try.prog F.law29_MeterRates X.law29_MeterRates 132 [.tmp 4] := ⟨by kernel_rfl⟩

-- loop (inner ones first): [8, 9, 30]
-- loop (inner ones first): [5, 16, 17, 18]
/-- haycroft/meter.Busiest: function 15 -/
abbrev F.meter_Busiest : FuncId := 15
def X.meter_Busiest : X :=
  .seq (.ops [⟨(some 2), none, .mv (.const (Go.Value.string { data := #[] }))⟩,
    ⟨(some 3), none, .mv (.const (Go.Value.int Go.IntKind.i64 0))⟩,
    ⟨(some 4), none, .mv (.const (Go.Value.int Go.IntKind.i64 0))⟩])
  (.seq (.seq (.ops [⟨(some 12), none, .mv (.tmp 0)⟩,
    ⟨(some 13), none, .call 21 [(.tmp 12)]⟩,
    ⟨(some 14), none, .un .not (.tmp 13)⟩])
  (.cond (.tmp 14)
    (.seq (.ops [⟨(some 2), none, .mv (.const (Go.Value.string { data := #[] }))⟩,
      ⟨(some 3), none, .mv (.const (Go.Value.int Go.IntKind.i64 0))⟩,
      ⟨(some 4), none, .mv (.const (Go.Value.int Go.IntKind.i64 1))⟩])
    (.ret))
    (.skip)))
  (.seq (.ops [⟨(some 15), none, .more .mkm⟩,
    ⟨(some 5), none, .mv (.tmp 15)⟩])
  (.seq (.seq (.ops [⟨(some 16), none, .mv (.tmp 0)⟩,
    ⟨(some 17), none, .lenS (.tmp 16)⟩,
    ⟨(some 18), none, .mv (.const (Go.Value.int Go.IntKind.i64 0))⟩])
  (.block 0 (.loop (.seq (.ops [⟨(some 19), none, .bin .lss 3 (.tmp 18) (.tmp 17)⟩])
      (.seq (.cond (.tmp 19)
        (.skip)
        (.exit 0))
      (.seq (.block 1 (.seq (.ops [⟨(some 20), none, .idx (.tmp 16) (.tmp 18) 8⟩,
          ⟨(some 21), none, .ld (.tmp 20) (some 8)⟩,
          ⟨(some 7), none, .new 44 (Go.Value.agg #[(Go.Value.int Go.IntKind.i64 0), (Go.Value.string { data := #[] }), (Go.Value.string { data := #[] }), (Go.Value.int Go.IntKind.u64 0), (Go.Value.int Go.IntKind.i64 0), (Go.Value.string { data := #[] }), (Go.Value.int Go.IntKind.i64 0), (Go.Value.int Go.IntKind.i64 0)])⟩,
          ⟨none, none, .st (.tmp 7) (.tmp 21) 8⟩])
        (.ops [⟨(some 22), none, .mv (.tmp 5)⟩,
          ⟨(some 23), none, .fld (.tmp 7) 0⟩,
          ⟨(some 24), none, .fld (.tmp 23) 1⟩,
          ⟨(some 25), none, .ld (.tmp 24) none⟩,
          ⟨(some 26), none, .more (.lkp 9 (Go.Value.int Go.IntKind.i64 0) false (.tmp 22) (.tmp 25))⟩,
          ⟨(some 27), none, .bin .add 3 (.tmp 26) (.const (Go.Value.int Go.IntKind.i64 1))⟩,
          ⟨none, none, .more (.mup 9 (.tmp 22) (.tmp 25) (.tmp 27))⟩])))
      (.ops [⟨(some 28), none, .bin .add 3 (.tmp 18) (.const (Go.Value.int Go.IntKind.i64 1))⟩,
        ⟨(some 18), none, .mv (.tmp 28)⟩])))))))
  (.seq (.ops [⟨(some 8), none, .mv (.const (Go.Value.string { data := #[] }))⟩,
    ⟨(some 9), none, .mv (.const (Go.Value.int Go.IntKind.i64 0))⟩])
  (.seq (.seq (.ops [⟨(some 29), none, .mv (.tmp 5)⟩,
    ⟨(some 30), none, .more (.rng (.tmp 29))⟩])
  (.block 2 (.loop (.seq (.ops [⟨(some 31), none, .more (.nxt (.tmp 30))⟩,
        ⟨(some 32), none, .ext (.tmp 31) 0⟩])
      (.seq (.cond (.tmp 32)
        (.skip)
        (.exit 2))
      (.block 3 (.seq (.ops [⟨(some 33), none, .more (.ent (.tmp 30))⟩,
          ⟨(some 34), none, .ext (.tmp 33) 0⟩,
          ⟨(some 35), none, .ext (.tmp 33) 1⟩,
          ⟨(some 10), none, .mv (.tmp 34)⟩,
          ⟨(some 11), none, .mv (.tmp 35)⟩])
        (.seq (.ops [⟨(some 36), none, .mv (.tmp 11)⟩,
          ⟨(some 37), none, .mv (.tmp 9)⟩,
          ⟨(some 38), none, .bin .gtr 3 (.tmp 36) (.tmp 37)⟩,
          ⟨(some 39), none, .mv (.tmp 38)⟩,
          ⟨(some 40), (some (39, false)), .mv (.tmp 11)⟩,
          ⟨(some 41), (some (39, false)), .mv (.tmp 9)⟩,
          ⟨(some 42), (some (39, false)), .bin .eql 3 (.tmp 40) (.tmp 41)⟩,
          ⟨(some 43), (some (39, false)), .mv (.tmp 42)⟩,
          ⟨(some 44), (some (43, true)), .mv (.tmp 10)⟩,
          ⟨(some 45), (some (43, true)), .mv (.tmp 8)⟩,
          ⟨(some 46), (some (43, true)), .bin .lss 9 (.tmp 44) (.tmp 45)⟩,
          ⟨(some 47), (some (39, false)), .pick (.tmp 43) (.tmp 46) (.const (Go.Value.bool false))⟩,
          ⟨(some 48), none, .pick (.tmp 39) (.const (Go.Value.bool true)) (.tmp 47)⟩])
        (.cond (.tmp 48)
          (.ops [⟨(some 49), none, .mv (.tmp 10)⟩,
            ⟨(some 50), none, .mv (.tmp 11)⟩,
            ⟨(some 8), none, .mv (.tmp 49)⟩,
            ⟨(some 9), none, .mv (.tmp 50)⟩])
          (.skip))))))))))
  (.seq (.ops [⟨(some 51), none, .mv (.tmp 8)⟩,
    ⟨(some 52), none, .mv (.tmp 9)⟩,
    ⟨(some 2), none, .mv (.tmp 51)⟩,
    ⟨(some 3), none, .mv (.tmp 52)⟩,
    ⟨(some 4), none, .mv (.const (Go.Value.int Go.IntKind.i64 0))⟩])
  (.ret)))))))
theorem is_meter_Busiest : FnIs Try.prog F.meter_Busiest X.meter_Busiest 53 [.tmp 2, .tmp 3, .tmp 4] := ⟨by kernel_rfl⟩

-- loop (inner ones first): [1, 6, 12, 13, 14]
/-- haycroft/meter.Slow: function 16 -/
abbrev F.meter_Slow : FuncId := 16
def X.meter_Slow : X :=
  .seq (.ops [⟨(some 4), none, .mv (.const (Go.Value.slice none 0 0))⟩,
    ⟨(some 5), none, .mv (.const (Go.Value.int Go.IntKind.i64 0))⟩])
  (.seq (.seq (.ops [⟨(some 9), none, .mv (.tmp 0)⟩,
    ⟨(some 10), none, .call 21 [(.tmp 9)]⟩,
    ⟨(some 11), none, .un .not (.tmp 10)⟩])
  (.cond (.tmp 11)
    (.seq (.ops [⟨(some 4), none, .mv (.const (Go.Value.slice none 0 0))⟩,
      ⟨(some 5), none, .mv (.const (Go.Value.int Go.IntKind.i64 1))⟩])
    (.ret))
    (.skip)))
  (.seq (.ops [⟨(some 6), none, .mv (.const (Go.Value.slice none 0 0))⟩])
  (.seq (.seq (.ops [⟨(some 12), none, .mv (.tmp 0)⟩,
    ⟨(some 13), none, .lenS (.tmp 12)⟩,
    ⟨(some 14), none, .mv (.const (Go.Value.int Go.IntKind.i64 0))⟩])
  (.block 0 (.loop (.seq (.ops [⟨(some 15), none, .bin .lss 3 (.tmp 14) (.tmp 13)⟩])
      (.seq (.cond (.tmp 15)
        (.skip)
        (.exit 0))
      (.seq (.block 1 (.seq (.ops [⟨(some 16), none, .mv (.tmp 14)⟩,
          ⟨(some 17), none, .idx (.tmp 12) (.tmp 14) 8⟩,
          ⟨(some 18), none, .ld (.tmp 17) (some 8)⟩,
          ⟨(some 8), none, .new 44 (Go.Value.agg #[(Go.Value.int Go.IntKind.i64 0), (Go.Value.string { data := #[] }), (Go.Value.string { data := #[] }), (Go.Value.int Go.IntKind.u64 0), (Go.Value.int Go.IntKind.i64 0), (Go.Value.string { data := #[] }), (Go.Value.int Go.IntKind.i64 0), (Go.Value.int Go.IntKind.i64 0)])⟩,
          ⟨(some 7), none, .mv (.tmp 16)⟩,
          ⟨none, none, .st (.tmp 8) (.tmp 18) 8⟩])
        (.seq (.ops [⟨(some 19), none, .fld (.tmp 8) 7⟩,
          ⟨(some 20), none, .ld (.tmp 19) none⟩,
          ⟨(some 21), none, .bin .eql 3 (.tmp 20) (.const (Go.Value.int Go.IntKind.i64 0))⟩,
          ⟨(some 22), none, .mv (.tmp 21)⟩,
          ⟨(some 23), (some (22, false)), .fld (.tmp 8) 7⟩,
          ⟨(some 24), (some (22, false)), .ld (.tmp 23) none⟩,
          ⟨(some 25), (some (22, false)), .fld (.tmp 8) 6⟩,
          ⟨(some 26), (some (22, false)), .ld (.tmp 25) none⟩,
          ⟨(some 27), (some (22, false)), .bin .sub 3 (.tmp 24) (.tmp 26)⟩,
          ⟨(some 28), (some (22, false)), .mv (.tmp 1)⟩,
          ⟨(some 29), (some (22, false)), .bin .geq 3 (.tmp 27) (.tmp 28)⟩,
          ⟨(some 30), none, .pick (.tmp 22) (.const (Go.Value.bool true)) (.tmp 29)⟩])
        (.cond (.tmp 30)
          (.ops [⟨(some 31), none, .mv (.tmp 6)⟩,
            ⟨(some 32), none, .mv (.tmp 7)⟩,
            ⟨(some 33), none, .bsl 3 1 1 [(Go.Value.int Go.IntKind.i64 0)] [(0, (.tmp 32))]⟩,
            ⟨(some 34), none, .app 3 1 8 [(Go.Value.int Go.IntKind.i64 0)] (.tmp 31) (.tmp 33)⟩,
            ⟨(some 6), none, .mv (.tmp 34)⟩])
          (.skip)))))
      (.ops [⟨(some 35), none, .bin .add 3 (.tmp 14) (.const (Go.Value.int Go.IntKind.i64 1))⟩,
        ⟨(some 14), none, .mv (.tmp 35)⟩])))))))
  (.seq (.ops [⟨(some 36), none, .mv (.tmp 6)⟩,
    ⟨(some 4), none, .mv (.tmp 36)⟩,
    ⟨(some 5), none, .mv (.const (Go.Value.int Go.IntKind.i64 0))⟩])
  (.ret)))))
theorem is_meter_Slow : FnIs Try.prog F.meter_Slow X.meter_Slow 37 [.tmp 4, .tmp 5] := ⟨by kernel_rfl⟩

-- loop (inner ones first): [4, 11, 12, 13]
/-- haycroft/meter.Kinds: function 17 -/
abbrev F.meter_Kinds : FuncId := 17
def X.meter_Kinds : X :=
  .seq (.ops [⟨(some 2), none, .mv (.const (Go.Value.slice none 0 0))⟩,
    ⟨(some 3), none, .mv (.const (Go.Value.int Go.IntKind.i64 0))⟩])
  (.seq (.seq (.ops [⟨(some 7), none, .mv (.tmp 0)⟩,
    ⟨(some 8), none, .call 21 [(.tmp 7)]⟩,
    ⟨(some 9), none, .un .not (.tmp 8)⟩])
  (.cond (.tmp 9)
    (.seq (.ops [⟨(some 2), none, .mv (.const (Go.Value.slice none 0 0))⟩,
      ⟨(some 3), none, .mv (.const (Go.Value.int Go.IntKind.i64 1))⟩])
    (.ret))
    (.skip)))
  (.seq (.ops [⟨(some 10), none, .mks 3 1 8 [(Go.Value.int Go.IntKind.i64 0)] (.const (Go.Value.int Go.IntKind.i64 4)) (.const (Go.Value.int Go.IntKind.i64 4))⟩,
    ⟨(some 4), none, .mv (.tmp 10)⟩])
  (.seq (.seq (.ops [⟨(some 11), none, .mv (.tmp 0)⟩,
    ⟨(some 12), none, .lenS (.tmp 11)⟩,
    ⟨(some 13), none, .mv (.const (Go.Value.int Go.IntKind.i64 0))⟩])
  (.block 0 (.loop (.seq (.ops [⟨(some 14), none, .bin .lss 3 (.tmp 13) (.tmp 12)⟩])
      (.seq (.cond (.tmp 14)
        (.skip)
        (.exit 0))
      (.seq (.block 1 (.seq (.ops [⟨(some 15), none, .idx (.tmp 11) (.tmp 13) 8⟩,
          ⟨(some 16), none, .ld (.tmp 15) (some 8)⟩,
          ⟨(some 6), none, .new 44 (Go.Value.agg #[(Go.Value.int Go.IntKind.i64 0), (Go.Value.string { data := #[] }), (Go.Value.string { data := #[] }), (Go.Value.int Go.IntKind.u64 0), (Go.Value.int Go.IntKind.i64 0), (Go.Value.string { data := #[] }), (Go.Value.int Go.IntKind.i64 0), (Go.Value.int Go.IntKind.i64 0)])⟩,
          ⟨none, none, .st (.tmp 6) (.tmp 16) 8⟩])
        (.ops [⟨(some 17), none, .mv (.tmp 4)⟩,
          ⟨(some 18), none, .fld (.tmp 6) 0⟩,
          ⟨(some 19), none, .fld (.tmp 18) 0⟩,
          ⟨(some 20), none, .ld (.tmp 19) none⟩,
          ⟨(some 21), none, .bin .sub 3 (.tmp 20) (.const (Go.Value.int Go.IntKind.i64 1))⟩,
          ⟨(some 22), none, .idx (.tmp 17) (.tmp 21) 1⟩,
          ⟨(some 23), none, .ld (.tmp 22) none⟩,
          ⟨(some 24), none, .bin .add 3 (.tmp 23) (.const (Go.Value.int Go.IntKind.i64 1))⟩,
          ⟨(some 25), none, .idx (.tmp 17) (.tmp 21) 1⟩,
          ⟨none, none, .st (.tmp 25) (.tmp 24) 1⟩])))
      (.ops [⟨(some 26), none, .bin .add 3 (.tmp 13) (.const (Go.Value.int Go.IntKind.i64 1))⟩,
        ⟨(some 13), none, .mv (.tmp 26)⟩])))))))
  (.seq (.ops [⟨(some 27), none, .mv (.tmp 4)⟩,
    ⟨(some 2), none, .mv (.tmp 27)⟩,
    ⟨(some 3), none, .mv (.const (Go.Value.int Go.IntKind.i64 0))⟩])
  (.ret)))))
theorem is_meter_Kinds : FnIs Try.prog F.meter_Kinds X.meter_Kinds 28 [.tmp 2, .tmp 3] := ⟨by kernel_rfl⟩

-- loop (inner ones first): [0, 1, 5, 6]
/-- haycroft/haycroftref20.Count: function 18 -/
abbrev F.ref20_Count : FuncId := 18
def X.ref20_Count : X :=
  .seq (.ops [⟨(some 4), none, .mv (.const (Go.Value.int Go.IntKind.i64 0))⟩])
  (.seq (.ops [⟨(some 5), none, .mv (.const (Go.Value.int Go.IntKind.i64 0))⟩])
  (.seq (.seq (.ops [⟨(some 6), none, .mv (.const (Go.Value.int Go.IntKind.i64 0))⟩])
  (.block 0 (.loop (.seq (.seq (.ops [⟨(some 7), none, .mv (.tmp 6)⟩,
        ⟨(some 8), none, .mv (.tmp 0)⟩,
        ⟨(some 9), none, .lenS (.tmp 8)⟩,
        ⟨(some 10), none, .bin .lss 3 (.tmp 7) (.tmp 9)⟩])
      (.cond (.tmp 10)
        (.skip)
        (.exit 0)))
      (.seq (.block 1 (.seq (.ops [⟨(some 13), none, .mv (.tmp 0)⟩,
          ⟨(some 14), none, .mv (.tmp 6)⟩,
          ⟨(some 15), none, .idx (.tmp 13) (.tmp 14) 8⟩,
          ⟨(some 16), none, .fld (.tmp 15) 0⟩,
          ⟨(some 17), none, .fld (.tmp 16) 1⟩,
          ⟨(some 18), none, .ld (.tmp 17) none⟩,
          ⟨(some 19), none, .mv (.tmp 1)⟩,
          ⟨(some 20), none, .bin .eql 9 (.tmp 18) (.tmp 19)⟩])
        (.cond (.tmp 20)
          (.ops [⟨(some 21), none, .mv (.tmp 5)⟩,
            ⟨(some 22), none, .bin .add 3 (.tmp 21) (.const (Go.Value.int Go.IntKind.i64 1))⟩,
            ⟨(some 5), none, .mv (.tmp 22)⟩])
          (.skip))))
      (.ops [⟨(some 11), none, .mv (.tmp 6)⟩,
        ⟨(some 12), none, .bin .add 3 (.tmp 11) (.const (Go.Value.int Go.IntKind.i64 1))⟩,
        ⟨(some 6), none, .mv (.tmp 12)⟩]))))))
  (.seq (.ops [⟨(some 23), none, .mv (.tmp 5)⟩,
    ⟨(some 4), none, .mv (.tmp 23)⟩])
  (.ret))))
theorem is_ref20_Count : FnIs Try.prog F.ref20_Count X.ref20_Count 24 [.tmp 4] := ⟨by kernel_rfl⟩

-- loop (inner ones first): [0, 1, 5]
/-- haycroft/haycroftref11.Ints: function 19 -/
abbrev F.ref11_Ints : FuncId := 19
def X.ref11_Ints : X :=
  .seq (.ops [⟨(some 4), none, .mv (.const (Go.Value.bool false))⟩])
  (.seq (.seq (.ops [⟨(some 6), none, .mv (.tmp 0)⟩,
    ⟨(some 7), none, .lenS (.tmp 6)⟩,
    ⟨(some 8), none, .mv (.tmp 1)⟩,
    ⟨(some 9), none, .lenS (.tmp 8)⟩,
    ⟨(some 10), none, .bin .neq 3 (.tmp 7) (.tmp 9)⟩])
  (.cond (.tmp 10)
    (.seq (.ops [⟨(some 4), none, .mv (.const (Go.Value.bool false))⟩])
    (.ret))
    (.skip)))
  (.seq (.seq (.ops [⟨(some 5), none, .mv (.const (Go.Value.int Go.IntKind.i64 0))⟩])
  (.block 0 (.loop (.seq (.seq (.ops [⟨(some 11), none, .mv (.tmp 5)⟩,
        ⟨(some 12), none, .mv (.tmp 0)⟩,
        ⟨(some 13), none, .lenS (.tmp 12)⟩,
        ⟨(some 14), none, .bin .lss 3 (.tmp 11) (.tmp 13)⟩])
      (.cond (.tmp 14)
        (.skip)
        (.exit 0)))
      (.seq (.block 1 (.seq (.drawn [(0, ⟨(some 17), none, .mv (.tmp 0)⟩),
          (1, ⟨(some 18), none, .mv (.tmp 5)⟩),
          (2, ⟨(some 19), none, .idx (.tmp 17) (.tmp 18) 1⟩),
          (3, ⟨(some 20), none, .ld (.tmp 19) none⟩),
          (4, ⟨(some 21), none, .mv (.tmp 1)⟩),
          (5, ⟨(some 22), none, .mv (.tmp 5)⟩),
          (6, ⟨(some 23), none, .idx (.tmp 21) (.tmp 22) 1⟩),
          (7, ⟨(some 24), none, .ld (.tmp 23) none⟩),
          (8, ⟨(some 25), none, .bin .neq 3 (.tmp 20) (.tmp 24)⟩)]
          [[], [], [0, 1], [2], [], [], [4, 5], [6], [3, 7]]
          [0, 0, 3, 7, 0, 0, 48, 112, 255] 0)
        (.cond (.tmp 25)
          (.seq (.ops [⟨(some 4), none, .mv (.const (Go.Value.bool false))⟩])
          (.ret))
          (.skip))))
      (.ops [⟨(some 15), none, .mv (.tmp 5)⟩,
        ⟨(some 16), none, .bin .add 3 (.tmp 15) (.const (Go.Value.int Go.IntKind.i64 1))⟩,
        ⟨(some 5), none, .mv (.tmp 16)⟩]))))))
  (.seq (.ops [⟨(some 4), none, .mv (.const (Go.Value.bool true))⟩])
  (.ret))))
theorem is_ref11_Ints : FnIs Try.prog F.ref11_Ints X.ref11_Ints 26 [.tmp 4] := ⟨by kernel_rfl⟩

-- loop (inner ones first): [0, 1, 5, 6, 7, 8, 9, 10, 11, 12, 13, 14, 15, 16]
/-- haycroft/haycroftlaw29.MeterCounts: function 7 -/
abbrev F.law29_MeterCounts : FuncId := 7
def X.law29_MeterCounts : X :=
  .seq (.ops [⟨(some 4), none, .mv (.const (Go.Value.bool false))⟩])
  (.seq (.seq (.ops [⟨(some 18), none, .call 8 []⟩,
    ⟨(some 19), none, .un .not (.tmp 18)⟩])
  (.cond (.tmp 19)
    (.seq (.ops [⟨(some 4), none, .mv (.const (Go.Value.bool false))⟩])
    (.ret))
    (.skip)))
  (.seq (.seq (.ops [⟨(some 20), none, .mv (.tmp 0)⟩,
    ⟨(some 21), none, .lenS (.tmp 20)⟩,
    ⟨(some 22), none, .bin .gtr 3 (.tmp 21) (.const (Go.Value.int Go.IntKind.i64 100))⟩])
  (.cond (.tmp 22)
    (.seq (.ops [⟨(some 4), none, .mv (.const (Go.Value.bool true))⟩])
    (.ret))
    (.skip)))
  (.seq (.ops [⟨(some 24), none, .mv (.tmp 0)⟩,
    ⟨(some 25), none, .call 15 [(.tmp 24)]⟩,
    ⟨(some 23), none, .mv (.tmp 25)⟩,
    ⟨(some 26), none, .ext (.tmp 23) 0⟩,
    ⟨(some 27), none, .ext (.tmp 23) 1⟩,
    ⟨(some 28), none, .ext (.tmp 23) 2⟩,
    ⟨(some 5), none, .mv (.tmp 26)⟩,
    ⟨(some 6), none, .mv (.tmp 27)⟩,
    ⟨(some 7), none, .mv (.tmp 28)⟩])
  (.seq (.ops [⟨(some 30), none, .mv (.tmp 0)⟩,
    ⟨(some 31), none, .mv (.tmp 1)⟩,
    ⟨(some 32), none, .call 16 [(.tmp 30), (.tmp 31)]⟩,
    ⟨(some 29), none, .mv (.tmp 32)⟩,
    ⟨(some 33), none, .ext (.tmp 29) 0⟩,
    ⟨(some 34), none, .ext (.tmp 29) 1⟩,
    ⟨(some 8), none, .mv (.tmp 33)⟩,
    ⟨(some 9), none, .mv (.tmp 34)⟩])
  (.seq (.ops [⟨(some 36), none, .mv (.tmp 0)⟩,
    ⟨(some 37), none, .call 17 [(.tmp 36)]⟩,
    ⟨(some 35), none, .mv (.tmp 37)⟩,
    ⟨(some 38), none, .ext (.tmp 35) 0⟩,
    ⟨(some 39), none, .ext (.tmp 35) 1⟩,
    ⟨(some 10), none, .mv (.tmp 38)⟩,
    ⟨(some 11), none, .mv (.tmp 39)⟩])
  (.seq (.seq (.ops [⟨(some 40), none, .mv (.tmp 0)⟩,
    ⟨(some 41), none, .call 10 [(.tmp 40)]⟩,
    ⟨(some 42), none, .un .not (.tmp 41)⟩])
  (.cond (.tmp 42)
    (.seq (.ops [⟨(some 43), none, .mv (.tmp 5)⟩,
      ⟨(some 44), none, .bin .eql 9 (.tmp 43) (.const (Go.Value.string { data := #[] }))⟩,
      ⟨(some 45), none, .mv (.tmp 44)⟩,
      ⟨(some 46), (some (45, true)), .mv (.tmp 6)⟩,
      ⟨(some 47), (some (45, true)), .bin .eql 3 (.tmp 46) (.const (Go.Value.int Go.IntKind.i64 0))⟩,
      ⟨(some 48), none, .pick (.tmp 45) (.tmp 47) (.const (Go.Value.bool false))⟩,
      ⟨(some 49), none, .mv (.tmp 48)⟩,
      ⟨(some 50), (some (49, true)), .mv (.tmp 7)⟩,
      ⟨(some 51), (some (49, true)), .bin .eql 26 (.tmp 50) (.const (Go.Value.int Go.IntKind.i64 1))⟩,
      ⟨(some 52), none, .pick (.tmp 49) (.tmp 51) (.const (Go.Value.bool false))⟩,
      ⟨(some 53), none, .mv (.tmp 52)⟩,
      ⟨(some 54), (some (53, true)), .mv (.tmp 8)⟩,
      ⟨(some 55), (some (53, true)), .lenS (.tmp 54)⟩,
      ⟨(some 56), (some (53, true)), .bin .eql 3 (.tmp 55) (.const (Go.Value.int Go.IntKind.i64 0))⟩,
      ⟨(some 57), none, .pick (.tmp 53) (.tmp 56) (.const (Go.Value.bool false))⟩,
      ⟨(some 58), none, .mv (.tmp 57)⟩,
      ⟨(some 59), (some (58, true)), .mv (.tmp 9)⟩,
      ⟨(some 60), (some (58, true)), .bin .eql 26 (.tmp 59) (.const (Go.Value.int Go.IntKind.i64 1))⟩,
      ⟨(some 61), none, .pick (.tmp 58) (.tmp 60) (.const (Go.Value.bool false))⟩,
      ⟨(some 62), none, .mv (.tmp 61)⟩,
      ⟨(some 63), (some (62, true)), .mv (.tmp 10)⟩,
      ⟨(some 64), (some (62, true)), .lenS (.tmp 63)⟩,
      ⟨(some 65), (some (62, true)), .bin .eql 3 (.tmp 64) (.const (Go.Value.int Go.IntKind.i64 0))⟩,
      ⟨(some 66), none, .pick (.tmp 62) (.tmp 65) (.const (Go.Value.bool false))⟩,
      ⟨(some 67), none, .mv (.tmp 66)⟩,
      ⟨(some 68), (some (67, true)), .mv (.tmp 11)⟩,
      ⟨(some 69), (some (67, true)), .bin .eql 26 (.tmp 68) (.const (Go.Value.int Go.IntKind.i64 1))⟩,
      ⟨(some 70), none, .pick (.tmp 67) (.tmp 69) (.const (Go.Value.bool false))⟩,
      ⟨(some 4), none, .mv (.tmp 70)⟩])
    (.ret))
    (.skip)))
  (.seq (.ops [⟨(some 12), none, .mv (.const (Go.Value.string { data := #[] }))⟩])
  (.seq (.ops [⟨(some 13), none, .mv (.const (Go.Value.int Go.IntKind.i64 0))⟩])
  (.seq (.ops [⟨(some 71), none, .bsl 3 1 0 [(Go.Value.int Go.IntKind.i64 0)] []⟩,
    ⟨(some 14), none, .mv (.tmp 71)⟩])
  (.seq (.ops [⟨(some 72), none, .bsl 3 1 4 [(Go.Value.int Go.IntKind.i64 0)] [(0, (.const (Go.Value.int Go.IntKind.i64 0))), (1, (.const (Go.Value.int Go.IntKind.i64 0))), (2, (.const (Go.Value.int Go.IntKind.i64 0))), (3, (.const (Go.Value.int Go.IntKind.i64 0)))]⟩,
    ⟨(some 15), none, .mv (.tmp 72)⟩])
  (.seq (.seq (.ops [⟨(some 16), none, .mv (.const (Go.Value.int Go.IntKind.i64 0))⟩])
  (.block 0 (.loop (.seq (.seq (.ops [⟨(some 73), none, .mv (.tmp 16)⟩,
        ⟨(some 74), none, .mv (.tmp 0)⟩,
        ⟨(some 75), none, .lenS (.tmp 74)⟩,
        ⟨(some 76), none, .bin .lss 3 (.tmp 73) (.tmp 75)⟩])
      (.cond (.tmp 76)
        (.skip)
        (.exit 0)))
      (.seq (.block 1 (.seq (.ops [⟨(some 79), none, .mv (.tmp 0)⟩,
          ⟨(some 80), none, .mv (.tmp 0)⟩,
          ⟨(some 81), none, .mv (.tmp 16)⟩,
          ⟨(some 82), none, .idx (.tmp 80) (.tmp 81) 8⟩,
          ⟨(some 83), none, .fld (.tmp 82) 0⟩,
          ⟨(some 84), none, .fld (.tmp 83) 1⟩,
          ⟨(some 85), none, .ld (.tmp 84) none⟩,
          ⟨(some 86), none, .call 18 [(.tmp 79), (.tmp 85)]⟩,
          ⟨(some 17), none, .mv (.tmp 86)⟩])
        (.seq (.seq (.ops [⟨(some 87), none, .mv (.tmp 17)⟩,
          ⟨(some 88), none, .mv (.tmp 13)⟩,
          ⟨(some 89), none, .bin .gtr 3 (.tmp 87) (.tmp 88)⟩,
          ⟨(some 90), none, .mv (.tmp 89)⟩,
          ⟨(some 91), (some (90, false)), .mv (.tmp 17)⟩,
          ⟨(some 92), (some (90, false)), .mv (.tmp 13)⟩,
          ⟨(some 93), (some (90, false)), .bin .eql 3 (.tmp 91) (.tmp 92)⟩,
          ⟨(some 94), (some (90, false)), .mv (.tmp 93)⟩,
          ⟨(some 95), (some (94, true)), .mv (.tmp 0)⟩,
          ⟨(some 96), (some (94, true)), .mv (.tmp 16)⟩,
          ⟨(some 97), (some (94, true)), .idx (.tmp 95) (.tmp 96) 8⟩,
          ⟨(some 98), (some (94, true)), .fld (.tmp 97) 0⟩,
          ⟨(some 99), (some (94, true)), .fld (.tmp 98) 1⟩,
          ⟨(some 100), (some (94, true)), .ld (.tmp 99) none⟩,
          ⟨(some 101), (some (94, true)), .mv (.tmp 12)⟩,
          ⟨(some 102), (some (94, true)), .bin .lss 9 (.tmp 100) (.tmp 101)⟩,
          ⟨(some 103), (some (90, false)), .pick (.tmp 94) (.tmp 102) (.const (Go.Value.bool false))⟩,
          ⟨(some 104), none, .pick (.tmp 90) (.const (Go.Value.bool true)) (.tmp 103)⟩])
        (.cond (.tmp 104)
          (.seq (.ops [⟨(some 105), none, .mv (.tmp 0)⟩,
            ⟨(some 106), none, .mv (.tmp 16)⟩,
            ⟨(some 107), none, .idx (.tmp 105) (.tmp 106) 8⟩,
            ⟨(some 108), none, .fld (.tmp 107) 0⟩,
            ⟨(some 109), none, .fld (.tmp 108) 1⟩,
            ⟨(some 110), none, .ld (.tmp 109) none⟩,
            ⟨(some 12), none, .mv (.tmp 110)⟩])
          (.ops [⟨(some 111), none, .mv (.tmp 17)⟩,
            ⟨(some 13), none, .mv (.tmp 111)⟩]))
          (.skip)))
        (.seq (.seq (.drawn [(0, ⟨(some 112), none, .mv (.tmp 0)⟩),
          (1, ⟨(some 113), none, .mv (.tmp 16)⟩),
          (2, ⟨(some 114), none, .idx (.tmp 112) (.tmp 113) 8⟩),
          (3, ⟨(some 115), none, .fld (.tmp 114) 7⟩),
          (4, ⟨(some 116), none, .ld (.tmp 115) none⟩),
          (5, ⟨(some 117), none, .bin .eql 3 (.tmp 116) (.const (Go.Value.int Go.IntKind.i64 0))⟩),
          (6, ⟨(some 118), none, .mv (.tmp 117)⟩),
          (7, ⟨(some 119), (some (118, false)), .mv (.tmp 0)⟩),
          (8, ⟨(some 120), (some (118, false)), .mv (.tmp 16)⟩),
          (9, ⟨(some 121), (some (118, false)), .idx (.tmp 119) (.tmp 120) 8⟩),
          (10, ⟨(some 122), (some (118, false)), .fld (.tmp 121) 7⟩),
          (11, ⟨(some 123), (some (118, false)), .ld (.tmp 122) none⟩),
          (12, ⟨(some 124), (some (118, false)), .mv (.tmp 0)⟩),
          (13, ⟨(some 125), (some (118, false)), .mv (.tmp 16)⟩),
          (14, ⟨(some 126), (some (118, false)), .idx (.tmp 124) (.tmp 125) 8⟩),
          (15, ⟨(some 127), (some (118, false)), .fld (.tmp 126) 6⟩),
          (16, ⟨(some 128), (some (118, false)), .ld (.tmp 127) none⟩),
          (17, ⟨(some 129), (some (118, false)), .bin .sub 3 (.tmp 123) (.tmp 128)⟩),
          (18, ⟨(some 130), (some (118, false)), .mv (.tmp 1)⟩),
          (19, ⟨(some 131), (some (118, false)), .bin .geq 3 (.tmp 129) (.tmp 130)⟩),
          (20, ⟨(some 132), none, .pick (.tmp 118) (.const (Go.Value.bool true)) (.tmp 131)⟩)]
          [[], [], [0, 1], [2], [3], [4], [5], [6], [6], [7, 8, 6], [9, 6], [10, 6], [6], [6], [12, 13, 6], [14, 6], [15, 6], [11, 16, 6], [6], [17, 18, 6], [6, 19]]
          [0, 0, 3, 7, 15, 31, 63, 127, 127, 511, 1023, 2047, 127, 127, 12415, 28799, 61567, 131071, 127, 524287, 1048575] 0)
        (.cond (.tmp 132)
          (.ops [⟨(some 133), none, .mv (.tmp 14)⟩,
            ⟨(some 134), none, .mv (.tmp 16)⟩,
            ⟨(some 135), none, .bsl 3 1 1 [(Go.Value.int Go.IntKind.i64 0)] [(0, (.tmp 134))]⟩,
            ⟨(some 136), none, .app 3 1 8 [(Go.Value.int Go.IntKind.i64 0)] (.tmp 133) (.tmp 135)⟩,
            ⟨(some 14), none, .mv (.tmp 136)⟩])
          (.skip)))
        (.ops [⟨(some 137), none, .mv (.tmp 15)⟩,
          ⟨(some 138), none, .mv (.tmp 0)⟩,
          ⟨(some 139), none, .mv (.tmp 16)⟩,
          ⟨(some 140), none, .idx (.tmp 138) (.tmp 139) 8⟩,
          ⟨(some 141), none, .fld (.tmp 140) 0⟩,
          ⟨(some 142), none, .fld (.tmp 141) 0⟩,
          ⟨(some 143), none, .ld (.tmp 142) none⟩,
          ⟨(some 144), none, .bin .sub 3 (.tmp 143) (.const (Go.Value.int Go.IntKind.i64 1))⟩,
          ⟨(some 145), none, .idx (.tmp 137) (.tmp 144) 1⟩,
          ⟨(some 146), none, .ld (.tmp 145) none⟩,
          ⟨(some 147), none, .bin .add 3 (.tmp 146) (.const (Go.Value.int Go.IntKind.i64 1))⟩,
          ⟨(some 148), none, .idx (.tmp 137) (.tmp 144) 1⟩,
          ⟨none, none, .st (.tmp 148) (.tmp 147) 1⟩])))))
      (.ops [⟨(some 77), none, .mv (.tmp 16)⟩,
        ⟨(some 78), none, .bin .add 3 (.tmp 77) (.const (Go.Value.int Go.IntKind.i64 1))⟩,
        ⟨(some 16), none, .mv (.tmp 78)⟩]))))))
  (.seq (.ops [⟨(some 149), none, .mv (.tmp 5)⟩,
    ⟨(some 150), none, .mv (.tmp 12)⟩,
    ⟨(some 151), none, .bin .eql 9 (.tmp 149) (.tmp 150)⟩,
    ⟨(some 152), none, .mv (.tmp 151)⟩,
    ⟨(some 153), (some (152, true)), .mv (.tmp 6)⟩,
    ⟨(some 154), (some (152, true)), .mv (.tmp 13)⟩,
    ⟨(some 155), (some (152, true)), .bin .eql 3 (.tmp 153) (.tmp 154)⟩,
    ⟨(some 156), none, .pick (.tmp 152) (.tmp 155) (.const (Go.Value.bool false))⟩,
    ⟨(some 157), none, .mv (.tmp 156)⟩,
    ⟨(some 158), (some (157, true)), .mv (.tmp 7)⟩,
    ⟨(some 159), (some (157, true)), .bin .eql 26 (.tmp 158) (.const (Go.Value.int Go.IntKind.i64 0))⟩,
    ⟨(some 160), none, .pick (.tmp 157) (.tmp 159) (.const (Go.Value.bool false))⟩,
    ⟨(some 161), none, .mv (.tmp 160)⟩,
    ⟨(some 162), (some (161, true)), .mv (.tmp 8)⟩,
    ⟨(some 163), (some (161, true)), .mv (.tmp 14)⟩,
    ⟨(some 164), (some (161, true)), .call 19 [(.tmp 162), (.tmp 163)]⟩,
    ⟨(some 165), none, .pick (.tmp 161) (.tmp 164) (.const (Go.Value.bool false))⟩,
    ⟨(some 166), none, .mv (.tmp 165)⟩,
    ⟨(some 167), (some (166, true)), .mv (.tmp 9)⟩,
    ⟨(some 168), (some (166, true)), .bin .eql 26 (.tmp 167) (.const (Go.Value.int Go.IntKind.i64 0))⟩,
    ⟨(some 169), none, .pick (.tmp 166) (.tmp 168) (.const (Go.Value.bool false))⟩,
    ⟨(some 170), none, .mv (.tmp 169)⟩,
    ⟨(some 171), (some (170, true)), .mv (.tmp 10)⟩,
    ⟨(some 172), (some (170, true)), .mv (.tmp 15)⟩,
    ⟨(some 173), (some (170, true)), .call 19 [(.tmp 171), (.tmp 172)]⟩,
    ⟨(some 174), none, .pick (.tmp 170) (.tmp 173) (.const (Go.Value.bool false))⟩,
    ⟨(some 175), none, .mv (.tmp 174)⟩,
    ⟨(some 176), (some (175, true)), .mv (.tmp 11)⟩,
    ⟨(some 177), (some (175, true)), .bin .eql 26 (.tmp 176) (.const (Go.Value.int Go.IntKind.i64 0))⟩,
    ⟨(some 178), none, .pick (.tmp 175) (.tmp 177) (.const (Go.Value.bool false))⟩,
    ⟨(some 4), none, .mv (.tmp 178)⟩])
  (.ret)))))))))))))
theorem is_law29_MeterCounts : FnIs Try.prog F.law29_MeterCounts X.law29_MeterCounts 179 [.tmp 4] := ⟨by kernel_rfl⟩

end Go.Proofs.Ytojopmkekimpjaa
