import Derived.Test.YtflbfdmmfoigaaaGreatProg
import Derived.Test.YtflbfdmmfoigaaaGreatHxS
import Derived.KernelRfl
import Derived.Test.YtflbfdmmfoigaaaGreatIr0
namespace Go.Proofs.YtflbfdmmfoigaaaGreat
open Go Go.HX
/-- (*haycroft/hlog.Log).Begin: function 10 -/
abbrev F.hlog_Log_Begin : FuncId := 10
def X.hlog_Log_Begin : X :=
  .seq (.ops [⟨(some 4), none, .mv (.const (Go.Value.int Go.IntKind.i64 0))⟩])
  (.seq (.block 0 (.seq (.ops [⟨(some 7), none, .mv (.tmp 0)⟩,
      ⟨(some 8), none, .eq false .ptr (.tmp 7) (.const (Go.Value.pointer none))⟩,
      ⟨(some 6), none, .mv (.tmp 8)⟩])
    (.cond (.tmp 6)
      (.seq (.ops [⟨(some 4), none, .mv (.const (Go.Value.int Go.IntKind.i64 2))⟩])
      (.ret))
      (.seq (.ops [⟨(some 10), none, .mv (.tmp 0)⟩,
        ⟨(some 11), none, .nilc (.tmp 10)⟩,
        ⟨(some 12), none, .fld (.tmp 11) 0⟩,
        ⟨(some 13), none, .ld (.tmp 12) none⟩,
        ⟨(some 14), none, .call 49 [(.tmp 13)]⟩,
        ⟨(some 15), none, .bin .neq 26 (.tmp 14) (.const (Go.Value.int Go.IntKind.u64 1))⟩,
        ⟨(some 16), none, .mv (.tmp 15)⟩,
        ⟨(some 17), (some (16, false)), .mv (.tmp 0)⟩,
        ⟨(some 18), (some (16, false)), .nilc (.tmp 17)⟩,
        ⟨(some 19), (some (16, false)), .fld (.tmp 18) 3⟩,
        ⟨(some 20), (some (16, false)), .ld (.tmp 19) none⟩,
        ⟨(some 21), (some (16, false)), .call 29 [(.tmp 20)]⟩,
        ⟨(some 22), (some (16, false)), .bin .neq 26 (.tmp 21) (.const (Go.Value.int Go.IntKind.u64 1))⟩,
        ⟨(some 23), none, .pick (.tmp 16) (.const (Go.Value.bool true)) (.tmp 22)⟩,
        ⟨(some 24), none, .mv (.tmp 23)⟩,
        ⟨(some 25), (some (24, false)), .mv (.tmp 0)⟩,
        ⟨(some 26), (some (24, false)), .nilc (.tmp 25)⟩,
        ⟨(some 27), (some (24, false)), .fld (.tmp 26) 2⟩,
        ⟨(some 28), (some (24, false)), .ld (.tmp 27) none⟩,
        ⟨(some 29), (some (24, false)), .call 31 [(.tmp 28), (.const (Go.Value.int Go.IntKind.i64 0))]⟩,
        ⟨(some 30), (some (24, false)), .bin .neq 3 (.tmp 29) (.const (Go.Value.int Go.IntKind.i64 0))⟩,
        ⟨(some 31), none, .pick (.tmp 24) (.const (Go.Value.bool true)) (.tmp 30)⟩,
        ⟨(some 32), none, .mv (.tmp 31)⟩,
        ⟨(some 33), (some (32, false)), .mv (.tmp 0)⟩,
        ⟨(some 34), (some (32, false)), .nilc (.tmp 33)⟩,
        ⟨(some 35), (some (32, false)), .fld (.tmp 34) 3⟩,
        ⟨(some 36), (some (32, false)), .ld (.tmp 35) none⟩,
        ⟨(some 37), (some (32, false)), .call 50 [(.tmp 36)]⟩,
        ⟨(some 38), (some (32, false)), .lenS (.tmp 37)⟩,
        ⟨(some 39), (some (32, false)), .bin .gtr 3 (.tmp 38) (.const (Go.Value.int Go.IntKind.i64 0))⟩,
        ⟨(some 40), none, .pick (.tmp 32) (.const (Go.Value.bool true)) (.tmp 39)⟩,
        ⟨(some 9), none, .mv (.tmp 40)⟩])
      (.cond (.tmp 9)
        (.seq (.ops [⟨(some 4), none, .mv (.const (Go.Value.int Go.IntKind.i64 8))⟩])
        (.ret))
        (.skip))))))
  (.seq (.seq (.ops [⟨(some 41), none, .mv (.tmp 0)⟩,
    ⟨(some 42), none, .nilc (.tmp 41)⟩,
    ⟨(some 43), none, .fld (.tmp 42) 0⟩,
    ⟨(some 44), none, .ld (.tmp 43) none⟩,
    ⟨(some 45), none, .mv (.tmp 1)⟩,
    ⟨(some 46), none, .call 51 [(.tmp 44), (.tmp 45)]⟩,
    ⟨(some 5), none, .mv (.tmp 46)⟩])
  (.seq (.ops [⟨(some 47), none, .mv (.tmp 5)⟩,
    ⟨(some 48), none, .bin .neq 27 (.tmp 47) (.const (Go.Value.int Go.IntKind.i64 0))⟩])
  (.cond (.tmp 48)
    (.seq (.ops [⟨(some 49), none, .mv (.tmp 5)⟩,
      ⟨(some 4), none, .mv (.tmp 49)⟩])
    (.ret))
    (.skip))))
  (.seq (.ops [⟨(some 50), none, .mv (.tmp 0)⟩,
    ⟨(some 51), none, .nilc (.tmp 50)⟩,
    ⟨(some 52), none, .fld (.tmp 51) 1⟩,
    ⟨(some 53), none, .ld (.tmp 52) none⟩,
    ⟨(some 54), none, .call 52 [(.tmp 53), (.const (Go.Value.int Go.IntKind.i64 0))]⟩])
  (.seq (.ops [⟨(some 55), none, .mv (.tmp 0)⟩,
    ⟨(some 56), none, .nilc (.tmp 55)⟩,
    ⟨(some 57), none, .fld (.tmp 56) 2⟩,
    ⟨(some 58), none, .ld (.tmp 57) none⟩,
    ⟨(some 59), none, .mv (.tmp 1)⟩,
    ⟨(some 60), none, .call 53 [(.tmp 58), (.tmp 59)]⟩])
  (.seq (.ops [⟨(some 61), none, .mv (.tmp 0)⟩,
    ⟨(some 62), none, .nilc (.tmp 61)⟩,
    ⟨(some 63), none, .fld (.tmp 62) 1⟩,
    ⟨(some 64), none, .ld (.tmp 63) none⟩,
    ⟨(some 65), none, .mv (.tmp 1)⟩,
    ⟨(some 66), none, .call 48 [(.tmp 64), (.tmp 65)]⟩,
    ⟨(some 4), none, .mv (.tmp 66)⟩])
  (.ret))))))
theorem is_hlog_Log_Begin : FnIs Tryz.prog F.hlog_Log_Begin X.hlog_Log_Begin 67 [.tmp 4] := ⟨by kernel_rfl⟩

/-- (*haycroft/tail.Tail).Close: function 58 -/
abbrev F.tail_Tail_Close : FuncId := 58
def X.tail_Tail_Close : X :=
  .seq (.ops [⟨(some 2), none, .mv (.const (Go.Value.int Go.IntKind.i64 0))⟩])
  (.seq (.block 0 (.seq (.ops [⟨(some 4), none, .mv (.tmp 0)⟩,
      ⟨(some 5), none, .eq false .ptr (.tmp 4) (.const (Go.Value.pointer none))⟩,
      ⟨(some 3), none, .mv (.tmp 5)⟩])
    (.cond (.tmp 3)
      (.seq (.ops [⟨(some 2), none, .mv (.const (Go.Value.int Go.IntKind.i64 2))⟩])
      (.ret))
      (.seq (.ops [⟨(some 7), none, .mv (.tmp 0)⟩,
        ⟨(some 8), none, .call 57 [(.tmp 7)]⟩,
        ⟨(some 9), none, .bin .eql 3 (.tmp 8) (.const (Go.Value.int Go.IntKind.i64 0))⟩,
        ⟨(some 6), none, .mv (.tmp 9)⟩])
      (.cond (.tmp 6)
        (.seq (.ops [⟨(some 2), none, .mv (.const (Go.Value.int Go.IntKind.i64 0))⟩])
        (.ret))
        (.skip))))))
  (.seq (.ops [⟨(some 10), none, .mv (.tmp 0)⟩,
    ⟨(some 11), none, .call 123 [(.tmp 10)]⟩,
    ⟨(some 2), none, .mv (.tmp 11)⟩])
  (.ret)))
theorem is_tail_Tail_Close : FnIs Tryz.prog F.tail_Tail_Close X.tail_Tail_Close 12 [.tmp 2] := ⟨by kernel_rfl⟩

/-- (*haycroft/hlog.Log).Close: function 12 -/
abbrev F.hlog_Log_Close : FuncId := 12
def X.hlog_Log_Close : X :=
  .seq (.ops [⟨(some 2), none, .mv (.const (Go.Value.int Go.IntKind.i64 0))⟩])
  (.seq (.block 0 (.seq (.ops [⟨(some 4), none, .mv (.tmp 0)⟩,
      ⟨(some 5), none, .eq false .ptr (.tmp 4) (.const (Go.Value.pointer none))⟩,
      ⟨(some 3), none, .mv (.tmp 5)⟩])
    (.cond (.tmp 3)
      (.seq (.ops [⟨(some 2), none, .mv (.const (Go.Value.int Go.IntKind.i64 2))⟩])
      (.ret))
      (.seq (.ops [⟨(some 7), none, .mv (.tmp 0)⟩,
        ⟨(some 8), none, .nilc (.tmp 7)⟩,
        ⟨(some 9), none, .fld (.tmp 8) 0⟩,
        ⟨(some 10), none, .ld (.tmp 9) none⟩,
        ⟨(some 11), none, .call 57 [(.tmp 10)]⟩,
        ⟨(some 12), none, .bin .eql 3 (.tmp 11) (.const (Go.Value.int Go.IntKind.i64 0))⟩,
        ⟨(some 6), none, .mv (.tmp 12)⟩])
      (.cond (.tmp 6)
        (.seq (.ops [⟨(some 2), none, .mv (.const (Go.Value.int Go.IntKind.i64 0))⟩])
        (.ret))
        (.skip))))))
  (.seq (.ops [⟨(some 13), none, .mv (.tmp 0)⟩,
    ⟨(some 14), none, .mv (.tmp 0)⟩,
    ⟨(some 15), none, .nilc (.tmp 14)⟩,
    ⟨(some 16), none, .fld (.tmp 15) 0⟩,
    ⟨(some 17), none, .ld (.tmp 16) none⟩,
    ⟨(some 18), none, .more (.mkf 58 [(.tmp 17)] [])⟩,
    ⟨(some 19), none, .call 55 [(.tmp 13), (.tmp 18)]⟩,
    ⟨(some 2), none, .mv (.tmp 19)⟩])
  (.ret)))
theorem is_hlog_Log_Close : FnIs Tryz.prog F.hlog_Log_Close X.hlog_Log_Close 20 [.tmp 2] := ⟨by kernel_rfl⟩
theorem bd_tail_Tail_Close : bodyOk Tryz.prog F.tail_Tail_Close = true := by kernel_rfl

/-- (*haycroft/pages.Buffer).Bits: function 71 -/
abbrev F.pages_Buffer_Bits : FuncId := 71
def X.pages_Buffer_Bits : X :=
  .seq (.ops [⟨(some 2), none, .mv (.const (Go.Value.int Go.IntKind.i64 0))⟩])
  (.seq (.seq (.ops [⟨(some 3), none, .mv (.tmp 0)⟩,
    ⟨(some 4), none, .eq false .ptr (.tmp 3) (.const (Go.Value.pointer none))⟩])
  (.cond (.tmp 4)
    (.seq (.ops [⟨(some 2), none, .mv (.const (Go.Value.int Go.IntKind.i64 0))⟩])
    (.ret))
    (.skip)))
  (.seq (.ops [⟨(some 5), none, .mv (.tmp 0)⟩,
    ⟨(some 6), none, .nilc (.tmp 5)⟩,
    ⟨(some 7), none, .fld (.tmp 6) 0⟩,
    ⟨(some 8), none, .ld (.tmp 7) none⟩,
    ⟨(some 2), none, .mv (.tmp 8)⟩])
  (.ret)))
theorem is_pages_Buffer_Bits : FnIs Tryz.prog F.pages_Buffer_Bits X.pages_Buffer_Bits 9 [.tmp 2] := ⟨by kernel_rfl⟩

/-- haycroft/field.Right: function 214 -/
abbrev F.field_Right : FuncId := 214
def X.field_Right : X :=
  .seq (.ops [⟨(some 4), none, .mv (.const (Go.Value.bool false))⟩])
  (.seq (.ops [⟨(some 5), none, .mv (.tmp 0)⟩,
    ⟨(some 6), none, .bin .geq 3 (.tmp 5) (.const (Go.Value.int Go.IntKind.i64 0))⟩,
    ⟨(some 7), none, .mv (.tmp 6)⟩,
    ⟨(some 8), (some (7, true)), .mv (.tmp 0)⟩,
    ⟨(some 9), (some (7, true)), .bin .lss 3 (.tmp 8) (.const (Go.Value.int Go.IntKind.i64 64))⟩,
    ⟨(some 10), none, .pick (.tmp 7) (.tmp 9) (.const (Go.Value.bool false))⟩,
    ⟨(some 11), none, .mv (.tmp 10)⟩,
    ⟨(some 12), (some (11, true)), .mv (.tmp 1)⟩,
    ⟨(some 13), (some (11, true)), .bin .geq 3 (.tmp 12) (.const (Go.Value.int Go.IntKind.i64 1))⟩,
    ⟨(some 14), none, .pick (.tmp 11) (.tmp 13) (.const (Go.Value.bool false))⟩,
    ⟨(some 15), none, .mv (.tmp 14)⟩,
    ⟨(some 16), (some (15, true)), .mv (.tmp 1)⟩,
    ⟨(some 17), (some (15, true)), .mv (.tmp 0)⟩,
    ⟨(some 18), (some (15, true)), .bin .sub 3 (.const (Go.Value.int Go.IntKind.i64 64)) (.tmp 17)⟩,
    ⟨(some 19), (some (15, true)), .bin .leq 3 (.tmp 16) (.tmp 18)⟩,
    ⟨(some 20), none, .pick (.tmp 15) (.tmp 19) (.const (Go.Value.bool false))⟩,
    ⟨(some 4), none, .mv (.tmp 20)⟩])
  (.ret))
theorem is_field_Right : FnIs Tryz.prog F.field_Right X.field_Right 21 [.tmp 4] := ⟨by kernel_rfl⟩

/-- haycroft/field.Get: function 185 -/
abbrev F.field_Get : FuncId := 185
def X.field_Get : X :=
  .seq (.ops [⟨(some 6), none, .mv (.const (Go.Value.int Go.IntKind.u64 0))⟩])
  (.seq (.seq (.ops [⟨(some 7), none, .mv (.tmp 1)⟩,
    ⟨(some 8), none, .mv (.tmp 2)⟩,
    ⟨(some 9), none, .call 214 [(.tmp 7), (.tmp 8)]⟩,
    ⟨(some 10), none, .un .not (.tmp 9)⟩])
  (.cond (.tmp 10)
    (.seq (.ops [⟨(some 6), none, .mv (.const (Go.Value.int Go.IntKind.u64 0))⟩])
    (.ret))
    (.skip)))
  (.seq (.drawn [(0, ⟨(some 11), none, .mv (.tmp 0)⟩),
    (1, ⟨(some 12), none, .mv (.tmp 1)⟩),
    (2, ⟨(some 13), none, .bin .shr 26 (.tmp 11) (.tmp 12)⟩),
    (3, ⟨(some 14), none, .mv (.tmp 2)⟩),
    (4, ⟨(some 15), none, .call 110 [(.tmp 14)]⟩),
    (5, ⟨(some 16), none, .bin .and 26 (.tmp 13) (.tmp 15)⟩),
    (6, ⟨(some 6), none, .mv (.tmp 16)⟩)]
    [[], [], [0, 1], [], [3], [2, 4], [5, 4, 0, 1, 2, 3, 4, 5]]
    [0, 0, 3, 0, 8, 31, 63] 16)
  (.ret)))
theorem is_field_Get : FnIs Tryz.prog F.field_Get X.field_Get 17 [.tmp 6] := ⟨by kernel_rfl⟩

/-- haycroft/place.part: function 129 -/
abbrev F.place_part : FuncId := 129
def X.place_part : X :=
  .seq (.ops [⟨(some 8), none, .mv (.const (Go.Value.int Go.IntKind.i64 0))⟩])
  (.seq (.seq (.ops [⟨(some 9), none, .mv (.tmp 0)⟩,
    ⟨(some 10), none, .call 115 [(.tmp 9)]⟩,
    ⟨(some 11), none, .un .not (.tmp 10)⟩,
    ⟨(some 12), none, .mv (.tmp 11)⟩,
    ⟨(some 13), (some (12, false)), .mv (.tmp 1)⟩,
    ⟨(some 14), (some (12, false)), .bin .gtr 26 (.tmp 13) (.const (Go.Value.int Go.IntKind.u64 281474976710655))⟩,
    ⟨(some 15), none, .pick (.tmp 12) (.const (Go.Value.bool true)) (.tmp 14)⟩])
  (.cond (.tmp 15)
    (.seq (.ops [⟨(some 8), none, .mv (.const (Go.Value.int Go.IntKind.i64 0))⟩])
    (.ret))
    (.skip)))
  (.seq (.ops [⟨(some 16), none, .mv (.tmp 1)⟩,
    ⟨(some 17), none, .mv (.tmp 2)⟩,
    ⟨(some 18), none, .mv (.tmp 3)⟩,
    ⟨(some 19), none, .call 185 [(.tmp 16), (.tmp 17), (.tmp 18)]⟩,
    ⟨(some 20), none, .conv Go.IntKind.i64 (.tmp 19)⟩,
    ⟨(some 8), none, .mv (.tmp 20)⟩])
  (.ret)))
theorem is_place_part : FnIs Tryz.prog F.place_part X.place_part 21 [.tmp 8] := ⟨by kernel_rfl⟩

/-- haycroft/place.Page: function 70 -/
abbrev F.place_Page : FuncId := 70
def X.place_Page : X :=
  .seq (.ops [⟨(some 4), none, .mv (.const (Go.Value.int Go.IntKind.i64 0))⟩])
  (.seq (.ops [⟨(some 5), none, .mv (.tmp 0)⟩,
    ⟨(some 6), none, .mv (.tmp 1)⟩,
    ⟨(some 7), none, .mv (.tmp 0)⟩,
    ⟨(some 8), none, .mv (.tmp 0)⟩,
    ⟨(some 9), none, .bin .sub 3 (.const (Go.Value.int Go.IntKind.i64 48)) (.tmp 8)⟩,
    ⟨(some 10), none, .call 129 [(.tmp 5), (.tmp 6), (.tmp 7), (.tmp 9)]⟩,
    ⟨(some 4), none, .mv (.tmp 10)⟩])
  (.ret))
theorem is_place_Page : FnIs Tryz.prog F.place_Page X.place_Page 11 [.tmp 4] := ⟨by kernel_rfl⟩

/-- (*haycroft/marks.Set).Region: function 69 -/
abbrev F.marks_Set_Region : FuncId := 69
def X.marks_Set_Region : X :=
  .seq (.ops [⟨(some 6), none, .mv (.const (Go.Value.int Go.IntKind.i64 0))⟩])
  (.seq (.block 0 (.seq (.ops [⟨(some 8), none, .mv (.tmp 0)⟩,
      ⟨(some 9), none, .eq false .ptr (.tmp 8) (.const (Go.Value.pointer none))⟩,
      ⟨(some 10), none, .mv (.tmp 9)⟩,
      ⟨(some 11), (some (10, false)), .mv (.tmp 1)⟩,
      ⟨(some 12), (some (10, false)), .bin .lss 3 (.tmp 11) (.const (Go.Value.int Go.IntKind.i64 0))⟩,
      ⟨(some 13), none, .pick (.tmp 10) (.const (Go.Value.bool true)) (.tmp 12)⟩,
      ⟨(some 14), none, .mv (.tmp 13)⟩,
      ⟨(some 15), (some (14, false)), .mv (.tmp 1)⟩,
      ⟨(some 16), (some (14, false)), .mv (.tmp 2)⟩,
      ⟨(some 17), (some (14, false)), .bin .gtr 3 (.tmp 15) (.tmp 16)⟩,
      ⟨(some 18), none, .pick (.tmp 14) (.const (Go.Value.bool true)) (.tmp 17)⟩,
      ⟨(some 7), none, .mv (.tmp 18)⟩])
    (.cond (.tmp 7)
      (.seq (.ops [⟨(some 6), none, .mv (.const (Go.Value.int Go.IntKind.i64 0))⟩])
      (.ret))
      (.seq (.ops [⟨(some 20), none, .mv (.tmp 1)⟩,
        ⟨(some 21), none, .mv (.tmp 0)⟩,
        ⟨(some 22), none, .call 31 [(.tmp 21), (.const (Go.Value.int Go.IntKind.i64 0))]⟩,
        ⟨(some 23), none, .bin .geq 3 (.tmp 20) (.tmp 22)⟩,
        ⟨(some 19), none, .mv (.tmp 23)⟩])
      (.cond (.tmp 19)
        (.seq (.ops [⟨(some 6), none, .mv (.const (Go.Value.int Go.IntKind.i64 1))⟩])
        (.ret))
        (.seq (.ops [⟨(some 25), none, .mv (.tmp 1)⟩,
          ⟨(some 26), none, .mv (.tmp 0)⟩,
          ⟨(some 27), none, .call 31 [(.tmp 26), (.const (Go.Value.int Go.IntKind.i64 1))]⟩,
          ⟨(some 28), none, .bin .geq 3 (.tmp 25) (.tmp 27)⟩,
          ⟨(some 24), none, .mv (.tmp 28)⟩])
        (.cond (.tmp 24)
          (.seq (.ops [⟨(some 6), none, .mv (.const (Go.Value.int Go.IntKind.i64 2))⟩])
          (.ret))
          (.seq (.ops [⟨(some 30), none, .mv (.tmp 1)⟩,
            ⟨(some 31), none, .mv (.tmp 0)⟩,
            ⟨(some 32), none, .call 31 [(.tmp 31), (.const (Go.Value.int Go.IntKind.i64 3))]⟩,
            ⟨(some 33), none, .bin .geq 3 (.tmp 30) (.tmp 32)⟩,
            ⟨(some 29), none, .mv (.tmp 33)⟩])
          (.cond (.tmp 29)
            (.seq (.ops [⟨(some 6), none, .mv (.const (Go.Value.int Go.IntKind.i64 3))⟩])
            (.ret))
            (.skip))))))))))
  (.seq (.ops [⟨(some 6), none, .mv (.const (Go.Value.int Go.IntKind.i64 4))⟩])
  (.ret)))
theorem is_marks_Set_Region : FnIs Tryz.prog F.marks_Set_Region X.marks_Set_Region 34 [.tmp 6] := ⟨by kernel_rfl⟩

/-- (*haycroft/hlog.Log).Region: function 18 -/
abbrev F.hlog_Log_Region : FuncId := 18
def X.hlog_Log_Region : X :=
  .seq (.ops [⟨(some 4), none, .mv (.const (Go.Value.int Go.IntKind.i64 0))⟩])
  (.seq (.seq (.ops [⟨(some 5), none, .mv (.tmp 0)⟩,
    ⟨(some 6), none, .eq false .ptr (.tmp 5) (.const (Go.Value.pointer none))⟩,
    ⟨(some 7), none, .mv (.tmp 6)⟩,
    ⟨(some 8), (some (7, false)), .mv (.tmp 1)⟩,
    ⟨(some 9), (some (7, false)), .bin .gtr 26 (.tmp 8) (.const (Go.Value.int Go.IntKind.u64 281474976710655))⟩,
    ⟨(some 10), none, .pick (.tmp 7) (.const (Go.Value.bool true)) (.tmp 9)⟩])
  (.cond (.tmp 10)
    (.seq (.ops [⟨(some 4), none, .mv (.const (Go.Value.int Go.IntKind.i64 0))⟩])
    (.ret))
    (.skip)))
  (.seq (.drawn [(0, ⟨(some 11), none, .mv (.tmp 0)⟩),
    (1, ⟨(some 12), none, .nilc (.tmp 11)⟩),
    (2, ⟨(some 13), none, .fld (.tmp 12) 2⟩),
    (3, ⟨(some 14), none, .ld (.tmp 13) none⟩),
    (4, ⟨(some 15), none, .mv (.tmp 0)⟩),
    (5, ⟨(some 16), none, .nilc (.tmp 15)⟩),
    (6, ⟨(some 17), none, .fld (.tmp 16) 1⟩),
    (7, ⟨(some 18), none, .ld (.tmp 17) none⟩),
    (9, ⟨(some 20), none, .mv (.tmp 1)⟩),
    (11, ⟨(some 22), none, .mv (.tmp 0)⟩),
    (12, ⟨(some 23), none, .nilc (.tmp 22)⟩),
    (13, ⟨(some 24), none, .fld (.tmp 23) 0⟩),
    (14, ⟨(some 25), none, .ld (.tmp 24) none⟩),
    (8, ⟨(some 19), none, .call 71 [(.tmp 18)]⟩),
    (10, ⟨(some 21), none, .call 70 [(.tmp 19), (.tmp 20)]⟩),
    (15, ⟨(some 26), none, .call 39 [(.tmp 25)]⟩),
    (16, ⟨(some 27), none, .call 69 [(.tmp 14), (.tmp 21), (.tmp 26)]⟩),
    (17, ⟨(some 4), none, .mv (.tmp 27)⟩)]
    [[], [0], [1], [2], [], [4], [5], [6], [7], [], [8, 9, 8], [], [11], [12], [13], [14, 10], [3, 10, 15, 15], [16, 16, 0, 1, 2, 3, 4, 5, 6, 7, 8, 9, 10, 11, 12, 13, 14, 15, 16]]
    [0, 1, 3, 7, 0, 16, 48, 112, 240, 0, 1008, 0, 2048, 6144, 14336, 32752, 65535, 131071] 99584)
  (.ret)))
theorem is_hlog_Log_Region : FnIs Tryz.prog F.hlog_Log_Region X.hlog_Log_Region 28 [.tmp 4] := ⟨by kernel_rfl⟩

/-- (*haycroft/hlog.Log).Pages: function 20 -/
abbrev F.hlog_Log_Pages : FuncId := 20
def X.hlog_Log_Pages : X :=
  .seq (.ops [⟨(some 2), none, .mv (.const (Go.Value.pointer none))⟩])
  (.seq (.seq (.ops [⟨(some 3), none, .mv (.tmp 0)⟩,
    ⟨(some 4), none, .eq false .ptr (.tmp 3) (.const (Go.Value.pointer none))⟩])
  (.cond (.tmp 4)
    (.seq (.ops [⟨(some 2), none, .mv (.const (Go.Value.pointer none))⟩])
    (.ret))
    (.skip)))
  (.seq (.ops [⟨(some 5), none, .mv (.tmp 0)⟩,
    ⟨(some 6), none, .nilc (.tmp 5)⟩,
    ⟨(some 7), none, .fld (.tmp 6) 1⟩,
    ⟨(some 8), none, .ld (.tmp 7) none⟩,
    ⟨(some 2), none, .mv (.tmp 8)⟩])
  (.ret)))
theorem is_hlog_Log_Pages : FnIs Tryz.prog F.hlog_Log_Pages X.hlog_Log_Pages 9 [.tmp 2] := ⟨by kernel_rfl⟩

/-- (*haycroft/hlog.Log).Marks: function 21 -/
abbrev F.hlog_Log_Marks : FuncId := 21
def X.hlog_Log_Marks : X :=
  .seq (.ops [⟨(some 2), none, .mv (.const (Go.Value.pointer none))⟩])
  (.seq (.seq (.ops [⟨(some 3), none, .mv (.tmp 0)⟩,
    ⟨(some 4), none, .eq false .ptr (.tmp 3) (.const (Go.Value.pointer none))⟩])
  (.cond (.tmp 4)
    (.seq (.ops [⟨(some 2), none, .mv (.const (Go.Value.pointer none))⟩])
    (.ret))
    (.skip)))
  (.seq (.ops [⟨(some 5), none, .mv (.tmp 0)⟩,
    ⟨(some 6), none, .nilc (.tmp 5)⟩,
    ⟨(some 7), none, .fld (.tmp 6) 2⟩,
    ⟨(some 8), none, .ld (.tmp 7) none⟩,
    ⟨(some 2), none, .mv (.tmp 8)⟩])
  (.ret)))
theorem is_hlog_Log_Marks : FnIs Tryz.prog F.hlog_Log_Marks X.hlog_Log_Marks 9 [.tmp 2] := ⟨by kernel_rfl⟩

/-- (*haycroft/hlog.Log).Epoch: function 23 -/
abbrev F.hlog_Log_Epoch : FuncId := 23
def X.hlog_Log_Epoch : X :=
  .seq (.ops [⟨(some 2), none, .mv (.const (Go.Value.pointer none))⟩])
  (.seq (.seq (.ops [⟨(some 3), none, .mv (.tmp 0)⟩,
    ⟨(some 4), none, .eq false .ptr (.tmp 3) (.const (Go.Value.pointer none))⟩])
  (.cond (.tmp 4)
    (.seq (.ops [⟨(some 2), none, .mv (.const (Go.Value.pointer none))⟩])
    (.ret))
    (.skip)))
  (.seq (.ops [⟨(some 5), none, .mv (.tmp 0)⟩,
    ⟨(some 6), none, .nilc (.tmp 5)⟩,
    ⟨(some 7), none, .fld (.tmp 6) 3⟩,
    ⟨(some 8), none, .ld (.tmp 7) none⟩,
    ⟨(some 2), none, .mv (.tmp 8)⟩])
  (.ret)))
theorem is_hlog_Log_Epoch : FnIs Tryz.prog F.hlog_Log_Epoch X.hlog_Log_Epoch 9 [.tmp 2] := ⟨by kernel_rfl⟩

/-- (*haycroft/hlog.Log).Device: function 24 -/
abbrev F.hlog_Log_Device : FuncId := 24
def X.hlog_Log_Device : X :=
  .seq (.ops [⟨(some 2), none, .mv (.const (Go.Value.pointer none))⟩])
  (.seq (.seq (.ops [⟨(some 3), none, .mv (.tmp 0)⟩,
    ⟨(some 4), none, .eq false .ptr (.tmp 3) (.const (Go.Value.pointer none))⟩])
  (.cond (.tmp 4)
    (.seq (.ops [⟨(some 2), none, .mv (.const (Go.Value.pointer none))⟩])
    (.ret))
    (.skip)))
  (.seq (.ops [⟨(some 5), none, .mv (.tmp 0)⟩,
    ⟨(some 6), none, .nilc (.tmp 5)⟩,
    ⟨(some 7), none, .fld (.tmp 6) 5⟩,
    ⟨(some 8), none, .ld (.tmp 7) none⟩,
    ⟨(some 2), none, .mv (.tmp 8)⟩])
  (.ret)))
theorem is_hlog_Log_Device : FnIs Tryz.prog F.hlog_Log_Device X.hlog_Log_Device 9 [.tmp 2] := ⟨by kernel_rfl⟩

/-- (*haycroft/hlog.Log).Waiting: function 25 -/
abbrev F.hlog_Log_Waiting : FuncId := 25
def X.hlog_Log_Waiting : X :=
  .seq (.ops [⟨(some 2), none, .mv (.const (Go.Value.slice none 0 0))⟩])
  (.seq (.seq (.ops [⟨(some 3), none, .mv (.tmp 0)⟩,
    ⟨(some 4), none, .eq false .ptr (.tmp 3) (.const (Go.Value.pointer none))⟩])
  (.cond (.tmp 4)
    (.seq (.ops [⟨(some 2), none, .mv (.const (Go.Value.slice none 0 0))⟩])
    (.ret))
    (.skip)))
  (.seq (.ops [⟨(some 5), none, .mv (.tmp 0)⟩,
    ⟨(some 6), none, .nilc (.tmp 5)⟩,
    ⟨(some 7), none, .fld (.tmp 6) 4⟩,
    ⟨(some 8), none, .ld (.tmp 7) none⟩,
    ⟨(some 9), none, .call 75 [(.tmp 8)]⟩,
    ⟨(some 2), none, .mv (.tmp 9)⟩])
  (.ret)))
theorem is_hlog_Log_Waiting : FnIs Tryz.prog F.hlog_Log_Waiting X.hlog_Log_Waiting 10 [.tmp 2] := ⟨by kernel_rfl⟩

/-- haycroft/haycroftlaw15.HlogNil: function 3 -/
abbrev F.law15_HlogNil : FuncId := 3
def X.law15_HlogNil : X :=
  .seq (.ops [⟨(some 2), none, .box 23 (.tmp 0)⟩,
    ⟨(some 4), none, .mv (.const (Go.Value.bool false))⟩])
  (.seq (.seq (.ops [⟨(some 13), none, .call 6 []⟩,
    ⟨(some 14), none, .un .not (.tmp 13)⟩])
  (.cond (.tmp 14)
    (.seq (.ops [⟨(some 4), none, .mv (.const (Go.Value.bool false))⟩])
    (.ret))
    (.skip)))
  (.seq (.ops [⟨(some 5), none, .mv (.const (Go.Value.pointer none))⟩])
  (.seq (.ops [⟨(some 16), none, .mv (.tmp 5)⟩,
    ⟨(some 17), none, .mv (.tmp 1)⟩,
    ⟨(some 18), none, .call 7 [(.tmp 16), (.tmp 17)]⟩,
    ⟨(some 15), none, .mv (.tmp 18)⟩,
    ⟨(some 19), none, .ext (.tmp 15) 0⟩,
    ⟨(some 20), none, .ext (.tmp 15) 1⟩,
    ⟨(some 21), none, .ext (.tmp 15) 2⟩,
    ⟨(some 6), none, .mv (.tmp 19)⟩,
    ⟨(some 7), none, .mv (.tmp 20)⟩,
    ⟨(some 8), none, .mv (.tmp 21)⟩])
  (.seq (.ops [⟨(some 23), none, .mv (.tmp 5)⟩,
    ⟨(some 24), none, .mv (.tmp 1)⟩,
    ⟨(some 25), none, .call 8 [(.tmp 23), (.tmp 24)]⟩,
    ⟨(some 22), none, .mv (.tmp 25)⟩,
    ⟨(some 26), none, .ext (.tmp 22) 0⟩,
    ⟨(some 27), none, .ext (.tmp 22) 1⟩,
    ⟨(some 9), none, .mv (.tmp 26)⟩,
    ⟨(some 10), none, .mv (.tmp 27)⟩])
  (.seq (.ops [⟨(some 29), none, .ld (.tmp 2) (some 6)⟩,
    ⟨(some 30), none, .call 9 [(.tmp 29), (.const (Go.Value.pointer none))]⟩,
    ⟨(some 28), none, .mv (.tmp 30)⟩,
    ⟨(some 31), none, .ext (.tmp 28) 0⟩,
    ⟨(some 32), none, .ext (.tmp 28) 1⟩,
    ⟨(some 11), none, .mv (.tmp 31)⟩,
    ⟨(some 12), none, .mv (.tmp 32)⟩])
  (.seq (.ops [⟨(some 33), none, .mv (.tmp 6)⟩,
    ⟨(some 34), none, .bin .eql 26 (.tmp 33) (.const (Go.Value.int Go.IntKind.u64 0))⟩,
    ⟨(some 35), none, .mv (.tmp 34)⟩,
    ⟨(some 36), (some (35, true)), .mv (.tmp 7)⟩,
    ⟨(some 37), (some (35, true)), .bin .eql 3 (.tmp 36) (.const (Go.Value.int Go.IntKind.i64 0))⟩,
    ⟨(some 38), none, .pick (.tmp 35) (.tmp 37) (.const (Go.Value.bool false))⟩,
    ⟨(some 39), none, .mv (.tmp 38)⟩,
    ⟨(some 40), (some (39, true)), .mv (.tmp 8)⟩,
    ⟨(some 41), (some (39, true)), .bin .eql 27 (.tmp 40) (.const (Go.Value.int Go.IntKind.i64 2))⟩,
    ⟨(some 42), none, .pick (.tmp 39) (.tmp 41) (.const (Go.Value.bool false))⟩,
    ⟨(some 43), none, .mv (.tmp 42)⟩,
    ⟨(some 44), (some (43, true)), .mv (.tmp 9)⟩,
    ⟨(some 45), (some (43, true)), .bin .eql 3 (.tmp 44) (.const (Go.Value.int Go.IntKind.i64 0))⟩,
    ⟨(some 46), none, .pick (.tmp 43) (.tmp 45) (.const (Go.Value.bool false))⟩,
    ⟨(some 47), none, .mv (.tmp 46)⟩,
    ⟨(some 48), (some (47, true)), .mv (.tmp 10)⟩,
    ⟨(some 49), (some (47, true)), .bin .eql 27 (.tmp 48) (.const (Go.Value.int Go.IntKind.i64 2))⟩,
    ⟨(some 50), none, .pick (.tmp 47) (.tmp 49) (.const (Go.Value.bool false))⟩,
    ⟨(some 51), none, .mv (.tmp 50)⟩,
    ⟨(some 52), (some (51, true)), .mv (.tmp 11)⟩,
    ⟨(some 53), (some (51, true)), .eq false .ptr (.tmp 52) (.const (Go.Value.pointer none))⟩,
    ⟨(some 54), none, .pick (.tmp 51) (.tmp 53) (.const (Go.Value.bool false))⟩,
    ⟨(some 55), none, .mv (.tmp 54)⟩,
    ⟨(some 56), (some (55, true)), .mv (.tmp 12)⟩,
    ⟨(some 57), (some (55, true)), .bin .eql 27 (.tmp 56) (.const (Go.Value.int Go.IntKind.i64 2))⟩,
    ⟨(some 58), none, .pick (.tmp 55) (.tmp 57) (.const (Go.Value.bool false))⟩,
    ⟨(some 59), none, .mv (.tmp 58)⟩,
    ⟨(some 60), (some (59, true)), .mv (.tmp 5)⟩,
    ⟨(some 61), (some (59, true)), .mv (.tmp 1)⟩,
    ⟨(some 62), (some (59, true)), .call 10 [(.tmp 60), (.tmp 61)]⟩,
    ⟨(some 63), (some (59, true)), .bin .eql 27 (.tmp 62) (.const (Go.Value.int Go.IntKind.i64 2))⟩,
    ⟨(some 64), none, .pick (.tmp 59) (.tmp 63) (.const (Go.Value.bool false))⟩,
    ⟨(some 65), none, .mv (.tmp 64)⟩,
    ⟨(some 66), (some (65, true)), .mv (.tmp 5)⟩,
    ⟨(some 67), (some (65, true)), .call 11 [(.tmp 66)]⟩,
    ⟨(some 68), (some (65, true)), .bin .eql 27 (.tmp 67) (.const (Go.Value.int Go.IntKind.i64 2))⟩,
    ⟨(some 69), none, .pick (.tmp 65) (.tmp 68) (.const (Go.Value.bool false))⟩,
    ⟨(some 70), none, .mv (.tmp 69)⟩,
    ⟨(some 71), (some (70, true)), .mv (.tmp 5)⟩,
    ⟨(some 72), (some (70, true)), .call 12 [(.tmp 71)]⟩,
    ⟨(some 73), (some (70, true)), .bin .eql 27 (.tmp 72) (.const (Go.Value.int Go.IntKind.i64 2))⟩,
    ⟨(some 74), none, .pick (.tmp 70) (.tmp 73) (.const (Go.Value.bool false))⟩,
    ⟨(some 75), none, .mv (.tmp 74)⟩,
    ⟨(some 76), (some (75, true)), .mv (.tmp 5)⟩,
    ⟨(some 77), (some (75, true)), .call 13 [(.tmp 76)]⟩,
    ⟨(some 78), (some (75, true)), .un .not (.tmp 77)⟩,
    ⟨(some 79), none, .pick (.tmp 75) (.tmp 78) (.const (Go.Value.bool false))⟩,
    ⟨(some 80), none, .mv (.tmp 79)⟩,
    ⟨(some 81), (some (80, true)), .mv (.tmp 5)⟩,
    ⟨(some 82), (some (80, true)), .mv (.tmp 1)⟩,
    ⟨(some 83), (some (80, true)), .call 14 [(.tmp 81), (.tmp 82)]⟩,
    ⟨(some 84), (some (80, true)), .bin .eql 27 (.tmp 83) (.const (Go.Value.int Go.IntKind.i64 2))⟩,
    ⟨(some 85), none, .pick (.tmp 80) (.tmp 84) (.const (Go.Value.bool false))⟩,
    ⟨(some 86), none, .mv (.tmp 85)⟩,
    ⟨(some 87), (some (86, true)), .mv (.tmp 5)⟩,
    ⟨(some 88), (some (86, true)), .mv (.tmp 1)⟩,
    ⟨(some 89), (some (86, true)), .call 15 [(.tmp 87), (.tmp 88)]⟩,
    ⟨(some 90), (some (86, true)), .bin .eql 27 (.tmp 89) (.const (Go.Value.int Go.IntKind.i64 2))⟩,
    ⟨(some 91), none, .pick (.tmp 86) (.tmp 90) (.const (Go.Value.bool false))⟩,
    ⟨(some 92), none, .mv (.tmp 91)⟩,
    ⟨(some 93), (some (92, true)), .mv (.tmp 5)⟩,
    ⟨(some 94), (some (92, true)), .call 16 [(.tmp 93)]⟩,
    ⟨(some 95), (some (92, true)), .bin .eql 3 (.tmp 94) (.const (Go.Value.int Go.IntKind.i64 0))⟩,
    ⟨(some 96), none, .pick (.tmp 92) (.tmp 95) (.const (Go.Value.bool false))⟩,
    ⟨(some 97), none, .mv (.tmp 96)⟩,
    ⟨(some 98), (some (97, true)), .mv (.tmp 5)⟩,
    ⟨(some 99), (some (97, true)), .call 17 [(.tmp 98)]⟩,
    ⟨(some 100), (some (97, true)), .bin .eql 3 (.tmp 99) (.const (Go.Value.int Go.IntKind.i64 0))⟩,
    ⟨(some 101), none, .pick (.tmp 97) (.tmp 100) (.const (Go.Value.bool false))⟩,
    ⟨(some 102), none, .mv (.tmp 101)⟩,
    ⟨(some 103), (some (102, true)), .mv (.tmp 5)⟩,
    ⟨(some 104), (some (102, true)), .call 18 [(.tmp 103), (.const (Go.Value.int Go.IntKind.u64 1))]⟩,
    ⟨(some 105), (some (102, true)), .bin .eql 3 (.tmp 104) (.const (Go.Value.int Go.IntKind.i64 0))⟩,
    ⟨(some 106), none, .pick (.tmp 102) (.tmp 105) (.const (Go.Value.bool false))⟩,
    ⟨(some 107), none, .mv (.tmp 106)⟩,
    ⟨(some 108), (some (107, true)), .mv (.tmp 5)⟩,
    ⟨(some 109), (some (107, true)), .mv (.tmp 1)⟩,
    ⟨(some 110), (some (107, true)), .call 19 [(.tmp 108), (.tmp 109)]⟩,
    ⟨(some 111), (some (107, true)), .un .not (.tmp 110)⟩,
    ⟨(some 112), none, .pick (.tmp 107) (.tmp 111) (.const (Go.Value.bool false))⟩,
    ⟨(some 113), none, .mv (.tmp 112)⟩,
    ⟨(some 114), (some (113, true)), .mv (.tmp 5)⟩,
    ⟨(some 115), (some (113, true)), .call 20 [(.tmp 114)]⟩,
    ⟨(some 116), (some (113, true)), .eq false .ptr (.tmp 115) (.const (Go.Value.pointer none))⟩,
    ⟨(some 117), none, .pick (.tmp 113) (.tmp 116) (.const (Go.Value.bool false))⟩,
    ⟨(some 118), none, .mv (.tmp 117)⟩,
    ⟨(some 119), (some (118, true)), .mv (.tmp 5)⟩,
    ⟨(some 120), (some (118, true)), .call 21 [(.tmp 119)]⟩,
    ⟨(some 121), (some (118, true)), .eq false .ptr (.tmp 120) (.const (Go.Value.pointer none))⟩,
    ⟨(some 122), none, .pick (.tmp 118) (.tmp 121) (.const (Go.Value.bool false))⟩,
    ⟨(some 123), none, .mv (.tmp 122)⟩,
    ⟨(some 124), (some (123, true)), .mv (.tmp 5)⟩,
    ⟨(some 125), (some (123, true)), .call 22 [(.tmp 124)]⟩,
    ⟨(some 126), (some (123, true)), .eq false .ptr (.tmp 125) (.const (Go.Value.pointer none))⟩,
    ⟨(some 127), none, .pick (.tmp 123) (.tmp 126) (.const (Go.Value.bool false))⟩,
    ⟨(some 128), none, .mv (.tmp 127)⟩,
    ⟨(some 129), (some (128, true)), .mv (.tmp 5)⟩,
    ⟨(some 130), (some (128, true)), .call 23 [(.tmp 129)]⟩,
    ⟨(some 131), (some (128, true)), .eq false .ptr (.tmp 130) (.const (Go.Value.pointer none))⟩,
    ⟨(some 132), none, .pick (.tmp 128) (.tmp 131) (.const (Go.Value.bool false))⟩,
    ⟨(some 133), none, .mv (.tmp 132)⟩,
    ⟨(some 134), (some (133, true)), .mv (.tmp 5)⟩,
    ⟨(some 135), (some (133, true)), .call 24 [(.tmp 134)]⟩,
    ⟨(some 136), (some (133, true)), .eq false .ptr (.tmp 135) (.const (Go.Value.pointer none))⟩,
    ⟨(some 137), none, .pick (.tmp 133) (.tmp 136) (.const (Go.Value.bool false))⟩,
    ⟨(some 138), none, .mv (.tmp 137)⟩,
    ⟨(some 139), (some (138, true)), .mv (.tmp 5)⟩,
    ⟨(some 140), (some (138, true)), .call 25 [(.tmp 139)]⟩,
    ⟨(some 141), (some (138, true)), .lenS (.tmp 140)⟩,
    ⟨(some 142), (some (138, true)), .bin .eql 3 (.tmp 141) (.const (Go.Value.int Go.IntKind.i64 0))⟩,
    ⟨(some 143), none, .pick (.tmp 138) (.tmp 142) (.const (Go.Value.bool false))⟩,
    ⟨(some 4), none, .mv (.tmp 143)⟩])
  (.ret)))))))
theorem is_law15_HlogNil : FnIs Tryz.prog F.law15_HlogNil X.law15_HlogNil 144 [.tmp 4] := ⟨by kernel_rfl⟩

end Go.Proofs.YtflbfdmmfoigaaaGreat
