import Derived.Test.YtdefhoaaeofapaaProg
import Derived.Test.YtdefhoaaeofapaaHxO
import Derived.KernelRfl
import Derived.Test.YtdefhoaaeofapaaIr0
namespace Go.Proofs.Ytdefhoaaeofapaa
open Go Go.HX
/-- (*haycroft/haycroftref14.Tail).Take: function 46 -/
abbrev F.ref14_Tail_Take : FuncId := 46
def X.ref14_Tail_Take : X :=
  .seq (.ops [⟨(some 4), none, .mv (.const (Go.Value.int Go.IntKind.u64 0))⟩,
    ⟨(some 5), none, .mv (.const (Go.Value.int Go.IntKind.i64 0))⟩,
    ⟨(some 6), none, .mv (.const (Go.Value.int Go.IntKind.i64 0))⟩])
  (.seq (.seq (.ops [⟨(some 9), none, .mv (.tmp 1)⟩,
    ⟨(some 10), none, .bin .lss 3 (.tmp 9) (.const (Go.Value.int Go.IntKind.i64 1))⟩])
  (.cond (.tmp 10)
    (.seq (.ops [⟨(some 4), none, .mv (.const (Go.Value.int Go.IntKind.u64 0))⟩,
      ⟨(some 5), none, .mv (.const (Go.Value.int Go.IntKind.i64 0))⟩,
      ⟨(some 6), none, .mv (.const (Go.Value.int Go.IntKind.i64 1))⟩])
    (.ret))
    (.skip)))
  (.seq (.seq (.ops [⟨(some 11), none, .mv (.tmp 1)⟩,
    ⟨(some 12), none, .mv (.tmp 0)⟩,
    ⟨(some 13), none, .nilc (.tmp 12)⟩,
    ⟨(some 14), none, .fld (.tmp 13) 0⟩,
    ⟨(some 15), none, .ld (.tmp 14) none⟩,
    ⟨(some 16), none, .bin .gtr 3 (.tmp 11) (.tmp 15)⟩])
  (.cond (.tmp 16)
    (.seq (.ops [⟨(some 4), none, .mv (.const (Go.Value.int Go.IntKind.u64 0))⟩,
      ⟨(some 5), none, .mv (.const (Go.Value.int Go.IntKind.i64 0))⟩,
      ⟨(some 6), none, .mv (.const (Go.Value.int Go.IntKind.i64 5))⟩])
    (.ret))
    (.skip)))
  (.seq (.drawn [(0, ⟨(some 17), none, .mv (.tmp 0)⟩),
    (1, ⟨(some 18), none, .nilc (.tmp 17)⟩),
    (2, ⟨(some 19), none, .fld (.tmp 18) 3⟩),
    (3, ⟨(some 20), none, .ld (.tmp 19) none⟩),
    (4, ⟨(some 21), none, .mv (.tmp 0)⟩),
    (5, ⟨(some 22), none, .nilc (.tmp 21)⟩),
    (6, ⟨(some 23), none, .fld (.tmp 22) 0⟩),
    (7, ⟨(some 24), none, .ld (.tmp 23) none⟩),
    (8, ⟨(some 25), none, .bin .gtr 3 (.tmp 20) (.tmp 24)⟩),
    (9, ⟨(some 7), none, .mv (.tmp 25)⟩)]
    [[], [0], [1], [2], [], [4], [5], [6], [3, 7], [8, 0, 1, 2, 3, 4, 5, 6, 7, 8]]
    [0, 1, 3, 7, 0, 16, 48, 112, 255, 511] 0)
  (.seq (.ops [⟨(some 26), none, .mv (.tmp 0)⟩,
    ⟨(some 27), none, .nilc (.tmp 26)⟩,
    ⟨(some 28), none, .fld (.tmp 27) 3⟩,
    ⟨(some 29), none, .ld (.tmp 28) none⟩,
    ⟨(some 8), none, .mv (.tmp 29)⟩])
  (.seq (.seq (.ops [⟨(some 30), none, .mv (.tmp 7)⟩,
    ⟨(some 31), none, .un .not (.tmp 30)⟩])
  (.cond (.tmp 31)
    (.seq (.ops [⟨(some 32), none, .mv (.tmp 0)⟩,
      ⟨(some 33), none, .mv (.tmp 0)⟩,
      ⟨(some 34), none, .nilc (.tmp 33)⟩,
      ⟨(some 35), none, .fld (.tmp 34) 3⟩,
      ⟨(some 36), none, .ld (.tmp 35) none⟩,
      ⟨(some 37), none, .mv (.tmp 1)⟩,
      ⟨(some 38), none, .bin .add 3 (.tmp 36) (.tmp 37)⟩,
      ⟨(some 39), none, .nilc (.tmp 32)⟩,
      ⟨(some 40), none, .fld (.tmp 39) 3⟩,
      ⟨none, none, .st (.tmp 40) (.tmp 38) 1⟩])
    (.seq (.drawn [(0, ⟨(some 41), none, .mv (.tmp 0)⟩),
      (1, ⟨(some 42), none, .nilc (.tmp 41)⟩),
      (2, ⟨(some 43), none, .fld (.tmp 42) 3⟩),
      (3, ⟨(some 44), none, .ld (.tmp 43) none⟩),
      (4, ⟨(some 45), none, .mv (.tmp 0)⟩),
      (5, ⟨(some 46), none, .nilc (.tmp 45)⟩),
      (6, ⟨(some 47), none, .fld (.tmp 46) 0⟩),
      (7, ⟨(some 48), none, .ld (.tmp 47) none⟩),
      (8, ⟨(some 49), none, .bin .leq 3 (.tmp 44) (.tmp 48)⟩)]
      [[], [0], [1], [2], [], [4], [5], [6], [3, 7]]
      [0, 1, 3, 7, 0, 16, 48, 112, 255] 0)
    (.cond (.tmp 49)
      (.seq (.drawn [(0, ⟨(some 50), none, .mv (.tmp 0)⟩),
        (1, ⟨(some 51), none, .nilc (.tmp 50)⟩),
        (2, ⟨(some 52), none, .fld (.tmp 51) 2⟩),
        (3, ⟨(some 53), none, .ld (.tmp 52) none⟩),
        (4, ⟨(some 54), none, .mv (.tmp 0)⟩),
        (5, ⟨(some 55), none, .nilc (.tmp 54)⟩),
        (6, ⟨(some 56), none, .fld (.tmp 55) 0⟩),
        (7, ⟨(some 57), none, .ld (.tmp 56) none⟩),
        (8, ⟨(some 58), none, .bin .mul 3 (.tmp 53) (.tmp 57)⟩),
        (9, ⟨(some 59), none, .mv (.tmp 8)⟩),
        (10, ⟨(some 60), none, .bin .add 3 (.tmp 58) (.tmp 59)⟩),
        (11, ⟨(some 61), none, .conv Go.IntKind.u64 (.tmp 60)⟩),
        (12, ⟨(some 4), none, .mv (.tmp 61)⟩),
        (13, ⟨(some 5), none, .mv (.const (Go.Value.int Go.IntKind.i64 1))⟩),
        (14, ⟨(some 6), none, .mv (.const (Go.Value.int Go.IntKind.i64 0))⟩)]
        [[], [0], [1], [2], [], [4], [5], [6], [3, 7], [], [8, 9], [10], [11, 0, 1, 2, 3, 4, 5, 6, 7, 8, 9, 10, 11], [12, 0, 1, 2, 3, 4, 5, 6, 7, 8, 9, 10, 11, 12], [13, 0, 1, 2, 3, 4, 5, 6, 7, 8, 9, 10, 11, 12, 13]]
        [0, 1, 3, 7, 0, 16, 48, 112, 255, 0, 1023, 2047, 4095, 8191, 16383] 0)
      (.ret))
      (.skip))))
    (.skip)))
  (.seq (.seq (.ops [⟨(some 62), none, .mv (.tmp 0)⟩,
    ⟨(some 63), none, .call 58 [(.tmp 62)]⟩])
  (.cond (.tmp 63)
    (.seq (.ops [⟨(some 4), none, .mv (.const (Go.Value.int Go.IntKind.u64 0))⟩,
      ⟨(some 5), none, .mv (.const (Go.Value.int Go.IntKind.i64 4))⟩,
      ⟨(some 6), none, .mv (.const (Go.Value.int Go.IntKind.i64 0))⟩])
    (.ret))
    (.skip)))
  (.seq (.seq (.ops [⟨(some 64), none, .mv (.tmp 7)⟩])
  (.cond (.tmp 64)
    (.seq (.ops [⟨(some 4), none, .mv (.const (Go.Value.int Go.IntKind.u64 0))⟩,
      ⟨(some 5), none, .mv (.const (Go.Value.int Go.IntKind.i64 3))⟩,
      ⟨(some 6), none, .mv (.const (Go.Value.int Go.IntKind.i64 0))⟩])
    (.ret))
    (.skip)))
  (.seq (.ops [⟨(some 4), none, .mv (.const (Go.Value.int Go.IntKind.u64 0))⟩,
    ⟨(some 5), none, .mv (.const (Go.Value.int Go.IntKind.i64 2))⟩,
    ⟨(some 6), none, .mv (.const (Go.Value.int Go.IntKind.i64 0))⟩])
  (.ret)))))))))
theorem is_ref14_Tail_Take : FnIs Try.prog F.ref14_Tail_Take X.ref14_Tail_Take 65 [.tmp 4, .tmp 5, .tmp 6] := ⟨by kernel_rfl⟩

/-- (*haycroft/haycroftref14.Tail).Turn: function 48 -/
abbrev F.ref14_Tail_Turn : FuncId := 48
def X.ref14_Tail_Turn : X :=
  .seq (.ops [⟨(some 2), none, .mv (.const (Go.Value.int Go.IntKind.i64 0))⟩])
  (.seq (.seq (.drawn [(0, ⟨(some 3), none, .mv (.tmp 0)⟩),
    (1, ⟨(some 4), none, .nilc (.tmp 3)⟩),
    (2, ⟨(some 5), none, .fld (.tmp 4) 3⟩),
    (3, ⟨(some 6), none, .ld (.tmp 5) none⟩),
    (4, ⟨(some 7), none, .mv (.tmp 0)⟩),
    (5, ⟨(some 8), none, .nilc (.tmp 7)⟩),
    (6, ⟨(some 9), none, .fld (.tmp 8) 0⟩),
    (7, ⟨(some 10), none, .ld (.tmp 9) none⟩),
    (8, ⟨(some 11), none, .bin .leq 3 (.tmp 6) (.tmp 10)⟩)]
    [[], [0], [1], [2], [], [4], [5], [6], [3, 7]]
    [0, 1, 3, 7, 0, 16, 48, 112, 255] 0)
  (.cond (.tmp 11)
    (.seq (.ops [⟨(some 2), none, .mv (.const (Go.Value.int Go.IntKind.i64 7))⟩])
    (.ret))
    (.skip)))
  (.seq (.seq (.ops [⟨(some 12), none, .mv (.tmp 0)⟩,
    ⟨(some 13), none, .call 58 [(.tmp 12)]⟩])
  (.cond (.tmp 13)
    (.seq (.ops [⟨(some 2), none, .mv (.const (Go.Value.int Go.IntKind.i64 9))⟩])
    (.ret))
    (.skip)))
  (.seq (.ops [⟨(some 14), none, .mv (.tmp 0)⟩,
    ⟨(some 15), none, .mv (.tmp 0)⟩,
    ⟨(some 16), none, .nilc (.tmp 15)⟩,
    ⟨(some 17), none, .fld (.tmp 16) 2⟩,
    ⟨(some 18), none, .ld (.tmp 17) none⟩,
    ⟨(some 19), none, .bin .add 3 (.tmp 18) (.const (Go.Value.int Go.IntKind.i64 1))⟩,
    ⟨(some 20), none, .nilc (.tmp 14)⟩,
    ⟨(some 21), none, .fld (.tmp 20) 2⟩,
    ⟨none, none, .st (.tmp 21) (.tmp 19) 1⟩])
  (.seq (.ops [⟨(some 22), none, .mv (.tmp 0)⟩,
    ⟨(some 23), none, .nilc (.tmp 22)⟩,
    ⟨(some 24), none, .fld (.tmp 23) 3⟩,
    ⟨none, none, .st (.tmp 24) (.const (Go.Value.int Go.IntKind.i64 0)) 1⟩])
  (.seq (.ops [⟨(some 2), none, .mv (.const (Go.Value.int Go.IntKind.i64 0))⟩])
  (.ret))))))
theorem is_ref14_Tail_Turn : FnIs Try.prog F.ref14_Tail_Turn X.ref14_Tail_Turn 25 [.tmp 2] := ⟨by kernel_rfl⟩

/-- (*haycroft/tail.Tail).Offset: function 54 -/
abbrev F.tail_Tail_Offset : FuncId := 54
def X.tail_Tail_Offset : X :=
  .seq (.ops [⟨(some 2), none, .mv (.const (Go.Value.int Go.IntKind.i64 0))⟩])
  (.seq (.seq (.ops [⟨(some 5), none, .mv (.tmp 0)⟩,
    ⟨(some 6), none, .eq false .ptr (.tmp 5) (.const (Go.Value.pointer none))⟩])
  (.cond (.tmp 6)
    (.seq (.ops [⟨(some 2), none, .mv (.const (Go.Value.int Go.IntKind.i64 0))⟩])
    (.ret))
    (.skip)))
  (.seq (.ops [⟨(some 8), none, .mv (.tmp 0)⟩,
    ⟨(some 9), none, .call 86 [(.tmp 8)]⟩,
    ⟨(some 7), none, .mv (.tmp 9)⟩,
    ⟨(some 10), none, .ext (.tmp 7) 0⟩,
    ⟨(some 11), none, .ext (.tmp 7) 1⟩,
    ⟨(some 3), none, .mv (.tmp 10)⟩,
    ⟨(some 4), none, .mv (.tmp 11)⟩])
  (.seq (.ops [⟨(some 12), none, .mv (.tmp 4)⟩,
    ⟨(some 13), none, .mv (.tmp 0)⟩,
    ⟨(some 14), none, .call 79 [(.tmp 13)]⟩,
    ⟨(some 15), none, .mnx false (.tmp 12) [(.tmp 14)]⟩,
    ⟨(some 2), none, .mv (.tmp 15)⟩])
  (.ret))))
theorem is_tail_Tail_Offset : FnIs Try.prog F.tail_Tail_Offset X.tail_Tail_Offset 16 [.tmp 2] := ⟨by kernel_rfl⟩

/-- (*haycroft/tail.Tail).Close: function 49 -/
abbrev F.tail_Tail_Close : FuncId := 49
def X.tail_Tail_Close : X :=
  .seq (.ops [⟨(some 2), none, .mv (.const (Go.Value.int Go.IntKind.i64 0))⟩])
  (.seq (.block 0 (.seq (.ops [⟨(some 4), none, .mv (.tmp 0)⟩,
      ⟨(some 5), none, .eq false .ptr (.tmp 4) (.const (Go.Value.pointer none))⟩,
      ⟨(some 3), none, .mv (.tmp 5)⟩])
    (.cond (.tmp 3)
      (.seq (.ops [⟨(some 2), none, .mv (.const (Go.Value.int Go.IntKind.i64 2))⟩])
      (.ret))
      (.seq (.ops [⟨(some 7), none, .mv (.tmp 0)⟩,
        ⟨(some 8), none, .call 54 [(.tmp 7)]⟩,
        ⟨(some 9), none, .bin .eql 3 (.tmp 8) (.const (Go.Value.int Go.IntKind.i64 0))⟩,
        ⟨(some 6), none, .mv (.tmp 9)⟩])
      (.cond (.tmp 6)
        (.seq (.ops [⟨(some 2), none, .mv (.const (Go.Value.int Go.IntKind.i64 0))⟩])
        (.ret))
        (.skip))))))
  (.seq (.ops [⟨(some 10), none, .mv (.tmp 0)⟩,
    ⟨(some 11), none, .call 83 [(.tmp 10)]⟩,
    ⟨(some 2), none, .mv (.tmp 11)⟩])
  (.ret)))
theorem is_tail_Tail_Close : FnIs Try.prog F.tail_Tail_Close X.tail_Tail_Close 12 [.tmp 2] := ⟨by kernel_rfl⟩

/-- (*haycroft/haycroftref14.Tail).Close: function 50 -/
abbrev F.ref14_Tail_Close : FuncId := 50
def X.ref14_Tail_Close : X :=
  .seq (.ops [⟨(some 2), none, .mv (.const (Go.Value.int Go.IntKind.i64 0))⟩])
  (.seq (.seq (.ops [⟨(some 3), none, .mv (.tmp 0)⟩,
    ⟨(some 4), none, .nilc (.tmp 3)⟩,
    ⟨(some 5), none, .fld (.tmp 4) 3⟩,
    ⟨(some 6), none, .ld (.tmp 5) none⟩,
    ⟨(some 7), none, .bin .eql 3 (.tmp 6) (.const (Go.Value.int Go.IntKind.i64 0))⟩])
  (.cond (.tmp 7)
    (.seq (.ops [⟨(some 2), none, .mv (.const (Go.Value.int Go.IntKind.i64 0))⟩])
    (.ret))
    (.skip)))
  (.seq (.seq (.ops [⟨(some 8), none, .mv (.tmp 0)⟩,
    ⟨(some 9), none, .call 58 [(.tmp 8)]⟩])
  (.cond (.tmp 9)
    (.seq (.ops [⟨(some 2), none, .mv (.const (Go.Value.int Go.IntKind.i64 9))⟩])
    (.ret))
    (.skip)))
  (.seq (.ops [⟨(some 10), none, .mv (.tmp 0)⟩,
    ⟨(some 11), none, .mv (.tmp 0)⟩,
    ⟨(some 12), none, .nilc (.tmp 11)⟩,
    ⟨(some 13), none, .fld (.tmp 12) 2⟩,
    ⟨(some 14), none, .ld (.tmp 13) none⟩,
    ⟨(some 15), none, .bin .add 3 (.tmp 14) (.const (Go.Value.int Go.IntKind.i64 1))⟩,
    ⟨(some 16), none, .nilc (.tmp 10)⟩,
    ⟨(some 17), none, .fld (.tmp 16) 2⟩,
    ⟨none, none, .st (.tmp 17) (.tmp 15) 1⟩])
  (.seq (.ops [⟨(some 18), none, .mv (.tmp 0)⟩,
    ⟨(some 19), none, .nilc (.tmp 18)⟩,
    ⟨(some 20), none, .fld (.tmp 19) 3⟩,
    ⟨none, none, .st (.tmp 20) (.const (Go.Value.int Go.IntKind.i64 0)) 1⟩])
  (.seq (.ops [⟨(some 2), none, .mv (.const (Go.Value.int Go.IntKind.i64 0))⟩])
  (.ret))))))
theorem is_ref14_Tail_Close : FnIs Try.prog F.ref14_Tail_Close X.ref14_Tail_Close 21 [.tmp 2] := ⟨by kernel_rfl⟩

/-- (*haycroft/haycroftref14.Tail).Begin: function 52 -/
abbrev F.ref14_Tail_Begin : FuncId := 52
def X.ref14_Tail_Begin : X :=
  .seq (.ops [⟨(some 4), none, .mv (.const (Go.Value.int Go.IntKind.i64 0))⟩])
  (.seq (.seq (.ops [⟨(some 5), none, .mv (.tmp 1)⟩,
    ⟨(some 6), none, .bin .lss 3 (.tmp 5) (.const (Go.Value.int Go.IntKind.i64 0))⟩,
    ⟨(some 7), none, .mv (.tmp 6)⟩,
    ⟨(some 8), (some (7, false)), .mv (.tmp 1)⟩,
    ⟨(some 9), (some (7, false)), .mv (.tmp 0)⟩,
    ⟨(some 10), (some (7, false)), .nilc (.tmp 9)⟩,
    ⟨(some 11), (some (7, false)), .fld (.tmp 10) 1⟩,
    ⟨(some 12), (some (7, false)), .ld (.tmp 11) none⟩,
    ⟨(some 13), (some (7, false)), .bin .geq 3 (.tmp 8) (.tmp 12)⟩,
    ⟨(some 14), none, .pick (.tmp 7) (.const (Go.Value.bool true)) (.tmp 13)⟩])
  (.cond (.tmp 14)
    (.seq (.ops [⟨(some 4), none, .mv (.const (Go.Value.int Go.IntKind.i64 1))⟩])
    (.ret))
    (.skip)))
  (.seq (.ops [⟨(some 15), none, .mv (.tmp 0)⟩,
    ⟨(some 16), none, .mv (.tmp 1)⟩,
    ⟨(some 17), none, .nilc (.tmp 15)⟩,
    ⟨(some 18), none, .fld (.tmp 17) 2⟩,
    ⟨none, none, .st (.tmp 18) (.tmp 16) 1⟩])
  (.seq (.ops [⟨(some 19), none, .mv (.tmp 0)⟩,
    ⟨(some 20), none, .nilc (.tmp 19)⟩,
    ⟨(some 21), none, .fld (.tmp 20) 3⟩,
    ⟨none, none, .st (.tmp 21) (.const (Go.Value.int Go.IntKind.i64 0)) 1⟩])
  (.seq (.seq (.ops [⟨(some 22), none, .mv (.tmp 1)⟩,
    ⟨(some 23), none, .bin .eql 3 (.tmp 22) (.const (Go.Value.int Go.IntKind.i64 0))⟩])
  (.cond (.tmp 23)
    (.ops [⟨(some 24), none, .mv (.tmp 0)⟩,
      ⟨(some 25), none, .nilc (.tmp 24)⟩,
      ⟨(some 26), none, .fld (.tmp 25) 3⟩,
      ⟨none, none, .st (.tmp 26) (.const (Go.Value.int Go.IntKind.i64 1)) 1⟩])
    (.skip)))
  (.seq (.ops [⟨(some 4), none, .mv (.const (Go.Value.int Go.IntKind.i64 0))⟩])
  (.ret))))))
theorem is_ref14_Tail_Begin : FnIs Try.prog F.ref14_Tail_Begin X.ref14_Tail_Begin 27 [.tmp 4] := ⟨by kernel_rfl⟩

/-- (*haycroft/tail.Tail).Addr: function 56 -/
abbrev F.tail_Tail_Addr : FuncId := 56
def X.tail_Tail_Addr : X :=
  .seq (.ops [⟨(some 2), none, .mv (.const (Go.Value.int Go.IntKind.u64 0))⟩])
  (.seq (.seq (.ops [⟨(some 3), none, .mv (.tmp 0)⟩,
    ⟨(some 4), none, .eq false .ptr (.tmp 3) (.const (Go.Value.pointer none))⟩])
  (.cond (.tmp 4)
    (.seq (.ops [⟨(some 2), none, .mv (.const (Go.Value.int Go.IntKind.u64 0))⟩])
    (.ret))
    (.skip)))
  (.seq (.drawn [(0, ⟨(some 5), none, .mv (.tmp 0)⟩),
    (1, ⟨(some 6), none, .nilc (.tmp 5)⟩),
    (2, ⟨(some 7), none, .fld (.tmp 6) 0⟩),
    (3, ⟨(some 8), none, .ld (.tmp 7) none⟩),
    (4, ⟨(some 9), none, .mv (.tmp 0)⟩),
    (7, ⟨(some 12), none, .mv (.tmp 0)⟩),
    (5, ⟨(some 10), none, .call 53 [(.tmp 9)]⟩),
    (6, ⟨(some 11), none, .call 82 [(.tmp 8), (.tmp 10)]⟩),
    (8, ⟨(some 13), none, .call 54 [(.tmp 12)]⟩),
    (9, ⟨(some 14), none, .conv Go.IntKind.u64 (.tmp 13)⟩),
    (10, ⟨(some 15), none, .bin .add 36 (.tmp 11) (.tmp 14)⟩),
    (11, ⟨(some 2), none, .mv (.tmp 15)⟩)]
    [[], [0], [1], [2], [], [4], [3, 5, 5], [], [7, 6], [8], [6, 9], [10, 8, 0, 1, 2, 3, 4, 5, 6, 7, 8, 9, 10]]
    [0, 1, 3, 7, 0, 16, 63, 0, 255, 511, 1023, 2047] 352)
  (.ret)))
theorem is_tail_Tail_Addr : FnIs Try.prog F.tail_Tail_Addr X.tail_Tail_Addr 16 [.tmp 2] := ⟨by kernel_rfl⟩

-- loop (inner ones first): [2, 7, 9, 11]
/-- haycroft/haycroftlaw14.TailPlays: function 10 -/
abbrev F.law14_TailPlays : FuncId := 10
def X.law14_TailPlays : X :=
  .seq (.ops [⟨(some 6), none, .mv (.const (Go.Value.bool false))⟩])
  (.seq (.seq (.ops [⟨(some 19), none, .call 42 []⟩,
    ⟨(some 20), none, .un .not (.tmp 19)⟩])
  (.cond (.tmp 20)
    (.seq (.ops [⟨(some 6), none, .mv (.const (Go.Value.bool false))⟩])
    (.ret))
    (.skip)))
  (.seq (.ops [⟨(some 22), none, .mv (.tmp 0)⟩,
    ⟨(some 23), none, .mv (.tmp 1)⟩,
    ⟨(some 24), none, .call 43 [(.tmp 22), (.tmp 23)]⟩,
    ⟨(some 21), none, .mv (.tmp 24)⟩,
    ⟨(some 25), none, .ext (.tmp 21) 0⟩,
    ⟨(some 26), none, .ext (.tmp 21) 1⟩,
    ⟨(some 7), none, .mv (.tmp 25)⟩,
    ⟨(some 8), none, .mv (.tmp 26)⟩])
  (.seq (.ops [⟨(some 28), none, .mv (.tmp 0)⟩,
    ⟨(some 29), none, .mv (.tmp 1)⟩,
    ⟨(some 30), none, .call 44 [(.tmp 28), (.tmp 29)]⟩,
    ⟨(some 27), none, .mv (.tmp 30)⟩,
    ⟨(some 31), none, .ext (.tmp 27) 0⟩,
    ⟨(some 32), none, .ext (.tmp 27) 1⟩,
    ⟨(some 9), none, .mv (.tmp 31)⟩,
    ⟨(some 10), none, .mv (.tmp 32)⟩])
  (.seq (.seq (.ops [⟨(some 33), none, .mv (.tmp 8)⟩,
    ⟨(some 34), none, .mv (.tmp 10)⟩,
    ⟨(some 35), none, .bin .neq 28 (.tmp 33) (.tmp 34)⟩,
    ⟨(some 36), none, .mv (.tmp 35)⟩,
    ⟨(some 37), (some (36, false)), .mv (.tmp 10)⟩,
    ⟨(some 38), (some (36, false)), .bin .neq 28 (.tmp 37) (.const (Go.Value.int Go.IntKind.i64 0))⟩,
    ⟨(some 39), none, .pick (.tmp 36) (.const (Go.Value.bool true)) (.tmp 38)⟩])
  (.cond (.tmp 39)
    (.seq (.ops [⟨(some 40), none, .mv (.tmp 8)⟩,
      ⟨(some 41), none, .mv (.tmp 10)⟩,
      ⟨(some 42), none, .bin .eql 28 (.tmp 40) (.tmp 41)⟩,
      ⟨(some 43), none, .mv (.tmp 42)⟩,
      ⟨(some 44), (some (43, true)), .mv (.tmp 7)⟩,
      ⟨(some 45), (some (43, true)), .eq false .ptr (.tmp 44) (.const (Go.Value.pointer none))⟩,
      ⟨(some 46), none, .pick (.tmp 43) (.tmp 45) (.const (Go.Value.bool false))⟩,
      ⟨(some 6), none, .mv (.tmp 46)⟩])
    (.ret))
    (.skip)))
  (.seq (.seq (.ops [⟨(some 11), none, .mv (.const (Go.Value.int Go.IntKind.i64 0))⟩])
  (.block 0 (.loop (.seq (.seq (.ops [⟨(some 47), none, .mv (.tmp 11)⟩,
        ⟨(some 48), none, .mv (.tmp 2)⟩,
        ⟨(some 49), none, .lenS (.tmp 48)⟩,
        ⟨(some 50), none, .bin .lss 3 (.tmp 47) (.tmp 49)⟩,
        ⟨(some 51), none, .mv (.tmp 50)⟩,
        ⟨(some 52), (some (51, true)), .mv (.tmp 11)⟩,
        ⟨(some 53), (some (51, true)), .bin .lss 3 (.tmp 52) (.const (Go.Value.int Go.IntKind.i64 200))⟩,
        ⟨(some 54), none, .pick (.tmp 51) (.tmp 53) (.const (Go.Value.bool false))⟩])
      (.cond (.tmp 54)
        (.skip)
        (.exit 0)))
      (.seq (.block 1 (.seq (.seq (.ops [⟨(some 57), none, .mv (.tmp 2)⟩,
          ⟨(some 58), none, .mv (.tmp 11)⟩,
          ⟨(some 59), none, .idx (.tmp 57) (.tmp 58) 2⟩,
          ⟨(some 60), none, .fld (.tmp 59) 0⟩,
          ⟨(some 61), none, .ld (.tmp 60) none⟩])
        (.block 2 (.seq (.ops [⟨(some 63), none, .bin .eql 3 (.tmp 61) (.const (Go.Value.int Go.IntKind.i64 1))⟩,
            ⟨(some 62), none, .mv (.tmp 63)⟩])
          (.cond (.tmp 62)
            (.seq (.ops [⟨(some 65), none, .mv (.tmp 7)⟩,
              ⟨(some 66), none, .mv (.tmp 2)⟩,
              ⟨(some 67), none, .mv (.tmp 11)⟩,
              ⟨(some 68), none, .idx (.tmp 66) (.tmp 67) 2⟩,
              ⟨(some 69), none, .fld (.tmp 68) 1⟩,
              ⟨(some 70), none, .ld (.tmp 69) none⟩,
              ⟨(some 71), none, .call 45 [(.tmp 65), (.tmp 70)]⟩,
              ⟨(some 64), none, .mv (.tmp 71)⟩,
              ⟨(some 72), none, .ext (.tmp 64) 0⟩,
              ⟨(some 73), none, .ext (.tmp 64) 1⟩,
              ⟨(some 74), none, .ext (.tmp 64) 2⟩,
              ⟨(some 12), none, .mv (.tmp 72)⟩,
              ⟨(some 13), none, .mv (.tmp 73)⟩,
              ⟨(some 14), none, .mv (.tmp 74)⟩])
            (.seq (.ops [⟨(some 76), none, .mv (.tmp 9)⟩,
              ⟨(some 77), none, .mv (.tmp 2)⟩,
              ⟨(some 78), none, .mv (.tmp 11)⟩,
              ⟨(some 79), none, .idx (.tmp 77) (.tmp 78) 2⟩,
              ⟨(some 80), none, .fld (.tmp 79) 1⟩,
              ⟨(some 81), none, .ld (.tmp 80) none⟩,
              ⟨(some 82), none, .call 46 [(.tmp 76), (.tmp 81)]⟩,
              ⟨(some 75), none, .mv (.tmp 82)⟩,
              ⟨(some 83), none, .ext (.tmp 75) 0⟩,
              ⟨(some 84), none, .ext (.tmp 75) 1⟩,
              ⟨(some 85), none, .ext (.tmp 75) 2⟩,
              ⟨(some 15), none, .mv (.tmp 83)⟩,
              ⟨(some 16), none, .mv (.tmp 84)⟩,
              ⟨(some 17), none, .mv (.tmp 85)⟩])
            (.seq (.ops [⟨(some 86), none, .mv (.tmp 12)⟩,
              ⟨(some 87), none, .mv (.tmp 15)⟩,
              ⟨(some 88), none, .bin .neq 36 (.tmp 86) (.tmp 87)⟩,
              ⟨(some 89), none, .mv (.tmp 88)⟩,
              ⟨(some 90), (some (89, false)), .mv (.tmp 13)⟩,
              ⟨(some 91), (some (89, false)), .mv (.tmp 16)⟩,
              ⟨(some 92), (some (89, false)), .bin .neq 3 (.tmp 90) (.tmp 91)⟩,
              ⟨(some 93), none, .pick (.tmp 89) (.const (Go.Value.bool true)) (.tmp 92)⟩,
              ⟨(some 94), none, .mv (.tmp 93)⟩,
              ⟨(some 95), (some (94, false)), .mv (.tmp 14)⟩,
              ⟨(some 96), (some (94, false)), .mv (.tmp 17)⟩,
              ⟨(some 97), (some (94, false)), .bin .neq 28 (.tmp 95) (.tmp 96)⟩,
              ⟨(some 98), none, .pick (.tmp 94) (.const (Go.Value.bool true)) (.tmp 97)⟩])
            (.cond (.tmp 98)
              (.seq (.ops [⟨(some 6), none, .mv (.const (Go.Value.bool false))⟩])
              (.ret))
              (.skip)))))
            (.seq (.ops [⟨(some 100), none, .bin .eql 3 (.tmp 61) (.const (Go.Value.int Go.IntKind.i64 2))⟩,
              ⟨(some 99), none, .mv (.tmp 100)⟩])
            (.cond (.tmp 99)
              (.seq (.ops [⟨(some 101), none, .mv (.tmp 7)⟩,
                ⟨(some 102), none, .call 47 [(.tmp 101)]⟩,
                ⟨(some 103), none, .mv (.tmp 9)⟩,
                ⟨(some 104), none, .call 48 [(.tmp 103)]⟩,
                ⟨(some 105), none, .bin .neq 28 (.tmp 102) (.tmp 104)⟩])
              (.cond (.tmp 105)
                (.seq (.ops [⟨(some 6), none, .mv (.const (Go.Value.bool false))⟩])
                (.ret))
                (.skip)))
              (.seq (.ops [⟨(some 107), none, .bin .eql 3 (.tmp 61) (.const (Go.Value.int Go.IntKind.i64 3))⟩,
                ⟨(some 106), none, .mv (.tmp 107)⟩])
              (.cond (.tmp 106)
                (.seq (.ops [⟨(some 108), none, .mv (.tmp 7)⟩,
                  ⟨(some 109), none, .call 49 [(.tmp 108)]⟩,
                  ⟨(some 110), none, .mv (.tmp 9)⟩,
                  ⟨(some 111), none, .call 50 [(.tmp 110)]⟩,
                  ⟨(some 112), none, .bin .neq 28 (.tmp 109) (.tmp 111)⟩])
                (.cond (.tmp 112)
                  (.seq (.ops [⟨(some 6), none, .mv (.const (Go.Value.bool false))⟩])
                  (.ret))
                  (.skip)))
                (.seq (.ops [⟨(some 114), none, .bin .eql 3 (.tmp 61) (.const (Go.Value.int Go.IntKind.i64 4))⟩,
                  ⟨(some 113), none, .mv (.tmp 114)⟩])
                (.cond (.tmp 113)
                  (.seq (.drawn [(0, ⟨(some 115), none, .mv (.tmp 7)⟩),
                    (1, ⟨(some 116), none, .mv (.tmp 2)⟩),
                    (2, ⟨(some 117), none, .mv (.tmp 11)⟩),
                    (3, ⟨(some 118), none, .idx (.tmp 116) (.tmp 117) 2⟩),
                    (4, ⟨(some 119), none, .fld (.tmp 118) 1⟩),
                    (5, ⟨(some 120), none, .ld (.tmp 119) none⟩),
                    (7, ⟨(some 122), none, .mv (.tmp 9)⟩),
                    (8, ⟨(some 123), none, .mv (.tmp 2)⟩),
                    (9, ⟨(some 124), none, .mv (.tmp 11)⟩),
                    (10, ⟨(some 125), none, .idx (.tmp 123) (.tmp 124) 2⟩),
                    (11, ⟨(some 126), none, .fld (.tmp 125) 1⟩),
                    (12, ⟨(some 127), none, .ld (.tmp 126) none⟩),
                    (6, ⟨(some 121), none, .call 51 [(.tmp 115), (.tmp 120)]⟩),
                    (13, ⟨(some 128), none, .call 52 [(.tmp 122), (.tmp 127)]⟩),
                    (14, ⟨(some 129), none, .bin .neq 28 (.tmp 121) (.tmp 128)⟩)]
                    [[], [], [], [1, 2], [3], [4], [0, 5], [], [], [], [8, 9], [10], [11], [7, 12, 6], [6, 13]]
                    [0, 0, 0, 6, 14, 30, 63, 0, 0, 0, 768, 1792, 3840, 8191, 16383] 8256)
                  (.cond (.tmp 129)
                    (.seq (.ops [⟨(some 6), none, .mv (.const (Go.Value.bool false))⟩])
                    (.ret))
                    (.skip)))
                  (.skip)))))))))))
        (.seq (.drawn [(0, ⟨(some 130), none, .mv (.tmp 9)⟩),
          (1, ⟨(some 131), none, .nilc (.tmp 130)⟩),
          (2, ⟨(some 132), none, .fld (.tmp 131) 3⟩),
          (3, ⟨(some 133), none, .ld (.tmp 132) none⟩),
          (4, ⟨(some 134), none, .mv (.tmp 9)⟩),
          (5, ⟨(some 135), none, .nilc (.tmp 134)⟩),
          (6, ⟨(some 136), none, .fld (.tmp 135) 0⟩),
          (7, ⟨(some 137), none, .ld (.tmp 136) none⟩),
          (8, ⟨(some 138), none, .mnx false (.tmp 133) [(.tmp 137)]⟩),
          (9, ⟨(some 18), none, .mv (.tmp 138)⟩)]
          [[], [0], [1], [2], [], [4], [5], [6], [3, 7], [8, 0, 1, 2, 3, 4, 5, 6, 7, 8]]
          [0, 1, 3, 7, 0, 16, 48, 112, 255, 511] 0)
        (.seq (.drawn [(0, ⟨(some 139), none, .mv (.tmp 7)⟩),
          (2, ⟨(some 141), none, .mv (.tmp 9)⟩),
          (3, ⟨(some 142), none, .nilc (.tmp 141)⟩),
          (4, ⟨(some 143), none, .fld (.tmp 142) 2⟩),
          (5, ⟨(some 144), none, .ld (.tmp 143) none⟩),
          (1, ⟨(some 140), none, .call 53 [(.tmp 139)]⟩),
          (6, ⟨(some 145), none, .bin .neq 3 (.tmp 140) (.tmp 144)⟩),
          (7, ⟨(some 146), none, .mv (.tmp 145)⟩),
          (8, ⟨(some 147), (some (146, false)), .mv (.tmp 7)⟩),
          (10, ⟨(some 149), (some (146, false)), .mv (.tmp 18)⟩),
          (9, ⟨(some 148), (some (146, false)), .call 54 [(.tmp 147)]⟩),
          (11, ⟨(some 150), (some (146, false)), .bin .neq 3 (.tmp 148) (.tmp 149)⟩),
          (12, ⟨(some 151), none, .pick (.tmp 146) (.const (Go.Value.bool true)) (.tmp 150)⟩),
          (13, ⟨(some 152), none, .mv (.tmp 151)⟩),
          (14, ⟨(some 153), (some (152, false)), .mv (.tmp 7)⟩),
          (16, ⟨(some 155), (some (152, false)), .mv (.tmp 9)⟩),
          (17, ⟨(some 156), (some (152, false)), .nilc (.tmp 155)⟩),
          (18, ⟨(some 157), (some (152, false)), .fld (.tmp 156) 3⟩),
          (19, ⟨(some 158), (some (152, false)), .ld (.tmp 157) none⟩),
          (20, ⟨(some 159), (some (152, false)), .mv (.tmp 9)⟩),
          (21, ⟨(some 160), (some (152, false)), .nilc (.tmp 159)⟩),
          (22, ⟨(some 161), (some (152, false)), .fld (.tmp 160) 0⟩),
          (23, ⟨(some 162), (some (152, false)), .ld (.tmp 161) none⟩),
          (24, ⟨(some 163), (some (152, false)), .bin .gtr 3 (.tmp 158) (.tmp 162)⟩),
          (15, ⟨(some 154), (some (152, false)), .call 55 [(.tmp 153)]⟩),
          (25, ⟨(some 164), (some (152, false)), .eq true .bool (.tmp 154) (.tmp 163)⟩),
          (26, ⟨(some 165), none, .pick (.tmp 152) (.const (Go.Value.bool true)) (.tmp 164)⟩),
          (27, ⟨(some 166), none, .mv (.tmp 165)⟩),
          (28, ⟨(some 167), (some (166, false)), .mv (.tmp 7)⟩),
          (30, ⟨(some 169), (some (166, false)), .mv (.tmp 9)⟩),
          (31, ⟨(some 170), (some (166, false)), .nilc (.tmp 169)⟩),
          (32, ⟨(some 171), (some (166, false)), .fld (.tmp 170) 2⟩),
          (33, ⟨(some 172), (some (166, false)), .ld (.tmp 171) none⟩),
          (34, ⟨(some 173), (some (166, false)), .mv (.tmp 9)⟩),
          (35, ⟨(some 174), (some (166, false)), .nilc (.tmp 173)⟩),
          (36, ⟨(some 175), (some (166, false)), .fld (.tmp 174) 0⟩),
          (37, ⟨(some 176), (some (166, false)), .ld (.tmp 175) none⟩),
          (38, ⟨(some 177), (some (166, false)), .bin .mul 3 (.tmp 172) (.tmp 176)⟩),
          (39, ⟨(some 178), (some (166, false)), .mv (.tmp 18)⟩),
          (40, ⟨(some 179), (some (166, false)), .bin .add 3 (.tmp 177) (.tmp 178)⟩),
          (41, ⟨(some 180), (some (166, false)), .conv Go.IntKind.u64 (.tmp 179)⟩),
          (29, ⟨(some 168), (some (166, false)), .call 56 [(.tmp 167)]⟩),
          (42, ⟨(some 181), (some (166, false)), .bin .neq 36 (.tmp 168) (.tmp 180)⟩),
          (43, ⟨(some 182), none, .pick (.tmp 166) (.const (Go.Value.bool true)) (.tmp 181)⟩),
          (44, ⟨(some 183), none, .mv (.tmp 182)⟩),
          (45, ⟨(some 184), (some (183, false)), .mv (.tmp 7)⟩),
          (47, ⟨(some 186), (some (183, false)), .mv (.tmp 9)⟩),
          (46, ⟨(some 185), (some (183, false)), .call 57 [(.tmp 184)]⟩),
          (48, ⟨(some 187), (some (183, false)), .call 58 [(.tmp 186)]⟩),
          (49, ⟨(some 188), (some (183, false)), .eq true .bool (.tmp 185) (.tmp 187)⟩),
          (50, ⟨(some 189), none, .pick (.tmp 183) (.const (Go.Value.bool true)) (.tmp 188)⟩)]
          [[], [0], [], [2], [3], [4], [1, 5], [6, 1], [7], [8, 7, 7], [7], [9, 10, 7], [7, 11], [12, 9], [13], [14, 13, 13], [13], [16, 13], [17, 13], [18, 13], [13], [20, 13], [21, 13], [22, 13], [19, 23, 13], [15, 24, 13], [13, 25], [26, 15], [27], [28, 27, 27], [27], [30, 27], [31, 27], [32, 27], [27], [34, 27], [35, 27], [36, 27], [33, 37, 27], [27], [38, 39, 27], [40, 27], [29, 41, 27], [27, 42], [43, 29], [44], [45, 44, 44], [44], [47, 46, 44], [46, 48, 44], [44, 49]]
          [0, 1, 0, 4, 12, 28, 63, 127, 255, 511, 255, 2047, 4095, 8191, 16383, 32767, 16383, 81919, 212991, 475135, 16383, 1064959, 3162111, 7356415, 16728063, 33554431, 67108863, 134217727, 268435455, 536870911, 268435455, 1342177279, 3489660927, 7784628223, 268435455, 17448304639, 51808043007, 120527519743, 274072600575, 268435455, 1098706321407, 2198217949183, 4398046511103, 8796093022207, 17592186044415, 35184372088831, 70368744177663, 35184372088831, 281474976710655, 562949953421311, 1125899906842623] 351844257792514)
        (.cond (.tmp 189)
          (.seq (.ops [⟨(some 6), none, .mv (.const (Go.Value.bool false))⟩])
          (.ret))
          (.skip))))))
      (.ops [⟨(some 55), none, .mv (.tmp 11)⟩,
        ⟨(some 56), none, .bin .add 3 (.tmp 55) (.const (Go.Value.int Go.IntKind.i64 1))⟩,
        ⟨(some 11), none, .mv (.tmp 56)⟩]))))))
  (.seq (.ops [⟨(some 6), none, .mv (.const (Go.Value.bool true))⟩])
  (.ret)))))))
theorem is_law14_TailPlays : FnIs Try.prog F.law14_TailPlays X.law14_TailPlays 190 [.tmp 6] := ⟨by kernel_rfl⟩

/-- haycroft/haycroftlaw14.TailNil: function 11 -/
abbrev F.law14_TailNil : FuncId := 11
def X.law14_TailNil : X :=
  .seq (.ops [⟨(some 2), none, .mv (.const (Go.Value.bool false))⟩])
  (.seq (.seq (.ops [⟨(some 7), none, .call 42 []⟩,
    ⟨(some 8), none, .un .not (.tmp 7)⟩])
  (.cond (.tmp 8)
    (.seq (.ops [⟨(some 2), none, .mv (.const (Go.Value.bool false))⟩])
    (.ret))
    (.skip)))
  (.seq (.ops [⟨(some 3), none, .mv (.const (Go.Value.pointer none))⟩])
  (.seq (.ops [⟨(some 10), none, .mv (.tmp 3)⟩,
    ⟨(some 11), none, .mv (.tmp 0)⟩,
    ⟨(some 12), none, .call 45 [(.tmp 10), (.tmp 11)]⟩,
    ⟨(some 9), none, .mv (.tmp 12)⟩,
    ⟨(some 13), none, .ext (.tmp 9) 0⟩,
    ⟨(some 14), none, .ext (.tmp 9) 1⟩,
    ⟨(some 15), none, .ext (.tmp 9) 2⟩,
    ⟨(some 4), none, .mv (.tmp 13)⟩,
    ⟨(some 5), none, .mv (.tmp 14)⟩,
    ⟨(some 6), none, .mv (.tmp 15)⟩])
  (.seq (.ops [⟨(some 16), none, .mv (.tmp 4)⟩,
    ⟨(some 17), none, .bin .eql 36 (.tmp 16) (.const (Go.Value.int Go.IntKind.u64 0))⟩,
    ⟨(some 18), none, .mv (.tmp 17)⟩,
    ⟨(some 19), (some (18, true)), .mv (.tmp 5)⟩,
    ⟨(some 20), (some (18, true)), .bin .eql 3 (.tmp 19) (.const (Go.Value.int Go.IntKind.i64 0))⟩,
    ⟨(some 21), none, .pick (.tmp 18) (.tmp 20) (.const (Go.Value.bool false))⟩,
    ⟨(some 22), none, .mv (.tmp 21)⟩,
    ⟨(some 23), (some (22, true)), .mv (.tmp 6)⟩,
    ⟨(some 24), (some (22, true)), .bin .eql 28 (.tmp 23) (.const (Go.Value.int Go.IntKind.i64 2))⟩,
    ⟨(some 25), none, .pick (.tmp 22) (.tmp 24) (.const (Go.Value.bool false))⟩,
    ⟨(some 26), none, .mv (.tmp 25)⟩,
    ⟨(some 27), (some (26, true)), .mv (.tmp 3)⟩,
    ⟨(some 28), (some (26, true)), .call 47 [(.tmp 27)]⟩,
    ⟨(some 29), (some (26, true)), .bin .eql 28 (.tmp 28) (.const (Go.Value.int Go.IntKind.i64 2))⟩,
    ⟨(some 30), none, .pick (.tmp 26) (.tmp 29) (.const (Go.Value.bool false))⟩,
    ⟨(some 31), none, .mv (.tmp 30)⟩,
    ⟨(some 32), (some (31, true)), .mv (.tmp 3)⟩,
    ⟨(some 33), (some (31, true)), .call 49 [(.tmp 32)]⟩,
    ⟨(some 34), (some (31, true)), .bin .eql 28 (.tmp 33) (.const (Go.Value.int Go.IntKind.i64 2))⟩,
    ⟨(some 35), none, .pick (.tmp 31) (.tmp 34) (.const (Go.Value.bool false))⟩,
    ⟨(some 36), none, .mv (.tmp 35)⟩,
    ⟨(some 37), (some (36, true)), .mv (.tmp 3)⟩,
    ⟨(some 38), (some (36, true)), .mv (.tmp 0)⟩,
    ⟨(some 39), (some (36, true)), .call 51 [(.tmp 37), (.tmp 38)]⟩,
    ⟨(some 40), (some (36, true)), .bin .eql 28 (.tmp 39) (.const (Go.Value.int Go.IntKind.i64 2))⟩,
    ⟨(some 41), none, .pick (.tmp 36) (.tmp 40) (.const (Go.Value.bool false))⟩,
    ⟨(some 42), none, .mv (.tmp 41)⟩,
    ⟨(some 43), (some (42, true)), .mv (.tmp 3)⟩,
    ⟨(some 44), (some (42, true)), .call 53 [(.tmp 43)]⟩,
    ⟨(some 45), (some (42, true)), .bin .eql 3 (.tmp 44) (.const (Go.Value.int Go.IntKind.i64 0))⟩,
    ⟨(some 46), none, .pick (.tmp 42) (.tmp 45) (.const (Go.Value.bool false))⟩,
    ⟨(some 47), none, .mv (.tmp 46)⟩,
    ⟨(some 48), (some (47, true)), .mv (.tmp 3)⟩,
    ⟨(some 49), (some (47, true)), .call 54 [(.tmp 48)]⟩,
    ⟨(some 50), (some (47, true)), .bin .eql 3 (.tmp 49) (.const (Go.Value.int Go.IntKind.i64 0))⟩,
    ⟨(some 51), none, .pick (.tmp 47) (.tmp 50) (.const (Go.Value.bool false))⟩,
    ⟨(some 52), none, .mv (.tmp 51)⟩,
    ⟨(some 53), (some (52, true)), .mv (.tmp 3)⟩,
    ⟨(some 54), (some (52, true)), .call 55 [(.tmp 53)]⟩,
    ⟨(some 55), (some (52, true)), .un .not (.tmp 54)⟩,
    ⟨(some 56), none, .pick (.tmp 52) (.tmp 55) (.const (Go.Value.bool false))⟩,
    ⟨(some 57), none, .mv (.tmp 56)⟩,
    ⟨(some 58), (some (57, true)), .mv (.tmp 3)⟩,
    ⟨(some 59), (some (57, true)), .call 56 [(.tmp 58)]⟩,
    ⟨(some 60), (some (57, true)), .bin .eql 36 (.tmp 59) (.const (Go.Value.int Go.IntKind.u64 0))⟩,
    ⟨(some 61), none, .pick (.tmp 57) (.tmp 60) (.const (Go.Value.bool false))⟩,
    ⟨(some 62), none, .mv (.tmp 61)⟩,
    ⟨(some 63), (some (62, true)), .mv (.tmp 3)⟩,
    ⟨(some 64), (some (62, true)), .call 57 [(.tmp 63)]⟩,
    ⟨(some 65), (some (62, true)), .un .not (.tmp 64)⟩,
    ⟨(some 66), none, .pick (.tmp 62) (.tmp 65) (.const (Go.Value.bool false))⟩,
    ⟨(some 2), none, .mv (.tmp 66)⟩])
  (.ret)))))
theorem is_law14_TailNil : FnIs Try.prog F.law14_TailNil X.law14_TailNil 67 [.tmp 2] := ⟨by kernel_rfl⟩

/-- haycroft/place.part: function 109 -/
abbrev F.place_part : FuncId := 109
def X.place_part : X :=
  .seq (.ops [⟨(some 8), none, .mv (.const (Go.Value.int Go.IntKind.i64 0))⟩])
  (.seq (.seq (.ops [⟨(some 9), none, .mv (.tmp 0)⟩,
    ⟨(some 10), none, .call 77 [(.tmp 9)]⟩,
    ⟨(some 11), none, .un .not (.tmp 10)⟩,
    ⟨(some 12), none, .mv (.tmp 11)⟩,
    ⟨(some 13), (some (12, false)), .mv (.tmp 1)⟩,
    ⟨(some 14), (some (12, false)), .bin .gtr 36 (.tmp 13) (.const (Go.Value.int Go.IntKind.u64 281474976710655))⟩,
    ⟨(some 15), none, .pick (.tmp 12) (.const (Go.Value.bool true)) (.tmp 14)⟩])
  (.cond (.tmp 15)
    (.seq (.ops [⟨(some 8), none, .mv (.const (Go.Value.int Go.IntKind.i64 0))⟩])
    (.ret))
    (.skip)))
  (.seq (.ops [⟨(some 16), none, .mv (.tmp 1)⟩,
    ⟨(some 17), none, .mv (.tmp 2)⟩,
    ⟨(some 18), none, .mv (.tmp 3)⟩,
    ⟨(some 19), none, .call 97 [(.tmp 16), (.tmp 17), (.tmp 18)]⟩,
    ⟨(some 20), none, .conv Go.IntKind.i64 (.tmp 19)⟩,
    ⟨(some 8), none, .mv (.tmp 20)⟩])
  (.ret)))
theorem is_place_part : FnIs Try.prog F.place_part X.place_part 21 [.tmp 8] := ⟨by kernel_rfl⟩

/-- haycroft/place.Offset: function 101 -/
abbrev F.place_Offset : FuncId := 101
def X.place_Offset : X :=
  .seq (.ops [⟨(some 4), none, .mv (.const (Go.Value.int Go.IntKind.i64 0))⟩])
  (.seq (.ops [⟨(some 5), none, .mv (.tmp 0)⟩,
    ⟨(some 6), none, .mv (.tmp 1)⟩,
    ⟨(some 7), none, .mv (.tmp 0)⟩,
    ⟨(some 8), none, .call 109 [(.tmp 5), (.tmp 6), (.const (Go.Value.int Go.IntKind.i64 0)), (.tmp 7)]⟩,
    ⟨(some 4), none, .mv (.tmp 8)⟩])
  (.ret))
theorem is_place_Offset : FnIs Try.prog F.place_Offset X.place_Offset 9 [.tmp 4] := ⟨by kernel_rfl⟩

/-- haycroft/place.Room: function 87 -/
abbrev F.place_Room : FuncId := 87
def X.place_Room : X :=
  .seq (.ops [⟨(some 4), none, .mv (.const (Go.Value.int Go.IntKind.i64 0))⟩])
  (.seq (.seq (.ops [⟨(some 5), none, .mv (.tmp 0)⟩,
    ⟨(some 6), none, .call 77 [(.tmp 5)]⟩,
    ⟨(some 7), none, .un .not (.tmp 6)⟩,
    ⟨(some 8), none, .mv (.tmp 7)⟩,
    ⟨(some 9), (some (8, false)), .mv (.tmp 1)⟩,
    ⟨(some 10), (some (8, false)), .bin .gtr 36 (.tmp 9) (.const (Go.Value.int Go.IntKind.u64 281474976710655))⟩,
    ⟨(some 11), none, .pick (.tmp 8) (.const (Go.Value.bool true)) (.tmp 10)⟩])
  (.cond (.tmp 11)
    (.seq (.ops [⟨(some 4), none, .mv (.const (Go.Value.int Go.IntKind.i64 0))⟩])
    (.ret))
    (.skip)))
  (.seq (.ops [⟨(some 12), none, .mv (.tmp 0)⟩,
    ⟨(some 13), none, .call 99 [(.tmp 12)]⟩,
    ⟨(some 14), none, .mv (.tmp 0)⟩,
    ⟨(some 15), none, .mv (.tmp 1)⟩,
    ⟨(some 16), none, .call 101 [(.tmp 14), (.tmp 15)]⟩,
    ⟨(some 17), none, .bin .sub 3 (.tmp 13) (.tmp 16)⟩,
    ⟨(some 4), none, .mv (.tmp 17)⟩])
  (.ret)))
theorem is_place_Room : FnIs Try.prog F.place_Room X.place_Room 18 [.tmp 4] := ⟨by kernel_rfl⟩

/-- haycroft/place.Fits: function 59 -/
abbrev F.place_Fits : FuncId := 59
def X.place_Fits : X :=
  .seq (.ops [⟨(some 6), none, .mv (.const (Go.Value.bool false))⟩])
  (.seq (.ops [⟨(some 7), none, .mv (.tmp 2)⟩,
    ⟨(some 8), none, .bin .geq 3 (.tmp 7) (.const (Go.Value.int Go.IntKind.i64 1))⟩,
    ⟨(some 9), none, .mv (.tmp 8)⟩,
    ⟨(some 10), (some (9, true)), .mv (.tmp 2)⟩,
    ⟨(some 11), (some (9, true)), .mv (.tmp 0)⟩,
    ⟨(some 12), (some (9, true)), .mv (.tmp 1)⟩,
    ⟨(some 13), (some (9, true)), .call 87 [(.tmp 11), (.tmp 12)]⟩,
    ⟨(some 14), (some (9, true)), .bin .leq 3 (.tmp 10) (.tmp 13)⟩,
    ⟨(some 15), none, .pick (.tmp 9) (.tmp 14) (.const (Go.Value.bool false))⟩,
    ⟨(some 6), none, .mv (.tmp 15)⟩])
  (.ret))
theorem is_place_Fits : FnIs Try.prog F.place_Fits X.place_Fits 16 [.tmp 6] := ⟨by kernel_rfl⟩

-- loop (inner ones first): [0, 1, 2, 7, 9, 10, 11, 17, 18]
-- loop (inner ones first): [0, 1, 2, 7, 9, 10, 11]
/-- haycroft/haycroftlaw14.TailApart: function 12 -/
abbrev F.law14_TailApart : FuncId := 12
def X.law14_TailApart : X :=
  .seq (.ops [⟨(some 6), none, .mv (.const (Go.Value.bool false))⟩])
  (.seq (.seq (.ops [⟨(some 19), none, .call 42 []⟩,
    ⟨(some 20), none, .un .not (.tmp 19)⟩])
  (.cond (.tmp 20)
    (.seq (.ops [⟨(some 6), none, .mv (.const (Go.Value.bool false))⟩])
    (.ret))
    (.skip)))
  (.seq (.ops [⟨(some 22), none, .mv (.tmp 0)⟩,
    ⟨(some 23), none, .mv (.tmp 1)⟩,
    ⟨(some 24), none, .call 43 [(.tmp 22), (.tmp 23)]⟩,
    ⟨(some 21), none, .mv (.tmp 24)⟩,
    ⟨(some 25), none, .ext (.tmp 21) 0⟩,
    ⟨(some 26), none, .ext (.tmp 21) 1⟩,
    ⟨(some 7), none, .mv (.tmp 25)⟩,
    ⟨(some 8), none, .mv (.tmp 26)⟩])
  (.seq (.seq (.ops [⟨(some 27), none, .mv (.tmp 8)⟩,
    ⟨(some 28), none, .bin .neq 28 (.tmp 27) (.const (Go.Value.int Go.IntKind.i64 0))⟩])
  (.cond (.tmp 28)
    (.seq (.ops [⟨(some 6), none, .mv (.const (Go.Value.bool true))⟩])
    (.ret))
    (.skip)))
  (.seq (.ops [⟨(some 29), none, .bsl 88 2 0 [(Go.Value.int Go.IntKind.u64 0), (Go.Value.int Go.IntKind.u64 0)] []⟩,
    ⟨(some 9), none, .mv (.tmp 29)⟩])
  (.seq (.ops [⟨(some 30), none, .mks 3 1 8 [(Go.Value.int Go.IntKind.i64 0)] (.const (Go.Value.int Go.IntKind.i64 64)) (.const (Go.Value.int Go.IntKind.i64 64))⟩,
    ⟨(some 10), none, .mv (.tmp 30)⟩])
  (.seq (.seq (.ops [⟨(some 11), none, .mv (.const (Go.Value.int Go.IntKind.i64 0))⟩])
  (.block 0 (.loop (.seq (.seq (.ops [⟨(some 31), none, .mv (.tmp 11)⟩,
        ⟨(some 32), none, .mv (.tmp 2)⟩,
        ⟨(some 33), none, .lenS (.tmp 32)⟩,
        ⟨(some 34), none, .bin .lss 3 (.tmp 31) (.tmp 33)⟩,
        ⟨(some 35), none, .mv (.tmp 34)⟩,
        ⟨(some 36), (some (35, true)), .mv (.tmp 11)⟩,
        ⟨(some 37), (some (35, true)), .bin .lss 3 (.tmp 36) (.const (Go.Value.int Go.IntKind.i64 200))⟩,
        ⟨(some 38), none, .pick (.tmp 35) (.tmp 37) (.const (Go.Value.bool false))⟩])
      (.cond (.tmp 38)
        (.skip)
        (.exit 0)))
      (.seq (.block 1 (.seq (.ops [⟨(some 41), none, .mv (.tmp 2)⟩,
          ⟨(some 42), none, .mv (.tmp 11)⟩,
          ⟨(some 43), none, .idx (.tmp 41) (.tmp 42) 2⟩,
          ⟨(some 44), none, .fld (.tmp 43) 1⟩,
          ⟨(some 45), none, .ld (.tmp 44) none⟩,
          ⟨(some 12), none, .mv (.tmp 45)⟩])
        (.seq (.ops [⟨(some 46), none, .mv (.tmp 7)⟩,
          ⟨(some 47), none, .call 53 [(.tmp 46)]⟩,
          ⟨(some 13), none, .mv (.tmp 47)⟩])
        (.seq (.seq (.ops [⟨(some 48), none, .mv (.tmp 13)⟩,
          ⟨(some 49), none, .bin .lss 3 (.tmp 48) (.const (Go.Value.int Go.IntKind.i64 0))⟩,
          ⟨(some 50), none, .mv (.tmp 49)⟩,
          ⟨(some 51), (some (50, false)), .mv (.tmp 13)⟩,
          ⟨(some 52), (some (50, false)), .mv (.tmp 1)⟩,
          ⟨(some 53), (some (50, false)), .bin .geq 3 (.tmp 51) (.tmp 52)⟩,
          ⟨(some 54), none, .pick (.tmp 50) (.const (Go.Value.bool true)) (.tmp 53)⟩])
        (.cond (.tmp 54)
          (.seq (.ops [⟨(some 6), none, .mv (.const (Go.Value.bool false))⟩])
          (.ret))
          (.skip)))
        (.seq (.ops [⟨(some 55), none, .mv (.tmp 2)⟩,
          ⟨(some 56), none, .mv (.tmp 11)⟩,
          ⟨(some 57), none, .idx (.tmp 55) (.tmp 56) 2⟩,
          ⟨(some 58), none, .fld (.tmp 57) 0⟩,
          ⟨(some 59), none, .ld (.tmp 58) none⟩])
        (.block 2 (.seq (.ops [⟨(some 61), none, .bin .eql 3 (.tmp 59) (.const (Go.Value.int Go.IntKind.i64 1))⟩,
            ⟨(some 60), none, .mv (.tmp 61)⟩])
          (.cond (.tmp 60)
            (.seq (.ops [⟨(some 63), none, .mv (.tmp 7)⟩,
              ⟨(some 64), none, .mv (.tmp 12)⟩,
              ⟨(some 65), none, .call 45 [(.tmp 63), (.tmp 64)]⟩,
              ⟨(some 62), none, .mv (.tmp 65)⟩,
              ⟨(some 66), none, .ext (.tmp 62) 0⟩,
              ⟨(some 67), none, .ext (.tmp 62) 1⟩,
              ⟨(some 68), none, .ext (.tmp 62) 2⟩,
              ⟨(some 14), none, .mv (.tmp 66)⟩,
              ⟨(some 15), none, .mv (.tmp 67)⟩,
              ⟨(some 16), none, .mv (.tmp 68)⟩])
            (.seq (.seq (.ops [⟨(some 69), none, .mv (.tmp 15)⟩,
              ⟨(some 70), none, .bin .eql 3 (.tmp 69) (.const (Go.Value.int Go.IntKind.i64 2))⟩])
            (.cond (.tmp 70)
              (.seq (.ops [⟨(some 71), none, .mv (.tmp 10)⟩,
                ⟨(some 72), none, .mv (.tmp 13)⟩,
                ⟨(some 73), none, .idx (.tmp 71) (.tmp 72) 1⟩,
                ⟨(some 74), none, .ld (.tmp 73) none⟩,
                ⟨(some 75), none, .bin .add 3 (.tmp 74) (.const (Go.Value.int Go.IntKind.i64 1))⟩,
                ⟨(some 76), none, .idx (.tmp 71) (.tmp 72) 1⟩,
                ⟨none, none, .st (.tmp 76) (.tmp 75) 1⟩])
              (.seq (.ops [⟨(some 77), none, .mv (.tmp 10)⟩,
                ⟨(some 78), none, .mv (.tmp 13)⟩,
                ⟨(some 79), none, .idx (.tmp 77) (.tmp 78) 1⟩,
                ⟨(some 80), none, .ld (.tmp 79) none⟩,
                ⟨(some 81), none, .bin .gtr 3 (.tmp 80) (.const (Go.Value.int Go.IntKind.i64 1))⟩])
              (.cond (.tmp 81)
                (.seq (.ops [⟨(some 6), none, .mv (.const (Go.Value.bool false))⟩])
                (.ret))
                (.skip))))
              (.skip)))
            (.seq (.seq (.ops [⟨(some 82), none, .mv (.tmp 15)⟩,
              ⟨(some 83), none, .bin .neq 3 (.tmp 82) (.const (Go.Value.int Go.IntKind.i64 1))⟩])
            (.cond (.tmp 83)
              (.exit 1)
              (.skip)))
            (.seq (.seq (.ops [⟨(some 84), none, .mv (.tmp 14)⟩,
              ⟨(some 85), none, .bin .eql 36 (.tmp 84) (.const (Go.Value.int Go.IntKind.u64 0))⟩,
              ⟨(some 86), none, .mv (.tmp 85)⟩,
              ⟨(some 87), (some (86, false)), .mv (.tmp 12)⟩,
              ⟨(some 88), (some (86, false)), .bin .lss 3 (.tmp 87) (.const (Go.Value.int Go.IntKind.i64 1))⟩,
              ⟨(some 89), none, .pick (.tmp 86) (.const (Go.Value.bool true)) (.tmp 88)⟩,
              ⟨(some 90), none, .mv (.tmp 89)⟩,
              ⟨(some 91), (some (90, false)), .mv (.tmp 0)⟩,
              ⟨(some 92), (some (90, false)), .mv (.tmp 14)⟩,
              ⟨(some 93), (some (90, false)), .mv (.tmp 12)⟩,
              ⟨(some 94), (some (90, false)), .call 59 [(.tmp 91), (.tmp 92), (.tmp 93)]⟩,
              ⟨(some 95), (some (90, false)), .un .not (.tmp 94)⟩,
              ⟨(some 96), none, .pick (.tmp 90) (.const (Go.Value.bool true)) (.tmp 95)⟩])
            (.cond (.tmp 96)
              (.seq (.ops [⟨(some 6), none, .mv (.const (Go.Value.bool false))⟩])
              (.ret))
              (.skip)))
            (.seq (.ops [⟨(some 97), none, .mv (.tmp 14)⟩,
              ⟨(some 98), none, .mv (.tmp 14)⟩,
              ⟨(some 99), none, .mv (.tmp 12)⟩,
              ⟨(some 100), none, .conv Go.IntKind.u64 (.tmp 99)⟩,
              ⟨(some 101), none, .bin .add 36 (.tmp 98) (.tmp 100)⟩,
              ⟨(some 102), none, .bld [(Go.Value.int Go.IntKind.u64 0), (Go.Value.int Go.IntKind.u64 0)] [(0, 1, (.tmp 97)), (1, 1, (.tmp 101))]⟩,
              ⟨(some 17), none, .new 88 (Go.Value.agg #[(Go.Value.int Go.IntKind.u64 0), (Go.Value.int Go.IntKind.u64 0)])⟩,
              ⟨none, none, .st (.tmp 17) (.tmp 102) 2⟩])
            (.seq (.seq (.ops [⟨(some 18), none, .mv (.const (Go.Value.int Go.IntKind.i64 0))⟩])
            (.block 3 (.loop (.seq (.seq (.ops [⟨(some 103), none, .mv (.tmp 18)⟩,
                  ⟨(some 104), none, .mv (.tmp 9)⟩,
                  ⟨(some 105), none, .lenS (.tmp 104)⟩,
                  ⟨(some 106), none, .bin .lss 3 (.tmp 103) (.tmp 105)⟩])
                (.cond (.tmp 106)
                  (.skip)
                  (.exit 3)))
                (.seq (.block 4 (.seq (.drawn [(0, ⟨(some 109), none, .fld (.tmp 17) 0⟩),
                    (1, ⟨(some 110), none, .ld (.tmp 109) none⟩),
                    (2, ⟨(some 111), none, .mv (.tmp 9)⟩),
                    (3, ⟨(some 112), none, .mv (.tmp 18)⟩),
                    (4, ⟨(some 113), none, .idx (.tmp 111) (.tmp 112) 2⟩),
                    (5, ⟨(some 114), none, .fld (.tmp 113) 1⟩),
                    (6, ⟨(some 115), none, .ld (.tmp 114) none⟩),
                    (7, ⟨(some 116), none, .bin .lss 36 (.tmp 110) (.tmp 115)⟩),
                    (8, ⟨(some 117), none, .mv (.tmp 116)⟩),
                    (9, ⟨(some 118), (some (117, true)), .mv (.tmp 9)⟩),
                    (10, ⟨(some 119), (some (117, true)), .mv (.tmp 18)⟩),
                    (11, ⟨(some 120), (some (117, true)), .idx (.tmp 118) (.tmp 119) 2⟩),
                    (12, ⟨(some 121), (some (117, true)), .fld (.tmp 120) 0⟩),
                    (13, ⟨(some 122), (some (117, true)), .ld (.tmp 121) none⟩),
                    (14, ⟨(some 123), (some (117, true)), .fld (.tmp 17) 1⟩),
                    (15, ⟨(some 124), (some (117, true)), .ld (.tmp 123) none⟩),
                    (16, ⟨(some 125), (some (117, true)), .bin .lss 36 (.tmp 122) (.tmp 124)⟩),
                    (17, ⟨(some 126), none, .pick (.tmp 117) (.tmp 125) (.const (Go.Value.bool false))⟩)]
                    [[], [0], [], [], [2, 3], [4], [5], [1, 6], [7], [8], [8], [9, 10, 8], [11, 8], [12, 8], [8], [14, 8], [13, 15, 8], [8, 16]]
                    [0, 1, 0, 0, 12, 28, 60, 127, 255, 511, 511, 2047, 4095, 8191, 511, 16895, 65535, 131071] 0)
                  (.cond (.tmp 126)
                    (.seq (.ops [⟨(some 6), none, .mv (.const (Go.Value.bool false))⟩])
                    (.ret))
                    (.skip))))
                (.ops [⟨(some 107), none, .mv (.tmp 18)⟩,
                  ⟨(some 108), none, .bin .add 3 (.tmp 107) (.const (Go.Value.int Go.IntKind.i64 1))⟩,
                  ⟨(some 18), none, .mv (.tmp 108)⟩]))))))
            (.ops [⟨(some 127), none, .mv (.tmp 9)⟩,
              ⟨(some 128), none, .ld (.tmp 17) (some 2)⟩,
              ⟨(some 129), none, .bsl 88 2 1 [(Go.Value.int Go.IntKind.u64 0), (Go.Value.int Go.IntKind.u64 0)] [(0, (.tmp 128))]⟩,
              ⟨(some 130), none, .app 88 2 16 [(Go.Value.int Go.IntKind.u64 0), (Go.Value.int Go.IntKind.u64 0)] (.tmp 127) (.tmp 129)⟩,
              ⟨(some 9), none, .mv (.tmp 130)⟩])))))))
            (.seq (.ops [⟨(some 132), none, .bin .eql 3 (.tmp 59) (.const (Go.Value.int Go.IntKind.i64 2))⟩,
              ⟨(some 131), none, .mv (.tmp 132)⟩])
            (.cond (.tmp 131)
              (.ops [⟨(some 133), none, .mv (.tmp 7)⟩,
                ⟨(some 134), none, .call 47 [(.tmp 133)]⟩])
              (.seq (.ops [⟨(some 136), none, .bin .eql 3 (.tmp 59) (.const (Go.Value.int Go.IntKind.i64 3))⟩,
                ⟨(some 135), none, .mv (.tmp 136)⟩])
              (.cond (.tmp 135)
                (.ops [⟨(some 137), none, .mv (.tmp 7)⟩,
                  ⟨(some 138), none, .call 49 [(.tmp 137)]⟩])
                (.skip)))))))))))))
      (.ops [⟨(some 39), none, .mv (.tmp 11)⟩,
        ⟨(some 40), none, .bin .add 3 (.tmp 39) (.const (Go.Value.int Go.IntKind.i64 1))⟩,
        ⟨(some 11), none, .mv (.tmp 40)⟩]))))))
  (.seq (.ops [⟨(some 6), none, .mv (.const (Go.Value.bool true))⟩])
  (.ret))))))))
theorem is_law14_TailApart : FnIs Try.prog F.law14_TailApart X.law14_TailApart 139 [.tmp 6] := ⟨by kernel_rfl⟩

end Go.Proofs.Ytdefhoaaeofapaa
