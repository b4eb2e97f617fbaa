import Derived.Test.YtfchenbihepjaaaProg
import Derived.Test.YtfchenbihepjaaaHxS
import Derived.KernelRfl
import Derived.Test.YtfchenbihepjaaaIr0
namespace Go.Proofs.Ytfchenbihepjaaa
open Go Go.HX
-- loop (inner ones first): [0, 1, 2, 3, 8, 9]
/-- slices.pdqsortOrdered[int]: function 97 -/
abbrev F.slices_pdqsortOrdered_int : FuncId := 97
def X.slices_pdqsortOrdered_int : X :=
  .seq (.ops [⟨(some 8), none, .mv (.const (Go.Value.bool true))⟩])
  (.seq (.ops [⟨(some 9), none, .mv (.const (Go.Value.bool true))⟩])
  (.block 0 (.loop (.block 1 (.seq (.ops [⟨(some 19), none, .mv (.tmp 2)⟩,
          ⟨(some 20), none, .mv (.tmp 1)⟩,
          ⟨(some 21), none, .bin .sub 3 (.tmp 19) (.tmp 20)⟩,
          ⟨(some 10), none, .mv (.tmp 21)⟩])
        (.seq (.seq (.ops [⟨(some 22), none, .mv (.tmp 10)⟩,
          ⟨(some 23), none, .bin .leq 3 (.tmp 22) (.const (Go.Value.int Go.IntKind.i64 12))⟩])
        (.cond (.tmp 23)
          (.seq (.ops [⟨(some 24), none, .mv (.tmp 0)⟩,
            ⟨(some 25), none, .mv (.tmp 1)⟩,
            ⟨(some 26), none, .mv (.tmp 2)⟩,
            ⟨(some 27), none, .call 115 [(.tmp 24), (.tmp 25), (.tmp 26)]⟩])
          (.ret))
          (.skip)))
        (.seq (.seq (.ops [⟨(some 28), none, .mv (.tmp 3)⟩,
          ⟨(some 29), none, .bin .eql 3 (.tmp 28) (.const (Go.Value.int Go.IntKind.i64 0))⟩])
        (.cond (.tmp 29)
          (.seq (.ops [⟨(some 30), none, .mv (.tmp 0)⟩,
            ⟨(some 31), none, .mv (.tmp 1)⟩,
            ⟨(some 32), none, .mv (.tmp 2)⟩,
            ⟨(some 33), none, .call 116 [(.tmp 30), (.tmp 31), (.tmp 32)]⟩])
          (.ret))
          (.skip)))
        (.seq (.seq (.ops [⟨(some 34), none, .mv (.tmp 8)⟩,
          ⟨(some 35), none, .un .not (.tmp 34)⟩])
        (.cond (.tmp 35)
          (.seq (.ops [⟨(some 36), none, .mv (.tmp 0)⟩,
            ⟨(some 37), none, .mv (.tmp 1)⟩,
            ⟨(some 38), none, .mv (.tmp 2)⟩,
            ⟨(some 39), none, .call 117 [(.tmp 36), (.tmp 37), (.tmp 38)]⟩])
          (.ops [⟨(some 40), none, .mv (.tmp 3)⟩,
            ⟨(some 41), none, .bin .sub 3 (.tmp 40) (.const (Go.Value.int Go.IntKind.i64 1))⟩,
            ⟨(some 3), none, .mv (.tmp 41)⟩]))
          (.skip)))
        (.seq (.ops [⟨(some 43), none, .mv (.tmp 0)⟩,
          ⟨(some 44), none, .mv (.tmp 1)⟩,
          ⟨(some 45), none, .mv (.tmp 2)⟩,
          ⟨(some 46), none, .call 118 [(.tmp 43), (.tmp 44), (.tmp 45)]⟩,
          ⟨(some 42), none, .mv (.tmp 46)⟩,
          ⟨(some 47), none, .ext (.tmp 42) 0⟩,
          ⟨(some 48), none, .ext (.tmp 42) 1⟩,
          ⟨(some 11), none, .mv (.tmp 47)⟩,
          ⟨(some 12), none, .mv (.tmp 48)⟩])
        (.seq (.seq (.ops [⟨(some 49), none, .mv (.tmp 12)⟩,
          ⟨(some 50), none, .bin .eql 176 (.tmp 49) (.const (Go.Value.int Go.IntKind.i64 2))⟩])
        (.cond (.tmp 50)
          (.seq (.ops [⟨(some 51), none, .mv (.tmp 0)⟩,
            ⟨(some 52), none, .mv (.tmp 1)⟩,
            ⟨(some 53), none, .mv (.tmp 2)⟩,
            ⟨(some 54), none, .call 119 [(.tmp 51), (.tmp 52), (.tmp 53)]⟩])
          (.seq (.ops [⟨(some 55), none, .mv (.tmp 2)⟩,
            ⟨(some 56), none, .bin .sub 3 (.tmp 55) (.const (Go.Value.int Go.IntKind.i64 1))⟩,
            ⟨(some 57), none, .mv (.tmp 11)⟩,
            ⟨(some 58), none, .mv (.tmp 1)⟩,
            ⟨(some 59), none, .bin .sub 3 (.tmp 57) (.tmp 58)⟩,
            ⟨(some 60), none, .bin .sub 3 (.tmp 56) (.tmp 59)⟩,
            ⟨(some 11), none, .mv (.tmp 60)⟩])
          (.ops [⟨(some 12), none, .mv (.const (Go.Value.int Go.IntKind.i64 1))⟩])))
          (.skip)))
        (.seq (.seq (.ops [⟨(some 61), none, .mv (.tmp 8)⟩,
          ⟨(some 62), none, .mv (.tmp 61)⟩,
          ⟨(some 63), (some (62, true)), .mv (.tmp 9)⟩,
          ⟨(some 64), none, .pick (.tmp 62) (.tmp 63) (.const (Go.Value.bool false))⟩,
          ⟨(some 65), none, .mv (.tmp 64)⟩,
          ⟨(some 66), (some (65, true)), .mv (.tmp 12)⟩,
          ⟨(some 67), (some (65, true)), .bin .eql 176 (.tmp 66) (.const (Go.Value.int Go.IntKind.i64 1))⟩,
          ⟨(some 68), none, .pick (.tmp 65) (.tmp 67) (.const (Go.Value.bool false))⟩])
        (.cond (.tmp 68)
          (.seq (.ops [⟨(some 69), none, .mv (.tmp 0)⟩,
            ⟨(some 70), none, .mv (.tmp 1)⟩,
            ⟨(some 71), none, .mv (.tmp 2)⟩,
            ⟨(some 72), none, .call 120 [(.tmp 69), (.tmp 70), (.tmp 71)]⟩])
          (.cond (.tmp 72)
            (.ret)
            (.skip)))
          (.skip)))
        (.seq (.seq (.drawn [(0, ⟨(some 73), none, .mv (.tmp 1)⟩),
          (1, ⟨(some 74), none, .bin .gtr 3 (.tmp 73) (.const (Go.Value.int Go.IntKind.i64 0))⟩),
          (2, ⟨(some 75), none, .mv (.tmp 74)⟩),
          (3, ⟨(some 76), (some (75, true)), .mv (.tmp 0)⟩),
          (4, ⟨(some 77), (some (75, true)), .mv (.tmp 1)⟩),
          (5, ⟨(some 78), (some (75, true)), .bin .sub 3 (.tmp 77) (.const (Go.Value.int Go.IntKind.i64 1))⟩),
          (6, ⟨(some 79), (some (75, true)), .idx (.tmp 76) (.tmp 78) 1⟩),
          (7, ⟨(some 80), (some (75, true)), .ld (.tmp 79) none⟩),
          (8, ⟨(some 81), (some (75, true)), .mv (.tmp 0)⟩),
          (9, ⟨(some 82), (some (75, true)), .mv (.tmp 11)⟩),
          (10, ⟨(some 83), (some (75, true)), .idx (.tmp 81) (.tmp 82) 1⟩),
          (11, ⟨(some 84), (some (75, true)), .ld (.tmp 83) none⟩),
          (12, ⟨(some 85), (some (75, true)), .call 121 [(.tmp 80), (.tmp 84)]⟩),
          (13, ⟨(some 86), (some (75, true)), .un .not (.tmp 85)⟩),
          (14, ⟨(some 87), none, .pick (.tmp 75) (.tmp 86) (.const (Go.Value.bool false))⟩)]
          [[], [0], [1], [2], [2], [4, 2], [3, 5, 2], [6, 2], [2], [2], [8, 9, 2], [10, 2], [7, 11, 2, 2], [12, 2], [2, 13]]
          [0, 1, 3, 7, 7, 23, 63, 127, 7, 7, 775, 1799, 4095, 8191, 16383] 4096)
        (.cond (.tmp 87)
          (.seq (.ops [⟨(some 88), none, .mv (.tmp 0)⟩,
            ⟨(some 89), none, .mv (.tmp 1)⟩,
            ⟨(some 90), none, .mv (.tmp 2)⟩,
            ⟨(some 91), none, .mv (.tmp 11)⟩,
            ⟨(some 92), none, .call 122 [(.tmp 88), (.tmp 89), (.tmp 90), (.tmp 91)]⟩,
            ⟨(some 13), none, .mv (.tmp 92)⟩])
          (.seq (.ops [⟨(some 93), none, .mv (.tmp 13)⟩,
            ⟨(some 1), none, .mv (.tmp 93)⟩])
          (.exit 1)))
          (.skip)))
        (.seq (.ops [⟨(some 95), none, .mv (.tmp 0)⟩,
          ⟨(some 96), none, .mv (.tmp 1)⟩,
          ⟨(some 97), none, .mv (.tmp 2)⟩,
          ⟨(some 98), none, .mv (.tmp 11)⟩,
          ⟨(some 99), none, .call 123 [(.tmp 95), (.tmp 96), (.tmp 97), (.tmp 98)]⟩,
          ⟨(some 94), none, .mv (.tmp 99)⟩,
          ⟨(some 100), none, .ext (.tmp 94) 0⟩,
          ⟨(some 101), none, .ext (.tmp 94) 1⟩,
          ⟨(some 14), none, .mv (.tmp 100)⟩,
          ⟨(some 15), none, .mv (.tmp 101)⟩])
        (.seq (.ops [⟨(some 102), none, .mv (.tmp 15)⟩,
          ⟨(some 9), none, .mv (.tmp 102)⟩])
        (.seq (.ops [⟨(some 103), none, .mv (.tmp 14)⟩,
          ⟨(some 104), none, .mv (.tmp 1)⟩,
          ⟨(some 105), none, .bin .sub 3 (.tmp 103) (.tmp 104)⟩,
          ⟨(some 106), none, .mv (.tmp 2)⟩,
          ⟨(some 107), none, .mv (.tmp 14)⟩,
          ⟨(some 108), none, .bin .sub 3 (.tmp 106) (.tmp 107)⟩,
          ⟨(some 16), none, .mv (.tmp 105)⟩,
          ⟨(some 17), none, .mv (.tmp 108)⟩])
        (.seq (.ops [⟨(some 109), none, .mv (.tmp 10)⟩,
          ⟨(some 110), none, .bin .quo 3 (.tmp 109) (.const (Go.Value.int Go.IntKind.i64 8))⟩,
          ⟨(some 18), none, .mv (.tmp 110)⟩])
        (.seq (.ops [⟨(some 111), none, .mv (.tmp 16)⟩,
          ⟨(some 112), none, .mv (.tmp 17)⟩,
          ⟨(some 113), none, .bin .lss 3 (.tmp 111) (.tmp 112)⟩])
        (.cond (.tmp 113)
          (.seq (.ops [⟨(some 114), none, .mv (.tmp 16)⟩,
            ⟨(some 115), none, .mv (.tmp 18)⟩,
            ⟨(some 116), none, .bin .geq 3 (.tmp 114) (.tmp 115)⟩,
            ⟨(some 8), none, .mv (.tmp 116)⟩])
          (.seq (.ops [⟨(some 117), none, .mv (.tmp 0)⟩,
            ⟨(some 118), none, .mv (.tmp 1)⟩,
            ⟨(some 119), none, .mv (.tmp 14)⟩,
            ⟨(some 120), none, .mv (.tmp 3)⟩,
            ⟨(some 121), none, .call 97 [(.tmp 117), (.tmp 118), (.tmp 119), (.tmp 120)]⟩])
          (.ops [⟨(some 122), none, .mv (.tmp 14)⟩,
            ⟨(some 123), none, .bin .add 3 (.tmp 122) (.const (Go.Value.int Go.IntKind.i64 1))⟩,
            ⟨(some 1), none, .mv (.tmp 123)⟩])))
          (.seq (.ops [⟨(some 124), none, .mv (.tmp 17)⟩,
            ⟨(some 125), none, .mv (.tmp 18)⟩,
            ⟨(some 126), none, .bin .geq 3 (.tmp 124) (.tmp 125)⟩,
            ⟨(some 8), none, .mv (.tmp 126)⟩])
          (.seq (.ops [⟨(some 127), none, .mv (.tmp 0)⟩,
            ⟨(some 128), none, .mv (.tmp 14)⟩,
            ⟨(some 129), none, .bin .add 3 (.tmp 128) (.const (Go.Value.int Go.IntKind.i64 1))⟩,
            ⟨(some 130), none, .mv (.tmp 2)⟩,
            ⟨(some 131), none, .mv (.tmp 3)⟩,
            ⟨(some 132), none, .call 97 [(.tmp 127), (.tmp 129), (.tmp 130), (.tmp 131)]⟩])
          (.ops [⟨(some 133), none, .mv (.tmp 14)⟩,
            ⟨(some 2), none, .mv (.tmp 133)⟩])))))))))))))))))))))
theorem is_slices_pdqsortOrdered_int : FnIs Try.prog F.slices_pdqsortOrdered_int X.slices_pdqsortOrdered_int 134 [] := ⟨by kernel_rfl⟩

/-- slices.Sort[[]int,int]: function 67 -/
abbrev F.slices_Sort_int_int : FuncId := 67
def X.slices_Sort_int_int : X :=
  .seq (.ops [⟨(some 3), none, .mv (.tmp 0)⟩,
    ⟨(some 4), none, .lenS (.tmp 3)⟩,
    ⟨(some 2), none, .mv (.tmp 4)⟩])
  (.ops [⟨(some 5), none, .mv (.tmp 0)⟩,
    ⟨(some 6), none, .mv (.tmp 2)⟩,
    ⟨(some 7), none, .mv (.tmp 2)⟩,
    ⟨(some 8), none, .conv Go.IntKind.u64 (.tmp 7)⟩,
    ⟨(some 9), none, .call 98 [(.tmp 8)]⟩,
    ⟨(some 10), none, .call 97 [(.tmp 5), (.const (Go.Value.int Go.IntKind.i64 0)), (.tmp 6), (.tmp 9)]⟩])
theorem is_slices_Sort_int_int : FnIs Try.prog F.slices_Sort_int_int X.slices_Sort_int_int 11 [] := ⟨by kernel_rfl⟩

-- loop (inner ones first): [0, 3, 7, 8]
/-- (*haycroft/pages.Buffer).In: function 30 -/
abbrev F.pages_Buffer_In : FuncId := 30
def X.pages_Buffer_In : X :=
  .seq (.ops [⟨(some 2), none, .mv (.const (Go.Value.slice none 0 0))⟩])
  (.seq (.ops [⟨(some 3), none, .mv (.const (Go.Value.slice none 0 0))⟩])
  (.seq (.seq (.ops [⟨(some 6), none, .mv (.tmp 0)⟩,
    ⟨(some 7), none, .call 39 [(.tmp 6)]⟩,
    ⟨(some 8), none, .mv (.const (Go.Value.int Go.IntKind.i64 0))⟩])
  (.block 0 (.loop (.seq (.ops [⟨(some 9), none, .bin .lss 3 (.tmp 8) (.tmp 7)⟩])
      (.seq (.cond (.tmp 9)
        (.skip)
        (.exit 0))
      (.seq (.block 1 (.seq (.ops [⟨(some 10), none, .mv (.tmp 8)⟩,
          ⟨(some 4), none, .mv (.tmp 10)⟩])
        (.seq (.ops [⟨(some 11), none, .mv (.tmp 0)⟩,
          ⟨(some 12), none, .nilc (.tmp 11)⟩,
          ⟨(some 13), none, .fld (.tmp 12) 2⟩,
          ⟨(some 14), none, .ld (.tmp 13) none⟩,
          ⟨(some 15), none, .mv (.tmp 4)⟩,
          ⟨(some 16), none, .call 66 [(.tmp 14), (.tmp 15)]⟩,
          ⟨(some 5), none, .mv (.tmp 16)⟩])
        (.seq (.ops [⟨(some 17), none, .mv (.tmp 5)⟩,
          ⟨(some 18), none, .bin .gtr 65 (.tmp 17) (.const (Go.Value.int Go.IntKind.u64 0))⟩])
        (.cond (.tmp 18)
          (.ops [⟨(some 19), none, .mv (.tmp 3)⟩,
            ⟨(some 20), none, .mv (.tmp 5)⟩,
            ⟨(some 21), none, .bin .sub 65 (.tmp 20) (.const (Go.Value.int Go.IntKind.u64 1))⟩,
            ⟨(some 22), none, .conv Go.IntKind.i64 (.tmp 21)⟩,
            ⟨(some 23), none, .bsl 3 1 1 [(Go.Value.int Go.IntKind.i64 0)] [(0, (.tmp 22))]⟩,
            ⟨(some 24), none, .app 3 1 8 [(Go.Value.int Go.IntKind.i64 0)] (.tmp 19) (.tmp 23)⟩,
            ⟨(some 3), none, .mv (.tmp 24)⟩])
          (.skip))))))
      (.ops [⟨(some 25), none, .bin .add 3 (.tmp 8) (.const (Go.Value.int Go.IntKind.i64 1))⟩,
        ⟨(some 8), none, .mv (.tmp 25)⟩])))))))
  (.seq (.ops [⟨(some 26), none, .mv (.tmp 3)⟩,
    ⟨(some 27), none, .call 67 [(.tmp 26)]⟩])
  (.seq (.ops [⟨(some 28), none, .mv (.tmp 3)⟩,
    ⟨(some 2), none, .mv (.tmp 28)⟩])
  (.ret)))))
theorem is_pages_Buffer_In : FnIs Try.prog F.pages_Buffer_In X.pages_Buffer_In 29 [.tmp 2] := ⟨by kernel_rfl⟩

-- loop (inner ones first): [0, 1, 3, 9, 17, 18]
-- loop (inner ones first): [0, 1, 2, 3, 9, 11, 13, 14, 15, 16]
-- loop (inner ones first): [0, 1, 2, 3, 9, 11, 13, 14, 15]
-- loop (inner ones first): [0, 1, 2, 3, 9, 11, 13]
/-- haycroft/haycroftlaw12.PagesFew: function 6 -/
abbrev F.law12_PagesFew : FuncId := 6
def X.law12_PagesFew : X :=
  .seq (.ops [⟨(some 8), none, .mv (.const (Go.Value.bool false))⟩])
  (.seq (.seq (.ops [⟨(some 21), none, .call 26 []⟩,
    ⟨(some 22), none, .un .not (.tmp 21)⟩])
  (.cond (.tmp 22)
    (.seq (.ops [⟨(some 8), none, .mv (.const (Go.Value.bool false))⟩])
    (.ret))
    (.skip)))
  (.seq (.ops [⟨(some 24), none, .mv (.tmp 0)⟩,
    ⟨(some 25), none, .mv (.tmp 1)⟩,
    ⟨(some 26), none, .call 27 [(.tmp 24), (.tmp 25)]⟩,
    ⟨(some 23), none, .mv (.tmp 26)⟩,
    ⟨(some 27), none, .ext (.tmp 23) 0⟩,
    ⟨(some 28), none, .ext (.tmp 23) 1⟩,
    ⟨(some 9), none, .mv (.tmp 27)⟩,
    ⟨(some 10), none, .mv (.tmp 28)⟩])
  (.seq (.ops [⟨(some 30), none, .mv (.tmp 0)⟩,
    ⟨(some 31), none, .mv (.tmp 1)⟩,
    ⟨(some 32), none, .call 28 [(.tmp 30), (.tmp 31)]⟩,
    ⟨(some 29), none, .mv (.tmp 32)⟩,
    ⟨(some 33), none, .ext (.tmp 29) 0⟩,
    ⟨(some 34), none, .ext (.tmp 29) 1⟩,
    ⟨(some 11), none, .mv (.tmp 33)⟩,
    ⟨(some 12), none, .mv (.tmp 34)⟩])
  (.seq (.seq (.ops [⟨(some 35), none, .mv (.tmp 10)⟩,
    ⟨(some 36), none, .bin .neq 31 (.tmp 35) (.const (Go.Value.int Go.IntKind.i64 0))⟩,
    ⟨(some 37), none, .mv (.tmp 36)⟩,
    ⟨(some 38), (some (37, false)), .mv (.tmp 12)⟩,
    ⟨(some 39), (some (37, false)), .bin .neq 31 (.tmp 38) (.const (Go.Value.int Go.IntKind.i64 0))⟩,
    ⟨(some 40), none, .pick (.tmp 37) (.const (Go.Value.bool true)) (.tmp 39)⟩])
  (.cond (.tmp 40)
    (.seq (.ops [⟨(some 41), none, .mv (.tmp 10)⟩,
      ⟨(some 42), none, .mv (.tmp 12)⟩,
      ⟨(some 43), none, .bin .eql 31 (.tmp 41) (.tmp 42)⟩,
      ⟨(some 8), none, .mv (.tmp 43)⟩])
    (.ret))
    (.skip)))
  (.seq (.seq (.ops [⟨(some 13), none, .mv (.const (Go.Value.int Go.IntKind.i64 0))⟩])
  (.block 0 (.loop (.seq (.seq (.ops [⟨(some 44), none, .mv (.tmp 13)⟩,
        ⟨(some 45), none, .mv (.tmp 2)⟩,
        ⟨(some 46), none, .lenS (.tmp 45)⟩,
        ⟨(some 47), none, .bin .lss 3 (.tmp 44) (.tmp 46)⟩,
        ⟨(some 48), none, .mv (.tmp 47)⟩,
        ⟨(some 49), (some (48, true)), .mv (.tmp 13)⟩,
        ⟨(some 50), (some (48, true)), .bin .lss 3 (.tmp 49) (.const (Go.Value.int Go.IntKind.i64 100))⟩,
        ⟨(some 51), none, .pick (.tmp 48) (.tmp 50) (.const (Go.Value.bool false))⟩])
      (.cond (.tmp 51)
        (.skip)
        (.exit 0)))
      (.seq (.block 1 (.seq (.seq (.ops [⟨(some 54), none, .mv (.tmp 9)⟩,
          ⟨(some 55), none, .mv (.tmp 11)⟩,
          ⟨(some 56), none, .mv (.tmp 2)⟩,
          ⟨(some 57), none, .mv (.tmp 13)⟩,
          ⟨(some 58), none, .idx (.tmp 56) (.tmp 57) 7⟩,
          ⟨(some 59), none, .ld (.tmp 58) (some 7)⟩,
          ⟨(some 60), none, .call 29 [(.tmp 54), (.tmp 55), (.tmp 59)]⟩,
          ⟨(some 61), none, .un .not (.tmp 60)⟩])
        (.cond (.tmp 61)
          (.seq (.ops [⟨(some 8), none, .mv (.const (Go.Value.bool false))⟩])
          (.ret))
          (.skip)))
        (.seq (.ops [⟨(some 62), none, .mv (.tmp 9)⟩,
          ⟨(some 63), none, .call 30 [(.tmp 62)]⟩,
          ⟨(some 14), none, .mv (.tmp 63)⟩])
        (.seq (.seq (.ops [⟨(some 64), none, .mv (.tmp 14)⟩,
          ⟨(some 65), none, .lenS (.tmp 64)⟩,
          ⟨(some 66), none, .mv (.tmp 1)⟩,
          ⟨(some 67), none, .bin .gtr 3 (.tmp 65) (.tmp 66)⟩])
        (.cond (.tmp 67)
          (.seq (.ops [⟨(some 8), none, .mv (.const (Go.Value.bool false))⟩])
          (.ret))
          (.skip)))
        (.seq (.ops [⟨(some 15), none, .mv (.const (Go.Value.int Go.IntKind.i64 0))⟩])
        (.block 2 (.loop (.seq (.seq (.ops [⟨(some 68), none, .mv (.tmp 15)⟩,
              ⟨(some 69), none, .mv (.tmp 14)⟩,
              ⟨(some 70), none, .lenS (.tmp 69)⟩,
              ⟨(some 71), none, .bin .lss 3 (.tmp 68) (.tmp 70)⟩])
            (.cond (.tmp 71)
              (.skip)
              (.exit 2)))
            (.seq (.block 3 (.seq (.ops [⟨(some 16), none, .mv (.const (Go.Value.int Go.IntKind.i64 0))⟩])
              (.block 4 (.loop (.seq (.seq (.ops [⟨(some 74), none, .mv (.tmp 16)⟩,
                    ⟨(some 75), none, .mv (.tmp 15)⟩,
                    ⟨(some 76), none, .bin .lss 3 (.tmp 74) (.tmp 75)⟩])
                  (.cond (.tmp 76)
                    (.skip)
                    (.exit 4)))
                  (.seq (.block 5 (.seq (.drawn [(0, ⟨(some 79), none, .mv (.tmp 14)⟩),
                      (1, ⟨(some 80), none, .mv (.tmp 16)⟩),
                      (2, ⟨(some 81), none, .idx (.tmp 79) (.tmp 80) 1⟩),
                      (3, ⟨(some 82), none, .ld (.tmp 81) none⟩),
                      (4, ⟨(some 83), none, .mv (.tmp 1)⟩),
                      (5, ⟨(some 84), none, .bin .rem 3 (.tmp 82) (.tmp 83)⟩),
                      (6, ⟨(some 85), none, .mv (.tmp 14)⟩),
                      (7, ⟨(some 86), none, .mv (.tmp 15)⟩),
                      (8, ⟨(some 87), none, .idx (.tmp 85) (.tmp 86) 1⟩),
                      (9, ⟨(some 88), none, .ld (.tmp 87) none⟩),
                      (10, ⟨(some 89), none, .mv (.tmp 1)⟩),
                      (11, ⟨(some 90), none, .bin .rem 3 (.tmp 88) (.tmp 89)⟩),
                      (12, ⟨(some 91), none, .bin .eql 3 (.tmp 84) (.tmp 90)⟩)]
                      [[], [], [0, 1], [2], [], [3, 4], [], [], [6, 7], [8], [], [9, 10], [5, 11]]
                      [0, 0, 3, 7, 0, 31, 0, 0, 192, 448, 0, 1984, 4095] 0)
                    (.cond (.tmp 91)
                      (.seq (.ops [⟨(some 8), none, .mv (.const (Go.Value.bool false))⟩])
                      (.ret))
                      (.skip))))
                  (.ops [⟨(some 77), none, .mv (.tmp 16)⟩,
                    ⟨(some 78), none, .bin .add 3 (.tmp 77) (.const (Go.Value.int Go.IntKind.i64 1))⟩,
                    ⟨(some 16), none, .mv (.tmp 78)⟩])))))))
            (.ops [⟨(some 72), none, .mv (.tmp 15)⟩,
              ⟨(some 73), none, .bin .add 3 (.tmp 72) (.const (Go.Value.int Go.IntKind.i64 1))⟩,
              ⟨(some 15), none, .mv (.tmp 73)⟩]))))))))))
      (.ops [⟨(some 52), none, .mv (.tmp 13)⟩,
        ⟨(some 53), none, .bin .add 3 (.tmp 52) (.const (Go.Value.int Go.IntKind.i64 1))⟩,
        ⟨(some 13), none, .mv (.tmp 53)⟩]))))))
  (.seq (.seq (.ops [⟨(some 92), none, .mv (.tmp 3)⟩,
    ⟨(some 93), none, .bin .lss 3 (.tmp 92) (.const (Go.Value.int Go.IntKind.i64 0))⟩])
  (.cond (.tmp 93)
    (.seq (.ops [⟨(some 94), none, .mv (.tmp 9)⟩,
      ⟨(some 95), none, .mv (.tmp 3)⟩,
      ⟨(some 96), none, .call 31 [(.tmp 94), (.tmp 95)]⟩,
      ⟨(some 97), none, .bin .eql 31 (.tmp 96) (.const (Go.Value.int Go.IntKind.i64 1))⟩,
      ⟨(some 8), none, .mv (.tmp 97)⟩])
    (.ret))
    (.skip)))
  (.seq (.ops [⟨(some 98), none, .mv (.tmp 9)⟩,
    ⟨(some 99), none, .call 30 [(.tmp 98)]⟩,
    ⟨(some 17), none, .mv (.tmp 99)⟩])
  (.seq (.seq (.ops [⟨(some 18), none, .mv (.const (Go.Value.int Go.IntKind.i64 0))⟩])
  (.block 6 (.loop (.seq (.seq (.ops [⟨(some 100), none, .mv (.tmp 18)⟩,
        ⟨(some 101), none, .mv (.tmp 17)⟩,
        ⟨(some 102), none, .lenS (.tmp 101)⟩,
        ⟨(some 103), none, .bin .lss 3 (.tmp 100) (.tmp 102)⟩])
      (.cond (.tmp 103)
        (.skip)
        (.exit 6)))
      (.seq (.block 7 (.seq (.drawn [(0, ⟨(some 106), none, .mv (.tmp 17)⟩),
          (1, ⟨(some 107), none, .mv (.tmp 18)⟩),
          (2, ⟨(some 108), none, .idx (.tmp 106) (.tmp 107) 1⟩),
          (3, ⟨(some 109), none, .ld (.tmp 108) none⟩),
          (4, ⟨(some 110), none, .mv (.tmp 1)⟩),
          (5, ⟨(some 111), none, .bin .rem 3 (.tmp 109) (.tmp 110)⟩),
          (6, ⟨(some 112), none, .mv (.tmp 3)⟩),
          (7, ⟨(some 113), none, .mv (.tmp 1)⟩),
          (8, ⟨(some 114), none, .bin .rem 3 (.tmp 112) (.tmp 113)⟩),
          (9, ⟨(some 115), none, .bin .eql 3 (.tmp 111) (.tmp 114)⟩),
          (10, ⟨(some 116), none, .mv (.tmp 115)⟩),
          (11, ⟨(some 117), (some (116, true)), .mv (.tmp 9)⟩),
          (12, ⟨(some 118), (some (116, true)), .mv (.tmp 17)⟩),
          (13, ⟨(some 119), (some (116, true)), .mv (.tmp 18)⟩),
          (14, ⟨(some 120), (some (116, true)), .idx (.tmp 118) (.tmp 119) 1⟩),
          (15, ⟨(some 121), (some (116, true)), .ld (.tmp 120) none⟩),
          (16, ⟨(some 122), (some (116, true)), .call 32 [(.tmp 117), (.tmp 121)]⟩),
          (17, ⟨(some 123), (some (116, true)), .bin .neq 31 (.tmp 122) (.const (Go.Value.int Go.IntKind.i64 0))⟩),
          (18, ⟨(some 124), none, .pick (.tmp 116) (.tmp 123) (.const (Go.Value.bool false))⟩)]
          [[], [], [0, 1], [2], [], [3, 4], [], [], [6, 7], [5, 8], [9], [10], [10], [10], [12, 13, 10], [14, 10], [11, 15, 10, 10], [16, 10], [10, 17]]
          [0, 0, 3, 7, 0, 31, 0, 0, 192, 511, 1023, 2047, 2047, 2047, 14335, 30719, 65535, 131071, 262143] 65536)
        (.cond (.tmp 124)
          (.seq (.ops [⟨(some 8), none, .mv (.const (Go.Value.bool false))⟩])
          (.ret))
          (.skip))))
      (.ops [⟨(some 104), none, .mv (.tmp 18)⟩,
        ⟨(some 105), none, .bin .add 3 (.tmp 104) (.const (Go.Value.int Go.IntKind.i64 1))⟩,
        ⟨(some 18), none, .mv (.tmp 105)⟩]))))))
  (.seq (.seq (.ops [⟨(some 125), none, .mv (.tmp 9)⟩,
    ⟨(some 126), none, .mv (.tmp 3)⟩,
    ⟨(some 127), none, .call 31 [(.tmp 125), (.tmp 126)]⟩,
    ⟨(some 128), none, .bin .neq 31 (.tmp 127) (.const (Go.Value.int Go.IntKind.i64 0))⟩])
  (.cond (.tmp 128)
    (.seq (.ops [⟨(some 8), none, .mv (.const (Go.Value.bool false))⟩])
    (.ret))
    (.skip)))
  (.seq (.ops [⟨(some 130), none, .mv (.tmp 9)⟩,
    ⟨(some 131), none, .mv (.tmp 3)⟩,
    ⟨(some 132), none, .call 33 [(.tmp 130), (.tmp 131)]⟩,
    ⟨(some 129), none, .mv (.tmp 132)⟩,
    ⟨(some 133), none, .ext (.tmp 129) 0⟩,
    ⟨(some 134), none, .ext (.tmp 129) 1⟩,
    ⟨(some 19), none, .mv (.tmp 133)⟩,
    ⟨(some 20), none, .mv (.tmp 134)⟩])
  (.seq (.ops [⟨(some 135), none, .mv (.tmp 20)⟩,
    ⟨(some 136), none, .bin .eql 31 (.tmp 135) (.const (Go.Value.int Go.IntKind.i64 0))⟩,
    ⟨(some 137), none, .mv (.tmp 136)⟩,
    ⟨(some 138), (some (137, true)), .mv (.tmp 19)⟩,
    ⟨(some 139), (some (137, true)), .mv (.tmp 0)⟩,
    ⟨(some 140), (some (137, true)), .call 35 [(.tmp 139)]⟩,
    ⟨(some 141), (some (137, true)), .mks 65 1 8 [(Go.Value.int Go.IntKind.u64 0)] (.tmp 140) (.tmp 140)⟩,
    ⟨(some 142), (some (137, true)), .call 34 [(.tmp 138), (.tmp 141)]⟩,
    ⟨(some 143), none, .pick (.tmp 137) (.tmp 142) (.const (Go.Value.bool false))⟩,
    ⟨(some 8), none, .mv (.tmp 143)⟩])
  (.ret))))))))))))
theorem is_law12_PagesFew : FnIs Try.prog F.law12_PagesFew X.law12_PagesFew 144 [.tmp 8] := ⟨by kernel_rfl⟩

/-- (*haycroft/pages.Buffer).Bits: function 38 -/
abbrev F.pages_Buffer_Bits : FuncId := 38
def X.pages_Buffer_Bits : X :=
  .seq (.ops [⟨(some 2), none, .mv (.const (Go.Value.int Go.IntKind.i64 0))⟩])
  (.seq (.seq (.ops [⟨(some 3), none, .mv (.tmp 0)⟩,
    ⟨(some 4), none, .eq false .ptr (.tmp 3) (.const (Go.Value.pointer none))⟩])
  (.cond (.tmp 4)
    (.seq (.ops [⟨(some 2), none, .mv (.const (Go.Value.int Go.IntKind.i64 0))⟩])
    (.ret))
    (.skip)))
  (.seq (.ops [⟨(some 5), none, .mv (.tmp 0)⟩,
    ⟨(some 6), none, .nilc (.tmp 5)⟩,
    ⟨(some 7), none, .fld (.tmp 6) 0⟩,
    ⟨(some 8), none, .ld (.tmp 7) none⟩,
    ⟨(some 2), none, .mv (.tmp 8)⟩])
  (.ret)))
theorem is_pages_Buffer_Bits : FnIs Try.prog F.pages_Buffer_Bits X.pages_Buffer_Bits 9 [.tmp 2] := ⟨by kernel_rfl⟩

-- loop (inner ones first): [0, 1, 2, 7, 9, 11, 12, 13]
-- loop (inner ones first): [0, 1, 2, 7, 9, 11]
/-- haycroft/haycroftlaw12.PagesPlay: function 7 -/
abbrev F.law12_PagesPlay : FuncId := 7
def X.law12_PagesPlay : X :=
  .seq (.ops [⟨(some 6), none, .mv (.const (Go.Value.bool false))⟩])
  (.seq (.seq (.ops [⟨(some 14), none, .call 26 []⟩,
    ⟨(some 15), none, .un .not (.tmp 14)⟩])
  (.cond (.tmp 15)
    (.seq (.ops [⟨(some 6), none, .mv (.const (Go.Value.bool false))⟩])
    (.ret))
    (.skip)))
  (.seq (.ops [⟨(some 17), none, .mv (.tmp 0)⟩,
    ⟨(some 18), none, .mv (.tmp 1)⟩,
    ⟨(some 19), none, .call 27 [(.tmp 17), (.tmp 18)]⟩,
    ⟨(some 16), none, .mv (.tmp 19)⟩,
    ⟨(some 20), none, .ext (.tmp 16) 0⟩,
    ⟨(some 21), none, .ext (.tmp 16) 1⟩,
    ⟨(some 7), none, .mv (.tmp 20)⟩,
    ⟨(some 8), none, .mv (.tmp 21)⟩])
  (.seq (.ops [⟨(some 23), none, .mv (.tmp 0)⟩,
    ⟨(some 24), none, .mv (.tmp 1)⟩,
    ⟨(some 25), none, .call 28 [(.tmp 23), (.tmp 24)]⟩,
    ⟨(some 22), none, .mv (.tmp 25)⟩,
    ⟨(some 26), none, .ext (.tmp 22) 0⟩,
    ⟨(some 27), none, .ext (.tmp 22) 1⟩,
    ⟨(some 9), none, .mv (.tmp 26)⟩,
    ⟨(some 10), none, .mv (.tmp 27)⟩])
  (.seq (.seq (.ops [⟨(some 28), none, .mv (.tmp 8)⟩,
    ⟨(some 29), none, .mv (.tmp 10)⟩,
    ⟨(some 30), none, .bin .neq 31 (.tmp 28) (.tmp 29)⟩,
    ⟨(some 31), none, .mv (.tmp 30)⟩,
    ⟨(some 32), (some (31, false)), .mv (.tmp 10)⟩,
    ⟨(some 33), (some (31, false)), .bin .neq 31 (.tmp 32) (.const (Go.Value.int Go.IntKind.i64 0))⟩,
    ⟨(some 34), none, .pick (.tmp 31) (.const (Go.Value.bool true)) (.tmp 33)⟩])
  (.cond (.tmp 34)
    (.seq (.ops [⟨(some 35), none, .mv (.tmp 8)⟩,
      ⟨(some 36), none, .mv (.tmp 10)⟩,
      ⟨(some 37), none, .bin .eql 31 (.tmp 35) (.tmp 36)⟩,
      ⟨(some 38), none, .mv (.tmp 37)⟩,
      ⟨(some 39), (some (38, true)), .mv (.tmp 7)⟩,
      ⟨(some 40), (some (38, true)), .eq false .ptr (.tmp 39) (.const (Go.Value.pointer none))⟩,
      ⟨(some 41), none, .pick (.tmp 38) (.tmp 40) (.const (Go.Value.bool false))⟩,
      ⟨(some 6), none, .mv (.tmp 41)⟩])
    (.ret))
    (.skip)))
  (.seq (.seq (.ops [⟨(some 11), none, .mv (.const (Go.Value.int Go.IntKind.i64 0))⟩])
  (.block 0 (.loop (.seq (.seq (.ops [⟨(some 42), none, .mv (.tmp 11)⟩,
        ⟨(some 43), none, .mv (.tmp 2)⟩,
        ⟨(some 44), none, .lenS (.tmp 43)⟩,
        ⟨(some 45), none, .bin .lss 3 (.tmp 42) (.tmp 44)⟩,
        ⟨(some 46), none, .mv (.tmp 45)⟩,
        ⟨(some 47), (some (46, true)), .mv (.tmp 11)⟩,
        ⟨(some 48), (some (46, true)), .bin .lss 3 (.tmp 47) (.const (Go.Value.int Go.IntKind.i64 100))⟩,
        ⟨(some 49), none, .pick (.tmp 46) (.tmp 48) (.const (Go.Value.bool false))⟩])
      (.cond (.tmp 49)
        (.skip)
        (.exit 0)))
      (.seq (.block 1 (.seq (.seq (.ops [⟨(some 52), none, .mv (.tmp 7)⟩,
          ⟨(some 53), none, .mv (.tmp 9)⟩,
          ⟨(some 54), none, .mv (.tmp 2)⟩,
          ⟨(some 55), none, .mv (.tmp 11)⟩,
          ⟨(some 56), none, .idx (.tmp 54) (.tmp 55) 7⟩,
          ⟨(some 57), none, .ld (.tmp 56) (some 7)⟩,
          ⟨(some 58), none, .call 29 [(.tmp 52), (.tmp 53), (.tmp 57)]⟩,
          ⟨(some 59), none, .un .not (.tmp 58)⟩])
        (.cond (.tmp 59)
          (.seq (.ops [⟨(some 6), none, .mv (.const (Go.Value.bool false))⟩])
          (.ret))
          (.skip)))
        (.seq (.ops [⟨(some 60), none, .mv (.tmp 7)⟩,
          ⟨(some 61), none, .call 30 [(.tmp 60)]⟩,
          ⟨(some 12), none, .mv (.tmp 61)⟩])
        (.seq (.seq (.drawn [(0, ⟨(some 62), none, .mv (.tmp 12)⟩),
          (1, ⟨(some 63), none, .lenS (.tmp 62)⟩),
          (2, ⟨(some 64), none, .mv (.tmp 9)⟩),
          (3, ⟨(some 65), none, .nilc (.tmp 64)⟩),
          (4, ⟨(some 66), none, .fld (.tmp 65) 2⟩),
          (5, ⟨(some 67), none, .ld (.tmp 66) none⟩),
          (6, ⟨(some 68), none, .lenS (.tmp 67)⟩),
          (7, ⟨(some 69), none, .bin .neq 3 (.tmp 63) (.tmp 68)⟩),
          (8, ⟨(some 70), none, .mv (.tmp 69)⟩),
          (9, ⟨(some 71), (some (70, false)), .mv (.tmp 7)⟩),
          (10, ⟨(some 72), (some (70, false)), .mv (.tmp 2)⟩),
          (11, ⟨(some 73), (some (70, false)), .mv (.tmp 11)⟩),
          (12, ⟨(some 74), (some (70, false)), .idx (.tmp 72) (.tmp 73) 7⟩),
          (13, ⟨(some 75), (some (70, false)), .fld (.tmp 74) 1⟩),
          (14, ⟨(some 76), (some (70, false)), .ld (.tmp 75) none⟩),
          (16, ⟨(some 78), (some (70, false)), .mv (.tmp 9)⟩),
          (17, ⟨(some 79), (some (70, false)), .mv (.tmp 2)⟩),
          (18, ⟨(some 80), (some (70, false)), .mv (.tmp 11)⟩),
          (19, ⟨(some 81), (some (70, false)), .idx (.tmp 79) (.tmp 80) 7⟩),
          (20, ⟨(some 82), (some (70, false)), .fld (.tmp 81) 1⟩),
          (21, ⟨(some 83), (some (70, false)), .ld (.tmp 82) none⟩),
          (15, ⟨(some 77), (some (70, false)), .call 36 [(.tmp 71), (.tmp 76)]⟩),
          (22, ⟨(some 84), (some (70, false)), .call 37 [(.tmp 78), (.tmp 83)]⟩),
          (23, ⟨(some 85), (some (70, false)), .bin .geq 3 (.tmp 84) (.const (Go.Value.int Go.IntKind.i64 0))⟩),
          (24, ⟨(some 86), (some (70, false)), .eq true .bool (.tmp 77) (.tmp 85)⟩),
          (25, ⟨(some 87), none, .pick (.tmp 70) (.const (Go.Value.bool true)) (.tmp 86)⟩)]
          [[], [0], [], [2], [3], [4], [5], [1, 6], [7], [8], [8], [8], [10, 11, 8], [12, 8], [13, 8], [9, 14, 8, 8], [8], [8], [8], [17, 18, 8], [19, 8], [20, 8], [16, 21, 15, 8], [22, 8], [15, 23, 8], [8, 24]]
          [0, 1, 0, 4, 12, 28, 60, 127, 255, 511, 511, 511, 3583, 7679, 15871, 32767, 511, 511, 511, 393727, 918015, 1966591, 4194303, 8388607, 16777215, 33554431] 4227072)
        (.cond (.tmp 87)
          (.seq (.ops [⟨(some 6), none, .mv (.const (Go.Value.bool false))⟩])
          (.ret))
          (.skip)))
        (.seq (.ops [⟨(some 13), none, .mv (.const (Go.Value.int Go.IntKind.i64 0))⟩])
        (.block 2 (.loop (.seq (.seq (.ops [⟨(some 88), none, .mv (.tmp 13)⟩,
              ⟨(some 89), none, .mv (.tmp 12)⟩,
              ⟨(some 90), none, .lenS (.tmp 89)⟩,
              ⟨(some 91), none, .bin .lss 3 (.tmp 88) (.tmp 90)⟩])
            (.cond (.tmp 91)
              (.skip)
              (.exit 2)))
            (.seq (.block 3 (.seq (.drawn [(0, ⟨(some 94), none, .mv (.tmp 12)⟩),
                (1, ⟨(some 95), none, .mv (.tmp 13)⟩),
                (2, ⟨(some 96), none, .idx (.tmp 94) (.tmp 95) 1⟩),
                (3, ⟨(some 97), none, .ld (.tmp 96) none⟩),
                (4, ⟨(some 98), none, .mv (.tmp 9)⟩),
                (5, ⟨(some 99), none, .nilc (.tmp 98)⟩),
                (6, ⟨(some 100), none, .fld (.tmp 99) 2⟩),
                (7, ⟨(some 101), none, .ld (.tmp 100) none⟩),
                (8, ⟨(some 102), none, .mv (.tmp 13)⟩),
                (9, ⟨(some 103), none, .idx (.tmp 101) (.tmp 102) 2⟩),
                (10, ⟨(some 104), none, .fld (.tmp 103) 0⟩),
                (11, ⟨(some 105), none, .ld (.tmp 104) none⟩),
                (12, ⟨(some 106), none, .bin .neq 3 (.tmp 97) (.tmp 105)⟩)]
                [[], [], [0, 1], [2], [], [4], [5], [6], [], [7, 8], [9], [10], [3, 11]]
                [0, 0, 3, 7, 0, 16, 48, 112, 0, 496, 1008, 2032, 4095] 0)
              (.cond (.tmp 106)
                (.seq (.ops [⟨(some 6), none, .mv (.const (Go.Value.bool false))⟩])
                (.ret))
                (.skip))))
            (.ops [⟨(some 92), none, .mv (.tmp 13)⟩,
              ⟨(some 93), none, .bin .add 3 (.tmp 92) (.const (Go.Value.int Go.IntKind.i64 1))⟩,
              ⟨(some 13), none, .mv (.tmp 93)⟩]))))))))))
      (.ops [⟨(some 50), none, .mv (.tmp 11)⟩,
        ⟨(some 51), none, .bin .add 3 (.tmp 50) (.const (Go.Value.int Go.IntKind.i64 1))⟩,
        ⟨(some 11), none, .mv (.tmp 51)⟩]))))))
  (.seq (.ops [⟨(some 107), none, .mv (.tmp 7)⟩,
    ⟨(some 108), none, .call 38 [(.tmp 107)]⟩,
    ⟨(some 109), none, .mv (.tmp 0)⟩,
    ⟨(some 110), none, .bin .eql 3 (.tmp 108) (.tmp 109)⟩,
    ⟨(some 111), none, .mv (.tmp 110)⟩,
    ⟨(some 112), (some (111, true)), .mv (.tmp 7)⟩,
    ⟨(some 113), (some (111, true)), .call 39 [(.tmp 112)]⟩,
    ⟨(some 114), (some (111, true)), .mv (.tmp 1)⟩,
    ⟨(some 115), (some (111, true)), .bin .eql 3 (.tmp 113) (.tmp 114)⟩,
    ⟨(some 116), none, .pick (.tmp 111) (.tmp 115) (.const (Go.Value.bool false))⟩,
    ⟨(some 6), none, .mv (.tmp 116)⟩])
  (.ret)))))))
theorem is_law12_PagesPlay : FnIs Try.prog F.law12_PagesPlay X.law12_PagesPlay 117 [.tmp 6] := ⟨by kernel_rfl⟩

/-- haycroft/haycroftlaw12.PagesNil: function 8 -/
abbrev F.law12_PagesNil : FuncId := 8
def X.law12_PagesNil : X :=
  .seq (.ops [⟨(some 1), none, .box 68 (.tmp 0)⟩,
    ⟨(some 2), none, .mv (.const (Go.Value.bool false))⟩])
  (.seq (.seq (.ops [⟨(some 12), none, .call 26 []⟩,
    ⟨(some 13), none, .un .not (.tmp 12)⟩])
  (.cond (.tmp 13)
    (.seq (.ops [⟨(some 2), none, .mv (.const (Go.Value.bool false))⟩])
    (.ret))
    (.skip)))
  (.seq (.ops [⟨(some 3), none, .mv (.const (Go.Value.pointer none))⟩])
  (.seq (.ops [⟨(some 15), none, .mv (.tmp 3)⟩,
    ⟨(some 16), none, .fld (.tmp 1) 2⟩,
    ⟨(some 17), none, .ld (.tmp 16) none⟩,
    ⟨(some 18), none, .call 40 [(.tmp 15), (.tmp 17)]⟩,
    ⟨(some 14), none, .mv (.tmp 18)⟩,
    ⟨(some 19), none, .ext (.tmp 14) 0⟩,
    ⟨(some 20), none, .ext (.tmp 14) 1⟩,
    ⟨(some 4), none, .mv (.tmp 19)⟩,
    ⟨(some 5), none, .mv (.tmp 20)⟩])
  (.seq (.ops [⟨(some 22), none, .mv (.tmp 3)⟩,
    ⟨(some 23), none, .fld (.tmp 1) 2⟩,
    ⟨(some 24), none, .ld (.tmp 23) none⟩,
    ⟨(some 25), none, .fld (.tmp 1) 4⟩,
    ⟨(some 26), none, .ld (.tmp 25) none⟩,
    ⟨(some 27), none, .fld (.tmp 1) 5⟩,
    ⟨(some 28), none, .ld (.tmp 27) none⟩,
    ⟨(some 29), none, .call 41 [(.tmp 22), (.tmp 24), (.tmp 26), (.tmp 28)]⟩,
    ⟨(some 21), none, .mv (.tmp 29)⟩,
    ⟨(some 30), none, .ext (.tmp 21) 0⟩,
    ⟨(some 31), none, .ext (.tmp 21) 1⟩,
    ⟨(some 6), none, .mv (.tmp 30)⟩,
    ⟨(some 7), none, .mv (.tmp 31)⟩])
  (.seq (.ops [⟨(some 33), none, .mv (.tmp 3)⟩,
    ⟨(some 34), none, .fld (.tmp 1) 2⟩,
    ⟨(some 35), none, .ld (.tmp 34) none⟩,
    ⟨(some 36), none, .fld (.tmp 1) 3⟩,
    ⟨(some 37), none, .ld (.tmp 36) none⟩,
    ⟨(some 38), none, .call 42 [(.tmp 33), (.tmp 35), (.tmp 37)]⟩,
    ⟨(some 32), none, .mv (.tmp 38)⟩,
    ⟨(some 39), none, .ext (.tmp 32) 0⟩,
    ⟨(some 40), none, .ext (.tmp 32) 1⟩,
    ⟨(some 8), none, .mv (.tmp 39)⟩,
    ⟨(some 9), none, .mv (.tmp 40)⟩])
  (.seq (.ops [⟨(some 42), none, .mv (.tmp 3)⟩,
    ⟨(some 43), none, .fld (.tmp 1) 1⟩,
    ⟨(some 44), none, .ld (.tmp 43) none⟩,
    ⟨(some 45), none, .call 33 [(.tmp 42), (.tmp 44)]⟩,
    ⟨(some 41), none, .mv (.tmp 45)⟩,
    ⟨(some 46), none, .ext (.tmp 41) 0⟩,
    ⟨(some 47), none, .ext (.tmp 41) 1⟩,
    ⟨(some 10), none, .mv (.tmp 46)⟩,
    ⟨(some 11), none, .mv (.tmp 47)⟩])
  (.seq (.ops [⟨(some 48), none, .mv (.tmp 3)⟩,
    ⟨(some 49), none, .call 38 [(.tmp 48)]⟩,
    ⟨(some 50), none, .bin .eql 3 (.tmp 49) (.const (Go.Value.int Go.IntKind.i64 0))⟩,
    ⟨(some 51), none, .mv (.tmp 50)⟩,
    ⟨(some 52), (some (51, true)), .mv (.tmp 3)⟩,
    ⟨(some 53), (some (51, true)), .call 39 [(.tmp 52)]⟩,
    ⟨(some 54), (some (51, true)), .bin .eql 3 (.tmp 53) (.const (Go.Value.int Go.IntKind.i64 0))⟩,
    ⟨(some 55), none, .pick (.tmp 51) (.tmp 54) (.const (Go.Value.bool false))⟩,
    ⟨(some 56), none, .mv (.tmp 55)⟩,
    ⟨(some 57), (some (56, true)), .mv (.tmp 3)⟩,
    ⟨(some 58), (some (56, true)), .fld (.tmp 1) 1⟩,
    ⟨(some 59), (some (56, true)), .ld (.tmp 58) none⟩,
    ⟨(some 60), (some (56, true)), .call 31 [(.tmp 57), (.tmp 59)]⟩,
    ⟨(some 61), (some (56, true)), .bin .eql 31 (.tmp 60) (.const (Go.Value.int Go.IntKind.i64 2))⟩,
    ⟨(some 62), none, .pick (.tmp 56) (.tmp 61) (.const (Go.Value.bool false))⟩,
    ⟨(some 63), none, .mv (.tmp 62)⟩,
    ⟨(some 64), (some (63, true)), .mv (.tmp 3)⟩,
    ⟨(some 65), (some (63, true)), .fld (.tmp 1) 1⟩,
    ⟨(some 66), (some (63, true)), .ld (.tmp 65) none⟩,
    ⟨(some 67), (some (63, true)), .call 32 [(.tmp 64), (.tmp 66)]⟩,
    ⟨(some 68), (some (63, true)), .bin .eql 31 (.tmp 67) (.const (Go.Value.int Go.IntKind.i64 2))⟩,
    ⟨(some 69), none, .pick (.tmp 63) (.tmp 68) (.const (Go.Value.bool false))⟩,
    ⟨(some 70), none, .mv (.tmp 69)⟩,
    ⟨(some 71), (some (70, true)), .mv (.tmp 3)⟩,
    ⟨(some 72), (some (70, true)), .fld (.tmp 1) 1⟩,
    ⟨(some 73), (some (70, true)), .ld (.tmp 72) none⟩,
    ⟨(some 74), (some (70, true)), .call 36 [(.tmp 71), (.tmp 73)]⟩,
    ⟨(some 75), (some (70, true)), .un .not (.tmp 74)⟩,
    ⟨(some 76), none, .pick (.tmp 70) (.tmp 75) (.const (Go.Value.bool false))⟩,
    ⟨(some 77), none, .mv (.tmp 76)⟩,
    ⟨(some 78), (some (77, true)), .mv (.tmp 3)⟩,
    ⟨(some 79), (some (77, true)), .call 30 [(.tmp 78)]⟩,
    ⟨(some 80), (some (77, true)), .lenS (.tmp 79)⟩,
    ⟨(some 81), (some (77, true)), .bin .eql 3 (.tmp 80) (.const (Go.Value.int Go.IntKind.i64 0))⟩,
    ⟨(some 82), none, .pick (.tmp 77) (.tmp 81) (.const (Go.Value.bool false))⟩,
    ⟨(some 83), none, .mv (.tmp 82)⟩,
    ⟨(some 84), (some (83, true)), .mv (.tmp 4)⟩,
    ⟨(some 85), (some (83, true)), .bin .eql 65 (.tmp 84) (.const (Go.Value.int Go.IntKind.u64 0))⟩,
    ⟨(some 86), none, .pick (.tmp 83) (.tmp 85) (.const (Go.Value.bool false))⟩,
    ⟨(some 87), none, .mv (.tmp 86)⟩,
    ⟨(some 88), (some (87, true)), .mv (.tmp 5)⟩,
    ⟨(some 89), (some (87, true)), .bin .eql 31 (.tmp 88) (.const (Go.Value.int Go.IntKind.i64 2))⟩,
    ⟨(some 90), none, .pick (.tmp 87) (.tmp 89) (.const (Go.Value.bool false))⟩,
    ⟨(some 91), none, .mv (.tmp 90)⟩,
    ⟨(some 92), (some (91, true)), .mv (.tmp 3)⟩,
    ⟨(some 93), (some (91, true)), .fld (.tmp 1) 2⟩,
    ⟨(some 94), (some (91, true)), .ld (.tmp 93) none⟩,
    ⟨(some 95), (some (91, true)), .fld (.tmp 1) 5⟩,
    ⟨(some 96), (some (91, true)), .ld (.tmp 95) none⟩,
    ⟨(some 97), (some (91, true)), .call 43 [(.tmp 92), (.tmp 94), (.tmp 96)]⟩,
    ⟨(some 98), (some (91, true)), .bin .eql 31 (.tmp 97) (.const (Go.Value.int Go.IntKind.i64 2))⟩,
    ⟨(some 99), none, .pick (.tmp 91) (.tmp 98) (.const (Go.Value.bool false))⟩,
    ⟨(some 100), none, .mv (.tmp 99)⟩,
    ⟨(some 101), (some (100, true)), .mv (.tmp 6)⟩,
    ⟨(some 102), (some (100, true)), .un .not (.tmp 101)⟩,
    ⟨(some 103), none, .pick (.tmp 100) (.tmp 102) (.const (Go.Value.bool false))⟩,
    ⟨(some 104), none, .mv (.tmp 103)⟩,
    ⟨(some 105), (some (104, true)), .mv (.tmp 7)⟩,
    ⟨(some 106), (some (104, true)), .bin .eql 31 (.tmp 105) (.const (Go.Value.int Go.IntKind.i64 2))⟩,
    ⟨(some 107), none, .pick (.tmp 104) (.tmp 106) (.const (Go.Value.bool false))⟩,
    ⟨(some 108), none, .mv (.tmp 107)⟩,
    ⟨(some 109), (some (108, true)), .mv (.tmp 8)⟩,
    ⟨(some 110), (some (108, true)), .lenS (.tmp 109)⟩,
    ⟨(some 111), (some (108, true)), .bin .eql 3 (.tmp 110) (.const (Go.Value.int Go.IntKind.i64 0))⟩,
    ⟨(some 112), none, .pick (.tmp 108) (.tmp 111) (.const (Go.Value.bool false))⟩,
    ⟨(some 113), none, .mv (.tmp 112)⟩,
    ⟨(some 114), (some (113, true)), .mv (.tmp 9)⟩,
    ⟨(some 115), (some (113, true)), .bin .eql 31 (.tmp 114) (.const (Go.Value.int Go.IntKind.i64 2))⟩,
    ⟨(some 116), none, .pick (.tmp 113) (.tmp 115) (.const (Go.Value.bool false))⟩,
    ⟨(some 117), none, .mv (.tmp 116)⟩,
    ⟨(some 118), (some (117, true)), .mv (.tmp 3)⟩,
    ⟨(some 119), (some (117, true)), .fld (.tmp 1) 2⟩,
    ⟨(some 120), (some (117, true)), .ld (.tmp 119) none⟩,
    ⟨(some 121), (some (117, true)), .fld (.tmp 1) 6⟩,
    ⟨(some 122), (some (117, true)), .ld (.tmp 121) none⟩,
    ⟨(some 123), (some (117, true)), .call 44 [(.tmp 118), (.tmp 120), (.tmp 122)]⟩,
    ⟨(some 124), (some (117, true)), .bin .eql 31 (.tmp 123) (.const (Go.Value.int Go.IntKind.i64 2))⟩,
    ⟨(some 125), none, .pick (.tmp 117) (.tmp 124) (.const (Go.Value.bool false))⟩,
    ⟨(some 126), none, .mv (.tmp 125)⟩,
    ⟨(some 127), (some (126, true)), .mv (.tmp 10)⟩,
    ⟨(some 128), (some (126, true)), .lenS (.tmp 127)⟩,
    ⟨(some 129), (some (126, true)), .bin .eql 3 (.tmp 128) (.const (Go.Value.int Go.IntKind.i64 0))⟩,
    ⟨(some 130), none, .pick (.tmp 126) (.tmp 129) (.const (Go.Value.bool false))⟩,
    ⟨(some 131), none, .mv (.tmp 130)⟩,
    ⟨(some 132), (some (131, true)), .mv (.tmp 11)⟩,
    ⟨(some 133), (some (131, true)), .bin .eql 31 (.tmp 132) (.const (Go.Value.int Go.IntKind.i64 2))⟩,
    ⟨(some 134), none, .pick (.tmp 131) (.tmp 133) (.const (Go.Value.bool false))⟩,
    ⟨(some 2), none, .mv (.tmp 134)⟩])
  (.ret))))))))
theorem is_law12_PagesNil : FnIs Try.prog F.law12_PagesNil X.law12_PagesNil 135 [.tmp 2] := ⟨by kernel_rfl⟩

end Go.Proofs.Ytfchenbihepjaaa
