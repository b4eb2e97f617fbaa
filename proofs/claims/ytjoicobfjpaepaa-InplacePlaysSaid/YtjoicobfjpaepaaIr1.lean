import Derived.Test.YtjoicobfjpaepaaProg
import Derived.Test.YtjoicobfjpaepaaHxS
import Derived.KernelRfl
import Derived.Test.YtjoicobfjpaepaaIr0
namespace Go.Proofs.Ytjoicobfjpaepaa
open Go Go.HX
-- loop (inner ones first): [12, 14, 15, 20, 21, 22, 23]
-- loop (inner ones first): [12, 14, 15, 20, 21]
-- loop (inner ones first): [12, 14, 15, 20]
-- loop (inner ones first): [3, 12, 14, 15, 16]
-- loop (inner ones first): [0, 2, 3, 9, 11]
-- loop (inner ones first): [0, 1, 2, 3, 9, 10]
/-- haycroft/haycroftlaw18.InplaceSums: function 9 -/
abbrev F.law18_InplaceSums : FuncId := 9
def X.law18_InplaceSums : X :=
  .seq (.ops [⟨(some 8), none, .mv (.const (Go.Value.bool false))⟩])
  (.seq (.seq (.ops [⟨(some 25), none, .call 40 []⟩,
    ⟨(some 26), none, .un .not (.tmp 25)⟩])
  (.cond (.tmp 26)
    (.seq (.ops [⟨(some 8), none, .mv (.const (Go.Value.bool false))⟩])
    (.ret))
    (.skip)))
  (.seq (.ops [⟨(some 27), none, .bsl 91 3 0 [(Go.Value.int Go.IntKind.i64 0), (Go.Value.string { data := #[] }), (Go.Value.int Go.IntKind.u64 0)] []⟩,
    ⟨(some 9), none, .mv (.tmp 27)⟩])
  (.seq (.seq (.ops [⟨(some 10), none, .mv (.const (Go.Value.int Go.IntKind.i64 0))⟩])
  (.block 0 (.loop (.seq (.seq (.ops [⟨(some 28), none, .mv (.tmp 10)⟩,
        ⟨(some 29), none, .mv (.tmp 1)⟩,
        ⟨(some 30), none, .lenS (.tmp 29)⟩,
        ⟨(some 31), none, .bin .lss 3 (.tmp 28) (.tmp 30)⟩,
        ⟨(some 32), none, .mv (.tmp 31)⟩,
        ⟨(some 33), (some (32, true)), .mv (.tmp 10)⟩,
        ⟨(some 34), (some (32, true)), .bin .lss 3 (.tmp 33) (.const (Go.Value.int Go.IntKind.i64 4))⟩,
        ⟨(some 35), none, .pick (.tmp 32) (.tmp 34) (.const (Go.Value.bool false))⟩])
      (.cond (.tmp 35)
        (.skip)
        (.exit 0)))
      (.seq (.block 1 (.ops [⟨(some 38), none, .mv (.tmp 9)⟩,
          ⟨(some 39), none, .mv (.tmp 1)⟩,
          ⟨(some 40), none, .mv (.tmp 10)⟩,
          ⟨(some 41), none, .idx (.tmp 39) (.tmp 40) 1⟩,
          ⟨(some 42), none, .ld (.tmp 41) none⟩,
          ⟨(some 43), none, .bld [(Go.Value.int Go.IntKind.i64 0), (Go.Value.string { data := #[] }), (Go.Value.int Go.IntKind.u64 0)] [(0, 1, (.const (Go.Value.int Go.IntKind.i64 2))), (2, 1, (.tmp 42))]⟩,
          ⟨(some 44), none, .bsl 91 3 1 [(Go.Value.int Go.IntKind.i64 0), (Go.Value.string { data := #[] }), (Go.Value.int Go.IntKind.u64 0)] [(0, (.tmp 43))]⟩,
          ⟨(some 45), none, .app 91 3 32 [(Go.Value.int Go.IntKind.i64 0), (Go.Value.string { data := #[] }), (Go.Value.int Go.IntKind.u64 0)] (.tmp 38) (.tmp 44)⟩,
          ⟨(some 9), none, .mv (.tmp 45)⟩]))
      (.ops [⟨(some 36), none, .mv (.tmp 10)⟩,
        ⟨(some 37), none, .bin .add 3 (.tmp 36) (.const (Go.Value.int Go.IntKind.i64 1))⟩,
        ⟨(some 10), none, .mv (.tmp 37)⟩]))))))
  (.seq (.seq (.ops [⟨(some 11), none, .mv (.const (Go.Value.int Go.IntKind.i64 0))⟩])
  (.block 2 (.loop (.seq (.seq (.ops [⟨(some 46), none, .mv (.tmp 11)⟩,
        ⟨(some 47), none, .mv (.tmp 2)⟩,
        ⟨(some 48), none, .conv Go.IntKind.i64 (.tmp 47)⟩,
        ⟨(some 49), none, .bin .rem 3 (.tmp 48) (.const (Go.Value.int Go.IntKind.i64 3))⟩,
        ⟨(some 50), none, .bin .lss 3 (.tmp 46) (.tmp 49)⟩])
      (.cond (.tmp 50)
        (.skip)
        (.exit 2)))
      (.seq (.block 3 (.ops [⟨(some 53), none, .mv (.tmp 9)⟩,
          ⟨(some 54), none, .bld [(Go.Value.int Go.IntKind.i64 0), (Go.Value.string { data := #[] }), (Go.Value.int Go.IntKind.u64 0)] [(0, 1, (.const (Go.Value.int Go.IntKind.i64 3)))]⟩,
          ⟨(some 55), none, .bsl 91 3 1 [(Go.Value.int Go.IntKind.i64 0), (Go.Value.string { data := #[] }), (Go.Value.int Go.IntKind.u64 0)] [(0, (.tmp 54))]⟩,
          ⟨(some 56), none, .app 91 3 32 [(Go.Value.int Go.IntKind.i64 0), (Go.Value.string { data := #[] }), (Go.Value.int Go.IntKind.u64 0)] (.tmp 53) (.tmp 55)⟩,
          ⟨(some 9), none, .mv (.tmp 56)⟩]))
      (.ops [⟨(some 51), none, .mv (.tmp 11)⟩,
        ⟨(some 52), none, .bin .add 3 (.tmp 51) (.const (Go.Value.int Go.IntKind.i64 1))⟩,
        ⟨(some 11), none, .mv (.tmp 52)⟩]))))))
  (.seq (.ops [⟨(some 58), none, .mv (.tmp 0)⟩,
    ⟨(some 59), none, .call 51 [(.tmp 58)]⟩,
    ⟨(some 60), none, .mv (.tmp 9)⟩,
    ⟨(some 61), none, .call 50 [(.tmp 59), (.tmp 60)]⟩,
    ⟨(some 57), none, .mv (.tmp 61)⟩,
    ⟨(some 62), none, .ext (.tmp 57) 0⟩,
    ⟨(some 63), none, .ext (.tmp 57) 1⟩,
    ⟨(some 12), none, .mv (.tmp 62)⟩,
    ⟨(some 13), none, .mv (.tmp 63)⟩])
  (.seq (.seq (.ops [⟨(some 64), none, .mv (.tmp 13)⟩,
    ⟨(some 65), none, .un .not (.tmp 64)⟩])
  (.cond (.tmp 65)
    (.seq (.ops [⟨(some 8), none, .mv (.const (Go.Value.bool false))⟩])
    (.ret))
    (.skip)))
  (.seq (.ops [⟨(some 66), none, .mv (.tmp 12)⟩,
    ⟨(some 67), none, .nilc (.tmp 66)⟩,
    ⟨(some 68), none, .fld (.tmp 67) 4⟩,
    ⟨(some 69), none, .ld (.tmp 68) none⟩,
    ⟨(some 70), none, .lenS (.tmp 69)⟩,
    ⟨(some 71), none, .mks 4 1 1 [(Go.Value.bool false)] (.tmp 70) (.tmp 70)⟩,
    ⟨(some 14), none, .mv (.tmp 71)⟩])
  (.seq (.ops [⟨(some 72), none, .mv (.tmp 0)⟩,
    ⟨(some 15), none, .mv (.tmp 72)⟩])
  (.seq (.seq (.ops [⟨(some 16), none, .mv (.const (Go.Value.int Go.IntKind.i64 0))⟩])
  (.block 4 (.loop (.seq (.seq (.ops [⟨(some 73), none, .mv (.tmp 16)⟩,
        ⟨(some 74), none, .mv (.tmp 3)⟩,
        ⟨(some 75), none, .lenS (.tmp 74)⟩,
        ⟨(some 76), none, .bin .lss 3 (.tmp 73) (.tmp 75)⟩,
        ⟨(some 77), none, .mv (.tmp 76)⟩,
        ⟨(some 78), (some (77, true)), .mv (.tmp 16)⟩,
        ⟨(some 79), (some (77, true)), .bin .lss 3 (.tmp 78) (.const (Go.Value.int Go.IntKind.i64 300))⟩,
        ⟨(some 80), none, .pick (.tmp 77) (.tmp 79) (.const (Go.Value.bool false))⟩,
        ⟨(some 81), none, .mv (.tmp 80)⟩,
        ⟨(some 82), (some (81, true)), .mv (.tmp 12)⟩,
        ⟨(some 83), (some (81, true)), .nilc (.tmp 82)⟩,
        ⟨(some 84), (some (81, true)), .fld (.tmp 83) 4⟩,
        ⟨(some 85), (some (81, true)), .ld (.tmp 84) none⟩,
        ⟨(some 86), (some (81, true)), .lenS (.tmp 85)⟩,
        ⟨(some 87), (some (81, true)), .bin .gtr 3 (.tmp 86) (.const (Go.Value.int Go.IntKind.i64 0))⟩,
        ⟨(some 88), none, .pick (.tmp 81) (.tmp 87) (.const (Go.Value.bool false))⟩])
      (.cond (.tmp 88)
        (.skip)
        (.exit 4)))
      (.seq (.block 5 (.seq (.drawn [(0, ⟨(some 91), none, .mv (.tmp 3)⟩),
          (1, ⟨(some 92), none, .mv (.tmp 16)⟩),
          (2, ⟨(some 93), none, .idx (.tmp 91) (.tmp 92) 1⟩),
          (3, ⟨(some 94), none, .ld (.tmp 93) none⟩),
          (4, ⟨(some 95), none, .conv Go.IntKind.i64 (.tmp 94)⟩),
          (5, ⟨(some 96), none, .mv (.tmp 12)⟩),
          (6, ⟨(some 97), none, .nilc (.tmp 96)⟩),
          (7, ⟨(some 98), none, .fld (.tmp 97) 4⟩),
          (8, ⟨(some 99), none, .ld (.tmp 98) none⟩),
          (9, ⟨(some 100), none, .lenS (.tmp 99)⟩),
          (10, ⟨(some 101), none, .bin .rem 3 (.tmp 95) (.tmp 100)⟩),
          (11, ⟨(some 17), none, .mv (.tmp 101)⟩)]
          [[], [], [0, 1], [2], [3], [], [5], [6], [7], [8], [4, 9], [10, 0, 1, 2, 3, 4, 5, 6, 7, 8, 9, 10]]
          [0, 0, 3, 7, 15, 0, 32, 96, 224, 480, 1023, 2047] 0)
        (.seq (.ops [⟨(some 103), none, .mv (.tmp 12)⟩,
          ⟨(some 104), none, .mv (.tmp 17)⟩,
          ⟨(some 105), none, .call 52 [(.tmp 103), (.tmp 104)]⟩,
          ⟨(some 102), none, .mv (.tmp 105)⟩,
          ⟨(some 106), none, .ext (.tmp 102) 0⟩,
          ⟨(some 107), none, .ext (.tmp 102) 1⟩,
          ⟨(some 18), none, .mv (.tmp 106)⟩,
          ⟨(some 19), none, .mv (.tmp 107)⟩])
        (.seq (.seq (.ops [⟨(some 108), none, .mv (.tmp 19)⟩,
          ⟨(some 109), none, .bin .neq 25 (.tmp 108) (.const (Go.Value.int Go.IntKind.i64 0))⟩])
        (.cond (.tmp 109)
          (.seq (.ops [⟨(some 8), none, .mv (.const (Go.Value.bool false))⟩])
          (.ret))
          (.skip)))
        (.seq (.ops [⟨(some 110), none, .mv (.tmp 18)⟩,
          ⟨(some 111), none, .bin .eql 3 (.tmp 110) (.const (Go.Value.int Go.IntKind.i64 2))⟩,
          ⟨(some 112), none, .mv (.tmp 111)⟩,
          ⟨(some 113), (some (112, true)), .mv (.tmp 14)⟩,
          ⟨(some 114), (some (112, true)), .mv (.tmp 17)⟩,
          ⟨(some 115), (some (112, true)), .idx (.tmp 113) (.tmp 114) 1⟩,
          ⟨(some 116), (some (112, true)), .ld (.tmp 115) none⟩,
          ⟨(some 117), (some (112, true)), .un .not (.tmp 116)⟩,
          ⟨(some 118), none, .pick (.tmp 112) (.tmp 117) (.const (Go.Value.bool false))⟩])
        (.cond (.tmp 118)
          (.seq (.ops [⟨(some 119), none, .mv (.tmp 14)⟩,
            ⟨(some 120), none, .mv (.tmp 17)⟩,
            ⟨(some 121), none, .idx (.tmp 119) (.tmp 120) 1⟩,
            ⟨none, none, .st (.tmp 121) (.const (Go.Value.bool true)) 1⟩])
          (.ops [⟨(some 122), none, .mv (.tmp 15)⟩,
            ⟨(some 123), none, .mv (.tmp 12)⟩,
            ⟨(some 124), none, .nilc (.tmp 123)⟩,
            ⟨(some 125), none, .fld (.tmp 124) 4⟩,
            ⟨(some 126), none, .ld (.tmp 125) none⟩,
            ⟨(some 127), none, .mv (.tmp 17)⟩,
            ⟨(some 128), none, .idx (.tmp 126) (.tmp 127) 1⟩,
            ⟨(some 129), none, .ld (.tmp 128) none⟩,
            ⟨(some 130), none, .nilc (.tmp 129)⟩,
            ⟨(some 131), none, .fld (.tmp 130) 2⟩,
            ⟨(some 132), none, .ld (.tmp 131) none⟩,
            ⟨(some 133), none, .bin .add 32 (.tmp 122) (.tmp 132)⟩,
            ⟨(some 15), none, .mv (.tmp 133)⟩]))
          (.skip)))))))
      (.ops [⟨(some 89), none, .mv (.tmp 16)⟩,
        ⟨(some 90), none, .bin .add 3 (.tmp 89) (.const (Go.Value.int Go.IntKind.i64 1))⟩,
        ⟨(some 16), none, .mv (.tmp 90)⟩]))))))
  (.seq (.seq (.ops [⟨(some 20), none, .mv (.const (Go.Value.int Go.IntKind.i64 0))⟩])
  (.block 6 (.loop (.seq (.seq (.ops [⟨(some 134), none, .mv (.tmp 20)⟩,
        ⟨(some 135), none, .bin .lss 3 (.tmp 134) (.const (Go.Value.int Go.IntKind.i64 2))⟩])
      (.cond (.tmp 135)
        (.skip)
        (.exit 6)))
      (.seq (.block 7 (.seq (.ops [⟨(some 21), none, .mv (.const (Go.Value.int Go.IntKind.i64 0))⟩])
        (.block 8 (.loop (.seq (.seq (.ops [⟨(some 138), none, .mv (.tmp 21)⟩,
              ⟨(some 139), none, .mv (.tmp 12)⟩,
              ⟨(some 140), none, .nilc (.tmp 139)⟩,
              ⟨(some 141), none, .fld (.tmp 140) 4⟩,
              ⟨(some 142), none, .ld (.tmp 141) none⟩,
              ⟨(some 143), none, .lenS (.tmp 142)⟩,
              ⟨(some 144), none, .bin .lss 3 (.tmp 138) (.tmp 143)⟩])
            (.cond (.tmp 144)
              (.skip)
              (.exit 8)))
            (.seq (.block 9 (.seq (.seq (.ops [⟨(some 147), none, .mv (.tmp 14)⟩,
                ⟨(some 148), none, .mv (.tmp 21)⟩,
                ⟨(some 149), none, .idx (.tmp 147) (.tmp 148) 1⟩,
                ⟨(some 150), none, .ld (.tmp 149) none⟩,
                ⟨(some 151), none, .mv (.tmp 150)⟩,
                ⟨(some 152), (some (151, false)), .mv (.tmp 20)⟩,
                ⟨(some 153), (some (151, false)), .bin .eql 3 (.tmp 152) (.const (Go.Value.int Go.IntKind.i64 0))⟩,
                ⟨(some 154), (some (151, false)), .mv (.tmp 153)⟩,
                ⟨(some 155), (some (154, true)), .mv (.tmp 12)⟩,
                ⟨(some 156), (some (154, true)), .nilc (.tmp 155)⟩,
                ⟨(some 157), (some (154, true)), .fld (.tmp 156) 2⟩,
                ⟨(some 158), (some (154, true)), .ld (.tmp 157) none⟩,
                ⟨(some 159), (some (154, true)), .mv (.tmp 21)⟩,
                ⟨(some 160), (some (154, true)), .idx (.tmp 158) (.tmp 159) 1⟩,
                ⟨(some 161), (some (154, true)), .ld (.tmp 160) none⟩,
                ⟨(some 162), (some (154, true)), .call 47 [(.tmp 161)]⟩,
                ⟨(some 163), (some (154, true)), .un .not (.tmp 162)⟩,
                ⟨(some 164), (some (151, false)), .pick (.tmp 154) (.tmp 163) (.const (Go.Value.bool false))⟩,
                ⟨(some 165), none, .pick (.tmp 151) (.const (Go.Value.bool true)) (.tmp 164)⟩])
              (.cond (.tmp 165)
                (.exit 9)
                (.skip)))
              (.seq (.ops [⟨(some 22), none, .mv (.const (Go.Value.int Go.IntKind.i64 0))⟩])
              (.seq (.seq (.ops [⟨(some 23), none, .mv (.const (Go.Value.int Go.IntKind.i64 0))⟩])
              (.block 10 (.loop (.seq (.seq (.ops [⟨(some 166), none, .mv (.tmp 23)⟩,
                    ⟨(some 167), none, .bin .lss 3 (.tmp 166) (.const (Go.Value.int Go.IntKind.i64 12))⟩,
                    ⟨(some 168), none, .mv (.tmp 167)⟩,
                    ⟨(some 169), (some (168, true)), .mv (.tmp 22)⟩,
                    ⟨(some 170), (some (168, true)), .bin .neq 3 (.tmp 169) (.const (Go.Value.int Go.IntKind.i64 2))⟩,
                    ⟨(some 171), none, .pick (.tmp 168) (.tmp 170) (.const (Go.Value.bool false))⟩])
                  (.cond (.tmp 171)
                    (.skip)
                    (.exit 10)))
                  (.seq (.block 11 (.ops [⟨(some 175), none, .mv (.tmp 12)⟩,
                      ⟨(some 176), none, .mv (.tmp 21)⟩,
                      ⟨(some 177), none, .call 52 [(.tmp 175), (.tmp 176)]⟩,
                      ⟨(some 174), none, .mv (.tmp 177)⟩,
                      ⟨(some 178), none, .ext (.tmp 174) 0⟩,
                      ⟨(some 179), none, .ext (.tmp 174) 1⟩,
                      ⟨(some 22), none, .mv (.tmp 178)⟩]))
                  (.ops [⟨(some 172), none, .mv (.tmp 23)⟩,
                    ⟨(some 173), none, .bin .add 3 (.tmp 172) (.const (Go.Value.int Go.IntKind.i64 1))⟩,
                    ⟨(some 23), none, .mv (.tmp 173)⟩]))))))
              (.seq (.seq (.ops [⟨(some 180), none, .mv (.tmp 22)⟩,
                ⟨(some 181), none, .bin .neq 3 (.tmp 180) (.const (Go.Value.int Go.IntKind.i64 2))⟩])
              (.cond (.tmp 181)
                (.seq (.ops [⟨(some 8), none, .mv (.const (Go.Value.bool false))⟩])
                (.ret))
                (.skip)))
              (.seq (.ops [⟨(some 182), none, .mv (.tmp 15)⟩,
                ⟨(some 183), none, .mv (.tmp 12)⟩,
                ⟨(some 184), none, .nilc (.tmp 183)⟩,
                ⟨(some 185), none, .fld (.tmp 184) 4⟩,
                ⟨(some 186), none, .ld (.tmp 185) none⟩,
                ⟨(some 187), none, .mv (.tmp 21)⟩,
                ⟨(some 188), none, .idx (.tmp 186) (.tmp 187) 1⟩,
                ⟨(some 189), none, .ld (.tmp 188) none⟩,
                ⟨(some 190), none, .nilc (.tmp 189)⟩,
                ⟨(some 191), none, .fld (.tmp 190) 2⟩,
                ⟨(some 192), none, .ld (.tmp 191) none⟩,
                ⟨(some 193), none, .bin .add 32 (.tmp 182) (.tmp 192)⟩,
                ⟨(some 15), none, .mv (.tmp 193)⟩])
              (.ops [⟨(some 194), none, .mv (.tmp 14)⟩,
                ⟨(some 195), none, .mv (.tmp 21)⟩,
                ⟨(some 196), none, .idx (.tmp 194) (.tmp 195) 1⟩,
                ⟨none, none, .st (.tmp 196) (.const (Go.Value.bool true)) 1⟩])))))))
            (.ops [⟨(some 145), none, .mv (.tmp 21)⟩,
              ⟨(some 146), none, .bin .add 3 (.tmp 145) (.const (Go.Value.int Go.IntKind.i64 1))⟩,
              ⟨(some 21), none, .mv (.tmp 146)⟩])))))))
      (.ops [⟨(some 136), none, .mv (.tmp 20)⟩,
        ⟨(some 137), none, .bin .add 3 (.tmp 136) (.const (Go.Value.int Go.IntKind.i64 1))⟩,
        ⟨(some 20), none, .mv (.tmp 137)⟩]))))))
  (.seq (.ops [⟨(some 197), none, .mv (.tmp 12)⟩,
    ⟨(some 198), none, .call 53 [(.tmp 197)]⟩,
    ⟨(some 24), none, .mv (.tmp 198)⟩])
  (.seq (.ops [⟨(some 199), none, .mv (.tmp 24)⟩,
    ⟨(some 200), none, .lenS (.tmp 199)⟩,
    ⟨(some 201), none, .bin .eql 3 (.tmp 200) (.const (Go.Value.int Go.IntKind.i64 1))⟩,
    ⟨(some 202), none, .mv (.tmp 201)⟩,
    ⟨(some 203), (some (202, true)), .mv (.tmp 24)⟩,
    ⟨(some 204), (some (202, true)), .idx (.tmp 203) (.const (Go.Value.int Go.IntKind.i64 0)) 1⟩,
    ⟨(some 205), (some (202, true)), .ld (.tmp 204) none⟩,
    ⟨(some 206), (some (202, true)), .mv (.tmp 15)⟩,
    ⟨(some 207), (some (202, true)), .bin .eql 32 (.tmp 205) (.tmp 206)⟩,
    ⟨(some 208), none, .pick (.tmp 202) (.tmp 207) (.const (Go.Value.bool false))⟩,
    ⟨(some 8), none, .mv (.tmp 208)⟩])
  (.ret)))))))))))))
theorem is_law18_InplaceSums : FnIs Try.prog F.law18_InplaceSums X.law18_InplaceSums 209 [.tmp 8] := ⟨by kernel_rfl⟩

/-- (*haycroft/haycroftref18.Work).read: function 115 -/
abbrev F.ref18_Work_read : FuncId := 115
def X.ref18_Work_read : X :=
  .seq (.ops [⟨(some 4), none, .mv (.const (Go.Value.int Go.IntKind.i64 0))⟩])
  (.seq (.seq (.ops [⟨(some 6), none, .mv (.tmp 0)⟩,
    ⟨(some 7), none, .nilc (.tmp 6)⟩,
    ⟨(some 8), none, .fld (.tmp 7) 4⟩,
    ⟨(some 9), none, .ld (.tmp 8) none⟩,
    ⟨(some 10), none, .bin .eql 3 (.tmp 9) (.const (Go.Value.int Go.IntKind.i64 0))⟩])
  (.cond (.tmp 10)
    (.seq (.seq (.ops [⟨(some 11), none, .mv (.tmp 1)⟩,
      ⟨(some 12), none, .nilc (.tmp 11)⟩,
      ⟨(some 13), none, .fld (.tmp 12) 0⟩,
      ⟨(some 14), none, .ld (.tmp 13) none⟩])
    (.cond (.tmp 14)
      (.seq (.ops [⟨(some 4), none, .mv (.const (Go.Value.int Go.IntKind.i64 3))⟩])
      (.ret))
      (.skip)))
    (.seq (.ops [⟨(some 15), none, .mv (.tmp 0)⟩,
      ⟨(some 16), none, .mv (.tmp 1)⟩,
      ⟨(some 17), none, .nilc (.tmp 16)⟩,
      ⟨(some 18), none, .fld (.tmp 17) 1⟩,
      ⟨(some 19), none, .ld (.tmp 18) none⟩,
      ⟨(some 20), none, .nilc (.tmp 15)⟩,
      ⟨(some 21), none, .fld (.tmp 20) 6⟩,
      ⟨none, none, .st (.tmp 21) (.tmp 19) 1⟩])
    (.seq (.ops [⟨(some 22), none, .mv (.tmp 0)⟩,
      ⟨(some 23), none, .bsl 32 1 0 [(Go.Value.int Go.IntKind.u64 0)] []⟩,
      ⟨(some 24), none, .nilc (.tmp 22)⟩,
      ⟨(some 25), none, .fld (.tmp 24) 7⟩,
      ⟨none, none, .st (.tmp 25) (.tmp 23) 1⟩])
    (.seq (.ops [⟨(some 26), none, .mv (.tmp 0)⟩,
      ⟨(some 27), none, .nilc (.tmp 26)⟩,
      ⟨(some 28), none, .fld (.tmp 27) 4⟩,
      ⟨none, none, .st (.tmp 28) (.const (Go.Value.int Go.IntKind.i64 1)) 1⟩])
    (.seq (.ops [⟨(some 4), none, .mv (.const (Go.Value.int Go.IntKind.i64 1))⟩])
    (.ret))))))
    (.skip)))
  (.seq (.ops [⟨(some 29), none, .mv (.tmp 0)⟩,
    ⟨(some 30), none, .nilc (.tmp 29)⟩,
    ⟨(some 31), none, .fld (.tmp 30) 4⟩,
    ⟨(some 32), none, .ld (.tmp 31) none⟩,
    ⟨(some 33), none, .bin .sub 3 (.tmp 32) (.const (Go.Value.int Go.IntKind.i64 1))⟩,
    ⟨(some 5), none, .mv (.tmp 33)⟩])
  (.seq (.seq (.ops [⟨(some 34), none, .mv (.tmp 5)⟩,
    ⟨(some 35), none, .mv (.tmp 1)⟩,
    ⟨(some 36), none, .nilc (.tmp 35)⟩,
    ⟨(some 37), none, .fld (.tmp 36) 2⟩,
    ⟨(some 38), none, .ld (.tmp 37) none⟩,
    ⟨(some 39), none, .lenS (.tmp 38)⟩,
    ⟨(some 40), none, .bin .lss 3 (.tmp 34) (.tmp 39)⟩])
  (.cond (.tmp 40)
    (.seq (.drawn [(0, ⟨(some 41), none, .mv (.tmp 0)⟩),
      (1, ⟨(some 42), none, .mv (.tmp 0)⟩),
      (2, ⟨(some 43), none, .nilc (.tmp 42)⟩),
      (3, ⟨(some 44), none, .fld (.tmp 43) 7⟩),
      (4, ⟨(some 45), none, .ld (.tmp 44) none⟩),
      (5, ⟨(some 46), none, .mv (.tmp 1)⟩),
      (6, ⟨(some 47), none, .nilc (.tmp 46)⟩),
      (7, ⟨(some 48), none, .fld (.tmp 47) 2⟩),
      (8, ⟨(some 49), none, .ld (.tmp 48) none⟩),
      (9, ⟨(some 50), none, .mv (.tmp 5)⟩),
      (10, ⟨(some 51), none, .idx (.tmp 49) (.tmp 50) 1⟩),
      (11, ⟨(some 52), none, .ld (.tmp 51) none⟩),
      (12, ⟨(some 53), none, .bsl 32 1 1 [(Go.Value.int Go.IntKind.u64 0)] [(0, (.tmp 52))]⟩),
      (13, ⟨(some 54), none, .app 32 1 8 [(Go.Value.int Go.IntKind.u64 0)] (.tmp 45) (.tmp 53)⟩),
      (14, ⟨(some 55), none, .nilc (.tmp 41)⟩),
      (15, ⟨(some 56), none, .fld (.tmp 55) 7⟩),
      (16, ⟨none, none, .st (.tmp 56) (.tmp 54) 1⟩)]
      [[], [], [1], [2], [3], [], [5], [6], [7], [], [8, 9], [10], [11], [4, 12], [0, 0, 1, 2, 3, 4, 5, 6, 7, 8, 9, 10, 11, 12, 13], [14, 0, 1, 2, 3, 4, 5, 6, 7, 8, 9, 10, 11, 12, 13], [15, 13, 13, 0, 1, 2, 3, 4, 5, 6, 7, 8, 9, 10, 11, 12, 13]]
      [0, 0, 2, 6, 14, 0, 32, 96, 224, 0, 992, 2016, 4064, 8190, 16383, 32767, 65535] 77824)
    (.seq (.ops [⟨(some 57), none, .mv (.tmp 0)⟩,
      ⟨(some 58), none, .mv (.tmp 0)⟩,
      ⟨(some 59), none, .nilc (.tmp 58)⟩,
      ⟨(some 60), none, .fld (.tmp 59) 4⟩,
      ⟨(some 61), none, .ld (.tmp 60) none⟩,
      ⟨(some 62), none, .bin .add 3 (.tmp 61) (.const (Go.Value.int Go.IntKind.i64 1))⟩,
      ⟨(some 63), none, .nilc (.tmp 57)⟩,
      ⟨(some 64), none, .fld (.tmp 63) 4⟩,
      ⟨none, none, .st (.tmp 64) (.tmp 62) 1⟩])
    (.seq (.ops [⟨(some 4), none, .mv (.const (Go.Value.int Go.IntKind.i64 1))⟩])
    (.ret))))
    (.skip)))
  (.seq (.seq (.drawn [(0, ⟨(some 65), none, .mv (.tmp 1)⟩),
    (1, ⟨(some 66), none, .nilc (.tmp 65)⟩),
    (2, ⟨(some 67), none, .fld (.tmp 66) 0⟩),
    (3, ⟨(some 68), none, .ld (.tmp 67) none⟩),
    (4, ⟨(some 69), none, .mv (.tmp 68)⟩),
    (5, ⟨(some 70), (some (69, false)), .mv (.tmp 1)⟩),
    (6, ⟨(some 71), (some (69, false)), .nilc (.tmp 70)⟩),
    (7, ⟨(some 72), (some (69, false)), .fld (.tmp 71) 1⟩),
    (8, ⟨(some 73), (some (69, false)), .ld (.tmp 72) none⟩),
    (9, ⟨(some 74), (some (69, false)), .mv (.tmp 0)⟩),
    (10, ⟨(some 75), (some (69, false)), .nilc (.tmp 74)⟩),
    (11, ⟨(some 76), (some (69, false)), .fld (.tmp 75) 6⟩),
    (12, ⟨(some 77), (some (69, false)), .ld (.tmp 76) none⟩),
    (13, ⟨(some 78), (some (69, false)), .bin .neq 32 (.tmp 73) (.tmp 77)⟩),
    (14, ⟨(some 79), none, .pick (.tmp 69) (.const (Go.Value.bool true)) (.tmp 78)⟩)]
    [[], [0], [1], [2], [3], [4], [5, 4], [6, 4], [7, 4], [4], [9, 4], [10, 4], [11, 4], [8, 12, 4], [4, 13]]
    [0, 1, 3, 7, 15, 31, 63, 127, 255, 31, 543, 1567, 3615, 8191, 16383] 0)
  (.cond (.tmp 79)
    (.seq (.ops [⟨(some 80), none, .mv (.tmp 0)⟩,
      ⟨(some 81), none, .nilc (.tmp 80)⟩,
      ⟨(some 82), none, .fld (.tmp 81) 4⟩,
      ⟨none, none, .st (.tmp 82) (.const (Go.Value.int Go.IntKind.i64 0)) 1⟩])
    (.seq (.ops [⟨(some 4), none, .mv (.const (Go.Value.int Go.IntKind.i64 3))⟩])
    (.ret)))
    (.skip)))
  (.seq (.ops [⟨(some 83), none, .mv (.tmp 0)⟩,
    ⟨(some 84), none, .nilc (.tmp 83)⟩,
    ⟨(some 85), none, .fld (.tmp 84) 5⟩,
    ⟨none, none, .st (.tmp 85) (.const (Go.Value.bool true)) 1⟩])
  (.seq (.ops [⟨(some 4), none, .mv (.const (Go.Value.int Go.IntKind.i64 2))⟩])
  (.ret)))))))
theorem is_ref18_Work_read : FnIs Try.prog F.ref18_Work_read X.ref18_Work_read 86 [.tmp 4] := ⟨by kernel_rfl⟩

/-- (*haycroft/haycroftref18.Work).Move: function 54 -/
abbrev F.ref18_Work_Move : FuncId := 54
def X.ref18_Work_Move : X :=
  .seq (.ops [⟨(some 4), none, .mv (.const (Go.Value.int Go.IntKind.i64 0))⟩])
  (.seq (.seq (.ops [⟨(some 6), none, .mv (.tmp 0)⟩,
    ⟨(some 7), none, .nilc (.tmp 6)⟩,
    ⟨(some 8), none, .fld (.tmp 7) 5⟩,
    ⟨(some 9), none, .ld (.tmp 8) none⟩])
  (.cond (.tmp 9)
    (.seq (.ops [⟨(some 4), none, .mv (.const (Go.Value.int Go.IntKind.i64 2))⟩])
    (.ret))
    (.skip)))
  (.seq (.seq (.ops [⟨(some 10), none, .mv (.tmp 0)⟩,
    ⟨(some 11), none, .nilc (.tmp 10)⟩,
    ⟨(some 12), none, .fld (.tmp 11) 0⟩,
    ⟨(some 13), none, .ld (.tmp 12) none⟩])
  (.cond (.tmp 13)
    (.seq (.ops [⟨(some 14), none, .mv (.tmp 0)⟩,
      ⟨(some 15), none, .mv (.tmp 1)⟩,
      ⟨(some 16), none, .call 115 [(.tmp 14), (.tmp 15)]⟩,
      ⟨(some 4), none, .mv (.tmp 16)⟩])
    (.ret))
    (.skip)))
  (.seq (.seq (.ops [⟨(some 17), none, .mv (.tmp 0)⟩,
    ⟨(some 18), none, .nilc (.tmp 17)⟩,
    ⟨(some 19), none, .fld (.tmp 18) 4⟩,
    ⟨(some 20), none, .ld (.tmp 19) none⟩,
    ⟨(some 21), none, .bin .eql 3 (.tmp 20) (.const (Go.Value.int Go.IntKind.i64 0))⟩])
  (.cond (.tmp 21)
    (.seq (.seq (.ops [⟨(some 22), none, .mv (.tmp 1)⟩,
      ⟨(some 23), none, .nilc (.tmp 22)⟩,
      ⟨(some 24), none, .fld (.tmp 23) 0⟩,
      ⟨(some 25), none, .ld (.tmp 24) none⟩])
    (.cond (.tmp 25)
      (.seq (.ops [⟨(some 4), none, .mv (.const (Go.Value.int Go.IntKind.i64 3))⟩])
      (.ret))
      (.skip)))
    (.seq (.ops [⟨(some 26), none, .mv (.tmp 1)⟩,
      ⟨(some 27), none, .nilc (.tmp 26)⟩,
      ⟨(some 28), none, .fld (.tmp 27) 0⟩,
      ⟨none, none, .st (.tmp 28) (.const (Go.Value.bool true)) 1⟩])
    (.seq (.ops [⟨(some 29), none, .mv (.tmp 0)⟩,
      ⟨(some 30), none, .nilc (.tmp 29)⟩,
      ⟨(some 31), none, .fld (.tmp 30) 4⟩,
      ⟨none, none, .st (.tmp 31) (.const (Go.Value.int Go.IntKind.i64 1)) 1⟩])
    (.seq (.ops [⟨(some 4), none, .mv (.const (Go.Value.int Go.IntKind.i64 1))⟩])
    (.ret)))))
    (.skip)))
  (.seq (.ops [⟨(some 32), none, .mv (.tmp 0)⟩,
    ⟨(some 33), none, .nilc (.tmp 32)⟩,
    ⟨(some 34), none, .fld (.tmp 33) 4⟩,
    ⟨(some 35), none, .ld (.tmp 34) none⟩,
    ⟨(some 36), none, .bin .sub 3 (.tmp 35) (.const (Go.Value.int Go.IntKind.i64 1))⟩,
    ⟨(some 5), none, .mv (.tmp 36)⟩])
  (.seq (.seq (.ops [⟨(some 37), none, .mv (.tmp 0)⟩,
    ⟨(some 38), none, .nilc (.tmp 37)⟩,
    ⟨(some 39), none, .fld (.tmp 38) 1⟩,
    ⟨(some 40), none, .ld (.tmp 39) none⟩])
  (.cond (.tmp 40)
    (.seq (.seq (.ops [⟨(some 41), none, .mv (.tmp 5)⟩,
      ⟨(some 42), none, .bin .eql 3 (.tmp 41) (.const (Go.Value.int Go.IntKind.i64 0))⟩])
    (.cond (.tmp 42)
      (.seq (.drawn [(0, ⟨(some 43), none, .mv (.tmp 0)⟩),
        (1, ⟨(some 44), none, .mv (.tmp 1)⟩),
        (2, ⟨(some 45), none, .nilc (.tmp 44)⟩),
        (3, ⟨(some 46), none, .fld (.tmp 45) 2⟩),
        (4, ⟨(some 47), none, .ld (.tmp 46) none⟩),
        (5, ⟨(some 48), none, .idx (.tmp 47) (.const (Go.Value.int Go.IntKind.i64 0)) 1⟩),
        (6, ⟨(some 49), none, .ld (.tmp 48) none⟩),
        (7, ⟨(some 50), none, .mv (.tmp 0)⟩),
        (8, ⟨(some 51), none, .nilc (.tmp 50)⟩),
        (9, ⟨(some 52), none, .fld (.tmp 51) 2⟩),
        (10, ⟨(some 53), none, .ld (.tmp 52) none⟩),
        (11, ⟨(some 54), none, .bin .add 32 (.tmp 49) (.tmp 53)⟩),
        (12, ⟨(some 55), none, .bsl 32 1 1 [(Go.Value.int Go.IntKind.u64 0)] [(0, (.tmp 54))]⟩),
        (13, ⟨(some 56), none, .nilc (.tmp 43)⟩),
        (14, ⟨(some 57), none, .fld (.tmp 56) 3⟩),
        (15, ⟨none, none, .st (.tmp 57) (.tmp 55) 1⟩)]
        [[], [], [1], [2], [3], [4], [5], [], [7], [8], [9], [6, 10], [11], [0, 0, 1, 2, 3, 4, 5, 6, 7, 8, 9, 10, 11, 12], [13, 0, 1, 2, 3, 4, 5, 6, 7, 8, 9, 10, 11, 12], [14, 12, 0, 1, 2, 3, 4, 5, 6, 7, 8, 9, 10, 11, 12]]
        [0, 0, 2, 6, 14, 30, 62, 0, 128, 384, 896, 2046, 4094, 8191, 16383, 32767] 36864)
      (.seq (.ops [⟨(some 58), none, .mv (.tmp 0)⟩,
        ⟨(some 59), none, .nilc (.tmp 58)⟩,
        ⟨(some 60), none, .fld (.tmp 59) 4⟩,
        ⟨none, none, .st (.tmp 60) (.const (Go.Value.int Go.IntKind.i64 2)) 1⟩])
      (.seq (.ops [⟨(some 4), none, .mv (.const (Go.Value.int Go.IntKind.i64 1))⟩])
      (.ret))))
      (.skip)))
    (.ops [⟨(some 61), none, .mv (.tmp 5)⟩,
      ⟨(some 62), none, .bin .sub 3 (.tmp 61) (.const (Go.Value.int Go.IntKind.i64 1))⟩,
      ⟨(some 5), none, .mv (.tmp 62)⟩]))
    (.skip)))
  (.seq (.seq (.ops [⟨(some 63), none, .mv (.tmp 5)⟩,
    ⟨(some 64), none, .mv (.tmp 0)⟩,
    ⟨(some 65), none, .nilc (.tmp 64)⟩,
    ⟨(some 66), none, .fld (.tmp 65) 3⟩,
    ⟨(some 67), none, .ld (.tmp 66) none⟩,
    ⟨(some 68), none, .lenS (.tmp 67)⟩,
    ⟨(some 69), none, .bin .lss 3 (.tmp 63) (.tmp 68)⟩])
  (.cond (.tmp 69)
    (.seq (.drawn [(0, ⟨(some 70), none, .mv (.tmp 1)⟩),
      (1, ⟨(some 71), none, .nilc (.tmp 70)⟩),
      (2, ⟨(some 72), none, .fld (.tmp 71) 2⟩),
      (3, ⟨(some 73), none, .ld (.tmp 72) none⟩),
      (4, ⟨(some 74), none, .mv (.tmp 5)⟩),
      (5, ⟨(some 75), none, .mv (.tmp 0)⟩),
      (6, ⟨(some 76), none, .nilc (.tmp 75)⟩),
      (7, ⟨(some 77), none, .fld (.tmp 76) 3⟩),
      (8, ⟨(some 78), none, .ld (.tmp 77) none⟩),
      (9, ⟨(some 79), none, .mv (.tmp 5)⟩),
      (10, ⟨(some 80), none, .idx (.tmp 78) (.tmp 79) 1⟩),
      (11, ⟨(some 81), none, .ld (.tmp 80) none⟩),
      (12, ⟨(some 82), none, .idx (.tmp 73) (.tmp 74) 1⟩),
      (13, ⟨none, none, .st (.tmp 82) (.tmp 81) 1⟩)]
      [[], [0], [1], [2], [], [], [5], [6], [7], [], [8, 9], [10], [3, 4, 0, 1, 2, 3, 4, 5, 6, 7, 8, 9, 10, 11], [12, 11, 0, 1, 2, 3, 4, 5, 6, 7, 8, 9, 10, 11]]
      [0, 1, 3, 7, 0, 0, 32, 96, 224, 0, 992, 2016, 4095, 8191] 8192)
    (.seq (.ops [⟨(some 83), none, .mv (.tmp 0)⟩,
      ⟨(some 84), none, .mv (.tmp 0)⟩,
      ⟨(some 85), none, .nilc (.tmp 84)⟩,
      ⟨(some 86), none, .fld (.tmp 85) 4⟩,
      ⟨(some 87), none, .ld (.tmp 86) none⟩,
      ⟨(some 88), none, .bin .add 3 (.tmp 87) (.const (Go.Value.int Go.IntKind.i64 1))⟩,
      ⟨(some 89), none, .nilc (.tmp 83)⟩,
      ⟨(some 90), none, .fld (.tmp 89) 4⟩,
      ⟨none, none, .st (.tmp 90) (.tmp 88) 1⟩])
    (.seq (.ops [⟨(some 4), none, .mv (.const (Go.Value.int Go.IntKind.i64 1))⟩])
    (.ret))))
    (.skip)))
  (.seq (.ops [⟨(some 91), none, .mv (.tmp 1)⟩,
    ⟨(some 92), none, .nilc (.tmp 91)⟩,
    ⟨(some 93), none, .fld (.tmp 92) 0⟩,
    ⟨none, none, .st (.tmp 93) (.const (Go.Value.bool false)) 1⟩])
  (.seq (.ops [⟨(some 94), none, .mv (.tmp 1)⟩,
    ⟨(some 95), none, .mv (.tmp 1)⟩,
    ⟨(some 96), none, .nilc (.tmp 95)⟩,
    ⟨(some 97), none, .fld (.tmp 96) 1⟩,
    ⟨(some 98), none, .ld (.tmp 97) none⟩,
    ⟨(some 99), none, .bin .add 32 (.tmp 98) (.const (Go.Value.int Go.IntKind.u64 1))⟩,
    ⟨(some 100), none, .bin .rem 32 (.tmp 99) (.const (Go.Value.int Go.IntKind.u64 4294967296))⟩,
    ⟨(some 101), none, .nilc (.tmp 94)⟩,
    ⟨(some 102), none, .fld (.tmp 101) 1⟩,
    ⟨none, none, .st (.tmp 102) (.tmp 100) 1⟩])
  (.seq (.ops [⟨(some 103), none, .mv (.tmp 0)⟩,
    ⟨(some 104), none, .nilc (.tmp 103)⟩,
    ⟨(some 105), none, .fld (.tmp 104) 5⟩,
    ⟨none, none, .st (.tmp 105) (.const (Go.Value.bool true)) 1⟩])
  (.seq (.ops [⟨(some 4), none, .mv (.const (Go.Value.int Go.IntKind.i64 2))⟩])
  (.ret)))))))))))
theorem is_ref18_Work_Move : FnIs Try.prog F.ref18_Work_Move X.ref18_Work_Move 106 [.tmp 4] := ⟨by kernel_rfl⟩

-- loop (inner ones first): [0, 1, 5]
/-- haycroft/haycroftref01.Same: function 55 -/
abbrev F.ref01_Same : FuncId := 55
def X.ref01_Same : X :=
  .seq (.ops [⟨(some 4), none, .mv (.const (Go.Value.bool false))⟩])
  (.seq (.seq (.ops [⟨(some 6), none, .mv (.tmp 0)⟩,
    ⟨(some 7), none, .lenS (.tmp 6)⟩,
    ⟨(some 8), none, .mv (.tmp 1)⟩,
    ⟨(some 9), none, .lenS (.tmp 8)⟩,
    ⟨(some 10), none, .bin .neq 3 (.tmp 7) (.tmp 9)⟩])
  (.cond (.tmp 10)
    (.seq (.ops [⟨(some 4), none, .mv (.const (Go.Value.bool false))⟩])
    (.ret))
    (.skip)))
  (.seq (.seq (.ops [⟨(some 5), none, .mv (.const (Go.Value.int Go.IntKind.i64 0))⟩])
  (.block 0 (.loop (.seq (.seq (.ops [⟨(some 11), none, .mv (.tmp 5)⟩,
        ⟨(some 12), none, .mv (.tmp 0)⟩,
        ⟨(some 13), none, .lenS (.tmp 12)⟩,
        ⟨(some 14), none, .bin .lss 3 (.tmp 11) (.tmp 13)⟩])
      (.cond (.tmp 14)
        (.skip)
        (.exit 0)))
      (.seq (.block 1 (.seq (.drawn [(0, ⟨(some 17), none, .mv (.tmp 0)⟩),
          (1, ⟨(some 18), none, .mv (.tmp 5)⟩),
          (2, ⟨(some 19), none, .idx (.tmp 17) (.tmp 18) 1⟩),
          (3, ⟨(some 20), none, .ld (.tmp 19) none⟩),
          (4, ⟨(some 21), none, .mv (.tmp 1)⟩),
          (5, ⟨(some 22), none, .mv (.tmp 5)⟩),
          (6, ⟨(some 23), none, .idx (.tmp 21) (.tmp 22) 1⟩),
          (7, ⟨(some 24), none, .ld (.tmp 23) none⟩),
          (8, ⟨(some 25), none, .bin .neq 32 (.tmp 20) (.tmp 24)⟩)]
          [[], [], [0, 1], [2], [], [], [4, 5], [6], [3, 7]]
          [0, 0, 3, 7, 0, 0, 48, 112, 255] 0)
        (.cond (.tmp 25)
          (.seq (.ops [⟨(some 4), none, .mv (.const (Go.Value.bool false))⟩])
          (.ret))
          (.skip))))
      (.ops [⟨(some 15), none, .mv (.tmp 5)⟩,
        ⟨(some 16), none, .bin .add 3 (.tmp 15) (.const (Go.Value.int Go.IntKind.i64 1))⟩,
        ⟨(some 5), none, .mv (.tmp 16)⟩]))))))
  (.seq (.ops [⟨(some 4), none, .mv (.const (Go.Value.bool true))⟩])
  (.ret))))
theorem is_ref01_Same : FnIs Try.prog F.ref01_Same X.ref01_Same 26 [.tmp 4] := ⟨by kernel_rfl⟩

-- loop (inner ones first): [1, 6, 10]
-- loop (inner ones first): [0, 1, 6, 7, 8, 9]
-- loop (inner ones first): [0, 1, 6, 7]
/-- haycroft/haycroftref09.Text: function 116 -/
abbrev F.ref09_Text : FuncId := 116
def X.ref09_Text : X :=
  .seq (.ops [⟨(some 4), none, .mv (.const (Go.Value.string { data := #[] }))⟩,
    ⟨(some 5), none, .mv (.const (Go.Value.bool false))⟩])
  (.seq (.ops [⟨(some 11), none, .bsl 5 1 0 [(Go.Value.int Go.IntKind.u8 0)] []⟩,
    ⟨(some 6), none, .mv (.tmp 11)⟩])
  (.seq (.seq (.ops [⟨(some 7), none, .mv (.const (Go.Value.int Go.IntKind.i64 0))⟩])
  (.block 0 (.loop (.seq (.seq (.ops [⟨(some 12), none, .mv (.tmp 7)⟩,
        ⟨(some 13), none, .mv (.tmp 0)⟩,
        ⟨(some 14), none, .lenS (.tmp 13)⟩,
        ⟨(some 15), none, .bin .lss 3 (.tmp 12) (.tmp 14)⟩])
      (.cond (.tmp 15)
        (.skip)
        (.exit 0)))
      (.seq (.block 1 (.seq (.ops [⟨(some 18), none, .mv (.tmp 0)⟩,
          ⟨(some 19), none, .mv (.tmp 7)⟩,
          ⟨(some 20), none, .idx (.tmp 18) (.tmp 19) 1⟩,
          ⟨(some 21), none, .ld (.tmp 20) none⟩,
          ⟨(some 8), none, .mv (.tmp 21)⟩])
        (.seq (.ops [⟨(some 9), none, .mv (.const (Go.Value.int Go.IntKind.i64 0))⟩])
        (.block 2 (.loop (.seq (.seq (.ops [⟨(some 22), none, .mv (.tmp 9)⟩,
              ⟨(some 23), none, .bin .lss 3 (.tmp 22) (.const (Go.Value.int Go.IntKind.i64 8))⟩])
            (.cond (.tmp 23)
              (.skip)
              (.exit 2)))
            (.seq (.block 3 (.seq (.ops [⟨(some 26), none, .mv (.tmp 6)⟩,
                ⟨(some 27), none, .mv (.tmp 8)⟩,
                ⟨(some 28), none, .bin .rem 32 (.tmp 27) (.const (Go.Value.int Go.IntKind.u64 256))⟩,
                ⟨(some 29), none, .conv Go.IntKind.u8 (.tmp 28)⟩,
                ⟨(some 30), none, .bsl 5 1 1 [(Go.Value.int Go.IntKind.u8 0)] [(0, (.tmp 29))]⟩,
                ⟨(some 31), none, .app 5 1 1 [(Go.Value.int Go.IntKind.u8 0)] (.tmp 26) (.tmp 30)⟩,
                ⟨(some 6), none, .mv (.tmp 31)⟩])
              (.ops [⟨(some 32), none, .mv (.tmp 8)⟩,
                ⟨(some 33), none, .bin .quo 32 (.tmp 32) (.const (Go.Value.int Go.IntKind.u64 256))⟩,
                ⟨(some 8), none, .mv (.tmp 33)⟩])))
            (.ops [⟨(some 24), none, .mv (.tmp 9)⟩,
              ⟨(some 25), none, .bin .add 3 (.tmp 24) (.const (Go.Value.int Go.IntKind.i64 1))⟩,
              ⟨(some 9), none, .mv (.tmp 25)⟩]))))))))
      (.ops [⟨(some 16), none, .mv (.tmp 7)⟩,
        ⟨(some 17), none, .bin .add 3 (.tmp 16) (.const (Go.Value.int Go.IntKind.i64 1))⟩,
        ⟨(some 7), none, .mv (.tmp 17)⟩]))))))
  (.seq (.seq (.ops [⟨(some 34), none, .mv (.tmp 1)⟩,
    ⟨(some 10), none, .mv (.tmp 34)⟩])
  (.block 4 (.loop (.seq (.seq (.ops [⟨(some 35), none, .mv (.tmp 10)⟩,
        ⟨(some 36), none, .mv (.tmp 6)⟩,
        ⟨(some 37), none, .lenS (.tmp 36)⟩,
        ⟨(some 38), none, .bin .lss 3 (.tmp 35) (.tmp 37)⟩])
      (.cond (.tmp 38)
        (.skip)
        (.exit 4)))
      (.seq (.block 5 (.seq (.ops [⟨(some 41), none, .mv (.tmp 6)⟩,
          ⟨(some 42), none, .mv (.tmp 10)⟩,
          ⟨(some 43), none, .idx (.tmp 41) (.tmp 42) 1⟩,
          ⟨(some 44), none, .ld (.tmp 43) none⟩,
          ⟨(some 45), none, .bin .neq 5 (.tmp 44) (.const (Go.Value.int Go.IntKind.u8 0))⟩])
        (.cond (.tmp 45)
          (.seq (.ops [⟨(some 4), none, .mv (.const (Go.Value.string { data := #[] }))⟩,
            ⟨(some 5), none, .mv (.const (Go.Value.bool false))⟩])
          (.ret))
          (.skip))))
      (.ops [⟨(some 39), none, .mv (.tmp 10)⟩,
        ⟨(some 40), none, .bin .add 3 (.tmp 39) (.const (Go.Value.int Go.IntKind.i64 1))⟩,
        ⟨(some 10), none, .mv (.tmp 40)⟩]))))))
  (.seq (.ops [⟨(some 46), none, .mv (.tmp 6)⟩,
    ⟨(some 47), none, .mv (.tmp 1)⟩,
    ⟨(some 48), none, .slc 1 (.tmp 46) none (some (.tmp 47))⟩,
    ⟨(some 49), none, .b2s (.tmp 48)⟩,
    ⟨(some 4), none, .mv (.tmp 49)⟩,
    ⟨(some 5), none, .mv (.const (Go.Value.bool true))⟩])
  (.ret)))))
theorem is_ref09_Text : FnIs Try.prog F.ref09_Text X.ref09_Text 50 [.tmp 4, .tmp 5] := ⟨by kernel_rfl⟩

/-- haycroft/haycroftref18.Text: function 56 -/
abbrev F.ref18_Text : FuncId := 56
def X.ref18_Text : X :=
  .seq (.ops [⟨(some 4), none, .mv (.const (Go.Value.string { data := #[] }))⟩])
  (.seq (.ops [⟨(some 8), none, .mv (.tmp 0)⟩,
    ⟨(some 9), none, .mv (.tmp 1)⟩,
    ⟨(some 10), none, .call 116 [(.tmp 8), (.tmp 9)]⟩,
    ⟨(some 7), none, .mv (.tmp 10)⟩,
    ⟨(some 11), none, .ext (.tmp 7) 0⟩,
    ⟨(some 12), none, .ext (.tmp 7) 1⟩,
    ⟨(some 5), none, .mv (.tmp 11)⟩,
    ⟨(some 6), none, .mv (.tmp 12)⟩])
  (.seq (.ops [⟨(some 13), none, .mv (.tmp 5)⟩,
    ⟨(some 4), none, .mv (.tmp 13)⟩])
  (.ret)))
theorem is_ref18_Text : FnIs Try.prog F.ref18_Text X.ref18_Text 14 [.tmp 4] := ⟨by kernel_rfl⟩

/-- (*haycroft/haycroftref18.Work).Holds: function 57 -/
abbrev F.ref18_Work_Holds : FuncId := 57
def X.ref18_Work_Holds : X :=
  .seq (.ops [⟨(some 2), none, .mv (.const (Go.Value.bool false))⟩])
  (.seq (.ops [⟨(some 3), none, .mv (.tmp 0)⟩,
    ⟨(some 4), none, .nilc (.tmp 3)⟩,
    ⟨(some 5), none, .fld (.tmp 4) 0⟩,
    ⟨(some 6), none, .ld (.tmp 5) none⟩,
    ⟨(some 7), none, .un .not (.tmp 6)⟩,
    ⟨(some 8), none, .mv (.tmp 7)⟩,
    ⟨(some 9), (some (8, true)), .mv (.tmp 0)⟩,
    ⟨(some 10), (some (8, true)), .nilc (.tmp 9)⟩,
    ⟨(some 11), (some (8, true)), .fld (.tmp 10) 4⟩,
    ⟨(some 12), (some (8, true)), .ld (.tmp 11) none⟩,
    ⟨(some 13), (some (8, true)), .bin .gtr 3 (.tmp 12) (.const (Go.Value.int Go.IntKind.i64 0))⟩,
    ⟨(some 14), none, .pick (.tmp 8) (.tmp 13) (.const (Go.Value.bool false))⟩,
    ⟨(some 15), none, .mv (.tmp 14)⟩,
    ⟨(some 16), (some (15, true)), .mv (.tmp 0)⟩,
    ⟨(some 17), (some (15, true)), .nilc (.tmp 16)⟩,
    ⟨(some 18), (some (15, true)), .fld (.tmp 17) 5⟩,
    ⟨(some 19), (some (15, true)), .ld (.tmp 18) none⟩,
    ⟨(some 20), (some (15, true)), .un .not (.tmp 19)⟩,
    ⟨(some 21), none, .pick (.tmp 15) (.tmp 20) (.const (Go.Value.bool false))⟩,
    ⟨(some 2), none, .mv (.tmp 21)⟩])
  (.ret))
theorem is_ref18_Work_Holds : FnIs Try.prog F.ref18_Work_Holds X.ref18_Work_Holds 22 [.tmp 2] := ⟨by kernel_rfl⟩

-- loop (inner ones first): [0, 2, 7, 9]
/-- haycroft/haycroftlaw18.InplacePlays: function 10 -/
abbrev F.law18_InplacePlays : FuncId := 10
def X.law18_InplacePlays : X :=
  .seq (.ops [⟨(some 6), none, .mv (.const (Go.Value.bool false))⟩])
  (.seq (.seq (.ops [⟨(some 16), none, .call 40 []⟩,
    ⟨(some 17), none, .un .not (.tmp 16)⟩])
  (.cond (.tmp 17)
    (.seq (.ops [⟨(some 6), none, .mv (.const (Go.Value.bool false))⟩])
    (.ret))
    (.skip)))
  (.seq (.seq (.ops [⟨(some 18), none, .mv (.tmp 0)⟩,
    ⟨(some 19), none, .lenB (.tmp 18)⟩,
    ⟨(some 20), none, .bin .gtr 3 (.tmp 19) (.const (Go.Value.int Go.IntKind.i64 128))⟩])
  (.cond (.tmp 20)
    (.seq (.ops [⟨(some 6), none, .mv (.const (Go.Value.bool true))⟩])
    (.ret))
    (.skip)))
  (.seq (.ops [⟨(some 22), none, .mv (.tmp 0)⟩,
    ⟨(some 23), none, .mv (.tmp 1)⟩,
    ⟨(some 24), none, .call 50 [(.tmp 22), (.tmp 23)]⟩,
    ⟨(some 21), none, .mv (.tmp 24)⟩,
    ⟨(some 25), none, .ext (.tmp 21) 0⟩,
    ⟨(some 26), none, .ext (.tmp 21) 1⟩,
    ⟨(some 7), none, .mv (.tmp 25)⟩,
    ⟨(some 8), none, .mv (.tmp 26)⟩])
  (.seq (.seq (.ops [⟨(some 27), none, .mv (.tmp 8)⟩,
    ⟨(some 28), none, .un .not (.tmp 27)⟩])
  (.cond (.tmp 28)
    (.seq (.ops [⟨(some 6), none, .mv (.const (Go.Value.bool false))⟩])
    (.ret))
    (.skip)))
  (.seq (.seq (.ops [⟨(some 9), none, .mv (.const (Go.Value.int Go.IntKind.i64 0))⟩])
  (.block 0 (.loop (.seq (.seq (.ops [⟨(some 29), none, .mv (.tmp 9)⟩,
        ⟨(some 30), none, .mv (.tmp 2)⟩,
        ⟨(some 31), none, .lenS (.tmp 30)⟩,
        ⟨(some 32), none, .bin .lss 3 (.tmp 29) (.tmp 31)⟩,
        ⟨(some 33), none, .mv (.tmp 32)⟩,
        ⟨(some 34), (some (33, true)), .mv (.tmp 9)⟩,
        ⟨(some 35), (some (33, true)), .bin .lss 3 (.tmp 34) (.const (Go.Value.int Go.IntKind.i64 300))⟩,
        ⟨(some 36), none, .pick (.tmp 33) (.tmp 35) (.const (Go.Value.bool false))⟩,
        ⟨(some 37), none, .mv (.tmp 36)⟩,
        ⟨(some 38), (some (37, true)), .mv (.tmp 7)⟩,
        ⟨(some 39), (some (37, true)), .nilc (.tmp 38)⟩,
        ⟨(some 40), (some (37, true)), .fld (.tmp 39) 4⟩,
        ⟨(some 41), (some (37, true)), .ld (.tmp 40) none⟩,
        ⟨(some 42), (some (37, true)), .lenS (.tmp 41)⟩,
        ⟨(some 43), (some (37, true)), .bin .gtr 3 (.tmp 42) (.const (Go.Value.int Go.IntKind.i64 0))⟩,
        ⟨(some 44), none, .pick (.tmp 37) (.tmp 43) (.const (Go.Value.bool false))⟩])
      (.cond (.tmp 44)
        (.skip)
        (.exit 0)))
      (.seq (.block 1 (.seq (.drawn [(0, ⟨(some 47), none, .mv (.tmp 2)⟩),
          (1, ⟨(some 48), none, .mv (.tmp 9)⟩),
          (2, ⟨(some 49), none, .idx (.tmp 47) (.tmp 48) 1⟩),
          (3, ⟨(some 50), none, .ld (.tmp 49) none⟩),
          (4, ⟨(some 51), none, .conv Go.IntKind.i64 (.tmp 50)⟩),
          (5, ⟨(some 52), none, .mv (.tmp 7)⟩),
          (6, ⟨(some 53), none, .nilc (.tmp 52)⟩),
          (7, ⟨(some 54), none, .fld (.tmp 53) 4⟩),
          (8, ⟨(some 55), none, .ld (.tmp 54) none⟩),
          (9, ⟨(some 56), none, .lenS (.tmp 55)⟩),
          (10, ⟨(some 57), none, .bin .rem 3 (.tmp 51) (.tmp 56)⟩),
          (11, ⟨(some 10), none, .mv (.tmp 57)⟩)]
          [[], [], [0, 1], [2], [3], [], [5], [6], [7], [8], [4, 9], [10, 0, 1, 2, 3, 4, 5, 6, 7, 8, 9, 10]]
          [0, 0, 3, 7, 15, 0, 32, 96, 224, 480, 1023, 2047] 0)
        (.seq (.ops [⟨(some 59), none, .mv (.tmp 7)⟩,
          ⟨(some 60), none, .mv (.tmp 10)⟩,
          ⟨(some 61), none, .call 52 [(.tmp 59), (.tmp 60)]⟩,
          ⟨(some 58), none, .mv (.tmp 61)⟩,
          ⟨(some 62), none, .ext (.tmp 58) 0⟩,
          ⟨(some 63), none, .ext (.tmp 58) 1⟩,
          ⟨(some 11), none, .mv (.tmp 62)⟩,
          ⟨(some 12), none, .mv (.tmp 63)⟩])
        (.seq (.seq (.drawn [(0, ⟨(some 64), none, .mv (.tmp 12)⟩),
          (1, ⟨(some 65), none, .bin .neq 25 (.tmp 64) (.const (Go.Value.int Go.IntKind.i64 0))⟩),
          (2, ⟨(some 66), none, .mv (.tmp 65)⟩),
          (3, ⟨(some 67), (some (66, false)), .mv (.tmp 11)⟩),
          (4, ⟨(some 68), (some (66, false)), .mv (.tmp 7)⟩),
          (5, ⟨(some 69), (some (66, false)), .nilc (.tmp 68)⟩),
          (6, ⟨(some 70), (some (66, false)), .fld (.tmp 69) 4⟩),
          (7, ⟨(some 71), (some (66, false)), .ld (.tmp 70) none⟩),
          (8, ⟨(some 72), (some (66, false)), .mv (.tmp 10)⟩),
          (9, ⟨(some 73), (some (66, false)), .idx (.tmp 71) (.tmp 72) 1⟩),
          (10, ⟨(some 74), (some (66, false)), .ld (.tmp 73) none⟩),
          (11, ⟨(some 75), (some (66, false)), .mv (.tmp 7)⟩),
          (12, ⟨(some 76), (some (66, false)), .nilc (.tmp 75)⟩),
          (13, ⟨(some 77), (some (66, false)), .fld (.tmp 76) 1⟩),
          (14, ⟨(some 78), (some (66, false)), .ld (.tmp 77) none⟩),
          (15, ⟨(some 79), (some (66, false)), .call 54 [(.tmp 74), (.tmp 78)]⟩),
          (16, ⟨(some 80), (some (66, false)), .bin .neq 3 (.tmp 67) (.tmp 79)⟩),
          (17, ⟨(some 81), none, .pick (.tmp 66) (.const (Go.Value.bool true)) (.tmp 80)⟩),
          (18, ⟨(some 82), none, .mv (.tmp 81)⟩),
          (19, ⟨(some 83), (some (82, false)), .mv (.tmp 7)⟩),
          (21, ⟨(some 85), (some (82, false)), .mv (.tmp 7)⟩),
          (22, ⟨(some 86), (some (82, false)), .nilc (.tmp 85)⟩),
          (23, ⟨(some 87), (some (82, false)), .fld (.tmp 86) 1⟩),
          (24, ⟨(some 88), (some (82, false)), .ld (.tmp 87) none⟩),
          (25, ⟨(some 89), (some (82, false)), .nilc (.tmp 88)⟩),
          (26, ⟨(some 90), (some (82, false)), .fld (.tmp 89) 2⟩),
          (27, ⟨(some 91), (some (82, false)), .ld (.tmp 90) none⟩),
          (20, ⟨(some 84), (some (82, false)), .call 53 [(.tmp 83)]⟩),
          (28, ⟨(some 92), (some (82, false)), .call 55 [(.tmp 84), (.tmp 91)]⟩),
          (29, ⟨(some 93), (some (82, false)), .un .not (.tmp 92)⟩),
          (30, ⟨(some 94), none, .pick (.tmp 82) (.const (Go.Value.bool true)) (.tmp 93)⟩)]
          [[], [0], [1], [2], [2], [4, 2], [5, 2], [6, 2], [2], [7, 8, 2], [9, 2], [2], [11, 2], [12, 2], [13, 2], [10, 14, 2, 2], [3, 15, 2], [2, 16], [17, 15], [18], [19, 18, 18], [18], [21, 18], [22, 18], [23, 18], [24, 18], [25, 18], [26, 18], [20, 27, 20, 18], [28, 18], [18, 29]]
          [0, 1, 3, 7, 7, 23, 55, 119, 7, 503, 1015, 7, 2055, 6151, 14343, 32759, 65535, 131071, 262143, 524287, 1048575, 524287, 2621439, 6815743, 15204351, 31981567, 65535999, 132644863, 268435455, 536870911, 1073741823] 269516800)
        (.cond (.tmp 94)
          (.seq (.ops [⟨(some 6), none, .mv (.const (Go.Value.bool false))⟩])
          (.ret))
          (.skip)))
        (.seq (.seq (.ops [⟨(some 95), none, .mv (.tmp 7)⟩,
          ⟨(some 96), none, .nilc (.tmp 95)⟩,
          ⟨(some 97), none, .fld (.tmp 96) 4⟩,
          ⟨(some 98), none, .ld (.tmp 97) none⟩,
          ⟨(some 99), none, .mv (.tmp 10)⟩,
          ⟨(some 100), none, .idx (.tmp 98) (.tmp 99) 1⟩,
          ⟨(some 101), none, .ld (.tmp 100) none⟩,
          ⟨(some 102), none, .nilc (.tmp 101)⟩,
          ⟨(some 103), none, .fld (.tmp 102) 0⟩,
          ⟨(some 104), none, .ld (.tmp 103) none⟩])
        (.cond (.tmp 104)
          (.seq (.ops [⟨(some 13), none, .mv (.const (Go.Value.string { data := #[] }))⟩])
          (.seq (.seq (.ops [⟨(some 105), none, .mv (.tmp 7)⟩,
            ⟨(some 106), none, .nilc (.tmp 105)⟩,
            ⟨(some 107), none, .fld (.tmp 106) 4⟩,
            ⟨(some 108), none, .ld (.tmp 107) none⟩,
            ⟨(some 109), none, .mv (.tmp 10)⟩,
            ⟨(some 110), none, .idx (.tmp 108) (.tmp 109) 1⟩,
            ⟨(some 111), none, .ld (.tmp 110) none⟩,
            ⟨(some 112), none, .nilc (.tmp 111)⟩,
            ⟨(some 113), none, .fld (.tmp 112) 5⟩,
            ⟨(some 114), none, .ld (.tmp 113) none⟩])
          (.cond (.tmp 114)
            (.ops [⟨(some 115), none, .mv (.tmp 7)⟩,
              ⟨(some 116), none, .nilc (.tmp 115)⟩,
              ⟨(some 117), none, .fld (.tmp 116) 4⟩,
              ⟨(some 118), none, .ld (.tmp 117) none⟩,
              ⟨(some 119), none, .mv (.tmp 10)⟩,
              ⟨(some 120), none, .idx (.tmp 118) (.tmp 119) 1⟩,
              ⟨(some 121), none, .ld (.tmp 120) none⟩,
              ⟨(some 122), none, .nilc (.tmp 121)⟩,
              ⟨(some 123), none, .fld (.tmp 122) 7⟩,
              ⟨(some 124), none, .ld (.tmp 123) none⟩,
              ⟨(some 125), none, .mv (.tmp 0)⟩,
              ⟨(some 126), none, .lenB (.tmp 125)⟩,
              ⟨(some 127), none, .call 56 [(.tmp 124), (.tmp 126)]⟩,
              ⟨(some 13), none, .mv (.tmp 127)⟩])
            (.skip)))
          (.seq (.ops [⟨(some 128), none, .mv (.tmp 7)⟩,
            ⟨(some 129), none, .nilc (.tmp 128)⟩,
            ⟨(some 130), none, .fld (.tmp 129) 3⟩,
            ⟨(some 131), none, .ld (.tmp 130) none⟩,
            ⟨(some 132), none, .mv (.tmp 10)⟩,
            ⟨(some 133), none, .idx (.tmp 131) (.tmp 132) 1⟩,
            ⟨(some 134), none, .ld (.tmp 133) none⟩,
            ⟨(some 135), none, .call 49 [(.tmp 134)]⟩,
            ⟨(some 136), none, .mv (.tmp 13)⟩,
            ⟨(some 137), none, .bin .neq 9 (.tmp 135) (.tmp 136)⟩,
            ⟨(some 138), none, .mv (.tmp 137)⟩,
            ⟨(some 139), (some (138, false)), .mv (.tmp 7)⟩,
            ⟨(some 140), (some (138, false)), .nilc (.tmp 139)⟩,
            ⟨(some 141), (some (138, false)), .fld (.tmp 140) 2⟩,
            ⟨(some 142), (some (138, false)), .ld (.tmp 141) none⟩,
            ⟨(some 143), (some (138, false)), .mv (.tmp 10)⟩,
            ⟨(some 144), (some (138, false)), .idx (.tmp 142) (.tmp 143) 1⟩,
            ⟨(some 145), (some (138, false)), .ld (.tmp 144) none⟩,
            ⟨(some 146), (some (138, false)), .call 47 [(.tmp 145)]⟩,
            ⟨(some 147), none, .pick (.tmp 138) (.const (Go.Value.bool true)) (.tmp 146)⟩])
          (.cond (.tmp 147)
            (.seq (.ops [⟨(some 6), none, .mv (.const (Go.Value.bool false))⟩])
            (.ret))
            (.skip)))))
          (.seq (.drawn [(0, ⟨(some 148), none, .mv (.tmp 7)⟩),
            (1, ⟨(some 149), none, .nilc (.tmp 148)⟩),
            (2, ⟨(some 150), none, .fld (.tmp 149) 2⟩),
            (3, ⟨(some 151), none, .ld (.tmp 150) none⟩),
            (4, ⟨(some 152), none, .mv (.tmp 10)⟩),
            (5, ⟨(some 153), none, .idx (.tmp 151) (.tmp 152) 1⟩),
            (6, ⟨(some 154), none, .ld (.tmp 153) none⟩),
            (8, ⟨(some 156), none, .mv (.tmp 7)⟩),
            (9, ⟨(some 157), none, .nilc (.tmp 156)⟩),
            (10, ⟨(some 158), none, .fld (.tmp 157) 4⟩),
            (11, ⟨(some 159), none, .ld (.tmp 158) none⟩),
            (12, ⟨(some 160), none, .mv (.tmp 10)⟩),
            (13, ⟨(some 161), none, .idx (.tmp 159) (.tmp 160) 1⟩),
            (14, ⟨(some 162), none, .ld (.tmp 161) none⟩),
            (7, ⟨(some 155), none, .call 47 [(.tmp 154)]⟩),
            (15, ⟨(some 163), none, .call 57 [(.tmp 162)]⟩),
            (16, ⟨(some 164), none, .eq true .bool (.tmp 155) (.tmp 163)⟩)]
            [[], [0], [1], [2], [], [3, 4], [5], [6], [], [8], [9], [10], [], [11, 12], [13], [14, 7], [7, 15]]
            [0, 1, 3, 7, 0, 31, 63, 127, 0, 256, 768, 1792, 0, 7936, 16128, 32767, 65535] 32896)
          (.cond (.tmp 164)
            (.seq (.ops [⟨(some 6), none, .mv (.const (Go.Value.bool false))⟩])
            (.ret))
            (.skip)))))
        (.seq (.ops [⟨(some 166), none, .mv (.tmp 7)⟩,
          ⟨(some 167), none, .nilc (.tmp 166)⟩,
          ⟨(some 168), none, .fld (.tmp 167) 0⟩,
          ⟨(some 169), none, .ld (.tmp 168) none⟩,
          ⟨(some 170), none, .call 58 [(.tmp 169), (.const (Go.Value.int Go.IntKind.u64 2))]⟩,
          ⟨(some 165), none, .mv (.tmp 170)⟩,
          ⟨(some 171), none, .ext (.tmp 165) 0⟩,
          ⟨(some 172), none, .ext (.tmp 165) 1⟩,
          ⟨(some 14), none, .mv (.tmp 171)⟩,
          ⟨(some 15), none, .mv (.tmp 172)⟩])
        (.seq (.ops [⟨(some 173), none, .mv (.tmp 15)⟩,
          ⟨(some 174), none, .bin .neq 25 (.tmp 173) (.const (Go.Value.int Go.IntKind.i64 0))⟩,
          ⟨(some 175), none, .mv (.tmp 174)⟩,
          ⟨(some 176), (some (175, false)), .mv (.tmp 14)⟩,
          ⟨(some 177), (some (175, false)), .bin .geq 32 (.tmp 176) (.const (Go.Value.int Go.IntKind.u64 9223372036854775808))⟩,
          ⟨(some 178), (some (175, false)), .mv (.tmp 7)⟩,
          ⟨(some 179), (some (175, false)), .nilc (.tmp 178)⟩,
          ⟨(some 180), (some (175, false)), .fld (.tmp 179) 1⟩,
          ⟨(some 181), (some (175, false)), .ld (.tmp 180) none⟩,
          ⟨(some 182), (some (175, false)), .nilc (.tmp 181)⟩,
          ⟨(some 183), (some (175, false)), .fld (.tmp 182) 0⟩,
          ⟨(some 184), (some (175, false)), .ld (.tmp 183) none⟩,
          ⟨(some 185), (some (175, false)), .eq true .bool (.tmp 177) (.tmp 184)⟩,
          ⟨(some 186), none, .pick (.tmp 175) (.const (Go.Value.bool true)) (.tmp 185)⟩,
          ⟨(some 187), none, .mv (.tmp 186)⟩,
          ⟨(some 188), (some (187, false)), .mv (.tmp 14)⟩,
          ⟨(some 189), (some (187, false)), .bin .rem 32 (.tmp 188) (.const (Go.Value.int Go.IntKind.u64 4294967296))⟩,
          ⟨(some 190), (some (187, false)), .mv (.tmp 7)⟩,
          ⟨(some 191), (some (187, false)), .nilc (.tmp 190)⟩,
          ⟨(some 192), (some (187, false)), .fld (.tmp 191) 1⟩,
          ⟨(some 193), (some (187, false)), .ld (.tmp 192) none⟩,
          ⟨(some 194), (some (187, false)), .nilc (.tmp 193)⟩,
          ⟨(some 195), (some (187, false)), .fld (.tmp 194) 1⟩,
          ⟨(some 196), (some (187, false)), .ld (.tmp 195) none⟩,
          ⟨(some 197), (some (187, false)), .bin .neq 32 (.tmp 189) (.tmp 196)⟩,
          ⟨(some 198), none, .pick (.tmp 187) (.const (Go.Value.bool true)) (.tmp 197)⟩])
        (.cond (.tmp 198)
          (.seq (.ops [⟨(some 6), none, .mv (.const (Go.Value.bool false))⟩])
          (.ret))
          (.skip)))))))))
      (.ops [⟨(some 45), none, .mv (.tmp 9)⟩,
        ⟨(some 46), none, .bin .add 3 (.tmp 45) (.const (Go.Value.int Go.IntKind.i64 1))⟩,
        ⟨(some 9), none, .mv (.tmp 46)⟩]))))))
  (.seq (.ops [⟨(some 6), none, .mv (.const (Go.Value.bool true))⟩])
  (.ret)))))))
theorem is_law18_InplacePlays : FnIs Try.prog F.law18_InplacePlays X.law18_InplacePlays 199 [.tmp 6] := ⟨by kernel_rfl⟩

end Go.Proofs.Ytjoicobfjpaepaa
