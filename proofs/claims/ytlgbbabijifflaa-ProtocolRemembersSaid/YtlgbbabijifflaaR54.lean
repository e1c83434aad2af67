/- The code of the functions that the law comes to, as the interpreter reads it (printed by a program of this claim's), and that it is what the loaded program gives. -/
import Derived.Test.YtlgbbabijifflaaProg
import Derived.Test.YtlgbbabijifflaaA1
import Derived.KernelRfl
namespace Go.Proofs.Ytlgbbabijifflaa.L1R
open Go Go.Ai

def ir3 : IFunc := ⟨122, [.tmp 2],
  .seq (.region [⟨some 1, none, .box 2 (.t 0)⟩,
    ⟨some 2, none, .mov (.c (.bool false))⟩])
   (.seq (.seq (.region [⟨some 12, none, .faddr 1 (.t 1)⟩,
    ⟨some 13, none, .load 1 false (.t 12)⟩,
    ⟨some 14, none, .len (.t 13)⟩,
    ⟨some 15, none, .bin .gtr (.t 14) (.c (.int .i64 100))⟩])
   (.cond (.t 15) (.seq (.region [⟨some 16, none, .call 10 []⟩,
    ⟨some 2, none, .mov (.t 16)⟩])
   (.ret)) (.skip)))
   (.seq (.region [⟨some 18, none, .load 2 true (.t 1)⟩,
    ⟨some 19, none, .call 11 [(.t 18)]⟩,
    ⟨some 17, none, .mov (.t 19)⟩,
    ⟨some 20, none, .extract (.t 17) 0⟩,
    ⟨some 21, none, .extract (.t 17) 1⟩,
    ⟨some 3, none, .alloc [(.int .i64 0), (.int .i64 0), (.int .i64 0), .nilsl]⟩,
    ⟨none, none, .store 4 (.t 3) (.t 20)⟩,
    ⟨some 4, none, .mov (.t 21)⟩])
   (.seq (.region [⟨some 23, none, .load 2 true (.t 1)⟩,
    ⟨some 24, none, .call 12 [(.t 23)]⟩,
    ⟨some 22, none, .mov (.t 24)⟩,
    ⟨some 25, none, .extract (.t 22) 0⟩,
    ⟨some 26, none, .extract (.t 22) 1⟩,
    ⟨some 5, none, .alloc [(.int .i64 0), (.int .i64 0), (.int .i64 0), .nilsl]⟩,
    ⟨none, none, .store 4 (.t 5) (.t 25)⟩,
    ⟨some 6, none, .mov (.t 26)⟩])
   (.seq (.seq (.region [⟨some 27, none, .mov (.t 4)⟩,
    ⟨some 28, none, .bin .neq (.t 27) (.c (.int .i64 0))⟩])
   (.cond (.t 28) (.seq (.region [⟨some 29, none, .call 10 []⟩,
    ⟨some 2, none, .mov (.t 29)⟩])
   (.ret)) (.skip)))
   (.seq (.seq (.region [⟨some 30, none, .mov (.t 6)⟩,
    ⟨some 31, none, .bin .neq (.t 30) (.c (.int .i64 0))⟩,
    ⟨some 32, none, .mov (.t 31)⟩,
    ⟨some 33, some (2, false), .faddr 3 (.t 5)⟩,
    ⟨some 34, some (2, false), .load 1 false (.t 33)⟩,
    ⟨some 35, some (2, false), .len (.t 34)⟩,
    ⟨some 36, some (2, false), .bin .neq (.t 35) (.c (.int .i64 2))⟩,
    ⟨some 37, none, .pick (.t 32) (.c (.bool true)) (.t 36)⟩,
    ⟨some 38, none, .mov (.t 37)⟩,
    ⟨some 39, some (8, false), .faddr 3 (.t 3)⟩,
    ⟨some 40, some (8, false), .load 1 false (.t 39)⟩,
    ⟨some 41, some (8, false), .len (.t 40)⟩,
    ⟨some 42, some (8, false), .bin .lss (.t 41) (.c (.int .i64 2))⟩,
    ⟨some 43, none, .pick (.t 38) (.c (.bool true)) (.t 42)⟩,
    ⟨some 44, none, .mov (.t 43)⟩,
    ⟨some 45, some (14, false), .faddr 3 (.t 3)⟩,
    ⟨some 46, some (14, false), .load 1 false (.t 45)⟩,
    ⟨some 47, some (14, false), .len (.t 46)⟩,
    ⟨some 48, some (14, false), .bin .gtr (.t 47) (.c (.int .i64 64))⟩,
    ⟨some 49, none, .pick (.t 44) (.c (.bool true)) (.t 48)⟩,
    ⟨some 50, none, .mov (.t 49)⟩,
    ⟨some 51, some (20, false), .load 4 true (.t 3)⟩,
    ⟨some 52, some (20, false), .call 13 [(.t 51)]⟩,
    ⟨some 53, some (20, false), .bin .neq (.t 52) (.c (.int .i64 0))⟩,
    ⟨some 54, none, .pick (.t 50) (.c (.bool true)) (.t 53)⟩,
    ⟨some 55, none, .mov (.t 54)⟩,
    ⟨some 56, some (25, false), .load 4 true (.t 5)⟩,
    ⟨some 57, some (25, false), .call 13 [(.t 56)]⟩,
    ⟨some 58, some (25, false), .bin .neq (.t 57) (.c (.int .i64 0))⟩,
    ⟨some 59, none, .pick (.t 55) (.c (.bool true)) (.t 58)⟩,
    ⟨some 60, none, .mov (.t 59)⟩,
    ⟨some 61, some (30, false), .load 4 true (.t 3)⟩,
    ⟨some 62, some (30, false), .call 14 [(.t 61)]⟩,
    ⟨some 63, some (30, false), .un .not (.t 62)⟩,
    ⟨some 64, none, .pick (.t 60) (.c (.bool true)) (.t 63)⟩,
    ⟨some 65, none, .mov (.t 64)⟩,
    ⟨some 66, some (35, false), .load 4 true (.t 3)⟩,
    ⟨some 67, some (35, false), .call 15 [(.t 66)]⟩,
    ⟨some 68, some (35, false), .un .not (.t 67)⟩,
    ⟨some 69, none, .pick (.t 65) (.c (.bool true)) (.t 68)⟩])
   (.cond (.t 69) (.seq (.region [⟨some 2, none, .mov (.c (.bool false))⟩])
   (.ret)) (.skip)))
   (.seq (.region [⟨some 70, none, .build [(.bool false), (.bool false)] []⟩,
    ⟨some 7, none, .alloc [(.bool false), (.bool false)]⟩,
    ⟨none, none, .store 2 (.t 7) (.t 70)⟩])
   (.seq (.seq (.region [⟨some 71, none, .faddr 3 (.t 3)⟩,
    ⟨some 72, none, .load 1 false (.t 71)⟩,
    ⟨some 73, none, .len (.t 72)⟩,
    ⟨some 74, none, .mov (.c (.int .i64 0))⟩])
   (.block 0 (.loop (.seq (.region [⟨some 75, none, .bin .lss (.t 74) (.t 73)⟩])
   (.seq (.cond (.t 75) (.skip) (.exit 0))
   (.seq (.block 1 (.seq (.region [⟨some 76, none, .mov (.t 74)⟩,
    ⟨some 77, none, .iaddr 2 (.t 72) (.t 74)⟩,
    ⟨some 78, none, .load 2 true (.t 77)⟩,
    ⟨some 9, none, .alloc [.nilsl, .nilsl]⟩,
    ⟨some 8, none, .mov (.t 76)⟩,
    ⟨none, none, .store 2 (.t 9) (.t 78)⟩])
   (.seq (.seq (.region [⟨some 79, none, .mov (.t 8)⟩,
    ⟨some 80, none, .mov (.c (.int .i64 0))⟩])
   (.block 2 (.loop (.seq (.region [⟨some 81, none, .bin .lss (.t 80) (.t 79)⟩])
   (.seq (.cond (.t 81) (.skip) (.exit 2))
   (.seq (.block 3 (.seq (.region [⟨some 82, none, .mov (.t 80)⟩,
    ⟨some 10, none, .mov (.t 82)⟩])
   (.seq (.draw [⟨some 83, none, .load 2 true (.t 9)⟩,
    ⟨some 84, none, .faddr 3 (.t 3)⟩,
    ⟨some 85, none, .load 1 false (.t 84)⟩,
    ⟨some 86, none, .mov (.t 10)⟩,
    ⟨some 87, none, .iaddr 2 (.t 85) (.t 86)⟩,
    ⟨some 88, none, .load 2 true (.t 87)⟩,
    ⟨some 89, none, .call 16 [(.t 83), (.t 88)]⟩] [0, 1, 2, 3, 4, 5, 6] [])
   (.cond (.t 89) (.seq (.region [⟨some 2, none, .mov (.c (.bool false))⟩])
   (.ret)) (.skip)))))
   (.region [⟨some 90, none, .bin .add (.t 80) (.c (.int .i64 1))⟩,
    ⟨some 80, none, .mov (.t 90)⟩])))))))
   (.seq (.region [⟨some 91, none, .faddr 1 (.t 9)⟩,
    ⟨some 92, none, .load 1 false (.t 91)⟩,
    ⟨some 93, none, .iaddr 1 (.t 92) (.c (.int .i64 0))⟩,
    ⟨some 94, none, .load 1 false (.t 93)⟩,
    ⟨some 95, none, .bin .and (.t 94) (.c (.int .u64 1))⟩,
    ⟨some 11, none, .mov (.t 95)⟩])
   (.seq (.seq (.draw [⟨some 96, none, .mov (.t 11)⟩,
    ⟨some 97, none, .iarr 2 1 (.t 7) (.t 96)⟩,
    ⟨some 98, none, .load 1 false (.t 97)⟩,
    ⟨some 99, none, .un .not (.t 98)⟩,
    ⟨some 100, none, .mov (.t 99)⟩,
    ⟨some 101, some (4, true), .load 2 true (.t 9)⟩,
    ⟨some 102, some (4, true), .faddr 3 (.t 5)⟩,
    ⟨some 103, some (4, true), .load 1 false (.t 102)⟩,
    ⟨some 104, some (4, true), .mov (.t 11)⟩,
    ⟨some 105, some (4, true), .iaddr 2 (.t 103) (.t 104)⟩,
    ⟨some 106, some (4, true), .load 2 true (.t 105)⟩,
    ⟨some 107, some (4, true), .call 16 [(.t 101), (.t 106)]⟩,
    ⟨some 108, some (4, true), .un .not (.t 107)⟩,
    ⟨some 109, none, .pick (.t 100) (.t 108) (.c (.bool false))⟩] [0, 1, 2, 3, 4, 5, 6, 7, 8, 9, 10, 11, 12, 13] [])
   (.cond (.t 109) (.seq (.region [⟨some 2, none, .mov (.c (.bool false))⟩])
   (.ret)) (.skip)))
   (.region [⟨some 110, none, .mov (.t 11)⟩,
    ⟨some 111, none, .iarr 2 1 (.t 7) (.t 110)⟩,
    ⟨none, none, .store 1 (.t 111) (.c (.bool true))⟩]))))))
   (.region [⟨some 112, none, .bin .add (.t 74) (.c (.int .i64 1))⟩,
    ⟨some 74, none, .mov (.t 112)⟩])))))))
   (.seq (.region [⟨some 113, none, .iarr 2 1 (.t 7) (.c (.int .i64 0))⟩,
    ⟨some 114, none, .load 1 false (.t 113)⟩,
    ⟨some 115, none, .mov (.t 114)⟩,
    ⟨some 116, some (2, true), .iarr 2 1 (.t 7) (.c (.int .i64 1))⟩,
    ⟨some 117, some (2, true), .load 1 false (.t 116)⟩,
    ⟨some 118, none, .pick (.t 115) (.t 117) (.c (.bool false))⟩,
    ⟨some 119, none, .mov (.t 118)⟩,
    ⟨some 120, some (6, true), .call 10 []⟩,
    ⟨some 121, none, .pick (.t 119) (.t 120) (.c (.bool false))⟩,
    ⟨some 2, none, .mov (.t 121)⟩])
   (.ret)))))))))⟩
def ir10 : IFunc := ⟨113, [.tmp 0],
  .seq (.region [⟨some 0, none, .mov (.c (.bool false))⟩])
   (.seq (.region [⟨some 10, none, .call 41 []⟩,
    ⟨some 11, none, .call 11 [(.t 10)]⟩,
    ⟨some 9, none, .mov (.t 11)⟩,
    ⟨some 12, none, .extract (.t 9) 0⟩,
    ⟨some 13, none, .extract (.t 9) 1⟩,
    ⟨some 1, none, .alloc [(.int .i64 0), (.int .i64 0), (.int .i64 0), .nilsl]⟩,
    ⟨none, none, .store 4 (.t 1) (.t 12)⟩,
    ⟨some 2, none, .mov (.t 13)⟩])
   (.seq (.seq (.region [⟨some 14, none, .mov (.t 2)⟩,
    ⟨some 15, none, .bin .neq (.t 14) (.c (.int .i64 0))⟩,
    ⟨some 16, none, .mov (.t 15)⟩,
    ⟨some 17, some (2, false), .faddr 3 (.t 1)⟩,
    ⟨some 18, some (2, false), .load 1 false (.t 17)⟩,
    ⟨some 19, some (2, false), .len (.t 18)⟩,
    ⟨some 20, some (2, false), .bin .neq (.t 19) (.c (.int .i64 4))⟩,
    ⟨some 21, none, .pick (.t 16) (.c (.bool true)) (.t 20)⟩,
    ⟨some 22, none, .mov (.t 21)⟩,
    ⟨some 23, some (8, false), .faddr 2 (.t 1)⟩,
    ⟨some 24, some (8, false), .load 1 false (.t 23)⟩,
    ⟨some 25, some (8, false), .bin .neq (.t 24) (.c (.int .i64 3))⟩,
    ⟨some 26, none, .pick (.t 22) (.c (.bool true)) (.t 25)⟩,
    ⟨some 27, none, .mov (.t 26)⟩,
    ⟨some 28, some (13, false), .faddr 3 (.t 1)⟩,
    ⟨some 29, some (13, false), .load 1 false (.t 28)⟩,
    ⟨some 30, some (13, false), .iaddr 2 (.t 29) (.c (.int .i64 2))⟩,
    ⟨some 31, some (13, false), .load 2 true (.t 30)⟩,
    ⟨some 32, some (13, false), .rlit 2 1 [(.int .i64 0)] [(0, 1, (.c (.int .i64 5))), (1, 1, (.c (.int .i64 4)))]⟩,
    ⟨some 33, some (13, false), .rlit 2 1 [(.int .i64 0)] [(0, 1, (.c (.int .i64 20))), (1, 1, (.c (.int .i64 17)))]⟩,
    ⟨some 34, some (13, false), .rlit 2 1 [(.int .i64 0)] [(0, 1, (.c (.int .i64 80))), (1, 1, (.c (.int .i64 68)))]⟩,
    ⟨some 35, some (13, false), .rlit 3 1 [.nilsl] [(0, 1, (.t 32)), (1, 1, (.t 33)), (2, 1, (.t 34))]⟩,
    ⟨some 36, some (13, false), .rlit 3 1 [(.int .u64 0)] [(0, 1, (.c (.int .u64 1))), (1, 1, (.c (.int .u64 1))), (2, 1, (.c (.int .u64 1)))]⟩,
    ⟨some 37, some (13, false), .build [.nilsl, .nilsl] [(0, 1, (.t 35)), (1, 1, (.t 36))]⟩,
    ⟨some 38, some (13, false), .call 16 [(.t 31), (.t 37)]⟩,
    ⟨some 39, some (13, false), .un .not (.t 38)⟩,
    ⟨some 40, none, .pick (.t 27) (.c (.bool true)) (.t 39)⟩])
   (.cond (.t 40) (.seq (.region [⟨some 0, none, .mov (.c (.bool false))⟩])
   (.ret)) (.skip)))
   (.seq (.region [⟨some 42, none, .mslice 2 16 [(.int .i64 0), (.int .i64 0)] (.c (.int .i64 2)) (.c (.int .i64 2))⟩,
    ⟨some 43, none, .call 42 [(.c (.int .i64 2)), (.c (.int .i64 1)), (.c (.int .i64 1)), (.t 42)]⟩,
    ⟨some 41, none, .mov (.t 43)⟩,
    ⟨some 44, none, .extract (.t 41) 0⟩,
    ⟨some 45, none, .extract (.t 41) 1⟩,
    ⟨some 3, none, .alloc [.nilsl, .nilsl]⟩,
    ⟨none, none, .store 2 (.t 3) (.t 44)⟩,
    ⟨some 4, none, .mov (.t 45)⟩])
   (.seq (.region [⟨some 47, none, .build [(.int .i64 0), (.int .i64 0)] [(0, 1, (.c (.int .i64 1)))]⟩,
    ⟨some 48, none, .build [(.int .i64 0), (.int .i64 0)] []⟩,
    ⟨some 49, none, .rlit 2 2 [(.int .i64 0), (.int .i64 0)] [(0, 2, (.t 47)), (2, 2, (.t 48))]⟩,
    ⟨some 50, none, .call 42 [(.c (.int .i64 2)), (.c (.int .i64 1)), (.c (.int .i64 1)), (.t 49)]⟩,
    ⟨some 46, none, .mov (.t 50)⟩,
    ⟨some 51, none, .extract (.t 46) 0⟩,
    ⟨some 52, none, .extract (.t 46) 1⟩,
    ⟨some 5, none, .alloc [.nilsl, .nilsl]⟩,
    ⟨none, none, .store 2 (.t 5) (.t 51)⟩,
    ⟨some 6, none, .mov (.t 52)⟩])
   (.seq (.region [⟨some 54, none, .call 43 [(.c (.int .i64 2)), (.c (.int .i64 1)), (.c (.int .i64 1))]⟩,
    ⟨some 53, none, .mov (.t 54)⟩,
    ⟨some 55, none, .extract (.t 53) 0⟩,
    ⟨some 56, none, .extract (.t 53) 1⟩,
    ⟨some 7, none, .mov (.t 55)⟩,
    ⟨some 8, none, .mov (.t 56)⟩])
   (.seq (.seq (.region [⟨some 57, none, .load 2 true (.t 3)⟩,
    ⟨some 58, none, .rlit 2 1 [(.int .i64 0)] [(0, 1, (.c (.int .i64 3))), (1, 1, (.c (.int .i64 4)))]⟩,
    ⟨some 59, none, .rlit 2 1 [(.int .i64 0)] [(0, 1, (.c (.int .i64 15))), (1, 1, (.c (.int .i64 15)))]⟩,
    ⟨some 60, none, .rlit 2 1 [.nilsl] [(0, 1, (.t 58)), (1, 1, (.t 59))]⟩,
    ⟨some 61, none, .rlit 2 1 [(.int .u64 0)] [(0, 1, (.c (.int .u64 13))), (1, 1, (.c (.int .u64 13)))]⟩,
    ⟨some 62, none, .build [.nilsl, .nilsl] [(0, 1, (.t 60)), (1, 1, (.t 61))]⟩,
    ⟨some 63, none, .call 16 [(.t 57), (.t 62)]⟩,
    ⟨some 64, none, .un .not (.t 63)⟩,
    ⟨some 65, none, .mov (.t 64)⟩,
    ⟨some 66, some (8, false), .load 2 true (.t 5)⟩,
    ⟨some 67, some (8, false), .rlit 2 1 [(.int .i64 0)] [(0, 1, (.c (.int .i64 3))), (1, 1, (.c (.int .i64 4)))]⟩,
    ⟨some 68, some (8, false), .rlit 2 1 [(.int .i64 0)] [(0, 1, (.c (.int .i64 0))), (1, 1, (.c (.int .i64 13)))]⟩,
    ⟨some 69, some (8, false), .rlit 2 1 [.nilsl] [(0, 1, (.t 67)), (1, 1, (.t 68))]⟩,
    ⟨some 70, some (8, false), .rlit 2 1 [(.int .u64 0)] [(0, 1, (.c (.int .u64 13))), (1, 1, (.c (.int .u64 9)))]⟩,
    ⟨some 71, some (8, false), .build [.nilsl, .nilsl] [(0, 1, (.t 69)), (1, 1, (.t 70))]⟩,
    ⟨some 72, some (8, false), .call 16 [(.t 66), (.t 71)]⟩,
    ⟨some 73, some (8, false), .un .not (.t 72)⟩,
    ⟨some 74, none, .pick (.t 65) (.c (.bool true)) (.t 73)⟩])
   (.cond (.t 74) (.seq (.region [⟨some 0, none, .mov (.c (.bool false))⟩])
   (.ret)) (.skip)))
   (.seq (.region [⟨some 75, none, .mov (.t 4)⟩,
    ⟨some 76, none, .bin .eql (.t 75) (.c (.int .i64 0))⟩,
    ⟨some 77, none, .mov (.t 76)⟩,
    ⟨some 78, some (2, true), .mov (.t 6)⟩,
    ⟨some 79, some (2, true), .bin .eql (.t 78) (.c (.int .i64 0))⟩,
    ⟨some 80, none, .pick (.t 77) (.t 79) (.c (.bool false))⟩,
    ⟨some 81, none, .mov (.t 80)⟩,
    ⟨some 82, some (6, true), .mov (.t 8)⟩,
    ⟨some 83, some (6, true), .bin .eql (.t 82) (.c (.int .i64 0))⟩,
    ⟨some 84, none, .pick (.t 81) (.t 83) (.c (.bool false))⟩,
    ⟨some 85, none, .mov (.t 84)⟩,
    ⟨some 86, some (10, true), .mov (.t 7)⟩,
    ⟨some 87, some (10, true), .len (.t 86)⟩,
    ⟨some 88, some (10, true), .bin .eql (.t 87) (.c (.int .i64 5))⟩,
    ⟨some 89, none, .pick (.t 85) (.t 88) (.c (.bool false))⟩,
    ⟨some 90, none, .mov (.t 89)⟩,
    ⟨some 91, some (15, true), .call 44 [(.c (.int .i64 4)), (.c (.int .i64 1))]⟩,
    ⟨some 92, some (15, true), .bin .eql (.t 91) (.c (.int .i64 17))⟩,
    ⟨some 93, none, .pick (.t 90) (.t 92) (.c (.bool false))⟩,
    ⟨some 94, none, .mov (.t 93)⟩,
    ⟨some 95, some (19, true), .call 45 [(.c (.int .i64 1)), (.c (.int .i64 17))]⟩,
    ⟨some 96, some (19, true), .bin .eql (.t 95) (.c (.int .i64 1))⟩,
    ⟨some 97, none, .pick (.t 94) (.t 96) (.c (.bool false))⟩,
    ⟨some 98, none, .mov (.t 97)⟩,
    ⟨some 99, some (23, true), .call 45 [(.c (.int .i64 1)), (.c (.int .i64 20))]⟩,
    ⟨some 100, some (23, true), .bin .eql (.t 99) (.c (.int .i64 (-1)))⟩,
    ⟨some 101, none, .pick (.t 98) (.t 100) (.c (.bool false))⟩,
    ⟨some 102, none, .mov (.t 101)⟩,
    ⟨some 103, some (27, true), .call 46 [(.c (.int .i64 0)), (.c (.int .i64 1))]⟩,
    ⟨some 104, some (27, true), .bin .eql (.t 103) (.c (.int .i64 5))⟩,
    ⟨some 105, none, .pick (.t 102) (.t 104) (.c (.bool false))⟩,
    ⟨some 106, none, .mov (.t 105)⟩,
    ⟨some 107, some (31, true), .build [(.int .i64 0), (.int .i64 0)] []⟩,
    ⟨some 108, some (31, true), .build [(.int .i64 0), (.int .i64 0)] []⟩,
    ⟨some 109, some (31, true), .rlit 2 2 [(.int .i64 0), (.int .i64 0)] [(0, 2, (.t 107)), (2, 2, (.t 108))]⟩,
    ⟨some 110, some (31, true), .call 47 [(.c (.int .i64 1)), (.t 109)]⟩,
    ⟨some 111, some (31, true), .bin .eql (.t 110) (.c (.int .i64 1))⟩,
    ⟨some 112, none, .pick (.t 106) (.t 111) (.c (.bool false))⟩,
    ⟨some 0, none, .mov (.t 112)⟩])
   (.ret))))))))⟩
def ir11 : IFunc := ⟨28, [.cell 2 4 true, .tmp 3],
  .seq (.region [⟨some 1, none, .box 2 (.t 0)⟩,
    ⟨some 2, none, .alloc [(.int .i64 0), (.int .i64 0), (.int .i64 0), .nilsl]⟩,
    ⟨some 3, none, .mov (.c (.int .i64 0))⟩])
   (.seq (.seq (.region [⟨some 7, none, .load 2 true (.t 1)⟩,
    ⟨some 8, none, .call 48 [(.t 7)]⟩,
    ⟨some 4, none, .mov (.t 8)⟩])
   (.seq (.region [⟨some 9, none, .mov (.t 4)⟩,
    ⟨some 10, none, .bin .neq (.t 9) (.c (.int .i64 0))⟩])
   (.cond (.t 10) (.seq (.region [⟨some 11, none, .build [(.int .i64 0), (.int .i64 0), (.int .i64 0), .nilsl] []⟩,
    ⟨some 12, none, .mov (.t 4)⟩,
    ⟨none, none, .store 4 (.t 2) (.t 11)⟩,
    ⟨some 3, none, .mov (.t 12)⟩])
   (.ret)) (.skip))))
   (.seq (.region [⟨some 13, none, .faddr 0 (.t 1)⟩,
    ⟨some 14, none, .load 1 false (.t 13)⟩,
    ⟨some 15, none, .bin .add (.t 14) (.c (.int .i64 1))⟩,
    ⟨some 16, none, .build [(.int .i64 0), (.int .i64 0), (.int .i64 0), .nilsl] [(0, 1, (.c (.int .i64 2))), (1, 1, (.c (.int .i64 1))), (2, 1, (.t 15))]⟩,
    ⟨some 5, none, .alloc [(.int .i64 0), (.int .i64 0), (.int .i64 0), .nilsl]⟩,
    ⟨none, none, .store 4 (.t 5) (.t 16)⟩])
   (.seq (.region [⟨some 6, none, .alloc [.nilfn]⟩])
   (.seq (.region [⟨some 17, none, .mkfn 49 [(.t 5), (.t 1), (.t 6)]⟩,
    ⟨none, none, .store 1 (.t 6) (.t 17)⟩])
   (.seq (.region [⟨some 18, none, .load 1 false (.t 6)⟩,
    ⟨some 19, none, .dyn (.t 18) [(.c (.int .i64 0)), (.c .nilsl)]⟩])
   (.seq (.region [⟨some 20, none, .load 1 false (.t 6)⟩,
    ⟨some 21, none, .dyn (.t 20) [(.c (.int .i64 1)), (.c .nilsl)]⟩])
   (.seq (.seq (.region [⟨some 22, none, .faddr 3 (.t 5)⟩,
    ⟨some 23, none, .load 1 false (.t 22)⟩,
    ⟨some 24, none, .len (.t 23)⟩,
    ⟨some 25, none, .bin .gtr (.t 24) (.c (.int .i64 64))⟩])
   (.cond (.t 25) (.seq (.region [⟨some 26, none, .build [(.int .i64 0), (.int .i64 0), (.int .i64 0), .nilsl] []⟩,
    ⟨none, none, .store 4 (.t 2) (.t 26)⟩,
    ⟨some 3, none, .mov (.c (.int .i64 8))⟩])
   (.ret)) (.skip)))
   (.seq (.region [⟨some 27, none, .load 4 true (.t 5)⟩,
    ⟨none, none, .store 4 (.t 2) (.t 27)⟩,
    ⟨some 3, none, .mov (.c (.int .i64 0))⟩])
   (.ret)))))))))⟩
def ir12 : IFunc := ⟨39, [.cell 2 4 true, .tmp 3],
  .seq (.region [⟨some 1, none, .box 2 (.t 0)⟩,
    ⟨some 2, none, .alloc [(.int .i64 0), (.int .i64 0), (.int .i64 0), .nilsl]⟩,
    ⟨some 3, none, .mov (.c (.int .i64 0))⟩])
   (.seq (.seq (.region [⟨some 9, none, .load 2 true (.t 1)⟩,
    ⟨some 10, none, .call 48 [(.t 9)]⟩,
    ⟨some 4, none, .mov (.t 10)⟩])
   (.seq (.region [⟨some 11, none, .mov (.t 4)⟩,
    ⟨some 12, none, .bin .neq (.t 11) (.c (.int .i64 0))⟩])
   (.cond (.t 12) (.seq (.region [⟨some 13, none, .build [(.int .i64 0), (.int .i64 0), (.int .i64 0), .nilsl] []⟩,
    ⟨some 14, none, .mov (.t 4)⟩,
    ⟨none, none, .store 4 (.t 2) (.t 13)⟩,
    ⟨some 3, none, .mov (.t 14)⟩])
   (.ret)) (.skip))))
   (.seq (.region [⟨some 15, none, .faddr 0 (.t 1)⟩,
    ⟨some 16, none, .load 1 false (.t 15)⟩,
    ⟨some 17, none, .bin .add (.t 16) (.c (.int .i64 1))⟩,
    ⟨some 18, none, .build [(.int .i64 0), (.int .i64 0), (.int .i64 0), .nilsl] [(0, 1, (.c (.int .i64 2))), (1, 1, (.c (.int .i64 1))), (2, 1, (.t 17))]⟩,
    ⟨some 5, none, .alloc [(.int .i64 0), (.int .i64 0), (.int .i64 0), .nilsl]⟩,
    ⟨none, none, .store 4 (.t 5) (.t 18)⟩])
   (.seq (.seq (.region [⟨some 19, none, .mov (.c (.int .i64 0))⟩])
   (.block 0 (.loop (.seq (.region [⟨some 20, none, .bin .lss (.t 19) (.c (.int .i64 2))⟩])
   (.seq (.cond (.t 20) (.skip) (.exit 0))
   (.seq (.block 1 (.seq (.region [⟨some 21, none, .mov (.t 19)⟩,
    ⟨some 6, none, .mov (.t 21)⟩])
   (.seq (.draw [⟨some 23, none, .load 2 true (.t 1)⟩,
    ⟨some 24, none, .mov (.t 6)⟩,
    ⟨some 25, none, .faddr 0 (.t 1)⟩,
    ⟨some 26, none, .load 1 false (.t 25)⟩,
    ⟨some 27, none, .mslice 1 8 [(.int .i64 0)] (.t 26) (.t 26)⟩,
    ⟨some 28, none, .call 50 [(.t 23), (.t 24), (.t 27)]⟩,
    ⟨some 22, none, .mov (.t 28)⟩,
    ⟨some 29, none, .extract (.t 22) 0⟩,
    ⟨some 30, none, .extract (.t 22) 1⟩,
    ⟨some 7, none, .alloc [.nilsl, .nilsl]⟩,
    ⟨none, none, .store 2 (.t 7) (.t 29)⟩,
    ⟨some 8, none, .mov (.t 30)⟩] [0, 1, 2, 3, 4, 5, 6, 7, 8, 9, 10, 11] [(0, 4), (0, 9), (3, 9), (4, 9), (5, 9)])
   (.region [⟨some 31, none, .faddr 3 (.t 5)⟩,
    ⟨some 32, none, .load 1 false (.t 31)⟩,
    ⟨some 33, none, .load 2 true (.t 7)⟩,
    ⟨some 34, none, .tlit 1 2 [.nilsl, .nilsl] [(0, 2, (.t 33))]⟩,
    ⟨some 35, none, .append 2 48 (.t 32) (.t 34)⟩,
    ⟨some 36, none, .faddr 3 (.t 5)⟩,
    ⟨none, none, .store 1 (.t 36) (.t 35)⟩]))))
   (.region [⟨some 37, none, .bin .add (.t 19) (.c (.int .i64 1))⟩,
    ⟨some 19, none, .mov (.t 37)⟩])))))))
   (.seq (.region [⟨some 38, none, .load 4 true (.t 5)⟩,
    ⟨none, none, .store 4 (.t 2) (.t 38)⟩,
    ⟨some 3, none, .mov (.c (.int .i64 0))⟩])
   (.ret)))))⟩
def ir41 : IFunc := ⟨5, [.cell 0 2 true],
  .seq (.region [⟨some 0, none, .alloc [(.int .i64 0), .nilsl]⟩])
   (.seq (.region [⟨some 1, none, .build [(.int .i64 0), (.int .i64 0), (.int .i64 0)] [(0, 1, (.c (.int .i64 0))), (1, 1, (.c (.int .i64 5))), (2, 1, (.c (.int .i64 1)))]⟩,
    ⟨some 2, none, .build [(.int .i64 0), (.int .i64 0), (.int .i64 0)] [(0, 1, (.c (.int .i64 1))), (1, 1, (.c (.int .i64 17))), (2, 1, (.c (.int .i64 1)))]⟩,
    ⟨some 3, none, .rlit 2 3 [(.int .i64 0), (.int .i64 0), (.int .i64 0)] [(0, 3, (.t 1)), (3, 3, (.t 2))]⟩,
    ⟨some 4, none, .build [(.int .i64 0), .nilsl] [(0, 1, (.c (.int .i64 2))), (1, 1, (.t 3))]⟩,
    ⟨none, none, .store 2 (.t 0) (.t 4)⟩])
   (.ret))⟩
def ir42 : IFunc := ⟨85, [.cell 8 2 true, .tmp 9],
  .seq (.region [⟨some 8, none, .alloc [.nilsl, .nilsl]⟩,
    ⟨some 9, none, .mov (.c (.int .i64 0))⟩])
   (.seq (.seq (.region [⟨some 12, none, .mov (.t 0)⟩,
    ⟨some 13, none, .mov (.t 1)⟩,
    ⟨some 14, none, .call 86 [(.t 12), (.t 13)]⟩,
    ⟨some 15, none, .un .not (.t 14)⟩,
    ⟨some 16, none, .mov (.t 15)⟩,
    ⟨some 17, some (4, false), .mov (.t 2)⟩,
    ⟨some 18, some (4, false), .bin .lss (.t 17) (.c (.int .i64 0))⟩,
    ⟨some 19, none, .pick (.t 16) (.c (.bool true)) (.t 18)⟩,
    ⟨some 20, none, .mov (.t 19)⟩,
    ⟨some 21, some (8, false), .mov (.t 2)⟩,
    ⟨some 22, some (8, false), .mov (.t 0)⟩,
    ⟨some 23, some (8, false), .bin .shl (.c (.int .i64 1)) (.t 22)⟩,
    ⟨some 24, some (8, false), .bin .geq (.t 21) (.t 23)⟩,
    ⟨some 25, none, .pick (.t 20) (.c (.bool true)) (.t 24)⟩])
   (.cond (.t 25) (.seq (.region [⟨some 26, none, .build [.nilsl, .nilsl] []⟩,
    ⟨none, none, .store 2 (.t 8) (.t 26)⟩,
    ⟨some 9, none, .mov (.c (.int .i64 2))⟩])
   (.ret)) (.skip)))
   (.seq (.seq (.region [⟨some 27, none, .mov (.t 3)⟩,
    ⟨some 28, none, .len (.t 27)⟩,
    ⟨some 29, none, .mov (.t 0)⟩,
    ⟨some 30, none, .bin .neq (.t 28) (.t 29)⟩])
   (.cond (.t 30) (.seq (.region [⟨some 31, none, .build [.nilsl, .nilsl] []⟩,
    ⟨none, none, .store 2 (.t 8) (.t 31)⟩,
    ⟨some 9, none, .mov (.c (.int .i64 3))⟩])
   (.ret)) (.skip)))
   (.seq (.seq (.region [⟨some 32, none, .mov (.t 3)⟩,
    ⟨some 33, none, .len (.t 32)⟩,
    ⟨some 34, none, .mov (.c (.int .i64 0))⟩])
   (.block 0 (.loop (.seq (.region [⟨some 35, none, .bin .lss (.t 34) (.t 33)⟩])
   (.seq (.cond (.t 35) (.skip) (.exit 0))
   (.seq (.block 1 (.seq (.region [⟨some 36, none, .mov (.t 34)⟩,
    ⟨some 37, none, .iaddr 2 (.t 32) (.t 34)⟩,
    ⟨some 38, none, .load 2 true (.t 37)⟩,
    ⟨some 11, none, .alloc [(.int .i64 0), (.int .i64 0)]⟩,
    ⟨some 10, none, .mov (.t 36)⟩,
    ⟨none, none, .store 2 (.t 11) (.t 38)⟩])
   (.seq (.draw [⟨some 39, none, .faddr 0 (.t 11)⟩,
    ⟨some 40, none, .load 1 false (.t 39)⟩,
    ⟨some 41, none, .bin .lss (.t 40) (.c (.int .i64 0))⟩,
    ⟨some 42, none, .mov (.t 41)⟩,
    ⟨some 43, some (3, false), .faddr 0 (.t 11)⟩,
    ⟨some 44, some (3, false), .load 1 false (.t 43)⟩,
    ⟨some 45, some (3, false), .mov (.t 1)⟩,
    ⟨some 46, some (3, false), .bin .gtr (.t 44) (.t 45)⟩,
    ⟨some 47, none, .pick (.t 42) (.c (.bool true)) (.t 46)⟩,
    ⟨some 48, none, .mov (.t 47)⟩,
    ⟨some 49, some (9, false), .faddr 1 (.t 11)⟩,
    ⟨some 50, some (9, false), .load 1 false (.t 49)⟩,
    ⟨some 51, some (9, false), .bin .lss (.t 50) (.c (.int .i64 0))⟩,
    ⟨some 52, none, .pick (.t 48) (.c (.bool true)) (.t 51)⟩,
    ⟨some 53, none, .mov (.t 52)⟩,
    ⟨some 54, some (14, false), .faddr 1 (.t 11)⟩,
    ⟨some 55, some (14, false), .load 1 false (.t 54)⟩,
    ⟨some 56, some (14, false), .mov (.t 0)⟩,
    ⟨some 57, some (14, false), .bin .shl (.c (.int .i64 1)) (.t 56)⟩,
    ⟨some 58, some (14, false), .bin .geq (.t 55) (.t 57)⟩,
    ⟨some 59, none, .pick (.t 53) (.c (.bool true)) (.t 58)⟩,
    ⟨some 60, none, .mov (.t 59)⟩,
    ⟨some 61, some (21, false), .faddr 1 (.t 11)⟩,
    ⟨some 62, some (21, false), .load 1 false (.t 61)⟩,
    ⟨some 63, some (21, false), .mov (.t 10)⟩,
    ⟨some 64, some (21, false), .bin .shr (.t 62) (.t 63)⟩,
    ⟨some 65, some (21, false), .bin .and (.t 64) (.c (.int .i64 1))⟩,
    ⟨some 66, some (21, false), .bin .eql (.t 65) (.c (.int .i64 1))⟩,
    ⟨some 67, none, .pick (.t 60) (.c (.bool true)) (.t 66)⟩,
    ⟨some 68, none, .mov (.t 67)⟩,
    ⟨some 69, some (29, false), .faddr 0 (.t 11)⟩,
    ⟨some 70, some (29, false), .load 1 false (.t 69)⟩,
    ⟨some 71, some (29, false), .bin .eql (.t 70) (.c (.int .i64 0))⟩,
    ⟨some 72, some (29, false), .mov (.t 71)⟩,
    ⟨some 73, some (33, true), .faddr 1 (.t 11)⟩,
    ⟨some 74, some (33, true), .load 1 false (.t 73)⟩,
    ⟨some 75, some (33, true), .bin .neq (.t 74) (.c (.int .i64 0))⟩,
    ⟨some 76, some (29, false), .pick (.t 72) (.t 75) (.c (.bool false))⟩,
    ⟨some 77, none, .pick (.t 68) (.c (.bool true)) (.t 76)⟩] [0, 1, 2, 3, 4, 5, 6, 7, 8, 9, 10, 11, 12, 13, 14, 15, 16, 17, 18, 19, 20, 21, 22, 23, 24, 25, 26, 27, 28, 29, 30, 31, 32, 33, 34, 35, 36, 37, 38] [])
   (.cond (.t 77) (.seq (.region [⟨some 78, none, .build [.nilsl, .nilsl] []⟩,
    ⟨none, none, .store 2 (.t 8) (.t 78)⟩,
    ⟨some 9, none, .mov (.c (.int .i64 2))⟩])
   (.ret)) (.skip)))))
   (.region [⟨some 79, none, .bin .add (.t 34) (.c (.int .i64 1))⟩,
    ⟨some 34, none, .mov (.t 79)⟩])))))))
   (.seq (.region [⟨some 80, none, .mov (.t 0)⟩,
    ⟨some 81, none, .mov (.t 1)⟩,
    ⟨some 82, none, .mov (.t 2)⟩,
    ⟨some 83, none, .mov (.t 3)⟩,
    ⟨some 84, none, .call 87 [(.t 80), (.t 81), (.t 82), (.t 83)]⟩,
    ⟨none, none, .store 2 (.t 8) (.t 84)⟩,
    ⟨some 9, none, .mov (.c (.int .i64 0))⟩])
   (.ret)))))⟩
def ir43 : IFunc := ⟨31, [.tmp 6, .tmp 7],
  .seq (.region [⟨some 3, none, .box 1 (.t 0)⟩,
    ⟨some 5, none, .box 1 (.t 2)⟩,
    ⟨some 6, none, .mov (.c .nilsl)⟩,
    ⟨some 7, none, .mov (.c (.int .i64 0))⟩])
   (.seq (.seq (.region [⟨some 10, none, .load 1 false (.t 3)⟩,
    ⟨some 11, none, .load 1 false (.t 5)⟩,
    ⟨some 12, none, .call 86 [(.t 10), (.t 11)]⟩,
    ⟨some 13, none, .un .not (.t 12)⟩,
    ⟨some 14, none, .mov (.t 13)⟩,
    ⟨some 15, some (4, false), .mov (.t 1)⟩,
    ⟨some 16, some (4, false), .bin .lss (.t 15) (.c (.int .i64 0))⟩,
    ⟨some 17, none, .pick (.t 14) (.c (.bool true)) (.t 16)⟩,
    ⟨some 18, none, .mov (.t 17)⟩,
    ⟨some 19, some (8, false), .mov (.t 1)⟩,
    ⟨some 20, some (8, false), .load 1 false (.t 3)⟩,
    ⟨some 21, some (8, false), .bin .gtr (.t 19) (.t 20)⟩,
    ⟨some 22, none, .pick (.t 18) (.c (.bool true)) (.t 21)⟩])
   (.cond (.t 22) (.seq (.region [⟨some 6, none, .mov (.c .nilsl)⟩,
    ⟨some 7, none, .mov (.c (.int .i64 2))⟩])
   (.ret)) (.skip)))
   (.seq (.region [⟨some 8, none, .alloc [.nilsl]⟩])
   (.seq (.region [⟨some 9, none, .alloc [.nilfn]⟩])
   (.seq (.region [⟨some 23, none, .mkfn 88 [(.t 8), (.t 3), (.t 9), (.t 5)]⟩,
    ⟨none, none, .store 1 (.t 9) (.t 23)⟩])
   (.seq (.region [⟨some 24, none, .load 1 false (.t 9)⟩,
    ⟨some 25, none, .mov (.t 1)⟩,
    ⟨some 26, none, .dyn (.t 24) [(.c .nilsl), (.t 25)]⟩])
   (.seq (.seq (.region [⟨some 27, none, .load 1 false (.t 8)⟩,
    ⟨some 28, none, .len (.t 27)⟩,
    ⟨some 29, none, .bin .gtr (.t 28) (.c (.int .i64 64))⟩])
   (.cond (.t 29) (.seq (.region [⟨some 6, none, .mov (.c .nilsl)⟩,
    ⟨some 7, none, .mov (.c (.int .i64 8))⟩])
   (.ret)) (.skip)))
   (.seq (.region [⟨some 30, none, .load 1 false (.t 8)⟩,
    ⟨some 6, none, .mov (.t 30)⟩,
    ⟨some 7, none, .mov (.c (.int .i64 0))⟩])
   (.ret))))))))⟩
def ir44 : IFunc := ⟨26, [.tmp 4],
  .seq (.region [⟨some 4, none, .mov (.c (.int .i64 0))⟩])
   (.seq (.seq (.region [⟨some 6, none, .mov (.t 0)⟩,
    ⟨some 7, none, .call 45 [(.c (.int .i64 0)), (.t 6)]⟩,
    ⟨some 5, none, .mov (.t 7)⟩])
   (.seq (.region [⟨some 8, none, .mov (.t 5)⟩,
    ⟨some 9, none, .bin .lss (.t 8) (.c (.int .i64 0))⟩,
    ⟨some 10, none, .mov (.t 9)⟩,
    ⟨some 11, some (2, false), .mov (.t 5)⟩,
    ⟨some 12, some (2, false), .bin .geq (.t 11) (.c (.int .i64 5))⟩,
    ⟨some 13, none, .pick (.t 10) (.c (.bool true)) (.t 12)⟩,
    ⟨some 14, none, .mov (.t 13)⟩,
    ⟨some 15, some (6, false), .mov (.t 1)⟩,
    ⟨some 16, some (6, false), .bin .lss (.t 15) (.c (.int .i64 0))⟩,
    ⟨some 17, none, .pick (.t 14) (.c (.bool true)) (.t 16)⟩,
    ⟨some 18, none, .mov (.t 17)⟩,
    ⟨some 19, some (10, false), .mov (.t 1)⟩,
    ⟨some 20, some (10, false), .bin .gtr (.t 19) (.c (.int .i64 3))⟩,
    ⟨some 21, none, .pick (.t 18) (.c (.bool true)) (.t 20)⟩])
   (.cond (.t 21) (.seq (.region [⟨some 4, none, .mov (.c (.int .i64 (-1)))⟩])
   (.ret)) (.skip))))
   (.seq (.region [⟨some 22, none, .mov (.t 0)⟩,
    ⟨some 23, none, .bin .mul (.c (.int .i64 4)) (.t 22)⟩,
    ⟨some 24, none, .mov (.t 1)⟩,
    ⟨some 25, none, .bin .add (.t 23) (.t 24)⟩,
    ⟨some 4, none, .mov (.t 25)⟩])
   (.ret)))⟩
def ir45 : IFunc := ⟨35, [.tmp 4],
  .seq (.region [⟨some 4, none, .mov (.c (.int .i64 0))⟩])
   (.seq (.seq (.region [⟨some 6, none, .mov (.t 0)⟩,
    ⟨some 7, none, .bin .lss (.t 6) (.c (.int .i64 0))⟩,
    ⟨some 8, none, .mov (.t 7)⟩,
    ⟨some 9, some (2, false), .mov (.t 0)⟩,
    ⟨some 10, some (2, false), .bin .gtr (.t 9) (.c (.int .i64 1))⟩,
    ⟨some 11, none, .pick (.t 8) (.c (.bool true)) (.t 10)⟩,
    ⟨some 12, none, .mov (.t 11)⟩,
    ⟨some 13, some (6, false), .mov (.t 1)⟩,
    ⟨some 14, some (6, false), .bin .lss (.t 13) (.c (.int .i64 4))⟩,
    ⟨some 15, none, .pick (.t 12) (.c (.bool true)) (.t 14)⟩])
   (.cond (.t 15) (.seq (.region [⟨some 4, none, .mov (.c (.int .i64 (-1)))⟩])
   (.ret)) (.skip)))
   (.seq (.region [⟨some 5, none, .mov (.c (.int .i64 0))⟩])
   (.seq (.block 0 (.loop (.seq (.seq (.region [⟨some 16, none, .mov (.t 1)⟩,
    ⟨some 17, none, .bin .geq (.t 16) (.c (.int .i64 8))⟩])
   (.cond (.t 17) (.skip) (.exit 0)))
   (.block 1 (.seq (.region [⟨some 18, none, .mov (.t 1)⟩,
    ⟨some 19, none, .bin .quo (.t 18) (.c (.int .i64 4))⟩,
    ⟨some 1, none, .mov (.t 19)⟩])
   (.region [⟨some 20, none, .mov (.t 5)⟩,
    ⟨some 21, none, .bin .add (.t 20) (.c (.int .i64 1))⟩,
    ⟨some 5, none, .mov (.t 21)⟩]))))))
   (.seq (.seq (.region [⟨some 22, none, .mov (.t 1)⟩,
    ⟨some 23, none, .bin .lss (.t 22) (.c (.int .i64 4))⟩,
    ⟨some 24, none, .mov (.t 23)⟩,
    ⟨some 25, some (2, false), .mov (.t 1)⟩,
    ⟨some 26, some (2, false), .mov (.t 0)⟩,
    ⟨some 27, some (2, false), .bin .sub (.c (.int .i64 5)) (.t 26)⟩,
    ⟨some 28, some (2, false), .bin .gtr (.t 25) (.t 27)⟩,
    ⟨some 29, none, .pick (.t 24) (.c (.bool true)) (.t 28)⟩,
    ⟨some 30, none, .mov (.t 29)⟩,
    ⟨some 31, some (8, false), .mov (.t 5)⟩,
    ⟨some 32, some (8, false), .bin .gtr (.t 31) (.c (.int .i64 5))⟩,
    ⟨some 33, none, .pick (.t 30) (.c (.bool true)) (.t 32)⟩])
   (.cond (.t 33) (.seq (.region [⟨some 4, none, .mov (.c (.int .i64 (-1)))⟩])
   (.ret)) (.skip)))
   (.seq (.region [⟨some 34, none, .mov (.t 5)⟩,
    ⟨some 4, none, .mov (.t 34)⟩])
   (.ret))))))⟩
def ir46 : IFunc := ⟨23, [.tmp 4],
  .seq (.region [⟨some 4, none, .mov (.c (.int .i64 0))⟩])
   (.seq (.seq (.region [⟨some 5, none, .mov (.t 0)⟩,
    ⟨some 6, none, .bin .lss (.t 5) (.c (.int .i64 0))⟩,
    ⟨some 7, none, .mov (.t 6)⟩,
    ⟨some 8, some (2, false), .mov (.t 0)⟩,
    ⟨some 9, some (2, false), .bin .gtr (.t 8) (.c (.int .i64 1))⟩,
    ⟨some 10, none, .pick (.t 7) (.c (.bool true)) (.t 9)⟩,
    ⟨some 11, none, .mov (.t 10)⟩,
    ⟨some 12, some (6, false), .mov (.t 1)⟩,
    ⟨some 13, some (6, false), .bin .lss (.t 12) (.c (.int .i64 0))⟩,
    ⟨some 14, none, .pick (.t 11) (.c (.bool true)) (.t 13)⟩,
    ⟨some 15, none, .mov (.t 14)⟩,
    ⟨some 16, some (10, false), .mov (.t 1)⟩,
    ⟨some 17, some (10, false), .bin .gtr (.t 16) (.c (.int .i64 1))⟩,
    ⟨some 18, none, .pick (.t 15) (.c (.bool true)) (.t 17)⟩])
   (.cond (.t 18) (.seq (.region [⟨some 4, none, .mov (.c (.int .i64 (-1)))⟩])
   (.ret)) (.skip)))
   (.seq (.seq (.region [⟨some 19, none, .mov (.t 0)⟩,
    ⟨some 20, none, .bin .eql (.t 19) (.c (.int .i64 1))⟩])
   (.cond (.t 20) (.seq (.region [⟨some 4, none, .mov (.c (.int .i64 4))⟩])
   (.ret)) (.skip)))
   (.seq (.region [⟨some 21, none, .mov (.t 1)⟩,
    ⟨some 22, none, .bin .add (.c (.int .i64 4)) (.t 21)⟩,
    ⟨some 4, none, .mov (.t 22)⟩])
   (.ret))))⟩
def ir47 : IFunc := ⟨23, [.tmp 4],
  .seq (.region [⟨some 4, none, .mov (.c (.int .i64 0))⟩])
   (.seq (.seq (.region [⟨some 6, none, .mov (.t 0)⟩,
    ⟨some 7, none, .bin .lss (.t 6) (.c (.int .i64 1))⟩,
    ⟨some 8, none, .mov (.t 7)⟩,
    ⟨some 9, some (2, false), .mov (.t 0)⟩,
    ⟨some 10, some (2, false), .bin .gtr (.t 9) (.c (.int .i64 3))⟩,
    ⟨some 11, none, .pick (.t 8) (.c (.bool true)) (.t 10)⟩])
   (.cond (.t 11) (.seq (.region [⟨some 4, none, .mov (.c (.int .i64 0))⟩])
   (.ret)) (.skip)))
   (.seq (.seq (.region [⟨some 5, none, .alloc [(.int .i64 0)]⟩,
    ⟨none, none, .store 1 (.t 5) (.c (.int .i64 1))⟩])
   (.block 0 (.loop (.seq (.seq (.region [⟨some 12, none, .load 1 false (.t 5)⟩,
    ⟨some 13, none, .mov (.t 0)⟩,
    ⟨some 14, none, .bin .leq (.t 12) (.t 13)⟩])
   (.cond (.t 14) (.skip) (.exit 0)))
   (.seq (.block 1 (.seq (.region [⟨some 17, none, .mov (.t 1)⟩,
    ⟨some 18, none, .mkfn 91 [(.t 5)]⟩,
    ⟨some 19, none, .call 90 [(.t 17), (.t 18)]⟩,
    ⟨some 20, none, .un .not (.t 19)⟩])
   (.cond (.t 20) (.seq (.region [⟨some 21, none, .load 1 false (.t 5)⟩,
    ⟨some 4, none, .mov (.t 21)⟩])
   (.ret)) (.skip))))
   (.seq (.seq (.region [⟨some 22, none, .load 1 false (.t 5)⟩])
   (.region [⟨some 5, none, .alloc [(.int .i64 0)]⟩,
    ⟨none, none, .store 1 (.t 5) (.t 22)⟩]))
   (.region [⟨some 15, none, .load 1 false (.t 5)⟩,
    ⟨some 16, none, .bin .add (.t 15) (.c (.int .i64 1))⟩,
    ⟨none, none, .store 1 (.t 5) (.t 16)⟩])))))))
   (.seq (.region [⟨some 4, none, .mov (.c (.int .i64 0))⟩])
   (.ret))))⟩
def ir48 : IFunc := ⟨78, [.tmp 2],
  .seq (.region [⟨some 1, none, .box 2 (.t 0)⟩,
    ⟨some 2, none, .mov (.c (.int .i64 0))⟩])
   (.seq (.seq (.region [⟨some 7, none, .faddr 0 (.t 1)⟩,
    ⟨some 8, none, .load 1 false (.t 7)⟩,
    ⟨some 9, none, .bin .lss (.t 8) (.c (.int .i64 0))⟩,
    ⟨some 10, none, .mov (.t 9)⟩,
    ⟨some 11, some (3, false), .faddr 0 (.t 1)⟩,
    ⟨some 12, some (3, false), .load 1 false (.t 11)⟩,
    ⟨some 13, some (3, false), .bin .gtr (.t 12) (.c (.int .i64 4))⟩,
    ⟨some 14, none, .pick (.t 10) (.c (.bool true)) (.t 13)⟩])
   (.cond (.t 14) (.seq (.region [⟨some 2, none, .mov (.c (.int .i64 2))⟩])
   (.ret)) (.skip)))
   (.seq (.seq (.region [⟨some 15, none, .faddr 1 (.t 1)⟩,
    ⟨some 16, none, .load 1 false (.t 15)⟩,
    ⟨some 17, none, .len (.t 16)⟩,
    ⟨some 18, none, .bin .gtr (.t 17) (.c (.int .i64 100))⟩])
   (.cond (.t 18) (.seq (.region [⟨some 2, none, .mov (.c (.int .i64 8))⟩])
   (.ret)) (.skip)))
   (.seq (.seq (.region [⟨some 19, none, .faddr 1 (.t 1)⟩,
    ⟨some 20, none, .load 1 false (.t 19)⟩,
    ⟨some 21, none, .len (.t 20)⟩,
    ⟨some 22, none, .mov (.c (.int .i64 0))⟩])
   (.block 0 (.loop (.seq (.region [⟨some 23, none, .bin .lss (.t 22) (.t 21)⟩])
   (.seq (.cond (.t 23) (.skip) (.exit 0))
   (.seq (.block 1 (.seq (.region [⟨some 24, none, .mov (.t 22)⟩,
    ⟨some 25, none, .iaddr 3 (.t 20) (.t 22)⟩,
    ⟨some 26, none, .load 3 true (.t 25)⟩,
    ⟨some 4, none, .alloc [(.int .i64 0), (.int .i64 0), (.int .i64 0)]⟩,
    ⟨some 3, none, .mov (.t 24)⟩,
    ⟨none, none, .store 3 (.t 4) (.t 26)⟩])
   (.seq (.seq (.region [⟨some 27, none, .faddr 0 (.t 4)⟩,
    ⟨some 28, none, .load 1 false (.t 27)⟩,
    ⟨some 29, none, .faddr 1 (.t 4)⟩,
    ⟨some 30, none, .load 1 false (.t 29)⟩,
    ⟨some 31, none, .call 45 [(.t 28), (.t 30)]⟩,
    ⟨some 5, none, .mov (.t 31)⟩])
   (.seq (.region [⟨some 32, none, .mov (.t 5)⟩,
    ⟨some 33, none, .bin .lss (.t 32) (.c (.int .i64 0))⟩,
    ⟨some 34, none, .mov (.t 33)⟩,
    ⟨some 35, some (2, false), .mov (.t 5)⟩,
    ⟨some 36, some (2, false), .faddr 0 (.t 1)⟩,
    ⟨some 37, some (2, false), .load 1 false (.t 36)⟩,
    ⟨some 38, some (2, false), .bin .geq (.t 35) (.t 37)⟩,
    ⟨some 39, none, .pick (.t 34) (.c (.bool true)) (.t 38)⟩,
    ⟨some 40, none, .mov (.t 39)⟩,
    ⟨some 41, some (8, false), .faddr 2 (.t 4)⟩,
    ⟨some 42, some (8, false), .load 1 false (.t 41)⟩,
    ⟨some 43, some (8, false), .bin .lss (.t 42) (.c (.int .i64 1))⟩,
    ⟨some 44, none, .pick (.t 40) (.c (.bool true)) (.t 43)⟩,
    ⟨some 45, none, .mov (.t 44)⟩,
    ⟨some 46, some (13, false), .faddr 2 (.t 4)⟩,
    ⟨some 47, some (13, false), .load 1 false (.t 46)⟩,
    ⟨some 48, some (13, false), .bin .gtr (.t 47) (.c (.int .i64 3))⟩,
    ⟨some 49, none, .pick (.t 45) (.c (.bool true)) (.t 48)⟩])
   (.cond (.t 49) (.seq (.region [⟨some 2, none, .mov (.c (.int .i64 2))⟩])
   (.ret)) (.skip))))
   (.seq (.seq (.region [⟨some 50, none, .mov (.t 3)⟩,
    ⟨some 51, none, .bin .eql (.t 50) (.c (.int .i64 0))⟩])
   (.cond (.t 51) (.exit 1) (.skip)))
   (.seq (.region [⟨some 52, none, .faddr 1 (.t 1)⟩,
    ⟨some 53, none, .load 1 false (.t 52)⟩,
    ⟨some 54, none, .mov (.t 3)⟩,
    ⟨some 55, none, .bin .sub (.t 54) (.c (.int .i64 1))⟩,
    ⟨some 56, none, .iaddr 3 (.t 53) (.t 55)⟩,
    ⟨some 57, none, .load 3 true (.t 56)⟩,
    ⟨some 6, none, .alloc [(.int .i64 0), (.int .i64 0), (.int .i64 0)]⟩,
    ⟨none, none, .store 3 (.t 6) (.t 57)⟩])
   (.seq (.region [⟨some 58, none, .faddr 0 (.t 4)⟩,
    ⟨some 59, none, .load 1 false (.t 58)⟩,
    ⟨some 60, none, .faddr 0 (.t 6)⟩,
    ⟨some 61, none, .load 1 false (.t 60)⟩,
    ⟨some 62, none, .bin .lss (.t 59) (.t 61)⟩,
    ⟨some 63, none, .mov (.t 62)⟩,
    ⟨some 64, some (5, false), .faddr 0 (.t 4)⟩,
    ⟨some 65, some (5, false), .load 1 false (.t 64)⟩,
    ⟨some 66, some (5, false), .faddr 0 (.t 6)⟩,
    ⟨some 67, some (5, false), .load 1 false (.t 66)⟩,
    ⟨some 68, some (5, false), .bin .eql (.t 65) (.t 67)⟩,
    ⟨some 69, some (5, false), .mov (.t 68)⟩,
    ⟨some 70, some (11, true), .faddr 1 (.t 4)⟩,
    ⟨some 71, some (11, true), .load 1 false (.t 70)⟩,
    ⟨some 72, some (11, true), .faddr 1 (.t 6)⟩,
    ⟨some 73, some (11, true), .load 1 false (.t 72)⟩,
    ⟨some 74, some (11, true), .bin .leq (.t 71) (.t 73)⟩,
    ⟨some 75, some (5, false), .pick (.t 69) (.t 74) (.c (.bool false))⟩,
    ⟨some 76, none, .pick (.t 63) (.c (.bool true)) (.t 75)⟩])
   (.cond (.t 76) (.seq (.region [⟨some 2, none, .mov (.c (.int .i64 9))⟩])
   (.ret)) (.skip))))))))
   (.region [⟨some 77, none, .bin .add (.t 22) (.c (.int .i64 1))⟩,
    ⟨some 22, none, .mov (.t 77)⟩])))))))
   (.seq (.region [⟨some 2, none, .mov (.c (.int .i64 0))⟩])
   (.ret)))))⟩
def ir49 : IFunc := ⟨68, [],
  .seq (.seq (.region [⟨some 13, none, .faddr 3 (.t 2)⟩,
    ⟨some 14, none, .load 1 false (.t 13)⟩,
    ⟨some 15, none, .len (.t 14)⟩,
    ⟨some 16, none, .bin .gtr (.t 15) (.c (.int .i64 64))⟩])
   (.cond (.t 16) (.ret) (.skip)))
   (.seq (.seq (.region [⟨some 17, none, .mov (.t 1)⟩,
    ⟨some 18, none, .len (.t 17)⟩,
    ⟨some 19, none, .faddr 0 (.t 3)⟩,
    ⟨some 20, none, .load 1 false (.t 19)⟩,
    ⟨some 21, none, .bin .eql (.t 18) (.t 20)⟩])
   (.cond (.t 21) (.seq (.region [⟨some 23, none, .load 2 true (.t 3)⟩,
    ⟨some 24, none, .mov (.t 0)⟩,
    ⟨some 25, none, .mov (.t 1)⟩,
    ⟨some 26, none, .call 50 [(.t 23), (.t 24), (.t 25)]⟩,
    ⟨some 22, none, .mov (.t 26)⟩,
    ⟨some 27, none, .extract (.t 22) 0⟩,
    ⟨some 28, none, .extract (.t 22) 1⟩,
    ⟨some 7, none, .alloc [.nilsl, .nilsl]⟩,
    ⟨none, none, .store 2 (.t 7) (.t 27)⟩,
    ⟨some 8, none, .mov (.t 28)⟩])
   (.seq (.region [⟨some 29, none, .faddr 3 (.t 2)⟩,
    ⟨some 30, none, .load 1 false (.t 29)⟩,
    ⟨some 31, none, .load 2 true (.t 7)⟩,
    ⟨some 32, none, .tlit 1 2 [.nilsl, .nilsl] [(0, 2, (.t 31))]⟩,
    ⟨some 33, none, .append 2 48 (.t 30) (.t 32)⟩,
    ⟨some 34, none, .faddr 3 (.t 2)⟩,
    ⟨none, none, .store 1 (.t 34) (.t 33)⟩])
   (.ret))) (.skip)))
   (.seq (.draw [⟨some 36, none, .load 2 true (.t 3)⟩,
    ⟨some 37, none, .mov (.t 0)⟩,
    ⟨some 38, none, .mov (.t 1)⟩,
    ⟨some 39, none, .call 51 [(.t 38)]⟩,
    ⟨some 40, none, .tlit 1 1 [(.int .i64 0)] [(0, 1, (.c (.int .i64 0)))]⟩,
    ⟨some 41, none, .append 1 8 (.t 39) (.t 40)⟩,
    ⟨some 42, none, .call 50 [(.t 36), (.t 37), (.t 41)]⟩,
    ⟨some 35, none, .mov (.t 42)⟩,
    ⟨some 43, none, .extract (.t 35) 0⟩,
    ⟨some 44, none, .extract (.t 35) 1⟩,
    ⟨some 9, none, .alloc [.nilsl, .nilsl]⟩,
    ⟨none, none, .store 2 (.t 9) (.t 43)⟩,
    ⟨some 10, none, .mov (.t 44)⟩] [0, 1, 2, 3, 4, 5, 6, 7, 8, 9, 10, 11, 12] [(0, 3), (0, 5), (0, 10), (3, 10), (5, 10), (6, 10)])
   (.seq (.region [⟨some 45, none, .rlit 4 1 [(.int .i64 0)] [(0, 1, (.c (.int .i64 0))), (1, 1, (.c (.int .i64 2))), (2, 1, (.c (.int .i64 1))), (3, 1, (.c (.int .i64 3)))]⟩,
    ⟨some 46, none, .len (.t 45)⟩,
    ⟨some 47, none, .mov (.c (.int .i64 0))⟩])
   (.block 0 (.loop (.seq (.region [⟨some 48, none, .bin .lss (.t 47) (.t 46)⟩])
   (.seq (.cond (.t 48) (.skip) (.exit 0))
   (.seq (.block 1 (.seq (.region [⟨some 49, none, .iaddr 1 (.t 45) (.t 47)⟩,
    ⟨some 50, none, .load 1 false (.t 49)⟩,
    ⟨some 12, none, .mov (.t 50)⟩])
   (.seq (.region [⟨some 51, none, .mov (.t 12)⟩,
    ⟨some 52, none, .mov (.t 10)⟩,
    ⟨some 53, none, .mov (.t 1)⟩,
    ⟨some 54, none, .len (.t 53)⟩,
    ⟨some 55, none, .iaddr 1 (.t 52) (.t 54)⟩,
    ⟨some 56, none, .load 1 false (.t 55)⟩,
    ⟨some 57, none, .bin .andNot (.t 51) (.t 56)⟩,
    ⟨some 58, none, .bin .eql (.t 57) (.c (.int .i64 0))⟩])
   (.cond (.t 58) (.draw [⟨some 59, none, .load 1 false (.t 4)⟩,
    ⟨some 60, none, .mov (.t 0)⟩,
    ⟨some 61, none, .mov (.t 1)⟩,
    ⟨some 62, none, .call 51 [(.t 61)]⟩,
    ⟨some 63, none, .mov (.t 12)⟩,
    ⟨some 64, none, .tlit 1 1 [(.int .i64 0)] [(0, 1, (.t 63))]⟩,
    ⟨some 65, none, .append 1 8 (.t 62) (.t 64)⟩,
    ⟨some 66, none, .dyn (.t 59) [(.t 60), (.t 65)]⟩] [0, 1, 2, 3, 4, 5, 6, 7] [(0, 3), (0, 6)]) (.skip)))))
   (.region [⟨some 67, none, .bin .add (.t 47) (.c (.int .i64 1))⟩,
    ⟨some 47, none, .mov (.t 67)⟩])))))))))⟩
def ir50 : IFunc := ⟨92, [.cell 6 2 true, .tmp 7],
  .seq (.region [⟨some 3, none, .box 2 (.t 0)⟩,
    ⟨some 6, none, .alloc [.nilsl, .nilsl]⟩,
    ⟨some 7, none, .mov (.c .nilsl)⟩])
   (.seq (.region [⟨some 17, none, .mov (.t 1)⟩,
    ⟨some 18, none, .call 46 [(.c (.int .i64 0)), (.t 17)]⟩,
    ⟨some 19, none, .mov (.t 1)⟩,
    ⟨some 20, none, .call 46 [(.c (.int .i64 1)), (.t 19)]⟩,
    ⟨some 21, none, .build [(.int .i64 0), (.int .i64 0)] [(0, 1, (.t 18)), (1, 1, (.t 20))]⟩,
    ⟨some 8, none, .alloc [(.int .i64 0), (.int .i64 0)]⟩,
    ⟨none, none, .store 2 (.t 8) (.t 21)⟩])
   (.seq (.region [⟨some 22, none, .slarr 2 1 (.t 8) none none⟩,
    ⟨some 23, none, .rlit 1 1 [.nilsl] [(0, 1, (.t 22))]⟩,
    ⟨some 24, none, .mov (.t 1)⟩,
    ⟨some 25, none, .conv .u64 (.t 24)⟩,
    ⟨some 26, none, .rlit 1 1 [(.int .u64 0)] [(0, 1, (.t 25))]⟩,
    ⟨some 27, none, .build [.nilsl, .nilsl] [(0, 1, (.t 23)), (1, 1, (.t 26))]⟩,
    ⟨some 9, none, .alloc [.nilsl, .nilsl]⟩,
    ⟨none, none, .store 2 (.t 9) (.t 27)⟩])
   (.seq (.draw [⟨some 28, none, .faddr 0 (.t 9)⟩,
    ⟨some 29, none, .load 1 false (.t 28)⟩,
    ⟨some 30, none, .slarr 2 1 (.t 8) none none⟩,
    ⟨some 31, none, .call 51 [(.t 30)]⟩,
    ⟨some 32, none, .iaddr 1 (.t 29) (.c (.int .i64 0))⟩,
    ⟨none, none, .store 1 (.t 32) (.t 31)⟩] [0, 1, 2, 3, 4, 5] [(1, 3)])
   (.seq (.region [⟨some 10, none, .mov (.c .nilsl)⟩])
   (.seq (.seq (.region [⟨some 33, none, .mov (.t 2)⟩,
    ⟨some 34, none, .len (.t 33)⟩,
    ⟨some 35, none, .mov (.c (.int .i64 0))⟩])
   (.block 0 (.loop (.seq (.region [⟨some 36, none, .bin .lss (.t 35) (.t 34)⟩])
   (.seq (.cond (.t 36) (.skip) (.exit 0))
   (.seq (.block 1 (.seq (.region [⟨some 37, none, .iaddr 1 (.t 33) (.t 35)⟩,
    ⟨some 38, none, .load 1 false (.t 37)⟩,
    ⟨some 12, none, .mov (.t 38)⟩])
   (.seq (.region [⟨some 39, none, .load 2 true (.t 8)⟩,
    ⟨some 13, none, .alloc [(.int .i64 0), (.int .i64 0)]⟩,
    ⟨none, none, .store 2 (.t 13) (.t 39)⟩,
    ⟨some 14, none, .mov (.c (.int .i64 0))⟩])
   (.seq (.seq (.region [⟨some 40, none, .mov (.c (.int .i64 0))⟩])
   (.block 2 (.loop (.seq (.region [⟨some 41, none, .bin .lss (.t 40) (.c (.int .i64 2))⟩])
   (.seq (.cond (.t 41) (.skip) (.exit 2))
   (.seq (.block 3 (.seq (.region [⟨some 42, none, .mov (.t 40)⟩,
    ⟨some 15, none, .mov (.t 42)⟩])
   (.seq (.draw [⟨some 43, none, .load 2 true (.t 3)⟩,
    ⟨some 44, none, .mov (.t 15)⟩,
    ⟨some 45, none, .mov (.t 15)⟩,
    ⟨some 46, none, .iarr 2 1 (.t 8) (.t 45)⟩,
    ⟨some 47, none, .load 1 false (.t 46)⟩,
    ⟨some 48, none, .call 92 [(.t 43), (.t 44), (.t 47)]⟩,
    ⟨some 16, none, .mov (.t 48)⟩] [0, 1, 2, 3, 4, 5, 6] [])
   (.seq (.seq (.region [⟨some 49, none, .mov (.t 16)⟩,
    ⟨some 50, none, .bin .gtr (.t 49) (.c (.int .i64 0))⟩])
   (.cond (.t 50) (.region [⟨some 51, none, .mov (.t 14)⟩,
    ⟨some 52, none, .mov (.t 15)⟩,
    ⟨some 53, none, .bin .shl (.c (.int .i64 1)) (.t 52)⟩,
    ⟨some 54, none, .bin .or (.t 51) (.t 53)⟩,
    ⟨some 14, none, .mov (.t 54)⟩]) (.skip)))
   (.seq (.seq (.region [⟨some 55, none, .mov (.t 12)⟩,
    ⟨some 56, none, .mov (.t 15)⟩,
    ⟨some 57, none, .bin .shr (.t 55) (.t 56)⟩,
    ⟨some 58, none, .bin .and (.t 57) (.c (.int .i64 1))⟩,
    ⟨some 59, none, .bin .eql (.t 58) (.c (.int .i64 1))⟩])
   (.cond (.t 59) (.region [⟨some 16, none, .mov (.c (.int .i64 0))⟩]) (.skip)))
   (.region [⟨some 60, none, .mov (.t 15)⟩,
    ⟨some 61, none, .bin .sub (.c (.int .i64 1)) (.t 60)⟩,
    ⟨some 62, none, .mov (.t 15)⟩,
    ⟨some 63, none, .bin .sub (.c (.int .i64 1)) (.t 62)⟩,
    ⟨some 64, none, .iarr 2 1 (.t 8) (.t 63)⟩,
    ⟨some 65, none, .load 1 false (.t 64)⟩,
    ⟨some 66, none, .mov (.t 16)⟩,
    ⟨some 67, none, .call 44 [(.t 65), (.t 66)]⟩,
    ⟨some 68, none, .iarr 2 1 (.t 13) (.t 61)⟩,
    ⟨none, none, .store 1 (.t 68) (.t 67)⟩]))))))
   (.region [⟨some 69, none, .bin .add (.t 40) (.c (.int .i64 1))⟩,
    ⟨some 40, none, .mov (.t 69)⟩])))))))
   (.seq (.region [⟨some 70, none, .load 2 true (.t 13)⟩,
    ⟨none, none, .store 2 (.t 8) (.t 70)⟩])
   (.seq (.region [⟨some 71, none, .mov (.t 10)⟩,
    ⟨some 72, none, .mov (.t 14)⟩,
    ⟨some 73, none, .tlit 1 1 [(.int .i64 0)] [(0, 1, (.t 72))]⟩,
    ⟨some 74, none, .append 1 8 (.t 71) (.t 73)⟩,
    ⟨some 10, none, .mov (.t 74)⟩])
   (.seq (.draw [⟨some 75, none, .faddr 0 (.t 9)⟩,
    ⟨some 76, none, .load 1 false (.t 75)⟩,
    ⟨some 77, none, .slarr 2 1 (.t 8) none none⟩,
    ⟨some 78, none, .call 51 [(.t 77)]⟩,
    ⟨some 79, none, .tlit 1 1 [.nilsl] [(0, 1, (.t 78))]⟩,
    ⟨some 80, none, .append 1 24 (.t 76) (.t 79)⟩,
    ⟨some 81, none, .faddr 0 (.t 9)⟩,
    ⟨none, none, .store 1 (.t 81) (.t 80)⟩] [0, 1, 2, 3, 4, 5, 6, 7] [(1, 3)])
   (.region [⟨some 82, none, .faddr 1 (.t 9)⟩,
    ⟨some 83, none, .load 1 false (.t 82)⟩,
    ⟨some 84, none, .mov (.t 1)⟩,
    ⟨some 85, none, .conv .u64 (.t 84)⟩,
    ⟨some 86, none, .tlit 1 1 [(.int .u64 0)] [(0, 1, (.t 85))]⟩,
    ⟨some 87, none, .append 1 8 (.t 83) (.t 86)⟩,
    ⟨some 88, none, .faddr 1 (.t 9)⟩,
    ⟨none, none, .store 1 (.t 88) (.t 87)⟩]))))))))
   (.region [⟨some 89, none, .bin .add (.t 35) (.c (.int .i64 1))⟩,
    ⟨some 35, none, .mov (.t 89)⟩])))))))
   (.seq (.region [⟨some 90, none, .load 2 true (.t 9)⟩,
    ⟨some 91, none, .mov (.t 10)⟩,
    ⟨none, none, .store 2 (.t 6) (.t 90)⟩,
    ⟨some 7, none, .mov (.t 91)⟩])
   (.ret)))))))⟩
def ir51 : IFunc := ⟨8, [.tmp 2],
  .seq (.region [⟨some 2, none, .mov (.c .nilsl)⟩])
   (.seq (.seq (.region [⟨some 3, none, .mov (.t 0)⟩,
    ⟨some 4, none, .eqn 0 false (.t 3)⟩])
   (.cond (.t 4) (.seq (.region [⟨some 2, none, .mov (.c .nilsl)⟩])
   (.ret)) (.skip)))
   (.seq (.region [⟨some 5, none, .rlit 0 1 [(.int .i64 0)] []⟩,
    ⟨some 6, none, .mov (.t 0)⟩,
    ⟨some 7, none, .append 1 8 (.t 5) (.t 6)⟩,
    ⟨some 2, none, .mov (.t 7)⟩])
   (.ret)))⟩
def ir86 : IFunc := ⟨19, [.tmp 4],
  .seq (.region [⟨some 4, none, .mov (.c (.bool false))⟩])
   (.seq (.region [⟨some 5, none, .mov (.t 0)⟩,
    ⟨some 6, none, .bin .geq (.t 5) (.c (.int .i64 2))⟩,
    ⟨some 7, none, .mov (.t 6)⟩,
    ⟨some 8, some (2, true), .mov (.t 0)⟩,
    ⟨some 9, some (2, true), .bin .leq (.t 8) (.c (.int .i64 4))⟩,
    ⟨some 10, none, .pick (.t 7) (.t 9) (.c (.bool false))⟩,
    ⟨some 11, none, .mov (.t 10)⟩,
    ⟨some 12, some (6, true), .mov (.t 1)⟩,
    ⟨some 13, some (6, true), .bin .geq (.t 12) (.c (.int .i64 0))⟩,
    ⟨some 14, none, .pick (.t 11) (.t 13) (.c (.bool false))⟩,
    ⟨some 15, none, .mov (.t 14)⟩,
    ⟨some 16, some (10, true), .mov (.t 1)⟩,
    ⟨some 17, some (10, true), .bin .leq (.t 16) (.c (.int .i64 3))⟩,
    ⟨some 18, none, .pick (.t 15) (.t 17) (.c (.bool false))⟩,
    ⟨some 4, none, .mov (.t 18)⟩])
   (.ret))⟩
def ir87 : IFunc := ⟨179, [.cell 8 2 true],
  .seq (.region [⟨some 7, none, .box 1 (.t 3)⟩,
    ⟨some 8, none, .alloc [.nilsl, .nilsl]⟩])
   (.seq (.region [⟨some 9, none, .mov (.c (.int .i64 1))⟩])
   (.seq (.seq (.region [⟨some 25, none, .mov (.t 0)⟩,
    ⟨some 26, none, .mov (.c (.int .i64 0))⟩])
   (.block 0 (.loop (.seq (.region [⟨some 27, none, .bin .lss (.t 26) (.t 25)⟩])
   (.seq (.cond (.t 27) (.skip) (.exit 0))
   (.seq (.block 1 (.region [⟨some 28, none, .mov (.t 9)⟩,
    ⟨some 29, none, .bin .mul (.t 28) (.c (.int .i64 3))⟩,
    ⟨some 9, none, .mov (.t 29)⟩]))
   (.region [⟨some 30, none, .bin .add (.t 26) (.c (.int .i64 1))⟩,
    ⟨some 26, none, .mov (.t 30)⟩])))))))
   (.seq (.region [⟨some 31, none, .mov (.t 0)⟩,
    ⟨some 32, none, .mslice 1 8 [(.int .i64 0)] (.t 31) (.t 31)⟩,
    ⟨some 10, none, .mov (.t 32)⟩])
   (.seq (.seq (.region [⟨some 33, none, .mov (.t 10)⟩,
    ⟨some 34, none, .len (.t 33)⟩,
    ⟨some 35, none, .mov (.c (.int .i64 0))⟩])
   (.block 2 (.loop (.seq (.region [⟨some 36, none, .bin .lss (.t 35) (.t 34)⟩])
   (.seq (.cond (.t 36) (.skip) (.exit 2))
   (.seq (.block 3 (.seq (.region [⟨some 37, none, .mov (.t 35)⟩,
    ⟨some 11, none, .mov (.t 37)⟩])
   (.region [⟨some 38, none, .mov (.t 10)⟩,
    ⟨some 39, none, .mov (.t 11)⟩,
    ⟨some 40, none, .mov (.t 11)⟩,
    ⟨some 41, none, .bin .shl (.c (.int .i64 1)) (.t 40)⟩,
    ⟨some 42, none, .iaddr 1 (.t 38) (.t 39)⟩,
    ⟨none, none, .store 1 (.t 42) (.t 41)⟩])))
   (.region [⟨some 43, none, .bin .add (.t 35) (.c (.int .i64 1))⟩,
    ⟨some 35, none, .mov (.t 43)⟩])))))))
   (.seq (.region [⟨some 44, none, .mkfn 124 [(.t 7)]⟩,
    ⟨some 12, none, .mov (.t 44)⟩])
   (.seq (.region [⟨some 13, none, .alloc [.nilsl, .nilsl]⟩])
   (.seq (.seq (.region [⟨some 45, none, .mov (.t 1)⟩,
    ⟨some 46, none, .bin .add (.t 45) (.c (.int .i64 1))⟩,
    ⟨some 47, none, .mov (.c (.int .i64 0))⟩])
   (.block 4 (.loop (.seq (.region [⟨some 48, none, .bin .lss (.t 47) (.t 46)⟩])
   (.seq (.cond (.t 48) (.skip) (.exit 4))
   (.seq (.block 5 (.seq (.region [⟨some 49, none, .mov (.t 47)⟩,
    ⟨some 14, none, .mov (.t 49)⟩])
   (.seq (.seq (.region [⟨some 50, none, .mov (.t 14)⟩,
    ⟨some 51, none, .bin .gtr (.t 50) (.c (.int .i64 0))⟩])
   (.cond (.t 51) (.seq (.region [⟨some 52, none, .mov (.t 10)⟩,
    ⟨some 53, none, .call 51 [(.t 52)]⟩,
    ⟨some 15, none, .mov (.t 53)⟩])
   (.seq (.seq (.region [⟨some 54, none, .mov (.t 0)⟩,
    ⟨some 55, none, .mov (.c (.int .i64 0))⟩])
   (.block 6 (.loop (.seq (.region [⟨some 56, none, .bin .lss (.t 55) (.t 54)⟩])
   (.seq (.cond (.t 56) (.skip) (.exit 6))
   (.seq (.block 7 (.seq (.region [⟨some 57, none, .mov (.t 55)⟩,
    ⟨some 16, none, .mov (.t 57)⟩])
   (.seq (.region [⟨some 58, none, .mov (.t 0)⟩,
    ⟨some 59, none, .mov (.c (.int .i64 0))⟩])
   (.block 8 (.loop (.seq (.region [⟨some 60, none, .bin .lss (.t 59) (.t 58)⟩])
   (.seq (.cond (.t 60) (.skip) (.exit 8))
   (.seq (.block 9 (.seq (.region [⟨some 61, none, .mov (.t 59)⟩,
    ⟨some 17, none, .mov (.t 61)⟩])
   (.seq (.region [⟨some 62, none, .mov (.t 12)⟩,
    ⟨some 63, none, .mov (.t 16)⟩,
    ⟨some 64, none, .mov (.t 14)⟩,
    ⟨some 65, none, .dyn (.t 62) [(.t 63), (.t 64)]⟩,
    ⟨some 66, none, .un .not (.t 65)⟩,
    ⟨some 67, none, .mov (.t 66)⟩,
    ⟨some 68, some (5, false), .load 1 false (.t 7)⟩,
    ⟨some 69, some (5, false), .mov (.t 16)⟩,
    ⟨some 70, some (5, false), .iaddr 2 (.t 68) (.t 69)⟩,
    ⟨some 71, some (5, false), .faddr 0 (.t 70)⟩,
    ⟨some 72, some (5, false), .load 1 false (.t 71)⟩,
    ⟨some 73, some (5, false), .mov (.t 14)⟩,
    ⟨some 74, some (5, false), .bin .eql (.t 72) (.t 73)⟩,
    ⟨some 75, some (5, false), .mov (.t 74)⟩,
    ⟨some 76, some (13, true), .load 1 false (.t 7)⟩,
    ⟨some 77, some (13, true), .mov (.t 16)⟩,
    ⟨some 78, some (13, true), .iaddr 2 (.t 76) (.t 77)⟩,
    ⟨some 79, some (13, true), .faddr 1 (.t 78)⟩,
    ⟨some 80, some (13, true), .load 1 false (.t 79)⟩,
    ⟨some 81, some (13, true), .mov (.t 17)⟩,
    ⟨some 82, some (13, true), .bin .shr (.t 80) (.t 81)⟩,
    ⟨some 83, some (13, true), .bin .and (.t 82) (.c (.int .i64 1))⟩,
    ⟨some 84, some (13, true), .bin .eql (.t 83) (.c (.int .i64 1))⟩,
    ⟨some 85, some (5, false), .pick (.t 75) (.t 84) (.c (.bool false))⟩,
    ⟨some 86, none, .pick (.t 67) (.c (.bool true)) (.t 85)⟩,
    ⟨some 18, none, .mov (.t 86)⟩])
   (.seq (.region [⟨some 87, none, .mov (.t 16)⟩,
    ⟨some 88, none, .mov (.t 17)⟩,
    ⟨some 89, none, .bin .neq (.t 87) (.t 88)⟩,
    ⟨some 90, none, .mov (.t 89)⟩,
    ⟨some 91, some (3, true), .mov (.t 18)⟩,
    ⟨some 92, none, .pick (.t 90) (.t 91) (.c (.bool false))⟩,
    ⟨some 93, none, .mov (.t 92)⟩,
    ⟨some 94, some (6, true), .mov (.t 12)⟩,
    ⟨some 95, some (6, true), .mov (.t 17)⟩,
    ⟨some 96, some (6, true), .mov (.t 14)⟩,
    ⟨some 97, some (6, true), .dyn (.t 94) [(.t 95), (.t 96)]⟩,
    ⟨some 98, some (6, true), .un .not (.t 97)⟩,
    ⟨some 99, none, .pick (.t 93) (.t 98) (.c (.bool false))⟩])
   (.cond (.t 99) (.draw [⟨some 100, none, .mov (.t 15)⟩,
    ⟨some 101, none, .mov (.t 17)⟩,
    ⟨some 102, none, .iaddr 1 (.t 100) (.t 101)⟩,
    ⟨some 103, none, .load 1 false (.t 102)⟩,
    ⟨some 104, none, .mov (.t 10)⟩,
    ⟨some 105, none, .mov (.t 16)⟩,
    ⟨some 106, none, .iaddr 1 (.t 104) (.t 105)⟩,
    ⟨some 107, none, .load 1 false (.t 106)⟩,
    ⟨some 108, none, .bin .or (.t 103) (.t 107)⟩,
    ⟨some 109, none, .iaddr 1 (.t 100) (.t 101)⟩,
    ⟨none, none, .store 1 (.t 109) (.t 108)⟩] [0, 1, 2, 3, 4, 5, 6, 7, 8, 9, 10] []) (.skip))))))
   (.region [⟨some 110, none, .bin .add (.t 59) (.c (.int .i64 1))⟩,
    ⟨some 59, none, .mov (.t 110)⟩])))))))))
   (.region [⟨some 111, none, .bin .add (.t 55) (.c (.int .i64 1))⟩,
    ⟨some 55, none, .mov (.t 111)⟩])))))))
   (.region [⟨some 112, none, .mov (.t 15)⟩,
    ⟨some 10, none, .mov (.t 112)⟩]))) (.skip)))
   (.seq (.region [⟨some 19, none, .mov (.c .nilsl)⟩])
   (.seq (.region [⟨some 113, none, .mov (.t 2)⟩,
    ⟨some 114, none, .conv .u64 (.t 113)⟩,
    ⟨some 20, none, .mov (.t 114)⟩])
   (.seq (.seq (.region [⟨some 115, none, .mov (.t 0)⟩,
    ⟨some 116, none, .mov (.c (.int .i64 0))⟩])
   (.block 10 (.loop (.seq (.region [⟨some 117, none, .bin .lss (.t 116) (.t 115)⟩])
   (.seq (.cond (.t 117) (.skip) (.exit 10))
   (.seq (.block 11 (.seq (.region [⟨some 118, none, .mov (.t 116)⟩,
    ⟨some 21, none, .mov (.t 118)⟩])
   (.seq (.seq (.region [⟨some 119, none, .mov (.t 12)⟩,
    ⟨some 120, none, .mov (.t 21)⟩,
    ⟨some 121, none, .mov (.t 14)⟩,
    ⟨some 122, none, .dyn (.t 119) [(.t 120), (.t 121)]⟩])
   (.cond (.t 122) (.seq (.region [⟨some 123, none, .mov (.t 19)⟩,
    ⟨some 124, none, .tlit 1 1 [(.int .i64 0)] [(0, 1, (.c (.int .i64 0)))]⟩,
    ⟨some 125, none, .append 1 8 (.t 123) (.t 124)⟩,
    ⟨some 19, none, .mov (.t 125)⟩])
   (.exit 11)) (.skip)))
   (.seq (.region [⟨some 126, none, .mov (.t 20)⟩,
    ⟨some 127, none, .mov (.t 0)⟩,
    ⟨some 128, none, .mov (.t 21)⟩,
    ⟨some 129, none, .bin .add (.t 127) (.t 128)⟩,
    ⟨some 130, none, .bin .shl (.c (.int .u64 1)) (.t 129)⟩,
    ⟨some 131, none, .bin .or (.t 126) (.t 130)⟩,
    ⟨some 20, none, .mov (.t 131)⟩])
   (.seq (.region [⟨some 132, none, .mov (.t 14)⟩,
    ⟨some 133, none, .mov (.t 9)⟩,
    ⟨some 134, none, .bin .mul (.t 132) (.t 133)⟩,
    ⟨some 135, none, .bin .add (.c (.int .i64 1)) (.t 134)⟩,
    ⟨some 22, none, .mov (.t 135)⟩,
    ⟨some 23, none, .mov (.c (.int .i64 1))⟩])
   (.seq (.seq (.region [⟨some 136, none, .mov (.t 0)⟩,
    ⟨some 137, none, .mov (.c (.int .i64 0))⟩])
   (.block 12 (.loop (.seq (.region [⟨some 138, none, .bin .lss (.t 137) (.t 136)⟩])
   (.seq (.cond (.t 138) (.skip) (.exit 12))
   (.seq (.block 13 (.seq (.region [⟨some 139, none, .mov (.t 137)⟩,
    ⟨some 24, none, .mov (.t 139)⟩])
   (.seq (.seq (.region [⟨some 140, none, .mov (.t 10)⟩,
    ⟨some 141, none, .mov (.t 21)⟩,
    ⟨some 142, none, .iaddr 1 (.t 140) (.t 141)⟩,
    ⟨some 143, none, .load 1 false (.t 142)⟩,
    ⟨some 144, none, .mov (.t 24)⟩,
    ⟨some 145, none, .bin .shr (.t 143) (.t 144)⟩,
    ⟨some 146, none, .bin .and (.t 145) (.c (.int .i64 1))⟩,
    ⟨some 147, none, .bin .eql (.t 146) (.c (.int .i64 1))⟩])
   (.cond (.t 147) (.region [⟨some 148, none, .mov (.t 22)⟩,
    ⟨some 149, none, .mov (.t 23)⟩,
    ⟨some 150, none, .mov (.t 2)⟩,
    ⟨some 151, none, .mov (.t 24)⟩,
    ⟨some 152, none, .bin .shr (.t 150) (.t 151)⟩,
    ⟨some 153, none, .bin .and (.t 152) (.c (.int .i64 1))⟩,
    ⟨some 154, none, .bin .add (.c (.int .i64 1)) (.t 153)⟩,
    ⟨some 155, none, .bin .mul (.t 149) (.t 154)⟩,
    ⟨some 156, none, .bin .add (.t 148) (.t 155)⟩,
    ⟨some 22, none, .mov (.t 156)⟩]) (.skip)))
   (.region [⟨some 157, none, .mov (.t 23)⟩,
    ⟨some 158, none, .bin .mul (.t 157) (.c (.int .i64 3))⟩,
    ⟨some 23, none, .mov (.t 158)⟩]))))
   (.region [⟨some 159, none, .bin .add (.t 137) (.c (.int .i64 1))⟩,
    ⟨some 137, none, .mov (.t 159)⟩])))))))
   (.region [⟨some 160, none, .mov (.t 19)⟩,
    ⟨some 161, none, .mov (.t 22)⟩,
    ⟨some 162, none, .tlit 1 1 [(.int .i64 0)] [(0, 1, (.t 161))]⟩,
    ⟨some 163, none, .append 1 8 (.t 160) (.t 162)⟩,
    ⟨some 19, none, .mov (.t 163)⟩])))))))
   (.region [⟨some 164, none, .bin .add (.t 116) (.c (.int .i64 1))⟩,
    ⟨some 116, none, .mov (.t 164)⟩])))))))
   (.seq (.region [⟨some 165, none, .faddr 0 (.t 13)⟩,
    ⟨some 166, none, .load 1 false (.t 165)⟩,
    ⟨some 167, none, .mov (.t 19)⟩,
    ⟨some 168, none, .tlit 1 1 [.nilsl] [(0, 1, (.t 167))]⟩,
    ⟨some 169, none, .append 1 24 (.t 166) (.t 168)⟩,
    ⟨some 170, none, .faddr 0 (.t 13)⟩,
    ⟨none, none, .store 1 (.t 170) (.t 169)⟩])
   (.region [⟨some 171, none, .faddr 1 (.t 13)⟩,
    ⟨some 172, none, .load 1 false (.t 171)⟩,
    ⟨some 173, none, .mov (.t 20)⟩,
    ⟨some 174, none, .tlit 1 1 [(.int .u64 0)] [(0, 1, (.t 173))]⟩,
    ⟨some 175, none, .append 1 8 (.t 172) (.t 174)⟩,
    ⟨some 176, none, .faddr 1 (.t 13)⟩,
    ⟨none, none, .store 1 (.t 176) (.t 175)⟩]))))))))
   (.region [⟨some 177, none, .bin .add (.t 47) (.c (.int .i64 1))⟩,
    ⟨some 47, none, .mov (.t 177)⟩])))))))
   (.seq (.region [⟨some 178, none, .load 2 true (.t 13)⟩,
    ⟨none, none, .store 2 (.t 8) (.t 178)⟩])
   (.ret)))))))))⟩
def ir88 : IFunc := ⟨59, [],
  .seq (.seq (.region [⟨some 10, none, .load 1 false (.t 2)⟩,
    ⟨some 11, none, .len (.t 10)⟩,
    ⟨some 12, none, .bin .gtr (.t 11) (.c (.int .i64 64))⟩])
   (.cond (.t 12) (.ret) (.skip)))
   (.seq (.seq (.region [⟨some 13, none, .mov (.t 0)⟩,
    ⟨some 14, none, .len (.t 13)⟩,
    ⟨some 15, none, .load 1 false (.t 3)⟩,
    ⟨some 16, none, .bin .eql (.t 14) (.t 15)⟩])
   (.cond (.t 16) (.seq (.region [⟨some 17, none, .load 1 false (.t 2)⟩,
    ⟨some 18, none, .mov (.t 0)⟩,
    ⟨some 19, none, .tlit 1 1 [.nilsl] [(0, 1, (.t 18))]⟩,
    ⟨some 20, none, .append 1 24 (.t 17) (.t 19)⟩,
    ⟨none, none, .store 1 (.t 2) (.t 20)⟩])
   (.ret)) (.skip)))
   (.seq (.draw [⟨some 21, none, .load 1 false (.t 4)⟩,
    ⟨some 22, none, .mov (.t 0)⟩,
    ⟨some 23, none, .call 89 [(.t 22)]⟩,
    ⟨some 24, none, .build [(.int .i64 0), (.int .i64 0)] []⟩,
    ⟨some 25, none, .tlit 1 2 [(.int .i64 0), (.int .i64 0)] [(0, 2, (.t 24))]⟩,
    ⟨some 26, none, .append 2 16 (.t 23) (.t 25)⟩,
    ⟨some 27, none, .mov (.t 1)⟩,
    ⟨some 28, none, .dyn (.t 21) [(.t 26), (.t 27)]⟩] [0, 1, 2, 3, 4, 5, 6, 7] [(0, 2), (0, 5)])
   (.seq (.seq (.region [⟨some 29, none, .mov (.t 1)⟩,
    ⟨some 30, none, .bin .eql (.t 29) (.c (.int .i64 0))⟩])
   (.cond (.t 30) (.ret) (.skip)))
   (.seq (.region [⟨some 8, none, .mov (.c (.int .i64 1))⟩])
   (.block 0 (.loop (.seq (.seq (.region [⟨some 31, none, .mov (.t 8)⟩,
    ⟨some 32, none, .load 1 false (.t 5)⟩,
    ⟨some 33, none, .bin .leq (.t 31) (.t 32)⟩])
   (.cond (.t 33) (.skip) (.exit 0)))
   (.seq (.block 1 (.seq (.region [⟨some 36, none, .load 1 false (.t 3)⟩,
    ⟨some 37, none, .bin .shl (.c (.int .i64 1)) (.t 36)⟩,
    ⟨some 38, none, .mov (.c (.int .i64 0))⟩])
   (.block 2 (.loop (.seq (.region [⟨some 39, none, .bin .lss (.t 38) (.t 37)⟩])
   (.seq (.cond (.t 39) (.skip) (.exit 2))
   (.seq (.block 3 (.seq (.region [⟨some 40, none, .mov (.t 38)⟩,
    ⟨some 9, none, .mov (.t 40)⟩])
   (.seq (.region [⟨some 41, none, .mov (.t 9)⟩,
    ⟨some 42, none, .mov (.t 0)⟩,
    ⟨some 43, none, .len (.t 42)⟩,
    ⟨some 44, none, .bin .shr (.t 41) (.t 43)⟩,
    ⟨some 45, none, .bin .and (.t 44) (.c (.int .i64 1))⟩,
    ⟨some 46, none, .bin .eql (.t 45) (.c (.int .i64 0))⟩])
   (.cond (.t 46) (.draw [⟨some 47, none, .load 1 false (.t 4)⟩,
    ⟨some 48, none, .mov (.t 0)⟩,
    ⟨some 49, none, .call 89 [(.t 48)]⟩,
    ⟨some 50, none, .mov (.t 8)⟩,
    ⟨some 51, none, .mov (.t 9)⟩,
    ⟨some 52, none, .build [(.int .i64 0), (.int .i64 0)] [(0, 1, (.t 50)), (1, 1, (.t 51))]⟩,
    ⟨some 53, none, .tlit 1 2 [(.int .i64 0), (.int .i64 0)] [(0, 2, (.t 52))]⟩,
    ⟨some 54, none, .append 2 16 (.t 49) (.t 53)⟩,
    ⟨some 55, none, .mov (.t 1)⟩,
    ⟨some 56, none, .bin .sub (.t 55) (.c (.int .i64 1))⟩,
    ⟨some 57, none, .dyn (.t 47) [(.t 54), (.t 56)]⟩] [0, 1, 2, 3, 4, 5, 6, 7, 8, 9, 10] [(0, 2), (0, 7)]) (.skip)))))
   (.region [⟨some 58, none, .bin .add (.t 38) (.c (.int .i64 1))⟩,
    ⟨some 38, none, .mov (.t 58)⟩]))))))))
   (.region [⟨some 34, none, .mov (.t 8)⟩,
    ⟨some 35, none, .bin .add (.t 34) (.c (.int .i64 1))⟩,
    ⟨some 8, none, .mov (.t 35)⟩])))))))))⟩
def ir89 : IFunc := ⟨8, [.tmp 2],
  .seq (.region [⟨some 2, none, .mov (.c .nilsl)⟩])
   (.seq (.seq (.region [⟨some 3, none, .mov (.t 0)⟩,
    ⟨some 4, none, .eqn 0 false (.t 3)⟩])
   (.cond (.t 4) (.seq (.region [⟨some 2, none, .mov (.c .nilsl)⟩])
   (.ret)) (.skip)))
   (.seq (.region [⟨some 5, none, .rlit 0 2 [(.int .i64 0), (.int .i64 0)] []⟩,
    ⟨some 6, none, .mov (.t 0)⟩,
    ⟨some 7, none, .append 2 16 (.t 5) (.t 6)⟩,
    ⟨some 2, none, .mov (.t 7)⟩])
   (.ret)))⟩
def ir90 : IFunc := ⟨9, [.tmp 4],
  .seq (.region [⟨some 4, none, .mov (.c (.bool false))⟩])
   (.seq (.region [⟨some 5, none, .mov (.t 0)⟩,
    ⟨some 6, none, .mov (.t 1)⟩,
    ⟨some 7, none, .call 125 [(.t 5), (.t 6)]⟩,
    ⟨some 8, none, .bin .geq (.t 7) (.c (.int .i64 0))⟩,
    ⟨some 4, none, .mov (.t 8)⟩])
   (.ret))⟩
def ir91 : IFunc := ⟨8, [.tmp 3],
  .seq (.region [⟨some 2, none, .box 2 (.t 0)⟩,
    ⟨some 3, none, .mov (.c (.bool false))⟩])
   (.seq (.region [⟨some 4, none, .faddr 0 (.t 2)⟩,
    ⟨some 5, none, .load 1 false (.t 4)⟩,
    ⟨some 6, none, .load 1 false (.t 1)⟩,
    ⟨some 7, none, .bin .eql (.t 5) (.t 6)⟩,
    ⟨some 3, none, .mov (.t 7)⟩])
   (.ret))⟩
def ir92 : IFunc := ⟨29, [.tmp 6],
  .seq (.region [⟨some 3, none, .box 2 (.t 0)⟩,
    ⟨some 6, none, .mov (.c (.int .i64 0))⟩])
   (.seq (.seq (.region [⟨some 9, none, .faddr 1 (.t 3)⟩,
    ⟨some 10, none, .load 1 false (.t 9)⟩,
    ⟨some 11, none, .len (.t 10)⟩,
    ⟨some 12, none, .mov (.c (.int .i64 0))⟩])
   (.block 0 (.loop (.seq (.region [⟨some 13, none, .bin .lss (.t 12) (.t 11)⟩])
   (.seq (.cond (.t 13) (.skip) (.exit 0))
   (.seq (.block 1 (.seq (.region [⟨some 14, none, .iaddr 3 (.t 10) (.t 12)⟩,
    ⟨some 15, none, .load 3 true (.t 14)⟩,
    ⟨some 8, none, .alloc [(.int .i64 0), (.int .i64 0), (.int .i64 0)]⟩,
    ⟨none, none, .store 3 (.t 8) (.t 15)⟩])
   (.seq (.region [⟨some 16, none, .faddr 0 (.t 8)⟩,
    ⟨some 17, none, .load 1 false (.t 16)⟩,
    ⟨some 18, none, .mov (.t 1)⟩,
    ⟨some 19, none, .bin .eql (.t 17) (.t 18)⟩,
    ⟨some 20, none, .mov (.t 19)⟩,
    ⟨some 21, some (4, true), .faddr 1 (.t 8)⟩,
    ⟨some 22, some (4, true), .load 1 false (.t 21)⟩,
    ⟨some 23, some (4, true), .mov (.t 2)⟩,
    ⟨some 24, some (4, true), .bin .eql (.t 22) (.t 23)⟩,
    ⟨some 25, none, .pick (.t 20) (.t 24) (.c (.bool false))⟩])
   (.cond (.t 25) (.seq (.region [⟨some 26, none, .faddr 2 (.t 8)⟩,
    ⟨some 27, none, .load 1 false (.t 26)⟩,
    ⟨some 6, none, .mov (.t 27)⟩])
   (.ret)) (.skip)))))
   (.region [⟨some 28, none, .bin .add (.t 12) (.c (.int .i64 1))⟩,
    ⟨some 12, none, .mov (.t 28)⟩])))))))
   (.seq (.region [⟨some 6, none, .mov (.c (.int .i64 0))⟩])
   (.ret)))⟩
def ir124 : IFunc := ⟨21, [.tmp 5],
  .seq (.region [⟨some 5, none, .mov (.c (.bool false))⟩])
   (.seq (.region [⟨some 6, none, .load 1 false (.t 2)⟩,
    ⟨some 7, none, .mov (.t 0)⟩,
    ⟨some 8, none, .iaddr 2 (.t 6) (.t 7)⟩,
    ⟨some 9, none, .faddr 0 (.t 8)⟩,
    ⟨some 10, none, .load 1 false (.t 9)⟩,
    ⟨some 11, none, .bin .neq (.t 10) (.c (.int .i64 0))⟩,
    ⟨some 12, none, .mov (.t 11)⟩,
    ⟨some 13, some (6, true), .load 1 false (.t 2)⟩,
    ⟨some 14, some (6, true), .mov (.t 0)⟩,
    ⟨some 15, some (6, true), .iaddr 2 (.t 13) (.t 14)⟩,
    ⟨some 16, some (6, true), .faddr 0 (.t 15)⟩,
    ⟨some 17, some (6, true), .load 1 false (.t 16)⟩,
    ⟨some 18, some (6, true), .mov (.t 1)⟩,
    ⟨some 19, some (6, true), .bin .leq (.t 17) (.t 18)⟩,
    ⟨some 20, none, .pick (.t 12) (.t 19) (.c (.bool false))⟩,
    ⟨some 5, none, .mov (.t 20)⟩])
   (.ret))⟩
def ir125 : IFunc := ⟨19, [.tmp 4],
  .seq (.region [⟨some 4, none, .mov (.c (.int .i64 0))⟩])
   (.seq (.seq (.region [⟨some 6, none, .mov (.t 0)⟩,
    ⟨some 7, none, .len (.t 6)⟩,
    ⟨some 8, none, .mov (.c (.int .i64 0))⟩])
   (.block 0 (.loop (.seq (.region [⟨some 9, none, .bin .lss (.t 8) (.t 7)⟩])
   (.seq (.cond (.t 9) (.skip) (.exit 0))
   (.seq (.block 1 (.seq (.region [⟨some 10, none, .mov (.t 8)⟩,
    ⟨some 5, none, .mov (.t 10)⟩])
   (.seq (.region [⟨some 11, none, .mov (.t 1)⟩,
    ⟨some 12, none, .mov (.t 0)⟩,
    ⟨some 13, none, .mov (.t 5)⟩,
    ⟨some 14, none, .iaddr 2 (.t 12) (.t 13)⟩,
    ⟨some 15, none, .load 2 true (.t 14)⟩,
    ⟨some 16, none, .dyn (.t 11) [(.t 15)]⟩])
   (.cond (.t 16) (.seq (.region [⟨some 17, none, .mov (.t 5)⟩,
    ⟨some 4, none, .mov (.t 17)⟩])
   (.ret)) (.skip)))))
   (.region [⟨some 18, none, .bin .add (.t 8) (.c (.int .i64 1))⟩,
    ⟨some 8, none, .mov (.t 18)⟩])))))))
   (.seq (.region [⟨some 4, none, .mov (.c (.int .i64 (-1)))⟩])
   (.ret)))⟩
theorem cir3 : compile Try.prog Try.f3 = some ir3 := by kernel_rfl
theorem cir10 : compile Try.prog Try.f10 = some ir10 := by kernel_rfl
theorem cir11 : compile Try.prog Try.f11 = some ir11 := by kernel_rfl
theorem cir12 : compile Try.prog Try.f12 = some ir12 := by kernel_rfl
theorem cir41 : compile Try.prog Try.f41 = some ir41 := by kernel_rfl
theorem cir42 : compile Try.prog Try.f42 = some ir42 := by kernel_rfl
theorem cir43 : compile Try.prog Try.f43 = some ir43 := by kernel_rfl
theorem cir44 : compile Try.prog Try.f44 = some ir44 := by kernel_rfl
theorem cir45 : compile Try.prog Try.f45 = some ir45 := by kernel_rfl
theorem cir46 : compile Try.prog Try.f46 = some ir46 := by kernel_rfl
theorem cir47 : compile Try.prog Try.f47 = some ir47 := by kernel_rfl
theorem cir48 : compile Try.prog Try.f48 = some ir48 := by kernel_rfl
theorem cir49 : compile Try.prog Try.f49 = some ir49 := by kernel_rfl
theorem cir50 : compile Try.prog Try.f50 = some ir50 := by kernel_rfl
theorem cir51 : compile Try.prog Try.f51 = some ir51 := by kernel_rfl
theorem cir86 : compile Try.prog Try.f86 = some ir86 := by kernel_rfl
theorem cir87 : compile Try.prog Try.f87 = some ir87 := by kernel_rfl
theorem cir88 : compile Try.prog Try.f88 = some ir88 := by kernel_rfl
theorem cir89 : compile Try.prog Try.f89 = some ir89 := by kernel_rfl
theorem cir90 : compile Try.prog Try.f90 = some ir90 := by kernel_rfl
theorem cir91 : compile Try.prog Try.f91 = some ir91 := by kernel_rfl
theorem cir92 : compile Try.prog Try.f92 = some ir92 := by kernel_rfl
theorem cir124 : compile Try.prog Try.f124 = some ir124 := by kernel_rfl
theorem cir125 : compile Try.prog Try.f125 = some ir125 := by kernel_rfl
end Go.Proofs.Ytlgbbabijifflaa.L1R
