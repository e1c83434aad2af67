/- Part 4 of the proof: what the last text leans on. -/
import Derived.Test.YtlgbbabijifflaaProg
import Derived.KernelRfl
import Derived.Test.YtlgbbabijifflaaXM3
namespace Go.Proofs.Ytlgbbabijifflaa.L1R
open Go Go.Ai

def ir4 : IFunc := ⟨70, [.tmp 4],
  .seq (.region [⟨some 2, none, .box 4 (.t 0)⟩,
    ⟨some 4, none, .mov (.c (.bool false))⟩])
   (.seq (.seq (.region [⟨some 15, none, .call 17 []⟩,
    ⟨some 16, none, .un .not (.t 15)⟩,
    ⟨some 17, none, .mov (.t 16)⟩,
    ⟨some 18, some (2, false), .load 4 true (.t 2)⟩,
    ⟨some 19, some (2, false), .call 18 [(.t 18)]⟩,
    ⟨some 20, some (2, false), .un .not (.t 19)⟩,
    ⟨some 21, none, .pick (.t 17) (.c (.bool true)) (.t 20)⟩])
   (.cond (.t 21) (.seq (.region [⟨some 22, none, .call 17 []⟩,
    ⟨some 4, none, .mov (.t 22)⟩])
   (.ret)) (.skip)))
   (.seq (.region [⟨some 24, none, .load 4 true (.t 2)⟩,
    ⟨some 25, none, .call 19 [(.t 24)]⟩,
    ⟨some 23, none, .mov (.t 25)⟩,
    ⟨some 26, none, .extract (.t 23) 0⟩,
    ⟨some 27, none, .extract (.t 23) 1⟩,
    ⟨some 28, none, .extract (.t 23) 2⟩,
    ⟨some 5, none, .alloc [(.int .i64 0), .nilsl, .nilsl]⟩,
    ⟨none, none, .store 3 (.t 5) (.t 26)⟩,
    ⟨some 6, none, .mov (.t 27)⟩,
    ⟨some 7, none, .mov (.t 28)⟩])
   (.seq (.region [⟨some 30, none, .load 4 true (.t 2)⟩,
    ⟨some 31, none, .call 20 [(.t 30)]⟩,
    ⟨some 29, none, .mov (.t 31)⟩,
    ⟨some 32, none, .extract (.t 29) 0⟩,
    ⟨some 33, none, .extract (.t 29) 1⟩,
    ⟨some 34, none, .extract (.t 29) 2⟩,
    ⟨some 8, none, .alloc [(.int .i64 0), .nilsl, .nilsl]⟩,
    ⟨none, none, .store 3 (.t 8) (.t 32)⟩,
    ⟨some 9, none, .mov (.t 33)⟩,
    ⟨some 10, none, .mov (.t 34)⟩])
   (.seq (.region [⟨some 36, none, .load 4 true (.t 2)⟩,
    ⟨some 37, none, .mov (.t 1)⟩,
    ⟨some 38, none, .call 21 [(.t 36), (.t 37)]⟩,
    ⟨some 35, none, .mov (.t 38)⟩,
    ⟨some 39, none, .extract (.t 35) 0⟩,
    ⟨some 40, none, .extract (.t 35) 1⟩,
    ⟨some 11, none, .alloc [(.int .i64 0), .nilsl, .nilsl]⟩,
    ⟨none, none, .store 3 (.t 11) (.t 39)⟩,
    ⟨some 12, none, .mov (.t 40)⟩])
   (.seq (.region [⟨some 42, none, .load 4 true (.t 2)⟩,
    ⟨some 43, none, .mov (.t 1)⟩,
    ⟨some 44, none, .call 22 [(.t 42), (.t 43)]⟩,
    ⟨some 41, none, .mov (.t 44)⟩,
    ⟨some 45, none, .extract (.t 41) 0⟩,
    ⟨some 46, none, .extract (.t 41) 1⟩,
    ⟨some 13, none, .alloc [(.int .i64 0), .nilsl, .nilsl]⟩,
    ⟨none, none, .store 3 (.t 13) (.t 45)⟩,
    ⟨some 14, none, .mov (.t 46)⟩])
   (.seq (.region [⟨some 47, none, .mov (.t 7)⟩,
    ⟨some 48, none, .mov (.t 10)⟩,
    ⟨some 49, none, .bin .eql (.t 47) (.t 48)⟩,
    ⟨some 50, none, .mov (.t 49)⟩,
    ⟨some 51, some (3, true), .mov (.t 12)⟩,
    ⟨some 52, some (3, true), .mov (.t 14)⟩,
    ⟨some 53, some (3, true), .bin .eql (.t 51) (.t 52)⟩,
    ⟨some 54, none, .pick (.t 50) (.t 53) (.c (.bool false))⟩,
    ⟨some 55, none, .mov (.t 54)⟩,
    ⟨some 56, some (8, true), .mov (.t 6)⟩,
    ⟨some 57, some (8, true), .mov (.t 9)⟩,
    ⟨some 58, some (8, true), .call 23 [(.t 56), (.t 57)]⟩,
    ⟨some 59, none, .pick (.t 55) (.t 58) (.c (.bool false))⟩,
    ⟨some 60, none, .mov (.t 59)⟩,
    ⟨some 61, some (13, true), .load 3 true (.t 5)⟩,
    ⟨some 62, some (13, true), .load 3 true (.t 8)⟩,
    ⟨some 63, some (13, true), .call 24 [(.t 61), (.t 62)]⟩,
    ⟨some 64, none, .pick (.t 60) (.t 63) (.c (.bool false))⟩,
    ⟨some 65, none, .mov (.t 64)⟩,
    ⟨some 66, some (18, true), .load 3 true (.t 11)⟩,
    ⟨some 67, some (18, true), .load 3 true (.t 13)⟩,
    ⟨some 68, some (18, true), .call 24 [(.t 66), (.t 67)]⟩,
    ⟨some 69, none, .pick (.t 65) (.t 68) (.c (.bool false))⟩,
    ⟨some 4, none, .mov (.t 69)⟩])
   (.ret)))))))⟩
def ir6 : IFunc := ⟨209, [.tmp 2],
  .seq (.region [⟨some 1, none, .box 4 (.t 0)⟩,
    ⟨some 2, none, .mov (.c (.bool false))⟩])
   (.seq (.seq (.region [⟨some 14, none, .call 17 []⟩,
    ⟨some 15, none, .un .not (.t 14)⟩,
    ⟨some 16, none, .mov (.t 15)⟩,
    ⟨some 17, some (2, false), .load 4 true (.t 1)⟩,
    ⟨some 18, some (2, false), .call 18 [(.t 17)]⟩,
    ⟨some 19, some (2, false), .un .not (.t 18)⟩,
    ⟨some 20, none, .pick (.t 16) (.c (.bool true)) (.t 19)⟩,
    ⟨some 21, none, .mov (.t 20)⟩,
    ⟨some 22, some (7, false), .load 4 true (.t 1)⟩,
    ⟨some 23, some (7, false), .call 32 [(.t 22)]⟩,
    ⟨some 24, some (7, false), .bin .neq (.t 23) (.c (.int .i64 0))⟩,
    ⟨some 25, none, .pick (.t 21) (.c (.bool true)) (.t 24)⟩])
   (.cond (.t 25) (.seq (.region [⟨some 26, none, .call 17 []⟩,
    ⟨some 2, none, .mov (.t 26)⟩])
   (.ret)) (.skip)))
   (.seq (.region [⟨some 28, none, .load 4 true (.t 1)⟩,
    ⟨some 29, none, .call 19 [(.t 28)]⟩,
    ⟨some 27, none, .mov (.t 29)⟩,
    ⟨some 30, none, .extract (.t 27) 0⟩,
    ⟨some 31, none, .extract (.t 27) 1⟩,
    ⟨some 32, none, .extract (.t 27) 2⟩,
    ⟨some 3, none, .alloc [(.int .i64 0), .nilsl, .nilsl]⟩,
    ⟨none, none, .store 3 (.t 3) (.t 30)⟩,
    ⟨some 4, none, .mov (.t 31)⟩,
    ⟨some 5, none, .mov (.t 32)⟩])
   (.seq (.seq (.region [⟨some 33, none, .mov (.t 5)⟩,
    ⟨some 34, none, .bin .neq (.t 33) (.c (.int .i64 0))⟩])
   (.cond (.t 34) (.seq (.region [⟨some 35, none, .mov (.t 5)⟩,
    ⟨some 36, none, .bin .eql (.t 35) (.c (.int .i64 8))⟩,
    ⟨some 37, none, .mov (.t 36)⟩,
    ⟨some 38, some (2, true), .faddr 3 (.t 1)⟩,
    ⟨some 39, some (2, true), .load 1 false (.t 38)⟩,
    ⟨some 40, some (2, true), .len (.t 39)⟩,
    ⟨some 41, some (2, true), .faddr 2 (.t 1)⟩,
    ⟨some 42, some (2, true), .load 1 false (.t 41)⟩,
    ⟨some 43, some (2, true), .bin .mul (.t 40) (.t 42)⟩,
    ⟨some 44, some (2, true), .bin .gtr (.t 43) (.c (.int .i64 64))⟩,
    ⟨some 45, none, .pick (.t 37) (.t 44) (.c (.bool false))⟩,
    ⟨some 2, none, .mov (.t 45)⟩])
   (.ret)) (.skip)))
   (.seq (.seq (.region [⟨some 46, none, .load 3 true (.t 3)⟩,
    ⟨some 47, none, .call 33 [(.t 46)]⟩,
    ⟨some 48, none, .bin .neq (.t 47) (.c (.int .i64 0))⟩,
    ⟨some 49, none, .mov (.t 48)⟩,
    ⟨some 50, some (3, false), .faddr 0 (.t 3)⟩,
    ⟨some 51, some (3, false), .load 1 false (.t 50)⟩,
    ⟨some 52, some (3, false), .mov (.t 4)⟩,
    ⟨some 53, some (3, false), .len (.t 52)⟩,
    ⟨some 54, some (3, false), .bin .neq (.t 51) (.t 53)⟩,
    ⟨some 55, none, .pick (.t 49) (.c (.bool true)) (.t 54)⟩,
    ⟨some 56, none, .mov (.t 55)⟩,
    ⟨some 57, some (10, false), .faddr 2 (.t 3)⟩,
    ⟨some 58, some (10, false), .load 1 false (.t 57)⟩,
    ⟨some 59, some (10, false), .len (.t 58)⟩,
    ⟨some 60, some (10, false), .faddr 0 (.t 1)⟩,
    ⟨some 61, some (10, false), .load 1 false (.t 60)⟩,
    ⟨some 62, some (10, false), .bin .neq (.t 59) (.t 61)⟩,
    ⟨some 63, none, .pick (.t 56) (.c (.bool true)) (.t 62)⟩,
    ⟨some 64, none, .mov (.t 63)⟩,
    ⟨some 65, some (18, false), .faddr 1 (.t 3)⟩,
    ⟨some 66, some (18, false), .load 1 false (.t 65)⟩,
    ⟨some 67, some (18, false), .len (.t 66)⟩,
    ⟨some 68, some (18, false), .faddr 1 (.t 1)⟩,
    ⟨some 69, some (18, false), .load 1 false (.t 68)⟩,
    ⟨some 70, some (18, false), .bin .neq (.t 67) (.t 69)⟩,
    ⟨some 71, none, .pick (.t 64) (.c (.bool true)) (.t 70)⟩,
    ⟨some 72, none, .mov (.t 71)⟩,
    ⟨some 73, some (26, false), .mov (.t 4)⟩,
    ⟨some 74, some (26, false), .len (.t 73)⟩,
    ⟨some 75, some (26, false), .faddr 3 (.t 1)⟩,
    ⟨some 76, some (26, false), .load 1 false (.t 75)⟩,
    ⟨some 77, some (26, false), .len (.t 76)⟩,
    ⟨some 78, some (26, false), .faddr 2 (.t 1)⟩,
    ⟨some 79, some (26, false), .load 1 false (.t 78)⟩,
    ⟨some 80, some (26, false), .bin .mul (.t 77) (.t 79)⟩,
    ⟨some 81, some (26, false), .bin .neq (.t 74) (.t 80)⟩,
    ⟨some 82, none, .pick (.t 72) (.c (.bool true)) (.t 81)⟩])
   (.cond (.t 82) (.seq (.region [⟨some 2, none, .mov (.c (.bool false))⟩])
   (.ret)) (.skip)))
   (.seq (.seq (.region [⟨some 83, none, .mov (.t 4)⟩,
    ⟨some 84, none, .len (.t 83)⟩,
    ⟨some 85, none, .mov (.c (.int .i64 0))⟩])
   (.block 0 (.loop (.seq (.region [⟨some 86, none, .bin .lss (.t 85) (.t 84)⟩])
   (.seq (.cond (.t 86) (.skip) (.exit 0))
   (.seq (.block 1 (.seq (.region [⟨some 87, none, .mov (.t 85)⟩,
    ⟨some 88, none, .iaddr 2 (.t 83) (.t 85)⟩,
    ⟨some 89, none, .load 2 true (.t 88)⟩,
    ⟨some 7, none, .alloc [(.int .i64 0), (.int .i64 0)]⟩,
    ⟨some 6, none, .mov (.t 87)⟩,
    ⟨none, none, .store 2 (.t 7) (.t 89)⟩])
   (.seq (.seq (.draw [⟨some 90, none, .faddr 0 (.t 7)⟩,
    ⟨some 91, none, .load 1 false (.t 90)⟩,
    ⟨some 92, none, .mov (.t 6)⟩,
    ⟨some 93, none, .faddr 2 (.t 1)⟩,
    ⟨some 94, none, .load 1 false (.t 93)⟩,
    ⟨some 95, none, .bin .quo (.t 92) (.t 94)⟩,
    ⟨some 96, none, .bin .neq (.t 91) (.t 95)⟩,
    ⟨some 97, none, .mov (.t 96)⟩,
    ⟨some 98, some (7, false), .faddr 1 (.t 7)⟩,
    ⟨some 99, some (7, false), .load 1 false (.t 98)⟩,
    ⟨some 100, some (7, false), .mov (.t 6)⟩,
    ⟨some 101, some (7, false), .faddr 2 (.t 1)⟩,
    ⟨some 102, some (7, false), .load 1 false (.t 101)⟩,
    ⟨some 103, some (7, false), .bin .rem (.t 100) (.t 102)⟩,
    ⟨some 104, some (7, false), .bin .neq (.t 99) (.t 103)⟩,
    ⟨some 105, none, .pick (.t 97) (.c (.bool true)) (.t 104)⟩] [0, 1, 2, 3, 4, 5, 6, 7, 8, 9, 10, 11, 12, 13, 14, 15] [])
   (.cond (.t 105) (.seq (.region [⟨some 2, none, .mov (.c (.bool false))⟩])
   (.ret)) (.skip)))
   (.seq (.seq (.region [⟨some 106, none, .faddr 1 (.t 3)⟩,
    ⟨some 107, none, .load 1 false (.t 106)⟩,
    ⟨some 108, none, .len (.t 107)⟩,
    ⟨some 109, none, .mov (.c (.int .i64 0))⟩])
   (.block 2 (.loop (.seq (.region [⟨some 110, none, .bin .lss (.t 109) (.t 108)⟩])
   (.seq (.cond (.t 110) (.skip) (.exit 2))
   (.seq (.block 3 (.seq (.region [⟨some 111, none, .mov (.t 109)⟩,
    ⟨some 112, none, .iaddr 1 (.t 107) (.t 109)⟩,
    ⟨some 113, none, .load 1 false (.t 112)⟩,
    ⟨some 8, none, .mov (.t 111)⟩,
    ⟨some 9, none, .mov (.t 113)⟩])
   (.seq (.draw [⟨some 114, none, .mov (.t 9)⟩,
    ⟨some 115, none, .mov (.t 6)⟩,
    ⟨some 116, none, .bin .shr (.t 114) (.t 115)⟩,
    ⟨some 117, none, .bin .and (.t 116) (.c (.int .u64 1))⟩,
    ⟨some 118, none, .faddr 3 (.t 1)⟩,
    ⟨some 119, none, .load 1 false (.t 118)⟩,
    ⟨some 120, none, .faddr 0 (.t 7)⟩,
    ⟨some 121, none, .load 1 false (.t 120)⟩,
    ⟨some 122, none, .iaddr 2 (.t 119) (.t 121)⟩,
    ⟨some 123, none, .faddr 1 (.t 122)⟩,
    ⟨some 124, none, .load 1 false (.t 123)⟩,
    ⟨some 125, none, .faddr 1 (.t 7)⟩,
    ⟨some 126, none, .load 1 false (.t 125)⟩,
    ⟨some 127, none, .iaddr 1 (.t 124) (.t 126)⟩,
    ⟨some 128, none, .load 1 false (.t 127)⟩,
    ⟨some 129, none, .mov (.t 8)⟩,
    ⟨some 130, none, .bin .shr (.t 128) (.t 129)⟩,
    ⟨some 131, none, .bin .and (.t 130) (.c (.int .u64 1))⟩,
    ⟨some 132, none, .bin .neq (.t 117) (.t 131)⟩] [0, 1, 2, 3, 4, 5, 6, 7, 8, 9, 10, 11, 12, 13, 14, 15, 16, 17, 18] [])
   (.cond (.t 132) (.seq (.region [⟨some 2, none, .mov (.c (.bool false))⟩])
   (.ret)) (.skip)))))
   (.region [⟨some 133, none, .bin .add (.t 109) (.c (.int .i64 1))⟩,
    ⟨some 109, none, .mov (.t 133)⟩])))))))
   (.seq (.region [⟨some 134, none, .mov (.t 4)⟩,
    ⟨some 135, none, .len (.t 134)⟩,
    ⟨some 136, none, .mov (.c (.int .i64 0))⟩])
   (.block 4 (.loop (.seq (.region [⟨some 137, none, .bin .lss (.t 136) (.t 135)⟩])
   (.seq (.cond (.t 137) (.skip) (.exit 4))
   (.seq (.block 5 (.seq (.region [⟨some 138, none, .mov (.t 136)⟩,
    ⟨some 139, none, .iaddr 2 (.t 134) (.t 136)⟩,
    ⟨some 140, none, .load 2 true (.t 139)⟩,
    ⟨some 11, none, .alloc [(.int .i64 0), (.int .i64 0)]⟩,
    ⟨some 10, none, .mov (.t 138)⟩,
    ⟨none, none, .store 2 (.t 11) (.t 140)⟩])
   (.seq (.seq (.draw [⟨some 141, none, .faddr 0 (.t 11)⟩,
    ⟨some 142, none, .load 1 false (.t 141)⟩,
    ⟨some 143, none, .mov (.t 10)⟩,
    ⟨some 144, none, .faddr 2 (.t 1)⟩,
    ⟨some 145, none, .load 1 false (.t 144)⟩,
    ⟨some 146, none, .bin .quo (.t 143) (.t 145)⟩,
    ⟨some 147, none, .bin .neq (.t 142) (.t 146)⟩,
    ⟨some 148, none, .mov (.t 147)⟩,
    ⟨some 149, some (7, false), .faddr 1 (.t 11)⟩,
    ⟨some 150, some (7, false), .load 1 false (.t 149)⟩,
    ⟨some 151, some (7, false), .mov (.t 10)⟩,
    ⟨some 152, some (7, false), .faddr 2 (.t 1)⟩,
    ⟨some 153, some (7, false), .load 1 false (.t 152)⟩,
    ⟨some 154, some (7, false), .bin .rem (.t 151) (.t 153)⟩,
    ⟨some 155, some (7, false), .bin .neq (.t 150) (.t 154)⟩,
    ⟨some 156, none, .pick (.t 148) (.c (.bool true)) (.t 155)⟩] [0, 1, 2, 3, 4, 5, 6, 7, 8, 9, 10, 11, 12, 13, 14, 15] [])
   (.cond (.t 156) (.seq (.region [⟨some 2, none, .mov (.c (.bool false))⟩])
   (.ret)) (.skip)))
   (.seq (.region [⟨some 157, none, .faddr 2 (.t 3)⟩,
    ⟨some 158, none, .load 1 false (.t 157)⟩,
    ⟨some 159, none, .len (.t 158)⟩,
    ⟨some 160, none, .mov (.c (.int .i64 0))⟩])
   (.block 6 (.loop (.seq (.region [⟨some 161, none, .bin .lss (.t 160) (.t 159)⟩])
   (.seq (.cond (.t 161) (.skip) (.exit 6))
   (.seq (.block 7 (.seq (.region [⟨some 162, none, .mov (.t 160)⟩,
    ⟨some 12, none, .mov (.t 162)⟩])
   (.seq (.draw [⟨some 163, none, .faddr 3 (.t 1)⟩,
    ⟨some 164, none, .load 1 false (.t 163)⟩,
    ⟨some 165, none, .faddr 0 (.t 7)⟩,
    ⟨some 166, none, .load 1 false (.t 165)⟩,
    ⟨some 167, none, .iaddr 2 (.t 164) (.t 166)⟩,
    ⟨some 168, none, .faddr 0 (.t 167)⟩,
    ⟨some 169, none, .load 1 false (.t 168)⟩,
    ⟨some 170, none, .faddr 1 (.t 7)⟩,
    ⟨some 171, none, .load 1 false (.t 170)⟩,
    ⟨some 172, none, .iaddr 1 (.t 169) (.t 171)⟩,
    ⟨some 173, none, .load 1 false (.t 172)⟩,
    ⟨some 174, none, .mov (.t 12)⟩,
    ⟨some 175, none, .iaddr 1 (.t 173) (.t 174)⟩,
    ⟨some 176, none, .load 1 false (.t 175)⟩,
    ⟨some 177, none, .faddr 3 (.t 1)⟩,
    ⟨some 178, none, .load 1 false (.t 177)⟩,
    ⟨some 179, none, .faddr 0 (.t 11)⟩,
    ⟨some 180, none, .load 1 false (.t 179)⟩,
    ⟨some 181, none, .iaddr 2 (.t 178) (.t 180)⟩,
    ⟨some 182, none, .faddr 0 (.t 181)⟩,
    ⟨some 183, none, .load 1 false (.t 182)⟩,
    ⟨some 184, none, .faddr 1 (.t 11)⟩,
    ⟨some 185, none, .load 1 false (.t 184)⟩,
    ⟨some 186, none, .iaddr 1 (.t 183) (.t 185)⟩,
    ⟨some 187, none, .load 1 false (.t 186)⟩,
    ⟨some 188, none, .mov (.t 12)⟩,
    ⟨some 189, none, .iaddr 1 (.t 187) (.t 188)⟩,
    ⟨some 190, none, .load 1 false (.t 189)⟩,
    ⟨some 191, none, .bin .eql (.t 176) (.t 190)⟩,
    ⟨some 13, none, .mov (.t 191)⟩] [0, 1, 2, 3, 4, 5, 6, 7, 8, 9, 10, 11, 12, 13, 14, 15, 16, 17, 18, 19, 20, 21, 22, 23, 24, 25, 26, 27, 28, 29] [])
   (.seq (.region [⟨some 192, none, .mov (.t 13)⟩,
    ⟨some 193, none, .faddr 2 (.t 3)⟩,
    ⟨some 194, none, .load 1 false (.t 193)⟩,
    ⟨some 195, none, .mov (.t 12)⟩,
    ⟨some 196, none, .iaddr 1 (.t 194) (.t 195)⟩,
    ⟨some 197, none, .load 1 false (.t 196)⟩,
    ⟨some 198, none, .mov (.t 6)⟩,
    ⟨some 199, none, .iaddr 1 (.t 197) (.t 198)⟩,
    ⟨some 200, none, .load 1 false (.t 199)⟩,
    ⟨some 201, none, .mov (.t 10)⟩,
    ⟨some 202, none, .bin .shr (.t 200) (.t 201)⟩,
    ⟨some 203, none, .bin .and (.t 202) (.c (.int .u64 1))⟩,
    ⟨some 204, none, .bin .eql (.t 203) (.c (.int .u64 1))⟩,
    ⟨some 205, none, .eqb true (.t 192) (.t 204)⟩])
   (.cond (.t 205) (.seq (.region [⟨some 2, none, .mov (.c (.bool false))⟩])
   (.ret)) (.skip))))))
   (.region [⟨some 206, none, .bin .add (.t 160) (.c (.int .i64 1))⟩,
    ⟨some 160, none, .mov (.t 206)⟩]))))))))))
   (.region [⟨some 207, none, .bin .add (.t 136) (.c (.int .i64 1))⟩,
    ⟨some 136, none, .mov (.t 207)⟩])))))))))))
   (.region [⟨some 208, none, .bin .add (.t 85) (.c (.int .i64 1))⟩,
    ⟨some 85, none, .mov (.t 208)⟩])))))))
   (.seq (.region [⟨some 2, none, .mov (.c (.bool true))⟩])
   (.ret)))))))⟩
def ir18 : IFunc := ⟨68, [.tmp 2],
  .seq (.region [⟨some 1, none, .box 4 (.t 0)⟩,
    ⟨some 2, none, .mov (.c (.bool false))⟩])
   (.seq (.seq (.region [⟨some 5, none, .faddr 3 (.t 1)⟩,
    ⟨some 6, none, .load 1 false (.t 5)⟩,
    ⟨some 7, none, .len (.t 6)⟩,
    ⟨some 8, none, .bin .gtr (.t 7) (.c (.int .i64 10))⟩,
    ⟨some 9, none, .mov (.t 8)⟩,
    ⟨some 10, some (4, true), .faddr 3 (.t 1)⟩,
    ⟨some 11, some (4, true), .load 1 false (.t 10)⟩,
    ⟨some 12, some (4, true), .len (.t 11)⟩,
    ⟨some 13, some (4, true), .bin .leq (.t 12) (.c (.int .i64 64))⟩,
    ⟨some 14, none, .pick (.t 9) (.t 13) (.c (.bool false))⟩,
    ⟨some 15, none, .mov (.t 14)⟩,
    ⟨some 16, some (10, false), .faddr 3 (.t 1)⟩,
    ⟨some 17, some (10, false), .load 1 false (.t 16)⟩,
    ⟨some 18, some (10, false), .len (.t 17)⟩,
    ⟨some 19, some (10, false), .bin .gtr (.t 18) (.c (.int .i64 70))⟩,
    ⟨some 20, none, .pick (.t 15) (.c (.bool true)) (.t 19)⟩])
   (.cond (.t 20) (.seq (.region [⟨some 2, none, .mov (.c (.bool false))⟩])
   (.ret)) (.skip)))
   (.seq (.seq (.region [⟨some 3, none, .mov (.c (.int .i64 0))⟩])
   (.block 0 (.loop (.seq (.seq (.region [⟨some 21, none, .mov (.t 3)⟩,
    ⟨some 22, none, .faddr 3 (.t 1)⟩,
    ⟨some 23, none, .load 1 false (.t 22)⟩,
    ⟨some 24, none, .len (.t 23)⟩,
    ⟨some 25, none, .bin .lss (.t 21) (.t 24)⟩])
   (.cond (.t 25) (.skip) (.exit 0)))
   (.seq (.block 1 (.seq (.seq (.region [⟨some 28, none, .faddr 3 (.t 1)⟩,
    ⟨some 29, none, .load 1 false (.t 28)⟩,
    ⟨some 30, none, .mov (.t 3)⟩,
    ⟨some 31, none, .iaddr 2 (.t 29) (.t 30)⟩,
    ⟨some 32, none, .faddr 0 (.t 31)⟩,
    ⟨some 33, none, .load 1 false (.t 32)⟩,
    ⟨some 34, none, .len (.t 33)⟩,
    ⟨some 35, none, .bin .gtr (.t 34) (.c (.int .i64 20))⟩,
    ⟨some 36, none, .mov (.t 35)⟩,
    ⟨some 37, some (8, false), .faddr 3 (.t 1)⟩,
    ⟨some 38, some (8, false), .load 1 false (.t 37)⟩,
    ⟨some 39, some (8, false), .mov (.t 3)⟩,
    ⟨some 40, some (8, false), .iaddr 2 (.t 38) (.t 39)⟩,
    ⟨some 41, some (8, false), .faddr 1 (.t 40)⟩,
    ⟨some 42, some (8, false), .load 1 false (.t 41)⟩,
    ⟨some 43, some (8, false), .len (.t 42)⟩,
    ⟨some 44, some (8, false), .bin .gtr (.t 43) (.c (.int .i64 20))⟩,
    ⟨some 45, none, .pick (.t 36) (.c (.bool true)) (.t 44)⟩])
   (.cond (.t 45) (.seq (.region [⟨some 2, none, .mov (.c (.bool false))⟩])
   (.ret)) (.skip)))
   (.seq (.region [⟨some 4, none, .mov (.c (.int .i64 0))⟩])
   (.block 2 (.loop (.seq (.seq (.region [⟨some 46, none, .mov (.t 4)⟩,
    ⟨some 47, none, .faddr 3 (.t 1)⟩,
    ⟨some 48, none, .load 1 false (.t 47)⟩,
    ⟨some 49, none, .mov (.t 3)⟩,
    ⟨some 50, none, .iaddr 2 (.t 48) (.t 49)⟩,
    ⟨some 51, none, .faddr 0 (.t 50)⟩,
    ⟨some 52, none, .load 1 false (.t 51)⟩,
    ⟨some 53, none, .len (.t 52)⟩,
    ⟨some 54, none, .bin .lss (.t 46) (.t 53)⟩])
   (.cond (.t 54) (.skip) (.exit 2)))
   (.seq (.block 3 (.seq (.region [⟨some 57, none, .faddr 3 (.t 1)⟩,
    ⟨some 58, none, .load 1 false (.t 57)⟩,
    ⟨some 59, none, .mov (.t 3)⟩,
    ⟨some 60, none, .iaddr 2 (.t 58) (.t 59)⟩,
    ⟨some 61, none, .faddr 0 (.t 60)⟩,
    ⟨some 62, none, .load 1 false (.t 61)⟩,
    ⟨some 63, none, .mov (.t 4)⟩,
    ⟨some 64, none, .iaddr 1 (.t 62) (.t 63)⟩,
    ⟨some 65, none, .load 1 false (.t 64)⟩,
    ⟨some 66, none, .len (.t 65)⟩,
    ⟨some 67, none, .bin .gtr (.t 66) (.c (.int .i64 10))⟩])
   (.cond (.t 67) (.seq (.region [⟨some 2, none, .mov (.c (.bool false))⟩])
   (.ret)) (.skip))))
   (.region [⟨some 55, none, .mov (.t 4)⟩,
    ⟨some 56, none, .bin .add (.t 55) (.c (.int .i64 1))⟩,
    ⟨some 4, none, .mov (.t 56)⟩]))))))))
   (.region [⟨some 26, none, .mov (.t 3)⟩,
    ⟨some 27, none, .bin .add (.t 26) (.c (.int .i64 1))⟩,
    ⟨some 3, none, .mov (.t 27)⟩]))))))
   (.seq (.region [⟨some 2, none, .mov (.c (.bool true))⟩])
   (.ret))))⟩
def ir19 : IFunc := ⟨23, [.cell 2 3 true, .tmp 3, .tmp 4],
  .seq (.region [⟨some 1, none, .box 4 (.t 0)⟩,
    ⟨some 2, none, .alloc [(.int .i64 0), .nilsl, .nilsl]⟩,
    ⟨some 3, none, .mov (.c .nilsl)⟩,
    ⟨some 4, none, .mov (.c (.int .i64 0))⟩])
   (.seq (.seq (.region [⟨some 7, none, .load 4 true (.t 1)⟩,
    ⟨some 8, none, .call 13 [(.t 7)]⟩,
    ⟨some 5, none, .mov (.t 8)⟩])
   (.seq (.region [⟨some 9, none, .mov (.t 5)⟩,
    ⟨some 10, none, .bin .neq (.t 9) (.c (.int .i64 0))⟩])
   (.cond (.t 10) (.seq (.region [⟨some 11, none, .build [(.int .i64 0), .nilsl, .nilsl] []⟩,
    ⟨some 12, none, .mov (.t 5)⟩,
    ⟨none, none, .store 3 (.t 2) (.t 11)⟩,
    ⟨some 3, none, .mov (.c .nilsl)⟩,
    ⟨some 4, none, .mov (.t 12)⟩])
   (.ret)) (.skip))))
   (.seq (.region [⟨some 13, none, .load 4 true (.t 1)⟩,
    ⟨some 14, none, .call 56 [(.t 13)]⟩,
    ⟨some 6, none, .mov (.t 14)⟩])
   (.seq (.seq (.region [⟨some 15, none, .mov (.t 6)⟩,
    ⟨some 16, none, .len (.t 15)⟩,
    ⟨some 17, none, .bin .gtr (.t 16) (.c (.int .i64 64))⟩])
   (.cond (.t 17) (.seq (.region [⟨some 18, none, .build [(.int .i64 0), .nilsl, .nilsl] []⟩,
    ⟨none, none, .store 3 (.t 2) (.t 18)⟩,
    ⟨some 3, none, .mov (.c .nilsl)⟩,
    ⟨some 4, none, .mov (.c (.int .i64 8))⟩])
   (.ret)) (.skip)))
   (.seq (.region [⟨some 19, none, .load 4 true (.t 1)⟩,
    ⟨some 20, none, .mov (.t 6)⟩,
    ⟨some 21, none, .call 62 [(.t 19), (.t 20)]⟩,
    ⟨some 22, none, .mov (.t 6)⟩,
    ⟨none, none, .store 3 (.t 2) (.t 21)⟩,
    ⟨some 3, none, .mov (.t 22)⟩,
    ⟨some 4, none, .mov (.c (.int .i64 0))⟩])
   (.ret)))))⟩
def ir20 : IFunc := ⟨23, [.cell 2 3 true, .tmp 3, .tmp 4],
  .seq (.region [⟨some 1, none, .box 4 (.t 0)⟩,
    ⟨some 2, none, .alloc [(.int .i64 0), .nilsl, .nilsl]⟩,
    ⟨some 3, none, .mov (.c .nilsl)⟩,
    ⟨some 4, none, .mov (.c (.int .i64 0))⟩])
   (.seq (.region [⟨some 7, none, .load 4 true (.t 1)⟩,
    ⟨some 8, none, .call 32 [(.t 7)]⟩,
    ⟨some 5, none, .mov (.t 8)⟩])
   (.seq (.seq (.region [⟨some 9, none, .mov (.t 5)⟩,
    ⟨some 10, none, .bin .neq (.t 9) (.c (.int .i64 0))⟩])
   (.cond (.t 10) (.seq (.region [⟨some 11, none, .build [(.int .i64 0), .nilsl, .nilsl] []⟩,
    ⟨some 12, none, .mov (.t 5)⟩,
    ⟨none, none, .store 3 (.t 2) (.t 11)⟩,
    ⟨some 3, none, .mov (.c .nilsl)⟩,
    ⟨some 4, none, .mov (.t 12)⟩])
   (.ret)) (.skip)))
   (.seq (.region [⟨some 13, none, .load 4 true (.t 1)⟩,
    ⟨some 14, none, .call 63 [(.t 13)]⟩,
    ⟨some 6, none, .mov (.t 14)⟩])
   (.seq (.seq (.region [⟨some 15, none, .mov (.t 6)⟩,
    ⟨some 16, none, .len (.t 15)⟩,
    ⟨some 17, none, .bin .gtr (.t 16) (.c (.int .i64 64))⟩])
   (.cond (.t 17) (.seq (.region [⟨some 18, none, .build [(.int .i64 0), .nilsl, .nilsl] []⟩,
    ⟨none, none, .store 3 (.t 2) (.t 18)⟩,
    ⟨some 3, none, .mov (.c .nilsl)⟩,
    ⟨some 4, none, .mov (.c (.int .i64 8))⟩])
   (.ret)) (.skip)))
   (.seq (.region [⟨some 19, none, .load 4 true (.t 1)⟩,
    ⟨some 20, none, .mov (.t 6)⟩,
    ⟨some 21, none, .call 64 [(.t 19), (.t 20)]⟩,
    ⟨some 22, none, .mov (.t 6)⟩,
    ⟨none, none, .store 3 (.t 2) (.t 21)⟩,
    ⟨some 3, none, .mov (.t 22)⟩,
    ⟨some 4, none, .mov (.c (.int .i64 0))⟩])
   (.ret))))))⟩
def ir21 : IFunc := ⟨49, [.cell 4 3 true, .tmp 5],
  .seq (.region [⟨some 2, none, .box 4 (.t 0)⟩,
    ⟨some 4, none, .alloc [(.int .i64 0), .nilsl, .nilsl]⟩,
    ⟨some 5, none, .mov (.c (.int .i64 0))⟩])
   (.seq (.seq (.region [⟨some 11, none, .load 4 true (.t 2)⟩,
    ⟨some 12, none, .call 13 [(.t 11)]⟩,
    ⟨some 6, none, .mov (.t 12)⟩])
   (.seq (.region [⟨some 13, none, .mov (.t 6)⟩,
    ⟨some 14, none, .bin .neq (.t 13) (.c (.int .i64 0))⟩])
   (.cond (.t 14) (.seq (.region [⟨some 15, none, .build [(.int .i64 0), .nilsl, .nilsl] []⟩,
    ⟨some 16, none, .mov (.t 6)⟩,
    ⟨none, none, .store 3 (.t 4) (.t 15)⟩,
    ⟨some 5, none, .mov (.t 16)⟩])
   (.ret)) (.skip))))
   (.seq (.seq (.region [⟨some 17, none, .mov (.t 1)⟩,
    ⟨some 18, none, .bin .lss (.t 17) (.c (.int .i64 0))⟩,
    ⟨some 19, none, .mov (.t 18)⟩,
    ⟨some 20, some (2, false), .mov (.t 1)⟩,
    ⟨some 21, some (2, false), .faddr 2 (.t 2)⟩,
    ⟨some 22, some (2, false), .load 1 false (.t 21)⟩,
    ⟨some 23, some (2, false), .bin .geq (.t 20) (.t 22)⟩,
    ⟨some 24, none, .pick (.t 19) (.c (.bool true)) (.t 23)⟩])
   (.cond (.t 24) (.seq (.region [⟨some 25, none, .build [(.int .i64 0), .nilsl, .nilsl] []⟩,
    ⟨none, none, .store 3 (.t 4) (.t 25)⟩,
    ⟨some 5, none, .mov (.c (.int .i64 2))⟩])
   (.ret)) (.skip)))
   (.seq (.region [⟨some 7, none, .mov (.c .nilsl)⟩])
   (.seq (.seq (.region [⟨some 26, none, .faddr 3 (.t 2)⟩,
    ⟨some 27, none, .load 1 false (.t 26)⟩,
    ⟨some 28, none, .len (.t 27)⟩,
    ⟨some 29, none, .mov (.c (.int .i64 0))⟩])
   (.block 0 (.loop (.seq (.region [⟨some 30, none, .bin .lss (.t 29) (.t 28)⟩])
   (.seq (.cond (.t 30) (.skip) (.exit 0))
   (.seq (.block 1 (.seq (.region [⟨some 31, none, .mov (.t 29)⟩,
    ⟨some 8, none, .mov (.t 31)⟩])
   (.region [⟨some 32, none, .mov (.t 7)⟩,
    ⟨some 33, none, .mov (.t 8)⟩,
    ⟨some 34, none, .mov (.t 1)⟩,
    ⟨some 35, none, .build [(.int .i64 0), (.int .i64 0)] [(0, 1, (.t 33)), (1, 1, (.t 34))]⟩,
    ⟨some 36, none, .tlit 1 2 [(.int .i64 0), (.int .i64 0)] [(0, 2, (.t 35))]⟩,
    ⟨some 37, none, .append 2 16 (.t 32) (.t 36)⟩,
    ⟨some 7, none, .mov (.t 37)⟩])))
   (.region [⟨some 38, none, .bin .add (.t 29) (.c (.int .i64 1))⟩,
    ⟨some 29, none, .mov (.t 38)⟩])))))))
   (.seq (.region [⟨some 39, none, .load 4 true (.t 2)⟩,
    ⟨some 40, none, .mov (.t 7)⟩,
    ⟨some 41, none, .call 62 [(.t 39), (.t 40)]⟩,
    ⟨some 9, none, .alloc [(.int .i64 0), .nilsl, .nilsl]⟩,
    ⟨none, none, .store 3 (.t 9) (.t 41)⟩])
   (.seq (.seq (.region [⟨some 42, none, .load 3 true (.t 9)⟩,
    ⟨some 43, none, .call 33 [(.t 42)]⟩,
    ⟨some 10, none, .mov (.t 43)⟩])
   (.seq (.region [⟨some 44, none, .mov (.t 10)⟩,
    ⟨some 45, none, .bin .neq (.t 44) (.c (.int .i64 0))⟩])
   (.cond (.t 45) (.seq (.region [⟨some 46, none, .build [(.int .i64 0), .nilsl, .nilsl] []⟩,
    ⟨some 47, none, .mov (.t 10)⟩,
    ⟨none, none, .store 3 (.t 4) (.t 46)⟩,
    ⟨some 5, none, .mov (.t 47)⟩])
   (.ret)) (.skip))))
   (.seq (.region [⟨some 48, none, .load 3 true (.t 9)⟩,
    ⟨none, none, .store 3 (.t 4) (.t 48)⟩,
    ⟨some 5, none, .mov (.c (.int .i64 0))⟩])
   (.ret))))))))⟩
def ir22 : IFunc := ⟨40, [.cell 4 3 true, .tmp 5],
  .seq (.region [⟨some 2, none, .box 4 (.t 0)⟩,
    ⟨some 4, none, .alloc [(.int .i64 0), .nilsl, .nilsl]⟩,
    ⟨some 5, none, .mov (.c (.int .i64 0))⟩])
   (.seq (.region [⟨some 9, none, .load 4 true (.t 2)⟩,
    ⟨some 10, none, .call 32 [(.t 9)]⟩,
    ⟨some 6, none, .mov (.t 10)⟩])
   (.seq (.seq (.region [⟨some 11, none, .mov (.t 6)⟩,
    ⟨some 12, none, .bin .neq (.t 11) (.c (.int .i64 0))⟩])
   (.cond (.t 12) (.seq (.region [⟨some 13, none, .build [(.int .i64 0), .nilsl, .nilsl] []⟩,
    ⟨some 14, none, .mov (.t 6)⟩,
    ⟨none, none, .store 3 (.t 4) (.t 13)⟩,
    ⟨some 5, none, .mov (.t 14)⟩])
   (.ret)) (.skip)))
   (.seq (.seq (.region [⟨some 15, none, .mov (.t 1)⟩,
    ⟨some 16, none, .bin .lss (.t 15) (.c (.int .i64 0))⟩,
    ⟨some 17, none, .mov (.t 16)⟩,
    ⟨some 18, some (2, false), .mov (.t 1)⟩,
    ⟨some 19, some (2, false), .faddr 2 (.t 2)⟩,
    ⟨some 20, some (2, false), .load 1 false (.t 19)⟩,
    ⟨some 21, some (2, false), .bin .geq (.t 18) (.t 20)⟩,
    ⟨some 22, none, .pick (.t 17) (.c (.bool true)) (.t 21)⟩])
   (.cond (.t 22) (.seq (.region [⟨some 23, none, .build [(.int .i64 0), .nilsl, .nilsl] []⟩,
    ⟨none, none, .store 3 (.t 4) (.t 23)⟩,
    ⟨some 5, none, .mov (.c (.int .i64 2))⟩])
   (.ret)) (.skip)))
   (.seq (.region [⟨some 7, none, .mov (.c .nilsl)⟩])
   (.seq (.seq (.region [⟨some 8, none, .mov (.c (.int .i64 0))⟩])
   (.block 0 (.loop (.seq (.seq (.region [⟨some 24, none, .mov (.t 8)⟩,
    ⟨some 25, none, .faddr 3 (.t 2)⟩,
    ⟨some 26, none, .load 1 false (.t 25)⟩,
    ⟨some 27, none, .len (.t 26)⟩,
    ⟨some 28, none, .bin .lss (.t 24) (.t 27)⟩])
   (.cond (.t 28) (.skip) (.exit 0)))
   (.seq (.block 1 (.region [⟨some 31, none, .mov (.t 7)⟩,
    ⟨some 32, none, .mov (.t 8)⟩,
    ⟨some 33, none, .mov (.t 1)⟩,
    ⟨some 34, none, .build [(.int .i64 0), (.int .i64 0)] [(0, 1, (.t 32)), (1, 1, (.t 33))]⟩,
    ⟨some 35, none, .tlit 1 2 [(.int .i64 0), (.int .i64 0)] [(0, 2, (.t 34))]⟩,
    ⟨some 36, none, .append 2 16 (.t 31) (.t 35)⟩,
    ⟨some 7, none, .mov (.t 36)⟩]))
   (.region [⟨some 29, none, .mov (.t 8)⟩,
    ⟨some 30, none, .bin .add (.t 29) (.c (.int .i64 1))⟩,
    ⟨some 8, none, .mov (.t 30)⟩]))))))
   (.seq (.region [⟨some 37, none, .load 4 true (.t 2)⟩,
    ⟨some 38, none, .mov (.t 7)⟩,
    ⟨some 39, none, .call 64 [(.t 37), (.t 38)]⟩,
    ⟨none, none, .store 3 (.t 4) (.t 39)⟩,
    ⟨some 5, none, .mov (.c (.int .i64 0))⟩])
   (.ret)))))))⟩
def ir23 : IFunc := ⟨26, [.tmp 4],
  .seq (.region [⟨some 4, none, .mov (.c (.bool false))⟩])
   (.seq (.seq (.region [⟨some 6, none, .mov (.t 0)⟩,
    ⟨some 7, none, .len (.t 6)⟩,
    ⟨some 8, none, .mov (.t 1)⟩,
    ⟨some 9, none, .len (.t 8)⟩,
    ⟨some 10, none, .bin .neq (.t 7) (.t 9)⟩])
   (.cond (.t 10) (.seq (.region [⟨some 4, none, .mov (.c (.bool false))⟩])
   (.ret)) (.skip)))
   (.seq (.seq (.region [⟨some 11, none, .mov (.t 0)⟩,
    ⟨some 12, none, .len (.t 11)⟩,
    ⟨some 13, none, .mov (.c (.int .i64 0))⟩])
   (.block 0 (.loop (.seq (.region [⟨some 14, none, .bin .lss (.t 13) (.t 12)⟩])
   (.seq (.cond (.t 14) (.skip) (.exit 0))
   (.seq (.block 1 (.seq (.region [⟨some 15, none, .mov (.t 13)⟩,
    ⟨some 5, none, .mov (.t 15)⟩])
   (.seq (.draw [⟨some 16, none, .mov (.t 0)⟩,
    ⟨some 17, none, .mov (.t 5)⟩,
    ⟨some 18, none, .iaddr 2 (.t 16) (.t 17)⟩,
    ⟨some 19, none, .load 2 true (.t 18)⟩,
    ⟨some 20, none, .mov (.t 1)⟩,
    ⟨some 21, none, .mov (.t 5)⟩,
    ⟨some 22, none, .iaddr 2 (.t 20) (.t 21)⟩,
    ⟨some 23, none, .load 2 true (.t 22)⟩,
    ⟨some 24, none, .eqs true [0, 0] (.t 19) (.t 23)⟩] [0, 1, 2, 3, 4, 5, 6, 7, 8] [])
   (.cond (.t 24) (.seq (.region [⟨some 4, none, .mov (.c (.bool false))⟩])
   (.ret)) (.skip)))))
   (.region [⟨some 25, none, .bin .add (.t 13) (.c (.int .i64 1))⟩,
    ⟨some 13, none, .mov (.t 25)⟩])))))))
   (.seq (.region [⟨some 4, none, .mov (.c (.bool true))⟩])
   (.ret))))⟩
def ir32 : IFunc := ⟨126, [.tmp 2],
  .seq (.region [⟨some 1, none, .box 4 (.t 0)⟩,
    ⟨some 2, none, .mov (.c (.int .i64 0))⟩])
   (.seq (.seq (.region [⟨some 7, none, .faddr 0 (.t 1)⟩,
    ⟨some 8, none, .load 1 false (.t 7)⟩,
    ⟨some 9, none, .bin .lss (.t 8) (.c (.int .i64 0))⟩,
    ⟨some 10, none, .mov (.t 9)⟩,
    ⟨some 11, some (3, false), .faddr 0 (.t 1)⟩,
    ⟨some 12, some (3, false), .load 1 false (.t 11)⟩,
    ⟨some 13, some (3, false), .bin .gtr (.t 12) (.c (.int .i64 4))⟩,
    ⟨some 14, none, .pick (.t 10) (.c (.bool true)) (.t 13)⟩,
    ⟨some 15, none, .mov (.t 14)⟩,
    ⟨some 16, some (8, false), .faddr 1 (.t 1)⟩,
    ⟨some 17, some (8, false), .load 1 false (.t 16)⟩,
    ⟨some 18, some (8, false), .bin .lss (.t 17) (.c (.int .i64 0))⟩,
    ⟨some 19, none, .pick (.t 15) (.c (.bool true)) (.t 18)⟩,
    ⟨some 20, none, .mov (.t 19)⟩,
    ⟨some 21, some (13, false), .faddr 1 (.t 1)⟩,
    ⟨some 22, some (13, false), .load 1 false (.t 21)⟩,
    ⟨some 23, some (13, false), .bin .gtr (.t 22) (.c (.int .i64 8))⟩,
    ⟨some 24, none, .pick (.t 20) (.c (.bool true)) (.t 23)⟩,
    ⟨some 25, none, .mov (.t 24)⟩,
    ⟨some 26, some (18, false), .faddr 2 (.t 1)⟩,
    ⟨some 27, some (18, false), .load 1 false (.t 26)⟩,
    ⟨some 28, some (18, false), .bin .lss (.t 27) (.c (.int .i64 1))⟩,
    ⟨some 29, none, .pick (.t 25) (.c (.bool true)) (.t 28)⟩,
    ⟨some 30, none, .mov (.t 29)⟩,
    ⟨some 31, some (23, false), .faddr 2 (.t 1)⟩,
    ⟨some 32, some (23, false), .load 1 false (.t 31)⟩,
    ⟨some 33, some (23, false), .bin .gtr (.t 32) (.c (.int .i64 16))⟩,
    ⟨some 34, none, .pick (.t 30) (.c (.bool true)) (.t 33)⟩])
   (.cond (.t 34) (.seq (.region [⟨some 2, none, .mov (.c (.int .i64 2))⟩])
   (.ret)) (.skip)))
   (.seq (.seq (.region [⟨some 35, none, .faddr 3 (.t 1)⟩,
    ⟨some 36, none, .load 1 false (.t 35)⟩,
    ⟨some 37, none, .len (.t 36)⟩,
    ⟨some 38, none, .bin .gtr (.t 37) (.c (.int .i64 64))⟩,
    ⟨some 39, none, .mov (.t 38)⟩,
    ⟨some 40, some (4, false), .faddr 3 (.t 1)⟩,
    ⟨some 41, some (4, false), .load 1 false (.t 40)⟩,
    ⟨some 42, some (4, false), .len (.t 41)⟩,
    ⟨some 43, some (4, false), .faddr 2 (.t 1)⟩,
    ⟨some 44, some (4, false), .load 1 false (.t 43)⟩,
    ⟨some 45, some (4, false), .bin .mul (.t 42) (.t 44)⟩,
    ⟨some 46, some (4, false), .bin .gtr (.t 45) (.c (.int .i64 512))⟩,
    ⟨some 47, none, .pick (.t 39) (.c (.bool true)) (.t 46)⟩])
   (.cond (.t 47) (.seq (.region [⟨some 2, none, .mov (.c (.int .i64 8))⟩])
   (.ret)) (.skip)))
   (.seq (.seq (.region [⟨some 48, none, .faddr 3 (.t 1)⟩,
    ⟨some 49, none, .load 1 false (.t 48)⟩,
    ⟨some 50, none, .len (.t 49)⟩,
    ⟨some 51, none, .bin .eql (.t 50) (.c (.int .i64 0))⟩])
   (.cond (.t 51) (.seq (.region [⟨some 2, none, .mov (.c (.int .i64 3))⟩])
   (.ret)) (.skip)))
   (.seq (.seq (.region [⟨some 3, none, .mov (.c (.int .i64 0))⟩])
   (.block 0 (.loop (.seq (.seq (.region [⟨some 52, none, .mov (.t 3)⟩,
    ⟨some 53, none, .faddr 3 (.t 1)⟩,
    ⟨some 54, none, .load 1 false (.t 53)⟩,
    ⟨some 55, none, .len (.t 54)⟩,
    ⟨some 56, none, .bin .lss (.t 52) (.t 55)⟩])
   (.cond (.t 56) (.skip) (.exit 0)))
   (.seq (.block 1 (.seq (.seq (.draw [⟨some 59, none, .faddr 3 (.t 1)⟩,
    ⟨some 60, none, .load 1 false (.t 59)⟩,
    ⟨some 61, none, .mov (.t 3)⟩,
    ⟨some 62, none, .iaddr 2 (.t 60) (.t 61)⟩,
    ⟨some 63, none, .faddr 0 (.t 62)⟩,
    ⟨some 64, none, .load 1 false (.t 63)⟩,
    ⟨some 65, none, .len (.t 64)⟩,
    ⟨some 66, none, .faddr 2 (.t 1)⟩,
    ⟨some 67, none, .load 1 false (.t 66)⟩,
    ⟨some 68, none, .bin .neq (.t 65) (.t 67)⟩,
    ⟨some 69, none, .mov (.t 68)⟩,
    ⟨some 70, some (10, false), .faddr 3 (.t 1)⟩,
    ⟨some 71, some (10, false), .load 1 false (.t 70)⟩,
    ⟨some 72, some (10, false), .mov (.t 3)⟩,
    ⟨some 73, some (10, false), .iaddr 2 (.t 71) (.t 72)⟩,
    ⟨some 74, some (10, false), .faddr 1 (.t 73)⟩,
    ⟨some 75, some (10, false), .load 1 false (.t 74)⟩,
    ⟨some 76, some (10, false), .len (.t 75)⟩,
    ⟨some 77, some (10, false), .faddr 2 (.t 1)⟩,
    ⟨some 78, some (10, false), .load 1 false (.t 77)⟩,
    ⟨some 79, some (10, false), .bin .neq (.t 76) (.t 78)⟩,
    ⟨some 80, none, .pick (.t 69) (.c (.bool true)) (.t 79)⟩] [0, 1, 2, 3, 4, 5, 6, 7, 8, 9, 10, 11, 12, 13, 14, 15, 16, 17, 18, 19, 20, 21] [])
   (.cond (.t 80) (.seq (.region [⟨some 2, none, .mov (.c (.int .i64 3))⟩])
   (.ret)) (.skip)))
   (.seq (.region [⟨some 4, none, .mov (.c (.int .i64 0))⟩])
   (.block 2 (.loop (.seq (.seq (.region [⟨some 81, none, .mov (.t 4)⟩,
    ⟨some 82, none, .faddr 2 (.t 1)⟩,
    ⟨some 83, none, .load 1 false (.t 82)⟩,
    ⟨some 84, none, .bin .lss (.t 81) (.t 83)⟩])
   (.cond (.t 84) (.skip) (.exit 2)))
   (.seq (.block 3 (.seq (.draw [⟨some 87, none, .faddr 3 (.t 1)⟩,
    ⟨some 88, none, .load 1 false (.t 87)⟩,
    ⟨some 89, none, .mov (.t 3)⟩,
    ⟨some 90, none, .iaddr 2 (.t 88) (.t 89)⟩,
    ⟨some 91, none, .faddr 0 (.t 90)⟩,
    ⟨some 92, none, .load 1 false (.t 91)⟩,
    ⟨some 93, none, .mov (.t 4)⟩,
    ⟨some 94, none, .iaddr 1 (.t 92) (.t 93)⟩,
    ⟨some 95, none, .load 1 false (.t 94)⟩,
    ⟨some 96, none, .len (.t 95)⟩,
    ⟨some 97, none, .faddr 0 (.t 1)⟩,
    ⟨some 98, none, .load 1 false (.t 97)⟩,
    ⟨some 99, none, .bin .neq (.t 96) (.t 98)⟩] [0, 1, 2, 3, 4, 5, 6, 7, 8, 9, 10, 11, 12] [])
   (.cond (.t 99) (.seq (.region [⟨some 2, none, .mov (.c (.int .i64 3))⟩])
   (.ret)) (.skip))))
   (.region [⟨some 85, none, .mov (.t 4)⟩,
    ⟨some 86, none, .bin .add (.t 85) (.c (.int .i64 1))⟩,
    ⟨some 4, none, .mov (.t 86)⟩]))))))))
   (.region [⟨some 57, none, .mov (.t 3)⟩,
    ⟨some 58, none, .bin .add (.t 57) (.c (.int .i64 1))⟩,
    ⟨some 3, none, .mov (.t 58)⟩]))))))
   (.seq (.seq (.region [⟨some 5, none, .mov (.c (.int .i64 0))⟩])
   (.block 4 (.loop (.seq (.seq (.region [⟨some 100, none, .mov (.t 5)⟩,
    ⟨some 101, none, .faddr 3 (.t 1)⟩,
    ⟨some 102, none, .load 1 false (.t 101)⟩,
    ⟨some 103, none, .len (.t 102)⟩,
    ⟨some 104, none, .bin .lss (.t 100) (.t 103)⟩])
   (.cond (.t 104) (.skip) (.exit 4)))
   (.seq (.block 5 (.seq (.region [⟨some 6, none, .mov (.c (.int .i64 0))⟩])
   (.block 6 (.loop (.seq (.seq (.region [⟨some 107, none, .mov (.t 6)⟩,
    ⟨some 108, none, .faddr 2 (.t 1)⟩,
    ⟨some 109, none, .load 1 false (.t 108)⟩,
    ⟨some 110, none, .bin .lss (.t 107) (.t 109)⟩])
   (.cond (.t 110) (.skip) (.exit 6)))
   (.seq (.block 7 (.seq (.draw [⟨some 113, none, .faddr 3 (.t 1)⟩,
    ⟨some 114, none, .load 1 false (.t 113)⟩,
    ⟨some 115, none, .mov (.t 5)⟩,
    ⟨some 116, none, .iaddr 2 (.t 114) (.t 115)⟩,
    ⟨some 117, none, .faddr 1 (.t 116)⟩,
    ⟨some 118, none, .load 1 false (.t 117)⟩,
    ⟨some 119, none, .mov (.t 6)⟩,
    ⟨some 120, none, .iaddr 1 (.t 118) (.t 119)⟩,
    ⟨some 121, none, .load 1 false (.t 120)⟩,
    ⟨some 122, none, .faddr 1 (.t 1)⟩,
    ⟨some 123, none, .load 1 false (.t 122)⟩,
    ⟨some 124, none, .bin .shr (.t 121) (.t 123)⟩,
    ⟨some 125, none, .bin .neq (.t 124) (.c (.int .u64 0))⟩] [0, 1, 2, 3, 4, 5, 6, 7, 8, 9, 10, 11, 12] [])
   (.cond (.t 125) (.seq (.region [⟨some 2, none, .mov (.c (.int .i64 2))⟩])
   (.ret)) (.skip))))
   (.region [⟨some 111, none, .mov (.t 6)⟩,
    ⟨some 112, none, .bin .add (.t 111) (.c (.int .i64 1))⟩,
    ⟨some 6, none, .mov (.t 112)⟩])))))))
   (.region [⟨some 105, none, .mov (.t 5)⟩,
    ⟨some 106, none, .bin .add (.t 105) (.c (.int .i64 1))⟩,
    ⟨some 5, none, .mov (.t 106)⟩]))))))
   (.seq (.region [⟨some 2, none, .mov (.c (.int .i64 0))⟩])
   (.ret)))))))⟩
def ir62 : IFunc := ⟨107, [.cell 4 3 true],
  .seq (.region [⟨some 2, none, .box 4 (.t 0)⟩,
    ⟨some 4, none, .alloc [(.int .i64 0), .nilsl, .nilsl]⟩])
   (.seq (.region [⟨some 16, none, .mov (.t 1)⟩,
    ⟨some 17, none, .len (.t 16)⟩,
    ⟨some 18, none, .faddr 1 (.t 2)⟩,
    ⟨some 19, none, .load 1 false (.t 18)⟩,
    ⟨some 20, none, .mslice 1 8 [(.int .u64 0)] (.t 19) (.t 19)⟩,
    ⟨some 21, none, .build [(.int .i64 0), .nilsl, .nilsl] [(0, 1, (.t 17)), (1, 1, (.t 20))]⟩,
    ⟨some 5, none, .alloc [(.int .i64 0), .nilsl, .nilsl]⟩,
    ⟨none, none, .store 3 (.t 5) (.t 21)⟩])
   (.seq (.seq (.region [⟨some 22, none, .mov (.t 1)⟩,
    ⟨some 23, none, .len (.t 22)⟩,
    ⟨some 24, none, .mov (.c (.int .i64 0))⟩])
   (.block 0 (.loop (.seq (.region [⟨some 25, none, .bin .lss (.t 24) (.t 23)⟩])
   (.seq (.cond (.t 25) (.skip) (.exit 0))
   (.seq (.block 1 (.seq (.region [⟨some 26, none, .mov (.t 24)⟩,
    ⟨some 27, none, .iaddr 2 (.t 22) (.t 24)⟩,
    ⟨some 28, none, .load 2 true (.t 27)⟩,
    ⟨some 7, none, .alloc [(.int .i64 0), (.int .i64 0)]⟩,
    ⟨some 6, none, .mov (.t 26)⟩,
    ⟨none, none, .store 2 (.t 7) (.t 28)⟩])
   (.seq (.region [⟨some 29, none, .faddr 1 (.t 5)⟩,
    ⟨some 30, none, .load 1 false (.t 29)⟩,
    ⟨some 31, none, .len (.t 30)⟩,
    ⟨some 32, none, .mov (.c (.int .i64 0))⟩])
   (.block 2 (.loop (.seq (.region [⟨some 33, none, .bin .lss (.t 32) (.t 31)⟩])
   (.seq (.cond (.t 33) (.skip) (.exit 2))
   (.seq (.block 3 (.seq (.region [⟨some 34, none, .mov (.t 32)⟩,
    ⟨some 8, none, .mov (.t 34)⟩])
   (.draw [⟨some 35, none, .faddr 1 (.t 5)⟩,
    ⟨some 36, none, .load 1 false (.t 35)⟩,
    ⟨some 37, none, .mov (.t 8)⟩,
    ⟨some 38, none, .iaddr 1 (.t 36) (.t 37)⟩,
    ⟨some 39, none, .load 1 false (.t 38)⟩,
    ⟨some 40, none, .faddr 3 (.t 2)⟩,
    ⟨some 41, none, .load 1 false (.t 40)⟩,
    ⟨some 42, none, .faddr 0 (.t 7)⟩,
    ⟨some 43, none, .load 1 false (.t 42)⟩,
    ⟨some 44, none, .iaddr 2 (.t 41) (.t 43)⟩,
    ⟨some 45, none, .faddr 1 (.t 44)⟩,
    ⟨some 46, none, .load 1 false (.t 45)⟩,
    ⟨some 47, none, .faddr 1 (.t 7)⟩,
    ⟨some 48, none, .load 1 false (.t 47)⟩,
    ⟨some 49, none, .iaddr 1 (.t 46) (.t 48)⟩,
    ⟨some 50, none, .load 1 false (.t 49)⟩,
    ⟨some 51, none, .mov (.t 8)⟩,
    ⟨some 52, none, .bin .shr (.t 50) (.t 51)⟩,
    ⟨some 53, none, .bin .and (.t 52) (.c (.int .u64 1))⟩,
    ⟨some 54, none, .mov (.t 6)⟩,
    ⟨some 55, none, .bin .shl (.t 53) (.t 54)⟩,
    ⟨some 56, none, .bin .or (.t 39) (.t 55)⟩,
    ⟨some 57, none, .iaddr 1 (.t 36) (.t 37)⟩,
    ⟨none, none, .store 1 (.t 57) (.t 56)⟩] [0, 1, 2, 3, 4, 5, 6, 7, 8, 9, 10, 11, 12, 13, 14, 15, 16, 17, 18, 19, 20, 21, 22, 23] [])))
   (.region [⟨some 58, none, .bin .add (.t 32) (.c (.int .i64 1))⟩,
    ⟨some 32, none, .mov (.t 58)⟩])))))))))
   (.region [⟨some 59, none, .bin .add (.t 24) (.c (.int .i64 1))⟩,
    ⟨some 24, none, .mov (.t 59)⟩])))))))
   (.seq (.seq (.region [⟨some 60, none, .faddr 0 (.t 2)⟩,
    ⟨some 61, none, .load 1 false (.t 60)⟩,
    ⟨some 62, none, .mov (.c (.int .i64 0))⟩])
   (.block 4 (.loop (.seq (.region [⟨some 63, none, .bin .lss (.t 62) (.t 61)⟩])
   (.seq (.cond (.t 63) (.skip) (.exit 4))
   (.seq (.block 5 (.seq (.region [⟨some 64, none, .mov (.t 62)⟩,
    ⟨some 9, none, .mov (.t 64)⟩])
   (.seq (.region [⟨some 65, none, .mmap⟩,
    ⟨some 10, none, .mov (.t 65)⟩])
   (.seq (.seq (.region [⟨some 66, none, .mov (.t 1)⟩,
    ⟨some 67, none, .len (.t 66)⟩,
    ⟨some 68, none, .mov (.c (.int .i64 0))⟩])
   (.block 6 (.loop (.seq (.region [⟨some 69, none, .bin .lss (.t 68) (.t 67)⟩])
   (.seq (.cond (.t 69) (.skip) (.exit 6))
   (.seq (.block 7 (.seq (.region [⟨some 70, none, .mov (.t 68)⟩,
    ⟨some 71, none, .iaddr 2 (.t 66) (.t 68)⟩,
    ⟨some 72, none, .load 2 true (.t 71)⟩,
    ⟨some 12, none, .alloc [(.int .i64 0), (.int .i64 0)]⟩,
    ⟨some 11, none, .mov (.t 70)⟩,
    ⟨none, none, .store 2 (.t 12) (.t 72)⟩])
   (.draw [⟨some 73, none, .mov (.t 10)⟩,
    ⟨some 74, none, .load 4 true (.t 2)⟩,
    ⟨some 75, none, .mov (.t 9)⟩,
    ⟨some 76, none, .load 2 true (.t 12)⟩,
    ⟨some 77, none, .call 57 [(.t 74), (.t 75), (.t 76)]⟩,
    ⟨some 78, none, .lookup (.int .u64 0) false none (.t 73) (.t 77)⟩,
    ⟨some 79, none, .mov (.t 11)⟩,
    ⟨some 80, none, .bin .shl (.c (.int .u64 1)) (.t 79)⟩,
    ⟨some 81, none, .bin .or (.t 78) (.t 80)⟩,
    ⟨none, none, .mupd none (.t 73) (.t 77) (.t 81)⟩] [0, 1, 2, 3, 4, 5, 6, 7, 8, 9] [])))
   (.region [⟨some 82, none, .bin .add (.t 68) (.c (.int .i64 1))⟩,
    ⟨some 68, none, .mov (.t 82)⟩])))))))
   (.seq (.region [⟨some 13, none, .mov (.c .nilsl)⟩])
   (.seq (.seq (.region [⟨some 83, none, .mov (.t 1)⟩,
    ⟨some 84, none, .len (.t 83)⟩,
    ⟨some 85, none, .mov (.c (.int .i64 0))⟩])
   (.block 8 (.loop (.seq (.region [⟨some 86, none, .bin .lss (.t 85) (.t 84)⟩])
   (.seq (.cond (.t 86) (.skip) (.exit 8))
   (.seq (.block 9 (.seq (.region [⟨some 87, none, .iaddr 2 (.t 83) (.t 85)⟩,
    ⟨some 88, none, .load 2 true (.t 87)⟩,
    ⟨some 15, none, .alloc [(.int .i64 0), (.int .i64 0)]⟩,
    ⟨none, none, .store 2 (.t 15) (.t 88)⟩])
   (.region [⟨some 89, none, .mov (.t 13)⟩,
    ⟨some 90, none, .mov (.t 10)⟩,
    ⟨some 91, none, .load 4 true (.t 2)⟩,
    ⟨some 92, none, .mov (.t 9)⟩,
    ⟨some 93, none, .load 2 true (.t 15)⟩,
    ⟨some 94, none, .call 57 [(.t 91), (.t 92), (.t 93)]⟩,
    ⟨some 95, none, .lookup (.int .u64 0) false none (.t 90) (.t 94)⟩,
    ⟨some 96, none, .tlit 1 1 [(.int .u64 0)] [(0, 1, (.t 95))]⟩,
    ⟨some 97, none, .append 1 8 (.t 89) (.t 96)⟩,
    ⟨some 13, none, .mov (.t 97)⟩])))
   (.region [⟨some 98, none, .bin .add (.t 85) (.c (.int .i64 1))⟩,
    ⟨some 85, none, .mov (.t 98)⟩])))))))
   (.region [⟨some 99, none, .faddr 2 (.t 5)⟩,
    ⟨some 100, none, .load 1 false (.t 99)⟩,
    ⟨some 101, none, .mov (.t 13)⟩,
    ⟨some 102, none, .tlit 1 1 [.nilsl] [(0, 1, (.t 101))]⟩,
    ⟨some 103, none, .append 1 24 (.t 100) (.t 102)⟩,
    ⟨some 104, none, .faddr 2 (.t 5)⟩,
    ⟨none, none, .store 1 (.t 104) (.t 103)⟩])))))))
   (.region [⟨some 105, none, .bin .add (.t 62) (.c (.int .i64 1))⟩,
    ⟨some 62, none, .mov (.t 105)⟩])))))))
   (.seq (.region [⟨some 106, none, .load 3 true (.t 5)⟩,
    ⟨none, none, .store 3 (.t 4) (.t 106)⟩])
   (.ret)))))⟩
def ir63 : IFunc := ⟨29, [.tmp 2],
  .seq (.region [⟨some 1, none, .box 4 (.t 0)⟩,
    ⟨some 2, none, .mov (.c .nilsl)⟩])
   (.seq (.seq (.region [⟨some 6, none, .load 4 true (.t 1)⟩,
    ⟨some 7, none, .call 32 [(.t 6)]⟩,
    ⟨some 8, none, .bin .neq (.t 7) (.c (.int .i64 0))⟩])
   (.cond (.t 8) (.seq (.region [⟨some 2, none, .mov (.c .nilsl)⟩])
   (.ret)) (.skip)))
   (.seq (.region [⟨some 3, none, .mov (.c .nilsl)⟩])
   (.seq (.seq (.region [⟨some 4, none, .mov (.c (.int .i64 0))⟩])
   (.block 0 (.loop (.seq (.seq (.region [⟨some 9, none, .mov (.t 4)⟩,
    ⟨some 10, none, .faddr 3 (.t 1)⟩,
    ⟨some 11, none, .load 1 false (.t 10)⟩,
    ⟨some 12, none, .len (.t 11)⟩,
    ⟨some 13, none, .bin .lss (.t 9) (.t 12)⟩])
   (.cond (.t 13) (.skip) (.exit 0)))
   (.seq (.block 1 (.seq (.region [⟨some 5, none, .mov (.c (.int .i64 0))⟩])
   (.block 2 (.loop (.seq (.seq (.region [⟨some 16, none, .mov (.t 5)⟩,
    ⟨some 17, none, .faddr 2 (.t 1)⟩,
    ⟨some 18, none, .load 1 false (.t 17)⟩,
    ⟨some 19, none, .bin .lss (.t 16) (.t 18)⟩])
   (.cond (.t 19) (.skip) (.exit 2)))
   (.seq (.block 3 (.region [⟨some 22, none, .mov (.t 3)⟩,
    ⟨some 23, none, .mov (.t 4)⟩,
    ⟨some 24, none, .mov (.t 5)⟩,
    ⟨some 25, none, .build [(.int .i64 0), (.int .i64 0)] [(0, 1, (.t 23)), (1, 1, (.t 24))]⟩,
    ⟨some 26, none, .tlit 1 2 [(.int .i64 0), (.int .i64 0)] [(0, 2, (.t 25))]⟩,
    ⟨some 27, none, .append 2 16 (.t 22) (.t 26)⟩,
    ⟨some 3, none, .mov (.t 27)⟩]))
   (.region [⟨some 20, none, .mov (.t 5)⟩,
    ⟨some 21, none, .bin .add (.t 20) (.c (.int .i64 1))⟩,
    ⟨some 5, none, .mov (.t 21)⟩])))))))
   (.region [⟨some 14, none, .mov (.t 4)⟩,
    ⟨some 15, none, .bin .add (.t 14) (.c (.int .i64 1))⟩,
    ⟨some 4, none, .mov (.t 15)⟩]))))))
   (.seq (.region [⟨some 28, none, .mov (.t 3)⟩,
    ⟨some 2, none, .mov (.t 28)⟩])
   (.ret)))))⟩
def ir64 : IFunc := ⟨108, [.cell 4 3 true],
  .seq (.region [⟨some 2, none, .box 4 (.t 0)⟩,
    ⟨some 4, none, .alloc [(.int .i64 0), .nilsl, .nilsl]⟩])
   (.seq (.region [⟨some 14, none, .mov (.t 1)⟩,
    ⟨some 15, none, .len (.t 14)⟩,
    ⟨some 16, none, .build [(.int .i64 0), .nilsl, .nilsl] [(0, 1, (.t 15))]⟩,
    ⟨some 5, none, .alloc [(.int .i64 0), .nilsl, .nilsl]⟩,
    ⟨none, none, .store 3 (.t 5) (.t 16)⟩])
   (.seq (.seq (.region [⟨some 6, none, .mov (.c (.int .i64 0))⟩])
   (.block 0 (.loop (.seq (.seq (.region [⟨some 17, none, .mov (.t 6)⟩,
    ⟨some 18, none, .faddr 1 (.t 2)⟩,
    ⟨some 19, none, .load 1 false (.t 18)⟩,
    ⟨some 20, none, .bin .lss (.t 17) (.t 19)⟩])
   (.cond (.t 20) (.skip) (.exit 0)))
   (.seq (.block 1 (.seq (.region [⟨some 7, none, .mov (.c (.int .u64 0))⟩])
   (.seq (.seq (.region [⟨some 8, none, .mov (.c (.int .i64 0))⟩])
   (.block 2 (.loop (.seq (.seq (.region [⟨some 23, none, .mov (.t 8)⟩,
    ⟨some 24, none, .mov (.t 1)⟩,
    ⟨some 25, none, .len (.t 24)⟩,
    ⟨some 26, none, .bin .lss (.t 23) (.t 25)⟩])
   (.cond (.t 26) (.skip) (.exit 2)))
   (.seq (.block 3 (.seq (.draw [⟨some 29, none, .faddr 3 (.t 2)⟩,
    ⟨some 30, none, .load 1 false (.t 29)⟩,
    ⟨some 31, none, .mov (.t 1)⟩,
    ⟨some 32, none, .mov (.t 8)⟩,
    ⟨some 33, none, .iaddr 2 (.t 31) (.t 32)⟩,
    ⟨some 34, none, .faddr 0 (.t 33)⟩,
    ⟨some 35, none, .load 1 false (.t 34)⟩,
    ⟨some 36, none, .iaddr 2 (.t 30) (.t 35)⟩,
    ⟨some 37, none, .faddr 1 (.t 36)⟩,
    ⟨some 38, none, .load 1 false (.t 37)⟩,
    ⟨some 39, none, .mov (.t 1)⟩,
    ⟨some 40, none, .mov (.t 8)⟩,
    ⟨some 41, none, .iaddr 2 (.t 39) (.t 40)⟩,
    ⟨some 42, none, .faddr 1 (.t 41)⟩,
    ⟨some 43, none, .load 1 false (.t 42)⟩,
    ⟨some 44, none, .iaddr 1 (.t 38) (.t 43)⟩,
    ⟨some 45, none, .load 1 false (.t 44)⟩,
    ⟨some 46, none, .mov (.t 6)⟩,
    ⟨some 47, none, .bin .shr (.t 45) (.t 46)⟩,
    ⟨some 48, none, .bin .rem (.t 47) (.c (.int .u64 2))⟩,
    ⟨some 49, none, .bin .eql (.t 48) (.c (.int .u64 1))⟩] [0, 1, 2, 3, 4, 5, 6, 7, 8, 9, 10, 11, 12, 13, 14, 15, 16, 17, 18, 19, 20] [])
   (.cond (.t 49) (.region [⟨some 50, none, .mov (.t 7)⟩,
    ⟨some 51, none, .mov (.t 8)⟩,
    ⟨some 52, none, .bin .shl (.c (.int .u64 1)) (.t 51)⟩,
    ⟨some 53, none, .bin .or (.t 50) (.t 52)⟩,
    ⟨some 7, none, .mov (.t 53)⟩]) (.skip))))
   (.region [⟨some 27, none, .mov (.t 8)⟩,
    ⟨some 28, none, .bin .add (.t 27) (.c (.int .i64 1))⟩,
    ⟨some 8, none, .mov (.t 28)⟩]))))))
   (.region [⟨some 54, none, .faddr 1 (.t 5)⟩,
    ⟨some 55, none, .load 1 false (.t 54)⟩,
    ⟨some 56, none, .mov (.t 7)⟩,
    ⟨some 57, none, .tlit 1 1 [(.int .u64 0)] [(0, 1, (.t 56))]⟩,
    ⟨some 58, none, .append 1 8 (.t 55) (.t 57)⟩,
    ⟨some 59, none, .faddr 1 (.t 5)⟩,
    ⟨none, none, .store 1 (.t 59) (.t 58)⟩]))))
   (.region [⟨some 21, none, .mov (.t 6)⟩,
    ⟨some 22, none, .bin .add (.t 21) (.c (.int .i64 1))⟩,
    ⟨some 6, none, .mov (.t 22)⟩]))))))
   (.seq (.seq (.region [⟨some 9, none, .mov (.c (.int .i64 0))⟩])
   (.block 4 (.loop (.seq (.seq (.region [⟨some 60, none, .mov (.t 9)⟩,
    ⟨some 61, none, .faddr 0 (.t 2)⟩,
    ⟨some 62, none, .load 1 false (.t 61)⟩,
    ⟨some 63, none, .bin .lss (.t 60) (.t 62)⟩])
   (.cond (.t 63) (.skip) (.exit 4)))
   (.seq (.block 5 (.seq (.region [⟨some 10, none, .mov (.c .nilsl)⟩])
   (.seq (.seq (.region [⟨some 11, none, .mov (.c (.int .i64 0))⟩])
   (.block 6 (.loop (.seq (.seq (.region [⟨some 66, none, .mov (.t 11)⟩,
    ⟨some 67, none, .mov (.t 1)⟩,
    ⟨some 68, none, .len (.t 67)⟩,
    ⟨some 69, none, .bin .lss (.t 66) (.t 68)⟩])
   (.cond (.t 69) (.skip) (.exit 6)))
   (.seq (.block 7 (.seq (.region [⟨some 12, none, .mov (.c (.int .u64 0))⟩])
   (.seq (.seq (.region [⟨some 13, none, .mov (.c (.int .i64 0))⟩])
   (.block 8 (.loop (.seq (.seq (.region [⟨some 72, none, .mov (.t 13)⟩,
    ⟨some 73, none, .mov (.t 1)⟩,
    ⟨some 74, none, .len (.t 73)⟩,
    ⟨some 75, none, .bin .lss (.t 72) (.t 74)⟩])
   (.cond (.t 75) (.skip) (.exit 8)))
   (.seq (.block 9 (.seq (.draw [⟨some 78, none, .load 4 true (.t 2)⟩,
    ⟨some 79, none, .mov (.t 9)⟩,
    ⟨some 80, none, .mov (.t 1)⟩,
    ⟨some 81, none, .mov (.t 11)⟩,
    ⟨some 82, none, .iaddr 2 (.t 80) (.t 81)⟩,
    ⟨some 83, none, .load 2 true (.t 82)⟩,
    ⟨some 84, none, .call 76 [(.t 78), (.t 79), (.t 83)]⟩,
    ⟨some 85, none, .load 4 true (.t 2)⟩,
    ⟨some 86, none, .mov (.t 9)⟩,
    ⟨some 87, none, .mov (.t 1)⟩,
    ⟨some 88, none, .mov (.t 13)⟩,
    ⟨some 89, none, .iaddr 2 (.t 87) (.t 88)⟩,
    ⟨some 90, none, .load 2 true (.t 89)⟩,
    ⟨some 91, none, .call 76 [(.t 85), (.t 86), (.t 90)]⟩,
    ⟨some 92, none, .bin .eql (.t 84) (.t 91)⟩] [0, 1, 2, 3, 4, 5, 6, 7, 8, 9, 10, 11, 12, 13, 14] [(6, 7), (6, 12)])
   (.cond (.t 92) (.region [⟨some 93, none, .mov (.t 12)⟩,
    ⟨some 94, none, .mov (.t 13)⟩,
    ⟨some 95, none, .bin .shl (.c (.int .u64 1)) (.t 94)⟩,
    ⟨some 96, none, .bin .or (.t 93) (.t 95)⟩,
    ⟨some 12, none, .mov (.t 96)⟩]) (.skip))))
   (.region [⟨some 76, none, .mov (.t 13)⟩,
    ⟨some 77, none, .bin .add (.t 76) (.c (.int .i64 1))⟩,
    ⟨some 13, none, .mov (.t 77)⟩]))))))
   (.region [⟨some 97, none, .mov (.t 10)⟩,
    ⟨some 98, none, .mov (.t 12)⟩,
    ⟨some 99, none, .tlit 1 1 [(.int .u64 0)] [(0, 1, (.t 98))]⟩,
    ⟨some 100, none, .append 1 8 (.t 97) (.t 99)⟩,
    ⟨some 10, none, .mov (.t 100)⟩]))))
   (.region [⟨some 70, none, .mov (.t 11)⟩,
    ⟨some 71, none, .bin .add (.t 70) (.c (.int .i64 1))⟩,
    ⟨some 11, none, .mov (.t 71)⟩]))))))
   (.region [⟨some 101, none, .faddr 2 (.t 5)⟩,
    ⟨some 102, none, .load 1 false (.t 101)⟩,
    ⟨some 103, none, .mov (.t 10)⟩,
    ⟨some 104, none, .tlit 1 1 [.nilsl] [(0, 1, (.t 103))]⟩,
    ⟨some 105, none, .append 1 24 (.t 102) (.t 104)⟩,
    ⟨some 106, none, .faddr 2 (.t 5)⟩,
    ⟨none, none, .store 1 (.t 106) (.t 105)⟩]))))
   (.region [⟨some 64, none, .mov (.t 9)⟩,
    ⟨some 65, none, .bin .add (.t 64) (.c (.int .i64 1))⟩,
    ⟨some 9, none, .mov (.t 65)⟩]))))))
   (.seq (.region [⟨some 107, none, .load 3 true (.t 5)⟩,
    ⟨none, none, .store 3 (.t 4) (.t 107)⟩])
   (.ret)))))⟩
def ir76 : IFunc := ⟨21, [.tmp 6],
  .seq (.region [⟨some 3, none, .box 4 (.t 0)⟩,
    ⟨some 5, none, .box 2 (.t 2)⟩,
    ⟨some 6, none, .mov (.c (.int .i64 0))⟩])
   (.seq (.draw [⟨some 7, none, .faddr 3 (.t 3)⟩,
    ⟨some 8, none, .load 1 false (.t 7)⟩,
    ⟨some 9, none, .faddr 0 (.t 5)⟩,
    ⟨some 10, none, .load 1 false (.t 9)⟩,
    ⟨some 11, none, .iaddr 2 (.t 8) (.t 10)⟩,
    ⟨some 12, none, .faddr 0 (.t 11)⟩,
    ⟨some 13, none, .load 1 false (.t 12)⟩,
    ⟨some 14, none, .faddr 1 (.t 5)⟩,
    ⟨some 15, none, .load 1 false (.t 14)⟩,
    ⟨some 16, none, .iaddr 1 (.t 13) (.t 15)⟩,
    ⟨some 17, none, .load 1 false (.t 16)⟩,
    ⟨some 18, none, .mov (.t 1)⟩,
    ⟨some 19, none, .iaddr 1 (.t 17) (.t 18)⟩,
    ⟨some 20, none, .load 1 false (.t 19)⟩,
    ⟨some 6, none, .mov (.t 20)⟩] [0, 1, 2, 3, 4, 5, 6, 7, 8, 9, 10, 11, 12, 13, 14] [])
   (.ret))⟩
theorem cir4 : compile Try.prog Try.f4 = some ir4 := by kernel_rfl
theorem cir6 : compile Try.prog Try.f6 = some ir6 := by kernel_rfl
theorem cir18 : compile Try.prog Try.f18 = some ir18 := by kernel_rfl
theorem cir19 : compile Try.prog Try.f19 = some ir19 := by kernel_rfl
theorem cir20 : compile Try.prog Try.f20 = some ir20 := by kernel_rfl
theorem cir21 : compile Try.prog Try.f21 = some ir21 := by kernel_rfl
theorem cir22 : compile Try.prog Try.f22 = some ir22 := by kernel_rfl
theorem cir23 : compile Try.prog Try.f23 = some ir23 := by kernel_rfl
theorem cir32 : compile Try.prog Try.f32 = some ir32 := by kernel_rfl
theorem cir62 : compile Try.prog Try.f62 = some ir62 := by kernel_rfl
theorem cir63 : compile Try.prog Try.f63 = some ir63 := by kernel_rfl
theorem cir64 : compile Try.prog Try.f64 = some ir64 := by kernel_rfl
theorem cir76 : compile Try.prog Try.f76 = some ir76 := by kernel_rfl
end Go.Proofs.Ytlgbbabijifflaa.L1R
set_option linter.unusedVariables false
set_option linter.unusedSimpArgs false
namespace Go.Ai
open Go.RowKit
def rowV (lp k : Nat) : Nat → AV
  | 0 => .nilsl
  | j + 1 => .ref lp 0 (j + 1) (j + 1) k
def rowA (lp k : Nat) (cs : List AV) : Nat → Ah
  | 0 => []
  | j + 1 => [(lp, some (.cells cs k (j + 1) true false))]
section
variable {α : Type} {f : α → List AV} {k : Nat}
def flatC (f : α → List AV) (xs : List α) : List AV := (xs.map f).flatten
theorem flatC_snoc (xs : List α) (y : α) : flatC f (xs ++ [y]) = flatC f xs ++ f y := by simp [flatC]
theorem flatC_len (hf : ∀ x, (f x).length = k) : ∀ (xs : List α), (flatC f xs).length = xs.length * k
  | [] => by simp [flatC]
  | x :: xs => by
    have := flatC_len hf xs
    simp only [flatC, List.map_cons, List.flatten_cons, List.length_append, List.length_cons, hf] at this ⊢
    rw [this, Nat.succ_mul]; omega
theorem flatC_self (hf : ∀ x, (f x).all selfV = true) (xs : List α) : (flatC f xs).all selfV = true := by
  rw [List.all_eq_true]
  intro v hv
  simp only [flatC, List.mem_flatten, List.mem_map] at hv
  obtain ⟨_, ⟨x, _, rfl⟩, hv⟩ := hv
  exact List.all_eq_true.1 (hf x) v hv
theorem flatC_chunk (hf : ∀ x, (f x).length = k) : ∀ (xs : List α), chunk k xs.length (flatC f xs) = xs.map f
  | [] => rfl
  | x :: xs => by
    have h := hf x
    simp only [flatC, List.map_cons, List.flatten_cons, List.length_cons, chunk]
    rw [← h, List.take_left, List.drop_left, h]
    congr 1
    exact flatC_chunk hf xs
theorem cut_all {cs : List AV} {m : Nat} (h : cs.length = m) : cut cs 0 m = some cs := by
  unfold cut
  rw [if_pos (by omega)]
  simp [← h]
theorem frz_row {d : Nat} {B : Ah} {lp : Nat} (hf : ∀ x, (f x).length = k) (hs : ∀ x, (f x).all selfV = true) (xs : List α) : ∃ A1, Frz1 (d + 2) (B ++ rowA lp k (flatC f xs) xs.length) (rowV lp k xs.length) (.list (xs.map f)) A1 := by
  cases hx : xs with
  | nil => exact ⟨_, .nilsl⟩
  | cons x r =>
    rw [← hx]
    obtain ⟨j, hj⟩ : ∃ j, xs.length = j + 1 := ⟨r.length, by simp [hx]⟩
    rw [hj]
    refine ⟨_, .row (i := B.length) (k1 := k) (cs := flatC f xs) (row := true) (f := false) (c := flatC f xs) ?_ (cut_all ?_) (flatC_self hs xs) ?_⟩
    · rw [List.getElem?_append_right (Nat.le_refl _), Nat.sub_self]; rfl
    · rw [flatC_len hf xs, hj]
    · rw [← hj]; exact flatC_chunk hf xs
theorem frz_own {d i : Nat} {A : Ah} {lp g n : Nat} (hf : ∀ x, (f x).length = k) (hs : ∀ x, (f x).all selfV = true) {xs : List α} {k1 : Nat} {row fr : Bool} (hn : xs.length = n) (h : A[i]? = some (lp, some (.cells (flatC f xs) k1 g row fr))) : ∃ A1, Frz1 (d + 2) A (.ref lp 0 n g k) (.list (xs.map f)) A1 := by
  subst hn
  exact ⟨_, .row h (cut_all (flatC_len hf xs)) (flatC_self hs xs) (flatC_chunk hf xs)⟩
end
theorem fin_frz1 {A A1 : Ah} {v y : AV} (h : Frz1 depth A v y A1) : Fin .iso A [v] [y] := Fin.frz (FrzL.frz (.cons h .nil))
theorem fin_row {α : Type} {f : α → List AV} {k : Nat} {B : Ah} {lp : Nat} (hf : ∀ x, (f x).length = k) (hs : ∀ x, (f x).all selfV = true) (xs : List α) : Fin .iso (B ++ rowA lp k (flatC f xs) xs.length) [rowV lp k xs.length] [.list (xs.map f)] := by
  obtain ⟨A1, h⟩ := frz_row (d := 10) (B := B) (lp := lp) hf hs xs
  exact fin_frz1 h
theorem rowA_next {α : Type} {f : α → List AV} {lp k j : Nat} {xs : List α} {y : α} {cs : List AV} (hj : xs.length = j) (h : cs = flatC f xs ++ f y) : [(lp, some (LObj.cells cs k (j + 1) true false))] = rowA lp k (flatC f (xs ++ [y])) (xs ++ [y]).length := by
  rw [List.length_append, List.length_singleton, hj, flatC_snoc, ← h]; rfl
end Go.Ai
set_option linter.unusedVariables false
set_option linter.unusedSimpArgs false
namespace Go.Proofs.Ytlgbbabijifflaa.sys
attribute [local irreducible] Go.Ai.wrapI Go.Ai.arith.bits Go.Ai.shlI Go.Ai.shrI
open Go Go.Ai Go.Proofs.Ytlgbbabijifflaa.L1R
open runs (RunD SysD runC sysC intsC locsC facsC dSys dSys_C dSys_inv chkS chk_ok sysFine)
open mdl (ModD modC modK setC setsC mixed nilOk)
instance : Inhabited RunD := ⟨⟨[], []⟩⟩
def sysK : CC SysD := ⟨sysC, dSys, dSys_C, fun h => dSys_inv h⟩
def Small (s : SysD) : Prop := s.Ok ∧ s.runs.length ≤ 70 ∧ ∀ r ∈ s.runs, r.loc.length ≤ 20 ∧ r.fac.length ≤ 20 ∧ ∀ l ∈ r.loc, l.length ≤ 10
instance (s : SysD) : Decidable (Small s) := by unfold Small runs.SysD.Ok runs.RunD.Ok; infer_instance
def ptC (p : Int × Int) : List AV := [.int .i64 p.1, .int .i64 p.2]
def ptK : CC (Int × Int) := (CC.cons .i64 (CC.one .i64)).as ptC fun _ => rfl
def fewR (r : RunD) : Bool := !(decide ((r.loc.length : Int) > 20) || decide ((r.fac.length : Int) > 20)) && !(r.loc.any fun l => decide ((l.length : Int) > 10))
def fewS (s : SysD) : Bool := if (10 < s.runs.length ∧ s.runs.length ≤ 64) ∨ 70 < s.runs.length then false else s.runs.all fewR
theorem few_small {s : SysD} (h : s.Ok) (hf : fewS s = true) : Small s := by
  unfold fewS at hf
  split at hf
  · cases hf
  · refine ⟨h, by omega, fun r hr => ?_⟩
    have := List.all_eq_true.1 hf r hr
    simp only [fewR, Bool.and_eq_true, Bool.not_eq_true', Bool.or_eq_false_iff, decide_eq_false_iff_not, List.any_eq_false, decide_eq_true_eq] at this
    exact ⟨by omega, by omega, fun l hl => by have := this.2 l hl; omega⟩
theorem all_take {α : Type} {xs : List α} {p : α → Bool} {k : Nat} (h : (xs.take k).all p = true) (hk : k < xs.length) (hp : p xs[k] = true) : (xs.take (k + 1)).all p = true := by
  rw [List.take_succ_eq_append_getElem hk, List.all_append, h]; simp [hp]
theorem all_not {α : Type} {xs : List α} {p : α → Bool} {k : Nat} (hk : k < xs.length) (hp : p xs[k] = false) : xs.all p = false := by
  rw [List.all_eq_false]; exact ⟨_, List.getElem_mem hk, by simp [hp]⟩
set_option maxRecDepth 100000 in
set_option maxHeartbeats 1000000 in
theorem run18 {hd : Hands} {n : Nat} {s : SysD} (hn : 80 < n) {K : List AV → Ah → Prop} (hK : ∀ A, K [.bool (fewS s)] A) : aB hd n ir18 (.agg (sysC s) :: .undef :: .undef :: .undef :: .undef :: .undef :: .undef :: .undef :: .undef :: .undef :: .undef :: .undef :: .undef :: .undef :: .undef :: .undef :: .undef :: .undef :: .undef :: .undef :: .undef :: .undef :: .undef :: .undef :: .undef :: .undef :: .undef :: .undef :: .undef :: .undef :: .undef :: .undef :: .undef :: .undef :: .undef :: .undef :: .undef :: .undef :: .undef :: .undef :: .undef :: .undef :: .undef :: .undef :: .undef :: .undef :: .undef :: .undef :: .undef :: .undef :: .undef :: .undef :: .undef :: .undef :: .undef :: .undef :: .undef :: .undef :: .undef :: .undef :: .undef :: .undef :: .undef :: .undef :: .undef :: .undef :: .undef :: .undef :: []) [] K := by
  have no : ∀ {b : Bool} A, fewS s = b → K [.bool b] A := fun A e => e ▸ hK A
  refine ⟨rfl, ?_⟩
  intro l1 hl1
  repeat' ((conv => whnf); first | refine ⟨rfl, fun hc => ?_, fun hc => ?_⟩ | refine ⟨fun hc => ?_, fun hc => ?_⟩ | refine ⟨rfl, _, w64 (by omega) (by omega), ?_⟩ | refine ⟨_, w64 (by omega) (by omega), ?_⟩ | refine ⟨_, wU (by omega) (by omega), ?_⟩ | refine ⟨rfl, rfl, ?_⟩ | refine And.intro (show (0 : Int) ≤ _ by omega) ?_ | refine ldI (by repeat first | exact .hd | apply In.tl) ?_ | refine stI (by repeat first | exact .hd | apply In.tl) ?_ | refine slI (by repeat first | exact .hd | apply In.tl) ?_ | refine apI (by repeat first | exact .hd | apply In.tl) ?_ | refine mpI (by repeat first | exact .hd | apply In.tl) ?_ | refine ⟨⟨rfl, leb rfl, rfl⟩, ?_⟩ | refine ⟨⟨rfl, leb rfl⟩, ?_⟩ | refine ⟨⟨by decide, by decide⟩, ?_⟩ | refine ⟨rfl, ?_⟩ | refine ⟨leb rfl, ?_⟩ | refine ⟨by decide, ?_⟩ | refine .inr ⟨⟨leb rfl, leb rfl, rfl, rfl⟩, ?_⟩ | refine ⟨⟨by omega, by first | omega | exact ltm (by omega)⟩, lenm (by intro _; rfl), ?_⟩ | refine ⟨_, getm (by omega) (by first | omega | exact ltm_inv (by omega)), ?_⟩ | refine ⟨⟨by omega, by omega⟩, rfl, ?_⟩ | refine ⟨⟨rfl, by omega, rfl, by (show _ + 1 < 4294967296); omega, rfl⟩, .inr ⟨leb rfl, ?_⟩⟩ | refine ⟨_, find_C _ _, ?_⟩ | refine ⟨_, put_C _ _ _, ?_⟩ | fail)
  · simp only [List.length_map] at *
    exact no _ (by rw [fewS, if_pos (by omega)])
  · simp only [List.length_map] at *
    exact no _ (by rw [fewS, if_pos (by omega)])
  rotate_left
  · simp only [List.length_map] at *
    exact no _ (by rw [fewS, if_pos (by omega)])
  all_goals
    simp only [List.length_map] at *
    have hsm : ¬ ((10 < s.runs.length ∧ s.runs.length ≤ 64) ∨ 70 < s.runs.length) := by omega
    have hfs : fewS s = s.runs.all fewR := by rw [fewS, if_neg hsm]
    refine aLoop_up (fun k env A => A = [(l1, some (.cells (sysC s) 0 0 false false))] ∧ (s.runs.take k).all fewR = true ∧ IEnv (fun g => (g 0 :: .ptr l1 0 0 :: g 2 :: .int .i64 (k : Int) :: g 4 :: g 5 :: g 6 :: g 7 :: g 8 :: g 9 :: g 10 :: g 11 :: g 12 :: g 13 :: g 14 :: g 15 :: g 16 :: g 17 :: g 18 :: g 19 :: g 20 :: g 21 :: g 22 :: g 23 :: g 24 :: g 25 :: g 26 :: g 27 :: g 28 :: g 29 :: g 30 :: g 31 :: g 32 :: g 33 :: g 34 :: g 35 :: g 36 :: g 37 :: g 38 :: g 39 :: g 40 :: g 41 :: g 42 :: g 43 :: g 44 :: g 45 :: g 46 :: g 47 :: g 48 :: g 49 :: g 50 :: g 51 :: g 52 :: g 53 :: g 54 :: g 55 :: g 56 :: g 57 :: g 58 :: g 59 :: g 60 :: g 61 :: g 62 :: g 63 :: g 64 :: g 65 :: g 66 :: g 67 :: [])) env) s.runs.length (.refl _) ⟨rfl, rfl, .mk rfl⟩ (by omega) ?_
    rintro k env A hk ⟨rfl, hI, ⟨g, rfl⟩⟩
    (repeat' ((conv => whnf); first | refine ⟨rfl, _, w64 (by omega) (by omega), ?_⟩ | refine ⟨_, w64 (by omega) (by omega), ?_⟩ | refine ⟨_, wU (by omega) (by omega), ?_⟩ | refine ⟨rfl, rfl, ?_⟩ | refine And.intro (show (0 : Int) ≤ _ by omega) ?_ | refine ldI (by repeat first | exact .hd | apply In.tl) ?_ | refine stI (by repeat first | exact .hd | apply In.tl) ?_ | refine slI (by repeat first | exact .hd | apply In.tl) ?_ | refine apI (by repeat first | exact .hd | apply In.tl) ?_ | refine mpI (by repeat first | exact .hd | apply In.tl) ?_ | refine ⟨⟨rfl, leb rfl, rfl⟩, ?_⟩ | refine ⟨⟨rfl, leb rfl⟩, ?_⟩ | refine ⟨⟨by decide, by decide⟩, ?_⟩ | refine ⟨rfl, ?_⟩ | refine ⟨leb rfl, ?_⟩ | refine ⟨by decide, ?_⟩ | refine .inr ⟨⟨leb rfl, leb rfl, rfl, rfl⟩, ?_⟩ | refine ⟨⟨by omega, by first | omega | exact ltm (by omega)⟩, lenm (by intro _; rfl), ?_⟩ | refine ⟨_, getm (by omega) (by first | omega | exact ltm_inv (by omega)), ?_⟩ | refine ⟨⟨by omega, by omega⟩, rfl, ?_⟩ | refine ⟨⟨rfl, by omega, rfl, by (show _ + 1 < 4294967296); omega, rfl⟩, .inr ⟨leb rfl, ?_⟩⟩ | refine ⟨_, find_C _ _, ?_⟩ | refine ⟨_, put_C _ _ _, ?_⟩ | fail)); refine ⟨fun hc => ?_, fun hc => ?_⟩
    · have h4 := ltm_inv hc
      have hk' : k < s.runs.length := by omega
      have hnd : nthD s.runs k = s.runs[k] := nthD_nat hk'
      have bad : fewR s.runs[k] = false → ∀ A, K [.bool false] A := fun h A => no A (by rw [hfs]; exact all_not hk' h)
      repeat' ((conv => whnf); first | refine ⟨rfl, fun hc => ?_, fun hc => ?_⟩ | refine ⟨fun hc => ?_, fun hc => ?_⟩ | refine ⟨rfl, _, w64 (by omega) (by omega), ?_⟩ | refine ⟨_, w64 (by omega) (by omega), ?_⟩ | refine ⟨_, wU (by omega) (by omega), ?_⟩ | refine ⟨rfl, rfl, ?_⟩ | refine And.intro (show (0 : Int) ≤ _ by omega) ?_ | refine ldI (by repeat first | exact .hd | apply In.tl) ?_ | refine stI (by repeat first | exact .hd | apply In.tl) ?_ | refine slI (by repeat first | exact .hd | apply In.tl) ?_ | refine apI (by repeat first | exact .hd | apply In.tl) ?_ | refine mpI (by repeat first | exact .hd | apply In.tl) ?_ | refine ⟨⟨rfl, leb rfl, rfl⟩, ?_⟩ | refine ⟨⟨rfl, leb rfl⟩, ?_⟩ | refine ⟨⟨by decide, by decide⟩, ?_⟩ | refine ⟨rfl, ?_⟩ | refine ⟨leb rfl, ?_⟩ | refine ⟨by decide, ?_⟩ | refine .inr ⟨⟨leb rfl, leb rfl, rfl, rfl⟩, ?_⟩ | refine ⟨⟨by omega, by first | omega | exact ltm (by omega)⟩, lenm (by intro _; rfl), ?_⟩ | refine ⟨_, getm (by omega) (by first | omega | exact ltm_inv (by omega)), ?_⟩ | refine ⟨⟨by omega, by omega⟩, rfl, ?_⟩ | refine ⟨⟨rfl, by omega, rfl, by (show _ + 1 < 4294967296); omega, rfl⟩, .inr ⟨leb rfl, ?_⟩⟩ | refine ⟨_, find_C _ _, ?_⟩ | refine ⟨_, put_C _ _ _, ?_⟩ | fail)
      · simp only [List.length_map, locsC] at hc
        exact bad (by rw [← hnd]; simp only [fewR, decide_eq_true hc]; rfl) _
      · rename_i c1
        simp only [List.length_map, facsC] at hc
        exact bad (by rw [← hnd]; simp only [fewR, decide_eq_true hc, Bool.or_true]; rfl) _
      rename_i c1
      simp only [List.length_map, locsC, facsC] at hc c1
      have c2 := hc
      refine aLoop_up (fun j env A => A = [(l1, some (.cells (sysC s) 0 0 false false))] ∧ ((nthD s.runs k).loc.take j).all (fun l => !decide ((l.length : Int) > 10)) = true ∧ IEnv (fun g => (g 0 :: .ptr l1 0 0 :: g 2 :: .int .i64 (k : Int) :: .int .i64 (j : Int) :: g 5 :: g 6 :: g 7 :: g 8 :: g 9 :: g 10 :: g 11 :: g 12 :: g 13 :: g 14 :: g 15 :: g 16 :: g 17 :: g 18 :: g 19 :: g 20 :: g 21 :: g 22 :: g 23 :: g 24 :: g 25 :: g 26 :: g 27 :: g 28 :: g 29 :: g 30 :: g 31 :: g 32 :: g 33 :: g 34 :: g 35 :: g 36 :: g 37 :: g 38 :: g 39 :: g 40 :: g 41 :: g 42 :: g 43 :: g 44 :: g 45 :: g 46 :: g 47 :: g 48 :: g 49 :: g 50 :: g 51 :: g 52 :: g 53 :: g 54 :: g 55 :: g 56 :: g 57 :: g 58 :: g 59 :: g 60 :: g 61 :: g 62 :: g 63 :: g 64 :: g 65 :: g 66 :: g 67 :: [])) env) (nthD s.runs k).loc.length (.refl _) ⟨rfl, rfl, .mk rfl⟩ (by omega) ?_
      rintro j env A hj ⟨rfl, hJ, ⟨g, rfl⟩⟩
      (repeat' ((conv => whnf); first | refine ⟨rfl, _, w64 (by omega) (by omega), ?_⟩ | refine ⟨_, w64 (by omega) (by omega), ?_⟩ | refine ⟨_, wU (by omega) (by omega), ?_⟩ | refine ⟨rfl, rfl, ?_⟩ | refine And.intro (show (0 : Int) ≤ _ by omega) ?_ | refine ldI (by repeat first | exact .hd | apply In.tl) ?_ | refine stI (by repeat first | exact .hd | apply In.tl) ?_ | refine slI (by repeat first | exact .hd | apply In.tl) ?_ | refine apI (by repeat first | exact .hd | apply In.tl) ?_ | refine mpI (by repeat first | exact .hd | apply In.tl) ?_ | refine ⟨⟨rfl, leb rfl, rfl⟩, ?_⟩ | refine ⟨⟨rfl, leb rfl⟩, ?_⟩ | refine ⟨⟨by decide, by decide⟩, ?_⟩ | refine ⟨rfl, ?_⟩ | refine ⟨leb rfl, ?_⟩ | refine ⟨by decide, ?_⟩ | refine .inr ⟨⟨leb rfl, leb rfl, rfl, rfl⟩, ?_⟩ | refine ⟨⟨by omega, by first | omega | exact ltm (by omega)⟩, lenm (by intro _; rfl), ?_⟩ | refine ⟨_, getm (by omega) (by first | omega | exact ltm_inv (by omega)), ?_⟩ | refine ⟨⟨by omega, by omega⟩, rfl, ?_⟩ | refine ⟨⟨rfl, by omega, rfl, by (show _ + 1 < 4294967296); omega, rfl⟩, .inr ⟨leb rfl, ?_⟩⟩ | refine ⟨_, find_C _ _, ?_⟩ | refine ⟨_, put_C _ _ _, ?_⟩ | fail)); refine ⟨fun hc => ?_, fun hc => ?_⟩
      · have h5 := ltm_inv hc
        have hj' : j < (nthD s.runs k).loc.length := by omega
        repeat' ((conv => whnf); first | refine ⟨rfl, fun hc => ?_, fun hc => ?_⟩ | refine ⟨fun hc => ?_, fun hc => ?_⟩ | refine ⟨rfl, _, w64 (by omega) (by omega), ?_⟩ | refine ⟨_, w64 (by omega) (by omega), ?_⟩ | refine ⟨_, wU (by omega) (by omega), ?_⟩ | refine ⟨rfl, rfl, ?_⟩ | refine And.intro (show (0 : Int) ≤ _ by omega) ?_ | refine ldI (by repeat first | exact .hd | apply In.tl) ?_ | refine stI (by repeat first | exact .hd | apply In.tl) ?_ | refine slI (by repeat first | exact .hd | apply In.tl) ?_ | refine apI (by repeat first | exact .hd | apply In.tl) ?_ | refine mpI (by repeat first | exact .hd | apply In.tl) ?_ | refine ⟨⟨rfl, leb rfl, rfl⟩, ?_⟩ | refine ⟨⟨rfl, leb rfl⟩, ?_⟩ | refine ⟨⟨by decide, by decide⟩, ?_⟩ | refine ⟨rfl, ?_⟩ | refine ⟨leb rfl, ?_⟩ | refine ⟨by decide, ?_⟩ | refine .inr ⟨⟨leb rfl, leb rfl, rfl, rfl⟩, ?_⟩ | refine ⟨⟨by omega, by first | omega | exact ltm (by omega)⟩, lenm (by intro _; rfl), ?_⟩ | refine ⟨_, getm (by omega) (by first | omega | exact ltm_inv (by omega)), ?_⟩ | refine ⟨⟨by omega, by omega⟩, rfl, ?_⟩ | refine ⟨⟨rfl, by omega, rfl, by (show _ + 1 < 4294967296); omega, rfl⟩, .inr ⟨leb rfl, ?_⟩⟩ | refine ⟨_, find_C _ _, ?_⟩ | refine ⟨_, put_C _ _ _, ?_⟩ | fail)
        · simp only [List.length_map, intsC] at hc
          refine bad ?_ _
          rw [← hnd]
          simp only [fewR, Bool.and_eq_false_iff]
          right
          simp only [Bool.not_eq_false', List.any_eq_true, decide_eq_true_eq]
          exact ⟨_, nthD_mem (by omega) h5, hc⟩
        · simp only [List.length_map, intsC] at hc
          refine ⟨_, hj', .refl _, rfl, all_take hJ hj' ?_, .mk rfl⟩
          rw [← nthD_nat hj']
          simp only [decide_eq_false hc, Bool.not_false]
      · have h5 := ltm_not hc
        obtain rfl : j = (nthD s.runs k).loc.length := by omega
        rw [List.take_length] at hJ
        repeat' ((conv => whnf); first | refine ⟨rfl, fun hc => ?_, fun hc => ?_⟩ | refine ⟨fun hc => ?_, fun hc => ?_⟩ | refine ⟨rfl, _, w64 (by omega) (by omega), ?_⟩ | refine ⟨_, w64 (by omega) (by omega), ?_⟩ | refine ⟨_, wU (by omega) (by omega), ?_⟩ | refine ⟨rfl, rfl, ?_⟩ | refine And.intro (show (0 : Int) ≤ _ by omega) ?_ | refine ldI (by repeat first | exact .hd | apply In.tl) ?_ | refine stI (by repeat first | exact .hd | apply In.tl) ?_ | refine slI (by repeat first | exact .hd | apply In.tl) ?_ | refine apI (by repeat first | exact .hd | apply In.tl) ?_ | refine mpI (by repeat first | exact .hd | apply In.tl) ?_ | refine ⟨⟨rfl, leb rfl, rfl⟩, ?_⟩ | refine ⟨⟨rfl, leb rfl⟩, ?_⟩ | refine ⟨⟨by decide, by decide⟩, ?_⟩ | refine ⟨rfl, ?_⟩ | refine ⟨leb rfl, ?_⟩ | refine ⟨by decide, ?_⟩ | refine .inr ⟨⟨leb rfl, leb rfl, rfl, rfl⟩, ?_⟩ | refine ⟨⟨by omega, by first | omega | exact ltm (by omega)⟩, lenm (by intro _; rfl), ?_⟩ | refine ⟨_, getm (by omega) (by first | omega | exact ltm_inv (by omega)), ?_⟩ | refine ⟨⟨by omega, by omega⟩, rfl, ?_⟩ | refine ⟨⟨rfl, by omega, rfl, by (show _ + 1 < 4294967296); omega, rfl⟩, .inr ⟨leb rfl, ?_⟩⟩ | refine ⟨_, find_C _ _, ?_⟩ | refine ⟨_, put_C _ _ _, ?_⟩ | fail)
        refine ⟨_, hk', .refl _, rfl, all_take hI hk' ?_, .mk rfl⟩
        rw [← hnd]
        simp only [fewR, decide_eq_false c2, decide_eq_false c1, Bool.or_false, Bool.not_false, Bool.true_and, Bool.not_eq_true', List.any_eq_false]
        intro l hl
        simpa using List.all_eq_true.1 hJ l hl
    · have h4 := ltm_not hc
      obtain rfl : k = s.runs.length := by omega
      rw [List.take_length] at hI
      exact no _ (hfs.trans hI)
def g18 : List AV → Option (List AV) := con (.one (.agg sysK)) (fun _ => True) fun s => [.bool (fewS s)]
theorem c18 : IsoOk Try.prog 18 g18 := iso_con mixed nilOk Try.func18 cir18 fun s _ => ⟨81, _, rfl, run18 (by decide) fun A => fin1 rfl⟩
theorem k18 {T : Tab} (hT : Go.Ai.look T 18 = some ⟨.iso, g18⟩) {s : SysD} {b : Bool} (hb : fewS s = b) : (hands T).iso 18 [.agg (sysC s)] = some [.bool b] := hat hT (con_at (x := s) trivial rfl (by rw [hb]))
end Go.Proofs.Ytlgbbabijifflaa.sys
set_option linter.unusedVariables false
set_option linter.unusedSimpArgs false
namespace Go.Proofs.Ytlgbbabijifflaa.sys
attribute [local irreducible] Go.Ai.wrapI Go.Ai.arith.bits Go.Ai.shlI Go.Ai.shrI
open Go Go.Ai Go.Proofs.Ytlgbbabijifflaa.L1R
open runs (RunD SysD runC sysC intsC locsC facsC dSys dSys_C dSys_inv chkS chk_ok sysFine formB highB)
open mdl (ModD modC modK setC setsC mixed nilOk)
def g13 : List AV → Option (List AV) := con (.one (.agg sysK)) Small fun s => [.int .i64 (chkS s)]
theorem c13 : IsoOk Try.prog 13 g13 := iso_con mixed runs.okC Try.func13 cir13 fun s hs => by
  obtain ⟨h1, h2, h3⟩ := hs
  exact ⟨_, _, rfl, runs.run13 (n := 0) h1 (by omega) (fun r hr => by have := h3 r hr; simp only [most]; omega) fun x A e => by subst e; exact fin1 rfl⟩
theorem k13 {T : Tab} (hT : Go.Ai.look T 13 = some ⟨.iso, g13⟩) {s : SysD} (h : Small s) {c : Int} (hc : chkS s = c) : (hands T).iso 13 [.agg (sysC s)] = some [.int .i64 c] := hat hT (con_at (x := s) h rfl (by rw [hc]))
abbrev rangeBad (s : SysD) : Prop := s.ag < 0 ∨ s.ag > 4 ∨ s.fa < 0 ∨ s.fa > 8 ∨ s.len < 1 ∨ s.len > 16
abbrev sizeBad (s : SysD) : Prop := (s.runs.length : Int) > 64 ∨ (s.runs.length : Int) * s.len > 512
theorem chk_range {s : SysD} (h : rangeBad s) : chkS s = 2 := by unfold chkS; exact if_pos h
theorem chk_size {s : SysD} (h0 : ¬ rangeBad s) (h : sizeBad s) : chkS s = 8 := by
  unfold chkS
  rw [if_neg (show ¬ _ from h0), if_pos (show _ from h)]
theorem chk_none {s : SysD} (h0 : ¬ rangeBad s) (h1 : ¬ sizeBad s) (h : s.runs.length = 0) : chkS s = 3 := by
  unfold chkS
  rw [if_neg (show ¬ _ from h0), if_neg (show ¬ _ from h1), if_pos h]
theorem chk_form {s : SysD} (h0 : ¬ rangeBad s) (h1 : ¬ sizeBad s) {r : RunD} (hr : r ∈ s.runs) (h : formB s r = true) : chkS s = 3 := by
  have h2 : ¬ s.runs.length = 0 := fun e => by rw [List.length_eq_zero_iff.1 e] at hr; simp at hr
  unfold chkS
  rw [if_neg (show ¬ _ from h0), if_neg (show ¬ _ from h1), if_neg h2, if_pos (List.any_eq_true.2 ⟨r, hr, h⟩)]
theorem chk_high {s : SysD} (h0 : ¬ rangeBad s) (h1 : ¬ sizeBad s) (h2 : ∀ r ∈ s.runs, formB s r = false) {r : RunD} (hr : r ∈ s.runs) (h : highB s r = true) : chkS s = 2 := by
  have h3 : ¬ s.runs.length = 0 := fun e => by rw [List.length_eq_zero_iff.1 e] at hr; simp at hr
  unfold chkS
  rw [if_neg (show ¬ _ from h0), if_neg (show ¬ _ from h1), if_neg h3, if_neg (by rw [mdl.any_false h2]; decide), if_pos (List.any_eq_true.2 ⟨r, hr, h⟩)]
theorem chk_fine {s : SysD} (h0 : ¬ rangeBad s) (h1 : ¬ sizeBad s) (h2 : ∀ r ∈ s.runs, formB s r = false) (h3 : ¬ s.runs.length = 0) (h4 : ∀ r ∈ s.runs, highB s r = false) : chkS s = 0 := by
  unfold chkS
  rw [if_neg (show ¬ _ from h0), if_neg (show ¬ _ from h1), if_neg h3, if_neg (by rw [mdl.any_false h2]; decide), if_neg (by rw [mdl.any_false h4]; decide)]
theorem mem_take_succ {α : Type} {xs : List α} {k : Nat} {x : α} (hk : k < xs.length) (h : x ∈ xs.take (k + 1)) : x ∈ xs.take k ∨ x = xs[k] := by
  rw [List.take_succ_eq_append_getElem hk, List.mem_append] at h
  simpa using h
theorem form_not {s : SysD} {r : RunD} (h1 : (r.loc.length : Int) = s.len) (h2 : (r.fac.length : Int) = s.len) (h3 : ∀ l ∈ r.loc, (l.length : Int) = s.ag) : formB s r = false := by
  simp only [formB, Bool.or_eq_false_iff, decide_eq_false_iff_not, Decidable.not_not, List.any_eq_false, decide_eq_true_eq]
  exact ⟨⟨h1, h2⟩, h3⟩
theorem form_iff {s : SysD} {r : RunD} (h : formB s r = false) : (r.loc.length : Int) = s.len ∧ (r.fac.length : Int) = s.len ∧ ∀ l ∈ r.loc, (l.length : Int) = s.ag := by
  simp only [formB, Bool.or_eq_false_iff, decide_eq_false_iff_not, Decidable.not_not, List.any_eq_false, decide_eq_true_eq] at h
  exact ⟨h.1.1, h.1.2, h.2⟩
theorem shrF {x : Int} (h : 0 ≤ x) {n : Int} (h1 : 0 ≤ n) (h2 : n ≤ 8) : shrI x (min n.toNat IntKind.u64.bits) = x / 2 ^ n.toNat := runs.shrU h h1 (by omega)
set_option maxRecDepth 100000 in
set_option maxHeartbeats 2000000 in
theorem run32 {hd : Hands} {n : Nat} {s : SysD} (hs : Small s) (hn : 80 < n) {K : List AV → Ah → Prop} (hK : ∀ A, K [.int .i64 (chkS s)] A) : aB hd n ir32 (.agg (sysC s) :: .undef :: .undef :: .undef :: .undef :: .undef :: .undef :: .undef :: .undef :: .undef :: .undef :: .undef :: .undef :: .undef :: .undef :: .undef :: .undef :: .undef :: .undef :: .undef :: .undef :: .undef :: .undef :: .undef :: .undef :: .undef :: .undef :: .undef :: .undef :: .undef :: .undef :: .undef :: .undef :: .undef :: .undef :: .undef :: .undef :: .undef :: .undef :: .undef :: .undef :: .undef :: .undef :: .undef :: .undef :: .undef :: .undef :: .undef :: .undef :: .undef :: .undef :: .undef :: .undef :: .undef :: .undef :: .undef :: .undef :: .undef :: .undef :: .undef :: .undef :: .undef :: .undef :: .undef :: .undef :: .undef :: .undef :: .undef :: .undef :: .undef :: .undef :: .undef :: .undef :: .undef :: .undef :: .undef :: .undef :: .undef :: .undef :: .undef :: .undef :: .undef :: .undef :: .undef :: .undef :: .undef :: .undef :: .undef :: .undef :: .undef :: .undef :: .undef :: .undef :: .undef :: .undef :: .undef :: .undef :: .undef :: .undef :: .undef :: .undef :: .undef :: .undef :: .undef :: .undef :: .undef :: .undef :: .undef :: .undef :: .undef :: .undef :: .undef :: .undef :: .undef :: .undef :: .undef :: .undef :: .undef :: .undef :: .undef :: .undef :: .undef :: .undef :: .undef :: .undef :: .undef :: []) [] K := by
  obtain ⟨⟨hI1, hI2, hI3, hru⟩, hs1, hs2⟩ := hs
  have no : ∀ {b : Int} A, chkS s = b → K [.int .i64 b] A := fun A e => e ▸ hK A
  refine ⟨rfl, ?_⟩
  intro l1 hl1
  repeat' ((conv => whnf); first | refine And.intro rfl ?_ | refine ldI (by repeat first | exact .hd | apply In.tl) ?_ | refine And.intro (fun hc => ?_) (fun hc => ?_) | refine Exists.intro _ (And.intro (w64 (by omega) (by omega)) ?_) | refine Exists.intro _ (And.intro (wU (by omega) (by omega)) ?_) | refine And.intro ⟨rfl, leb rfl⟩ ?_ | refine stI (by repeat first | exact .hd | apply In.tl) ?_ | refine And.intro ⟨rfl, leb rfl, rfl⟩ ?_ | refine ⟨⟨by omega, by first | omega | exact ltm (by omega)⟩, lenm (by intro _; rfl), ?_⟩ | refine Exists.intro _ (And.intro (getm (by omega) (by first | omega | exact ltm_inv (by omega))) ?_) | refine And.intro (leb rfl) ?_ | refine And.intro (show (0 : Int) ≤ _ by omega) ?_ | refine slI (by repeat first | exact .hd | apply In.tl) ?_ | refine apI (by repeat first | exact .hd | apply In.tl) ?_ | refine mpI (by repeat first | exact .hd | apply In.tl) ?_ | refine And.intro ⟨by decide, by decide⟩ ?_ | refine And.intro (by decide) ?_ | refine .inr ⟨⟨leb rfl, leb rfl, rfl, rfl⟩, ?_⟩ | refine ⟨⟨by omega, by omega⟩, rfl, ?_⟩ | refine ⟨⟨rfl, by omega, rfl, by (show _ + 1 < 4294967296); omega, rfl⟩, .inr ⟨leb rfl, ?_⟩⟩ | refine Exists.intro _ (And.intro (find_C _ _) ?_) | refine Exists.intro _ (And.intro (put_C _ _ _) ?_) | fail)
  · exact no _ (chk_range (by omega))
  · exact no _ (chk_range (by omega))
  · exact no _ (chk_range (by omega))
  · exact no _ (chk_range (by omega))
  · exact no _ (chk_range (by omega))
  · exact no _ (chk_range (by omega))
  · have h0 : ¬ rangeBad s := by omega
    simp only [List.length_map] at hc
    exact no _ (chk_size h0 (by omega))
  have h0 : ¬ rangeBad s := by omega
  rename_i c1 c2 c3 c4 c5 c6
  simp only [List.length_map] at hc
  have hm1 : 0 ≤ (s.runs.length : Int) * s.len := Int.mul_nonneg (by omega) (by omega)
  have hm2 : (s.runs.length : Int) * s.len ≤ 64 * 16 := Int.mul_le_mul (by omega) (by omega) (by omega) (by omega)
  have hlm : ((s.runs.map runC).length : Int) = s.runs.length := by simp
  have hc6 := hc
  refine ⟨(s.runs.length : Int) * s.len, by rw [hlm]; exact w64 (by omega) (by omega), ?_⟩
  repeat' ((conv => whnf); first | refine And.intro rfl ?_ | refine ldI (by repeat first | exact .hd | apply In.tl) ?_ | refine And.intro (fun hc => ?_) (fun hc => ?_) | refine Exists.intro _ (And.intro (w64 (by omega) (by omega)) ?_) | refine Exists.intro _ (And.intro (wU (by omega) (by omega)) ?_) | refine And.intro ⟨rfl, leb rfl⟩ ?_ | refine stI (by repeat first | exact .hd | apply In.tl) ?_ | refine And.intro ⟨rfl, leb rfl, rfl⟩ ?_ | refine ⟨⟨by omega, by first | omega | exact ltm (by omega)⟩, lenm (by intro _; rfl), ?_⟩ | refine Exists.intro _ (And.intro (getm (by omega) (by first | omega | exact ltm_inv (by omega))) ?_) | refine And.intro (leb rfl) ?_ | refine And.intro (show (0 : Int) ≤ _ by omega) ?_ | refine slI (by repeat first | exact .hd | apply In.tl) ?_ | refine apI (by repeat first | exact .hd | apply In.tl) ?_ | refine mpI (by repeat first | exact .hd | apply In.tl) ?_ | refine And.intro ⟨by decide, by decide⟩ ?_ | refine And.intro (by decide) ?_ | refine .inr ⟨⟨leb rfl, leb rfl, rfl, rfl⟩, ?_⟩ | refine ⟨⟨by omega, by omega⟩, rfl, ?_⟩ | refine ⟨⟨rfl, by omega, rfl, by (show _ + 1 < 4294967296); omega, rfl⟩, .inr ⟨leb rfl, ?_⟩⟩ | refine Exists.intro _ (And.intro (find_C _ _) ?_) | refine Exists.intro _ (And.intro (put_C _ _ _) ?_) | fail)
  · exact no _ (chk_size h0 (by omega))
  · have h1 : ¬ sizeBad s := by omega
    simp only [List.length_map] at hc
    exact no _ (chk_none h0 h1 (by omega))
  have h1 : ¬ sizeBad s := by rename_i q; omega
  simp only [List.length_map] at hc
  have h3 : ¬ s.runs.length = 0 := by omega
  obtain ⟨L, hL⟩ : ∃ L : Nat, s.len = L := ⟨s.len.toNat, by omega⟩
  refine aLoop_up (fun k env A => A = [(l1, some (.cells (sysC s) 0 0 false false))] ∧ (∀ r ∈ s.runs.take k, formB s r = false) ∧ IEnv (fun g => (g 0 :: .ptr l1 0 0 :: g 2 :: .int .i64 (k : Int) :: g 4 :: g 5 :: g 6 :: g 7 :: g 8 :: g 9 :: g 10 :: g 11 :: g 12 :: g 13 :: g 14 :: g 15 :: g 16 :: g 17 :: g 18 :: g 19 :: g 20 :: g 21 :: g 22 :: g 23 :: g 24 :: g 25 :: g 26 :: g 27 :: g 28 :: g 29 :: g 30 :: g 31 :: g 32 :: g 33 :: g 34 :: g 35 :: g 36 :: g 37 :: g 38 :: g 39 :: g 40 :: g 41 :: g 42 :: g 43 :: g 44 :: g 45 :: g 46 :: g 47 :: g 48 :: g 49 :: g 50 :: g 51 :: g 52 :: g 53 :: g 54 :: g 55 :: g 56 :: g 57 :: g 58 :: g 59 :: g 60 :: g 61 :: g 62 :: g 63 :: g 64 :: g 65 :: g 66 :: g 67 :: g 68 :: g 69 :: g 70 :: g 71 :: g 72 :: g 73 :: g 74 :: g 75 :: g 76 :: g 77 :: g 78 :: g 79 :: g 80 :: g 81 :: g 82 :: g 83 :: g 84 :: g 85 :: g 86 :: g 87 :: g 88 :: g 89 :: g 90 :: g 91 :: g 92 :: g 93 :: g 94 :: g 95 :: g 96 :: g 97 :: g 98 :: g 99 :: g 100 :: g 101 :: g 102 :: g 103 :: g 104 :: g 105 :: g 106 :: g 107 :: g 108 :: g 109 :: g 110 :: g 111 :: g 112 :: g 113 :: g 114 :: g 115 :: g 116 :: g 117 :: g 118 :: g 119 :: g 120 :: g 121 :: g 122 :: g 123 :: g 124 :: g 125 :: [])) env) s.runs.length (.refl _) ⟨rfl, fun r hr => by simp at hr, .mk rfl⟩ (by omega) ?_
  rintro k env A hk ⟨rfl, hI, ⟨g, rfl⟩⟩
  (repeat' ((conv => whnf); first | refine And.intro rfl ?_ | refine ldI (by repeat first | exact .hd | apply In.tl) ?_ | refine Exists.intro _ (And.intro (w64 (by omega) (by omega)) ?_) | refine Exists.intro _ (And.intro (wU (by omega) (by omega)) ?_) | refine And.intro ⟨rfl, leb rfl⟩ ?_ | refine stI (by repeat first | exact .hd | apply In.tl) ?_ | refine And.intro ⟨rfl, leb rfl, rfl⟩ ?_ | refine ⟨⟨by omega, by first | omega | exact ltm (by omega)⟩, lenm (by intro _; rfl), ?_⟩ | refine Exists.intro _ (And.intro (getm (by omega) (by first | omega | exact ltm_inv (by omega))) ?_) | refine And.intro (leb rfl) ?_ | refine And.intro (show (0 : Int) ≤ _ by omega) ?_ | refine slI (by repeat first | exact .hd | apply In.tl) ?_ | refine apI (by repeat first | exact .hd | apply In.tl) ?_ | refine mpI (by repeat first | exact .hd | apply In.tl) ?_ | refine And.intro ⟨by decide, by decide⟩ ?_ | refine And.intro (by decide) ?_ | refine .inr ⟨⟨leb rfl, leb rfl, rfl, rfl⟩, ?_⟩ | refine ⟨⟨by omega, by omega⟩, rfl, ?_⟩ | refine ⟨⟨rfl, by omega, rfl, by (show _ + 1 < 4294967296); omega, rfl⟩, .inr ⟨leb rfl, ?_⟩⟩ | refine Exists.intro _ (And.intro (find_C _ _) ?_) | refine Exists.intro _ (And.intro (put_C _ _ _) ?_) | fail)); refine ⟨fun hc => ?_, fun hc => ?_⟩
  · have h4 := ltm_inv hc
    have hk' : k < s.runs.length := by omega
    have hnd : nthD s.runs k = s.runs[k] := nthD_nat hk'
    have hmem := nthD_mem (xs := s.runs) (n := k) (by omega) h4
    intro b hb
    have bad : ∀ A, formB s (nthD s.runs k) = true → K [.int .i64 3] A := fun A e => no A (chk_form h0 h1 hmem e)
    repeat' ((conv => whnf); first | refine And.intro rfl ?_ | refine ldI (by repeat first | exact .hd | apply In.tl) ?_ | refine And.intro (fun hc => ?_) (fun hc => ?_) | refine Exists.intro _ (And.intro (w64 (by omega) (by omega)) ?_) | refine Exists.intro _ (And.intro (wU (by omega) (by omega)) ?_) | refine And.intro ⟨rfl, leb rfl⟩ ?_ | refine stI (by repeat first | exact .hd | apply In.tl) ?_ | refine And.intro ⟨rfl, leb rfl, rfl⟩ ?_ | refine ⟨⟨by omega, by first | omega | exact ltm (by omega)⟩, lenm (by intro _; rfl), ?_⟩ | refine Exists.intro _ (And.intro (getm (by omega) (by first | omega | exact ltm_inv (by omega))) ?_) | refine And.intro (leb rfl) ?_ | refine And.intro (show (0 : Int) ≤ _ by omega) ?_ | refine slI (by repeat first | exact .hd | apply In.tl) ?_ | refine apI (by repeat first | exact .hd | apply In.tl) ?_ | refine mpI (by repeat first | exact .hd | apply In.tl) ?_ | refine And.intro ⟨by decide, by decide⟩ ?_ | refine And.intro (by decide) ?_ | refine .inr ⟨⟨leb rfl, leb rfl, rfl, rfl⟩, ?_⟩ | refine ⟨⟨by omega, by omega⟩, rfl, ?_⟩ | refine ⟨⟨rfl, by omega, rfl, by (show _ + 1 < 4294967296); omega, rfl⟩, .inr ⟨leb rfl, ?_⟩⟩ | refine Exists.intro _ (And.intro (find_C _ _) ?_) | refine Exists.intro _ (And.intro (put_C _ _ _) ?_) | fail)
    · simp only [List.length_map, locsC] at hc
      exact bad _ (by simp only [formB, decide_eq_true hc, Bool.true_or])
    · simp only [List.length_map, facsC] at hc
      exact bad _ (by simp only [formB, decide_eq_true hc, Bool.true_or, Bool.or_true])
    rename_i c7
    simp only [List.length_map, facsC, locsC, Decidable.not_not] at hc c7
    have hc8 := hc
    refine aLoop_up (fun j env A => A = [(l1, some (.cells (sysC s) 0 0 false false))] ∧ (∀ l ∈ (nthD s.runs k).loc.take j, (l.length : Int) = s.ag) ∧ IEnv (fun g => (g 0 :: .ptr l1 0 0 :: g 2 :: .int .i64 (k : Int) :: .int .i64 (j : Int) :: g 5 :: g 6 :: g 7 :: g 8 :: g 9 :: g 10 :: g 11 :: g 12 :: g 13 :: g 14 :: g 15 :: g 16 :: g 17 :: g 18 :: g 19 :: g 20 :: g 21 :: g 22 :: g 23 :: g 24 :: g 25 :: g 26 :: g 27 :: g 28 :: g 29 :: g 30 :: g 31 :: g 32 :: g 33 :: g 34 :: g 35 :: g 36 :: g 37 :: g 38 :: g 39 :: g 40 :: g 41 :: g 42 :: g 43 :: g 44 :: g 45 :: g 46 :: g 47 :: g 48 :: g 49 :: g 50 :: g 51 :: g 52 :: g 53 :: g 54 :: g 55 :: g 56 :: g 57 :: g 58 :: g 59 :: g 60 :: g 61 :: g 62 :: g 63 :: g 64 :: g 65 :: g 66 :: g 67 :: g 68 :: g 69 :: g 70 :: g 71 :: g 72 :: g 73 :: g 74 :: g 75 :: g 76 :: g 77 :: g 78 :: g 79 :: g 80 :: g 81 :: g 82 :: g 83 :: g 84 :: g 85 :: g 86 :: g 87 :: g 88 :: g 89 :: g 90 :: g 91 :: g 92 :: g 93 :: g 94 :: g 95 :: g 96 :: g 97 :: g 98 :: g 99 :: g 100 :: g 101 :: g 102 :: g 103 :: g 104 :: g 105 :: g 106 :: g 107 :: g 108 :: g 109 :: g 110 :: g 111 :: g 112 :: g 113 :: g 114 :: g 115 :: g 116 :: g 117 :: g 118 :: g 119 :: g 120 :: g 121 :: g 122 :: g 123 :: g 124 :: g 125 :: [])) env) L (Sub.take 1) ⟨rfl, fun r hr => by simp at hr, .mk rfl⟩ (by omega) ?_
    rintro j env A hj ⟨rfl, hJ, ⟨g, rfl⟩⟩
    (repeat' ((conv => whnf); first | refine And.intro rfl ?_ | refine ldI (by repeat first | exact .hd | apply In.tl) ?_ | refine Exists.intro _ (And.intro (w64 (by omega) (by omega)) ?_) | refine Exists.intro _ (And.intro (wU (by omega) (by omega)) ?_) | refine And.intro ⟨rfl, leb rfl⟩ ?_ | refine stI (by repeat first | exact .hd | apply In.tl) ?_ | refine And.intro ⟨rfl, leb rfl, rfl⟩ ?_ | refine ⟨⟨by omega, by first | omega | exact ltm (by omega)⟩, lenm (by intro _; rfl), ?_⟩ | refine Exists.intro _ (And.intro (getm (by omega) (by first | omega | exact ltm_inv (by omega))) ?_) | refine And.intro (leb rfl) ?_ | refine And.intro (show (0 : Int) ≤ _ by omega) ?_ | refine slI (by repeat first | exact .hd | apply In.tl) ?_ | refine apI (by repeat first | exact .hd | apply In.tl) ?_ | refine mpI (by repeat first | exact .hd | apply In.tl) ?_ | refine And.intro ⟨by decide, by decide⟩ ?_ | refine And.intro (by decide) ?_ | refine .inr ⟨⟨leb rfl, leb rfl, rfl, rfl⟩, ?_⟩ | refine ⟨⟨by omega, by omega⟩, rfl, ?_⟩ | refine ⟨⟨rfl, by omega, rfl, by (show _ + 1 < 4294967296); omega, rfl⟩, .inr ⟨leb rfl, ?_⟩⟩ | refine Exists.intro _ (And.intro (find_C _ _) ?_) | refine Exists.intro _ (And.intro (put_C _ _ _) ?_) | fail)); refine ⟨fun hc => ?_, fun hc => ?_⟩
    · have hj1 : (j : Int) < (nthD s.runs k).loc.length := by omega
      have hj' : j < (nthD s.runs k).loc.length := by omega
      intro b hb
      repeat' ((conv => whnf); first | refine And.intro rfl ?_ | refine ldI (by repeat first | exact .hd | apply In.tl) ?_ | refine And.intro (fun hc => ?_) (fun hc => ?_) | refine Exists.intro _ (And.intro (w64 (by omega) (by omega)) ?_) | refine Exists.intro _ (And.intro (wU (by omega) (by omega)) ?_) | refine And.intro ⟨rfl, leb rfl⟩ ?_ | refine stI (by repeat first | exact .hd | apply In.tl) ?_ | refine And.intro ⟨rfl, leb rfl, rfl⟩ ?_ | refine ⟨⟨by omega, by first | omega | exact ltm (by omega)⟩, lenm (by intro _; rfl), ?_⟩ | refine Exists.intro _ (And.intro (getm (by omega) (by first | omega | exact ltm_inv (by omega))) ?_) | refine And.intro (leb rfl) ?_ | refine And.intro (show (0 : Int) ≤ _ by omega) ?_ | refine slI (by repeat first | exact .hd | apply In.tl) ?_ | refine apI (by repeat first | exact .hd | apply In.tl) ?_ | refine mpI (by repeat first | exact .hd | apply In.tl) ?_ | refine And.intro ⟨by decide, by decide⟩ ?_ | refine And.intro (by decide) ?_ | refine .inr ⟨⟨leb rfl, leb rfl, rfl, rfl⟩, ?_⟩ | refine ⟨⟨by omega, by omega⟩, rfl, ?_⟩ | refine ⟨⟨rfl, by omega, rfl, by (show _ + 1 < 4294967296); omega, rfl⟩, .inr ⟨leb rfl, ?_⟩⟩ | refine Exists.intro _ (And.intro (find_C _ _) ?_) | refine Exists.intro _ (And.intro (put_C _ _ _) ?_) | fail)
      · simp only [List.length_map, intsC] at hc
        refine bad _ ?_
        simp only [formB, Bool.or_eq_true, List.any_eq_true, decide_eq_true_eq]
        exact .inr ⟨_, nthD_mem (by omega) hj1, hc⟩
      · simp only [List.length_map, intsC, Decidable.not_not] at hc
        refine ⟨_, by omega, Sub.take 1, rfl, fun l hl => ?_, .mk rfl⟩
        rcases mem_take_succ hj' hl with hl | rfl
        · exact hJ l hl
        · rw [← nthD_nat hj']; exact hc
    · have e : j = (nthD s.runs k).loc.length := by omega
      rw [e, List.take_length] at hJ
      repeat' ((conv => whnf); first | refine And.intro rfl ?_ | refine ldI (by repeat first | exact .hd | apply In.tl) ?_ | refine And.intro (fun hc => ?_) (fun hc => ?_) | refine Exists.intro _ (And.intro (w64 (by omega) (by omega)) ?_) | refine Exists.intro _ (And.intro (wU (by omega) (by omega)) ?_) | refine And.intro ⟨rfl, leb rfl⟩ ?_ | refine stI (by repeat first | exact .hd | apply In.tl) ?_ | refine And.intro ⟨rfl, leb rfl, rfl⟩ ?_ | refine ⟨⟨by omega, by first | omega | exact ltm (by omega)⟩, lenm (by intro _; rfl), ?_⟩ | refine Exists.intro _ (And.intro (getm (by omega) (by first | omega | exact ltm_inv (by omega))) ?_) | refine And.intro (leb rfl) ?_ | refine And.intro (show (0 : Int) ≤ _ by omega) ?_ | refine slI (by repeat first | exact .hd | apply In.tl) ?_ | refine apI (by repeat first | exact .hd | apply In.tl) ?_ | refine mpI (by repeat first | exact .hd | apply In.tl) ?_ | refine And.intro ⟨by decide, by decide⟩ ?_ | refine And.intro (by decide) ?_ | refine .inr ⟨⟨leb rfl, leb rfl, rfl, rfl⟩, ?_⟩ | refine ⟨⟨by omega, by omega⟩, rfl, ?_⟩ | refine ⟨⟨rfl, by omega, rfl, by (show _ + 1 < 4294967296); omega, rfl⟩, .inr ⟨leb rfl, ?_⟩⟩ | refine Exists.intro _ (And.intro (find_C _ _) ?_) | refine Exists.intro _ (And.intro (put_C _ _ _) ?_) | fail)
      refine ⟨_, hk', .refl _, rfl, fun r hr => ?_, .mk rfl⟩
      rcases mem_take_succ hk' hr with hr | rfl
      · exact hI r hr
      · rw [← hnd]; exact form_not c7 hc8 hJ
  · have h4 := ltm_not hc
    obtain rfl : k = s.runs.length := by omega
    rw [List.take_length] at hI
    repeat' ((conv => whnf); first | refine And.intro rfl ?_ | refine ldI (by repeat first | exact .hd | apply In.tl) ?_ | refine And.intro (fun hc => ?_) (fun hc => ?_) | refine Exists.intro _ (And.intro (w64 (by omega) (by omega)) ?_) | refine Exists.intro _ (And.intro (wU (by omega) (by omega)) ?_) | refine And.intro ⟨rfl, leb rfl⟩ ?_ | refine stI (by repeat first | exact .hd | apply In.tl) ?_ | refine And.intro ⟨rfl, leb rfl, rfl⟩ ?_ | refine ⟨⟨by omega, by first | omega | exact ltm (by omega)⟩, lenm (by intro _; rfl), ?_⟩ | refine Exists.intro _ (And.intro (getm (by omega) (by first | omega | exact ltm_inv (by omega))) ?_) | refine And.intro (leb rfl) ?_ | refine And.intro (show (0 : Int) ≤ _ by omega) ?_ | refine slI (by repeat first | exact .hd | apply In.tl) ?_ | refine apI (by repeat first | exact .hd | apply In.tl) ?_ | refine mpI (by repeat first | exact .hd | apply In.tl) ?_ | refine And.intro ⟨by decide, by decide⟩ ?_ | refine And.intro (by decide) ?_ | refine .inr ⟨⟨leb rfl, leb rfl, rfl, rfl⟩, ?_⟩ | refine ⟨⟨by omega, by omega⟩, rfl, ?_⟩ | refine ⟨⟨rfl, by omega, rfl, by (show _ + 1 < 4294967296); omega, rfl⟩, .inr ⟨leb rfl, ?_⟩⟩ | refine Exists.intro _ (And.intro (find_C _ _) ?_) | refine Exists.intro _ (And.intro (put_C _ _ _) ?_) | fail)
    refine aLoop_up (fun k env A => A = [(l1, some (.cells (sysC s) 0 0 false false))] ∧ (∀ r ∈ s.runs.take k, highB s r = false) ∧ IEnv (fun g => (g 0 :: .ptr l1 0 0 :: g 2 :: g 3 :: g 4 :: .int .i64 (k : Int) :: g 6 :: g 7 :: g 8 :: g 9 :: g 10 :: g 11 :: g 12 :: g 13 :: g 14 :: g 15 :: g 16 :: g 17 :: g 18 :: g 19 :: g 20 :: g 21 :: g 22 :: g 23 :: g 24 :: g 25 :: g 26 :: g 27 :: g 28 :: g 29 :: g 30 :: g 31 :: g 32 :: g 33 :: g 34 :: g 35 :: g 36 :: g 37 :: g 38 :: g 39 :: g 40 :: g 41 :: g 42 :: g 43 :: g 44 :: g 45 :: g 46 :: g 47 :: g 48 :: g 49 :: g 50 :: g 51 :: g 52 :: g 53 :: g 54 :: g 55 :: g 56 :: g 57 :: g 58 :: g 59 :: g 60 :: g 61 :: g 62 :: g 63 :: g 64 :: g 65 :: g 66 :: g 67 :: g 68 :: g 69 :: g 70 :: g 71 :: g 72 :: g 73 :: g 74 :: g 75 :: g 76 :: g 77 :: g 78 :: g 79 :: g 80 :: g 81 :: g 82 :: g 83 :: g 84 :: g 85 :: g 86 :: g 87 :: g 88 :: g 89 :: g 90 :: g 91 :: g 92 :: g 93 :: g 94 :: g 95 :: g 96 :: g 97 :: g 98 :: g 99 :: g 100 :: g 101 :: g 102 :: g 103 :: g 104 :: g 105 :: g 106 :: g 107 :: g 108 :: g 109 :: g 110 :: g 111 :: g 112 :: g 113 :: g 114 :: g 115 :: g 116 :: g 117 :: g 118 :: g 119 :: g 120 :: g 121 :: g 122 :: g 123 :: g 124 :: g 125 :: [])) env) s.runs.length (.refl _) ⟨rfl, fun r hr => by simp at hr, .mk rfl⟩ (by omega) ?_
    rintro k env A hk ⟨rfl, hH, ⟨g, rfl⟩⟩
    (repeat' ((conv => whnf); first | refine And.intro rfl ?_ | refine ldI (by repeat first | exact .hd | apply In.tl) ?_ | refine Exists.intro _ (And.intro (w64 (by omega) (by omega)) ?_) | refine Exists.intro _ (And.intro (wU (by omega) (by omega)) ?_) | refine And.intro ⟨rfl, leb rfl⟩ ?_ | refine stI (by repeat first | exact .hd | apply In.tl) ?_ | refine And.intro ⟨rfl, leb rfl, rfl⟩ ?_ | refine ⟨⟨by omega, by first | omega | exact ltm (by omega)⟩, lenm (by intro _; rfl), ?_⟩ | refine Exists.intro _ (And.intro (getm (by omega) (by first | omega | exact ltm_inv (by omega))) ?_) | refine And.intro (leb rfl) ?_ | refine And.intro (show (0 : Int) ≤ _ by omega) ?_ | refine slI (by repeat first | exact .hd | apply In.tl) ?_ | refine apI (by repeat first | exact .hd | apply In.tl) ?_ | refine mpI (by repeat first | exact .hd | apply In.tl) ?_ | refine And.intro ⟨by decide, by decide⟩ ?_ | refine And.intro (by decide) ?_ | refine .inr ⟨⟨leb rfl, leb rfl, rfl, rfl⟩, ?_⟩ | refine ⟨⟨by omega, by omega⟩, rfl, ?_⟩ | refine ⟨⟨rfl, by omega, rfl, by (show _ + 1 < 4294967296); omega, rfl⟩, .inr ⟨leb rfl, ?_⟩⟩ | refine Exists.intro _ (And.intro (find_C _ _) ?_) | refine Exists.intro _ (And.intro (put_C _ _ _) ?_) | fail)); refine ⟨fun hc => ?_, fun hc => ?_⟩
    · have h5 := ltm_inv hc
      have hk' : k < s.runs.length := by omega
      have hnd : nthD s.runs k = s.runs[k] := nthD_nat hk'
      have hmem := nthD_mem (xs := s.runs) (n := k) (by omega) h5
      obtain ⟨q1, q2, q3⟩ := form_iff (hI _ hmem)
      have hfu := (hru _ hmem).2
      repeat' ((conv => whnf); first | refine And.intro rfl ?_ | refine ldI (by repeat first | exact .hd | apply In.tl) ?_ | refine And.intro (fun hc => ?_) (fun hc => ?_) | refine Exists.intro _ (And.intro (w64 (by omega) (by omega)) ?_) | refine Exists.intro _ (And.intro (wU (by omega) (by omega)) ?_) | refine And.intro ⟨rfl, leb rfl⟩ ?_ | refine stI (by repeat first | exact .hd | apply In.tl) ?_ | refine And.intro ⟨rfl, leb rfl, rfl⟩ ?_ | refine ⟨⟨by omega, by first | omega | exact ltm (by omega)⟩, lenm (by intro _; rfl), ?_⟩ | refine Exists.intro _ (And.intro (getm (by omega) (by first | omega | exact ltm_inv (by omega))) ?_) | refine And.intro (leb rfl) ?_ | refine And.intro (show (0 : Int) ≤ _ by omega) ?_ | refine slI (by repeat first | exact .hd | apply In.tl) ?_ | refine apI (by repeat first | exact .hd | apply In.tl) ?_ | refine mpI (by repeat first | exact .hd | apply In.tl) ?_ | refine And.intro ⟨by decide, by decide⟩ ?_ | refine And.intro (by decide) ?_ | refine .inr ⟨⟨leb rfl, leb rfl, rfl, rfl⟩, ?_⟩ | refine ⟨⟨by omega, by omega⟩, rfl, ?_⟩ | refine ⟨⟨rfl, by omega, rfl, by (show _ + 1 < 4294967296); omega, rfl⟩, .inr ⟨leb rfl, ?_⟩⟩ | refine Exists.intro _ (And.intro (find_C _ _) ?_) | refine Exists.intro _ (And.intro (put_C _ _ _) ?_) | fail)
      refine aLoop_up (fun j env A => A = [(l1, some (.cells (sysC s) 0 0 false false))] ∧ (∀ f ∈ (nthD s.runs k).fac.take j, f / 2 ^ s.fa.toNat = 0) ∧ IEnv (fun g => (g 0 :: .ptr l1 0 0 :: g 2 :: g 3 :: g 4 :: .int .i64 (k : Int) :: .int .i64 (j : Int) :: g 7 :: g 8 :: g 9 :: g 10 :: g 11 :: g 12 :: g 13 :: g 14 :: g 15 :: g 16 :: g 17 :: g 18 :: g 19 :: g 20 :: g 21 :: g 22 :: g 23 :: g 24 :: g 25 :: g 26 :: g 27 :: g 28 :: g 29 :: g 30 :: g 31 :: g 32 :: g 33 :: g 34 :: g 35 :: g 36 :: g 37 :: g 38 :: g 39 :: g 40 :: g 41 :: g 42 :: g 43 :: g 44 :: g 45 :: g 46 :: g 47 :: g 48 :: g 49 :: g 50 :: g 51 :: g 52 :: g 53 :: g 54 :: g 55 :: g 56 :: g 57 :: g 58 :: g 59 :: g 60 :: g 61 :: g 62 :: g 63 :: g 64 :: g 65 :: g 66 :: g 67 :: g 68 :: g 69 :: g 70 :: g 71 :: g 72 :: g 73 :: g 74 :: g 75 :: g 76 :: g 77 :: g 78 :: g 79 :: g 80 :: g 81 :: g 82 :: g 83 :: g 84 :: g 85 :: g 86 :: g 87 :: g 88 :: g 89 :: g 90 :: g 91 :: g 92 :: g 93 :: g 94 :: g 95 :: g 96 :: g 97 :: g 98 :: g 99 :: g 100 :: g 101 :: g 102 :: g 103 :: g 104 :: g 105 :: g 106 :: g 107 :: g 108 :: g 109 :: g 110 :: g 111 :: g 112 :: g 113 :: g 114 :: g 115 :: g 116 :: g 117 :: g 118 :: g 119 :: g 120 :: g 121 :: g 122 :: g 123 :: g 124 :: g 125 :: [])) env) L (.refl _) ⟨rfl, fun r hr => by simp at hr, .mk rfl⟩ (by omega) ?_
      rintro j env A hj ⟨rfl, hJ, ⟨g, rfl⟩⟩
      (repeat' ((conv => whnf); first | refine And.intro rfl ?_ | refine ldI (by repeat first | exact .hd | apply In.tl) ?_ | refine Exists.intro _ (And.intro (w64 (by omega) (by omega)) ?_) | refine Exists.intro _ (And.intro (wU (by omega) (by omega)) ?_) | refine And.intro ⟨rfl, leb rfl⟩ ?_ | refine stI (by repeat first | exact .hd | apply In.tl) ?_ | refine And.intro ⟨rfl, leb rfl, rfl⟩ ?_ | refine ⟨⟨by omega, by first | omega | exact ltm (by omega)⟩, lenm (by intro _; rfl), ?_⟩ | refine Exists.intro _ (And.intro (getm (by omega) (by first | omega | exact ltm_inv (by omega))) ?_) | refine And.intro (leb rfl) ?_ | refine And.intro (show (0 : Int) ≤ _ by omega) ?_ | refine slI (by repeat first | exact .hd | apply In.tl) ?_ | refine apI (by repeat first | exact .hd | apply In.tl) ?_ | refine mpI (by repeat first | exact .hd | apply In.tl) ?_ | refine And.intro ⟨by decide, by decide⟩ ?_ | refine And.intro (by decide) ?_ | refine .inr ⟨⟨leb rfl, leb rfl, rfl, rfl⟩, ?_⟩ | refine ⟨⟨by omega, by omega⟩, rfl, ?_⟩ | refine ⟨⟨rfl, by omega, rfl, by (show _ + 1 < 4294967296); omega, rfl⟩, .inr ⟨leb rfl, ?_⟩⟩ | refine Exists.intro _ (And.intro (find_C _ _) ?_) | refine Exists.intro _ (And.intro (put_C _ _ _) ?_) | fail)); refine ⟨fun hc => ?_, fun hc => ?_⟩
      · have hj1 : (j : Int) < (nthD s.runs k).fac.length := by omega
        have hj' : j < (nthD s.runs k).fac.length := by omega
        intro b hb
        repeat' ((conv => whnf); first | refine And.intro rfl ?_ | refine ldI (by repeat first | exact .hd | apply In.tl) ?_ | refine And.intro (fun hc => ?_) (fun hc => ?_) | refine Exists.intro _ (And.intro (w64 (by omega) (by omega)) ?_) | refine Exists.intro _ (And.intro (wU (by omega) (by omega)) ?_) | refine And.intro ⟨rfl, leb rfl⟩ ?_ | refine stI (by repeat first | exact .hd | apply In.tl) ?_ | refine And.intro ⟨rfl, leb rfl, rfl⟩ ?_ | refine ⟨⟨by omega, by first | omega | exact ltm (by omega)⟩, lenm (by intro _; rfl), ?_⟩ | refine Exists.intro _ (And.intro (getm (by omega) (by first | omega | exact ltm_inv (by omega))) ?_) | refine And.intro (leb rfl) ?_ | refine And.intro (show (0 : Int) ≤ _ by omega) ?_ | refine slI (by repeat first | exact .hd | apply In.tl) ?_ | refine apI (by repeat first | exact .hd | apply In.tl) ?_ | refine mpI (by repeat first | exact .hd | apply In.tl) ?_ | refine And.intro ⟨by decide, by decide⟩ ?_ | refine And.intro (by decide) ?_ | refine .inr ⟨⟨leb rfl, leb rfl, rfl, rfl⟩, ?_⟩ | refine ⟨⟨by omega, by omega⟩, rfl, ?_⟩ | refine ⟨⟨rfl, by omega, rfl, by (show _ + 1 < 4294967296); omega, rfl⟩, .inr ⟨leb rfl, ?_⟩⟩ | refine Exists.intro _ (And.intro (find_C _ _) ?_) | refine Exists.intro _ (And.intro (put_C _ _ _) ?_) | fail)
        refine ⟨_, shrF (hfu _ (nthD_mem (by omega) hj1)).1 (by omega) (by omega), ?_⟩
        repeat' ((conv => whnf); first | refine And.intro rfl ?_ | refine ldI (by repeat first | exact .hd | apply In.tl) ?_ | refine And.intro (fun hc => ?_) (fun hc => ?_) | refine Exists.intro _ (And.intro (w64 (by omega) (by omega)) ?_) | refine Exists.intro _ (And.intro (wU (by omega) (by omega)) ?_) | refine And.intro ⟨rfl, leb rfl⟩ ?_ | refine stI (by repeat first | exact .hd | apply In.tl) ?_ | refine And.intro ⟨rfl, leb rfl, rfl⟩ ?_ | refine ⟨⟨by omega, by first | omega | exact ltm (by omega)⟩, lenm (by intro _; rfl), ?_⟩ | refine Exists.intro _ (And.intro (getm (by omega) (by first | omega | exact ltm_inv (by omega))) ?_) | refine And.intro (leb rfl) ?_ | refine And.intro (show (0 : Int) ≤ _ by omega) ?_ | refine slI (by repeat first | exact .hd | apply In.tl) ?_ | refine apI (by repeat first | exact .hd | apply In.tl) ?_ | refine mpI (by repeat first | exact .hd | apply In.tl) ?_ | refine And.intro ⟨by decide, by decide⟩ ?_ | refine And.intro (by decide) ?_ | refine .inr ⟨⟨leb rfl, leb rfl, rfl, rfl⟩, ?_⟩ | refine ⟨⟨by omega, by omega⟩, rfl, ?_⟩ | refine ⟨⟨rfl, by omega, rfl, by (show _ + 1 < 4294967296); omega, rfl⟩, .inr ⟨leb rfl, ?_⟩⟩ | refine Exists.intro _ (And.intro (find_C _ _) ?_) | refine Exists.intro _ (And.intro (put_C _ _ _) ?_) | fail)
        · refine no _ (chk_high h0 h1 hI hmem ?_)
          simp only [highB, List.any_eq_true, decide_eq_true_eq]
          exact ⟨_, nthD_mem (by omega) hj1, hc⟩
        · refine ⟨_, by omega, Sub.take 1, rfl, fun l hl => ?_, .mk rfl⟩
          rcases mem_take_succ hj' hl with hl | rfl
          · exact hJ l hl
          · rw [← nthD_nat hj']; exact Decidable.not_not.1 hc
      · have e : j = (nthD s.runs k).fac.length := by omega
        rw [e, List.take_length] at hJ
        repeat' ((conv => whnf); first | refine And.intro rfl ?_ | refine ldI (by repeat first | exact .hd | apply In.tl) ?_ | refine And.intro (fun hc => ?_) (fun hc => ?_) | refine Exists.intro _ (And.intro (w64 (by omega) (by omega)) ?_) | refine Exists.intro _ (And.intro (wU (by omega) (by omega)) ?_) | refine And.intro ⟨rfl, leb rfl⟩ ?_ | refine stI (by repeat first | exact .hd | apply In.tl) ?_ | refine And.intro ⟨rfl, leb rfl, rfl⟩ ?_ | refine ⟨⟨by omega, by first | omega | exact ltm (by omega)⟩, lenm (by intro _; rfl), ?_⟩ | refine Exists.intro _ (And.intro (getm (by omega) (by first | omega | exact ltm_inv (by omega))) ?_) | refine And.intro (leb rfl) ?_ | refine And.intro (show (0 : Int) ≤ _ by omega) ?_ | refine slI (by repeat first | exact .hd | apply In.tl) ?_ | refine apI (by repeat first | exact .hd | apply In.tl) ?_ | refine mpI (by repeat first | exact .hd | apply In.tl) ?_ | refine And.intro ⟨by decide, by decide⟩ ?_ | refine And.intro (by decide) ?_ | refine .inr ⟨⟨leb rfl, leb rfl, rfl, rfl⟩, ?_⟩ | refine ⟨⟨by omega, by omega⟩, rfl, ?_⟩ | refine ⟨⟨rfl, by omega, rfl, by (show _ + 1 < 4294967296); omega, rfl⟩, .inr ⟨leb rfl, ?_⟩⟩ | refine Exists.intro _ (And.intro (find_C _ _) ?_) | refine Exists.intro _ (And.intro (put_C _ _ _) ?_) | fail)
        refine ⟨_, hk', .refl _, rfl, fun r hr => ?_, .mk rfl⟩
        rcases mem_take_succ hk' hr with hr | rfl
        · exact hH r hr
        · rw [← hnd]
          simp only [highB, List.any_eq_false, decide_eq_true_eq, Decidable.not_not]
          exact hJ
    · have h5 := ltm_not hc
      obtain rfl : k = s.runs.length := by omega
      rw [List.take_length] at hH
      repeat' ((conv => whnf); first | refine And.intro rfl ?_ | refine ldI (by repeat first | exact .hd | apply In.tl) ?_ | refine And.intro (fun hc => ?_) (fun hc => ?_) | refine Exists.intro _ (And.intro (w64 (by omega) (by omega)) ?_) | refine Exists.intro _ (And.intro (wU (by omega) (by omega)) ?_) | refine And.intro ⟨rfl, leb rfl⟩ ?_ | refine stI (by repeat first | exact .hd | apply In.tl) ?_ | refine And.intro ⟨rfl, leb rfl, rfl⟩ ?_ | refine ⟨⟨by omega, by first | omega | exact ltm (by omega)⟩, lenm (by intro _; rfl), ?_⟩ | refine Exists.intro _ (And.intro (getm (by omega) (by first | omega | exact ltm_inv (by omega))) ?_) | refine And.intro (leb rfl) ?_ | refine And.intro (show (0 : Int) ≤ _ by omega) ?_ | refine slI (by repeat first | exact .hd | apply In.tl) ?_ | refine apI (by repeat first | exact .hd | apply In.tl) ?_ | refine mpI (by repeat first | exact .hd | apply In.tl) ?_ | refine And.intro ⟨by decide, by decide⟩ ?_ | refine And.intro (by decide) ?_ | refine .inr ⟨⟨leb rfl, leb rfl, rfl, rfl⟩, ?_⟩ | refine ⟨⟨by omega, by omega⟩, rfl, ?_⟩ | refine ⟨⟨rfl, by omega, rfl, by (show _ + 1 < 4294967296); omega, rfl⟩, .inr ⟨leb rfl, ?_⟩⟩ | refine Exists.intro _ (And.intro (find_C _ _) ?_) | refine Exists.intro _ (And.intro (put_C _ _ _) ?_) | fail)
      exact no _ (chk_fine h0 h1 hI h3 hH)
def g32 : List AV → Option (List AV) := con (.one (.agg sysK)) Small fun s => [.int .i64 (chkS s)]
theorem c32 : IsoOk Try.prog 32 g32 := iso_con mixed nilOk Try.func32 cir32 fun s hs => ⟨81, _, rfl, run32 hs (by decide) fun A => fin1 rfl⟩
theorem k32 {T : Tab} (hT : Go.Ai.look T 32 = some ⟨.iso, g32⟩) {s : SysD} (h : Small s) {c : Int} (hc : chkS s = c) : (hands T).iso 32 [.agg (sysC s)] = some [.int .i64 c] := hat hT (con_at (x := s) h rfl (by rw [hc]))
end Go.Proofs.Ytlgbbabijifflaa.sys
set_option linter.unusedVariables false
set_option linter.unusedSimpArgs false
namespace Go.Ai
open Go.RowKit
def sameO (o o' : Option LObj) : Prop := o' = o ∨ ∃ (cs : List AV) (k g : Nat) (r f f' : Bool), o = some (.cells cs k g r f) ∧ o' = some (.cells cs k g r f')
structure RepU (F A : Ah) (H : Hp) : Prop where
  nodup : ((A ++ F).map Prod.fst).Nodup
  out : ∀ p ∈ F, H[p.1]? = some p.2
  inn : ∀ p ∈ A, ∃ o', H[p.1]? = some o' ∧ sameO p.2 o'
theorem RepU.of {F A : Ah} {H : Hp} (h : RepF F A H) : RepU F A H := ⟨h.nodup, fun p hp => Rep.get h p (List.mem_append_right _ hp), fun p hp => ⟨_, Rep.get h p (List.mem_append_left _ hp), .inl rfl⟩⟩
theorem RepU.rest {F A : Ah} {H : Hp} (h : RepU F A H) : RepF F [] H := by
  refine ⟨?_, fun p hp => h.out p hp⟩
  have h1 := h.nodup
  rw [List.map_append] at h1
  exact (List.nodup_append.1 h1).2.1
theorem RepU.at {F A : Ah} {H : Hp} (h : RepU F A H) {l k g : Nat} {cs : List AV} {r f : Bool} (hm : (l, some (LObj.cells cs k g r f)) ∈ A) : ∃ f', H[l]? = some (some (.cells cs k g r f')) := by
  obtain ⟨o', h1, h2⟩ := h.inn _ hm
  rcases h2 with rfl | ⟨cs', k', g', r', f1, f2, e1, rfl⟩
  · exact ⟨f, h1⟩
  · simp only [Option.some.injEq, LObj.cells.injEq] at e1
    obtain ⟨rfl, rfl, rfl, rfl, rfl⟩ := e1
    exact ⟨f2, h1⟩
theorem RepU.mark {F A : Ah} {H : Hp} (h : RepU F A H) {l k g : Nat} {cs : List AV} {r f : Bool} (hm : (l, some (LObj.cells cs k g r f)) ∈ A) : RepU F A (H.set l (some (.cells cs k g r true))) := by
  obtain ⟨f', hl⟩ := h.at hm
  have hlt : l < H.length := (List.getElem?_eq_some_iff.1 hl).1
  refine ⟨h.nodup, fun p hp => ?_, fun p hp => ?_⟩
  · have hne : l ≠ p.1 := fun e => by
      have h1 := h.nodup
      rw [List.map_append, List.nodup_append] at h1
      exact h1.2.2 l (List.mem_map.2 ⟨_, hm, rfl⟩) p.1 (List.mem_map.2 ⟨p, hp, rfl⟩) e
    rw [List.getElem?_set_ne hne]
    exact h.out p hp
  · by_cases e : l = p.1
    · subst e
      obtain ⟨o', h1, h2⟩ := h.inn p hp
      rw [hl, Option.some.injEq] at h1
      subst h1
      refine ⟨some (.cells cs k g r true), by rw [List.getElem?_set_self hlt], ?_⟩
      rcases h2 with e1 | ⟨cs', k', g', r', f1, f2, e1, e2⟩
      · exact .inr ⟨cs, k, g, r, f', true, e1.symm, rfl⟩
      · simp only [Option.some.injEq, LObj.cells.injEq] at e2
        obtain ⟨rfl, rfl, rfl, rfl, rfl⟩ := e2
        exact .inr ⟨cs, k, g, r, f1, true, e1, rfl⟩
    · rw [List.getElem?_set_ne e]
      exact h.inn p hp
def FzU (d : Nat) (A : Ah) (v y : AV) : Prop := ∀ F H, RepU F A H → ∃ H', freezeV d H v = some (y, H') ∧ RepU F A H'
def FzUL (d : Nat) (A : Ah) (vs ys : List AV) : Prop := ∀ F H, RepU F A H → ∃ H', mapH (freezeV d) H vs = some (ys, H') ∧ RepU F A H'
def FzULL (d : Nat) (A : Ah) (vs ys : List (List AV)) : Prop := ∀ F H, RepU F A H → ∃ H', mapH (mapH (freezeV d)) H vs = some (ys, H') ∧ RepU F A H'
section
variable {d : Nat} {A : Ah}
theorem FzUL.nil : FzUL d A [] [] := fun _ H h => ⟨H, rfl, h⟩
theorem FzUL.cons {v y : AV} {vs ys : List AV} (h : FzU d A v y) (k : FzUL d A vs ys) : FzUL d A (v :: vs) (y :: ys) := fun F H hR => by
  obtain ⟨H1, e1, r1⟩ := h F H hR
  obtain ⟨H2, e2, r2⟩ := k F H1 r1
  exact ⟨H2, by simp only [mapH, e1, e2], r2⟩
theorem FzULL.nil : FzULL d A [] [] := fun _ H h => ⟨H, rfl, h⟩
theorem FzULL.cons {v y : List AV} {vs ys : List (List AV)} (h : FzUL d A v y) (k : FzULL d A vs ys) : FzULL d A (v :: vs) (y :: ys) := fun F H hR => by
  obtain ⟨H1, e1, r1⟩ := h F H hR
  obtain ⟨H2, e2, r2⟩ := k F H1 r1
  exact ⟨H2, by simp only [mapH, e1, e2], r2⟩
theorem FzU.self {v : AV} (h : selfV v = true) : FzU (d + 1) A v v := fun F H hR => ⟨H, freeze_self h, hR⟩
theorem FzU.nilsl : FzU (d + 1) A .nilsl (.list []) := fun F H hR => ⟨H, rfl, hR⟩
theorem FzU.mt : FzU (d + 1) A .mt (.list []) := fun F H hR => ⟨H, rfl, hR⟩
theorem FzU.mtn : FzU (d + 1) A .mtn (.list []) := fun F H hR => ⟨H, rfl, hR⟩
theorem FzU.agg {cs ys : List AV} (h : FzUL d A cs ys) : FzU (d + 1) A (.agg cs) (.agg ys) := fun F H hR => by
  obtain ⟨H1, e1, r1⟩ := h F H hR
  exact ⟨H1, by simp only [freezeV, e1, Option.map_some], r1⟩
theorem FzU.func {f : Nat} {cs ys : List AV} (h : FzUL d A cs ys) : FzU (d + 1) A (.func f cs) (.func f ys) := fun F H hR => by
  obtain ⟨H1, e1, r1⟩ := h F H hR
  exact ⟨H1, by simp only [freezeV, e1, Option.map_some], r1⟩
theorem FzU.ref {l o n g k k1 : Nat} {cs c : List AV} {row f : Bool} {es : List (List AV)} (hm : (l, some (LObj.cells cs k1 g row f)) ∈ A) (hc : cut cs o (n * k) = some c) (he : FzULL d A (chunk k n c) es) : FzU (d + 1) A (.ref l o n g k) (.list es) := fun F H hR => by
  obtain ⟨f', hl⟩ := hR.at hm
  obtain ⟨H1, e1, r1⟩ := he F _ (hR.mark hm)
  refine ⟨H1, ?_, r1⟩
  rw [freezeV_ref, getC_of hl]
  simp only [Option.bind_some, if_true, hc, fSet_eq, e1, fV0_eq]
theorem FzU.ptr {l o g k1 : Nat} {cs ys : List AV} {row f : Bool} (hm : (l, some (LObj.cells cs k1 g row f)) ∈ A) (he : FzUL d A cs ys) : FzU (d + 1) A (.ptr l o g) (.fptr [ys] 0 o) := fun F H hR => by
  obtain ⟨f', hl⟩ := hR.at hm
  obtain ⟨H1, e1, r1⟩ := he F _ (hR.mark hm)
  refine ⟨H1, ?_, r1⟩
  rw [freezeV_ptr, getC_of hl]
  simp only [Option.bind_some, if_true, fSet_eq, e1, fLA_eq]
theorem FzUL.selfs : ∀ {vs : List AV}, vs.all selfV = true → FzUL (d + 1) A vs vs
  | [], _ => .nil
  | v :: vs, h => by
    simp only [List.all_cons, Bool.and_eq_true] at h
    exact .cons (.self h.1) (FzUL.selfs h.2)
theorem FzULL.selfs : ∀ {vs : List (List AV)}, (∀ e ∈ vs, e.all selfV = true) → FzULL (d + 1) A vs vs
  | [], _ => .nil
  | v :: vs, h => .cons (.selfs (h v (by simp))) (FzULL.selfs fun e he => h e (by simp [he]))
theorem FzU.row {α : Type} {f : α → List AV} {k : Nat} (hf : ∀ x, (f x).length = k) (hs : ∀ x, (f x).all selfV = true) {xs : List α} {l g k1 n : Nat} {row fr : Bool} (hn : xs.length = n) (hm : (l, some (LObj.cells (flatC f xs) k1 g row fr)) ∈ A) : FzU (d + 2) A (.ref l 0 n g k) (.list (xs.map f)) := by
  subst hn
  refine .ref hm (cut_all (flatC_len hf xs)) ?_
  rw [flatC_chunk hf xs]
  refine .selfs fun e he => ?_
  obtain ⟨x, _, rfl⟩ := List.mem_map.1 he
  exact hs x
theorem FzU.grown {α : Type} {f : α → List AV} {k : Nat} (hf : ∀ x, (f x).length = k) (hs : ∀ x, (f x).all selfV = true) {xs : List α} {lp : Nat} (hm : ∀ p ∈ rowA lp k (flatC f xs) xs.length, p ∈ A) : FzU (d + 2) A (rowV lp k xs.length) (.list (xs.map f)) := by
  cases hx : xs with
  | nil => exact .nilsl
  | cons x r =>
    rw [← hx]
    obtain ⟨j, hj⟩ : ∃ j, xs.length = j + 1 := ⟨r.length, by simp [hx]⟩
    rw [hj]
    exact .row hf hs hj (hm _ (by rw [hj]; exact List.mem_singleton.2 rfl))
theorem FzULL.map {β : Type} {p q : β → List AV} {xs : List β} (h : ∀ x ∈ xs, FzUL d A (p x) (q x)) : FzULL d A (xs.map p) (xs.map q) := by
  induction xs with
  | nil => exact .nil
  | cons x xs ih => exact .cons (h x (by simp)) (ih fun y hy => h y (by simp [hy]))
end
theorem FzUL.frz {X R : Ah} {vs ys : List AV} (h : FzUL depth X vs ys) : Frz (X ++ R) vs ys R := fun F H hR => by
  obtain ⟨H', e, r⟩ := h (R ++ F) H (.of (by unfold RepF at *; rwa [List.append_assoc] at hR))
  exact ⟨H', e, by have := r.rest; unfold RepF at *; simpa using this⟩
theorem FzUL.frz0 {X : Ah} {vs ys : List AV} (h : FzUL depth X vs ys) : Frz X vs ys [] := by
  have := h.frz (R := [])
  rwa [List.append_nil] at this
theorem FzUL.fin {A : Ah} {vs ys : List AV} (h : FzUL depth A vs ys) : Fin .iso A vs ys := Fin.frz h.frz0
end Go.Ai
set_option linter.unusedVariables false
set_option linter.unusedSimpArgs false
namespace Go.Proofs.Ytlgbbabijifflaa.sys
attribute [local irreducible] Go.Ai.wrapI Go.Ai.arith.bits Go.Ai.shlI Go.Ai.shrI
open Go Go.Ai Go.Proofs.Ytlgbbabijifflaa.L1R
open runs (RunD SysD runC sysC intsC locsC facsC dSys dSys_C dSys_inv chkS chk_ok sysFine numP)
open mdl (ModD modC modK setC setsC mixed nilOk)
theorem iso_le {P : Program} {f : Nat} {g g' : List AV → Option (List AV)} (h : IsoOk P f g) (hw : ∀ args rs, g' args = some rs → g args = some rs) : IsoOk P f g' :=
  ⟨h.1, fun Pr w args vs rs hp ha hg => h.2 Pr w args vs rs hp ha (hw _ _ hg)⟩
def locD (s : SysD) (a : Int) (p : Int × Int) : Int := nthD (nthD (nthD s.runs p.1).loc p.2) a
def facD (s : SysD) (p : Int × Int) : Int := nthD (nthD s.runs p.1).fac p.2
abbrev inLoc (s : SysD) (a : Int) (p : Int × Int) : Prop := 0 ≤ p.1 ∧ p.1 < s.runs.length ∧ 0 ≤ p.2 ∧ p.2 < (nthD s.runs p.1).loc.length ∧ 0 ≤ a ∧ a < (nthD (nthD s.runs p.1).loc p.2).length
def g57 : List AV → Option (List AV) := con (.cons (.agg sysK) (.cons .i64 (.one (.agg ptK)))) (fun x => inLoc x.1 x.2.1 x.2.2) fun x => [.int .i64 (locD x.1 x.2.1 x.2.2)]
set_option maxRecDepth 100000 in
theorem run57 {hd : Hands} {n : Nat} {s : SysD} {a : Int} {p : Int × Int} (h : inLoc s a p) {K : List AV → Ah → Prop} (hK : ∀ A, K [.int .i64 (locD s a p)] A) : aB hd n ir57 (.agg (sysC s) :: .int .i64 a :: .agg (ptC p) :: .undef :: .undef :: .undef :: .undef :: .undef :: .undef :: .undef :: .undef :: .undef :: .undef :: .undef :: .undef :: .undef :: .undef :: .undef :: .undef :: .undef :: .undef :: []) [] K := by
  obtain ⟨h1, h2, h3, h4, h5, h6⟩ := h
  refine ⟨rfl, ?_⟩
  intro l3 hl3
  refine ⟨rfl, ?_⟩
  intro l5 hl5
  repeat' ((conv => whnf); first | refine ⟨rfl, fun hc => ?_, fun hc => ?_⟩ | refine ⟨fun hc => ?_, fun hc => ?_⟩ | refine ⟨rfl, _, w64 (by omega) (by omega), ?_⟩ | refine ⟨_, w64 (by omega) (by omega), ?_⟩ | refine ⟨_, wU (by omega) (by omega), ?_⟩ | refine ⟨rfl, rfl, ?_⟩ | refine And.intro (show (0 : Int) ≤ _ by omega) ?_ | refine ldI (by repeat first | exact .hd | apply In.tl) ?_ | refine stI (by repeat first | exact .hd | apply In.tl) ?_ | refine slI (by repeat first | exact .hd | apply In.tl) ?_ | refine apI (by repeat first | exact .hd | apply In.tl) ?_ | refine mpI (by repeat first | exact .hd | apply In.tl) ?_ | refine ⟨⟨rfl, leb rfl, rfl⟩, ?_⟩ | refine ⟨⟨rfl, leb rfl⟩, ?_⟩ | refine ⟨⟨by decide, by decide⟩, ?_⟩ | refine ⟨rfl, ?_⟩ | refine ⟨leb rfl, ?_⟩ | refine ⟨by decide, ?_⟩ | refine .inr ⟨⟨leb rfl, leb rfl, rfl, rfl⟩, ?_⟩ | refine ⟨⟨by omega, by first | omega | exact ltm (by omega)⟩, lenm (by intro _; rfl), ?_⟩ | refine ⟨_, getm (by omega) (by first | omega | exact ltm_inv (by omega)), ?_⟩ | refine ⟨⟨by omega, by omega⟩, rfl, ?_⟩ | refine ⟨⟨rfl, by omega, rfl, by (show _ + 1 < 4294967296); omega, rfl⟩, .inr ⟨leb rfl, ?_⟩⟩ | refine ⟨_, find_C _ _, ?_⟩ | refine ⟨_, put_C _ _ _, ?_⟩ | fail)
  intro b hb
  repeat' ((conv => whnf); first | refine ⟨rfl, fun hc => ?_, fun hc => ?_⟩ | refine ⟨fun hc => ?_, fun hc => ?_⟩ | refine ⟨rfl, _, w64 (by omega) (by omega), ?_⟩ | refine ⟨_, w64 (by omega) (by omega), ?_⟩ | refine ⟨_, wU (by omega) (by omega), ?_⟩ | refine ⟨rfl, rfl, ?_⟩ | refine And.intro (show (0 : Int) ≤ _ by omega) ?_ | refine ldI (by repeat first | exact .hd | apply In.tl) ?_ | refine stI (by repeat first | exact .hd | apply In.tl) ?_ | refine slI (by repeat first | exact .hd | apply In.tl) ?_ | refine apI (by repeat first | exact .hd | apply In.tl) ?_ | refine mpI (by repeat first | exact .hd | apply In.tl) ?_ | refine ⟨⟨rfl, leb rfl, rfl⟩, ?_⟩ | refine ⟨⟨rfl, leb rfl⟩, ?_⟩ | refine ⟨⟨by decide, by decide⟩, ?_⟩ | refine ⟨rfl, ?_⟩ | refine ⟨leb rfl, ?_⟩ | refine ⟨by decide, ?_⟩ | refine .inr ⟨⟨leb rfl, leb rfl, rfl, rfl⟩, ?_⟩ | refine ⟨⟨by omega, by first | omega | exact ltm (by omega)⟩, lenm (by intro _; rfl), ?_⟩ | refine ⟨_, getm (by omega) (by first | omega | exact ltm_inv (by omega)), ?_⟩ | refine ⟨⟨by omega, by omega⟩, rfl, ?_⟩ | refine ⟨⟨rfl, by omega, rfl, by (show _ + 1 < 4294967296); omega, rfl⟩, .inr ⟨leb rfl, ?_⟩⟩ | refine ⟨_, find_C _ _, ?_⟩ | refine ⟨_, put_C _ _ _, ?_⟩ | fail)
  exact hK _
theorem c57 : IsoOk Try.prog 57 g57 := iso_con mixed nilOk Try.func57 cir57 fun x hx => ⟨0, _, rfl, run57 hx fun A => fin1 rfl⟩
theorem k57 {T : Tab} (hT : Go.Ai.look T 57 = some ⟨.iso, g57⟩) {s : SysD} {a : Int} {p : Int × Int} (h : inLoc s a p) : (hands T).iso 57 [.agg (sysC s), .int .i64 a, .agg (ptC p)] = some [.int .i64 (locD s a p)] := hat hT (con_at (x := (s, a, p)) h rfl rfl)
set_option maxRecDepth 100000 in
theorem run76 {hd : Hands} {n : Nat} {s : SysD} {a : Int} {p : Int × Int} (h : inLoc s a p) {K : List AV → Ah → Prop} (hK : ∀ A, K [.int .i64 (locD s a p)] A) : aB hd n ir76 (.agg (sysC s) :: .int .i64 a :: .agg (ptC p) :: .undef :: .undef :: .undef :: .undef :: .undef :: .undef :: .undef :: .undef :: .undef :: .undef :: .undef :: .undef :: .undef :: .undef :: .undef :: .undef :: .undef :: .undef :: []) [] K := run57 h hK
theorem c76 : IsoOk Try.prog 76 g57 := iso_con mixed nilOk Try.func76 cir76 fun x hx => ⟨0, _, rfl, run76 hx fun A => fin1 rfl⟩
theorem k76 {T : Tab} (hT : Go.Ai.look T 76 = some ⟨.iso, g57⟩) {s : SysD} {a : Int} {p : Int × Int} (h : inLoc s a p) : (hands T).iso 76 [.agg (sysC s), .int .i64 a, .agg (ptC p)] = some [.int .i64 (locD s a p)] := hat hT (con_at (x := (s, a, p)) h rfl rfl)
def pl (L c : Nat) : List (Int × Int) := (List.range c).map fun i => (((i / L : Nat) : Int), ((i % L : Nat) : Int))
theorem pl_len (L c : Nat) : (pl L c).length = c := by simp [pl]
theorem pl_succ (L c : Nat) : pl L (c + 1) = pl L c ++ [(((c / L : Nat) : Int), ((c % L : Nat) : Int))] := by simp [pl, List.range_succ]
theorem pl_step {L k t : Nat} (ht : t < L) : pl L (k * L + t + 1) = pl L (k * L + t) ++ [((k : Int), (t : Int))] := by
  have e1 : (k * L + t) / L = k := by rw [Nat.mul_comm, Nat.mul_add_div (by omega), Nat.div_eq_of_lt ht]; omega
  have e2 : (k * L + t) % L = t := by rw [Nat.mul_comm, Nat.mul_add_mod]; exact Nat.mod_eq_of_lt ht
  rw [pl_succ, e1, e2]
def ptsOf (s : SysD) : List (Int × Int) := pl s.len.toNat (s.runs.length * s.len.toNat)
def Valid (s : SysD) : Prop := Small s ∧ chkS s = 0
instance (s : SysD) : Decidable (Valid s) := by unfold Valid; infer_instance
theorem Valid.fine {s : SysD} (h : Valid s) : sysFine s := by
  obtain ⟨⟨h1, h2, h3⟩, h0⟩ := h
  obtain ⟨q1, q2, q3, q4, q5, q6, q7, q8, q9⟩ := chk_ok h0
  exact ⟨h1, q7, fun r hr => by have := h3 r hr; simp only [most]; omega⟩
def g56 : List AV → Option (List AV) := con (.one (.agg sysK)) Valid fun s => [.list ((ptsOf s).map ptC)]
theorem ptsC_eq {s : SysD} (h : chkS s = 0) : runs.ptsC s.len.toNat (numP s) = (ptsOf s).map ptC := by
  simp only [numP, h, if_true, runs.ptsC, ptsOf, pl, List.map_map]
  rfl
theorem c56 : IsoOk Try.prog 56 g56 := iso_con mixed runs.okD Try.func56 cir56 fun s hs => ⟨_, _, rfl, runs.run56 (n := 0) hs.fine fun rs' A h => by rw [ptsC_eq hs.2] at h; exact h⟩
theorem k56 {T : Tab} (hT : Go.Ai.look T 56 = some ⟨.iso, g56⟩) {s : SysD} (h : Valid s) : (hands T).iso 56 [.agg (sysC s)] = some [.list ((ptsOf s).map ptC)] := hat hT (con_at (x := s) h rfl rfl)
def U1 : Tab := [(32, ⟨.iso, g32⟩)]
theorem okU1 : HandsOk Try.prog (hands U1) := hands_ok (.cons c32 .nil)
set_option maxRecDepth 100000 in
set_option maxHeartbeats 1000000 in
theorem run63 {n : Nat} {s : SysD} (hs : Valid s) (hn : 80 < n) {K : List AV → Ah → Prop} (hK : ∀ rs' A, Fin .iso A rs' [.list ((ptsOf s).map ptC)] → K rs' A) : aB (hands U1) n ir63 (.agg (sysC s) :: .undef :: .undef :: .undef :: .undef :: .undef :: .undef :: .undef :: .undef :: .undef :: .undef :: .undef :: .undef :: .undef :: .undef :: .undef :: .undef :: .undef :: .undef :: .undef :: .undef :: .undef :: .undef :: .undef :: .undef :: .undef :: .undef :: .undef :: .undef :: []) [] K := by
  obtain ⟨q1, q2, q3, q4, q5, q6, q7, q8, q9⟩ := chk_ok hs.2
  obtain ⟨L, hL⟩ : ∃ L : Nat, s.len = L := ⟨s.len.toNat, by omega⟩
  have hLn : s.len.toNat = L := by omega
  refine ⟨rfl, ?_⟩
  intro l1 hl1
  repeat' ((conv => whnf); first | refine ⟨rfl, fun hc => ?_, fun hc => ?_⟩ | refine ⟨fun hc => ?_, fun hc => ?_⟩ | refine ⟨rfl, _, w64 (by omega) (by omega), ?_⟩ | refine ⟨_, w64 (by omega) (by omega), ?_⟩ | refine ⟨_, wU (by omega) (by omega), ?_⟩ | refine ⟨rfl, rfl, ?_⟩ | refine And.intro (show (0 : Int) ≤ _ by omega) ?_ | refine ldI (by repeat first | exact .hd | apply In.tl) ?_ | refine stI (by repeat first | exact .hd | apply In.tl) ?_ | refine slI (by repeat first | exact .hd | apply In.tl) ?_ | refine apI (by repeat first | exact .hd | apply In.tl) ?_ | refine mpI (by repeat first | exact .hd | apply In.tl) ?_ | refine ⟨⟨rfl, leb rfl, rfl⟩, ?_⟩ | refine ⟨⟨rfl, leb rfl⟩, ?_⟩ | refine ⟨⟨by decide, by decide⟩, ?_⟩ | refine ⟨rfl, ?_⟩ | refine ⟨leb rfl, ?_⟩ | refine ⟨by decide, ?_⟩ | refine .inr ⟨⟨leb rfl, leb rfl, rfl, rfl⟩, ?_⟩ | refine ⟨⟨by omega, by first | omega | exact ltm (by omega)⟩, lenm (by intro _; rfl), ?_⟩ | refine ⟨_, getm (by omega) (by first | omega | exact ltm_inv (by omega)), ?_⟩ | refine ⟨⟨by omega, by omega⟩, rfl, ?_⟩ | refine ⟨⟨rfl, by omega, rfl, by (show _ + 1 < 4294967296); omega, rfl⟩, .inr ⟨leb rfl, ?_⟩⟩ | refine ⟨_, find_C _ _, ?_⟩ | refine ⟨_, put_C _ _ _, ?_⟩ | refine ⟨_, _, _, true, fun _ H hR => ⟨H, rfl, hR⟩, k32 rfl hs.1 hs.2, rfl, ?_⟩ | refine ⟨_, _, _, false, fun _ H hR => ⟨H, rfl, hR⟩, k32 rfl hs.1 hs.2, rfl, ?_⟩ | fail)
  · exact absurd rfl hc
  refine aLoop_up (fun k env A => ∃ lp, A = [(l1, some (.cells (sysC s) 0 0 false false))] ++ rowA lp 2 (flatC ptC (pl L (k * L))) (k * L) ∧ IEnv (fun g => (g 0 :: .ptr l1 0 0 :: g 2 :: rowV lp 2 (k * L) :: .int .i64 (k : Int) :: g 5 :: g 6 :: g 7 :: g 8 :: g 9 :: g 10 :: g 11 :: g 12 :: g 13 :: g 14 :: g 15 :: g 16 :: g 17 :: g 18 :: g 19 :: g 20 :: g 21 :: g 22 :: g 23 :: g 24 :: g 25 :: g 26 :: g 27 :: g 28 :: [])) env) s.runs.length (A0 := [(l1, some (.cells (sysC s) 0 0 false false))] ++ rowA 0 2 (flatC ptC (pl L (0 * L))) (0 * L)) (by rw [Nat.zero_mul]; exact .refl _) ⟨0, rfl, .mk (by rw [Nat.zero_mul]; rfl)⟩ (by omega) ?_
  rintro k env A hk ⟨lp, rfl, ⟨g, rfl⟩⟩
  (repeat' ((conv => whnf); first | refine ⟨rfl, _, w64 (by omega) (by omega), ?_⟩ | refine ⟨_, w64 (by omega) (by omega), ?_⟩ | refine ⟨_, wU (by omega) (by omega), ?_⟩ | refine ⟨rfl, rfl, ?_⟩ | refine And.intro (show (0 : Int) ≤ _ by omega) ?_ | refine ldI (by repeat first | exact .hd | apply In.tl) ?_ | refine stI (by repeat first | exact .hd | apply In.tl) ?_ | refine slI (by repeat first | exact .hd | apply In.tl) ?_ | refine apI (by repeat first | exact .hd | apply In.tl) ?_ | refine mpI (by repeat first | exact .hd | apply In.tl) ?_ | refine ⟨⟨rfl, leb rfl, rfl⟩, ?_⟩ | refine ⟨⟨rfl, leb rfl⟩, ?_⟩ | refine ⟨⟨by decide, by decide⟩, ?_⟩ | refine ⟨rfl, ?_⟩ | refine ⟨leb rfl, ?_⟩ | refine ⟨by decide, ?_⟩ | refine .inr ⟨⟨leb rfl, leb rfl, rfl, rfl⟩, ?_⟩ | refine ⟨⟨by omega, by first | omega | exact ltm (by omega)⟩, lenm (by intro _; rfl), ?_⟩ | refine ⟨_, getm (by omega) (by first | omega | exact ltm_inv (by omega)), ?_⟩ | refine ⟨⟨by omega, by omega⟩, rfl, ?_⟩ | refine ⟨⟨rfl, by omega, rfl, by (show _ + 1 < 4294967296); omega, rfl⟩, .inr ⟨leb rfl, ?_⟩⟩ | refine ⟨_, find_C _ _, ?_⟩ | refine ⟨_, put_C _ _ _, ?_⟩ | fail)); refine ⟨fun hc => ?_, fun hc => ?_⟩
  · have hk' : k < s.runs.length := by have := ltm_inv hc; omega
    repeat' ((conv => whnf); first | refine ⟨rfl, fun hc => ?_, fun hc => ?_⟩ | refine ⟨fun hc => ?_, fun hc => ?_⟩ | refine ⟨rfl, _, w64 (by omega) (by omega), ?_⟩ | refine ⟨_, w64 (by omega) (by omega), ?_⟩ | refine ⟨_, wU (by omega) (by omega), ?_⟩ | refine ⟨rfl, rfl, ?_⟩ | refine And.intro (show (0 : Int) ≤ _ by omega) ?_ | refine ldI (by repeat first | exact .hd | apply In.tl) ?_ | refine stI (by repeat first | exact .hd | apply In.tl) ?_ | refine slI (by repeat first | exact .hd | apply In.tl) ?_ | refine apI (by repeat first | exact .hd | apply In.tl) ?_ | refine mpI (by repeat first | exact .hd | apply In.tl) ?_ | refine ⟨⟨rfl, leb rfl, rfl⟩, ?_⟩ | refine ⟨⟨rfl, leb rfl⟩, ?_⟩ | refine ⟨⟨by decide, by decide⟩, ?_⟩ | refine ⟨rfl, ?_⟩ | refine ⟨leb rfl, ?_⟩ | refine ⟨by decide, ?_⟩ | refine .inr ⟨⟨leb rfl, leb rfl, rfl, rfl⟩, ?_⟩ | refine ⟨⟨by omega, by first | omega | exact ltm (by omega)⟩, lenm (by intro _; rfl), ?_⟩ | refine ⟨_, getm (by omega) (by first | omega | exact ltm_inv (by omega)), ?_⟩ | refine ⟨⟨by omega, by omega⟩, rfl, ?_⟩ | refine ⟨⟨rfl, by omega, rfl, by (show _ + 1 < 4294967296); omega, rfl⟩, .inr ⟨leb rfl, ?_⟩⟩ | refine ⟨_, find_C _ _, ?_⟩ | refine ⟨_, put_C _ _ _, ?_⟩ | fail)
    refine aLoop_up (fun t env A => ∃ lp, A = [(l1, some (.cells (sysC s) 0 0 false false))] ++ rowA lp 2 (flatC ptC (pl L (k * L + t))) (k * L + t) ∧ IEnv (fun g => (g 0 :: .ptr l1 0 0 :: g 2 :: rowV lp 2 (k * L + t) :: .int .i64 (k : Int) :: .int .i64 (t : Int) :: g 6 :: g 7 :: g 8 :: g 9 :: g 10 :: g 11 :: g 12 :: g 13 :: g 14 :: g 15 :: g 16 :: g 17 :: g 18 :: g 19 :: g 20 :: g 21 :: g 22 :: g 23 :: g 24 :: g 25 :: g 26 :: g 27 :: g 28 :: [])) env) L (.refl _) ⟨lp, rfl, .mk rfl⟩ (by omega) ?_
    rintro t env A ht ⟨lp, rfl, ⟨g, rfl⟩⟩
    (repeat' ((conv => whnf); first | refine ⟨rfl, _, w64 (by omega) (by omega), ?_⟩ | refine ⟨_, w64 (by omega) (by omega), ?_⟩ | refine ⟨_, wU (by omega) (by omega), ?_⟩ | refine ⟨rfl, rfl, ?_⟩ | refine And.intro (show (0 : Int) ≤ _ by omega) ?_ | refine ldI (by repeat first | exact .hd | apply In.tl) ?_ | refine stI (by repeat first | exact .hd | apply In.tl) ?_ | refine slI (by repeat first | exact .hd | apply In.tl) ?_ | refine apI (by repeat first | exact .hd | apply In.tl) ?_ | refine mpI (by repeat first | exact .hd | apply In.tl) ?_ | refine ⟨⟨rfl, leb rfl, rfl⟩, ?_⟩ | refine ⟨⟨rfl, leb rfl⟩, ?_⟩ | refine ⟨⟨by decide, by decide⟩, ?_⟩ | refine ⟨rfl, ?_⟩ | refine ⟨leb rfl, ?_⟩ | refine ⟨by decide, ?_⟩ | refine .inr ⟨⟨leb rfl, leb rfl, rfl, rfl⟩, ?_⟩ | refine ⟨⟨by omega, by first | omega | exact ltm (by omega)⟩, lenm (by intro _; rfl), ?_⟩ | refine ⟨_, getm (by omega) (by first | omega | exact ltm_inv (by omega)), ?_⟩ | refine ⟨⟨by omega, by omega⟩, rfl, ?_⟩ | refine ⟨⟨rfl, by omega, rfl, by (show _ + 1 < 4294967296); omega, rfl⟩, .inr ⟨leb rfl, ?_⟩⟩ | refine ⟨_, find_C _ _, ?_⟩ | refine ⟨_, put_C _ _ _, ?_⟩ | fail)); refine ⟨fun hc => ?_, fun hc => ?_⟩
    · have ht' : t < L := by omega
      have hkL : k * L + t < 64 * 17 := by
        have : k * L ≤ 63 * 16 := Nat.mul_le_mul (by omega) (by omega)
        omega
      have hst := pl_step (k := k) ht'
      have hfl := flatC_len (f := ptC) (k := 2) (fun _ => rfl) (pl L (k * L + t))
      rw [pl_len] at hfl
      have he : k * L + (t + 1) = k * L + t + 1 := rfl
      rw [he]
      generalize k * L + t = c at *
      cases c with
      | zero =>
        repeat' ((conv => whnf); first | refine ⟨rfl, fun hc => ?_, fun hc => ?_⟩ | refine ⟨fun hc => ?_, fun hc => ?_⟩ | refine ⟨rfl, _, w64 (by omega) (by omega), ?_⟩ | refine ⟨_, w64 (by omega) (by omega), ?_⟩ | refine ⟨_, wU (by omega) (by omega), ?_⟩ | refine ⟨rfl, rfl, ?_⟩ | refine And.intro (show (0 : Int) ≤ _ by omega) ?_ | refine ldI (by repeat first | exact .hd | apply In.tl) ?_ | refine stI (by repeat first | exact .hd | apply In.tl) ?_ | refine slI (by repeat first | exact .hd | apply In.tl) ?_ | refine apI (by repeat first | exact .hd | apply In.tl) ?_ | refine mpI (by repeat first | exact .hd | apply In.tl) ?_ | refine ⟨⟨rfl, leb rfl, rfl⟩, ?_⟩ | refine ⟨⟨rfl, leb rfl⟩, ?_⟩ | refine ⟨⟨by decide, by decide⟩, ?_⟩ | refine ⟨rfl, ?_⟩ | refine ⟨leb rfl, ?_⟩ | refine ⟨by decide, ?_⟩ | refine .inr ⟨⟨leb rfl, leb rfl, rfl, rfl⟩, ?_⟩ | refine ⟨⟨by omega, by first | omega | exact ltm (by omega)⟩, lenm (by intro _; rfl), ?_⟩ | refine ⟨_, getm (by omega) (by first | omega | exact ltm_inv (by omega)), ?_⟩ | refine ⟨⟨by omega, by omega⟩, rfl, ?_⟩ | refine ⟨⟨rfl, by omega, rfl, by (show _ + 1 < 4294967296); omega, rfl⟩, .inr ⟨leb rfl, ?_⟩⟩ | refine ⟨_, find_C _ _, ?_⟩ | refine ⟨_, put_C _ _ _, ?_⟩ | fail)
        intro lq hlq
        repeat' ((conv => whnf); first | refine ⟨rfl, fun hc => ?_, fun hc => ?_⟩ | refine ⟨fun hc => ?_, fun hc => ?_⟩ | refine ⟨rfl, _, w64 (by omega) (by omega), ?_⟩ | refine ⟨_, w64 (by omega) (by omega), ?_⟩ | refine ⟨_, wU (by omega) (by omega), ?_⟩ | refine ⟨rfl, rfl, ?_⟩ | refine And.intro (show (0 : Int) ≤ _ by omega) ?_ | refine ldI (by repeat first | exact .hd | apply In.tl) ?_ | refine stI (by repeat first | exact .hd | apply In.tl) ?_ | refine slI (by repeat first | exact .hd | apply In.tl) ?_ | refine apI (by repeat first | exact .hd | apply In.tl) ?_ | refine mpI (by repeat first | exact .hd | apply In.tl) ?_ | refine ⟨⟨rfl, leb rfl, rfl⟩, ?_⟩ | refine ⟨⟨rfl, leb rfl⟩, ?_⟩ | refine ⟨⟨by decide, by decide⟩, ?_⟩ | refine ⟨rfl, ?_⟩ | refine ⟨leb rfl, ?_⟩ | refine ⟨by decide, ?_⟩ | refine .inr ⟨⟨leb rfl, leb rfl, rfl, rfl⟩, ?_⟩ | refine ⟨⟨by omega, by first | omega | exact ltm (by omega)⟩, lenm (by intro _; rfl), ?_⟩ | refine ⟨_, getm (by omega) (by first | omega | exact ltm_inv (by omega)), ?_⟩ | refine ⟨⟨by omega, by omega⟩, rfl, ?_⟩ | refine ⟨⟨rfl, by omega, rfl, by (show _ + 1 < 4294967296); omega, rfl⟩, .inr ⟨leb rfl, ?_⟩⟩ | refine ⟨_, find_C _ _, ?_⟩ | refine ⟨_, put_C _ _ _, ?_⟩ | fail)
        (conv => whnf)
        exact ⟨_, ht', .refl _, lq, by rw [hst, flatC_snoc]; rfl, .mk rfl⟩
      | succ j =>
        repeat' ((conv => whnf); first | refine ⟨rfl, fun hc => ?_, fun hc => ?_⟩ | refine ⟨fun hc => ?_, fun hc => ?_⟩ | refine ⟨rfl, _, w64 (by omega) (by omega), ?_⟩ | refine ⟨_, w64 (by omega) (by omega), ?_⟩ | refine ⟨_, wU (by omega) (by omega), ?_⟩ | refine ⟨rfl, rfl, ?_⟩ | refine And.intro (show (0 : Int) ≤ _ by omega) ?_ | refine ldI (by repeat first | exact .hd | apply In.tl) ?_ | refine stI (by repeat first | exact .hd | apply In.tl) ?_ | refine slI (by repeat first | exact .hd | apply In.tl) ?_ | refine apI (by repeat first | exact .hd | apply In.tl) ?_ | refine mpI (by repeat first | exact .hd | apply In.tl) ?_ | refine ⟨⟨rfl, leb rfl, rfl⟩, ?_⟩ | refine ⟨⟨rfl, leb rfl⟩, ?_⟩ | refine ⟨⟨by decide, by decide⟩, ?_⟩ | refine ⟨rfl, ?_⟩ | refine ⟨leb rfl, ?_⟩ | refine ⟨by decide, ?_⟩ | refine .inr ⟨⟨leb rfl, leb rfl, rfl, rfl⟩, ?_⟩ | refine ⟨⟨by omega, by first | omega | exact ltm (by omega)⟩, lenm (by intro _; rfl), ?_⟩ | refine ⟨_, getm (by omega) (by first | omega | exact ltm_inv (by omega)), ?_⟩ | refine ⟨⟨by omega, by omega⟩, rfl, ?_⟩ | refine ⟨⟨rfl, by omega, rfl, by (show _ + 1 < 4294967296); omega, rfl⟩, .inr ⟨leb rfl, ?_⟩⟩ | refine ⟨_, find_C _ _, ?_⟩ | refine ⟨_, put_C _ _ _, ?_⟩ | fail)
        exact ⟨_, ht', .refl _, lp, by rw [hst, flatC_snoc]; rfl, .mk rfl⟩
    · obtain rfl : t = L := by omega
      have he : (k + 1) * t = k * t + t := Nat.succ_mul k t
      repeat' ((conv => whnf); first | refine ⟨rfl, fun hc => ?_, fun hc => ?_⟩ | refine ⟨fun hc => ?_, fun hc => ?_⟩ | refine ⟨rfl, _, w64 (by omega) (by omega), ?_⟩ | refine ⟨_, w64 (by omega) (by omega), ?_⟩ | refine ⟨_, wU (by omega) (by omega), ?_⟩ | refine ⟨rfl, rfl, ?_⟩ | refine And.intro (show (0 : Int) ≤ _ by omega) ?_ | refine ldI (by repeat first | exact .hd | apply In.tl) ?_ | refine stI (by repeat first | exact .hd | apply In.tl) ?_ | refine slI (by repeat first | exact .hd | apply In.tl) ?_ | refine apI (by repeat first | exact .hd | apply In.tl) ?_ | refine mpI (by repeat first | exact .hd | apply In.tl) ?_ | refine ⟨⟨rfl, leb rfl, rfl⟩, ?_⟩ | refine ⟨⟨rfl, leb rfl⟩, ?_⟩ | refine ⟨⟨by decide, by decide⟩, ?_⟩ | refine ⟨rfl, ?_⟩ | refine ⟨leb rfl, ?_⟩ | refine ⟨by decide, ?_⟩ | refine .inr ⟨⟨leb rfl, leb rfl, rfl, rfl⟩, ?_⟩ | refine ⟨⟨by omega, by first | omega | exact ltm (by omega)⟩, lenm (by intro _; rfl), ?_⟩ | refine ⟨_, getm (by omega) (by first | omega | exact ltm_inv (by omega)), ?_⟩ | refine ⟨⟨by omega, by omega⟩, rfl, ?_⟩ | refine ⟨⟨rfl, by omega, rfl, by (show _ + 1 < 4294967296); omega, rfl⟩, .inr ⟨leb rfl, ?_⟩⟩ | refine ⟨_, find_C _ _, ?_⟩ | refine ⟨_, put_C _ _ _, ?_⟩ | fail)
      exact ⟨_, hk', .refl _, lp, by rw [he], .mk (by rw [he]; rfl)⟩
  · obtain rfl : k = s.runs.length := by have := ltm_not hc; omega
    have hfin := fin_row (B := [(l1, some (LObj.cells (sysC s) 0 0 false false))]) (lp := lp) (f := ptC) (k := 2) (fun _ => rfl) (fun _ => rfl) (pl L (s.runs.length * L))
    rw [pl_len] at hfin
    have hpt : ptsOf s = pl L (s.runs.length * L) := by rw [ptsOf, hLn]
    rw [hpt] at hK
    repeat' ((conv => whnf); first | refine ⟨rfl, fun hc => ?_, fun hc => ?_⟩ | refine ⟨fun hc => ?_, fun hc => ?_⟩ | refine ⟨rfl, _, w64 (by omega) (by omega), ?_⟩ | refine ⟨_, w64 (by omega) (by omega), ?_⟩ | refine ⟨_, wU (by omega) (by omega), ?_⟩ | refine ⟨rfl, rfl, ?_⟩ | refine And.intro (show (0 : Int) ≤ _ by omega) ?_ | refine ldI (by repeat first | exact .hd | apply In.tl) ?_ | refine stI (by repeat first | exact .hd | apply In.tl) ?_ | refine slI (by repeat first | exact .hd | apply In.tl) ?_ | refine apI (by repeat first | exact .hd | apply In.tl) ?_ | refine mpI (by repeat first | exact .hd | apply In.tl) ?_ | refine ⟨⟨rfl, leb rfl, rfl⟩, ?_⟩ | refine ⟨⟨rfl, leb rfl⟩, ?_⟩ | refine ⟨⟨by decide, by decide⟩, ?_⟩ | refine ⟨rfl, ?_⟩ | refine ⟨leb rfl, ?_⟩ | refine ⟨by decide, ?_⟩ | refine .inr ⟨⟨leb rfl, leb rfl, rfl, rfl⟩, ?_⟩ | refine ⟨⟨by omega, by first | omega | exact ltm (by omega)⟩, lenm (by intro _; rfl), ?_⟩ | refine ⟨_, getm (by omega) (by first | omega | exact ltm_inv (by omega)), ?_⟩ | refine ⟨⟨by omega, by omega⟩, rfl, ?_⟩ | refine ⟨⟨rfl, by omega, rfl, by (show _ + 1 < 4294967296); omega, rfl⟩, .inr ⟨leb rfl, ?_⟩⟩ | refine ⟨_, find_C _ _, ?_⟩ | refine ⟨_, put_C _ _ _, ?_⟩ | fail)
    exact hK _ _ hfin
theorem c63 : IsoOk Try.prog 63 g56 := iso_con mixed okU1 Try.func63 cir63 fun s hs => ⟨81, _, rfl, run63 hs (by decide) fun rs' A h => h⟩
theorem k63 {T : Tab} (hT : Go.Ai.look T 63 = some ⟨.iso, g56⟩) {s : SysD} (h : Valid s) : (hands T).iso 63 [.agg (sysC s)] = some [.list ((ptsOf s).map ptC)] := hat hT (con_at (x := s) h rfl rfl)
abbrev ok23 (x : List (Int × Int) × List (Int × Int)) : Prop := x.1.length < most
def g23 : List AV → Option (List AV) := con (.cons (.list ptK) (.one (.list ptK))) ok23 fun x => [.bool (decide (x.1 = x.2))]
set_option maxRecDepth 100000 in
theorem run23 {hd : Hands} {n : Nat} {x y : List (Int × Int)} (hx : x.length < most) (hn : x.length < n) {K : List AV → Ah → Prop} (hK : ∀ A, K [.bool (decide (x = y))] A) : aB hd n ir23 (.list (x.map ptC) :: .list (y.map ptC) :: .undef :: .undef :: .undef :: .undef :: .undef :: .undef :: .undef :: .undef :: .undef :: .undef :: .undef :: .undef :: .undef :: .undef :: .undef :: .undef :: .undef :: .undef :: .undef :: .undef :: .undef :: .undef :: .undef :: .undef :: []) [] K := by
  have hx' : x.length < 4294967296 := hx
  have no : ¬ x = y → ∀ A, K [.bool false] A := fun h A => decide_eq_false h ▸ hK A
  repeat' ((conv => whnf); first | refine ⟨rfl, fun hc => ?_, fun hc => ?_⟩ | refine ⟨fun hc => ?_, fun hc => ?_⟩ | refine ⟨rfl, _, w64 (by omega) (by omega), ?_⟩ | refine ⟨_, w64 (by omega) (by omega), ?_⟩ | refine ⟨_, wU (by omega) (by omega), ?_⟩ | refine ⟨rfl, rfl, ?_⟩ | refine And.intro (show (0 : Int) ≤ _ by omega) ?_ | refine ldI (by repeat first | exact .hd | apply In.tl) ?_ | refine stI (by repeat first | exact .hd | apply In.tl) ?_ | refine slI (by repeat first | exact .hd | apply In.tl) ?_ | refine apI (by repeat first | exact .hd | apply In.tl) ?_ | refine mpI (by repeat first | exact .hd | apply In.tl) ?_ | refine ⟨⟨rfl, leb rfl, rfl⟩, ?_⟩ | refine ⟨⟨rfl, leb rfl⟩, ?_⟩ | refine ⟨⟨by decide, by decide⟩, ?_⟩ | refine ⟨rfl, ?_⟩ | refine ⟨leb rfl, ?_⟩ | refine ⟨by decide, ?_⟩ | refine .inr ⟨⟨leb rfl, leb rfl, rfl, rfl⟩, ?_⟩ | refine ⟨⟨by omega, by first | omega | exact ltm (by omega)⟩, lenm (by intro _; rfl), ?_⟩ | refine ⟨_, getm (by omega) (by first | omega | exact ltm_inv (by omega)), ?_⟩ | refine ⟨⟨by omega, by omega⟩, rfl, ?_⟩ | refine ⟨⟨rfl, by omega, rfl, by (show _ + 1 < 4294967296); omega, rfl⟩, .inr ⟨leb rfl, ?_⟩⟩ | refine ⟨_, find_C _ _, ?_⟩ | refine ⟨_, put_C _ _ _, ?_⟩ | fail)
  · simp only [List.length_map] at hc
    exact no (fun e => hc (by rw [e])) _
  simp only [List.length_map] at hc
  have hl : x.length = y.length := by omega
  refine aLoop_up (fun k env A => A = [] ∧ x.take k = y.take k ∧ IEnv (fun g => (.list (x.map ptC) :: .list (y.map ptC) :: g 2 :: g 3 :: g 4 :: g 5 :: g 6 :: g 7 :: g 8 :: g 9 :: g 10 :: g 11 :: .int .i64 (x.map ptC).length :: .int .i64 (k : Int) :: g 14 :: g 15 :: g 16 :: g 17 :: g 18 :: g 19 :: g 20 :: g 21 :: g 22 :: g 23 :: g 24 :: g 25 :: [])) env) x.length (.refl _) ⟨rfl, rfl, .mk rfl⟩ hn ?_
  rintro k env A hk ⟨rfl, hI, ⟨g, rfl⟩⟩
  refine ⟨rfl, fun h4 => ?_, fun h4 => ?_⟩
  · have h4 := ltm_inv h4
    have hk' : k < x.length := by omega
    repeat' ((conv => whnf); first | refine ⟨rfl, fun hc => ?_, fun hc => ?_⟩ | refine ⟨fun hc => ?_, fun hc => ?_⟩ | refine ⟨rfl, _, w64 (by omega) (by omega), ?_⟩ | refine ⟨_, w64 (by omega) (by omega), ?_⟩ | refine ⟨_, wU (by omega) (by omega), ?_⟩ | refine ⟨rfl, rfl, ?_⟩ | refine And.intro (show (0 : Int) ≤ _ by omega) ?_ | refine ldI (by repeat first | exact .hd | apply In.tl) ?_ | refine stI (by repeat first | exact .hd | apply In.tl) ?_ | refine slI (by repeat first | exact .hd | apply In.tl) ?_ | refine apI (by repeat first | exact .hd | apply In.tl) ?_ | refine mpI (by repeat first | exact .hd | apply In.tl) ?_ | refine ⟨⟨rfl, leb rfl, rfl⟩, ?_⟩ | refine ⟨⟨rfl, leb rfl⟩, ?_⟩ | refine ⟨⟨by decide, by decide⟩, ?_⟩ | refine ⟨rfl, ?_⟩ | refine ⟨leb rfl, ?_⟩ | refine ⟨by decide, ?_⟩ | refine .inr ⟨⟨leb rfl, leb rfl, rfl, rfl⟩, ?_⟩ | refine ⟨⟨by omega, by first | omega | exact ltm (by omega)⟩, lenm (by intro _; rfl), ?_⟩ | refine ⟨_, getm (by omega) (by first | omega | exact ltm_inv (by omega)), ?_⟩ | refine ⟨⟨by omega, by omega⟩, rfl, ?_⟩ | refine ⟨⟨rfl, by omega, rfl, by (show _ + 1 < 4294967296); omega, rfl⟩, .inr ⟨leb rfl, ?_⟩⟩ | refine ⟨_, find_C _ _, ?_⟩ | refine ⟨_, put_C _ _ _, ?_⟩ | fail)
    intro b hb
    repeat' ((conv => whnf); first | refine ⟨rfl, fun hc => ?_, fun hc => ?_⟩ | refine ⟨fun hc => ?_, fun hc => ?_⟩ | refine ⟨rfl, _, w64 (by omega) (by omega), ?_⟩ | refine ⟨_, w64 (by omega) (by omega), ?_⟩ | refine ⟨_, wU (by omega) (by omega), ?_⟩ | refine ⟨rfl, rfl, ?_⟩ | refine And.intro (show (0 : Int) ≤ _ by omega) ?_ | refine ldI (by repeat first | exact .hd | apply In.tl) ?_ | refine stI (by repeat first | exact .hd | apply In.tl) ?_ | refine slI (by repeat first | exact .hd | apply In.tl) ?_ | refine apI (by repeat first | exact .hd | apply In.tl) ?_ | refine mpI (by repeat first | exact .hd | apply In.tl) ?_ | refine ⟨⟨rfl, leb rfl, rfl⟩, ?_⟩ | refine ⟨⟨rfl, leb rfl⟩, ?_⟩ | refine ⟨⟨by decide, by decide⟩, ?_⟩ | refine ⟨rfl, ?_⟩ | refine ⟨leb rfl, ?_⟩ | refine ⟨by decide, ?_⟩ | refine .inr ⟨⟨leb rfl, leb rfl, rfl, rfl⟩, ?_⟩ | refine ⟨⟨by omega, by first | omega | exact ltm (by omega)⟩, lenm (by intro _; rfl), ?_⟩ | refine ⟨_, getm (by omega) (by first | omega | exact ltm_inv (by omega)), ?_⟩ | refine ⟨⟨by omega, by omega⟩, rfl, ?_⟩ | refine ⟨⟨rfl, by omega, rfl, by (show _ + 1 < 4294967296); omega, rfl⟩, .inr ⟨leb rfl, ?_⟩⟩ | refine ⟨_, find_C _ _, ?_⟩ | refine ⟨_, put_C _ _ _, ?_⟩ | fail)
    · rename_i h5
      rw [nthD_nat hk', nthD_nat (by omega)] at hc h5
      exact ⟨_, hk', .refl _, rfl, mdl.take_same hI hk' (by omega) (Prod.ext h5 hc), .mk rfl⟩
    · exact no (fun e => hc (by rw [e])) _
    · exact no (fun e => hc (by rw [e])) _
  · have h4 := ltm_not h4
    obtain rfl : k = x.length := by omega
    have := hK []
    rw [decide_eq_true (mdl.same_of_take hl hI)] at this
    exact this
theorem c23 : IsoOk Try.prog 23 g23 := iso_con mixed nilOk Try.func23 cir23 fun x hx => ⟨_, _, rfl, run23 hx (Nat.lt_succ_self _) fun A => fin1 rfl⟩
theorem k23 {T : Tab} (hT : Go.Ai.look T 23 = some ⟨.iso, g23⟩) {x y : List (Int × Int)} (h : x.length < most) {b : Bool} (hb : decide (x = y) = b) : (hands T).iso 23 [.list (x.map ptC), .list (y.map ptC)] = some [.bool b] := hat hT (con_at (x := (x, y)) h rfl (by rw [hb]))
end Go.Proofs.Ytlgbbabijifflaa.sys
set_option linter.unusedVariables false
set_option linter.unusedSimpArgs false
namespace Go.Ai
open Go.RowKit
theorem aLoop_frame {hd : Hands} {n m : Nat} {c : IC} {env : List AV} {A R : Ah} {Q : Out → List AV → Ah → Prop} (h : aLoop hd n c m env A fun o env A' => Q o env (A' ++ R)) : aLoop hd n c m env (A ++ R) Q := ⟨fun F H hR => by
  obtain ⟨o, s', h1, A', h2, h3⟩ := h.run (R ++ F) H hR.split
  exact ⟨o, s', h1, A' ++ R, h2.join, h3⟩⟩
def nodupB : List Nat → Bool
  | [] => true
  | x :: r => r.all (fun y => !Nat.beq x y) && nodupB r
theorem nodupB_ok : ∀ {l : List Nat}, nodupB l = true → l.Pairwise (· ≠ ·)
  | [], _ => .nil
  | x :: r, h => by
    simp only [nodupB, Bool.and_eq_true, List.all_eq_true, Bool.not_eq_true'] at h
    exact List.pairwise_cons.2 ⟨fun y hy => Nat.ne_of_beq_eq_false (h.1 y hy), nodupB_ok h.2⟩
theorem Sub.picks {A : Ah} (is : List Nat) (h : nodupB is = true) : Sub A (Go.Ai.pick A is) := fun F H hR => by
  refine hR.mono (fun p hp => ?_) ?_
  · obtain ⟨i, _, hi⟩ := List.mem_filterMap.1 hp
    rw [nth_eq] at hi
    exact List.mem_of_getElem? hi
  · unfold Go.Ai.pick
    rw [List.Nodup, List.pairwise_map]
    refine List.Pairwise.filterMap (R := (· ≠ ·)) (nth A) (fun i j hij p hp q hq e => ?_) (nodupB_ok h)
    rw [nth_eq] at hp hq
    have hi : i < A.length := (List.getElem?_eq_some_iff.1 hp).1
    have hj : j < A.length := (List.getElem?_eq_some_iff.1 hq).1
    have h1 := (List.getElem?_eq_some_iff.1 hp).2
    have h2 := (List.getElem?_eq_some_iff.1 hq).2
    have key : ∀ (i j : Nat) (hi : i < A.length) (hj : j < A.length) (p q : Nat × Option LObj), i < j → A[i] = p → A[j] = q → p.1 = q.1 → False := fun i j hi hj p q hij h1 h2 e => by
      have hnd := List.pairwise_iff_getElem.1 hR.base.nodup i j (by simpa using hi) (by simpa using hj) hij
      simp [h1, h2, e] at hnd
    rcases Nat.lt_or_gt_of_ne hij with hlt | hlt
    · exact key i j hi hj p q hlt h1 h2 e
    · exact key j i hj hi q p hlt h2 h1 e.symm
theorem pick_append {A : Ah} (is js : List Nat) : pick A (is ++ js) = pick A is ++ pick A js := by
  unfold Go.Ai.pick; rw [List.filterMap_append]
theorem aLoop_fr {hd : Hands} {n m : Nat} {c : IC} {env : List AV} {A : Ah} {Q : Out → List AV → Ah → Prop} (is rest : List Nat) (hn : nodupB (is ++ rest) = true) (h : aLoop hd n c m env (pick A is) fun o env A' => Q o env (A' ++ pick A rest)) : aLoop hd n c m env A Q := by
  refine aLoop_sub (Sub.picks (is ++ rest) hn) ?_
  rw [pick_append]
  exact aLoop_frame h
theorem Sub.keepR {A R : Ah} (is js : List Nat) (hn : nodupB (is ++ js) = true) : Sub (A ++ R) (Go.Ai.pick A is ++ (R ++ Go.Ai.pick A js)) := fun F H hR => by
  have h := Sub.picks (is ++ js) hn _ H hR.split
  rw [pick_append] at h
  have h2 := h.join
  refine Rep.perm h2 (List.Perm.append_right F ?_)
  rw [List.append_assoc]
  exact List.Perm.append_left _ List.perm_append_comm
theorem aLoop_upRk {hd : Hands} {n : Nat} {c : IC} {Q : Out → List AV → Ah → Prop} (I : Nat → List AV → Ah → Ah → Prop) (N : Nat)
    (step : ∀ k env A R, k ≤ N → I k env A R → aC hd n c env A fun o env A => match o with
      | .normal => ∃ A' R', k < N ∧ Sub (A ++ R) (A' ++ R') ∧ I (k + 1) env A' R'
      | o => Q o env (A ++ R)) : ∀ (m k : Nat) (env : List AV) (A R : Ah), k ≤ N → I k env A R → N - k < m → aLoop hd n c m env (A ++ R) Q
  | 0, k, env, A, R, hk, hI, hm => by omega
  | m + 1, k, env, A, R, hk, hI, hm => by
    refine ⟨fun F H hR => ?_⟩
    obtain ⟨o, s1, h1, A1, hR1, h⟩ := aC_out c ⟨env, H⟩ A _ hR.split (step k env A R hk hI)
    cases o with
    | normal =>
      obtain ⟨A', R', h2, h3, h4⟩ := h
      obtain ⟨o2, s2, h5, h⟩ := (aLoop_upRk I N step m (k + 1) s1.env A' R' (by omega) h4 (by omega)).run F s1.H (h3 _ _ hR1.join)
      exact ⟨o2, s2, by simp only [loopN, h1]; exact h5, h⟩
    | exit i => exact ⟨_, s1, by simp only [loopN, h1], A1 ++ R, hR1.join, h⟩
    | ret => exact ⟨_, s1, by simp only [loopN, h1], A1 ++ R, hR1.join, h⟩
theorem aLoop_upR {hd : Hands} {n : Nat} {c : IC} {Q : Out → List AV → Ah → Prop} (I : Nat → List AV → Ah → Ah → Prop) (N : Nat) {env : List AV} {A A0 R0 : Ah} (hs : Sub A (A0 ++ R0)) (h0 : I 0 env A0 R0) (hN : N < n)
    (step : ∀ k env A R, k ≤ N → I k env A R → aC hd n c env A fun o env A => match o with
      | .normal => ∃ A' R', k < N ∧ Sub (A ++ R) (A' ++ R') ∧ I (k + 1) env A' R'
      | o => Q o env (A ++ R)) : aLoop hd n c n env A Q := aLoop_sub hs (aLoop_upRk I N step n 0 env A0 R0 (by omega) h0 (by omega))
theorem rng_len {β : Type} (n : Nat) (F : Nat → β) : ((List.range n).map F).length = n := by simp
theorem cut_rng {n i o : Nat} {F : Nat → AV} {v : AV} (h : i < n) (ho : o = i) (hv : F i = v) : cut ((List.range n).map F) o 1 = some [v] := by
  subst ho hv
  unfold cut
  rw [if_pos (by simp; omega)]
  congr 1
  apply List.ext_getElem?
  intro j
  rcases j with _ | j
  · simp [List.getElem?_take, List.getElem?_drop, h]
  · simp [List.getElem?_take]
theorem set_rng {n i o : Nat} {F G : Nat → AV} {v : AV} (ho : o = i) (hv : G i = v) (h : ∀ j, j < n → j ≠ i → G j = F j) : setCells ((List.range n).map F) o [v] = (List.range n).map G := by
  subst ho hv
  simp only [setCells]
  apply List.ext_getElem?
  intro j
  rw [List.getElem?_set]
  by_cases hj : j < n
  · split
    · rename_i e; subst e; simp [hj]
    · rename_i e; simp [hj, h j hj (Ne.symm e)]
  · simp [hj]
    intro e
    omega
theorem rep_rng (n : Nat) (v : AV) : (List.replicate n [v]).flatten = (List.range n).map fun _ => v := by
  induction n with
  | zero => rfl
  | succ n ih =>
    rw [List.replicate_succ', List.flatten_append, ih, List.range_succ, List.map_append]; rfl
end Go.Ai
namespace Go.Ai
open Go.RowKit
def loopsOf : IC → List IC
  | .seq a b => loopsOf a ++ loopsOf b
  | .cond _ a b => loopsOf a ++ loopsOf b
  | .block _ c => loopsOf c
  | .loop c => c :: loopsOf c
  | _ => []
def loopAt (ir : IFunc) (i : Nat) : IC := (nth (loopsOf ir.body) i).getD .skip
theorem rowV_one (lp k n : Nat) : (rowV lp k n).one = true := by cases n <;> rfl
theorem flatC_one {α : Type} {c : α → AV} (xs : List α) : flatC (fun x => [c x]) xs = xs.map c := by
  induction xs with
  | nil => rfl
  | cons x xs ih => simp only [flatC, List.map_cons, List.flatten_cons] at ih ⊢; rw [ih]; rfl
theorem FzU.row1 {d : Nat} {A : Ah} {α : Type} {c : α → AV} (hs : ∀ x, selfV (c x) = true) {xs : List α} {l g k1 n : Nat} {row fr : Bool} (hn : xs.length = n) (hm : (l, some (LObj.cells (xs.map c) k1 g row fr)) ∈ A) : FzU (d + 2) A (.ref l 0 n g 1) (.list (xs.map fun x => [c x])) :=
  .row (f := fun x => [c x]) (fun _ => rfl) (fun x => by simp [hs x]) hn (by rw [flatC_one]; exact hm)
theorem shr_mod {x : Int} (hx : U64 x) {i : Nat} (hi : i < 64) : (shrI x (min ((i : Int).toNat) IntKind.u64.bits)).tmod 2 = (if bitI x i then 1 else 0) := by
  obtain ⟨m, rfl⟩ := Int.eq_ofNat_of_zero_le hx.1
  have h1 : min ((i : Int).toNat) IntKind.u64.bits = i := by simp only [IntKind.bits]; omega
  rw [h1]
  simp only [shrI]
  simp only [bitI, Int.toNat_natCast, Nat.testBit_eq_decide_div_mod_eq]
  generalize m / 2 ^ i = q
  rw [Int.tmod_eq_emod_of_nonneg (Int.natCast_nonneg _)]
  rcases Nat.mod_two_eq_zero_or_one q with h | h
  · rw [h]
    simp
    omega
  · rw [h]
    simp
    omega
theorem or_in {f : Nat → Bool} {n : Nat} (h : n < 64) (hf : f n = true) : arith.bits .or .u64 (maskN f n : Int) ((2 ^ n : Nat) : Int) = (maskN f (n + 1) : Int) := by
  have := mask_or f h
  simpa [hf] using this
end Go.Ai
set_option linter.unusedVariables false
set_option linter.unusedSimpArgs false
namespace Go.Proofs.Ytlgbbabijifflaa.sys
attribute [local irreducible] Go.Ai.wrapI Go.Ai.arith.bits Go.Ai.shlI Go.Ai.shrI
open Go Go.Ai Go.Proofs.Ytlgbbabijifflaa.L1R
open runs (RunD SysD runC sysC intsC locsC facsC dSys dSys_C dSys_inv chkS chk_ok sysFine numP)
open mdl (ModD modC modK setC setsC mixed nilOk)
abbrev inPt (s : SysD) (p : Int × Int) : Prop := 0 ≤ p.1 ∧ p.1 < s.runs.length ∧ 0 ≤ p.2 ∧ p.2 < s.len
abbrev ok62 (x : SysD × List (Int × Int)) : Prop := Valid x.1 ∧ 1 ≤ x.2.length ∧ x.2.length ≤ 64 ∧ ∀ p ∈ x.2, inPt x.1 p
def bitF (s : SysD) (l : List (Int × Int)) (f w : Nat) : Bool := bitI (facD s (nthD l w)) f
def eqF (s : SysD) (l : List (Int × Int)) (a : Nat) (x : Int) (k : Nat) : Bool := decide (locD s a (nthD l k) = x)
def valS (s : SysD) (l : List (Int × Int)) (f : Nat) : Nat := maskN (bitF s l f) l.length
def relS (s : SysD) (l : List (Int × Int)) (a w : Nat) : Nat := maskN (eqF s l a (locD s a (nthD l w))) l.length
def modelS (s : SysD) (l : List (Int × Int)) : ModD := ⟨l.length, (List.range s.fa.toNat).map fun f => ((valS s l f : Nat) : Int), (List.range s.ag.toNat).map fun a => (List.range l.length).map fun w => ((relS s l a w : Nat) : Int)⟩
theorem in_loc {s : SysD} (h : Valid s) {p : Int × Int} (hp : inPt s p) {a : Nat} (ha : (a : Int) < s.ag) : inLoc s a p := by
  obtain ⟨q1, q2, q3, q4, q5, q6, q7, q8, q9⟩ := chk_ok h.2
  obtain ⟨p1, p2, p3, p4⟩ := hp
  obtain ⟨r1, r2, r3, r4⟩ := q9 _ (nthD_mem p1 p2)
  have h1 : p.2 < (nthD s.runs p.1).loc.length := by omega
  have := r3 _ (nthD_mem p3 h1)
  exact ⟨p1, p2, p3, h1, by omega, by omega⟩
theorem in_fac {s : SysD} (h : Valid s) {p : Int × Int} (hp : inPt s p) : p.2 < (nthD s.runs p.1).fac.length ∧ U64 (facD s p) := by
  obtain ⟨q1, q2, q3, q4, q5, q6, q7, q8, q9⟩ := chk_ok h.2
  obtain ⟨p1, p2, p3, p4⟩ := hp
  obtain ⟨r1, r2, r3, r4⟩ := q9 _ (nthD_mem p1 p2)
  have h1 : p.2 < (nthD s.runs p.1).fac.length := by omega
  exact ⟨h1, (h.1.1.2.2.2 _ (nthD_mem p1 p2)).2 _ (nthD_mem p3 h1)⟩
def valF (s : SysD) (l : List (Int × Int)) (i k : Nat) : List AV := (List.range s.fa.toNat).map fun f => .int .u64 ((maskN (bitF s l f) (if f < i then k + 1 else k) : Nat) : Int)
theorem valF_end {s : SysD} {l : List (Int × Int)} {k : Nat} : valF s l s.fa.toNat k = valF s l 0 (k + 1) := by
  refine List.map_congr_left fun f hf => ?_
  rw [List.mem_range] at hf
  simp [hf]
def relF (s : SysD) (l : List (Int × Int)) (a w : Nat) : List AV := (List.range w).map fun w => .int .u64 ((relS s l a w : Nat) : Int)
theorem relF_succ (s : SysD) (l : List (Int × Int)) (a w : Nat) : relF s l a (w + 1) = relF s l a w ++ [.int .u64 ((relS s l a w : Nat) : Int)] := by simp [relF, List.range_succ]
theorem relF_len (s : SysD) (l : List (Int × Int)) (a w : Nat) : (relF s l a w).length = w := by simp [relF]
def MapIs (s : SysD) (l : List (Int × Int)) (a w : Nat) (m : List (Int × AV)) : Prop := ∀ x, (mGet m x).getD (.int .u64 0) = .int .u64 ((maskN (eqF s l a x) w : Nat) : Int)
theorem MapIs.put {s : SysD} {l : List (Int × Int)} {a w : Nat} {m : List (Int × AV)} (h : MapIs s l a w m) : MapIs s l a (w + 1) (mPut m (locD s a (nthD l w)) (.int .u64 ((maskN (eqF s l a (locD s a (nthD l w))) (w + 1) : Nat) : Int))) := fun x => by
  rw [get_put]
  by_cases hx : x = locD s a (nthD l w)
  · rw [if_pos hx, hx]; rfl
  · rw [if_neg hx, h x]
    have : eqF s l a x w = false := decide_eq_false fun e => hx e.symm
    simp [maskN, this]
def U2 : Tab := [(57, ⟨.iso, g57⟩)]
theorem okU2 : HandsOk Try.prog (hands U2) := hands_ok (.cons c57 .nil)
set_option maxRecDepth 100000 in
set_option maxHeartbeats 1000000 in
theorem loop62_3 {n : Nat} {s : SysD} {l : List (Int × Int)} (h : ok62 (s, l)) (hn : 100 < n) {a l2 lm : Nat} (ha : (a : Int) < s.ag) {v4 v5 v61 v62 : AV} {env : List AV} (he : IEnv (fun g => (g 0 :: .list (l.map ptC) :: .ptr l2 0 0 :: g 3 :: v4 :: v5 :: g 6 :: g 7 :: g 8 :: .int .i64 (a : Int) :: .map lm :: g 11 :: g 12 :: g 13 :: g 14 :: g 15 :: g 16 :: g 17 :: g 18 :: g 19 :: g 20 :: g 21 :: g 22 :: g 23 :: g 24 :: g 25 :: g 26 :: g 27 :: g 28 :: g 29 :: g 30 :: g 31 :: g 32 :: g 33 :: g 34 :: g 35 :: g 36 :: g 37 :: g 38 :: g 39 :: g 40 :: g 41 :: g 42 :: g 43 :: g 44 :: g 45 :: g 46 :: g 47 :: g 48 :: g 49 :: g 50 :: g 51 :: g 52 :: g 53 :: g 54 :: g 55 :: g 56 :: g 57 :: g 58 :: g 59 :: g 60 :: v61 :: v62 :: g 63 :: g 64 :: g 65 :: .list (l.map ptC) :: .int .i64 (l.map ptC).length :: .int .i64 0 :: g 69 :: g 70 :: g 71 :: g 72 :: g 73 :: g 74 :: g 75 :: g 76 :: g 77 :: g 78 :: g 79 :: g 80 :: g 81 :: g 82 :: g 83 :: g 84 :: g 85 :: g 86 :: g 87 :: g 88 :: g 89 :: g 90 :: g 91 :: g 92 :: g 93 :: g 94 :: g 95 :: g 96 :: g 97 :: g 98 :: g 99 :: g 100 :: g 101 :: g 102 :: g 103 :: g 104 :: g 105 :: g 106 :: [])) env)
    {Q : Out → List AV → Ah → Prop} (hQ : ∀ m, MapIs s l a l.length m → ∀ env, IEnv (fun g => (g 0 :: .list (l.map ptC) :: .ptr l2 0 0 :: g 3 :: v4 :: v5 :: g 6 :: g 7 :: g 8 :: .int .i64 (a : Int) :: .map lm :: g 11 :: g 12 :: g 13 :: g 14 :: g 15 :: g 16 :: g 17 :: g 18 :: g 19 :: g 20 :: g 21 :: g 22 :: g 23 :: g 24 :: g 25 :: g 26 :: g 27 :: g 28 :: g 29 :: g 30 :: g 31 :: g 32 :: g 33 :: g 34 :: g 35 :: g 36 :: g 37 :: g 38 :: g 39 :: g 40 :: g 41 :: g 42 :: g 43 :: g 44 :: g 45 :: g 46 :: g 47 :: g 48 :: g 49 :: g 50 :: g 51 :: g 52 :: g 53 :: g 54 :: g 55 :: g 56 :: g 57 :: g 58 :: g 59 :: g 60 :: v61 :: v62 :: g 63 :: g 64 :: g 65 :: g 66 :: g 67 :: g 68 :: g 69 :: g 70 :: g 71 :: g 72 :: g 73 :: g 74 :: g 75 :: g 76 :: g 77 :: g 78 :: g 79 :: g 80 :: g 81 :: g 82 :: g 83 :: g 84 :: g 85 :: g 86 :: g 87 :: g 88 :: g 89 :: g 90 :: g 91 :: g 92 :: g 93 :: g 94 :: g 95 :: g 96 :: g 97 :: g 98 :: g 99 :: g 100 :: g 101 :: g 102 :: g 103 :: g 104 :: g 105 :: g 106 :: [])) env → Q (.exit 6) env [(l2, some (.cells (sysC s) 0 0 false false)), (lm, some (.mp (mapC m)))]) :
    aLoop (hands U2) n (loopAt ir62 3) n env [(l2, some (.cells (sysC s) 0 0 false false)), (lm, some (.mp []))] Q := by
  obtain ⟨g, rfl⟩ := he
  obtain ⟨hv, hl1, hl2, hlp⟩ := h
  simp only at hv hl1 hl2 hlp
  refine aLoop_up (fun w env A => ∃ m, A = [(l2, some (.cells (sysC s) 0 0 false false)), (lm, some (.mp (mapC m)))] ∧ MapIs s l a w m ∧ IEnv (fun g => (g 0 :: .list (l.map ptC) :: .ptr l2 0 0 :: g 3 :: v4 :: v5 :: g 6 :: g 7 :: g 8 :: .int .i64 (a : Int) :: .map lm :: g 11 :: g 12 :: g 13 :: g 14 :: g 15 :: g 16 :: g 17 :: g 18 :: g 19 :: g 20 :: g 21 :: g 22 :: g 23 :: g 24 :: g 25 :: g 26 :: g 27 :: g 28 :: g 29 :: g 30 :: g 31 :: g 32 :: g 33 :: g 34 :: g 35 :: g 36 :: g 37 :: g 38 :: g 39 :: g 40 :: g 41 :: g 42 :: g 43 :: g 44 :: g 45 :: g 46 :: g 47 :: g 48 :: g 49 :: g 50 :: g 51 :: g 52 :: g 53 :: g 54 :: g 55 :: g 56 :: g 57 :: g 58 :: g 59 :: g 60 :: v61 :: v62 :: g 63 :: g 64 :: g 65 :: .list (l.map ptC) :: .int .i64 (l.map ptC).length :: .int .i64 (w : Int) :: g 69 :: g 70 :: g 71 :: g 72 :: g 73 :: g 74 :: g 75 :: g 76 :: g 77 :: g 78 :: g 79 :: g 80 :: g 81 :: g 82 :: g 83 :: g 84 :: g 85 :: g 86 :: g 87 :: g 88 :: g 89 :: g 90 :: g 91 :: g 92 :: g 93 :: g 94 :: g 95 :: g 96 :: g 97 :: g 98 :: g 99 :: g 100 :: g 101 :: g 102 :: g 103 :: g 104 :: g 105 :: g 106 :: [])) env) l.length (.refl _) ⟨[], rfl, fun x => rfl, .mk rfl⟩ (by omega) ?_
  rintro w env A hw ⟨m, rfl, hm, ⟨g, rfl⟩⟩
  refine ⟨rfl, fun h4 => ?_, fun h4 => ?_⟩
  · have h4 := ltm_inv h4
    have hw' : w < l.length := by omega
    have hloc := in_loc hv (hlp _ (nthD_mem (n := w) (by omega) h4)) ha
    repeat' ((conv => whnf); first | refine ⟨rfl, fun hc => ?_, fun hc => ?_⟩ | refine ⟨fun hc => ?_, fun hc => ?_⟩ | refine ⟨rfl, _, w64 (by omega) (by omega), ?_⟩ | refine ⟨_, w64 (by omega) (by omega), ?_⟩ | refine ⟨_, wU (by omega) (by omega), ?_⟩ | refine ⟨rfl, rfl, ?_⟩ | refine And.intro (show (0 : Int) ≤ _ by omega) ?_ | refine ldI (by repeat first | exact .hd | apply In.tl) ?_ | refine stI (by repeat first | exact .hd | apply In.tl) ?_ | refine slI (by repeat first | exact .hd | apply In.tl) ?_ | refine apI (by repeat first | exact .hd | apply In.tl) ?_ | refine mpI (by repeat first | exact .hd | apply In.tl) ?_ | refine ⟨⟨rfl, leb rfl, rfl⟩, ?_⟩ | refine ⟨⟨rfl, leb rfl⟩, ?_⟩ | refine ⟨⟨by decide, by decide⟩, ?_⟩ | refine ⟨rfl, ?_⟩ | refine ⟨leb rfl, ?_⟩ | refine ⟨by decide, ?_⟩ | refine .inr ⟨⟨leb rfl, leb rfl, rfl, rfl⟩, ?_⟩ | refine ⟨⟨by omega, by first | omega | exact ltm (by omega)⟩, lenm (by intro _; rfl), ?_⟩ | refine ⟨_, getm (by omega) (by first | omega | exact ltm_inv (by omega)), ?_⟩ | refine ⟨⟨by omega, by omega⟩, rfl, ?_⟩ | refine ⟨⟨rfl, by omega, rfl, by (show _ + 1 < 4294967296); omega, rfl⟩, .inr ⟨leb rfl, ?_⟩⟩ | refine ⟨_, find_C _ _, ?_⟩ | refine ⟨_, put_C _ _ _, ?_⟩ | fail)
    intro l12 hl12
    repeat' ((conv => whnf); first | refine ⟨rfl, fun hc => ?_, fun hc => ?_⟩ | refine ⟨fun hc => ?_, fun hc => ?_⟩ | refine ⟨rfl, _, w64 (by omega) (by omega), ?_⟩ | refine ⟨_, w64 (by omega) (by omega), ?_⟩ | refine ⟨_, wU (by omega) (by omega), ?_⟩ | refine ⟨rfl, rfl, ?_⟩ | refine And.intro (show (0 : Int) ≤ _ by omega) ?_ | refine ldI (by repeat first | exact .hd | apply In.tl) ?_ | refine stI (by repeat first | exact .hd | apply In.tl) ?_ | refine slI (by repeat first | exact .hd | apply In.tl) ?_ | refine apI (by repeat first | exact .hd | apply In.tl) ?_ | refine mpI (by repeat first | exact .hd | apply In.tl) ?_ | refine ⟨⟨rfl, leb rfl, rfl⟩, ?_⟩ | refine ⟨⟨rfl, leb rfl⟩, ?_⟩ | refine ⟨⟨by decide, by decide⟩, ?_⟩ | refine ⟨rfl, ?_⟩ | refine ⟨leb rfl, ?_⟩ | refine ⟨by decide, ?_⟩ | refine .inr ⟨⟨leb rfl, leb rfl, rfl, rfl⟩, ?_⟩ | refine ⟨⟨by omega, by first | omega | exact ltm (by omega)⟩, lenm (by intro _; rfl), ?_⟩ | refine ⟨_, getm (by omega) (by first | omega | exact ltm_inv (by omega)), ?_⟩ | refine ⟨⟨by omega, by omega⟩, rfl, ?_⟩ | refine ⟨⟨rfl, by omega, rfl, by (show _ + 1 < 4294967296); omega, rfl⟩, .inr ⟨leb rfl, ?_⟩⟩ | refine ⟨_, find_C _ _, ?_⟩ | refine ⟨_, put_C _ _ _, ?_⟩ | fail)
    intro b hb
    repeat' ((conv => whnf); first | refine ⟨rfl, fun hc => ?_, fun hc => ?_⟩ | refine ⟨fun hc => ?_, fun hc => ?_⟩ | refine ⟨rfl, _, w64 (by omega) (by omega), ?_⟩ | refine ⟨_, w64 (by omega) (by omega), ?_⟩ | refine ⟨_, wU (by omega) (by omega), ?_⟩ | refine ⟨rfl, rfl, ?_⟩ | refine And.intro (show (0 : Int) ≤ _ by omega) ?_ | refine ldI (by repeat first | exact .hd | apply In.tl) ?_ | refine stI (by repeat first | exact .hd | apply In.tl) ?_ | refine slI (by repeat first | exact .hd | apply In.tl) ?_ | refine apI (by repeat first | exact .hd | apply In.tl) ?_ | refine mpI (by repeat first | exact .hd | apply In.tl) ?_ | refine ⟨⟨rfl, leb rfl, rfl⟩, ?_⟩ | refine ⟨⟨rfl, leb rfl⟩, ?_⟩ | refine ⟨⟨by decide, by decide⟩, ?_⟩ | refine ⟨rfl, ?_⟩ | refine ⟨leb rfl, ?_⟩ | refine ⟨by decide, ?_⟩ | refine .inr ⟨⟨leb rfl, leb rfl, rfl, rfl⟩, ?_⟩ | refine ⟨⟨by omega, by first | omega | exact ltm (by omega)⟩, lenm (by intro _; rfl), ?_⟩ | refine ⟨_, getm (by omega) (by first | omega | exact ltm_inv (by omega)), ?_⟩ | refine ⟨⟨by omega, by omega⟩, rfl, ?_⟩ | refine ⟨⟨rfl, by omega, rfl, by (show _ + 1 < 4294967296); omega, rfl⟩, .inr ⟨leb rfl, ?_⟩⟩ | refine ⟨_, find_C _ _, ?_⟩ | refine ⟨_, put_C _ _ _, ?_⟩ | refine ⟨_, _, _, true, fun _ H hR => ⟨H, rfl, hR⟩, k57 rfl hloc, rfl, ?_⟩ | refine ⟨_, _, _, false, fun _ H hR => ⟨H, rfl, hR⟩, k57 rfl hloc, rfl, ?_⟩ | fail)
    (conv => whnf)
    rw [hm]
    repeat' ((conv => whnf); first | refine ⟨rfl, fun hc => ?_, fun hc => ?_⟩ | refine ⟨fun hc => ?_, fun hc => ?_⟩ | refine ⟨rfl, _, w64 (by omega) (by omega), ?_⟩ | refine ⟨_, w64 (by omega) (by omega), ?_⟩ | refine ⟨_, wU (by omega) (by omega), ?_⟩ | refine ⟨rfl, rfl, ?_⟩ | refine And.intro (show (0 : Int) ≤ _ by omega) ?_ | refine ldI (by repeat first | exact .hd | apply In.tl) ?_ | refine stI (by repeat first | exact .hd | apply In.tl) ?_ | refine slI (by repeat first | exact .hd | apply In.tl) ?_ | refine apI (by repeat first | exact .hd | apply In.tl) ?_ | refine mpI (by repeat first | exact .hd | apply In.tl) ?_ | refine ⟨⟨rfl, leb rfl, rfl⟩, ?_⟩ | refine ⟨⟨rfl, leb rfl⟩, ?_⟩ | refine ⟨⟨by decide, by decide⟩, ?_⟩ | refine ⟨rfl, ?_⟩ | refine ⟨leb rfl, ?_⟩ | refine ⟨by decide, ?_⟩ | refine .inr ⟨⟨leb rfl, leb rfl, rfl, rfl⟩, ?_⟩ | refine ⟨⟨by omega, by first | omega | exact ltm (by omega)⟩, lenm (by intro _; rfl), ?_⟩ | refine ⟨_, getm (by omega) (by first | omega | exact ltm_inv (by omega)), ?_⟩ | refine ⟨⟨by omega, by omega⟩, rfl, ?_⟩ | refine ⟨⟨rfl, by omega, rfl, by (show _ + 1 < 4294967296); omega, rfl⟩, .inr ⟨leb rfl, ?_⟩⟩ | refine ⟨_, find_C _ _, ?_⟩ | refine ⟨_, put_C _ _ _, ?_⟩ | fail)
    refine ⟨_, shl_one (by omega), ?_⟩
    repeat' ((conv => whnf); first | refine ⟨rfl, fun hc => ?_, fun hc => ?_⟩ | refine ⟨fun hc => ?_, fun hc => ?_⟩ | refine ⟨rfl, _, w64 (by omega) (by omega), ?_⟩ | refine ⟨_, w64 (by omega) (by omega), ?_⟩ | refine ⟨_, wU (by omega) (by omega), ?_⟩ | refine ⟨rfl, rfl, ?_⟩ | refine And.intro (show (0 : Int) ≤ _ by omega) ?_ | refine ldI (by repeat first | exact .hd | apply In.tl) ?_ | refine stI (by repeat first | exact .hd | apply In.tl) ?_ | refine slI (by repeat first | exact .hd | apply In.tl) ?_ | refine apI (by repeat first | exact .hd | apply In.tl) ?_ | refine mpI (by repeat first | exact .hd | apply In.tl) ?_ | refine ⟨⟨rfl, leb rfl, rfl⟩, ?_⟩ | refine ⟨⟨rfl, leb rfl⟩, ?_⟩ | refine ⟨⟨by decide, by decide⟩, ?_⟩ | refine ⟨rfl, ?_⟩ | refine ⟨leb rfl, ?_⟩ | refine ⟨by decide, ?_⟩ | refine .inr ⟨⟨leb rfl, leb rfl, rfl, rfl⟩, ?_⟩ | refine ⟨⟨by omega, by first | omega | exact ltm (by omega)⟩, lenm (by intro _; rfl), ?_⟩ | refine ⟨_, getm (by omega) (by first | omega | exact ltm_inv (by omega)), ?_⟩ | refine ⟨⟨by omega, by omega⟩, rfl, ?_⟩ | refine ⟨⟨rfl, by omega, rfl, by (show _ + 1 < 4294967296); omega, rfl⟩, .inr ⟨leb rfl, ?_⟩⟩ | refine ⟨_, find_C _ _, ?_⟩ | refine ⟨_, put_C _ _ _, ?_⟩ | fail)
    refine ⟨_, or_in (by omega) (decide_eq_true rfl), ?_⟩
    repeat' ((conv => whnf); first | refine ⟨rfl, fun hc => ?_, fun hc => ?_⟩ | refine ⟨fun hc => ?_, fun hc => ?_⟩ | refine ⟨rfl, _, w64 (by omega) (by omega), ?_⟩ | refine ⟨_, w64 (by omega) (by omega), ?_⟩ | refine ⟨_, wU (by omega) (by omega), ?_⟩ | refine ⟨rfl, rfl, ?_⟩ | refine And.intro (show (0 : Int) ≤ _ by omega) ?_ | refine ldI (by repeat first | exact .hd | apply In.tl) ?_ | refine stI (by repeat first | exact .hd | apply In.tl) ?_ | refine slI (by repeat first | exact .hd | apply In.tl) ?_ | refine apI (by repeat first | exact .hd | apply In.tl) ?_ | refine mpI (by repeat first | exact .hd | apply In.tl) ?_ | refine ⟨⟨rfl, leb rfl, rfl⟩, ?_⟩ | refine ⟨⟨rfl, leb rfl⟩, ?_⟩ | refine ⟨⟨by decide, by decide⟩, ?_⟩ | refine ⟨rfl, ?_⟩ | refine ⟨leb rfl, ?_⟩ | refine ⟨by decide, ?_⟩ | refine .inr ⟨⟨leb rfl, leb rfl, rfl, rfl⟩, ?_⟩ | refine ⟨⟨by omega, by first | omega | exact ltm (by omega)⟩, lenm (by intro _; rfl), ?_⟩ | refine ⟨_, getm (by omega) (by first | omega | exact ltm_inv (by omega)), ?_⟩ | refine ⟨⟨by omega, by omega⟩, rfl, ?_⟩ | refine ⟨⟨rfl, by omega, rfl, by (show _ + 1 < 4294967296); omega, rfl⟩, .inr ⟨leb rfl, ?_⟩⟩ | refine ⟨_, find_C _ _, ?_⟩ | refine ⟨_, put_C _ _ _, ?_⟩ | fail)
    exact ⟨_, hw', Sub.take 2, _, rfl, hm.put, .mk rfl⟩
  · have h4 := ltm_not h4
    obtain rfl : w = l.length := by omega
    exact hQ m hm _ (.mk rfl)
set_option maxRecDepth 100000 in
set_option maxHeartbeats 1000000 in
theorem loop62_4 {n : Nat} {s : SysD} {l : List (Int × Int)} (h : ok62 (s, l)) (hn : 100 < n) {a l2 lm : Nat} (ha : (a : Int) < s.ag) {m : List (Int × AV)} (hm : MapIs s l a l.length m) {v4 v5 v61 v62 : AV} {env : List AV} (he : IEnv (fun g => (g 0 :: .list (l.map ptC) :: .ptr l2 0 0 :: g 3 :: v4 :: v5 :: g 6 :: g 7 :: g 8 :: .int .i64 (a : Int) :: .map lm :: g 11 :: g 12 :: .nilsl :: g 14 :: g 15 :: g 16 :: g 17 :: g 18 :: g 19 :: g 20 :: g 21 :: g 22 :: g 23 :: g 24 :: g 25 :: g 26 :: g 27 :: g 28 :: g 29 :: g 30 :: g 31 :: g 32 :: g 33 :: g 34 :: g 35 :: g 36 :: g 37 :: g 38 :: g 39 :: g 40 :: g 41 :: g 42 :: g 43 :: g 44 :: g 45 :: g 46 :: g 47 :: g 48 :: g 49 :: g 50 :: g 51 :: g 52 :: g 53 :: g 54 :: g 55 :: g 56 :: g 57 :: g 58 :: g 59 :: g 60 :: v61 :: v62 :: g 63 :: g 64 :: g 65 :: g 66 :: g 67 :: g 68 :: g 69 :: g 70 :: g 71 :: g 72 :: g 73 :: g 74 :: g 75 :: g 76 :: g 77 :: g 78 :: g 79 :: g 80 :: g 81 :: g 82 :: .list (l.map ptC) :: .int .i64 (l.map ptC).length :: .int .i64 0 :: g 86 :: g 87 :: g 88 :: g 89 :: g 90 :: g 91 :: g 92 :: g 93 :: g 94 :: g 95 :: g 96 :: g 97 :: g 98 :: g 99 :: g 100 :: g 101 :: g 102 :: g 103 :: g 104 :: g 105 :: g 106 :: [])) env)
    {Q : Out → List AV → Ah → Prop} (hQ : ∀ lq env, IEnv (fun g => (g 0 :: .list (l.map ptC) :: .ptr l2 0 0 :: g 3 :: v4 :: v5 :: g 6 :: g 7 :: g 8 :: .int .i64 (a : Int) :: g 10 :: g 11 :: g 12 :: .ref lq 0 l.length l.length 1 :: g 14 :: g 15 :: g 16 :: g 17 :: g 18 :: g 19 :: g 20 :: g 21 :: g 22 :: g 23 :: g 24 :: g 25 :: g 26 :: g 27 :: g 28 :: g 29 :: g 30 :: g 31 :: g 32 :: g 33 :: g 34 :: g 35 :: g 36 :: g 37 :: g 38 :: g 39 :: g 40 :: g 41 :: g 42 :: g 43 :: g 44 :: g 45 :: g 46 :: g 47 :: g 48 :: g 49 :: g 50 :: g 51 :: g 52 :: g 53 :: g 54 :: g 55 :: g 56 :: g 57 :: g 58 :: g 59 :: g 60 :: v61 :: v62 :: g 63 :: g 64 :: g 65 :: g 66 :: g 67 :: g 68 :: g 69 :: g 70 :: g 71 :: g 72 :: g 73 :: g 74 :: g 75 :: g 76 :: g 77 :: g 78 :: g 79 :: g 80 :: g 81 :: g 82 :: g 83 :: g 84 :: g 85 :: g 86 :: g 87 :: g 88 :: g 89 :: g 90 :: g 91 :: g 92 :: g 93 :: g 94 :: g 95 :: g 96 :: g 97 :: g 98 :: g 99 :: g 100 :: g 101 :: g 102 :: g 103 :: g 104 :: g 105 :: g 106 :: [])) env → Q (.exit 8) env [(l2, some (.cells (sysC s) 0 0 false false)), (lm, some (.mp (mapC m))), (lq, some (.cells (relF s l a l.length) 1 l.length true false))]) :
    aLoop (hands U2) n (loopAt ir62 4) n env [(l2, some (.cells (sysC s) 0 0 false false)), (lm, some (.mp (mapC m)))] Q := by
  obtain ⟨g, rfl⟩ := he
  obtain ⟨hv, hl1, hl2, hlp⟩ := h
  simp only at hv hl1 hl2 hlp
  refine aLoop_up (fun w env A => ∃ lq, A = [(l2, some (.cells (sysC s) 0 0 false false)), (lm, some (.mp (mapC m)))] ++ rowA lq 1 (relF s l a w) w ∧ IEnv (fun g => (g 0 :: .list (l.map ptC) :: .ptr l2 0 0 :: g 3 :: v4 :: v5 :: g 6 :: g 7 :: g 8 :: .int .i64 (a : Int) :: .map lm :: g 11 :: g 12 :: rowV lq 1 w :: g 14 :: g 15 :: g 16 :: g 17 :: g 18 :: g 19 :: g 20 :: g 21 :: g 22 :: g 23 :: g 24 :: g 25 :: g 26 :: g 27 :: g 28 :: g 29 :: g 30 :: g 31 :: g 32 :: g 33 :: g 34 :: g 35 :: g 36 :: g 37 :: g 38 :: g 39 :: g 40 :: g 41 :: g 42 :: g 43 :: g 44 :: g 45 :: g 46 :: g 47 :: g 48 :: g 49 :: g 50 :: g 51 :: g 52 :: g 53 :: g 54 :: g 55 :: g 56 :: g 57 :: g 58 :: g 59 :: g 60 :: v61 :: v62 :: g 63 :: g 64 :: g 65 :: g 66 :: g 67 :: g 68 :: g 69 :: g 70 :: g 71 :: g 72 :: g 73 :: g 74 :: g 75 :: g 76 :: g 77 :: g 78 :: g 79 :: g 80 :: g 81 :: g 82 :: .list (l.map ptC) :: .int .i64 (l.map ptC).length :: .int .i64 (w : Int) :: g 86 :: g 87 :: g 88 :: g 89 :: g 90 :: g 91 :: g 92 :: g 93 :: g 94 :: g 95 :: g 96 :: g 97 :: g 98 :: g 99 :: g 100 :: g 101 :: g 102 :: g 103 :: g 104 :: g 105 :: g 106 :: [])) env) l.length (.refl _) ⟨0, rfl, .mk rfl⟩ (by omega) ?_
  rintro w env A hw ⟨lq, rfl, ⟨g, rfl⟩⟩
  refine ⟨rfl, fun h4 => ?_, fun h4 => ?_⟩
  · have h4 := ltm_inv h4
    have hw' : w < l.length := by omega
    have hloc := in_loc hv (hlp _ (nthD_mem (n := w) (by omega) h4)) ha
    have hlen := relF_len s l a w
    have hsucc := relF_succ s l a w
    have hmx := hm (locD s a (nthD l w))
    cases w with
    | zero =>
      repeat' ((conv => whnf); first | refine ⟨rfl, fun hc => ?_, fun hc => ?_⟩ | refine ⟨fun hc => ?_, fun hc => ?_⟩ | refine ⟨rfl, _, w64 (by omega) (by omega), ?_⟩ | refine ⟨_, w64 (by omega) (by omega), ?_⟩ | refine ⟨_, wU (by omega) (by omega), ?_⟩ | refine ⟨rfl, rfl, ?_⟩ | refine And.intro (show (0 : Int) ≤ _ by omega) ?_ | refine ldI (by repeat first | exact .hd | apply In.tl) ?_ | refine stI (by repeat first | exact .hd | apply In.tl) ?_ | refine slI (by repeat first | exact .hd | apply In.tl) ?_ | refine apI (by repeat first | exact .hd | apply In.tl) ?_ | refine mpI (by repeat first | exact .hd | apply In.tl) ?_ | refine ⟨⟨rfl, leb rfl, rfl⟩, ?_⟩ | refine ⟨⟨rfl, leb rfl⟩, ?_⟩ | refine ⟨⟨by decide, by decide⟩, ?_⟩ | refine ⟨rfl, ?_⟩ | refine ⟨leb rfl, ?_⟩ | refine ⟨by decide, ?_⟩ | refine .inr ⟨⟨leb rfl, leb rfl, rfl, rfl⟩, ?_⟩ | refine ⟨⟨by omega, by first | omega | exact ltm (by omega)⟩, lenm (by intro _; rfl), ?_⟩ | refine ⟨_, getm (by omega) (by first | omega | exact ltm_inv (by omega)), ?_⟩ | refine ⟨⟨by omega, by omega⟩, rfl, ?_⟩ | refine ⟨⟨rfl, by omega, rfl, by (show _ + 1 < 4294967296); omega, rfl⟩, .inr ⟨leb rfl, ?_⟩⟩ | refine ⟨_, find_C _ _, ?_⟩ | refine ⟨_, put_C _ _ _, ?_⟩ | fail)
      intro l15 hl15
      repeat' ((conv => whnf); first | refine ⟨rfl, fun hc => ?_, fun hc => ?_⟩ | refine ⟨fun hc => ?_, fun hc => ?_⟩ | refine ⟨rfl, _, w64 (by omega) (by omega), ?_⟩ | refine ⟨_, w64 (by omega) (by omega), ?_⟩ | refine ⟨_, wU (by omega) (by omega), ?_⟩ | refine ⟨rfl, rfl, ?_⟩ | refine And.intro (show (0 : Int) ≤ _ by omega) ?_ | refine ldI (by repeat first | exact .hd | apply In.tl) ?_ | refine stI (by repeat first | exact .hd | apply In.tl) ?_ | refine slI (by repeat first | exact .hd | apply In.tl) ?_ | refine apI (by repeat first | exact .hd | apply In.tl) ?_ | refine mpI (by repeat first | exact .hd | apply In.tl) ?_ | refine ⟨⟨rfl, leb rfl, rfl⟩, ?_⟩ | refine ⟨⟨rfl, leb rfl⟩, ?_⟩ | refine ⟨⟨by decide, by decide⟩, ?_⟩ | refine ⟨rfl, ?_⟩ | refine ⟨leb rfl, ?_⟩ | refine ⟨by decide, ?_⟩ | refine .inr ⟨⟨leb rfl, leb rfl, rfl, rfl⟩, ?_⟩ | refine ⟨⟨by omega, by first | omega | exact ltm (by omega)⟩, lenm (by intro _; rfl), ?_⟩ | refine ⟨_, getm (by omega) (by first | omega | exact ltm_inv (by omega)), ?_⟩ | refine ⟨⟨by omega, by omega⟩, rfl, ?_⟩ | refine ⟨⟨rfl, by omega, rfl, by (show _ + 1 < 4294967296); omega, rfl⟩, .inr ⟨leb rfl, ?_⟩⟩ | refine ⟨_, find_C _ _, ?_⟩ | refine ⟨_, put_C _ _ _, ?_⟩ | refine ⟨_, _, _, true, fun _ H hR => ⟨H, rfl, hR⟩, k57 rfl hloc, rfl, ?_⟩ | refine ⟨_, _, _, false, fun _ H hR => ⟨H, rfl, hR⟩, k57 rfl hloc, rfl, ?_⟩ | fail)
      rw [hmx]
      repeat' ((conv => whnf); first | refine ⟨rfl, fun hc => ?_, fun hc => ?_⟩ | refine ⟨fun hc => ?_, fun hc => ?_⟩ | refine ⟨rfl, _, w64 (by omega) (by omega), ?_⟩ | refine ⟨_, w64 (by omega) (by omega), ?_⟩ | refine ⟨_, wU (by omega) (by omega), ?_⟩ | refine ⟨rfl, rfl, ?_⟩ | refine And.intro (show (0 : Int) ≤ _ by omega) ?_ | refine ldI (by repeat first | exact .hd | apply In.tl) ?_ | refine stI (by repeat first | exact .hd | apply In.tl) ?_ | refine slI (by repeat first | exact .hd | apply In.tl) ?_ | refine apI (by repeat first | exact .hd | apply In.tl) ?_ | refine mpI (by repeat first | exact .hd | apply In.tl) ?_ | refine ⟨⟨rfl, leb rfl, rfl⟩, ?_⟩ | refine ⟨⟨rfl, leb rfl⟩, ?_⟩ | refine ⟨⟨by decide, by decide⟩, ?_⟩ | refine ⟨rfl, ?_⟩ | refine ⟨leb rfl, ?_⟩ | refine ⟨by decide, ?_⟩ | refine .inr ⟨⟨leb rfl, leb rfl, rfl, rfl⟩, ?_⟩ | refine ⟨⟨by omega, by first | omega | exact ltm (by omega)⟩, lenm (by intro _; rfl), ?_⟩ | refine ⟨_, getm (by omega) (by first | omega | exact ltm_inv (by omega)), ?_⟩ | refine ⟨⟨by omega, by omega⟩, rfl, ?_⟩ | refine ⟨⟨rfl, by omega, rfl, by (show _ + 1 < 4294967296); omega, rfl⟩, .inr ⟨leb rfl, ?_⟩⟩ | refine ⟨_, find_C _ _, ?_⟩ | refine ⟨_, put_C _ _ _, ?_⟩ | fail)
      intro lq hlq
      repeat' ((conv => whnf); first | refine ⟨rfl, fun hc => ?_, fun hc => ?_⟩ | refine ⟨fun hc => ?_, fun hc => ?_⟩ | refine ⟨rfl, _, w64 (by omega) (by omega), ?_⟩ | refine ⟨_, w64 (by omega) (by omega), ?_⟩ | refine ⟨_, wU (by omega) (by omega), ?_⟩ | refine ⟨rfl, rfl, ?_⟩ | refine And.intro (show (0 : Int) ≤ _ by omega) ?_ | refine ldI (by repeat first | exact .hd | apply In.tl) ?_ | refine stI (by repeat first | exact .hd | apply In.tl) ?_ | refine slI (by repeat first | exact .hd | apply In.tl) ?_ | refine apI (by repeat first | exact .hd | apply In.tl) ?_ | refine mpI (by repeat first | exact .hd | apply In.tl) ?_ | refine ⟨⟨rfl, leb rfl, rfl⟩, ?_⟩ | refine ⟨⟨rfl, leb rfl⟩, ?_⟩ | refine ⟨⟨by decide, by decide⟩, ?_⟩ | refine ⟨rfl, ?_⟩ | refine ⟨leb rfl, ?_⟩ | refine ⟨by decide, ?_⟩ | refine .inr ⟨⟨leb rfl, leb rfl, rfl, rfl⟩, ?_⟩ | refine ⟨⟨by omega, by first | omega | exact ltm (by omega)⟩, lenm (by intro _; rfl), ?_⟩ | refine ⟨_, getm (by omega) (by first | omega | exact ltm_inv (by omega)), ?_⟩ | refine ⟨⟨by omega, by omega⟩, rfl, ?_⟩ | refine ⟨⟨rfl, by omega, rfl, by (show _ + 1 < 4294967296); omega, rfl⟩, .inr ⟨leb rfl, ?_⟩⟩ | refine ⟨_, find_C _ _, ?_⟩ | refine ⟨_, put_C _ _ _, ?_⟩ | fail)
      (conv => whnf)
      exact ⟨_, hw', Sub.pick [0, 1, 3] rfl, lq, by rw [hsucc]; rfl, .mk rfl⟩
    | succ j =>
      repeat' ((conv => whnf); first | refine ⟨rfl, fun hc => ?_, fun hc => ?_⟩ | refine ⟨fun hc => ?_, fun hc => ?_⟩ | refine ⟨rfl, _, w64 (by omega) (by omega), ?_⟩ | refine ⟨_, w64 (by omega) (by omega), ?_⟩ | refine ⟨_, wU (by omega) (by omega), ?_⟩ | refine ⟨rfl, rfl, ?_⟩ | refine And.intro (show (0 : Int) ≤ _ by omega) ?_ | refine ldI (by repeat first | exact .hd | apply In.tl) ?_ | refine stI (by repeat first | exact .hd | apply In.tl) ?_ | refine slI (by repeat first | exact .hd | apply In.tl) ?_ | refine apI (by repeat first | exact .hd | apply In.tl) ?_ | refine mpI (by repeat first | exact .hd | apply In.tl) ?_ | refine ⟨⟨rfl, leb rfl, rfl⟩, ?_⟩ | refine ⟨⟨rfl, leb rfl⟩, ?_⟩ | refine ⟨⟨by decide, by decide⟩, ?_⟩ | refine ⟨rfl, ?_⟩ | refine ⟨leb rfl, ?_⟩ | refine ⟨by decide, ?_⟩ | refine .inr ⟨⟨leb rfl, leb rfl, rfl, rfl⟩, ?_⟩ | refine ⟨⟨by omega, by first | omega | exact ltm (by omega)⟩, lenm (by intro _; rfl), ?_⟩ | refine ⟨_, getm (by omega) (by first | omega | exact ltm_inv (by omega)), ?_⟩ | refine ⟨⟨by omega, by omega⟩, rfl, ?_⟩ | refine ⟨⟨rfl, by omega, rfl, by (show _ + 1 < 4294967296); omega, rfl⟩, .inr ⟨leb rfl, ?_⟩⟩ | refine ⟨_, find_C _ _, ?_⟩ | refine ⟨_, put_C _ _ _, ?_⟩ | fail)
      intro l15 hl15
      repeat' ((conv => whnf); first | refine ⟨rfl, fun hc => ?_, fun hc => ?_⟩ | refine ⟨fun hc => ?_, fun hc => ?_⟩ | refine ⟨rfl, _, w64 (by omega) (by omega), ?_⟩ | refine ⟨_, w64 (by omega) (by omega), ?_⟩ | refine ⟨_, wU (by omega) (by omega), ?_⟩ | refine ⟨rfl, rfl, ?_⟩ | refine And.intro (show (0 : Int) ≤ _ by omega) ?_ | refine ldI (by repeat first | exact .hd | apply In.tl) ?_ | refine stI (by repeat first | exact .hd | apply In.tl) ?_ | refine slI (by repeat first | exact .hd | apply In.tl) ?_ | refine apI (by repeat first | exact .hd | apply In.tl) ?_ | refine mpI (by repeat first | exact .hd | apply In.tl) ?_ | refine ⟨⟨rfl, leb rfl, rfl⟩, ?_⟩ | refine ⟨⟨rfl, leb rfl⟩, ?_⟩ | refine ⟨⟨by decide, by decide⟩, ?_⟩ | refine ⟨rfl, ?_⟩ | refine ⟨leb rfl, ?_⟩ | refine ⟨by decide, ?_⟩ | refine .inr ⟨⟨leb rfl, leb rfl, rfl, rfl⟩, ?_⟩ | refine ⟨⟨by omega, by first | omega | exact ltm (by omega)⟩, lenm (by intro _; rfl), ?_⟩ | refine ⟨_, getm (by omega) (by first | omega | exact ltm_inv (by omega)), ?_⟩ | refine ⟨⟨by omega, by omega⟩, rfl, ?_⟩ | refine ⟨⟨rfl, by omega, rfl, by (show _ + 1 < 4294967296); omega, rfl⟩, .inr ⟨leb rfl, ?_⟩⟩ | refine ⟨_, find_C _ _, ?_⟩ | refine ⟨_, put_C _ _ _, ?_⟩ | refine ⟨_, _, _, true, fun _ H hR => ⟨H, rfl, hR⟩, k57 rfl hloc, rfl, ?_⟩ | refine ⟨_, _, _, false, fun _ H hR => ⟨H, rfl, hR⟩, k57 rfl hloc, rfl, ?_⟩ | fail)
      rw [hmx]
      repeat' ((conv => whnf); first | refine ⟨rfl, fun hc => ?_, fun hc => ?_⟩ | refine ⟨fun hc => ?_, fun hc => ?_⟩ | refine ⟨rfl, _, w64 (by omega) (by omega), ?_⟩ | refine ⟨_, w64 (by omega) (by omega), ?_⟩ | refine ⟨_, wU (by omega) (by omega), ?_⟩ | refine ⟨rfl, rfl, ?_⟩ | refine And.intro (show (0 : Int) ≤ _ by omega) ?_ | refine ldI (by repeat first | exact .hd | apply In.tl) ?_ | refine stI (by repeat first | exact .hd | apply In.tl) ?_ | refine slI (by repeat first | exact .hd | apply In.tl) ?_ | refine apI (by repeat first | exact .hd | apply In.tl) ?_ | refine mpI (by repeat first | exact .hd | apply In.tl) ?_ | refine ⟨⟨rfl, leb rfl, rfl⟩, ?_⟩ | refine ⟨⟨rfl, leb rfl⟩, ?_⟩ | refine ⟨⟨by decide, by decide⟩, ?_⟩ | refine ⟨rfl, ?_⟩ | refine ⟨leb rfl, ?_⟩ | refine ⟨by decide, ?_⟩ | refine .inr ⟨⟨leb rfl, leb rfl, rfl, rfl⟩, ?_⟩ | refine ⟨⟨by omega, by first | omega | exact ltm (by omega)⟩, lenm (by intro _; rfl), ?_⟩ | refine ⟨_, getm (by omega) (by first | omega | exact ltm_inv (by omega)), ?_⟩ | refine ⟨⟨by omega, by omega⟩, rfl, ?_⟩ | refine ⟨⟨rfl, by omega, rfl, by (show _ + 1 < 4294967296); omega, rfl⟩, .inr ⟨leb rfl, ?_⟩⟩ | refine ⟨_, find_C _ _, ?_⟩ | refine ⟨_, put_C _ _ _, ?_⟩ | fail)
      (conv => whnf)
      exact ⟨_, hw', Sub.take 3, lq, by rw [hsucc]; rfl, .mk rfl⟩
  · have h4 := ltm_not h4
    obtain rfl : w = l.length := by omega
    obtain ⟨j, hj⟩ : ∃ j, l.length = j + 1 := ⟨l.length - 1, by omega⟩
    have := hQ lq
    rw [hj] at this ⊢
    exact this _ (.mk rfl)
end Go.Proofs.Ytlgbbabijifflaa.sys
set_option linter.unusedVariables false
set_option linter.unusedSimpArgs false
namespace Go.Proofs.Ytlgbbabijifflaa.sys
attribute [local irreducible] Go.Ai.wrapI Go.Ai.arith.bits Go.Ai.shlI Go.Ai.shrI
open Go Go.Ai Go.Proofs.Ytlgbbabijifflaa.L1R
open runs (RunD SysD runC sysC intsC locsC facsC dSys dSys_C dSys_inv chkS chk_ok sysFine numP)
open mdl (ModD modC modK setC setsC mixed nilOk)
theorem valF_zero (s : SysD) (l : List (Int × Int)) : (List.replicate s.fa.toNat [AV.int .u64 0]).flatten = valF s l 0 0 := by
  rw [rep_rng]; rfl
def z3 : List AV := [.int .i64 0, .nilsl, .nilsl]
def refsC (n : Nat) (rs : List Nat) : List AV := rs.map fun r => .ref r 0 n n 1
theorem val_row (s : SysD) (l : List (Int × Int)) : valF s l 0 l.length = ((List.range s.fa.toNat).map fun f => ((valS s l f : Nat) : Int)).map (AV.int .u64) := by
  simp only [valF, List.map_map]
  refine List.map_congr_left fun f hf => ?_
  rfl
theorem rel_row (s : SysD) (l : List (Int × Int)) (a n : Nat) : relF s l a n = ((List.range n).map fun w => ((relS s l a w : Nat) : Int)).map (AV.int .u64) := by
  simp only [relF, List.map_map]
  rfl
theorem set_eq (xs : List Int) : xs.map setC = xs.map fun x => [AV.int .u64 x] := rfl
theorem map_at {α β : Type} {xs : List α} {f : α → β} {n : Nat} {g : Nat → β} (hn : xs.length = n) (h : ∀ i (hi : i < xs.length), f xs[i] = g i) : xs.map f = (List.range n).map g := by
  subst hn
  apply List.ext_getElem
  · simp
  · intro i h1 h2
    simp only [List.length_map] at h1
    simp [h i h1]
theorem chunk1' {c : List AV} {n : Nat} (h : c.length = n) : chunk 1 n c = c.map fun x => [x] := by rw [← h, chunk1]
theorem fz_rel {s : SysD} {l : List (Int × Int)} {A : Ah} {lr : Nat} {rs : List Nat} (hA : ∀ p ∈ rowA lr 1 (refsC l.length rs) rs.length, p ∈ A) (hR : ∀ i (h : i < rs.length), (rs[i], some (LObj.cells (relF s l i l.length) 1 l.length true false)) ∈ A) :
    FzU 11 A (rowV lr 1 rs.length) (.list ((List.range rs.length).map fun a => setsC ((List.range l.length).map fun w => ((relS s l a w : Nat) : Int)))) := by
  cases hr : rs with
  | nil => exact .nilsl
  | cons r t =>
    rw [← hr]
    obtain ⟨j, hj⟩ : ∃ j, rs.length = j + 1 := ⟨t.length, by simp [hr]⟩
    rw [hj]
    have hlen : (refsC l.length rs).length = j + 1 := by simp [refsC, hj]
    refine .ref (c := refsC l.length rs) (hA _ (by rw [hj]; exact List.mem_singleton.2 rfl)) (cut_all (by omega)) ?_
    rw [chunk1' hlen, ← hj]
    have e1 : (refsC l.length rs).map (fun x => [x]) = (List.range rs.length).map fun i => [.ref (rs.getD i 0) 0 l.length l.length 1] := by
      rw [refsC, List.map_map]
      exact map_at rfl fun i hi => by simp [hi]
    rw [e1]
    refine .map fun a ha => .cons ?_ .nil
    rw [List.mem_range] at ha
    have h1 := hR a ha
    have e2 : rs.getD a 0 = rs[a] := by simp [ha]
    rw [e2]
    rw [rel_row] at h1
    exact .row1 (d := 8) (fun _ => rfl) (by simp) h1
set_option maxRecDepth 100000 in
set_option maxHeartbeats 4000000 in
theorem run62 {n : Nat} {s : SysD} {l : List (Int × Int)} (h : ok62 (s, l)) (hn : 100 < n) {K : List AV → Ah → Prop} (hK : ∀ rs' A, Fin .iso A rs' [.agg (modC (modelS s l))] → K rs' A) : aB (hands U2) n ir62 (.agg (sysC s) :: .list (l.map ptC) :: .undef :: .undef :: .undef :: .undef :: .undef :: .undef :: .undef :: .undef :: .undef :: .undef :: .undef :: .undef :: .undef :: .undef :: .undef :: .undef :: .undef :: .undef :: .undef :: .undef :: .undef :: .undef :: .undef :: .undef :: .undef :: .undef :: .undef :: .undef :: .undef :: .undef :: .undef :: .undef :: .undef :: .undef :: .undef :: .undef :: .undef :: .undef :: .undef :: .undef :: .undef :: .undef :: .undef :: .undef :: .undef :: .undef :: .undef :: .undef :: .undef :: .undef :: .undef :: .undef :: .undef :: .undef :: .undef :: .undef :: .undef :: .undef :: .undef :: .undef :: .undef :: .undef :: .undef :: .undef :: .undef :: .undef :: .undef :: .undef :: .undef :: .undef :: .undef :: .undef :: .undef :: .undef :: .undef :: .undef :: .undef :: .undef :: .undef :: .undef :: .undef :: .undef :: .undef :: .undef :: .undef :: .undef :: .undef :: .undef :: .undef :: .undef :: .undef :: .undef :: .undef :: .undef :: .undef :: .undef :: .undef :: .undef :: .undef :: .undef :: .undef :: .undef :: .undef :: .undef :: .undef :: []) [] K := by
  have h' := h
  obtain ⟨hv, hl1, hl2, hlp⟩ := h
  simp only at hv hl1 hl2 hlp
  obtain ⟨q1, q2, q3, q4, q5, q6, q7, q8, q9⟩ := chk_ok hv.2
  refine ⟨rfl, ?_⟩
  intro l2 hl2'
  repeat' ((conv => whnf); first | refine ⟨rfl, fun hc => ?_, fun hc => ?_⟩ | refine ⟨fun hc => ?_, fun hc => ?_⟩ | refine ⟨rfl, _, w64 (by omega) (by omega), ?_⟩ | refine ⟨_, w64 (by omega) (by omega), ?_⟩ | refine ⟨_, wU (by omega) (by omega), ?_⟩ | refine ⟨rfl, rfl, ?_⟩ | refine And.intro (show (0 : Int) ≤ _ by omega) ?_ | refine ldI (by repeat first | exact .hd | apply In.tl) ?_ | refine stI (by repeat first | exact .hd | apply In.tl) ?_ | refine slI (by repeat first | exact .hd | apply In.tl) ?_ | refine apI (by repeat first | exact .hd | apply In.tl) ?_ | refine mpI (by repeat first | exact .hd | apply In.tl) ?_ | refine ⟨⟨rfl, leb rfl, rfl⟩, ?_⟩ | refine ⟨⟨rfl, leb rfl⟩, ?_⟩ | refine ⟨⟨by decide, by decide⟩, ?_⟩ | refine ⟨rfl, ?_⟩ | refine ⟨leb rfl, ?_⟩ | refine ⟨by decide, ?_⟩ | refine .inr ⟨⟨leb rfl, leb rfl, rfl, rfl⟩, ?_⟩ | refine ⟨⟨by omega, by first | omega | exact ltm (by omega)⟩, lenm (by intro _; rfl), ?_⟩ | refine ⟨_, getm (by omega) (by first | omega | exact ltm_inv (by omega)), ?_⟩ | refine ⟨⟨by omega, by omega⟩, rfl, ?_⟩ | refine ⟨⟨rfl, by omega, rfl, by (show _ + 1 < 4294967296); omega, rfl⟩, .inr ⟨leb rfl, ?_⟩⟩ | refine ⟨_, find_C _ _, ?_⟩ | refine ⟨_, put_C _ _ _, ?_⟩ | fail)
  intro l4 hl4
  repeat' ((conv => whnf); first | refine ⟨rfl, fun hc => ?_, fun hc => ?_⟩ | refine ⟨fun hc => ?_, fun hc => ?_⟩ | refine ⟨rfl, _, w64 (by omega) (by omega), ?_⟩ | refine ⟨_, w64 (by omega) (by omega), ?_⟩ | refine ⟨_, wU (by omega) (by omega), ?_⟩ | refine ⟨rfl, rfl, ?_⟩ | refine And.intro (show (0 : Int) ≤ _ by omega) ?_ | refine ldI (by repeat first | exact .hd | apply In.tl) ?_ | refine stI (by repeat first | exact .hd | apply In.tl) ?_ | refine slI (by repeat first | exact .hd | apply In.tl) ?_ | refine apI (by repeat first | exact .hd | apply In.tl) ?_ | refine mpI (by repeat first | exact .hd | apply In.tl) ?_ | refine ⟨⟨rfl, leb rfl, rfl⟩, ?_⟩ | refine ⟨⟨rfl, leb rfl⟩, ?_⟩ | refine ⟨⟨by decide, by decide⟩, ?_⟩ | refine ⟨rfl, ?_⟩ | refine ⟨leb rfl, ?_⟩ | refine ⟨by decide, ?_⟩ | refine .inr ⟨⟨leb rfl, leb rfl, rfl, rfl⟩, ?_⟩ | refine ⟨⟨by omega, by first | omega | exact ltm (by omega)⟩, lenm (by intro _; rfl), ?_⟩ | refine ⟨_, getm (by omega) (by first | omega | exact ltm_inv (by omega)), ?_⟩ | refine ⟨⟨by omega, by omega⟩, rfl, ?_⟩ | refine ⟨⟨rfl, by omega, rfl, by (show _ + 1 < 4294967296); omega, rfl⟩, .inr ⟨leb rfl, ?_⟩⟩ | refine ⟨_, find_C _ _, ?_⟩ | refine ⟨_, put_C _ _ _, ?_⟩ | fail)
  refine ⟨⟨by omega, by omega, by (show _ < 4294967296); omega, by (show _ < 4294967296); omega⟩, ?_⟩
  repeat' ((conv => whnf); first | refine ⟨rfl, fun hc => ?_, fun hc => ?_⟩ | refine ⟨fun hc => ?_, fun hc => ?_⟩ | refine ⟨rfl, _, w64 (by omega) (by omega), ?_⟩ | refine ⟨_, w64 (by omega) (by omega), ?_⟩ | refine ⟨_, wU (by omega) (by omega), ?_⟩ | refine ⟨rfl, rfl, ?_⟩ | refine And.intro (show (0 : Int) ≤ _ by omega) ?_ | refine ldI (by repeat first | exact .hd | apply In.tl) ?_ | refine stI (by repeat first | exact .hd | apply In.tl) ?_ | refine slI (by repeat first | exact .hd | apply In.tl) ?_ | refine apI (by repeat first | exact .hd | apply In.tl) ?_ | refine mpI (by repeat first | exact .hd | apply In.tl) ?_ | refine ⟨⟨rfl, leb rfl, rfl⟩, ?_⟩ | refine ⟨⟨rfl, leb rfl⟩, ?_⟩ | refine ⟨⟨by decide, by decide⟩, ?_⟩ | refine ⟨rfl, ?_⟩ | refine ⟨leb rfl, ?_⟩ | refine ⟨by decide, ?_⟩ | refine .inr ⟨⟨leb rfl, leb rfl, rfl, rfl⟩, ?_⟩ | refine ⟨⟨by omega, by first | omega | exact ltm (by omega)⟩, lenm (by intro _; rfl), ?_⟩ | refine ⟨_, getm (by omega) (by first | omega | exact ltm_inv (by omega)), ?_⟩ | refine ⟨⟨by omega, by omega⟩, rfl, ?_⟩ | refine ⟨⟨rfl, by omega, rfl, by (show _ + 1 < 4294967296); omega, rfl⟩, .inr ⟨leb rfl, ?_⟩⟩ | refine ⟨_, find_C _ _, ?_⟩ | refine ⟨_, put_C _ _ _, ?_⟩ | fail)
  intro lv hlv
  repeat' ((conv => whnf); first | refine ⟨rfl, fun hc => ?_, fun hc => ?_⟩ | refine ⟨fun hc => ?_, fun hc => ?_⟩ | refine ⟨rfl, _, w64 (by omega) (by omega), ?_⟩ | refine ⟨_, w64 (by omega) (by omega), ?_⟩ | refine ⟨_, wU (by omega) (by omega), ?_⟩ | refine ⟨rfl, rfl, ?_⟩ | refine And.intro (show (0 : Int) ≤ _ by omega) ?_ | refine ldI (by repeat first | exact .hd | apply In.tl) ?_ | refine stI (by repeat first | exact .hd | apply In.tl) ?_ | refine slI (by repeat first | exact .hd | apply In.tl) ?_ | refine apI (by repeat first | exact .hd | apply In.tl) ?_ | refine mpI (by repeat first | exact .hd | apply In.tl) ?_ | refine ⟨⟨rfl, leb rfl, rfl⟩, ?_⟩ | refine ⟨⟨rfl, leb rfl⟩, ?_⟩ | refine ⟨⟨by decide, by decide⟩, ?_⟩ | refine ⟨rfl, ?_⟩ | refine ⟨leb rfl, ?_⟩ | refine ⟨by decide, ?_⟩ | refine .inr ⟨⟨leb rfl, leb rfl, rfl, rfl⟩, ?_⟩ | refine ⟨⟨by omega, by first | omega | exact ltm (by omega)⟩, lenm (by intro _; rfl), ?_⟩ | refine ⟨_, getm (by omega) (by first | omega | exact ltm_inv (by omega)), ?_⟩ | refine ⟨⟨by omega, by omega⟩, rfl, ?_⟩ | refine ⟨⟨rfl, by omega, rfl, by (show _ + 1 < 4294967296); omega, rfl⟩, .inr ⟨leb rfl, ?_⟩⟩ | refine ⟨_, find_C _ _, ?_⟩ | refine ⟨_, put_C _ _ _, ?_⟩ | fail)
  intro l5 hl5
  repeat' ((conv => whnf); first | refine ⟨rfl, fun hc => ?_, fun hc => ?_⟩ | refine ⟨fun hc => ?_, fun hc => ?_⟩ | refine ⟨rfl, _, w64 (by omega) (by omega), ?_⟩ | refine ⟨_, w64 (by omega) (by omega), ?_⟩ | refine ⟨_, wU (by omega) (by omega), ?_⟩ | refine ⟨rfl, rfl, ?_⟩ | refine And.intro (show (0 : Int) ≤ _ by omega) ?_ | refine ldI (by repeat first | exact .hd | apply In.tl) ?_ | refine stI (by repeat first | exact .hd | apply In.tl) ?_ | refine slI (by repeat first | exact .hd | apply In.tl) ?_ | refine apI (by repeat first | exact .hd | apply In.tl) ?_ | refine mpI (by repeat first | exact .hd | apply In.tl) ?_ | refine ⟨⟨rfl, leb rfl, rfl⟩, ?_⟩ | refine ⟨⟨rfl, leb rfl⟩, ?_⟩ | refine ⟨⟨by decide, by decide⟩, ?_⟩ | refine ⟨rfl, ?_⟩ | refine ⟨leb rfl, ?_⟩ | refine ⟨by decide, ?_⟩ | refine .inr ⟨⟨leb rfl, leb rfl, rfl, rfl⟩, ?_⟩ | refine ⟨⟨by omega, by first | omega | exact ltm (by omega)⟩, lenm (by intro _; rfl), ?_⟩ | refine ⟨_, getm (by omega) (by first | omega | exact ltm_inv (by omega)), ?_⟩ | refine ⟨⟨by omega, by omega⟩, rfl, ?_⟩ | refine ⟨⟨rfl, by omega, rfl, by (show _ + 1 < 4294967296); omega, rfl⟩, .inr ⟨leb rfl, ?_⟩⟩ | refine ⟨_, find_C _ _, ?_⟩ | refine ⟨_, put_C _ _ _, ?_⟩ | fail)
  refine aLoop_up (fun k env A => A = [(l2, some (.cells (sysC s) 0 0 false false)), (l4, some (.cells z3 0 0 false false)), (lv, some (.cells (valF s l 0 k) 1 0 true false)), (l5, some (.cells [.int .i64 (l.map ptC).length, .ref lv 0 s.fa.toNat 0 1, .nilsl] 0 0 false false))] ∧ IEnv (fun g => (g 0 :: .list (l.map ptC) :: .ptr l2 0 0 :: g 3 :: .ptr l4 0 0 :: .ptr l5 0 0 :: g 6 :: g 7 :: g 8 :: g 9 :: g 10 :: g 11 :: g 12 :: g 13 :: g 14 :: g 15 :: g 16 :: g 17 :: g 18 :: g 19 :: g 20 :: g 21 :: .list (l.map ptC) :: .int .i64 (l.map ptC).length :: .int .i64 (k : Int) :: g 25 :: g 26 :: g 27 :: g 28 :: g 29 :: g 30 :: g 31 :: g 32 :: g 33 :: g 34 :: g 35 :: g 36 :: g 37 :: g 38 :: g 39 :: g 40 :: g 41 :: g 42 :: g 43 :: g 44 :: g 45 :: g 46 :: g 47 :: g 48 :: g 49 :: g 50 :: g 51 :: g 52 :: g 53 :: g 54 :: g 55 :: g 56 :: g 57 :: g 58 :: g 59 :: g 60 :: g 61 :: g 62 :: g 63 :: g 64 :: g 65 :: g 66 :: g 67 :: g 68 :: g 69 :: g 70 :: g 71 :: g 72 :: g 73 :: g 74 :: g 75 :: g 76 :: g 77 :: g 78 :: g 79 :: g 80 :: g 81 :: g 82 :: g 83 :: g 84 :: g 85 :: g 86 :: g 87 :: g 88 :: g 89 :: g 90 :: g 91 :: g 92 :: g 93 :: g 94 :: g 95 :: g 96 :: g 97 :: g 98 :: g 99 :: g 100 :: g 101 :: g 102 :: g 103 :: g 104 :: g 105 :: g 106 :: [])) env) l.length (by rw [← valF_zero]; exact .refl _) ⟨rfl, .mk rfl⟩ (by omega) ?_
  rintro k env A hk ⟨rfl, ⟨g, rfl⟩⟩
  refine ⟨rfl, fun h4 => ?_, fun h4 => ?_⟩
  · have h4 := ltm_inv h4
    have hk' : k < l.length := by omega
    have hp := hlp _ (nthD_mem (n := k) (by omega) h4)
    obtain ⟨f1, f2⟩ := in_fac hv hp
    obtain ⟨p1, p2, p3, p4⟩ := hp
    repeat' ((conv => whnf); first | refine ⟨rfl, fun hc => ?_, fun hc => ?_⟩ | refine ⟨fun hc => ?_, fun hc => ?_⟩ | refine ⟨rfl, _, w64 (by omega) (by omega), ?_⟩ | refine ⟨_, w64 (by omega) (by omega), ?_⟩ | refine ⟨_, wU (by omega) (by omega), ?_⟩ | refine ⟨rfl, rfl, ?_⟩ | refine And.intro (show (0 : Int) ≤ _ by omega) ?_ | refine ldI (by repeat first | exact .hd | apply In.tl) ?_ | refine stI (by repeat first | exact .hd | apply In.tl) ?_ | refine slI (by repeat first | exact .hd | apply In.tl) ?_ | refine apI (by repeat first | exact .hd | apply In.tl) ?_ | refine mpI (by repeat first | exact .hd | apply In.tl) ?_ | refine ⟨⟨rfl, leb rfl, rfl⟩, ?_⟩ | refine ⟨⟨rfl, leb rfl⟩, ?_⟩ | refine ⟨⟨by decide, by decide⟩, ?_⟩ | refine ⟨rfl, ?_⟩ | refine ⟨leb rfl, ?_⟩ | refine ⟨by decide, ?_⟩ | refine .inr ⟨⟨leb rfl, leb rfl, rfl, rfl⟩, ?_⟩ | refine ⟨⟨by omega, by first | omega | exact ltm (by omega)⟩, lenm (by intro _; rfl), ?_⟩ | refine ⟨_, getm (by omega) (by first | omega | exact ltm_inv (by omega)), ?_⟩ | refine ⟨⟨by omega, by omega⟩, rfl, ?_⟩ | refine ⟨⟨rfl, by omega, rfl, by (show _ + 1 < 4294967296); omega, rfl⟩, .inr ⟨leb rfl, ?_⟩⟩ | refine ⟨_, find_C _ _, ?_⟩ | refine ⟨_, put_C _ _ _, ?_⟩ | fail)
    intro l7 hl7
    repeat' ((conv => whnf); first | refine ⟨rfl, fun hc => ?_, fun hc => ?_⟩ | refine ⟨fun hc => ?_, fun hc => ?_⟩ | refine ⟨rfl, _, w64 (by omega) (by omega), ?_⟩ | refine ⟨_, w64 (by omega) (by omega), ?_⟩ | refine ⟨_, wU (by omega) (by omega), ?_⟩ | refine ⟨rfl, rfl, ?_⟩ | refine And.intro (show (0 : Int) ≤ _ by omega) ?_ | refine ldI (by repeat first | exact .hd | apply In.tl) ?_ | refine stI (by repeat first | exact .hd | apply In.tl) ?_ | refine slI (by repeat first | exact .hd | apply In.tl) ?_ | refine apI (by repeat first | exact .hd | apply In.tl) ?_ | refine mpI (by repeat first | exact .hd | apply In.tl) ?_ | refine ⟨⟨rfl, leb rfl, rfl⟩, ?_⟩ | refine ⟨⟨rfl, leb rfl⟩, ?_⟩ | refine ⟨⟨by decide, by decide⟩, ?_⟩ | refine ⟨rfl, ?_⟩ | refine ⟨leb rfl, ?_⟩ | refine ⟨by decide, ?_⟩ | refine .inr ⟨⟨leb rfl, leb rfl, rfl, rfl⟩, ?_⟩ | refine ⟨⟨by omega, by first | omega | exact ltm (by omega)⟩, lenm (by intro _; rfl), ?_⟩ | refine ⟨_, getm (by omega) (by first | omega | exact ltm_inv (by omega)), ?_⟩ | refine ⟨⟨by omega, by omega⟩, rfl, ?_⟩ | refine ⟨⟨rfl, by omega, rfl, by (show _ + 1 < 4294967296); omega, rfl⟩, .inr ⟨leb rfl, ?_⟩⟩ | refine ⟨_, find_C _ _, ?_⟩ | refine ⟨_, put_C _ _ _, ?_⟩ | fail)
    refine aLoop_up (fun i env A => A = [(l2, some (.cells (sysC s) 0 0 false false)), (l4, some (.cells z3 0 0 false false)), (lv, some (.cells (valF s l i k) 1 0 true false)), (l5, some (.cells [.int .i64 (l.map ptC).length, .ref lv 0 s.fa.toNat 0 1, .nilsl] 0 0 false false)), (l7, some (.cells (ptC (nthD l k)) 0 0 false false))] ∧ IEnv (fun g => (g 0 :: .list (l.map ptC) :: .ptr l2 0 0 :: g 3 :: .ptr l4 0 0 :: .ptr l5 0 0 :: .int .i64 (k : Int) :: .ptr l7 0 0 :: g 8 :: g 9 :: g 10 :: g 11 :: g 12 :: g 13 :: g 14 :: g 15 :: g 16 :: g 17 :: g 18 :: g 19 :: g 20 :: g 21 :: .list (l.map ptC) :: .int .i64 (l.map ptC).length :: .int .i64 (k : Int) :: g 25 :: g 26 :: g 27 :: g 28 :: g 29 :: g 30 :: .int .i64 ((s.fa.toNat : Nat) : Int) :: .int .i64 (i : Int) :: g 33 :: g 34 :: g 35 :: g 36 :: g 37 :: g 38 :: g 39 :: g 40 :: g 41 :: g 42 :: g 43 :: g 44 :: g 45 :: g 46 :: g 47 :: g 48 :: g 49 :: g 50 :: g 51 :: g 52 :: g 53 :: g 54 :: g 55 :: g 56 :: g 57 :: g 58 :: g 59 :: g 60 :: g 61 :: g 62 :: g 63 :: g 64 :: g 65 :: g 66 :: g 67 :: g 68 :: g 69 :: g 70 :: g 71 :: g 72 :: g 73 :: g 74 :: g 75 :: g 76 :: g 77 :: g 78 :: g 79 :: g 80 :: g 81 :: g 82 :: g 83 :: g 84 :: g 85 :: g 86 :: g 87 :: g 88 :: g 89 :: g 90 :: g 91 :: g 92 :: g 93 :: g 94 :: g 95 :: g 96 :: g 97 :: g 98 :: g 99 :: g 100 :: g 101 :: g 102 :: g 103 :: g 104 :: g 105 :: g 106 :: [])) env) s.fa.toNat (.refl _) ⟨rfl, .mk rfl⟩ (by omega) ?_
    rintro i env A hi ⟨rfl, ⟨g, rfl⟩⟩
    refine ⟨rfl, fun h5 => ?_, fun h5 => ?_⟩
    · have hi' : i < s.fa.toNat := by omega
      repeat' ((conv => whnf); first | refine ⟨rfl, fun hc => ?_, fun hc => ?_⟩ | refine ⟨fun hc => ?_, fun hc => ?_⟩ | refine ⟨rfl, _, w64 (by omega) (by omega), ?_⟩ | refine ⟨_, w64 (by omega) (by omega), ?_⟩ | refine ⟨_, wU (by omega) (by omega), ?_⟩ | refine ⟨rfl, rfl, ?_⟩ | refine And.intro (show (0 : Int) ≤ _ by omega) ?_ | refine ldI (by repeat first | exact .hd | apply In.tl) ?_ | refine stI (by repeat first | exact .hd | apply In.tl) ?_ | refine slI (by repeat first | exact .hd | apply In.tl) ?_ | refine apI (by repeat first | exact .hd | apply In.tl) ?_ | refine mpI (by repeat first | exact .hd | apply In.tl) ?_ | refine ⟨⟨rfl, leb rfl, rfl⟩, ?_⟩ | refine ⟨⟨rfl, leb rfl⟩, ?_⟩ | refine ⟨⟨by decide, by decide⟩, ?_⟩ | refine ⟨rfl, ?_⟩ | refine ⟨leb rfl, ?_⟩ | refine ⟨by decide, ?_⟩ | refine .inr ⟨⟨leb rfl, leb rfl, rfl, rfl⟩, ?_⟩ | refine ⟨⟨by omega, by first | omega | exact ltm (by omega)⟩, lenm (by intro _; rfl), ?_⟩ | refine ⟨_, getm (by omega) (by first | omega | exact ltm_inv (by omega)), ?_⟩ | refine ⟨⟨by omega, by omega⟩, rfl, ?_⟩ | refine ⟨⟨rfl, by omega, rfl, by (show _ + 1 < 4294967296); omega, rfl⟩, .inr ⟨leb rfl, ?_⟩⟩ | refine ⟨_, find_C _ _, ?_⟩ | refine ⟨_, put_C _ _ _, ?_⟩ | fail)
      intro b hb
      repeat' ((conv => whnf); first | refine ⟨rfl, fun hc => ?_, fun hc => ?_⟩ | refine ⟨fun hc => ?_, fun hc => ?_⟩ | refine ⟨rfl, _, w64 (by omega) (by omega), ?_⟩ | refine ⟨_, w64 (by omega) (by omega), ?_⟩ | refine ⟨_, wU (by omega) (by omega), ?_⟩ | refine ⟨rfl, rfl, ?_⟩ | refine And.intro (show (0 : Int) ≤ _ by omega) ?_ | refine ldI (by repeat first | exact .hd | apply In.tl) ?_ | refine stI (by repeat first | exact .hd | apply In.tl) ?_ | refine slI (by repeat first | exact .hd | apply In.tl) ?_ | refine apI (by repeat first | exact .hd | apply In.tl) ?_ | refine mpI (by repeat first | exact .hd | apply In.tl) ?_ | refine ⟨⟨rfl, leb rfl, rfl⟩, ?_⟩ | refine ⟨⟨rfl, leb rfl⟩, ?_⟩ | refine ⟨⟨by decide, by decide⟩, ?_⟩ | refine ⟨rfl, ?_⟩ | refine ⟨leb rfl, ?_⟩ | refine ⟨by decide, ?_⟩ | refine .inr ⟨⟨leb rfl, leb rfl, rfl, rfl⟩, ?_⟩ | refine ⟨⟨by omega, by first | omega | exact ltm (by omega)⟩, lenm (by intro _; rfl), ?_⟩ | refine ⟨_, getm (by omega) (by first | omega | exact ltm_inv (by omega)), ?_⟩ | refine ⟨⟨by omega, by omega⟩, rfl, ?_⟩ | refine ⟨⟨rfl, by omega, rfl, by (show _ + 1 < 4294967296); omega, rfl⟩, .inr ⟨leb rfl, ?_⟩⟩ | refine ⟨_, find_C _ _, ?_⟩ | refine ⟨_, put_C _ _ _, ?_⟩ | fail)
      refine cutF_iff.2 ⟨_, cut_rng (v := .int .u64 ((maskN (bitF s l i) k : Nat) : Int)) hi' (by omega) (by simp), ?_⟩
      repeat' ((conv => whnf); first | refine ⟨rfl, fun hc => ?_, fun hc => ?_⟩ | refine ⟨fun hc => ?_, fun hc => ?_⟩ | refine ⟨rfl, _, w64 (by omega) (by omega), ?_⟩ | refine ⟨_, w64 (by omega) (by omega), ?_⟩ | refine ⟨_, wU (by omega) (by omega), ?_⟩ | refine ⟨rfl, rfl, ?_⟩ | refine And.intro (show (0 : Int) ≤ _ by omega) ?_ | refine ldI (by repeat first | exact .hd | apply In.tl) ?_ | refine stI (by repeat first | exact .hd | apply In.tl) ?_ | refine slI (by repeat first | exact .hd | apply In.tl) ?_ | refine apI (by repeat first | exact .hd | apply In.tl) ?_ | refine mpI (by repeat first | exact .hd | apply In.tl) ?_ | refine ⟨⟨rfl, leb rfl, rfl⟩, ?_⟩ | refine ⟨⟨rfl, leb rfl⟩, ?_⟩ | refine ⟨⟨by decide, by decide⟩, ?_⟩ | refine ⟨rfl, ?_⟩ | refine ⟨leb rfl, ?_⟩ | refine ⟨by decide, ?_⟩ | refine .inr ⟨⟨leb rfl, leb rfl, rfl, rfl⟩, ?_⟩ | refine ⟨⟨by omega, by first | omega | exact ltm (by omega)⟩, lenm (by intro _; rfl), ?_⟩ | refine ⟨_, getm (by omega) (by first | omega | exact ltm_inv (by omega)), ?_⟩ | refine ⟨⟨by omega, by omega⟩, rfl, ?_⟩ | refine ⟨⟨rfl, by omega, rfl, by (show _ + 1 < 4294967296); omega, rfl⟩, .inr ⟨leb rfl, ?_⟩⟩ | refine ⟨_, find_C _ _, ?_⟩ | refine ⟨_, put_C _ _ _, ?_⟩ | fail)
      refine ⟨_, rfl, ?_⟩
      repeat' ((conv => whnf); first | refine ⟨rfl, fun hc => ?_, fun hc => ?_⟩ | refine ⟨fun hc => ?_, fun hc => ?_⟩ | refine ⟨rfl, _, w64 (by omega) (by omega), ?_⟩ | refine ⟨_, w64 (by omega) (by omega), ?_⟩ | refine ⟨_, wU (by omega) (by omega), ?_⟩ | refine ⟨rfl, rfl, ?_⟩ | refine And.intro (show (0 : Int) ≤ _ by omega) ?_ | refine ldI (by repeat first | exact .hd | apply In.tl) ?_ | refine stI (by repeat first | exact .hd | apply In.tl) ?_ | refine slI (by repeat first | exact .hd | apply In.tl) ?_ | refine apI (by repeat first | exact .hd | apply In.tl) ?_ | refine mpI (by repeat first | exact .hd | apply In.tl) ?_ | refine ⟨⟨rfl, leb rfl, rfl⟩, ?_⟩ | refine ⟨⟨rfl, leb rfl⟩, ?_⟩ | refine ⟨⟨by decide, by decide⟩, ?_⟩ | refine ⟨rfl, ?_⟩ | refine ⟨leb rfl, ?_⟩ | refine ⟨by decide, ?_⟩ | refine .inr ⟨⟨leb rfl, leb rfl, rfl, rfl⟩, ?_⟩ | refine ⟨⟨by omega, by first | omega | exact ltm (by omega)⟩, lenm (by intro _; rfl), ?_⟩ | refine ⟨_, getm (by omega) (by first | omega | exact ltm_inv (by omega)), ?_⟩ | refine ⟨⟨by omega, by omega⟩, rfl, ?_⟩ | refine ⟨⟨rfl, by omega, rfl, by (show _ + 1 < 4294967296); omega, rfl⟩, .inr ⟨leb rfl, ?_⟩⟩ | refine ⟨_, find_C _ _, ?_⟩ | refine ⟨_, put_C _ _ _, ?_⟩ | fail)
      refine ⟨_, shr_and f2 (by omega), ?_⟩
      repeat' ((conv => whnf); first | refine ⟨rfl, fun hc => ?_, fun hc => ?_⟩ | refine ⟨fun hc => ?_, fun hc => ?_⟩ | refine ⟨rfl, _, w64 (by omega) (by omega), ?_⟩ | refine ⟨_, w64 (by omega) (by omega), ?_⟩ | refine ⟨_, wU (by omega) (by omega), ?_⟩ | refine ⟨rfl, rfl, ?_⟩ | refine And.intro (show (0 : Int) ≤ _ by omega) ?_ | refine ldI (by repeat first | exact .hd | apply In.tl) ?_ | refine stI (by repeat first | exact .hd | apply In.tl) ?_ | refine slI (by repeat first | exact .hd | apply In.tl) ?_ | refine apI (by repeat first | exact .hd | apply In.tl) ?_ | refine mpI (by repeat first | exact .hd | apply In.tl) ?_ | refine ⟨⟨rfl, leb rfl, rfl⟩, ?_⟩ | refine ⟨⟨rfl, leb rfl⟩, ?_⟩ | refine ⟨⟨by decide, by decide⟩, ?_⟩ | refine ⟨rfl, ?_⟩ | refine ⟨leb rfl, ?_⟩ | refine ⟨by decide, ?_⟩ | refine .inr ⟨⟨leb rfl, leb rfl, rfl, rfl⟩, ?_⟩ | refine ⟨⟨by omega, by first | omega | exact ltm (by omega)⟩, lenm (by intro _; rfl), ?_⟩ | refine ⟨_, getm (by omega) (by first | omega | exact ltm_inv (by omega)), ?_⟩ | refine ⟨⟨by omega, by omega⟩, rfl, ?_⟩ | refine ⟨⟨rfl, by omega, rfl, by (show _ + 1 < 4294967296); omega, rfl⟩, .inr ⟨leb rfl, ?_⟩⟩ | refine ⟨_, find_C _ _, ?_⟩ | refine ⟨_, put_C _ _ _, ?_⟩ | fail)
      refine ⟨_, shl_bit (by omega) _, ?_⟩
      repeat' ((conv => whnf); first | refine ⟨rfl, fun hc => ?_, fun hc => ?_⟩ | refine ⟨fun hc => ?_, fun hc => ?_⟩ | refine ⟨rfl, _, w64 (by omega) (by omega), ?_⟩ | refine ⟨_, w64 (by omega) (by omega), ?_⟩ | refine ⟨_, wU (by omega) (by omega), ?_⟩ | refine ⟨rfl, rfl, ?_⟩ | refine And.intro (show (0 : Int) ≤ _ by omega) ?_ | refine ldI (by repeat first | exact .hd | apply In.tl) ?_ | refine stI (by repeat first | exact .hd | apply In.tl) ?_ | refine slI (by repeat first | exact .hd | apply In.tl) ?_ | refine apI (by repeat first | exact .hd | apply In.tl) ?_ | refine mpI (by repeat first | exact .hd | apply In.tl) ?_ | refine ⟨⟨rfl, leb rfl, rfl⟩, ?_⟩ | refine ⟨⟨rfl, leb rfl⟩, ?_⟩ | refine ⟨⟨by decide, by decide⟩, ?_⟩ | refine ⟨rfl, ?_⟩ | refine ⟨leb rfl, ?_⟩ | refine ⟨by decide, ?_⟩ | refine .inr ⟨⟨leb rfl, leb rfl, rfl, rfl⟩, ?_⟩ | refine ⟨⟨by omega, by first | omega | exact ltm (by omega)⟩, lenm (by intro _; rfl), ?_⟩ | refine ⟨_, getm (by omega) (by first | omega | exact ltm_inv (by omega)), ?_⟩ | refine ⟨⟨by omega, by omega⟩, rfl, ?_⟩ | refine ⟨⟨rfl, by omega, rfl, by (show _ + 1 < 4294967296); omega, rfl⟩, .inr ⟨leb rfl, ?_⟩⟩ | refine ⟨_, find_C _ _, ?_⟩ | refine ⟨_, put_C _ _ _, ?_⟩ | fail)
      refine ⟨_, mask_or (bitF s l i) (by omega), ?_⟩
      repeat' ((conv => whnf); first | refine ⟨rfl, fun hc => ?_, fun hc => ?_⟩ | refine ⟨fun hc => ?_, fun hc => ?_⟩ | refine ⟨rfl, _, w64 (by omega) (by omega), ?_⟩ | refine ⟨_, w64 (by omega) (by omega), ?_⟩ | refine ⟨_, wU (by omega) (by omega), ?_⟩ | refine ⟨rfl, rfl, ?_⟩ | refine And.intro (show (0 : Int) ≤ _ by omega) ?_ | refine ldI (by repeat first | exact .hd | apply In.tl) ?_ | refine stI (by repeat first | exact .hd | apply In.tl) ?_ | refine slI (by repeat first | exact .hd | apply In.tl) ?_ | refine apI (by repeat first | exact .hd | apply In.tl) ?_ | refine mpI (by repeat first | exact .hd | apply In.tl) ?_ | refine ⟨⟨rfl, leb rfl, rfl⟩, ?_⟩ | refine ⟨⟨rfl, leb rfl⟩, ?_⟩ | refine ⟨⟨by decide, by decide⟩, ?_⟩ | refine ⟨rfl, ?_⟩ | refine ⟨leb rfl, ?_⟩ | refine ⟨by decide, ?_⟩ | refine .inr ⟨⟨leb rfl, leb rfl, rfl, rfl⟩, ?_⟩ | refine ⟨⟨by omega, by first | omega | exact ltm (by omega)⟩, lenm (by intro _; rfl), ?_⟩ | refine ⟨_, getm (by omega) (by first | omega | exact ltm_inv (by omega)), ?_⟩ | refine ⟨⟨by omega, by omega⟩, rfl, ?_⟩ | refine ⟨⟨rfl, by omega, rfl, by (show _ + 1 < 4294967296); omega, rfl⟩, .inr ⟨leb rfl, ?_⟩⟩ | refine ⟨_, find_C _ _, ?_⟩ | refine ⟨_, put_C _ _ _, ?_⟩ | fail)
      refine ⟨⟨rfl, by simp [valF]; omega, rfl⟩, ?_⟩
      have hset : setCells (valF s l i k) (0 + ((i : Nat) : Int).toNat * 1) [.int .u64 ((maskN (bitF s l i) (k + 1) : Nat) : Int)] = valF s l (i + 1) k := set_rng (i := i) (by simp) (by simp) fun j hj hne => by
        have : j < i + 1 ↔ j < i := by omega
        simp [this]
      rw [setF_eq, hset]
      repeat' ((conv => whnf); first | refine ⟨rfl, fun hc => ?_, fun hc => ?_⟩ | refine ⟨fun hc => ?_, fun hc => ?_⟩ | refine ⟨rfl, _, w64 (by omega) (by omega), ?_⟩ | refine ⟨_, w64 (by omega) (by omega), ?_⟩ | refine ⟨_, wU (by omega) (by omega), ?_⟩ | refine ⟨rfl, rfl, ?_⟩ | refine And.intro (show (0 : Int) ≤ _ by omega) ?_ | refine ldI (by repeat first | exact .hd | apply In.tl) ?_ | refine stI (by repeat first | exact .hd | apply In.tl) ?_ | refine slI (by repeat first | exact .hd | apply In.tl) ?_ | refine apI (by repeat first | exact .hd | apply In.tl) ?_ | refine mpI (by repeat first | exact .hd | apply In.tl) ?_ | refine ⟨⟨rfl, leb rfl, rfl⟩, ?_⟩ | refine ⟨⟨rfl, leb rfl⟩, ?_⟩ | refine ⟨⟨by decide, by decide⟩, ?_⟩ | refine ⟨rfl, ?_⟩ | refine ⟨leb rfl, ?_⟩ | refine ⟨by decide, ?_⟩ | refine .inr ⟨⟨leb rfl, leb rfl, rfl, rfl⟩, ?_⟩ | refine ⟨⟨by omega, by first | omega | exact ltm (by omega)⟩, lenm (by intro _; rfl), ?_⟩ | refine ⟨_, getm (by omega) (by first | omega | exact ltm_inv (by omega)), ?_⟩ | refine ⟨⟨by omega, by omega⟩, rfl, ?_⟩ | refine ⟨⟨rfl, by omega, rfl, by (show _ + 1 < 4294967296); omega, rfl⟩, .inr ⟨leb rfl, ?_⟩⟩ | refine ⟨_, find_C _ _, ?_⟩ | refine ⟨_, put_C _ _ _, ?_⟩ | fail)
      exact ⟨_, hi', .refl _, rfl, .mk rfl⟩
    · obtain rfl : i = s.fa.toNat := by omega
      repeat' ((conv => whnf); first | refine ⟨rfl, fun hc => ?_, fun hc => ?_⟩ | refine ⟨fun hc => ?_, fun hc => ?_⟩ | refine ⟨rfl, _, w64 (by omega) (by omega), ?_⟩ | refine ⟨_, w64 (by omega) (by omega), ?_⟩ | refine ⟨_, wU (by omega) (by omega), ?_⟩ | refine ⟨rfl, rfl, ?_⟩ | refine And.intro (show (0 : Int) ≤ _ by omega) ?_ | refine ldI (by repeat first | exact .hd | apply In.tl) ?_ | refine stI (by repeat first | exact .hd | apply In.tl) ?_ | refine slI (by repeat first | exact .hd | apply In.tl) ?_ | refine apI (by repeat first | exact .hd | apply In.tl) ?_ | refine mpI (by repeat first | exact .hd | apply In.tl) ?_ | refine ⟨⟨rfl, leb rfl, rfl⟩, ?_⟩ | refine ⟨⟨rfl, leb rfl⟩, ?_⟩ | refine ⟨⟨by decide, by decide⟩, ?_⟩ | refine ⟨rfl, ?_⟩ | refine ⟨leb rfl, ?_⟩ | refine ⟨by decide, ?_⟩ | refine .inr ⟨⟨leb rfl, leb rfl, rfl, rfl⟩, ?_⟩ | refine ⟨⟨by omega, by first | omega | exact ltm (by omega)⟩, lenm (by intro _; rfl), ?_⟩ | refine ⟨_, getm (by omega) (by first | omega | exact ltm_inv (by omega)), ?_⟩ | refine ⟨⟨by omega, by omega⟩, rfl, ?_⟩ | refine ⟨⟨rfl, by omega, rfl, by (show _ + 1 < 4294967296); omega, rfl⟩, .inr ⟨leb rfl, ?_⟩⟩ | refine ⟨_, find_C _ _, ?_⟩ | refine ⟨_, put_C _ _ _, ?_⟩ | fail)
      (conv => whnf)
      refine ⟨_, hk', Sub.take 4, ?_, .mk rfl⟩
      rw [← valF_end]; rfl
  · have h4 := ltm_not h4
    obtain rfl : k = l.length := by omega
    repeat' ((conv => whnf); first | refine ⟨rfl, fun hc => ?_, fun hc => ?_⟩ | refine ⟨fun hc => ?_, fun hc => ?_⟩ | refine ⟨rfl, _, w64 (by omega) (by omega), ?_⟩ | refine ⟨_, w64 (by omega) (by omega), ?_⟩ | refine ⟨_, wU (by omega) (by omega), ?_⟩ | refine ⟨rfl, rfl, ?_⟩ | refine And.intro (show (0 : Int) ≤ _ by omega) ?_ | refine ldI (by repeat first | exact .hd | apply In.tl) ?_ | refine stI (by repeat first | exact .hd | apply In.tl) ?_ | refine slI (by repeat first | exact .hd | apply In.tl) ?_ | refine apI (by repeat first | exact .hd | apply In.tl) ?_ | refine mpI (by repeat first | exact .hd | apply In.tl) ?_ | refine ⟨⟨rfl, leb rfl, rfl⟩, ?_⟩ | refine ⟨⟨rfl, leb rfl⟩, ?_⟩ | refine ⟨⟨by decide, by decide⟩, ?_⟩ | refine ⟨rfl, ?_⟩ | refine ⟨leb rfl, ?_⟩ | refine ⟨by decide, ?_⟩ | refine .inr ⟨⟨leb rfl, leb rfl, rfl, rfl⟩, ?_⟩ | refine ⟨⟨by omega, by first | omega | exact ltm (by omega)⟩, lenm (by intro _; rfl), ?_⟩ | refine ⟨_, getm (by omega) (by first | omega | exact ltm_inv (by omega)), ?_⟩ | refine ⟨⟨by omega, by omega⟩, rfl, ?_⟩ | refine ⟨⟨rfl, by omega, rfl, by (show _ + 1 < 4294967296); omega, rfl⟩, .inr ⟨leb rfl, ?_⟩⟩ | refine ⟨_, find_C _ _, ?_⟩ | refine ⟨_, put_C _ _ _, ?_⟩ | fail)
    refine aLoop_upR (fun a env A R => ∃ (lr : Nat) (rs : List Nat), A = [(l2, some (.cells (sysC s) 0 0 false false)), (l4, some (.cells z3 0 0 false false)), (lv, some (.cells (valF s l 0 l.length) 1 0 true false)), (l5, some (.cells [.int .i64 (l.map ptC).length, .ref lv 0 s.fa.toNat 0 1, rowV lr 1 a] 0 0 false false))] ++ rowA lr 1 (refsC l.length rs) a ∧ rs.length = a ∧ (∀ i (h : i < rs.length), (rs[i], some (LObj.cells (relF s l i l.length) 1 l.length true false)) ∈ R) ∧ IEnv (fun g => (g 0 :: .list (l.map ptC) :: .ptr l2 0 0 :: g 3 :: .ptr l4 0 0 :: .ptr l5 0 0 :: g 6 :: g 7 :: g 8 :: g 9 :: g 10 :: g 11 :: g 12 :: g 13 :: g 14 :: g 15 :: g 16 :: g 17 :: g 18 :: g 19 :: g 20 :: g 21 :: g 22 :: g 23 :: g 24 :: g 25 :: g 26 :: g 27 :: g 28 :: g 29 :: g 30 :: g 31 :: g 32 :: g 33 :: g 34 :: g 35 :: g 36 :: g 37 :: g 38 :: g 39 :: g 40 :: g 41 :: g 42 :: g 43 :: g 44 :: g 45 :: g 46 :: g 47 :: g 48 :: g 49 :: g 50 :: g 51 :: g 52 :: g 53 :: g 54 :: g 55 :: g 56 :: g 57 :: g 58 :: g 59 :: g 60 :: .int .i64 s.ag :: .int .i64 (a : Int) :: g 63 :: g 64 :: g 65 :: g 66 :: g 67 :: g 68 :: g 69 :: g 70 :: g 71 :: g 72 :: g 73 :: g 74 :: g 75 :: g 76 :: g 77 :: g 78 :: g 79 :: g 80 :: g 81 :: g 82 :: g 83 :: g 84 :: g 85 :: g 86 :: g 87 :: g 88 :: g 89 :: g 90 :: g 91 :: g 92 :: g 93 :: g 94 :: g 95 :: g 96 :: g 97 :: g 98 :: g 99 :: g 100 :: g 101 :: g 102 :: g 103 :: g 104 :: g 105 :: g 106 :: [])) env) s.ag.toNat (R0 := []) (by rw [List.append_nil]; exact .refl _) ⟨0, [], rfl, rfl, fun i h => by simp at h, .mk rfl⟩ (by omega) ?_
    rintro a env A R ha ⟨lr, rs, rfl, hrs, hR, ⟨g, rfl⟩⟩
    refine ⟨rfl, fun h5 => ?_, fun h5 => ?_⟩
    · have hlen : (refsC l.length rs).length = a := by simp [refsC, hrs]
      have hnext : ∀ lq, refsC l.length (rs ++ [lq]) = refsC l.length rs ++ [.ref lq 0 l.length l.length 1] := fun lq => by simp [refsC]
      have hR' : ∀ (lq i : Nat) (h : i < (rs ++ [lq]).length), ((rs ++ [lq])[i], some (LObj.cells (relF s l i l.length) 1 l.length true false)) ∈ R ++ [(lq, some (.cells (relF s l a l.length) 1 l.length true false))] := fun lq i h => by
        rw [List.length_append, List.length_singleton] at h
        by_cases hi : i < rs.length
        · rw [List.getElem_append_left hi]; exact List.mem_append_left _ (hR i hi)
        · obtain rfl : i = a := by omega
          rw [List.getElem_append_right (by omega)]
          simp
      cases a with
      | zero =>
        repeat' ((conv => whnf); first | refine ⟨rfl, fun hc => ?_, fun hc => ?_⟩ | refine ⟨fun hc => ?_, fun hc => ?_⟩ | refine ⟨rfl, _, w64 (by omega) (by omega), ?_⟩ | refine ⟨_, w64 (by omega) (by omega), ?_⟩ | refine ⟨_, wU (by omega) (by omega), ?_⟩ | refine ⟨rfl, rfl, ?_⟩ | refine And.intro (show (0 : Int) ≤ _ by omega) ?_ | refine ldI (by repeat first | exact .hd | apply In.tl) ?_ | refine stI (by repeat first | exact .hd | apply In.tl) ?_ | refine slI (by repeat first | exact .hd | apply In.tl) ?_ | refine apI (by repeat first | exact .hd | apply In.tl) ?_ | refine mpI (by repeat first | exact .hd | apply In.tl) ?_ | refine ⟨⟨rfl, leb rfl, rfl⟩, ?_⟩ | refine ⟨⟨rfl, leb rfl⟩, ?_⟩ | refine ⟨⟨by decide, by decide⟩, ?_⟩ | refine ⟨rfl, ?_⟩ | refine ⟨leb rfl, ?_⟩ | refine ⟨by decide, ?_⟩ | refine .inr ⟨⟨leb rfl, leb rfl, rfl, rfl⟩, ?_⟩ | refine ⟨⟨by omega, by first | omega | exact ltm (by omega)⟩, lenm (by intro _; rfl), ?_⟩ | refine ⟨_, getm (by omega) (by first | omega | exact ltm_inv (by omega)), ?_⟩ | refine ⟨⟨by omega, by omega⟩, rfl, ?_⟩ | refine ⟨⟨rfl, by omega, rfl, by (show _ + 1 < 4294967296); omega, rfl⟩, .inr ⟨leb rfl, ?_⟩⟩ | refine ⟨_, find_C _ _, ?_⟩ | refine ⟨_, put_C _ _ _, ?_⟩ | fail)
        intro lm hlm
        repeat' ((conv => whnf); first | refine ⟨rfl, fun hc => ?_, fun hc => ?_⟩ | refine ⟨fun hc => ?_, fun hc => ?_⟩ | refine ⟨rfl, _, w64 (by omega) (by omega), ?_⟩ | refine ⟨_, w64 (by omega) (by omega), ?_⟩ | refine ⟨_, wU (by omega) (by omega), ?_⟩ | refine ⟨rfl, rfl, ?_⟩ | refine And.intro (show (0 : Int) ≤ _ by omega) ?_ | refine ldI (by repeat first | exact .hd | apply In.tl) ?_ | refine stI (by repeat first | exact .hd | apply In.tl) ?_ | refine slI (by repeat first | exact .hd | apply In.tl) ?_ | refine apI (by repeat first | exact .hd | apply In.tl) ?_ | refine mpI (by repeat first | exact .hd | apply In.tl) ?_ | refine ⟨⟨rfl, leb rfl, rfl⟩, ?_⟩ | refine ⟨⟨rfl, leb rfl⟩, ?_⟩ | refine ⟨⟨by decide, by decide⟩, ?_⟩ | refine ⟨rfl, ?_⟩ | refine ⟨leb rfl, ?_⟩ | refine ⟨by decide, ?_⟩ | refine .inr ⟨⟨leb rfl, leb rfl, rfl, rfl⟩, ?_⟩ | refine ⟨⟨by omega, by first | omega | exact ltm (by omega)⟩, lenm (by intro _; rfl), ?_⟩ | refine ⟨_, getm (by omega) (by first | omega | exact ltm_inv (by omega)), ?_⟩ | refine ⟨⟨by omega, by omega⟩, rfl, ?_⟩ | refine ⟨⟨rfl, by omega, rfl, by (show _ + 1 < 4294967296); omega, rfl⟩, .inr ⟨leb rfl, ?_⟩⟩ | refine ⟨_, find_C _ _, ?_⟩ | refine ⟨_, put_C _ _ _, ?_⟩ | fail)
        refine aLoop_fr [0, 4] [1, 2, 3] rfl (loop62_3 h' hn h5 (.mk rfl) ?_)
        rintro m hm env ⟨g, rfl⟩
        repeat' ((conv => whnf); first | refine ⟨rfl, fun hc => ?_, fun hc => ?_⟩ | refine ⟨fun hc => ?_, fun hc => ?_⟩ | refine ⟨rfl, _, w64 (by omega) (by omega), ?_⟩ | refine ⟨_, w64 (by omega) (by omega), ?_⟩ | refine ⟨_, wU (by omega) (by omega), ?_⟩ | refine ⟨rfl, rfl, ?_⟩ | refine And.intro (show (0 : Int) ≤ _ by omega) ?_ | refine ldI (by repeat first | exact .hd | apply In.tl) ?_ | refine stI (by repeat first | exact .hd | apply In.tl) ?_ | refine slI (by repeat first | exact .hd | apply In.tl) ?_ | refine apI (by repeat first | exact .hd | apply In.tl) ?_ | refine mpI (by repeat first | exact .hd | apply In.tl) ?_ | refine ⟨⟨rfl, leb rfl, rfl⟩, ?_⟩ | refine ⟨⟨rfl, leb rfl⟩, ?_⟩ | refine ⟨⟨by decide, by decide⟩, ?_⟩ | refine ⟨rfl, ?_⟩ | refine ⟨leb rfl, ?_⟩ | refine ⟨by decide, ?_⟩ | refine .inr ⟨⟨leb rfl, leb rfl, rfl, rfl⟩, ?_⟩ | refine ⟨⟨by omega, by first | omega | exact ltm (by omega)⟩, lenm (by intro _; rfl), ?_⟩ | refine ⟨_, getm (by omega) (by first | omega | exact ltm_inv (by omega)), ?_⟩ | refine ⟨⟨by omega, by omega⟩, rfl, ?_⟩ | refine ⟨⟨rfl, by omega, rfl, by (show _ + 1 < 4294967296); omega, rfl⟩, .inr ⟨leb rfl, ?_⟩⟩ | refine ⟨_, find_C _ _, ?_⟩ | refine ⟨_, put_C _ _ _, ?_⟩ | fail)
        refine aLoop_fr [0, 1] [2, 3, 4] rfl (loop62_4 h' hn h5 hm (.mk rfl) ?_)
        rintro lq env ⟨g, rfl⟩
        repeat' ((conv => whnf); first | refine ⟨rfl, fun hc => ?_, fun hc => ?_⟩ | refine ⟨fun hc => ?_, fun hc => ?_⟩ | refine ⟨rfl, _, w64 (by omega) (by omega), ?_⟩ | refine ⟨_, w64 (by omega) (by omega), ?_⟩ | refine ⟨_, wU (by omega) (by omega), ?_⟩ | refine ⟨rfl, rfl, ?_⟩ | refine And.intro (show (0 : Int) ≤ _ by omega) ?_ | refine ldI (by repeat first | exact .hd | apply In.tl) ?_ | refine stI (by repeat first | exact .hd | apply In.tl) ?_ | refine slI (by repeat first | exact .hd | apply In.tl) ?_ | refine apI (by repeat first | exact .hd | apply In.tl) ?_ | refine mpI (by repeat first | exact .hd | apply In.tl) ?_ | refine ⟨⟨rfl, leb rfl, rfl⟩, ?_⟩ | refine ⟨⟨rfl, leb rfl⟩, ?_⟩ | refine ⟨⟨by decide, by decide⟩, ?_⟩ | refine ⟨rfl, ?_⟩ | refine ⟨leb rfl, ?_⟩ | refine ⟨by decide, ?_⟩ | refine .inr ⟨⟨leb rfl, leb rfl, rfl, rfl⟩, ?_⟩ | refine ⟨⟨by omega, by first | omega | exact ltm (by omega)⟩, lenm (by intro _; rfl), ?_⟩ | refine ⟨_, getm (by omega) (by first | omega | exact ltm_inv (by omega)), ?_⟩ | refine ⟨⟨by omega, by omega⟩, rfl, ?_⟩ | refine ⟨⟨rfl, by omega, rfl, by (show _ + 1 < 4294967296); omega, rfl⟩, .inr ⟨leb rfl, ?_⟩⟩ | refine ⟨_, find_C _ _, ?_⟩ | refine ⟨_, put_C _ _ _, ?_⟩ | fail)
        intro lr' hlr'
        repeat' ((conv => whnf); first | refine ⟨rfl, fun hc => ?_, fun hc => ?_⟩ | refine ⟨fun hc => ?_, fun hc => ?_⟩ | refine ⟨rfl, _, w64 (by omega) (by omega), ?_⟩ | refine ⟨_, w64 (by omega) (by omega), ?_⟩ | refine ⟨_, wU (by omega) (by omega), ?_⟩ | refine ⟨rfl, rfl, ?_⟩ | refine And.intro (show (0 : Int) ≤ _ by omega) ?_ | refine ldI (by repeat first | exact .hd | apply In.tl) ?_ | refine stI (by repeat first | exact .hd | apply In.tl) ?_ | refine slI (by repeat first | exact .hd | apply In.tl) ?_ | refine apI (by repeat first | exact .hd | apply In.tl) ?_ | refine mpI (by repeat first | exact .hd | apply In.tl) ?_ | refine ⟨⟨rfl, leb rfl, rfl⟩, ?_⟩ | refine ⟨⟨rfl, leb rfl⟩, ?_⟩ | refine ⟨⟨by decide, by decide⟩, ?_⟩ | refine ⟨rfl, ?_⟩ | refine ⟨leb rfl, ?_⟩ | refine ⟨by decide, ?_⟩ | refine .inr ⟨⟨leb rfl, leb rfl, rfl, rfl⟩, ?_⟩ | refine ⟨⟨by omega, by first | omega | exact ltm (by omega)⟩, lenm (by intro _; rfl), ?_⟩ | refine ⟨_, getm (by omega) (by first | omega | exact ltm_inv (by omega)), ?_⟩ | refine ⟨⟨by omega, by omega⟩, rfl, ?_⟩ | refine ⟨⟨rfl, by omega, rfl, by (show _ + 1 < 4294967296); omega, rfl⟩, .inr ⟨leb rfl, ?_⟩⟩ | refine ⟨_, find_C _ _, ?_⟩ | refine ⟨_, put_C _ _ _, ?_⟩ | fail)
        (conv => whnf)
        refine ⟨_, _, by omega, Sub.keepR [0, 3, 4, 5, 6] [2] rfl, lr', rs ++ [lq], ?_, by simp [hrs], hR' lq, .mk rfl⟩
        rw [hnext, show rs = [] from List.length_eq_zero_iff.1 hrs]; rfl
      | succ j =>
        repeat' ((conv => whnf); first | refine ⟨rfl, fun hc => ?_, fun hc => ?_⟩ | refine ⟨fun hc => ?_, fun hc => ?_⟩ | refine ⟨rfl, _, w64 (by omega) (by omega), ?_⟩ | refine ⟨_, w64 (by omega) (by omega), ?_⟩ | refine ⟨_, wU (by omega) (by omega), ?_⟩ | refine ⟨rfl, rfl, ?_⟩ | refine And.intro (show (0 : Int) ≤ _ by omega) ?_ | refine ldI (by repeat first | exact .hd | apply In.tl) ?_ | refine stI (by repeat first | exact .hd | apply In.tl) ?_ | refine slI (by repeat first | exact .hd | apply In.tl) ?_ | refine apI (by repeat first | exact .hd | apply In.tl) ?_ | refine mpI (by repeat first | exact .hd | apply In.tl) ?_ | refine ⟨⟨rfl, leb rfl, rfl⟩, ?_⟩ | refine ⟨⟨rfl, leb rfl⟩, ?_⟩ | refine ⟨⟨by decide, by decide⟩, ?_⟩ | refine ⟨rfl, ?_⟩ | refine ⟨leb rfl, ?_⟩ | refine ⟨by decide, ?_⟩ | refine .inr ⟨⟨leb rfl, leb rfl, rfl, rfl⟩, ?_⟩ | refine ⟨⟨by omega, by first | omega | exact ltm (by omega)⟩, lenm (by intro _; rfl), ?_⟩ | refine ⟨_, getm (by omega) (by first | omega | exact ltm_inv (by omega)), ?_⟩ | refine ⟨⟨by omega, by omega⟩, rfl, ?_⟩ | refine ⟨⟨rfl, by omega, rfl, by (show _ + 1 < 4294967296); omega, rfl⟩, .inr ⟨leb rfl, ?_⟩⟩ | refine ⟨_, find_C _ _, ?_⟩ | refine ⟨_, put_C _ _ _, ?_⟩ | fail)
        intro lm hlm
        repeat' ((conv => whnf); first | refine ⟨rfl, fun hc => ?_, fun hc => ?_⟩ | refine ⟨fun hc => ?_, fun hc => ?_⟩ | refine ⟨rfl, _, w64 (by omega) (by omega), ?_⟩ | refine ⟨_, w64 (by omega) (by omega), ?_⟩ | refine ⟨_, wU (by omega) (by omega), ?_⟩ | refine ⟨rfl, rfl, ?_⟩ | refine And.intro (show (0 : Int) ≤ _ by omega) ?_ | refine ldI (by repeat first | exact .hd | apply In.tl) ?_ | refine stI (by repeat first | exact .hd | apply In.tl) ?_ | refine slI (by repeat first | exact .hd | apply In.tl) ?_ | refine apI (by repeat first | exact .hd | apply In.tl) ?_ | refine mpI (by repeat first | exact .hd | apply In.tl) ?_ | refine ⟨⟨rfl, leb rfl, rfl⟩, ?_⟩ | refine ⟨⟨rfl, leb rfl⟩, ?_⟩ | refine ⟨⟨by decide, by decide⟩, ?_⟩ | refine ⟨rfl, ?_⟩ | refine ⟨leb rfl, ?_⟩ | refine ⟨by decide, ?_⟩ | refine .inr ⟨⟨leb rfl, leb rfl, rfl, rfl⟩, ?_⟩ | refine ⟨⟨by omega, by first | omega | exact ltm (by omega)⟩, lenm (by intro _; rfl), ?_⟩ | refine ⟨_, getm (by omega) (by first | omega | exact ltm_inv (by omega)), ?_⟩ | refine ⟨⟨by omega, by omega⟩, rfl, ?_⟩ | refine ⟨⟨rfl, by omega, rfl, by (show _ + 1 < 4294967296); omega, rfl⟩, .inr ⟨leb rfl, ?_⟩⟩ | refine ⟨_, find_C _ _, ?_⟩ | refine ⟨_, put_C _ _ _, ?_⟩ | fail)
        refine aLoop_fr [0, 5] [1, 2, 3, 4] rfl (loop62_3 h' hn h5 (.mk rfl) ?_)
        rintro m hm env ⟨g, rfl⟩
        repeat' ((conv => whnf); first | refine ⟨rfl, fun hc => ?_, fun hc => ?_⟩ | refine ⟨fun hc => ?_, fun hc => ?_⟩ | refine ⟨rfl, _, w64 (by omega) (by omega), ?_⟩ | refine ⟨_, w64 (by omega) (by omega), ?_⟩ | refine ⟨_, wU (by omega) (by omega), ?_⟩ | refine ⟨rfl, rfl, ?_⟩ | refine And.intro (show (0 : Int) ≤ _ by omega) ?_ | refine ldI (by repeat first | exact .hd | apply In.tl) ?_ | refine stI (by repeat first | exact .hd | apply In.tl) ?_ | refine slI (by repeat first | exact .hd | apply In.tl) ?_ | refine apI (by repeat first | exact .hd | apply In.tl) ?_ | refine mpI (by repeat first | exact .hd | apply In.tl) ?_ | refine ⟨⟨rfl, leb rfl, rfl⟩, ?_⟩ | refine ⟨⟨rfl, leb rfl⟩, ?_⟩ | refine ⟨⟨by decide, by decide⟩, ?_⟩ | refine ⟨rfl, ?_⟩ | refine ⟨leb rfl, ?_⟩ | refine ⟨by decide, ?_⟩ | refine .inr ⟨⟨leb rfl, leb rfl, rfl, rfl⟩, ?_⟩ | refine ⟨⟨by omega, by first | omega | exact ltm (by omega)⟩, lenm (by intro _; rfl), ?_⟩ | refine ⟨_, getm (by omega) (by first | omega | exact ltm_inv (by omega)), ?_⟩ | refine ⟨⟨by omega, by omega⟩, rfl, ?_⟩ | refine ⟨⟨rfl, by omega, rfl, by (show _ + 1 < 4294967296); omega, rfl⟩, .inr ⟨leb rfl, ?_⟩⟩ | refine ⟨_, find_C _ _, ?_⟩ | refine ⟨_, put_C _ _ _, ?_⟩ | fail)
        refine aLoop_fr [0, 1] [2, 3, 4, 5] rfl (loop62_4 h' hn h5 hm (.mk rfl) ?_)
        rintro lq env ⟨g, rfl⟩
        repeat' ((conv => whnf); first | refine ⟨rfl, fun hc => ?_, fun hc => ?_⟩ | refine ⟨fun hc => ?_, fun hc => ?_⟩ | refine ⟨rfl, _, w64 (by omega) (by omega), ?_⟩ | refine ⟨_, w64 (by omega) (by omega), ?_⟩ | refine ⟨_, wU (by omega) (by omega), ?_⟩ | refine ⟨rfl, rfl, ?_⟩ | refine And.intro (show (0 : Int) ≤ _ by omega) ?_ | refine ldI (by repeat first | exact .hd | apply In.tl) ?_ | refine stI (by repeat first | exact .hd | apply In.tl) ?_ | refine slI (by repeat first | exact .hd | apply In.tl) ?_ | refine apI (by repeat first | exact .hd | apply In.tl) ?_ | refine mpI (by repeat first | exact .hd | apply In.tl) ?_ | refine ⟨⟨rfl, leb rfl, rfl⟩, ?_⟩ | refine ⟨⟨rfl, leb rfl⟩, ?_⟩ | refine ⟨⟨by decide, by decide⟩, ?_⟩ | refine ⟨rfl, ?_⟩ | refine ⟨leb rfl, ?_⟩ | refine ⟨by decide, ?_⟩ | refine .inr ⟨⟨leb rfl, leb rfl, rfl, rfl⟩, ?_⟩ | refine ⟨⟨by omega, by first | omega | exact ltm (by omega)⟩, lenm (by intro _; rfl), ?_⟩ | refine ⟨_, getm (by omega) (by first | omega | exact ltm_inv (by omega)), ?_⟩ | refine ⟨⟨by omega, by omega⟩, rfl, ?_⟩ | refine ⟨⟨rfl, by omega, rfl, by (show _ + 1 < 4294967296); omega, rfl⟩, .inr ⟨leb rfl, ?_⟩⟩ | refine ⟨_, find_C _ _, ?_⟩ | refine ⟨_, put_C _ _ _, ?_⟩ | fail)
        (conv => whnf)
        refine ⟨_, _, by omega, Sub.keepR [0, 3, 4, 5, 6] [2] rfl, lr, rs ++ [lq], ?_, by simp [hrs], hR' lq, .mk rfl⟩
        rw [hnext]; rfl
    · obtain rfl : a = s.ag.toNat := by omega
      have hmod : modC (modelS s l) = [.int .i64 (l.map ptC).length, .list (((List.range s.fa.toNat).map fun f => ((valS s l f : Nat) : Int)).map fun x => [.int .u64 x]), .list ((List.range s.ag.toNat).map fun a => setsC ((List.range l.length).map fun w => ((relS s l a w : Nat) : Int)))] := by
        simp only [modC, modelS, List.length_map, List.map_map]
        rfl
      rw [hmod] at hK
      repeat' ((conv => whnf); first | refine ⟨rfl, fun hc => ?_, fun hc => ?_⟩ | refine ⟨fun hc => ?_, fun hc => ?_⟩ | refine ⟨rfl, _, w64 (by omega) (by omega), ?_⟩ | refine ⟨_, w64 (by omega) (by omega), ?_⟩ | refine ⟨_, wU (by omega) (by omega), ?_⟩ | refine ⟨rfl, rfl, ?_⟩ | refine And.intro (show (0 : Int) ≤ _ by omega) ?_ | refine ldI (by repeat first | exact .hd | apply In.tl) ?_ | refine stI (by repeat first | exact .hd | apply In.tl) ?_ | refine slI (by repeat first | exact .hd | apply In.tl) ?_ | refine apI (by repeat first | exact .hd | apply In.tl) ?_ | refine mpI (by repeat first | exact .hd | apply In.tl) ?_ | refine ⟨⟨rfl, leb rfl, rfl⟩, ?_⟩ | refine ⟨⟨rfl, leb rfl⟩, ?_⟩ | refine ⟨⟨by decide, by decide⟩, ?_⟩ | refine ⟨rfl, ?_⟩ | refine ⟨leb rfl, ?_⟩ | refine ⟨by decide, ?_⟩ | refine .inr ⟨⟨leb rfl, leb rfl, rfl, rfl⟩, ?_⟩ | refine ⟨⟨by omega, by first | omega | exact ltm (by omega)⟩, lenm (by intro _; rfl), ?_⟩ | refine ⟨_, getm (by omega) (by first | omega | exact ltm_inv (by omega)), ?_⟩ | refine ⟨⟨by omega, by omega⟩, rfl, ?_⟩ | refine ⟨⟨rfl, by omega, rfl, by (show _ + 1 < 4294967296); omega, rfl⟩, .inr ⟨leb rfl, ?_⟩⟩ | refine ⟨_, find_C _ _, ?_⟩ | refine ⟨_, put_C _ _ _, ?_⟩ | fail)
      refine ⟨⟨rfl, leb rfl, (show ((rowV lr 1 s.ag.toNat).one && true) = true by rw [rowV_one]; rfl)⟩, ?_⟩
      repeat' ((conv => whnf); first | refine ⟨rfl, fun hc => ?_, fun hc => ?_⟩ | refine ⟨fun hc => ?_, fun hc => ?_⟩ | refine ⟨rfl, _, w64 (by omega) (by omega), ?_⟩ | refine ⟨_, w64 (by omega) (by omega), ?_⟩ | refine ⟨_, wU (by omega) (by omega), ?_⟩ | refine ⟨rfl, rfl, ?_⟩ | refine And.intro (show (0 : Int) ≤ _ by omega) ?_ | refine ldI (by repeat first | exact .hd | apply In.tl) ?_ | refine stI (by repeat first | exact .hd | apply In.tl) ?_ | refine slI (by repeat first | exact .hd | apply In.tl) ?_ | refine apI (by repeat first | exact .hd | apply In.tl) ?_ | refine mpI (by repeat first | exact .hd | apply In.tl) ?_ | refine ⟨⟨rfl, leb rfl, rfl⟩, ?_⟩ | refine ⟨⟨rfl, leb rfl⟩, ?_⟩ | refine ⟨⟨by decide, by decide⟩, ?_⟩ | refine ⟨rfl, ?_⟩ | refine ⟨leb rfl, ?_⟩ | refine ⟨by decide, ?_⟩ | refine .inr ⟨⟨leb rfl, leb rfl, rfl, rfl⟩, ?_⟩ | refine ⟨⟨by omega, by first | omega | exact ltm (by omega)⟩, lenm (by intro _; rfl), ?_⟩ | refine ⟨_, getm (by omega) (by first | omega | exact ltm_inv (by omega)), ?_⟩ | refine ⟨⟨by omega, by omega⟩, rfl, ?_⟩ | refine ⟨⟨rfl, by omega, rfl, by (show _ + 1 < 4294967296); omega, rfl⟩, .inr ⟨leb rfl, ?_⟩⟩ | refine ⟨_, find_C _ _, ?_⟩ | refine ⟨_, put_C _ _ _, ?_⟩ | fail)
      refine hK _ _ (FzUL.fin (.cons (.agg (d := 11) (.cons (.self rfl) (.cons (.row1 (d := 9) (xs := (List.range s.fa.toNat).map fun f => ((valS s l f : Nat) : Int)) (c := AV.int .u64) (l := lv) (n := s.fa.toNat) (k1 := 1) (row := true) (fr := false) (fun _ => rfl) (by simp) ?_) (.cons ?_ .nil)))) .nil))
      · rw [← val_row]
        simp
      · rw [← hrs]
        refine fz_rel (fun p hp => ?_) fun i h => ?_
        · simp [hp]
        · have := hR i h
          simp [this]
theorem c62 : IsoOk Try.prog 62 (con (.cons (.agg sysK) (.one (.list ptK))) ok62 fun x => [.agg (modC (modelS x.1 x.2))]) := iso_con mixed okU2 Try.func62 cir62 fun x hx => ⟨101, _, rfl, run62 hx (by decide) fun rs' A h => h⟩
end Go.Proofs.Ytlgbbabijifflaa.sys
