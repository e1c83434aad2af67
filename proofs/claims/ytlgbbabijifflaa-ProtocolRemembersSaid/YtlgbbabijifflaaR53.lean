/- The code of the functions that the law comes to, as the interpreter reads it (printed by a program of this claim's), and that it is what the loaded program gives. -/
import Derived.Test.YtlgbbabijifflaaProg
import Derived.Test.YtlgbbabijifflaaA1
import Derived.KernelRfl
namespace Go.Proofs.Ytlgbbabijifflaa.L1R
open Go Go.Ai

def ir13 : IFunc := ⟨92, [.tmp 2],
  .seq (.region [⟨some 1, none, .box 4 (.t 0)⟩,
    ⟨some 2, none, .mov (.c (.int .i64 0))⟩])
   (.seq (.seq (.region [⟨some 7, none, .faddr 0 (.t 1)⟩,
    ⟨some 8, none, .load 1 false (.t 7)⟩,
    ⟨some 9, none, .bin .lss (.t 8) (.c (.int .i64 0))⟩,
    ⟨some 10, none, .mov (.t 9)⟩,
    ⟨some 11, some (3, false), .faddr 0 (.t 1)⟩,
    ⟨some 12, some (3, false), .load 1 false (.t 11)⟩,
    ⟨some 13, some (3, false), .bin .gtr (.t 12) (.c (.int .i64 4))⟩,
    ⟨some 14, none, .pick (.t 10) (.c (.bool true)) (.t 13)⟩,
    ⟨some 15, none, .mov (.t 14)⟩,
    ⟨some 16, some (8, false), .faddr 1 (.t 1)⟩,
    ⟨some 17, some (8, false), .load 1 false (.t 16)⟩,
    ⟨some 18, some (8, false), .bin .lss (.t 17) (.c (.int .i64 0))⟩,
    ⟨some 19, none, .pick (.t 15) (.c (.bool true)) (.t 18)⟩,
    ⟨some 20, none, .mov (.t 19)⟩,
    ⟨some 21, some (13, false), .faddr 1 (.t 1)⟩,
    ⟨some 22, some (13, false), .load 1 false (.t 21)⟩,
    ⟨some 23, some (13, false), .bin .gtr (.t 22) (.c (.int .i64 8))⟩,
    ⟨some 24, none, .pick (.t 20) (.c (.bool true)) (.t 23)⟩,
    ⟨some 25, none, .mov (.t 24)⟩,
    ⟨some 26, some (18, false), .faddr 2 (.t 1)⟩,
    ⟨some 27, some (18, false), .load 1 false (.t 26)⟩,
    ⟨some 28, some (18, false), .bin .lss (.t 27) (.c (.int .i64 1))⟩,
    ⟨some 29, none, .pick (.t 25) (.c (.bool true)) (.t 28)⟩,
    ⟨some 30, none, .mov (.t 29)⟩,
    ⟨some 31, some (23, false), .faddr 2 (.t 1)⟩,
    ⟨some 32, some (23, false), .load 1 false (.t 31)⟩,
    ⟨some 33, some (23, false), .bin .gtr (.t 32) (.c (.int .i64 16))⟩,
    ⟨some 34, none, .pick (.t 30) (.c (.bool true)) (.t 33)⟩])
   (.cond (.t 34) (.seq (.region [⟨some 2, none, .mov (.c (.int .i64 2))⟩])
   (.ret)) (.skip)))
   (.seq (.seq (.region [⟨some 35, none, .faddr 3 (.t 1)⟩,
    ⟨some 36, none, .load 1 false (.t 35)⟩,
    ⟨some 37, none, .len (.t 36)⟩,
    ⟨some 38, none, .bin .gtr (.t 37) (.c (.int .i64 64))⟩,
    ⟨some 39, none, .mov (.t 38)⟩,
    ⟨some 40, some (4, false), .faddr 3 (.t 1)⟩,
    ⟨some 41, some (4, false), .load 1 false (.t 40)⟩,
    ⟨some 42, some (4, false), .len (.t 41)⟩,
    ⟨some 43, some (4, false), .faddr 2 (.t 1)⟩,
    ⟨some 44, some (4, false), .load 1 false (.t 43)⟩,
    ⟨some 45, some (4, false), .bin .mul (.t 42) (.t 44)⟩,
    ⟨some 46, some (4, false), .bin .gtr (.t 45) (.c (.int .i64 512))⟩,
    ⟨some 47, none, .pick (.t 39) (.c (.bool true)) (.t 46)⟩])
   (.cond (.t 47) (.seq (.region [⟨some 2, none, .mov (.c (.int .i64 8))⟩])
   (.ret)) (.skip)))
   (.seq (.seq (.region [⟨some 48, none, .faddr 3 (.t 1)⟩,
    ⟨some 49, none, .load 1 false (.t 48)⟩,
    ⟨some 50, none, .len (.t 49)⟩,
    ⟨some 51, none, .bin .eql (.t 50) (.c (.int .i64 0))⟩])
   (.cond (.t 51) (.seq (.region [⟨some 2, none, .mov (.c (.int .i64 3))⟩])
   (.ret)) (.skip)))
   (.seq (.seq (.region [⟨some 52, none, .faddr 3 (.t 1)⟩,
    ⟨some 53, none, .load 1 false (.t 52)⟩,
    ⟨some 54, none, .len (.t 53)⟩,
    ⟨some 55, none, .mov (.c (.int .i64 0))⟩])
   (.block 0 (.loop (.seq (.region [⟨some 56, none, .bin .lss (.t 55) (.t 54)⟩])
   (.seq (.cond (.t 56) (.skip) (.exit 0))
   (.seq (.block 1 (.seq (.region [⟨some 57, none, .iaddr 2 (.t 53) (.t 55)⟩,
    ⟨some 58, none, .load 2 true (.t 57)⟩,
    ⟨some 4, none, .alloc [.nilsl, .nilsl]⟩,
    ⟨none, none, .store 2 (.t 4) (.t 58)⟩])
   (.seq (.region [⟨some 59, none, .faddr 0 (.t 4)⟩,
    ⟨some 60, none, .load 1 false (.t 59)⟩,
    ⟨some 61, none, .len (.t 60)⟩,
    ⟨some 62, none, .faddr 2 (.t 1)⟩,
    ⟨some 63, none, .load 1 false (.t 62)⟩,
    ⟨some 64, none, .bin .neq (.t 61) (.t 63)⟩,
    ⟨some 65, none, .mov (.t 64)⟩,
    ⟨some 66, some (6, false), .faddr 1 (.t 4)⟩,
    ⟨some 67, some (6, false), .load 1 false (.t 66)⟩,
    ⟨some 68, some (6, false), .len (.t 67)⟩,
    ⟨some 69, some (6, false), .faddr 2 (.t 1)⟩,
    ⟨some 70, some (6, false), .load 1 false (.t 69)⟩,
    ⟨some 71, some (6, false), .bin .neq (.t 68) (.t 70)⟩,
    ⟨some 72, none, .pick (.t 65) (.c (.bool true)) (.t 71)⟩,
    ⟨some 73, none, .mov (.t 72)⟩,
    ⟨some 74, some (14, false), .faddr 0 (.t 4)⟩,
    ⟨some 75, some (14, false), .load 1 false (.t 74)⟩,
    ⟨some 76, some (14, false), .mkfn 53 [(.t 1)]⟩,
    ⟨some 77, some (14, false), .call 52 [(.t 75), (.t 76)]⟩,
    ⟨some 78, none, .pick (.t 73) (.c (.bool true)) (.t 77)⟩])
   (.cond (.t 78) (.seq (.region [⟨some 2, none, .mov (.c (.int .i64 3))⟩])
   (.ret)) (.skip)))))
   (.region [⟨some 79, none, .bin .add (.t 55) (.c (.int .i64 1))⟩,
    ⟨some 55, none, .mov (.t 79)⟩])))))))
   (.seq (.seq (.region [⟨some 80, none, .faddr 3 (.t 1)⟩,
    ⟨some 81, none, .load 1 false (.t 80)⟩,
    ⟨some 82, none, .len (.t 81)⟩,
    ⟨some 83, none, .mov (.c (.int .i64 0))⟩])
   (.block 2 (.loop (.seq (.region [⟨some 84, none, .bin .lss (.t 83) (.t 82)⟩])
   (.seq (.cond (.t 84) (.skip) (.exit 2))
   (.seq (.block 3 (.seq (.region [⟨some 85, none, .iaddr 2 (.t 81) (.t 83)⟩,
    ⟨some 86, none, .load 2 true (.t 85)⟩,
    ⟨some 6, none, .alloc [.nilsl, .nilsl]⟩,
    ⟨none, none, .store 2 (.t 6) (.t 86)⟩])
   (.seq (.region [⟨some 87, none, .faddr 1 (.t 6)⟩,
    ⟨some 88, none, .load 1 false (.t 87)⟩,
    ⟨some 89, none, .mkfn 55 [(.t 1)]⟩,
    ⟨some 90, none, .call 54 [(.t 88), (.t 89)]⟩])
   (.cond (.t 90) (.seq (.region [⟨some 2, none, .mov (.c (.int .i64 2))⟩])
   (.ret)) (.skip)))))
   (.region [⟨some 91, none, .bin .add (.t 83) (.c (.int .i64 1))⟩,
    ⟨some 83, none, .mov (.t 91)⟩])))))))
   (.seq (.region [⟨some 2, none, .mov (.c (.int .i64 0))⟩])
   (.ret)))))))⟩
def ir14 : IFunc := ⟨49, [.tmp 2],
  .seq (.region [⟨some 1, none, .box 4 (.t 0)⟩,
    ⟨some 2, none, .mov (.c (.bool false))⟩])
   (.seq (.seq (.region [⟨some 8, none, .load 4 true (.t 1)⟩,
    ⟨some 9, none, .call 56 [(.t 8)]⟩,
    ⟨some 10, none, .len (.t 9)⟩,
    ⟨some 11, none, .mov (.c (.int .i64 0))⟩])
   (.block 0 (.loop (.seq (.region [⟨some 12, none, .bin .lss (.t 11) (.t 10)⟩])
   (.seq (.cond (.t 12) (.skip) (.exit 0))
   (.seq (.block 1 (.seq (.region [⟨some 13, none, .iaddr 2 (.t 9) (.t 11)⟩,
    ⟨some 14, none, .load 2 true (.t 13)⟩,
    ⟨some 4, none, .alloc [(.int .i64 0), (.int .i64 0)]⟩,
    ⟨none, none, .store 2 (.t 4) (.t 14)⟩])
   (.seq (.region [⟨some 15, none, .load 4 true (.t 1)⟩,
    ⟨some 16, none, .call 56 [(.t 15)]⟩,
    ⟨some 17, none, .len (.t 16)⟩,
    ⟨some 18, none, .mov (.c (.int .i64 0))⟩])
   (.block 2 (.loop (.seq (.region [⟨some 19, none, .bin .lss (.t 18) (.t 17)⟩])
   (.seq (.cond (.t 19) (.skip) (.exit 2))
   (.seq (.block 3 (.seq (.region [⟨some 20, none, .iaddr 2 (.t 16) (.t 18)⟩,
    ⟨some 21, none, .load 2 true (.t 20)⟩,
    ⟨some 6, none, .alloc [(.int .i64 0), (.int .i64 0)]⟩,
    ⟨none, none, .store 2 (.t 6) (.t 21)⟩])
   (.seq (.region [⟨some 22, none, .faddr 0 (.t 1)⟩,
    ⟨some 23, none, .load 1 false (.t 22)⟩,
    ⟨some 24, none, .mov (.c (.int .i64 0))⟩])
   (.block 4 (.loop (.seq (.region [⟨some 25, none, .bin .lss (.t 24) (.t 23)⟩])
   (.seq (.cond (.t 25) (.skip) (.exit 4))
   (.seq (.block 5 (.seq (.region [⟨some 26, none, .mov (.t 24)⟩,
    ⟨some 7, none, .mov (.t 26)⟩])
   (.seq (.draw [⟨some 27, none, .faddr 1 (.t 4)⟩,
    ⟨some 28, none, .load 1 false (.t 27)⟩,
    ⟨some 29, none, .faddr 1 (.t 6)⟩,
    ⟨some 30, none, .load 1 false (.t 29)⟩,
    ⟨some 31, none, .bin .neq (.t 28) (.t 30)⟩,
    ⟨some 32, none, .mov (.t 31)⟩,
    ⟨some 33, some (5, true), .load 4 true (.t 1)⟩,
    ⟨some 34, some (5, true), .mov (.t 7)⟩,
    ⟨some 35, some (5, true), .load 2 true (.t 4)⟩,
    ⟨some 36, some (5, true), .call 57 [(.t 33), (.t 34), (.t 35)]⟩,
    ⟨some 37, some (5, true), .load 4 true (.t 1)⟩,
    ⟨some 38, some (5, true), .mov (.t 7)⟩,
    ⟨some 39, some (5, true), .load 2 true (.t 6)⟩,
    ⟨some 40, some (5, true), .call 57 [(.t 37), (.t 38), (.t 39)]⟩,
    ⟨some 41, some (5, true), .bin .eql (.t 36) (.t 40)⟩,
    ⟨some 42, none, .pick (.t 32) (.t 41) (.c (.bool false))⟩] [0, 1, 2, 3, 4, 5, 6, 7, 8, 9, 10, 11, 12, 13, 14, 15] [(9, 10), (9, 12)])
   (.cond (.t 42) (.seq (.region [⟨some 2, none, .mov (.c (.bool false))⟩])
   (.ret)) (.skip)))))
   (.region [⟨some 43, none, .bin .add (.t 24) (.c (.int .i64 1))⟩,
    ⟨some 24, none, .mov (.t 43)⟩])))))))))
   (.region [⟨some 44, none, .bin .add (.t 18) (.c (.int .i64 1))⟩,
    ⟨some 18, none, .mov (.t 44)⟩])))))))))
   (.region [⟨some 45, none, .bin .add (.t 11) (.c (.int .i64 1))⟩,
    ⟨some 11, none, .mov (.t 45)⟩])))))))
   (.seq (.region [⟨some 46, none, .load 4 true (.t 1)⟩,
    ⟨some 47, none, .call 13 [(.t 46)]⟩,
    ⟨some 48, none, .bin .eql (.t 47) (.c (.int .i64 0))⟩,
    ⟨some 2, none, .mov (.t 48)⟩])
   (.ret)))⟩
def ir15 : IFunc := ⟨53, [.tmp 2],
  .seq (.region [⟨some 1, none, .box 4 (.t 0)⟩,
    ⟨some 2, none, .mov (.c (.bool false))⟩])
   (.seq (.seq (.region [⟨some 11, none, .load 4 true (.t 1)⟩,
    ⟨some 12, none, .call 13 [(.t 11)]⟩,
    ⟨some 13, none, .bin .neq (.t 12) (.c (.int .i64 0))⟩])
   (.cond (.t 13) (.seq (.region [⟨some 2, none, .mov (.c (.bool false))⟩])
   (.ret)) (.skip)))
   (.seq (.seq (.region [⟨some 14, none, .faddr 0 (.t 1)⟩,
    ⟨some 15, none, .load 1 false (.t 14)⟩,
    ⟨some 16, none, .mov (.c (.int .i64 0))⟩])
   (.block 0 (.loop (.seq (.region [⟨some 17, none, .bin .lss (.t 16) (.t 15)⟩])
   (.seq (.cond (.t 17) (.skip) (.exit 0))
   (.seq (.block 1 (.seq (.region [⟨some 18, none, .mov (.t 16)⟩,
    ⟨some 3, none, .mov (.t 18)⟩])
   (.seq (.region [⟨some 19, none, .mmap⟩,
    ⟨some 4, none, .mov (.t 19)⟩])
   (.seq (.region [⟨some 20, none, .load 4 true (.t 1)⟩,
    ⟨some 21, none, .call 56 [(.t 20)]⟩,
    ⟨some 22, none, .len (.t 21)⟩,
    ⟨some 23, none, .mov (.c (.int .i64 0))⟩])
   (.block 2 (.loop (.seq (.region [⟨some 24, none, .bin .lss (.t 23) (.t 22)⟩])
   (.seq (.cond (.t 24) (.skip) (.exit 2))
   (.seq (.block 3 (.seq (.region [⟨some 25, none, .iaddr 2 (.t 21) (.t 23)⟩,
    ⟨some 26, none, .load 2 true (.t 25)⟩,
    ⟨some 6, none, .alloc [(.int .i64 0), (.int .i64 0)]⟩,
    ⟨none, none, .store 2 (.t 6) (.t 26)⟩])
   (.seq (.draw [⟨some 27, none, .load 4 true (.t 1)⟩,
    ⟨some 28, none, .mov (.t 3)⟩,
    ⟨some 29, none, .load 2 true (.t 6)⟩,
    ⟨some 30, none, .call 57 [(.t 27), (.t 28), (.t 29)]⟩,
    ⟨some 31, none, .load 4 true (.t 1)⟩,
    ⟨some 32, none, .mov (.t 3)⟩,
    ⟨some 33, none, .load 2 true (.t 6)⟩,
    ⟨some 34, none, .call 58 [(.t 31), (.t 32), (.t 33)]⟩,
    ⟨some 7, none, .mov (.t 30)⟩,
    ⟨some 8, none, .mov (.t 34)⟩] [0, 1, 2, 3, 4, 5, 6, 7, 8, 9] [(3, 4), (3, 6)])
   (.seq (.seq (.region [⟨some 36, none, .mov (.t 4)⟩,
    ⟨some 37, none, .mov (.t 7)⟩,
    ⟨some 38, none, .lookup .nilsl true none (.t 36) (.t 37)⟩,
    ⟨some 35, none, .mov (.t 38)⟩,
    ⟨some 39, none, .extract (.t 35) 0⟩,
    ⟨some 40, none, .extract (.t 35) 1⟩,
    ⟨some 9, none, .mov (.t 39)⟩,
    ⟨some 10, none, .mov (.t 40)⟩])
   (.seq (.region [⟨some 41, none, .mov (.t 10)⟩,
    ⟨some 42, none, .mov (.t 41)⟩,
    ⟨some 43, some (1, true), .mov (.t 9)⟩,
    ⟨some 44, some (1, true), .mov (.t 8)⟩,
    ⟨some 45, some (1, true), .call 59 [(.t 43), (.t 44)]⟩,
    ⟨some 46, some (1, true), .un .not (.t 45)⟩,
    ⟨some 47, none, .pick (.t 42) (.t 46) (.c (.bool false))⟩])
   (.cond (.t 47) (.seq (.region [⟨some 2, none, .mov (.c (.bool false))⟩])
   (.ret)) (.skip))))
   (.region [⟨some 48, none, .mov (.t 4)⟩,
    ⟨some 49, none, .mov (.t 7)⟩,
    ⟨some 50, none, .mov (.t 8)⟩,
    ⟨none, none, .mupd none (.t 48) (.t 49) (.t 50)⟩])))))
   (.region [⟨some 51, none, .bin .add (.t 23) (.c (.int .i64 1))⟩,
    ⟨some 23, none, .mov (.t 51)⟩]))))))))))
   (.region [⟨some 52, none, .bin .add (.t 16) (.c (.int .i64 1))⟩,
    ⟨some 16, none, .mov (.t 52)⟩])))))))
   (.seq (.region [⟨some 2, none, .mov (.c (.bool true))⟩])
   (.ret))))⟩
def ir16 : IFunc := ⟨89, [.tmp 4],
  .seq (.region [⟨some 2, none, .box 2 (.t 0)⟩,
    ⟨some 3, none, .box 2 (.t 1)⟩,
    ⟨some 4, none, .mov (.c (.bool false))⟩])
   (.seq (.seq (.region [⟨some 8, none, .faddr 0 (.t 2)⟩,
    ⟨some 9, none, .load 1 false (.t 8)⟩,
    ⟨some 10, none, .len (.t 9)⟩,
    ⟨some 11, none, .faddr 0 (.t 3)⟩,
    ⟨some 12, none, .load 1 false (.t 11)⟩,
    ⟨some 13, none, .len (.t 12)⟩,
    ⟨some 14, none, .bin .neq (.t 10) (.t 13)⟩,
    ⟨some 15, none, .mov (.t 14)⟩,
    ⟨some 16, some (7, false), .faddr 1 (.t 2)⟩,
    ⟨some 17, some (7, false), .load 1 false (.t 16)⟩,
    ⟨some 18, some (7, false), .len (.t 17)⟩,
    ⟨some 19, some (7, false), .faddr 1 (.t 3)⟩,
    ⟨some 20, some (7, false), .load 1 false (.t 19)⟩,
    ⟨some 21, some (7, false), .len (.t 20)⟩,
    ⟨some 22, some (7, false), .bin .neq (.t 18) (.t 21)⟩,
    ⟨some 23, none, .pick (.t 15) (.c (.bool true)) (.t 22)⟩])
   (.cond (.t 23) (.seq (.region [⟨some 4, none, .mov (.c (.bool false))⟩])
   (.ret)) (.skip)))
   (.seq (.seq (.region [⟨some 5, none, .mov (.c (.int .i64 0))⟩])
   (.block 0 (.loop (.seq (.seq (.region [⟨some 24, none, .mov (.t 5)⟩,
    ⟨some 25, none, .faddr 0 (.t 2)⟩,
    ⟨some 26, none, .load 1 false (.t 25)⟩,
    ⟨some 27, none, .len (.t 26)⟩,
    ⟨some 28, none, .bin .lss (.t 24) (.t 27)⟩])
   (.cond (.t 28) (.skip) (.exit 0)))
   (.seq (.block 1 (.seq (.seq (.draw [⟨some 31, none, .faddr 0 (.t 2)⟩,
    ⟨some 32, none, .load 1 false (.t 31)⟩,
    ⟨some 33, none, .mov (.t 5)⟩,
    ⟨some 34, none, .iaddr 1 (.t 32) (.t 33)⟩,
    ⟨some 35, none, .load 1 false (.t 34)⟩,
    ⟨some 36, none, .len (.t 35)⟩,
    ⟨some 37, none, .faddr 0 (.t 3)⟩,
    ⟨some 38, none, .load 1 false (.t 37)⟩,
    ⟨some 39, none, .mov (.t 5)⟩,
    ⟨some 40, none, .iaddr 1 (.t 38) (.t 39)⟩,
    ⟨some 41, none, .load 1 false (.t 40)⟩,
    ⟨some 42, none, .len (.t 41)⟩,
    ⟨some 43, none, .bin .neq (.t 36) (.t 42)⟩] [0, 1, 2, 3, 4, 5, 6, 7, 8, 9, 10, 11, 12] [])
   (.cond (.t 43) (.seq (.region [⟨some 4, none, .mov (.c (.bool false))⟩])
   (.ret)) (.skip)))
   (.seq (.region [⟨some 6, none, .mov (.c (.int .i64 0))⟩])
   (.block 2 (.loop (.seq (.seq (.region [⟨some 44, none, .mov (.t 6)⟩,
    ⟨some 45, none, .faddr 0 (.t 2)⟩,
    ⟨some 46, none, .load 1 false (.t 45)⟩,
    ⟨some 47, none, .mov (.t 5)⟩,
    ⟨some 48, none, .iaddr 1 (.t 46) (.t 47)⟩,
    ⟨some 49, none, .load 1 false (.t 48)⟩,
    ⟨some 50, none, .len (.t 49)⟩,
    ⟨some 51, none, .bin .lss (.t 44) (.t 50)⟩])
   (.cond (.t 51) (.skip) (.exit 2)))
   (.seq (.block 3 (.seq (.draw [⟨some 54, none, .faddr 0 (.t 2)⟩,
    ⟨some 55, none, .load 1 false (.t 54)⟩,
    ⟨some 56, none, .mov (.t 5)⟩,
    ⟨some 57, none, .iaddr 1 (.t 55) (.t 56)⟩,
    ⟨some 58, none, .load 1 false (.t 57)⟩,
    ⟨some 59, none, .mov (.t 6)⟩,
    ⟨some 60, none, .iaddr 1 (.t 58) (.t 59)⟩,
    ⟨some 61, none, .load 1 false (.t 60)⟩,
    ⟨some 62, none, .faddr 0 (.t 3)⟩,
    ⟨some 63, none, .load 1 false (.t 62)⟩,
    ⟨some 64, none, .mov (.t 5)⟩,
    ⟨some 65, none, .iaddr 1 (.t 63) (.t 64)⟩,
    ⟨some 66, none, .load 1 false (.t 65)⟩,
    ⟨some 67, none, .mov (.t 6)⟩,
    ⟨some 68, none, .iaddr 1 (.t 66) (.t 67)⟩,
    ⟨some 69, none, .load 1 false (.t 68)⟩,
    ⟨some 70, none, .bin .neq (.t 61) (.t 69)⟩] [0, 1, 2, 3, 4, 5, 6, 7, 8, 9, 10, 11, 12, 13, 14, 15, 16] [])
   (.cond (.t 70) (.seq (.region [⟨some 4, none, .mov (.c (.bool false))⟩])
   (.ret)) (.skip))))
   (.region [⟨some 52, none, .mov (.t 6)⟩,
    ⟨some 53, none, .bin .add (.t 52) (.c (.int .i64 1))⟩,
    ⟨some 6, none, .mov (.t 53)⟩]))))))))
   (.region [⟨some 29, none, .mov (.t 5)⟩,
    ⟨some 30, none, .bin .add (.t 29) (.c (.int .i64 1))⟩,
    ⟨some 5, none, .mov (.t 30)⟩]))))))
   (.seq (.seq (.region [⟨some 7, none, .mov (.c (.int .i64 0))⟩])
   (.block 4 (.loop (.seq (.seq (.region [⟨some 71, none, .mov (.t 7)⟩,
    ⟨some 72, none, .faddr 1 (.t 2)⟩,
    ⟨some 73, none, .load 1 false (.t 72)⟩,
    ⟨some 74, none, .len (.t 73)⟩,
    ⟨some 75, none, .bin .lss (.t 71) (.t 74)⟩])
   (.cond (.t 75) (.skip) (.exit 4)))
   (.seq (.block 5 (.seq (.draw [⟨some 78, none, .faddr 1 (.t 2)⟩,
    ⟨some 79, none, .load 1 false (.t 78)⟩,
    ⟨some 80, none, .mov (.t 7)⟩,
    ⟨some 81, none, .iaddr 1 (.t 79) (.t 80)⟩,
    ⟨some 82, none, .load 1 false (.t 81)⟩,
    ⟨some 83, none, .faddr 1 (.t 3)⟩,
    ⟨some 84, none, .load 1 false (.t 83)⟩,
    ⟨some 85, none, .mov (.t 7)⟩,
    ⟨some 86, none, .iaddr 1 (.t 84) (.t 85)⟩,
    ⟨some 87, none, .load 1 false (.t 86)⟩,
    ⟨some 88, none, .bin .neq (.t 82) (.t 87)⟩] [0, 1, 2, 3, 4, 5, 6, 7, 8, 9, 10] [])
   (.cond (.t 88) (.seq (.region [⟨some 4, none, .mov (.c (.bool false))⟩])
   (.ret)) (.skip))))
   (.region [⟨some 76, none, .mov (.t 7)⟩,
    ⟨some 77, none, .bin .add (.t 76) (.c (.int .i64 1))⟩,
    ⟨some 7, none, .mov (.t 77)⟩]))))))
   (.seq (.region [⟨some 4, none, .mov (.c (.bool true))⟩])
   (.ret)))))⟩
def ir52 : IFunc := ⟨9, [.tmp 4],
  .seq (.region [⟨some 4, none, .mov (.c (.bool false))⟩])
   (.seq (.region [⟨some 5, none, .mov (.t 0)⟩,
    ⟨some 6, none, .mov (.t 1)⟩,
    ⟨some 7, none, .call 93 [(.t 5), (.t 6)]⟩,
    ⟨some 8, none, .bin .geq (.t 7) (.c (.int .i64 0))⟩,
    ⟨some 4, none, .mov (.t 8)⟩])
   (.ret))⟩
def ir53 : IFunc := ⟨9, [.tmp 3],
  .seq (.region [⟨some 3, none, .mov (.c (.bool false))⟩])
   (.seq (.region [⟨some 4, none, .mov (.t 0)⟩,
    ⟨some 5, none, .len (.t 4)⟩,
    ⟨some 6, none, .faddr 0 (.t 1)⟩,
    ⟨some 7, none, .load 1 false (.t 6)⟩,
    ⟨some 8, none, .bin .neq (.t 5) (.t 7)⟩,
    ⟨some 3, none, .mov (.t 8)⟩])
   (.ret))⟩
def ir54 : IFunc := ⟨9, [.tmp 4],
  .seq (.region [⟨some 4, none, .mov (.c (.bool false))⟩])
   (.seq (.region [⟨some 5, none, .mov (.t 0)⟩,
    ⟨some 6, none, .mov (.t 1)⟩,
    ⟨some 7, none, .call 94 [(.t 5), (.t 6)]⟩,
    ⟨some 8, none, .bin .geq (.t 7) (.c (.int .i64 0))⟩,
    ⟨some 4, none, .mov (.t 8)⟩])
   (.ret))⟩
def ir55 : IFunc := ⟨9, [.tmp 3],
  .seq (.region [⟨some 3, none, .mov (.c (.bool false))⟩])
   (.seq (.region [⟨some 4, none, .mov (.t 0)⟩,
    ⟨some 5, none, .faddr 1 (.t 1)⟩,
    ⟨some 6, none, .load 1 false (.t 5)⟩,
    ⟨some 7, none, .bin .shr (.t 4) (.t 6)⟩,
    ⟨some 8, none, .bin .neq (.t 7) (.c (.int .u64 0))⟩,
    ⟨some 3, none, .mov (.t 8)⟩])
   (.ret))⟩
def ir56 : IFunc := ⟨29, [.tmp 2],
  .seq (.region [⟨some 1, none, .box 4 (.t 0)⟩,
    ⟨some 2, none, .mov (.c .nilsl)⟩])
   (.seq (.seq (.region [⟨some 6, none, .load 4 true (.t 1)⟩,
    ⟨some 7, none, .call 13 [(.t 6)]⟩,
    ⟨some 8, none, .bin .neq (.t 7) (.c (.int .i64 0))⟩])
   (.cond (.t 8) (.seq (.region [⟨some 2, none, .mov (.c .nilsl)⟩])
   (.ret)) (.skip)))
   (.seq (.region [⟨some 3, none, .mov (.c .nilsl)⟩])
   (.seq (.seq (.region [⟨some 9, none, .faddr 3 (.t 1)⟩,
    ⟨some 10, none, .load 1 false (.t 9)⟩,
    ⟨some 11, none, .len (.t 10)⟩,
    ⟨some 12, none, .mov (.c (.int .i64 0))⟩])
   (.block 0 (.loop (.seq (.region [⟨some 13, none, .bin .lss (.t 12) (.t 11)⟩])
   (.seq (.cond (.t 13) (.skip) (.exit 0))
   (.seq (.block 1 (.seq (.region [⟨some 14, none, .mov (.t 12)⟩,
    ⟨some 4, none, .mov (.t 14)⟩])
   (.seq (.region [⟨some 15, none, .faddr 2 (.t 1)⟩,
    ⟨some 16, none, .load 1 false (.t 15)⟩,
    ⟨some 17, none, .mov (.c (.int .i64 0))⟩])
   (.block 2 (.loop (.seq (.region [⟨some 18, none, .bin .lss (.t 17) (.t 16)⟩])
   (.seq (.cond (.t 18) (.skip) (.exit 2))
   (.seq (.block 3 (.seq (.region [⟨some 19, none, .mov (.t 17)⟩,
    ⟨some 5, none, .mov (.t 19)⟩])
   (.region [⟨some 20, none, .mov (.t 3)⟩,
    ⟨some 21, none, .mov (.t 4)⟩,
    ⟨some 22, none, .mov (.t 5)⟩,
    ⟨some 23, none, .build [(.int .i64 0), (.int .i64 0)] [(0, 1, (.t 21)), (1, 1, (.t 22))]⟩,
    ⟨some 24, none, .tlit 1 2 [(.int .i64 0), (.int .i64 0)] [(0, 2, (.t 23))]⟩,
    ⟨some 25, none, .append 2 16 (.t 20) (.t 24)⟩,
    ⟨some 3, none, .mov (.t 25)⟩])))
   (.region [⟨some 26, none, .bin .add (.t 17) (.c (.int .i64 1))⟩,
    ⟨some 17, none, .mov (.t 26)⟩])))))))))
   (.region [⟨some 27, none, .bin .add (.t 12) (.c (.int .i64 1))⟩,
    ⟨some 12, none, .mov (.t 27)⟩])))))))
   (.seq (.region [⟨some 28, none, .mov (.t 3)⟩,
    ⟨some 2, none, .mov (.t 28)⟩])
   (.ret)))))⟩
def ir57 : IFunc := ⟨21, [.tmp 6],
  .seq (.region [⟨some 3, none, .box 4 (.t 0)⟩,
    ⟨some 5, none, .box 2 (.t 2)⟩,
    ⟨some 6, none, .mov (.c (.int .i64 0))⟩])
   (.seq (.draw [⟨some 7, none, .faddr 3 (.t 3)⟩,
    ⟨some 8, none, .load 1 false (.t 7)⟩,
    ⟨some 9, none, .faddr 0 (.t 5)⟩,
    ⟨some 10, none, .load 1 false (.t 9)⟩,
    ⟨some 11, none, .iaddr 2 (.t 8) (.t 10)⟩,
    ⟨some 12, none, .faddr 0 (.t 11)⟩,
    ⟨some 13, none, .load 1 false (.t 12)⟩,
    ⟨some 14, none, .faddr 1 (.t 5)⟩,
    ⟨some 15, none, .load 1 false (.t 14)⟩,
    ⟨some 16, none, .iaddr 1 (.t 13) (.t 15)⟩,
    ⟨some 17, none, .load 1 false (.t 16)⟩,
    ⟨some 18, none, .mov (.t 1)⟩,
    ⟨some 19, none, .iaddr 1 (.t 17) (.t 18)⟩,
    ⟨some 20, none, .load 1 false (.t 19)⟩,
    ⟨some 6, none, .mov (.t 20)⟩] [0, 1, 2, 3, 4, 5, 6, 7, 8, 9, 10, 11, 12, 13, 14] [])
   (.ret))⟩
def ir58 : IFunc := ⟨34, [.tmp 6],
  .seq (.region [⟨some 3, none, .box 4 (.t 0)⟩,
    ⟨some 5, none, .box 2 (.t 2)⟩,
    ⟨some 6, none, .mov (.c .nilsl)⟩])
   (.seq (.region [⟨some 7, none, .mov (.c .nilsl)⟩])
   (.seq (.seq (.region [⟨some 9, none, .faddr 1 (.t 5)⟩,
    ⟨some 10, none, .load 1 false (.t 9)⟩,
    ⟨some 11, none, .bin .add (.t 10) (.c (.int .i64 1))⟩,
    ⟨some 12, none, .mov (.c (.int .i64 0))⟩])
   (.block 0 (.loop (.seq (.region [⟨some 13, none, .bin .lss (.t 12) (.t 11)⟩])
   (.seq (.cond (.t 13) (.skip) (.exit 0))
   (.seq (.block 1 (.seq (.region [⟨some 14, none, .mov (.t 12)⟩,
    ⟨some 8, none, .mov (.t 14)⟩])
   (.region [⟨some 15, none, .mov (.t 7)⟩,
    ⟨some 16, none, .faddr 3 (.t 3)⟩,
    ⟨some 17, none, .load 1 false (.t 16)⟩,
    ⟨some 18, none, .faddr 0 (.t 5)⟩,
    ⟨some 19, none, .load 1 false (.t 18)⟩,
    ⟨some 20, none, .iaddr 2 (.t 17) (.t 19)⟩,
    ⟨some 21, none, .faddr 0 (.t 20)⟩,
    ⟨some 22, none, .load 1 false (.t 21)⟩,
    ⟨some 23, none, .mov (.t 8)⟩,
    ⟨some 24, none, .iaddr 1 (.t 22) (.t 23)⟩,
    ⟨some 25, none, .load 1 false (.t 24)⟩,
    ⟨some 26, none, .mov (.t 1)⟩,
    ⟨some 27, none, .iaddr 1 (.t 25) (.t 26)⟩,
    ⟨some 28, none, .load 1 false (.t 27)⟩,
    ⟨some 29, none, .tlit 1 1 [(.int .i64 0)] [(0, 1, (.t 28))]⟩,
    ⟨some 30, none, .append 1 8 (.t 15) (.t 29)⟩,
    ⟨some 7, none, .mov (.t 30)⟩])))
   (.region [⟨some 31, none, .bin .add (.t 12) (.c (.int .i64 1))⟩,
    ⟨some 12, none, .mov (.t 31)⟩])))))))
   (.seq (.region [⟨some 32, none, .mov (.t 7)⟩,
    ⟨some 33, none, .call 95 [(.t 32)]⟩,
    ⟨some 6, none, .mov (.t 33)⟩])
   (.ret))))⟩
def ir59 : IFunc := ⟨26, [.tmp 4],
  .seq (.region [⟨some 4, none, .mov (.c (.bool false))⟩])
   (.seq (.seq (.region [⟨some 6, none, .mov (.t 0)⟩,
    ⟨some 7, none, .len (.t 6)⟩,
    ⟨some 8, none, .mov (.t 1)⟩,
    ⟨some 9, none, .len (.t 8)⟩,
    ⟨some 10, none, .bin .neq (.t 7) (.t 9)⟩])
   (.cond (.t 10) (.seq (.region [⟨some 4, none, .mov (.c (.bool false))⟩])
   (.ret)) (.skip)))
   (.seq (.seq (.region [⟨some 11, none, .mov (.t 0)⟩,
    ⟨some 12, none, .len (.t 11)⟩,
    ⟨some 13, none, .mov (.c (.int .i64 0))⟩])
   (.block 0 (.loop (.seq (.region [⟨some 14, none, .bin .lss (.t 13) (.t 12)⟩])
   (.seq (.cond (.t 14) (.skip) (.exit 0))
   (.seq (.block 1 (.seq (.region [⟨some 15, none, .mov (.t 13)⟩,
    ⟨some 5, none, .mov (.t 15)⟩])
   (.seq (.draw [⟨some 16, none, .mov (.t 0)⟩,
    ⟨some 17, none, .mov (.t 5)⟩,
    ⟨some 18, none, .iaddr 1 (.t 16) (.t 17)⟩,
    ⟨some 19, none, .load 1 false (.t 18)⟩,
    ⟨some 20, none, .mov (.t 1)⟩,
    ⟨some 21, none, .mov (.t 5)⟩,
    ⟨some 22, none, .iaddr 1 (.t 20) (.t 21)⟩,
    ⟨some 23, none, .load 1 false (.t 22)⟩,
    ⟨some 24, none, .bin .neq (.t 19) (.t 23)⟩] [0, 1, 2, 3, 4, 5, 6, 7, 8] [])
   (.cond (.t 24) (.seq (.region [⟨some 4, none, .mov (.c (.bool false))⟩])
   (.ret)) (.skip)))))
   (.region [⟨some 25, none, .bin .add (.t 13) (.c (.int .i64 1))⟩,
    ⟨some 13, none, .mov (.t 25)⟩])))))))
   (.seq (.region [⟨some 4, none, .mov (.c (.bool true))⟩])
   (.ret))))⟩
def ir93 : IFunc := ⟨19, [.tmp 4],
  .seq (.region [⟨some 4, none, .mov (.c (.int .i64 0))⟩])
   (.seq (.seq (.region [⟨some 6, none, .mov (.t 0)⟩,
    ⟨some 7, none, .len (.t 6)⟩,
    ⟨some 8, none, .mov (.c (.int .i64 0))⟩])
   (.block 0 (.loop (.seq (.region [⟨some 9, none, .bin .lss (.t 8) (.t 7)⟩])
   (.seq (.cond (.t 9) (.skip) (.exit 0))
   (.seq (.block 1 (.seq (.region [⟨some 10, none, .mov (.t 8)⟩,
    ⟨some 5, none, .mov (.t 10)⟩])
   (.seq (.region [⟨some 11, none, .mov (.t 1)⟩,
    ⟨some 12, none, .mov (.t 0)⟩,
    ⟨some 13, none, .mov (.t 5)⟩,
    ⟨some 14, none, .iaddr 1 (.t 12) (.t 13)⟩,
    ⟨some 15, none, .load 1 false (.t 14)⟩,
    ⟨some 16, none, .dyn (.t 11) [(.t 15)]⟩])
   (.cond (.t 16) (.seq (.region [⟨some 17, none, .mov (.t 5)⟩,
    ⟨some 4, none, .mov (.t 17)⟩])
   (.ret)) (.skip)))))
   (.region [⟨some 18, none, .bin .add (.t 8) (.c (.int .i64 1))⟩,
    ⟨some 8, none, .mov (.t 18)⟩])))))))
   (.seq (.region [⟨some 4, none, .mov (.c (.int .i64 (-1)))⟩])
   (.ret)))⟩
def ir94 : IFunc := ⟨19, [.tmp 4],
  .seq (.region [⟨some 4, none, .mov (.c (.int .i64 0))⟩])
   (.seq (.seq (.region [⟨some 6, none, .mov (.t 0)⟩,
    ⟨some 7, none, .len (.t 6)⟩,
    ⟨some 8, none, .mov (.c (.int .i64 0))⟩])
   (.block 0 (.loop (.seq (.region [⟨some 9, none, .bin .lss (.t 8) (.t 7)⟩])
   (.seq (.cond (.t 9) (.skip) (.exit 0))
   (.seq (.block 1 (.seq (.region [⟨some 10, none, .mov (.t 8)⟩,
    ⟨some 5, none, .mov (.t 10)⟩])
   (.seq (.region [⟨some 11, none, .mov (.t 1)⟩,
    ⟨some 12, none, .mov (.t 0)⟩,
    ⟨some 13, none, .mov (.t 5)⟩,
    ⟨some 14, none, .iaddr 1 (.t 12) (.t 13)⟩,
    ⟨some 15, none, .load 1 false (.t 14)⟩,
    ⟨some 16, none, .dyn (.t 11) [(.t 15)]⟩])
   (.cond (.t 16) (.seq (.region [⟨some 17, none, .mov (.t 5)⟩,
    ⟨some 4, none, .mov (.t 17)⟩])
   (.ret)) (.skip)))))
   (.region [⟨some 18, none, .bin .add (.t 8) (.c (.int .i64 1))⟩,
    ⟨some 8, none, .mov (.t 18)⟩])))))))
   (.seq (.region [⟨some 4, none, .mov (.c (.int .i64 (-1)))⟩])
   (.ret)))⟩
def ir95 : IFunc := ⟨61, [.tmp 2],
  .seq (.region [⟨some 2, none, .mov (.c .nilsl)⟩])
   (.seq (.seq (.region [⟨some 6, none, .mov (.t 0)⟩,
    ⟨some 7, none, .len (.t 6)⟩,
    ⟨some 8, none, .bin .lss (.t 7) (.c (.int .i64 2))⟩])
   (.cond (.t 8) (.seq (.region [⟨some 9, none, .mov (.t 0)⟩,
    ⟨some 2, none, .mov (.t 9)⟩])
   (.ret)) (.skip)))
   (.seq (.seq (.region [⟨some 3, none, .mov (.c (.int .i64 1))⟩])
   (.block 0 (.loop (.seq (.seq (.region [⟨some 10, none, .mov (.t 3)⟩,
    ⟨some 11, none, .mov (.t 0)⟩,
    ⟨some 12, none, .len (.t 11)⟩,
    ⟨some 13, none, .bin .lss (.t 10) (.t 12)⟩])
   (.cond (.t 13) (.skip) (.exit 0)))
   (.seq (.block 1 (.seq (.draw [⟨some 16, none, .mov (.t 0)⟩,
    ⟨some 17, none, .mov (.t 3)⟩,
    ⟨some 18, none, .iaddr 1 (.t 16) (.t 17)⟩,
    ⟨some 19, none, .load 1 false (.t 18)⟩,
    ⟨some 20, none, .mov (.t 0)⟩,
    ⟨some 21, none, .mov (.t 3)⟩,
    ⟨some 22, none, .bin .sub (.t 21) (.c (.int .i64 1))⟩,
    ⟨some 23, none, .iaddr 1 (.t 20) (.t 22)⟩,
    ⟨some 24, none, .load 1 false (.t 23)⟩,
    ⟨some 25, none, .bin .eql (.t 19) (.t 24)⟩] [0, 1, 2, 3, 4, 5, 6, 7, 8, 9] [])
   (.cond (.t 25) (.seq (.region [⟨some 26, none, .mov (.t 0)⟩,
    ⟨some 27, none, .mov (.t 3)⟩,
    ⟨some 28, none, .slice 1 (.t 26) (some (.t 27)) none⟩,
    ⟨some 4, none, .mov (.t 28)⟩])
   (.seq (.seq (.region [⟨some 5, none, .mov (.c (.int .i64 1))⟩])
   (.block 2 (.loop (.seq (.seq (.region [⟨some 29, none, .mov (.t 5)⟩,
    ⟨some 30, none, .mov (.t 4)⟩,
    ⟨some 31, none, .len (.t 30)⟩,
    ⟨some 32, none, .bin .lss (.t 29) (.t 31)⟩])
   (.cond (.t 32) (.skip) (.exit 2)))
   (.seq (.block 3 (.seq (.draw [⟨some 35, none, .mov (.t 4)⟩,
    ⟨some 36, none, .mov (.t 5)⟩,
    ⟨some 37, none, .iaddr 1 (.t 35) (.t 36)⟩,
    ⟨some 38, none, .load 1 false (.t 37)⟩,
    ⟨some 39, none, .mov (.t 4)⟩,
    ⟨some 40, none, .mov (.t 5)⟩,
    ⟨some 41, none, .bin .sub (.t 40) (.c (.int .i64 1))⟩,
    ⟨some 42, none, .iaddr 1 (.t 39) (.t 41)⟩,
    ⟨some 43, none, .load 1 false (.t 42)⟩,
    ⟨some 44, none, .bin .neq (.t 38) (.t 43)⟩] [0, 1, 2, 3, 4, 5, 6, 7, 8, 9] [])
   (.cond (.t 44) (.seq (.region [⟨some 45, none, .mov (.t 0)⟩,
    ⟨some 46, none, .mov (.t 3)⟩,
    ⟨some 47, none, .mov (.t 4)⟩,
    ⟨some 48, none, .mov (.t 5)⟩,
    ⟨some 49, none, .iaddr 1 (.t 47) (.t 48)⟩,
    ⟨some 50, none, .load 1 false (.t 49)⟩,
    ⟨some 51, none, .iaddr 1 (.t 45) (.t 46)⟩,
    ⟨none, none, .store 1 (.t 51) (.t 50)⟩])
   (.region [⟨some 52, none, .mov (.t 3)⟩,
    ⟨some 53, none, .bin .add (.t 52) (.c (.int .i64 1))⟩,
    ⟨some 3, none, .mov (.t 53)⟩])) (.skip))))
   (.region [⟨some 33, none, .mov (.t 5)⟩,
    ⟨some 34, none, .bin .add (.t 33) (.c (.int .i64 1))⟩,
    ⟨some 5, none, .mov (.t 34)⟩]))))))
   (.seq (.region [⟨some 54, none, .mov (.t 0)⟩,
    ⟨some 55, none, .mov (.t 3)⟩,
    ⟨some 56, none, .slice 1 (.t 54) (some (.t 55)) none⟩,
    ⟨none, none, .clear 1 [(.int .i64 0)] (.t 56)⟩])
   (.seq (.region [⟨some 57, none, .mov (.t 0)⟩,
    ⟨some 58, none, .mov (.t 3)⟩,
    ⟨some 59, none, .slice 1 (.t 57) none (some (.t 58))⟩,
    ⟨some 2, none, .mov (.t 59)⟩])
   (.ret))))) (.skip))))
   (.region [⟨some 14, none, .mov (.t 3)⟩,
    ⟨some 15, none, .bin .add (.t 14) (.c (.int .i64 1))⟩,
    ⟨some 3, none, .mov (.t 15)⟩]))))))
   (.seq (.region [⟨some 60, none, .mov (.t 0)⟩,
    ⟨some 2, none, .mov (.t 60)⟩])
   (.ret))))⟩
theorem cir13 : compile Try.prog Try.f13 = some ir13 := by kernel_rfl
theorem cir14 : compile Try.prog Try.f14 = some ir14 := by kernel_rfl
theorem cir15 : compile Try.prog Try.f15 = some ir15 := by kernel_rfl
theorem cir16 : compile Try.prog Try.f16 = some ir16 := by kernel_rfl
theorem cir52 : compile Try.prog Try.f52 = some ir52 := by kernel_rfl
theorem cir53 : compile Try.prog Try.f53 = some ir53 := by kernel_rfl
theorem cir54 : compile Try.prog Try.f54 = some ir54 := by kernel_rfl
theorem cir55 : compile Try.prog Try.f55 = some ir55 := by kernel_rfl
theorem cir56 : compile Try.prog Try.f56 = some ir56 := by kernel_rfl
theorem cir57 : compile Try.prog Try.f57 = some ir57 := by kernel_rfl
theorem cir58 : compile Try.prog Try.f58 = some ir58 := by kernel_rfl
theorem cir59 : compile Try.prog Try.f59 = some ir59 := by kernel_rfl
theorem cir93 : compile Try.prog Try.f93 = some ir93 := by kernel_rfl
theorem cir94 : compile Try.prog Try.f94 = some ir94 := by kernel_rfl
theorem cir95 : compile Try.prog Try.f95 = some ir95 := by kernel_rfl
end Go.Proofs.Ytlgbbabijifflaa.L1R
