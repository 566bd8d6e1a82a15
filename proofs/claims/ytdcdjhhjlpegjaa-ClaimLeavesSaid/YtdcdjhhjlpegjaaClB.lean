/- What the law's proof rests on, part 4: for all that is said in each line. No conditions. -/
import Derived.Test.YtdcdjhhjlpegjaaRows
import Derived.Test.YtdcdjhhjlpegjaaClA
namespace Go.Proofs.Ytdcdjhhjlpegjaa
open Go Go.Eng
/-- selion/selionlaw03.ClaimOrders [] -/
def m3 : MFun := ⟨93, [1], [.mov (.s 2)],
 .seq (.ops [⟨(some 1), some (.junk), none, false, .pu (.bnew (.s 0))⟩,
   ⟨(some 2), some undefA, none, false, .pu (.mov (.c (.bool false)))⟩])
 (.seq (.seq (.ops [⟨(some 11), some undefA, none, false, .pu (.bget none 1 0 2 true)⟩,
   ⟨(some 12), some undefA, none, false, .call 15 [(.s 11)]⟩,
   ⟨(some 13), some undefA, none, false, .pu (.mov (.s 12))⟩,
   ⟨(some 14), some undefA, (some (13, false)), false, .pu (.badr none 1)⟩,
   ⟨(some 15), some undefA, (some (13, false)), false, .pu (.bget (some 14) 1 0 1 false)⟩,
   ⟨(some 16), some undefA, (some (13, false)), false, .pu (.badr none 1)⟩,
   ⟨(some 17), some undefA, (some (13, false)), false, .pu (.bget (some 16) 1 1 1 false)⟩,
   ⟨(some 18), some undefA, (some (13, false)), false, .call 16 [(.s 15), (.s 17)]⟩,
   ⟨(some 19), some undefA, (some (13, false)), false, .pu (.bin .neq (.s 18) (.c (.int .i64 0)))⟩,
   ⟨(some 20), some undefA, none, false, .pu (.pick (.s 13) (.c (.bool true)) (.s 19))⟩])
 (.cond (.s 20) (.seq (.ops [⟨(some 21), some undefA, none, false, .call 17 []⟩,
    ⟨(some 2), some undefA, none, false, .pu (.mov (.s 21))⟩])
  (.ret))
 (.skip)))
 (.seq (.ops [⟨(some 23), some undefA, none, false, .pu (.badr none 1)⟩,
   ⟨(some 24), some undefA, none, false, .pu (.bget (some 23) 1 0 1 false)⟩,
   ⟨(some 25), some undefA, none, false, .pu (.badr none 1)⟩,
   ⟨(some 26), some undefA, none, false, .pu (.bget (some 25) 1 1 1 false)⟩,
   ⟨(some 27), some undefA, none, false, .call 18 [(.s 24), (.s 26)]⟩,
   ⟨(some 22), some undefA, none, false, .pu (.mov (.s 27))⟩,
   ⟨(some 28), some undefA, none, false, .pu (.extr 0 (.s 22))⟩,
   ⟨(some 29), some undefA, none, false, .pu (.extr 1 (.s 22))⟩,
   ⟨(some 3), some undefA, none, false, .pu (.mov (.s 28))⟩,
   ⟨(some 4), some undefA, none, false, .pu (.mov (.s 29))⟩])
 (.seq (.ops [⟨(some 31), some undefA, none, false, .pu (.badr none 1)⟩,
   ⟨(some 32), some undefA, none, false, .pu (.bget (some 31) 1 0 1 false)⟩,
   ⟨(some 33), some undefA, none, false, .pu (.badr none 1)⟩,
   ⟨(some 34), some undefA, none, false, .pu (.bget (some 33) 1 1 1 false)⟩,
   ⟨(some 35), some undefA, none, false, .call 19 [(.s 32), (.s 34)]⟩,
   ⟨(some 30), some undefA, none, false, .pu (.mov (.s 35))⟩,
   ⟨(some 36), some undefA, none, false, .pu (.extr 0 (.s 30))⟩,
   ⟨(some 37), some undefA, none, false, .pu (.extr 1 (.s 30))⟩,
   ⟨(some 5), some undefA, none, false, .pu (.mov (.s 36))⟩,
   ⟨(some 6), some undefA, none, false, .pu (.mov (.s 37))⟩])
 (.seq (.ops [⟨(some 39), some undefA, none, false, .pu (.badr none 1)⟩,
   ⟨(some 40), some undefA, none, false, .pu (.bget (some 39) 1 0 1 false)⟩,
   ⟨(some 41), some undefA, none, false, .pu (.badr none 1)⟩,
   ⟨(some 42), some undefA, none, false, .pu (.bget (some 41) 1 1 1 false)⟩,
   ⟨(some 43), some undefA, none, false, .call 20 [(.s 40), (.s 42)]⟩,
   ⟨(some 38), some undefA, none, false, .pu (.mov (.s 43))⟩,
   ⟨(some 44), some undefA, none, false, .pu (.extr 0 (.s 38))⟩,
   ⟨(some 45), some undefA, none, false, .pu (.extr 1 (.s 38))⟩,
   ⟨(some 7), some undefA, none, false, .pu (.mov (.s 44))⟩,
   ⟨(some 8), some undefA, none, false, .pu (.mov (.s 45))⟩])
 (.seq (.ops [⟨(some 47), some undefA, none, false, .pu (.badr none 1)⟩,
   ⟨(some 48), some undefA, none, false, .pu (.bget (some 47) 1 0 1 false)⟩,
   ⟨(some 49), some undefA, none, false, .pu (.badr none 1)⟩,
   ⟨(some 50), some undefA, none, false, .pu (.bget (some 49) 1 1 1 false)⟩,
   ⟨(some 51), some undefA, none, false, .call 21 [(.s 48), (.s 50)]⟩,
   ⟨(some 46), some undefA, none, false, .pu (.mov (.s 51))⟩,
   ⟨(some 52), some undefA, none, false, .pu (.extr 0 (.s 46))⟩,
   ⟨(some 53), some undefA, none, false, .pu (.extr 1 (.s 46))⟩,
   ⟨(some 9), some undefA, none, false, .pu (.mov (.s 52))⟩,
   ⟨(some 10), some undefA, none, false, .pu (.mov (.s 53))⟩])
 (.seq (.seq (.ops [⟨(some 54), some undefA, none, false, .pu (.mov (.s 4))⟩,
   ⟨(some 55), some undefA, none, false, .pu (.bin .neq (.s 54) (.c (.int .i64 0)))⟩,
   ⟨(some 56), some undefA, none, false, .pu (.mov (.s 55))⟩,
   ⟨(some 57), some undefA, (some (56, false)), false, .pu (.mov (.s 6))⟩,
   ⟨(some 58), some undefA, (some (56, false)), false, .pu (.bin .neq (.s 57) (.c (.int .i64 0)))⟩,
   ⟨(some 59), some undefA, none, false, .pu (.pick (.s 56) (.c (.bool true)) (.s 58))⟩,
   ⟨(some 60), some undefA, none, false, .pu (.mov (.s 59))⟩,
   ⟨(some 61), some undefA, (some (60, false)), false, .pu (.mov (.s 8))⟩,
   ⟨(some 62), some undefA, (some (60, false)), false, .pu (.bin .neq (.s 61) (.c (.int .i64 0)))⟩,
   ⟨(some 63), some undefA, none, false, .pu (.pick (.s 60) (.c (.bool true)) (.s 62))⟩,
   ⟨(some 64), some undefA, none, false, .pu (.mov (.s 63))⟩,
   ⟨(some 65), some undefA, (some (64, false)), false, .pu (.mov (.s 10))⟩,
   ⟨(some 66), some undefA, (some (64, false)), false, .pu (.bin .neq (.s 65) (.c (.int .i64 0)))⟩,
   ⟨(some 67), some undefA, none, false, .pu (.pick (.s 64) (.c (.bool true)) (.s 66))⟩])
 (.cond (.s 67) (.seq (.ops [⟨(some 2), some undefA, none, false, .pu (.mov (.c (.bool false)))⟩])
  (.ret))
 (.skip)))
 (.seq (.ops [⟨(some 68), some undefA, none, false, .pu (.badr none 1)⟩,
   ⟨(some 69), some undefA, none, false, .pu (.bget (some 68) 1 0 1 false)⟩,
   ⟨(some 70), some undefA, none, false, .pu (.mov (.s 3))⟩,
   ⟨(some 71), some undefA, none, false, .call 22 [(.s 69), (.s 70)]⟩,
   ⟨(some 72), some undefA, none, false, .pu (.mov (.s 71))⟩,
   ⟨(some 73), some undefA, (some (72, true)), false, .pu (.badr none 1)⟩,
   ⟨(some 74), some undefA, (some (72, true)), false, .pu (.bget (some 73) 1 0 1 false)⟩,
   ⟨(some 75), some undefA, (some (72, true)), false, .pu (.mov (.s 5))⟩,
   ⟨(some 76), some undefA, (some (72, true)), false, .call 22 [(.s 74), (.s 75)]⟩,
   ⟨(some 77), some undefA, none, false, .pu (.pick (.s 72) (.s 76) (.c (.bool false)))⟩,
   ⟨(some 78), some undefA, none, false, .pu (.mov (.s 77))⟩,
   ⟨(some 79), some undefA, (some (78, true)), false, .pu (.badr none 1)⟩,
   ⟨(some 80), some undefA, (some (78, true)), false, .pu (.bget (some 79) 1 0 1 false)⟩,
   ⟨(some 81), some undefA, (some (78, true)), false, .pu (.mov (.s 7))⟩,
   ⟨(some 82), some undefA, (some (78, true)), false, .call 22 [(.s 80), (.s 81)]⟩,
   ⟨(some 83), some undefA, none, false, .pu (.pick (.s 78) (.s 82) (.c (.bool false)))⟩,
   ⟨(some 84), some undefA, none, false, .pu (.mov (.s 83))⟩,
   ⟨(some 85), some undefA, (some (84, true)), false, .pu (.badr none 1)⟩,
   ⟨(some 86), some undefA, (some (84, true)), false, .pu (.bget (some 85) 1 0 1 false)⟩,
   ⟨(some 87), some undefA, (some (84, true)), false, .pu (.mov (.s 9))⟩,
   ⟨(some 88), some undefA, (some (84, true)), false, .call 22 [(.s 86), (.s 87)]⟩,
   ⟨(some 89), some undefA, none, false, .pu (.pick (.s 84) (.s 88) (.c (.bool false)))⟩,
   ⟨(some 90), some undefA, none, false, .pu (.mov (.s 89))⟩,
   ⟨(some 91), some undefA, (some (90, true)), false, .call 17 []⟩,
   ⟨(some 92), some undefA, none, false, .pu (.pick (.s 90) (.s 91) (.c (.bool false)))⟩,
   ⟨(some 2), some undefA, none, false, .pu (.mov (.s 92))⟩])
 (.ret))))))))⟩
/-- selion/selionlaw03.ClaimPays [] -/
def m4 : MFun := ⟨58, [], [.mov (.s 6)],
 .seq (.ops [⟨(some 6), some undefA, none, false, .pu (.mov (.c (.bool false)))⟩])
 (.seq (.seq (.ops [⟨(some 11), some undefA, none, false, .pu (.mov (.s 0))⟩,
   ⟨(some 12), some undefA, none, false, .call 23 [(.s 11)]⟩,
   ⟨(some 13), some undefA, none, false, .pu (.mov (.s 12))⟩,
   ⟨(some 14), some undefA, (some (13, false)), false, .pu (.mov (.s 1))⟩,
   ⟨(some 15), some undefA, (some (13, false)), false, .call 23 [(.s 14)]⟩,
   ⟨(some 16), some undefA, none, false, .pu (.pick (.s 13) (.c (.bool true)) (.s 15))⟩])
 (.cond (.s 16) (.seq (.ops [⟨(some 17), some undefA, none, false, .call 17 []⟩,
    ⟨(some 6), some undefA, none, false, .pu (.mov (.s 17))⟩])
  (.ret))
 (.skip)))
 (.seq (.ops [⟨(some 19), some undefA, none, false, .pu (.mov (.s 0))⟩,
   ⟨(some 20), some undefA, none, false, .pu (.mov (.s 1))⟩,
   ⟨(some 21), some undefA, none, false, .pu (.mov (.s 2))⟩,
   ⟨(some 22), some undefA, none, false, .call 24 [(.s 19), (.s 20), (.s 21)]⟩,
   ⟨(some 18), some undefA, none, false, .pu (.mov (.s 22))⟩,
   ⟨(some 23), some undefA, none, false, .pu (.extr 0 (.s 18))⟩,
   ⟨(some 24), some undefA, none, false, .pu (.extr 1 (.s 18))⟩,
   ⟨(some 7), some undefA, none, false, .pu (.mov (.s 23))⟩,
   ⟨(some 8), some undefA, none, false, .pu (.mov (.s 24))⟩])
 (.seq (.ops [⟨(some 26), some undefA, none, false, .pu (.mov (.s 0))⟩,
   ⟨(some 27), some undefA, none, false, .pu (.mov (.s 1))⟩,
   ⟨(some 28), some undefA, none, false, .pu (.mov (.s 2))⟩,
   ⟨(some 29), some undefA, none, false, .call 25 [(.s 26), (.s 27), (.s 28)]⟩,
   ⟨(some 25), some undefA, none, false, .pu (.mov (.s 29))⟩,
   ⟨(some 30), some undefA, none, false, .pu (.extr 0 (.s 25))⟩,
   ⟨(some 31), some undefA, none, false, .pu (.extr 1 (.s 25))⟩,
   ⟨(some 9), some undefA, none, false, .pu (.mov (.s 30))⟩,
   ⟨(some 10), some undefA, none, false, .pu (.mov (.s 31))⟩])
 (.seq (.seq (.ops [⟨(some 32), some undefA, none, false, .pu (.mov (.s 7))⟩,
   ⟨(some 33), some undefA, none, false, .pu (.mov (.s 9))⟩,
   ⟨(some 34), some undefA, none, false, .call 26 [(.s 32), (.s 33)]⟩,
   ⟨(some 35), some undefA, none, false, .pu (.not (.s 34))⟩,
   ⟨(some 36), some undefA, none, false, .pu (.mov (.s 35))⟩,
   ⟨(some 37), some undefA, (some (36, false)), false, .pu (.mov (.s 8))⟩,
   ⟨(some 38), some undefA, (some (36, false)), false, .pu (.mov (.s 10))⟩,
   ⟨(some 39), some undefA, (some (36, false)), false, .pu (.bin .neq (.s 37) (.s 38))⟩,
   ⟨(some 40), some undefA, none, false, .pu (.pick (.s 36) (.c (.bool true)) (.s 39))⟩])
 (.cond (.s 40) (.seq (.ops [⟨(some 6), some undefA, none, false, .pu (.mov (.c (.bool false)))⟩])
  (.ret))
 (.skip)))
 (.seq (.ops [⟨(some 41), some undefA, none, false, .pu (.mov (.s 8))⟩,
   ⟨(some 42), some undefA, none, false, .pu (.bin .neq (.s 41) (.c (.int .i64 0)))⟩,
   ⟨(some 43), some undefA, none, false, .pu (.mov (.s 42))⟩,
   ⟨(some 44), some undefA, (some (43, false)), false, .pu (.mov (.s 7))⟩,
   ⟨(some 45), some undefA, (some (43, false)), false, .call 27 [(.s 44)]⟩,
   ⟨(some 46), some undefA, (some (43, false)), false, .pu (.mov (.s 0))⟩,
   ⟨(some 47), some undefA, (some (43, false)), false, .call 27 [(.s 46)]⟩,
   ⟨(some 48), some undefA, (some (43, false)), false, .pu (.mov (.s 1))⟩,
   ⟨(some 49), some undefA, (some (43, false)), false, .call 27 [(.s 48)]⟩,
   ⟨(some 50), some undefA, (some (43, false)), false, .pu (.bin .sub (.s 47) (.s 49))⟩,
   ⟨(some 51), some undefA, (some (43, false)), false, .pu (.mov (.s 2))⟩,
   ⟨(some 52), some undefA, (some (43, false)), false, .pu (.bin .mul (.s 50) (.s 51))⟩,
   ⟨(some 53), some undefA, (some (43, false)), false, .pu (.bin .eql (.s 45) (.s 52))⟩,
   ⟨(some 54), some undefA, none, false, .pu (.pick (.s 43) (.c (.bool true)) (.s 53))⟩,
   ⟨(some 55), some undefA, none, false, .pu (.mov (.s 54))⟩,
   ⟨(some 56), some undefA, (some (55, true)), false, .call 17 []⟩,
   ⟨(some 57), some undefA, none, false, .pu (.pick (.s 55) (.s 56) (.c (.bool false)))⟩,
   ⟨(some 6), some undefA, none, false, .pu (.mov (.s 57))⟩])
 (.ret))))))⟩
/-- selion/selionlaw03.ClaimCourts [] -/
def m7 : MFun := ⟨47, [1], [.mov (.s 2)],
 .seq (.ops [⟨(some 1), some (.junk), none, false, .pu (.bnew (.s 0))⟩,
   ⟨(some 2), some undefA, none, false, .pu (.mov (.c (.bool false)))⟩])
 (.seq (.seq (.ops [⟨(some 7), some undefA, none, false, .pu (.bget none 1 0 2 true)⟩,
   ⟨(some 8), some undefA, none, false, .call 15 [(.s 7)]⟩])
 (.cond (.s 8) (.seq (.ops [⟨(some 9), some undefA, none, false, .call 17 []⟩,
    ⟨(some 2), some undefA, none, false, .pu (.mov (.s 9))⟩])
  (.ret))
 (.skip)))
 (.seq (.ops [⟨(some 11), some undefA, none, false, .pu (.badr none 1)⟩,
   ⟨(some 12), some undefA, none, false, .pu (.bget (some 11) 1 0 1 false)⟩,
   ⟨(some 13), some undefA, none, false, .pu (.badr none 1)⟩,
   ⟨(some 14), some undefA, none, false, .pu (.bget (some 13) 1 1 1 false)⟩,
   ⟨(some 15), some undefA, none, false, .call 21 [(.s 12), (.s 14)]⟩,
   ⟨(some 10), some undefA, none, false, .pu (.mov (.s 15))⟩,
   ⟨(some 16), some undefA, none, false, .pu (.extr 0 (.s 10))⟩,
   ⟨(some 17), some undefA, none, false, .pu (.extr 1 (.s 10))⟩,
   ⟨(some 3), some undefA, none, false, .pu (.mov (.s 16))⟩,
   ⟨(some 4), some undefA, none, false, .pu (.mov (.s 17))⟩])
 (.seq (.ops [⟨(some 19), some undefA, none, false, .pu (.badr none 1)⟩,
   ⟨(some 20), some undefA, none, false, .pu (.bget (some 19) 1 0 1 false)⟩,
   ⟨(some 21), some undefA, none, false, .pu (.badr none 1)⟩,
   ⟨(some 22), some undefA, none, false, .pu (.bget (some 21) 1 1 1 false)⟩,
   ⟨(some 23), some undefA, none, false, .call 35 [(.s 20), (.s 22)]⟩,
   ⟨(some 18), some undefA, none, false, .pu (.mov (.s 23))⟩,
   ⟨(some 24), some undefA, none, false, .pu (.extr 0 (.s 18))⟩,
   ⟨(some 25), some undefA, none, false, .pu (.extr 1 (.s 18))⟩,
   ⟨(some 5), some undefA, none, false, .pu (.mov (.s 24))⟩,
   ⟨(some 6), some undefA, none, false, .pu (.mov (.s 25))⟩])
 (.seq (.ops [⟨(some 26), some undefA, none, false, .pu (.mov (.s 3))⟩,
   ⟨(some 27), some undefA, none, false, .pu (.mov (.s 5))⟩,
   ⟨(some 28), some undefA, none, false, .call 30 [(.s 26), (.s 27)]⟩,
   ⟨(some 29), some undefA, none, false, .pu (.mov (.s 28))⟩,
   ⟨(some 30), some undefA, (some (29, true)), false, .pu (.mov (.s 4))⟩,
   ⟨(some 31), some undefA, (some (29, true)), false, .pu (.mov (.s 6))⟩,
   ⟨(some 32), some undefA, (some (29, true)), false, .pu (.bin .eql (.s 30) (.s 31))⟩,
   ⟨(some 33), some undefA, none, false, .pu (.pick (.s 29) (.s 32) (.c (.bool false)))⟩,
   ⟨(some 34), some undefA, none, false, .pu (.mov (.s 33))⟩,
   ⟨(some 35), some undefA, (some (34, true)), false, .pu (.badr none 1)⟩,
   ⟨(some 36), some undefA, (some (34, true)), false, .pu (.bget (some 35) 1 0 1 false)⟩,
   ⟨(some 37), some undefA, (some (34, true)), false, .pu (.badr none 1)⟩,
   ⟨(some 38), some undefA, (some (34, true)), false, .pu (.bget (some 37) 1 1 1 false)⟩,
   ⟨(some 39), some undefA, (some (34, true)), false, .pu (.mov (.s 3))⟩,
   ⟨(some 40), some undefA, (some (34, true)), false, .call 36 [(.s 36), (.s 38), (.s 39)]⟩,
   ⟨(some 41), some undefA, (some (34, true)), false, .pu (.mov (.s 4))⟩,
   ⟨(some 42), some undefA, (some (34, true)), false, .pu (.bin .eql (.s 40) (.s 41))⟩,
   ⟨(some 43), some undefA, none, false, .pu (.pick (.s 34) (.s 42) (.c (.bool false)))⟩,
   ⟨(some 44), some undefA, none, false, .pu (.mov (.s 43))⟩,
   ⟨(some 45), some undefA, (some (44, true)), false, .call 17 []⟩,
   ⟨(some 46), some undefA, none, false, .pu (.pick (.s 44) (.s 45) (.c (.bool false)))⟩,
   ⟨(some 2), some undefA, none, false, .pu (.mov (.s 46))⟩])
 (.ret)))))⟩
theorem t7 : trF Try.prog [1] [] Try.f7 = some m7 := by kernel_rfl
/-- selion/selionlaw03.ClaimParts [] -/
def m8 : MFun := ⟨60, [1], [.mov (.s 2)],
 .seq (.ops [⟨(some 1), some (.junk), none, false, .pu (.bnew (.s 0))⟩,
   ⟨(some 2), some undefA, none, false, .pu (.mov (.c (.bool false)))⟩])
 (.seq (.seq (.ops [⟨(some 7), some undefA, none, false, .pu (.bget none 1 0 2 true)⟩,
   ⟨(some 8), some undefA, none, false, .call 15 [(.s 7)]⟩])
 (.cond (.s 8) (.seq (.ops [⟨(some 9), some undefA, none, false, .call 17 []⟩,
    ⟨(some 2), some undefA, none, false, .pu (.mov (.s 9))⟩])
  (.ret))
 (.skip)))
 (.seq (.ops [⟨(some 11), some undefA, none, false, .pu (.badr none 1)⟩,
   ⟨(some 12), some undefA, none, false, .pu (.bget (some 11) 1 0 1 false)⟩,
   ⟨(some 13), some undefA, none, false, .pu (.badr none 1)⟩,
   ⟨(some 14), some undefA, none, false, .pu (.bget (some 13) 1 1 1 false)⟩,
   ⟨(some 15), some undefA, none, false, .call 18 [(.s 12), (.s 14)]⟩,
   ⟨(some 10), some undefA, none, false, .pu (.mov (.s 15))⟩,
   ⟨(some 16), some undefA, none, false, .pu (.extr 0 (.s 10))⟩,
   ⟨(some 17), some undefA, none, false, .pu (.extr 1 (.s 10))⟩,
   ⟨(some 3), some undefA, none, false, .pu (.mov (.s 16))⟩,
   ⟨(some 4), some undefA, none, false, .pu (.mov (.s 17))⟩])
 (.seq (.ops [⟨(some 19), some undefA, none, false, .pu (.badr none 1)⟩,
   ⟨(some 20), some undefA, none, false, .pu (.bget (some 19) 1 0 1 false)⟩,
   ⟨(some 21), some undefA, none, false, .pu (.badr none 1)⟩,
   ⟨(some 22), some undefA, none, false, .pu (.bget (some 21) 1 1 1 false)⟩,
   ⟨(some 23), some undefA, none, false, .call 37 [(.s 20), (.s 22)]⟩,
   ⟨(some 18), some undefA, none, false, .pu (.mov (.s 23))⟩,
   ⟨(some 24), some undefA, none, false, .pu (.extr 0 (.s 18))⟩,
   ⟨(some 25), some undefA, none, false, .pu (.extr 1 (.s 18))⟩,
   ⟨(some 5), some undefA, none, false, .pu (.mov (.s 24))⟩,
   ⟨(some 6), some undefA, none, false, .pu (.mov (.s 25))⟩])
 (.seq (.ops [⟨(some 26), some undefA, none, false, .pu (.badr none 1)⟩,
   ⟨(some 27), some undefA, none, false, .pu (.bget (some 26) 1 0 1 false)⟩,
   ⟨(some 28), some undefA, none, false, .pu (.badr none 1)⟩,
   ⟨(some 29), some undefA, none, false, .pu (.bget (some 28) 1 1 1 false)⟩,
   ⟨(some 30), some undefA, none, false, .call 16 [(.s 27), (.s 29)]⟩,
   ⟨(some 31), some undefA, none, false, .pu (.badr none 1)⟩,
   ⟨(some 32), some undefA, none, false, .pu (.bget (some 31) 1 0 1 false)⟩,
   ⟨(some 33), some undefA, none, false, .pu (.badr none 1)⟩,
   ⟨(some 34), some undefA, none, false, .pu (.bget (some 33) 1 1 1 false)⟩,
   ⟨(some 35), some undefA, none, false, .call 38 [(.s 32), (.s 34)]⟩,
   ⟨(some 36), some undefA, none, false, .pu (.bin .eql (.s 30) (.s 35))⟩,
   ⟨(some 37), some undefA, none, false, .pu (.mov (.s 36))⟩,
   ⟨(some 38), some undefA, (some (37, true)), false, .pu (.mov (.s 3))⟩,
   ⟨(some 39), some undefA, (some (37, true)), false, .pu (.mov (.s 5))⟩,
   ⟨(some 40), some undefA, (some (37, true)), false, .call 30 [(.s 38), (.s 39)]⟩,
   ⟨(some 41), some undefA, none, false, .pu (.pick (.s 37) (.s 40) (.c (.bool false)))⟩,
   ⟨(some 42), some undefA, none, false, .pu (.mov (.s 41))⟩,
   ⟨(some 43), some undefA, (some (42, true)), false, .pu (.mov (.s 4))⟩,
   ⟨(some 44), some undefA, (some (42, true)), false, .pu (.mov (.s 6))⟩,
   ⟨(some 45), some undefA, (some (42, true)), false, .pu (.bin .eql (.s 43) (.s 44))⟩,
   ⟨(some 46), some undefA, none, false, .pu (.pick (.s 42) (.s 45) (.c (.bool false)))⟩,
   ⟨(some 47), some undefA, none, false, .pu (.mov (.s 46))⟩,
   ⟨(some 48), some undefA, (some (47, true)), false, .pu (.badr none 1)⟩,
   ⟨(some 49), some undefA, (some (47, true)), false, .pu (.bget (some 48) 1 0 1 false)⟩,
   ⟨(some 50), some undefA, (some (47, true)), false, .pu (.badr none 1)⟩,
   ⟨(some 51), some undefA, (some (47, true)), false, .pu (.bget (some 50) 1 1 1 false)⟩,
   ⟨(some 52), some undefA, (some (47, true)), false, .pu (.mov (.s 3))⟩,
   ⟨(some 53), some undefA, (some (47, true)), false, .call 36 [(.s 49), (.s 51), (.s 52)]⟩,
   ⟨(some 54), some undefA, (some (47, true)), false, .pu (.mov (.s 4))⟩,
   ⟨(some 55), some undefA, (some (47, true)), false, .pu (.bin .eql (.s 53) (.s 54))⟩,
   ⟨(some 56), some undefA, none, false, .pu (.pick (.s 47) (.s 55) (.c (.bool false)))⟩,
   ⟨(some 57), some undefA, none, false, .pu (.mov (.s 56))⟩,
   ⟨(some 58), some undefA, (some (57, true)), false, .call 17 []⟩,
   ⟨(some 59), some undefA, none, false, .pu (.pick (.s 57) (.s 58) (.c (.bool false)))⟩,
   ⟨(some 2), some undefA, none, false, .pu (.mov (.s 59))⟩])
 (.ret)))))⟩
theorem t8 : trF Try.prog [1] [] Try.f8 = some m8 := by kernel_rfl
/-- selion/selionlaw03.ClaimEquals [] -/
def m9 : MFun := ⟨41, [], [.mov (.s 4)],
 .seq (.ops [⟨(some 4), some undefA, none, false, .pu (.mov (.c (.bool false)))⟩])
 (.seq (.seq (.ops [⟨(some 9), some undefA, none, false, .pu (.mov (.s 0))⟩,
   ⟨(some 10), some undefA, none, false, .pu (.len (.s 9))⟩,
   ⟨(some 11), some undefA, none, false, .pu (.bin .gtr (.s 10) (.c (.int .i64 40)))⟩,
   ⟨(some 12), some undefA, none, false, .pu (.mov (.s 11))⟩,
   ⟨(some 13), some undefA, (some (12, false)), false, .pu (.mov (.s 1))⟩,
   ⟨(some 14), some undefA, (some (12, false)), false, .pu (.len (.s 13))⟩,
   ⟨(some 15), some undefA, (some (12, false)), false, .pu (.bin .gtr (.s 14) (.c (.int .i64 40)))⟩,
   ⟨(some 16), some undefA, none, false, .pu (.pick (.s 12) (.c (.bool true)) (.s 15))⟩])
 (.cond (.s 16) (.seq (.ops [⟨(some 17), some undefA, none, false, .call 17 []⟩,
    ⟨(some 4), some undefA, none, false, .pu (.mov (.s 17))⟩])
  (.ret))
 (.skip)))
 (.seq (.ops [⟨(some 19), some undefA, none, false, .pu (.mov (.s 0))⟩,
   ⟨(some 20), some undefA, none, false, .pu (.mov (.s 1))⟩,
   ⟨(some 21), some undefA, none, false, .call 39 [(.s 19), (.s 20)]⟩,
   ⟨(some 18), some undefA, none, false, .pu (.mov (.s 21))⟩,
   ⟨(some 22), some undefA, none, false, .pu (.extr 0 (.s 18))⟩,
   ⟨(some 23), some undefA, none, false, .pu (.extr 1 (.s 18))⟩,
   ⟨(some 5), some undefA, none, false, .pu (.mov (.s 22))⟩,
   ⟨(some 6), some undefA, none, false, .pu (.mov (.s 23))⟩])
 (.seq (.ops [⟨(some 25), some undefA, none, false, .pu (.mov (.s 0))⟩,
   ⟨(some 26), some undefA, none, false, .pu (.mov (.s 1))⟩,
   ⟨(some 27), some undefA, none, false, .call 40 [(.s 25), (.s 26)]⟩,
   ⟨(some 24), some undefA, none, false, .pu (.mov (.s 27))⟩,
   ⟨(some 28), some undefA, none, false, .pu (.extr 0 (.s 24))⟩,
   ⟨(some 29), some undefA, none, false, .pu (.extr 1 (.s 24))⟩,
   ⟨(some 7), some undefA, none, false, .pu (.mov (.s 28))⟩,
   ⟨(some 8), some undefA, none, false, .pu (.mov (.s 29))⟩])
 (.seq (.ops [⟨(some 30), some undefA, none, false, .pu (.mov (.s 5))⟩,
   ⟨(some 31), some undefA, none, false, .pu (.mov (.s 7))⟩,
   ⟨(some 32), some undefA, none, false, .pu (.eqb false (.s 30) (.s 31))⟩,
   ⟨(some 33), some undefA, none, false, .pu (.mov (.s 32))⟩,
   ⟨(some 34), some undefA, (some (33, true)), false, .pu (.mov (.s 6))⟩,
   ⟨(some 35), some undefA, (some (33, true)), false, .pu (.mov (.s 8))⟩,
   ⟨(some 36), some undefA, (some (33, true)), false, .pu (.bin .eql (.s 34) (.s 35))⟩,
   ⟨(some 37), some undefA, none, false, .pu (.pick (.s 33) (.s 36) (.c (.bool false)))⟩,
   ⟨(some 38), some undefA, none, false, .pu (.mov (.s 37))⟩,
   ⟨(some 39), some undefA, (some (38, true)), false, .call 17 []⟩,
   ⟨(some 40), some undefA, none, false, .pu (.pick (.s 38) (.s 39) (.c (.bool false)))⟩,
   ⟨(some 4), some undefA, none, false, .pu (.mov (.s 40))⟩])
 (.ret)))))⟩
theorem t9 : trF Try.prog [] [] Try.f9 = some m9 := by kernel_rfl
/-- selion/selionlaw03.ClaimLeaves [loop [2, 3, 13]] -/
def m14 : MFun := ⟨156, [3, 8, 11, 17], [.mov (.s 6)],
 .seq (.ops [⟨(some 3), some (.junk), none, false, .pu (.bnew (.s 0))⟩,
   ⟨(some 6), some undefA, none, false, .pu (.mov (.c (.bool false)))⟩])
 (.seq (.seq (.ops [⟨(some 21), some undefA, none, false, .pu (.bget none 3 0 2 true)⟩,
   ⟨(some 22), some undefA, none, false, .call 15 [(.s 21)]⟩,
   ⟨(some 23), some undefA, none, false, .pu (.mov (.s 22))⟩,
   ⟨(some 24), some undefA, (some (23, false)), false, .pu (.mov (.s 1))⟩,
   ⟨(some 25), some undefA, (some (23, false)), false, .pu (.len (.s 24))⟩,
   ⟨(some 26), some undefA, (some (23, false)), false, .pu (.bin .gtr (.s 25) (.c (.int .i64 40)))⟩,
   ⟨(some 27), some undefA, none, false, .pu (.pick (.s 23) (.c (.bool true)) (.s 26))⟩])
 (.cond (.s 27) (.seq (.ops [⟨(some 28), some undefA, none, false, .call 17 []⟩,
    ⟨(some 6), some undefA, none, false, .pu (.mov (.s 28))⟩])
  (.ret))
 (.skip)))
 (.seq (.ops [⟨(some 30), some undefA, none, false, .pu (.badr none 3)⟩,
   ⟨(some 31), some undefA, none, false, .pu (.bget (some 30) 3 0 1 false)⟩,
   ⟨(some 32), some undefA, none, false, .pu (.badr none 3)⟩,
   ⟨(some 33), some undefA, none, false, .pu (.bget (some 32) 3 1 1 false)⟩,
   ⟨(some 34), some undefA, none, false, .pu (.mov (.s 1))⟩,
   ⟨(some 35), some undefA, none, false, .pu (.mov (.s 2))⟩,
   ⟨(some 36), some undefA, none, false, .call 50 [(.s 31), (.s 33), (.s 34), (.s 35)]⟩,
   ⟨(some 29), some undefA, none, false, .pu (.mov (.s 36))⟩,
   ⟨(some 37), some undefA, none, false, .pu (.extr 0 (.s 29))⟩,
   ⟨(some 38), some undefA, none, false, .pu (.extr 1 (.s 29))⟩,
   ⟨(some 39), some undefA, none, false, .pu (.extr 2 (.s 29))⟩,
   ⟨(some 8), some (.junk), none, false, .pu (.bnew (.c (.agg [.int .i64 0, .int .i64 0])))⟩,
   ⟨(some 7), some undefA, none, false, .pu (.mov (.s 37))⟩,
   ⟨(some 8), none, none, false, .pu (.bset none 8 0 2 (.s 38))⟩,
   ⟨(some 9), some undefA, none, false, .pu (.mov (.s 39))⟩])
 (.seq (.ops [⟨(some 41), some undefA, none, false, .pu (.badr none 3)⟩,
   ⟨(some 42), some undefA, none, false, .pu (.bget (some 41) 3 0 1 false)⟩,
   ⟨(some 43), some undefA, none, false, .pu (.badr none 3)⟩,
   ⟨(some 44), some undefA, none, false, .pu (.bget (some 43) 3 1 1 false)⟩,
   ⟨(some 45), some undefA, none, false, .pu (.mov (.s 1))⟩,
   ⟨(some 46), some undefA, none, false, .pu (.mov (.s 2))⟩,
   ⟨(some 47), some undefA, none, false, .call 51 [(.s 42), (.s 44), (.s 45), (.s 46)]⟩,
   ⟨(some 40), some undefA, none, false, .pu (.mov (.s 47))⟩,
   ⟨(some 48), some undefA, none, false, .pu (.extr 0 (.s 40))⟩,
   ⟨(some 49), some undefA, none, false, .pu (.extr 1 (.s 40))⟩,
   ⟨(some 50), some undefA, none, false, .pu (.extr 2 (.s 40))⟩,
   ⟨(some 11), some (.junk), none, false, .pu (.bnew (.c (.agg [.int .i64 0, .int .i64 0])))⟩,
   ⟨(some 10), some undefA, none, false, .pu (.mov (.s 48))⟩,
   ⟨(some 11), none, none, false, .pu (.bset none 11 0 2 (.s 49))⟩,
   ⟨(some 12), some undefA, none, false, .pu (.mov (.s 50))⟩])
 (.seq (.seq (.ops [⟨(some 51), some undefA, none, false, .pu (.mov (.s 7))⟩,
   ⟨(some 52), some undefA, none, false, .pu (.mov (.s 10))⟩,
   ⟨(some 53), some undefA, none, false, .call 26 [(.s 51), (.s 52)]⟩,
   ⟨(some 54), some undefA, none, false, .pu (.not (.s 53))⟩,
   ⟨(some 55), some undefA, none, false, .pu (.mov (.s 54))⟩,
   ⟨(some 56), some undefA, (some (55, false)), false, .pu (.bget none 8 0 2 true)⟩,
   ⟨(some 57), some undefA, (some (55, false)), false, .pu (.bget none 11 0 2 true)⟩,
   ⟨(some 58), some undefA, (some (55, false)), false, .pu (.eqs true [true, true] (.s 56) (.s 57))⟩,
   ⟨(some 59), some undefA, none, false, .pu (.pick (.s 55) (.c (.bool true)) (.s 58))⟩,
   ⟨(some 60), some undefA, none, false, .pu (.mov (.s 59))⟩,
   ⟨(some 61), some undefA, (some (60, false)), false, .pu (.mov (.s 9))⟩,
   ⟨(some 62), some undefA, (some (60, false)), false, .pu (.mov (.s 12))⟩,
   ⟨(some 63), some undefA, (some (60, false)), false, .pu (.bin .neq (.s 61) (.s 62))⟩,
   ⟨(some 64), some undefA, none, false, .pu (.pick (.s 60) (.c (.bool true)) (.s 63))⟩])
 (.cond (.s 64) (.seq (.ops [⟨(some 6), some undefA, none, false, .pu (.mov (.c (.bool false)))⟩])
  (.ret))
 (.skip)))
 (.seq (.seq (.ops [⟨(some 65), some undefA, none, false, .pu (.badr none 3)⟩,
   ⟨(some 66), some undefA, none, false, .pu (.bget (some 65) 3 0 1 false)⟩,
   ⟨(some 67), some undefA, none, false, .pu (.badr none 3)⟩,
   ⟨(some 68), some undefA, none, false, .pu (.bget (some 67) 3 1 1 false)⟩,
   ⟨(some 69), some undefA, none, false, .call 16 [(.s 66), (.s 68)]⟩,
   ⟨(some 70), some undefA, none, false, .pu (.bin .neq (.s 69) (.c (.int .i64 0)))⟩,
   ⟨(some 71), some undefA, none, false, .pu (.mov (.s 70))⟩,
   ⟨(some 72), some undefA, (some (71, false)), false, .pu (.mov (.s 2))⟩,
   ⟨(some 73), some undefA, (some (71, false)), false, .pu (.bin .lss (.s 72) (.c (.int .i64 0)))⟩,
   ⟨(some 74), some undefA, none, false, .pu (.pick (.s 71) (.c (.bool true)) (.s 73))⟩,
   ⟨(some 75), some undefA, none, false, .pu (.mov (.s 74))⟩,
   ⟨(some 76), some undefA, (some (75, false)), false, .pu (.mov (.s 2))⟩,
   ⟨(some 77), some undefA, (some (75, false)), false, .pu (.badr none 3)⟩,
   ⟨(some 78), some undefA, (some (75, false)), false, .pu (.bget (some 77) 3 0 1 false)⟩,
   ⟨(some 79), some undefA, (some (75, false)), false, .pu (.len (.s 78))⟩,
   ⟨(some 80), some undefA, (some (75, false)), false, .pu (.bin .geq (.s 76) (.s 79))⟩,
   ⟨(some 81), some undefA, none, false, .pu (.pick (.s 75) (.c (.bool true)) (.s 80))⟩,
   ⟨(some 82), some undefA, none, false, .pu (.mov (.s 81))⟩,
   ⟨(some 83), some undefA, (some (82, false)), false, .pu (.badr none 3)⟩,
   ⟨(some 84), some undefA, (some (82, false)), false, .pu (.bget (some 83) 3 0 1 false)⟩,
   ⟨(some 85), some undefA, (some (82, false)), false, .pu (.len (.s 84))⟩,
   ⟨(some 86), some undefA, (some (82, false)), false, .pu (.bin .lss (.s 85) (.c (.int .i64 2)))⟩,
   ⟨(some 87), some undefA, none, false, .pu (.pick (.s 82) (.c (.bool true)) (.s 86))⟩])
 (.cond (.s 87) (.seq (.ops [⟨(some 88), some undefA, none, false, .call 17 []⟩,
    ⟨(some 6), some undefA, none, false, .pu (.mov (.s 88))⟩])
  (.ret))
 (.skip)))
 (.seq (.seq (.ops [⟨(some 13), some undefA, none, false, .pu (.mov (.c (.int .i64 0)))⟩])
 (.block 0 (.loop (.seq (.seq (.ops [⟨(some 89), some undefA, none, false, .pu (.mov (.s 13))⟩,
     ⟨(some 90), some undefA, none, false, .pu (.bin .lss (.s 89) (.c (.int .i64 4)))⟩])
   (.cond (.s 90) (.skip)
   (.exit 0)))
   (.seq (.block 1 (.seq (.ops [⟨(some 94), some undefA, none, false, .pu (.mov (.s 13))⟩,
      ⟨(some 95), some undefA, none, false, .pu (.badr none 3)⟩,
      ⟨(some 96), some undefA, none, false, .pu (.bget (some 95) 3 0 1 false)⟩,
      ⟨(some 97), some undefA, none, false, .pu (.badr none 3)⟩,
      ⟨(some 98), some undefA, none, false, .pu (.bget (some 97) 3 1 1 false)⟩,
      ⟨(some 99), some undefA, none, false, .call 52 [(.s 94), (.s 96), (.s 98)]⟩,
      ⟨(some 93), some undefA, none, false, .pu (.mov (.s 99))⟩,
      ⟨(some 100), some undefA, none, false, .pu (.extr 0 (.s 93))⟩,
      ⟨(some 101), some undefA, none, false, .pu (.extr 1 (.s 93))⟩,
      ⟨(some 14), some undefA, none, false, .pu (.mov (.s 100))⟩,
      ⟨(some 15), some undefA, none, false, .pu (.mov (.s 101))⟩])
    (.seq (.ops [⟨(some 103), some undefA, none, false, .pu (.badr none 3)⟩,
      ⟨(some 104), some undefA, none, false, .pu (.bget (some 103) 3 0 1 false)⟩,
      ⟨(some 105), some undefA, none, false, .pu (.badr none 3)⟩,
      ⟨(some 106), some undefA, none, false, .pu (.bget (some 105) 3 1 1 false)⟩,
      ⟨(some 107), some undefA, none, false, .pu (.mov (.s 14))⟩,
      ⟨(some 108), some undefA, none, false, .pu (.mov (.s 2))⟩,
      ⟨(some 109), some undefA, none, false, .call 50 [(.s 104), (.s 106), (.s 107), (.s 108)]⟩,
      ⟨(some 102), some undefA, none, false, .pu (.mov (.s 109))⟩,
      ⟨(some 110), some undefA, none, false, .pu (.extr 0 (.s 102))⟩,
      ⟨(some 111), some undefA, none, false, .pu (.extr 1 (.s 102))⟩,
      ⟨(some 112), some undefA, none, false, .pu (.extr 2 (.s 102))⟩,
      ⟨(some 17), some (.junk), none, false, .pu (.bnew (.c (.agg [.int .i64 0, .int .i64 0])))⟩,
      ⟨(some 16), some undefA, none, false, .pu (.mov (.s 110))⟩,
      ⟨(some 17), none, none, false, .pu (.bset none 17 0 2 (.s 111))⟩,
      ⟨(some 18), some undefA, none, false, .pu (.mov (.s 112))⟩])
    (.seq (.seq (.ops [⟨(some 113), some undefA, none, false, .pu (.mov (.s 15))⟩,
      ⟨(some 114), some undefA, none, false, .pu (.bin .neq (.s 113) (.c (.int .i64 0)))⟩,
      ⟨(some 115), some undefA, none, false, .pu (.mov (.s 114))⟩,
      ⟨(some 116), some undefA, (some (115, false)), false, .pu (.mov (.s 18))⟩,
      ⟨(some 117), some undefA, (some (115, false)), false, .pu (.bin .neq (.s 116) (.c (.int .i64 0)))⟩,
      ⟨(some 118), some undefA, none, false, .pu (.pick (.s 115) (.c (.bool true)) (.s 117))⟩])
    (.cond (.s 118) (.seq (.ops [⟨(some 6), some undefA, none, false, .pu (.mov (.c (.bool false)))⟩])
     (.ret))
    (.skip)))
    (.seq (.seq (.ops [⟨(some 119), some undefA, none, false, .pu (.badr none 17)⟩,
      ⟨(some 120), some undefA, none, false, .pu (.bget (some 119) 17 1 1 false)⟩,
      ⟨(some 121), some undefA, none, false, .pu (.bin .neq (.s 120) (.c (.int .i64 1)))⟩])
    (.cond (.s 121) (.exit 1)
    (.skip)))
    (.seq (.ops [⟨(some 123), some undefA, none, false, .pu (.mov (.s 13))⟩,
      ⟨(some 124), some undefA, none, false, .pu (.mov (.s 16))⟩,
      ⟨(some 125), some undefA, none, false, .pu (.badr none 17)⟩,
      ⟨(some 126), some undefA, none, false, .pu (.bget (some 125) 17 0 1 false)⟩,
      ⟨(some 127), some undefA, none, false, .call 52 [(.s 123), (.s 124), (.s 126)]⟩,
      ⟨(some 122), some undefA, none, false, .pu (.mov (.s 127))⟩,
      ⟨(some 128), some undefA, none, false, .pu (.extr 0 (.s 122))⟩,
      ⟨(some 129), some undefA, none, false, .pu (.extr 1 (.s 122))⟩,
      ⟨(some 19), some undefA, none, false, .pu (.mov (.s 128))⟩,
      ⟨(some 20), some undefA, none, false, .pu (.mov (.s 129))⟩])
    (.seq (.ops [⟨(some 130), some undefA, none, false, .pu (.mov (.s 20))⟩,
      ⟨(some 131), some undefA, none, false, .pu (.bin .neq (.s 130) (.c (.int .i64 0)))⟩,
      ⟨(some 132), some undefA, none, false, .pu (.mov (.s 131))⟩,
      ⟨(some 133), some undefA, (some (132, false)), false, .pu (.mov (.s 14))⟩,
      ⟨(some 134), some undefA, (some (132, false)), false, .pu (.len (.s 133))⟩,
      ⟨(some 135), some undefA, (some (132, false)), false, .pu (.badr none 3)⟩,
      ⟨(some 136), some undefA, (some (132, false)), false, .pu (.bget (some 135) 3 0 1 false)⟩,
      ⟨(some 137), some undefA, (some (132, false)), false, .pu (.len (.s 136))⟩,
      ⟨(some 138), some undefA, (some (132, false)), false, .pu (.bin .neq (.s 134) (.s 137))⟩,
      ⟨(some 139), some undefA, none, false, .pu (.pick (.s 132) (.c (.bool true)) (.s 138))⟩,
      ⟨(some 140), some undefA, none, false, .pu (.mov (.s 139))⟩,
      ⟨(some 141), some undefA, (some (140, false)), false, .pu (.mov (.s 19))⟩,
      ⟨(some 142), some undefA, (some (140, false)), false, .ha (.blds 2 0 [.int .i64 0, .int .i64 0] [])⟩,
      ⟨(some 143), some undefA, (some (140, false)), false, .pu (.mov (.s 14))⟩,
      ⟨(some 144), some undefA, (some (140, false)), false, .pu (.mov (.s 2))⟩,
      ⟨(some 145), some undefA, (some (140, false)), false, .pu (.slc 2 (.s 143) none (some (.s 144)) none)⟩,
      ⟨(some 146), some undefA, (some (140, false)), false, .ha (.app 2 (.s 142) (.s 145))⟩,
      ⟨(some 147), some undefA, (some (140, false)), false, .pu (.mov (.s 14))⟩,
      ⟨(some 148), some undefA, (some (140, false)), false, .pu (.mov (.s 2))⟩,
      ⟨(some 149), some undefA, (some (140, false)), false, .pu (.bin .add (.s 148) (.c (.int .i64 1)))⟩,
      ⟨(some 150), some undefA, (some (140, false)), false, .pu (.slc 2 (.s 147) (some (.s 149)) none none)⟩,
      ⟨(some 151), some undefA, (some (140, false)), false, .ha (.app 2 (.s 146) (.s 150))⟩,
      ⟨(some 152), some undefA, (some (140, false)), false, .call 30 [(.s 141), (.s 151)]⟩,
      ⟨(some 153), some undefA, (some (140, false)), false, .pu (.not (.s 152))⟩,
      ⟨(some 154), some undefA, none, false, .pu (.pick (.s 140) (.c (.bool true)) (.s 153))⟩])
    (.cond (.s 154) (.seq (.ops [⟨(some 6), some undefA, none, false, .pu (.mov (.c (.bool false)))⟩])
     (.ret))
    (.skip)))))))))
   (.ops [⟨(some 91), some undefA, none, false, .pu (.mov (.s 13))⟩,
     ⟨(some 92), some undefA, none, false, .pu (.bin .add (.s 91) (.c (.int .i64 1)))⟩,
     ⟨(some 13), some undefA, none, false, .pu (.mov (.s 92))⟩]))))))
 (.seq (.ops [⟨(some 155), some undefA, none, false, .call 17 []⟩,
   ⟨(some 6), some undefA, none, false, .pu (.mov (.s 155))⟩])
 (.ret))))))))⟩
theorem t14 : trF Try.prog [3, 8, 11, 17] [] Try.f14 = some m14 := by kernel_rfl
end Go.Proofs.Ytdcdjhhjlpegjaa

namespace Go.Proofs.Ytdcdjhhjlpegjaa
open Go Go.Eng
theorem lc_dvd {a d : Int} : a ∣ a / (Int.gcd a d : Int) * d ∧ d ∣ a / (Int.gcd a d : Int) * d := by
  refine ⟨?_, Int.dvd_mul_left _ _⟩
  obtain ⟨k, hk⟩ := Int.gcd_dvd_right a d
  obtain ⟨m, hm⟩ := Int.gcd_dvd_left a d
  generalize hg : (Int.gcd a d : Int) = g at *
  by_cases h0 : g = 0
  · subst h0
    have h1 : a = 0 := by rw [hm, Int.zero_mul]
    have h2 : d = 0 := by rw [hk, Int.zero_mul]
    rw [h1, h2]; simp
  · have : a / g = m := by rw [hm, Int.mul_ediv_cancel_left _ h0]
    rw [this]
    exact ⟨k, by rw [hm, hk]; rw [Int.mul_comm g m, Int.mul_assoc]⟩
theorem lcm_facts {out d : Int} (h0 : 0 < out) (hd : 0 < d) : 0 < out / (Int.gcd out d : Int) * d ∧ out ∣ out / (Int.gcd out d : Int) * d ∧ d ∣ out / (Int.gcd out d : Int) * d ∧ ∀ D, out ∣ D → d ∣ D → out / (Int.gcd out d : Int) * d ∣ D := by
  obtain ⟨_, q2, _⟩ := gcd_div h0 hd
  obtain ⟨g1, g2⟩ := gcd_pos (a := out) hd
  refine ⟨Int.mul_pos q2 hd, ?_, Int.dvd_mul_left _ _, fun D h1 h2 => ?_⟩
  · obtain ⟨x, hx⟩ := Int.gcd_dvd_left out d
    obtain ⟨y, hy⟩ := Int.gcd_dvd_right out d
    generalize (Int.gcd out d : Nat) = g at *
    refine ⟨y, ?_⟩
    rw [hx, Int.mul_ediv_cancel_left _ (by omega)]
    rw [hy]
    rw [← Int.mul_assoc, Int.mul_comm x]
  · obtain ⟨z, hz⟩ := h1
    have hgd := Int.gcd_dvd_left out d
    have hl : out / (Int.gcd out d : Int) * d = (Int.lcm out d : Int) := by
      have e1 : (Int.gcd out d : Int) * (Int.lcm out d : Int) = (out * d) := by
        have := Int.gcd_mul_lcm out d
        have h3 : ((Int.gcd out d * Int.lcm out d : Nat) : Int) = ((out * d).natAbs : Int) := by rw [this, Int.natAbs_mul]
        rw [Int.natCast_mul] at h3
        rw [h3, Int.natAbs_of_nonneg (Int.le_of_lt (Int.mul_pos h0 hd))]
      obtain ⟨x, hx⟩ := hgd
      have hg0 : (Int.gcd out d : Int) ≠ 0 := by omega
      have e2 : out / (Int.gcd out d : Int) = x := by
        conv => lhs; lhs; rw [hx]
        exact Int.mul_ediv_cancel_left _ hg0
      rw [e2]
      have e3 : (Int.gcd out d : Int) * (Int.lcm out d : Int) = (Int.gcd out d : Int) * (x * d) := by
        rw [e1, ← Int.mul_assoc, ← hx]
      exact (Int.eq_of_mul_eq_mul_left hg0 e3).symm
    rw [hl]
    exact Int.coe_lcm_dvd ⟨z, hz⟩ h2
/-- The least common multiple divides every common multiple. -/
theorem lc_min {a d E : Int} (h0 : 0 < a) (ha : a ∣ E) (hd : d ∣ E) (hd0 : 0 < d) : a / (Int.gcd a d : Int) * d ∣ E := (lcm_facts h0 hd0).2.2.2 E ha hd
theorem cm_facts : ∀ (rs : List (Int × Int)) (a : Int), 1 ≤ a ∧ a ≤ 10000 → ¬ cm a rs = 0 → (∀ r ∈ rs, fitR r ∧ r.2 ∣ cm a rs) ∧ a ∣ cm a rs ∧ 1 ≤ cm a rs ∧ cm a rs ≤ 10000
  | [], a, ha, _ => ⟨by simp, Int.dvd_refl _, ha⟩
  | r :: rs, a, ha, h => by
    by_cases hf : fitR r
    · rw [cm_go hf] at h ⊢
      split at h
      · exact absurd rfl h
      · rename_i h6
        rw [if_neg h6]
        obtain ⟨q1, q2, q3, q4, q5, q6⟩ := lc_pos ha hf.1
        obtain ⟨k1, k2, k3⟩ := cm_facts rs (a / (Int.gcd a r.2 : Int) * r.2) ⟨q1, by omega⟩ h
        obtain ⟨d1, d2⟩ := lc_dvd (a := a) (d := r.2)
        refine ⟨fun x hx => ?_, Int.dvd_trans d1 k2, k3⟩
        rcases List.mem_cons.1 hx with rfl | hx
        · exact ⟨hf, Int.dvd_trans d2 k2⟩
        · exact k1 x hx
    · rw [cm_bad hf] at h
      exact absurd rfl h
/-- A list whose denominators divide a number that is not too great is fit. -/
theorem cm_ok {E : Int} (hE : 1 ≤ E ∧ E ≤ 10000) : ∀ (rs : List (Int × Int)) (a : Int), 1 ≤ a → a ∣ E → (∀ r ∈ rs, fitR r ∧ r.2 ∣ E) → ¬ cm a rs = 0 ∧ cm a rs ∣ E
  | [], a, ha, hd, _ => ⟨by show ¬ a = 0; omega, hd⟩
  | r :: rs, a, ha, hd, h => by
    obtain ⟨hf, hr⟩ := h r (by simp)
    have hr0 := hf.1
    have hl := lc_min (by omega) hd hr (by omega)
    have hle := Int.le_of_dvd (by omega) hl
    have haE := Int.le_of_dvd (by omega) hd
    obtain ⟨q1, q2, q3, q4, q5, q6⟩ := lc_pos (a := a) ⟨ha, by omega⟩ hf.1
    rw [cm_go hf, if_neg (by omega)]
    exact cm_ok hE rs _ q1 hl (fun x hx => h x (by simp [hx]))
/-- Some award is more than the claim. -/
def ovr (den : Int) (cs ls : List Int) : Bool := (cs.zip ls).any (fun z => decide (z.1 * den < z.2))
/-- The first error of awards. -/
def chE (cs : List Int) (e : Int) (rs : List (Int × Int)) : Int :=
  if vE cs e = 0 then (if ¬ cm 1 rs = 0 ∧ rs.length = cs.length then (if ovr (cm 1 rs) cs (ov (cm 1 rs) rs) = true then 8 else if (ov (cm 1 rs) rs).sum = e * cm 1 rs then 0 else 7) else 1) else vE cs e
theorem chE_v {cs : List Int} {e : Int} {rs : List (Int × Int)} (h : ¬ vE cs e = 0) : chE cs e rs = vE cs e := by unfold chE; rw [if_neg h]
theorem chE_1 {cs : List Int} {e : Int} {rs : List (Int × Int)} (h : vE cs e = 0) (h2 : ¬ (¬ cm 1 rs = 0 ∧ rs.length = cs.length)) : chE cs e rs = 1 := by unfold chE; rw [if_pos h, if_neg h2]
theorem chE_8 {cs : List Int} {e : Int} {rs : List (Int × Int)} (h : vE cs e = 0) (h2 : ¬ cm 1 rs = 0 ∧ rs.length = cs.length) (h3 : ovr (cm 1 rs) cs (ov (cm 1 rs) rs) = true) : chE cs e rs = 8 := by unfold chE; rw [if_pos h, if_pos h2, if_pos h3]
theorem chE_e {cs : List Int} {e : Int} {rs : List (Int × Int)} (h : vE cs e = 0) (h2 : ¬ cm 1 rs = 0 ∧ rs.length = cs.length) (h3 : ovr (cm 1 rs) cs (ov (cm 1 rs) rs) = false) : chE cs e rs = if (ov (cm 1 rs) rs).sum = e * cm 1 rs then 0 else 7 := by
  unfold chE; rw [if_pos h, if_pos h2, if_neg (by rw [h3]; decide)]
theorem chE_0 {cs : List Int} {e : Int} {rs : List (Int × Int)} : chE cs e rs = 0 ↔ CE cs e ∧ ¬ cm 1 rs = 0 ∧ rs.length = cs.length ∧ ovr (cm 1 rs) cs (ov (cm 1 rs) rs) = false ∧ (ov (cm 1 rs) rs).sum = e * cm 1 rs := by
  rw [← vE_0]
  constructor
  · intro h
    by_cases h0 : vE cs e = 0
    · by_cases h2 : ¬ cm 1 rs = 0 ∧ rs.length = cs.length
      · cases h3 : ovr (cm 1 rs) cs (ov (cm 1 rs) rs) with
        | true => rw [chE_8 h0 h2 h3] at h; cases h
        | false =>
          rw [chE_e h0 h2 h3] at h
          split at h
          · rename_i h4; exact ⟨h0, h2.1, h2.2, rfl, h4⟩
          · cases h
      · rw [chE_1 h0 h2] at h; cases h
    · rw [chE_v h0] at h; exact absurd h h0
  · rintro ⟨h0, h1, h2, h3, h4⟩
    rw [chE_e h0 ⟨h1, h2⟩ h3, if_pos h4]
theorem ovr_take {den : Int} {cs ls : List Int} {i : Nat} {c l : Int} (hc : cs[i]? = some c) (hl : ls[i]? = some l) : ((cs.zip ls).take (i + 1)).any (fun z => decide (z.1 * den < z.2)) = (((cs.zip ls).take i).any (fun z => decide (z.1 * den < z.2)) || decide (c * den < l)) := by
  rw [List.take_add_one]
  have : (cs.zip ls)[i]? = some (c, l) := by rw [List.getElem?_zip_eq_some]; exact ⟨hc, hl⟩
  rw [this, List.any_append]
  simp
theorem ovr_at {den : Int} {cs ls : List Int} {i : Nat} {c l : Int} (hc : cs[i]? = some c) (hl : ls[i]? = some l) (h : c * den < l) : ovr den cs ls = true := by
  unfold ovr
  rw [List.any_eq_true]
  have : (cs.zip ls)[i]? = some (c, l) := by rw [List.getElem?_zip_eq_some]; exact ⟨hc, hl⟩
  exact ⟨(c, l), List.mem_of_getElem? this, by simpa using h⟩
section
variable {cs : List Int} {rs : List (Int × Int)} {v u : AV} {A : AHeap} {e : Int}
theorem s36 (hx : L1 A v cs) (hr : L2 A u rs) (hl : cs.length ≤ 1000000) (hl2 : rs.length ≤ 1000000) : ACalls Try.prog 36 [v, I e, u] A (I (chE cs e rs)) A := by
  refine acalls hmix Try.func36 (by kernel_rfl) t36 3 rfl (by decide) ?_
  dsimp only [m36]
  simp (maxSteps := 4000000) -implicitDefEqProofs -dsimp (disch := omega) only [↓AW_ops, ↓AW_seq, ↓AOps_nil, ↓AOps_pu, ↓AOps_call, on_some, ↓then_normal, pval, rd_S, rd_C, put_S, List.replicate_succ, List.replicate_zero, List.set_cons_zero, List.set_cons_succ, List.getElem?_cons_zero, List.getElem?_cons_succ, Option.getD_some, map_c, map_n, Nat.reduceSub, List.cons_append, List.nil_append]
  refine CallK.of (s16 hx hl e) ?_
  by_cases h0 : vE cs e = 0
  case neg =>
    simp (maxSteps := 4000000) -implicitDefEqProofs -dsimp (disch := omega) only [↓AW_ops, ↓AW_seq, ↓AW_cond, ↓AW_ret, ↓AOps_nil, ↓AOps_pu, on_some, extK_same, condB_t, ↓then_normal, ↓then_ret, ↓Fin_ret, pval, rd_S, rd_C, put_S, resV, resL, List.replicate_succ, List.replicate_zero, List.set_cons_zero, List.set_cons_succ, List.getElem?_cons_zero, List.getElem?_cons_succ, Option.getD_some, Nat.reduceSub, List.cons_append, List.nil_append, bin_neq, decide_true, not_false_eq_true, h0]
    exact gc_same (by rw [chE_v h0])
  obtain ⟨hok, he0, he1⟩ := vE_0.1 h0
  have hs := hok.sum
  have hl8 := hok.l8
  simp (maxSteps := 4000000) -implicitDefEqProofs -dsimp (disch := omega) only [↓AW_skip, ↓AW_ops, ↓AW_seq, ↓AW_cond, ↓AOps_nil, ↓AOps_pu, ↓AOps_call, on_some, extK_same, condB_f, ↓then_normal, pval, rd_S, rd_C, put_S, eq_self, List.replicate_succ, List.replicate_zero, List.set_cons_zero, List.set_cons_succ, List.getElem?_cons_zero, List.getElem?_cons_succ, Option.getD_some, map_c, map_n, Nat.reduceSub, List.cons_append, List.nil_append, bin_neq, decide_false, not_true_eq_false, h0]
  refine CallK.of (c_common hr hl2) ?_
  by_cases h1 : cm 1 rs = 0
  · simp (maxSteps := 4000000) -implicitDefEqProofs -dsimp (disch := omega) only [↓AW_ops, ↓AW_seq, ↓AW_cond, ↓AW_ret, ↓AOps_nil, ↓AOps_pu, ↓AOps_guard, on_some, extK_same, guardB_tf, skipS_some, condB_t, ↓then_normal, ↓then_ret, ↓Fin_ret, pval, rd_S, rd_C, put_S, resV, resL, eq_self, List.replicate_succ, List.replicate_zero, List.set_cons_zero, List.set_cons_succ, List.getElem?_cons_zero, List.getElem?_cons_succ, Option.getD_some, Nat.reduceSub, List.cons_append, List.nil_append, if_true, Bool.not_true, Bool.not_false, decide_true, h1]
    exact gc_same (by rw [chE_1 h0 (fun hh => hh.1 h1)])
  by_cases h2 : rs.length = cs.length
  case neg =>
    have h2' : ¬ (rs.length : Int) = cs.length := by omega
    simp (maxSteps := 4000000) -implicitDefEqProofs -dsimp (disch := omega) only [↓AW_ops, ↓AW_seq, ↓AW_cond, ↓AW_ret, ↓AOps_nil, ↓AOps_pu, ↓AOps_guard, on_some, extK_same, guardB_ff, condB_t, ↓then_normal, ↓then_ret, ↓Fin_ret, pval, rd_S, rd_C, put_S, resV, resL, List.replicate_succ, List.replicate_zero, List.set_cons_zero, List.set_cons_succ, List.getElem?_cons_zero, List.getElem?_cons_succ, Option.getD_some, Nat.reduceSub, List.cons_append, List.nil_append, bin_neq, if_false, Bool.false_eq_true, Bool.not_true, Bool.not_false, decide_true, decide_false, not_false_eq_true, h1, hx.len, hr.len, h2']
    exact gc_same (by rw [chE_1 h0 (fun hh => h2 hh.2)])
  have h2' : (rs.length : Int) = cs.length := by omega
  obtain ⟨hf, _, hc1, hc2⟩ := cm_facts rs 1 (by omega) h1
  simp (maxSteps := 4000000) -implicitDefEqProofs -dsimp (disch := omega) only [↓AW_skip, ↓AW_ops, ↓AW_seq, ↓AW_cond, ↓AOps_nil, ↓AOps_pu, ↓AOps_call, ↓AOps_guard, on_some, extK_same, guardB_ff, condB_f, ↓then_normal, pval, rd_S, rd_C, put_S, eq_self, List.replicate_succ, List.replicate_zero, List.set_cons_zero, List.set_cons_succ, List.getElem?_cons_zero, List.getElem?_cons_succ, Option.getD_some, map_c, map_n, Nat.reduceSub, List.cons_append, List.nil_append, bin_neq, if_false, Bool.false_eq_true, Bool.not_true, Bool.not_false, decide_false, not_true_eq_false, h1, hx.len, hr.len, h2']
  generalize hden : cm 1 rs = den at *
  refine CallK.of (c_over hr hl2 (den := den) ⟨by omega, hc2⟩ (fun r hr => (hf r hr).1)) ?_
  have hp1 := pre_out A ((ov den rs).flatMap e1) (ov den rs).length
  have hq1 := Ls_out A e1_len (ov den rs)
  have hol := ov_len den rs
  have hob : ∀ x ∈ ov den rs, 0 ≤ x ∧ x ≤ 100000000000 := by
    intro x hx
    obtain ⟨r, hr, rfl⟩ := List.mem_map.1 hx
    exact (ov_bd ⟨by omega, hc2⟩ (hf r hr).1).2.2
  generalize outV 1 A (ov den rs).length = v1 at *
  generalize outH A ((ov den rs).flatMap e1) (ov den rs).length = A1 at *
  have hx1 := hx.mono hp1
  simp (maxSteps := 4000000) -implicitDefEqProofs -dsimp (disch := omega) only [↓AW_ops, ↓AW_seq, ↓AW_block, ↓AOps_nil, ↓AOps_pu, on_some, extK_false, ↓then_normal, pval, rd_S, rd_C, put_S, ↓AW_toLoop, List.replicate_succ, List.replicate_zero, List.set_cons_zero, List.set_cons_succ, List.getElem?_cons_zero, List.getElem?_cons_succ, Option.getD_some, Nat.reduceSub, List.cons_append, List.nil_append, hx.len]
  refine LoopK.by 58 (fun i : Nat => i ≤ cs.length ∧ ((cs.zip (ov den rs)).take i).any (fun z => decide (z.1 * den < z.2)) = false) (fun i => [(1, I e), (8, I den), (10, v1), (36, v), (37, I cs.length), (38, I i)]) (fun _ => A1) (fun i => cs.length - i) 0 ⟨by omega, rfl⟩ rfl (by simp [Has, rd_s]) rfl ?_
  rintro i ⟨hi, ha⟩
  by_cases hlt : i < cs.length
  · obtain ⟨z, hz⟩ : ∃ z, cs[i]? = some z := ⟨_, List.getElem?_eq_getElem hlt⟩
    have hlt' : (i : Int) < cs.length := by omega
    have hlt2 : i < (ov den rs).length := by omega
    obtain ⟨l, hl1⟩ : ∃ l, (ov den rs)[i]? = some l := ⟨_, List.getElem?_eq_getElem hlt2⟩
    have hzc := hok.c z (List.mem_of_getElem? hz)
    have m1 := Int.mul_le_mul hzc.2 hc2 (by omega) (by omega : (0 : Int) ≤ 1000)
    have m2 := Int.mul_nonneg hzc.1 (show 0 ≤ den by omega)
    by_cases h3 : z * den < l
    · simp (maxSteps := 4000000) -implicitDefEqProofs -dsimp (disch := omega) only [↓AW_skip, ↓AW_ops, ↓AW_seq, ↓AW_cond, ↓AW_block, ↓AW_ret, ↓AOps_nil, ↓AOps_pu, ↓AOps_ld, on_some, condB_t, ↓then_normal, ↓then_ret, ↓inBlock_ret, ↓Fin_ret, pval, lval, rd_S, rd_C, put_S, resV, resL, partA, eq_self, mk, List.foldl_cons, List.foldl_nil, List.replicate_succ, List.replicate_zero, List.set_cons_zero, List.set_cons_succ, List.getElem?_cons_zero, List.getElem?_cons_succ, List.drop_zero, List.take_succ_cons, List.take_nil, Option.getD_some, List.length_cons, List.length_nil, Nat.reduceLeDiff, Nat.zero_add, bin_mul, bin_lss, bin_gtr, w64, if_true, if_false, Bool.false_eq_true, decide_true, Go.Eng.e1, hlt', hx1.idx hlt, hx1.ld0 hz 1 false (by decide), hq1.idx hlt2, hq1.ld0 hl1 1 false (by decide), h3]
      exact gc_val hp1 (by rw [chE_8 h0 (by rw [hden]; exact ⟨h1, h2⟩) (by rw [hden]; exact ovr_at hz hl1 h3)]; rfl)
    · simp (maxSteps := 4000000) -implicitDefEqProofs -dsimp (disch := omega) only [↓AW_skip, ↓AW_ops, ↓AW_seq, ↓AW_cond, ↓AW_block, ↓AOps_nil, ↓AOps_pu, ↓AOps_ld, on_some, condB_t, condB_f, ↓then_normal, ↓inBlock_normal, pval, lval, rd_S, rd_C, put_S, partA, eq_self, mk, List.foldl_cons, List.foldl_nil, List.replicate_succ, List.replicate_zero, List.set_cons_zero, List.set_cons_succ, List.getElem?_cons_zero, List.getElem?_cons_succ, List.drop_zero, List.take_succ_cons, List.take_nil, Option.getD_some, List.length_cons, List.length_nil, Nat.reduceAdd, Nat.reduceLeDiff, Nat.zero_add, bin_add, bin_mul, bin_lss, bin_gtr, w64, if_true, if_false, Bool.false_eq_true, decide_true, decide_false, Go.Eng.e1, true_and, hlt', hx1.idx hlt, hx1.ld0 hz 1 false (by decide), hq1.idx hlt2, hq1.ld0 hl1 1 false (by decide), h3]
      exact ⟨i + 1, ⟨hlt, by rw [ovr_take hz hl1, ha]; simp [h3]⟩, by simp [Has, rd_s], by omega⟩
  · have hlt' : ¬ ((i : Int) < cs.length) := by omega
    rw [List.take_of_length_le (by rw [List.length_zip]; omega)] at ha
    have m1 := Int.mul_le_mul (show e ≤ 8000 by omega) hc2 (by omega) (by omega : (0 : Int) ≤ 8000)
    have m2 := Int.mul_nonneg he0 (show 0 ≤ den by omega)
    have hE := chE_e h0 (rs := rs) (by rw [hden]; exact ⟨h1, h2⟩) (by rw [hden]; exact ha)
    rw [hden] at hE
    simp (maxSteps := 4000000) -implicitDefEqProofs -dsimp (disch := omega) only [↓AW_ops, ↓AW_seq, ↓AW_cond, ↓AW_exit, ↓AOps_nil, ↓AOps_pu, ↓AOps_call, on_some, condB_f, ↓then_normal, ↓then_exit, ↓inBlock_exit, pval, rd_S, put_S, eq_self, mk, List.foldl_cons, List.foldl_nil, List.replicate_succ, List.replicate_zero, List.set_cons_zero, List.set_cons_succ, List.getElem?_cons_zero, List.getElem?_cons_succ, Option.getD_some, map_c, map_n, bin_lss, if_true, decide_false, hlt']
    refine CallK.of (c_total hq1 (by omega) (fun x hx => by have := hob x hx; omega)) ?_
    by_cases h4 : (ov den rs).sum = e * den
    · rw [if_pos h4] at hE
      simp (maxSteps := 4000000) -implicitDefEqProofs -dsimp (disch := omega) only [↓AW_skip, ↓AW_ops, ↓AW_seq, ↓AW_cond, ↓AW_ret, ↓AOps_nil, ↓AOps_pu, on_some, extK_same, condB_f, ↓then_normal, ↓Fin_ret, pval, rd_S, rd_C, put_S, resV, resL, eq_self, mk, List.foldl_cons, List.foldl_nil, List.replicate_succ, List.replicate_zero, List.set_cons_zero, List.set_cons_succ, List.getElem?_cons_zero, List.getElem?_cons_succ, Option.getD_some, bin_mul, bin_neq, w64, decide_false, not_true_eq_false, h4]
      exact gc_val hp1 (by rw [hE]; rfl)
    · rw [if_neg h4] at hE
      simp (maxSteps := 4000000) -implicitDefEqProofs -dsimp (disch := omega) only [↓AW_ops, ↓AW_seq, ↓AW_cond, ↓AW_ret, ↓AOps_nil, ↓AOps_pu, on_some, extK_same, condB_t, ↓then_normal, ↓then_ret, ↓Fin_ret, pval, rd_S, rd_C, put_S, resV, resL, mk, List.foldl_cons, List.foldl_nil, List.replicate_succ, List.replicate_zero, List.set_cons_zero, List.set_cons_succ, List.getElem?_cons_zero, List.getElem?_cons_succ, Option.getD_some, bin_mul, bin_neq, w64, decide_true, not_false_eq_true, h4]
      exact gc_val hp1 (by rw [hE]; rfl)
theorem s43 (hx : L1 A v cs) (hr : L2 A u rs) (hl : cs.length ≤ 1000000) (hl2 : rs.length ≤ 1000000) : ACalls Try.prog 43 [v, I e, u] A (I (chE cs e rs)) A := by
  refine acalls hmix Try.func43 (by kernel_rfl) t43 3 rfl (by decide) ?_
  dsimp only [m43]
  simp (maxSteps := 4000000) -implicitDefEqProofs -dsimp (disch := omega) only [↓AW_ops, ↓AW_seq, ↓AOps_nil, ↓AOps_pu, ↓AOps_call, on_some, ↓then_normal, pval, rd_S, rd_C, put_S, List.replicate_succ, List.replicate_zero, List.set_cons_zero, List.set_cons_succ, List.getElem?_cons_zero, List.getElem?_cons_succ, Option.getD_some, map_c, map_n, Nat.reduceSub, List.cons_append, List.nil_append]
  refine CallK.of (s38 hx hl e) ?_
  by_cases h0 : vE cs e = 0
  case neg =>
    simp (maxSteps := 4000000) -implicitDefEqProofs -dsimp (disch := omega) only [↓AW_ops, ↓AW_seq, ↓AW_cond, ↓AW_ret, ↓AOps_nil, ↓AOps_pu, on_some, extK_same, condB_t, ↓then_normal, ↓then_ret, ↓Fin_ret, pval, rd_S, rd_C, put_S, resV, resL, List.replicate_succ, List.replicate_zero, List.set_cons_zero, List.set_cons_succ, List.getElem?_cons_zero, List.getElem?_cons_succ, Option.getD_some, Nat.reduceSub, List.cons_append, List.nil_append, bin_neq, decide_true, not_false_eq_true, h0]
    exact gc_same (by rw [chE_v h0])
  obtain ⟨hok, he0, he1⟩ := vE_0.1 h0
  have hs := hok.sum
  have hl8 := hok.l8
  simp (maxSteps := 4000000) -implicitDefEqProofs -dsimp (disch := omega) only [↓AW_skip, ↓AW_ops, ↓AW_seq, ↓AW_cond, ↓AOps_nil, ↓AOps_pu, ↓AOps_call, on_some, extK_same, condB_f, ↓then_normal, pval, rd_S, rd_C, put_S, eq_self, List.replicate_succ, List.replicate_zero, List.set_cons_zero, List.set_cons_succ, List.getElem?_cons_zero, List.getElem?_cons_succ, Option.getD_some, map_c, map_n, Nat.reduceSub, List.cons_append, List.nil_append, bin_neq, decide_false, not_true_eq_false, h0]
  refine CallK.of (c_Common hr hl2) ?_
  by_cases h2 : rs.length = cs.length
  case neg =>
    have h2' : ¬ (rs.length : Int) = cs.length := by omega
    simp (maxSteps := 4000000) -implicitDefEqProofs -dsimp (disch := omega) only [↓AW_ops, ↓AW_seq, ↓AW_cond, ↓AW_ret, ↓AOps_nil, ↓AOps_pu, ↓AOps_guard, on_some, extK_same, guardB_tf, skipS_some, condB_t, ↓then_normal, ↓then_ret, ↓Fin_ret, pval, rd_S, rd_C, put_S, resV, resL, eq_self, List.replicate_succ, List.replicate_zero, List.set_cons_zero, List.set_cons_succ, List.getElem?_cons_zero, List.getElem?_cons_succ, Option.getD_some, Nat.reduceSub, List.cons_append, List.nil_append, bin_neq, if_true, decide_true, not_false_eq_true, hx.len, hr.len, h2']
    exact gc_same (by rw [chE_1 h0 (fun hh => h2 hh.2)])
  have h2' : (rs.length : Int) = cs.length := by omega
  by_cases h1 : cm 1 rs = 0
  · simp (maxSteps := 4000000) -implicitDefEqProofs -dsimp (disch := omega) only [↓AW_ops, ↓AW_seq, ↓AW_cond, ↓AW_ret, ↓AOps_nil, ↓AOps_pu, ↓AOps_guard, on_some, extK_same, guardB_ff, condB_t, ↓then_normal, ↓then_ret, ↓Fin_ret, pval, rd_S, rd_C, put_S, resV, resL, eq_self, List.replicate_succ, List.replicate_zero, List.set_cons_zero, List.set_cons_succ, List.getElem?_cons_zero, List.getElem?_cons_succ, Option.getD_some, Nat.reduceSub, List.cons_append, List.nil_append, bin_eql, bin_neq, if_false, Bool.false_eq_true, decide_true, decide_false, not_true_eq_false, hx.len, hr.len, h2', h1]
    exact gc_same (by rw [chE_1 h0 (fun hh => hh.1 h1)])
  obtain ⟨hf, _, hc1, hc2⟩ := cm_facts rs 1 (by omega) h1
  simp (maxSteps := 4000000) -implicitDefEqProofs -dsimp (disch := omega) only [↓AW_skip, ↓AW_ops, ↓AW_seq, ↓AW_cond, ↓AOps_nil, ↓AOps_pu, ↓AOps_call, ↓AOps_guard, on_some, extK_same, guardB_ff, condB_f, ↓then_normal, pval, rd_S, rd_C, put_S, eq_self, List.replicate_succ, List.replicate_zero, List.set_cons_zero, List.set_cons_succ, List.getElem?_cons_zero, List.getElem?_cons_succ, Option.getD_some, map_c, map_n, Nat.reduceSub, List.cons_append, List.nil_append, bin_eql, bin_neq, if_false, Bool.false_eq_true, decide_false, not_true_eq_false, hx.len, hr.len, h2', h1]
  generalize hden : cm 1 rs = den at *
  refine CallK.of (c_Over hr hl2 (den := den) ⟨by omega, hc2⟩ (fun r hr => (hf r hr).1)) ?_
  have hp1 := pre_out A ((ov den rs).flatMap e1) (ov den rs).length
  have hq1 := Ls_out A e1_len (ov den rs)
  have hol := ov_len den rs
  have hob : ∀ x ∈ ov den rs, 0 ≤ x ∧ x ≤ 100000000000 := by
    intro x hx
    obtain ⟨r, hr, rfl⟩ := List.mem_map.1 hx
    exact (ov_bd ⟨by omega, hc2⟩ (hf r hr).1).2.2
  generalize outV 1 A (ov den rs).length = v1 at *
  generalize outH A ((ov den rs).flatMap e1) (ov den rs).length = A1 at *
  have hx1 := hx.mono hp1
  simp (maxSteps := 4000000) -implicitDefEqProofs -dsimp (disch := omega) only [↓AW_ops, ↓AW_seq, ↓AW_block, ↓AOps_nil, ↓AOps_pu, on_some, extK_false, ↓then_normal, pval, rd_S, rd_C, put_S, ↓AW_toLoop, List.replicate_succ, List.replicate_zero, List.set_cons_zero, List.set_cons_succ, List.getElem?_cons_zero, List.getElem?_cons_succ, Option.getD_some, Nat.reduceSub, List.cons_append, List.nil_append]
  refine LoopK.by 54 (fun i : Nat => i ≤ cs.length ∧ ((cs.zip (ov den rs)).take i).any (fun z => decide (z.1 * den < z.2)) = false) (fun i => [(0, v), (1, I e), (8, I den), (9, v1), (10, I i)]) (fun _ => A1) (fun i => cs.length - i) 0 ⟨by omega, rfl⟩ rfl (by simp [Has, rd_s]) rfl ?_
  rintro i ⟨hi, ha⟩
  have hlo : ((ov den rs).length : Int) = cs.length := by omega
  by_cases hlt : i < cs.length
  · obtain ⟨z, hz⟩ : ∃ z, cs[i]? = some z := ⟨_, List.getElem?_eq_getElem hlt⟩
    have hlt' : (i : Int) < cs.length := by omega
    have hlt2 : i < (ov den rs).length := by omega
    obtain ⟨l, hl1⟩ : ∃ l, (ov den rs)[i]? = some l := ⟨_, List.getElem?_eq_getElem hlt2⟩
    have hzc := hok.c z (List.mem_of_getElem? hz)
    have m1 := Int.mul_le_mul hzc.2 hc2 (by omega) (by omega : (0 : Int) ≤ 1000)
    have m2 := Int.mul_nonneg hzc.1 (show 0 ≤ den by omega)
    rw [Int.mul_comm] at m1 m2
    by_cases h3 : den * z < l
    · simp (maxSteps := 4000000) -implicitDefEqProofs -dsimp (disch := omega) only [↓AW_skip, ↓AW_ops, ↓AW_seq, ↓AW_cond, ↓AW_block, ↓AW_ret, ↓AOps_nil, ↓AOps_pu, ↓AOps_ld, on_some, condB_t, ↓then_normal, ↓then_ret, ↓inBlock_ret, ↓Fin_ret, pval, lval, rd_S, rd_C, put_S, resV, resL, partA, eq_self, mk, List.foldl_cons, List.foldl_nil, List.replicate_succ, List.replicate_zero, List.set_cons_zero, List.set_cons_succ, List.getElem?_cons_zero, List.getElem?_cons_succ, List.drop_zero, List.take_succ_cons, List.take_nil, Option.getD_some, List.length_cons, List.length_nil, Nat.reduceLeDiff, Nat.zero_add, bin_mul, bin_lss, bin_gtr, w64, if_true, if_false, Bool.false_eq_true, decide_true, Go.Eng.e1, hq1.len, hlo, hlt', hx1.idx hlt, hx1.ld0 hz 1 false (by decide), hq1.idx hlt2, hq1.ld0 hl1 1 false (by decide), h3]
      exact gc_val hp1 (by rw [chE_8 h0 (by rw [hden]; exact ⟨h1, h2⟩) (by rw [hden]; exact ovr_at hz hl1 (by rw [Int.mul_comm]; exact h3))]; rfl)
    · simp (maxSteps := 4000000) -implicitDefEqProofs -dsimp (disch := omega) only [↓AW_skip, ↓AW_ops, ↓AW_seq, ↓AW_cond, ↓AW_block, ↓AOps_nil, ↓AOps_pu, ↓AOps_ld, on_some, condB_t, condB_f, ↓then_normal, ↓inBlock_normal, pval, lval, rd_S, rd_C, put_S, partA, eq_self, mk, List.foldl_cons, List.foldl_nil, List.replicate_succ, List.replicate_zero, List.set_cons_zero, List.set_cons_succ, List.getElem?_cons_zero, List.getElem?_cons_succ, List.drop_zero, List.take_succ_cons, List.take_nil, Option.getD_some, List.length_cons, List.length_nil, Nat.reduceAdd, Nat.reduceLeDiff, Nat.zero_add, bin_add, bin_mul, bin_lss, bin_gtr, w64, if_true, if_false, Bool.false_eq_true, decide_true, decide_false, Go.Eng.e1, true_and, hq1.len, hlo, hlt', hx1.idx hlt, hx1.ld0 hz 1 false (by decide), hq1.idx hlt2, hq1.ld0 hl1 1 false (by decide), h3]
      exact ⟨i + 1, ⟨hlt, by rw [ovr_take hz hl1, ha, Int.mul_comm z den]; simp [h3]⟩, by simp [Has, rd_s], by omega⟩
  · have hlt' : ¬ ((i : Int) < cs.length) := by omega
    rw [List.take_of_length_le (by rw [List.length_zip]; omega)] at ha
    have m1 := Int.mul_le_mul (show e ≤ 8000 by omega) hc2 (by omega) (by omega : (0 : Int) ≤ 8000)
    have m2 := Int.mul_nonneg he0 (show 0 ≤ den by omega)
    rw [Int.mul_comm] at m1 m2
    have hE := chE_e h0 (rs := rs) (by rw [hden]; exact ⟨h1, h2⟩) (by rw [hden]; exact ha)
    rw [hden, Int.mul_comm e den] at hE
    simp (maxSteps := 4000000) -implicitDefEqProofs -dsimp (disch := omega) only [↓AW_ops, ↓AW_seq, ↓AW_cond, ↓AW_exit, ↓AOps_nil, ↓AOps_pu, ↓AOps_call, on_some, condB_f, ↓then_normal, ↓then_exit, ↓inBlock_exit, pval, rd_S, put_S, eq_self, mk, List.foldl_cons, List.foldl_nil, List.replicate_succ, List.replicate_zero, List.set_cons_zero, List.set_cons_succ, List.getElem?_cons_zero, List.getElem?_cons_succ, Option.getD_some, map_c, map_n, bin_lss, if_true, decide_false, hq1.len, hlo, hlt']
    refine CallK.of (c_Sum hq1 (by omega) (fun x hx => by have := hob x hx; omega)) ?_
    by_cases h4 : (ov den rs).sum = den * e
    · rw [if_pos h4] at hE
      simp (maxSteps := 4000000) -implicitDefEqProofs -dsimp (disch := omega) only [↓AW_skip, ↓AW_ops, ↓AW_seq, ↓AW_cond, ↓AW_ret, ↓AOps_nil, ↓AOps_pu, on_some, extK_same, condB_f, ↓then_normal, ↓Fin_ret, pval, rd_S, rd_C, put_S, resV, resL, eq_self, mk, List.foldl_cons, List.foldl_nil, List.replicate_succ, List.replicate_zero, List.set_cons_zero, List.set_cons_succ, List.getElem?_cons_zero, List.getElem?_cons_succ, Option.getD_some, bin_mul, bin_neq, w64, decide_false, not_true_eq_false, h4]
      exact gc_val hp1 (by rw [hE]; rfl)
    · rw [if_neg h4] at hE
      simp (maxSteps := 4000000) -implicitDefEqProofs -dsimp (disch := omega) only [↓AW_ops, ↓AW_seq, ↓AW_cond, ↓AW_ret, ↓AOps_nil, ↓AOps_pu, on_some, extK_same, condB_t, ↓then_normal, ↓then_ret, ↓Fin_ret, pval, rd_S, rd_C, put_S, resV, resL, mk, List.foldl_cons, List.foldl_nil, List.replicate_succ, List.replicate_zero, List.set_cons_zero, List.set_cons_succ, List.getElem?_cons_zero, List.getElem?_cons_succ, Option.getD_some, bin_mul, bin_neq, w64, decide_true, not_false_eq_true, h4]
      exact gc_val hp1 (by rw [hE]; rfl)
def rp (q : Rat) : Int × Int := (q.num, q.den)
theorem e2_rp (q : Rat) : e2 (rp q) = [I q.num, I (q.den : Int)] := rfl
/-- What is lost of a claim. -/
def lsq (c : Int) (r : Int × Int) : Rat := ((c * r.2 - r.1 : Int) : Rat) / ((r.2 : Int) : Rat)
def lsL (cs : List Int) (rs : List (Int × Int)) : List Rat := (cs.zip rs).map (fun z => lsq z.1 z.2)
theorem lsL_len {cs : List Int} {rs : List (Int × Int)} (h : rs.length = cs.length) : ((lsL cs rs).map rp).length = cs.length := by
  unfold lsL
  rw [List.length_map, List.length_map, List.length_zip, h, Nat.min_self]
theorem lsL_take {cs : List Int} {rs : List (Int × Int)} {i : Nat} {c : Int} {r : Int × Int} (hc : cs[i]? = some c) (hr : rs[i]? = some r) : ((lsL cs rs).map rp).take (i + 1) = ((lsL cs rs).map rp).take i ++ [rp (lsq c r)] := by
  unfold lsL
  rw [List.take_add_one, List.getElem?_map, List.getElem?_map]
  have : (cs.zip rs)[i]? = some (c, r) := by rw [List.getElem?_zip_eq_some]; exact ⟨hc, hr⟩
  rw [this]
  rfl
/-- Bounds with which nothing overflows. -/
def bdR (r : Int × Int) : Prop := (1 ≤ r.2 ∧ r.2 ≤ 1000000) ∧ (0 ≤ r.1 ∧ r.1 ≤ 1000000000000)
theorem s75 (hx : L1 A v cs) (hr : L2 A u rs) (hok : OK cs) (h2 : rs.length = cs.length) (hb : ∀ r ∈ rs, bdR r) : ACalls Try.prog 75 [v, u] A (outV 2 A ((lsL cs rs).map rp).length) (outH A (((lsL cs rs).map rp).flatMap e2) ((lsL cs rs).map rp).length) := by
  refine acalls hmix Try.func75 (by kernel_rfl) t75 2 rfl (by decide) ?_
  have hlen := lsL_len h2
  have hl8 := hok.l8
  dsimp only [m75]
  simp (maxSteps := 4000000) -implicitDefEqProofs -dsimp (disch := omega) only [↓AW_ops, ↓AW_seq, ↓AW_block, ↓AOps_nil, ↓AOps_pu, on_some, ↓then_normal, pval, rd_S, rd_C, put_S, ↓AW_toLoop, List.replicate_succ, List.replicate_zero, List.set_cons_zero, List.set_cons_succ, List.getElem?_cons_zero, List.getElem?_cons_succ, Option.getD_some, Nat.reduceSub, List.cons_append, List.nil_append, hx.len]
  refine LoopK.by 39 (fun x : Nat × AV × AHeap => x.1 ≤ cs.length ∧ AccL 2 e2 A x.2.2 x.2.1 (((lsL cs rs).map rp).take x.1)) (fun x => [(1, u), (5, x.2.1), (8, v), (9, I cs.length), (10, I x.1)]) (fun x => x.2.2) (fun x => cs.length - x.1) (0, .nilS, A) ⟨by simp only; omega, AccL.nil (List.prefix_refl _)⟩ rfl (by simp [Has, rd_s]) rfl ?_
  rintro ⟨i, w, A1⟩ ⟨hi, hu⟩
  simp only at hi hu
  have hx1 := hx.mono hu.pre
  have hr1 := hr.mono hu.pre
  by_cases hlt : i < cs.length
  · obtain ⟨z, hz⟩ : ∃ z, cs[i]? = some z := ⟨_, List.getElem?_eq_getElem hlt⟩
    have hlt' : (i : Int) < cs.length := by omega
    have hlt2 : i < rs.length := by omega
    obtain ⟨r, hr2⟩ : ∃ r, rs[i]? = some r := ⟨_, List.getElem?_eq_getElem hlt2⟩
    have hzc := hok.c z (List.mem_of_getElem? hz)
    obtain ⟨b1, b2⟩ := hb r (List.mem_of_getElem? hr2)
    have m1 := Int.mul_le_mul hzc.2 b1.2 (by omega) (by omega : (0 : Int) ≤ 1000)
    have m2 := Int.mul_nonneg hzc.1 (show 0 ≤ r.2 by omega)
    obtain ⟨u3, A3, happ, hu3⟩ := hu.push e2_len (rp (lsq z r)) (by rw [List.length_take]; simp [lim]; omega)
    rw [← lsL_take hz hr2] at hu3
    simp only [e2_rp] at happ
    simp (maxSteps := 4000000) -implicitDefEqProofs -dsimp (disch := omega) only [↓AW_skip, ↓AW_ops, ↓AW_seq, ↓AW_cond, ↓AW_block, ↓AOps_nil, ↓AOps_pu, ↓AOps_ld, ↓AOps_call, on_some, condB_t, ↓then_normal, pval, lval, rd_S, put_S, partA, eq_self, mk, List.foldl_cons, List.foldl_nil, List.replicate_succ, List.replicate_zero, List.set_cons_zero, List.set_cons_succ, List.getElem?_cons_zero, List.getElem?_cons_succ, List.drop_zero, List.drop_succ_cons, List.take_zero, List.take_succ_cons, List.take_nil, Option.getD_some, map_c, map_n, List.length_cons, List.length_nil, Nat.reduceAdd, Nat.reduceLeDiff, Nat.zero_add, Nat.add_zero, bin_sub, bin_mul, bin_lss, w64, if_true, if_false, Bool.false_eq_true, decide_true, Go.Eng.e1, Go.Eng.e2, hlt', hx1.idx hlt, hx1.ld0 hz 1 false (by decide), hr1.idx hlt2, hr1.ld0 hr2 1 false (by decide), hr1.ld hr2 1 1 false (by decide), e2]
    refine CallK.of (s61 (a := z * r.2 - r.1) (b := r.2) _ ⟨by omega, by omega⟩ (by omega) (by omega)) ?_
    have hls : (((z * r.2 - r.1 : Int) : Rat) / ((r.2 : Int) : Rat)) = lsq z r := rfl
    simp (maxSteps := 4000000) -implicitDefEqProofs -dsimp (disch := omega) only [↓AW_ops, ↓AOps_nil, ↓AOps_pu, ↓AOps_ha, on_some, extK_false, extK_app, extK_same, ↓then_normal, ↓inBlock_normal, pval, hval, rd_S, rd_C, put_S, AV.cells?, splice, fillA, repl, eq_self, mk, List.foldl_cons, List.foldl_nil, List.replicate_succ, List.replicate_zero, List.set_cons_zero, List.set_cons_succ, List.getElem?_cons_zero, List.getElem?_cons_succ, List.drop_succ_cons, List.drop_nil, List.take_zero, Option.getD_some, map_c, map_n, List.length_cons, List.length_nil, Nat.reduceAdd, Nat.reduceLeDiff, Nat.zero_add, List.nil_append, List.append_nil, bin_add, w64, if_true, true_and, and_true, hls, R, happ]
    exact ⟨(i + 1, u3, A3), ⟨hlt, hu3⟩, by simp [Has, rd_s], rfl, by simp only; omega⟩
  · have hlt' : ¬ ((i : Int) < cs.length) := by omega
    simp (maxSteps := 4000000) -implicitDefEqProofs -dsimp (disch := omega) only [↓AW_ops, ↓AW_seq, ↓AW_cond, ↓AW_exit, ↓AW_ret, ↓AOps_nil, ↓AOps_pu, on_some, condB_f, ↓then_normal, ↓then_exit, ↓inBlock_exit, ↓Fin_ret, pval, rd_S, put_S, resV, resL, eq_self, mk, List.foldl_cons, List.foldl_nil, List.replicate_succ, List.replicate_zero, List.set_cons_zero, List.set_cons_succ, List.getElem?_cons_zero, List.getElem?_cons_succ, Option.getD_some, bin_lss, if_true, decide_false, hlt']
    rw [List.take_of_length_le (by omega)] at hu
    exact hu.gc flat_e2
theorem s15 (hx : L1 A v cs) : ACalls Try.prog 15 [.agg [v, I e]] A (B (decide ((40 : Int) < cs.length))) A := by
  refine acalls hmix Try.func15 (by kernel_rfl) t15 1 rfl (by decide) ?_
  dsimp only [m15]
  simp (maxSteps := 4000000) -implicitDefEqProofs -dsimp (disch := omega) only [↓AW_ops, ↓AW_seq, ↓AW_ret, ↓AOps_nil, ↓AOps_pu, on_some, ↓then_normal, ↓Fin_ret, pval, rd_S, rd_C, put_S, resV, resL, chkd, isAdr, bgot, AV.cells?, partA, eq_self, List.replicate_succ, List.replicate_zero, List.set_cons_zero, List.set_cons_succ, List.getElem?_cons_zero, List.getElem?_cons_succ, List.drop_zero, List.take_zero, List.take_succ_cons, Option.getD_some, List.length_cons, List.length_nil, Nat.reduceAdd, Nat.reduceSub, Nat.reduceLeDiff, Nat.zero_add, List.cons_append, List.nil_append, bin_gtr, if_true, if_false, Bool.false_eq_true, hx.len]
  exact gc_same rfl
end
end Go.Proofs.Ytdcdjhhjlpegjaa

namespace Go.Proofs.Ytdcdjhhjlpegjaa
open Go Go.Eng
theorem AccL_out {α : Type} {es : Nat} {e : α → List AV} {A H : AHeap} (hp : A <+: H) (he : ∀ x, (e x).length = es) (xs : List α) : AccL es e A (outH H (xs.flatMap e) xs.length) (outV es H xs.length) xs := by
  refine ⟨hp.trans (pre_out _ _ _), flatMap_length he xs, ?_⟩
  unfold outV outH
  by_cases h : xs.length = 0
  · rw [if_pos h, if_pos h]; exact .inl ⟨h, rfl⟩
  · rw [if_neg h, if_neg h]
    exact .inr ⟨by omega, H.length, rfl, hp.length_le, by simp⟩
theorem int0 : ((0 : Int) : Rat) = 0 := rfl
theorem int1 : ((1 : Int) : Rat) = 1 := rfl
theorem cast_nonneg {n : Int} (h : 0 ≤ n) : (0 : Rat) ≤ (n : Rat) := by rw [← int0]; exact Rat.intCast_le_intCast.2 h
theorem cast_pos {n : Int} (h : 0 < n) : (0 : Rat) < (n : Rat) := by rw [← int0]; exact Rat.intCast_lt_intCast.2 h
theorem cast_ne {n : Int} (h : n ≠ 0) : (n : Rat) ≠ 0 := by
  intro e
  rw [← int0] at e
  exact h (Rat.intCast_inj.1 e)
theorem div_den {n d : Int} (hd : 0 < d) : (((n : Rat) / (d : Rat)).den : Int) ∣ d := by
  have h := nrm_R n d hd
  unfold nrm at h
  have h2 : AV.agg [I (n.tdiv (Int.gcd n d)), I (d.tdiv (Int.gcd n d))] = R ((n : Rat) / (d : Rat)) := h
  injection h2 with h3
  injection h3 with h4 h5
  injection h5 with h6 h7
  injection h6 with _ h8
  rw [← h8, tdiv_eq (Int.gcd_dvd_right n d)]
  exact ⟨(Int.gcd n d : Int), (Int.ediv_mul_cancel (Int.gcd_dvd_right n d)).symm⟩
theorem ovq {q : Rat} {D : Int} (h : (q.den : Int) ∣ D) : ((q.num * (D / q.den) : Int) : Rat) = q * (D : Rat) := by
  obtain ⟨k, hk⟩ := h
  have hd := den_pos q
  have e := R_self q
  rw [hk, Int.mul_ediv_cancel_left _ (by omega), Rat.intCast_mul, Rat.intCast_mul]
  have hne := cast_ne (show (q.den : Int) ≠ 0 by omega)
  conv => rhs; lhs; rw [e]
  generalize ((q.num : Int) : Rat) = n at *
  generalize ((q.den : Int) : Rat) = d at *
  generalize (k : Rat) = k' at *
  have h1 : n / d * d = n := Rat.div_mul_cancel hne
  rw [← Rat.mul_assoc, h1]
theorem ov_rp (D : Int) (qs : List Rat) : ov D (qs.map rp) = qs.map (fun q => q.num * (D / q.den)) := by
  unfold ov
  rw [List.map_map]
  rfl
theorem ov_sum {D : Int} : ∀ {qs : List Rat}, (∀ q ∈ qs, (q.den : Int) ∣ D) → (((ov D (qs.map rp)).sum : Int) : Rat) = qs.sum * (D : Rat)
  | [], _ => by simp only [ov, List.map_nil, List.sum_nil, Rat.zero_mul]; rfl
  | q :: qs, h => by
    have ih := ov_sum (D := D) (qs := qs) (fun x hx => h x (by simp [hx]))
    rw [ov_rp] at ih ⊢
    rw [List.map_cons, List.sum_cons, List.sum_cons, Rat.intCast_add, ih, ovq (h q (by simp)), Rat.add_mul]
theorem rat_le_of_mul {a b c : Rat} (hc : 0 < c) (h : a * c ≤ b * c) : a ≤ b := Rat.le_of_mul_le_mul_right h hc
theorem fit_rp {q : Rat} {E : Int} (hE : 1 ≤ E ∧ E ≤ 10000) (hd : (q.den : Int) ∣ E) (h0 : 0 ≤ q) (h1 : q ≤ ((1000 : Int) : Rat)) : fitR (rp q) := by
  have hdp := den_pos q
  have hle := Int.le_of_dvd (by omega) hd
  have hne := cast_pos hdp
  have e := R_self q
  have hn : ((q.num : Int) : Rat) = q * ((q.den : Int) : Rat) := by
    conv => rhs; lhs; rw [e]
    exact (Rat.div_mul_cancel (Ne.symm (Rat.ne_of_lt hne))).symm
  have n0 : 0 ≤ q.num := by
    refine Rat.intCast_le_intCast.1 ?_
    rw [hn, int0]
    exact Rat.mul_nonneg h0 (Rat.le_of_lt hne)
  have n1 : q.num ≤ 1000 * (q.den : Int) := by
    refine Rat.intCast_le_intCast.1 ?_
    rw [hn, Rat.intCast_mul]
    exact Rat.mul_le_mul_of_nonneg_right h1 (Rat.le_of_lt hne)
  refine ⟨⟨by show 1 ≤ (q.den : Int); omega, by show (q.den : Int) ≤ 10000; omega⟩, ⟨n0, ?_⟩, ?_⟩
  · show q.num ≤ 10000000
    omega
  · show Int.gcd q.num (q.den : Int) = 1
    unfold Int.gcd
    rw [Int.natAbs_natCast]
    exact q.reduced
/-- Awards that are accepted. -/
theorem chE_ok {cs : List Int} {e : Int} (hc : CE cs e) {qs : List Rat} {E : Int} (hE : 1 ≤ E ∧ E ≤ 10000) (hl : qs.length = cs.length) (hq : ∀ q ∈ qs, (q.den : Int) ∣ E ∧ 0 ≤ q)
    (hz : ∀ z ∈ cs.zip qs, z.2 ≤ (z.1 : Rat)) (hs : qs.sum = (e : Rat)) : chE cs e (qs.map rp) = 0 := by
  have hq1 : ∀ q ∈ qs, q ≤ ((1000 : Int) : Rat) := by
    intro q hqm
    obtain ⟨i, hi, rfl⟩ := List.mem_iff_getElem.1 hqm
    have hi2 : i < cs.length := by omega
    have hmem : (cs[i], qs[i]) ∈ cs.zip qs := by
      refine List.mem_of_getElem? (i := i) ?_
      rw [List.getElem?_zip_eq_some]
      exact ⟨List.getElem?_eq_getElem hi2, List.getElem?_eq_getElem hi⟩
    have h1 := hz _ hmem
    have h2 := (hc.ok.c _ (List.getElem_mem hi2)).2
    exact Rat.le_trans h1 (Rat.intCast_le_intCast.2 h2)
  have hfit : ∀ r ∈ qs.map rp, fitR r ∧ r.2 ∣ E := by
    intro r hr
    obtain ⟨q, hqm, rfl⟩ := List.mem_map.1 hr
    obtain ⟨a, b⟩ := hq q hqm
    exact ⟨fit_rp hE a b (hq1 q hqm), a⟩
  obtain ⟨hne, _⟩ := cm_ok hE (qs.map rp) 1 (by omega) (Int.one_dvd _) hfit
  obtain ⟨hf, _, hc1, hc2⟩ := cm_facts (qs.map rp) 1 (by omega) hne
  have hdv : ∀ q ∈ qs, (q.den : Int) ∣ cm 1 (qs.map rp) := fun q hqm => (hf (rp q) (List.mem_map_of_mem hqm)).2
  refine chE_0.2 ⟨hc, hne, by simp [hl], ?_, ?_⟩
  · generalize cm 1 (qs.map rp) = D at *
    have hD := cast_pos (show 0 < D by omega)
    rw [← Bool.not_eq_true]
    intro ha
    unfold ovr at ha
    rw [ov_rp, List.zip_map_right, List.any_map, List.any_eq_true] at ha
    obtain ⟨z, hzm, hlt⟩ := ha
    have hlt : z.1 * D < z.2.num * (D / z.2.den) := by simpa using hlt
    have h1 := Rat.intCast_lt_intCast.2 hlt
    rw [ovq (hdv z.2 (List.of_mem_zip hzm).2), Rat.intCast_mul] at h1
    have h2 := Rat.mul_le_mul_of_nonneg_right (hz z hzm) (Rat.le_of_lt hD)
    exact absurd h1 (Rat.not_lt.2 h2)
  · refine Rat.intCast_inj.1 ?_
    rw [ov_sum hdv, hs, Rat.intCast_mul]
/-- The awards by parts. -/
def pts (cs : List Int) (e : Int) : List Rat := cs.map (fun c => ((c * e : Int) : Rat) / ((max 1 cs.sum : Int) : Rat))
theorem pts_len (cs : List Int) (e : Int) : ((pts cs e).map rp).length = cs.length := by simp [pts]
theorem pts_take {cs : List Int} {e : Int} {i : Nat} {c : Int} (h : cs[i]? = some c) : ((pts cs e).map rp).take (i + 1) = ((pts cs e).map rp).take i ++ [rp (((c * e : Int) : Rat) / ((max 1 cs.sum : Int) : Rat))] := by
  unfold pts
  rw [List.take_add_one, List.getElem?_map, List.getElem?_map, h]
  rfl
theorem sum_map_div (d : Rat) (e : Int) : ∀ cs : List Int, (cs.map (fun c => ((c * e : Int) : Rat) / d)).sum = ((cs.sum * e : Int) : Rat) / d
  | [] => by simp only [List.map_nil, List.sum_nil, Int.zero_mul]; rw [int0, Rat.div_def, Rat.zero_mul]
  | c :: cs => by
    rw [List.map_cons, List.sum_cons, List.sum_cons, sum_map_div d e cs, Int.add_mul, Rat.intCast_add, Rat.div_def, Rat.div_def, Rat.div_def, Rat.add_mul]
theorem mem_sum {cs : List Int} (h : ∀ x ∈ cs, 0 ≤ x) : ∀ {c : Int}, c ∈ cs → c ≤ cs.sum := by
  induction cs with
  | nil => intro c hc; simp at hc
  | cons a l ih =>
    intro c hc
    have ha := h a (by simp)
    have hl : 0 ≤ l.sum := by
      have : ∀ l : List Int, (∀ x ∈ l, 0 ≤ x) → 0 ≤ l.sum := by
        intro l
        induction l with
        | nil => intro _; simp
        | cons b m ih2 => intro hb; have := hb b (by simp); have := ih2 (fun x hx => hb x (by simp [hx])); simp only [List.sum_cons]; omega
      exact this l (fun x hx => h x (by simp [hx]))
    rw [List.sum_cons]
    rcases List.mem_cons.1 hc with rfl | hc
    · omega
    · have := ih (fun x hx => h x (by simp [hx])) hc; omega
theorem div_le {a b : Int} {d : Rat} (hd : 0 < d) (h : (a : Rat) ≤ (b : Rat) * d) : (a : Rat) / d ≤ (b : Rat) := by
  refine rat_le_of_mul hd ?_
  rw [Rat.div_mul_cancel (Ne.symm (Rat.ne_of_lt hd))]
  exact h
theorem div_ge0 {a d : Rat} (hd : 0 < d) (h : 0 ≤ a) : 0 ≤ a / d := by
  refine rat_le_of_mul hd ?_
  rw [Rat.div_mul_cancel (Ne.symm (Rat.ne_of_lt hd)), Rat.zero_mul]
  exact h
theorem zip_self {α β : Type} (f : α → β) : ∀ cs : List α, cs.zip (cs.map f) = cs.map (fun c => (c, f c))
  | [] => rfl
  | c :: cs => by rw [List.map_cons, List.zip_cons_cons, zip_self f cs, List.map_cons]
theorem pts_ok {cs : List Int} {e : Int} (hc : CE cs e) : chE cs e ((pts cs e).map rp) = 0 := by
  have hs := hc.ok.sum
  have he0 := hc.e0
  have he1 := hc.e1
  have hT : 0 < max 1 cs.sum := by omega
  have hTr := cast_pos hT
  refine chE_ok hc (E := max 1 cs.sum) (by omega) (by simp [pts]) (fun q hq => ?_) (fun z hz => ?_) ?_
  · obtain ⟨c, hcm, rfl⟩ := List.mem_map.1 hq
    exact ⟨div_den hT, div_ge0 hTr (cast_nonneg (Int.mul_nonneg (hc.ok.c c hcm).1 he0))⟩
  · unfold pts at hz
    rw [zip_self] at hz
    obtain ⟨c, hcm, rfl⟩ := List.mem_map.1 hz
    refine div_le hTr ?_
    rw [← Rat.intCast_mul]
    refine Rat.intCast_le_intCast.2 ?_
    exact Int.mul_le_mul_of_nonneg_left (by omega) (hc.ok.c c hcm).1
  · unfold pts
    rw [sum_map_div]
    by_cases h0 : cs.sum = 0
    · have : e = 0 := by omega
      subst this
      rw [Int.mul_zero, int0, Rat.div_def, Rat.zero_mul]
    · have : max 1 cs.sum = cs.sum := by omega
      rw [this, Rat.intCast_mul]
      have hne := cast_ne h0
      generalize (cs.sum : Rat) = T at *
      generalize (e : Rat) = e' at *
      rw [Rat.div_def, Rat.mul_comm T e', Rat.mul_assoc, Rat.mul_inv_cancel _ hne, Rat.mul_one]
section
variable {cs : List Int} {v : AV} {A : AHeap} {e : Int}
theorem s90 (hx : L1 A v cs) (hc : CE cs e) : ACalls Try.prog 90 [v, I e] A (outV 2 A ((pts cs e).map rp).length) (outH A (((pts cs e).map rp).flatMap e2) ((pts cs e).map rp).length) := by
  refine acalls hmix Try.func90 (by kernel_rfl) t90 2 rfl (by decide) ?_
  have hlen := pts_len cs e
  have hl8 := hc.ok.l8
  have hs := hc.ok.sum
  have he0 := hc.e0
  have he1 := hc.e1
  dsimp only [m90]
  simp (maxSteps := 4000000) -implicitDefEqProofs -dsimp (disch := omega) only [↓AW_ops, ↓AW_seq, ↓AW_block, ↓AOps_nil, ↓AOps_pu, on_some, ↓then_normal, pval, rd_S, rd_C, put_S, ↓AW_toLoop, List.replicate_succ, List.replicate_zero, List.set_cons_zero, List.set_cons_succ, List.getElem?_cons_zero, List.getElem?_cons_succ, Option.getD_some, Nat.reduceSub, List.cons_append, List.nil_append, hx.len]
  refine LoopK.by 26 (fun x : Nat × AV × AHeap => x.1 ≤ cs.length ∧ AccL 2 e2 A x.2.2 x.2.1 (((pts cs e).map rp).take x.1)) (fun x => [(0, v), (1, I e), (5, x.2.1), (8, v), (9, I cs.length), (10, I x.1)]) (fun x => x.2.2) (fun x => cs.length - x.1) (0, .nilS, A) ⟨by simp only; omega, AccL.nil (List.prefix_refl _)⟩ rfl (by simp [Has, rd_s]) rfl ?_
  rintro ⟨i, w, A1⟩ ⟨hi, hu⟩
  simp only at hi hu
  have hx1 := hx.mono hu.pre
  by_cases hlt : i < cs.length
  · obtain ⟨z, hz⟩ : ∃ z, cs[i]? = some z := ⟨_, List.getElem?_eq_getElem hlt⟩
    have hlt' : (i : Int) < cs.length := by omega
    have hzc := hc.ok.c z (List.mem_of_getElem? hz)
    have m1 := Int.mul_le_mul hzc.2 (show e ≤ 8000 by omega) he0 (by omega : (0 : Int) ≤ 1000)
    have m2 := Int.mul_nonneg hzc.1 he0
    obtain ⟨u3, A3, happ, hu3⟩ := hu.push e2_len (rp (((z * e : Int) : Rat) / ((max 1 cs.sum : Int) : Rat))) (by rw [List.length_take]; simp [lim]; omega)
    rw [← pts_take hz] at hu3
    simp only [e2_rp] at happ
    simp (maxSteps := 4000000) -implicitDefEqProofs -dsimp (disch := omega) only [↓AW_skip, ↓AW_ops, ↓AW_seq, ↓AW_cond, ↓AW_block, ↓AOps_nil, ↓AOps_pu, ↓AOps_ld, ↓AOps_call, on_some, condB_t, ↓then_normal, pval, lval, rd_S, put_S, partA, eq_self, mk, List.foldl_cons, List.foldl_nil, List.replicate_succ, List.replicate_zero, List.set_cons_zero, List.set_cons_succ, List.getElem?_cons_zero, List.getElem?_cons_succ, List.drop_zero, List.take_succ_cons, List.take_nil, Option.getD_some, map_c, map_n, List.length_cons, List.length_nil, Nat.reduceLeDiff, Nat.zero_add, bin_mul, bin_lss, w64, if_true, if_false, Bool.false_eq_true, decide_true, Go.Eng.e1, hlt', hx1.idx hlt, hx1.ld0 hz 1 false (by decide)]
    refine CallK.of (c_total hx1 (by omega) hc.ok.bd) ?_
    simp (maxSteps := 4000000) -implicitDefEqProofs -dsimp (disch := omega) only [↓AOps_pu, ↓AOps_call, on_some, extK_same, pval, rd_S, rd_C, put_S, mk, List.foldl_cons, List.foldl_nil, List.replicate_succ, List.replicate_zero, List.set_cons_zero, List.set_cons_succ, List.getElem?_cons_zero, List.getElem?_cons_succ, Option.getD_some, map_c, map_n, mm_max]
    refine CallK.of (s61 (a := z * e) (b := max 1 cs.sum) _ ⟨by omega, by omega⟩ (by omega) (by omega)) ?_
    simp (maxSteps := 4000000) -implicitDefEqProofs -dsimp (disch := omega) only [↓AW_ops, ↓AOps_nil, ↓AOps_pu, ↓AOps_ha, on_some, extK_false, extK_app, extK_same, ↓then_normal, ↓inBlock_normal, pval, hval, rd_S, rd_C, put_S, AV.cells?, splice, fillA, repl, eq_self, mk, List.foldl_cons, List.foldl_nil, List.replicate_succ, List.replicate_zero, List.set_cons_zero, List.set_cons_succ, List.getElem?_cons_zero, List.getElem?_cons_succ, List.drop_succ_cons, List.drop_nil, List.take_zero, Option.getD_some, map_c, map_n, List.length_cons, List.length_nil, Nat.reduceAdd, Nat.reduceLeDiff, Nat.zero_add, List.nil_append, List.append_nil, bin_add, w64, if_true, true_and, and_true, R, happ]
    exact ⟨(i + 1, u3, A3), ⟨hlt, hu3⟩, by simp [Has, rd_s], rfl, by simp only; omega⟩
  · have hlt' : ¬ ((i : Int) < cs.length) := by omega
    simp (maxSteps := 4000000) -implicitDefEqProofs -dsimp (disch := omega) only [↓AW_ops, ↓AW_seq, ↓AW_cond, ↓AW_exit, ↓AW_ret, ↓AOps_nil, ↓AOps_pu, on_some, condB_f, ↓then_normal, ↓then_exit, ↓inBlock_exit, ↓Fin_ret, pval, rd_S, put_S, resV, resL, eq_self, mk, List.foldl_cons, List.foldl_nil, List.replicate_succ, List.replicate_zero, List.set_cons_zero, List.set_cons_succ, List.getElem?_cons_zero, List.getElem?_cons_succ, Option.getD_some, bin_lss, if_true, decide_false, hlt']
    rw [List.take_of_length_le (by omega)] at hu
    exact hu.gc flat_e2
/-- The rules, as the program makes them. -/
def rulesV (n : Nat) : AV := .agg [.fn 90 [], .fn 87 [], .fn 89 [.ptr n 0], .fn 91 [.ptr n 0, .ptr (n + 1) 0]]
def rulesH (A : AHeap) : AHeap := A ++ [.cells true [.fn 87 []]] ++ [.cells true [.fn 89 [.ptr A.length 0]]]
theorem rules_pre (A : AHeap) : A <+: rulesH A := (pre_app A _).trans (pre_app _ _)
theorem rules_g1 (A : AHeap) : (rulesH A)[A.length]? = some (.cells true [.fn 87 []]) := by
  unfold rulesH
  rw [List.getElem?_append_left (by simp), List.getElem?_append_right (by omega)]
  simp
theorem rules_g2 (A : AHeap) : (rulesH A)[A.length + 1]? = some (.cells true [.fn 89 [.ptr A.length 0]]) := by
  unfold rulesH
  rw [List.getElem?_append_right (by simp)]
  simp
theorem rules_l1 (A : AHeap) : ldA 1 false (.ptr A.length 0) (rulesH A) = some (.fn 87 []) := by
  simp [ldA, rules_g1, partA]
theorem rules_l2 (A : AHeap) : ldA 1 false (.ptr (A.length + 1) 0) (rulesH A) = some (.fn 89 [.ptr A.length 0]) := by
  simp [ldA, rules_g2, partA]
theorem c4 : ((4 : Nat) : Int) = 4 := rfl
theorem tn0 : Int.toNat 0 = 0 := rfl
theorem tn1 : Int.toNat 1 = 1 := rfl
theorem tn2 : Int.toNat 2 = 2 := rfl
theorem tn3 : Int.toNat 3 = 3 := rfl
theorem s79 (A : AHeap) : ACalls Try.prog 79 [] A (rulesV A.length) (rulesH A) := by
  refine acalls hmix Try.func79 (by kernel_rfl) t79 0 rfl (by decide) ?_
  have h1 : stA 1 (.ptr A.length 0) (.fn 87 []) (A ++ [.cells true [.nilF]]) = some (A ++ [.cells true [.fn 87 []]]) := by simp [stA, cells_fn, splice]
  have h2 : stA 1 (.ptr (A.length + 1) 0) (.fn 89 [.ptr A.length 0]) (A ++ [.cells true [.fn 87 []]] ++ [.cells true [.nilF]]) = some (rulesH A) := by
    unfold rulesH
    simp [stA, cells_fn, splice]
  have hlA : (A ++ [AObj.cells true [AV.fn 87 []]]).length = A.length + 1 := by simp
  dsimp only [m79]
  simp (maxSteps := 4000000) -implicitDefEqProofs -dsimp (disch := omega) only [↓AW_ops, ↓AW_seq, ↓AW_ret, ↓AOps_nil, ↓AOps_pu, ↓AOps_ld, ↓AOps_ha, on_some, extK_false, extK_app, ↓then_normal, ↓Fin_ret, pval, lval, hval_st, hval_newv, rd_S, rd_C, put_S, putS_none, resV, resL, chkd, bput, bgot, cells_agg, cells_fn, cells_nilF, splice, partA, fillA, eq_self, List.replicate_succ, List.replicate_zero, List.set_cons_zero, List.set_cons_succ, List.getElem?_cons_zero, List.getElem?_cons_succ, List.drop_zero, List.drop_succ_cons, List.drop_nil, List.take_zero, List.take_succ_cons, List.take_nil, Option.getD_some, Option.map_some, map_c, map_n, List.length_cons, List.length_nil, Nat.reduceAdd, Nat.reduceSub, Nat.reduceLeDiff, Nat.reduceEqDiff, Nat.zero_add, List.cons_append, List.nil_append, List.append_nil, if_true, if_false, and_true, ne_eq, not_true_eq_false, h1, hlA, h2, rules_l1, rules_l2]
  exact gc_all
/-- What a rule gives. -/
def byO (cs : List Int) (e : Int) (qs : List Rat) : List (Int × Int) := if vE cs e = 0 then qs.map rp else []
theorem s55p (hx : L1 A v cs) (hl : cs.length ≤ 1000000) : ACalls Try.prog 55 [I 0, v, I e] A (.tuple [outV 2 A (byO cs e (pts cs e)).length, I (vE cs e)]) (outH A ((byO cs e (pts cs e)).flatMap e2) (byO cs e (pts cs e)).length) := by
  refine acalls hmix Try.func55 (by kernel_rfl) t55 3 rfl (by decide) ?_
  dsimp only [m55]
  simp (maxSteps := 4000000) -implicitDefEqProofs -dsimp (disch := omega) only [↓AW_ops, ↓AW_seq, ↓AOps_nil, ↓AOps_pu, ↓AOps_call, on_some, ↓then_normal, pval, rd_S, rd_C, put_S, List.replicate_succ, List.replicate_zero, List.set_cons_zero, List.set_cons_succ, List.getElem?_cons_zero, List.getElem?_cons_succ, Option.getD_some, map_c, map_n, Nat.reduceSub, List.cons_append, List.nil_append]
  refine CallK.of (s16 hx hl e) ?_
  by_cases h0 : vE cs e = 0
  · have hO : byO cs e (pts cs e) = (pts cs e).map rp := if_pos h0
    have hc := vE_0.1 h0
    rw [hO, h0]
    simp (maxSteps := 4000000) -implicitDefEqProofs -dsimp (disch := omega) only [↓AW_skip, ↓AW_ops, ↓AW_seq, ↓AW_cond, ↓AOps_nil, ↓AOps_pu, ↓AOps_call, on_some, extK_same, condB_f, ↓then_normal, pval, rd_S, rd_C, put_S, eq_self, List.replicate_succ, List.replicate_zero, List.set_cons_zero, List.set_cons_succ, List.getElem?_cons_zero, List.getElem?_cons_succ, Option.getD_some, map_n, Nat.reduceSub, List.cons_append, List.nil_append, bin_neq, decide_false, not_true_eq_false]
    refine CallK.of (s79 A) ?_
    simp (maxSteps := 4000000) -implicitDefEqProofs -dsimp (disch := omega) only [↓AOps_pu, ↓AOps_callv, on_some, extK_false, CallF_fn, pval, rd_S, put_S, partA, eq_self, List.replicate_succ, List.replicate_zero, List.set_cons_zero, List.set_cons_succ, List.getElem?_cons_zero, List.getElem?_cons_succ, List.drop_zero, List.take_zero, List.take_succ_cons, List.take_nil, Option.getD_some, map_c, map_n, List.length_cons, List.length_nil, Nat.reduceAdd, Nat.reduceSub, Nat.reduceLeDiff, Nat.zero_add, List.cons_append, List.nil_append, List.append_nil, if_true, if_false, Bool.false_eq_true, and_true, Int.reduceLT, Int.reduceLE, rulesV, c4, tn0, Nat.zero_mul]
    refine CallK.of (s90 (hx.mono (rules_pre A)) hc) ?_
    simp (maxSteps := 4000000) -implicitDefEqProofs -dsimp (disch := omega) only [↓AW_ret, ↓AOps_nil, ↓AOps_pu, on_some, extK_false, ↓then_normal, ↓Fin_ret, pval, rd_S, rd_C, put_S, resV, resL, List.replicate_succ, List.replicate_zero, List.set_cons_zero, List.set_cons_succ, List.getElem?_cons_zero, List.getElem?_cons_succ, Option.getD_some, Nat.reduceSub, List.cons_append, List.nil_append]
    exact (AccL_out (rules_pre A) e2_len _).gc2 flat_e2 (I 0) rfl
  · have hO : byO cs e (pts cs e) = [] := if_neg h0
    rw [hO]
    simp (maxSteps := 4000000) -implicitDefEqProofs -dsimp (disch := omega) only [↓AW_ops, ↓AW_seq, ↓AW_cond, ↓AW_ret, ↓AOps_nil, ↓AOps_pu, on_some, extK_same, condB_t, ↓then_normal, ↓then_ret, ↓Fin_ret, pval, rd_S, rd_C, put_S, resV, resL, List.replicate_succ, List.replicate_zero, List.set_cons_zero, List.set_cons_succ, List.getElem?_cons_zero, List.getElem?_cons_succ, Option.getD_some, List.length_nil, Nat.reduceSub, List.cons_append, List.nil_append, bin_neq, decide_true, not_false_eq_true, h0]
    exact gc_same_all rfl rfl
theorem s18 (hx : L1 A v cs) (hl : cs.length ≤ 1000000) : ACalls Try.prog 18 [v, I e] A (.tuple [outV 2 A (byO cs e (pts cs e)).length, I (vE cs e)]) (outH A ((byO cs e (pts cs e)).flatMap e2) (byO cs e (pts cs e)).length) := by
  refine acalls hmix Try.func18 (by kernel_rfl) t18 2 rfl (by decide) ?_
  dsimp only [m18]
  simp (maxSteps := 4000000) -implicitDefEqProofs -dsimp (disch := omega) only [↓AW_ops, ↓AW_seq, ↓AOps_nil, ↓AOps_pu, ↓AOps_call, on_some, ↓then_normal, pval, rd_S, rd_C, put_S, List.replicate_succ, List.replicate_zero, List.set_cons_zero, List.set_cons_succ, List.getElem?_cons_zero, List.getElem?_cons_succ, Option.getD_some, map_c, map_n, Nat.reduceSub, List.cons_append, List.nil_append]
  refine CallK.of (s55p hx hl) ?_
  simp (maxSteps := 4000000) -implicitDefEqProofs -dsimp (disch := omega) only [↓AW_ret, ↓AOps_nil, ↓AOps_pu, on_some, extK_false, ↓then_normal, ↓Fin_ret, pval, rd_S, put_S, resV, resL, List.replicate_succ, List.replicate_zero, List.set_cons_zero, List.set_cons_succ, List.getElem?_cons_zero, List.getElem?_cons_succ, Option.getD_some, Nat.reduceSub, List.cons_append, List.nil_append]
  exact gc_all
theorem byO_chE {qs : List Rat} (h : vE cs e = 0 → chE cs e (qs.map rp) = 0) : chE cs e (byO cs e qs) = vE cs e := by
  by_cases h0 : vE cs e = 0
  · have hO : byO cs e qs = qs.map rp := if_pos h0
    rw [hO, h h0, h0]
  · have hO : byO cs e qs = [] := if_neg h0
    rw [chE_v h0]
theorem byO_len {qs : List Rat} (h : qs.length = cs.length) : (byO cs e qs).length ≤ cs.length := by
  unfold byO
  split
  · simp [h]
  · simp
end
end Go.Proofs.Ytdcdjhhjlpegjaa

namespace Go.Proofs.Ytdcdjhhjlpegjaa
open Go Go.Eng
/-- Numbers in ascending order. -/
def srt (xs : List Int) : List Int := xs.mergeSort (fun a b => decide (a ≤ b))
theorem srt_perm (xs : List Int) : (srt xs).Perm xs := List.mergeSort_perm xs _
theorem srt_pw (xs : List Int) : (srt xs).Pairwise (· ≤ ·) := by
  have := List.pairwise_mergeSort (le := fun a b : Int => decide (a ≤ b)) (fun a b c h k => by simp at *; omega) (fun a b => by simp; omega) xs
  exact this.imp (fun h => by simpa using h)
theorem srt_len (xs : List Int) : (srt xs).length = xs.length := (srt_perm xs).length_eq
theorem srt_uniq {zs xs : List Int} (hp : zs.Perm xs) (h : zs.Pairwise (· ≤ ·)) : zs = srt xs :=
  List.Perm.eq_of_pairwise (le := fun a b : Int => a ≤ b) (fun a b _ _ h1 h2 => by omega) h (srt_pw xs) (hp.trans (srt_perm xs).symm)
/-- The first elements are in order. -/
def SU (zs : List Int) (i : Nat) : Prop := ∀ (p q : Nat) (a b : Int), p < q → q < i → zs[p]? = some a → zs[q]? = some b → a ≤ b
theorem SU.one (zs : List Int) : SU zs 1 := fun p q a b h k => by omega
theorem SU.zero (zs : List Int) : SU zs 0 := fun p q a b h k => by omega
theorem SU.all {zs : List Int} (h : SU zs zs.length) : zs.Pairwise (· ≤ ·) := by
  rw [List.pairwise_iff_getElem]
  intro i j hi hj hij
  exact h i j _ _ hij hj (List.getElem?_eq_getElem hi) (List.getElem?_eq_getElem hj)
theorem SU.srt {zs xs : List Int} (hp : zs.Perm xs) {i : Nat} (h : SU zs i) (hi : xs.length ≤ i) : zs = srt xs := by
  refine srt_uniq hp (SU.all (fun p q a b h1 h2 => h p q a b h1 ?_))
  have := hp.length_eq
  omega
/-- An element that goes down to its place. -/
structure IS (xs zs : List Int) (i j : Nat) : Prop where
  perm : zs.Perm xs
  a : ∀ (p q : Nat) (a b : Int), p < q → q ≤ i → p ≠ j → q ≠ j → zs[p]? = some a → zs[q]? = some b → a ≤ b
  b : ∀ (q : Nat) (x y : Int), j < q → q ≤ i → zs[j]? = some x → zs[q]? = some y → x ≤ y
theorem IS.start {xs zs : List Int} {i : Nat} (hp : zs.Perm xs) (h : SU zs i) : IS xs zs i i :=
  ⟨hp, fun p q a b h1 h2 _ h4 => h p q a b h1 (by omega), fun q x y h1 h2 => by omega⟩
theorem IS.zero {xs zs : List Int} {i : Nat} (h : IS xs zs i 0) : SU zs (i + 1) := by
  intro p q a b h1 h2 h3 h4
  by_cases hp : p = 0
  · subst hp
    exact h.b q a b h1 (by omega) h3 h4
  · exact h.a p q a b h1 (by omega) hp (by omega) h3 h4
theorem IS.stop {xs zs : List Int} {i j : Nat} {x y : Int} (h : IS xs zs i (j + 1)) (hx : zs[j + 1]? = some x) (hy : zs[j]? = some y) (hxy : ¬ x < y) : SU zs (i + 1) := by
  intro p q a b h1 h2 h3 h4
  by_cases hq : q = j + 1
  · subst hq
    have hbx : b = x := by rw [hx] at h4; exact (Option.some.inj h4).symm
    subst hbx
    by_cases hp : p = j
    · subst hp
      have : a = y := by rw [hy] at h3; exact (Option.some.inj h3).symm
      omega
    · have := h.a p j a y (by omega) (by omega) (by omega) (by omega) h3 hy
      omega
  · by_cases hp : p = j + 1
    · subst hp
      exact h.b q a b h1 (by omega) h3 h4
    · exact h.a p q a b h1 (by omega) hp hq h3 h4
theorem swap_get {zs : List Int} {j : Nat} {x y : Int} (hj : j + 1 < zs.length) (k : Nat) : ((zs.set (j + 1) y).set j x)[k]? = if k = j then some x else if k = j + 1 then some y else zs[k]? := by
  rw [List.getElem?_set, List.getElem?_set]
  by_cases h1 : k = j
  · subst h1
    rw [if_pos rfl, if_pos rfl, if_pos (by simp; omega)]
  · rw [if_neg (Ne.symm h1), if_neg h1]
    by_cases h2 : k = j + 1
    · subst h2
      rw [if_pos rfl, if_pos rfl, if_pos hj]
    · rw [if_neg (Ne.symm h2), if_neg h2]
theorem IS.swap {xs zs : List Int} {i j : Nat} {x y : Int} (h : IS xs zs i (j + 1)) (hi : j + 1 ≤ i) (hx : zs[j + 1]? = some x) (hy : zs[j]? = some y) (hxy : x < y) : IS xs ((zs.set (j + 1) y).set j x) i j := by
  obtain ⟨h1, rfl⟩ := List.getElem?_eq_some_iff.1 hx
  obtain ⟨h2, rfl⟩ := List.getElem?_eq_some_iff.1 hy
  refine ⟨(List.set_set_perm h1 h2).trans h.perm, fun p q a b hpq hqi hp hq ha hb => ?_, fun q a b hjq hqi ha hb => ?_⟩
  · rw [swap_get h1] at ha hb
    rw [if_neg hp] at ha
    rw [if_neg hq] at hb
    by_cases hq1 : q = j + 1
    · rw [if_pos hq1] at hb
      rw [if_neg (by omega)] at ha
      have := h.a p j a zs[j] (by omega) (by omega) (by omega) (by omega) ha hy
      have := Option.some.inj hb
      omega
    · rw [if_neg hq1] at hb
      by_cases hp1 : p = j + 1
      · rw [if_pos hp1] at ha
        have := h.a j q zs[j] b (by omega) hqi (by omega) hq1 hy hb
        have := Option.some.inj ha
        omega
      · rw [if_neg hp1] at ha
        exact h.a p q a b hpq hqi hp1 hq1 ha hb
  · rw [swap_get h1] at ha hb
    rw [if_pos rfl] at ha
    rw [if_neg (by omega)] at hb
    have ha := Option.some.inj ha
    by_cases hq1 : q = j + 1
    · rw [if_pos hq1] at hb
      have := Option.some.inj hb
      omega
    · rw [if_neg hq1] at hb
      have := h.b q _ b (by omega) hqi hx hb
      omega
theorem s109 (a : Int) (A : AHeap) : ACalls Try.prog 109 [I a] A (B false) A := by
  refine acalls hmix Try.func109 (by kernel_rfl) t109 1 rfl (by decide) ?_
  dsimp only [m109]
  simp (maxSteps := 4000000) -implicitDefEqProofs -dsimp (disch := omega) only [↓AW_ops, ↓AW_seq, ↓AW_ret, ↓AOps_nil, ↓AOps_pu, on_some, ↓then_normal, ↓Fin_ret, pval, rd_S, rd_C, put_S, resV, resL, eq_self, List.replicate_succ, List.replicate_zero, List.set_cons_zero, List.set_cons_succ, List.getElem?_cons_zero, List.getElem?_cons_succ, Option.getD_some, Nat.reduceSub, List.cons_append, List.nil_append, bin_neq, decide_false, not_true_eq_false]
  exact gc_same rfl
theorem s98 (a b : Int) (A : AHeap) : ACalls Try.prog 98 [I a, I b] A (B (decide (a < b))) A := by
  refine acalls hmix Try.func98 (by kernel_rfl) t98 2 rfl (by decide) ?_
  dsimp only [m98]
  simp (maxSteps := 4000000) -implicitDefEqProofs -dsimp (disch := omega) only [↓AW_ops, ↓AW_seq, ↓AOps_nil, ↓AOps_pu, ↓AOps_call, on_some, ↓then_normal, pval, rd_S, rd_C, put_S, List.replicate_succ, List.replicate_zero, List.set_cons_zero, List.set_cons_succ, List.getElem?_cons_zero, List.getElem?_cons_succ, Option.getD_some, map_c, map_n, Nat.reduceSub, List.cons_append, List.nil_append]
  refine CallK.of (s109 a A) ?_
  simp (maxSteps := 4000000) -implicitDefEqProofs -dsimp (disch := omega) only [↓AW_ret, ↓AOps_nil, ↓AOps_pu, ↓AOps_guard, on_some, extK_same, guardB_ft, guardB_ff, skipS_some, ↓then_normal, ↓Fin_ret, pval, rd_S, rd_C, put_S, resV, resL, List.replicate_succ, List.replicate_zero, List.set_cons_zero, List.set_cons_succ, List.getElem?_cons_zero, List.getElem?_cons_succ, Option.getD_some, Nat.reduceSub, List.cons_append, List.nil_append, bin_lss, if_false, Bool.false_eq_true]
  exact gc_same rfl
theorem c_ins {xs : List Int} {v : AV} {A H : AHeap} {n : Nat} (h : OL 1 e1 A H n v xs) (hl : xs.length ≤ 1000) : ACalls Try.prog 92 [v, I 0, I xs.length] H (.tuple []) (H.set n (.cells true ((srt xs).flatMap e1))) := by
  refine acalls hmix Try.func92 (by kernel_rfl) t92 3 rfl (by decide) ?_
  dsimp only [m92]
  simp (maxSteps := 4000000) -implicitDefEqProofs -dsimp (disch := omega) only [↓AW_ops, ↓AW_seq, ↓AW_block, ↓AOps_nil, ↓AOps_pu, on_some, ↓then_normal, pval, rd_S, rd_C, put_S, ↓AW_toLoop, List.replicate_succ, List.replicate_zero, List.set_cons_zero, List.set_cons_succ, List.getElem?_cons_zero, List.getElem?_cons_succ, Option.getD_some, Nat.reduceSub, List.cons_append, List.nil_append, bin_add, w64, Int.reduceAdd]
  refine LoopK.by 49 (fun x : Nat × List Int => (1 ≤ x.1 ∧ x.1 ≤ xs.length + 1) ∧ x.2.Perm xs ∧ SU x.2 x.1) (fun x => [(0, v), (1, I 0), (2, I xs.length), (6, I x.1)]) (fun x => H.set n (.cells true (x.2.flatMap e1))) (fun x => xs.length + 1 - x.1) (1, xs) ⟨by simp only; omega, List.Perm.refl _, SU.one _⟩ rfl (by simp [Has, rd_s]) (by simp only; rw [set_same h.ob]) ?_
  rintro ⟨i, zs⟩ ⟨hi, hpz, hz⟩
  simp only at hi hpz hz
  by_cases hlt : i < xs.length
  · have hlt' : (i : Int) < xs.length := by omega
    simp (maxSteps := 4000000) -implicitDefEqProofs -dsimp (disch := omega) only [↓AW_skip, ↓AW_ops, ↓AW_seq, ↓AW_cond, ↓AW_block, ↓AOps_nil, ↓AOps_pu, on_some, condB_t, ↓then_normal, pval, rd_S, put_S, ↓AW_toLoop, mk, List.foldl_cons, List.foldl_nil, List.replicate_succ, List.replicate_zero, List.set_cons_zero, List.set_cons_succ, List.getElem?_cons_zero, List.getElem?_cons_succ, Option.getD_some, bin_lss, decide_true, hlt']
    refine LoopK.by 49 (fun x : Nat × List Int => x.1 ≤ i ∧ IS xs x.2 i x.1) (fun x => [(0, v), (1, I 0), (2, I xs.length), (6, I i), (7, I x.1)]) (fun x => H.set n (.cells true (x.2.flatMap e1))) (fun x => x.1) (i, zs) ⟨by simp only; omega, IS.start hpz hz⟩ rfl (by simp [Has, rd_s]) rfl ?_
    rintro ⟨j, ws⟩ ⟨hj, hs⟩
    simp only at hj hs
    have hlen := hs.perm.length_eq
    have ho := OL_setAll h ws hlen
    cases j with
    | zero =>
      have hz0 : ¬ ((0 : Nat) : Int) > 0 := by omega
      simp (maxSteps := 4000000) -implicitDefEqProofs -dsimp (disch := omega) only [↓AW_ops, ↓AW_seq, ↓AW_cond, ↓AW_exit, ↓AOps_nil, ↓AOps_pu, ↓AOps_guard, on_some, guardB_ft, skipS_some, condB_f, ↓then_normal, ↓then_exit, ↓inBlock_normal, ↓inBlock_exit, ↓Fin_normal, pval, rd_S, rd_C, put_S, resV, resL, eq_self, mk, List.foldl_cons, List.foldl_nil, List.replicate_succ, List.replicate_zero, List.set_cons_zero, List.set_cons_succ, List.getElem?_cons_zero, List.getElem?_cons_succ, Option.getD_some, List.length_cons, List.length_nil, Nat.reduceAdd, Nat.reduceEqDiff, Nat.zero_add, bin_add, bin_gtr, w64, if_true, if_false, Bool.false_eq_true, decide_false, true_and, reduceCtorEq, Int.reduceLT, Int.ofNat_zero]
      exact ⟨(i + 1, ws), ⟨by simp only; omega, hs.perm, hs.zero⟩, by simp [Has, rd_s], rfl, by simp only; omega⟩
    | succ k =>
      have hk1 : k + 1 < ws.length := by omega
      have hk0 : k < ws.length := by omega
      have hjp : (0 : Int) < ((k + 1 : Nat) : Int) := by omega
      have hjm : ((k + 1 : Nat) : Int) - 1 = (k : Int) := by omega
      obtain ⟨x, hx⟩ : ∃ x, ws[k + 1]? = some x := ⟨_, List.getElem?_eq_getElem hk1⟩
      obtain ⟨y, hy⟩ : ∃ y, ws[k]? = some y := ⟨_, List.getElem?_eq_getElem hk0⟩
      have h1 := ho.st hk1 (I y) y rfl
      rw [List.set_set] at h1
      have ho2 := OL_setAll h (ws.set (k + 1) y) (by simp [hlen])
      have h2 := ho2.st (i := k) (by simp; omega) (I x) x rfl
      rw [List.set_set] at h2
      have hswap := hs.swap (x := x) (y := y) hj hx hy
      have hstop := hs.stop hx hy
      generalize hJ : ((k + 1 : Nat) : Int) = J at *
      have hidx1 : idxA 1 v (.int .i64 J) = some (.ptr (nm v) (of v + (k + 1) * 1)) := by rw [← hJ]; exact ho.ls.idx hk1
      simp (maxSteps := 4000000) -implicitDefEqProofs -dsimp (disch := omega) only [↓AW_ops, ↓AW_seq, ↓AOps_pu, ↓AOps_ld, ↓AOps_call, ↓AOps_guard, on_some, guardB_tt, pval, lval, rd_S, rd_C, put_S, partA, eq_self, mk, List.foldl_cons, List.foldl_nil, List.replicate_succ, List.replicate_zero, List.set_cons_zero, List.set_cons_succ, List.getElem?_cons_zero, List.getElem?_cons_succ, List.drop_zero, List.take_succ_cons, List.take_nil, Option.getD_some, map_c, map_n, List.length_cons, List.length_nil, Nat.reduceLeDiff, Nat.zero_add, bin_sub, bin_gtr, w64, if_true, if_false, Bool.false_eq_true, decide_true, Go.Eng.e1, hjp, hjm, hidx1, ho.ls.ld0 hx 1 false (by decide), ho.ls.idx hk0, ho.ls.ld0 hy 1 false (by decide)]
      refine CallK.of (s98 x y _) ?_
      by_cases hxy : x < y
      · simp (maxSteps := 4000000) -implicitDefEqProofs -dsimp (disch := omega) only [↓AW_skip, ↓AW_ops, ↓AW_seq, ↓AW_cond, ↓AW_block, ↓AOps_nil, ↓AOps_pu, ↓AOps_ld, ↓AOps_ha, on_some, extK_false, extK_same, condB_t, ↓then_normal, ↓inBlock_normal, pval, lval, hval_st, rd_S, rd_C, put_S, putS_none, partA, eq_self, mk, List.foldl_cons, List.foldl_nil, List.replicate_succ, List.replicate_zero, List.set_cons_zero, List.set_cons_succ, List.getElem?_cons_zero, List.getElem?_cons_succ, List.drop_zero, List.take_succ_cons, List.take_nil, Option.getD_some, Option.map_some, List.length_cons, List.length_nil, Nat.reduceAdd, Nat.reduceLeDiff, Nat.zero_add, bin_sub, w64, if_true, if_false, Bool.false_eq_true, decide_true, Go.Eng.e1, true_and, hxy, hjm, hidx1, ho.ls.ld0 hx 1 false (by decide), ho.ls.idx hk0, ho.ls.ld0 hy 1 false (by decide), h1, h2]
        exact ⟨(k, (ws.set (k + 1) y).set k x), ⟨by simp only; omega, hswap hxy⟩, by simp [Has, rd_s], rfl, by simp only; omega⟩
      · simp (maxSteps := 4000000) -implicitDefEqProofs -dsimp (disch := omega) only [↓AW_ops, ↓AW_cond, ↓AW_exit, ↓AOps_nil, ↓AOps_pu, on_some, extK_same, condB_f, ↓then_normal, ↓then_exit, ↓inBlock_normal, ↓inBlock_exit, ↓Fin_normal, pval, rd_S, rd_C, put_S, resV, resL, eq_self, mk, List.foldl_cons, List.foldl_nil, List.replicate_succ, List.replicate_zero, List.set_cons_zero, List.set_cons_succ, List.getElem?_cons_zero, List.getElem?_cons_succ, Option.getD_some, List.length_cons, List.length_nil, Nat.reduceAdd, Nat.reduceEqDiff, Nat.zero_add, bin_add, w64, if_true, if_false, decide_false, true_and, reduceCtorEq, hxy]
        exact ⟨(i + 1, ws), ⟨by simp only; omega, hs.perm, hstop hxy⟩, by simp [Has, rd_s], rfl, by simp only; omega⟩
  · have hlt' : ¬ (i : Int) < xs.length := by omega
    have he := SU.srt hpz hz (by omega)
    simp (maxSteps := 4000000) -implicitDefEqProofs -dsimp (disch := omega) only [↓AW_ops, ↓AW_seq, ↓AW_cond, ↓AW_exit, ↓AOps_nil, ↓AOps_pu, on_some, condB_f, ↓then_normal, ↓then_exit, ↓inBlock_exit, ↓Fin_normal, pval, rd_S, put_S, resV, resL, eq_self, mk, List.foldl_cons, List.foldl_nil, List.replicate_succ, List.replicate_zero, List.set_cons_zero, List.set_cons_succ, List.getElem?_cons_zero, List.getElem?_cons_succ, Option.getD_some, bin_lss, if_true, decide_false, hlt']
    rw [he]
    exact gc_same_all rfl rfl
theorem c_pdq {xs : List Int} {v : AV} {A H : AHeap} {n : Nat} (h : OL 1 e1 A H n v xs) (hl : xs.length ≤ 12) (k : Int) : ACalls Try.prog 83 [v, I 0, I xs.length, I k] H (.tuple []) (H.set n (.cells true ((srt xs).flatMap e1))) := by
  refine acalls hmix Try.func83 (by kernel_rfl) t83 4 rfl (by decide) ?_
  dsimp only [m83]
  simp (maxSteps := 4000000) -implicitDefEqProofs -dsimp (disch := omega) only [↓AW_ops, ↓AW_seq, ↓AW_block, ↓AOps_nil, ↓AOps_pu, on_some, ↓then_normal, pval, rd_C, put_S, ↓AW_toLoop, List.replicate_succ, List.replicate_zero, List.set_cons_zero, List.set_cons_succ, Nat.reduceSub, List.cons_append, List.nil_append]
  refine LoopK.by 134 (fun _ : Unit => True) (fun _ => [(0, v), (1, I 0), (2, I xs.length), (3, I k), (8, B true), (9, B true)]) (fun _ => H) (fun _ => 0) () trivial rfl (by simp [Has, rd_s]) rfl ?_
  rintro _ _
  have h12 : (xs.length : Int) ≤ 12 := by omega
  have h0 : (xs.length : Int) - 0 = xs.length := by omega
  simp (maxSteps := 4000000) -implicitDefEqProofs -dsimp (disch := omega) only [↓AW_ops, ↓AW_seq, ↓AW_cond, ↓AW_block, ↓AOps_nil, ↓AOps_pu, ↓AOps_call, on_some, condB_t, ↓then_normal, pval, rd_S, rd_C, put_S, mk, List.foldl_cons, List.foldl_nil, List.replicate_succ, List.replicate_zero, List.set_cons_zero, List.set_cons_succ, List.getElem?_cons_zero, List.getElem?_cons_succ, Option.getD_some, map_c, map_n, bin_sub, bin_leq, w64, decide_true, h0, h12]
  refine CallK.of (c_ins h (by omega)) ?_
  simp (maxSteps := 4000000) -implicitDefEqProofs -dsimp (disch := omega) only [↓AW_ret, ↓AOps_nil, on_some, extK_false, ↓then_normal, ↓then_ret, ↓inBlock_ret, ↓Fin_ret, resV, resL]
  exact gc_same_all rfl rfl
def isI : Option (AV × AHeap) → Bool
  | some (.int .i64 _, _) => true
  | _ => false
set_option maxRecDepth 100000 in
theorem len_run : (List.range 13).all (fun k => isI (runF tab 300 14 84 [.int .u64 (k : Int)] [])) = true := by kernel_rfl
theorem c_Len {k : Nat} (hk : k ≤ 12) (A : AHeap) : ∃ n : Int, ACalls Try.prog 84 [.int .u64 (k : Int)] A (I n) A := by
  have h := List.all_eq_true.1 len_run k (List.mem_range.2 (by omega))
  cases hr : runF tab 300 14 84 [.int .u64 (k : Int)] [] with
  | none => rw [hr] at h; cases h
  | some p =>
    obtain ⟨v, A'⟩ := p
    rw [hr] at h
    have h2 : ∃ n, v = I n := by
      unfold isI at h
      split at h
      · rename_i m _ e; cases e; exact ⟨m, rfl⟩
      · cases h
    obtain ⟨n, rfl⟩ := h2
    exact ⟨n, (runF_ok hmix tabOK 300 14 84 [.int .u64 (k : Int)] [] _ _ hr).lift (by simp [flat]) rfl A⟩
theorem wu64 {n : Int} (h0 : 0 ≤ n) (h1 : n < 18446744073709551616) : IntKind.u64.wrap n = n := by
  have : (2 : Int) ^ IntKind.u64.bits = 18446744073709551616 := by decide
  unfold IntKind.wrap
  simp only [this, IntKind.signed, Bool.false_and, Bool.false_eq_true, if_false]
  exact Int.emod_eq_of_lt h0 h1
theorem c_Sort {xs : List Int} {v : AV} {A H : AHeap} {n : Nat} (h : OL 1 e1 A H n v xs) (hl : xs.length ≤ 12) : ACalls Try.prog 72 [v] H (.tuple []) (H.set n (.cells true ((srt xs).flatMap e1))) := by
  refine acalls hmix Try.func72 (by kernel_rfl) t72 1 rfl (by decide) ?_
  obtain ⟨k, hk⟩ := c_Len hl H
  have hw := wu64 (n := (xs.length : Int)) (by omega) (by omega)
  dsimp only [m72]
  simp (maxSteps := 4000000) -implicitDefEqProofs -dsimp (disch := omega) only [↓AW_ops, ↓AW_seq, ↓AOps_nil, ↓AOps_pu, ↓AOps_call, on_some, ↓then_normal, pval, rd_S, put_S, List.replicate_succ, List.replicate_zero, List.set_cons_zero, List.set_cons_succ, List.getElem?_cons_zero, List.getElem?_cons_succ, Option.getD_some, map_c, map_n, Nat.reduceSub, List.cons_append, List.nil_append, h.ls.len, hw]
  refine CallK.of hk ?_
  simp (maxSteps := 4000000) -implicitDefEqProofs -dsimp (disch := omega) only [↓AOps_call, extK_same, rd_S, rd_C, put_S, List.replicate_succ, List.replicate_zero, List.set_cons_zero, List.set_cons_succ, List.getElem?_cons_zero, List.getElem?_cons_succ, Option.getD_some, map_c, map_n, Nat.reduceSub, List.cons_append, List.nil_append]
  refine CallK.of (c_pdq h hl k) ?_
  simp (maxSteps := 4000000) -implicitDefEqProofs -dsimp (disch := omega) only [↓AOps_nil, on_some, extK_false, ↓Fin_normal, resV, resL]
  exact gc_same_all rfl rfl
end Go.Proofs.Ytdcdjhhjlpegjaa

namespace Go.Proofs.Ytdcdjhhjlpegjaa
open Go Go.Eng
/-- The smaller one of a claim and a number. -/
def mnq (c : Int) (l : Rat) : Rat := if (c : Rat) < l then (c : Rat) else l
def lev : List Int → Int → Rat
  | [], _ => 0
  | c :: s, left => if left ≤ c * ((s.length : Int) + 1) then (left : Rat) / (((s.length : Int) + 1 : Int) : Rat) else lev s (left - c)
/-- The number for an estate. -/
def lv (cs : List Int) (e : Int) : Rat := lev (srt cs) e
def capL (cs : List Int) (l : Rat) : List Rat := cs.map (fun c => mnq c l)
theorem mnq_le (c : Int) (l : Rat) : mnq c l ≤ l ∧ mnq c l ≤ (c : Rat) := by
  unfold mnq
  split
  · rename_i h; exact ⟨Rat.le_of_lt h, Rat.le_refl⟩
  · rename_i h; exact ⟨Rat.le_refl, Rat.not_lt.1 h⟩
theorem mnq_ge {c : Int} {l m : Rat} (h1 : m ≤ l) (h2 : m ≤ (c : Rat)) : m ≤ mnq c l := by
  unfold mnq; split <;> assumption
theorem mnq_c {c : Int} {l : Rat} (h : (c : Rat) ≤ l) : mnq c l = (c : Rat) := by
  unfold mnq
  split
  · rfl
  · rename_i h2; exact Rat.le_antisymm (Rat.not_lt.1 h2) h
theorem mnq_l {c : Int} {l : Rat} (h : l ≤ (c : Rat)) : mnq c l = l := by
  unfold mnq
  rw [if_neg (Rat.not_lt.2 h)]
theorem mnq_mono (c : Int) {l m : Rat} (h : l ≤ m) : mnq c l ≤ mnq c m := mnq_ge (Rat.le_trans (mnq_le c l).1 h) (mnq_le c l).2
theorem perm_sum {α : Type} (f : α → Rat) {xs ys : List α} (h : xs.Perm ys) : (xs.map f).sum = (ys.map f).sum := by
  induction h with
  | nil => rfl
  | cons x _ ih => rw [List.map_cons, List.map_cons, List.sum_cons, List.sum_cons, ih]
  | swap x y l =>
    simp only [List.map_cons, List.sum_cons]
    rw [← Rat.add_assoc, ← Rat.add_assoc, Rat.add_comm (f y)]
  | trans _ _ h1 h2 => exact h1.trans h2
theorem perm_isum {xs ys : List Int} (h : xs.Perm ys) : xs.sum = ys.sum := by
  induction h with
  | nil => rfl
  | cons x _ ih => rw [List.sum_cons, List.sum_cons, ih]
  | swap x y l => simp only [List.sum_cons]; omega
  | trans _ _ h1 h2 => exact h1.trans h2
theorem sum_le {α : Type} {f g : α → Rat} : ∀ {xs : List α}, (∀ x ∈ xs, f x ≤ g x) → (xs.map f).sum ≤ (xs.map g).sum
  | [], _ => Rat.le_refl
  | x :: xs, h => by
    rw [List.map_cons, List.map_cons, List.sum_cons, List.sum_cons]
    have h1 := h x (by simp)
    have h2 := sum_le (fun y hy => h y (by simp [hy])) (f := f) (g := g) (xs := xs)
    grind
theorem sum_lt {α : Type} {f g : α → Rat} : ∀ {xs : List α}, (∀ x ∈ xs, f x ≤ g x) → (∃ x ∈ xs, f x < g x) → (xs.map f).sum < (xs.map g).sum
  | [], _, h => by obtain ⟨x, hx, _⟩ := h; simp at hx
  | x :: xs, h, k => by
    rw [List.map_cons, List.map_cons, List.sum_cons, List.sum_cons]
    have h0 := h x (by simp)
    have hr := sum_le (fun y hy => h y (by simp [hy])) (f := f) (g := g) (xs := xs)
    obtain ⟨y, hy, hl⟩ := k
    rcases List.mem_cons.1 hy with rfl | hy
    · grind
    · have := sum_lt (fun y hy => h y (by simp [hy])) ⟨y, hy, hl⟩ (f := f) (g := g) (xs := xs)
      grind
theorem sum_const (l : Rat) : ∀ xs : List Int, (xs.map (fun _ => l)).sum = ((xs.length : Int) : Rat) * l
  | [] => by simp only [List.map_nil, List.sum_nil, List.length_nil]; show (0 : Rat) = ((0 : Int) : Rat) * l; rw [int0, Rat.zero_mul]
  | x :: xs => by
    rw [List.map_cons, List.sum_cons, sum_const l xs, List.length_cons]
    have : (((xs.length + 1 : Nat) : Int) : Rat) = ((xs.length : Int) : Rat) + 1 := by rw [Int.natCast_add, Rat.intCast_add]; rfl
    rw [this, Rat.add_mul, Rat.one_mul, Rat.add_comm]
theorem cap_sum_le (cs : List Int) (l : Rat) : (capL cs l).sum ≤ ((cs.length : Int) : Rat) * l := by
  rw [← sum_const l cs]
  exact sum_le (fun c _ => (mnq_le c l).1)
/-- What the number is. -/
structure LV (cs : List Int) (e : Int) (l : Rat) : Prop where
  l0 : 0 ≤ l
  lc : ∃ c ∈ cs, l ≤ (c : Rat)
  s : (capL cs l).sum = (e : Rat)
theorem LV.uniq {cs : List Int} {e : Int} {l m : Rat} (h : LV cs e l) (k : LV cs e m) : l = m := by
  have key : ∀ {l m : Rat}, LV cs e l → LV cs e m → ¬ l < m := by
    intro l m h k hlt
    obtain ⟨c, hc, hm⟩ := k.lc
    have := sum_lt (f := fun c => mnq c l) (g := fun c => mnq c m) (xs := cs) (fun c _ => mnq_mono c (Rat.le_of_lt hlt)) ⟨c, hc, by
      rw [mnq_l hm, mnq_l (Rat.le_trans (Rat.le_of_lt hlt) hm)]
      exact hlt⟩
    have h1 := h.s
    have h2 := k.s
    unfold capL at h1 h2
    rw [h1, h2] at this
    exact absurd this (Rat.lt_irrefl)
  exact Rat.le_antisymm (Rat.not_lt.1 (key k h)) (Rat.not_lt.1 (key h k))
theorem div_mul_same {a : Rat} {n : Int} (h : 0 < n) : (n : Rat) * (a / (n : Rat)) = a := by
  rw [Rat.mul_comm]
  exact Rat.div_mul_cancel (Ne.symm (Rat.ne_of_lt (cast_pos h)))
theorem lev_char : ∀ (s : List Int) (left : Int), s.Pairwise (· ≤ ·) → (∀ c ∈ s, 0 ≤ c) → s ≠ [] → 0 ≤ left → left ≤ s.sum → LV s left (lev s left) ∧ ∃ k : Int, (1 ≤ k ∧ k ≤ s.length) ∧ ((lev s left).den : Int) ∣ k
  | [], _, _, _, h, _, _ => absurd rfl h
  | c :: s, left, hp, h0, _, hl0, hl1 => by
    have hc0 := h0 c (by simp)
    rw [List.pairwise_cons] at hp
    have hn : (0 : Int) < (s.length : Int) + 1 := by omega
    have hnr := cast_pos hn
    rw [lev]
    split
    · rename_i hle
      generalize hl : (left : Rat) / (((s.length : Int) + 1 : Int) : Rat) = l at *
      have hlc : l ≤ (c : Rat) := by
        rw [← hl]
        refine div_le hnr ?_
        rw [← Rat.intCast_mul]
        exact Rat.intCast_le_intCast.2 hle
      refine ⟨⟨?_, ⟨c, by simp, hlc⟩, ?_⟩, (s.length : Int) + 1, ⟨by omega, by simp⟩, ?_⟩
      · rw [← hl]; exact div_ge0 hnr (cast_nonneg hl0)
      · have e1 : capL (c :: s) l = (c :: s).map (fun _ => l) := by
          unfold capL
          refine List.map_congr_left (fun x hx => mnq_l ?_)
          rcases List.mem_cons.1 hx with rfl | hx
          · exact hlc
          · exact Rat.le_trans hlc (Rat.intCast_le_intCast.2 (hp.1 x hx))
        rw [e1, sum_const, ← hl, List.length_cons]
        have : ((s.length + 1 : Nat) : Int) = (s.length : Int) + 1 := by omega
        rw [this, div_mul_same hn]
      · rw [← hl]; exact div_den hn
    · rename_i hle
      have hs : s ≠ [] := by
        rintro rfl
        simp only [List.sum_cons, List.sum_nil, List.length_nil] at hl1 hle
        omega
      have hlen : 0 < s.length := List.length_pos_iff.2 hs
      have hsp : c * ((s.length : Int) + 1) = c * s.length + c := by rw [Int.mul_add, Int.mul_one]
      have hcs : 0 ≤ c * (s.length : Int) := Int.mul_nonneg hc0 (by omega)
      rw [List.sum_cons] at hl1
      obtain ⟨hL, k, hk, hd⟩ := lev_char s (left - c) hp.2 (fun x hx => h0 x (by simp [hx])) hs (by omega) (by omega)
      generalize lev s (left - c) = l at *
      have hcl : (c : Rat) ≤ l := by
        have h1 := cap_sum_le s l
        rw [hL.s] at h1
        have h2 : ((c * (s.length : Int) : Int) : Rat) ≤ ((left - c : Int) : Rat) := Rat.intCast_le_intCast.2 (by omega)
        have h3 := Rat.le_trans h2 h1
        rw [Rat.intCast_mul, Rat.mul_comm] at h3
        exact Rat.le_of_mul_le_mul_left h3 (cast_pos (by omega))
      obtain ⟨d, hdm, hdl⟩ := hL.lc
      refine ⟨⟨hL.l0, ⟨d, by simp [hdm], hdl⟩, ?_⟩, k, ⟨hk.1, by simp only [List.length_cons]; omega⟩, hd⟩
      show (mnq c l :: capL s l).sum = (left : Rat)
      rw [List.sum_cons, hL.s, mnq_c hcl, Rat.intCast_sub]
      grind
/-- The number, for a case. -/
theorem lv_char {cs : List Int} {e : Int} (h : CE cs e) : LV cs e (lv cs e) ∧ ∃ k : Int, (1 ≤ k ∧ k ≤ cs.length) ∧ ((lv cs e).den : Int) ∣ k := by
  have hp := srt_perm cs
  have hl1 := h.ok.l1
  obtain ⟨hL, k, hk, hd⟩ := lev_char (srt cs) e (srt_pw cs) (fun c hc => (h.ok.c c (hp.mem_iff.1 hc)).1) (by intro e2; have := srt_len cs; rw [e2] at this; simp at this; omega) h.e0 (by rw [perm_isum hp]; exact h.e1)
  refine ⟨⟨hL.l0, ?_, ?_⟩, k, ⟨hk.1, by have := srt_len cs; omega⟩, hd⟩
  · obtain ⟨c, hc, hcl⟩ := hL.lc
    exact ⟨c, hp.mem_iff.1 hc, hcl⟩
  · have := hL.s
    unfold capL at this ⊢
    rw [← perm_sum _ hp]
    exact this
theorem num_bd {q : Rat} {M : Int} (h0 : 0 ≤ q) (h1 : q ≤ (M : Rat)) : 0 ≤ q.num ∧ q.num ≤ M * (q.den : Int) := by
  have hdp := den_pos q
  have hne := cast_pos hdp
  have e := R_self q
  have hn : ((q.num : Int) : Rat) = q * ((q.den : Int) : Rat) := by
    conv => rhs; lhs; rw [e]
    exact (Rat.div_mul_cancel (Ne.symm (Rat.ne_of_lt hne))).symm
  constructor
  · refine Rat.intCast_le_intCast.1 ?_
    rw [hn, int0]
    exact Rat.mul_nonneg h0 (Rat.le_of_lt hne)
  · refine Rat.intCast_le_intCast.1 ?_
    rw [hn, Rat.intCast_mul]
    exact Rat.mul_le_mul_of_nonneg_right h1 (Rat.le_of_lt hne)
/-- Numbers from 0 to 1000 with a small denominator. -/
structure SQ (q : Rat) : Prop where
  q0 : 0 ≤ q
  q1 : q ≤ ((1000 : Int) : Rat)
  d : (q.den : Int) ≤ 1000
theorem SQ.num {q : Rat} (h : SQ q) : 0 ≤ q.num ∧ q.num ≤ 1000000 := by
  have := num_bd h.q0 h.q1
  have := h.d
  omega
theorem SQ.bd {q : Rat} (h : SQ q) : bdR (rp q) := by
  have h1 := h.num
  have h2 := h.d
  have h3 := den_pos q
  exact ⟨⟨by show 1 ≤ (q.den : Int); omega, by show (q.den : Int) ≤ 1000000; omega⟩, by show 0 ≤ q.num; omega, by show q.num ≤ 1000000000000; omega⟩
theorem SQ.int {c : Int} (h : 0 ≤ c ∧ c ≤ 1000) : SQ (c : Rat) := ⟨cast_nonneg h.1, Rat.intCast_le_intCast.2 h.2, by rw [Rat.den_intCast]; decide⟩
theorem SQ.mnq {c : Int} {l : Rat} (hc : 0 ≤ c ∧ c ≤ 1000) (hl : SQ l) : SQ (mnq c l) := by
  unfold Go.Proofs.Ytdcdjhhjlpegjaa.mnq
  split
  · exact SQ.int hc
  · exact hl
theorem lv_sq {cs : List Int} {e : Int} (h : CE cs e) : SQ (lv cs e) := by
  obtain ⟨hL, k, hk, hd⟩ := lv_char h
  have hl8 := h.ok.l8
  obtain ⟨c, hc, hcl⟩ := hL.lc
  have := Int.le_of_dvd (by omega) hd
  exact ⟨hL.l0, Rat.le_trans hcl (Rat.intCast_le_intCast.2 (h.ok.c c hc).2), by omega⟩
theorem mnq_iff {c : Int} {l : Rat} : c * (l.den : Int) < l.num ↔ (c : Rat) < l := by
  have hdp := den_pos l
  have hne := cast_pos hdp
  have e := R_self l
  have hn : ((l.num : Int) : Rat) = l * ((l.den : Int) : Rat) := by
    conv => rhs; lhs; rw [e]
    exact (Rat.div_mul_cancel (Ne.symm (Rat.ne_of_lt hne))).symm
  rw [← Rat.intCast_lt_intCast, hn, Rat.intCast_mul]
  constructor
  · intro h; exact Rat.lt_of_mul_lt_mul_right h (Rat.le_of_lt hne)
  · intro h; exact Rat.mul_lt_mul_of_pos_right h hne
end Go.Proofs.Ytdcdjhhjlpegjaa

namespace Go.Proofs.Ytdcdjhhjlpegjaa
open Go Go.Eng
theorem OL_gcS {α : Type} {es : Nat} {e : α → List AV} {A H : AHeap} {n : Nat} {v : AV} {xs : List α} (h : OL es e A H n v xs) (hf : ∀ x, ∀ y ∈ e x, flat y = true) : GC A v H (.sl es A.length 0 xs.length false) (A ++ [.cells true (xs.flatMap e)]) := by
  obtain ⟨he, h1, h2, h3, full, rfl⟩ := h
  have hfl : ∀ y ∈ xs.flatMap e, flat y = true := fun y hy => by
    obtain ⟨x, _, hx⟩ := List.mem_flatMap.1 hy
    exact hf x y hx
  refine gc_weak (fun ρ c => VR.unfull) ?_
  have hk := Keep.add (keep_old h1) (n := n) (o := .cells true (xs.flatMap e)) h2 (by simp; omega) h3
  simp only [renO, ren_flats _ 3 _ hfl] at hk
  exact gc_keep hk (by simp [ren])
theorem c_CloneI {xs : List Int} {v : AV} {A : AHeap} (hx : L1 A v xs) (h0 : 0 < xs.length) (hl : xs.length ≤ 1000000) :
    ACalls Try.prog 103 [v] A (.sl 1 A.length 0 xs.length false) (A ++ [.cells true (xs.flatMap e1)]) := by
  refine acalls hmix Try.func103 (by kernel_rfl) t103 1 rfl (by decide) ?_
  have hn := Ls_nn hx h0
  obtain ⟨v', n, H2, happ, ho⟩ := app_new hx (by simp [lim]; omega)
  rcases hx.inv with ⟨rfl, _⟩ | ⟨n', off, full, rw, l, rfl, _⟩
  · exact absurd rfl hn
  · dsimp only [m103]
    simp (maxSteps := 4000000) -implicitDefEqProofs -dsimp (disch := omega) only [↓AW_skip, ↓AW_ops, ↓AW_seq, ↓AW_cond, ↓AW_ret, ↓AOps_nil, ↓AOps_pu, ↓AOps_ha, on_some, extK_false, extK_app, condB_f, ↓then_normal, ↓Fin_ret, pval, hval_blds, hval_app, rd_S, rd_C, put_S, resV, resL, fillA, repl, List.replicate_succ, List.replicate_zero, List.set_cons_zero, List.set_cons_succ, List.getElem?_cons_zero, List.getElem?_cons_succ, Option.getD_some, map_n, Nat.reduceSub, List.cons_append, List.nil_append, List.replicate_zero, repl, happ]
    exact OL_gcS ho flat_e1
theorem drop_sum {ss : List Int} {i : Nat} {c : Int} (h : ss[i]? = some c) : (ss.drop i).sum = c + (ss.drop (i + 1)).sum := by
  rw [drop_at h, List.sum_cons]
theorem lev_at {ss : List Int} {i : Nat} {c left : Int} (h : ss[i]? = some c) : lev (ss.drop i) left = if left ≤ c * ((ss.length : Int) - i) then (left : Rat) / (((ss.length : Int) - i : Int) : Rat) else lev (ss.drop (i + 1)) (left - c) := by
  have hi := (List.getElem?_eq_some_iff.1 h).1
  rw [drop_at h, lev]
  have : ((ss.drop (i + 1)).length : Int) + 1 = (ss.length : Int) - i := by rw [List.length_drop]; omega
  rw [this]
section
variable {cs : List Int} {v : AV} {A : AHeap} {e : Int}
theorem s85 (hx : L1 A v cs) (hc : CE cs e) : ACalls Try.prog 85 [v, I e] A (R (lv cs e)) A := by
  refine acalls hmix Try.func85 (by kernel_rfl) t85 2 rfl (by decide) ?_
  have hl1 := hc.ok.l1
  have hl8 := hc.ok.l8
  have hs := hc.ok.sum
  have he0 := hc.e0
  have he1 := hc.e1
  dsimp only [m85]
  simp (maxSteps := 4000000) -implicitDefEqProofs -dsimp (disch := omega) only [↓AW_ops, ↓AW_seq, ↓AOps_nil, ↓AOps_pu, ↓AOps_call, on_some, ↓then_normal, pval, rd_S, rd_C, put_S, cells_agg, List.replicate_succ, List.replicate_zero, List.set_cons_zero, List.set_cons_succ, List.getElem?_cons_zero, List.getElem?_cons_succ, Option.getD_some, map_c, map_n, Nat.reduceSub, List.cons_append, List.nil_append]
  refine CallK.of (c_CloneI hx (by omega) (by omega)) ?_
  have ho := OL.new_mk e1_len A cs false
  have hsort := c_Sort ho (by omega)
  rw [set_new] at hsort
  simp (maxSteps := 4000000) -implicitDefEqProofs -dsimp (disch := omega) only [↓AW_ops, ↓AW_seq, ↓AOps_nil, ↓AOps_pu, ↓AOps_call, on_some, extK_app, ↓then_normal, pval, rd_S, put_S, List.replicate_succ, List.replicate_zero, List.set_cons_zero, List.set_cons_succ, List.getElem?_cons_zero, List.getElem?_cons_succ, Option.getD_some, map_c, map_n, Nat.reduceSub, List.cons_append, List.nil_append]
  refine CallK.of hsort ?_
  have hp := pre_app A [AObj.cells true ((srt cs).flatMap e1)]
  have hsl := srt_len cs
  have hsp := srt_perm cs
  have ho2 := OL.new_mk e1_len A (srt cs) false
  rw [hsl] at ho2
  have hq := ho2.ls
  have hss : (srt cs).sum = cs.sum := perm_isum hsp
  have hsc : ∀ x ∈ srt cs, 0 ≤ x ∧ x ≤ 1000 := fun x hx => hc.ok.c x (hsp.mem_iff.1 hx)
  have hlv : lv cs e = lev (srt cs) e := rfl
  rw [hlv]
  have hsle : ((srt cs).length : Int) = cs.length := by omega
  generalize srt cs = ss at *
  generalize AV.sl 1 A.length 0 cs.length false = w at *
  generalize A ++ [AObj.cells true (ss.flatMap e1)] = A1 at *
  simp (maxSteps := 4000000) -implicitDefEqProofs -dsimp (disch := omega) only [↓AW_ops, ↓AW_seq, ↓AW_block, ↓AOps_nil, ↓AOps_pu, on_some, extK_false, ↓then_normal, pval, rd_S, rd_C, put_S, ↓AW_toLoop, List.replicate_succ, List.replicate_zero, List.set_cons_zero, List.set_cons_succ, List.getElem?_cons_zero, List.getElem?_cons_succ, Option.getD_some, Nat.reduceSub, List.cons_append, List.nil_append, hq.len, hsle]
  refine LoopK.by 41 (fun x : Nat × Int => x.1 < ss.length ∧ (0 ≤ x.2 ∧ x.2 ≤ 8000) ∧ x.2 ≤ (ss.drop x.1).sum ∧ lev ss e = lev (ss.drop x.1) x.2) (fun x => [(0, v), (4, .agg [I 0, I 0]), (5, w), (6, I x.2), (15, w), (16, I cs.length), (17, I x.1)]) (fun _ => A1) (fun x => ss.length - x.1) (0, e) ⟨by simp only; omega, by simp only; omega, by simp only [List.drop_zero]; omega, rfl⟩ rfl (by simp [Has, rd_s]) rfl ?_
  rintro ⟨i, left⟩ ⟨hlt, hle, hls, hle2⟩
  simp only at hlt hle hls hle2
  have hlt' : (i : Int) < cs.length := by omega
  obtain ⟨c, hz⟩ : ∃ z, ss[i]? = some z := ⟨_, List.getElem?_eq_getElem hlt⟩
  have hzc := hsc c (List.mem_of_getElem? hz)
  rw [lev_at hz] at hle2
  rw [drop_sum hz] at hls
  rw [hsle] at hle2
  have m1 := Int.mul_le_mul hzc.2 (show (cs.length : Int) - i ≤ 8 by omega) (by omega) (by omega : (0 : Int) ≤ 1000)
  have m2 := Int.mul_nonneg hzc.1 (show 0 ≤ (cs.length : Int) - i by omega)
  by_cases h1 : left ≤ c * ((cs.length : Int) - i)
  · rw [if_pos h1] at hle2
    simp (maxSteps := 4000000) -implicitDefEqProofs -dsimp (disch := omega) only [↓AW_skip, ↓AW_ops, ↓AW_seq, ↓AW_cond, ↓AW_block, ↓AOps_nil, ↓AOps_pu, ↓AOps_ld, ↓AOps_call, on_some, condB_t, ↓then_normal, pval, lval, rd_S, put_S, partA, eq_self, mk, List.foldl_cons, List.foldl_nil, List.replicate_succ, List.replicate_zero, List.set_cons_zero, List.set_cons_succ, List.getElem?_cons_zero, List.getElem?_cons_succ, List.drop_zero, List.take_succ_cons, List.take_nil, Option.getD_some, map_c, map_n, List.length_cons, List.length_nil, Nat.reduceLeDiff, Nat.zero_add, bin_sub, bin_mul, bin_lss, bin_geq, w64, if_true, if_false, Bool.false_eq_true, decide_true, Go.Eng.e1, hlt', hq.len, hq.idx hlt, hq.ld0 hz 1 false (by decide), hsle, h1]
    refine CallK.of (s61 (a := left) (b := (cs.length : Int) - i) _ ⟨by omega, by omega⟩ (by omega) (by omega)) ?_
    simp (maxSteps := 4000000) -implicitDefEqProofs -dsimp (disch := omega) only [↓AW_ret, ↓AOps_nil, ↓AOps_pu, on_some, extK_same, ↓then_normal, ↓then_ret, ↓inBlock_ret, ↓Fin_ret, pval, rd_S, put_S, resV, resL, chkd, bput, bgot, cells_agg, splice, partA, eq_self, mk, List.foldl_cons, List.foldl_nil, List.replicate_succ, List.replicate_zero, List.set_cons_zero, List.set_cons_succ, List.getElem?_cons_zero, List.getElem?_cons_succ, List.drop_zero, List.drop_succ_cons, List.drop_nil, List.take_zero, List.take_succ_cons, List.take_nil, Option.getD_some, List.length_cons, List.length_nil, Nat.reduceAdd, Nat.reduceLeDiff, Nat.reduceEqDiff, Nat.zero_add, List.nil_append, List.append_nil, if_true, if_false, ne_eq, not_true_eq_false, R]
    refine gc_val hp ?_
    rw [hle2]
    rfl
  · rw [if_neg h1] at hle2
    have hcl : c ≤ left := by
      have h2 : c * ((cs.length : Int) - i) = c + c * ((cs.length : Int) - i - 1) := by rw [Int.mul_sub c ((cs.length : Int) - i) 1, Int.mul_one]; omega
      have := Int.mul_nonneg hzc.1 (show 0 ≤ (cs.length : Int) - i - 1 by omega)
      omega
    have hlt2 : i + 1 < ss.length := by
      refine Nat.lt_of_not_le (fun hge => ?_)
      have h0 : ss.drop (i + 1) = [] := List.drop_of_length_le hge
      rw [h0, List.sum_nil] at hls
      have : (cs.length : Int) - i = 1 := by omega
      rw [this, Int.mul_one] at h1
      omega
    simp (maxSteps := 4000000) -implicitDefEqProofs -dsimp (disch := omega) only [↓AW_skip, ↓AW_ops, ↓AW_seq, ↓AW_cond, ↓AW_block, ↓AOps_nil, ↓AOps_pu, ↓AOps_ld, on_some, condB_t, condB_f, ↓then_normal, ↓inBlock_normal, pval, lval, rd_S, rd_C, put_S, partA, eq_self, mk, List.foldl_cons, List.foldl_nil, List.replicate_succ, List.replicate_zero, List.set_cons_zero, List.set_cons_succ, List.getElem?_cons_zero, List.getElem?_cons_succ, List.drop_zero, List.take_succ_cons, List.take_nil, Option.getD_some, List.length_cons, List.length_nil, Nat.reduceAdd, Nat.reduceLeDiff, Nat.zero_add, bin_add, bin_sub, bin_mul, bin_lss, bin_geq, w64, if_true, if_false, Bool.false_eq_true, decide_true, decide_false, Go.Eng.e1, true_and, hlt', hq.len, hq.idx hlt, hq.ld0 hz 1 false (by decide), hsle, h1]
    exact ⟨(i + 1, left - c), ⟨hlt2, by simp only; omega, by simp only; omega, hle2⟩, by simp [Has, rd_s], by simp only; omega⟩
theorem capL_len (cs : List Int) (l : Rat) : ((capL cs l).map rp).length = cs.length := by simp [capL]
theorem capL_take {l : Rat} {i : Nat} {c : Int} (h : cs[i]? = some c) : ((capL cs l).map rp).take (i + 1) = ((capL cs l).map rp).take i ++ [rp (mnq c l)] := by
  unfold capL
  rw [List.take_add_one, List.getElem?_map, List.getElem?_map, h]
  rfl
theorem s88 (hx : L1 A v cs) (hok : OK cs) {l : Rat} (hl : SQ l) : ACalls Try.prog 88 [v, R l] A (outV 2 A ((capL cs l).map rp).length) (outH A (((capL cs l).map rp).flatMap e2) ((capL cs l).map rp).length) := by
  refine acalls hmix Try.func88 (by kernel_rfl) t88 2 rfl (by decide) ?_
  have hlen := capL_len cs l
  have hl8 := hok.l8
  have hdp := den_pos l
  have hd := hl.d
  have hn := hl.num
  dsimp only [m88]
  simp (maxSteps := 4000000) -implicitDefEqProofs -dsimp (disch := omega) only [↓AW_ops, ↓AW_seq, ↓AW_block, ↓AOps_nil, ↓AOps_pu, on_some, ↓then_normal, pval, rd_S, rd_C, put_S, ↓AW_toLoop, AV.cells?, List.replicate_succ, List.replicate_zero, List.set_cons_zero, List.set_cons_succ, List.getElem?_cons_zero, List.getElem?_cons_succ, Option.getD_some, Nat.reduceSub, List.cons_append, List.nil_append, hx.len]
  refine LoopK.by 32 (fun x : Nat × AV × AHeap => x.1 ≤ cs.length ∧ AccL 2 e2 A x.2.2 x.2.1 (((capL cs l).map rp).take x.1)) (fun x => [(3, .agg [I l.num, I (l.den : Int)]), (5, x.2.1), (8, v), (9, I cs.length), (10, I x.1)]) (fun x => x.2.2) (fun x => cs.length - x.1) (0, .nilS, A) ⟨by simp only; omega, AccL.nil (List.prefix_refl _)⟩ rfl (by simp [Has, rd_s]) rfl ?_
  rintro ⟨i, w, A1⟩ ⟨hi, hu⟩
  simp only at hi hu
  have hx1 := hx.mono hu.pre
  by_cases hlt : i < cs.length
  · obtain ⟨z, hz⟩ : ∃ z, cs[i]? = some z := ⟨_, List.getElem?_eq_getElem hlt⟩
    have hlt' : (i : Int) < cs.length := by omega
    have hzc := hok.c z (List.mem_of_getElem? hz)
    have m1 := Int.mul_le_mul hzc.2 hd (by omega) (by omega : (0 : Int) ≤ 1000)
    have m2 := Int.mul_nonneg hzc.1 (show 0 ≤ (l.den : Int) by omega)
    obtain ⟨u3, A3, happ, hu3⟩ := hu.push e2_len (rp (mnq z l)) (by rw [List.length_take]; simp [lim]; omega)
    rw [← capL_take hz] at hu3
    simp only [e2_rp] at happ
    by_cases h1 : z * (l.den : Int) < l.num
    · have hm : mnq z l = (z : Rat) := mnq_c (Rat.le_of_lt (mnq_iff.1 h1))
      rw [hm] at happ
      have hz1 : ((z : Int) : Rat) / ((1 : Int) : Rat) = (z : Rat) := by
        have := div_mul_same (a := (z : Rat)) (n := 1) (by omega)
        rw [int1, Rat.one_mul] at this
        exact this
      simp (maxSteps := 4000000) -implicitDefEqProofs -dsimp (disch := omega) only [↓AW_skip, ↓AW_ops, ↓AW_seq, ↓AW_cond, ↓AW_block, ↓AOps_nil, ↓AOps_pu, ↓AOps_ld, ↓AOps_call, on_some, condB_t, ↓then_normal, pval, lval, rd_S, rd_C, put_S, chkd, isAdr, bgot, AV.cells?, partA, eq_self, mk, List.foldl_cons, List.foldl_nil, List.replicate_succ, List.replicate_zero, List.set_cons_zero, List.set_cons_succ, List.getElem?_cons_zero, List.getElem?_cons_succ, List.drop_zero, List.drop_succ_cons, List.take_zero, List.take_succ_cons, List.take_nil, Option.getD_some, map_c, map_n, List.length_cons, List.length_nil, Nat.reduceAdd, Nat.reduceLeDiff, Nat.zero_add, bin_mul, bin_lss, w64, if_true, if_false, Bool.false_eq_true, decide_true, Go.Eng.e1, hlt', hx1.idx hlt, hx1.ld0 hz 1 false (by decide), h1]
      refine CallK.of (s61 (a := z) (b := 1) _ ⟨by omega, by omega⟩ (by omega) (by omega)) ?_
      rw [hz1]
      simp (maxSteps := 4000000) -implicitDefEqProofs -dsimp (disch := omega) only [↓AW_ops, ↓AOps_nil, ↓AOps_pu, ↓AOps_ha, on_some, extK_false, extK_app, extK_same, ↓then_normal, ↓inBlock_normal, pval, hval, rd_S, rd_C, put_S, AV.cells?, splice, fillA, repl, eq_self, mk, List.foldl_cons, List.foldl_nil, List.replicate_succ, List.replicate_zero, List.set_cons_zero, List.set_cons_succ, List.getElem?_cons_zero, List.getElem?_cons_succ, List.drop_succ_cons, List.drop_nil, List.take_zero, Option.getD_some, map_c, map_n, List.length_cons, List.length_nil, Nat.reduceAdd, Nat.reduceLeDiff, Nat.zero_add, List.nil_append, List.append_nil, bin_add, w64, if_true, true_and, and_true, R, happ]
      exact ⟨(i + 1, u3, A3), ⟨hlt, hu3⟩, by simp [Has, rd_s], rfl, by simp only; omega⟩
    · have hm : mnq z l = l := mnq_l (Rat.not_lt.1 (fun h => h1 (mnq_iff.2 h)))
      rw [hm] at happ
      simp (maxSteps := 4000000) -implicitDefEqProofs -dsimp (disch := omega) only [↓AW_skip, ↓AW_ops, ↓AW_seq, ↓AW_cond, ↓AW_block, ↓AOps_nil, ↓AOps_pu, ↓AOps_ld, ↓AOps_ha, on_some, extK_false, extK_app, condB_t, condB_f, ↓then_normal, ↓inBlock_normal, pval, lval, hval, rd_S, rd_C, put_S, chkd, isAdr, bgot, AV.cells?, splice, partA, fillA, repl, eq_self, mk, List.foldl_cons, List.foldl_nil, List.replicate_succ, List.replicate_zero, List.set_cons_zero, List.set_cons_succ, List.getElem?_cons_zero, List.getElem?_cons_succ, List.drop_zero, List.drop_succ_cons, List.drop_nil, List.take_zero, List.take_succ_cons, List.take_nil, Option.getD_some, map_c, map_n, List.length_cons, List.length_nil, Nat.reduceAdd, Nat.reduceLeDiff, Nat.reduceEqDiff, Nat.zero_add, List.nil_append, List.append_nil, bin_add, bin_mul, bin_lss, w64, if_true, if_false, Bool.false_eq_true, decide_true, decide_false, Go.Eng.e1, true_and, and_true, hlt', hx1.idx hlt, hx1.ld0 hz 1 false (by decide), h1, happ]
      exact ⟨(i + 1, u3, A3), ⟨hlt, hu3⟩, by simp [Has, rd_s], rfl, by simp only; omega⟩
  · have hlt' : ¬ ((i : Int) < cs.length) := by omega
    simp (maxSteps := 4000000) -implicitDefEqProofs -dsimp (disch := omega) only [↓AW_ops, ↓AW_seq, ↓AW_cond, ↓AW_exit, ↓AW_ret, ↓AOps_nil, ↓AOps_pu, on_some, condB_f, ↓then_normal, ↓then_exit, ↓inBlock_exit, ↓Fin_ret, pval, rd_S, put_S, resV, resL, eq_self, mk, List.foldl_cons, List.foldl_nil, List.replicate_succ, List.replicate_zero, List.set_cons_zero, List.set_cons_succ, List.getElem?_cons_zero, List.getElem?_cons_succ, Option.getD_some, bin_lss, if_true, decide_false, hlt']
    rw [List.take_of_length_le (by omega)] at hu
    exact hu.gc flat_e2
/-- Equal awards. -/
def aw (cs : List Int) (e : Int) : List Rat := capL cs (lv cs e)
/-- Equal losses. -/
def lo (cs : List Int) (e : Int) : List Rat := lsL cs ((aw cs (cs.sum - e)).map rp)
def hq (q : Rat) : Rat := (q.num : Rat) / ((2 * (q.den : Int) : Int) : Rat)
def hqc (c : Int) (q : Rat) : Rat := ((q.num + c * (q.den : Int) : Int) : Rat) / ((2 * (q.den : Int) : Int) : Rat)
/-- The awards by the court. -/
def crt (cs : List Int) (e : Int) : List Rat := if 2 * e ≤ cs.sum then (aw cs (2 * e)).map hq else (cs.zip (lo cs (2 * e - cs.sum))).map (fun z => hqc z.1 z.2)
theorem aw_len (cs : List Int) (e : Int) : (aw cs e).length = cs.length := by simp [aw, capL]
theorem lo_len (cs : List Int) (e : Int) : (lo cs e).length = cs.length := by simp [lo, lsL, aw, capL]
theorem crt_len (cs : List Int) (e : Int) : (crt cs e).length = cs.length := by
  unfold crt
  split
  · simp [aw_len]
  · simp [lo_len]
theorem aw_sq (hc : CE cs e) : ∀ q ∈ aw cs e, SQ q := by
  intro q hq
  obtain ⟨c, hcm, rfl⟩ := List.mem_map.1 hq
  exact SQ.mnq (hc.ok.c c hcm) (lv_sq hc)
theorem CE.sub (hc : CE cs e) : CE cs (cs.sum - e) := ⟨hc.ok, by have := hc.e1; omega, by have := hc.e0; omega⟩
theorem lsq_eq (c : Int) (q : Rat) : lsq c (rp q) = (c : Rat) - q := by
  unfold lsq rp
  simp only
  have hdp := den_pos q
  have hne := cast_pos hdp
  have e := R_self q
  have hq : q * ((q.den : Int) : Rat) = ((q.num : Int) : Rat) := by
    conv => lhs; lhs; rw [e]
    exact Rat.div_mul_cancel (Ne.symm (Rat.ne_of_lt hne))
  have h1 : ((c * (q.den : Int) - q.num : Int) : Rat) = ((c : Rat) - q) * ((q.den : Int) : Rat) := by
    rw [Rat.intCast_sub, Rat.intCast_mul, ← hq]
    grind
  rw [h1, Rat.div_def, Rat.mul_assoc, Rat.mul_inv_cancel _ (Ne.symm (Rat.ne_of_lt hne)), Rat.mul_one]
theorem lo_eq (cs : List Int) (e : Int) : lo cs e = cs.map (fun c : Int => (c : Rat) - mnq c (lv cs (cs.sum - e))) := by
  unfold lo lsL aw capL
  rw [List.map_map, zip_self, List.map_map]
  refine List.map_congr_left (fun c _ => ?_)
  exact lsq_eq _ _
theorem SQ.sub {c : Int} {q : Rat} (hc : 0 ≤ c ∧ c ≤ 1000) (hq : SQ q) (h : q ≤ (c : Rat)) : SQ ((c : Rat) - q) := by
  have h1 : (c : Rat) ≤ ((1000 : Int) : Rat) := Rat.intCast_le_intCast.2 hc.2
  have h0 := hq.q0
  refine ⟨by grind, by grind, ?_⟩
  have hd : (((c : Rat) - q).den : Int) ∣ (q.den : Int) := by
    rw [← lsq_eq c q]
    exact div_den (den_pos q)
  have := Int.le_of_dvd (den_pos q) hd
  have := hq.d
  omega
theorem lo_sq (hc : CE cs e) : ∀ q ∈ lo cs e, SQ q := by
  intro q hq
  rw [lo_eq] at hq
  obtain ⟨c, hcm, rfl⟩ := List.mem_map.1 hq
  exact SQ.sub (hc.ok.c c hcm) (SQ.mnq (hc.ok.c c hcm) (lv_sq hc.sub)) (mnq_le _ _).2
theorem s87 (hx : L1 A v cs) (hc : CE cs e) : ACalls Try.prog 87 [v, I e] A (outV 2 A ((aw cs e).map rp).length) (outH A (((aw cs e).map rp).flatMap e2) ((aw cs e).map rp).length) := by
  refine acalls hmix Try.func87 (by kernel_rfl) t87 2 rfl (by decide) ?_
  dsimp only [m87]
  simp (maxSteps := 4000000) -implicitDefEqProofs -dsimp (disch := omega) only [↓AW_ops, ↓AW_seq, ↓AOps_nil, ↓AOps_pu, ↓AOps_call, on_some, ↓then_normal, pval, rd_S, rd_C, put_S, List.replicate_succ, List.replicate_zero, List.set_cons_zero, List.set_cons_succ, List.getElem?_cons_zero, List.getElem?_cons_succ, Option.getD_some, map_c, map_n, Nat.reduceSub, List.cons_append, List.nil_append]
  refine CallK.of (s85 hx hc) ?_
  simp (maxSteps := 4000000) -implicitDefEqProofs -dsimp (disch := omega) only [↓AOps_call, extK_same, rd_S, put_S, List.replicate_succ, List.replicate_zero, List.set_cons_zero, List.set_cons_succ, List.getElem?_cons_zero, List.getElem?_cons_succ, Option.getD_some, map_c, map_n, Nat.reduceSub, List.cons_append, List.nil_append, R]
  refine CallK.of (s88 hx hc.ok (lv_sq hc)) ?_
  simp (maxSteps := 4000000) -implicitDefEqProofs -dsimp (disch := omega) only [↓AW_ret, ↓AOps_nil, ↓AOps_pu, on_some, extK_false, ↓then_normal, ↓Fin_ret, pval, rd_S, put_S, resV, resL, List.replicate_succ, List.replicate_zero, List.set_cons_zero, List.set_cons_succ, List.getElem?_cons_zero, List.getElem?_cons_succ, Option.getD_some, Nat.reduceSub, List.cons_append, List.nil_append]
  exact gc_all
theorem s89 (hx : L1 A v cs) (hc : CE cs e) {n : Nat} (hn : ldA 1 false (.ptr n 0) A = some (.fn 87 [])) : ACalls Try.prog 89 [v, I e, .ptr n 0] A (outV 2 A ((lo cs e).map rp).length) (outH A (((lo cs e).map rp).flatMap e2) ((lo cs e).map rp).length) := by
  refine acalls hmix Try.func89 (by kernel_rfl) t89 3 rfl (by decide) ?_
  have hs := hc.ok.sum
  have he0 := hc.e0
  have he1 := hc.e1
  have hl8 := hc.ok.l8
  dsimp only [m89]
  simp (maxSteps := 4000000) -implicitDefEqProofs -dsimp (disch := omega) only [↓AW_ops, ↓AW_seq, ↓AOps_nil, ↓AOps_pu, ↓AOps_ld, ↓AOps_call, on_some, ↓then_normal, pval, lval, rd_S, rd_C, put_S, List.replicate_succ, List.replicate_zero, List.set_cons_zero, List.set_cons_succ, List.getElem?_cons_zero, List.getElem?_cons_succ, Option.getD_some, map_c, map_n, Nat.reduceSub, List.cons_append, List.nil_append, hn]
  refine CallK.of (c_total hx (by omega) hc.ok.bd) ?_
  simp (maxSteps := 4000000) -implicitDefEqProofs -dsimp (disch := omega) only [↓AOps_pu, ↓AOps_callv, on_some, extK_same, CallF_fn, pval, rd_S, put_S, List.replicate_succ, List.replicate_zero, List.set_cons_zero, List.set_cons_succ, List.getElem?_cons_zero, List.getElem?_cons_succ, Option.getD_some, map_c, map_n, Nat.reduceSub, List.cons_append, List.nil_append, List.append_nil, bin_sub, w64]
  refine CallK.of (s87 hx hc.sub) ?_
  have hp1 := pre_out A (((aw cs (cs.sum - e)).map rp).flatMap e2) ((aw cs (cs.sum - e)).map rp).length
  have hq1 := Ls_out A e2_len ((aw cs (cs.sum - e)).map rp)
  generalize outV 2 A ((aw cs (cs.sum - e)).map rp).length = w at *
  generalize outH A (((aw cs (cs.sum - e)).map rp).flatMap e2) ((aw cs (cs.sum - e)).map rp).length = A1 at *
  simp (maxSteps := 4000000) -implicitDefEqProofs -dsimp (disch := omega) only [↓AOps_call, extK_false, rd_S, put_S, List.replicate_succ, List.replicate_zero, List.set_cons_zero, List.set_cons_succ, List.getElem?_cons_zero, List.getElem?_cons_succ, Option.getD_some, map_c, map_n, Nat.reduceSub, List.cons_append, List.nil_append]
  refine CallK.of (s75 (hx.mono hp1) hq1 hc.ok (by simp [aw_len]) (fun r hr => ?_)) ?_
  · obtain ⟨q, hq, rfl⟩ := List.mem_map.1 hr
    exact (aw_sq hc.sub q hq).bd
  · have hlo : lsL cs ((aw cs (cs.sum - e)).map rp) = lo cs e := rfl
    rw [hlo]
    simp (maxSteps := 4000000) -implicitDefEqProofs -dsimp (disch := omega) only [↓AW_ret, ↓AOps_nil, ↓AOps_pu, on_some, extK_false, ↓then_normal, ↓Fin_ret, pval, rd_S, put_S, resV, resL, List.replicate_succ, List.replicate_zero, List.set_cons_zero, List.set_cons_succ, List.getElem?_cons_zero, List.getElem?_cons_succ, Option.getD_some, Nat.reduceSub, List.cons_append, List.nil_append]
    exact (AccL_out hp1 e2_len _).gc flat_e2
theorem map_take {α β : Type} (f : α → β) {xs : List α} {i : Nat} {x : α} (h : xs[i]? = some x) : (xs.map f).take (i + 1) = (xs.map f).take i ++ [f x] := by
  rw [List.take_add_one, List.getElem?_map, h]
  rfl
theorem SQ.hq_w {q : Rat} (h : SQ q) : (0 ≤ q.num ∧ q.num ≤ 1000000) ∧ 0 < 2 * (q.den : Int) ∧ 2 * (q.den : Int) ≤ 2000 := by
  have h1 := h.num
  have h2 := den_pos q
  have h3 := h.d
  exact ⟨h1, by omega, by omega⟩
set_option maxHeartbeats 1000000 in
theorem s91 (hx : L1 A v cs) (hc : CE cs e) {n m : Nat} (hn : ldA 1 false (.ptr n 0) A = some (.fn 87 [])) (hm : ldA 1 false (.ptr m 0) A = some (.fn 89 [.ptr n 0])) :
    ACalls Try.prog 91 [v, I e, .ptr n 0, .ptr m 0] A (outV 2 A ((crt cs e).map rp).length) (outH A (((crt cs e).map rp).flatMap e2) ((crt cs e).map rp).length) := by
  refine acalls hmix Try.func91 (by kernel_rfl) t91 4 rfl (by decide) ?_
  have hs := hc.ok.sum
  have he0 := hc.e0
  have he1 := hc.e1
  have hl8 := hc.ok.l8
  dsimp only [m91]
  simp (maxSteps := 4000000) -implicitDefEqProofs -dsimp (disch := omega) only [↓AW_ops, ↓AW_seq, ↓AOps_nil, ↓AOps_pu, ↓AOps_call, on_some, ↓then_normal, pval, rd_S, rd_C, put_S, List.replicate_succ, List.replicate_zero, List.set_cons_zero, List.set_cons_succ, List.getElem?_cons_zero, List.getElem?_cons_succ, Option.getD_some, map_c, map_n, Nat.reduceSub, List.cons_append, List.nil_append]
  refine CallK.of (c_total hx (by omega) hc.ok.bd) ?_
  by_cases h1 : 2 * e ≤ cs.sum
  · have hE : crt cs e = (aw cs (2 * e)).map hq := if_pos h1
    rw [hE]
    have hc2 : CE cs (2 * e) := ⟨hc.ok, by omega, h1⟩
    have hsq := aw_sq hc2
    have hal := aw_len cs (2 * e)
    simp (maxSteps := 4000000) -implicitDefEqProofs -dsimp (disch := omega) only [↓AW_ops, ↓AW_seq, ↓AW_cond, ↓AOps_nil, ↓AOps_pu, ↓AOps_ld, ↓AOps_callv, on_some, extK_same, CallF_fn, condB_t, ↓then_normal, pval, lval, rd_S, rd_C, put_S, List.replicate_succ, List.replicate_zero, List.set_cons_zero, List.set_cons_succ, List.getElem?_cons_zero, List.getElem?_cons_succ, Option.getD_some, map_c, map_n, Nat.reduceSub, List.cons_append, List.nil_append, List.append_nil, bin_mul, bin_leq, w64, decide_true, h1, hn]
    refine CallK.of (s87 hx hc2) ?_
    generalize aw cs (2 * e) = qs at *
    have hp1 := pre_out A ((qs.map rp).flatMap e2) (qs.map rp).length
    have hq1 := Ls_out A e2_len (qs.map rp)
    generalize outV 2 A (qs.map rp).length = w at *
    generalize outH A ((qs.map rp).flatMap e2) (qs.map rp).length = A1 at *
    have hlr : (qs.map rp).length = qs.length := by simp
    have hle : ((qs.map hq).map rp).length = qs.length := by simp
    simp (maxSteps := 4000000) -implicitDefEqProofs -dsimp (disch := omega) only [↓AW_block, ↓AOps_nil, ↓AOps_pu, on_some, extK_false, ↓then_normal, pval, rd_S, rd_C, put_S, ↓AW_toLoop, List.replicate_succ, List.replicate_zero, List.set_cons_zero, List.set_cons_succ, List.getElem?_cons_zero, List.getElem?_cons_succ, Option.getD_some, Nat.reduceSub, List.cons_append, List.nil_append, hq1.len, hlr]
    refine LoopK.by 72 (fun x : Nat × AV × AHeap => x.1 ≤ qs.length ∧ AccL 2 e2 A1 x.2.2 x.2.1 (((qs.map hq).map rp).take x.1)) (fun x => [(8, x.2.1), (23, w), (24, I qs.length), (25, I x.1)]) (fun x => x.2.2) (fun x => qs.length - x.1) (0, .nilS, A1) ⟨by simp only; omega, AccL.nil (List.prefix_refl _)⟩ rfl (by simp [Has, rd_s]) rfl ?_
    rintro ⟨i, u, A2⟩ ⟨hi, hu⟩
    simp only at hi hu
    have hq2 := hq1.mono hu.pre
    by_cases hlt : i < qs.length
    · obtain ⟨q, hz⟩ : ∃ z, qs[i]? = some z := ⟨_, List.getElem?_eq_getElem hlt⟩
      have hlt' : (i : Int) < qs.length := by omega
      have hz' : (qs.map rp)[i]? = some (rp q) := by rw [List.getElem?_map, hz]; rfl
      have hlt2 : i < (qs.map rp).length := by omega
      obtain ⟨b1, b2, b3⟩ := (hsq q (List.mem_of_getElem? hz)).hq_w
      obtain ⟨u3, A3, happ, hu3⟩ := hu.push e2_len (rp (hq q)) (by rw [List.length_take]; simp [lim]; omega)
      have hz2 : (qs.map hq)[i]? = some (hq q) := by rw [List.getElem?_map, hz]; rfl
      rw [← map_take rp hz2] at hu3
      simp only [e2_rp] at happ
      simp (maxSteps := 4000000) -implicitDefEqProofs -dsimp (disch := omega) only [↓AW_skip, ↓AW_ops, ↓AW_seq, ↓AW_cond, ↓AW_block, ↓AOps_nil, ↓AOps_pu, ↓AOps_ld, ↓AOps_call, on_some, condB_t, ↓then_normal, pval, lval, rd_S, rd_C, put_S, chkd, isAdr, bput, bgot, AV.cells?, splice, partA, eq_self, mk, List.foldl_cons, List.foldl_nil, List.replicate_succ, List.replicate_zero, List.set_cons_zero, List.set_cons_succ, List.getElem?_cons_zero, List.getElem?_cons_succ, List.drop_zero, List.drop_succ_cons, List.drop_nil, List.take_zero, List.take_succ_cons, List.take_nil, Option.getD_some, map_c, map_n, List.length_cons, List.length_nil, Nat.reduceAdd, Nat.reduceLeDiff, Nat.reduceEqDiff, Nat.zero_add, List.nil_append, List.append_nil, bin_mul, bin_lss, w64, if_true, if_false, Bool.false_eq_true, decide_true, Go.Eng.e2, ne_eq, not_true_eq_false, hlt', hq2.idx hlt2, hq2.ld0 hz' 2 true (by decide), rp]
      refine CallK.of (s61 (a := q.num) (b := 2 * (q.den : Int)) _ ⟨by omega, by omega⟩ (by omega) (by omega)) ?_
      have hls : ((q.num : Rat) / ((2 * (q.den : Int) : Int) : Rat)) = hq q := rfl
      simp (maxSteps := 4000000) -implicitDefEqProofs -dsimp (disch := omega) only [↓AW_ops, ↓AOps_nil, ↓AOps_pu, ↓AOps_ha, on_some, extK_false, extK_app, extK_same, ↓then_normal, ↓inBlock_normal, pval, hval, rd_S, rd_C, put_S, AV.cells?, splice, fillA, repl, eq_self, mk, List.foldl_cons, List.foldl_nil, List.replicate_succ, List.replicate_zero, List.set_cons_zero, List.set_cons_succ, List.getElem?_cons_zero, List.getElem?_cons_succ, List.drop_succ_cons, List.drop_nil, List.take_zero, Option.getD_some, map_c, map_n, List.length_cons, List.length_nil, Nat.reduceAdd, Nat.reduceLeDiff, Nat.zero_add, List.nil_append, List.append_nil, bin_add, w64, if_true, true_and, and_true, hls, R, happ]
      exact ⟨(i + 1, u3, A3), ⟨hlt, hu3⟩, by simp [Has, rd_s], rfl, by simp only; omega⟩
    · have hlt' : ¬ ((i : Int) < qs.length) := by omega
      simp (maxSteps := 4000000) -implicitDefEqProofs -dsimp (disch := omega) only [↓AW_ops, ↓AW_seq, ↓AW_cond, ↓AW_exit, ↓AW_ret, ↓AOps_nil, ↓AOps_pu, on_some, condB_f, ↓then_normal, ↓then_exit, ↓then_ret, ↓inBlock_exit, ↓Fin_ret, pval, rd_S, put_S, resV, resL, eq_self, mk, List.foldl_cons, List.foldl_nil, List.replicate_succ, List.replicate_zero, List.set_cons_zero, List.set_cons_succ, List.getElem?_cons_zero, List.getElem?_cons_succ, Option.getD_some, bin_lss, if_true, decide_false, hlt']
      rw [List.take_of_length_le (by omega)] at hu
      exact (AccL_base hp1 hu).gc flat_e2
  · have hE : crt cs e = (cs.zip (lo cs (2 * e - cs.sum))).map (fun z => hqc z.1 z.2) := if_neg h1
    rw [hE]
    have hc2 : CE cs (2 * e - cs.sum) := ⟨hc.ok, by omega, by omega⟩
    have hsq := lo_sq hc2
    have hal := lo_len cs (2 * e - cs.sum)
    simp (maxSteps := 4000000) -implicitDefEqProofs -dsimp (disch := omega) only [↓AW_skip, ↓AW_ops, ↓AW_seq, ↓AW_cond, ↓AOps_nil, ↓AOps_pu, ↓AOps_ld, ↓AOps_callv, on_some, extK_same, CallF_fn, condB_f, ↓then_normal, pval, lval, rd_S, rd_C, put_S, List.replicate_succ, List.replicate_zero, List.set_cons_zero, List.set_cons_succ, List.getElem?_cons_zero, List.getElem?_cons_succ, Option.getD_some, map_c, map_n, Nat.reduceSub, List.cons_append, List.nil_append, bin_sub, bin_mul, bin_leq, w64, decide_false, h1, hm]
    refine CallK.of (s89 hx hc2 hn) ?_
    generalize lo cs (2 * e - cs.sum) = qs at *
    have hp1 := pre_out A ((qs.map rp).flatMap e2) (qs.map rp).length
    have hq1 := Ls_out A e2_len (qs.map rp)
    generalize outV 2 A (qs.map rp).length = w at *
    generalize outH A ((qs.map rp).flatMap e2) (qs.map rp).length = A1 at *
    have hlr : (qs.map rp).length = qs.length := by simp
    have hle : (((cs.zip qs).map (fun z => hqc z.1 z.2)).map rp).length = qs.length := by simp; omega
    simp (maxSteps := 4000000) -implicitDefEqProofs -dsimp (disch := omega) only [↓AW_block, ↓AOps_nil, ↓AOps_pu, on_some, extK_false, ↓then_normal, pval, rd_S, rd_C, put_S, ↓AW_toLoop, List.replicate_succ, List.replicate_zero, List.set_cons_zero, List.set_cons_succ, List.getElem?_cons_zero, List.getElem?_cons_succ, Option.getD_some, Nat.reduceSub, List.cons_append, List.nil_append, hq1.len, hlr]
    refine LoopK.by 72 (fun x : Nat × AV × AHeap => x.1 ≤ qs.length ∧ AccL 2 e2 A1 x.2.2 x.2.1 ((((cs.zip qs).map (fun z => hqc z.1 z.2)).map rp).take x.1)) (fun x => [(0, v), (8, x.2.1), (46, w), (47, I qs.length), (48, I x.1)]) (fun x => x.2.2) (fun x => qs.length - x.1) (0, .nilS, A1) ⟨by simp only; omega, AccL.nil (List.prefix_refl _)⟩ rfl (by simp [Has, rd_s]) rfl ?_
    rintro ⟨i, u, A2⟩ ⟨hi, hu⟩
    simp only at hi hu
    have hq2 := hq1.mono hu.pre
    have hx2 := (hx.mono hp1).mono hu.pre
    by_cases hlt : i < qs.length
    · obtain ⟨q, hz⟩ : ∃ z, qs[i]? = some z := ⟨_, List.getElem?_eq_getElem hlt⟩
      have hlt' : (i : Int) < qs.length := by omega
      have hz' : (qs.map rp)[i]? = some (rp q) := by rw [List.getElem?_map, hz]; rfl
      have hlt2 : i < (qs.map rp).length := by omega
      have hlt3 : i < cs.length := by omega
      obtain ⟨c, hc1⟩ : ∃ c, cs[i]? = some c := ⟨_, List.getElem?_eq_getElem hlt3⟩
      have hcc := hc.ok.c c (List.mem_of_getElem? hc1)
      obtain ⟨b1, b2, b3⟩ := (hsq q (List.mem_of_getElem? hz)).hq_w
      have m1 := Int.mul_le_mul hcc.2 (show (q.den : Int) ≤ 1000 by omega) (by omega) (by omega : (0 : Int) ≤ 1000)
      have m2 := Int.mul_nonneg hcc.1 (show 0 ≤ (q.den : Int) by omega)
      obtain ⟨u3, A3, happ, hu3⟩ := hu.push e2_len (rp (hqc c q)) (by rw [List.length_take]; simp [lim]; omega)
      have hz2 : ((cs.zip qs).map (fun z => hqc z.1 z.2))[i]? = some (hqc c q) := by
        have : (cs.zip qs)[i]? = some (c, q) := by rw [List.getElem?_zip_eq_some]; exact ⟨hc1, hz⟩
        rw [List.getElem?_map, this]; rfl
      rw [← map_take rp hz2] at hu3
      simp only [e2_rp] at happ
      simp (maxSteps := 4000000) -implicitDefEqProofs -dsimp (disch := omega) only [↓AW_skip, ↓AW_ops, ↓AW_seq, ↓AW_cond, ↓AW_block, ↓AOps_nil, ↓AOps_pu, ↓AOps_ld, ↓AOps_call, on_some, condB_t, ↓then_normal, pval, lval, rd_S, rd_C, put_S, chkd, isAdr, bput, bgot, AV.cells?, splice, partA, eq_self, mk, List.foldl_cons, List.foldl_nil, List.replicate_succ, List.replicate_zero, List.set_cons_zero, List.set_cons_succ, List.getElem?_cons_zero, List.getElem?_cons_succ, List.drop_zero, List.drop_succ_cons, List.drop_nil, List.take_zero, List.take_succ_cons, List.take_nil, Option.getD_some, map_c, map_n, List.length_cons, List.length_nil, Nat.reduceAdd, Nat.reduceLeDiff, Nat.reduceEqDiff, Nat.zero_add, List.nil_append, List.append_nil, bin_add, bin_mul, bin_lss, w64, if_true, if_false, Bool.false_eq_true, decide_true, Go.Eng.e1, Go.Eng.e2, ne_eq, not_true_eq_false, hlt', hq2.idx hlt2, hq2.ld0 hz' 2 true (by decide), rp, hx2.idx hlt3, hx2.ld0 hc1 1 false (by decide)]
      refine CallK.of (s61 (a := q.num + c * (q.den : Int)) (b := 2 * (q.den : Int)) _ ⟨by omega, by omega⟩ (by omega) (by omega)) ?_
      have hls : (((q.num + c * (q.den : Int) : Int) : Rat) / ((2 * (q.den : Int) : Int) : Rat)) = hqc c q := rfl
      simp (maxSteps := 4000000) -implicitDefEqProofs -dsimp (disch := omega) only [↓AW_ops, ↓AOps_nil, ↓AOps_pu, ↓AOps_ha, on_some, extK_false, extK_app, extK_same, ↓then_normal, ↓inBlock_normal, pval, hval, rd_S, rd_C, put_S, AV.cells?, splice, fillA, repl, eq_self, mk, List.foldl_cons, List.foldl_nil, List.replicate_succ, List.replicate_zero, List.set_cons_zero, List.set_cons_succ, List.getElem?_cons_zero, List.getElem?_cons_succ, List.drop_succ_cons, List.drop_nil, List.take_zero, Option.getD_some, map_c, map_n, List.length_cons, List.length_nil, Nat.reduceAdd, Nat.reduceLeDiff, Nat.zero_add, List.nil_append, List.append_nil, bin_add, w64, if_true, true_and, and_true, hls, R, happ]
      exact ⟨(i + 1, u3, A3), ⟨hlt, hu3⟩, by simp [Has, rd_s], rfl, by simp only; omega⟩
    · have hlt' : ¬ ((i : Int) < qs.length) := by omega
      simp (maxSteps := 4000000) -implicitDefEqProofs -dsimp (disch := omega) only [↓AW_ops, ↓AW_seq, ↓AW_cond, ↓AW_exit, ↓AW_ret, ↓AOps_nil, ↓AOps_pu, on_some, condB_f, ↓then_normal, ↓then_exit, ↓inBlock_exit, ↓Fin_ret, pval, rd_S, put_S, resV, resL, eq_self, mk, List.foldl_cons, List.foldl_nil, List.replicate_succ, List.replicate_zero, List.set_cons_zero, List.set_cons_succ, List.getElem?_cons_zero, List.getElem?_cons_succ, Option.getD_some, bin_lss, if_true, decide_false, hlt']
      rw [List.take_of_length_le (by omega)] at hu
      exact (AccL_base hp1 hu).gc flat_e2
theorem s55a (hx : L1 A v cs) (hl : cs.length ≤ 1000000) : ACalls Try.prog 55 [I 1, v, I e] A (.tuple [outV 2 A (byO cs e (aw cs e)).length, I (vE cs e)]) (outH A ((byO cs e (aw cs e)).flatMap e2) (byO cs e (aw cs e)).length) := by
  refine acalls hmix Try.func55 (by kernel_rfl) t55 3 rfl (by decide) ?_
  dsimp only [m55]
  simp (maxSteps := 4000000) -implicitDefEqProofs -dsimp (disch := omega) only [↓AW_ops, ↓AW_seq, ↓AOps_nil, ↓AOps_pu, ↓AOps_call, on_some, ↓then_normal, pval, rd_S, rd_C, put_S, List.replicate_succ, List.replicate_zero, List.set_cons_zero, List.set_cons_succ, List.getElem?_cons_zero, List.getElem?_cons_succ, Option.getD_some, map_c, map_n, Nat.reduceSub, List.cons_append, List.nil_append]
  refine CallK.of (s16 hx hl e) ?_
  by_cases h0 : vE cs e = 0
  · have hO : byO cs e (aw cs e) = (aw cs e).map rp := if_pos h0
    have hc := vE_0.1 h0
    rw [hO, h0]
    simp (maxSteps := 4000000) -implicitDefEqProofs -dsimp (disch := omega) only [↓AW_skip, ↓AW_ops, ↓AW_seq, ↓AW_cond, ↓AOps_nil, ↓AOps_pu, ↓AOps_call, on_some, extK_same, condB_f, ↓then_normal, pval, rd_S, rd_C, put_S, eq_self, List.replicate_succ, List.replicate_zero, List.set_cons_zero, List.set_cons_succ, List.getElem?_cons_zero, List.getElem?_cons_succ, Option.getD_some, map_n, Nat.reduceSub, List.cons_append, List.nil_append, bin_neq, decide_false, not_true_eq_false]
    refine CallK.of (s79 A) ?_
    simp (maxSteps := 4000000) -implicitDefEqProofs -dsimp (disch := omega) only [↓AOps_pu, ↓AOps_callv, on_some, extK_false, CallF_fn, pval, rd_S, put_S, partA, eq_self, List.replicate_succ, List.replicate_zero, List.set_cons_zero, List.set_cons_succ, List.getElem?_cons_zero, List.getElem?_cons_succ, List.drop_zero, List.drop_succ_cons, List.take_zero, List.take_succ_cons, List.take_nil, Option.getD_some, map_c, map_n, List.length_cons, List.length_nil, Nat.reduceAdd, Nat.reduceSub, Nat.reduceLeDiff, Nat.reduceMul, Nat.zero_add, List.cons_append, List.nil_append, List.append_nil, if_true, if_false, Bool.false_eq_true, and_true, Int.reduceLT, Int.reduceLE, rulesV, c4, tn1]
    refine CallK.of (s87 (hx.mono (rules_pre A)) hc) ?_
    simp (maxSteps := 4000000) -implicitDefEqProofs -dsimp (disch := omega) only [↓AW_ret, ↓AOps_nil, ↓AOps_pu, on_some, extK_false, ↓then_normal, ↓Fin_ret, pval, rd_S, rd_C, put_S, resV, resL, List.replicate_succ, List.replicate_zero, List.set_cons_zero, List.set_cons_succ, List.getElem?_cons_zero, List.getElem?_cons_succ, Option.getD_some, Nat.reduceSub, List.cons_append, List.nil_append]
    exact (AccL_out (rules_pre A) e2_len _).gc2 flat_e2 (I 0) rfl
  · have hO : byO cs e (aw cs e) = [] := if_neg h0
    rw [hO]
    simp (maxSteps := 4000000) -implicitDefEqProofs -dsimp (disch := omega) only [↓AW_ops, ↓AW_seq, ↓AW_cond, ↓AW_ret, ↓AOps_nil, ↓AOps_pu, on_some, extK_same, condB_t, ↓then_normal, ↓then_ret, ↓Fin_ret, pval, rd_S, rd_C, put_S, resV, resL, List.replicate_succ, List.replicate_zero, List.set_cons_zero, List.set_cons_succ, List.getElem?_cons_zero, List.getElem?_cons_succ, Option.getD_some, List.length_nil, Nat.reduceSub, List.cons_append, List.nil_append, bin_neq, decide_true, not_false_eq_true, h0]
    exact gc_same_all rfl rfl
theorem s55l (hx : L1 A v cs) (hl : cs.length ≤ 1000000) : ACalls Try.prog 55 [I 2, v, I e] A (.tuple [outV 2 A (byO cs e (lo cs e)).length, I (vE cs e)]) (outH A ((byO cs e (lo cs e)).flatMap e2) (byO cs e (lo cs e)).length) := by
  refine acalls hmix Try.func55 (by kernel_rfl) t55 3 rfl (by decide) ?_
  dsimp only [m55]
  simp (maxSteps := 4000000) -implicitDefEqProofs -dsimp (disch := omega) only [↓AW_ops, ↓AW_seq, ↓AOps_nil, ↓AOps_pu, ↓AOps_call, on_some, ↓then_normal, pval, rd_S, rd_C, put_S, List.replicate_succ, List.replicate_zero, List.set_cons_zero, List.set_cons_succ, List.getElem?_cons_zero, List.getElem?_cons_succ, Option.getD_some, map_c, map_n, Nat.reduceSub, List.cons_append, List.nil_append]
  refine CallK.of (s16 hx hl e) ?_
  by_cases h0 : vE cs e = 0
  · have hO : byO cs e (lo cs e) = (lo cs e).map rp := if_pos h0
    have hc := vE_0.1 h0
    rw [hO, h0]
    simp (maxSteps := 4000000) -implicitDefEqProofs -dsimp (disch := omega) only [↓AW_skip, ↓AW_ops, ↓AW_seq, ↓AW_cond, ↓AOps_nil, ↓AOps_pu, ↓AOps_call, on_some, extK_same, condB_f, ↓then_normal, pval, rd_S, rd_C, put_S, eq_self, List.replicate_succ, List.replicate_zero, List.set_cons_zero, List.set_cons_succ, List.getElem?_cons_zero, List.getElem?_cons_succ, Option.getD_some, map_n, Nat.reduceSub, List.cons_append, List.nil_append, bin_neq, decide_false, not_true_eq_false]
    refine CallK.of (s79 A) ?_
    simp (maxSteps := 4000000) -implicitDefEqProofs -dsimp (disch := omega) only [↓AOps_pu, ↓AOps_callv, on_some, extK_false, CallF_fn, pval, rd_S, put_S, partA, eq_self, List.replicate_succ, List.replicate_zero, List.set_cons_zero, List.set_cons_succ, List.getElem?_cons_zero, List.getElem?_cons_succ, List.drop_zero, List.drop_succ_cons, List.take_zero, List.take_succ_cons, List.take_nil, Option.getD_some, map_c, map_n, List.length_cons, List.length_nil, Nat.reduceAdd, Nat.reduceSub, Nat.reduceLeDiff, Nat.reduceMul, Nat.zero_add, List.cons_append, List.nil_append, if_true, if_false, Bool.false_eq_true, and_true, Int.reduceLT, Int.reduceLE, rulesV, c4, tn2]
    refine CallK.of (s89 (hx.mono (rules_pre A)) hc (rules_l1 A)) ?_
    simp (maxSteps := 4000000) -implicitDefEqProofs -dsimp (disch := omega) only [↓AW_ret, ↓AOps_nil, ↓AOps_pu, on_some, extK_false, ↓then_normal, ↓Fin_ret, pval, rd_S, rd_C, put_S, resV, resL, List.replicate_succ, List.replicate_zero, List.set_cons_zero, List.set_cons_succ, List.getElem?_cons_zero, List.getElem?_cons_succ, Option.getD_some, Nat.reduceSub, List.cons_append, List.nil_append]
    exact (AccL_out (rules_pre A) e2_len _).gc2 flat_e2 (I 0) rfl
  · have hO : byO cs e (lo cs e) = [] := if_neg h0
    rw [hO]
    simp (maxSteps := 4000000) -implicitDefEqProofs -dsimp (disch := omega) only [↓AW_ops, ↓AW_seq, ↓AW_cond, ↓AW_ret, ↓AOps_nil, ↓AOps_pu, on_some, extK_same, condB_t, ↓then_normal, ↓then_ret, ↓Fin_ret, pval, rd_S, rd_C, put_S, resV, resL, List.replicate_succ, List.replicate_zero, List.set_cons_zero, List.set_cons_succ, List.getElem?_cons_zero, List.getElem?_cons_succ, Option.getD_some, List.length_nil, Nat.reduceSub, List.cons_append, List.nil_append, bin_neq, decide_true, not_false_eq_true, h0]
    exact gc_same_all rfl rfl
theorem s55c (hx : L1 A v cs) (hl : cs.length ≤ 1000000) : ACalls Try.prog 55 [I 3, v, I e] A (.tuple [outV 2 A (byO cs e (crt cs e)).length, I (vE cs e)]) (outH A ((byO cs e (crt cs e)).flatMap e2) (byO cs e (crt cs e)).length) := by
  refine acalls hmix Try.func55 (by kernel_rfl) t55 3 rfl (by decide) ?_
  dsimp only [m55]
  simp (maxSteps := 4000000) -implicitDefEqProofs -dsimp (disch := omega) only [↓AW_ops, ↓AW_seq, ↓AOps_nil, ↓AOps_pu, ↓AOps_call, on_some, ↓then_normal, pval, rd_S, rd_C, put_S, List.replicate_succ, List.replicate_zero, List.set_cons_zero, List.set_cons_succ, List.getElem?_cons_zero, List.getElem?_cons_succ, Option.getD_some, map_c, map_n, Nat.reduceSub, List.cons_append, List.nil_append]
  refine CallK.of (s16 hx hl e) ?_
  by_cases h0 : vE cs e = 0
  · have hO : byO cs e (crt cs e) = (crt cs e).map rp := if_pos h0
    have hc := vE_0.1 h0
    rw [hO, h0]
    simp (maxSteps := 4000000) -implicitDefEqProofs -dsimp (disch := omega) only [↓AW_skip, ↓AW_ops, ↓AW_seq, ↓AW_cond, ↓AOps_nil, ↓AOps_pu, ↓AOps_call, on_some, extK_same, condB_f, ↓then_normal, pval, rd_S, rd_C, put_S, eq_self, List.replicate_succ, List.replicate_zero, List.set_cons_zero, List.set_cons_succ, List.getElem?_cons_zero, List.getElem?_cons_succ, Option.getD_some, map_n, Nat.reduceSub, List.cons_append, List.nil_append, bin_neq, decide_false, not_true_eq_false]
    refine CallK.of (s79 A) ?_
    simp (maxSteps := 4000000) -implicitDefEqProofs -dsimp (disch := omega) only [↓AOps_pu, ↓AOps_callv, on_some, extK_false, CallF_fn, pval, rd_S, put_S, partA, eq_self, List.replicate_succ, List.replicate_zero, List.set_cons_zero, List.set_cons_succ, List.getElem?_cons_zero, List.getElem?_cons_succ, List.drop_zero, List.drop_succ_cons, List.take_succ_cons, List.take_nil, Option.getD_some, map_c, map_n, List.length_cons, List.length_nil, Nat.reduceAdd, Nat.reduceSub, Nat.reduceLeDiff, Nat.reduceMul, Nat.zero_add, List.cons_append, List.nil_append, if_true, if_false, Bool.false_eq_true, and_true, Int.reduceLT, Int.reduceLE, rulesV, c4, tn3]
    refine CallK.of (s91 (hx.mono (rules_pre A)) hc (rules_l1 A) (rules_l2 A)) ?_
    simp (maxSteps := 4000000) -implicitDefEqProofs -dsimp (disch := omega) only [↓AW_ret, ↓AOps_nil, ↓AOps_pu, on_some, extK_false, ↓then_normal, ↓Fin_ret, pval, rd_S, rd_C, put_S, resV, resL, List.replicate_succ, List.replicate_zero, List.set_cons_zero, List.set_cons_succ, List.getElem?_cons_zero, List.getElem?_cons_succ, Option.getD_some, Nat.reduceSub, List.cons_append, List.nil_append]
    exact (AccL_out (rules_pre A) e2_len _).gc2 flat_e2 (I 0) rfl
  · have hO : byO cs e (crt cs e) = [] := if_neg h0
    rw [hO]
    simp (maxSteps := 4000000) -implicitDefEqProofs -dsimp (disch := omega) only [↓AW_ops, ↓AW_seq, ↓AW_cond, ↓AW_ret, ↓AOps_nil, ↓AOps_pu, on_some, extK_same, condB_t, ↓then_normal, ↓then_ret, ↓Fin_ret, pval, rd_S, rd_C, put_S, resV, resL, List.replicate_succ, List.replicate_zero, List.set_cons_zero, List.set_cons_succ, List.getElem?_cons_zero, List.getElem?_cons_succ, Option.getD_some, List.length_nil, Nat.reduceSub, List.cons_append, List.nil_append, bin_neq, decide_true, not_false_eq_true, h0]
    exact gc_same_all rfl rfl
theorem s19 (hx : L1 A v cs) (hl : cs.length ≤ 1000000) : ACalls Try.prog 19 [v, I e] A (.tuple [outV 2 A (byO cs e (aw cs e)).length, I (vE cs e)]) (outH A ((byO cs e (aw cs e)).flatMap e2) (byO cs e (aw cs e)).length) := by
  refine acalls hmix Try.func19 (by kernel_rfl) t19 2 rfl (by decide) ?_
  dsimp only [m19]
  simp (maxSteps := 4000000) -implicitDefEqProofs -dsimp (disch := omega) only [↓AW_ops, ↓AW_seq, ↓AOps_nil, ↓AOps_pu, ↓AOps_call, on_some, ↓then_normal, pval, rd_S, rd_C, put_S, List.replicate_succ, List.replicate_zero, List.set_cons_zero, List.set_cons_succ, List.getElem?_cons_zero, List.getElem?_cons_succ, Option.getD_some, map_c, map_n, Nat.reduceSub, List.cons_append, List.nil_append]
  refine CallK.of (s55a hx hl) ?_
  simp (maxSteps := 4000000) -implicitDefEqProofs -dsimp (disch := omega) only [↓AW_ret, ↓AOps_nil, ↓AOps_pu, on_some, extK_false, ↓then_normal, ↓Fin_ret, pval, rd_S, put_S, resV, resL, List.replicate_succ, List.replicate_zero, List.set_cons_zero, List.set_cons_succ, List.getElem?_cons_zero, List.getElem?_cons_succ, Option.getD_some, Nat.reduceSub, List.cons_append, List.nil_append]
  exact gc_all
theorem s20 (hx : L1 A v cs) (hl : cs.length ≤ 1000000) : ACalls Try.prog 20 [v, I e] A (.tuple [outV 2 A (byO cs e (lo cs e)).length, I (vE cs e)]) (outH A ((byO cs e (lo cs e)).flatMap e2) (byO cs e (lo cs e)).length) := by
  refine acalls hmix Try.func20 (by kernel_rfl) t20 2 rfl (by decide) ?_
  dsimp only [m20]
  simp (maxSteps := 4000000) -implicitDefEqProofs -dsimp (disch := omega) only [↓AW_ops, ↓AW_seq, ↓AOps_nil, ↓AOps_pu, ↓AOps_call, on_some, ↓then_normal, pval, rd_S, rd_C, put_S, List.replicate_succ, List.replicate_zero, List.set_cons_zero, List.set_cons_succ, List.getElem?_cons_zero, List.getElem?_cons_succ, Option.getD_some, map_c, map_n, Nat.reduceSub, List.cons_append, List.nil_append]
  refine CallK.of (s55l hx hl) ?_
  simp (maxSteps := 4000000) -implicitDefEqProofs -dsimp (disch := omega) only [↓AW_ret, ↓AOps_nil, ↓AOps_pu, on_some, extK_false, ↓then_normal, ↓Fin_ret, pval, rd_S, put_S, resV, resL, List.replicate_succ, List.replicate_zero, List.set_cons_zero, List.set_cons_succ, List.getElem?_cons_zero, List.getElem?_cons_succ, Option.getD_some, Nat.reduceSub, List.cons_append, List.nil_append]
  exact gc_all
theorem s21 (hx : L1 A v cs) (hl : cs.length ≤ 1000000) : ACalls Try.prog 21 [v, I e] A (.tuple [outV 2 A (byO cs e (crt cs e)).length, I (vE cs e)]) (outH A ((byO cs e (crt cs e)).flatMap e2) (byO cs e (crt cs e)).length) := by
  refine acalls hmix Try.func21 (by kernel_rfl) t21 2 rfl (by decide) ?_
  dsimp only [m21]
  simp (maxSteps := 4000000) -implicitDefEqProofs -dsimp (disch := omega) only [↓AW_ops, ↓AW_seq, ↓AOps_nil, ↓AOps_pu, ↓AOps_call, on_some, ↓then_normal, pval, rd_S, rd_C, put_S, List.replicate_succ, List.replicate_zero, List.set_cons_zero, List.set_cons_succ, List.getElem?_cons_zero, List.getElem?_cons_succ, Option.getD_some, map_c, map_n, Nat.reduceSub, List.cons_append, List.nil_append]
  refine CallK.of (s55c hx hl) ?_
  simp (maxSteps := 4000000) -implicitDefEqProofs -dsimp (disch := omega) only [↓AW_ret, ↓AOps_nil, ↓AOps_pu, on_some, extK_false, ↓then_normal, ↓Fin_ret, pval, rd_S, put_S, resV, resL, List.replicate_succ, List.replicate_zero, List.set_cons_zero, List.set_cons_succ, List.getElem?_cons_zero, List.getElem?_cons_succ, Option.getD_some, Nat.reduceSub, List.cons_append, List.nil_append]
  exact gc_all
end
end Go.Proofs.Ytdcdjhhjlpegjaa

namespace Go.Proofs.Ytdcdjhhjlpegjaa
open Go Go.Eng
/-- The sum of the numbers below one. -/
def bs (c : Int) : List Int → Int
  | [] => 0
  | d :: l => (if d < c then d else 0) + bs c l
/-- How many are not below one. -/
def bn (c : Int) : List Int → Int
  | [] => 0
  | d :: l => (if d < c then 0 else 1) + bn c l
theorem bs_snoc (c d : Int) : ∀ l : List Int, bs c (l ++ [d]) = bs c l + (if d < c then d else 0)
  | [] => by simp [bs]
  | x :: l => by rw [List.cons_append, bs, bs_snoc c d l, bs]; omega
theorem bn_snoc (c d : Int) : ∀ l : List Int, bn c (l ++ [d]) = bn c l + (if d < c then 0 else 1)
  | [] => by simp [bn]
  | x :: l => by rw [List.cons_append, bn, bn_snoc c d l, bn]; omega
theorem bs_bd (c : Int) : ∀ {l : List Int}, (∀ x ∈ l, 0 ≤ x ∧ x ≤ 1000) → 0 ≤ bs c l ∧ bs c l ≤ 1000 * l.length
  | [], _ => by simp [bs]
  | x :: l, h => by
    have ih := bs_bd c (l := l) (fun y hy => h y (by simp [hy]))
    have hx := h x (by simp)
    simp only [bs, List.length_cons]
    split <;> omega
theorem bn_bd (c : Int) : ∀ (l : List Int), 0 ≤ bn c l ∧ bn c l ≤ l.length
  | [] => by simp [bn]
  | x :: l => by
    have ih := bn_bd c l
    simp only [bn, List.length_cons]
    split <;> omega
theorem bn_pos {c : Int} : ∀ {l : List Int}, c ∈ l → 1 ≤ bn c l
  | [], h => by simp at h
  | x :: l, h => by
    have hb := bn_bd c l
    simp only [bn]
    rcases List.mem_cons.1 h with rfl | h
    · rw [if_neg (by omega)]; omega
    · have := bn_pos h
      split <;> omega
/-- The greatest number below one, or 0. -/
structure SM (c : Int) (xs : List Int) (s : Int) : Prop where
  s0 : 0 ≤ s
  s1 : s ≤ 1000
  all : ∀ d ∈ xs, d < c → d ≤ s
  is : s = 0 ∨ (s ∈ xs ∧ s < c)
/-- Whether a claim is the smallest one that is not satisfied. -/
def gdC (cs : List Int) (e c s : Int) : Prop := bn c cs * s ≤ e - bs c cs ∧ e - bs c cs ≤ bn c cs * c
theorem cap_below {c : Int} {l : Rat} (hc : l ≤ (c : Rat)) : ∀ {xs : List Int}, (∀ d ∈ xs, d < c → (d : Rat) ≤ l) → (capL xs l).sum = ((bs c xs : Int) : Rat) + ((bn c xs : Int) : Rat) * l
  | [], _ => by simp only [capL, List.map_nil, List.sum_nil, bs, bn]; rw [int0]; grind
  | d :: xs, h => by
    have ih := cap_below hc (xs := xs) (fun x hx => h x (by simp [hx]))
    show (mnq d l :: capL xs l).sum = _
    rw [List.sum_cons, ih, bs, bn, Rat.intCast_add, Rat.intCast_add]
    by_cases hd : d < c
    · rw [if_pos hd, if_pos hd, mnq_c (h d (by simp) hd), int0]; grind
    · have : l ≤ (d : Rat) := Rat.le_trans hc (Rat.intCast_le_intCast.2 (by omega))
      rw [if_neg hd, if_neg hd, mnq_l this, int0, int1]; grind
theorem gdC_lv {cs : List Int} {e c s : Int} (hm : c ∈ cs) (hs : SM c cs s) (hg : gdC cs e c s) : LV cs e (((e - bs c cs : Int) : Rat) / ((bn c cs : Int) : Rat)) := by
  have hn := bn_pos hm
  have hnr := cast_pos (show 0 < bn c cs by omega)
  generalize hl : (((e - bs c cs : Int) : Rat) / ((bn c cs : Int) : Rat)) = l at *
  have hmul : ((bn c cs : Int) : Rat) * l = ((e - bs c cs : Int) : Rat) := by rw [← hl]; exact div_mul_same (by omega)
  have h1 : ((s : Int) : Rat) ≤ l := by
    refine Rat.le_of_mul_le_mul_left ?_ hnr
    rw [hmul, ← Rat.intCast_mul]
    exact Rat.intCast_le_intCast.2 hg.1
  have h2 : l ≤ ((c : Int) : Rat) := by
    refine Rat.le_of_mul_le_mul_left ?_ hnr
    rw [hmul, ← Rat.intCast_mul]
    exact Rat.intCast_le_intCast.2 hg.2
  refine ⟨Rat.le_trans (cast_nonneg hs.s0) h1, ⟨c, hm, h2⟩, ?_⟩
  rw [cap_below h2 (fun d hd hdc => Rat.le_trans (Rat.intCast_le_intCast.2 (hs.all d hd hdc)) h1), hmul, Rat.intCast_sub]
  grind
theorem least_above {l : Rat} : ∀ {cs : List Int}, (∃ c ∈ cs, l ≤ (c : Rat)) → ∃ c ∈ cs, l ≤ (c : Rat) ∧ ∀ d ∈ cs, l ≤ (d : Rat) → c ≤ d
  | [], h => by obtain ⟨c, hc, _⟩ := h; simp at hc
  | a :: cs, h => by
    by_cases hr : ∃ c ∈ cs, l ≤ (c : Rat)
    · obtain ⟨c, hc, hl, hmin⟩ := least_above hr
      by_cases ha : l ≤ (a : Rat) ∧ a < c
      · exact ⟨a, by simp, ha.1, fun d hd hld => by
          rcases List.mem_cons.1 hd with rfl | hd
          · omega
          · have := hmin d hd hld; omega⟩
      · refine ⟨c, by simp [hc], hl, fun d hd hld => ?_⟩
        rcases List.mem_cons.1 hd with rfl | hd
        · exact Int.not_lt.1 (fun hh => ha ⟨hld, hh⟩)
        · exact hmin d hd hld
    · obtain ⟨c, hc, hl⟩ := h
      rcases List.mem_cons.1 hc with rfl | hc
      · refine ⟨c, by simp, hl, fun d hd hld => ?_⟩
        rcases List.mem_cons.1 hd with rfl | hd
        · omega
        · exact absurd ⟨d, hd, hld⟩ hr
      · exact absurd ⟨c, hc, hl⟩ hr
theorem gdC_ex {cs : List Int} {e : Int} (h : CE cs e) : ∃ c ∈ cs, ∀ s, SM c cs s → gdC cs e c s := by
  obtain ⟨hL, _⟩ := lv_char h
  generalize lv cs e = l at *
  obtain ⟨c, hc, hcl, hmin⟩ := least_above hL.lc
  refine ⟨c, hc, fun s hs => ?_⟩
  have hbel : ∀ d ∈ cs, d < c → (d : Rat) ≤ l := by
    intro d hd hdc
    refine Rat.not_lt.1 (fun hlt => ?_)
    have := hmin d hd (Rat.le_of_lt hlt)
    omega
  have hsum := cap_below hcl hbel
  rw [hL.s] at hsum
  have hn := bn_pos hc
  have hnr := cast_pos (show 0 < bn c cs by omega)
  have hmul : ((e - bs c cs : Int) : Rat) = ((bn c cs : Int) : Rat) * l := by rw [Rat.intCast_sub]; grind
  have hsl : (s : Rat) ≤ l := by
    rcases hs.is with h0 | ⟨h1, h2⟩
    · rw [h0]; exact hL.l0
    · exact hbel s h1 h2
  constructor
  · refine Rat.intCast_le_intCast.1 ?_
    rw [hmul, Rat.intCast_mul]
    exact Rat.mul_le_mul_of_nonneg_left hsl (Rat.le_of_lt hnr)
  · refine Rat.intCast_le_intCast.1 ?_
    rw [hmul, Rat.intCast_mul]
    exact Rat.mul_le_mul_of_nonneg_left hcl (Rat.le_of_lt hnr)
section
variable {cs : List Int} {v : AV} {A : AHeap} {e : Int}
theorem bs_take {c d : Int} {k : Nat} (h : cs[k]? = some d) : bs c (cs.take (k + 1)) = bs c (cs.take k) + (if d < c then d else 0) := by
  rw [List.take_add_one, h]; exact bs_snoc c d _
theorem bn_take {c d : Int} {k : Nat} (h : cs[k]? = some d) : bn c (cs.take (k + 1)) = bn c (cs.take k) + (if d < c then 0 else 1) := by
  rw [List.take_add_one, h]; exact bn_snoc c d _
set_option maxHeartbeats 2000000 in
theorem s66 (hx : L1 A v cs) (hc : CE cs e) : ACalls Try.prog 66 [v, I e] A (R (lv cs e)) A := by
  refine acalls hmix Try.func66 (by kernel_rfl) t66 2 rfl (by decide) ?_
  have hl1 := hc.ok.l1
  have hl8 := hc.ok.l8
  have hs := hc.ok.sum
  have he0 := hc.e0
  have he1 := hc.e1
  dsimp only [m66]
  simp (maxSteps := 4000000) -implicitDefEqProofs -dsimp (disch := omega) only [↓AW_ops, ↓AW_seq, ↓AW_block, ↓AOps_nil, ↓AOps_pu, on_some, ↓then_normal, pval, rd_C, put_S, ↓AW_toLoop, AV.cells?, List.replicate_succ, List.replicate_zero, List.set_cons_zero, List.set_cons_succ, Nat.reduceSub, List.cons_append, List.nil_append]
  refine LoopK.by 84 (fun i : Nat => i ≤ cs.length ∧ ∀ c ∈ cs.take i, ∃ s, SM c cs s ∧ ¬ gdC cs e c s) (fun i => [(0, v), (1, I e), (4, .agg [I 0, I 0]), (5, I i)]) (fun _ => A) (fun i => cs.length - i) 0 ⟨by omega, by simp⟩ rfl (by simp [Has, rd_s]) rfl ?_
  rintro i ⟨hi, hno⟩
  by_cases hlt : i < cs.length
  · obtain ⟨c, hz⟩ : ∃ z, cs[i]? = some z := ⟨_, List.getElem?_eq_getElem hlt⟩
    have hlt' : (i : Int) < cs.length := by omega
    have hcm := List.mem_of_getElem? hz
    have hcc := hc.ok.c c hcm
    simp (maxSteps := 4000000) -implicitDefEqProofs -dsimp (disch := omega) only [↓AW_skip, ↓AW_ops, ↓AW_seq, ↓AW_cond, ↓AW_block, ↓AOps_nil, ↓AOps_pu, on_some, condB_t, ↓then_normal, pval, rd_S, rd_C, put_S, ↓AW_toLoop, mk, List.foldl_cons, List.foldl_nil, List.replicate_succ, List.replicate_zero, List.set_cons_zero, List.set_cons_succ, List.getElem?_cons_zero, List.getElem?_cons_succ, Option.getD_some, bin_lss, decide_true, hlt', hx.len]
    refine LoopK.by 84 (fun k : Nat => k ≤ cs.length) (fun k => [(0, v), (1, I e), (4, .agg [I 0, I 0]), (5, I i), (6, I (e - bs c (cs.take k))), (7, I (bn c (cs.take k))), (8, I k)]) (fun _ => A) (fun k => cs.length - k) 0 (by omega) rfl (by simp [Has, rd_s, bs, bn]) rfl ?_
    intro k hk
    have b1 := bs_bd c (l := cs.take k) (fun x hx => hc.ok.c x (List.mem_of_mem_take hx))
    have b2 := bn_bd c (cs.take k)
    have hkl : (cs.take k).length ≤ 8 := by rw [List.length_take]; omega
    by_cases hkt : k < cs.length
    · have hkt' : (k : Int) < cs.length := by omega
      obtain ⟨d, hd⟩ : ∃ d, cs[k]? = some d := ⟨_, List.getElem?_eq_getElem hkt⟩
      have hdc := hc.ok.c d (List.mem_of_getElem? hd)
      have t1 := bs_take (c := c) hd
      have t2 := bn_take (c := c) hd
      by_cases h1 : d < c
      · rw [if_pos h1] at t1 t2
        simp (maxSteps := 4000000) -implicitDefEqProofs -dsimp (disch := omega) only [↓AW_skip, ↓AW_ops, ↓AW_seq, ↓AW_cond, ↓AW_block, ↓AOps_nil, ↓AOps_pu, ↓AOps_ld, on_some, condB_t, ↓then_normal, ↓inBlock_normal, pval, lval, rd_S, rd_C, put_S, partA, eq_self, mk, List.foldl_cons, List.foldl_nil, List.replicate_succ, List.replicate_zero, List.set_cons_zero, List.set_cons_succ, List.getElem?_cons_zero, List.getElem?_cons_succ, List.drop_zero, List.take_succ_cons, List.take_nil, Option.getD_some, List.length_cons, List.length_nil, Nat.reduceAdd, Nat.reduceLeDiff, Nat.zero_add, bin_add, bin_sub, bin_lss, w64, if_true, if_false, Bool.false_eq_true, decide_true, Go.Eng.e1, true_and, hkt', hx.len, hx.idx hkt, hx.ld0 hd 1 false (by decide), hx.idx hlt, hx.ld0 hz 1 false (by decide), h1]
        refine ⟨k + 1, hkt, ?_, by omega⟩
        rw [t1, t2]
        simp [Has, rd_s]
        omega
      · rw [if_neg h1] at t1 t2
        simp (maxSteps := 4000000) -implicitDefEqProofs -dsimp (disch := omega) only [↓AW_skip, ↓AW_ops, ↓AW_seq, ↓AW_cond, ↓AW_block, ↓AOps_nil, ↓AOps_pu, ↓AOps_ld, on_some, condB_t, condB_f, ↓then_normal, ↓inBlock_normal, pval, lval, rd_S, rd_C, put_S, partA, eq_self, mk, List.foldl_cons, List.foldl_nil, List.replicate_succ, List.replicate_zero, List.set_cons_zero, List.set_cons_succ, List.getElem?_cons_zero, List.getElem?_cons_succ, List.drop_zero, List.take_succ_cons, List.take_nil, Option.getD_some, List.length_cons, List.length_nil, Nat.reduceAdd, Nat.reduceLeDiff, Nat.zero_add, bin_add, bin_lss, w64, if_true, if_false, Bool.false_eq_true, decide_true, decide_false, Go.Eng.e1, true_and, hkt', hx.len, hx.idx hkt, hx.ld0 hd 1 false (by decide), hx.idx hlt, hx.ld0 hz 1 false (by decide), h1]
        refine ⟨k + 1, hkt, ?_, by omega⟩
        rw [t1, t2]
        simp [Has, rd_s]
    · have hkt' : ¬ ((k : Int) < cs.length) := by omega
      have htk : cs.take k = cs := List.take_of_length_le (by omega)
      rw [htk] at b1 b2 ⊢
      simp (maxSteps := 4000000) -implicitDefEqProofs -dsimp (disch := omega) only [↓AW_ops, ↓AW_seq, ↓AW_cond, ↓AW_block, ↓AW_exit, ↓AW_ret, ↓AOps_nil, ↓AOps_pu, on_some, condB_f, ↓then_normal, ↓then_exit, ↓inBlock_exit, ↓Fin_ret, pval, rd_S, rd_C, put_S, ↓AW_toLoop, resV, resL, chkd, bput, bgot, AV.cells?, splice, partA, fillA, eq_self, mk, List.foldl_cons, List.foldl_nil, List.replicate_succ, List.replicate_zero, List.set_cons_zero, List.set_cons_succ, List.getElem?_cons_zero, List.getElem?_cons_succ, List.drop_zero, List.drop_succ_cons, List.drop_nil, List.take_zero, List.take_succ_cons, List.take_nil, Option.getD_some, Option.map_some, map_c, map_n, List.length_cons, List.length_nil, Nat.reduceAdd, Nat.reduceLeDiff, Nat.reduceEqDiff, Nat.zero_add, List.cons_append, List.nil_append, List.append_nil, bin_add, bin_lss, w64, if_true, if_false, decide_false, true_and, and_true, reduceCtorEq, ne_eq, not_true_eq_false, hkt', hx.len]
      refine LoopK.by 84 (fun x : Nat × Int => x.1 ≤ cs.length ∧ SM c (cs.take x.1) x.2) (fun x => [(0, v), (1, I e), (4, .agg [I 0, I 0]), (5, I i), (6, I (e - bs c cs)), (7, I (bn c cs)), (9, I x.2), (10, I x.1)]) (fun _ => A) (fun x => cs.length - x.1) (0, 0) ⟨by simp only; omega, by simp only; omega, by simp only; omega, by simp, .inl rfl⟩ rfl (by simp [Has, rd_s]) rfl ?_
      rintro ⟨j, s⟩ ⟨hj, hS⟩
      simp only at hj hS
      have hs0 := hS.s0
      have hs1 := hS.s1
      by_cases hjt : j < cs.length
      · have hjt' : (j : Int) < cs.length := by omega
        obtain ⟨d, hd⟩ : ∃ d, cs[j]? = some d := ⟨_, List.getElem?_eq_getElem hjt⟩
        have hdc := hc.ok.c d (List.mem_of_getElem? hd)
        by_cases h1 : d < c
        · simp (maxSteps := 4000000) -implicitDefEqProofs -dsimp (disch := omega) only [↓AW_skip, ↓AW_ops, ↓AW_seq, ↓AW_cond, ↓AW_block, ↓AOps_nil, ↓AOps_pu, ↓AOps_ld, on_some, condB_t, ↓then_normal, ↓inBlock_normal, pval, lval, rd_S, rd_C, put_S, partA, eq_self, mk, List.foldl_cons, List.foldl_nil, List.replicate_succ, List.replicate_zero, List.set_cons_zero, List.set_cons_succ, List.getElem?_cons_zero, List.getElem?_cons_succ, List.drop_zero, List.take_succ_cons, List.take_nil, Option.getD_some, map_c, map_n, List.length_cons, List.length_nil, Nat.reduceAdd, Nat.reduceLeDiff, Nat.zero_add, bin_add, bin_lss, mm_max, w64, if_true, if_false, Bool.false_eq_true, decide_true, Go.Eng.e1, true_and, hjt', hx.len, hx.idx hjt, hx.ld0 hd 1 false (by decide), hx.idx hlt, hx.ld0 hz 1 false (by decide), h1]
          refine ⟨(j + 1, max s d), ⟨hjt, by simp only; omega, by simp only; omega, fun x hxm hxc => ?_, ?_⟩, by simp [Has, rd_s], by simp only; omega⟩
          · simp only
            rcases (take_mem hd).1 hxm with hxm | rfl
            · have := hS.all x hxm hxc; omega
            · omega
          · simp only
            by_cases hm : s ≤ d
            · have : max s d = d := by omega
              rw [this]
              exact .inr ⟨(take_mem hd).2 (.inr rfl), h1⟩
            · have : max s d = s := by omega
              rw [this]
              rcases hS.is with h0 | ⟨h2, h3⟩
              · exact .inl h0
              · exact .inr ⟨(take_mem hd).2 (.inl h2), h3⟩
        · simp (maxSteps := 4000000) -implicitDefEqProofs -dsimp (disch := omega) only [↓AW_skip, ↓AW_ops, ↓AW_seq, ↓AW_cond, ↓AW_block, ↓AOps_nil, ↓AOps_pu, ↓AOps_ld, on_some, condB_t, condB_f, ↓then_normal, ↓inBlock_normal, pval, lval, rd_S, rd_C, put_S, partA, eq_self, mk, List.foldl_cons, List.foldl_nil, List.replicate_succ, List.replicate_zero, List.set_cons_zero, List.set_cons_succ, List.getElem?_cons_zero, List.getElem?_cons_succ, List.drop_zero, List.take_succ_cons, List.take_nil, Option.getD_some, List.length_cons, List.length_nil, Nat.reduceAdd, Nat.reduceLeDiff, Nat.zero_add, bin_add, bin_lss, w64, if_true, if_false, Bool.false_eq_true, decide_true, decide_false, Go.Eng.e1, true_and, hjt', hx.len, hx.idx hjt, hx.ld0 hd 1 false (by decide), hx.idx hlt, hx.ld0 hz 1 false (by decide), h1]
          refine ⟨(j + 1, s), ⟨hjt, hs0, hs1, fun x hxm hxc => ?_, ?_⟩, by simp [Has, rd_s], by simp only; omega⟩
          · rcases (take_mem hd).1 hxm with hxm | rfl
            · exact hS.all x hxm hxc
            · exact absurd hxc h1
          · rcases hS.is with h0 | ⟨h2, h3⟩
            · exact .inl h0
            · exact .inr ⟨(take_mem hd).2 (.inl h2), h3⟩
      · have hjt' : ¬ ((j : Int) < cs.length) := by omega
        have htj : cs.take j = cs := List.take_of_length_le (by omega)
        rw [htj] at hS
        have hnp := bn_pos hcm
        have m1 := Int.mul_le_mul (show bn c cs ≤ 8 by omega) hs1 hs0 (by omega : (0 : Int) ≤ 8)
        have m2 := Int.mul_nonneg b2.1 hs0
        have m3 := Int.mul_le_mul (show bn c cs ≤ 8 by omega) hcc.2 hcc.1 (by omega : (0 : Int) ≤ 8)
        have m4 := Int.mul_nonneg b2.1 hcc.1
        have next : ¬ gdC cs e c s → ∀ c' ∈ cs.take (i + 1), ∃ s, SM c' cs s ∧ ¬ gdC cs e c' s := by
          intro hng c' hc'
          rcases (take_mem hz).1 hc' with hc' | rfl
          · exact hno c' hc'
          · exact ⟨s, hS, hng⟩
        by_cases h1 : bn c cs * s ≤ e - bs c cs
        · by_cases h2 : e - bs c cs ≤ bn c cs * c
          · have hlv := LV.uniq (gdC_lv hcm hS ⟨h1, h2⟩) (lv_char hc).1
            have hmx : max (e - bs c cs) 0 = e - bs c cs := by omega
            simp (maxSteps := 4000000) -implicitDefEqProofs -dsimp (disch := omega) only [↓AW_ops, ↓AW_seq, ↓AW_cond, ↓AW_exit, ↓AW_ret, ↓AOps_nil, ↓AOps_pu, ↓AOps_ld, ↓AOps_call, ↓AOps_guard, on_some, guardB_tt, condB_t, condB_f, ↓then_normal, ↓then_exit, ↓inBlock_exit, ↓Fin_ret, pval, lval, rd_S, rd_C, put_S, resV, resL, chkd, bput, bgot, AV.cells?, splice, partA, fillA, eq_self, mk, List.foldl_cons, List.foldl_nil, List.replicate_succ, List.replicate_zero, List.set_cons_zero, List.set_cons_succ, List.getElem?_cons_zero, List.getElem?_cons_succ, List.drop_zero, List.drop_succ_cons, List.drop_nil, List.take_zero, List.take_succ_cons, List.take_nil, Option.getD_some, Option.map_some, map_c, map_n, List.length_cons, List.length_nil, Nat.reduceAdd, Nat.reduceLeDiff, Nat.reduceEqDiff, Nat.zero_add, List.cons_append, List.nil_append, List.append_nil, bin_add, bin_mul, bin_lss, bin_leq, bin_geq, mm_max, w64, if_true, if_false, Bool.false_eq_true, decide_true, decide_false, Go.Eng.e1, true_and, and_true, reduceCtorEq, ne_eq, not_true_eq_false, hjt', hx.len, hx.idx hlt, hx.ld0 hz 1 false (by decide), h1, h2, hmx]
            refine CallK.of (s62 (a := e - bs c cs) (b := bn c cs) _ ⟨by omega, by omega⟩ (by omega) (by omega)) ?_
            rw [hlv]
            simp (maxSteps := 4000000) -implicitDefEqProofs -dsimp (disch := omega) only [↓AW_ops, ↓AW_seq, ↓AW_ret, ↓AOps_nil, ↓AOps_pu, on_some, extK_same, ↓then_normal, ↓then_ret, ↓inBlock_ret, ↓Fin_ret, pval, rd_S, rd_C, put_S, resV, resL, chkd, bput, bgot, AV.cells?, splice, partA, eq_self, mk, List.foldl_cons, List.foldl_nil, List.replicate_succ, List.replicate_zero, List.set_cons_zero, List.set_cons_succ, List.getElem?_cons_zero, List.getElem?_cons_succ, List.drop_zero, List.drop_succ_cons, List.drop_nil, List.take_zero, List.take_succ_cons, List.take_nil, Option.getD_some, List.length_cons, List.length_nil, Nat.reduceAdd, Nat.reduceLeDiff, Nat.reduceEqDiff, Nat.zero_add, List.nil_append, List.append_nil, if_true, if_false, ne_eq, not_true_eq_false, R]
            exact gc_same rfl
          · simp (maxSteps := 4000000) -implicitDefEqProofs -dsimp (disch := omega) only [↓AW_skip, ↓AW_ops, ↓AW_seq, ↓AW_cond, ↓AW_exit, ↓AW_ret, ↓AOps_nil, ↓AOps_pu, ↓AOps_ld, ↓AOps_guard, on_some, guardB_tt, condB_f, ↓then_normal, ↓then_exit, ↓inBlock_normal, ↓inBlock_exit, ↓Fin_ret, pval, lval, rd_S, rd_C, put_S, resV, resL, chkd, bput, bgot, AV.cells?, splice, partA, fillA, eq_self, mk, List.foldl_cons, List.foldl_nil, List.replicate_succ, List.replicate_zero, List.set_cons_zero, List.set_cons_succ, List.getElem?_cons_zero, List.getElem?_cons_succ, List.drop_zero, List.drop_succ_cons, List.drop_nil, List.take_zero, List.take_succ_cons, List.take_nil, Option.getD_some, Option.map_some, map_c, map_n, List.length_cons, List.length_nil, Nat.reduceAdd, Nat.reduceLeDiff, Nat.reduceEqDiff, Nat.zero_add, List.cons_append, List.nil_append, List.append_nil, bin_add, bin_mul, bin_lss, bin_leq, bin_geq, w64, if_true, if_false, Bool.false_eq_true, decide_true, decide_false, Go.Eng.e1, true_and, and_true, reduceCtorEq, ne_eq, not_true_eq_false, hjt', hx.len, hx.idx hlt, hx.ld0 hz 1 false (by decide), h1, h2]
            exact ⟨i + 1, ⟨hlt, next (fun hh => h2 hh.2)⟩, by simp [Has, rd_s], by omega⟩
        · simp (maxSteps := 4000000) -implicitDefEqProofs -dsimp (disch := omega) only [↓AW_skip, ↓AW_ops, ↓AW_seq, ↓AW_cond, ↓AW_exit, ↓AW_ret, ↓AOps_nil, ↓AOps_pu, ↓AOps_guard, on_some, guardB_ft, skipS_some, condB_f, ↓then_normal, ↓then_exit, ↓inBlock_normal, ↓inBlock_exit, ↓Fin_ret, pval, rd_S, rd_C, put_S, resV, resL, chkd, bput, bgot, AV.cells?, splice, partA, fillA, eq_self, mk, List.foldl_cons, List.foldl_nil, List.replicate_succ, List.replicate_zero, List.set_cons_zero, List.set_cons_succ, List.getElem?_cons_zero, List.getElem?_cons_succ, List.drop_zero, List.drop_succ_cons, List.drop_nil, List.take_zero, List.take_succ_cons, List.take_nil, Option.getD_some, Option.map_some, map_c, map_n, List.length_cons, List.length_nil, Nat.reduceAdd, Nat.reduceLeDiff, Nat.reduceEqDiff, Nat.zero_add, List.cons_append, List.nil_append, List.append_nil, bin_add, bin_mul, bin_lss, bin_geq, w64, if_true, if_false, Bool.false_eq_true, decide_false, true_and, and_true, reduceCtorEq, ne_eq, not_true_eq_false, hjt', hx.len, h1]
          exact ⟨i + 1, ⟨hlt, next (fun hh => h1 hh.1)⟩, by simp [Has, rd_s], by omega⟩
  · exfalso
    rw [List.take_of_length_le (by omega)] at hno
    obtain ⟨c, hcm, hall⟩ := gdC_ex hc
    obtain ⟨s, h1, h2⟩ := hno c hcm
    exact h2 (hall s h1)
end
end Go.Proofs.Ytdcdjhhjlpegjaa

namespace Go.Proofs.Ytdcdjhhjlpegjaa
open Go Go.Eng
theorem cancel {a b d : Rat} (hd : 0 < d) (h : a * d = b * d) : a = b :=
  Rat.le_antisymm (rat_le_of_mul hd (by rw [h]; exact Rat.le_refl)) (rat_le_of_mul hd (by rw [h]; exact Rat.le_refl))
theorem half (x : Int) {d : Int} (hd : 0 < d) : ((x : Int) : Rat) / ((2 * d : Int) : Rat) = ((x : Rat) / (d : Rat)) / ((2 : Int) : Rat) := by
  have h2 := cast_pos (show (0 : Int) < 2 by decide)
  have hdr := cast_pos hd
  have h2d := cast_pos (show 0 < 2 * d by omega)
  refine cancel h2d ?_
  rw [Rat.div_mul_cancel (Ne.symm (Rat.ne_of_lt h2d)), Rat.intCast_mul, ← Rat.mul_assoc, Rat.div_mul_cancel (Ne.symm (Rat.ne_of_lt h2)), Rat.div_mul_cancel (Ne.symm (Rat.ne_of_lt hdr))]
theorem hq_eq (q : Rat) : hq q = q / ((2 : Int) : Rat) := by
  unfold hq
  rw [half _ (den_pos q), ← R_self]
theorem q_mul (q : Rat) : q * ((q.den : Int) : Rat) = ((q.num : Int) : Rat) := by
  have hdp := cast_pos (den_pos q)
  conv => lhs; lhs; rw [R_self q]
  exact Rat.div_mul_cancel (Ne.symm (Rat.ne_of_lt hdp))
theorem over_den {x : Int} {y q : Rat} (h : (x : Rat) = y * ((q.den : Int) : Rat)) : (x : Rat) / ((q.den : Int) : Rat) = y := by
  have hdp := cast_pos (den_pos q)
  refine cancel hdp ?_
  rw [Rat.div_mul_cancel (Ne.symm (Rat.ne_of_lt hdp)), h]
theorem hqc_eq (c : Int) (q : Rat) : hqc c q = (q + (c : Rat)) / ((2 : Int) : Rat) := by
  unfold hqc
  rw [half _ (den_pos q)]
  congr 1
  refine over_den ?_
  rw [Rat.intCast_add, Rat.intCast_mul, ← q_mul]
  grind
/-- The smaller ones of the claims and a number, over its denominator. -/
def upL (cs : List Int) (l : Rat) : List Int := cs.map (fun c => min (c * (l.den : Int)) l.num)
/-- What the claims are above a number, over its denominator. -/
def reL (cs : List Int) (l : Rat) : List Int := cs.map (fun c => max 0 (c * (l.den : Int) - l.num))
def fr (xs : List Int) (d : Int) : List Rat := xs.map (fun x : Int => (x : Rat) / (d : Rat))
theorem up_q (c : Int) (l : Rat) : (((min (c * (l.den : Int)) l.num : Int)) : Rat) = mnq c l * ((l.den : Int) : Rat) := by
  by_cases h : c * (l.den : Int) < l.num
  · have h1 : min (c * (l.den : Int)) l.num = c * (l.den : Int) := by omega
    rw [h1, mnq_c (Rat.le_of_lt (mnq_iff.1 h)), Rat.intCast_mul]
  · have h1 : min (c * (l.den : Int)) l.num = l.num := by omega
    rw [h1, mnq_l (Rat.not_lt.1 (fun hh => h (mnq_iff.2 hh))), q_mul]
theorem re_q (c : Int) (l : Rat) : (((max 0 (c * (l.den : Int) - l.num) : Int)) : Rat) = ((c : Rat) - mnq c l) * ((l.den : Int) : Rat) := by
  by_cases h : c * (l.den : Int) < l.num
  · have h1 : max 0 (c * (l.den : Int) - l.num) = 0 := by omega
    rw [h1, mnq_c (Rat.le_of_lt (mnq_iff.1 h)), int0]
    grind
  · have h1 : max 0 (c * (l.den : Int) - l.num) = c * (l.den : Int) - l.num := by omega
    rw [h1, mnq_l (Rat.not_lt.1 (fun hh => h (mnq_iff.2 hh))), Rat.intCast_sub, Rat.intCast_mul, ← q_mul]
    grind
theorem fr_up2 (cs : List Int) (l : Rat) : fr (upL cs l) (2 * (l.den : Int)) = (capL cs l).map hq := by
  unfold fr upL capL
  rw [List.map_map, List.map_map]
  refine List.map_congr_left (fun c _ => ?_)
  show _ / _ = hq (mnq c l)
  rw [hq_eq, half _ (den_pos l), over_den (up_q c l)]
theorem crt_hi {cs : List Int} {e : Int} (h : ¬ 2 * e ≤ cs.sum) : crt cs e = cs.map (fun c : Int => hqc c ((c : Rat) - mnq c (lv cs (2 * cs.sum - 2 * e)))) := by
  unfold crt
  rw [if_neg h, lo_eq, zip_self, List.map_map]
  refine List.map_congr_left (fun c _ => ?_)
  show hqc c ((c : Rat) - mnq c (lv cs (cs.sum - (2 * e - cs.sum)))) = _
  have : cs.sum - (2 * e - cs.sum) = 2 * cs.sum - 2 * e := by omega
  rw [this]
/-- What is left of the claims, and the claims, over a number's denominator. -/
def reC (cs : List Int) (l : Rat) : List Int := cs.map (fun c => max 0 (c * (l.den : Int) - l.num) + c * (l.den : Int))
theorem fr_re2 {cs : List Int} {e : Int} (h : ¬ 2 * e ≤ cs.sum) : fr (reC cs (lv cs (2 * cs.sum - 2 * e))) (2 * ((lv cs (2 * cs.sum - 2 * e)).den : Int)) = crt cs e := by
  rw [crt_hi h]
  unfold fr reC
  rw [List.map_map]
  refine List.map_congr_left (fun c _ => ?_)
  generalize lv cs (2 * cs.sum - 2 * e) = l
  show _ / _ = hqc c ((c : Rat) - mnq c l)
  rw [hqc_eq, half _ (den_pos l)]
  congr 1
  refine over_den ?_
  rw [Rat.intCast_add, re_q, Rat.intCast_mul]
  grind
theorem mnq_den {cs : List Int} {e : Int} {k : Int} (hd : ((lv cs e).den : Int) ∣ k) (c : Int) : ((mnq c (lv cs e)).den : Int) ∣ k := by
  unfold mnq
  split
  · rw [Rat.den_intCast]; exact Int.one_dvd _
  · exact hd
theorem sub_den {c : Int} {q : Rat} {k : Int} (h : (q.den : Int) ∣ k) : (((c : Rat) - q).den : Int) ∣ k := by
  have hd : (((c : Rat) - q).den : Int) ∣ (q.den : Int) := by
    rw [← lsq_eq c q]
    exact div_den (den_pos q)
  exact Int.dvd_trans hd h
theorem mnq0 {c : Int} {l : Rat} (hc : 0 ≤ c) (hl : 0 ≤ l) : 0 ≤ mnq c l := mnq_ge hl (cast_nonneg hc)
theorem aw_ok {cs : List Int} {e : Int} (hc : CE cs e) : chE cs e ((aw cs e).map rp) = 0 := by
  obtain ⟨hL, k, hk, hd⟩ := lv_char hc
  have hl8 := hc.ok.l8
  refine chE_ok hc (E := k) (by omega) (aw_len cs e) (fun q hq => ?_) (fun z hz => ?_) hL.s
  · obtain ⟨c, hcm, rfl⟩ := List.mem_map.1 hq
    exact ⟨mnq_den hd c, mnq0 (hc.ok.c c hcm).1 hL.l0⟩
  · unfold aw capL at hz
    rw [zip_self] at hz
    obtain ⟨c, hcm, rfl⟩ := List.mem_map.1 hz
    exact (mnq_le _ _).2
theorem sum_sub (f : Int → Rat) : ∀ cs : List Int, (cs.map (fun c : Int => (c : Rat) - f c)).sum = ((cs.sum : Int) : Rat) - (cs.map f).sum
  | [] => by simp only [List.map_nil, List.sum_nil]; rw [int0]; grind
  | c :: cs => by
    rw [List.map_cons, List.map_cons, List.sum_cons, List.sum_cons, List.sum_cons, sum_sub f cs, Rat.intCast_add]
    grind
theorem sum_sub2 (f : Int → Rat) : ∀ cs : List Int, (cs.map (fun c : Int => f c - (c : Rat))).sum = (cs.map f).sum - ((cs.sum : Int) : Rat)
  | [] => by simp only [List.map_nil, List.sum_nil]; rw [int0]; grind
  | c :: cs => by
    rw [List.map_cons, List.map_cons, List.sum_cons, List.sum_cons, List.sum_cons, sum_sub2 f cs, Rat.intCast_add]
    grind
theorem lo_ok {cs : List Int} {e : Int} (hc : CE cs e) : chE cs e ((lo cs e).map rp) = 0 := by
  obtain ⟨hL, k, hk, hd⟩ := lv_char hc.sub
  have hl8 := hc.ok.l8
  refine chE_ok hc (E := k) (by omega) (lo_len cs e) (fun q hq => ?_) (fun z hz => ?_) ?_
  · rw [lo_eq] at hq
    obtain ⟨c, hcm, rfl⟩ := List.mem_map.1 hq
    have := (mnq_le c (lv cs (cs.sum - e))).2
    exact ⟨sub_den (mnq_den hd c), by grind⟩
  · rw [lo_eq, zip_self] at hz
    obtain ⟨c, hcm, rfl⟩ := List.mem_map.1 hz
    have := mnq0 (hc.ok.c c hcm).1 hL.l0
    show (c : Rat) - mnq c (lv cs (cs.sum - e)) ≤ (c : Rat)
    grind
  · rw [lo_eq, sum_sub]
    have := hL.s
    unfold capL at this
    rw [this, Rat.intCast_sub]
    grind
theorem sum_half : ∀ qs : List Rat, (qs.map hq).sum = qs.sum / ((2 : Int) : Rat)
  | [] => by simp only [List.map_nil, List.sum_nil]; rw [Rat.div_def, Rat.zero_mul]
  | q :: qs => by
    rw [List.map_cons, List.sum_cons, List.sum_cons, sum_half qs, hq_eq, Rat.div_def, Rat.div_def, Rat.div_def, Rat.add_mul]
theorem two_div (x : Int) : ((2 * x : Int) : Rat) / ((2 : Int) : Rat) = (x : Rat) := by
  have h2 := cast_pos (show (0 : Int) < 2 by decide)
  refine cancel h2 ?_
  rw [Rat.div_mul_cancel (Ne.symm (Rat.ne_of_lt h2)), Rat.intCast_mul, Rat.mul_comm]
theorem half_le {q x : Rat} (h0 : 0 ≤ q) (h : q ≤ x + x) : 0 ≤ q / ((2 : Int) : Rat) ∧ q / ((2 : Int) : Rat) ≤ x := by
  have h2 := cast_pos (show (0 : Int) < 2 by decide)
  refine ⟨div_ge0 h2 h0, rat_le_of_mul h2 ?_⟩
  rw [Rat.div_mul_cancel (Ne.symm (Rat.ne_of_lt h2))]
  have : x * ((2 : Int) : Rat) = x + x := by
    have : ((2 : Int) : Rat) = 1 + 1 := by rw [show (2 : Int) = 1 + 1 from rfl, Rat.intCast_add]; rfl
    rw [this]; grind
  rw [this]
  exact h
theorem hq_den {q : Rat} {k : Int} (h : (q.den : Int) ∣ k) : ((hq q).den : Int) ∣ 2 * k := by
  have h1 : ((hq q).den : Int) ∣ 2 * (q.den : Int) := div_den (by have := den_pos q; omega)
  exact Int.dvd_trans h1 (Int.mul_dvd_mul_left 2 h)
theorem hqc_den {c : Int} {q : Rat} {k : Int} (h : (q.den : Int) ∣ k) : ((hqc c q).den : Int) ∣ 2 * k := by
  have h1 : ((hqc c q).den : Int) ∣ 2 * (q.den : Int) := div_den (by have := den_pos q; omega)
  exact Int.dvd_trans h1 (Int.mul_dvd_mul_left 2 h)
theorem crt_ok {cs : List Int} {e : Int} (hc : CE cs e) : chE cs e ((crt cs e).map rp) = 0 := by
  have hl8 := hc.ok.l8
  have he0 := hc.e0
  have he1 := hc.e1
  by_cases h : 2 * e ≤ cs.sum
  · have hc2 : CE cs (2 * e) := ⟨hc.ok, by omega, h⟩
    obtain ⟨hL, k, hk, hd⟩ := lv_char hc2
    have hE : crt cs e = cs.map (fun c => hq (mnq c (lv cs (2 * e)))) := by
      unfold crt aw capL
      rw [if_pos h, List.map_map]
      rfl
    refine chE_ok hc (E := 2 * k) (by omega) (crt_len cs e) (fun q hq => ?_) (fun z hz => ?_) ?_
    · rw [hE] at hq
      obtain ⟨c, hcm, rfl⟩ := List.mem_map.1 hq
      refine ⟨hq_den (mnq_den hd c), ?_⟩
      rw [hq_eq]
      exact div_ge0 (cast_pos (by decide)) (mnq0 (hc.ok.c c hcm).1 hL.l0)
    · rw [hE, zip_self] at hz
      obtain ⟨c, hcm, rfl⟩ := List.mem_map.1 hz
      show hq (mnq c (lv cs (2 * e))) ≤ (c : Rat)
      rw [hq_eq]
      have h0 := mnq0 (hc.ok.c c hcm).1 hL.l0
      have h1 := (mnq_le c (lv cs (2 * e))).2
      exact (half_le h0 (by grind)).2
    · unfold crt aw
      rw [if_pos h, sum_half, hL.s, two_div]
  · have hc2 : CE cs (2 * cs.sum - 2 * e) := ⟨hc.ok, by omega, by omega⟩
    obtain ⟨hL, k, hk, hd⟩ := lv_char hc2
    have hE := crt_hi h
    refine chE_ok hc (E := 2 * k) (by omega) (crt_len cs e) (fun q hq => ?_) (fun z hz => ?_) ?_
    · rw [hE] at hq
      obtain ⟨c, hcm, rfl⟩ := List.mem_map.1 hq
      refine ⟨hqc_den (sub_den (mnq_den hd c)), ?_⟩
      rw [hqc_eq]
      have h1 := (mnq_le c (lv cs (2 * cs.sum - 2 * e))).2
      have h2 := cast_nonneg (hc.ok.c c hcm).1
      exact div_ge0 (cast_pos (by decide)) (by grind)
    · rw [hE, zip_self] at hz
      obtain ⟨c, hcm, rfl⟩ := List.mem_map.1 hz
      show hqc c ((c : Rat) - mnq c (lv cs (2 * cs.sum - 2 * e))) ≤ (c : Rat)
      rw [hqc_eq]
      have h0 := mnq0 (hc.ok.c c hcm).1 hL.l0
      have h1 := (mnq_le c (lv cs (2 * cs.sum - 2 * e))).2
      have h2 := cast_nonneg (hc.ok.c c hcm).1
      exact (half_le (by grind) (by grind)).2
    · rw [hE]
      have e1 : cs.map (fun c : Int => hqc c ((c : Rat) - mnq c (lv cs (2 * cs.sum - 2 * e)))) = (cs.map (fun c : Int => (c : Rat) - (mnq c (lv cs (2 * cs.sum - 2 * e)) - (c : Rat)))).map (fun q => q / ((2 : Int) : Rat)) := by
        rw [List.map_map]
        refine List.map_congr_left (fun c _ => ?_)
        show hqc c _ = ((c : Rat) - _) / _
        rw [hqc_eq]
        congr 1
        grind
      have e2 : ∀ qs : List Rat, (qs.map (fun q => q / ((2 : Int) : Rat))).sum = qs.sum / ((2 : Int) : Rat) := by
        intro qs
        have := sum_half qs
        rw [← this]
        congr 1
        exact List.map_congr_left (fun q _ => (hq_eq q).symm)
      have e3 : (cs.map (fun c : Int => mnq c (lv cs (2 * cs.sum - 2 * e)) - (c : Rat))).sum = ((2 * cs.sum - 2 * e : Int) : Rat) - ((cs.sum : Int) : Rat) := by
        have h5 := hL.s
        unfold capL at h5
        rw [sum_sub2, h5]
      rw [e1, e2, sum_sub, e3, ← two_div e]
      congr 1
      rw [← Rat.intCast_sub, ← Rat.intCast_sub]
      congr 1
      omega
end Go.Proofs.Ytdcdjhhjlpegjaa

namespace Go.Proofs.Ytdcdjhhjlpegjaa
open Go Go.Eng
/-- The greatest one of some numbers. -/
def mxL : List Int → Int
  | [] => 0
  | x :: xs => xs.foldl max x
theorem foldl_max (xs : List Int) : ∀ a : Int, a ≤ xs.foldl max a ∧ (∀ y ∈ xs, y ≤ xs.foldl max a) ∧ (xs.foldl max a = a ∨ xs.foldl max a ∈ xs) := by
  induction xs with
  | nil => intro a; simp
  | cons b xs ih =>
    intro a
    obtain ⟨h1, h2, h3⟩ := ih (max a b)
    rw [List.foldl_cons]
    refine ⟨by omega, fun y hy => ?_, ?_⟩
    · rcases List.mem_cons.1 hy with rfl | hy
      · omega
      · exact h2 y hy
    · rcases h3 with h | h
      · rw [h]
        by_cases hab : a ≤ b
        · right; rw [Int.max_eq_right hab]; simp
        · left; exact Int.max_eq_left (by omega)
      · exact .inr (by simp [h])
theorem mxL_mem {xs : List Int} (h : xs ≠ []) : mxL xs ∈ xs := by
  cases xs with
  | nil => exact absurd rfl h
  | cons x xs =>
    show xs.foldl max x ∈ x :: xs
    rcases (foldl_max xs x).2.2 with h | h
    · rw [h]; simp
    · exact List.mem_cons_of_mem _ h
theorem mxL_ge {xs : List Int} {y : Int} (h : y ∈ xs) : y ≤ mxL xs := by
  cases xs with
  | nil => simp at h
  | cons x xs =>
    show y ≤ xs.foldl max x
    rcases List.mem_cons.1 h with rfl | h
    · exact (foldl_max xs y).1
    · exact (foldl_max xs x).2.1 y h
section
variable {cs : List Int} {v : AV} {A : AHeap} {e : Int}
theorem s68 (hx : L1 A v cs) (hok : OK cs) {l : Rat} (hl : SQ l) : ACalls Try.prog 68 [v, R l] A (outV 1 A (upL cs l).length) (outH A ((upL cs l).flatMap e1) (upL cs l).length) := by
  refine acalls hmix Try.func68 (by kernel_rfl) t68 2 rfl (by decide) ?_
  have hlen : (upL cs l).length = cs.length := by simp [upL]
  have hl8 := hok.l8
  have hdp := den_pos l
  have hd := hl.d
  have hn := hl.num
  dsimp only [m68]
  simp (maxSteps := 4000000) -implicitDefEqProofs -dsimp (disch := omega) only [↓AW_ops, ↓AW_seq, ↓AW_block, ↓AOps_nil, ↓AOps_pu, on_some, ↓then_normal, pval, rd_S, rd_C, put_S, ↓AW_toLoop, AV.cells?, List.replicate_succ, List.replicate_zero, List.set_cons_zero, List.set_cons_succ, List.getElem?_cons_zero, List.getElem?_cons_succ, Option.getD_some, Nat.reduceSub, List.cons_append, List.nil_append]
  refine LoopK.by 27 (fun x : Nat × AV × AHeap => x.1 ≤ cs.length ∧ AccL 1 e1 A x.2.2 x.2.1 ((upL cs l).take x.1)) (fun x => [(0, v), (3, .agg [I l.num, I (l.den : Int)]), (5, x.2.1), (6, I x.1)]) (fun x => x.2.2) (fun x => cs.length - x.1) (0, .nilS, A) ⟨by simp only; omega, AccL.nil (List.prefix_refl _)⟩ rfl (by simp [Has, rd_s]) rfl ?_
  rintro ⟨i, w, A1⟩ ⟨hi, hu⟩
  simp only at hi hu
  have hx1 := hx.mono hu.pre
  by_cases hlt : i < cs.length
  · obtain ⟨z, hz⟩ : ∃ z, cs[i]? = some z := ⟨_, List.getElem?_eq_getElem hlt⟩
    have hlt' : (i : Int) < cs.length := by omega
    have hzc := hok.c z (List.mem_of_getElem? hz)
    have m1 := Int.mul_le_mul hzc.2 hd (by omega) (by omega : (0 : Int) ≤ 1000)
    have m2 := Int.mul_nonneg hzc.1 (show 0 ≤ (l.den : Int) by omega)
    obtain ⟨u3, A3, happ, hu3⟩ := hu.push e1_len (min (z * (l.den : Int)) l.num) (by rw [List.length_take]; simp [lim]; omega)
    have hz2 : (upL cs l).take (i + 1) = (upL cs l).take i ++ [min (z * (l.den : Int)) l.num] := map_take (fun c => min (c * (l.den : Int)) l.num) hz
    rw [← hz2] at hu3
    simp only [e1] at happ
    simp (maxSteps := 4000000) -implicitDefEqProofs -dsimp (disch := omega) only [↓AW_skip, ↓AW_ops, ↓AW_seq, ↓AW_cond, ↓AW_block, ↓AOps_nil, ↓AOps_pu, ↓AOps_ld, ↓AOps_ha, on_some, extK_false, extK_app, condB_t, ↓then_normal, ↓inBlock_normal, pval, lval, hval, rd_S, rd_C, put_S, chkd, isAdr, bgot, AV.cells?, splice, partA, fillA, repl, eq_self, mk, List.foldl_cons, List.foldl_nil, List.replicate_succ, List.replicate_zero, List.set_cons_zero, List.set_cons_succ, List.getElem?_cons_zero, List.getElem?_cons_succ, List.drop_zero, List.drop_succ_cons, List.drop_nil, List.take_zero, List.take_succ_cons, List.take_nil, Option.getD_some, map_c, map_n, List.length_cons, List.length_nil, Nat.reduceAdd, Nat.reduceLeDiff, Nat.zero_add, List.nil_append, List.append_nil, bin_add, bin_mul, bin_lss, mm_min, w64, if_true, if_false, Bool.false_eq_true, decide_true, Go.Eng.e1, true_and, and_true, hlt', hx1.len, hx1.idx hlt, hx1.ld0 hz 1 false (by decide), happ]
    exact ⟨(i + 1, u3, A3), ⟨hlt, hu3⟩, by simp [Has, rd_s], rfl, by simp only; omega⟩
  · have hlt' : ¬ ((i : Int) < cs.length) := by omega
    simp (maxSteps := 4000000) -implicitDefEqProofs -dsimp (disch := omega) only [↓AW_ops, ↓AW_seq, ↓AW_cond, ↓AW_exit, ↓AW_ret, ↓AOps_nil, ↓AOps_pu, on_some, condB_f, ↓then_normal, ↓then_exit, ↓inBlock_exit, ↓Fin_ret, pval, rd_S, put_S, resV, resL, eq_self, mk, List.foldl_cons, List.foldl_nil, List.replicate_succ, List.replicate_zero, List.set_cons_zero, List.set_cons_succ, List.getElem?_cons_zero, List.getElem?_cons_succ, Option.getD_some, bin_lss, if_true, decide_false, hlt', hx1.len]
    rw [List.take_of_length_le (by omega)] at hu
    exact hu.gc flat_e1
theorem s69 (hx : L1 A v cs) (hok : OK cs) {l : Rat} (hl : SQ l) : ACalls Try.prog 69 [v, R l] A (outV 1 A (reL cs l).length) (outH A ((reL cs l).flatMap e1) (reL cs l).length) := by
  refine acalls hmix Try.func69 (by kernel_rfl) t69 2 rfl (by decide) ?_
  have hlen : (reL cs l).length = cs.length := by simp [reL]
  have hl8 := hok.l8
  have hdp := den_pos l
  have hd := hl.d
  have hn := hl.num
  dsimp only [m69]
  simp (maxSteps := 4000000) -implicitDefEqProofs -dsimp (disch := omega) only [↓AW_ops, ↓AW_seq, ↓AW_block, ↓AOps_nil, ↓AOps_pu, on_some, ↓then_normal, pval, rd_S, rd_C, put_S, ↓AW_toLoop, AV.cells?, List.replicate_succ, List.replicate_zero, List.set_cons_zero, List.set_cons_succ, List.getElem?_cons_zero, List.getElem?_cons_succ, Option.getD_some, Nat.reduceSub, List.cons_append, List.nil_append]
  refine LoopK.by 28 (fun x : Nat × AV × AHeap => x.1 ≤ cs.length ∧ AccL 1 e1 A x.2.2 x.2.1 ((reL cs l).take x.1)) (fun x => [(0, v), (3, .agg [I l.num, I (l.den : Int)]), (5, x.2.1), (6, I x.1)]) (fun x => x.2.2) (fun x => cs.length - x.1) (0, .nilS, A) ⟨by simp only; omega, AccL.nil (List.prefix_refl _)⟩ rfl (by simp [Has, rd_s]) rfl ?_
  rintro ⟨i, w, A1⟩ ⟨hi, hu⟩
  simp only at hi hu
  have hx1 := hx.mono hu.pre
  by_cases hlt : i < cs.length
  · obtain ⟨z, hz⟩ : ∃ z, cs[i]? = some z := ⟨_, List.getElem?_eq_getElem hlt⟩
    have hlt' : (i : Int) < cs.length := by omega
    have hzc := hok.c z (List.mem_of_getElem? hz)
    have m1 := Int.mul_le_mul hzc.2 hd (by omega) (by omega : (0 : Int) ≤ 1000)
    have m2 := Int.mul_nonneg hzc.1 (show 0 ≤ (l.den : Int) by omega)
    obtain ⟨u3, A3, happ, hu3⟩ := hu.push e1_len (max 0 (z * (l.den : Int) - l.num)) (by rw [List.length_take]; simp [lim]; omega)
    have hz2 : (reL cs l).take (i + 1) = (reL cs l).take i ++ [max 0 (z * (l.den : Int) - l.num)] := map_take (fun c => max 0 (c * (l.den : Int) - l.num)) hz
    rw [← hz2] at hu3
    simp only [e1] at happ
    simp (maxSteps := 4000000) -implicitDefEqProofs -dsimp (disch := omega) only [↓AW_skip, ↓AW_ops, ↓AW_seq, ↓AW_cond, ↓AW_block, ↓AOps_nil, ↓AOps_pu, ↓AOps_ld, ↓AOps_ha, on_some, extK_false, extK_app, condB_t, ↓then_normal, ↓inBlock_normal, pval, lval, hval, rd_S, rd_C, put_S, chkd, isAdr, bgot, AV.cells?, splice, partA, fillA, repl, eq_self, mk, List.foldl_cons, List.foldl_nil, List.replicate_succ, List.replicate_zero, List.set_cons_zero, List.set_cons_succ, List.getElem?_cons_zero, List.getElem?_cons_succ, List.drop_zero, List.drop_succ_cons, List.drop_nil, List.take_zero, List.take_succ_cons, List.take_nil, Option.getD_some, map_c, map_n, List.length_cons, List.length_nil, Nat.reduceAdd, Nat.reduceLeDiff, Nat.zero_add, List.nil_append, List.append_nil, bin_add, bin_sub, bin_mul, bin_lss, mm_max, w64, if_true, if_false, Bool.false_eq_true, decide_true, Go.Eng.e1, true_and, and_true, hlt', hx1.len, hx1.idx hlt, hx1.ld0 hz 1 false (by decide), happ]
    exact ⟨(i + 1, u3, A3), ⟨hlt, hu3⟩, by simp [Has, rd_s], rfl, by simp only; omega⟩
  · have hlt' : ¬ ((i : Int) < cs.length) := by omega
    simp (maxSteps := 4000000) -implicitDefEqProofs -dsimp (disch := omega) only [↓AW_ops, ↓AW_seq, ↓AW_cond, ↓AW_exit, ↓AW_ret, ↓AOps_nil, ↓AOps_pu, on_some, condB_f, ↓then_normal, ↓then_exit, ↓inBlock_exit, ↓Fin_ret, pval, rd_S, put_S, resV, resL, eq_self, mk, List.foldl_cons, List.foldl_nil, List.replicate_succ, List.replicate_zero, List.set_cons_zero, List.set_cons_succ, List.getElem?_cons_zero, List.getElem?_cons_succ, Option.getD_some, bin_lss, if_true, decide_false, hlt', hx1.len]
    rw [List.take_of_length_le (by omega)] at hu
    exact hu.gc flat_e1
theorem s67 {xs : List Int} (hx : L1 A v xs) (hl : xs.length ≤ 1000000) (hb : ∀ x ∈ xs, 0 ≤ x ∧ x ≤ 1000000000000) {d : Int} (hd : 0 < d ∧ d ≤ 1000000) : ACalls Try.prog 67 [v, I d] A (outV 2 A ((fr xs d).map rp).length) (outH A (((fr xs d).map rp).flatMap e2) ((fr xs d).map rp).length) := by
  refine acalls hmix Try.func67 (by kernel_rfl) t67 2 rfl (by decide) ?_
  have hlen : ((fr xs d).map rp).length = xs.length := by simp [fr]
  dsimp only [m67]
  simp (maxSteps := 4000000) -implicitDefEqProofs -dsimp (disch := omega) only [↓AW_ops, ↓AW_seq, ↓AW_block, ↓AOps_nil, ↓AOps_pu, on_some, ↓then_normal, pval, rd_C, put_S, ↓AW_toLoop, List.replicate_succ, List.replicate_zero, List.set_cons_zero, List.set_cons_succ, Nat.reduceSub, List.cons_append, List.nil_append]
  refine LoopK.by 23 (fun x : Nat × AV × AHeap => x.1 ≤ xs.length ∧ AccL 2 e2 A x.2.2 x.2.1 (((fr xs d).map rp).take x.1)) (fun x => [(0, v), (1, I d), (5, x.2.1), (6, I x.1)]) (fun x => x.2.2) (fun x => xs.length - x.1) (0, .nilS, A) ⟨by simp only; omega, AccL.nil (List.prefix_refl _)⟩ rfl (by simp [Has, rd_s]) rfl ?_
  rintro ⟨i, w, A1⟩ ⟨hi, hu⟩
  simp only at hi hu
  have hx1 := hx.mono hu.pre
  by_cases hlt : i < xs.length
  · obtain ⟨z, hz⟩ : ∃ z, xs[i]? = some z := ⟨_, List.getElem?_eq_getElem hlt⟩
    have hlt' : (i : Int) < xs.length := by omega
    have hzc := hb z (List.mem_of_getElem? hz)
    obtain ⟨u3, A3, happ, hu3⟩ := hu.push e2_len (rp ((z : Rat) / (d : Rat))) (by rw [List.length_take]; simp [lim]; omega)
    have hz2 : (fr xs d)[i]? = some ((z : Rat) / (d : Rat)) := by unfold fr; rw [List.getElem?_map, hz]; rfl
    rw [← map_take rp hz2] at hu3
    simp only [e2_rp] at happ
    simp (maxSteps := 4000000) -implicitDefEqProofs -dsimp (disch := omega) only [↓AW_skip, ↓AW_ops, ↓AW_seq, ↓AW_cond, ↓AW_block, ↓AOps_nil, ↓AOps_pu, ↓AOps_ld, ↓AOps_call, on_some, condB_t, ↓then_normal, pval, lval, rd_S, put_S, partA, eq_self, mk, List.foldl_cons, List.foldl_nil, List.replicate_succ, List.replicate_zero, List.set_cons_zero, List.set_cons_succ, List.getElem?_cons_zero, List.getElem?_cons_succ, List.drop_zero, List.take_succ_cons, List.take_nil, Option.getD_some, map_c, map_n, List.length_cons, List.length_nil, Nat.reduceLeDiff, Nat.zero_add, bin_lss, if_true, if_false, Bool.false_eq_true, decide_true, Go.Eng.e1, hlt', hx1.len, hx1.idx hlt, hx1.ld0 hz 1 false (by decide)]
    refine CallK.of (s62 (a := z) (b := d) _ ⟨by omega, by omega⟩ (by omega) (by omega)) ?_
    simp (maxSteps := 4000000) -implicitDefEqProofs -dsimp (disch := omega) only [↓AW_ops, ↓AOps_nil, ↓AOps_pu, ↓AOps_ha, on_some, extK_false, extK_app, extK_same, ↓then_normal, ↓inBlock_normal, pval, hval, rd_S, rd_C, put_S, AV.cells?, splice, fillA, repl, eq_self, mk, List.foldl_cons, List.foldl_nil, List.replicate_succ, List.replicate_zero, List.set_cons_zero, List.set_cons_succ, List.getElem?_cons_zero, List.getElem?_cons_succ, List.drop_succ_cons, List.drop_nil, List.take_zero, Option.getD_some, map_c, map_n, List.length_cons, List.length_nil, Nat.reduceAdd, Nat.reduceLeDiff, Nat.zero_add, List.nil_append, List.append_nil, bin_add, w64, if_true, true_and, and_true, R, happ]
    exact ⟨(i + 1, u3, A3), ⟨hlt, hu3⟩, by simp [Has, rd_s], rfl, by simp only; omega⟩
  · have hlt' : ¬ ((i : Int) < xs.length) := by omega
    simp (maxSteps := 4000000) -implicitDefEqProofs -dsimp (disch := omega) only [↓AW_ops, ↓AW_seq, ↓AW_cond, ↓AW_exit, ↓AW_ret, ↓AOps_nil, ↓AOps_pu, on_some, condB_f, ↓then_normal, ↓then_exit, ↓inBlock_exit, ↓Fin_ret, pval, rd_S, put_S, resV, resL, eq_self, mk, List.foldl_cons, List.foldl_nil, List.replicate_succ, List.replicate_zero, List.set_cons_zero, List.set_cons_succ, List.getElem?_cons_zero, List.getElem?_cons_succ, Option.getD_some, bin_lss, if_true, decide_false, hlt', hx1.len]
    rw [List.take_of_length_le (by omega)] at hu
    exact hu.gc flat_e2
theorem up_bd (hok : OK cs) {l : Rat} (hl : SQ l) : ∀ x ∈ upL cs l, 0 ≤ x ∧ x ≤ 1000000000000 := by
  intro x hx
  obtain ⟨c, hc, rfl⟩ := List.mem_map.1 hx
  have hcc := hok.c c hc
  have hn := hl.num
  have hd := hl.d
  have hdp := den_pos l
  have m2 := Int.mul_nonneg hcc.1 (show 0 ≤ (l.den : Int) by omega)
  omega
theorem re_bd (hok : OK cs) {l : Rat} (hl : SQ l) {c : Int} (hc : c ∈ cs) : (0 ≤ max 0 (c * (l.den : Int) - l.num) ∧ max 0 (c * (l.den : Int) - l.num) ≤ 1000000) ∧ 0 ≤ c * (l.den : Int) ∧ c * (l.den : Int) ≤ 1000000 := by
  have hcc := hok.c c hc
  have hn := hl.num
  have hd := hl.d
  have hdp := den_pos l
  have m1 := Int.mul_le_mul hcc.2 hd (by omega) (by omega : (0 : Int) ≤ 1000)
  have m2 := Int.mul_nonneg hcc.1 (show 0 ≤ (l.den : Int) by omega)
  omega
/-- The first ones are changed. -/
def mid (f : Int → Int) (cs : List Int) (g : Int → Int) (i : Nat) : List Int := (cs.take i).map f ++ (cs.drop i).map g
theorem mid_len (f g : Int → Int) (cs : List Int) (i : Nat) : (mid f cs g i).length = cs.length := by
  unfold mid
  rw [List.length_append, List.length_map, List.length_map, ← List.length_append, List.take_append_drop]
theorem mid_get {f g : Int → Int} {cs : List Int} {i : Nat} {c : Int} (h : cs[i]? = some c) : (mid f cs g i)[i]? = some (g c) := by
  have hi := (List.getElem?_eq_some_iff.1 h).1
  unfold mid
  rw [List.getElem?_append_right (by simp; omega), drop_at h]
  simp only [List.length_map, List.length_take]
  rw [show i - min i cs.length = 0 by omega]
  rfl
theorem mid_set {f g : Int → Int} {cs : List Int} {i : Nat} {c : Int} (h : cs[i]? = some c) : (mid f cs g i).set i (f c) = mid f cs g (i + 1) := by
  have hi := (List.getElem?_eq_some_iff.1 h).1
  unfold mid
  rw [List.set_append_right _ _ (by simp; omega), drop_at h]
  simp only [List.length_map, List.length_take]
  rw [show i - min i cs.length = 0 by omega, List.map_cons, List.set_cons_zero, List.take_add_one, h, List.map_append]
  simp
theorem mid_0 (f g : Int → Int) (cs : List Int) : mid f cs g 0 = cs.map g := by simp [mid]
theorem mid_all (f g : Int → Int) (cs : List Int) : mid f cs g cs.length = cs.map f := by simp [mid]
set_option maxHeartbeats 2000000 in
theorem s35 (hx : L1 A v cs) (hl : cs.length ≤ 1000000) : ACalls Try.prog 35 [v, I e] A (.tuple [outV 2 A (byO cs e (crt cs e)).length, I (vE cs e)]) (outH A ((byO cs e (crt cs e)).flatMap e2) (byO cs e (crt cs e)).length) := by
  refine acalls hmix Try.func35 (by kernel_rfl) t35 2 rfl (by decide) ?_
  dsimp only [m35]
  simp (maxSteps := 4000000) -implicitDefEqProofs -dsimp (disch := omega) only [↓AW_ops, ↓AW_seq, ↓AOps_nil, ↓AOps_pu, ↓AOps_call, on_some, ↓then_normal, pval, rd_S, rd_C, put_S, List.replicate_succ, List.replicate_zero, List.set_cons_zero, List.set_cons_succ, List.getElem?_cons_zero, List.getElem?_cons_succ, Option.getD_some, map_c, map_n, Nat.reduceSub, List.cons_append, List.nil_append]
  refine CallK.of (s38 hx hl e) ?_
  by_cases h0 : vE cs e = 0
  case neg =>
    have hO : byO cs e (crt cs e) = [] := if_neg h0
    rw [hO]
    simp (maxSteps := 4000000) -implicitDefEqProofs -dsimp (disch := omega) only [↓AW_ops, ↓AW_seq, ↓AW_cond, ↓AW_ret, ↓AOps_nil, ↓AOps_pu, on_some, extK_same, condB_t, ↓then_normal, ↓then_ret, ↓Fin_ret, pval, rd_S, rd_C, put_S, resV, resL, List.replicate_succ, List.replicate_zero, List.set_cons_zero, List.set_cons_succ, List.getElem?_cons_zero, List.getElem?_cons_succ, Option.getD_some, List.length_nil, Nat.reduceSub, List.cons_append, List.nil_append, bin_neq, decide_true, not_false_eq_true, h0]
    exact gc_same_all rfl rfl
  have hO : byO cs e (crt cs e) = (crt cs e).map rp := if_pos h0
  have hc := vE_0.1 h0
  have hl8 := hc.ok.l8
  have hl1 := hc.ok.l1
  have hs := hc.ok.sum
  have he0 := hc.e0
  have he1 := hc.e1
  rw [hO, h0]
  simp (maxSteps := 4000000) -implicitDefEqProofs -dsimp (disch := omega) only [↓AW_skip, ↓AW_ops, ↓AW_seq, ↓AW_cond, ↓AOps_nil, ↓AOps_pu, ↓AOps_call, on_some, extK_same, condB_f, ↓then_normal, pval, rd_S, rd_C, put_S, eq_self, List.replicate_succ, List.replicate_zero, List.set_cons_zero, List.set_cons_succ, List.getElem?_cons_zero, List.getElem?_cons_succ, Option.getD_some, map_c, map_n, Nat.reduceSub, List.cons_append, List.nil_append, bin_neq, decide_false, not_true_eq_false]
  refine CallK.of (c_Sum hx hl hc.ok.bd) ?_
  by_cases h : 2 * e ≤ cs.sum
  · have hc2 : CE cs (2 * e) := ⟨hc.ok, by omega, h⟩
    have hE : crt cs e = (capL cs (lv cs (2 * e))).map hq := if_pos h
    rw [hE, ← fr_up2]
    have hsq := lv_sq hc2
    have hdp := den_pos (lv cs (2 * e))
    have hd := hsq.d
    simp (maxSteps := 4000000) -implicitDefEqProofs -dsimp (disch := omega) only [↓AW_ops, ↓AW_seq, ↓AW_cond, ↓AOps_nil, ↓AOps_pu, ↓AOps_call, on_some, extK_same, condB_t, ↓then_normal, pval, rd_S, rd_C, put_S, List.replicate_succ, List.replicate_zero, List.set_cons_zero, List.set_cons_succ, List.getElem?_cons_zero, List.getElem?_cons_succ, Option.getD_some, map_c, map_n, Nat.reduceSub, List.cons_append, List.nil_append, bin_mul, bin_leq, w64, decide_true, h]
    refine CallK.of (s66 hx hc2) ?_
    simp (maxSteps := 4000000) -implicitDefEqProofs -dsimp (disch := omega) only [↓AW_ops, ↓AW_seq, ↓AOps_nil, ↓AOps_pu, ↓AOps_call, on_some, extK_same, ↓then_normal, pval, rd_S, rd_C, put_S, chkd, bput, bgot, cells_agg, splice, partA, eq_self, List.replicate_succ, List.replicate_zero, List.set_cons_zero, List.set_cons_succ, List.getElem?_cons_zero, List.getElem?_cons_succ, List.drop_zero, List.drop_succ_cons, List.drop_nil, List.take_zero, List.take_succ_cons, List.take_nil, Option.getD_some, map_c, map_n, List.length_cons, List.length_nil, Nat.reduceAdd, Nat.reduceSub, Nat.reduceLeDiff, Nat.reduceEqDiff, Nat.zero_add, List.cons_append, List.nil_append, List.append_nil, if_true, if_false, ne_eq, not_true_eq_false, R]
    refine CallK.of (s68 hx hc.ok hsq) ?_
    have hul : (upL cs (lv cs (2 * e))).length = cs.length := by simp [upL]
    have hp1 := pre_out A ((upL cs (lv cs (2 * e))).flatMap e1) (upL cs (lv cs (2 * e))).length
    have hq1 := Ls_out A e1_len (upL cs (lv cs (2 * e)))
    generalize outV 1 A (upL cs (lv cs (2 * e))).length = w at *
    generalize outH A ((upL cs (lv cs (2 * e))).flatMap e1) (upL cs (lv cs (2 * e))).length = A1 at *
    simp (maxSteps := 4000000) -implicitDefEqProofs -dsimp (disch := omega) only [↓AOps_pu, ↓AOps_call, on_some, extK_false, pval, rd_S, rd_C, put_S, chkd, isAdr, bgot, cells_agg, partA, eq_self, List.replicate_succ, List.replicate_zero, List.set_cons_zero, List.set_cons_succ, List.getElem?_cons_zero, List.getElem?_cons_succ, List.drop_zero, List.drop_succ_cons, List.take_succ_cons, List.take_nil, Option.getD_some, map_c, map_n, List.length_cons, List.length_nil, Nat.reduceAdd, Nat.reduceSub, Nat.reduceLeDiff, Nat.zero_add, List.cons_append, List.nil_append, bin_mul, w64, if_true, if_false, Bool.false_eq_true]
    refine CallK.of (s67 hq1 (by omega) (up_bd hc.ok hsq) (d := 2 * ((lv cs (2 * e)).den : Int)) ⟨by omega, by omega⟩) ?_
    simp (maxSteps := 4000000) -implicitDefEqProofs -dsimp (disch := omega) only [↓AW_ret, ↓AOps_nil, ↓AOps_pu, on_some, extK_false, ↓then_normal, ↓then_ret, ↓Fin_ret, pval, rd_S, rd_C, put_S, resV, resL, List.replicate_succ, List.replicate_zero, List.set_cons_zero, List.set_cons_succ, List.getElem?_cons_zero, List.getElem?_cons_succ, Option.getD_some, Nat.reduceSub, List.cons_append, List.nil_append]
    exact (AccL_out hp1 e2_len _).gc2 flat_e2 (I 0) rfl
  · have hc2 : CE cs (2 * cs.sum - 2 * e) := ⟨hc.ok, by omega, by omega⟩
    rw [← fr_re2 h]
    have hsq := lv_sq hc2
    have h66 := s66 hx hc2
    generalize lv cs (2 * cs.sum - 2 * e) = l at *
    have hdp := den_pos l
    have hd := hsq.d
    have hw1 : 2 * cs.sum - 2 * e = 2 * cs.sum - 2 * e := rfl
    simp (maxSteps := 4000000) -implicitDefEqProofs -dsimp (disch := omega) only [↓AW_skip, ↓AW_ops, ↓AW_seq, ↓AW_cond, ↓AOps_nil, ↓AOps_pu, ↓AOps_call, on_some, extK_same, condB_f, ↓then_normal, pval, rd_S, rd_C, put_S, List.replicate_succ, List.replicate_zero, List.set_cons_zero, List.set_cons_succ, List.getElem?_cons_zero, List.getElem?_cons_succ, Option.getD_some, map_c, map_n, Nat.reduceSub, List.cons_append, List.nil_append, bin_sub, bin_mul, bin_leq, w64, decide_false, h]
    refine CallK.of h66 ?_
    simp (maxSteps := 4000000) -implicitDefEqProofs -dsimp (disch := omega) only [↓AW_ops, ↓AW_seq, ↓AOps_nil, ↓AOps_pu, ↓AOps_call, on_some, extK_same, ↓then_normal, pval, rd_S, rd_C, put_S, chkd, bput, bgot, cells_agg, splice, partA, eq_self, List.replicate_succ, List.replicate_zero, List.set_cons_zero, List.set_cons_succ, List.getElem?_cons_zero, List.getElem?_cons_succ, List.drop_zero, List.drop_succ_cons, List.drop_nil, List.take_zero, List.take_succ_cons, List.take_nil, Option.getD_some, map_c, map_n, List.length_cons, List.length_nil, Nat.reduceAdd, Nat.reduceSub, Nat.reduceLeDiff, Nat.reduceEqDiff, Nat.zero_add, List.cons_append, List.nil_append, List.append_nil, if_true, if_false, ne_eq, not_true_eq_false, R]
    refine CallK.of (s69 hx hc.ok hsq) ?_
    have hul : (reL cs l).length = cs.length := by simp [reL]
    have hV : outV 1 A (reL cs l).length = .sl 1 A.length 0 cs.length false := by unfold outV; rw [if_neg (by omega), hul]
    have hH : outH A ((reL cs l).flatMap e1) (reL cs l).length = A ++ [.cells true ((reL cs l).flatMap e1)] := by unfold outH; rw [if_neg (by omega)]
    rw [hV, hH]
    have ho : ∀ i, OL 1 e1 A (A ++ [.cells true ((mid (fun c => max 0 (c * (l.den : Int) - l.num) + c * (l.den : Int)) cs (fun c => max 0 (c * (l.den : Int) - l.num)) i).flatMap e1)]) A.length (.sl 1 A.length 0 cs.length false) (mid (fun c => max 0 (c * (l.den : Int) - l.num) + c * (l.den : Int)) cs (fun c => max 0 (c * (l.den : Int) - l.num)) i) := by
      intro i
      have := OL.new_mk e1_len A (mid (fun c => max 0 (c * (l.den : Int) - l.num) + c * (l.den : Int)) cs (fun c => max 0 (c * (l.den : Int) - l.num)) i) false
      rw [mid_len] at this
      exact this
    have h00 : reL cs l = mid (fun c => max 0 (c * (l.den : Int) - l.num) + c * (l.den : Int)) cs (fun c => max 0 (c * (l.den : Int) - l.num)) 0 := (mid_0 _ _ cs).symm
    rw [h00]
    have hlw : lenA (.sl 1 A.length 0 cs.length false) = some (I cs.length) := rfl
    generalize AV.sl 1 A.length 0 cs.length false = w at *
    simp (maxSteps := 4000000) -implicitDefEqProofs -dsimp (disch := omega) only [↓AW_ops, ↓AW_seq, ↓AW_block, ↓AOps_nil, ↓AOps_pu, on_some, extK_app, ↓then_normal, pval, rd_S, rd_C, put_S, ↓AW_toLoop, List.replicate_succ, List.replicate_zero, List.set_cons_zero, List.set_cons_succ, List.getElem?_cons_zero, List.getElem?_cons_succ, Option.getD_some, Nat.reduceSub, List.cons_append, List.nil_append]
    refine LoopK.by 69 (fun i : Nat => i ≤ cs.length) (fun i => [(0, v), (9, .agg [I l.num, I (l.den : Int)]), (10, w), (11, I i)]) (fun i => A ++ [.cells true ((mid (fun c => max 0 (c * (l.den : Int) - l.num) + c * (l.den : Int)) cs (fun c => max 0 (c * (l.den : Int) - l.num)) i).flatMap e1)]) (fun i => cs.length - i) 0 (by omega) rfl (by simp [Has, rd_s]) rfl ?_
    intro i hi
    have hoi := ho i
    have hxi := hx.mono hoi.pre
    by_cases hlt : i < cs.length
    · obtain ⟨z, hz⟩ : ∃ z, cs[i]? = some z := ⟨_, List.getElem?_eq_getElem hlt⟩
      have hlt' : (i : Int) < cs.length := by omega
      have hzm := List.mem_of_getElem? hz
      have hb := re_bd hc.ok hsq hzm
      have hmi : i < (mid (fun c => max 0 (c * (l.den : Int) - l.num) + c * (l.den : Int)) cs (fun c => max 0 (c * (l.den : Int) - l.num)) i).length := by rw [mid_len]; exact hlt
      have hmg := mid_get (f := fun c => max 0 (c * (l.den : Int) - l.num) + c * (l.den : Int)) (g := fun c => max 0 (c * (l.den : Int) - l.num)) hz
      have hst := hoi.st hmi (I (max 0 (z * (l.den : Int) - l.num) + z * (l.den : Int))) (max 0 (z * (l.den : Int) - l.num) + z * (l.den : Int)) rfl
      rw [mid_set (f := fun c => max 0 (c * (l.den : Int) - l.num) + c * (l.den : Int)) (g := fun c => max 0 (c * (l.den : Int) - l.num)) hz, set_new] at hst
      simp (maxSteps := 4000000) -implicitDefEqProofs -dsimp (disch := omega) only [↓AW_skip, ↓AW_ops, ↓AW_seq, ↓AW_cond, ↓AW_block, ↓AOps_nil, ↓AOps_pu, ↓AOps_ld, ↓AOps_ha, on_some, extK_false, condB_t, ↓then_normal, ↓inBlock_normal, pval, lval, hval_st, rd_S, rd_C, put_S, putS_none, chkd, isAdr, bgot, cells_agg, partA, eq_self, mk, List.foldl_cons, List.foldl_nil, List.replicate_succ, List.replicate_zero, List.set_cons_zero, List.set_cons_succ, List.getElem?_cons_zero, List.getElem?_cons_succ, List.drop_zero, List.drop_succ_cons, List.take_succ_cons, List.take_nil, Option.getD_some, Option.map_some, List.length_cons, List.length_nil, Nat.reduceAdd, Nat.reduceLeDiff, Nat.zero_add, bin_add, bin_mul, bin_lss, w64, if_true, if_false, Bool.false_eq_true, decide_true, Go.Eng.e1, true_and, hlt', hlw, hxi.idx hlt, hxi.ld0 hz 1 false (by decide), hoi.ls.idx hmi, hoi.ls.ld0 hmg 1 false (by decide), hst]
      exact ⟨i + 1, hlt, by simp [Has, rd_s], rfl, by omega⟩
    · have hlt' : ¬ ((i : Int) < cs.length) := by omega
      have hie : i = cs.length := by omega
      subst hie
      rw [mid_all] at hoi ⊢
      have hrc : cs.map (fun c => max 0 (c * (l.den : Int) - l.num) + c * (l.den : Int)) = reC cs l := rfl
      rw [hrc] at hoi ⊢
      have hcl : (reC cs l).length = cs.length := by simp [reC]
      have hbd : ∀ x ∈ reC cs l, 0 ≤ x ∧ x ≤ 1000000000000 := by
        intro x hx
        obtain ⟨c, hcm, rfl⟩ := List.mem_map.1 hx
        have := re_bd hc.ok hsq hcm
        omega
      simp (maxSteps := 4000000) -implicitDefEqProofs -dsimp (disch := omega) only [↓AW_ops, ↓AW_seq, ↓AW_cond, ↓AW_exit, ↓AOps_nil, ↓AOps_pu, ↓AOps_call, on_some, condB_f, ↓then_normal, ↓then_exit, ↓inBlock_exit, pval, rd_S, rd_C, put_S, chkd, isAdr, bgot, cells_agg, partA, eq_self, mk, List.foldl_cons, List.foldl_nil, List.replicate_succ, List.replicate_zero, List.set_cons_zero, List.set_cons_succ, List.getElem?_cons_zero, List.getElem?_cons_succ, List.drop_zero, List.drop_succ_cons, List.take_succ_cons, List.take_nil, Option.getD_some, map_c, map_n, List.length_cons, List.length_nil, Nat.reduceAdd, Nat.reduceLeDiff, Nat.zero_add, bin_mul, bin_lss, w64, if_true, if_false, Bool.false_eq_true, decide_false, hlt', hlw]
      refine CallK.of (s67 hoi.ls (by omega) hbd (d := 2 * (l.den : Int)) ⟨by omega, by omega⟩) ?_
      simp (maxSteps := 4000000) -implicitDefEqProofs -dsimp (disch := omega) only [↓AW_ret, ↓AOps_nil, ↓AOps_pu, on_some, extK_false, ↓then_normal, ↓Fin_ret, pval, rd_S, rd_C, put_S, resV, resL, mk, List.foldl_cons, List.foldl_nil, List.replicate_succ, List.replicate_zero, List.set_cons_zero, List.set_cons_succ, List.getElem?_cons_zero, List.getElem?_cons_succ, Option.getD_some]
      exact (AccL_out hoi.pre e2_len _).gc2 flat_e2 (I 0) rfl
end
end Go.Proofs.Ytdcdjhhjlpegjaa

namespace Go.Proofs.Ytdcdjhhjlpegjaa
open Go Go.Eng
section
variable {cs : List Int} {v : AV} {A : AHeap} {e : Int}
theorem capL_max : ∀ {xs : List Int} {m : Int}, (∀ c ∈ xs, c ≤ m) → (capL xs (m : Rat)).sum = ((xs.sum : Int) : Rat)
  | [], _, _ => rfl
  | c :: xs, m, h => by
    have ih := capL_max (xs := xs) (m := m) (fun x hx => h x (by simp [hx]))
    show (mnq c (m : Rat) :: capL xs (m : Rat)).sum = _
    rw [List.sum_cons, ih, List.sum_cons, Rat.intCast_add, mnq_c (Rat.intCast_le_intCast.2 (h c (by simp)))]
theorem lv_max (hok : OK cs) : lv cs cs.sum = ((mxL cs : Int) : Rat) := by
  have hs := hok.sum
  have hl1 := hok.l1
  have hne : cs ≠ [] := by rintro rfl; simp at hl1
  have hc : CE cs cs.sum := ⟨hok, hs.1, Int.le_refl _⟩
  have hm := mxL_mem hne
  exact LV.uniq (lv_char hc).1 ⟨cast_nonneg (hok.c _ hm).1, ⟨_, hm, Rat.le_refl⟩, capL_max (fun c hc => mxL_ge hc)⟩
theorem s7 (hx : L1 A v cs) : ACalls Try.prog 7 [.agg [v, I e]] A (B true) A := by
  refine acalls hmix Try.func7 (by kernel_rfl) t7 1 rfl (by decide) ?_
  dsimp only [m7]
  simp (maxSteps := 4000000) -implicitDefEqProofs -dsimp (disch := omega) only [↓AW_ops, ↓AW_seq, ↓AOps_nil, ↓AOps_pu, ↓AOps_call, on_some, ↓then_normal, pval, rd_S, rd_C, put_S, chkd, bgot, AV.cells?, partA, eq_self, List.replicate_succ, List.replicate_zero, List.set_cons_zero, List.set_cons_succ, List.getElem?_cons_zero, List.getElem?_cons_succ, List.drop_zero, List.take_succ_cons, List.take_nil, Option.getD_some, map_c, map_n, List.length_cons, List.length_nil, Nat.reduceAdd, Nat.reduceSub, Nat.reduceLeDiff, Nat.reduceEqDiff, Nat.zero_add, List.cons_append, List.nil_append, if_true, if_false]
  refine CallK.of (s15 hx) ?_
  by_cases h1 : (40 : Int) < cs.length
  · simp (maxSteps := 4000000) -implicitDefEqProofs -dsimp (disch := omega) only [↓AW_ops, ↓AW_seq, ↓AW_cond, ↓AOps_nil, ↓AOps_call, extK_same, condB_t, ↓then_normal, rd_S, put_S, List.replicate_succ, List.replicate_zero, List.set_cons_zero, List.set_cons_succ, List.getElem?_cons_zero, List.getElem?_cons_succ, Option.getD_some, map_n, Nat.reduceSub, List.cons_append, List.nil_append, decide_true, h1]
    refine CallK.of (known A) ?_
    simp (maxSteps := 4000000) -implicitDefEqProofs -dsimp (disch := omega) only [↓AW_ret, ↓AOps_nil, ↓AOps_pu, on_some, extK_same, ↓then_normal, ↓then_ret, ↓Fin_ret, pval, rd_S, put_S, resV, resL, List.replicate_succ, List.replicate_zero, List.set_cons_zero, List.set_cons_succ, List.getElem?_cons_zero, List.getElem?_cons_succ, Option.getD_some, Nat.reduceSub, List.cons_append, List.nil_append]
    exact gc_same rfl
  have hl : cs.length ≤ 1000000 := by omega
  simp (maxSteps := 4000000) -implicitDefEqProofs -dsimp (disch := omega) only [↓AW_skip, ↓AW_ops, ↓AW_seq, ↓AW_cond, ↓AOps_nil, ↓AOps_pu, ↓AOps_call, on_some, extK_same, condB_f, ↓then_normal, pval, rd_S, put_S, chkd, isAdr, bgot, AV.cells?, partA, eq_self, List.replicate_succ, List.replicate_zero, List.set_cons_zero, List.set_cons_succ, List.getElem?_cons_zero, List.getElem?_cons_succ, List.drop_zero, List.drop_succ_cons, List.take_zero, List.take_succ_cons, List.take_nil, Option.getD_some, map_c, map_n, List.length_cons, List.length_nil, Nat.reduceAdd, Nat.reduceSub, Nat.reduceLeDiff, Nat.zero_add, List.cons_append, List.nil_append, if_true, if_false, Bool.false_eq_true, decide_false, h1]
  have hlecrt := byO_len (cs := cs) (e := e) (qs := crt cs e) (crt_len cs e)
  have hchcrt := byO_chE (cs := cs) (e := e) (qs := crt cs e) (fun h0 => crt_ok (vE_0.1 h0))
  generalize hbcrt : byO cs e (crt cs e) = bs1 at *
  refine CallK.of (s21 hx hl) ?_
  rw [hbcrt]
  have hp1 := pre_out A (bs1.flatMap e2) bs1.length
  have hq1 := Ls_out A e2_len bs1
  generalize outV 2 A bs1.length = v1 at *
  generalize outH A (bs1.flatMap e2) bs1.length = A1 at *
  have hP1 := hp1
  simp (maxSteps := 4000000) -implicitDefEqProofs -dsimp (disch := omega) only [↓AW_ops, ↓AW_seq, ↓AOps_nil, ↓AOps_pu, ↓AOps_call, on_some, extK_false, ↓then_normal, pval, rd_S, put_S, chkd, isAdr, bgot, AV.cells?, partA, eq_self, List.replicate_succ, List.replicate_zero, List.set_cons_zero, List.set_cons_succ, List.getElem?_cons_zero, List.getElem?_cons_succ, List.drop_zero, List.drop_succ_cons, List.take_zero, List.take_succ_cons, List.take_nil, Option.getD_some, map_c, map_n, List.length_cons, List.length_nil, Nat.reduceAdd, Nat.reduceSub, Nat.reduceLeDiff, Nat.zero_add, List.cons_append, List.nil_append, if_true, if_false, Bool.false_eq_true]
  refine CallK.of (s35 (hx.mono hP1) hl) ?_
  rw [hbcrt]
  have hp2 := pre_out A1 (bs1.flatMap e2) bs1.length
  have hq2 := Ls_out A1 e2_len bs1
  generalize outV 2 A1 bs1.length = v2 at *
  generalize outH A1 (bs1.flatMap e2) bs1.length = A2 at *
  have hP2 := hP1.trans hp2
  simp (maxSteps := 4000000) -implicitDefEqProofs -dsimp (disch := omega) only [↓AW_ops, ↓AW_seq, ↓AOps_nil, ↓AOps_pu, ↓AOps_call, on_some, extK_false, ↓then_normal, pval, rd_S, put_S, List.replicate_succ, List.replicate_zero, List.set_cons_zero, List.set_cons_succ, List.getElem?_cons_zero, List.getElem?_cons_succ, Option.getD_some, map_c, map_n, Nat.reduceSub, List.cons_append, List.nil_append]
  refine CallK.of (s30 (hq1.mono hp2) hq2 (by omega)) ?_
  simp (maxSteps := 4000000) -implicitDefEqProofs -dsimp (disch := omega) only [↓AOps_pu, ↓AOps_call, ↓AOps_guard, on_some, extK_same, guardB_tt, pval, rd_S, rd_C, put_S, chkd, isAdr, bgot, AV.cells?, partA, eq_self, List.replicate_succ, List.replicate_zero, List.set_cons_zero, List.set_cons_succ, List.getElem?_cons_zero, List.getElem?_cons_succ, List.drop_zero, List.drop_succ_cons, List.take_zero, List.take_succ_cons, List.take_nil, Option.getD_some, map_c, map_n, List.length_cons, List.length_nil, Nat.reduceAdd, Nat.reduceSub, Nat.reduceLeDiff, Nat.zero_add, List.cons_append, List.nil_append, bin_eql, if_true, if_false, Bool.false_eq_true, decide_true]
  refine CallK.of (s36 (hx.mono hP2) (hq1.mono hp2) hl (by omega)) ?_
  rw [hchcrt]
  simp (maxSteps := 4000000) -implicitDefEqProofs -dsimp (disch := omega) only [↓AOps_pu, ↓AOps_call, ↓AOps_guard, on_some, extK_same, guardB_tt, pval, rd_S, rd_C, put_S, eq_self, List.replicate_succ, List.replicate_zero, List.set_cons_zero, List.set_cons_succ, List.getElem?_cons_zero, List.getElem?_cons_succ, Option.getD_some, map_n, Nat.reduceSub, List.cons_append, List.nil_append, bin_eql, if_true, decide_true]
  refine CallK.of (known A2) ?_
  simp (maxSteps := 4000000) -implicitDefEqProofs -dsimp (disch := omega) only [↓AW_ret, ↓AOps_nil, ↓AOps_pu, on_some, extK_same, ↓then_normal, ↓Fin_ret, pval, rd_S, rd_C, put_S, resV, resL, eq_self, List.replicate_succ, List.replicate_zero, List.set_cons_zero, List.set_cons_succ, List.getElem?_cons_zero, List.getElem?_cons_succ, Option.getD_some, Nat.reduceSub, List.cons_append, List.nil_append, if_true, decide_true]
  exact gc_val hP2 rfl
end
end Go.Proofs.Ytdcdjhhjlpegjaa

namespace Go.Proofs.Ytdcdjhhjlpegjaa
open Go Go.Eng
section
variable {cs : List Int} {e : Int}
theorem rsub_mul (a b c : Rat) : (a - b) * c = a * c - b * c := by grind
/-- What the court gives for a claim. -/
def crf (cs : List Int) (e c : Int) : Rat := if 2 * e ≤ cs.sum then mnq c (lv cs (2 * e)) / ((2 : Int) : Rat) else ((c : Rat) - mnq c (lv cs (2 * cs.sum - 2 * e)) + (c : Rat)) / ((2 : Int) : Rat)
theorem crt_map (cs : List Int) (e : Int) : crt cs e = cs.map (crf cs e) := by
  by_cases h : 2 * e ≤ cs.sum
  · unfold crt aw capL
    rw [if_pos h, List.map_map]
    refine List.map_congr_left (fun c _ => ?_)
    unfold crf
    rw [if_pos h]
    exact hq_eq _
  · rw [crt_hi h]
    refine List.map_congr_left (fun c _ => ?_)
    unfold crf
    rw [if_neg h]
    exact hqc_eq _ _
theorem mnq_max (hok : OK cs) {c : Int} (hc : c ∈ cs) : mnq c (lv cs cs.sum) = (c : Rat) := by
  rw [lv_max hok]
  exact mnq_c (Rat.intCast_le_intCast.2 (mxL_ge hc))
end
end Go.Proofs.Ytdcdjhhjlpegjaa

namespace Go.Proofs.Ytdcdjhhjlpegjaa
open Go Go.Eng
theorem out2 {f : Nat} {args : List AV} {A : AHeap} {xs : List (Int × Int)} {n : Int} (h : ACalls Try.prog f args A (.tuple [outV 2 A xs.length, I n]) (outH A (xs.flatMap e2) xs.length)) :
    ∃ r H, ACalls Try.prog f args A (.tuple [r, I n]) H ∧ A <+: H ∧ L2 H r xs := ⟨_, _, h, pre_out A _ _, Ls_out A e2_len xs⟩
section
variable {cs : List Int} {rs : List (Int × Int)} {v u : AV} {A : AHeap} {e : Int}
theorem byO_0 (hc : CE cs e) (qs : List Rat) : byO cs e qs = qs.map rp := if_pos (vE_0.2 hc)
theorem r_pts (hx : L1 A v cs) (hl : cs.length ≤ 1000000) (hc : CE cs e) : ∃ r H, ACalls Try.prog 18 [v, I e] A (.tuple [r, I 0]) H ∧ A <+: H ∧ L2 H r ((pts cs e).map rp) := by
  have h := out2 (s18 (e := e) hx hl)
  rw [byO_0 hc, vE_0.2 hc] at h
  exact h
theorem r_aw (hx : L1 A v cs) (hl : cs.length ≤ 1000000) (hc : CE cs e) : ∃ r H, ACalls Try.prog 19 [v, I e] A (.tuple [r, I 0]) H ∧ A <+: H ∧ L2 H r ((aw cs e).map rp) := by
  have h := out2 (s19 (e := e) hx hl)
  rw [byO_0 hc, vE_0.2 hc] at h
  exact h
theorem r_lo (hx : L1 A v cs) (hl : cs.length ≤ 1000000) (hc : CE cs e) : ∃ r H, ACalls Try.prog 20 [v, I e] A (.tuple [r, I 0]) H ∧ A <+: H ∧ L2 H r ((lo cs e).map rp) := by
  have h := out2 (s20 (e := e) hx hl)
  rw [byO_0 hc, vE_0.2 hc] at h
  exact h
theorem r_crt (hx : L1 A v cs) (hl : cs.length ≤ 1000000) (hc : CE cs e) : ∃ r H, ACalls Try.prog 21 [v, I e] A (.tuple [r, I 0]) H ∧ A <+: H ∧ L2 H r ((crt cs e).map rp) := by
  have h := out2 (s21 (e := e) hx hl)
  rw [byO_0 hc, vE_0.2 hc] at h
  exact h
end
end Go.Proofs.Ytdcdjhhjlpegjaa

namespace Go.Proofs.Ytdcdjhhjlpegjaa
open Go Go.Eng
section
variable {cs : List Int} {v u : AV} {A : AHeap} {e : Int}
end
end Go.Proofs.Ytdcdjhhjlpegjaa

namespace Go.Proofs.Ytdcdjhhjlpegjaa
open Go Go.Eng
/-- A list without the element at a place. -/
def dl {α : Type} (xs : List α) (i : Nat) : List α := xs.take i ++ xs.drop (i + 1)
theorem dl_map {α β : Type} (f : α → β) (xs : List α) (i : Nat) : dl (xs.map f) i = (dl xs i).map f := by
  unfold dl
  rw [List.map_append, List.map_take, List.map_drop]
theorem dl_mem {α : Type} {xs : List α} {i : Nat} {x : α} (h : x ∈ dl xs i) : x ∈ xs := by
  unfold dl at h
  rcases List.mem_append.1 h with h | h
  · exact List.mem_of_mem_take h
  · exact List.mem_of_mem_drop h
theorem dl_split {α : Type} {xs : List α} {i : Nat} {x : α} (h : xs[i]? = some x) : xs = xs.take i ++ x :: xs.drop (i + 1) := by
  obtain ⟨hi, hx⟩ := List.getElem?_eq_some_iff.1 h
  rw [← hx, ← List.drop_eq_getElem_cons hi, List.take_append_drop]
theorem dl_len {α : Type} {xs : List α} {i : Nat} (h : i < xs.length) : (dl xs i).length + 1 = xs.length := by
  unfold dl
  rw [List.length_append, List.length_take, List.length_drop]
  omega
theorem dl_sum {xs : List Int} {i : Nat} {x : Int} (h : xs[i]? = some x) : xs.sum = x + (dl xs i).sum := by
  have := congrArg List.sum (dl_split h)
  rw [List.sum_append, List.sum_cons] at this
  unfold dl
  rw [List.sum_append]
  omega
theorem rsum_app : ∀ xs ys : List Rat, (xs ++ ys).sum = xs.sum + ys.sum
  | [], ys => by rw [List.nil_append, List.sum_nil, Rat.zero_add]
  | x :: xs, ys => by rw [List.cons_append, List.sum_cons, rsum_app xs ys, List.sum_cons, Rat.add_assoc]
theorem dl_rsum {xs : List Rat} {i : Nat} {x : Rat} (h : xs[i]? = some x) : xs.sum = x + (dl xs i).sum := by
  have := congrArg List.sum (dl_split h)
  rw [rsum_app, List.sum_cons] at this
  unfold dl
  rw [rsum_app, this]
  generalize (xs.take i).sum = a
  generalize (xs.drop (i + 1)).sum = b
  grind
theorem rsum_le {α : Type} {f g : α → Rat} : ∀ {cs : List α}, (∀ c ∈ cs, f c ≤ g c) → (cs.map f).sum ≤ (cs.map g).sum
  | [], _ => Rat.le_refl
  | c :: cs, h => by
    have ih := rsum_le (cs := cs) (fun x hx => h x (by simp [hx]))
    have h0 := h c (by simp)
    rw [List.map_cons, List.sum_cons, List.map_cons, List.sum_cons]
    grind
/-- Where every one is at most as great, and the sums are the same, every one is the same. -/
theorem rsum_eq {α : Type} {f g : α → Rat} : ∀ {cs : List α}, (∀ c ∈ cs, f c ≤ g c) → (cs.map f).sum = (cs.map g).sum → ∀ c ∈ cs, f c = g c
  | [], _, _ => by intro c hc; simp at hc
  | d :: cs, h, hs => by
    have hle := rsum_le (cs := cs) (fun x hx => h x (by simp [hx]))
    have h0 := h d (by simp)
    rw [List.map_cons, List.sum_cons, List.map_cons, List.sum_cons] at hs
    have e0 : f d = g d := by grind
    have e1 : (cs.map f).sum = (cs.map g).sum := by grind
    intro c hc
    rcases List.mem_cons.1 hc with rfl | hc
    · exact e0
    · exact rsum_eq (fun x hx => h x (by simp [hx])) e1 c hc
theorem rsum_int : ∀ cs : List Int, (cs.map (fun c : Int => (c : Rat))).sum = ((cs.sum : Int) : Rat)
  | [] => rfl
  | c :: cs => by rw [List.map_cons, List.sum_cons, rsum_int cs, List.sum_cons, Rat.intCast_add]
/-- A level that gives as much in all gives each one as much. -/
theorem capL_uniq {cs : List Int} {l m : Rat} (h : (capL cs l).sum = (capL cs m).sum) : capL cs l = capL cs m := by
  unfold capL at *
  rcases Rat.le_total (a := l) (b := m) with hh | hh
  · refine List.map_congr_left (rsum_eq (fun c _ => ?_) h)
    unfold mnq; split <;> split <;> grind
  · refine (List.map_congr_left (rsum_eq (fun c _ => ?_) h.symm)).symm
    unfold mnq; split <;> split <;> grind
section
variable {cs : List Int} {e : Int} {i : Nat} {c0 : Int}
theorem OK_dl (hok : OK cs) (h : cs[i]? = some c0) (h2 : 2 ≤ cs.length) : OK (dl cs i) := by
  have hl := dl_len (List.getElem?_eq_some_iff.1 h).1
  have hl8 := hok.l8
  exact ⟨by omega, by omega, fun x hx => hok.c x (dl_mem hx)⟩
/-- What remains can be had by the others. -/
theorem left_CE (hc : CE cs e) (h : cs[i]? = some c0) (h2 : 2 ≤ cs.length) {f : Int → Rat} (hs : (cs.map f).sum = (e : Rat)) (hf : ∀ c ∈ cs, 0 ≤ f c ∧ f c ≤ (c : Rat)) {k : Int} (hk : (e : Rat) - f c0 = (k : Rat)) :
    CE (dl cs i) k ∧ ((dl cs i).map f).sum = (k : Rat) := by
  have hg : (cs.map f)[i]? = some (f c0) := by rw [List.getElem?_map, h]; rfl
  have h1 := dl_rsum hg
  rw [hs, dl_map] at h1
  have h3 : ((dl cs i).map f).sum = (k : Rat) := by rw [← hk, h1]; grind
  have h4 := rsum_le (f := fun _ => (0 : Rat)) (g := f) (cs := dl cs i) (fun c hc' => (hf c (dl_mem hc')).1)
  have h5 := rsum_le (f := f) (g := fun c : Int => (c : Rat)) (cs := dl cs i) (fun c hc' => (hf c (dl_mem hc')).2)
  have h6 : ((dl cs i).map (fun _ => (0 : Rat))).sum = 0 := by
    generalize dl cs i = ys
    induction ys with
    | nil => rfl
    | cons y ys ih => rw [List.map_cons, List.sum_cons, ih, Rat.zero_add]
  rw [rsum_int, h3] at h5
  rw [h6, h3] at h4
  exact ⟨⟨OK_dl hc.ok h h2, Rat.intCast_le_intCast.1 (by rw [int0]; exact h4), Rat.intCast_le_intCast.1 h5⟩, h3⟩
/-- Equal awards for what they are in all. -/
theorem aw_of {ds : List Int} {k : Int} (hc : CE ds k) {l : Rat} (h : (capL ds l).sum = (k : Rat)) : aw ds k = ds.map (fun c => mnq c l) := by
  have h1 := (lv_char hc).1.s
  exact capL_uniq (h1.trans h.symm)
/-- Without one, by parts. -/
theorem dl_pts (hc : CE cs e) (h : cs[i]? = some c0) (h2 : 2 ≤ cs.length) {k : Int} (hk : (e : Rat) - ((c0 * e : Int) : Rat) / ((max 1 cs.sum : Int) : Rat) = (k : Rat)) :
    CE (dl cs i) k ∧ pts (dl cs i) k = dl (pts cs e) i := by
  have hT : 0 < max 1 cs.sum := by omega
  have hTr := cast_pos hT
  have hne := Ne.symm (Rat.ne_of_lt hTr)
  have he0 := hc.e0
  have he1 := hc.e1
  have h4 : ∀ c ∈ cs, 0 ≤ ((c * e : Int) : Rat) / ((max 1 cs.sum : Int) : Rat) ∧ ((c * e : Int) : Rat) / ((max 1 cs.sum : Int) : Rat) ≤ (c : Rat) := by
    intro c hcm
    have c0 := (hc.ok.c c hcm).1
    refine ⟨div_ge0 hTr (cast_nonneg (Int.mul_nonneg c0 he0)), div_le hTr ?_⟩
    rw [← Rat.intCast_mul]
    exact Rat.intCast_le_intCast.2 (Int.mul_le_mul_of_nonneg_left (by omega) c0)
  have hs : (cs.map (fun c => ((c * e : Int) : Rat) / ((max 1 cs.sum : Int) : Rat))).sum = (e : Rat) := by
    rw [sum_map_div]
    refine cancel hTr ?_
    rw [Rat.div_mul_cancel hne, ← Rat.intCast_mul]
    congr 1
    by_cases h0 : cs.sum = 0
    · have : e = 0 := by omega
      subst this
      simp
    · rw [show max 1 cs.sum = cs.sum by omega, Int.mul_comm]
  obtain ⟨hC, hS⟩ := left_CE hc h h2 hs h4 hk
  refine ⟨hC, ?_⟩
  have hsum := dl_sum h
  have hkm : e * max 1 cs.sum - c0 * e = k * max 1 cs.sum := by
    refine Rat.intCast_inj.1 ?_
    have hd : ((c0 * e : Int) : Rat) / ((max 1 cs.sum : Int) : Rat) * ((max 1 cs.sum : Int) : Rat) = ((c0 * e : Int) : Rat) := Rat.div_mul_cancel hne
    rw [Rat.intCast_sub, Rat.intCast_mul e, Rat.intCast_mul k, ← hk, rsub_mul, hd]
  show (dl cs i).map _ = dl (cs.map _) i
  rw [dl_map]
  refine List.map_congr_left (fun c hcm => ?_)
  have hcm' := dl_mem hcm
  have c0' := (hc.ok.c c hcm').1
  have hT' : 0 < max 1 (dl cs i).sum := by omega
  have hTr' := cast_pos hT'
  have hne' := Ne.symm (Rat.ne_of_lt hTr')
  have hcS := mem_sum (fun x hx => (hc.ok.c x (dl_mem hx)).1) hcm
  refine cancel hTr' ?_
  rw [Rat.div_mul_cancel hne']
  refine cancel hTr ?_
  have hd : ((c * e : Int) : Rat) / ((max 1 cs.sum : Int) : Rat) * ((max 1 cs.sum : Int) : Rat) = ((c * e : Int) : Rat) := Rat.div_mul_cancel hne
  have hsw : ∀ a b d : Rat, a * b * d = a * d * b := fun a b d => by rw [Rat.mul_assoc, Rat.mul_comm b, ← Rat.mul_assoc]
  rw [hsw _ _ ((max 1 cs.sum : Int) : Rat), hd, ← Rat.intCast_mul, ← Rat.intCast_mul]
  congr 1
  have hc0 := (hc.ok.c c0 (List.mem_of_getElem? h)).1
  by_cases h0 : (dl cs i).sum = 0
  · have : c = 0 := by omega
    subst this
    simp
  · have e1 : max 1 (dl cs i).sum = (dl cs i).sum := by omega
    have e2 : max 1 cs.sum = cs.sum := by omega
    rw [e2] at hkm ⊢
    rw [e1]
    rw [Int.mul_assoc, ← hkm, hsum, Int.mul_add, Int.mul_assoc c e]
    congr 1
    rw [Int.mul_comm c0 e]
    omega
/-- Without one, by equal awards. -/
theorem dl_aw (hc : CE cs e) (h : cs[i]? = some c0) (h2 : 2 ≤ cs.length) {k : Int} (hk : (e : Rat) - mnq c0 (lv cs e) = (k : Rat)) :
    CE (dl cs i) k ∧ aw (dl cs i) k = dl (aw cs e) i := by
  have hl0 := (lv_char hc).1.1
  obtain ⟨hC, hS⟩ := left_CE (f := fun c => mnq c (lv cs e)) hc h h2 (lv_char hc).1.s (fun c hcm => ⟨mnq0 (hc.ok.c c hcm).1 hl0, (mnq_le c _).2⟩) hk
  refine ⟨hC, ?_⟩
  rw [aw_of hC hS]
  show _ = dl (cs.map _) i
  rw [dl_map]
/-- Without one, by equal losses. -/
theorem dl_lo (hc : CE cs e) (h : cs[i]? = some c0) (h2 : 2 ≤ cs.length) {k : Int} (hk : (e : Rat) - ((c0 : Rat) - mnq c0 (lv cs (cs.sum - e))) = (k : Rat)) :
    CE (dl cs i) k ∧ lo (dl cs i) k = dl (lo cs e) i := by
  have hsum := dl_sum h
  have hk2 : ((cs.sum - e : Int) : Rat) - mnq c0 (lv cs (cs.sum - e)) = (((dl cs i).sum - k : Int) : Rat) := by
    rw [Rat.intCast_sub, Rat.intCast_sub, ← hk, hsum, Rat.intCast_add]
    generalize mnq c0 _ = x
    generalize ((dl cs i).sum : Rat) = y
    grind
  obtain ⟨hC, hA⟩ := dl_aw hc.sub h h2 hk2
  have hC2 := hC.sub
  rw [show (dl cs i).sum - ((dl cs i).sum - k) = k by omega] at hC2
  refine ⟨hC2, ?_⟩
  rw [lo_eq, lo_eq, dl_map]
  have hA' : (dl cs i).map (fun c => mnq c (lv (dl cs i) ((dl cs i).sum - k))) = (dl cs i).map (fun c => mnq c (lv cs (cs.sum - e))) := by
    have e1 : aw (dl cs i) ((dl cs i).sum - k) = (dl cs i).map (fun c => mnq c (lv (dl cs i) ((dl cs i).sum - k))) := rfl
    have e2 : dl (aw cs (cs.sum - e)) i = (dl cs i).map (fun c => mnq c (lv cs (cs.sum - e))) := dl_map _ _ _
    rw [← e1, ← e2, hA]
  rw [List.map_inj_left] at hA' ⊢
  intro c hcm
  rw [hA' c hcm]
theorem half_dbl (q : Rat) : q / ((2 : Int) : Rat) * ((2 : Int) : Rat) = q := Rat.div_mul_cancel (Ne.symm (Rat.ne_of_lt (cast_pos (show (0 : Int) < 2 by decide))))
/-- Without one, by the court. -/
theorem dl_crt (hc : CE cs e) (h : cs[i]? = some c0) (h2 : 2 ≤ cs.length) {k : Int} (hk : (e : Rat) - crf cs e c0 = (k : Rat)) :
    CE (dl cs i) k ∧ crt (dl cs i) k = dl (crt cs e) i := by
  have hsum := dl_sum h
  have hok' := OK_dl hc.ok h h2
  have he0 := hc.e0
  have he1 := hc.e1
  have two : ((2 : Int) : Rat) = 1 + 1 := by rw [show (2 : Int) = 1 + 1 from rfl, Rat.intCast_add]; rfl
  rw [crt_map, crt_map, dl_map]
  by_cases hb : 2 * e ≤ cs.sum
  · have hC2 : CE cs (2 * e) := ⟨hc.ok, by omega, hb⟩
    have hkk : ((2 * e : Int) : Rat) - mnq c0 (lv cs (2 * e)) = ((2 * k : Int) : Rat) := by
      have := half_dbl (mnq c0 (lv cs (2 * e)))
      unfold crf at hk
      rw [if_pos hb] at hk
      rw [Rat.intCast_mul, Rat.intCast_mul, ← hk]
      generalize mnq c0 (lv cs (2 * e)) / ((2 : Int) : Rat) = y at *
      rw [← this, two]
      grind
    obtain ⟨hC, hA⟩ := dl_aw hC2 h h2 hkk
    have hk0 := hC.e0
    have hk1 := hC.e1
    refine ⟨⟨hok', by omega, by omega⟩, ?_⟩
    have hA' : (dl cs i).map (fun c => mnq c (lv (dl cs i) (2 * k))) = (dl cs i).map (fun c => mnq c (lv cs (2 * e))) := by
      have e1 : aw (dl cs i) (2 * k) = (dl cs i).map (fun c => mnq c (lv (dl cs i) (2 * k))) := rfl
      have e2 : dl (aw cs (2 * e)) i = (dl cs i).map (fun c => mnq c (lv cs (2 * e))) := dl_map _ _ _
      rw [← e1, ← e2, hA]
    rw [List.map_inj_left] at hA' ⊢
    intro c hcm
    unfold crf
    rw [if_pos hb, if_pos hk1, hA' c hcm]
  · have hC2 : CE cs (2 * cs.sum - 2 * e) := ⟨hc.ok, by omega, by omega⟩
    have hkk : ((2 * cs.sum - 2 * e : Int) : Rat) - mnq c0 (lv cs (2 * cs.sum - 2 * e)) = ((2 * (dl cs i).sum - 2 * k : Int) : Rat) := by
      have := half_dbl ((c0 : Rat) - mnq c0 (lv cs (2 * cs.sum - 2 * e)) + (c0 : Rat))
      unfold crf at hk
      rw [if_neg hb] at hk
      rw [Rat.intCast_sub, Rat.intCast_sub, Rat.intCast_mul, Rat.intCast_mul, Rat.intCast_mul, Rat.intCast_mul, ← hk, two]
      have hs' : ((cs.sum : Int) : Rat) = (c0 : Rat) + ((dl cs i).sum : Rat) := by rw [← Rat.intCast_add, ← hsum]
      rw [two] at this
      generalize mnq c0 (lv cs (2 * cs.sum - 2 * e)) = x at *
      rw [hs']
      generalize ((c0 : Rat) - x + (c0 : Rat)) / (1 + 1) = y at *
      generalize ((dl cs i).sum : Rat) = z at *
      grind
    obtain ⟨hC, hA⟩ := dl_aw hC2 h h2 hkk
    have hk0 := hC.e0
    have hk1 := hC.e1
    have hCk : CE (dl cs i) k := by
      have := hok'.sum
      exact ⟨hok', by omega, by omega⟩
    refine ⟨hCk, ?_⟩
    have hA' : (dl cs i).map (fun c => mnq c (lv (dl cs i) (2 * (dl cs i).sum - 2 * k))) = (dl cs i).map (fun c => mnq c (lv cs (2 * cs.sum - 2 * e))) := by
      have e1 : aw (dl cs i) (2 * (dl cs i).sum - 2 * k) = (dl cs i).map (fun c => mnq c (lv (dl cs i) (2 * (dl cs i).sum - 2 * k))) := rfl
      have e2 : dl (aw cs (2 * cs.sum - 2 * e)) i = (dl cs i).map (fun c => mnq c (lv cs (2 * cs.sum - 2 * e))) := dl_map _ _ _
      rw [← e1, ← e2, hA]
    rw [List.map_inj_left] at hA' ⊢
    intro c hcm
    have hAc := hA' c hcm
    unfold crf
    rw [if_neg hb]
    by_cases hb2 : 2 * k ≤ (dl cs i).sum
    · have hkS : 2 * k = (dl cs i).sum := by omega
      rw [if_pos hb2, hkS, mnq_max hok' hcm]
      rw [hkS, show 2 * (dl cs i).sum - (dl cs i).sum = (dl cs i).sum by omega, mnq_max hok' hcm] at hAc
      rw [← hAc]
      congr 1
      grind
    · rw [if_neg hb2, hAc]
end
end Go.Proofs.Ytdcdjhhjlpegjaa

namespace Go.Proofs.Ytdcdjhhjlpegjaa
open Go Go.Eng
/-- slices.Concat[[]int,int] [loop [0, 3, 9, 10, 11], loop [6, 25, 26, 27]] -/
def m77 : MFun := ⟨36, [], [.mov (.s 2)],
 .seq (.ops [⟨(some 2), some undefA, none, false, .pu (.mov (.c (.nilS)))⟩])
 (.seq (.ops [⟨(some 3), some undefA, none, false, .pu (.mov (.c (.int .i64 0)))⟩])
 (.seq (.seq (.ops [⟨(some 9), some undefA, none, false, .pu (.mov (.s 0))⟩,
   ⟨(some 10), some undefA, none, false, .pu (.len (.s 9))⟩,
   ⟨(some 11), some undefA, none, false, .pu (.mov (.c (.int .i64 0)))⟩])
 (.block 0 (.loop (.seq (.ops [⟨(some 12), some undefA, none, false, .pu (.bin .lss (.s 11) (.s 10))⟩])
   (.seq (.cond (.s 12) (.skip)
   (.exit 0))
   (.seq (.block 1 (.seq (.ops [⟨(some 13), some undefA, none, false, .pu (.idx 1 (.s 9) (.s 11))⟩,
      ⟨(some 14), some undefA, none, false, .ld (.ld 1 false (.s 13))⟩,
      ⟨(some 5), some undefA, none, false, .pu (.mov (.s 14))⟩])
    (.seq (.ops [⟨(some 15), some undefA, none, false, .pu (.mov (.s 3))⟩,
      ⟨(some 16), some undefA, none, false, .pu (.mov (.s 5))⟩,
      ⟨(some 17), some undefA, none, false, .pu (.len (.s 16))⟩,
      ⟨(some 18), some undefA, none, false, .pu (.bin .add (.s 15) (.s 17))⟩,
      ⟨(some 3), some undefA, none, false, .pu (.mov (.s 18))⟩])
    (.seq (.ops [⟨(some 19), some undefA, none, false, .pu (.mov (.s 3))⟩,
      ⟨(some 20), some undefA, none, false, .pu (.bin .lss (.s 19) (.c (.int .i64 0)))⟩])
    (.cond (.s 20) (.ops [⟨(some 21), some undefA, none, false, .pu (.fail)⟩,
       ⟨none, some undefA, none, false, .pu (.fail)⟩])
    (.skip))))))
   (.ops [⟨(some 22), some undefA, none, false, .pu (.bin .add (.s 11) (.c (.int .i64 1)))⟩,
     ⟨(some 11), some undefA, none, false, .pu (.mov (.s 22))⟩])))))))
 (.seq (.ops [⟨(some 23), some undefA, none, false, .pu (.mov (.s 3))⟩,
   ⟨(some 24), some undefA, none, false, .call 86 [(.c (.nilS)), (.s 23)]⟩,
   ⟨(some 6), some undefA, none, false, .pu (.mov (.s 24))⟩])
 (.seq (.seq (.ops [⟨(some 25), some undefA, none, false, .pu (.mov (.s 0))⟩,
   ⟨(some 26), some undefA, none, false, .pu (.len (.s 25))⟩,
   ⟨(some 27), some undefA, none, false, .pu (.mov (.c (.int .i64 0)))⟩])
 (.block 2 (.loop (.seq (.ops [⟨(some 28), some undefA, none, false, .pu (.bin .lss (.s 27) (.s 26))⟩])
   (.seq (.cond (.s 28) (.skip)
   (.exit 2))
   (.seq (.block 3 (.seq (.ops [⟨(some 29), some undefA, none, false, .pu (.idx 1 (.s 25) (.s 27))⟩,
      ⟨(some 30), some undefA, none, false, .ld (.ld 1 false (.s 29))⟩,
      ⟨(some 8), some undefA, none, false, .pu (.mov (.s 30))⟩])
    (.ops [⟨(some 31), some undefA, none, false, .pu (.mov (.s 6))⟩,
      ⟨(some 32), some undefA, none, false, .pu (.mov (.s 8))⟩,
      ⟨(some 33), some undefA, none, false, .ha (.app 1 (.s 31) (.s 32))⟩,
      ⟨(some 6), some undefA, none, false, .pu (.mov (.s 33))⟩])))
   (.ops [⟨(some 34), some undefA, none, false, .pu (.bin .add (.s 27) (.c (.int .i64 1)))⟩,
     ⟨(some 27), some undefA, none, false, .pu (.mov (.s 34))⟩])))))))
 (.seq (.ops [⟨(some 35), some undefA, none, false, .pu (.mov (.s 6))⟩,
   ⟨(some 2), some undefA, none, false, .pu (.mov (.s 35))⟩])
 (.ret))))))⟩
theorem t77 : trF Try.prog [] [] Try.f77 = some m77 := by kernel_rfl
/-- slices.Grow[[]int,int] [] -/
def m86 : MFun := ⟨27, [], [.mov (.s 4)],
 .seq (.ops [⟨(some 4), some undefA, none, false, .pu (.mov (.c (.nilS)))⟩])
 (.seq (.seq (.ops [⟨(some 5), some undefA, none, false, .pu (.mov (.s 1))⟩,
   ⟨(some 6), some undefA, none, false, .pu (.bin .lss (.s 5) (.c (.int .i64 0)))⟩])
 (.cond (.s 6) (.ops [⟨(some 7), some undefA, none, false, .pu (.fail)⟩,
    ⟨none, some undefA, none, false, .pu (.fail)⟩])
 (.skip)))
 (.seq (.seq (.ops [⟨(some 8), some undefA, none, false, .pu (.mov (.s 1))⟩,
   ⟨(some 9), some undefA, none, false, .pu (.mov (.s 0))⟩,
   ⟨(some 10), some undefA, none, false, .pu (.cap (.s 9))⟩,
   ⟨(some 11), some undefA, none, false, .pu (.mov (.s 0))⟩,
   ⟨(some 12), some undefA, none, false, .pu (.len (.s 11))⟩,
   ⟨(some 13), some undefA, none, false, .pu (.bin .sub (.s 10) (.s 12))⟩,
   ⟨(some 14), some undefA, none, false, .pu (.bin .sub (.s 8) (.s 13))⟩,
   ⟨(some 1), some undefA, none, false, .pu (.mov (.s 14))⟩])
 (.seq (.ops [⟨(some 15), some undefA, none, false, .pu (.mov (.s 1))⟩,
   ⟨(some 16), some undefA, none, false, .pu (.bin .gtr (.s 15) (.c (.int .i64 0)))⟩])
 (.cond (.s 16) (.ops [⟨(some 17), some undefA, none, false, .pu (.mov (.s 0))⟩,
    ⟨(some 18), some undefA, none, false, .pu (.mov (.s 0))⟩,
    ⟨(some 19), some undefA, none, false, .pu (.cap (.s 18))⟩,
    ⟨(some 20), some undefA, none, false, .pu (.slc 1 (.s 17) none (some (.s 19)) none)⟩,
    ⟨(some 21), some undefA, none, false, .pu (.mov (.s 1))⟩,
    ⟨(some 22), some undefA, none, false, .ha (.appz 1 [.int .i64 0] (.s 20) (.s 21))⟩,
    ⟨(some 23), some undefA, none, false, .pu (.mov (.s 0))⟩,
    ⟨(some 24), some undefA, none, false, .pu (.len (.s 23))⟩,
    ⟨(some 25), some undefA, none, false, .pu (.slc 1 (.s 22) none (some (.s 24)) none)⟩,
    ⟨(some 0), some undefA, none, false, .pu (.mov (.s 25))⟩])
 (.skip))))
 (.seq (.ops [⟨(some 26), some undefA, none, false, .pu (.mov (.s 0))⟩,
   ⟨(some 4), some undefA, none, false, .pu (.mov (.s 26))⟩])
 (.ret))))⟩
theorem t86 : trF Try.prog [] [] Try.f86 = some m86 := by kernel_rfl
end Go.Proofs.Ytdcdjhhjlpegjaa

