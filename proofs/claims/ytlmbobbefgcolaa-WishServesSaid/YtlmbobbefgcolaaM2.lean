import Derived.Test.YtlmbobbefgcolaaEng20
import Derived.Test.YtlmbobbefgcolaaRows
namespace Go.Proofs.Ytlmbobbefgcolaa
open Go Go.Eng
/-- selion/selionlaw07.WishSures [] -/
def m3 : MFun := ⟨55, [1], [.mov (.s 2)],
 .seq (.ops [⟨(some 1), some (.junk), none, false, .pu (.bnew (.s 0))⟩,
   ⟨(some 2), some undefA, none, false, .pu (.mov (.c (.bool false)))⟩])
 (.seq (.seq (.ops [⟨(some 11), some undefA, none, false, .pu (.bget none 1 0 2 true)⟩,
   ⟨(some 12), some undefA, none, false, .call 17 [(.s 11)]⟩])
 (.cond (.s 12) (.seq (.ops [⟨(some 13), some undefA, none, false, .call 18 []⟩,
    ⟨(some 2), some undefA, none, false, .pu (.mov (.s 13))⟩])
  (.ret))
 (.skip)))
 (.seq (.ops [⟨(some 15), some undefA, none, false, .pu (.bget none 1 0 2 true)⟩,
   ⟨(some 16), some undefA, none, false, .call 19 [(.s 15)]⟩,
   ⟨(some 14), some undefA, none, false, .pu (.mov (.s 16))⟩,
   ⟨(some 17), some undefA, none, false, .pu (.extr 0 (.s 14))⟩,
   ⟨(some 18), some undefA, none, false, .pu (.extr 1 (.s 14))⟩,
   ⟨(some 3), some undefA, none, false, .pu (.mov (.s 17))⟩,
   ⟨(some 4), some undefA, none, false, .pu (.mov (.s 18))⟩])
 (.seq (.ops [⟨(some 20), some undefA, none, false, .pu (.bget none 1 0 2 true)⟩,
   ⟨(some 21), some undefA, none, false, .call 20 [(.s 20)]⟩,
   ⟨(some 19), some undefA, none, false, .pu (.mov (.s 21))⟩,
   ⟨(some 22), some undefA, none, false, .pu (.extr 0 (.s 19))⟩,
   ⟨(some 23), some undefA, none, false, .pu (.extr 1 (.s 19))⟩,
   ⟨(some 5), some undefA, none, false, .pu (.mov (.s 22))⟩,
   ⟨(some 6), some undefA, none, false, .pu (.mov (.s 23))⟩])
 (.seq (.ops [⟨(some 25), some undefA, none, false, .pu (.bget none 1 0 2 true)⟩,
   ⟨(some 26), some undefA, none, false, .call 21 [(.s 25)]⟩,
   ⟨(some 24), some undefA, none, false, .pu (.mov (.s 26))⟩,
   ⟨(some 27), some undefA, none, false, .pu (.extr 0 (.s 24))⟩,
   ⟨(some 28), some undefA, none, false, .pu (.extr 1 (.s 24))⟩,
   ⟨(some 7), some undefA, none, false, .pu (.mov (.s 27))⟩,
   ⟨(some 8), some undefA, none, false, .pu (.mov (.s 28))⟩])
 (.seq (.ops [⟨(some 30), some undefA, none, false, .pu (.bget none 1 0 2 true)⟩,
   ⟨(some 31), some undefA, none, false, .call 22 [(.s 30)]⟩,
   ⟨(some 29), some undefA, none, false, .pu (.mov (.s 31))⟩,
   ⟨(some 32), some undefA, none, false, .pu (.extr 0 (.s 29))⟩,
   ⟨(some 33), some undefA, none, false, .pu (.extr 1 (.s 29))⟩,
   ⟨(some 9), some undefA, none, false, .pu (.mov (.s 32))⟩,
   ⟨(some 10), some undefA, none, false, .pu (.mov (.s 33))⟩])
 (.seq (.ops [⟨(some 34), some undefA, none, false, .pu (.mov (.s 3))⟩,
   ⟨(some 35), some undefA, none, false, .pu (.mov (.s 5))⟩,
   ⟨(some 36), some undefA, none, false, .call 23 [(.s 34), (.s 35)]⟩,
   ⟨(some 37), some undefA, none, false, .pu (.mov (.s 36))⟩,
   ⟨(some 38), some undefA, (some (37, true)), false, .pu (.mov (.s 4))⟩,
   ⟨(some 39), some undefA, (some (37, true)), false, .pu (.mov (.s 6))⟩,
   ⟨(some 40), some undefA, (some (37, true)), false, .pu (.bin .eql (.s 38) (.s 39))⟩,
   ⟨(some 41), some undefA, none, false, .pu (.pick (.s 37) (.s 40) (.c (.bool false)))⟩,
   ⟨(some 42), some undefA, none, false, .pu (.mov (.s 41))⟩,
   ⟨(some 43), some undefA, (some (42, true)), false, .pu (.mov (.s 7))⟩,
   ⟨(some 44), some undefA, (some (42, true)), false, .pu (.mov (.s 9))⟩,
   ⟨(some 45), some undefA, (some (42, true)), false, .call 23 [(.s 43), (.s 44)]⟩,
   ⟨(some 46), some undefA, none, false, .pu (.pick (.s 42) (.s 45) (.c (.bool false)))⟩,
   ⟨(some 47), some undefA, none, false, .pu (.mov (.s 46))⟩,
   ⟨(some 48), some undefA, (some (47, true)), false, .pu (.mov (.s 8))⟩,
   ⟨(some 49), some undefA, (some (47, true)), false, .pu (.mov (.s 10))⟩,
   ⟨(some 50), some undefA, (some (47, true)), false, .pu (.bin .eql (.s 48) (.s 49))⟩,
   ⟨(some 51), some undefA, none, false, .pu (.pick (.s 47) (.s 50) (.c (.bool false)))⟩,
   ⟨(some 52), some undefA, none, false, .pu (.mov (.s 51))⟩,
   ⟨(some 53), some undefA, (some (52, true)), false, .call 18 []⟩,
   ⟨(some 54), some undefA, none, false, .pu (.pick (.s 52) (.s 53) (.c (.bool false)))⟩,
   ⟨(some 2), some undefA, none, false, .pu (.mov (.s 54))⟩])
 (.ret)))))))⟩
theorem t3 : trF Try.prog [1] [] Try.f3 = some m3 := by kernel_rfl

/-- selion/selionlaw07.WishMost [] -/
def m4 : MFun := ⟨66, [1], [.mov (.s 2)],
 .seq (.ops [⟨(some 1), some (.junk), none, false, .pu (.bnew (.s 0))⟩,
   ⟨(some 2), some undefA, none, false, .pu (.mov (.c (.bool false)))⟩])
 (.seq (.seq (.ops [⟨(some 11), some undefA, none, false, .pu (.bget none 1 0 2 true)⟩,
   ⟨(some 12), some undefA, none, false, .call 17 [(.s 11)]⟩])
 (.cond (.s 12) (.seq (.ops [⟨(some 13), some undefA, none, false, .call 18 []⟩,
    ⟨(some 2), some undefA, none, false, .pu (.mov (.s 13))⟩])
  (.ret))
 (.skip)))
 (.seq (.ops [⟨(some 15), some undefA, none, false, .pu (.bget none 1 0 2 true)⟩,
   ⟨(some 16), some undefA, none, false, .call 24 [(.s 15)]⟩,
   ⟨(some 14), some undefA, none, false, .pu (.mov (.s 16))⟩,
   ⟨(some 17), some undefA, none, false, .pu (.extr 0 (.s 14))⟩,
   ⟨(some 18), some undefA, none, false, .pu (.extr 1 (.s 14))⟩,
   ⟨(some 3), some undefA, none, false, .pu (.mov (.s 17))⟩,
   ⟨(some 4), some undefA, none, false, .pu (.mov (.s 18))⟩])
 (.seq (.ops [⟨(some 20), some undefA, none, false, .pu (.bget none 1 0 2 true)⟩,
   ⟨(some 21), some undefA, none, false, .call 25 [(.s 20)]⟩,
   ⟨(some 19), some undefA, none, false, .pu (.mov (.s 21))⟩,
   ⟨(some 22), some undefA, none, false, .pu (.extr 0 (.s 19))⟩,
   ⟨(some 23), some undefA, none, false, .pu (.extr 1 (.s 19))⟩,
   ⟨(some 5), some undefA, none, false, .pu (.mov (.s 22))⟩,
   ⟨(some 6), some undefA, none, false, .pu (.mov (.s 23))⟩])
 (.seq (.ops [⟨(some 25), some undefA, none, false, .pu (.bget none 1 0 2 true)⟩,
   ⟨(some 26), some undefA, none, false, .call 26 [(.s 25)]⟩,
   ⟨(some 24), some undefA, none, false, .pu (.mov (.s 26))⟩,
   ⟨(some 27), some undefA, none, false, .pu (.extr 0 (.s 24))⟩,
   ⟨(some 28), some undefA, none, false, .pu (.extr 1 (.s 24))⟩,
   ⟨(some 7), some undefA, none, false, .pu (.mov (.s 27))⟩,
   ⟨(some 8), some undefA, none, false, .pu (.mov (.s 28))⟩])
 (.seq (.seq (.ops [⟨(some 29), some undefA, none, false, .pu (.mov (.s 3))⟩,
   ⟨(some 30), some undefA, none, false, .pu (.mov (.s 5))⟩,
   ⟨(some 31), some undefA, none, false, .pu (.bin .neq (.s 29) (.s 30))⟩,
   ⟨(some 32), some undefA, none, false, .pu (.mov (.s 31))⟩,
   ⟨(some 33), some undefA, (some (32, false)), false, .pu (.mov (.s 4))⟩,
   ⟨(some 34), some undefA, (some (32, false)), false, .pu (.mov (.s 6))⟩,
   ⟨(some 35), some undefA, (some (32, false)), false, .pu (.bin .neq (.s 33) (.s 34))⟩,
   ⟨(some 36), some undefA, none, false, .pu (.pick (.s 32) (.c (.bool true)) (.s 35))⟩,
   ⟨(some 37), some undefA, none, false, .pu (.mov (.s 36))⟩,
   ⟨(some 38), some undefA, (some (37, false)), false, .pu (.mov (.s 8))⟩,
   ⟨(some 39), some undefA, (some (37, false)), false, .pu (.mov (.s 6))⟩,
   ⟨(some 40), some undefA, (some (37, false)), false, .pu (.bin .neq (.s 38) (.s 39))⟩,
   ⟨(some 41), some undefA, none, false, .pu (.pick (.s 37) (.c (.bool true)) (.s 40))⟩])
 (.cond (.s 41) (.seq (.ops [⟨(some 2), some undefA, none, false, .pu (.mov (.c (.bool false)))⟩])
  (.ret))
 (.skip)))
 (.seq (.seq (.ops [⟨(some 42), some undefA, none, false, .pu (.mov (.s 4))⟩,
   ⟨(some 43), some undefA, none, false, .pu (.bin .neq (.s 42) (.c (.int .i64 0)))⟩])
 (.cond (.s 43) (.seq (.ops [⟨(some 44), some undefA, none, false, .pu (.mov (.s 7))⟩,
    ⟨(some 45), some undefA, none, false, .pu (.len (.s 44))⟩,
    ⟨(some 46), some undefA, none, false, .pu (.bin .eql (.s 45) (.c (.int .i64 0)))⟩,
    ⟨(some 47), some undefA, none, false, .pu (.mov (.s 46))⟩,
    ⟨(some 48), some undefA, (some (47, true)), false, .call 18 []⟩,
    ⟨(some 49), some undefA, none, false, .pu (.pick (.s 47) (.s 48) (.c (.bool false)))⟩,
    ⟨(some 2), some undefA, none, false, .pu (.mov (.s 49))⟩])
  (.ret))
 (.skip)))
 (.seq (.ops [⟨(some 51), some undefA, none, false, .pu (.bget none 1 0 2 true)⟩,
   ⟨(some 52), some undefA, none, false, .pu (.mov (.s 7))⟩,
   ⟨(some 53), some undefA, none, false, .call 27 [(.s 51), (.s 52)]⟩,
   ⟨(some 50), some undefA, none, false, .pu (.mov (.s 53))⟩,
   ⟨(some 54), some undefA, none, false, .pu (.extr 0 (.s 50))⟩,
   ⟨(some 55), some undefA, none, false, .pu (.extr 1 (.s 50))⟩,
   ⟨(some 9), some undefA, none, false, .pu (.mov (.s 54))⟩,
   ⟨(some 10), some undefA, none, false, .pu (.mov (.s 55))⟩])
 (.seq (.ops [⟨(some 56), some undefA, none, false, .pu (.mov (.s 10))⟩,
   ⟨(some 57), some undefA, none, false, .pu (.bin .eql (.s 56) (.c (.int .i64 0)))⟩,
   ⟨(some 58), some undefA, none, false, .pu (.mov (.s 57))⟩,
   ⟨(some 59), some undefA, (some (58, true)), false, .pu (.mov (.s 9))⟩,
   ⟨(some 60), some undefA, (some (58, true)), false, .pu (.mov (.s 3))⟩,
   ⟨(some 61), some undefA, (some (58, true)), false, .pu (.bin .eql (.s 59) (.s 60))⟩,
   ⟨(some 62), some undefA, none, false, .pu (.pick (.s 58) (.s 61) (.c (.bool false)))⟩,
   ⟨(some 63), some undefA, none, false, .pu (.mov (.s 62))⟩,
   ⟨(some 64), some undefA, (some (63, true)), false, .call 18 []⟩,
   ⟨(some 65), some undefA, none, false, .pu (.pick (.s 63) (.s 64) (.c (.bool false)))⟩,
   ⟨(some 2), some undefA, none, false, .pu (.mov (.s 65))⟩])
 (.ret)))))))))⟩
theorem t4 : trF Try.prog [1] [] Try.f4 = some m4 := by kernel_rfl

/-- selion/selionlaw07.WishTurns [] -/
def m5 : MFun := ⟨69, [1, 3, 4, 6], [.mov (.s 2)],
 .seq (.ops [⟨(some 1), some (.junk), none, false, .pu (.bnew (.s 0))⟩,
   ⟨(some 2), some undefA, none, false, .pu (.mov (.c (.bool false)))⟩])
 (.seq (.seq (.ops [⟨(some 12), some undefA, none, false, .pu (.bget none 1 0 2 true)⟩,
   ⟨(some 13), some undefA, none, false, .call 17 [(.s 12)]⟩])
 (.cond (.s 13) (.seq (.ops [⟨(some 14), some undefA, none, false, .call 18 []⟩,
    ⟨(some 2), some undefA, none, false, .pu (.mov (.s 14))⟩])
  (.ret))
 (.skip)))
 (.seq (.ops [⟨(some 15), some undefA, none, false, .pu (.bget none 1 0 2 true)⟩,
   ⟨(some 16), some undefA, none, false, .call 28 [(.s 15)]⟩,
   ⟨(some 3), some (.junk), none, false, .pu (.bnew (.c (.agg [.int .i64 0, .nilS])))⟩,
   ⟨(some 3), none, none, false, .pu (.bset none 3 0 2 (.s 16))⟩])
 (.seq (.ops [⟨(some 18), some undefA, none, false, .pu (.bget none 3 0 2 true)⟩,
   ⟨(some 19), some undefA, none, false, .call 29 [(.s 18)]⟩,
   ⟨(some 17), some undefA, none, false, .pu (.mov (.s 19))⟩,
   ⟨(some 20), some undefA, none, false, .pu (.extr 0 (.s 17))⟩,
   ⟨(some 21), some undefA, none, false, .pu (.extr 1 (.s 17))⟩,
   ⟨(some 4), some (.junk), none, false, .pu (.bnew (.c (.agg [.int .i64 0, .nilS])))⟩,
   ⟨(some 4), none, none, false, .pu (.bset none 4 0 2 (.s 20))⟩,
   ⟨(some 5), some undefA, none, false, .pu (.mov (.s 21))⟩])
 (.seq (.ops [⟨(some 23), some undefA, none, false, .pu (.bget none 1 0 2 true)⟩,
   ⟨(some 24), some undefA, none, false, .call 30 [(.s 23)]⟩,
   ⟨(some 22), some undefA, none, false, .pu (.mov (.s 24))⟩,
   ⟨(some 25), some undefA, none, false, .pu (.extr 0 (.s 22))⟩,
   ⟨(some 26), some undefA, none, false, .pu (.extr 1 (.s 22))⟩,
   ⟨(some 6), some (.junk), none, false, .pu (.bnew (.c (.agg [.int .i64 0, .nilS])))⟩,
   ⟨(some 6), none, none, false, .pu (.bset none 6 0 2 (.s 25))⟩,
   ⟨(some 7), some undefA, none, false, .pu (.mov (.s 26))⟩])
 (.seq (.seq (.ops [⟨(some 27), some undefA, none, false, .pu (.bget none 4 0 2 true)⟩,
   ⟨(some 28), some undefA, none, false, .pu (.bget none 6 0 2 true)⟩,
   ⟨(some 29), some undefA, none, false, .call 31 [(.s 27), (.s 28)]⟩,
   ⟨(some 30), some undefA, none, false, .pu (.not (.s 29))⟩,
   ⟨(some 31), some undefA, none, false, .pu (.mov (.s 30))⟩,
   ⟨(some 32), some undefA, (some (31, false)), false, .pu (.mov (.s 5))⟩,
   ⟨(some 33), some undefA, (some (31, false)), false, .pu (.mov (.s 7))⟩,
   ⟨(some 34), some undefA, (some (31, false)), false, .pu (.bin .neq (.s 32) (.s 33))⟩,
   ⟨(some 35), some undefA, none, false, .pu (.pick (.s 31) (.c (.bool true)) (.s 34))⟩,
   ⟨(some 36), some undefA, none, false, .pu (.mov (.s 35))⟩,
   ⟨(some 37), some undefA, (some (36, false)), false, .pu (.bget none 3 0 2 true)⟩,
   ⟨(some 38), some undefA, (some (36, false)), false, .pu (.bget none 1 0 2 true)⟩,
   ⟨(some 39), some undefA, (some (36, false)), false, .call 31 [(.s 37), (.s 38)]⟩,
   ⟨(some 40), some undefA, (some (36, false)), false, .pu (.not (.s 39))⟩,
   ⟨(some 41), some undefA, none, false, .pu (.pick (.s 36) (.c (.bool true)) (.s 40))⟩])
 (.cond (.s 41) (.seq (.ops [⟨(some 2), some undefA, none, false, .pu (.mov (.c (.bool false)))⟩])
  (.ret))
 (.skip)))
 (.seq (.seq (.ops [⟨(some 42), some undefA, none, false, .pu (.mov (.s 5))⟩,
   ⟨(some 43), some undefA, none, false, .pu (.bin .neq (.s 42) (.c (.int .i64 0)))⟩])
 (.cond (.s 43) (.seq (.ops [⟨(some 44), some undefA, none, false, .call 18 []⟩,
    ⟨(some 2), some undefA, none, false, .pu (.mov (.s 44))⟩])
  (.ret))
 (.skip)))
 (.seq (.ops [⟨(some 46), some undefA, none, false, .pu (.bget none 4 0 2 true)⟩,
   ⟨(some 47), some undefA, none, false, .call 24 [(.s 46)]⟩,
   ⟨(some 45), some undefA, none, false, .pu (.mov (.s 47))⟩,
   ⟨(some 48), some undefA, none, false, .pu (.extr 0 (.s 45))⟩,
   ⟨(some 49), some undefA, none, false, .pu (.extr 1 (.s 45))⟩,
   ⟨(some 8), some undefA, none, false, .pu (.mov (.s 48))⟩,
   ⟨(some 9), some undefA, none, false, .pu (.mov (.s 49))⟩])
 (.seq (.ops [⟨(some 51), some undefA, none, false, .pu (.bget none 1 0 2 true)⟩,
   ⟨(some 52), some undefA, none, false, .call 24 [(.s 51)]⟩,
   ⟨(some 50), some undefA, none, false, .pu (.mov (.s 52))⟩,
   ⟨(some 53), some undefA, none, false, .pu (.extr 0 (.s 50))⟩,
   ⟨(some 54), some undefA, none, false, .pu (.extr 1 (.s 50))⟩,
   ⟨(some 10), some undefA, none, false, .pu (.mov (.s 53))⟩,
   ⟨(some 11), some undefA, none, false, .pu (.mov (.s 54))⟩])
 (.seq (.ops [⟨(some 55), some undefA, none, false, .pu (.mov (.s 9))⟩,
   ⟨(some 56), some undefA, none, false, .pu (.bin .eql (.s 55) (.c (.int .i64 0)))⟩,
   ⟨(some 57), some undefA, none, false, .pu (.mov (.s 56))⟩,
   ⟨(some 58), some undefA, (some (57, true)), false, .pu (.mov (.s 11))⟩,
   ⟨(some 59), some undefA, (some (57, true)), false, .pu (.bin .eql (.s 58) (.c (.int .i64 0)))⟩,
   ⟨(some 60), some undefA, none, false, .pu (.pick (.s 57) (.s 59) (.c (.bool false)))⟩,
   ⟨(some 61), some undefA, none, false, .pu (.mov (.s 60))⟩,
   ⟨(some 62), some undefA, (some (61, true)), false, .pu (.mov (.s 8))⟩,
   ⟨(some 63), some undefA, (some (61, true)), false, .pu (.mov (.s 10))⟩,
   ⟨(some 64), some undefA, (some (61, true)), false, .pu (.bin .eql (.s 62) (.s 63))⟩,
   ⟨(some 65), some undefA, none, false, .pu (.pick (.s 61) (.s 64) (.c (.bool false)))⟩,
   ⟨(some 66), some undefA, none, false, .pu (.mov (.s 65))⟩,
   ⟨(some 67), some undefA, (some (66, true)), false, .call 18 []⟩,
   ⟨(some 68), some undefA, none, false, .pu (.pick (.s 66) (.s 67) (.c (.bool false)))⟩,
   ⟨(some 2), some undefA, none, false, .pu (.mov (.s 68))⟩])
 (.ret))))))))))⟩
theorem t5 : trF Try.prog [1, 3, 4, 6] [] Try.f5 = some m5 := by kernel_rfl

/-- selion/selionlaw07.WishServes [loop [1, 9, 11, 13], loop [1, 11, 14], loop [1, 11, 14, 15, 16]] -/
def m6 : MFun := ⟨134, [2], [.mov (.s 4)],
 .seq (.ops [⟨(some 2), some (.junk), none, false, .pu (.bnew (.s 0))⟩,
   ⟨(some 4), some undefA, none, false, .pu (.mov (.c (.bool false)))⟩])
 (.seq (.seq (.ops [⟨(some 17), some undefA, none, false, .pu (.bget none 2 0 2 true)⟩,
   ⟨(some 18), some undefA, none, false, .call 17 [(.s 17)]⟩,
   ⟨(some 19), some undefA, none, false, .pu (.mov (.s 18))⟩,
   ⟨(some 20), some undefA, (some (19, false)), false, .pu (.mov (.s 1))⟩,
   ⟨(some 21), some undefA, (some (19, false)), false, .call 32 [(.s 20)]⟩,
   ⟨(some 22), some undefA, none, false, .pu (.pick (.s 19) (.c (.bool true)) (.s 21))⟩])
 (.cond (.s 22) (.seq (.ops [⟨(some 23), some undefA, none, false, .call 18 []⟩,
    ⟨(some 4), some undefA, none, false, .pu (.mov (.s 23))⟩])
  (.ret))
 (.skip)))
 (.seq (.ops [⟨(some 25), some undefA, none, false, .pu (.bget none 2 0 2 true)⟩,
   ⟨(some 26), some undefA, none, false, .pu (.mov (.s 1))⟩,
   ⟨(some 27), some undefA, none, false, .call 33 [(.s 25), (.s 26)]⟩,
   ⟨(some 24), some undefA, none, false, .pu (.mov (.s 27))⟩,
   ⟨(some 28), some undefA, none, false, .pu (.extr 0 (.s 24))⟩,
   ⟨(some 29), some undefA, none, false, .pu (.extr 1 (.s 24))⟩,
   ⟨(some 5), some undefA, none, false, .pu (.mov (.s 28))⟩,
   ⟨(some 6), some undefA, none, false, .pu (.mov (.s 29))⟩])
 (.seq (.ops [⟨(some 31), some undefA, none, false, .pu (.bget none 2 0 2 true)⟩,
   ⟨(some 32), some undefA, none, false, .call 24 [(.s 31)]⟩,
   ⟨(some 30), some undefA, none, false, .pu (.mov (.s 32))⟩,
   ⟨(some 33), some undefA, none, false, .pu (.extr 0 (.s 30))⟩,
   ⟨(some 34), some undefA, none, false, .pu (.extr 1 (.s 30))⟩,
   ⟨(some 7), some undefA, none, false, .pu (.mov (.s 33))⟩,
   ⟨(some 8), some undefA, none, false, .pu (.mov (.s 34))⟩])
 (.seq (.seq (.ops [⟨(some 35), some undefA, none, false, .pu (.mov (.s 6))⟩,
   ⟨(some 36), some undefA, none, false, .pu (.bin .neq (.s 35) (.c (.int .i64 0)))⟩,
   ⟨(some 37), some undefA, none, false, .pu (.mov (.s 36))⟩,
   ⟨(some 38), some undefA, (some (37, false)), false, .pu (.mov (.s 8))⟩,
   ⟨(some 39), some undefA, (some (37, false)), false, .pu (.bin .neq (.s 38) (.c (.int .i64 0)))⟩,
   ⟨(some 40), some undefA, none, false, .pu (.pick (.s 37) (.c (.bool true)) (.s 39))⟩,
   ⟨(some 41), some undefA, none, false, .pu (.mov (.s 40))⟩,
   ⟨(some 42), some undefA, (some (41, false)), false, .pu (.mov (.s 5))⟩,
   ⟨(some 43), some undefA, (some (41, false)), false, .pu (.mov (.s 7))⟩,
   ⟨(some 44), some undefA, (some (41, false)), false, .pu (.bin .lss (.s 42) (.s 43))⟩,
   ⟨(some 45), some undefA, none, false, .pu (.pick (.s 41) (.c (.bool true)) (.s 44))⟩])
 (.cond (.s 45) (.seq (.ops [⟨(some 46), some undefA, none, false, .pu (.mov (.s 6))⟩,
    ⟨(some 47), some undefA, none, false, .pu (.bin .neq (.s 46) (.c (.int .i64 0)))⟩,
    ⟨(some 48), some undefA, none, false, .pu (.mov (.s 47))⟩,
    ⟨(some 49), some undefA, (some (48, false)), false, .pu (.mov (.s 5))⟩,
    ⟨(some 50), some undefA, (some (48, false)), false, .pu (.mov (.s 7))⟩,
    ⟨(some 51), some undefA, (some (48, false)), false, .pu (.bin .leq (.s 49) (.s 50))⟩,
    ⟨(some 52), some undefA, none, false, .pu (.pick (.s 48) (.c (.bool true)) (.s 51))⟩,
    ⟨(some 53), some undefA, none, false, .pu (.mov (.s 52))⟩,
    ⟨(some 54), some undefA, (some (53, true)), false, .call 18 []⟩,
    ⟨(some 55), some undefA, none, false, .pu (.pick (.s 53) (.s 54) (.c (.bool false)))⟩,
    ⟨(some 4), some undefA, none, false, .pu (.mov (.s 55))⟩])
  (.ret))
 (.skip)))
 (.seq (.ops [⟨(some 57), some undefA, none, false, .pu (.bget none 2 0 2 true)⟩,
   ⟨(some 58), some undefA, none, false, .call 19 [(.s 57)]⟩,
   ⟨(some 56), some undefA, none, false, .pu (.mov (.s 58))⟩,
   ⟨(some 59), some undefA, none, false, .pu (.extr 0 (.s 56))⟩,
   ⟨(some 60), some undefA, none, false, .pu (.extr 1 (.s 56))⟩,
   ⟨(some 9), some undefA, none, false, .pu (.mov (.s 59))⟩,
   ⟨(some 10), some undefA, none, false, .pu (.mov (.s 60))⟩])
 (.seq (.ops [⟨(some 62), some undefA, none, false, .pu (.bget none 2 0 2 true)⟩,
   ⟨(some 63), some undefA, none, false, .call 21 [(.s 62)]⟩,
   ⟨(some 61), some undefA, none, false, .pu (.mov (.s 63))⟩,
   ⟨(some 64), some undefA, none, false, .pu (.extr 0 (.s 61))⟩,
   ⟨(some 65), some undefA, none, false, .pu (.extr 1 (.s 61))⟩,
   ⟨(some 11), some undefA, none, false, .pu (.mov (.s 64))⟩,
   ⟨(some 12), some undefA, none, false, .pu (.mov (.s 65))⟩])
 (.seq (.seq (.ops [⟨(some 66), some undefA, none, false, .pu (.mov (.s 10))⟩,
   ⟨(some 67), some undefA, none, false, .pu (.bin .neq (.s 66) (.c (.int .i64 0)))⟩,
   ⟨(some 68), some undefA, none, false, .pu (.mov (.s 67))⟩,
   ⟨(some 69), some undefA, (some (68, false)), false, .pu (.mov (.s 12))⟩,
   ⟨(some 70), some undefA, (some (68, false)), false, .pu (.bin .neq (.s 69) (.c (.int .i64 0)))⟩,
   ⟨(some 71), some undefA, none, false, .pu (.pick (.s 68) (.c (.bool true)) (.s 70))⟩,
   ⟨(some 72), some undefA, none, false, .pu (.mov (.s 71))⟩,
   ⟨(some 73), some undefA, (some (72, false)), false, .pu (.mov (.s 5))⟩,
   ⟨(some 74), some undefA, (some (72, false)), false, .pu (.mov (.s 7))⟩,
   ⟨(some 75), some undefA, (some (72, false)), false, .pu (.bin .gtr (.s 73) (.s 74))⟩,
   ⟨(some 76), some undefA, none, false, .pu (.pick (.s 72) (.c (.bool true)) (.s 75))⟩])
 (.cond (.s 76) (.seq (.ops [⟨(some 4), some undefA, none, false, .pu (.mov (.c (.bool false)))⟩])
  (.ret))
 (.skip)))
 (.seq (.seq (.ops [⟨(some 13), some undefA, none, false, .pu (.mov (.c (.int .i64 0)))⟩])
 (.block 0 (.loop (.seq (.seq (.ops [⟨(some 77), some undefA, none, false, .pu (.mov (.s 13))⟩,
     ⟨(some 78), some undefA, none, false, .pu (.mov (.s 9))⟩,
     ⟨(some 79), some undefA, none, false, .pu (.len (.s 78))⟩,
     ⟨(some 80), some undefA, none, false, .pu (.bin .lss (.s 77) (.s 79))⟩])
   (.cond (.s 80) (.skip)
   (.exit 0)))
   (.seq (.block 1 (.seq (.ops [⟨(some 83), some undefA, none, false, .pu (.mov (.s 9))⟩,
      ⟨(some 84), some undefA, none, false, .pu (.mov (.s 13))⟩,
      ⟨(some 85), some undefA, none, false, .pu (.idx 1 (.s 83) (.s 84))⟩,
      ⟨(some 86), some undefA, none, false, .ld (.ld 1 false (.s 85))⟩,
      ⟨(some 87), some undefA, none, false, .pu (.bin .lss (.s 86) (.c (.int .i64 0)))⟩,
      ⟨(some 88), some undefA, none, false, .pu (.mov (.s 87))⟩,
      ⟨(some 89), some undefA, (some (88, false)), false, .pu (.mov (.s 9))⟩,
      ⟨(some 90), some undefA, (some (88, false)), false, .pu (.mov (.s 13))⟩,
      ⟨(some 91), some undefA, (some (88, false)), false, .pu (.idx 1 (.s 89) (.s 90))⟩,
      ⟨(some 92), some undefA, (some (88, false)), false, .ld (.ld 1 false (.s 91))⟩,
      ⟨(some 93), some undefA, (some (88, false)), false, .pu (.mov (.s 1))⟩,
      ⟨(some 94), some undefA, (some (88, false)), false, .pu (.len (.s 93))⟩,
      ⟨(some 95), some undefA, (some (88, false)), false, .pu (.bin .geq (.s 92) (.s 94))⟩,
      ⟨(some 96), some undefA, none, false, .pu (.pick (.s 88) (.c (.bool true)) (.s 95))⟩,
      ⟨(some 97), some undefA, none, false, .pu (.mov (.s 96))⟩,
      ⟨(some 98), some undefA, (some (97, false)), false, .pu (.mov (.s 1))⟩,
      ⟨(some 99), some undefA, (some (97, false)), false, .pu (.mov (.s 9))⟩,
      ⟨(some 100), some undefA, (some (97, false)), false, .pu (.mov (.s 13))⟩,
      ⟨(some 101), some undefA, (some (97, false)), false, .pu (.idx 1 (.s 99) (.s 100))⟩,
      ⟨(some 102), some undefA, (some (97, false)), false, .ld (.ld 1 false (.s 101))⟩,
      ⟨(some 103), some undefA, (some (97, false)), false, .pu (.idx 1 (.s 98) (.s 102))⟩,
      ⟨(some 104), some undefA, (some (97, false)), false, .ld (.ld 1 false (.s 103))⟩,
      ⟨(some 105), some undefA, (some (97, false)), false, .pu (.bin .lss (.s 104) (.c (.int .i64 0)))⟩,
      ⟨(some 106), some undefA, none, false, .pu (.pick (.s 97) (.c (.bool true)) (.s 105))⟩])
    (.cond (.s 106) (.seq (.ops [⟨(some 4), some undefA, none, false, .pu (.mov (.c (.bool false)))⟩])
     (.ret))
    (.skip))))
   (.ops [⟨(some 81), some undefA, none, false, .pu (.mov (.s 13))⟩,
     ⟨(some 82), some undefA, none, false, .pu (.bin .add (.s 81) (.c (.int .i64 1)))⟩,
     ⟨(some 13), some undefA, none, false, .pu (.mov (.s 82))⟩]))))))
 (.seq (.seq (.ops [⟨(some 14), some undefA, none, false, .pu (.mov (.c (.int .i64 0)))⟩])
 (.block 2 (.loop (.seq (.seq (.ops [⟨(some 107), some undefA, none, false, .pu (.mov (.s 14))⟩,
     ⟨(some 108), some undefA, none, false, .pu (.mov (.s 11))⟩,
     ⟨(some 109), some undefA, none, false, .pu (.len (.s 108))⟩,
     ⟨(some 110), some undefA, none, false, .pu (.bin .lss (.s 107) (.s 109))⟩])
   (.cond (.s 110) (.skip)
   (.exit 2)))
   (.seq (.block 3 (.seq (.ops [⟨(some 15), some undefA, none, false, .pu (.mov (.c (.bool false)))⟩])
    (.seq (.seq (.ops [⟨(some 16), some undefA, none, false, .pu (.mov (.c (.int .i64 0)))⟩])
    (.block 4 (.loop (.seq (.seq (.ops [⟨(some 113), some undefA, none, false, .pu (.mov (.s 16))⟩,
        ⟨(some 114), some undefA, none, false, .pu (.mov (.s 1))⟩,
        ⟨(some 115), some undefA, none, false, .pu (.len (.s 114))⟩,
        ⟨(some 116), some undefA, none, false, .pu (.bin .lss (.s 113) (.s 115))⟩])
      (.cond (.s 116) (.skip)
      (.exit 4)))
      (.seq (.block 5 (.ops [⟨(some 119), some undefA, none, false, .pu (.mov (.s 15))⟩,
         ⟨(some 120), some undefA, none, false, .pu (.mov (.s 119))⟩,
         ⟨(some 121), some undefA, (some (120, false)), true, .pu (.mov (.s 1))⟩,
         ⟨(some 122), some undefA, (some (120, false)), true, .pu (.mov (.s 16))⟩,
         ⟨(some 123), some undefA, (some (120, false)), true, .pu (.idx 1 (.s 121) (.s 122))⟩,
         ⟨(some 124), some undefA, (some (120, false)), true, .ld (.ld 1 false (.s 123))⟩,
         ⟨(some 125), some undefA, (some (120, false)), true, .pu (.mov (.s 11))⟩,
         ⟨(some 126), some undefA, (some (120, false)), true, .pu (.mov (.s 14))⟩,
         ⟨(some 127), some undefA, (some (120, false)), true, .pu (.idx 1 (.s 125) (.s 126))⟩,
         ⟨(some 128), some undefA, (some (120, false)), true, .ld (.ld 1 false (.s 127))⟩,
         ⟨(some 129), some undefA, (some (120, false)), false, .pu (.bin .eql (.s 124) (.s 128))⟩,
         ⟨(some 130), some undefA, none, false, .pu (.pick (.s 120) (.c (.bool true)) (.s 129))⟩,
         ⟨(some 15), some undefA, none, false, .pu (.mov (.s 130))⟩]))
      (.ops [⟨(some 117), some undefA, none, false, .pu (.mov (.s 16))⟩,
        ⟨(some 118), some undefA, none, false, .pu (.bin .add (.s 117) (.c (.int .i64 1)))⟩,
        ⟨(some 16), some undefA, none, false, .pu (.mov (.s 118))⟩]))))))
    (.seq (.ops [⟨(some 131), some undefA, none, false, .pu (.mov (.s 15))⟩,
      ⟨(some 132), some undefA, none, false, .pu (.not (.s 131))⟩])
    (.cond (.s 132) (.seq (.ops [⟨(some 4), some undefA, none, false, .pu (.mov (.c (.bool false)))⟩])
     (.ret))
    (.skip))))))
   (.ops [⟨(some 111), some undefA, none, false, .pu (.mov (.s 14))⟩,
     ⟨(some 112), some undefA, none, false, .pu (.bin .add (.s 111) (.c (.int .i64 1)))⟩,
     ⟨(some 14), some undefA, none, false, .pu (.mov (.s 112))⟩]))))))
 (.seq (.ops [⟨(some 133), some undefA, none, false, .call 18 []⟩,
   ⟨(some 4), some undefA, none, false, .pu (.mov (.s 133))⟩])
 (.ret)))))))))))⟩
theorem t6 : trF Try.prog [2] [] Try.f6 = some m6 := by kernel_rfl

/-- selion/selionlaw07.WishWithouts [loop [1, 10, 11, 12, 13, 14, 15, 16, 17]] -/
def m7 : MFun := ⟨114, [2, 5, 6, 8], [.mov (.s 4)],
 .seq (.ops [⟨(some 2), some (.junk), none, false, .pu (.bnew (.s 0))⟩,
   ⟨(some 4), some undefA, none, false, .pu (.mov (.c (.bool false)))⟩])
 (.seq (.seq (.ops [⟨(some 18), some undefA, none, false, .pu (.bget none 2 0 2 true)⟩,
   ⟨(some 19), some undefA, none, false, .call 17 [(.s 18)]⟩])
 (.cond (.s 19) (.seq (.ops [⟨(some 20), some undefA, none, false, .call 18 []⟩,
    ⟨(some 4), some undefA, none, false, .pu (.mov (.s 20))⟩])
  (.ret))
 (.skip)))
 (.seq (.ops [⟨(some 21), some undefA, none, false, .pu (.bget none 2 0 2 true)⟩,
   ⟨(some 22), some undefA, none, false, .call 28 [(.s 21)]⟩,
   ⟨(some 5), some (.junk), none, false, .pu (.bnew (.c (.agg [.int .i64 0, .nilS])))⟩,
   ⟨(some 5), none, none, false, .pu (.bset none 5 0 2 (.s 22))⟩])
 (.seq (.ops [⟨(some 24), some undefA, none, false, .pu (.bget none 5 0 2 true)⟩,
   ⟨(some 25), some undefA, none, false, .pu (.mov (.s 1))⟩,
   ⟨(some 26), some undefA, none, false, .call 34 [(.s 24), (.s 25)]⟩,
   ⟨(some 23), some undefA, none, false, .pu (.mov (.s 26))⟩,
   ⟨(some 27), some undefA, none, false, .pu (.extr 0 (.s 23))⟩,
   ⟨(some 28), some undefA, none, false, .pu (.extr 1 (.s 23))⟩,
   ⟨(some 6), some (.junk), none, false, .pu (.bnew (.c (.agg [.int .i64 0, .nilS])))⟩,
   ⟨(some 6), none, none, false, .pu (.bset none 6 0 2 (.s 27))⟩,
   ⟨(some 7), some undefA, none, false, .pu (.mov (.s 28))⟩])
 (.seq (.ops [⟨(some 30), some undefA, none, false, .pu (.bget none 2 0 2 true)⟩,
   ⟨(some 31), some undefA, none, false, .pu (.mov (.s 1))⟩,
   ⟨(some 32), some undefA, none, false, .call 35 [(.s 30), (.s 31)]⟩,
   ⟨(some 29), some undefA, none, false, .pu (.mov (.s 32))⟩,
   ⟨(some 33), some undefA, none, false, .pu (.extr 0 (.s 29))⟩,
   ⟨(some 34), some undefA, none, false, .pu (.extr 1 (.s 29))⟩,
   ⟨(some 8), some (.junk), none, false, .pu (.bnew (.c (.agg [.int .i64 0, .nilS])))⟩,
   ⟨(some 8), none, none, false, .pu (.bset none 8 0 2 (.s 33))⟩,
   ⟨(some 9), some undefA, none, false, .pu (.mov (.s 34))⟩])
 (.seq (.seq (.ops [⟨(some 35), some undefA, none, false, .pu (.bget none 6 0 2 true)⟩,
   ⟨(some 36), some undefA, none, false, .pu (.bget none 8 0 2 true)⟩,
   ⟨(some 37), some undefA, none, false, .call 31 [(.s 35), (.s 36)]⟩,
   ⟨(some 38), some undefA, none, false, .pu (.not (.s 37))⟩,
   ⟨(some 39), some undefA, none, false, .pu (.mov (.s 38))⟩,
   ⟨(some 40), some undefA, (some (39, false)), false, .pu (.mov (.s 7))⟩,
   ⟨(some 41), some undefA, (some (39, false)), false, .pu (.mov (.s 9))⟩,
   ⟨(some 42), some undefA, (some (39, false)), false, .pu (.bin .neq (.s 40) (.s 41))⟩,
   ⟨(some 43), some undefA, none, false, .pu (.pick (.s 39) (.c (.bool true)) (.s 42))⟩,
   ⟨(some 44), some undefA, none, false, .pu (.mov (.s 43))⟩,
   ⟨(some 45), some undefA, (some (44, false)), false, .pu (.bget none 5 0 2 true)⟩,
   ⟨(some 46), some undefA, (some (44, false)), false, .pu (.bget none 2 0 2 true)⟩,
   ⟨(some 47), some undefA, (some (44, false)), false, .call 31 [(.s 45), (.s 46)]⟩,
   ⟨(some 48), some undefA, (some (44, false)), false, .pu (.not (.s 47))⟩,
   ⟨(some 49), some undefA, none, false, .pu (.pick (.s 44) (.c (.bool true)) (.s 48))⟩])
 (.cond (.s 49) (.seq (.ops [⟨(some 4), some undefA, none, false, .pu (.mov (.c (.bool false)))⟩])
  (.ret))
 (.skip)))
 (.seq (.seq (.ops [⟨(some 50), some undefA, none, false, .pu (.mov (.s 7))⟩,
   ⟨(some 51), some undefA, none, false, .pu (.bin .neq (.s 50) (.c (.int .i64 0)))⟩])
 (.cond (.s 51) (.seq (.ops [⟨(some 52), some undefA, none, false, .call 18 []⟩,
    ⟨(some 4), some undefA, none, false, .pu (.mov (.s 52))⟩])
  (.ret))
 (.skip)))
 (.seq (.ops [⟨(some 54), some undefA, none, false, .pu (.bget none 6 0 2 true)⟩,
   ⟨(some 55), some undefA, none, false, .call 24 [(.s 54)]⟩,
   ⟨(some 53), some undefA, none, false, .pu (.mov (.s 55))⟩,
   ⟨(some 56), some undefA, none, false, .pu (.extr 0 (.s 53))⟩,
   ⟨(some 57), some undefA, none, false, .pu (.extr 1 (.s 53))⟩,
   ⟨(some 10), some undefA, none, false, .pu (.mov (.s 56))⟩,
   ⟨(some 11), some undefA, none, false, .pu (.mov (.s 57))⟩])
 (.seq (.ops [⟨(some 59), some undefA, none, false, .pu (.bget none 2 0 2 true)⟩,
   ⟨(some 60), some undefA, none, false, .call 24 [(.s 59)]⟩,
   ⟨(some 58), some undefA, none, false, .pu (.mov (.s 60))⟩,
   ⟨(some 61), some undefA, none, false, .pu (.extr 0 (.s 58))⟩,
   ⟨(some 62), some undefA, none, false, .pu (.extr 1 (.s 58))⟩,
   ⟨(some 12), some undefA, none, false, .pu (.mov (.s 61))⟩,
   ⟨(some 13), some undefA, none, false, .pu (.mov (.s 62))⟩])
 (.seq (.ops [⟨(some 64), some undefA, none, false, .pu (.bget none 2 0 2 true)⟩,
   ⟨(some 65), some undefA, none, false, .call 21 [(.s 64)]⟩,
   ⟨(some 63), some undefA, none, false, .pu (.mov (.s 65))⟩,
   ⟨(some 66), some undefA, none, false, .pu (.extr 0 (.s 63))⟩,
   ⟨(some 67), some undefA, none, false, .pu (.extr 1 (.s 63))⟩,
   ⟨(some 14), some undefA, none, false, .pu (.mov (.s 66))⟩,
   ⟨(some 15), some undefA, none, false, .pu (.mov (.s 67))⟩])
 (.seq (.ops [⟨(some 16), some undefA, none, false, .pu (.mov (.c (.bool false)))⟩])
 (.seq (.seq (.ops [⟨(some 17), some undefA, none, false, .pu (.mov (.c (.int .i64 0)))⟩])
 (.block 0 (.loop (.seq (.seq (.ops [⟨(some 68), some undefA, none, false, .pu (.mov (.s 17))⟩,
     ⟨(some 69), some undefA, none, false, .pu (.mov (.s 14))⟩,
     ⟨(some 70), some undefA, none, false, .pu (.len (.s 69))⟩,
     ⟨(some 71), some undefA, none, false, .pu (.bin .lss (.s 68) (.s 70))⟩])
   (.cond (.s 71) (.skip)
   (.exit 0)))
   (.seq (.block 1 (.ops [⟨(some 74), some undefA, none, false, .pu (.mov (.s 16))⟩,
      ⟨(some 75), some undefA, none, false, .pu (.mov (.s 74))⟩,
      ⟨(some 76), some undefA, (some (75, false)), false, .pu (.mov (.s 14))⟩,
      ⟨(some 77), some undefA, (some (75, false)), false, .pu (.mov (.s 17))⟩,
      ⟨(some 78), some undefA, (some (75, false)), false, .pu (.idx 1 (.s 76) (.s 77))⟩,
      ⟨(some 79), some undefA, (some (75, false)), false, .ld (.ld 1 false (.s 78))⟩,
      ⟨(some 80), some undefA, (some (75, false)), false, .pu (.mov (.s 1))⟩,
      ⟨(some 81), some undefA, (some (75, false)), false, .pu (.bin .eql (.s 79) (.s 80))⟩,
      ⟨(some 82), some undefA, none, false, .pu (.pick (.s 75) (.c (.bool true)) (.s 81))⟩,
      ⟨(some 16), some undefA, none, false, .pu (.mov (.s 82))⟩]))
   (.ops [⟨(some 72), some undefA, none, false, .pu (.mov (.s 17))⟩,
     ⟨(some 73), some undefA, none, false, .pu (.bin .add (.s 72) (.c (.int .i64 1)))⟩,
     ⟨(some 17), some undefA, none, false, .pu (.mov (.s 73))⟩]))))))
 (.seq (.ops [⟨(some 83), some undefA, none, false, .pu (.mov (.s 11))⟩,
   ⟨(some 84), some undefA, none, false, .pu (.bin .eql (.s 83) (.c (.int .i64 0)))⟩,
   ⟨(some 85), some undefA, none, false, .pu (.mov (.s 84))⟩,
   ⟨(some 86), some undefA, (some (85, true)), false, .pu (.mov (.s 13))⟩,
   ⟨(some 87), some undefA, (some (85, true)), false, .pu (.bin .eql (.s 86) (.c (.int .i64 0)))⟩,
   ⟨(some 88), some undefA, none, false, .pu (.pick (.s 85) (.s 87) (.c (.bool false)))⟩,
   ⟨(some 89), some undefA, none, false, .pu (.mov (.s 88))⟩,
   ⟨(some 90), some undefA, (some (89, true)), false, .pu (.mov (.s 15))⟩,
   ⟨(some 91), some undefA, (some (89, true)), false, .pu (.bin .eql (.s 90) (.c (.int .i64 0)))⟩,
   ⟨(some 92), some undefA, none, false, .pu (.pick (.s 89) (.s 91) (.c (.bool false)))⟩,
   ⟨(some 93), some undefA, none, false, .pu (.mov (.s 92))⟩,
   ⟨(some 94), some undefA, (some (93, true)), false, .pu (.mov (.s 10))⟩,
   ⟨(some 95), some undefA, (some (93, true)), false, .pu (.mov (.s 12))⟩,
   ⟨(some 96), some undefA, (some (93, true)), false, .pu (.bin .sub (.s 95) (.c (.int .i64 1)))⟩,
   ⟨(some 97), some undefA, (some (93, true)), false, .pu (.bin .eql (.s 94) (.s 96))⟩,
   ⟨(some 98), some undefA, (some (93, true)), false, .pu (.mov (.s 97))⟩,
   ⟨(some 99), some undefA, (some (98, true)), false, .pu (.mov (.s 16))⟩,
   ⟨(some 100), some undefA, (some (93, true)), false, .pu (.pick (.s 98) (.s 99) (.c (.bool false)))⟩,
   ⟨(some 101), some undefA, (some (93, true)), false, .pu (.mov (.s 100))⟩,
   ⟨(some 102), some undefA, (some (101, false)), false, .pu (.mov (.s 10))⟩,
   ⟨(some 103), some undefA, (some (101, false)), false, .pu (.mov (.s 12))⟩,
   ⟨(some 104), some undefA, (some (101, false)), false, .pu (.bin .eql (.s 102) (.s 103))⟩,
   ⟨(some 105), some undefA, (some (101, false)), false, .pu (.mov (.s 104))⟩,
   ⟨(some 106), some undefA, (some (105, true)), false, .pu (.mov (.s 16))⟩,
   ⟨(some 107), some undefA, (some (105, true)), false, .pu (.not (.s 106))⟩,
   ⟨(some 108), some undefA, (some (101, false)), false, .pu (.pick (.s 105) (.s 107) (.c (.bool false)))⟩,
   ⟨(some 109), some undefA, (some (93, true)), false, .pu (.pick (.s 101) (.c (.bool true)) (.s 108))⟩,
   ⟨(some 110), some undefA, none, false, .pu (.pick (.s 93) (.s 109) (.c (.bool false)))⟩,
   ⟨(some 111), some undefA, none, false, .pu (.mov (.s 110))⟩,
   ⟨(some 112), some undefA, (some (111, true)), false, .call 18 []⟩,
   ⟨(some 113), some undefA, none, false, .pu (.pick (.s 111) (.s 112) (.c (.bool false)))⟩,
   ⟨(some 4), some undefA, none, false, .pu (.mov (.s 113))⟩])
 (.ret)))))))))))))⟩
theorem t7 : trF Try.prog [2, 5, 6, 8] [] Try.f7 = some m7 := by kernel_rfl

/-- selion/selionlaw07.WishBetter [loop [1, 5, 14]] -/
def m8 : MFun := ⟨98, [2], [.mov (.s 4)],
 .seq (.ops [⟨(some 2), some (.junk), none, false, .pu (.bnew (.s 0))⟩,
   ⟨(some 4), some undefA, none, false, .pu (.mov (.c (.bool false)))⟩])
 (.seq (.seq (.ops [⟨(some 15), some undefA, none, false, .pu (.bget none 2 0 2 true)⟩,
   ⟨(some 16), some undefA, none, false, .call 17 [(.s 15)]⟩,
   ⟨(some 17), some undefA, none, false, .pu (.mov (.s 16))⟩,
   ⟨(some 18), some undefA, (some (17, false)), false, .pu (.mov (.s 1))⟩,
   ⟨(some 19), some undefA, (some (17, false)), false, .call 32 [(.s 18)]⟩,
   ⟨(some 20), some undefA, none, false, .pu (.pick (.s 17) (.c (.bool true)) (.s 19))⟩])
 (.cond (.s 20) (.seq (.ops [⟨(some 21), some undefA, none, false, .call 18 []⟩,
    ⟨(some 4), some undefA, none, false, .pu (.mov (.s 21))⟩])
  (.ret))
 (.skip)))
 (.seq (.ops [⟨(some 23), some undefA, none, false, .pu (.bget none 2 0 2 true)⟩,
   ⟨(some 24), some undefA, none, false, .pu (.mov (.s 1))⟩,
   ⟨(some 25), some undefA, none, false, .call 36 [(.s 23), (.s 24)]⟩,
   ⟨(some 22), some undefA, none, false, .pu (.mov (.s 25))⟩,
   ⟨(some 26), some undefA, none, false, .pu (.extr 0 (.s 22))⟩,
   ⟨(some 27), some undefA, none, false, .pu (.extr 1 (.s 22))⟩,
   ⟨(some 28), some undefA, none, false, .pu (.extr 2 (.s 22))⟩,
   ⟨(some 5), some undefA, none, false, .pu (.mov (.s 26))⟩,
   ⟨(some 6), some undefA, none, false, .pu (.mov (.s 27))⟩,
   ⟨(some 7), some undefA, none, false, .pu (.mov (.s 28))⟩])
 (.seq (.ops [⟨(some 30), some undefA, none, false, .pu (.bget none 2 0 2 true)⟩,
   ⟨(some 31), some undefA, none, false, .pu (.mov (.s 1))⟩,
   ⟨(some 32), some undefA, none, false, .call 27 [(.s 30), (.s 31)]⟩,
   ⟨(some 29), some undefA, none, false, .pu (.mov (.s 32))⟩,
   ⟨(some 33), some undefA, none, false, .pu (.extr 0 (.s 29))⟩,
   ⟨(some 34), some undefA, none, false, .pu (.extr 1 (.s 29))⟩,
   ⟨(some 8), some undefA, none, false, .pu (.mov (.s 33))⟩,
   ⟨(some 9), some undefA, none, false, .pu (.mov (.s 34))⟩])
 (.seq (.ops [⟨(some 36), some undefA, none, false, .pu (.bget none 2 0 2 true)⟩,
   ⟨(some 37), some undefA, none, false, .call 25 [(.s 36)]⟩,
   ⟨(some 35), some undefA, none, false, .pu (.mov (.s 37))⟩,
   ⟨(some 38), some undefA, none, false, .pu (.extr 0 (.s 35))⟩,
   ⟨(some 39), some undefA, none, false, .pu (.extr 1 (.s 35))⟩,
   ⟨(some 10), some undefA, none, false, .pu (.mov (.s 38))⟩,
   ⟨(some 11), some undefA, none, false, .pu (.mov (.s 39))⟩])
 (.seq (.seq (.ops [⟨(some 40), some undefA, none, false, .pu (.mov (.s 7))⟩,
   ⟨(some 41), some undefA, none, false, .pu (.mov (.s 9))⟩,
   ⟨(some 42), some undefA, none, false, .pu (.bin .neq (.s 40) (.s 41))⟩,
   ⟨(some 43), some undefA, none, false, .pu (.mov (.s 42))⟩,
   ⟨(some 44), some undefA, (some (43, false)), false, .pu (.mov (.s 6))⟩,
   ⟨(some 45), some undefA, (some (43, false)), false, .pu (.mov (.s 9))⟩,
   ⟨(some 46), some undefA, (some (43, false)), false, .pu (.bin .eql (.s 45) (.c (.int .i64 0)))⟩,
   ⟨(some 47), some undefA, (some (43, false)), false, .pu (.mov (.s 46))⟩,
   ⟨(some 48), some undefA, (some (47, true)), false, .pu (.mov (.s 11))⟩,
   ⟨(some 49), some undefA, (some (47, true)), false, .pu (.bin .eql (.s 48) (.c (.int .i64 0)))⟩,
   ⟨(some 50), some undefA, (some (43, false)), false, .pu (.pick (.s 47) (.s 49) (.c (.bool false)))⟩,
   ⟨(some 51), some undefA, (some (43, false)), false, .pu (.mov (.s 50))⟩,
   ⟨(some 52), some undefA, (some (51, true)), false, .pu (.mov (.s 8))⟩,
   ⟨(some 53), some undefA, (some (51, true)), false, .pu (.mov (.s 10))⟩,
   ⟨(some 54), some undefA, (some (51, true)), false, .pu (.bin .lss (.s 52) (.s 53))⟩,
   ⟨(some 55), some undefA, (some (43, false)), false, .pu (.pick (.s 51) (.s 54) (.c (.bool false)))⟩,
   ⟨(some 56), some undefA, (some (43, false)), false, .pu (.eqb true (.s 44) (.s 55))⟩,
   ⟨(some 57), some undefA, none, false, .pu (.pick (.s 43) (.c (.bool true)) (.s 56))⟩])
 (.cond (.s 57) (.seq (.ops [⟨(some 4), some undefA, none, false, .pu (.mov (.c (.bool false)))⟩])
  (.ret))
 (.skip)))
 (.seq (.seq (.ops [⟨(some 58), some undefA, none, false, .pu (.mov (.s 6))⟩,
   ⟨(some 59), some undefA, none, false, .pu (.not (.s 58))⟩])
 (.cond (.s 59) (.seq (.ops [⟨(some 60), some undefA, none, false, .pu (.mov (.s 5))⟩,
    ⟨(some 61), some undefA, none, false, .pu (.len (.s 60))⟩,
    ⟨(some 62), some undefA, none, false, .pu (.bin .eql (.s 61) (.c (.int .i64 0)))⟩,
    ⟨(some 63), some undefA, none, false, .pu (.mov (.s 62))⟩,
    ⟨(some 64), some undefA, (some (63, true)), false, .call 18 []⟩,
    ⟨(some 65), some undefA, none, false, .pu (.pick (.s 63) (.s 64) (.c (.bool false)))⟩,
    ⟨(some 4), some undefA, none, false, .pu (.mov (.s 65))⟩])
  (.ret))
 (.skip)))
 (.seq (.ops [⟨(some 67), some undefA, none, false, .pu (.bget none 2 0 2 true)⟩,
   ⟨(some 68), some undefA, none, false, .pu (.mov (.s 5))⟩,
   ⟨(some 69), some undefA, none, false, .call 27 [(.s 67), (.s 68)]⟩,
   ⟨(some 66), some undefA, none, false, .pu (.mov (.s 69))⟩,
   ⟨(some 70), some undefA, none, false, .pu (.extr 0 (.s 66))⟩,
   ⟨(some 71), some undefA, none, false, .pu (.extr 1 (.s 66))⟩,
   ⟨(some 12), some undefA, none, false, .pu (.mov (.s 70))⟩,
   ⟨(some 13), some undefA, none, false, .pu (.mov (.s 71))⟩])
 (.seq (.seq (.ops [⟨(some 72), some undefA, none, false, .pu (.mov (.s 13))⟩,
   ⟨(some 73), some undefA, none, false, .pu (.bin .neq (.s 72) (.c (.int .i64 0)))⟩,
   ⟨(some 74), some undefA, none, false, .pu (.mov (.s 73))⟩,
   ⟨(some 75), some undefA, (some (74, false)), false, .pu (.mov (.s 12))⟩,
   ⟨(some 76), some undefA, (some (74, false)), false, .pu (.mov (.s 8))⟩,
   ⟨(some 77), some undefA, (some (74, false)), false, .pu (.bin .leq (.s 75) (.s 76))⟩,
   ⟨(some 78), some undefA, none, false, .pu (.pick (.s 74) (.c (.bool true)) (.s 77))⟩])
 (.cond (.s 78) (.seq (.ops [⟨(some 4), some undefA, none, false, .pu (.mov (.c (.bool false)))⟩])
  (.ret))
 (.skip)))
 (.seq (.seq (.ops [⟨(some 14), some undefA, none, false, .pu (.mov (.c (.int .i64 0)))⟩])
 (.block 0 (.loop (.seq (.seq (.ops [⟨(some 79), some undefA, none, false, .pu (.mov (.s 14))⟩,
     ⟨(some 80), some undefA, none, false, .pu (.mov (.s 1))⟩,
     ⟨(some 81), some undefA, none, false, .pu (.len (.s 80))⟩,
     ⟨(some 82), some undefA, none, false, .pu (.bin .lss (.s 79) (.s 81))⟩])
   (.cond (.s 82) (.skip)
   (.exit 0)))
   (.seq (.block 1 (.seq (.ops [⟨(some 85), some undefA, none, false, .pu (.mov (.s 1))⟩,
      ⟨(some 86), some undefA, none, false, .pu (.mov (.s 14))⟩,
      ⟨(some 87), some undefA, none, false, .pu (.idx 1 (.s 85) (.s 86))⟩,
      ⟨(some 88), some undefA, none, false, .ld (.ld 1 false (.s 87))⟩,
      ⟨(some 89), some undefA, none, false, .pu (.bin .geq (.s 88) (.c (.int .i64 0)))⟩,
      ⟨(some 90), some undefA, none, false, .pu (.mov (.s 89))⟩,
      ⟨(some 91), some undefA, (some (90, true)), false, .pu (.mov (.s 5))⟩,
      ⟨(some 92), some undefA, (some (90, true)), false, .pu (.mov (.s 14))⟩,
      ⟨(some 93), some undefA, (some (90, true)), false, .pu (.idx 1 (.s 91) (.s 92))⟩,
      ⟨(some 94), some undefA, (some (90, true)), false, .ld (.ld 1 false (.s 93))⟩,
      ⟨(some 95), some undefA, (some (90, true)), false, .pu (.bin .lss (.s 94) (.c (.int .i64 0)))⟩,
      ⟨(some 96), some undefA, none, false, .pu (.pick (.s 90) (.s 95) (.c (.bool false)))⟩])
    (.cond (.s 96) (.seq (.ops [⟨(some 4), some undefA, none, false, .pu (.mov (.c (.bool false)))⟩])
     (.ret))
    (.skip))))
   (.ops [⟨(some 83), some undefA, none, false, .pu (.mov (.s 14))⟩,
     ⟨(some 84), some undefA, none, false, .pu (.bin .add (.s 83) (.c (.int .i64 1)))⟩,
     ⟨(some 14), some undefA, none, false, .pu (.mov (.s 84))⟩]))))))
 (.seq (.ops [⟨(some 97), some undefA, none, false, .call 18 []⟩,
   ⟨(some 4), some undefA, none, false, .pu (.mov (.s 97))⟩])
 (.ret)))))))))))⟩
theorem t8 : trF Try.prog [2] [] Try.f8 = some m8 := by kernel_rfl

/-- selion/selionlaw07.WishGivings [] -/
def m9 : MFun := ⟨81, [2], [.mov (.s 4)],
 .seq (.ops [⟨(some 2), some (.junk), none, false, .pu (.bnew (.s 0))⟩,
   ⟨(some 4), some undefA, none, false, .pu (.mov (.c (.bool false)))⟩])
 (.seq (.seq (.ops [⟨(some 13), some undefA, none, false, .pu (.bget none 2 0 2 true)⟩,
   ⟨(some 14), some undefA, none, false, .call 17 [(.s 13)]⟩,
   ⟨(some 15), some undefA, none, false, .pu (.mov (.s 14))⟩,
   ⟨(some 16), some undefA, (some (15, false)), false, .pu (.mov (.s 1))⟩,
   ⟨(some 17), some undefA, (some (15, false)), false, .call 32 [(.s 16)]⟩,
   ⟨(some 18), some undefA, none, false, .pu (.pick (.s 15) (.c (.bool true)) (.s 17))⟩])
 (.cond (.s 18) (.seq (.ops [⟨(some 19), some undefA, none, false, .call 18 []⟩,
    ⟨(some 4), some undefA, none, false, .pu (.mov (.s 19))⟩])
  (.ret))
 (.skip)))
 (.seq (.ops [⟨(some 21), some undefA, none, false, .pu (.bget none 2 0 2 true)⟩,
   ⟨(some 22), some undefA, none, false, .pu (.mov (.s 1))⟩,
   ⟨(some 23), some undefA, none, false, .call 33 [(.s 21), (.s 22)]⟩,
   ⟨(some 20), some undefA, none, false, .pu (.mov (.s 23))⟩,
   ⟨(some 24), some undefA, none, false, .pu (.extr 0 (.s 20))⟩,
   ⟨(some 25), some undefA, none, false, .pu (.extr 1 (.s 20))⟩,
   ⟨(some 5), some undefA, none, false, .pu (.mov (.s 24))⟩,
   ⟨(some 6), some undefA, none, false, .pu (.mov (.s 25))⟩])
 (.seq (.ops [⟨(some 27), some undefA, none, false, .pu (.bget none 2 0 2 true)⟩,
   ⟨(some 28), some undefA, none, false, .pu (.mov (.s 1))⟩,
   ⟨(some 29), some undefA, none, false, .call 27 [(.s 27), (.s 28)]⟩,
   ⟨(some 26), some undefA, none, false, .pu (.mov (.s 29))⟩,
   ⟨(some 30), some undefA, none, false, .pu (.extr 0 (.s 26))⟩,
   ⟨(some 31), some undefA, none, false, .pu (.extr 1 (.s 26))⟩,
   ⟨(some 7), some undefA, none, false, .pu (.mov (.s 30))⟩,
   ⟨(some 8), some undefA, none, false, .pu (.mov (.s 31))⟩])
 (.seq (.ops [⟨(some 33), some undefA, none, false, .pu (.bget none 2 0 2 true)⟩,
   ⟨(some 34), some undefA, none, false, .pu (.mov (.s 1))⟩,
   ⟨(some 35), some undefA, none, false, .call 37 [(.s 33), (.s 34)]⟩,
   ⟨(some 32), some undefA, none, false, .pu (.mov (.s 35))⟩,
   ⟨(some 36), some undefA, none, false, .pu (.extr 0 (.s 32))⟩,
   ⟨(some 37), some undefA, none, false, .pu (.extr 1 (.s 32))⟩,
   ⟨(some 9), some undefA, none, false, .pu (.mov (.s 36))⟩,
   ⟨(some 10), some undefA, none, false, .pu (.mov (.s 37))⟩])
 (.seq (.ops [⟨(some 39), some undefA, none, false, .pu (.bget none 2 0 2 true)⟩,
   ⟨(some 40), some undefA, none, false, .pu (.mov (.s 1))⟩,
   ⟨(some 41), some undefA, none, false, .call 38 [(.s 39), (.s 40)]⟩,
   ⟨(some 38), some undefA, none, false, .pu (.mov (.s 41))⟩,
   ⟨(some 42), some undefA, none, false, .pu (.extr 0 (.s 38))⟩,
   ⟨(some 43), some undefA, none, false, .pu (.extr 1 (.s 38))⟩,
   ⟨(some 11), some undefA, none, false, .pu (.mov (.s 42))⟩,
   ⟨(some 12), some undefA, none, false, .pu (.mov (.s 43))⟩])
 (.seq (.seq (.ops [⟨(some 44), some undefA, none, false, .pu (.bget none 2 0 2 true)⟩,
   ⟨(some 45), some undefA, none, false, .call 39 [(.s 44)]⟩,
   ⟨(some 46), some undefA, none, false, .pu (.bget none 2 0 2 true)⟩,
   ⟨(some 47), some undefA, none, false, .call 40 [(.s 46)]⟩,
   ⟨(some 48), some undefA, none, false, .pu (.bin .neq (.s 45) (.s 47))⟩,
   ⟨(some 49), some undefA, none, false, .pu (.mov (.s 48))⟩,
   ⟨(some 50), some undefA, (some (49, false)), false, .pu (.mov (.s 5))⟩,
   ⟨(some 51), some undefA, (some (49, false)), false, .pu (.mov (.s 7))⟩,
   ⟨(some 52), some undefA, (some (49, false)), false, .pu (.bin .neq (.s 50) (.s 51))⟩,
   ⟨(some 53), some undefA, none, false, .pu (.pick (.s 49) (.c (.bool true)) (.s 52))⟩,
   ⟨(some 54), some undefA, none, false, .pu (.mov (.s 53))⟩,
   ⟨(some 55), some undefA, (some (54, false)), false, .pu (.mov (.s 6))⟩,
   ⟨(some 56), some undefA, (some (54, false)), false, .pu (.mov (.s 8))⟩,
   ⟨(some 57), some undefA, (some (54, false)), false, .pu (.bin .neq (.s 55) (.s 56))⟩,
   ⟨(some 58), some undefA, none, false, .pu (.pick (.s 54) (.c (.bool true)) (.s 57))⟩,
   ⟨(some 59), some undefA, none, false, .pu (.mov (.s 58))⟩,
   ⟨(some 60), some undefA, (some (59, false)), false, .pu (.mov (.s 9))⟩,
   ⟨(some 61), some undefA, (some (59, false)), false, .pu (.mov (.s 11))⟩,
   ⟨(some 62), some undefA, (some (59, false)), false, .call 23 [(.s 60), (.s 61)]⟩,
   ⟨(some 63), some undefA, (some (59, false)), false, .pu (.not (.s 62))⟩,
   ⟨(some 64), some undefA, none, false, .pu (.pick (.s 59) (.c (.bool true)) (.s 63))⟩,
   ⟨(some 65), some undefA, none, false, .pu (.mov (.s 64))⟩,
   ⟨(some 66), some undefA, (some (65, false)), false, .pu (.mov (.s 10))⟩,
   ⟨(some 67), some undefA, (some (65, false)), false, .pu (.mov (.s 12))⟩,
   ⟨(some 68), some undefA, (some (65, false)), false, .pu (.bin .neq (.s 66) (.s 67))⟩,
   ⟨(some 69), some undefA, none, false, .pu (.pick (.s 65) (.c (.bool true)) (.s 68))⟩])
 (.cond (.s 69) (.seq (.ops [⟨(some 4), some undefA, none, false, .pu (.mov (.c (.bool false)))⟩])
  (.ret))
 (.skip)))
 (.seq (.ops [⟨(some 70), some undefA, none, false, .pu (.mov (.s 6))⟩,
   ⟨(some 71), some undefA, none, false, .pu (.bin .neq (.s 70) (.c (.int .i64 0)))⟩,
   ⟨(some 72), some undefA, none, false, .pu (.mov (.s 71))⟩,
   ⟨(some 73), some undefA, (some (72, false)), false, .pu (.mov (.s 9))⟩,
   ⟨(some 74), some undefA, (some (72, false)), false, .call 41 [(.s 73)]⟩,
   ⟨(some 75), some undefA, (some (72, false)), false, .pu (.mov (.s 5))⟩,
   ⟨(some 76), some undefA, (some (72, false)), false, .pu (.bin .eql (.s 74) (.s 75))⟩,
   ⟨(some 77), some undefA, none, false, .pu (.pick (.s 72) (.c (.bool true)) (.s 76))⟩,
   ⟨(some 78), some undefA, none, false, .pu (.mov (.s 77))⟩,
   ⟨(some 79), some undefA, (some (78, true)), false, .call 18 []⟩,
   ⟨(some 80), some undefA, none, false, .pu (.pick (.s 78) (.s 79) (.c (.bool false)))⟩,
   ⟨(some 4), some undefA, none, false, .pu (.mov (.s 80))⟩])
 (.ret))))))))⟩
theorem t9 : trF Try.prog [2] [] Try.f9 = some m9 := by kernel_rfl

/-- selion/selionlaw07.WishLacks [] -/
def m10 : MFun := ⟨65, [2], [.mov (.s 4)],
 .seq (.ops [⟨(some 2), some (.junk), none, false, .pu (.bnew (.s 0))⟩,
   ⟨(some 4), some undefA, none, false, .pu (.mov (.c (.bool false)))⟩])
 (.seq (.seq (.ops [⟨(some 13), some undefA, none, false, .pu (.bget none 2 0 2 true)⟩,
   ⟨(some 14), some undefA, none, false, .call 17 [(.s 13)]⟩,
   ⟨(some 15), some undefA, none, false, .pu (.mov (.s 14))⟩,
   ⟨(some 16), some undefA, (some (15, false)), false, .pu (.mov (.s 1))⟩,
   ⟨(some 17), some undefA, (some (15, false)), false, .call 32 [(.s 16)]⟩,
   ⟨(some 18), some undefA, none, false, .pu (.pick (.s 15) (.c (.bool true)) (.s 17))⟩])
 (.cond (.s 18) (.seq (.ops [⟨(some 19), some undefA, none, false, .call 18 []⟩,
    ⟨(some 4), some undefA, none, false, .pu (.mov (.s 19))⟩])
  (.ret))
 (.skip)))
 (.seq (.ops [⟨(some 21), some undefA, none, false, .pu (.bget none 2 0 2 true)⟩,
   ⟨(some 22), some undefA, none, false, .pu (.mov (.s 1))⟩,
   ⟨(some 23), some undefA, none, false, .call 42 [(.s 21), (.s 22)]⟩,
   ⟨(some 20), some undefA, none, false, .pu (.mov (.s 23))⟩,
   ⟨(some 24), some undefA, none, false, .pu (.extr 0 (.s 20))⟩,
   ⟨(some 25), some undefA, none, false, .pu (.extr 1 (.s 20))⟩,
   ⟨(some 5), some undefA, none, false, .pu (.mov (.s 24))⟩,
   ⟨(some 6), some undefA, none, false, .pu (.mov (.s 25))⟩])
 (.seq (.ops [⟨(some 27), some undefA, none, false, .pu (.bget none 2 0 2 true)⟩,
   ⟨(some 28), some undefA, none, false, .pu (.mov (.s 1))⟩,
   ⟨(some 29), some undefA, none, false, .call 43 [(.s 27), (.s 28)]⟩,
   ⟨(some 26), some undefA, none, false, .pu (.mov (.s 29))⟩,
   ⟨(some 30), some undefA, none, false, .pu (.extr 0 (.s 26))⟩,
   ⟨(some 31), some undefA, none, false, .pu (.extr 1 (.s 26))⟩,
   ⟨(some 7), some undefA, none, false, .pu (.mov (.s 30))⟩,
   ⟨(some 8), some undefA, none, false, .pu (.mov (.s 31))⟩])
 (.seq (.ops [⟨(some 33), some undefA, none, false, .pu (.bget none 2 0 2 true)⟩,
   ⟨(some 34), some undefA, none, false, .pu (.mov (.s 1))⟩,
   ⟨(some 35), some undefA, none, false, .call 44 [(.s 33), (.s 34)]⟩,
   ⟨(some 32), some undefA, none, false, .pu (.mov (.s 35))⟩,
   ⟨(some 36), some undefA, none, false, .pu (.extr 0 (.s 32))⟩,
   ⟨(some 37), some undefA, none, false, .pu (.extr 1 (.s 32))⟩,
   ⟨(some 9), some undefA, none, false, .pu (.mov (.s 36))⟩,
   ⟨(some 10), some undefA, none, false, .pu (.mov (.s 37))⟩])
 (.seq (.ops [⟨(some 39), some undefA, none, false, .pu (.bget none 2 0 2 true)⟩,
   ⟨(some 40), some undefA, none, false, .pu (.mov (.s 1))⟩,
   ⟨(some 41), some undefA, none, false, .call 45 [(.s 39), (.s 40)]⟩,
   ⟨(some 38), some undefA, none, false, .pu (.mov (.s 41))⟩,
   ⟨(some 42), some undefA, none, false, .pu (.extr 0 (.s 38))⟩,
   ⟨(some 43), some undefA, none, false, .pu (.extr 1 (.s 38))⟩,
   ⟨(some 11), some undefA, none, false, .pu (.mov (.s 42))⟩,
   ⟨(some 12), some undefA, none, false, .pu (.mov (.s 43))⟩])
 (.seq (.ops [⟨(some 44), some undefA, none, false, .pu (.mov (.s 5))⟩,
   ⟨(some 45), some undefA, none, false, .pu (.mov (.s 7))⟩,
   ⟨(some 46), some undefA, none, false, .call 23 [(.s 44), (.s 45)]⟩,
   ⟨(some 47), some undefA, none, false, .pu (.mov (.s 46))⟩,
   ⟨(some 48), some undefA, (some (47, true)), false, .pu (.mov (.s 6))⟩,
   ⟨(some 49), some undefA, (some (47, true)), false, .pu (.mov (.s 8))⟩,
   ⟨(some 50), some undefA, (some (47, true)), false, .pu (.bin .eql (.s 48) (.s 49))⟩,
   ⟨(some 51), some undefA, none, false, .pu (.pick (.s 47) (.s 50) (.c (.bool false)))⟩,
   ⟨(some 52), some undefA, none, false, .pu (.mov (.s 51))⟩,
   ⟨(some 53), some undefA, (some (52, true)), false, .pu (.mov (.s 9))⟩,
   ⟨(some 54), some undefA, (some (52, true)), false, .pu (.mov (.s 11))⟩,
   ⟨(some 55), some undefA, (some (52, true)), false, .pu (.bin .eql (.s 53) (.s 54))⟩,
   ⟨(some 56), some undefA, none, false, .pu (.pick (.s 52) (.s 55) (.c (.bool false)))⟩,
   ⟨(some 57), some undefA, none, false, .pu (.mov (.s 56))⟩,
   ⟨(some 58), some undefA, (some (57, true)), false, .pu (.mov (.s 10))⟩,
   ⟨(some 59), some undefA, (some (57, true)), false, .pu (.mov (.s 12))⟩,
   ⟨(some 60), some undefA, (some (57, true)), false, .pu (.bin .eql (.s 58) (.s 59))⟩,
   ⟨(some 61), some undefA, none, false, .pu (.pick (.s 57) (.s 60) (.c (.bool false)))⟩,
   ⟨(some 62), some undefA, none, false, .pu (.mov (.s 61))⟩,
   ⟨(some 63), some undefA, (some (62, true)), false, .call 18 []⟩,
   ⟨(some 64), some undefA, none, false, .pu (.pick (.s 62) (.s 63) (.c (.bool false)))⟩,
   ⟨(some 4), some undefA, none, false, .pu (.mov (.s 64))⟩])
 (.ret)))))))⟩
theorem t10 : trF Try.prog [2] [] Try.f10 = some m10 := by kernel_rfl

/-- selion/selionlaw07.WishMeets [] -/
def m11 : MFun := ⟨57, [3, 5], [.mov (.s 6)],
 .seq (.ops [⟨(some 3), some (.junk), none, false, .pu (.bnew (.s 0))⟩,
   ⟨(some 5), some (.junk), none, false, .pu (.bnew (.s 2))⟩,
   ⟨(some 6), some undefA, none, false, .pu (.mov (.c (.bool false)))⟩])
 (.seq (.seq (.ops [⟨(some 11), some undefA, none, false, .pu (.bget none 3 0 2 true)⟩,
   ⟨(some 12), some undefA, none, false, .call 17 [(.s 11)]⟩,
   ⟨(some 13), some undefA, none, false, .pu (.mov (.s 12))⟩,
   ⟨(some 14), some undefA, (some (13, false)), false, .pu (.mov (.s 1))⟩,
   ⟨(some 15), some undefA, (some (13, false)), false, .call 32 [(.s 14)]⟩,
   ⟨(some 16), some undefA, none, false, .pu (.pick (.s 13) (.c (.bool true)) (.s 15))⟩,
   ⟨(some 17), some undefA, none, false, .pu (.mov (.s 16))⟩,
   ⟨(some 18), some undefA, (some (17, false)), false, .pu (.badr none 5)⟩,
   ⟨(some 19), some undefA, (some (17, false)), false, .pu (.bget (some 18) 5 0 1 false)⟩,
   ⟨(some 20), some undefA, (some (17, false)), false, .call 32 [(.s 19)]⟩,
   ⟨(some 21), some undefA, none, false, .pu (.pick (.s 17) (.c (.bool true)) (.s 20))⟩,
   ⟨(some 22), some undefA, none, false, .pu (.mov (.s 21))⟩,
   ⟨(some 23), some undefA, (some (22, false)), false, .pu (.badr none 5)⟩,
   ⟨(some 24), some undefA, (some (22, false)), false, .pu (.bget (some 23) 5 1 1 false)⟩,
   ⟨(some 25), some undefA, (some (22, false)), false, .call 32 [(.s 24)]⟩,
   ⟨(some 26), some undefA, none, false, .pu (.pick (.s 22) (.c (.bool true)) (.s 25))⟩])
 (.cond (.s 26) (.seq (.ops [⟨(some 27), some undefA, none, false, .call 18 []⟩,
    ⟨(some 6), some undefA, none, false, .pu (.mov (.s 27))⟩])
  (.ret))
 (.skip)))
 (.seq (.ops [⟨(some 29), some undefA, none, false, .pu (.bget none 3 0 2 true)⟩,
   ⟨(some 30), some undefA, none, false, .pu (.mov (.s 1))⟩,
   ⟨(some 31), some undefA, none, false, .call 33 [(.s 29), (.s 30)]⟩,
   ⟨(some 28), some undefA, none, false, .pu (.mov (.s 31))⟩,
   ⟨(some 32), some undefA, none, false, .pu (.extr 0 (.s 28))⟩,
   ⟨(some 33), some undefA, none, false, .pu (.extr 1 (.s 28))⟩,
   ⟨(some 7), some undefA, none, false, .pu (.mov (.s 32))⟩,
   ⟨(some 8), some undefA, none, false, .pu (.mov (.s 33))⟩])
 (.seq (.ops [⟨(some 35), some undefA, none, false, .pu (.bget none 3 0 2 true)⟩,
   ⟨(some 36), some undefA, none, false, .pu (.badr none 5)⟩,
   ⟨(some 37), some undefA, none, false, .pu (.bget (some 36) 5 0 1 false)⟩,
   ⟨(some 38), some undefA, none, false, .pu (.badr none 5)⟩,
   ⟨(some 39), some undefA, none, false, .pu (.bget (some 38) 5 1 1 false)⟩,
   ⟨(some 40), some undefA, none, false, .call 46 [(.s 35), (.s 37), (.s 39)]⟩,
   ⟨(some 34), some undefA, none, false, .pu (.mov (.s 40))⟩,
   ⟨(some 41), some undefA, none, false, .pu (.extr 0 (.s 34))⟩,
   ⟨(some 42), some undefA, none, false, .pu (.extr 1 (.s 34))⟩,
   ⟨(some 9), some undefA, none, false, .pu (.mov (.s 41))⟩,
   ⟨(some 10), some undefA, none, false, .pu (.mov (.s 42))⟩])
 (.seq (.ops [⟨(some 43), some undefA, none, false, .pu (.mov (.s 8))⟩,
   ⟨(some 44), some undefA, none, false, .pu (.bin .neq (.s 43) (.c (.int .i64 0)))⟩,
   ⟨(some 45), some undefA, none, false, .pu (.mov (.s 44))⟩,
   ⟨(some 46), some undefA, (some (45, false)), false, .pu (.mov (.s 10))⟩,
   ⟨(some 47), some undefA, (some (45, false)), false, .pu (.bin .neq (.s 46) (.c (.int .i64 0)))⟩,
   ⟨(some 48), some undefA, none, false, .pu (.pick (.s 45) (.c (.bool true)) (.s 47))⟩,
   ⟨(some 49), some undefA, none, false, .pu (.mov (.s 48))⟩,
   ⟨(some 50), some undefA, (some (49, false)), false, .pu (.mov (.s 7))⟩,
   ⟨(some 51), some undefA, (some (49, false)), false, .pu (.mov (.s 9))⟩,
   ⟨(some 52), some undefA, (some (49, false)), false, .pu (.bin .leq (.s 50) (.s 51))⟩,
   ⟨(some 53), some undefA, none, false, .pu (.pick (.s 49) (.c (.bool true)) (.s 52))⟩,
   ⟨(some 54), some undefA, none, false, .pu (.mov (.s 53))⟩,
   ⟨(some 55), some undefA, (some (54, true)), false, .call 18 []⟩,
   ⟨(some 56), some undefA, none, false, .pu (.pick (.s 54) (.s 55) (.c (.bool false)))⟩,
   ⟨(some 6), some undefA, none, false, .pu (.mov (.s 56))⟩])
 (.ret)))))⟩
theorem t11 : trF Try.prog [3, 5] [] Try.f11 = some m11 := by kernel_rfl

/-- selion/selionlaw07.WishShorts [] -/
def m12 : MFun := ⟨76, [2], [.mov (.s 4)],
 .seq (.ops [⟨(some 2), some (.junk), none, false, .pu (.bnew (.s 0))⟩,
   ⟨(some 4), some undefA, none, false, .pu (.mov (.c (.bool false)))⟩])
 (.seq (.seq (.ops [⟨(some 13), some undefA, none, false, .pu (.bget none 2 0 2 true)⟩,
   ⟨(some 14), some undefA, none, false, .call 17 [(.s 13)]⟩,
   ⟨(some 15), some undefA, none, false, .pu (.mov (.s 14))⟩,
   ⟨(some 16), some undefA, (some (15, false)), false, .pu (.mov (.s 1))⟩,
   ⟨(some 17), some undefA, (some (15, false)), false, .call 32 [(.s 16)]⟩,
   ⟨(some 18), some undefA, none, false, .pu (.pick (.s 15) (.c (.bool true)) (.s 17))⟩])
 (.cond (.s 18) (.seq (.ops [⟨(some 19), some undefA, none, false, .call 18 []⟩,
    ⟨(some 4), some undefA, none, false, .pu (.mov (.s 19))⟩])
  (.ret))
 (.skip)))
 (.seq (.ops [⟨(some 21), some undefA, none, false, .pu (.bget none 2 0 2 true)⟩,
   ⟨(some 22), some undefA, none, false, .call 47 [(.s 21)]⟩,
   ⟨(some 20), some undefA, none, false, .pu (.mov (.s 22))⟩,
   ⟨(some 23), some undefA, none, false, .pu (.extr 0 (.s 20))⟩,
   ⟨(some 24), some undefA, none, false, .pu (.extr 1 (.s 20))⟩,
   ⟨(some 5), some undefA, none, false, .pu (.mov (.s 23))⟩,
   ⟨(some 6), some undefA, none, false, .pu (.mov (.s 24))⟩])
 (.seq (.ops [⟨(some 26), some undefA, none, false, .pu (.bget none 2 0 2 true)⟩,
   ⟨(some 27), some undefA, none, false, .call 25 [(.s 26)]⟩,
   ⟨(some 25), some undefA, none, false, .pu (.mov (.s 27))⟩,
   ⟨(some 28), some undefA, none, false, .pu (.extr 0 (.s 25))⟩,
   ⟨(some 29), some undefA, none, false, .pu (.extr 1 (.s 25))⟩,
   ⟨(some 7), some undefA, none, false, .pu (.mov (.s 28))⟩,
   ⟨(some 8), some undefA, none, false, .pu (.mov (.s 29))⟩])
 (.seq (.seq (.ops [⟨(some 30), some undefA, none, false, .pu (.mov (.s 6))⟩,
   ⟨(some 31), some undefA, none, false, .pu (.mov (.s 8))⟩,
   ⟨(some 32), some undefA, none, false, .pu (.bin .neq (.s 30) (.s 31))⟩])
 (.cond (.s 32) (.seq (.ops [⟨(some 4), some undefA, none, false, .pu (.mov (.c (.bool false)))⟩])
  (.ret))
 (.skip)))
 (.seq (.seq (.ops [⟨(some 33), some undefA, none, false, .pu (.mov (.s 6))⟩,
   ⟨(some 34), some undefA, none, false, .pu (.bin .neq (.s 33) (.c (.int .i64 0)))⟩])
 (.cond (.s 34) (.seq (.ops [⟨(some 35), some undefA, none, false, .pu (.mov (.s 5))⟩,
    ⟨(some 36), some undefA, none, false, .pu (.len (.s 35))⟩,
    ⟨(some 37), some undefA, none, false, .pu (.bin .eql (.s 36) (.c (.int .i64 0)))⟩,
    ⟨(some 38), some undefA, none, false, .pu (.mov (.s 37))⟩,
    ⟨(some 39), some undefA, (some (38, true)), false, .call 18 []⟩,
    ⟨(some 40), some undefA, none, false, .pu (.pick (.s 38) (.s 39) (.c (.bool false)))⟩,
    ⟨(some 4), some undefA, none, false, .pu (.mov (.s 40))⟩])
  (.ret))
 (.skip)))
 (.seq (.ops [⟨(some 42), some undefA, none, false, .pu (.bget none 2 0 2 true)⟩,
   ⟨(some 43), some undefA, none, false, .pu (.mov (.s 5))⟩,
   ⟨(some 44), some undefA, none, false, .call 45 [(.s 42), (.s 43)]⟩,
   ⟨(some 41), some undefA, none, false, .pu (.mov (.s 44))⟩,
   ⟨(some 45), some undefA, none, false, .pu (.extr 0 (.s 41))⟩,
   ⟨(some 46), some undefA, none, false, .pu (.extr 1 (.s 41))⟩,
   ⟨(some 9), some undefA, none, false, .pu (.mov (.s 45))⟩,
   ⟨(some 10), some undefA, none, false, .pu (.mov (.s 46))⟩])
 (.seq (.ops [⟨(some 48), some undefA, none, false, .pu (.bget none 2 0 2 true)⟩,
   ⟨(some 49), some undefA, none, false, .pu (.mov (.s 1))⟩,
   ⟨(some 50), some undefA, none, false, .call 44 [(.s 48), (.s 49)]⟩,
   ⟨(some 47), some undefA, none, false, .pu (.mov (.s 50))⟩,
   ⟨(some 51), some undefA, none, false, .pu (.extr 0 (.s 47))⟩,
   ⟨(some 52), some undefA, none, false, .pu (.extr 1 (.s 47))⟩,
   ⟨(some 11), some undefA, none, false, .pu (.mov (.s 51))⟩,
   ⟨(some 12), some undefA, none, false, .pu (.mov (.s 52))⟩])
 (.seq (.ops [⟨(some 53), some undefA, none, false, .pu (.mov (.s 10))⟩,
   ⟨(some 54), some undefA, none, false, .pu (.bin .eql (.s 53) (.c (.int .i64 0)))⟩,
   ⟨(some 55), some undefA, none, false, .pu (.mov (.s 54))⟩,
   ⟨(some 56), some undefA, (some (55, true)), false, .pu (.mov (.s 9))⟩,
   ⟨(some 57), some undefA, (some (55, true)), false, .pu (.badr none 2)⟩,
   ⟨(some 58), some undefA, (some (55, true)), false, .pu (.bget (some 57) 2 1 1 false)⟩,
   ⟨(some 59), some undefA, (some (55, true)), false, .pu (.len (.s 58))⟩,
   ⟨(some 60), some undefA, (some (55, true)), false, .pu (.mov (.s 7))⟩,
   ⟨(some 61), some undefA, (some (55, true)), false, .pu (.bin .sub (.s 59) (.s 60))⟩,
   ⟨(some 62), some undefA, (some (55, true)), false, .pu (.bin .eql (.s 56) (.s 61))⟩,
   ⟨(some 63), some undefA, none, false, .pu (.pick (.s 55) (.s 62) (.c (.bool false)))⟩,
   ⟨(some 64), some undefA, none, false, .pu (.mov (.s 63))⟩,
   ⟨(some 65), some undefA, (some (64, true)), false, .pu (.mov (.s 12))⟩,
   ⟨(some 66), some undefA, (some (64, true)), false, .pu (.bin .neq (.s 65) (.c (.int .i64 0)))⟩,
   ⟨(some 67), some undefA, (some (64, true)), false, .pu (.mov (.s 66))⟩,
   ⟨(some 68), some undefA, (some (67, false)), false, .pu (.mov (.s 11))⟩,
   ⟨(some 69), some undefA, (some (67, false)), false, .pu (.mov (.s 9))⟩,
   ⟨(some 70), some undefA, (some (67, false)), false, .pu (.bin .leq (.s 68) (.s 69))⟩,
   ⟨(some 71), some undefA, (some (64, true)), false, .pu (.pick (.s 67) (.c (.bool true)) (.s 70))⟩,
   ⟨(some 72), some undefA, none, false, .pu (.pick (.s 64) (.s 71) (.c (.bool false)))⟩,
   ⟨(some 73), some undefA, none, false, .pu (.mov (.s 72))⟩,
   ⟨(some 74), some undefA, (some (73, true)), false, .call 18 []⟩,
   ⟨(some 75), some undefA, none, false, .pu (.pick (.s 73) (.s 74) (.c (.bool false)))⟩,
   ⟨(some 4), some undefA, none, false, .pu (.mov (.s 75))⟩])
 (.ret)))))))))⟩
theorem t12 : trF Try.prog [2] [] Try.f12 = some m12 := by kernel_rfl

/-- selion/selionlaw07.WishHappiest [] -/
def m13 : MFun := ⟨77, [1], [.mov (.s 2)],
 .seq (.ops [⟨(some 1), some (.junk), none, false, .pu (.bnew (.s 0))⟩,
   ⟨(some 2), some undefA, none, false, .pu (.mov (.c (.bool false)))⟩])
 (.seq (.seq (.ops [⟨(some 13), some undefA, none, false, .pu (.bget none 1 0 2 true)⟩,
   ⟨(some 14), some undefA, none, false, .call 17 [(.s 13)]⟩])
 (.cond (.s 14) (.seq (.ops [⟨(some 15), some undefA, none, false, .call 18 []⟩,
    ⟨(some 2), some undefA, none, false, .pu (.mov (.s 15))⟩])
  (.ret))
 (.skip)))
 (.seq (.ops [⟨(some 17), some undefA, none, false, .pu (.bget none 1 0 2 true)⟩,
   ⟨(some 18), some undefA, none, false, .call 48 [(.s 17)]⟩,
   ⟨(some 16), some undefA, none, false, .pu (.mov (.s 18))⟩,
   ⟨(some 19), some undefA, none, false, .pu (.extr 0 (.s 16))⟩,
   ⟨(some 20), some undefA, none, false, .pu (.extr 1 (.s 16))⟩,
   ⟨(some 3), some undefA, none, false, .pu (.mov (.s 19))⟩,
   ⟨(some 4), some undefA, none, false, .pu (.mov (.s 20))⟩])
 (.seq (.ops [⟨(some 22), some undefA, none, false, .pu (.bget none 1 0 2 true)⟩,
   ⟨(some 23), some undefA, none, false, .call 49 [(.s 22)]⟩,
   ⟨(some 21), some undefA, none, false, .pu (.mov (.s 23))⟩,
   ⟨(some 24), some undefA, none, false, .pu (.extr 0 (.s 21))⟩,
   ⟨(some 25), some undefA, none, false, .pu (.extr 1 (.s 21))⟩,
   ⟨(some 5), some undefA, none, false, .pu (.mov (.s 24))⟩,
   ⟨(some 6), some undefA, none, false, .pu (.mov (.s 25))⟩])
 (.seq (.seq (.ops [⟨(some 26), some undefA, none, false, .pu (.mov (.s 4))⟩,
   ⟨(some 27), some undefA, none, false, .pu (.mov (.s 6))⟩,
   ⟨(some 28), some undefA, none, false, .pu (.bin .neq (.s 26) (.s 27))⟩])
 (.cond (.s 28) (.seq (.ops [⟨(some 2), some undefA, none, false, .pu (.mov (.c (.bool false)))⟩])
  (.ret))
 (.skip)))
 (.seq (.seq (.ops [⟨(some 29), some undefA, none, false, .pu (.mov (.s 4))⟩,
   ⟨(some 30), some undefA, none, false, .pu (.bin .neq (.s 29) (.c (.int .i64 0)))⟩])
 (.cond (.s 30) (.seq (.ops [⟨(some 31), some undefA, none, false, .pu (.mov (.s 3))⟩,
    ⟨(some 32), some undefA, none, false, .pu (.len (.s 31))⟩,
    ⟨(some 33), some undefA, none, false, .pu (.bin .eql (.s 32) (.c (.int .i64 0)))⟩,
    ⟨(some 34), some undefA, none, false, .pu (.mov (.s 33))⟩,
    ⟨(some 35), some undefA, (some (34, true)), false, .call 18 []⟩,
    ⟨(some 36), some undefA, none, false, .pu (.pick (.s 34) (.s 35) (.c (.bool false)))⟩,
    ⟨(some 2), some undefA, none, false, .pu (.mov (.s 36))⟩])
  (.ret))
 (.skip)))
 (.seq (.ops [⟨(some 38), some undefA, none, false, .pu (.bget none 1 0 2 true)⟩,
   ⟨(some 39), some undefA, none, false, .pu (.mov (.s 3))⟩,
   ⟨(some 40), some undefA, none, false, .call 27 [(.s 38), (.s 39)]⟩,
   ⟨(some 37), some undefA, none, false, .pu (.mov (.s 40))⟩,
   ⟨(some 41), some undefA, none, false, .pu (.extr 0 (.s 37))⟩,
   ⟨(some 42), some undefA, none, false, .pu (.extr 1 (.s 37))⟩,
   ⟨(some 7), some undefA, none, false, .pu (.mov (.s 41))⟩,
   ⟨(some 8), some undefA, none, false, .pu (.mov (.s 42))⟩])
 (.seq (.ops [⟨(some 44), some undefA, none, false, .pu (.bget none 1 0 2 true)⟩,
   ⟨(some 45), some undefA, none, false, .call 25 [(.s 44)]⟩,
   ⟨(some 43), some undefA, none, false, .pu (.mov (.s 45))⟩,
   ⟨(some 46), some undefA, none, false, .pu (.extr 0 (.s 43))⟩,
   ⟨(some 47), some undefA, none, false, .pu (.extr 1 (.s 43))⟩,
   ⟨(some 9), some undefA, none, false, .pu (.mov (.s 46))⟩,
   ⟨(some 10), some undefA, none, false, .pu (.mov (.s 47))⟩])
 (.seq (.ops [⟨(some 49), some undefA, none, false, .pu (.bget none 1 0 2 true)⟩,
   ⟨(some 50), some undefA, none, false, .pu (.mov (.s 3))⟩,
   ⟨(some 51), some undefA, none, false, .call 38 [(.s 49), (.s 50)]⟩,
   ⟨(some 48), some undefA, none, false, .pu (.mov (.s 51))⟩,
   ⟨(some 52), some undefA, none, false, .pu (.extr 0 (.s 48))⟩,
   ⟨(some 53), some undefA, none, false, .pu (.extr 1 (.s 48))⟩,
   ⟨(some 11), some undefA, none, false, .pu (.mov (.s 52))⟩,
   ⟨(some 12), some undefA, none, false, .pu (.mov (.s 53))⟩])
 (.seq (.ops [⟨(some 54), some undefA, none, false, .pu (.mov (.s 8))⟩,
   ⟨(some 55), some undefA, none, false, .pu (.bin .eql (.s 54) (.c (.int .i64 0)))⟩,
   ⟨(some 56), some undefA, none, false, .pu (.mov (.s 55))⟩,
   ⟨(some 57), some undefA, (some (56, true)), false, .pu (.mov (.s 10))⟩,
   ⟨(some 58), some undefA, (some (56, true)), false, .pu (.bin .eql (.s 57) (.c (.int .i64 0)))⟩,
   ⟨(some 59), some undefA, none, false, .pu (.pick (.s 56) (.s 58) (.c (.bool false)))⟩,
   ⟨(some 60), some undefA, none, false, .pu (.mov (.s 59))⟩,
   ⟨(some 61), some undefA, (some (60, true)), false, .pu (.mov (.s 7))⟩,
   ⟨(some 62), some undefA, (some (60, true)), false, .pu (.mov (.s 9))⟩,
   ⟨(some 63), some undefA, (some (60, true)), false, .pu (.bin .eql (.s 61) (.s 62))⟩,
   ⟨(some 64), some undefA, none, false, .pu (.pick (.s 60) (.s 63) (.c (.bool false)))⟩,
   ⟨(some 65), some undefA, none, false, .pu (.mov (.s 64))⟩,
   ⟨(some 66), some undefA, (some (65, true)), false, .pu (.mov (.s 12))⟩,
   ⟨(some 67), some undefA, (some (65, true)), false, .pu (.bin .eql (.s 66) (.c (.int .i64 0)))⟩,
   ⟨(some 68), some undefA, none, false, .pu (.pick (.s 65) (.s 67) (.c (.bool false)))⟩,
   ⟨(some 69), some undefA, none, false, .pu (.mov (.s 68))⟩,
   ⟨(some 70), some undefA, (some (69, true)), false, .pu (.mov (.s 11))⟩,
   ⟨(some 71), some undefA, (some (69, true)), false, .pu (.mov (.s 5))⟩,
   ⟨(some 72), some undefA, (some (69, true)), false, .call 23 [(.s 70), (.s 71)]⟩,
   ⟨(some 73), some undefA, none, false, .pu (.pick (.s 69) (.s 72) (.c (.bool false)))⟩,
   ⟨(some 74), some undefA, none, false, .pu (.mov (.s 73))⟩,
   ⟨(some 75), some undefA, (some (74, true)), false, .call 18 []⟩,
   ⟨(some 76), some undefA, none, false, .pu (.pick (.s 74) (.s 75) (.c (.bool false)))⟩,
   ⟨(some 2), some undefA, none, false, .pu (.mov (.s 76))⟩])
 (.ret))))))))))⟩
theorem t13 : trF Try.prog [1] [] Try.f13 = some m13 := by kernel_rfl

/-- selion/selionlaw07.WishCovers [] -/
def m14 : MFun := ⟨106, [3], [.mov (.s 6)],
 .seq (.ops [⟨(some 3), some (.junk), none, false, .pu (.bnew (.s 0))⟩,
   ⟨(some 6), some undefA, none, false, .pu (.mov (.c (.bool false)))⟩])
 (.seq (.seq (.ops [⟨(some 18), some undefA, none, false, .pu (.bget none 3 0 2 true)⟩,
   ⟨(some 19), some undefA, none, false, .call 17 [(.s 18)]⟩,
   ⟨(some 20), some undefA, none, false, .pu (.mov (.s 19))⟩,
   ⟨(some 21), some undefA, (some (20, false)), false, .pu (.mov (.s 1))⟩,
   ⟨(some 22), some undefA, (some (20, false)), false, .call 32 [(.s 21)]⟩,
   ⟨(some 23), some undefA, none, false, .pu (.pick (.s 20) (.c (.bool true)) (.s 22))⟩,
   ⟨(some 24), some undefA, none, false, .pu (.mov (.s 23))⟩,
   ⟨(some 25), some undefA, (some (24, false)), false, .pu (.mov (.s 2))⟩,
   ⟨(some 26), some undefA, (some (24, false)), false, .call 32 [(.s 25)]⟩,
   ⟨(some 27), some undefA, none, false, .pu (.pick (.s 24) (.c (.bool true)) (.s 26))⟩])
 (.cond (.s 27) (.seq (.ops [⟨(some 28), some undefA, none, false, .call 18 []⟩,
    ⟨(some 6), some undefA, none, false, .pu (.mov (.s 28))⟩])
  (.ret))
 (.skip)))
 (.seq (.ops [⟨(some 30), some undefA, none, false, .pu (.bget none 3 0 2 true)⟩,
   ⟨(some 31), some undefA, none, false, .pu (.mov (.s 1))⟩,
   ⟨(some 32), some undefA, none, false, .pu (.mov (.s 2))⟩,
   ⟨(some 33), some undefA, none, false, .call 46 [(.s 30), (.s 31), (.s 32)]⟩,
   ⟨(some 29), some undefA, none, false, .pu (.mov (.s 33))⟩,
   ⟨(some 34), some undefA, none, false, .pu (.extr 0 (.s 29))⟩,
   ⟨(some 35), some undefA, none, false, .pu (.extr 1 (.s 29))⟩,
   ⟨(some 7), some undefA, none, false, .pu (.mov (.s 34))⟩,
   ⟨(some 8), some undefA, none, false, .pu (.mov (.s 35))⟩])
 (.seq (.ops [⟨(some 37), some undefA, none, false, .pu (.bget none 3 0 2 true)⟩,
   ⟨(some 38), some undefA, none, false, .pu (.mov (.s 1))⟩,
   ⟨(some 39), some undefA, none, false, .pu (.mov (.s 2))⟩,
   ⟨(some 40), some undefA, none, false, .call 50 [(.s 37), (.s 38), (.s 39)]⟩,
   ⟨(some 36), some undefA, none, false, .pu (.mov (.s 40))⟩,
   ⟨(some 41), some undefA, none, false, .pu (.extr 0 (.s 36))⟩,
   ⟨(some 42), some undefA, none, false, .pu (.extr 1 (.s 36))⟩,
   ⟨(some 9), some undefA, none, false, .pu (.mov (.s 41))⟩,
   ⟨(some 10), some undefA, none, false, .pu (.mov (.s 42))⟩])
 (.seq (.ops [⟨(some 44), some undefA, none, false, .pu (.bget none 3 0 2 true)⟩,
   ⟨(some 45), some undefA, none, false, .call 51 [(.s 44)]⟩,
   ⟨(some 43), some undefA, none, false, .pu (.mov (.s 45))⟩,
   ⟨(some 46), some undefA, none, false, .pu (.extr 0 (.s 43))⟩,
   ⟨(some 47), some undefA, none, false, .pu (.extr 1 (.s 43))⟩,
   ⟨(some 48), some undefA, none, false, .pu (.extr 2 (.s 43))⟩,
   ⟨(some 11), some undefA, none, false, .pu (.mov (.s 46))⟩,
   ⟨(some 12), some undefA, none, false, .pu (.mov (.s 47))⟩,
   ⟨(some 13), some undefA, none, false, .pu (.mov (.s 48))⟩])
 (.seq (.ops [⟨(some 50), some undefA, none, false, .pu (.bget none 3 0 2 true)⟩,
   ⟨(some 51), some undefA, none, false, .call 25 [(.s 50)]⟩,
   ⟨(some 49), some undefA, none, false, .pu (.mov (.s 51))⟩,
   ⟨(some 52), some undefA, none, false, .pu (.extr 0 (.s 49))⟩,
   ⟨(some 53), some undefA, none, false, .pu (.extr 1 (.s 49))⟩,
   ⟨(some 14), some undefA, none, false, .pu (.mov (.s 52))⟩,
   ⟨(some 15), some undefA, none, false, .pu (.mov (.s 53))⟩])
 (.seq (.seq (.ops [⟨(some 54), some undefA, none, false, .pu (.mov (.s 7))⟩,
   ⟨(some 55), some undefA, none, false, .pu (.mov (.s 9))⟩,
   ⟨(some 56), some undefA, none, false, .pu (.bin .neq (.s 54) (.s 55))⟩,
   ⟨(some 57), some undefA, none, false, .pu (.mov (.s 56))⟩,
   ⟨(some 58), some undefA, (some (57, false)), false, .pu (.mov (.s 8))⟩,
   ⟨(some 59), some undefA, (some (57, false)), false, .pu (.mov (.s 10))⟩,
   ⟨(some 60), some undefA, (some (57, false)), false, .pu (.bin .neq (.s 58) (.s 59))⟩,
   ⟨(some 61), some undefA, none, false, .pu (.pick (.s 57) (.c (.bool true)) (.s 60))⟩,
   ⟨(some 62), some undefA, none, false, .pu (.mov (.s 61))⟩,
   ⟨(some 63), some undefA, (some (62, false)), false, .pu (.mov (.s 13))⟩,
   ⟨(some 64), some undefA, (some (62, false)), false, .pu (.mov (.s 15))⟩,
   ⟨(some 65), some undefA, (some (62, false)), false, .pu (.bin .neq (.s 63) (.s 64))⟩,
   ⟨(some 66), some undefA, none, false, .pu (.pick (.s 62) (.c (.bool true)) (.s 65))⟩])
 (.cond (.s 66) (.seq (.ops [⟨(some 6), some undefA, none, false, .pu (.mov (.c (.bool false)))⟩])
  (.ret))
 (.skip)))
 (.seq (.seq (.ops [⟨(some 67), some undefA, none, false, .pu (.mov (.s 13))⟩,
   ⟨(some 68), some undefA, none, false, .pu (.bin .neq (.s 67) (.c (.int .i64 0)))⟩])
 (.cond (.s 68) (.seq (.ops [⟨(some 69), some undefA, none, false, .pu (.mov (.s 11))⟩,
    ⟨(some 70), some undefA, none, false, .pu (.len (.s 69))⟩,
    ⟨(some 71), some undefA, none, false, .pu (.bin .eql (.s 70) (.c (.int .i64 0)))⟩,
    ⟨(some 72), some undefA, none, false, .pu (.mov (.s 71))⟩,
    ⟨(some 73), some undefA, (some (72, true)), false, .pu (.mov (.s 12))⟩,
    ⟨(some 74), some undefA, (some (72, true)), false, .pu (.len (.s 73))⟩,
    ⟨(some 75), some undefA, (some (72, true)), false, .pu (.bin .eql (.s 74) (.c (.int .i64 0)))⟩,
    ⟨(some 76), some undefA, none, false, .pu (.pick (.s 72) (.s 75) (.c (.bool false)))⟩,
    ⟨(some 77), some undefA, none, false, .pu (.mov (.s 76))⟩,
    ⟨(some 78), some undefA, (some (77, true)), false, .call 18 []⟩,
    ⟨(some 79), some undefA, none, false, .pu (.pick (.s 77) (.s 78) (.c (.bool false)))⟩,
    ⟨(some 6), some undefA, none, false, .pu (.mov (.s 79))⟩])
  (.ret))
 (.skip)))
 (.seq (.ops [⟨(some 81), some undefA, none, false, .pu (.bget none 3 0 2 true)⟩,
   ⟨(some 82), some undefA, none, false, .pu (.mov (.s 11))⟩,
   ⟨(some 83), some undefA, none, false, .pu (.mov (.s 12))⟩,
   ⟨(some 84), some undefA, none, false, .call 50 [(.s 81), (.s 82), (.s 83)]⟩,
   ⟨(some 80), some undefA, none, false, .pu (.mov (.s 84))⟩,
   ⟨(some 85), some undefA, none, false, .pu (.extr 0 (.s 80))⟩,
   ⟨(some 86), some undefA, none, false, .pu (.extr 1 (.s 80))⟩,
   ⟨(some 16), some undefA, none, false, .pu (.mov (.s 85))⟩,
   ⟨(some 17), some undefA, none, false, .pu (.mov (.s 86))⟩])
 (.seq (.ops [⟨(some 87), some undefA, none, false, .pu (.mov (.s 17))⟩,
   ⟨(some 88), some undefA, none, false, .pu (.bin .eql (.s 87) (.c (.int .i64 0)))⟩,
   ⟨(some 89), some undefA, none, false, .pu (.mov (.s 88))⟩,
   ⟨(some 90), some undefA, (some (89, true)), false, .pu (.mov (.s 16))⟩,
   ⟨(some 91), some undefA, (some (89, true)), false, .pu (.mov (.s 14))⟩,
   ⟨(some 92), some undefA, (some (89, true)), false, .pu (.bin .eql (.s 90) (.s 91))⟩,
   ⟨(some 93), some undefA, none, false, .pu (.pick (.s 89) (.s 92) (.c (.bool false)))⟩,
   ⟨(some 94), some undefA, none, false, .pu (.mov (.s 93))⟩,
   ⟨(some 95), some undefA, (some (94, true)), false, .pu (.mov (.s 8))⟩,
   ⟨(some 96), some undefA, (some (94, true)), false, .pu (.bin .neq (.s 95) (.c (.int .i64 0)))⟩,
   ⟨(some 97), some undefA, (some (94, true)), false, .pu (.mov (.s 96))⟩,
   ⟨(some 98), some undefA, (some (97, false)), false, .pu (.mov (.s 7))⟩,
   ⟨(some 99), some undefA, (some (97, false)), false, .pu (.mov (.s 14))⟩,
   ⟨(some 100), some undefA, (some (97, false)), false, .pu (.bin .geq (.s 98) (.s 99))⟩,
   ⟨(some 101), some undefA, (some (94, true)), false, .pu (.pick (.s 97) (.c (.bool true)) (.s 100))⟩,
   ⟨(some 102), some undefA, none, false, .pu (.pick (.s 94) (.s 101) (.c (.bool false)))⟩,
   ⟨(some 103), some undefA, none, false, .pu (.mov (.s 102))⟩,
   ⟨(some 104), some undefA, (some (103, true)), false, .call 18 []⟩,
   ⟨(some 105), some undefA, none, false, .pu (.pick (.s 103) (.s 104) (.c (.bool false)))⟩,
   ⟨(some 6), some undefA, none, false, .pu (.mov (.s 105))⟩])
 (.ret))))))))))⟩
theorem t14 : trF Try.prog [3] [] Try.f14 = some m14 := by kernel_rfl

/-- selion/selionlaw07.WishLines [] -/
def m15 : MFun := ⟨70, [2], [.mov (.s 4)],
 .seq (.ops [⟨(some 2), some (.junk), none, false, .pu (.bnew (.s 0))⟩,
   ⟨(some 4), some undefA, none, false, .pu (.mov (.c (.bool false)))⟩])
 (.seq (.seq (.ops [⟨(some 13), some undefA, none, false, .pu (.bget none 2 0 2 true)⟩,
   ⟨(some 14), some undefA, none, false, .call 17 [(.s 13)]⟩,
   ⟨(some 15), some undefA, none, false, .pu (.mov (.s 14))⟩,
   ⟨(some 16), some undefA, (some (15, false)), false, .pu (.mov (.s 1))⟩,
   ⟨(some 17), some undefA, (some (15, false)), false, .call 32 [(.s 16)]⟩,
   ⟨(some 18), some undefA, none, false, .pu (.pick (.s 15) (.c (.bool true)) (.s 17))⟩])
 (.cond (.s 18) (.seq (.ops [⟨(some 19), some undefA, none, false, .call 18 []⟩,
    ⟨(some 4), some undefA, none, false, .pu (.mov (.s 19))⟩])
  (.ret))
 (.skip)))
 (.seq (.ops [⟨(some 21), some undefA, none, false, .pu (.bget none 2 0 2 true)⟩,
   ⟨(some 22), some undefA, none, false, .pu (.mov (.s 1))⟩,
   ⟨(some 23), some undefA, none, false, .call 52 [(.s 21), (.s 22)]⟩,
   ⟨(some 20), some undefA, none, false, .pu (.mov (.s 23))⟩,
   ⟨(some 24), some undefA, none, false, .pu (.extr 0 (.s 20))⟩,
   ⟨(some 25), some undefA, none, false, .pu (.extr 1 (.s 20))⟩,
   ⟨(some 5), some undefA, none, false, .pu (.mov (.s 24))⟩,
   ⟨(some 6), some undefA, none, false, .pu (.mov (.s 25))⟩])
 (.seq (.ops [⟨(some 27), some undefA, none, false, .pu (.bget none 2 0 2 true)⟩,
   ⟨(some 28), some undefA, none, false, .pu (.mov (.s 1))⟩,
   ⟨(some 29), some undefA, none, false, .call 53 [(.s 27), (.s 28)]⟩,
   ⟨(some 26), some undefA, none, false, .pu (.mov (.s 29))⟩,
   ⟨(some 30), some undefA, none, false, .pu (.extr 0 (.s 26))⟩,
   ⟨(some 31), some undefA, none, false, .pu (.extr 1 (.s 26))⟩,
   ⟨(some 7), some undefA, none, false, .pu (.mov (.s 30))⟩,
   ⟨(some 8), some undefA, none, false, .pu (.mov (.s 31))⟩])
 (.seq (.seq (.ops [⟨(some 32), some undefA, none, false, .pu (.mov (.s 5))⟩,
   ⟨(some 33), some undefA, none, false, .pu (.mov (.s 7))⟩,
   ⟨(some 34), some undefA, none, false, .call 23 [(.s 32), (.s 33)]⟩,
   ⟨(some 35), some undefA, none, false, .pu (.not (.s 34))⟩,
   ⟨(some 36), some undefA, none, false, .pu (.mov (.s 35))⟩,
   ⟨(some 37), some undefA, (some (36, false)), false, .pu (.mov (.s 6))⟩,
   ⟨(some 38), some undefA, (some (36, false)), false, .pu (.mov (.s 8))⟩,
   ⟨(some 39), some undefA, (some (36, false)), false, .pu (.bin .neq (.s 37) (.s 38))⟩,
   ⟨(some 40), some undefA, none, false, .pu (.pick (.s 36) (.c (.bool true)) (.s 39))⟩])
 (.cond (.s 40) (.seq (.ops [⟨(some 4), some undefA, none, false, .pu (.mov (.c (.bool false)))⟩])
  (.ret))
 (.skip)))
 (.seq (.seq (.ops [⟨(some 41), some undefA, none, false, .pu (.mov (.s 6))⟩,
   ⟨(some 42), some undefA, none, false, .pu (.bin .neq (.s 41) (.c (.int .i64 0)))⟩])
 (.cond (.s 42) (.seq (.ops [⟨(some 43), some undefA, none, false, .call 18 []⟩,
    ⟨(some 4), some undefA, none, false, .pu (.mov (.s 43))⟩])
  (.ret))
 (.skip)))
 (.seq (.ops [⟨(some 45), some undefA, none, false, .pu (.bget none 2 0 2 true)⟩,
   ⟨(some 46), some undefA, none, false, .pu (.mov (.s 5))⟩,
   ⟨(some 47), some undefA, none, false, .call 33 [(.s 45), (.s 46)]⟩,
   ⟨(some 44), some undefA, none, false, .pu (.mov (.s 47))⟩,
   ⟨(some 48), some undefA, none, false, .pu (.extr 0 (.s 44))⟩,
   ⟨(some 49), some undefA, none, false, .pu (.extr 1 (.s 44))⟩,
   ⟨(some 9), some undefA, none, false, .pu (.mov (.s 48))⟩,
   ⟨(some 10), some undefA, none, false, .pu (.mov (.s 49))⟩])
 (.seq (.ops [⟨(some 51), some undefA, none, false, .pu (.bget none 2 0 2 true)⟩,
   ⟨(some 52), some undefA, none, false, .call 24 [(.s 51)]⟩,
   ⟨(some 50), some undefA, none, false, .pu (.mov (.s 52))⟩,
   ⟨(some 53), some undefA, none, false, .pu (.extr 0 (.s 50))⟩,
   ⟨(some 54), some undefA, none, false, .pu (.extr 1 (.s 50))⟩,
   ⟨(some 11), some undefA, none, false, .pu (.mov (.s 53))⟩,
   ⟨(some 12), some undefA, none, false, .pu (.mov (.s 54))⟩])
 (.seq (.ops [⟨(some 55), some undefA, none, false, .pu (.mov (.s 10))⟩,
   ⟨(some 56), some undefA, none, false, .pu (.bin .eql (.s 55) (.c (.int .i64 0)))⟩,
   ⟨(some 57), some undefA, none, false, .pu (.mov (.s 56))⟩,
   ⟨(some 58), some undefA, (some (57, true)), false, .pu (.mov (.s 12))⟩,
   ⟨(some 59), some undefA, (some (57, true)), false, .pu (.bin .eql (.s 58) (.c (.int .i64 0)))⟩,
   ⟨(some 60), some undefA, none, false, .pu (.pick (.s 57) (.s 59) (.c (.bool false)))⟩,
   ⟨(some 61), some undefA, none, false, .pu (.mov (.s 60))⟩,
   ⟨(some 62), some undefA, (some (61, true)), false, .pu (.mov (.s 9))⟩,
   ⟨(some 63), some undefA, (some (61, true)), false, .pu (.bin .mul (.c (.int .i64 2)) (.s 62))⟩,
   ⟨(some 64), some undefA, (some (61, true)), false, .pu (.mov (.s 11))⟩,
   ⟨(some 65), some undefA, (some (61, true)), false, .pu (.bin .geq (.s 63) (.s 64))⟩,
   ⟨(some 66), some undefA, none, false, .pu (.pick (.s 61) (.s 65) (.c (.bool false)))⟩,
   ⟨(some 67), some undefA, none, false, .pu (.mov (.s 66))⟩,
   ⟨(some 68), some undefA, (some (67, true)), false, .call 18 []⟩,
   ⟨(some 69), some undefA, none, false, .pu (.pick (.s 67) (.s 68) (.c (.bool false)))⟩,
   ⟨(some 4), some undefA, none, false, .pu (.mov (.s 69))⟩])
 (.ret)))))))))⟩
theorem t15 : trF Try.prog [2] [] Try.f15 = some m15 := by kernel_rfl

end Go.Proofs.Ytlmbobbefgcolaa
