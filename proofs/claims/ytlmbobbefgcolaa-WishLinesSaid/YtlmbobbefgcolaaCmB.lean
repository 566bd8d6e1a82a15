/- What the law's proof rests on, part 4: for all that is said in each line. No conditions. -/
import Derived.Test.YtlmbobbefgcolaaRows
import Derived.Shelf.SortM.Plain
import Derived.Shelf.SortM.SortNone
import Derived.Test.YtlmbobbefgcolaaCmA
namespace Go.Proofs.Ytlmbobbefgcolaa
open Go Go.Eng
/-- selion/selionlaw07.WishSures [] -/
def m3 : MFun := ⟨55, [1], [.mov (.s 2)],
 .seq (.ops [⟨(some 1), some (.junk), none, false, .pu (.bnew (.s 0))⟩,
   ⟨(some 2), some undefA, none, false, .pu (.mov (.c (.bool false)))⟩])
 (.seq (.seq (.ops [⟨(some 11), some undefA, none, false, .pu (.bget none 1 0 2 true)⟩,
   ⟨(some 12), some undefA, none, false, .call 17 [(.s 11)]⟩])
 (.cond (.s 12) (.seq (.ops [⟨(some 13), some undefA, none, false, .call 18 []⟩,
    ⟨(some 2), some undefA, none, false, .pu (.mov (.s 13))⟩])
  (.ret))
 (.skip)))
 (.seq (.ops [⟨(some 15), some undefA, none, false, .pu (.bget none 1 0 2 true)⟩,
   ⟨(some 16), some undefA, none, false, .call 19 [(.s 15)]⟩,
   ⟨(some 14), some undefA, none, false, .pu (.mov (.s 16))⟩,
   ⟨(some 17), some undefA, none, false, .pu (.extr 0 (.s 14))⟩,
   ⟨(some 18), some undefA, none, false, .pu (.extr 1 (.s 14))⟩,
   ⟨(some 3), some undefA, none, false, .pu (.mov (.s 17))⟩,
   ⟨(some 4), some undefA, none, false, .pu (.mov (.s 18))⟩])
 (.seq (.ops [⟨(some 20), some undefA, none, false, .pu (.bget none 1 0 2 true)⟩,
   ⟨(some 21), some undefA, none, false, .call 20 [(.s 20)]⟩,
   ⟨(some 19), some undefA, none, false, .pu (.mov (.s 21))⟩,
   ⟨(some 22), some undefA, none, false, .pu (.extr 0 (.s 19))⟩,
   ⟨(some 23), some undefA, none, false, .pu (.extr 1 (.s 19))⟩,
   ⟨(some 5), some undefA, none, false, .pu (.mov (.s 22))⟩,
   ⟨(some 6), some undefA, none, false, .pu (.mov (.s 23))⟩])
 (.seq (.ops [⟨(some 25), some undefA, none, false, .pu (.bget none 1 0 2 true)⟩,
   ⟨(some 26), some undefA, none, false, .call 21 [(.s 25)]⟩,
   ⟨(some 24), some undefA, none, false, .pu (.mov (.s 26))⟩,
   ⟨(some 27), some undefA, none, false, .pu (.extr 0 (.s 24))⟩,
   ⟨(some 28), some undefA, none, false, .pu (.extr 1 (.s 24))⟩,
   ⟨(some 7), some undefA, none, false, .pu (.mov (.s 27))⟩,
   ⟨(some 8), some undefA, none, false, .pu (.mov (.s 28))⟩])
 (.seq (.ops [⟨(some 30), some undefA, none, false, .pu (.bget none 1 0 2 true)⟩,
   ⟨(some 31), some undefA, none, false, .call 22 [(.s 30)]⟩,
   ⟨(some 29), some undefA, none, false, .pu (.mov (.s 31))⟩,
   ⟨(some 32), some undefA, none, false, .pu (.extr 0 (.s 29))⟩,
   ⟨(some 33), some undefA, none, false, .pu (.extr 1 (.s 29))⟩,
   ⟨(some 9), some undefA, none, false, .pu (.mov (.s 32))⟩,
   ⟨(some 10), some undefA, none, false, .pu (.mov (.s 33))⟩])
 (.seq (.ops [⟨(some 34), some undefA, none, false, .pu (.mov (.s 3))⟩,
   ⟨(some 35), some undefA, none, false, .pu (.mov (.s 5))⟩,
   ⟨(some 36), some undefA, none, false, .call 23 [(.s 34), (.s 35)]⟩,
   ⟨(some 37), some undefA, none, false, .pu (.mov (.s 36))⟩,
   ⟨(some 38), some undefA, (some (37, true)), false, .pu (.mov (.s 4))⟩,
   ⟨(some 39), some undefA, (some (37, true)), false, .pu (.mov (.s 6))⟩,
   ⟨(some 40), some undefA, (some (37, true)), false, .pu (.bin .eql (.s 38) (.s 39))⟩,
   ⟨(some 41), some undefA, none, false, .pu (.pick (.s 37) (.s 40) (.c (.bool false)))⟩,
   ⟨(some 42), some undefA, none, false, .pu (.mov (.s 41))⟩,
   ⟨(some 43), some undefA, (some (42, true)), false, .pu (.mov (.s 7))⟩,
   ⟨(some 44), some undefA, (some (42, true)), false, .pu (.mov (.s 9))⟩,
   ⟨(some 45), some undefA, (some (42, true)), false, .call 23 [(.s 43), (.s 44)]⟩,
   ⟨(some 46), some undefA, none, false, .pu (.pick (.s 42) (.s 45) (.c (.bool false)))⟩,
   ⟨(some 47), some undefA, none, false, .pu (.mov (.s 46))⟩,
   ⟨(some 48), some undefA, (some (47, true)), false, .pu (.mov (.s 8))⟩,
   ⟨(some 49), some undefA, (some (47, true)), false, .pu (.mov (.s 10))⟩,
   ⟨(some 50), some undefA, (some (47, true)), false, .pu (.bin .eql (.s 48) (.s 49))⟩,
   ⟨(some 51), some undefA, none, false, .pu (.pick (.s 47) (.s 50) (.c (.bool false)))⟩,
   ⟨(some 52), some undefA, none, false, .pu (.mov (.s 51))⟩,
   ⟨(some 53), some undefA, (some (52, true)), false, .call 18 []⟩,
   ⟨(some 54), some undefA, none, false, .pu (.pick (.s 52) (.s 53) (.c (.bool false)))⟩,
   ⟨(some 2), some undefA, none, false, .pu (.mov (.s 54))⟩])
 (.ret)))))))⟩
theorem t3 : trF Try.prog [1] [] Try.f3 = some m3 := by kernel_rfl
/-- selion/selionlaw07.WishMost [] -/
def m4 : MFun := ⟨66, [1], [.mov (.s 2)],
 .seq (.ops [⟨(some 1), some (.junk), none, false, .pu (.bnew (.s 0))⟩,
   ⟨(some 2), some undefA, none, false, .pu (.mov (.c (.bool false)))⟩])
 (.seq (.seq (.ops [⟨(some 11), some undefA, none, false, .pu (.bget none 1 0 2 true)⟩,
   ⟨(some 12), some undefA, none, false, .call 17 [(.s 11)]⟩])
 (.cond (.s 12) (.seq (.ops [⟨(some 13), some undefA, none, false, .call 18 []⟩,
    ⟨(some 2), some undefA, none, false, .pu (.mov (.s 13))⟩])
  (.ret))
 (.skip)))
 (.seq (.ops [⟨(some 15), some undefA, none, false, .pu (.bget none 1 0 2 true)⟩,
   ⟨(some 16), some undefA, none, false, .call 24 [(.s 15)]⟩,
   ⟨(some 14), some undefA, none, false, .pu (.mov (.s 16))⟩,
   ⟨(some 17), some undefA, none, false, .pu (.extr 0 (.s 14))⟩,
   ⟨(some 18), some undefA, none, false, .pu (.extr 1 (.s 14))⟩,
   ⟨(some 3), some undefA, none, false, .pu (.mov (.s 17))⟩,
   ⟨(some 4), some undefA, none, false, .pu (.mov (.s 18))⟩])
 (.seq (.ops [⟨(some 20), some undefA, none, false, .pu (.bget none 1 0 2 true)⟩,
   ⟨(some 21), some undefA, none, false, .call 25 [(.s 20)]⟩,
   ⟨(some 19), some undefA, none, false, .pu (.mov (.s 21))⟩,
   ⟨(some 22), some undefA, none, false, .pu (.extr 0 (.s 19))⟩,
   ⟨(some 23), some undefA, none, false, .pu (.extr 1 (.s 19))⟩,
   ⟨(some 5), some undefA, none, false, .pu (.mov (.s 22))⟩,
   ⟨(some 6), some undefA, none, false, .pu (.mov (.s 23))⟩])
 (.seq (.ops [⟨(some 25), some undefA, none, false, .pu (.bget none 1 0 2 true)⟩,
   ⟨(some 26), some undefA, none, false, .call 26 [(.s 25)]⟩,
   ⟨(some 24), some undefA, none, false, .pu (.mov (.s 26))⟩,
   ⟨(some 27), some undefA, none, false, .pu (.extr 0 (.s 24))⟩,
   ⟨(some 28), some undefA, none, false, .pu (.extr 1 (.s 24))⟩,
   ⟨(some 7), some undefA, none, false, .pu (.mov (.s 27))⟩,
   ⟨(some 8), some undefA, none, false, .pu (.mov (.s 28))⟩])
 (.seq (.seq (.ops [⟨(some 29), some undefA, none, false, .pu (.mov (.s 3))⟩,
   ⟨(some 30), some undefA, none, false, .pu (.mov (.s 5))⟩,
   ⟨(some 31), some undefA, none, false, .pu (.bin .neq (.s 29) (.s 30))⟩,
   ⟨(some 32), some undefA, none, false, .pu (.mov (.s 31))⟩,
   ⟨(some 33), some undefA, (some (32, false)), false, .pu (.mov (.s 4))⟩,
   ⟨(some 34), some undefA, (some (32, false)), false, .pu (.mov (.s 6))⟩,
   ⟨(some 35), some undefA, (some (32, false)), false, .pu (.bin .neq (.s 33) (.s 34))⟩,
   ⟨(some 36), some undefA, none, false, .pu (.pick (.s 32) (.c (.bool true)) (.s 35))⟩,
   ⟨(some 37), some undefA, none, false, .pu (.mov (.s 36))⟩,
   ⟨(some 38), some undefA, (some (37, false)), false, .pu (.mov (.s 8))⟩,
   ⟨(some 39), some undefA, (some (37, false)), false, .pu (.mov (.s 6))⟩,
   ⟨(some 40), some undefA, (some (37, false)), false, .pu (.bin .neq (.s 38) (.s 39))⟩,
   ⟨(some 41), some undefA, none, false, .pu (.pick (.s 37) (.c (.bool true)) (.s 40))⟩])
 (.cond (.s 41) (.seq (.ops [⟨(some 2), some undefA, none, false, .pu (.mov (.c (.bool false)))⟩])
  (.ret))
 (.skip)))
 (.seq (.seq (.ops [⟨(some 42), some undefA, none, false, .pu (.mov (.s 4))⟩,
   ⟨(some 43), some undefA, none, false, .pu (.bin .neq (.s 42) (.c (.int .i64 0)))⟩])
 (.cond (.s 43) (.seq (.ops [⟨(some 44), some undefA, none, false, .pu (.mov (.s 7))⟩,
    ⟨(some 45), some undefA, none, false, .pu (.len (.s 44))⟩,
    ⟨(some 46), some undefA, none, false, .pu (.bin .eql (.s 45) (.c (.int .i64 0)))⟩,
    ⟨(some 47), some undefA, none, false, .pu (.mov (.s 46))⟩,
    ⟨(some 48), some undefA, (some (47, true)), false, .call 18 []⟩,
    ⟨(some 49), some undefA, none, false, .pu (.pick (.s 47) (.s 48) (.c (.bool false)))⟩,
    ⟨(some 2), some undefA, none, false, .pu (.mov (.s 49))⟩])
  (.ret))
 (.skip)))
 (.seq (.ops [⟨(some 51), some undefA, none, false, .pu (.bget none 1 0 2 true)⟩,
   ⟨(some 52), some undefA, none, false, .pu (.mov (.s 7))⟩,
   ⟨(some 53), some undefA, none, false, .call 27 [(.s 51), (.s 52)]⟩,
   ⟨(some 50), some undefA, none, false, .pu (.mov (.s 53))⟩,
   ⟨(some 54), some undefA, none, false, .pu (.extr 0 (.s 50))⟩,
   ⟨(some 55), some undefA, none, false, .pu (.extr 1 (.s 50))⟩,
   ⟨(some 9), some undefA, none, false, .pu (.mov (.s 54))⟩,
   ⟨(some 10), some undefA, none, false, .pu (.mov (.s 55))⟩])
 (.seq (.ops [⟨(some 56), some undefA, none, false, .pu (.mov (.s 10))⟩,
   ⟨(some 57), some undefA, none, false, .pu (.bin .eql (.s 56) (.c (.int .i64 0)))⟩,
   ⟨(some 58), some undefA, none, false, .pu (.mov (.s 57))⟩,
   ⟨(some 59), some undefA, (some (58, true)), false, .pu (.mov (.s 9))⟩,
   ⟨(some 60), some undefA, (some (58, true)), false, .pu (.mov (.s 3))⟩,
   ⟨(some 61), some undefA, (some (58, true)), false, .pu (.bin .eql (.s 59) (.s 60))⟩,
   ⟨(some 62), some undefA, none, false, .pu (.pick (.s 58) (.s 61) (.c (.bool false)))⟩,
   ⟨(some 63), some undefA, none, false, .pu (.mov (.s 62))⟩,
   ⟨(some 64), some undefA, (some (63, true)), false, .call 18 []⟩,
   ⟨(some 65), some undefA, none, false, .pu (.pick (.s 63) (.s 64) (.c (.bool false)))⟩,
   ⟨(some 2), some undefA, none, false, .pu (.mov (.s 65))⟩])
 (.ret)))))))))⟩
theorem t4 : trF Try.prog [1] [] Try.f4 = some m4 := by kernel_rfl
/-- selion/selionlaw07.WishTurns [] -/
def m5 : MFun := ⟨69, [1, 3, 4, 6], [.mov (.s 2)],
 .seq (.ops [⟨(some 1), some (.junk), none, false, .pu (.bnew (.s 0))⟩,
   ⟨(some 2), some undefA, none, false, .pu (.mov (.c (.bool false)))⟩])
 (.seq (.seq (.ops [⟨(some 12), some undefA, none, false, .pu (.bget none 1 0 2 true)⟩,
   ⟨(some 13), some undefA, none, false, .call 17 [(.s 12)]⟩])
 (.cond (.s 13) (.seq (.ops [⟨(some 14), some undefA, none, false, .call 18 []⟩,
    ⟨(some 2), some undefA, none, false, .pu (.mov (.s 14))⟩])
  (.ret))
 (.skip)))
 (.seq (.ops [⟨(some 15), some undefA, none, false, .pu (.bget none 1 0 2 true)⟩,
   ⟨(some 16), some undefA, none, false, .call 28 [(.s 15)]⟩,
   ⟨(some 3), some (.junk), none, false, .pu (.bnew (.c (.agg [.int .i64 0, .nilS])))⟩,
   ⟨(some 3), none, none, false, .pu (.bset none 3 0 2 (.s 16))⟩])
 (.seq (.ops [⟨(some 18), some undefA, none, false, .pu (.bget none 3 0 2 true)⟩,
   ⟨(some 19), some undefA, none, false, .call 29 [(.s 18)]⟩,
   ⟨(some 17), some undefA, none, false, .pu (.mov (.s 19))⟩,
   ⟨(some 20), some undefA, none, false, .pu (.extr 0 (.s 17))⟩,
   ⟨(some 21), some undefA, none, false, .pu (.extr 1 (.s 17))⟩,
   ⟨(some 4), some (.junk), none, false, .pu (.bnew (.c (.agg [.int .i64 0, .nilS])))⟩,
   ⟨(some 4), none, none, false, .pu (.bset none 4 0 2 (.s 20))⟩,
   ⟨(some 5), some undefA, none, false, .pu (.mov (.s 21))⟩])
 (.seq (.ops [⟨(some 23), some undefA, none, false, .pu (.bget none 1 0 2 true)⟩,
   ⟨(some 24), some undefA, none, false, .call 30 [(.s 23)]⟩,
   ⟨(some 22), some undefA, none, false, .pu (.mov (.s 24))⟩,
   ⟨(some 25), some undefA, none, false, .pu (.extr 0 (.s 22))⟩,
   ⟨(some 26), some undefA, none, false, .pu (.extr 1 (.s 22))⟩,
   ⟨(some 6), some (.junk), none, false, .pu (.bnew (.c (.agg [.int .i64 0, .nilS])))⟩,
   ⟨(some 6), none, none, false, .pu (.bset none 6 0 2 (.s 25))⟩,
   ⟨(some 7), some undefA, none, false, .pu (.mov (.s 26))⟩])
 (.seq (.seq (.ops [⟨(some 27), some undefA, none, false, .pu (.bget none 4 0 2 true)⟩,
   ⟨(some 28), some undefA, none, false, .pu (.bget none 6 0 2 true)⟩,
   ⟨(some 29), some undefA, none, false, .call 31 [(.s 27), (.s 28)]⟩,
   ⟨(some 30), some undefA, none, false, .pu (.not (.s 29))⟩,
   ⟨(some 31), some undefA, none, false, .pu (.mov (.s 30))⟩,
   ⟨(some 32), some undefA, (some (31, false)), false, .pu (.mov (.s 5))⟩,
   ⟨(some 33), some undefA, (some (31, false)), false, .pu (.mov (.s 7))⟩,
   ⟨(some 34), some undefA, (some (31, false)), false, .pu (.bin .neq (.s 32) (.s 33))⟩,
   ⟨(some 35), some undefA, none, false, .pu (.pick (.s 31) (.c (.bool true)) (.s 34))⟩,
   ⟨(some 36), some undefA, none, false, .pu (.mov (.s 35))⟩,
   ⟨(some 37), some undefA, (some (36, false)), false, .pu (.bget none 3 0 2 true)⟩,
   ⟨(some 38), some undefA, (some (36, false)), false, .pu (.bget none 1 0 2 true)⟩,
   ⟨(some 39), some undefA, (some (36, false)), false, .call 31 [(.s 37), (.s 38)]⟩,
   ⟨(some 40), some undefA, (some (36, false)), false, .pu (.not (.s 39))⟩,
   ⟨(some 41), some undefA, none, false, .pu (.pick (.s 36) (.c (.bool true)) (.s 40))⟩])
 (.cond (.s 41) (.seq (.ops [⟨(some 2), some undefA, none, false, .pu (.mov (.c (.bool false)))⟩])
  (.ret))
 (.skip)))
 (.seq (.seq (.ops [⟨(some 42), some undefA, none, false, .pu (.mov (.s 5))⟩,
   ⟨(some 43), some undefA, none, false, .pu (.bin .neq (.s 42) (.c (.int .i64 0)))⟩])
 (.cond (.s 43) (.seq (.ops [⟨(some 44), some undefA, none, false, .call 18 []⟩,
    ⟨(some 2), some undefA, none, false, .pu (.mov (.s 44))⟩])
  (.ret))
 (.skip)))
 (.seq (.ops [⟨(some 46), some undefA, none, false, .pu (.bget none 4 0 2 true)⟩,
   ⟨(some 47), some undefA, none, false, .call 24 [(.s 46)]⟩,
   ⟨(some 45), some undefA, none, false, .pu (.mov (.s 47))⟩,
   ⟨(some 48), some undefA, none, false, .pu (.extr 0 (.s 45))⟩,
   ⟨(some 49), some undefA, none, false, .pu (.extr 1 (.s 45))⟩,
   ⟨(some 8), some undefA, none, false, .pu (.mov (.s 48))⟩,
   ⟨(some 9), some undefA, none, false, .pu (.mov (.s 49))⟩])
 (.seq (.ops [⟨(some 51), some undefA, none, false, .pu (.bget none 1 0 2 true)⟩,
   ⟨(some 52), some undefA, none, false, .call 24 [(.s 51)]⟩,
   ⟨(some 50), some undefA, none, false, .pu (.mov (.s 52))⟩,
   ⟨(some 53), some undefA, none, false, .pu (.extr 0 (.s 50))⟩,
   ⟨(some 54), some undefA, none, false, .pu (.extr 1 (.s 50))⟩,
   ⟨(some 10), some undefA, none, false, .pu (.mov (.s 53))⟩,
   ⟨(some 11), some undefA, none, false, .pu (.mov (.s 54))⟩])
 (.seq (.ops [⟨(some 55), some undefA, none, false, .pu (.mov (.s 9))⟩,
   ⟨(some 56), some undefA, none, false, .pu (.bin .eql (.s 55) (.c (.int .i64 0)))⟩,
   ⟨(some 57), some undefA, none, false, .pu (.mov (.s 56))⟩,
   ⟨(some 58), some undefA, (some (57, true)), false, .pu (.mov (.s 11))⟩,
   ⟨(some 59), some undefA, (some (57, true)), false, .pu (.bin .eql (.s 58) (.c (.int .i64 0)))⟩,
   ⟨(some 60), some undefA, none, false, .pu (.pick (.s 57) (.s 59) (.c (.bool false)))⟩,
   ⟨(some 61), some undefA, none, false, .pu (.mov (.s 60))⟩,
   ⟨(some 62), some undefA, (some (61, true)), false, .pu (.mov (.s 8))⟩,
   ⟨(some 63), some undefA, (some (61, true)), false, .pu (.mov (.s 10))⟩,
   ⟨(some 64), some undefA, (some (61, true)), false, .pu (.bin .eql (.s 62) (.s 63))⟩,
   ⟨(some 65), some undefA, none, false, .pu (.pick (.s 61) (.s 64) (.c (.bool false)))⟩,
   ⟨(some 66), some undefA, none, false, .pu (.mov (.s 65))⟩,
   ⟨(some 67), some undefA, (some (66, true)), false, .call 18 []⟩,
   ⟨(some 68), some undefA, none, false, .pu (.pick (.s 66) (.s 67) (.c (.bool false)))⟩,
   ⟨(some 2), some undefA, none, false, .pu (.mov (.s 68))⟩])
 (.ret))))))))))⟩
theorem t5 : trF Try.prog [1, 3, 4, 6] [] Try.f5 = some m5 := by kernel_rfl
/-- selion/selionlaw07.WishGivings [] -/
def m9 : MFun := ⟨81, [2], [.mov (.s 4)],
 .seq (.ops [⟨(some 2), some (.junk), none, false, .pu (.bnew (.s 0))⟩,
   ⟨(some 4), some undefA, none, false, .pu (.mov (.c (.bool false)))⟩])
 (.seq (.seq (.ops [⟨(some 13), some undefA, none, false, .pu (.bget none 2 0 2 true)⟩,
   ⟨(some 14), some undefA, none, false, .call 17 [(.s 13)]⟩,
   ⟨(some 15), some undefA, none, false, .pu (.mov (.s 14))⟩,
   ⟨(some 16), some undefA, (some (15, false)), false, .pu (.mov (.s 1))⟩,
   ⟨(some 17), some undefA, (some (15, false)), false, .call 32 [(.s 16)]⟩,
   ⟨(some 18), some undefA, none, false, .pu (.pick (.s 15) (.c (.bool true)) (.s 17))⟩])
 (.cond (.s 18) (.seq (.ops [⟨(some 19), some undefA, none, false, .call 18 []⟩,
    ⟨(some 4), some undefA, none, false, .pu (.mov (.s 19))⟩])
  (.ret))
 (.skip)))
 (.seq (.ops [⟨(some 21), some undefA, none, false, .pu (.bget none 2 0 2 true)⟩,
   ⟨(some 22), some undefA, none, false, .pu (.mov (.s 1))⟩,
   ⟨(some 23), some undefA, none, false, .call 33 [(.s 21), (.s 22)]⟩,
   ⟨(some 20), some undefA, none, false, .pu (.mov (.s 23))⟩,
   ⟨(some 24), some undefA, none, false, .pu (.extr 0 (.s 20))⟩,
   ⟨(some 25), some undefA, none, false, .pu (.extr 1 (.s 20))⟩,
   ⟨(some 5), some undefA, none, false, .pu (.mov (.s 24))⟩,
   ⟨(some 6), some undefA, none, false, .pu (.mov (.s 25))⟩])
 (.seq (.ops [⟨(some 27), some undefA, none, false, .pu (.bget none 2 0 2 true)⟩,
   ⟨(some 28), some undefA, none, false, .pu (.mov (.s 1))⟩,
   ⟨(some 29), some undefA, none, false, .call 27 [(.s 27), (.s 28)]⟩,
   ⟨(some 26), some undefA, none, false, .pu (.mov (.s 29))⟩,
   ⟨(some 30), some undefA, none, false, .pu (.extr 0 (.s 26))⟩,
   ⟨(some 31), some undefA, none, false, .pu (.extr 1 (.s 26))⟩,
   ⟨(some 7), some undefA, none, false, .pu (.mov (.s 30))⟩,
   ⟨(some 8), some undefA, none, false, .pu (.mov (.s 31))⟩])
 (.seq (.ops [⟨(some 33), some undefA, none, false, .pu (.bget none 2 0 2 true)⟩,
   ⟨(some 34), some undefA, none, false, .pu (.mov (.s 1))⟩,
   ⟨(some 35), some undefA, none, false, .call 37 [(.s 33), (.s 34)]⟩,
   ⟨(some 32), some undefA, none, false, .pu (.mov (.s 35))⟩,
   ⟨(some 36), some undefA, none, false, .pu (.extr 0 (.s 32))⟩,
   ⟨(some 37), some undefA, none, false, .pu (.extr 1 (.s 32))⟩,
   ⟨(some 9), some undefA, none, false, .pu (.mov (.s 36))⟩,
   ⟨(some 10), some undefA, none, false, .pu (.mov (.s 37))⟩])
 (.seq (.ops [⟨(some 39), some undefA, none, false, .pu (.bget none 2 0 2 true)⟩,
   ⟨(some 40), some undefA, none, false, .pu (.mov (.s 1))⟩,
   ⟨(some 41), some undefA, none, false, .call 38 [(.s 39), (.s 40)]⟩,
   ⟨(some 38), some undefA, none, false, .pu (.mov (.s 41))⟩,
   ⟨(some 42), some undefA, none, false, .pu (.extr 0 (.s 38))⟩,
   ⟨(some 43), some undefA, none, false, .pu (.extr 1 (.s 38))⟩,
   ⟨(some 11), some undefA, none, false, .pu (.mov (.s 42))⟩,
   ⟨(some 12), some undefA, none, false, .pu (.mov (.s 43))⟩])
 (.seq (.seq (.ops [⟨(some 44), some undefA, none, false, .pu (.bget none 2 0 2 true)⟩,
   ⟨(some 45), some undefA, none, false, .call 39 [(.s 44)]⟩,
   ⟨(some 46), some undefA, none, false, .pu (.bget none 2 0 2 true)⟩,
   ⟨(some 47), some undefA, none, false, .call 40 [(.s 46)]⟩,
   ⟨(some 48), some undefA, none, false, .pu (.bin .neq (.s 45) (.s 47))⟩,
   ⟨(some 49), some undefA, none, false, .pu (.mov (.s 48))⟩,
   ⟨(some 50), some undefA, (some (49, false)), false, .pu (.mov (.s 5))⟩,
   ⟨(some 51), some undefA, (some (49, false)), false, .pu (.mov (.s 7))⟩,
   ⟨(some 52), some undefA, (some (49, false)), false, .pu (.bin .neq (.s 50) (.s 51))⟩,
   ⟨(some 53), some undefA, none, false, .pu (.pick (.s 49) (.c (.bool true)) (.s 52))⟩,
   ⟨(some 54), some undefA, none, false, .pu (.mov (.s 53))⟩,
   ⟨(some 55), some undefA, (some (54, false)), false, .pu (.mov (.s 6))⟩,
   ⟨(some 56), some undefA, (some (54, false)), false, .pu (.mov (.s 8))⟩,
   ⟨(some 57), some undefA, (some (54, false)), false, .pu (.bin .neq (.s 55) (.s 56))⟩,
   ⟨(some 58), some undefA, none, false, .pu (.pick (.s 54) (.c (.bool true)) (.s 57))⟩,
   ⟨(some 59), some undefA, none, false, .pu (.mov (.s 58))⟩,
   ⟨(some 60), some undefA, (some (59, false)), false, .pu (.mov (.s 9))⟩,
   ⟨(some 61), some undefA, (some (59, false)), false, .pu (.mov (.s 11))⟩,
   ⟨(some 62), some undefA, (some (59, false)), false, .call 23 [(.s 60), (.s 61)]⟩,
   ⟨(some 63), some undefA, (some (59, false)), false, .pu (.not (.s 62))⟩,
   ⟨(some 64), some undefA, none, false, .pu (.pick (.s 59) (.c (.bool true)) (.s 63))⟩,
   ⟨(some 65), some undefA, none, false, .pu (.mov (.s 64))⟩,
   ⟨(some 66), some undefA, (some (65, false)), false, .pu (.mov (.s 10))⟩,
   ⟨(some 67), some undefA, (some (65, false)), false, .pu (.mov (.s 12))⟩,
   ⟨(some 68), some undefA, (some (65, false)), false, .pu (.bin .neq (.s 66) (.s 67))⟩,
   ⟨(some 69), some undefA, none, false, .pu (.pick (.s 65) (.c (.bool true)) (.s 68))⟩])
 (.cond (.s 69) (.seq (.ops [⟨(some 4), some undefA, none, false, .pu (.mov (.c (.bool false)))⟩])
  (.ret))
 (.skip)))
 (.seq (.ops [⟨(some 70), some undefA, none, false, .pu (.mov (.s 6))⟩,
   ⟨(some 71), some undefA, none, false, .pu (.bin .neq (.s 70) (.c (.int .i64 0)))⟩,
   ⟨(some 72), some undefA, none, false, .pu (.mov (.s 71))⟩,
   ⟨(some 73), some undefA, (some (72, false)), false, .pu (.mov (.s 9))⟩,
   ⟨(some 74), some undefA, (some (72, false)), false, .call 41 [(.s 73)]⟩,
   ⟨(some 75), some undefA, (some (72, false)), false, .pu (.mov (.s 5))⟩,
   ⟨(some 76), some undefA, (some (72, false)), false, .pu (.bin .eql (.s 74) (.s 75))⟩,
   ⟨(some 77), some undefA, none, false, .pu (.pick (.s 72) (.c (.bool true)) (.s 76))⟩,
   ⟨(some 78), some undefA, none, false, .pu (.mov (.s 77))⟩,
   ⟨(some 79), some undefA, (some (78, true)), false, .call 18 []⟩,
   ⟨(some 80), some undefA, none, false, .pu (.pick (.s 78) (.s 79) (.c (.bool false)))⟩,
   ⟨(some 4), some undefA, none, false, .pu (.mov (.s 80))⟩])
 (.ret))))))))⟩
theorem t9 : trF Try.prog [2] [] Try.f9 = some m9 := by kernel_rfl
/-- selion/selionlaw07.WishLines [] -/
def m15 : MFun := ⟨70, [2], [.mov (.s 4)],
 .seq (.ops [⟨(some 2), some (.junk), none, false, .pu (.bnew (.s 0))⟩,
   ⟨(some 4), some undefA, none, false, .pu (.mov (.c (.bool false)))⟩])
 (.seq (.seq (.ops [⟨(some 13), some undefA, none, false, .pu (.bget none 2 0 2 true)⟩,
   ⟨(some 14), some undefA, none, false, .call 17 [(.s 13)]⟩,
   ⟨(some 15), some undefA, none, false, .pu (.mov (.s 14))⟩,
   ⟨(some 16), some undefA, (some (15, false)), false, .pu (.mov (.s 1))⟩,
   ⟨(some 17), some undefA, (some (15, false)), false, .call 32 [(.s 16)]⟩,
   ⟨(some 18), some undefA, none, false, .pu (.pick (.s 15) (.c (.bool true)) (.s 17))⟩])
 (.cond (.s 18) (.seq (.ops [⟨(some 19), some undefA, none, false, .call 18 []⟩,
    ⟨(some 4), some undefA, none, false, .pu (.mov (.s 19))⟩])
  (.ret))
 (.skip)))
 (.seq (.ops [⟨(some 21), some undefA, none, false, .pu (.bget none 2 0 2 true)⟩,
   ⟨(some 22), some undefA, none, false, .pu (.mov (.s 1))⟩,
   ⟨(some 23), some undefA, none, false, .call 52 [(.s 21), (.s 22)]⟩,
   ⟨(some 20), some undefA, none, false, .pu (.mov (.s 23))⟩,
   ⟨(some 24), some undefA, none, false, .pu (.extr 0 (.s 20))⟩,
   ⟨(some 25), some undefA, none, false, .pu (.extr 1 (.s 20))⟩,
   ⟨(some 5), some undefA, none, false, .pu (.mov (.s 24))⟩,
   ⟨(some 6), some undefA, none, false, .pu (.mov (.s 25))⟩])
 (.seq (.ops [⟨(some 27), some undefA, none, false, .pu (.bget none 2 0 2 true)⟩,
   ⟨(some 28), some undefA, none, false, .pu (.mov (.s 1))⟩,
   ⟨(some 29), some undefA, none, false, .call 53 [(.s 27), (.s 28)]⟩,
   ⟨(some 26), some undefA, none, false, .pu (.mov (.s 29))⟩,
   ⟨(some 30), some undefA, none, false, .pu (.extr 0 (.s 26))⟩,
   ⟨(some 31), some undefA, none, false, .pu (.extr 1 (.s 26))⟩,
   ⟨(some 7), some undefA, none, false, .pu (.mov (.s 30))⟩,
   ⟨(some 8), some undefA, none, false, .pu (.mov (.s 31))⟩])
 (.seq (.seq (.ops [⟨(some 32), some undefA, none, false, .pu (.mov (.s 5))⟩,
   ⟨(some 33), some undefA, none, false, .pu (.mov (.s 7))⟩,
   ⟨(some 34), some undefA, none, false, .call 23 [(.s 32), (.s 33)]⟩,
   ⟨(some 35), some undefA, none, false, .pu (.not (.s 34))⟩,
   ⟨(some 36), some undefA, none, false, .pu (.mov (.s 35))⟩,
   ⟨(some 37), some undefA, (some (36, false)), false, .pu (.mov (.s 6))⟩,
   ⟨(some 38), some undefA, (some (36, false)), false, .pu (.mov (.s 8))⟩,
   ⟨(some 39), some undefA, (some (36, false)), false, .pu (.bin .neq (.s 37) (.s 38))⟩,
   ⟨(some 40), some undefA, none, false, .pu (.pick (.s 36) (.c (.bool true)) (.s 39))⟩])
 (.cond (.s 40) (.seq (.ops [⟨(some 4), some undefA, none, false, .pu (.mov (.c (.bool false)))⟩])
  (.ret))
 (.skip)))
 (.seq (.seq (.ops [⟨(some 41), some undefA, none, false, .pu (.mov (.s 6))⟩,
   ⟨(some 42), some undefA, none, false, .pu (.bin .neq (.s 41) (.c (.int .i64 0)))⟩])
 (.cond (.s 42) (.seq (.ops [⟨(some 43), some undefA, none, false, .call 18 []⟩,
    ⟨(some 4), some undefA, none, false, .pu (.mov (.s 43))⟩])
  (.ret))
 (.skip)))
 (.seq (.ops [⟨(some 45), some undefA, none, false, .pu (.bget none 2 0 2 true)⟩,
   ⟨(some 46), some undefA, none, false, .pu (.mov (.s 5))⟩,
   ⟨(some 47), some undefA, none, false, .call 33 [(.s 45), (.s 46)]⟩,
   ⟨(some 44), some undefA, none, false, .pu (.mov (.s 47))⟩,
   ⟨(some 48), some undefA, none, false, .pu (.extr 0 (.s 44))⟩,
   ⟨(some 49), some undefA, none, false, .pu (.extr 1 (.s 44))⟩,
   ⟨(some 9), some undefA, none, false, .pu (.mov (.s 48))⟩,
   ⟨(some 10), some undefA, none, false, .pu (.mov (.s 49))⟩])
 (.seq (.ops [⟨(some 51), some undefA, none, false, .pu (.bget none 2 0 2 true)⟩,
   ⟨(some 52), some undefA, none, false, .call 24 [(.s 51)]⟩,
   ⟨(some 50), some undefA, none, false, .pu (.mov (.s 52))⟩,
   ⟨(some 53), some undefA, none, false, .pu (.extr 0 (.s 50))⟩,
   ⟨(some 54), some undefA, none, false, .pu (.extr 1 (.s 50))⟩,
   ⟨(some 11), some undefA, none, false, .pu (.mov (.s 53))⟩,
   ⟨(some 12), some undefA, none, false, .pu (.mov (.s 54))⟩])
 (.seq (.ops [⟨(some 55), some undefA, none, false, .pu (.mov (.s 10))⟩,
   ⟨(some 56), some undefA, none, false, .pu (.bin .eql (.s 55) (.c (.int .i64 0)))⟩,
   ⟨(some 57), some undefA, none, false, .pu (.mov (.s 56))⟩,
   ⟨(some 58), some undefA, (some (57, true)), false, .pu (.mov (.s 12))⟩,
   ⟨(some 59), some undefA, (some (57, true)), false, .pu (.bin .eql (.s 58) (.c (.int .i64 0)))⟩,
   ⟨(some 60), some undefA, none, false, .pu (.pick (.s 57) (.s 59) (.c (.bool false)))⟩,
   ⟨(some 61), some undefA, none, false, .pu (.mov (.s 60))⟩,
   ⟨(some 62), some undefA, (some (61, true)), false, .pu (.mov (.s 9))⟩,
   ⟨(some 63), some undefA, (some (61, true)), false, .pu (.bin .mul (.c (.int .i64 2)) (.s 62))⟩,
   ⟨(some 64), some undefA, (some (61, true)), false, .pu (.mov (.s 11))⟩,
   ⟨(some 65), some undefA, (some (61, true)), false, .pu (.bin .geq (.s 63) (.s 64))⟩,
   ⟨(some 66), some undefA, none, false, .pu (.pick (.s 61) (.s 65) (.c (.bool false)))⟩,
   ⟨(some 67), some undefA, none, false, .pu (.mov (.s 66))⟩,
   ⟨(some 68), some undefA, (some (67, true)), false, .call 18 []⟩,
   ⟨(some 69), some undefA, none, false, .pu (.pick (.s 67) (.s 68) (.c (.bool false)))⟩,
   ⟨(some 4), some undefA, none, false, .pu (.mov (.s 69))⟩])
 (.ret)))))))))⟩
theorem t15 : trF Try.prog [2] [] Try.f15 = some m15 := by kernel_rfl
end Go.Proofs.Ytlmbobbefgcolaa

namespace Go.Proofs.Ytlmbobbefgcolaa
open Go Go.Eng
theorem take_succ_eq {α : Type} {xs ys : List α} {i : Nat} {z w : α} (hz : xs[i]? = some z) (hw : ys[i]? = some w) : xs.take (i + 1) = ys.take (i + 1) ↔ xs.take i = ys.take i ∧ z = w := by
  rw [List.take_add_one, List.take_add_one, hz, hw]
  have hi : i < xs.length := (List.getElem?_eq_some_iff.1 hz).1
  have hj : i < ys.length := (List.getElem?_eq_some_iff.1 hw).1
  constructor
  · intro h
    have := List.append_inj h (by simp; omega)
    exact ⟨this.1, by simpa using this.2⟩
  · rintro ⟨h1, rfl⟩
    rw [h1]
theorem c_SameInts {xs ys : List Int} {v u : AV} {A : AHeap} (hx : L1 A v xs) (hy : L1 A u ys) (hl : xs.length ≤ 1000000) : ACalls Try.prog 23 [v, u] A (B (decide (xs = ys))) A := by
  refine acalls hmix Try.func23 (by kernel_rfl) t23 2 rfl (by decide) ?_
  by_cases hle : xs.length = ys.length
  · have hle' : (xs.length : Int) = ys.length := by omega
    dsimp only [m23]
    simp (maxSteps := 4000000) -implicitDefEqProofs -dsimp (disch := omega) only [↓AW_skip, ↓AW_ops, ↓AW_seq, ↓AW_cond, ↓AW_block, ↓AOps_nil, ↓AOps_pu, on_some, condB_f, ↓then_normal, pval, rd_S, rd_C, put_S, ↓AW_toLoop, eq_self, List.replicate_succ, List.replicate_zero, List.set_cons_zero, List.set_cons_succ, List.getElem?_cons_zero, List.getElem?_cons_succ, Option.getD_some, Nat.reduceSub, List.cons_append, List.nil_append, bin_neq, decide_false, not_true_eq_false, hx.len, hy.len, hle']
    refine LoopK.by 26 (fun i : Nat => i ≤ xs.length ∧ xs.take i = ys.take i) (fun i => [(0, v), (1, u), (5, I i)]) (fun _ => A) (fun i => xs.length - i) 0 ⟨by omega, rfl⟩ rfl (by simp [Has, rd_s]) rfl ?_
    rintro i ⟨hi, he⟩
    by_cases hlt : i < xs.length
    · obtain ⟨z, hz⟩ : ∃ z, xs[i]? = some z := ⟨_, List.getElem?_eq_getElem hlt⟩
      have hlt' : (i : Int) < xs.length := by omega
      have hlt2 : i < ys.length := by omega
      obtain ⟨w, hw⟩ : ∃ w, ys[i]? = some w := ⟨_, List.getElem?_eq_getElem hlt2⟩
      by_cases hzw : z = w
      · subst hzw
        simp (maxSteps := 4000000) -implicitDefEqProofs -dsimp (disch := omega) only [↓AW_skip, ↓AW_ops, ↓AW_seq, ↓AW_cond, ↓AW_block, ↓AOps_nil, ↓AOps_pu, ↓AOps_ld, on_some, condB_t, condB_f, ↓then_normal, ↓inBlock_normal, pval, lval, rd_S, rd_C, put_S, partA, eq_self, mk, List.foldl_cons, List.foldl_nil, List.replicate_succ, List.replicate_zero, List.set_cons_zero, List.set_cons_succ, List.getElem?_cons_zero, List.getElem?_cons_succ, List.drop_zero, List.take_succ_cons, List.take_nil, Option.getD_some, List.length_cons, List.length_nil, Nat.reduceAdd, Nat.reduceLeDiff, Nat.zero_add, bin_add, bin_neq, bin_lss, w64, if_true, if_false, Bool.false_eq_true, decide_true, decide_false, Go.Eng.e1, true_and, not_true_eq_false, hlt', hx.len, hx.idx hlt, hx.ld0 hz 1 false (by decide), hy.idx hlt2, hy.ld0 hw 1 false (by decide)]
        exact ⟨i + 1, ⟨hlt, (take_succ_eq hz hw).2 ⟨he, rfl⟩⟩, by simp [Has, rd_s], by omega⟩
      · simp (maxSteps := 4000000) -implicitDefEqProofs -dsimp (disch := omega) only [↓AW_skip, ↓AW_ops, ↓AW_seq, ↓AW_cond, ↓AW_block, ↓AW_ret, ↓AOps_nil, ↓AOps_pu, ↓AOps_ld, on_some, condB_t, ↓then_normal, ↓then_ret, ↓inBlock_ret, ↓Fin_ret, pval, lval, rd_S, rd_C, put_S, resV, resL, partA, eq_self, mk, List.foldl_cons, List.foldl_nil, List.replicate_succ, List.replicate_zero, List.set_cons_zero, List.set_cons_succ, List.getElem?_cons_zero, List.getElem?_cons_succ, List.drop_zero, List.take_succ_cons, List.take_nil, Option.getD_some, List.length_cons, List.length_nil, Nat.reduceLeDiff, Nat.zero_add, bin_neq, bin_lss, if_true, if_false, Bool.false_eq_true, decide_true, Go.Eng.e1, not_false_eq_true, hlt', hx.len, hx.idx hlt, hx.ld0 hz 1 false (by decide), hy.idx hlt2, hy.ld0 hw 1 false (by decide), hzw]
        refine gc_same ?_
        have : ¬ xs = ys := by rintro rfl; rw [hz] at hw; exact hzw (Option.some.inj hw)
        simp [this]
    · have hlt' : ¬ ((i : Int) < xs.length) := by omega
      simp (maxSteps := 4000000) -implicitDefEqProofs -dsimp (disch := omega) only [↓AW_ops, ↓AW_seq, ↓AW_cond, ↓AW_exit, ↓AW_ret, ↓AOps_nil, ↓AOps_pu, on_some, condB_f, ↓then_normal, ↓then_exit, ↓inBlock_exit, ↓Fin_ret, pval, rd_S, rd_C, put_S, resV, resL, eq_self, mk, List.foldl_cons, List.foldl_nil, List.replicate_succ, List.replicate_zero, List.set_cons_zero, List.set_cons_succ, List.getElem?_cons_zero, List.getElem?_cons_succ, Option.getD_some, bin_lss, if_true, decide_false, hlt', hx.len]
      rw [List.take_of_length_le (by omega), List.take_of_length_le (by omega)] at he
      exact gc_same (by simp [he])
  · have hle' : ¬ (xs.length : Int) = ys.length := by omega
    dsimp only [m23]
    simp (maxSteps := 4000000) -implicitDefEqProofs -dsimp (disch := omega) only [↓AW_ops, ↓AW_seq, ↓AW_cond, ↓AW_ret, ↓AOps_nil, ↓AOps_pu, on_some, condB_t, ↓then_normal, ↓then_ret, ↓Fin_ret, pval, rd_S, rd_C, put_S, resV, resL, List.replicate_succ, List.replicate_zero, List.set_cons_zero, List.set_cons_succ, List.getElem?_cons_zero, List.getElem?_cons_succ, Option.getD_some, Nat.reduceSub, List.cons_append, List.nil_append, bin_neq, decide_true, not_false_eq_true, hx.len, hy.len, hle']
    have : ¬ xs = ys := by rintro rfl; exact hle rfl
    exact gc_same (by simp [this])
end Go.Proofs.Ytlmbobbefgcolaa

namespace Go.Proofs.Ytlmbobbefgcolaa
open Go Go.Eng
theorem lsE_all {P : Int} : ∀ {ls : List (List Int)}, lsE P ls = 0 → ∀ l ∈ ls, lE P l = 0
  | [], _, _, h => by simp at h
  | a :: ls, h, l, hl => by
    rw [lsE] at h
    split at h
    · rename_i h1
      rcases List.mem_cons.1 hl with rfl | hl
      · exact h1
      · exact lsE_all h l hl
    · rename_i h1; exact absurd h h1
theorem lE_0 {P : Int} {l : List Int} (h : lE P l = 0) : (∀ p ∈ l, inP P p) ∧ l.Nodup := by
  unfold lE at h
  split at h
  · rename_i h1
    split at h
    · rename_i h2; exact ⟨h1, h2⟩
    · cases h
  · cases h
/-- What valid wishes are. -/
structure Val (P : Int) (ls : List (List Int)) : Prop where
  hP : 1 ≤ P ∧ P ≤ 7
  n : ls.length ≤ 7
  l : ∀ l ∈ ls, (∀ p ∈ l, inP P p) ∧ l.Nodup
theorem val_of {P : Int} {ls : List (List Int)} (h : vW P ls = 0) : Val P ls := by
  have hP := vW_P7 h
  have hn : ¬ 7 < ls.length := fun h1 => by rw [vW_n hP h1] at h; cases h
  rw [vW_l hP hn] at h
  exact ⟨hP, by omega, fun l hl => lE_0 (lsE_all h l hl)⟩
theorem len_le {P : Int} {l : List Int} (hP : 0 ≤ P) (h : (∀ p ∈ l, inP P p) ∧ l.Nodup) : (l.length : Int) ≤ P := by
  have := nodup_len h.2 (m := nums P.toNat) (fun p hp => mem_nums.2 ⟨(h.1 p hp).1, by have := (h.1 p hp).2; omega⟩)
  simp only [nums, List.length_map, List.length_range] at this
  omega
theorem Val.len {P : Int} {ls : List (List Int)} (h : Val P ls) {l : List Int} (hl : l ∈ ls) : (l.length : Int) ≤ P := len_le (by have := h.hP; omega) (h.l l hl)
def cstep (c : List Int) (x : Int × List Int) : List Int := if 0 ≤ x.1 then c.set (fpos (fun y => decide (x.1 = y)) x.2).toNat ((c[(fpos (fun y => decide (x.1 = y)) x.2).toNat]?).getD 0 + 1) else c
def cnt (P : Int) (zs : List (Int × List Int)) : List Int := zs.foldl cstep (List.replicate P.toNat 0)
theorem cstep_len (c : List Int) (x : Int × List Int) : (cstep c x).length = c.length := by unfold cstep; split <;> simp
theorem cnt_len (P : Int) (zs : List (Int × List Int)) : (cnt P zs).length = P.toNat := by
  unfold cnt
  have : ∀ (zs : List (Int × List Int)) (c : List Int), (zs.foldl cstep c).length = c.length := by
    intro zs
    induction zs with
    | nil => intro c; rfl
    | cons x zs ih => intro c; rw [List.foldl_cons, ih, cstep_len]
  rw [this]; simp
theorem repl_zero (n : Nat) : repl [AV.int .i64 0] n = (List.replicate n (0 : Int)).flatMap Go.Eng.e1 := by
  induction n with
  | zero => rfl
  | succ n ih => rw [repl, ih, List.replicate_succ, List.flatMap_cons]; rfl
end Go.Proofs.Ytlmbobbefgcolaa

namespace Go.Proofs.Ytlmbobbefgcolaa
open Go Go.Eng
def eb (b : Bool) : List AV := [B b]
theorem eb_len (b : Bool) : (eb b).length = 1 := rfl
/-- Where a chain stands: the wishes' box, the box of what was seen, the chain's own box, what was seen, the giving. -/
structure Ctx (P : Int) (A H : AHeap) (v : AV) (nw ns nc na ng n : Nat) (fa fg : Bool) : Prop where
  pre : A <+: H
  la : A.length ≤ na
  lg : A.length ≤ ng
  ne : na ≠ ng
  hna : na < H.length
  hng : ng < H.length
  w : ∃ rw, H[nw]? = some (.cells rw [I P, v, .sl 1 ng 0 n fg])
  s : ∃ rw, H[ns]? = some (.cells rw [.sl 1 na 0 P.toNat fa])
  c : ∃ rw, H[nc]? = some (.cells rw [.fn 101 [.ptr nw 0, .ptr ns 0, .ptr nc 0]])
  w1 : nw ≠ na
  w2 : nw ≠ ng
  s1 : ns ≠ na
  s2 : ns ≠ ng
  c1 : nc ≠ na
  c2 : nc ≠ ng
def hpS (H : AHeap) (na ng : Nat) (s : St) : AHeap := (H.set na (.cells true (s.1.flatMap eb))).set ng (.cells true (s.2.flatMap e1))
section
variable {P : Int} {A H : AHeap} {v : AV} {nw ns nc na ng n : Nat} {fa fg : Bool}
theorem Ctx.get (c : Ctx P A H v nw ns nc na ng n fa fg) (s : St) {k : Nat} (h1 : k ≠ na) (h2 : k ≠ ng) : (hpS H na ng s)[k]? = H[k]? := by
  unfold hpS
  rw [List.getElem?_set_ne (Ne.symm h2), List.getElem?_set_ne (Ne.symm h1)]
theorem Ctx.getA (c : Ctx P A H v nw ns nc na ng n fa fg) (s : St) : (hpS H na ng s)[na]? = some (.cells true (s.1.flatMap eb)) := by
  unfold hpS
  rw [List.getElem?_set_ne (Ne.symm c.ne), List.getElem?_set_self c.hna]
theorem Ctx.getG (c : Ctx P A H v nw ns nc na ng n fa fg) (s : St) : (hpS H na ng s)[ng]? = some (.cells true (s.2.flatMap e1)) := by
  unfold hpS
  rw [List.getElem?_set_self (by rw [List.length_set]; exact c.hng)]
theorem Ctx.setA (c : Ctx P A H v nw ns nc na ng n fa fg) (s : St) (b : List Bool) : (hpS H na ng s).set na (.cells true (b.flatMap eb)) = hpS H na ng (b, s.2) := by
  unfold hpS
  rw [List.set_comm _ _ (Ne.symm c.ne), List.set_set]
theorem Ctx.setG (c : Ctx P A H v nw ns nc na ng n fa fg) (s : St) (g : List Int) : (hpS H na ng s).set ng (.cells true (g.flatMap e1)) = hpS H na ng (s.1, g) := by
  unfold hpS
  rw [List.set_set]
theorem Ctx.preS (c : Ctx P A H v nw ns nc na ng n fa fg) (s : St) : A <+: hpS H na ng s := pre_set (pre_set c.pre c.la _) c.lg _
theorem Ctx.ola (c : Ctx P A H v nw ns nc na ng n fa fg) (s : St) (hl : s.1.length = P.toNat) : OL 1 eb A (hpS H na ng s) na (.sl 1 na 0 P.toNat fa) s.1 := ⟨eb_len, c.preS s, c.la, c.getA s, fa, by rw [hl]⟩
theorem Ctx.olg (c : Ctx P A H v nw ns nc na ng n fa fg) (s : St) (hl : s.2.length = n) : OL 1 e1 A (hpS H na ng s) ng (.sl 1 ng 0 n fg) s.2 := ⟨e1_len, c.preS s, c.lg, c.getG s, fg, by rw [hl]⟩
theorem Ctx.ldw (c : Ctx P A H v nw ns nc na ng n fa fg) (s : St) : ldA 1 false (.ptr nw 1) (hpS H na ng s) = some v ∧ ldA 1 false (.ptr nw 2) (hpS H na ng s) = some (.sl 1 ng 0 n fg) ∧ ldA 3 true (.ptr nw 0) (hpS H na ng s) = some (.agg [I P, v, .sl 1 ng 0 n fg]) := by
  obtain ⟨rw, h⟩ := c.w
  have := c.get s c.w1 c.w2
  rw [h] at this
  simp [ldA, this, partA]
theorem Ctx.lds (c : Ctx P A H v nw ns nc na ng n fa fg) (s : St) : ldA 1 false (.ptr ns 0) (hpS H na ng s) = some (.sl 1 na 0 P.toNat fa) := by
  obtain ⟨rw, h⟩ := c.s
  have := c.get s c.s1 c.s2
  rw [h] at this
  simp [ldA, this, partA]
theorem Ctx.ldc (c : Ctx P A H v nw ns nc na ng n fa fg) (s : St) : ldA 1 false (.ptr nc 0) (hpS H na ng s) = some (.fn 101 [.ptr nw 0, .ptr ns 0, .ptr nc 0]) := by
  obtain ⟨rw, h⟩ := c.c
  have := c.get s c.c1 c.c2
  rw [h] at this
  simp [ldA, this, partA]
end
theorem s89 {P : Int} {v u : AV} {g : List Int} {A : AHeap} (hg : L1 A u g) (hl : g.length ≤ 1000000) (p : Int) : ACalls Try.prog 89 [.agg [I P, v, u], I p] A (I (fpos (fun y => decide (p = y)) g)) A := by
  refine acalls hmix Try.func89 (by kernel_rfl) t89 2 rfl (by decide) ?_
  dsimp only [m89]
  simp (maxSteps := 4000000) -implicitDefEqProofs -dsimp (disch := omega) only [↓AW_ops, ↓AW_seq, ↓AOps_nil, ↓AOps_pu, ↓AOps_call, on_some, ↓then_normal, pval, rd_S, rd_C, put_S, chkd, isAdr, bgot, AV.cells?, partA, eq_self, List.replicate_succ, List.replicate_zero, List.set_cons_zero, List.set_cons_succ, List.getElem?_cons_zero, List.getElem?_cons_succ, List.drop_zero, List.drop_succ_cons, List.take_succ_cons, List.take_nil, Option.getD_some, map_c, map_n, List.length_cons, List.length_nil, Nat.reduceAdd, Nat.reduceSub, Nat.reduceLeDiff, Nat.zero_add, List.cons_append, List.nil_append, if_true, if_false, Bool.false_eq_true]
  refine CallK.of (c_Index hg hl p) ?_
  simp (maxSteps := 4000000) -implicitDefEqProofs -dsimp (disch := omega) only [↓AW_ret, ↓AOps_nil, ↓AOps_pu, on_some, extK_same, ↓then_normal, ↓Fin_ret, pval, rd_S, put_S, resV, resL, List.replicate_succ, List.replicate_zero, List.set_cons_zero, List.set_cons_succ, List.getElem?_cons_zero, List.getElem?_cons_succ, Option.getD_some, Nat.reduceSub, List.cons_append, List.nil_append]
  exact gc_same rfl
theorem sn_get {b : List Bool} {p : Int} (h : p.toNat < b.length) : b[p.toNat]? = some (sn b p) := by
  unfold sn
  rw [List.getElem?_eq_getElem h]
  rfl
theorem s101_step {P : Int} {ws : List (AV × List Int)} {A H : AHeap} {v : AV} {nw ns nc na ng : Nat} {fa fg : Bool} (hv : Val P (lists ws)) (hw : LL A v ws) (c : Ctx P A H v nw ns nc na ng ws.length fa fg) (m : Nat)
    (hrec : ∀ (i : Int) (s : St), inP ws.length i → s.1.length = P.toNat → Good P (lists ws) s.2 → unseen s.1 + 1 ≤ m → ACalls Try.prog 101 [I i, .ptr nw 0, .ptr ns 0, .ptr nc 0] (hpS H na ng s) (B (chF (lists ws) m i s).1) (hpS H na ng (chF (lists ws) m i s).2))
    (i : Int) (s : St) (hi : inP ws.length i) (hl : s.1.length = P.toNat) (hg : Good P (lists ws) s.2) (hm : unseen s.1 ≤ m) :
      ACalls Try.prog 101 [I i, .ptr nw 0, .ptr ns 0, .ptr nc 0] (hpS H na ng s) (B (chF (lists ws) (m + 1) i s).1) (hpS H na ng (chF (lists ws) (m + 1) i s).2) := by
  have hls : ∀ l ∈ lists ws, ∀ p ∈ l, inP P p := fun l hl => (hv.l l hl).1
  have hP := hv.hP
  have hn : ws.length ≤ 7 := by simpa using hv.n
  have hlsn : (lists ws).length = ws.length := by simp
  obtain ⟨x, hx, hlx⟩ := lst_get hi
  have hxm := List.mem_of_getElem? hx
  have hx2 := hv.len (show x.2 ∈ lists ws from List.mem_map.2 ⟨x, hxm, rfl⟩)
  have hxP := hls x.2 (List.mem_map.2 ⟨x, hxm, rfl⟩)
  have hltw : i.toNat < ws.length := (List.getElem?_eq_some_iff.1 hx).1
  rw [chF, hlx]
  refine acalls hmix Try.func101 (by kernel_rfl) t101 4 rfl (by decide) ?_
  obtain ⟨w1, w2, w3⟩ := c.ldw s
  have hw0 := hw.mono (c.preS s)
  dsimp only [m101]
  simp (maxSteps := 4000000) -implicitDefEqProofs -dsimp (disch := omega) only [↓AW_ops, ↓AW_seq, ↓AW_block, ↓AOps_nil, ↓AOps_pu, ↓AOps_ld, on_some, ↓then_normal, pval, lval, rd_S, rd_C, put_S, ↓AW_toLoop, partA, eq_self, List.replicate_succ, List.replicate_zero, List.set_cons_zero, List.set_cons_succ, List.getElem?_cons_zero, List.getElem?_cons_succ, List.drop_zero, List.take_succ_cons, List.take_nil, Option.getD_some, List.length_cons, List.length_nil, Nat.reduceSub, Nat.reduceLeDiff, Nat.zero_add, Nat.add_zero, List.cons_append, List.nil_append, if_true, if_false, Bool.false_eq_true, w1, hw0.ls.idxI (k := .i64) hi.1 hi.2, hw0.ls.ld0 hx 1 false (by decide), e0, (hw0.inn x hxm).len]
  refine LoopK.by 43 (fun y : Nat × St => y.1 ≤ x.2.length ∧ y.2.1.length = P.toNat ∧ Good P (lists ws) y.2.2 ∧ unseen y.2.1 ≤ m ∧ goF (chF (lists ws) m) i x.2 s = goF (chF (lists ws) m) i (x.2.drop y.1) y.2)
    (fun y => [(0, I i), (1, .ptr nw 0), (2, .ptr ns 0), (3, .ptr nc 0), (14, x.1), (15, I x.2.length), (16, I y.1)]) (fun y => hpS H na ng y.2) (fun y => x.2.length - y.1) (0, s) ⟨by simp only; omega, hl, hg, hm, rfl⟩ rfl (by simp [Has, rd_s]) rfl ?_
  rintro ⟨k, t⟩ ⟨hk, tl, tg, tm, te⟩
  simp only at hk tl tg tm te
  by_cases hltk : k < x.2.length
  · obtain ⟨p, hzp⟩ : ∃ p, x.2[k]? = some p := ⟨_, List.getElem?_eq_getElem hltk⟩
    have hltk' : (k : Int) < x.2.length := by omega
    have hp := hxP p (List.mem_of_getElem? hzp)
    have hp2 : p < (t.1.length : Int) := by rw [tl]; have := hp.1; have := hp.2; omega
    have hpn : p.toNat < t.1.length := by have := hp.1; omega
    have hdr : x.2.drop k = p :: x.2.drop (k + 1) := by
      have := (List.getElem?_eq_some_iff.1 hzp).2
      rw [← this]; exact List.drop_eq_getElem_cons hltk
    rw [hdr, goF] at te
    have hxt := (hw.inn x hxm).mono (c.preS t)
    have hoa := c.ola t tl
    have hget := sn_get hpn
    by_cases hsn : sn t.1 p = true
    · rw [if_pos hsn] at te
      rw [hsn] at hget
      simp (maxSteps := 4000000) -implicitDefEqProofs -dsimp (disch := omega) only [↓AW_skip, ↓AW_ops, ↓AW_seq, ↓AW_cond, ↓AW_block, ↓AW_exit, ↓AW_ret, ↓AOps_nil, ↓AOps_pu, ↓AOps_ld, on_some, condB_t, ↓then_normal, ↓then_exit, ↓inBlock_exit, ↓Fin_ret, pval, lval, rd_S, rd_C, put_S, resV, resL, partA, eq_self, mk, List.foldl_cons, List.foldl_nil, List.replicate_succ, List.replicate_zero, List.set_cons_zero, List.set_cons_succ, List.getElem?_cons_zero, List.getElem?_cons_succ, List.drop_zero, List.take_succ_cons, List.take_nil, Option.getD_some, List.length_cons, List.length_nil, Nat.reduceAdd, Nat.reduceLeDiff, Nat.zero_add, bin_add, bin_lss, w64, if_true, if_false, Bool.false_eq_true, decide_true, Go.Eng.e1, true_and, reduceCtorEq, hltk', hxt.idx hltk, hxt.ld0 hzp 1 false (by decide), c.lds t, hoa.ls.idxI (k := .i64) hp.1 hp2, hoa.ls.ld0 hget 1 false (by decide), eb]
      exact ⟨(k + 1, t), ⟨hltk, tl, tg, tm, te⟩, by simp [Has, rd_s], rfl, by simp only; omega⟩
    · rw [if_neg hsn] at te
      have hsn' : sn t.1 p = false := by simpa using hsn
      rw [hsn'] at hget
      have hun := unseen_set hsn'
      have hst := hoa.st hpn (B true) true rfl
      rw [c.setA] at hst
      have hog := c.olg (t.1.set p.toNat true, t.2) (by rw [← hlsn]; exact tg.len)
      obtain ⟨v1, v2, v3⟩ := c.ldw (t.1.set p.toNat true, t.2)
      have hgl : t.2.length = ws.length := by rw [← hlsn]; exact tg.len
      simp (maxSteps := 4000000) -implicitDefEqProofs -dsimp (disch := omega) only [↓AW_skip, ↓AW_ops, ↓AW_seq, ↓AW_cond, ↓AW_block, ↓AOps_nil, ↓AOps_pu, ↓AOps_ld, ↓AOps_ha, ↓AOps_call, on_some, extK_false, condB_t, condB_f, ↓then_normal, pval, lval, hval_st, rd_S, rd_C, put_S, putS_none, partA, eq_self, mk, List.foldl_cons, List.foldl_nil, List.replicate_succ, List.replicate_zero, List.set_cons_zero, List.set_cons_succ, List.getElem?_cons_zero, List.getElem?_cons_succ, List.drop_zero, List.take_succ_cons, List.take_nil, Option.getD_some, Option.map_some, map_c, map_n, List.length_cons, List.length_nil, Nat.reduceLeDiff, Nat.zero_add, bin_lss, if_true, if_false, Bool.false_eq_true, decide_true, Go.Eng.e1, hltk', hxt.idx hltk, hxt.ld0 hzp 1 false (by decide), c.lds t, hoa.ls.idxI (k := .i64) hp.1 hp2, hoa.ls.ld0 hget 1 false (by decide), eb, hst, v3]
      refine CallK.of (s89 hog.ls (by simp only; omega) p) ?_
      simp only
      by_cases hf : fpos (fun y => decide (p = y)) t.2 < 0
      · rw [if_pos hf] at te
        have hst2 := hog.st (i := i.toNat) (by simp only; rw [hgl]; exact hltw) (I p) p rfl
        rw [c.setG] at hst2
        simp (maxSteps := 4000000) -implicitDefEqProofs -dsimp (disch := omega) only [↓AW_ops, ↓AW_seq, ↓AW_cond, ↓AW_ret, ↓AOps_nil, ↓AOps_pu, ↓AOps_ld, ↓AOps_ha, ↓AOps_guard, on_some, extK_false, extK_same, guardB_tf, skipS_some, condB_t, ↓then_normal, ↓then_ret, ↓inBlock_ret, ↓Fin_ret, pval, lval, hval_st, rd_S, rd_C, put_S, putS_none, resV, resL, eq_self, mk, List.foldl_cons, List.foldl_nil, List.replicate_succ, List.replicate_zero, List.set_cons_zero, List.set_cons_succ, List.getElem?_cons_zero, List.getElem?_cons_succ, Option.getD_some, Option.map_some, Nat.zero_add, bin_lss, if_true, decide_true, hf, v2, hog.ls.idxI (k := .i64) hi.1 (by simp only; rw [hgl]; exact hi.2), hst2]
        exact gc_same_all (by rw [te]) (by rw [te])
      · rw [if_neg hf] at te
        obtain ⟨h, hh1, hh2, hh3⟩ := fpos_get hf
        rw [hh2] at te hf ⊢
        have hpost := chF_spec hls m h (t.1.set p.toNat true, t.2) ⟨by omega, by rw [hlsn]; omega⟩ tg (by simp [tl]) (by simp only; omega)
        simp (maxSteps := 4000000) -implicitDefEqProofs -dsimp (disch := omega) only [↓AW_ops, ↓AW_seq, ↓AOps_nil, ↓AOps_pu, ↓AOps_ld, ↓AOps_callv, ↓AOps_guard, on_some, extK_same, CallF_fn, guardB_ff, ↓then_normal, pval, lval, rd_S, rd_C, put_S, putS_none, mk, List.foldl_cons, List.foldl_nil, List.replicate_succ, List.replicate_zero, List.set_cons_zero, List.set_cons_succ, List.getElem?_cons_zero, List.getElem?_cons_succ, Option.getD_some, map_c, map_n, List.cons_append, List.nil_append, bin_lss, decide_false, hf, c.ldc (t.1.set p.toNat true, t.2)]
        refine CallK.of (hrec h (t.1.set p.toNat true, t.2) ⟨by omega, by omega⟩ (by simp [tl]) tg (by simp only; omega)) ?_
        generalize chF (lists ws) m h (t.1.set p.toNat true, t.2) = r at *
        by_cases hr : r.1 = true
        · rw [if_pos hr] at te
          have hg2 := (hpost.yes hr).1
          have hgl2 : r.2.2.length = ws.length := by rw [← hlsn]; exact hg2.len
          have hog2 := c.olg r.2 hgl2
          have hst2 := hog2.st (i := i.toNat) (by rw [hgl2]; exact hltw) (I p) p rfl
          rw [c.setG] at hst2
          simp (maxSteps := 4000000) -implicitDefEqProofs -dsimp (disch := omega) only [↓AW_ops, ↓AW_seq, ↓AW_cond, ↓AW_ret, ↓AOps_nil, ↓AOps_pu, ↓AOps_ld, ↓AOps_ha, on_some, extK_false, condB_t, ↓then_normal, ↓then_ret, ↓inBlock_ret, ↓Fin_ret, pval, lval, hval_st, rd_S, rd_C, put_S, putS_none, resV, resL, mk, List.foldl_cons, List.foldl_nil, List.replicate_succ, List.replicate_zero, List.set_cons_zero, List.set_cons_succ, List.getElem?_cons_zero, List.getElem?_cons_succ, Option.getD_some, Option.map_some, Nat.zero_add, if_false, Bool.false_eq_true, hr, (c.ldw r.2).2.1, hog2.ls.idxI (k := .i64) hi.1 (by rw [hgl2]; exact hi.2), hst2]
          exact gc_same_all (by rw [te]) (by rw [te])
        · rw [if_neg hr] at te
          have hr' : r.1 = false := by simpa using hr
          simp (maxSteps := 4000000) -implicitDefEqProofs -dsimp (disch := omega) only [↓AW_skip, ↓AW_ops, ↓AW_cond, ↓AOps_nil, ↓AOps_pu, on_some, extK_false, condB_f, ↓then_normal, ↓inBlock_normal, pval, rd_S, rd_C, put_S, putS_none, eq_self, mk, List.foldl_cons, List.foldl_nil, List.replicate_succ, List.replicate_zero, List.set_cons_zero, List.set_cons_succ, List.getElem?_cons_zero, List.getElem?_cons_succ, Option.getD_some, List.length_cons, List.length_nil, Nat.reduceAdd, Nat.zero_add, bin_add, w64, if_false, Bool.false_eq_true, true_and, hr']
          have hno := hpost.no hr'
          have hcn := hpost.cnt
          simp only at hcn
          refine ⟨(k + 1, r.2), ⟨hltk, by simp only; rw [hpost.len]; simp [tl], by simp only; rw [hno.1]; exact tg, by simp only; omega, te⟩, by simp [Has, rd_s], rfl, by simp only; omega⟩
  · have hltk' : ¬ ((k : Int) < x.2.length) := by omega
    rw [List.drop_of_length_le (by omega), goF] at te
    simp (maxSteps := 4000000) -implicitDefEqProofs -dsimp (disch := omega) only [↓AW_ops, ↓AW_seq, ↓AW_cond, ↓AW_exit, ↓AW_ret, ↓AOps_nil, ↓AOps_pu, on_some, condB_f, ↓then_normal, ↓then_exit, ↓inBlock_exit, ↓Fin_ret, pval, rd_S, rd_C, put_S, resV, resL, eq_self, mk, List.foldl_cons, List.foldl_nil, List.replicate_succ, List.replicate_zero, List.set_cons_zero, List.set_cons_succ, List.getElem?_cons_zero, List.getElem?_cons_succ, Option.getD_some, bin_lss, if_true, decide_false, hltk']
    exact gc_same_all (by rw [te]) (by rw [te])
theorem s101 {P : Int} {ws : List (AV × List Int)} {A H : AHeap} {v : AV} {nw ns nc na ng : Nat} {fa fg : Bool} (hv : Val P (lists ws)) (hw : LL A v ws) (c : Ctx P A H v nw ns nc na ng ws.length fa fg) :
    ∀ (m : Nat) (i : Int) (s : St), inP ws.length i → s.1.length = P.toNat → Good P (lists ws) s.2 → unseen s.1 ≤ m →
      ACalls Try.prog 101 [I i, .ptr nw 0, .ptr ns 0, .ptr nc 0] (hpS H na ng s) (B (chF (lists ws) (m + 1) i s).1) (hpS H na ng (chF (lists ws) (m + 1) i s).2)
  | 0, i, s, hi, hl, hg, hm => s101_step hv hw c 0 (fun _ _ _ _ _ h => by omega) i s hi hl hg hm
  | m + 1, i, s, hi, hl, hg, hm => s101_step hv hw c (m + 1) (fun j t h1 h2 h3 h4 => s101 hv hw c m j t h1 h2 h3 (by omega)) i s hi hl hg hm
end Go.Proofs.Ytlmbobbefgcolaa

namespace Go.Proofs.Ytlmbobbefgcolaa
open Go Go.Eng
theorem flat_take {α : Type} {es : Nat} {e : α → List AV} (he : ∀ x, (e x).length = es) (xs : List α) (m : Nat) (hm : m ≤ xs.length) : (xs.flatMap e).take (m * es) = (xs.take m).flatMap e := by
  have h1 := flatMap_length he (xs.take m)
  rw [List.length_take, Nat.min_eq_left hm] at h1
  conv => lhs; rw [← List.take_append_drop m xs, List.flatMap_append]
  rw [← h1, List.take_left]
theorem flat_drop {α : Type} {es : Nat} {e : α → List AV} (he : ∀ x, (e x).length = es) (xs : List α) (m : Nat) (hm : m ≤ xs.length) : (xs.flatMap e).drop (m * es) = (xs.drop m).flatMap e := by
  have h1 := flatMap_length he (xs.take m)
  rw [List.length_take, Nat.min_eq_left hm] at h1
  conv => lhs; rw [← List.take_append_drop m xs, List.flatMap_append]
  rw [← h1, List.drop_left]
/-- A copy into a list that the call has made. -/
theorem OL_cpy {α : Type} {es : Nat} {e : α → List AV} {A H : AHeap} {n : Nat} {v : AV} {xs ys : List α} (h : OL es e A H n v xs) {y : AV} (hy : Ls es e H y ys) (m : Nat) (hm : m ≤ xs.length) (full : Bool) :
    cpA es (.sl es n (m * es) (xs.length - m) full) y H = some (I ((min ys.length (xs.length - m) : Nat) : Int), H.set n (.cells true ((xs.take m ++ ys.take (min ys.length (xs.length - m)) ++ xs.drop (m + min ys.length (xs.length - m))).flatMap e))) := by
  have hl := flatMap_length h.he xs
  have hs : (xs.length - m) * es = xs.length * es - m * es := Nat.sub_mul _ _ _
  have hmm : m * es ≤ xs.length * es := Nat.mul_le_mul_right _ hm
  have hk : min ys.length (xs.length - m) ≤ ys.length := Nat.min_le_left _ _
  have hk2 : m + min ys.length (xs.length - m) ≤ xs.length := by omega
  unfold cpA
  simp only [hy.hc, h.ob, if_true]
  rw [if_pos (by omega)]
  congr 2
  congr 2
  unfold splice
  rw [flat_take h.he xs m hm, flat_take h.he ys _ hk]
  have h3 := flatMap_length h.he (ys.take (min ys.length (xs.length - m)))
  rw [List.length_take, Nat.min_eq_left hk] at h3
  rw [h3, ← Nat.add_mul, flat_drop h.he xs _ hk2]
  simp only [List.flatMap_append]
theorem OL_setAll {α : Type} {es : Nat} {e : α → List AV} {A H : AHeap} {n : Nat} {v : AV} {xs : List α} (h : OL es e A H n v xs) (xs' : List α) (hl : xs'.length = xs.length) : OL es e A (H.set n (.cells true (xs'.flatMap e))) n v xs' := by
  have hn := h.lt
  obtain ⟨he, h1, h2, h3, full, rfl⟩ := h
  exact ⟨he, pre_set h1 h2 _, h2, by rw [List.getElem?_set_self hn], full, by rw [hl]⟩
/-- A call that looks at nothing in the heap, with two results. -/
theorem ACalls_lift2 {P : Program} {f : FuncId} {args : List AV} {a b : AV} {H' : AHeap} (h : ACalls P f args [] (.tuple [a, b]) H') (ha : ∀ x ∈ args, flat x = true) (h1 : flat a = true) (h2 : flat b = true) (H : AHeap) : ACalls P f args H (.tuple [a, b]) H := by
  refine ⟨h.1, fun ρ w cargs hs hargs => ?_⟩
  have s0 : Sim (fun _ => none) [] w := ⟨fun _ _ e => (by cases e), fun _ _ _ e => (by cases e), fun _ _ _ _ e => (by cases e)⟩
  have fl : ∀ {ρ ρ' : Ren} {x : AV} {u : Value}, flat x = true → VR ρ x u → VR ρ' x u := by
    intro ρ ρ' x u hx hr
    cases hr <;> simp [flat] at hx <;> constructor
  have a0 : LR (fun _ => none) args cargs.toList := ⟨hargs.1, fun i x u hx hu => fl (ha x (List.mem_of_getElem? hx)) (hargs.2 i x u hx hu)⟩
  refine (h.2 _ w cargs s0 a0).mono ?_
  rintro e w' ⟨ρ', cv, rfl, hv, _, h3⟩
  have hk : ∀ b, b < w.heap.size → w'.heap[b]? = w.heap[b]? := fun b hb => h3.keep b hb (fun ⟨n, L, e, _⟩ => (by cases e))
  have hv' : VR ρ (.tuple [a, b]) cv := by
    cases hv with
    | tuple _ vs hl hh =>
      refine .tuple _ _ hl (fun i x u hx hu => ?_)
      match i with
      | 0 => simp at hx; subst hx; exact fl h1 (hh 0 _ u rfl hu)
      | 1 => simp at hx; subst hx; exact fl h2 (hh 1 _ u rfl hu)
      | i + 2 => simp at hx
  refine ⟨ρ, cv, rfl, hv', hs.world h3.size (fun n L e => hk _ (hs.dom n L e).2), ⟨fun _ _ => rfl, Nat.le_refl _, h3.os, h3.tape, h3.out, h3.size, fun b hb _ => hk b hb, fun _ h => .inr h, fun n L e => .inl (hs.dom n L e).1⟩⟩
theorem u64w (n : Int) (h0 : 0 ≤ n) (h1 : n < 9223372036854775808) : IntKind.u64.wrap n = n := by
  have e : IntKind.u64.wrap n = n % 18446744073709551616 := by simp [IntKind.wrap, IntKind.bits, IntKind.signed]
  rw [e]; omega
theorem OL_gcS {α : Type} {es : Nat} {e : α → List AV} {A H : AHeap} {n : Nat} {v : AV} {xs : List α} (h : OL es e A H n v xs) (hf : ∀ x, ∀ y ∈ e x, flat y = true) : GC A v H (.sl es A.length 0 xs.length false) (A ++ [.cells true (xs.flatMap e)]) := by
  obtain ⟨he, h1, h2, h3, full, rfl⟩ := h
  have hfl : ∀ y ∈ xs.flatMap e, flat y = true := fun y hy => by
    obtain ⟨x, _, hx⟩ := List.mem_flatMap.1 hy
    exact hf x y hx
  refine gc_weak (fun ρ c => VR.unfull) ?_
  have hk := Keep.add (keep_old h1) (n := n) (o := .cells true (xs.flatMap e)) h2 (by simp; omega) h3
  simp only [renO, ren_flats _ 3 _ hfl] at hk
  exact gc_keep hk (by simp [ren])
theorem rep_step {α : Type} (r z : α) {n m : Nat} (hm : m ≤ n) :
    (List.replicate m r ++ List.replicate (n - m) z).take m ++ ((List.replicate m r ++ List.replicate (n - m) z).take m).take (min m (n - m)) ++ (List.replicate m r ++ List.replicate (n - m) z).drop (m + min m (n - m)) = List.replicate (m + min m (n - m)) r ++ List.replicate (n - (m + min m (n - m))) z := by
  have h1 : (List.replicate m r ++ List.replicate (n - m) z).take m = List.replicate m r := by
    rw [List.take_append_of_le_length (by simp), List.take_of_length_le (by simp)]
  rw [h1, List.take_replicate, List.drop_append]
  simp only [List.length_replicate, List.drop_replicate]
  rw [show min (min m (n - m)) m = min m (n - m) by omega, show m - (m + min m (n - m)) = 0 by omega, show m + min m (n - m) - m = min m (n - m) by omega, show n - m - min m (n - m) = n - (m + min m (n - m)) by omega]
  rw [List.replicate_zero, List.nil_append, List.replicate_append_replicate]
theorem LR_flat {ρ ρ' : Ren} {cs : List AV} {vs : List Value} (hf : ∀ x ∈ cs, flat x = true) (h : LR ρ cs vs) : LR ρ' cs vs := by
  refine ⟨h.1, fun i x v hx hv => ?_⟩
  have h1 := h.2 i x v hx hv
  have hx' := hf x (List.mem_of_getElem? hx)
  cases h1 <;> simp [flat] at hx' <;> constructor
/-- Nothing is kept but what was there, of which some lists may have turned. -/
theorem keep_mod {H H1 H' : AHeap} (hl : H'.length = H.length) (hp : H' <+: H1) (hm : ∀ n, n < H.length → H'[n]? = H[n]? ∨ (live H n ∧ ∃ rw cs, H'[n]? = some (.cells rw cs) ∧ ∀ x ∈ cs, flat x = true)) :
    Keep H H1 (fun n => if n < H.length then some n else none) H' := by
  intro ρ0 w0 ρ1 w1 s0 s1 st
  have hsub := st.sub s0
  have get : ∀ n, n < H.length → H1[n]? = H'[n]? := fun n hn => by
    obtain ⟨t, rfl⟩ := hp
    rw [List.getElem?_append_left (by omega)]
  have lv : ∀ n, n < H.length → live H' n → live H n := fun n hn h => by
    rcases hm n hn with e | ⟨e, _⟩
    · unfold live at *; rw [← e]; exact h
    · exact e
  refine ⟨ρ0, ⟨fun n L e => ⟨by rw [hl]; exact (s0.dom n L e).1, Nat.lt_of_lt_of_le (s0.dom n L e).2 st.size⟩, fun n L o e ho => ?_, fun n m L M hn hm' hne l1 l2 => s0.sep n m L M hn hm' hne (lv n (s0.dom n L hn).1 l1) (lv m (s0.dom m M hm').1 l2)⟩,
    ⟨fun _ _ => rfl, by omega, st.os, st.tape, st.out, st.size, st.keep, fun b ⟨n, L, h1, h2, h3, h4⟩ => .inr ⟨n, L, h1, h2, h3, lv n (s0.dom n L h1).1 h4⟩, fun n L e => .inl (s0.dom n L e).1⟩, ?_, ?_⟩
  · have hn := (s0.dom n L e).1
    have h1 := s1.obj n L o (hsub n L e) (by rw [get n hn]; exact ho)
    rcases hm n hn with e1 | ⟨_, rw, cs, e1, hf⟩
    · rw [e1] at ho
      have h0 := s0.obj n L o e ho
      cases o with
      | dead => trivial
      | cells rw l =>
        cases hb0 : w0.heap[L.b]? with
        | none => rw [hb0] at h0; exact h0.elim
        | some b0 =>
          rw [hb0] at h0
          cases b0 <;> try exact h0.elim
          cases hb : w1.heap[L.b]? with
          | none => rw [hb] at h1; exact h1.elim
          | some b =>
            rw [hb] at h1
            cases b <;> first | exact h1.elim | exact ⟨h1.1, h1.2.1, LR.back hsub h0.2.2.1 h1.2.2.1, h1.2.2.2⟩
      | mp l =>
        cases hb0 : w0.heap[L.b]? with
        | none => rw [hb0] at h0; exact h0.elim
        | some b0 =>
          rw [hb0] at h0
          cases b0 <;> try exact h0.elim
          cases hb : w1.heap[L.b]? with
          | none => rw [hb] at h1; exact h1.elim
          | some b =>
            rw [hb] at h1
            cases b <;> first | exact h1.elim | exact ⟨h1.1, LR.back hsub h0.2.1 h1.2.1, LR.back hsub h0.2.2 h1.2.2⟩
    · rw [e1] at ho
      cases ho
      cases hb : w1.heap[L.b]? with
      | none => rw [hb] at h1; exact h1.elim
      | some b =>
        rw [hb] at h1
        cases b <;> first | exact h1.elim | exact ⟨h1.1, h1.2.1, LR_flat hf h1.2.2.1, h1.2.2.2⟩
  · intro n m L hf hn
    simp only at hf
    split at hf
    · rename_i hlt
      cases hf
      rw [← st.old n hlt]; exact hn
    · cases hf
  · intro m L e
    have hm' := (s0.dom m L e).1
    refine ⟨m, by simp [hm'], hsub m L e, fun h => ?_⟩
    unfold live at *
    rw [get m hm']; exact h
/-- One list has turned, and all that is new is dropped. -/
theorem gc_set {H H1 : AHeap} {n : Nat} {cs cs' : List AV} {rw : Bool} (hn : H[n]? = some (.cells rw cs)) (hf : ∀ x ∈ cs', flat x = true) (hp : H.set n (.cells rw cs') <+: H1) {v : AV} (hv : flat v = true) : GC H v H1 v (H.set n (.cells rw cs')) := by
  have hlt := (List.getElem?_eq_some_iff.1 hn).1
  refine gc_keep (keep_mod (by simp) hp (fun k hk => ?_)) (ren_flat _ 3 v hv)
  by_cases h : k = n
  · subst h
    exact .inr ⟨⟨_, hn, by simp⟩, rw, cs', by rw [List.getElem?_set_self hlt], hf⟩
  · exact .inl (by rw [List.getElem?_set_ne (Ne.symm h)])
theorem set_same {α : Type} {l : List α} {n : Nat} {x : α} (h : l[n]? = some x) : l.set n x = l := by
  have hlt := (List.getElem?_eq_some_iff.1 h).1
  have hx := (List.getElem?_eq_some_iff.1 h).2
  rw [← hx]
  exact List.set_getElem_self hlt
end Go.Proofs.Ytlmbobbefgcolaa

namespace Go.Proofs.Ytlmbobbefgcolaa
open Go Go.Eng
theorem st_new (A : AHeap) (x y : AV) (hx : x.cells? = some [x]) : stA 1 (.ptr A.length 0) x (A ++ [.cells true [y]]) = some (A ++ [.cells true [x]]) := by
  simp [stA, hx, splice]
theorem repl_false (n : Nat) : repl [AV.bool false] n = (List.replicate n false).flatMap eb := by
  induction n with
  | zero => rfl
  | succ n ih => rw [repl, ih, List.replicate_succ, List.flatMap_cons]; rfl
theorem s92 {P : Int} {ws : List (AV × List Int)} {A H : AHeap} {v : AV} {ng : Nat} {fg : Bool} {g : List Int} (hv : Val P (lists ws)) (hw : LL A v ws) (ho : OL 1 e1 A H ng (.sl 1 ng 0 ws.length fg) g) (hg : Good P (lists ws) g) (i : Int) (hi : inP ws.length i) :
    ACalls Try.prog 92 [.agg [I P, v, .sl 1 ng 0 ws.length fg], I i] H (B (chF (lists ws) (P.toNat + 1) i (List.replicate P.toNat false, g)).1) (H.set ng (.cells true ((chF (lists ws) (P.toNat + 1) i (List.replicate P.toNat false, g)).2.2.flatMap e1))) := by
  refine acalls hmix Try.func92 (by kernel_rfl) t92 2 rfl (by decide) ?_
  have hP := hv.hP
  have hls : ∀ l ∈ lists ws, ∀ p ∈ l, inP P p := fun l hl => (hv.l l hl).1
  have hP0 : 0 ≤ P := by omega
  have hPl : P ≤ (lim : Int) := by simp [lim]; omega
  have hlt := ho.lt
  dsimp only [m92]
  simp (maxSteps := 4000000) -implicitDefEqProofs -dsimp (disch := omega) only [↓AW_ops, ↓AW_seq, ↓AOps_nil, ↓AOps_pu, ↓AOps_ld, ↓AOps_ha, on_some, extK_app, ↓then_normal, pval, lval, hval_st, hval_newv, hval_mks, rd_S, rd_C, put_S, cells_agg, cells_nilS, beq_self_eq_true, List.replicate_succ, List.replicate_zero, List.set_cons_zero, List.set_cons_succ, List.getElem?_cons_zero, List.getElem?_cons_succ, Option.getD_some, Nat.reduceSub, Nat.add_zero, List.cons_append, List.nil_append, if_true, and_true, ld_new, hP0, hPl, Int.le_refl]
  rw [repl_false]
  generalize hH1 : H ++ [.cells true [I P, v, .sl 1 ng 0 ws.length fg]] = H1
  generalize hH2 : H1 ++ [.cells true ((List.replicate P.toNat false).flatMap eb)] = H2
  have st1 : stA 1 (.ptr H2.length 0) (.sl 1 H1.length 0 P.toNat true) (H2 ++ [.cells true [.nilS]]) = some (H2 ++ [.cells true [.sl 1 H1.length 0 P.toNat true]]) := st_new H2 _ _ rfl
  simp (maxSteps := 4000000) -implicitDefEqProofs -dsimp (disch := omega) only [↓AW_ops, ↓AW_seq, ↓AOps_nil, ↓AOps_pu, ↓AOps_ha, on_some, extK_false, extK_app, ↓then_normal, pval, hval_st, hval_newv, rd_S, rd_C, put_S, putS_none, cells_nilF, List.replicate_succ, List.replicate_zero, List.set_cons_zero, List.set_cons_succ, List.getElem?_cons_zero, List.getElem?_cons_succ, Option.getD_some, Option.map_some, map_c, map_n, Nat.reduceSub, List.cons_append, List.nil_append, st1]
  generalize hH3 : H2 ++ [.cells true [.sl 1 H1.length 0 P.toNat true]] = H3
  have st2 : stA 1 (.ptr H3.length 0) (.fn 101 [.ptr H.length 0, .ptr H2.length 0, .ptr H3.length 0]) (H3 ++ [.cells true [.nilF]]) = some (H3 ++ [.cells true [.fn 101 [.ptr H.length 0, .ptr H2.length 0, .ptr H3.length 0]]]) := st_new H3 _ _ rfl
  simp (maxSteps := 4000000) -implicitDefEqProofs -dsimp (disch := omega) only [↓AW_ops, ↓AW_seq, ↓AOps_nil, ↓AOps_pu, ↓AOps_ld, ↓AOps_callv, on_some, extK_false, CallF_fn, ↓then_normal, pval, lval, rd_S, put_S, putS_none, List.replicate_succ, List.replicate_zero, List.set_cons_zero, List.set_cons_succ, List.getElem?_cons_zero, List.getElem?_cons_succ, Option.getD_some, Option.map_some, map_c, map_n, Nat.reduceSub, List.cons_append, List.nil_append, st2, ld_new]
  generalize hH4 : H3 ++ [.cells true [.fn 101 [.ptr H.length 0, .ptr H2.length 0, .ptr H3.length 0]]] = H4
  have l1 : H1.length = H.length + 1 := by rw [← hH1]; simp
  have l2 : H2.length = H.length + 2 := by rw [← hH2]; simp [l1]
  have l3 : H3.length = H.length + 3 := by rw [← hH3]; simp [l2]
  have l4 : H4.length = H.length + 4 := by rw [← hH4]; simp [l3]
  have p34 : H3 <+: H4 := by rw [← hH4]; exact pre_app _ _
  have p24 : H2 <+: H4 := (show H2 <+: H3 by rw [← hH3]; exact pre_app _ _).trans p34
  have p14 : H1 <+: H4 := (show H1 <+: H2 by rw [← hH2]; exact pre_app _ _).trans p24
  have p04 : H <+: H4 := (show H <+: H1 by rw [← hH1]; exact pre_app _ _).trans p14
  have gA : H4[H1.length]? = some (.cells true ((List.replicate P.toNat false).flatMap eb)) := pre_get p24 (by rw [← hH2]; exact get_new _ _)
  have gG : H4[ng]? = some (.cells true (g.flatMap e1)) := pre_get p04 ho.ob
  have hc : Ctx P A H4 v H.length H2.length H3.length H1.length ng ws.length true fg := {
    pre := ho.pre.trans p04
    la := by have := ho.pre.length_le; omega
    lg := ho.new
    ne := by omega
    hna := by omega
    hng := by omega
    w := ⟨true, pre_get p14 (by rw [← hH1]; exact get_new _ _)⟩
    s := ⟨true, pre_get p34 (by rw [← hH3]; exact get_new _ _)⟩
    c := ⟨true, by rw [← hH4]; exact get_new _ _⟩
    w1 := by omega
    w2 := by omega
    s1 := by omega
    s2 := by omega
    c1 := by omega
    c2 := by omega }
  have hsame : hpS H4 H1.length ng (List.replicate P.toNat false, g) = H4 := by
    unfold hpS
    simp only
    rw [set_same gA, set_same gG]
  have h101 := s101 hv hw hc P.toNat i (List.replicate P.toNat false, g) hi (by simp) hg (by simp [unseen])
  rw [hsame] at h101
  refine CallK.of h101 ?_
  simp (maxSteps := 4000000) -implicitDefEqProofs -dsimp (disch := omega) only [↓AW_ret, ↓AOps_nil, ↓AOps_pu, on_some, extK_false, ↓then_normal, ↓Fin_ret, pval, rd_S, put_S, putS_none, resV, resL, List.replicate_succ, List.replicate_zero, List.set_cons_zero, List.set_cons_succ, List.getElem?_cons_zero, List.getElem?_cons_succ, Option.getD_some, Nat.reduceSub, List.cons_append, List.nil_append]
  refine gc_set ho.ob (fun x hx => ?_) ?_ rfl
  · obtain ⟨y, _, hy⟩ := List.mem_flatMap.1 hx
    exact flat_e1 y x hy
  · unfold hpS
    generalize (chF (lists ws) (P.toNat + 1) i (List.replicate P.toNat false, g)).2 = r
    have e4 : H4 = H ++ [.cells true [I P, v, .sl 1 ng 0 ws.length fg], .cells true ((List.replicate P.toNat false).flatMap eb), .cells true [.sl 1 H1.length 0 P.toNat true], .cells true [.fn 101 [.ptr H.length 0, .ptr H2.length 0, .ptr H3.length 0]]] := by
      rw [← hH4, ← hH3, ← hH2, ← hH1]; simp
    have e5 : H4.set H1.length (.cells true (r.1.flatMap eb)) = H ++ ([AObj.cells true [I P, v, .sl 1 ng 0 ws.length fg], .cells true ((List.replicate P.toNat false).flatMap eb), .cells true [.sl 1 H1.length 0 P.toNat true], .cells true [.fn 101 [.ptr H.length 0, .ptr H2.length 0, .ptr H3.length 0]]].set 1 (.cells true (r.1.flatMap eb))) := by
      conv => lhs; rw [e4]
      rw [List.set_append_right (h := by omega), l1, Nat.add_sub_cancel_left]
    rw [e5, List.set_append_left (h := hlt)]
    exact ⟨_, rfl⟩
end Go.Proofs.Ytlmbobbefgcolaa

namespace Go.Proofs.Ytlmbobbefgcolaa
open Go Go.Eng
theorem ren_old {α : Type} {es : Nat} {e : α → List AV} {A : AHeap} {v : AV} {xs : List α} (h : Ls es e A v xs) (f : Nat → Option Nat) (hf : ∀ k, k < A.length → f k = some k) (d : Nat) : ren f (d + 1) v = v := by
  rcases h.inv with ⟨rfl, _⟩ | ⟨n, off, full, rw, l, rfl, h1, _⟩
  · rfl
  · have := hf n (List.getElem?_eq_some_iff.1 h1).1
    simp [ren, this]
theorem gc_agg3 {α : Type} {es : Nat} {e : α → List AV} {A H : AHeap} {v : AV} {xs : List α} (P : Int) (hv : Ls es e A v xs) (hp : A <+: H) {m k : Nat} {cs : List AV} (hm : A.length ≤ m) (ho : H[m]? = some (.cells true cs)) (hf : ∀ x ∈ cs, flat x = true) :
    GC A (.agg [I P, v, .sl 1 m 0 k false]) H (.agg [I P, v, .sl 1 A.length 0 k false]) (A ++ [.cells true cs]) := by
  have hk := Keep.add (keep_old hp) (n := m) (o := .cells true cs) hm (by simp; omega) ho
  simp only [renO, ren_flats _ 3 cs hf] at hk
  refine gc_keep hk ?_
  have hr := ren_old hv (fun j => if j = m then some A.length else if j < A.length then some j else none) (fun j hj => by simp [hj]; omega) 2
  simp [ren, hr]
theorem s83 {xs : List Int} {v : AV} {A : AHeap} (hx : L1 A v xs) (hn : v ≠ .nilS) (hl : xs.length ≤ 1000000) : ACalls Try.prog 83 [v] A (.sl 1 A.length 0 xs.length false) (A ++ [.cells true (xs.flatMap e1)]) := by
  refine acalls hmix Try.func83 (by kernel_rfl) t83 1 rfl (by decide) ?_
  rcases hx.inv with ⟨rfl, _⟩ | ⟨n, off, full, rw, l, rfl, h1, h2, h3⟩
  · exact absurd rfl hn
  · by_cases h0 : xs = []
    · subst h0
      have happ : appA 1 (A ++ [.cells true []]) (.sl 1 A.length 0 0 true) (.sl 1 n off 0 full) = some (.sl 1 A.length 0 0 true, A ++ [.cells true []]) := by
        have hc := (hx.mono (pre_app A [.cells true []])).hc
        rw [List.length_nil] at hc
        unfold appA
        rw [hc]
        simp
      dsimp only [m83]
      simp (maxSteps := 4000000) -implicitDefEqProofs -dsimp (disch := omega) only [↓AW_skip, ↓AW_ops, ↓AW_seq, ↓AW_cond, ↓AW_ret, ↓AOps_nil, ↓AOps_pu, ↓AOps_ha, on_some, extK_app, extK_same, condB_f, ↓then_normal, ↓Fin_ret, pval, hval_blds, hval_app, rd_S, rd_C, put_S, resV, resL, fillA, repl, List.replicate_succ, List.replicate_zero, List.set_cons_zero, List.set_cons_succ, List.getElem?_cons_zero, List.getElem?_cons_succ, Option.getD_some, map_n, List.length_nil, Nat.reduceSub, List.cons_append, List.nil_append, List.replicate_zero, repl, happ]
      exact OL_gcS (OL.new_mk e1_len A ([] : List Int) true) flat_e1
    · have hpos : 0 < xs.length := List.length_pos_iff.2 h0
      have happ : appA 1 (A ++ [.cells true []]) (.sl 1 A.length 0 0 true) (.sl 1 n off xs.length full) = some (.sl 1 (A ++ [AObj.cells true []]).length 0 (0 + xs.length) false, A ++ [.cells true []] ++ [.cells true (xs.flatMap e1)]) := by
        unfold appA
        rw [(hx.mono (pre_app A [.cells true []])).hc]
        have : xs.length ≠ 0 := by omega
        have h4 : 0 + xs.length ≤ lim := by simp [lim]; omega
        simp [this, lim]
        omega
      dsimp only [m83]
      simp (maxSteps := 4000000) -implicitDefEqProofs -dsimp (disch := omega) only [↓AW_skip, ↓AW_ops, ↓AW_seq, ↓AW_cond, ↓AW_ret, ↓AOps_nil, ↓AOps_pu, ↓AOps_ha, on_some, extK_app, condB_f, ↓then_normal, ↓Fin_ret, pval, hval_blds, hval_app, rd_S, rd_C, put_S, resV, resL, fillA, repl, List.replicate_succ, List.replicate_zero, List.set_cons_zero, List.set_cons_succ, List.getElem?_cons_zero, List.getElem?_cons_succ, Option.getD_some, map_n, Nat.reduceSub, Nat.zero_add, List.cons_append, List.nil_append, List.replicate_zero, repl, happ]
      refine OL_gcS (n := A.length + 1) ⟨e1_len, ?_, by omega, ?_, false, by simp⟩ flat_e1
      · exact (pre_app A _).trans (pre_app _ _)
      · rw [List.getElem?_append_right (by simp)]
        simp
theorem s62 {P : Int} {ws : List (AV × List Int)} {A : AHeap} {v u : AV} {g : List Int} (hv : Val P (lists ws)) (hw : LL A v ws) (hu : L1 A u g) (hun : u ≠ .nilS) (hg : Good P (lists ws) g) :
    ACalls Try.prog 62 [.agg [I P, v, u]] A (.agg [I P, v, .sl 1 A.length 0 ws.length false]) (A ++ [.cells true ((flF P (lists ws) g).flatMap e1)]) := by
  refine acalls hmix Try.func62 (by kernel_rfl) t62 1 rfl (by decide) ?_
  have hls : ∀ l ∈ lists ws, ∀ p ∈ l, inP P p := fun l hl => (hv.l l hl).1
  have hgl : g.length = ws.length := by simpa using hg.len
  have hn : ws.length ≤ 7 := by simpa using hv.n
  dsimp only [m62]
  simp (maxSteps := 4000000) -implicitDefEqProofs -dsimp (disch := omega) only [↓AW_ops, ↓AW_seq, ↓AOps_nil, ↓AOps_pu, ↓AOps_call, on_some, ↓then_normal, pval, rd_S, rd_C, put_S, chkd, isAdr, bgot, cells_agg, partA, eq_self, List.replicate_succ, List.replicate_zero, List.set_cons_zero, List.set_cons_succ, List.getElem?_cons_zero, List.getElem?_cons_succ, List.drop_zero, List.drop_succ_cons, List.take_succ_cons, List.take_nil, Option.getD_some, map_c, map_n, List.length_cons, List.length_nil, Nat.reduceAdd, Nat.reduceSub, Nat.reduceLeDiff, Nat.zero_add, List.cons_append, List.nil_append, if_true, if_false, Bool.false_eq_true]
  refine CallK.of (s83 hu hun (by omega)) ?_
  rw [hgl]
  have hlen : ∀ k, k ≤ ws.length → Good P (lists ws) ((List.range k).foldl (flStep P (lists ws)) g) := fun k hk => (fl_inv hls hg k (by simpa using hk)).1
  have hOL : ∀ k, k ≤ ws.length → OL 1 e1 A (A ++ [.cells true (((List.range k).foldl (flStep P (lists ws)) g).flatMap e1)]) A.length (.sl 1 A.length 0 ws.length false) ((List.range k).foldl (flStep P (lists ws)) g) := fun k hk => by
    have h := OL.new_mk e1_len A ((List.range k).foldl (flStep P (lists ws)) g) false
    have : ((List.range k).foldl (flStep P (lists ws)) g).length = ws.length := by simpa using (hlen k hk).len
    rwa [this] at h
  have hln : lenA (.sl 1 A.length 0 ws.length false) = some (I ws.length) := rfl
  simp (maxSteps := 4000000) -implicitDefEqProofs -dsimp (disch := omega) only [↓AW_ops, ↓AW_seq, ↓AW_block, ↓AOps_nil, ↓AOps_pu, on_some, extK_app, ↓then_normal, pval, rd_S, rd_C, put_S, ↓AW_toLoop, chkd, isAdr, bput, bgot, cells_agg, cells_sl, splice, partA, eq_self, List.replicate_succ, List.replicate_zero, List.set_cons_zero, List.set_cons_succ, List.getElem?_cons_zero, List.getElem?_cons_succ, List.drop_zero, List.drop_succ_cons, List.drop_nil, List.take_zero, List.take_succ_cons, List.take_nil, Option.getD_some, List.length_cons, List.length_nil, Nat.reduceAdd, Nat.reduceSub, Nat.reduceLeDiff, Nat.zero_add, List.cons_append, List.nil_append, List.append_nil, if_true, if_false, Bool.false_eq_true, ne_eq, not_true_eq_false, hln]
  refine LoopK.by 25 (fun i : Nat => i ≤ ws.length) (fun i => [(1, .agg [I P, v, .sl 1 A.length 0 ws.length false]), (2, .agg [.int .i64 0, .nilS, .nilS]), (10, I ws.length), (11, I i)]) (fun i => A ++ [.cells true (((List.range i).foldl (flStep P (lists ws)) g).flatMap e1)]) (fun i => ws.length - i) 0 (by omega) rfl (by simp [Has, rd_s]) rfl ?_
  intro i hi
  by_cases hlt : i < ws.length
  · have hlt' : (i : Int) < ws.length := by omega
    have ho := hOL i hi
    have hgi := hlen i hi
    have hstep : (List.range (i + 1)).foldl (flStep P (lists ws)) g = flStep P (lists ws) ((List.range i).foldl (flStep P (lists ws)) g) i := by rw [List.range_succ, List.foldl_append]; rfl
    generalize (List.range i).foldl (flStep P (lists ws)) g = gi at *
    have hgil : gi.length = ws.length := by simpa using hgi.len
    obtain ⟨z, hz⟩ : ∃ z, gi[i]? = some z := ⟨_, List.getElem?_eq_getElem (by omega)⟩
    have hhz := has_get hz
    by_cases h0 : z < 0
    · have hfs : flStep P (lists ws) gi i = (chF (lists ws) (P.toNat + 1) i (List.replicate P.toNat false, gi)).2.2 := by unfold flStep; rw [hhz, if_pos h0]
      simp (maxSteps := 4000000) -implicitDefEqProofs -dsimp (disch := omega) only [↓AW_skip, ↓AW_ops, ↓AW_seq, ↓AW_cond, ↓AW_block, ↓AOps_nil, ↓AOps_pu, ↓AOps_ld, ↓AOps_call, on_some, condB_t, ↓then_normal, pval, lval, rd_S, rd_C, put_S, chkd, isAdr, bgot, cells_agg, partA, eq_self, mk, List.foldl_cons, List.foldl_nil, List.replicate_succ, List.replicate_zero, List.set_cons_zero, List.set_cons_succ, List.getElem?_cons_zero, List.getElem?_cons_succ, List.drop_zero, List.drop_succ_cons, List.take_succ_cons, List.take_nil, Option.getD_some, map_c, map_n, List.length_cons, List.length_nil, Nat.reduceAdd, Nat.reduceLeDiff, Nat.reduceEqDiff, Nat.zero_add, bin_lss, if_true, if_false, Bool.false_eq_true, decide_true, Go.Eng.e1, hlt', ho.ls.idx (show i < gi.length by omega), ho.ls.ld0 hz 1 false (by decide), h0]
      have h92 := s92 hv hw ho hgi (i : Int) ⟨by omega, by omega⟩
      rw [set_new] at h92
      refine CallK.of h92 ?_
      simp (maxSteps := 4000000) -implicitDefEqProofs -dsimp (disch := omega) only [↓AW_ops, ↓AOps_nil, ↓AOps_pu, on_some, extK_false, ↓then_normal, ↓inBlock_normal, pval, rd_S, rd_C, put_S, eq_self, mk, List.foldl_cons, List.foldl_nil, List.replicate_succ, List.replicate_zero, List.set_cons_zero, List.set_cons_succ, List.getElem?_cons_zero, List.getElem?_cons_succ, Option.getD_some, List.length_cons, List.length_nil, Nat.reduceAdd, Nat.zero_add, bin_add, w64, true_and]
      exact ⟨i + 1, hlt, by simp [Has, rd_s], by rw [hstep, hfs], by omega⟩
    · have hfs : flStep P (lists ws) gi i = gi := by unfold flStep; rw [hhz, if_neg h0]
      simp (maxSteps := 4000000) -implicitDefEqProofs -dsimp (disch := omega) only [↓AW_skip, ↓AW_ops, ↓AW_seq, ↓AW_cond, ↓AW_block, ↓AOps_nil, ↓AOps_pu, ↓AOps_ld, on_some, condB_t, condB_f, ↓then_normal, ↓inBlock_normal, pval, lval, rd_S, rd_C, put_S, chkd, isAdr, bgot, cells_agg, partA, eq_self, mk, List.foldl_cons, List.foldl_nil, List.replicate_succ, List.replicate_zero, List.set_cons_zero, List.set_cons_succ, List.getElem?_cons_zero, List.getElem?_cons_succ, List.drop_zero, List.drop_succ_cons, List.take_succ_cons, List.take_nil, Option.getD_some, List.length_cons, List.length_nil, Nat.reduceAdd, Nat.reduceLeDiff, Nat.zero_add, bin_add, bin_lss, w64, if_true, if_false, Bool.false_eq_true, decide_true, decide_false, Go.Eng.e1, true_and, hlt', ho.ls.idx (show i < gi.length by omega), ho.ls.ld0 hz 1 false (by decide), h0]
      exact ⟨i + 1, hlt, by simp [Has, rd_s], by rw [hstep, hfs], by omega⟩
  · have hlt' : ¬ ((i : Int) < ws.length) := by omega
    have hii : i = ws.length := by omega
    subst hii
    simp (maxSteps := 4000000) -implicitDefEqProofs -dsimp (disch := omega) only [↓AW_ops, ↓AW_seq, ↓AW_cond, ↓AW_exit, ↓AW_ret, ↓AOps_nil, ↓AOps_pu, on_some, condB_f, ↓then_normal, ↓then_exit, ↓inBlock_exit, ↓Fin_ret, pval, rd_S, put_S, resV, resL, chkd, bput, bgot, cells_agg, splice, partA, eq_self, mk, List.foldl_cons, List.foldl_nil, List.replicate_succ, List.replicate_zero, List.set_cons_zero, List.set_cons_succ, List.getElem?_cons_zero, List.getElem?_cons_succ, List.drop_zero, List.drop_succ_cons, List.drop_nil, List.take_zero, List.take_succ_cons, List.take_nil, Option.getD_some, List.length_cons, List.length_nil, Nat.reduceAdd, Nat.reduceLeDiff, Nat.reduceEqDiff, Nat.zero_add, List.nil_append, List.append_nil, bin_lss, if_true, if_false, decide_false, ne_eq, not_true_eq_false, hlt']
    refine gc_same_all rfl ?_
    unfold flF
    rw [List.length_map]
end Go.Proofs.Ytlmbobbefgcolaa

namespace Go.Proofs.Ytlmbobbefgcolaa
open Go Go.Eng
def mulOk (n : Nat) : Bool := match runF tab 300 6 102 [.int .u64 1, .int .u64 (n : Int)] [] with
  | some (.tuple [.int .u64 a, .int .u64 b], _) => decide (a = 0) && decide (b = (n : Int))
  | _ => false
set_option maxRecDepth 100000 in
theorem mul_run : ((List.range 65).all mulOk) = true := by kernel_rfl
theorem s102 (n : Nat) (hn : n ≤ 64) (A : AHeap) : ACalls Try.prog 102 [.int .u64 1, .int .u64 (n : Int)] A (.tuple [.int .u64 0, .int .u64 (n : Int)]) A := by
  have h := List.all_eq_true.1 mul_run n (List.mem_range.2 (by omega))
  unfold mulOk at h
  split at h
  · rename_i a b H hr
    simp only [Bool.and_eq_true, decide_eq_true_eq] at h
    obtain ⟨rfl, rfl⟩ := h
    exact ACalls_lift2 (runF_ok hmix tabOK 300 6 102 _ [] _ _ hr) (by simp [flat]) rfl rfl A
  · cases h
theorem s93 {r : Int} {y : AV} {A : AHeap} (hy : L1 A y [r]) (n : Nat) (hn : n ≤ 64) : ACalls Try.prog 93 [y, I n] A (.sl 1 A.length 0 n false) (A ++ [.cells true ((List.replicate n r).flatMap e1)]) := by
  refine acalls hmix Try.func93 (by kernel_rfl) t93 2 rfl (by decide) ?_
  have h0 : ¬ (n : Int) < 0 := by omega
  have hu1 : IntKind.u64.wrap ((1 : Nat) : Int) = 1 := by decide
  have hun := u64w (n : Int) (by omega) (by omega)
  have hbig : ¬ (9223372036854775807 : Int) < n := by omega
  have hn0 : (0 : Int) ≤ n := by omega
  have hnl : (n : Int) ≤ (lim : Int) := by simp [lim]; omega
  dsimp only [m93]
  simp (maxSteps := 4000000) -implicitDefEqProofs -dsimp (disch := omega) only [↓AW_skip, ↓AW_ops, ↓AW_seq, ↓AW_cond, ↓AOps_nil, ↓AOps_pu, ↓AOps_call, on_some, condB_f, ↓then_normal, pval, rd_S, rd_C, put_S, List.replicate_succ, List.replicate_zero, List.set_cons_zero, List.set_cons_succ, List.getElem?_cons_zero, List.getElem?_cons_succ, Option.getD_some, map_c, map_n, List.length_cons, List.length_nil, Nat.reduceSub, Nat.zero_add, List.cons_append, List.nil_append, bin_lss, decide_false, h0, hy.len, hu1, hun]
  refine CallK.of (s102 n hn A) ?_
  simp (maxSteps := 4000000) -implicitDefEqProofs -dsimp (disch := omega) only [↓AW_skip, ↓AW_ops, ↓AW_seq, ↓AW_cond, ↓AOps_nil, ↓AOps_pu, ↓AOps_ha, ↓AOps_guard, on_some, extK_app, extK_same, guardB_ff, condB_f, ↓then_normal, pval, hval_mks, hval_cpy, rd_S, rd_C, put_S, beq_self_eq_true, List.replicate_succ, List.replicate_zero, List.set_cons_zero, List.set_cons_succ, List.getElem?_cons_zero, List.getElem?_cons_succ, Option.getD_some, Nat.reduceSub, List.cons_append, List.nil_append, bin_gtr, w64, if_true, if_false, Bool.false_eq_true, decide_false, and_true, Int.reduceLT, hbig, hn0, hnl, Int.le_refl, Int.toNat_natCast]
  rw [repl_zero]
  have hmk := OL.new_mk e1_len A (List.replicate n (0 : Int)) true
  rw [List.length_replicate] at hmk
  have hc := OL_cpy hmk (hy.mono (pre_app A [.cells true ((List.replicate n (0 : Int)).flatMap Go.Eng.e1)])) 0 (by omega) true
  rw [Nat.zero_mul, Nat.sub_zero, List.length_replicate] at hc
  have hx0 : (List.replicate n (0 : Int)).take 0 ++ [r].take (min 1 n) ++ (List.replicate n (0 : Int)).drop (0 + min 1 n) = List.replicate (min 1 n) r ++ List.replicate (n - min 1 n) (0 : Int) := by
    cases n with
    | zero => rfl
    | succ n => simp [List.replicate_succ]
  have hOL := OL_setAll hmk (List.replicate (min 1 n) r ++ List.replicate (n - min 1 n) (0 : Int)) (by simp; omega)
  rw [show [r].length = 1 from rfl, hx0] at hc
  generalize hvv : AV.sl 1 A.length 0 n true = vv at *
  simp (maxSteps := 4000000) -implicitDefEqProofs -dsimp (disch := omega) only [↓AW_seq, ↓AW_block, ↓AOps_nil, ↓AOps_pu, on_some, extK_false, ↓then_normal, pval, rd_S, put_S, ↓AW_toLoop, List.replicate_succ, List.replicate_zero, List.set_cons_zero, List.set_cons_succ, List.getElem?_cons_zero, List.getElem?_cons_succ, Option.getD_some, Nat.reduceSub, List.cons_append, List.nil_append, hc]
  refine LoopK.by 48 (fun x : Nat × AHeap => x.1 ≤ n ∧ (1 ≤ x.1 ∨ n = 0) ∧ OL 1 e1 A x.2 A.length vv (List.replicate x.1 r ++ List.replicate (n - x.1) (0 : Int))) (fun x => [(7, vv), (8, I x.1)]) (fun x => x.2) (fun x => n - x.1) (min 1 n, _) ⟨by simp only; omega, by simp only; omega, hOL⟩ rfl (by simp [Has, rd_s]) rfl ?_
  rintro ⟨m, A1⟩ ⟨hm, hm1, ho⟩
  simp only at hm hm1 ho
  have hlen : lenA vv = some (I n) := by rw [← hvv]; rfl
  by_cases hlt : m < n
  · have hlt' : (m : Int) < n := by omega
    have hs1 : slcA 1 vv (some (I m)) none none = some (.sl 1 A.length (m * 1) (n - m) true) := by
      rw [← hvv]
      simp [slcA, bnd] <;> omega
    obtain ⟨v', hv', hL⟩ := Ls_takeS ho.ls m (by simp <;> omega)
    have hc2 := OL_cpy ho hL m (by simp <;> omega) true
    have hll : (List.replicate m r ++ List.replicate (n - m) (0 : Int)).length = n := by simp; omega
    have hlt2 : ((List.replicate m r ++ List.replicate (n - m) (0 : Int)).take m).length = m := by rw [List.length_take, hll]; omega
    rw [hll, hlt2, rep_step r _ hm] at hc2
    have hOL2 := OL_setAll ho (List.replicate (m + min m (n - m)) r ++ List.replicate (n - (m + min m (n - m))) (0 : Int)) (by simp; omega)
    simp (maxSteps := 4000000) -implicitDefEqProofs -dsimp (disch := omega) only [↓AW_skip, ↓AW_ops, ↓AW_seq, ↓AW_cond, ↓AW_block, ↓AOps_nil, ↓AOps_pu, ↓AOps_ha, on_some, extK_false, condB_t, ↓then_normal, ↓inBlock_normal, pval, hval_cpy, rd_S, put_S, eq_self, mk, List.foldl_cons, List.foldl_nil, List.replicate_succ, List.replicate_zero, List.set_cons_zero, List.set_cons_succ, List.getElem?_cons_zero, List.getElem?_cons_succ, Option.getD_some, Option.map_some, Option.map_none, List.length_cons, List.length_nil, Nat.reduceAdd, Nat.zero_add, bin_add, bin_lss, w64, decide_true, true_and, hlt', hlen, hs1, hv', hc2]
    refine ⟨(m + min m (n - m), _), ⟨by simp only; omega, by simp only; omega, hOL2⟩, by simp [Has, rd_s], rfl, by simp only; omega⟩
  · have hmn : m = n := by omega
    subst hmn
    rw [Nat.sub_self, List.replicate_zero, List.append_nil] at ho
    simp (maxSteps := 4000000) -implicitDefEqProofs -dsimp (disch := omega) only [↓AW_ops, ↓AW_seq, ↓AW_cond, ↓AW_exit, ↓AW_ret, ↓AOps_nil, ↓AOps_pu, on_some, condB_f, ↓then_normal, ↓then_exit, ↓inBlock_exit, ↓Fin_ret, pval, rd_S, put_S, resV, resL, eq_self, mk, List.foldl_cons, List.foldl_nil, List.replicate_succ, List.replicate_zero, List.set_cons_zero, List.set_cons_succ, List.getElem?_cons_zero, List.getElem?_cons_succ, Option.getD_some, bin_lss, if_true, decide_false, hlen, Int.lt_irrefl]
    have := OL_gcS ho flat_e1
    rwa [List.length_replicate] at this
abbrev noG (ws : List (AV × List Int)) : List Int := List.replicate ws.length (-1)
theorem s63 {P : Int} {ws : List (AV × List Int)} {A : AHeap} {v : AV} (hw : LL A v ws) (hn : ws.length ≤ 64) :
    ACalls Try.prog 63 [.agg [I P, v]] A (.agg [I P, v, .sl 1 A.length 0 ws.length false]) (A ++ [.cells true ((noG ws).flatMap e1)]) := by
  refine acalls hmix Try.func63 (by kernel_rfl) t63 1 rfl (by decide) ?_
  dsimp only [m63]
  simp (maxSteps := 4000000) -implicitDefEqProofs -dsimp (disch := omega) only [↓AW_ops, ↓AW_seq, ↓AOps_nil, ↓AOps_pu, ↓AOps_ha, ↓AOps_call, on_some, extK_app, ↓then_normal, pval, hval_blds, rd_S, rd_C, put_S, chkd, isAdr, bgot, cells_agg, cells_int, splice, partA, fillA, repl, eq_self, List.replicate_succ, List.replicate_zero, List.set_cons_zero, List.set_cons_succ, List.getElem?_cons_zero, List.getElem?_cons_succ, List.drop_zero, List.drop_succ_cons, List.drop_nil, List.take_zero, List.take_succ_cons, List.take_nil, Option.getD_some, map_c, map_n, List.length_cons, List.length_nil, Nat.reduceAdd, Nat.reduceSub, Nat.reduceLeDiff, Nat.reduceEqDiff, Nat.zero_add, List.cons_append, List.nil_append, List.append_nil, if_true, if_false, Bool.false_eq_true, and_true, Int.reduceNeg, hw.ls.len]
  refine CallK.of (s93 (L1_one A (-1)) ws.length hn) ?_
  simp (maxSteps := 4000000) -implicitDefEqProofs -dsimp (disch := omega) only [↓AW_ret, ↓AOps_nil, ↓AOps_pu, on_some, extK_app, ↓then_normal, ↓Fin_ret, pval, rd_S, put_S, resV, resL, chkd, bput, bgot, cells_agg, cells_sl, splice, partA, fillA, eq_self, List.replicate_succ, List.replicate_zero, List.set_cons_zero, List.set_cons_succ, List.getElem?_cons_zero, List.getElem?_cons_succ, List.drop_zero, List.drop_succ_cons, List.drop_nil, List.take_zero, List.take_succ_cons, List.take_nil, Option.getD_some, Option.map_some, map_c, map_n, List.length_cons, List.length_nil, Nat.reduceAdd, Nat.reduceSub, Nat.reduceLeDiff, Nat.reduceEqDiff, Nat.zero_add, List.cons_append, List.nil_append, List.append_nil, if_true, if_false, and_true, ne_eq, not_true_eq_false, Int.reduceNeg]
  refine gc_agg3 P hw.ls ((pre_app A _).trans (pre_app _ _)) (m := (A ++ [AObj.cells true [I (-1)]]).length) (by simp) (get_new _ _) (fun x hx => ?_)
  obtain ⟨y, _, hy⟩ := List.mem_flatMap.1 hx
  exact flat_e1 y x hy
theorem L1_new (A : AHeap) (g : List Int) (n : Nat) (hn : g.length = n) : L1 (A ++ [.cells true (g.flatMap e1)]) (.sl 1 A.length 0 n false) g := by
  have := (OL.new_mk e1_len A g false).ls
  rwa [hn] at this
theorem good_noG {P : Int} {ws : List (AV × List Int)} (hv : Val P (lists ws)) : Good P (lists ws) (noG ws) := by
  have := good_none P (by have := hv.hP; omega) (lists ws)
  rwa [List.length_map] at this
/-- The giving that is returned. -/
def best (P : Int) (ws : List (AV × List Int)) : List Int := flF P (lists ws) (noG ws)
theorem best_good {P : Int} {ws : List (AV × List Int)} (hv : Val P (lists ws)) : Good P (lists ws) (best P ws) := (fl_max (fun l hl => (hv.l l hl).1) (good_noG hv)).1
theorem best_most (P : Int) (ws : List (AV × List Int)) : srv (best P ws) = most P (lists ws) := by
  unfold best most noG
  rw [List.length_map]
theorem best_len {P : Int} {ws : List (AV × List Int)} (hv : Val P (lists ws)) : (best P ws).length = ws.length := by
  simpa using (best_good hv).len
/-- Filled, from nobody on. -/
theorem s62n {P : Int} {ws : List (AV × List Int)} {A : AHeap} {v : AV} (hv : Val P (lists ws)) (hw : LL A v ws) :
    ACalls Try.prog 62 [.agg [I P, v, .sl 1 A.length 0 ws.length false]] (A ++ [.cells true ((noG ws).flatMap e1)]) (.agg [I P, v, .sl 1 (A ++ [AObj.cells true ((noG ws).flatMap e1)]).length 0 ws.length false]) (A ++ [.cells true ((noG ws).flatMap e1)] ++ [.cells true ((best P ws).flatMap e1)]) :=
  s62 hv (hw.mono (pre_app A _)) (L1_new A (noG ws) ws.length (by simp [noG])) (by simp) (good_noG hv)
def mostN (P : Int) (ls : List (List Int)) : Int := if vW P ls = 0 then most P ls else 0
theorem s24 {P : Int} {ws : List (AV × List Int)} {A : AHeap} {v : AV} (hw : LL A v ws) (hs : Sz ws) : ACalls Try.prog 24 [.agg [I P, v]] A (.tuple [I (mostN P (lists ws)), I (vW P (lists ws))]) A := by
  refine acalls hmix Try.func24 (by kernel_rfl) t24 1 rfl (by decide) ?_
  dsimp only [m24]
  simp (maxSteps := 4000000) -implicitDefEqProofs -dsimp (disch := omega) only [↓AW_ops, ↓AW_seq, ↓AOps_nil, ↓AOps_pu, ↓AOps_call, on_some, ↓then_normal, pval, rd_S, rd_C, put_S, chkd, bgot, cells_agg, partA, eq_self, List.replicate_succ, List.replicate_zero, List.set_cons_zero, List.set_cons_succ, List.getElem?_cons_zero, List.getElem?_cons_succ, List.drop_zero, List.take_succ_cons, List.take_nil, Option.getD_some, map_c, map_n, List.length_cons, List.length_nil, Nat.reduceAdd, Nat.reduceSub, Nat.reduceLeDiff, Nat.reduceEqDiff, Nat.zero_add, List.cons_append, List.nil_append, if_true, if_false]
  refine CallK.of (s39 hw hs) ?_
  by_cases h0 : vW P (lists ws) = 0
  · have hv := val_of h0
    have hn : ws.length ≤ 7 := by simpa using hv.n
    simp (maxSteps := 4000000) -implicitDefEqProofs -dsimp (disch := omega) only [↓AW_skip, ↓AW_ops, ↓AW_seq, ↓AW_cond, ↓AOps_nil, ↓AOps_pu, ↓AOps_call, on_some, extK_same, condB_f, ↓then_normal, pval, rd_S, rd_C, put_S, chkd, bgot, partA, eq_self, List.replicate_succ, List.replicate_zero, List.set_cons_zero, List.set_cons_succ, List.getElem?_cons_zero, List.getElem?_cons_succ, List.drop_zero, List.take_succ_cons, List.take_nil, Option.getD_some, map_c, map_n, List.length_cons, List.length_nil, Nat.reduceAdd, Nat.reduceSub, Nat.reduceLeDiff, Nat.reduceEqDiff, Nat.zero_add, List.cons_append, List.nil_append, bin_neq, if_true, if_false, decide_false, not_true_eq_false, h0]
    refine CallK.of (s63 hw (by omega)) ?_
    simp (maxSteps := 4000000) -implicitDefEqProofs -dsimp (disch := omega) only [↓AOps_call, extK_app, rd_S, put_S, List.replicate_succ, List.replicate_zero, List.set_cons_zero, List.set_cons_succ, List.getElem?_cons_zero, List.getElem?_cons_succ, Option.getD_some, map_c, map_n, Nat.reduceSub, List.cons_append, List.nil_append]
    refine CallK.of (s62n hv hw) ?_
    simp (maxSteps := 4000000) -implicitDefEqProofs -dsimp (disch := omega) only [↓AOps_pu, ↓AOps_call, on_some, extK_app, pval, rd_S, put_S, partA, eq_self, List.replicate_succ, List.replicate_zero, List.set_cons_zero, List.set_cons_succ, List.getElem?_cons_zero, List.getElem?_cons_succ, List.drop_zero, List.drop_succ_cons, List.take_succ_cons, List.take_nil, Option.getD_some, map_c, map_n, List.length_cons, List.length_nil, Nat.reduceAdd, Nat.reduceSub, Nat.reduceLeDiff, Nat.zero_add, List.cons_append, List.nil_append, if_true, if_false, Bool.false_eq_true]
    refine CallK.of (s61 (L1_new _ (best P ws) ws.length (best_len hv)) (by rw [best_len hv]; omega)) ?_
    rw [best_most]
    simp (maxSteps := 4000000) -implicitDefEqProofs -dsimp (disch := omega) only [↓AW_ret, ↓AOps_nil, ↓AOps_pu, on_some, extK_same, ↓then_normal, ↓Fin_ret, pval, rd_S, rd_C, put_S, resV, resL, List.replicate_succ, List.replicate_zero, List.set_cons_zero, List.set_cons_succ, List.getElem?_cons_zero, List.getElem?_cons_succ, Option.getD_some, Nat.reduceSub, List.cons_append, List.nil_append]
    exact gc_val ((pre_app A _).trans (pre_app _ _)) (by simp [mostN, h0, ren])
  · simp (maxSteps := 4000000) -implicitDefEqProofs -dsimp (disch := omega) only [↓AW_ops, ↓AW_seq, ↓AW_cond, ↓AW_ret, ↓AOps_nil, ↓AOps_pu, on_some, extK_same, condB_t, ↓then_normal, ↓then_ret, ↓Fin_ret, pval, rd_S, rd_C, put_S, resV, resL, List.replicate_succ, List.replicate_zero, List.set_cons_zero, List.set_cons_succ, List.getElem?_cons_zero, List.getElem?_cons_succ, Option.getD_some, Nat.reduceSub, List.cons_append, List.nil_append, bin_neq, decide_true, not_false_eq_true, h0]
    exact gc_same (by simp [mostN, h0])
end Go.Proofs.Ytlmbobbefgcolaa

namespace Go.Proofs.Ytlmbobbefgcolaa
open Go Go.Eng
/-- A list of truth values, by a function. -/
def tb (N : Nat) (f : Nat → Bool) : List Bool := (List.range N).map f
end Go.Proofs.Ytlmbobbefgcolaa

namespace Go.Proofs.Ytlmbobbefgcolaa
open Go Go.Eng
end Go.Proofs.Ytlmbobbefgcolaa

namespace Go.Proofs.Ytlmbobbefgcolaa
open Go Go.Eng
/-- The one list does not come behind the other one. -/
def leL : List Int → List Int → Bool
  | a :: a1, b :: b1 => decide (a < b) || (a == b && leL a1 b1)
  | _, _ => true
theorem leL_cons {a b : Int} {a1 b1 : List Int} : leL (a :: a1) (b :: b1) = true ↔ a < b ∨ (a = b ∧ leL a1 b1 = true) := by
  simp [leL]
theorem leL_refl : ∀ a : List Int, leL a a = true
  | [] => rfl
  | a :: a1 => leL_cons.2 (.inr ⟨rfl, leL_refl a1⟩)
theorem leL_trans : ∀ {a b c : List Int}, a.length = b.length → b.length = c.length → leL a b = true → leL b c = true → leL a c = true
  | [], _, _, _, _, _, _ => by simp [leL]
  | a :: a1, b :: b1, c :: cs, h1, h2, h3, h4 => by
    rw [leL_cons] at *
    rcases h3 with h3 | ⟨h3, h5⟩
    · rcases h4 with h4 | ⟨h4, h6⟩
      · exact .inl (by omega)
      · exact .inl (by omega)
    · rcases h4 with h4 | ⟨h4, h6⟩
      · exact .inl (by omega)
      · exact .inr ⟨by omega, leL_trans (by simpa using h1) (by simpa using h2) h5 h6⟩
  | a :: a1, [], _, h1, _, _, _ => by simp at h1
  | a :: a1, b :: b1, [], _, h2, _, _ => by simp at h2
theorem leL_total : ∀ a b : List Int, leL a b = true ∨ leL b a = true
  | [], _ => .inl (by simp [leL])
  | a :: a1, [] => .inr (by simp [leL])
  | a :: a1, b :: b1 => by
    rw [leL_cons, leL_cons]
    rcases Int.lt_trichotomy a b with h | h | h
    · exact .inl (.inl h)
    · rcases leL_total a1 b1 with k | k
      · exact .inl (.inr ⟨h, k⟩)
      · exact .inr (.inr ⟨h.symm, k⟩)
    · exact .inr (.inl h)
theorem leL_no {a b : List Int} (h : ¬ leL a b = true) : leL b a = true := by
  rcases leL_total a b with k | k
  · exact absurd k h
  · exact k
/-- The greatest one of some, or nothing where there are none. -/
def TopC {α : Type} (S : α → Prop) (f : α → List Int) (c : List Int) : Prop := (c = [] ∧ ∀ g, ¬ S g) ∨ (c ≠ [] ∧ (∃ g, S g ∧ f g = c) ∧ ∀ g, S g → leL (f g) c = true)
theorem TopC.congr {α : Type} {S S' : α → Prop} {f : α → List Int} {c : List Int} (h : TopC S f c) (hS : ∀ g, S' g ↔ S g) : TopC S' f c := by
  have : S' = S := funext fun g => propext (hS g)
  rw [this]; exact h
theorem TopC.add {S S' : List Int → Prop} {c d : List Int} {n : Nat} (h : TopC S id c) (hn : ∀ x, S x → x.length = n) (hd : d.length = n) (hd0 : d ≠ []) (hS : ∀ x, S' x ↔ S x ∨ x = d) : TopC S' id (if c = [] ∨ leL d c = false then d else c) := by
  rcases h with ⟨rfl, h0⟩ | ⟨hc, ⟨g, hg, hgc⟩, hm⟩
  · rw [if_pos (.inl rfl)]
    refine .inr ⟨hd0, ⟨d, (hS d).2 (.inr rfl), rfl⟩, fun x hx => ?_⟩
    rcases (hS x).1 hx with hx | rfl
    · exact absurd hx (h0 x)
    · exact leL_refl _
  · have hgc : g = c := hgc
    subst hgc
    have hcl := hn g hg
    by_cases h1 : leL d g = true
    · rw [if_neg (by rintro (h | h); exact hc h; rw [h1] at h; cases h)]
      refine .inr ⟨hc, ⟨g, (hS g).2 (.inl hg), rfl⟩, fun x hx => ?_⟩
      rcases (hS x).1 hx with hx | rfl
      · exact hm x hx
      · exact h1
    · rw [if_pos (.inr (by simpa using h1))]
      refine .inr ⟨hd0, ⟨d, (hS d).2 (.inr rfl), rfl⟩, fun x hx => ?_⟩
      rcases (hS x).1 hx with hx | rfl
      · exact leL_trans (by rw [show id x = x from rfl, hn x hx, hcl]) (by rw [hcl, hd]) (hm x hx) (leL_no h1)
      · exact leL_refl _
theorem zero_le : ∀ {n : Nat} {c : List Int}, (∀ y ∈ c, 0 ≤ y) → leL (List.replicate n 0) c = true
  | 0, _, _ => by simp [leL]
  | n + 1, [], _ => by simp [leL]
  | n + 1, a :: c, h => by
    rw [List.replicate_succ, leL_cons]
    have := h a (by simp)
    by_cases h0 : 0 < a
    · exact .inl h0
    · exact .inr ⟨by omega, zero_le (fun y hy => h y (by simp [hy]))⟩
end Go.Proofs.Ytlmbobbefgcolaa

namespace Go.Proofs.Ytlmbobbefgcolaa
open Go Go.Eng
def neg (g : List Int) : Nat := g.countP (fun p => decide (p < 0))
theorem neg_cons (x : Int) (g : List Int) : neg (x :: g) = neg g + if x < 0 then 1 else 0 := by
  unfold neg
  rw [List.countP_cons]
  simp
theorem neg_srv : ∀ g : List Int, neg g + srv g = g.length
  | [] => rfl
  | x :: g => by
    have ih := neg_srv g
    have hs : srv (x :: g) = srv g + if 0 ≤ x then 1 else 0 := by
      unfold srv
      rw [List.countP_cons]
      simp
    rw [neg_cons, hs, List.length_cons]
    split <;> split <;> omega
abbrev ct (P : Int) (ls : List (List Int)) (g : List Int) : List Int := cnt P (g.zip ls)
theorem ct_len (P : Int) (ls : List (List Int)) (g : List Int) : (ct P ls g).length = P.toNat := cnt_len _ _
/-- From one giving, or none, to the best one of it and of some. -/
def UpB (P : Int) (ls : List (List Int)) (b : Option (List Int)) (S : List Int → Prop) (b' : Option (List Int)) : Prop :=
  (b' = b ∨ ∃ g, S g ∧ b' = some g) ∧ (∀ x, b = some x → ∃ y, b' = some y ∧ leL (ct P ls x) (ct P ls y) = true) ∧ ∀ g, S g → ∃ y, b' = some y ∧ leL (ct P ls g) (ct P ls y) = true
section
variable {P : Int} {ls : List (List Int)} {b b' b2 : Option (List Int)} {S S' : List Int → Prop}
theorem UpB.refl (h : ∀ g, ¬ S g) : UpB P ls b S b := ⟨.inl rfl, fun x hx => ⟨x, hx, leL_refl _⟩, fun g hg => absurd hg (h g)⟩
theorem UpB.congr (h : UpB P ls b S b') (hS : ∀ g, S' g ↔ S g) : UpB P ls b S' b' := by
  have : S' = S := funext fun g => propext (hS g)
  rw [this]; exact h
theorem UpB.trans {S2 : List Int → Prop} (h : UpB P ls b S b') (k : UpB P ls b' S' b2) (hS : ∀ g, S2 g ↔ S g ∨ S' g) : UpB P ls b S2 b2 := by
  obtain ⟨h1, h2, h3⟩ := h
  obtain ⟨k1, k2, k3⟩ := k
  refine ⟨?_, ?_, ?_⟩
  · rcases k1 with rfl | ⟨g, hg, rfl⟩
    · rcases h1 with rfl | ⟨g, hg, rfl⟩
      · exact .inl rfl
      · exact .inr ⟨g, (hS g).2 (.inl hg), rfl⟩
    · exact .inr ⟨g, (hS g).2 (.inr hg), rfl⟩
  · intro x hx
    obtain ⟨y, hy, hle⟩ := h2 x hx
    obtain ⟨z, hz, hle2⟩ := k2 y hy
    exact ⟨z, hz, leL_trans (by rw [ct_len, ct_len]) (by rw [ct_len, ct_len]) hle hle2⟩
  · intro g hg
    rcases (hS g).1 hg with hg | hg
    · obtain ⟨y, hy, hle⟩ := h3 g hg
      obtain ⟨z, hz, hle2⟩ := k2 y hy
      exact ⟨z, hz, leL_trans (by rw [ct_len, ct_len]) (by rw [ct_len, ct_len]) hle hle2⟩
    · exact k3 g hg
end
end Go.Proofs.Ytlmbobbefgcolaa

namespace Go.Proofs.Ytlmbobbefgcolaa
open Go Go.Eng
theorem e0_len (x : AV × List Int) : (e0 x).length = 1 := rfl
end Go.Proofs.Ytlmbobbefgcolaa

namespace Go.Proofs.Ytlmbobbefgcolaa
open Go Go.Eng
def without (l : List Int) (p : Int) : List Int := l.filter (fun x => !decide (x = p))
end Go.Proofs.Ytlmbobbefgcolaa

namespace Go.Proofs.Ytlmbobbefgcolaa
open Go Go.Eng
end Go.Proofs.Ytlmbobbefgcolaa

namespace Go.Eng
open Go
section
variable {P : Program} {α : Type}
theorem AOps_ex : ∀ (l : List MOp) {Q : α → List AV → AHeap → Prop} {S : List AV} {H : AHeap}, AOps P l (fun S H => ∃ x, Q x S H) S H → ∃ x, AOps P l (Q x) S H := by
  intro l
  induction l with
  | nil => intro Q S H h; exact h
  | cons o r ih =>
    intro Q S H h
    simp only [AOps] at h ⊢
    split at h
    · exact h.elim
    · rename_i t _
      cases t with
      | true =>
        simp only [if_true] at h ⊢
        obtain ⟨v, H1, h1, h2, h3⟩ := h
        obtain ⟨x, hx⟩ := ih h3
        exact ⟨x, v, H1, h1, h2, hx⟩
      | false =>
        simp only [Bool.false_eq_true, if_false] at h ⊢
        exact ih h
/-- A loop with a rank. -/
def LoopR (P : Program) (a : MCode) (Q : Post) (k : Nat) (S : List AV) (H : AHeap) : Prop :=
  ∃ (J : Nat → List AV → AHeap → Prop), J k S H ∧ ∀ k S H, J k S H → AW P a (MX.then (fun S' H' => ∃ k' S'', k' < k ∧ Forget S' S'' ∧ J k' S'' H') Q) S H
/-- One round, and then loops of a smaller rank. -/
theorem LoopR_step {a : MCode} {Q : Post} {k : Nat} {S : List AV} {H : AHeap} (h : AW P a (MX.then (fun S' H' => ∃ k' S'', k' < k ∧ Forget S' S'' ∧ LoopR P a Q k' S'' H') Q) S H) : LoopR P a Q k S H := by
  refine ⟨fun j S1 H1 => (j = k ∧ S1 = S ∧ H1 = H) ∨ (j < k ∧ LoopR P a Q j S1 H1), .inl ⟨rfl, rfl, rfl⟩, ?_⟩
  rintro j S1 H1 (⟨rfl, rfl, rfl⟩ | ⟨hj, J, h1, h2⟩)
  · refine AW_mono (fun e S' H' h' => ?_) h
    cases e with
    | normal =>
      obtain ⟨k', S'', g1, g2, g3⟩ := h'
      exact ⟨k', S'', g1, g2, .inr ⟨g1, g3⟩⟩
    | exit id => exact h'
    | ret => exact h'
  · refine AW_mono (fun e S' H' h' => ?_) (h2 j S1 H1 h1)
    cases e with
    | normal =>
      obtain ⟨k', S'', g1, g2, g3⟩ := h'
      exact ⟨k', S'', g1, g2, .inr ⟨by omega, J, g3, h2⟩⟩
    | exit id => exact h'
    | ret => exact h'
theorem inScope_mono {g : Nat} {K K' : List AV → AHeap → Prop} {Q : Post} {e : MX} {S : List AV} {H : AHeap} (hk : ∀ S H, K S H → K' S H) (h : MX.inScope g K Q e S H) : MX.inScope g K' Q e S H := by
  cases e with
  | normal => exact h
  | exit id =>
    simp only [MX.inScope] at h ⊢
    split at h
    · rename_i hi; rw [if_pos hi]; exact hk _ _ h
    · rename_i hi; rw [if_neg hi]; exact h
  | ret => exact h
theorem inScope_ex {g : Nat} {K : α → List AV → AHeap → Prop} {Q : α → Post} {e : MX} {S : List AV} {H : AHeap} (h : MX.inScope g (fun S H => ∃ x, K x S H) (fun e S H => ∃ x, Q x e S H) e S H) : ∃ x, MX.inScope g (K x) (Q x) e S H := by
  cases e with
  | normal => exact h
  | exit id =>
    simp only [MX.inScope] at h ⊢
    split at h
    · rename_i hi
      obtain ⟨x, hx⟩ := h
      exact ⟨x, by rw [if_pos hi]; exact hx⟩
    · rename_i hi
      split at h
      · exact h.elim
      · rename_i hj
        obtain ⟨x, hx⟩ := h
        exact ⟨x, by rw [if_neg hi, if_neg hj]; exact hx⟩
  | ret => exact h
/-- What stands behind a label, with a rank. -/
def ScopeR (P : Program) (g : Nat) (r : MCode) (Q : Post) (k : Nat) (S : List AV) (H : AHeap) : Prop :=
  ∃ (J : Nat → List AV → AHeap → Prop), J k S H ∧ ∀ k S H, J k S H → AW P r (MX.inScope g (fun S' H' => ∃ k' S'', k' < k ∧ Forget S' S'' ∧ J k' S'' H') Q) S H
theorem ScopeR_step {g : Nat} {r : MCode} {Q : Post} {k : Nat} {S : List AV} {H : AHeap} (h : AW P r (MX.inScope g (fun S' H' => ∃ k' S'', k' < k ∧ Forget S' S'' ∧ ScopeR P g r Q k' S'' H') Q) S H) : ScopeR P g r Q k S H := by
  refine ⟨fun j S1 H1 => (j = k ∧ S1 = S ∧ H1 = H) ∨ (j < k ∧ ScopeR P g r Q j S1 H1), .inl ⟨rfl, rfl, rfl⟩, ?_⟩
  rintro j S1 H1 (⟨rfl, rfl, rfl⟩ | ⟨hj, J, h1, h2⟩)
  · refine AW_mono (fun e S' H' h' => inScope_mono (fun S' H' h3 => ?_) h') h
    obtain ⟨k', S'', g1, g2, g3⟩ := h3
    exact ⟨k', S'', g1, g2, .inr ⟨g1, g3⟩⟩
  · refine AW_mono (fun e S' H' h' => inScope_mono (fun S' H' h3 => ?_) h') (h2 j S1 H1 h1)
    obtain ⟨k', S'', g1, g2, g3⟩ := h3
    exact ⟨k', S'', g1, g2, .inr ⟨by omega, J, g3, h2⟩⟩
/-- No region of two orders. -/
def noAlt : MCode → Bool
  | .ops2 _ _ => false
  | .seq a b => noAlt a && noAlt b
  | .cond _ a b => noAlt a && noAlt b
  | .block _ a => noAlt a
  | .loop a => noAlt a
  | .cut a => noAlt a
  | .scope _ a b => noAlt a && noAlt b
  | _ => true
theorem AW_ex : ∀ {m : MCode}, noAlt m = true → ∀ {Q : α → Post} {S : List AV} {H : AHeap}, AW P m (fun e S H => ∃ x, Q x e S H) S H → ∃ x, AW P m (Q x) S H := by
  intro m
  induction m with
  | skip => intro _ Q S H h; exact h
  | ops l => intro _ Q S H h; exact AOps_ex l h
  | ops2 l l' => intro hno; cases hno
  | seq a b iha ihb =>
    intro hno Q S H h
    simp only [noAlt, Bool.and_eq_true] at hno
    refine iha hno.1 (Q := fun x => MX.then (AW P b (Q x)) (Q x)) (AW_mono (fun e S H h => ?_) h)
    cases e with
    | normal => exact ihb hno.2 h
    | exit id => exact h
    | ret => exact h
  | cond c a b iha ihb =>
    intro hno Q S H h
    simp only [noAlt, Bool.and_eq_true] at hno
    simp only [AW] at h ⊢
    split at h
    · split at h
      · rename_i ht
        obtain ⟨x, hx⟩ := iha hno.1 h
        exact ⟨x, by rw [if_pos ht]; exact hx⟩
      · rename_i ht
        obtain ⟨x, hx⟩ := ihb hno.2 h
        exact ⟨x, by rw [if_neg ht]; exact hx⟩
    · exact h.elim
  | block id a iha =>
    intro hno Q S H h
    simp only [noAlt] at hno
    refine iha hno (Q := fun x => MX.inBlock id (Q x)) (AW_mono (fun e S H h => ?_) h)
    cases e with
    | normal => exact h
    | exit id' =>
      simp only [MX.inBlock] at h ⊢
      split at h
      · rename_i hi
        obtain ⟨x, hx⟩ := h
        exact ⟨x, by rw [if_pos hi]; exact hx⟩
      · rename_i hi
        obtain ⟨x, hx⟩ := h
        exact ⟨x, by rw [if_neg hi]; exact hx⟩
    | ret => exact h
  | loop a iha =>
    intro hno Q S H h
    simp only [noAlt] at hno
    obtain ⟨J, ⟨k0, S0, hf, hJ⟩, hstep⟩ := h
    have key : ∀ k S H, J k S H → ∃ x, LoopR P a (Q x) k S H := by
      intro k
      induction k using Nat.strongRecOn with
      | _ k ih =>
        intro S H hj
        have h1 := hstep k S H hj
        have h2 : ∃ x, AW P a (MX.then (fun S' H' => ∃ k' S'', k' < k ∧ Forget S' S'' ∧ LoopR P a (Q x) k' S'' H') (Q x)) S H := by
          refine iha hno (Q := fun x => MX.then (fun S' H' => ∃ k' S'', k' < k ∧ Forget S' S'' ∧ LoopR P a (Q x) k' S'' H') (Q x)) (AW_mono (fun e S' H' h' => ?_) h1)
          cases e with
          | normal =>
            obtain ⟨k', S'', g1, g2, g3⟩ := h'
            obtain ⟨x, hx⟩ := ih k' g1 S'' H' g3
            exact ⟨x, k', S'', g1, g2, hx⟩
          | exit id => exact h'
          | ret => exact h'
        obtain ⟨x, hx⟩ := h2
        exact ⟨x, LoopR_step hx⟩
    obtain ⟨x, J', h1, h2⟩ := key k0 S0 H hJ
    exact ⟨x, J', ⟨k0, S0, hf, h1⟩, h2⟩
  | exit id => intro _ Q S H h; exact h
  | cut a iha =>
    intro hno Q S H h
    simp only [noAlt] at hno
    obtain ⟨S0, h0, h1⟩ := h
    obtain ⟨x, hx⟩ := iha hno h1
    exact ⟨x, S0, h0, hx⟩
  | label l => intro _ Q S H h; exact h
  | scope g a r iha ihr =>
    intro hno Q S H h
    simp only [noAlt, Bool.and_eq_true] at hno
    obtain ⟨J, h0, hstep⟩ := h
    have key : ∀ k S H, J k S H → ∃ x, ScopeR P g r (Q x) k S H := by
      intro k
      induction k using Nat.strongRecOn with
      | _ k ih =>
        intro S H hj
        have h1 := hstep k S H hj
        have h2 : ∃ x, AW P r (MX.inScope g (fun S' H' => ∃ k' S'', k' < k ∧ Forget S' S'' ∧ ScopeR P g r (Q x) k' S'' H') (Q x)) S H := by
          refine ihr hno.2 (Q := fun x => MX.inScope g (fun S' H' => ∃ k' S'', k' < k ∧ Forget S' S'' ∧ ScopeR P g r (Q x) k' S'' H') (Q x)) (AW_mono (fun e S' H' h' => ?_) h1)
          refine inScope_ex (inScope_mono (fun S' H' h3 => ?_) h')
          obtain ⟨k', S'', g1, g2, g3⟩ := h3
          obtain ⟨x, hx⟩ := ih k' g1 S'' H' g3
          exact ⟨x, k', S'', g1, g2, hx⟩
        obtain ⟨x, hx⟩ := h2
        exact ⟨x, ScopeR_step hx⟩
    have h3 : ∃ x, AW P a (MX.inScope g (fun S' H' => ∃ k S'', Forget S' S'' ∧ ScopeR P g r (Q x) k S'' H') (Q x)) S H := by
      refine iha hno.1 (Q := fun x => MX.inScope g (fun S' H' => ∃ k S'', Forget S' S'' ∧ ScopeR P g r (Q x) k S'' H') (Q x)) (AW_mono (fun e S' H' h' => ?_) h0)
      refine inScope_ex (inScope_mono (fun S' H' h3 => ?_) h')
      obtain ⟨k, S'', g2, g3⟩ := h3
      obtain ⟨x, hx⟩ := key k S'' H' g3
      exact ⟨x, k, S'', g2, hx⟩
    obtain ⟨x, hx⟩ := h3
    refine ⟨x, fun k S H => ScopeR P g r (Q x) k S H, hx, ?_⟩
    rintro k S H ⟨J', j1, j2⟩
    refine AW_mono (fun e S' H' h' => inScope_mono (fun S' H' h3 => ?_) h') (j2 k S H j1)
    obtain ⟨k', S'', g1, g2, g3⟩ := h3
    exact ⟨k', S'', g1, g2, J', g3, j2⟩
  | ret => intro _ Q S H h; exact h
  | fail => intro _ Q S H h; exact h.elim
theorem AW_false : ∀ {m : MCode}, noAlt m = true → ∀ {S : List AV} {H : AHeap}, ¬ AW P m (fun _ _ _ => False) S H := by
  intro m hno S H h
  have h2 : AW P m (fun e S H => ∃ x : Empty, (fun (_ : Empty) (_ : MX) (_ : List AV) (_ : AHeap) => True) x e S H) S H := AW_mono (fun _ _ _ h => h.elim) h
  obtain ⟨x, _⟩ := AW_ex hno h2
  exact x.elim
/-- The end of a function, where what it hands back need not be known ahead. -/
def FinR (res : List PAct) (H : AHeap) (R : AV → AHeap → Prop) : Post := fun e S H1 => ∃ x : AV × AHeap, Fin res H x.1 x.2 e S H1 ∧ R x.1 x.2
theorem FinR_ret (res : List PAct) (H : AHeap) (R : AV → AHeap → Prop) (S : List AV) (H1 : AHeap) : FinR res H R .ret S H1 = on (resV res S) (fun v1 => ∃ v H', GC H v1 H1 v H' ∧ R v H') ⟨⟩ := by
  apply propext
  unfold FinR
  simp only [Fin_ret]
  unfold on
  cases resV res S with
  | none => simp
  | some v1 =>
    constructor
    · rintro ⟨x, h1, h2⟩; exact ⟨_, _, h1, h2⟩
    · rintro ⟨v, H', h1, h2⟩; exact ⟨(v, H'), h1, h2⟩
/-- A function's contract, where the result is told by what it is like. -/
theorem acallsR (hm : P.follows .mixedOrders = true) {f : FuncId} {fn : Func} (hf : P.funcs[f]? = some fn) (hn : (fn.name == "runtime.NumGoroutine") = false) {bx cs : List Nat} {m : MFun} (ht : trF P bx cs fn = some m) {args : List AV} {H : AHeap} (R : AV → AHeap → Prop) (n : Nat)
    (hl : args.length = n) (hb : m.bx.all (fun d => decide (n ≤ d)) = true) (hA : AW P m.body (FinR m.res H R) (args ++ List.replicate (m.nt - n) .junk) H) (hno : noAlt m.body = true := by rfl) : ∃ v H', ACalls P f args H v H' ∧ R v H' := by
  obtain ⟨x, hx⟩ := AW_ex hno (Q := fun (x : AV × AHeap) e S H1 => Fin m.res H x.1 x.2 e S H1 ∧ R x.1 x.2) hA
  have hR : R x.1 x.2 := by
    refine Classical.byContradiction (fun hn => ?_)
    have : AW P m.body (fun _ _ _ => False) (args ++ List.replicate (m.nt - n) .junk) H := AW_mono (fun _ _ _ h => hn h.2) hx
    exact AW_false hno this
  exact ⟨x.1, x.2, acalls hm hf hn ht n hl hb (AW_mono (fun _ _ _ h => h.1) hx), hR⟩
end
end Go.Eng

namespace Go.Eng
open Go
theorem AccL_push2 {α : Type} {es : Nat} {e : α → List AV} {H H1 : AHeap} {v : AV} {xs : List α} (h : AccL es e H H1 v xs) (he : ∀ x, (e x).length = es) (h0 : 0 < es) (x : α) (hl : xs.length + 1 ≤ lim) :
    ∃ v' H2, appA es (H1 ++ [.cells true (e x)]) v (.sl es H1.length 0 1 true) = some (v', H2) ∧ AccL es e H H2 v' (xs ++ [x]) ∧
      (∀ k o, H1[k]? = some o → (∀ n len, v = .sl es n 0 len false → k ≠ n) → H2[k]? = some o) ∧ ∃ n len, v' = .sl es n 0 len false ∧ H1.length ≤ n := by
  obtain ⟨v', H2, happ, hacc⟩ := h.push he x hl
  refine ⟨v', H2, happ, hacc, ?_⟩
  have hc := slCells_new (es := es) H1 (e x) (he x)
  rcases h.2.2 with ⟨h3, rfl⟩ | ⟨h3, n, rfl, h5, h6⟩
  · unfold appA at happ
    rw [hc] at happ
    simp [lim] at happ
    obtain ⟨rfl, rfl⟩ := happ
    refine ⟨fun k o hk _ => ?_, _, _, rfl, by simp⟩
    have hlt := (List.getElem?_eq_some_iff.1 hk).1
    first
      | (rw [List.getElem?_append_left hlt]; exact hk)
      | (rw [List.getElem?_append_left (by rw [List.length_append]; omega), List.getElem?_append_left hlt]; exact hk)
  · have hlt := (List.getElem?_eq_some_iff.1 h6).1
    have hget : (H1 ++ [AObj.cells true (e x)])[n]? = some (.cells true (xs.flatMap e)) := by rw [List.getElem?_append_left hlt]; exact h6
    have hfl := flatMap_length he xs
    unfold appA at happ
    rw [hc] at happ
    simp only [hget, Nat.one_ne_zero, if_false, if_true, true_and] at happ
    rw [if_pos hl, if_pos (by omega)] at happ
    simp only [Bool.false_eq_true, if_false, Option.some.injEq, Prod.mk.injEq] at happ
    obtain ⟨rfl, rfl⟩ := happ
    refine ⟨fun k o hk hne => ?_, _, _, rfl, by simp⟩
    have hk1 := (List.getElem?_eq_some_iff.1 hk).1
    have hkn := hne n xs.length rfl
    rw [List.getElem?_append_left (by simp; omega), List.getElem?_set_ne (Ne.symm hkn), List.getElem?_append_left hk1]
    exact hk
theorem AccL_base0 {α : Type} {es : Nat} {e : α → List AV} {A0 A H : AHeap} {v : AV} {xs : List α} (hp : A0 <+: A) (h : AccL es e A H v xs) : AccL es e A0 H v xs := by
  obtain ⟨h1, h2, h3⟩ := h
  refine ⟨hp.trans h1, h2, ?_⟩
  rcases h3 with h4 | ⟨h0, n, h4, h5, h6⟩
  · exact .inl h4
  · exact .inr ⟨h0, n, h4, Nat.le_trans hp.length_le h5, h6⟩
end Go.Eng

namespace Go.Proofs.Ytlmbobbefgcolaa
open Go Go.Eng
/-- Where the rows of a list of lists stand: each in an object of its own that the call has made, with more cells behind. -/
structure NR (A H : AHeap) (u : AV) (x : AV × List Int) : Prop where
  row : (x.1 = .nilS ∧ x.2 = []) ∨ ∃ n full cs, x.1 = .sl 1 n 0 x.2.length full ∧ A.length ≤ n ∧ H[n]? = some (.cells true (x.2.flatMap e1 ++ cs)) ∧ nm u ≠ n
theorem NR.l1 {A H : AHeap} {u : AV} {x : AV × List Int} (h : NR A H u x) : L1 H x.1 x.2 := by
  rcases h.row with ⟨h1, h2⟩ | ⟨n, full, cs, h1, _, h3, _⟩
  · rw [h1, h2]; exact L1_nil _
  · rw [h1]
    refine ⟨e1_len, ?_⟩
    have hl := flatMap_length e1_len x.2
    simp only [slCells, cellsAt, h3, if_true, Nat.zero_add]
    rw [if_pos (by rw [List.length_append]; omega)]
    simp only [List.drop_zero, Option.map_some, Option.some.injEq, Prod.mk.injEq, true_and]
    rw [← hl, List.take_left]
/-- Rows stand in different objects. -/
def Apart (ws : List (AV × List Int)) : Prop := ws.Pairwise (fun x y => x.1 = .nilS ∨ y.1 = .nilS ∨ nm x.1 ≠ nm y.1)
/-- A list of lists that the call has made. -/
structure NL (A H : AHeap) (u : AV) (ws : List (AV × List Int)) : Prop where
  acc : AccL 1 e0 A H u ws
  rows : ∀ x ∈ ws, NR A H u x
  apart : Apart ws
theorem NL.nil {A H : AHeap} (h : A <+: H) : NL A H .nilS [] := ⟨AccL.nil h, by simp, List.Pairwise.nil⟩
/-- One row more. -/
theorem NL.push {A H : AHeap} {u : AV} {ws : List (AV × List Int)} (h : NL A H u ws) (x : AV × List Int) (hx : (x.1 = .nilS ∧ x.2 = [] ∧ True) ∨ ∃ n full cs, x.1 = .sl 1 n 0 x.2.length full ∧ A.length ≤ n ∧ H[n]? = some (.cells true (x.2.flatMap e1 ++ cs)) ∧ nm u ≠ n ∧ ∀ y ∈ ws, y.1 = .nilS ∨ nm y.1 ≠ n) (hl : ws.length + 1 ≤ lim) :
    ∃ v' H2, appA 1 (H ++ [.cells true [x.1]]) u (.sl 1 H.length 0 1 true) = some (v', H2) ∧ NL A H2 v' (ws ++ [x]) := by
  obtain ⟨v', H2, h1, h2, h3, n', len', h4, h5⟩ := AccL_push2 h.acc e0_len (by omega) x hl
  have hold : ∀ (y : AV × List Int), NR A H u y → NR A H2 v' y := by
    intro y hy
    refine ⟨?_⟩
    rcases hy.row with h6 | ⟨n, full, cs, g1, g2, g3, g4⟩
    · exact .inl h6
    · have hn := (List.getElem?_eq_some_iff.1 g3).1
      refine .inr ⟨n, full, cs, g1, g2, h3 n _ g3 (fun k len hk hnk => ?_), ?_⟩
      · rw [hk] at g4; exact g4 hnk.symm
      · rw [h4]; simp only [nm]; omega
  have hxr : NR A H u x := by
    refine ⟨?_⟩
    rcases hx with ⟨a, b, _⟩ | ⟨n, full, cs, g1, g2, g3, g4, _⟩
    · exact .inl ⟨a, b⟩
    · exact .inr ⟨n, full, cs, g1, g2, g3, g4⟩
  refine ⟨v', H2, h1, h2, fun y hy => ?_, ?_⟩
  · rcases List.mem_append.1 hy with hy | hy
    · exact hold y (h.rows y hy)
    · have : y = x := by simpa using hy
      rw [this]; exact hold x hxr
  · unfold Apart
    rw [List.pairwise_append]
    refine ⟨h.apart, by simp, fun a ha b hb => ?_⟩
    have : b = x := by simpa using hb
    subst this
    rcases hx with ⟨g1, _⟩ | ⟨n, full, cs, g1, _, _, _, g5⟩
    · exact .inr (.inl g1)
    · rcases g5 a ha with g | g
      · exact .inl g
      · refine .inr (.inr ?_)
        rw [g1]; exact g
theorem NL.mono {A H H' : AHeap} {u : AV} {ws : List (AV × List Int)} (h : NL A H u ws) (hp : H <+: H') : NL A H' u ws := by
  refine ⟨h.acc.mono hp, fun x hx => ⟨?_⟩, h.apart⟩
  rcases (h.rows x hx).row with h6 | ⟨n, full, cs, g1, g2, g3, g4⟩
  · exact .inl h6
  · exact .inr ⟨n, full, cs, g1, g2, pre_get hp g3, g4⟩
theorem NL.lt {A H : AHeap} {u : AV} {ws : List (AV × List Int)} (h : NL A H u ws) : (∀ y ∈ ws, y.1 = .nilS ∨ nm y.1 < H.length) ∧ (ws = [] ∨ nm u < H.length) := by
  refine ⟨fun y hy => ?_, ?_⟩
  · rcases (h.rows y hy).row with ⟨h6, _⟩ | ⟨n, full, cs, g1, g2, g3, g4⟩
    · exact .inl h6
    · right; rw [g1]; exact (List.getElem?_eq_some_iff.1 g3).1
  · rcases h.acc.2.2 with ⟨h3, _⟩ | ⟨h3, n, h4, h5, h6⟩
    · exact .inl (List.eq_nil_of_length_eq_zero h3)
    · right; rw [h4]; exact (List.getElem?_eq_some_iff.1 h6).1
theorem NL.base {A0 A H : AHeap} {u : AV} {ws : List (AV × List Int)} (hp : A0 <+: A) (h : NL A H u ws) : NL A0 H u ws := by
  refine ⟨AccL_base0 hp h.acc, fun x hx => ⟨?_⟩, h.apart⟩
  rcases (h.rows x hx).row with h6 | ⟨n, full, cs, g1, g2, g3, g4⟩
  · exact .inl h6
  · exact .inr ⟨n, full, cs, g1, Nat.le_trans hp.length_le g2, g3, g4⟩
end Go.Proofs.Ytlmbobbefgcolaa

namespace Go.Proofs.Ytlmbobbefgcolaa
open Go Go.Eng
end Go.Proofs.Ytlmbobbefgcolaa

namespace Go.Proofs.Ytlmbobbefgcolaa
open Go Go.Eng
theorem ld_one {H : AHeap} {n : Nat} {x : AV} {rw : Bool} (h : H[n]? = some (.cells rw [x])) : ldA 1 false (.ptr n 0) H = some x := by
  simp [ldA, partA, h]
/-- The numbers of the objects: the wishes, the best giving, the giving that is tried, the function itself, and the cells of what is tried. -/
structure HN where
  w : Nat
  b : Nat
  n : Nat
  t : Nat
  o : Nat
structure HD (A : AHeap) (N : HN) : Prop where
  w : A.length ≤ N.w
  b : A.length ≤ N.b
  n : A.length ≤ N.n
  t : A.length ≤ N.t
  o : A.length ≤ N.o
  wb : N.w ≠ N.b
  wo : N.w ≠ N.o
  nb : N.n ≠ N.b
  no : N.n ≠ N.o
  tb : N.t ≠ N.b
  to : N.t ≠ N.o
  ob : N.o ≠ N.b
/-- What memory is like while the givings are tried. -/
structure HC (P : Int) (v : AV) (A H : AHeap) (N : HN) (b : Option (List Int)) (now : List Int) : Prop where
  pre : A <+: H
  hw : H[N.w]? = some (.cells true [I P, v])
  ht : H[N.t]? = some (.cells true [.fn 81 [.ptr N.n 0, .ptr N.b 0, .ptr N.w 0, .ptr N.t 0]])
  hn : H[N.n]? = some (.cells true [.sl 1 N.o 0 now.length false])
  ho : H[N.o]? = some (.cells true (now.flatMap e1))
  hb : ∃ y, H[N.b]? = some (.cells true [y]) ∧ ((b = none ∧ y = .nilS) ∨ ∃ g k, b = some g ∧ y = .sl 1 k 0 g.length false ∧ H[k]? = some (.cells true (g.flatMap e1)) ∧ k ≠ N.o ∧ k ≠ N.b ∧ A.length ≤ k)
section
variable {P : Int} {v : AV} {A H H' : AHeap} {N : HN} {b : Option (List Int)} {now : List Int}
theorem HC.mono (h : HC P v A H N b now) (hp : H <+: H') : HC P v A H' N b now := by
  obtain ⟨y, h1, h2⟩ := h.hb
  refine ⟨h.pre.trans hp, pre_get hp h.hw, pre_get hp h.ht, pre_get hp h.hn, pre_get hp h.ho, y, pre_get hp h1, ?_⟩
  rcases h2 with h2 | ⟨g, k, a1, a2, a3, a4⟩
  · exact .inl h2
  · exact .inr ⟨g, k, a1, a2, pre_get hp a3, a4⟩
theorem HC.ol (hd : HD A N) (h : HC P v A H N b now) : OL 1 e1 A H N.o (.sl 1 N.o 0 now.length false) now := ⟨e1_len, h.pre, hd.o, h.ho, false, rfl⟩
theorem HC.best (hd : HD A N) (h : HC P v A H N b now) {g : List Int} {k : Nat} (hk : H[k]? = some (.cells true (g.flatMap e1))) (k1 : k ≠ N.o) (k2 : k ≠ N.b) (k3 : A.length ≤ k) : HC P v A (H.set N.b (.cells true [.sl 1 k 0 g.length false])) N (some g) now := by
  obtain ⟨y, h1, _⟩ := h.hb
  have hl := (List.getElem?_eq_some_iff.1 h1).1
  have ne : ∀ m, m ≠ N.b → (H.set N.b (.cells true [.sl 1 k 0 g.length false]))[m]? = H[m]? := fun m hm => List.getElem?_set_ne (Ne.symm hm)
  refine ⟨pre_set h.pre hd.b _, ?_, ?_, ?_, ?_, .sl 1 k 0 g.length false, ?_, .inr ⟨g, k, rfl, rfl, ?_, k1, k2, k3⟩⟩
  · rw [ne _ hd.wb]; exact h.hw
  · rw [ne _ hd.tb]; exact h.ht
  · rw [ne _ hd.nb]; exact h.hn
  · rw [ne _ hd.ob]; exact h.ho
  · rw [List.getElem?_set_self hl]
  · rw [ne _ k2]; exact hk
end
end Go.Proofs.Ytlmbobbefgcolaa

namespace Go.Proofs.Ytlmbobbefgcolaa
open Go Go.Eng
end Go.Proofs.Ytlmbobbefgcolaa

namespace Go.Proofs.Ytlmbobbefgcolaa
open Go Go.Eng
/-- A list of lists, told by a function. -/
structure TbL (N : Nat) (ws : List (AV × List Int)) (T : Nat → List Int) : Prop where
  len : ws.length = N
  at_ : ∀ s, s < N → ∃ x, ws[s]? = some x ∧ x.2 = T s
  out : ∀ s, N ≤ s → T s = []
def upd (T : Nat → List Int) (j : Nat) (c : List Int) : Nat → List Int := fun t => if t = j then c else T t
theorem TbL.set {N : Nat} {ws : List (AV × List Int)} {T : Nat → List Int} (h : TbL N ws T) {j : Nat} (hj : j < N) (a : AV) (c : List Int) : TbL N (ws.set j (a, c)) (upd T j c) := by
  refine ⟨by rw [List.length_set]; exact h.len, fun s hs => ?_, fun s hs => ?_⟩
  · by_cases e : s = j
    · subst e
      exact ⟨(a, c), List.getElem?_set_self (by rw [h.len]; exact hj), by simp [upd]⟩
    · obtain ⟨x, h1, h2⟩ := h.at_ s hs
      exact ⟨x, by rw [List.getElem?_set_ne (Ne.symm e)]; exact h1, by rw [h2]; simp [upd, e]⟩
  · have : s ≠ j := by omega
    rw [show upd T j c s = T s by simp [upd, this]]
    exact h.out s hs
/-- A row: an old one, or one that was made behind it. -/
def RW (Bh H : AHeap) (nn : Nat) (x : AV × List Int) : Prop := L1 Bh x.1 x.2 ∨ ∃ k full, x.1 = .sl 1 k 0 x.2.length full ∧ k ≠ nn ∧ H[k]? = some (.cells true (x.2.flatMap Go.Eng.e1))
theorem RW.l1 {Bh H : AHeap} {nn : Nat} {x : AV × List Int} (h : RW Bh H nn x) (hp : Bh <+: H) : L1 H x.1 x.2 := by
  rcases h with h | ⟨k, full, h1, _, h3⟩
  · exact h.mono hp
  · rw [h1]
    exact (OL.mk e1_len (A := []) (List.nil_prefix) (Nat.zero_le _) h3 ⟨full, rfl⟩ : OL 1 Go.Eng.e1 [] H k (.sl 1 k 0 x.2.length full) x.2).ls
theorem RW.mono {Bh H H' : AHeap} {nn : Nat} {x : AV × List Int} (h : RW Bh H nn x) (hp : H <+: H') : RW Bh H' nn x := by
  rcases h with h | ⟨k, full, h1, h2, h3⟩
  · exact .inl h
  · exact .inr ⟨k, full, h1, h2, pre_get hp h3⟩
theorem RW.set {Bh H : AHeap} {nn : Nat} {x : AV × List Int} (h : RW Bh H nn x) (o : AObj) : RW Bh (H.set nn o) nn x := by
  rcases h with h | ⟨k, full, h1, h2, h3⟩
  · exact .inl h
  · exact .inr ⟨k, full, h1, h2, by rw [List.getElem?_set_ne (Ne.symm h2)]; exact h3⟩
theorem TopC.len {S : List Int → Prop} {c : List Int} {n : Nat} (h : TopC S id c) (hn : ∀ x, S x → x.length = n) (h0 : c ≠ []) : c.length = n := by
  rcases h with ⟨h1, _⟩ | ⟨_, ⟨g, hg, hc⟩, _⟩
  · exact absurd h1 h0
  · have hc : g = c := hc
    rw [← hc]; exact hn g hg
end Go.Proofs.Ytlmbobbefgcolaa

namespace Go.Proofs.Ytlmbobbefgcolaa
open Go Go.Eng
end Go.Proofs.Ytlmbobbefgcolaa

namespace Go.Proofs.Ytlmbobbefgcolaa
open Go Go.Eng
end Go.Proofs.Ytlmbobbefgcolaa

namespace Go.Proofs.Ytlmbobbefgcolaa
open Go Go.Eng
theorem up_nodup {l : List Int} (h : Up l) : l.Nodup := h.imp (fun h e => by omega)
/-- The owners one comes to from those who are not served. -/
structure Clo (P : Int) (ls : List (List Int)) (g : List Int) (S : Nat → Prop) : Prop where
  un : ∀ i, i < ls.length → has g i < 0 → S i
  le : ∀ T, Stuck ls g T → (∀ i, i < ls.length → has g i < 0 → T i) → ∀ i, i < ls.length → S i → T i
  cl : ∀ i, i < ls.length → S i → ∀ p ∈ lst ls i, ∀ h, h < ls.length → has g h = p → S h
end Go.Proofs.Ytlmbobbefgcolaa

namespace Go.Proofs.Ytlmbobbefgcolaa
open Go Go.Eng
/-- The first place of a list that nobody has. -/
def fr (g l : List Int) : Int := fpos (fun p => decide (p ∉ g)) l
theorem fr_some {g l : List Int} (h : 0 ≤ fr g l) : ∃ (k : Nat) (p : Int), fr g l = k ∧ k < l.length ∧ l[k]? = some p ∧ p ∉ g ∧ ∀ q ∈ l.take k, q ∈ g := by
  unfold fr fpos at h ⊢
  cases hf : l.findIdx? (fun p => decide (p ∉ g)) with
  | none => rw [hf] at h; simp at h
  | some k =>
    rw [List.findIdx?_eq_some_iff_getElem] at hf
    obtain ⟨h1, h2, h3⟩ := hf
    refine ⟨k, l[k], rfl, h1, List.getElem?_eq_getElem h1, by simpa using h2, fun q hq => ?_⟩
    obtain ⟨j, hj, rfl⟩ := List.mem_iff_getElem.1 hq
    rw [List.length_take] at hj
    have := h3 j (by omega)
    rw [List.getElem_take]
    simpa using this
theorem fr_none {g l : List Int} (h : ¬ 0 ≤ fr g l) : fr g l = -1 ∧ ∀ p ∈ l, p ∈ g := by
  have h1 : ∀ p ∈ l, p ∈ g := by
    intro p hp
    refine Decidable.byContradiction (fun hn => h ?_)
    unfold fr
    rw [fpos_iff, List.any_eq_true]
    exact ⟨p, hp, by simpa using hn⟩
  refine ⟨?_, h1⟩
  unfold fr
  exact fpos_none (fun y hy => by simpa using h1 y hy)
/-- One owner takes the first free place of his list. -/
def lnS (ls : List (List Int)) (g : List Int) (i : Int) : List Int := if 0 ≤ fr g (lst ls i) then g.set i.toNat (((lst ls i)[(fr g (lst ls i)).toNat]?).getD 0) else g
def lnL (ls : List (List Int)) (os : List Int) : List Int := os.foldl (lnS ls) (List.replicate ls.length (-1))
theorem lnL_succ {ls : List (List Int)} {os : List Int} {i : Nat} {o : Int} (h : os[i]? = some o) : lnL ls (os.take (i + 1)) = lnS ls (lnL ls (os.take i)) o := by
  unfold lnL
  rw [List.take_add_one, h, Option.toList_some, List.foldl_append]
  rfl
theorem lnS_len (ls : List (List Int)) (g : List Int) (i : Int) : (lnS ls g i).length = g.length := by
  unfold lnS
  split <;> simp
theorem lnL_len (ls : List (List Int)) (os : List Int) : (lnL ls os).length = ls.length := by
  have : ∀ (os g : List Int), (os.foldl (lnS ls) g).length = g.length := by
    intro os
    induction os with
    | nil => intro g; rfl
    | cons o os ih => intro g; rw [List.foldl_cons, ih, lnS_len]
  unfold lnL
  rw [this, List.length_replicate]
/-- An order of all owners. -/
def isO (n : Nat) (os : List Int) : Prop := os.length = n ∧ (∀ o ∈ os, inP n o) ∧ os.Nodup
theorem isO.all {n : Nat} {os : List Int} (h : isO n os) : ∀ k, k < n → (k : Int) ∈ os := by
  intro k hk
  refine nodup_cover h.2.2 (m := nums n) (fun o ho => mem_nums.2 ?_) (by rw [show (nums n).length = n by simp [nums], h.1]; exact Nat.le_refl _) k (mem_nums.2 ?_)
  · exact h.2.1 o ho
  · exact ⟨by omega, by omega⟩
/-- What holds after some have taken places. -/
structure LnOk (P : Int) (ls : List (List Int)) (os : List Int) (i : Nat) (g : List Int) : Prop where
  good : Good P ls g
  rest : ∀ k, k < ls.length → (k : Int) ∉ os.take i → has g k = -1
  full : ∀ k, k < ls.length → (k : Int) ∈ os.take i → ¬ 0 ≤ has g k → ∀ p ∈ lst ls k, p ∈ g
theorem mem_set_keep {g : List Int} {i : Nat} {p q : Int} (hi : i < g.length) (h : has g i = -1) (hq : q ∈ g) (h0 : 0 ≤ q) : q ∈ g.set i p := by
  obtain ⟨k, hk, rfl⟩ := List.mem_iff_getElem.1 hq
  by_cases e : k = i
  · subst e
    rw [has_get (List.getElem?_eq_getElem hk)] at h
    omega
  · rw [List.mem_iff_getElem]
    exact ⟨k, by simpa using hk, by rw [List.getElem_set_ne (Ne.symm e)]⟩
theorem ln_ok {P : Int} {ls : List (List Int)} (hv : Val P ls) {os : List Int} (ho : isO ls.length os) : ∀ i, i ≤ os.length → LnOk P ls os i (lnL ls (os.take i)) := by
  have hP := hv.hP
  have hls : ∀ l ∈ ls, ∀ p ∈ l, inP P p := fun l hl => (hv.l l hl).1
  intro i
  induction i with
  | zero =>
    intro _
    rw [List.take_zero]
    refine ⟨good_none P (by omega) ls, fun k hk _ => ?_, fun k hk h => by rw [List.take_zero] at h; cases h⟩
    exact has_get (by simp [lnL, hk])
  | succ i ih =>
    intro hi
    have h := ih (by omega)
    obtain ⟨o, hoi⟩ : ∃ o, os[i]? = some o := ⟨_, List.getElem?_eq_getElem (by omega)⟩
    have hom := List.mem_of_getElem? hoi
    have hor := ho.2.1 o hom
    obtain ⟨k0, rfl⟩ : ∃ k0 : Nat, o = (k0 : Int) := ⟨o.toNat, by have := hor.1; omega⟩
    have hk0 : k0 < ls.length := by have := hor.2; omega
    have hni : (k0 : Int) ∉ os.take i := by
      intro hm
      have hn := ho.2.2
      rw [← List.take_append_drop i os, List.nodup_append] at hn
      refine hn.2.2 _ hm (k0 : Int) ?_ rfl
      have hd : os.drop i = (k0 : Int) :: os.drop (i + 1) := by
        have h2 := (List.getElem?_eq_some_iff.1 hoi).2
        rw [← h2]; exact List.drop_eq_getElem_cons (by omega)
      rw [hd]
      simp
    have hfree := h.rest k0 hk0 hni
    have hg0 : k0 < (lnL ls (os.take i)).length := by rw [lnL_len]; exact hk0
    have mem : ∀ k : Nat, (k : Int) ∈ os.take (i + 1) ↔ (k : Int) ∈ os.take i ∨ k = k0 := by
      intro k
      rw [List.take_add_one, hoi, Option.toList_some, List.mem_append, List.mem_singleton]
      constructor
      · rintro (h | h)
        · exact .inl h
        · exact .inr (by omega)
      · rintro (h | h)
        · exact .inl h
        · exact .inr (by omega)
    rw [lnL_succ hoi]
    unfold lnS
    generalize lnL ls (os.take i) = g at *
    by_cases hf : 0 ≤ fr g (lst ls k0)
    · obtain ⟨k, p, e1, hk, hp, hpn, _⟩ := fr_some hf
      rw [if_pos hf, e1, Int.toNat_natCast, Int.toNat_natCast, hp, Option.getD_some]
      have hpm := List.mem_of_getElem? hp
      have hpin := lst_in hls hpm
      refine ⟨good_set h.good hk0 hpin hpm (fun j hj _ e => hpn (e ▸ has_mem (by rw [h.good.len]; exact hj))), fun j hj hjn => ?_, fun j hj hjm hjf q hq => ?_⟩
      · rw [mem] at hjn
        rw [has_set hg0, if_neg (fun e => hjn (.inr e))]
        exact h.rest j hj (fun e => hjn (.inl e))
      · rw [has_set hg0] at hjf
        have hjk : j ≠ k0 := fun e => hjf (by rw [if_pos e]; exact hpin.1)
        rw [if_neg hjk] at hjf
        have hqg := h.full j hj (((mem j).1 hjm).resolve_right hjk) hjf q hq
        exact mem_set_keep hg0 hfree hqg (lst_in hls hq).1
    · rw [if_neg hf]
      obtain ⟨_, hall⟩ := fr_none hf
      refine ⟨h.good, fun j hj hjn => h.rest j hj (fun e => hjn ((mem j).2 (.inl e))), fun j hj hjm hjf => ?_⟩
      rcases (mem j).1 hjm with hjm | rfl
      · exact h.full j hj hjm hjf
      · exact hall
theorem ln_end {P : Int} {ls : List (List Int)} (hv : Val P ls) {os : List Int} (ho : isO ls.length os) : Good P ls (lnL ls os) ∧ ∀ k, k < ls.length → ¬ 0 ≤ has (lnL ls os) k → ∀ p ∈ lst ls k, p ∈ lnL ls os := by
  have h := ln_ok hv ho os.length (Nat.le_refl _)
  rw [List.take_length] at h
  exact ⟨h.good, fun k hk => h.full k hk (by rw [List.take_length]; exact ho.all k hk)⟩
/-- At least the half. -/
theorem ln_half {P : Int} {ls : List (List Int)} {g g' : List Int} (hg : Good P ls g) (hf : ∀ k, k < ls.length → ¬ 0 ≤ has g k → ∀ p ∈ lst ls k, p ∈ g) (hg' : Good P ls g') : srv g' ≤ 2 * srv g := by
  rw [srv_sv g', filter_split (fun k => decide (0 ≤ has g k)) (sv g')]
  have h1 : ((sv g').filter (fun k => decide (0 ≤ has g k))).length ≤ srv g := by
    rw [srv_sv g]
    refine nodup_len ((sv_nodup g').filter _) (fun k hk => ?_)
    rw [List.mem_filter, mem_sv, decide_eq_true_eq] at hk
    rw [mem_sv, hg.len, ← hg'.len]
    exact ⟨hk.1.1, hk.2⟩
  have h2 : ((sv g').filter (fun k => !decide (0 ≤ has g k))).length ≤ srv g := by
    have hn : (((sv g').filter (fun k => !decide (0 ≤ has g k))).map (has g')).Nodup := by
      rw [nodup_map_inj ((sv_nodup g').filter _)]
      intro a ha b hb e
      rw [List.mem_filter, mem_sv, hg'.len] at ha hb
      exact hg'.inj a b ha.1.1 hb.1.1 ha.1.2 e
    have := nodup_len hn (m := given g) (fun p hp => by
      obtain ⟨k, hk, rfl⟩ := List.mem_map.1 hp
      rw [List.mem_filter, mem_sv, hg'.len] at hk
      obtain ⟨⟨k1, k2⟩, k3⟩ := hk
      have k3' : ¬ 0 ≤ has g k := by simpa using k3
      have := hf k k1 k3' _ (hg'.wish k k1 k2)
      unfold given
      rw [List.mem_filter]
      exact ⟨this, by simpa using k2⟩)
    rw [List.length_map] at this
    rw [given_sv, List.length_map, ← srv_sv] at this
    exact this
  omega
theorem ln_most {P : Int} {ls : List (List Int)} (hv : Val P ls) {os : List Int} (ho : isO ls.length os) : most P ls ≤ 2 * srv (lnL ls os) := by
  have hP := hv.hP
  have hls : ∀ l ∈ ls, ∀ p ∈ l, inP P p := fun l hl => (hv.l l hl).1
  obtain ⟨⟨g', hg', e⟩, _⟩ := most_spec (by omega : (0 : Int) ≤ P) hls
  obtain ⟨h1, h2⟩ := ln_end hv ho
  rw [← e]
  exact ln_half h1 h2 hg'
end Go.Proofs.Ytlmbobbefgcolaa

namespace Go.Proofs.Ytlmbobbefgcolaa
open Go Go.Eng
/-- The error of wishes and an order. -/
def lnE (P : Int) (ls : List (List Int)) (os : List Int) : Int := if vW P ls = 0 then (if decide (os.length = ls.length) && (os.all (fun o => decide (inP ls.length o)) && decide os.Nodup) then 0 else 1) else vW P ls
theorem lnE_0 {P : Int} {ls : List (List Int)} {os : List Int} : lnE P ls os = 0 ↔ vW P ls = 0 ∧ isO ls.length os := by
  unfold lnE isO
  by_cases h0 : vW P ls = 0
  · rw [if_pos h0]
    constructor
    · intro h
      split at h
      · rename_i hc
        simp only [Bool.and_eq_true, decide_eq_true_eq, List.all_eq_true] at hc
        exact ⟨h0, hc.1, hc.2.1, hc.2.2⟩
      · cases h
    · rintro ⟨_, h1, h2, h3⟩
      rw [if_pos]
      simp only [Bool.and_eq_true, decide_eq_true_eq, List.all_eq_true]
      exact ⟨h1, h2, h3⟩
  · rw [if_neg h0]
    exact ⟨fun h => absurd h h0, fun h => absurd h.1 h0⟩
theorem lnE_1 {P : Int} {ls : List (List Int)} {os : List Int} (h0 : vW P ls = 0) (h : ¬ isO ls.length os) : lnE P ls os = 1 := by
  unfold lnE
  rw [if_pos h0, if_neg]
  intro hc
  simp only [Bool.and_eq_true, decide_eq_true_eq, List.all_eq_true] at hc
  exact h ⟨hc.1, hc.2.1, hc.2.2⟩
/-- A line, or the error. -/
def LnR (P : Int) (ls : List (List Int)) (os : List Int) (A : AHeap) (r : AV) (H' : AHeap) : Prop :=
  A <+: H' ∧ (lnE P ls os ≠ 0 → r = .tuple [.nilS, I (lnE P ls os)]) ∧ (lnE P ls os = 0 → ∃ y, r = .tuple [y, I 0] ∧ L1 H' y (lnL ls os))
theorem LnR.no {P : Int} {ls : List (List Int)} {os : List Int} {A : AHeap} {e : Int} (h : lnE P ls os = e) (h0 : ¬ e = 0) {H : AHeap} (hp : A <+: H) : LnR P ls os A (.tuple [.nilS, I e]) H :=
  ⟨hp, fun _ => by rw [h], fun h1 => absurd (h ▸ h1) h0⟩
/-- What the document's list holds: of the owners who have taken. -/
def mix (os : List Int) (i : Nat) (g : List Int) : List Int := (List.range g.length).map (fun k : Nat => if (k : Int) ∈ os.take i then has g k else 0)
theorem mix_len (os : List Int) (i : Nat) (g : List Int) : (mix os i g).length = g.length := by simp [mix]
theorem mix_0 (os : List Int) (g : List Int) : mix os 0 g = List.replicate g.length 0 := by
  unfold mix
  apply List.ext_getElem?
  intro k
  by_cases h : k < g.length <;> simp [h]
theorem mix_all {os : List Int} {g : List Int} (h : ∀ k, k < g.length → (k : Int) ∈ os) : mix os os.length g = g := by
  unfold mix
  rw [List.take_length]
  conv => rhs; rw [← map_has g]
  exact List.map_congr_left (fun k hk => if_pos (h k (List.mem_range.1 hk)))
theorem mix_set {os : List Int} {i : Nat} {k0 : Nat} (hi : os[i]? = some (k0 : Int)) {g g' : List Int} (hl : g'.length = g.length) (hg : ∀ k, k ≠ k0 → has g' k = has g k) : (mix os i g).set k0 (has g' k0) = mix os (i + 1) g' := by
  apply List.ext_getElem?
  intro k
  have hm : ((k : Int) ∈ os.take (i + 1)) ↔ (k : Int) ∈ os.take i ∨ k = k0 := by
    rw [List.take_add_one, hi, Option.toList_some, List.mem_append, List.mem_singleton]
    constructor <;> rintro (h | h) <;> first | exact .inl h | exact .inr (by omega)
  rw [List.getElem?_set]
  by_cases h : k < g.length
  · by_cases e : k0 = k
    · subst e
      rw [if_pos rfl, if_pos (by rw [mix_len]; exact h)]
      unfold mix
      rw [List.getElem?_map, List.getElem?_range (by omega), Option.map_some, if_pos (hm.2 (.inr rfl))]
    · rw [if_neg e]
      unfold mix
      rw [List.getElem?_map, List.getElem?_range h, List.getElem?_map, List.getElem?_range (by omega), Option.map_some, Option.map_some, hg k (Ne.symm e)]
      by_cases h2 : (k : Int) ∈ os.take i
      · rw [if_pos h2, if_pos (hm.2 (.inl h2))]
      · rw [if_neg h2, if_neg (fun h3 => (hm.1 h3).elim h2 (Ne.symm e))]
  · have h1 : (mix os i g)[k]? = none := by rw [List.getElem?_eq_none (by rw [mix_len]; omega)]
    have h2 : (mix os (i + 1) g')[k]? = none := by rw [List.getElem?_eq_none (by rw [mix_len]; omega)]
    rw [h1, h2]
    split
    · rw [if_neg (by rw [mix_len]; omega)]
    · rfl
/-- What the loop of the document's Line holds: the list, and the places that are taken. -/
structure Dl (A : AHeap) (n : Nat) (H : AHeap) (vt : AV) (out tk : List Int) : Prop where
  ol : OL 1 Go.Eng.e1 A H n (.sl 1 n 0 out.length true) out
  tk : AccL 1 Go.Eng.e1 A H vt tk
  ne : ∀ m len, vt = .sl 1 m 0 len false → m ≠ n
theorem Dl.set {A : AHeap} {n : Nat} {H : AHeap} {vt : AV} {out tk : List Int} (h : Dl A n H vt out tk) (i : Nat) (z : Int) : Dl A n (H.set n (.cells true ((out.set i z).flatMap Go.Eng.e1))) vt (out.set i z) tk := by
  have h1 := h.ol.set i z
  refine ⟨by rw [List.length_set]; exact h1, ⟨pre_set h.tk.pre h.ol.new _, h.tk.2.1, ?_⟩, h.ne⟩
  rcases h.tk.2.2 with h2 | ⟨h0, m, h2, h3, h4⟩
  · exact .inl h2
  · exact .inr ⟨h0, m, h2, h3, by rw [List.getElem?_set_ne (Ne.symm (h.ne m _ h2))]; exact h4⟩
theorem Dl.push {A : AHeap} {n : Nat} {H : AHeap} {vt : AV} {out tk : List Int} (h : Dl A n H vt out tk) (z : Int) (hl : tk.length + 1 ≤ lim) :
    ∃ v' H2, appA 1 (H ++ [.cells true [I z]]) vt (.sl 1 H.length 0 1 true) = some (v', H2) ∧ Dl A n H2 v' out (tk ++ [z]) := by
  obtain ⟨v', H2, h1, h2, h3, n', len', h4, h5⟩ := AccL_push2 h.tk e1_len (by omega) z hl
  have hn := h.ol.lt
  exact ⟨v', H2, h1, ⟨⟨e1_len, h2.pre, h.ol.new, h3 n _ h.ol.ob (fun m len e => (h.ne m len e).symm), true, rfl⟩, h2, fun m len e => by rw [h4] at e; cases e; omega⟩⟩
set_option maxRecDepth 20000 in
set_option maxHeartbeats 16000000 in
theorem s53 {P : Int} {ws : List (AV × List Int)} {v u : AV} {os : List Int} {A : AHeap} (hw : LL A v ws) (hs : Sz ws) (ho : L1 A u os) (hol : os.length ≤ 1000) :
    ∃ r H', ACalls Try.prog 53 [.agg [I P, v], u] A r H' ∧ LnR P (lists ws) os A r H' := by
  refine acallsR hmix Try.func53 (by kernel_rfl) t53 _ 2 rfl (by decide) ?_
  rw [start2]
  dsimp only [m53]
  simp (maxSteps := 4000000) -implicitDefEqProofs -dsimp (disch := omega) only [↓AW_ops, ↓AW_seq, ↓AOps_nil, ↓AOps_pu, ↓AOps_call, on_some, ↓then_normal, pval, rd_mkS, rd_mkS0, Nat.reduceBEq, Nat.reduceLT, rd_C, put_mkS, chkd, bgot, cells_agg, partA, beq_self_eq_true, eq_self, List.getElem?_cons_zero, List.drop_zero, List.take_succ_cons, List.take_nil, map_c, map_n, List.length_cons, List.length_nil, Nat.reduceAdd, Nat.reduceSub, Nat.reduceLeDiff, Nat.reduceEqDiff, Nat.zero_add, if_true, if_false, Bool.cond_true, Bool.cond_false]
  refine CallK.of (s40 hw hs) ?_
  by_cases h0 : vW P (lists ws) = 0
  case neg =>
    simp (maxSteps := 4000000) -implicitDefEqProofs -dsimp (disch := omega) only [↓AW_ops, ↓AW_seq, ↓AW_cond, ↓AW_ret, ↓AOps_nil, ↓AOps_pu, on_some, extK_same, condB_t, ↓then_normal, ↓then_ret, ↓FinR_ret, pval, rd_mkS, rd_mkS0, Nat.reduceBEq, Nat.reduceLT, rd_C, put_mkS, resV, resL, beq_self_eq_true, Nat.reduceAdd, Nat.reduceSub, bin_neq, if_true, decide_true, Bool.cond_true, Bool.cond_false, not_false_eq_true, h0]
    exact ⟨_, _, gc_all, LnR.no (by unfold lnE; rw [if_neg h0]) h0 (List.prefix_refl A)⟩
  have hv := val_of h0
  have hP := hv.hP
  have hn : ws.length ≤ 7 := by simpa using hv.n
  have hwl : (lists ws).length = ws.length := by simp
  have hls : ∀ l ∈ lists ws, ∀ p ∈ l, inP P p := fun l hl => (hv.l l hl).1
  by_cases hlen : os.length = ws.length
  case neg =>
    have hlen' : ¬ ((os.length : Int) = ws.length) := by omega
    simp (maxSteps := 4000000) -implicitDefEqProofs -dsimp (disch := omega) only [↓AW_skip, ↓AW_ops, ↓AW_seq, ↓AW_cond, ↓AW_ret, ↓AOps_nil, ↓AOps_pu, on_some, extK_same, condB_t, condB_f, ↓then_normal, ↓then_ret, ↓FinR_ret, pval, rd_mkS, rd_mkS0, Nat.reduceBEq, Nat.reduceLT, rd_C, put_mkS, resV, resL, chkd, isAdr, bgot, cells_agg, partA, beq_self_eq_true, eq_self, List.getElem?_cons_zero, List.getElem?_cons_succ, List.drop_zero, List.drop_succ_cons, List.take_succ_cons, List.take_nil, List.length_cons, List.length_nil, Nat.reduceAdd, Nat.reduceSub, Nat.reduceLeDiff, Nat.zero_add, bin_neq, if_true, if_false, Bool.false_eq_true, decide_true, decide_false, Bool.cond_true, Bool.cond_false, not_true_eq_false, not_false_eq_true, h0, ho.len, hw.ls.len, hlen']
    exact ⟨_, _, gc_all, LnR.no (lnE_1 h0 (fun h => hlen (by rw [h.1, hwl]))) (by decide) (List.prefix_refl A)⟩
  have hlen' : (os.length : Int) = ws.length := by omega
  simp (maxSteps := 4000000) -implicitDefEqProofs -dsimp (disch := omega) only [↓AW_skip, ↓AW_ops, ↓AW_seq, ↓AW_cond, ↓AW_block, ↓AOps_nil, ↓AOps_pu, on_some, extK_same, condB_f, ↓then_normal, pval, rd_mkS, rd_mkS0, Nat.reduceBEq, Nat.reduceLT, rd_C, put_mkS, ↓AW_toLoop, chkd, isAdr, bgot, cells_agg, partA, beq_self_eq_true, eq_self, List.getElem?_cons_zero, List.getElem?_cons_succ, List.drop_zero, List.drop_succ_cons, List.take_succ_cons, List.take_nil, List.length_cons, List.length_nil, Nat.reduceAdd, Nat.reduceSub, Nat.reduceLeDiff, Nat.zero_add, bin_neq, if_true, if_false, Bool.false_eq_true, decide_false, Bool.cond_true, Bool.cond_false, not_true_eq_false, h0, ho.len, hw.ls.len, hlen']
  refine LoopK.byS (fun i : Nat => i ≤ os.length ∧ (∀ o ∈ os.take i, inP ws.length o) ∧ (os.take i).Nodup) (fun i => [(1, u), (2, .agg [I P, v]), (7, I i)]) (fun _ => A) (fun i => os.length - i) 0 ⟨by omega, by simp, by simp⟩ (by simp [Has, rd_mkS]) rfl ?_
  rintro i ⟨hi, hrg, hnd⟩
  by_cases hlt : i < os.length
  · obtain ⟨z, hz⟩ : ∃ z, os[i]? = some z := ⟨_, List.getElem?_eq_getElem hlt⟩
    have hlt' : (i : Int) < os.length := by omega
    obtain ⟨vt, hsl, hLt⟩ := Ls_takeS ho i hi
    simp (maxSteps := 4000000) -implicitDefEqProofs -dsimp (disch := omega) only [↓AW_skip, ↓AW_ops, ↓AW_seq, ↓AW_cond, ↓AW_block, ↓AOps_nil, ↓AOps_pu, ↓AOps_ld, ↓AOps_call, on_some, condB_t, ↓then_normal, pval, lval, rd_mkS, rd_mkS0, Nat.reduceBEq, Nat.reduceLT, rd_C, put_mkS, chkd, isAdr, bgot, cells_agg, partA, beq_self_eq_true, eq_self, List.getElem?_cons_zero, List.getElem?_cons_succ, List.drop_zero, List.drop_succ_cons, List.take_succ_cons, List.take_nil, map_c, map_n, List.length_cons, List.length_nil, Nat.reduceAdd, Nat.reduceLeDiff, Nat.zero_add, bin_sub, bin_lss, w64, if_true, if_false, Bool.false_eq_true, decide_true, Bool.cond_true, Bool.cond_false, Go.Eng.e1, hlt', ho.len, ho.idx hlt, ho.ld0 hz 1 false (by decide), hw.ls.len]
    refine CallK.of (s64 _ _ _ _) ?_
    by_cases hzr : inP ws.length z
    · have hc : 0 ≤ z ∧ z ≤ (ws.length : Int) - 1 := by have := hzr.1; have := hzr.2; omega
      simp (maxSteps := 4000000) -implicitDefEqProofs -dsimp (disch := omega) only [↓AOps_pu, ↓AOps_ld, ↓AOps_call, ↓AOps_guard, on_some, extK_same, guardB_ff, pval, lval, rd_mkS, rd_mkS0, Nat.reduceBEq, Nat.reduceLT, put_mkS, partA, beq_self_eq_true, eq_self, List.getElem?_cons_zero, List.drop_zero, List.take_succ_cons, List.take_nil, Option.map_some, Option.map_none, map_c, map_n, List.length_cons, List.length_nil, Nat.reduceLeDiff, Nat.zero_add, if_true, if_false, Bool.false_eq_true, Bool.not_true, decide_true, Bool.cond_true, Bool.cond_false, Go.Eng.e1, and_true, hc, hsl, ho.idx hlt, ho.ld0 hz 1 false (by decide)]
      refine CallK.of (s65 hLt (by rw [List.length_take]; omega) z) ?_
      by_cases hzm : z ∈ os.take i
      · simp (maxSteps := 4000000) -implicitDefEqProofs -dsimp (disch := omega) only [↓AW_ops, ↓AW_seq, ↓AW_cond, ↓AW_ret, ↓AOps_nil, ↓AOps_pu, on_some, extK_same, condB_t, ↓then_normal, ↓then_ret, ↓inBlock_ret, ↓FinR_ret, pval, rd_mkS, rd_mkS0, Nat.reduceBEq, Nat.reduceLT, rd_C, put_mkS, resV, resL, beq_self_eq_true, if_true, if_false, Bool.false_eq_true, decide_true, Bool.cond_true, Bool.cond_false, hzm]
        exact ⟨_, _, gc_all, LnR.no (lnE_1 h0 (fun h => not_nodup hz hzm h.2.2)) (by decide) (List.prefix_refl A)⟩
      · simp (maxSteps := 4000000) -implicitDefEqProofs -dsimp (disch := omega) only [↓AW_skip, ↓AW_ops, ↓AW_cond, ↓AOps_nil, ↓AOps_pu, on_some, extK_same, condB_f, ↓then_normal, ↓inBlock_normal, pval, rd_mkS, rd_mkS0, Nat.reduceBEq, Nat.reduceLT, mkS_len, rd_C, put_mkS, beq_self_eq_true, eq_self, bin_add, w64, if_true, if_false, Bool.false_eq_true, decide_false, Bool.cond_true, Bool.cond_false, true_and, hzm]
        exact ⟨i + 1, ⟨hlt, all_take hrg hz hzr, nodup_take hz hnd hzm⟩, by simp [Has, rd_mkS], by omega⟩
    · have hc : ¬ (0 ≤ z ∧ z ≤ (ws.length : Int) - 1) := fun h => hzr ⟨h.1, by omega⟩
      simp (maxSteps := 4000000) -implicitDefEqProofs -dsimp (disch := omega) only [↓AW_ops, ↓AW_seq, ↓AW_cond, ↓AW_ret, ↓AOps_nil, ↓AOps_pu, ↓AOps_guard, on_some, extK_same, guardB_tf, skipS_some, condB_t, ↓then_normal, ↓then_ret, ↓inBlock_ret, ↓FinR_ret, pval, rd_mkS, rd_mkS0, Nat.reduceBEq, Nat.reduceLT, rd_C, put_mkS, resV, resL, beq_self_eq_true, eq_self, if_true, Bool.not_false, decide_false, Bool.cond_true, Bool.cond_false, hc]
      exact ⟨_, _, gc_all, LnR.no (lnE_1 h0 (fun h => hzr (by have := h.2.1 z (List.mem_of_getElem? hz); rwa [hwl] at this))) (by decide) (List.prefix_refl A)⟩
  · have hlt' : ¬ ((i : Int) < os.length) := by omega
    rw [List.take_of_length_le (by omega)] at hrg hnd
    have hO : isO (lists ws).length os := ⟨by rw [hwl]; exact hlen, by rw [hwl]; exact hrg, hnd⟩
    have hw0 : (0 : Int) ≤ ws.length := by omega
    have hwm : (ws.length : Int) ≤ (lim : Int) := by simp [lim]; omega
    simp (maxSteps := 4000000) -implicitDefEqProofs -dsimp (disch := omega) only [↓AW_ops, ↓AW_seq, ↓AW_cond, ↓AW_block, ↓AW_exit, ↓AOps_nil, ↓AOps_pu, ↓AOps_ha, on_some, extK_app, condB_f, ↓then_normal, ↓then_exit, ↓inBlock_exit, pval, hval_mks, rd_mkS, rd_mkS0, Nat.reduceBEq, Nat.reduceLT, rd_C, put_mkS, ↓AW_toLoop, chkd, isAdr, bgot, cells_agg, partA, beq_self_eq_true, eq_self, List.getElem?_cons_zero, List.getElem?_cons_succ, List.drop_zero, List.drop_succ_cons, List.take_succ_cons, List.take_nil, List.length_cons, List.length_nil, Nat.reduceAdd, Nat.reduceLeDiff, Nat.zero_add, bin_lss, if_true, if_false, Bool.false_eq_true, decide_false, Bool.cond_true, Bool.cond_false, and_true, hlt', ho.len, hw.ls.len, hw0, hwm, Int.le_refl, Int.toNat_natCast, repl_zero]
    have hm := OL.new_mk e1_len A (List.replicate ws.length (0 : Int)) true
    have hD0 : Dl A A.length (A ++ [AObj.cells true ((List.replicate ws.length (0 : Int)).flatMap Go.Eng.e1)]) .nilS (mix os 0 (lnL (lists ws) (os.take 0))) [] := by
      rw [mix_0, lnL_len, hwl]
      exact ⟨hm, AccL.nil hm.pre, fun m len e => by cases e⟩
    refine LoopK.byS (fun x : Nat × AHeap × AV × List Int => x.1 ≤ os.length ∧ Dl A A.length x.2.1 x.2.2.1 (mix os x.1 (lnL (lists ws) (os.take x.1))) x.2.2.2 ∧ x.2.2.2.length ≤ x.1 ∧ ∀ p, 0 ≤ p → (p ∈ x.2.2.2 ↔ p ∈ lnL (lists ws) (os.take x.1))) (fun x => [(1, u), (2, .agg [I P, v]), (8, .sl 1 A.length 0 ws.length true), (9, x.2.2.1), (10, I x.1)]) (fun x => x.2.1) (fun x => os.length - x.1) (0, _, .nilS, []) ⟨by simp only; omega, hD0, by simp, fun p hp => ?_⟩ (by simp [Has, rd_mkS]) rfl ?_
    · simp only [List.take_zero, List.not_mem_nil, false_iff]
      intro hm
      have := List.eq_of_mem_replicate (show p ∈ List.replicate (lists ws).length (-1 : Int) from hm)
      omega
    rintro ⟨j, H, vt, tk⟩ ⟨hj, hD, htl, htk⟩
    simp only at hj hD htl htk
    have hok := ln_ok hv hO j hj
    have hpH := hD.ol.pre
    have hwH := hw.mono hpH
    have hoH := ho.mono hpH
    by_cases hjl : j < os.length
    · obtain ⟨o, hoj⟩ : ∃ o, os[j]? = some o := ⟨_, List.getElem?_eq_getElem hjl⟩
      have hjl' : (j : Int) < os.length := by omega
      have hor := hrg o (List.mem_of_getElem? hoj)
      obtain ⟨k0, rfl⟩ : ∃ k0 : Nat, o = (k0 : Int) := ⟨o.toNat, by have := hor.1; omega⟩
      have hk0 : k0 < ws.length := by have := hor.2; omega
      obtain ⟨x, hx⟩ : ∃ x, ws[k0]? = some x := ⟨_, List.getElem?_eq_getElem hk0⟩
      have hxm := List.mem_of_getElem? hx
      have hxl := lst_at hx
      have hxP := hls x.2 (List.mem_map.2 ⟨x, hxm, rfl⟩)
      have hx7 := hv.len (List.mem_map.2 ⟨x, hxm, rfl⟩ : x.2 ∈ lists ws)
      have hxH := hwH.inn x hxm
      have hsucc := lnL_succ (ls := lists ws) hoj
      simp (maxSteps := 4000000) -implicitDefEqProofs -dsimp (disch := omega) only [↓AW_skip, ↓AW_ops, ↓AW_seq, ↓AW_cond, ↓AW_block, ↓AOps_nil, ↓AOps_pu, ↓AOps_ld, on_some, condB_t, ↓then_normal, pval, lval, rd_mkS, rd_mkS0, Nat.reduceBEq, Nat.reduceLT, rd_C, put_mkS, ↓AW_toLoop, chkd, isAdr, bgot, cells_agg, partA, beq_self_eq_true, eq_self, List.getElem?_cons_zero, List.getElem?_cons_succ, List.drop_zero, List.drop_succ_cons, List.take_succ_cons, List.take_nil, List.length_cons, List.length_nil, Nat.reduceAdd, Nat.reduceLeDiff, Nat.zero_add, bin_lss, if_true, if_false, Bool.false_eq_true, decide_true, Bool.cond_true, Bool.cond_false, Go.Eng.e1, hjl', hoH.len, hoH.idx hjl, hoH.ld0 hoj 1 false (by decide), hwH.ls.idx hk0, hwH.ls.ld0 hx 1 false (by decide), e0]
      refine LoopK.byS (fun k : Nat => k ≤ x.2.length ∧ ∀ p ∈ x.2.take k, p ∈ lnL (lists ws) (os.take j)) (fun k => [(1, u), (2, .agg [I P, v]), (8, .sl 1 A.length 0 ws.length true), (9, vt), (10, I j), (11, x.1), (12, I k)]) (fun _ => H) (fun k => x.2.length - k) 0 ⟨by omega, by simp⟩ (by simp [Has, rd_mkS]) rfl ?_
      rintro k ⟨hk, hkin⟩
      have hmixl : (mix os j (lnL (lists ws) (os.take j))).length = ws.length := by rw [mix_len, lnL_len, hwl]
      have hix := hD.ol.ls.idx (k := .i64) (i := k0) (by rw [hmixl]; exact hk0)
      have hst1 := hD.ol.st (i := k0) (by rw [hmixl]; exact hk0) (I (-1)) (-1) rfl
      have hD1 := hD.set k0 (-1)
      have hg0 : k0 < (lnL (lists ws) (os.take j)).length := by rw [lnL_len, hwl]; exact hk0
      rw [hmixl] at hix hst1
      have hni : (k0 : Int) ∉ os.take j := by
        intro hmm
        exact not_nodup hoj hmm hnd
      have hfree := hok.rest k0 (by rw [hwl]; exact hk0) hni
      by_cases hkl : k < x.2.length
      · obtain ⟨p, hp⟩ : ∃ p, x.2[k]? = some p := ⟨_, List.getElem?_eq_getElem hkl⟩
        have hkl' : (k : Int) < x.2.length := by omega
        have hpin := hxP p (List.mem_of_getElem? hp)
        have htks := AccL_ls hD.tk e1_len
        simp (maxSteps := 4000000) -implicitDefEqProofs -dsimp (disch := omega) only [↓AW_ops, ↓AW_seq, ↓AOps_pu, ↓AOps_ld, ↓AOps_call, ↓AOps_guard, on_some, guardB_tt, pval, lval, rd_mkS, rd_mkS0, Nat.reduceBEq, Nat.reduceLT, put_mkS, partA, beq_self_eq_true, eq_self, List.getElem?_cons_zero, List.drop_zero, List.take_succ_cons, List.take_nil, map_c, map_n, List.length_cons, List.length_nil, Nat.reduceLeDiff, Nat.zero_add, bin_lss, if_true, if_false, Bool.false_eq_true, decide_true, Bool.cond_true, Bool.cond_false, Go.Eng.e1, hkl', hxH.len, hxH.idx hkl, hxH.ld0 hp 1 false (by decide)]
        refine CallK.of (s65 htks (by omega) p) ?_
        by_cases hpt : p ∈ tk
        · simp (maxSteps := 4000000) -implicitDefEqProofs -dsimp (disch := omega) only [↓AW_skip, ↓AW_ops, ↓AW_cond, ↓AW_block, ↓AOps_nil, ↓AOps_pu, on_some, extK_same, condB_t, ↓then_normal, ↓inBlock_normal, pval, rd_mkS, rd_mkS0, Nat.reduceBEq, Nat.reduceLT, mkS_len, rd_C, put_mkS, beq_self_eq_true, eq_self, bin_add, w64, if_true, decide_true, Bool.cond_true, Bool.cond_false, true_and, hpt]
          exact ⟨k + 1, ⟨hkl, all_take hkin hp ((htk p hpin.1).1 hpt)⟩, by simp [Has, rd_mkS], by omega⟩
        · have hpn : p ∉ lnL (lists ws) (os.take j) := fun h => hpt ((htk p hpin.1).2 h)
          have hfr : fr (lnL (lists ws) (os.take j)) (lst (lists ws) (k0 : Int)) = k := by
            rw [hxl]
            exact fpos_some (fun y hy => by simpa using hkin y hy) hp (by simpa using hpn)
          have hnew : lnL (lists ws) (os.take (j + 1)) = (lnL (lists ws) (os.take j)).set k0 p := by
            rw [hsucc, lnS, hfr, if_pos (by omega), Int.toNat_natCast, Int.toNat_natCast, hxl, hp, Option.getD_some]
          have hst2 := hD1.ol.st (i := k0) (by simp [hmixl, hk0]) (I p) p rfl
          have hD2 := hD1.set k0 p
          rw [List.set_set, List.set_set] at hst2 hD2
          have hsl1 : ((mix os j (lnL (lists ws) (os.take j))).set k0 (-1)).length = ws.length := by rw [List.length_set, hmixl]
          rw [hsl1] at hst2
          have hix1 := hD1.ol.ls.idx (k := .i64) (i := k0) (by rw [hsl1]; exact hk0)
          rw [hsl1] at hix1
          have hmix : (mix os j (lnL (lists ws) (os.take j))).set k0 p = mix os (j + 1) (lnL (lists ws) (os.take (j + 1))) := by
            have := mix_set hoj (g := lnL (lists ws) (os.take j)) (g' := lnL (lists ws) (os.take (j + 1))) (by rw [lnL_len, lnL_len]) (fun q hq => by rw [hnew, has_set hg0, if_neg hq])
            rw [← this, hnew, has_set hg0, if_pos rfl]
          rw [hmix] at hD2
          obtain ⟨v', H2, happ, hD3⟩ := hD2.push p (by simp [lim]; omega)
          have p1 := hD1.ol.pre
          have hw1 := hw.mono p1
          have ho1 := ho.mono p1
          have hx1 := hw1.inn x hxm
          have p2 := hD2.ol.pre
          have hx2 := (hw.mono p2).inn x hxm
          simp (maxSteps := 4000000) -implicitDefEqProofs -dsimp (disch := omega) only [↓AW_ops, ↓AW_seq, ↓AW_cond, ↓AW_exit, ↓AW_ret, ↓AOps_nil, ↓AOps_pu, ↓AOps_ld, ↓AOps_ha, on_some, extK_false, extK_same, condB_t, condB_f, ↓then_normal, ↓then_exit, ↓inBlock_exit, ↓FinR_ret, pval, lval, hval_st, rd_mkS, rd_mkS0, Nat.reduceBEq, Nat.reduceLT, mkS_len, rd_C, put_mkS, putS_none, resV, resL, partA, beq_self_eq_true, eq_self, List.getElem?_cons_zero, List.drop_zero, List.take_succ_cons, List.take_nil, Option.map_some, List.length_cons, List.length_nil, Nat.reduceLeDiff, Nat.reduceEqDiff, Nat.zero_add, bin_add, bin_lss, w64, if_true, if_false, Bool.false_eq_true, decide_true, decide_false, Bool.cond_true, Bool.cond_false, Go.Eng.e1, true_and, Int.reduceNeg, hpt, hix, hst1, hxH.len, hkl', hoH.idx hjl, hoH.ld0 hoj 1 false (by decide), ho1.ld0 hoj 1 false (by decide), hx1.idx hkl, hx1.ld0 hp 1 false (by decide), hst2]
          rw [hmix]
          simp (maxSteps := 4000000) -implicitDefEqProofs -dsimp (disch := omega) only [↓AW_ops, ↓AOps_nil, ↓AOps_pu, ↓AOps_ha, on_some, extK_false, extK_app, ↓then_normal, ↓inBlock_normal, pval, hval_blds, hval_app, rd_mkS, rd_mkS0, Nat.reduceBEq, Nat.reduceLT, mkS_len, rd_C, put_mkS, putS_none, cells_int, splice, partA, fillA, repl, beq_self_eq_true, eq_self, List.getElem?_cons_zero, List.drop_zero, List.drop_succ_cons, List.drop_nil, List.take_zero, List.take_succ_cons, List.take_nil, map_c, map_n, List.length_cons, List.length_nil, Nat.reduceLeDiff, Nat.zero_add, List.nil_append, List.append_nil, bin_add, w64, if_true, if_false, Bool.false_eq_true, Bool.cond_true, Bool.cond_false, Go.Eng.e1, true_and, and_true, hx2.ld0 hp 1 false (by decide), repl, happ]
          refine ⟨(j + 1, H2, v', tk ++ [p]), ⟨hjl, hD3, by simp; omega, fun q hq => ?_⟩, by simp [Has, rd_mkS], rfl, by simp only; omega⟩
          rw [hnew, List.mem_append, List.mem_singleton, htk q hq]
          constructor
          · rintro (h | rfl)
            · exact mem_set_keep hg0 hfree h hq
            · exact List.mem_iff_getElem.2 ⟨k0, by simpa using hg0, by simp⟩
          · intro h
            rcases List.mem_or_eq_of_mem_set h with h | h
            · exact .inl h
            · exact .inr h
      · have hkl' : ¬ ((k : Int) < x.2.length) := by omega
        rw [List.take_of_length_le (by omega)] at hkin
        have hfr : ¬ 0 ≤ fr (lnL (lists ws) (os.take j)) (lst (lists ws) (k0 : Int)) := by
          intro h
          obtain ⟨k1, p1, _, _, hp1, hp2, _⟩ := fr_some h
          rw [hxl] at hp1
          exact hp2 (hkin p1 (List.mem_of_getElem? hp1))
        have hnew : lnL (lists ws) (os.take (j + 1)) = lnL (lists ws) (os.take j) := by rw [hsucc, lnS, if_neg hfr]
        have hmix : (mix os j (lnL (lists ws) (os.take j))).set k0 (-1) = mix os (j + 1) (lnL (lists ws) (os.take (j + 1))) := by
          have := mix_set hoj (g := lnL (lists ws) (os.take j)) (g' := lnL (lists ws) (os.take (j + 1))) (by rw [lnL_len, lnL_len]) (fun q hq => by rw [hnew])
          rw [← this, hnew, hfree]
        rw [hmix] at hD1
        simp (maxSteps := 4000000) -implicitDefEqProofs -dsimp (disch := omega) only [↓AW_skip, ↓AW_ops, ↓AW_seq, ↓AW_cond, ↓AW_exit, ↓AW_ret, ↓AOps_nil, ↓AOps_pu, ↓AOps_ld, ↓AOps_ha, ↓AOps_guard, on_some, extK_false, guardB_ft, skipS_some, condB_f, ↓then_normal, ↓then_exit, ↓inBlock_normal, ↓inBlock_exit, ↓FinR_ret, pval, lval, hval_st, rd_mkS, rd_mkS0, Nat.reduceBEq, Nat.reduceLT, mkS_len, rd_C, put_mkS, putS_none, resV, resL, partA, beq_self_eq_true, eq_self, List.getElem?_cons_zero, List.drop_zero, List.take_succ_cons, List.take_nil, Option.map_some, List.length_cons, List.length_nil, Nat.reduceLeDiff, Nat.reduceEqDiff, Nat.zero_add, bin_add, bin_lss, w64, if_true, if_false, Bool.false_eq_true, decide_false, Bool.cond_true, Bool.cond_false, Go.Eng.e1, true_and, Int.reduceNeg, hkl', hxH.len, hoH.idx hjl, hoH.ld0 hoj 1 false (by decide), hix, hst1]
        rw [hmix]
        exact ⟨(j + 1, _, vt, tk), ⟨hjl, hD1, by simp only; omega, fun q hq => by rw [hnew]; exact htk q hq⟩, by simp [Has, rd_mkS], rfl, by simp only; omega⟩
    · have hjl' : ¬ ((j : Int) < os.length) := by omega
      have hjj : j = os.length := by omega
      subst hjj
      rw [List.take_length] at hD
      rw [mix_all (fun k hk => hO.all k (by rwa [lnL_len] at hk))] at hD
      have hls := hD.ol.ls
      rw [lnL_len, hwl] at hls
      simp (maxSteps := 4000000) -implicitDefEqProofs -dsimp (disch := omega) only [↓AW_ops, ↓AW_seq, ↓AW_cond, ↓AW_exit, ↓AW_ret, ↓AOps_nil, ↓AOps_pu, on_some, condB_f, ↓then_normal, ↓then_exit, ↓inBlock_exit, ↓FinR_ret, pval, rd_mkS, rd_mkS0, Nat.reduceBEq, Nat.reduceLT, rd_C, put_mkS, resV, resL, beq_self_eq_true, eq_self, bin_lss, if_true, decide_false, Bool.cond_true, Bool.cond_false, hjl', hoH.len]
      exact ⟨_, _, gc_all, hpH, fun h => absurd (lnE_0.2 ⟨h0, hO⟩) h, fun _ => ⟨_, rfl, hls⟩⟩
end Go.Proofs.Ytlmbobbefgcolaa

namespace Go.Proofs.Ytlmbobbefgcolaa
open Go Go.Eng
def sR : Go.Shelf.Ren := ⟨fun n => if n = 5 then 99 else if n = 8 then 106 else if n = 7 then 105 else if n = 19 then 118 else if n = 20 then 119 else if n = 10 then 109 else if n = 11 then 110 else if n = 12 then 111 else if n = 13 then 112 else if n = 14 then 113 else if n = 15 then 114 else if n = 16 then 115 else if n = 17 then 116 else if n = 18 then 117 else if n = 30 then 120 else if n = 31 then 121 else if n = 32 then 122 else if n = 33 then 123 else if n = 34 then 124 else if n = 35 then 103 else if n = 40 then 125 else n, fun n => if n = 23 then 27 else if n = 25 then 3 else if n = 32 then 63 else if n = 22 then 27 else if n = 44 then 94 else if n = 46 then 97 else if n = 36 then 102 else if n = 35 then 101 else if n = 41 then 107 else if n = 53 then 111 else if n = 57 then 115 else if n = 63 then 117 else if n = 64 then 118 else n, fun g => g⟩
theorem zr_run {P : Program} {t : TypeId} {i : TypeInfo} {v : Value} (hi : P.info? t = some i) (hz : i.zero = some v) (w : World) : (zeroValue t).run P w = .ok v w := by
  simp [zeroValue, typeInfo, hi, hz]
theorem info_zero {P : Program} {t : TypeId} {v : Value} (h : (P.info? t).bind (·.zero) = some v) (w : World) : (zeroValue t).run P w = .ok v w := by
  cases hi : P.info? t with
  | none => rw [hi] at h; cases h
  | some i => rw [hi] at h; exact zr_run hi h w
theorem sortL : SlLaysM.n5 Try.prog sR where
  mixed := hmix
  f5 := ⟨ "slices.Sort[[]int,int]", by decide, by kernel_rfl⟩
  f7 := ⟨ "slices.pdqsortOrdered[int]", by decide, by kernel_rfl⟩
  f8 := by kernel_rfl
  f10 := ⟨ "slices.insertionSortOrdered[int]", by decide, by kernel_rfl⟩
  f11 := ⟨ "slices.heapSortOrdered[int]", by decide, by kernel_rfl⟩
  f12 := ⟨ "slices.breakPatternsOrdered[int]", by decide, by kernel_rfl⟩
  f13 := ⟨ "slices.choosePivotOrdered[int]", by decide, by kernel_rfl⟩
  f14 := ⟨ "slices.reverseRangeOrdered[int]", by decide, by kernel_rfl⟩
  f15 := ⟨ "slices.partialInsertionSortOrdered[int]", by decide, by kernel_rfl⟩
  f16 := ⟨ "cmp.Less[int]", by decide, by kernel_rfl⟩
  f17 := ⟨ "slices.partitionEqualOrdered[int]", by decide, by kernel_rfl⟩
  f18 := ⟨ "slices.partitionOrdered[int]", by decide, by kernel_rfl⟩
  f19 := by kernel_rfl
  f20 := by kernel_rfl
  f30 := ⟨ "slices.siftDownOrdered[int]", by decide, by kernel_rfl⟩
  f31 := by kernel_rfl
  f32 := by kernel_rfl
  f33 := ⟨ "slices.medianAdjacentOrdered[int]", by decide, by kernel_rfl⟩
  f34 := ⟨ "slices.medianOrdered[int]", by decide, by kernel_rfl⟩
  f35 := ⟨ "cmp.isNaN[int]", by decide, by kernel_rfl⟩
  f40 := ⟨ "slices.order2Ordered[int]", by decide, by kernel_rfl⟩
  t0 := by kernel_rfl
  a0 := Go.Eng.run_isAgg (by kernel_rfl)
  z0 := Go.Eng.run_sizeOf (by kernel_rfl)
  v0 := info_zero (by kernel_rfl)
  t3 := by kernel_rfl
  a3 := Go.Eng.run_isAgg (by kernel_rfl)
  z3 := Go.Eng.run_sizeOf (by kernel_rfl)
  v3 := info_zero (by kernel_rfl)
  t4 := by kernel_rfl
  a4 := Go.Eng.run_isAgg (by kernel_rfl)
  z4 := Go.Eng.run_sizeOf (by kernel_rfl)
  v4 := info_zero (by kernel_rfl)
  t5 := by kernel_rfl
  a5 := Go.Eng.run_isAgg (by kernel_rfl)
  z5 := Go.Eng.run_sizeOf (by kernel_rfl)
  v5 := info_zero (by kernel_rfl)
  t9 := by kernel_rfl
  a9 := Go.Eng.run_isAgg (by kernel_rfl)
  z9 := Go.Eng.run_sizeOf (by kernel_rfl)
  v9 := info_zero (by kernel_rfl)
  t22 := by kernel_rfl
  a22 := Go.Eng.run_isAgg (by kernel_rfl)
  z22 := Go.Eng.run_sizeOf (by kernel_rfl)
  v22 := info_zero (by kernel_rfl)
  t23 := by kernel_rfl
  a23 := Go.Eng.run_isAgg (by kernel_rfl)
  z23 := Go.Eng.run_sizeOf (by kernel_rfl)
  v23 := info_zero (by kernel_rfl)
  t25 := by kernel_rfl
  a25 := Go.Eng.run_isAgg (by kernel_rfl)
  z25 := Go.Eng.run_sizeOf (by kernel_rfl)
  v25 := info_zero (by kernel_rfl)
  t32 := by kernel_rfl
  a32 := Go.Eng.run_isAgg (by kernel_rfl)
  z32 := Go.Eng.run_sizeOf (by kernel_rfl)
  v32 := info_zero (by kernel_rfl)
  t35 := by kernel_rfl
  a35 := Go.Eng.run_isAgg (by kernel_rfl)
  z35 := Go.Eng.run_sizeOf (by kernel_rfl)
  v35 := info_zero (by kernel_rfl)
  t36 := by kernel_rfl
  a36 := Go.Eng.run_isAgg (by kernel_rfl)
  z36 := Go.Eng.run_sizeOf (by kernel_rfl)
  v36 := info_zero (by kernel_rfl)
  t41 := by kernel_rfl
  a41 := Go.Eng.run_isAgg (by kernel_rfl)
  z41 := Go.Eng.run_sizeOf (by kernel_rfl)
  v41 := info_zero (by kernel_rfl)
  t44 := by kernel_rfl
  a44 := Go.Eng.run_isAgg (by kernel_rfl)
  z44 := Go.Eng.run_sizeOf (by kernel_rfl)
  v44 := info_zero (by kernel_rfl)
  t46 := by kernel_rfl
  a46 := Go.Eng.run_isAgg (by kernel_rfl)
  z46 := Go.Eng.run_sizeOf (by kernel_rfl)
  v46 := info_zero (by kernel_rfl)
  t53 := by kernel_rfl
  a53 := Go.Eng.run_isAgg (by kernel_rfl)
  z53 := Go.Eng.run_sizeOf (by kernel_rfl)
  v53 := info_zero (by kernel_rfl)
  t57 := by kernel_rfl
  a57 := Go.Eng.run_isAgg (by kernel_rfl)
  z57 := Go.Eng.run_sizeOf (by kernel_rfl)
  v57 := info_zero (by kernel_rfl)
  t63 := by kernel_rfl
  a63 := Go.Eng.run_isAgg (by kernel_rfl)
  z63 := Go.Eng.run_sizeOf (by kernel_rfl)
  v63 := info_zero (by kernel_rfl)
  t64 := by kernel_rfl
  a64 := Go.Eng.run_isAgg (by kernel_rfl)
  z64 := Go.Eng.run_sizeOf (by kernel_rfl)
  v64 := info_zero (by kernel_rfl)
end Go.Proofs.Ytlmbobbefgcolaa

namespace Go.Proofs.Ytlmbobbefgcolaa
open Go Go.Eng
def m100p0 : MCode :=
 .ops [⟨(some 5), some undefA, none, false, .ld (.ld 1 false (.s 1))⟩,
   ⟨(some 6), some undefA, none, false, .pu (.len (.s 5))⟩,
   ⟨(some 7), some undefA, none, false, .pu (.mov (.c (.int .i64 0)))⟩]
def m100p2 : MCode :=
 .ops [⟨(some 8), some undefA, none, false, .pu (.bin .lss (.s 7) (.s 6))⟩]
def m100p3 : MCode :=
 .cond (.s 8) (.skip)
 (.exit 0)
def m100p4 : MCode :=
 .ops [⟨(some 9), some undefA, none, false, .pu (.idx 1 (.s 5) (.s 7))⟩,
   ⟨(some 10), some undefA, none, false, .ld (.ld 1 false (.s 9))⟩,
   ⟨(some 4), some undefA, none, false, .pu (.mov (.s 10))⟩]
def m100p6 : MCode :=
 .cond (.s 14) (.ret)
 (.skip)
def m100p7 : MCode :=
 .ops [⟨(some 15), some undefA, none, false, .pu (.bin .add (.s 7) (.c (.int .i64 1)))⟩,
   ⟨(some 7), some undefA, none, false, .pu (.mov (.s 15))⟩]
theorem it_Values {xs : List Int} {v : AV} {A : AHeap} {b : Nat} {Yd : AV → AHeap → AHeap → Prop} {Hs : Nat → AHeap} (hb : ldA 1 false (.ptr b 0) A = some v) (hx : L1 A v xs) (hl : xs.length ≤ 1000000) (hp : ∀ k, k ≤ xs.length → A <+: Hs k)
    (hstep : ∀ (k : Nat) (z : Int), xs[k]? = some z → Yd (I z) (Hs k) (Hs (k + 1))) (h0 : ldA 1 false (.ptr b 0) (Hs 0) = some v) : AIter Try.prog 100 [.ptr b 0] (Hs 0) (Hs xs.length) Yd := by
  refine aiter_of Try.func100 (by kernel_rfl) rfl rfl (fun n l ρ w hs hy => ?_)
  refine WC_seq (WC_pure hmix (m := m100p0) (by kernel_rfl) ?_)
  have hxk : ∀ k, k ≤ xs.length → L1 (Hs k) v xs := fun k hk => hx.mono (hp k hk)
  show AW Try.prog m100p0 _ ([.yld l, .ptr b 0] ++ List.replicate 14 .junk) _
  simp (maxSteps := 4000000) -implicitDefEqProofs -dsimp (disch := omega) only [↓AW_ops, ↓AOps_nil, ↓AOps_pu, ↓AOps_ld, on_some, ↓then_normal, pval, lval, rd_S, rd_C, put_S, List.replicate_succ, List.replicate_zero, List.set_cons_zero, List.set_cons_succ, List.getElem?_cons_zero, List.getElem?_cons_succ, Option.getD_some, List.cons_append, List.nil_append, m100p0, h0, hx.len]
  refine WC_block (by decide) ?_
  refine WC_loopA 16 (fun i : Nat => i ≤ xs.length) (fun i => [(0, .yld l), (1, .ptr b 0), (5, v), (6, I xs.length), (7, I i)]) (fun i => Hs i) (fun i => xs.length - i) 0 (by omega) rfl (by simp [Has, rd_s]) rfl ?_
  intro i hi
  refine WC_seq (WC_pure hmix (m := m100p2) (by kernel_rfl) ?_)
  by_cases hlt : i < xs.length
  · obtain ⟨z, hz⟩ : ∃ z, xs[i]? = some z := ⟨_, List.getElem?_eq_getElem hlt⟩
    have hlt' : (i : Int) < xs.length := by omega
    simp (maxSteps := 4000000) -implicitDefEqProofs -dsimp (disch := omega) only [↓AW_ops, ↓AOps_nil, ↓AOps_pu, on_some, ↓then_normal, pval, rd_S, put_S, mk, List.foldl_cons, List.foldl_nil, List.replicate_succ, List.replicate_zero, List.set_cons_zero, List.set_cons_succ, List.getElem?_cons_zero, List.getElem?_cons_succ, Option.getD_some, bin_lss, decide_true, m100p2, hlt']
    refine WC_seq (WC_pure hmix (m := m100p3) (by kernel_rfl) ?_)
    simp (maxSteps := 4000000) -implicitDefEqProofs -dsimp (disch := omega) only [↓AW_skip, ↓AW_cond, condB_t, ↓then_normal, rd_S, List.getElem?_cons_zero, List.getElem?_cons_succ, Option.getD_some, m100p3]
    refine WC_seq (WC_block (by decide) (WC_seq (WC_pure hmix (m := m100p4) (by kernel_rfl) ?_)))
    have hxi := hxk i hi
    simp (maxSteps := 4000000) -implicitDefEqProofs -dsimp (disch := omega) only [↓AW_ops, ↓AOps_nil, ↓AOps_pu, ↓AOps_ld, on_some, ↓then_normal, pval, lval, rd_S, put_S, partA, eq_self, List.set_cons_zero, List.set_cons_succ, List.getElem?_cons_zero, List.getElem?_cons_succ, List.drop_zero, List.take_succ_cons, List.take_nil, Option.getD_some, List.length_cons, List.length_nil, Nat.reduceLeDiff, Nat.zero_add, if_true, if_false, Bool.false_eq_true, Go.Eng.e1, m100p4, hxi.idx hlt, hxi.ld0 hz 1 false (by decide)]
    refine WC_seq (WC_yield (H2 := Hs (i + 1)) hy ?_ ?_ ?_ ?_)
    · rfl
    · simp
    · exact hstep i z hz
    simp (maxSteps := 4000000) -implicitDefEqProofs -dsimp (disch := omega) only [↓then_normal, rd_S, List.set_cons_zero, List.set_cons_succ, List.getElem?_cons_zero, List.getElem?_cons_succ, Option.getD_some]
    refine WC_pure hmix (m := m100p6) (by kernel_rfl) ?_
    simp (maxSteps := 4000000) -implicitDefEqProofs -dsimp (disch := omega) only [↓AW_skip, ↓AW_cond, condB_f, ↓then_normal, ↓inBlock_normal, rd_S, List.getElem?_cons_zero, List.getElem?_cons_succ, Option.getD_some, m100p6]
    refine WC_pure hmix (m := m100p7) (by kernel_rfl) ?_
    simp (maxSteps := 4000000) -implicitDefEqProofs -dsimp (disch := omega) only [↓AW_ops, ↓AOps_nil, ↓AOps_pu, on_some, ↓then_normal, pval, rd_S, rd_C, put_S, eq_self, List.set_cons_zero, List.set_cons_succ, List.getElem?_cons_zero, List.getElem?_cons_succ, Option.getD_some, List.length_cons, List.length_nil, Nat.reduceAdd, Nat.zero_add, bin_add, w64, true_and, m100p7]
    exact ⟨i + 1, hlt, by simp [Has, rd_s], rfl, by omega⟩
  · have hlt' : ¬ ((i : Int) < xs.length) := by omega
    have hii : i = xs.length := by omega
    subst hii
    simp (maxSteps := 4000000) -implicitDefEqProofs -dsimp (disch := omega) only [↓AW_ops, ↓AOps_nil, ↓AOps_pu, on_some, ↓then_normal, pval, rd_S, put_S, mk, List.foldl_cons, List.foldl_nil, List.replicate_succ, List.replicate_zero, List.set_cons_zero, List.set_cons_succ, List.getElem?_cons_zero, List.getElem?_cons_succ, Option.getD_some, bin_lss, decide_false, m100p2, hlt']
    refine WC_seq (WC_pure hmix (m := m100p3) (by kernel_rfl) ?_)
    simp (maxSteps := 4000000) -implicitDefEqProofs -dsimp (disch := omega) only [↓AW_cond, ↓AW_exit, condB_f, ↓then_exit, ↓inBlock_exit, rd_S, eq_self, List.getElem?_cons_zero, List.getElem?_cons_succ, Option.getD_some, if_true, reduceCtorEq, m100p3]
    exact ⟨.inl trivial, gc_all⟩
/-- Step after step. -/
theorem chain {α : Type} {inv : Nat → α → Prop} {R : Nat → α → α → Prop} {x0 : α} (h0 : inv 0 x0) : ∀ n : Nat, (∀ k x, k < n → inv k x → ∃ y, R k x y ∧ inv (k + 1) y) → ∃ f : Nat → α, f 0 = x0 ∧ (∀ k, k ≤ n → inv k (f k)) ∧ ∀ k, k < n → R k (f k) (f (k + 1))
  | 0, _ => ⟨fun _ => x0, rfl, fun k hk => by rw [show k = 0 by omega]; exact h0, fun k hk => by omega⟩
  | n + 1, h => by
    obtain ⟨f, f0, f1, f2⟩ := chain h0 n (fun k x hk hi => h k x (by omega) hi)
    obtain ⟨y, hy1, hy2⟩ := h n (f n) (by omega) (f1 n (Nat.le_refl _))
    refine ⟨fun k => if k = n + 1 then y else f k, by simp [f0], fun k hk => ?_, fun k hk => ?_⟩
    · by_cases e : k = n + 1
      · subst e; simp only [if_true]; exact hy2
      · simp only [e, if_false]; exact f1 k (by omega)
    · by_cases e : k = n
      · subst e
        have : ¬ k = k + 1 := by omega
        simp only [this, if_false, if_true]
        exact hy1
      · have h1 : ¬ k = n + 1 := by omega
        have h2 : ¬ k + 1 = n + 1 := by omega
        simp only [h1, h2, if_false]
        exact f2 k (by omega)
end Go.Proofs.Ytlmbobbefgcolaa

namespace Go.Proofs.Ytlmbobbefgcolaa
open Go Go.Eng
def m104p0 : MCode :=
 .ops [⟨(some 2), some undefA, none, false, .ha (.newv (.s 0))⟩,
   ⟨(some 4), some undefA, none, false, .pu (.mov (.c (.nilS)))⟩]
def m104p1 : MCode :=
 .ops [⟨(some 6), some undefA, none, false, .pu (.mov (.s 1))⟩]
def m104p2 : MCode :=
 .ops [⟨(some 5), some undefA, none, false, .pu (.mov (.s 7))⟩]
def m104p3 : MCode :=
 .block 1 (.ops [⟨(some 8), some undefA, none, false, .ld (.ld 1 false (.s 2))⟩,
    ⟨(some 9), some undefA, none, false, .pu (.mov (.s 5))⟩,
    ⟨(some 10), some undefA, none, false, .ha (.blds 1 1 [.int .i64 0] [(0, 1, (.s 9))])⟩,
    ⟨(some 11), some undefA, none, false, .ha (.app 1 (.s 8) (.s 10))⟩,
    ⟨none, some undefA, none, false, .ha (.st 1 (.s 2) (.s 11))⟩])
/-- What has been laid together so far, in a box. -/
def Ap (B H : AHeap) (xs : List Int) : Prop := B <+: H ∧ ∃ v, H[B.length]? = some (.cells true [v]) ∧ ((xs = [] ∧ v = .nilS) ∨ (xs ≠ [] ∧ ∃ m, v = .sl 1 m 0 xs.length false ∧ B.length < m ∧ H[m]? = some (.cells true (xs.flatMap Go.Eng.e1))))
theorem Ap.acc {B H : AHeap} {xs : List Int} (h : Ap B H xs) : ∃ v, ldA 1 false (.ptr B.length 0) H = some v ∧ AccL 1 Go.Eng.e1 B H v xs := by
  obtain ⟨hp, v, hv, h⟩ := h
  refine ⟨v, by simp [ldA, partA, hv], hp, flatMap_length e1_len xs, ?_⟩
  rcases h with ⟨rfl, rfl⟩ | ⟨h0, m, rfl, hm, ho⟩
  · exact .inl ⟨rfl, rfl⟩
  · exact .inr ⟨List.length_pos_iff.2 h0, m, rfl, by omega, ho⟩
/-- One round of the loop. -/
theorem Ap.step {B H : AHeap} {xs : List Int} (h : Ap B H xs) (z : Int) (hl : xs.length + 1 ≤ lim) (f b : AV) :
    ∃ H', AW Try.prog m104p2 (MX.then (AW Try.prog m104p3 (fun e _ H1 => e = .normal ∧ H1 = H')) (fun _ _ _ => False)) [.nilS, f, .ptr B.length 0, .junk, .nilS, .junk, b, I z, .junk, .junk, .junk, .junk, .junk] H ∧ Ap B H' (xs ++ [z]) := by
  obtain ⟨hp, v, hv, h⟩ := h
  have l0 : ldA 1 false (.ptr B.length 0) H = some v := by simp [ldA, partA, hv]
  have hBl : B.length < H.length := (List.getElem?_eq_some_iff.1 hv).1
  have key : ∀ (v' : AV) (H2 : AHeap), appA 1 (H ++ [AObj.cells true [I z]]) v (.sl 1 H.length 0 1 true) = some (v', H2) → v'.cells? = some [v'] → H2[B.length]? = some (.cells true [v]) →
      AW Try.prog m104p2 (MX.then (AW Try.prog m104p3 (fun e _ H1 => e = .normal ∧ H1 = H2.set B.length (AObj.cells true [v']))) (fun _ _ _ => False)) [.nilS, f, .ptr B.length 0, .junk, .nilS, .junk, b, I z, .junk, .junk, .junk, .junk, .junk] H := by
    intro v' H2 happ hc hb2
    have hst : stA 1 (.ptr B.length 0) v' H2 = some (H2.set B.length (AObj.cells true [v'])) := by simp [stA, hb2, hc, splice]
    simp (maxSteps := 4000000) -implicitDefEqProofs -dsimp (disch := omega) only [↓AW_ops, ↓AW_block, ↓AOps_nil, ↓AOps_pu, ↓AOps_ld, ↓AOps_ha, on_some, extK_false, extK_app, ↓then_normal, ↓inBlock_normal, pval, lval, hval_st, hval_blds, hval_app, rd_S, put_S, cells_int, splice, fillA, repl, eq_self, List.set_cons_zero, List.set_cons_succ, List.getElem?_cons_zero, List.getElem?_cons_succ, List.drop_succ_cons, List.drop_nil, List.take_zero, Option.getD_some, Option.map_some, map_c, map_n, List.length_cons, List.length_nil, Nat.reduceLeDiff, Nat.zero_add, List.nil_append, List.append_nil, if_true, and_true, m104p2, m104p3, l0, repl, happ, hst]
  rcases h with ⟨rfl, rfl⟩ | ⟨h0, m, rfl, hm, ho⟩
  · have happ : appA 1 (H ++ [AObj.cells true [I z]]) .nilS (.sl 1 H.length 0 1 true) = some (.sl 1 (H ++ [AObj.cells true [I z]]).length 0 1 false, H ++ [AObj.cells true [I z]] ++ [AObj.cells true [I z]]) := by
      simp [appA, slCells, cellsAt, lim]
    have hb2 : (H ++ [AObj.cells true [I z]] ++ [AObj.cells true [I z]])[B.length]? = some (.cells true [AV.nilS]) := pre_get ((pre_app _ _).trans (pre_app _ _)) hv
    refine ⟨_, key _ _ happ rfl hb2, pre_set (hp.trans ((pre_app _ _).trans (pre_app _ _))) (Nat.le_refl _) _, _, by rw [List.getElem?_set_self (by simp; omega)]; rfl, .inr ⟨by simp, (H ++ [AObj.cells true [I z]]).length, rfl, by simp; omega, ?_⟩⟩
    rw [List.getElem?_set_ne (by simp; omega), get_new]
    rfl
  · have hml := (List.getElem?_eq_some_iff.1 ho).1
    have hfl := flatMap_length e1_len xs
    have happ : appA 1 (H ++ [AObj.cells true [I z]]) (.sl 1 m 0 xs.length false) (.sl 1 H.length 0 1 true) = some (.sl 1 (H ++ [AObj.cells true [I z]]).length 0 (xs.length + 1) false, (H ++ [AObj.cells true [I z]]).set m AObj.dead ++ [AObj.cells true (xs.flatMap Go.Eng.e1 ++ [I z])]) := by
      have h1 : (H ++ [AObj.cells true [I z]])[m]? = some (.cells true (xs.flatMap Go.Eng.e1)) := pre_get (pre_app _ _) ho
      have h2 : xs.length * 1 ≤ (xs.flatMap Go.Eng.e1).length := by omega
      have h3 : (xs.flatMap Go.Eng.e1).take (xs.length * 1) = xs.flatMap Go.Eng.e1 := List.take_of_length_le (by omega)
      have h4 : slCells 1 (H ++ [AObj.cells true [I z]]) (.sl 1 H.length 0 1 true) = some (1, [I z]) := by simp [slCells, cellsAt]
      have h5 : (xs.flatMap Go.Eng.e1).take xs.length = xs.flatMap Go.Eng.e1 := by rw [Nat.mul_one] at h3; exact h3
      simp [appA, h4, h1, hl, hfl, h5]
    have hb2 : ((H ++ [AObj.cells true [I z]]).set m AObj.dead ++ [AObj.cells true (xs.flatMap Go.Eng.e1 ++ [I z])])[B.length]? = some (.cells true [.sl 1 m 0 xs.length false]) := by
      rw [List.getElem?_append_left (by simp; omega), List.getElem?_set_ne (by omega)]
      exact pre_get (pre_app _ _) hv
    have hB2 : B <+: (H ++ [AObj.cells true [I z]]).set m AObj.dead := pre_set (hp.trans (pre_app _ _)) (by omega) _
    refine ⟨_, key _ _ happ rfl hb2, pre_set (hB2.trans (pre_app _ _)) (Nat.le_refl _) _, _, by rw [List.getElem?_set_self (by simp; omega)], .inr ⟨by simp, (H ++ [AObj.cells true [I z]]).length, by simp, by simp; omega, ?_⟩⟩
    rw [List.getElem?_set_ne (by simp; omega), List.getElem?_append_right (by simp)]
    simp [Go.Eng.e1]
theorem c_AppendSeq {xs : List Int} {v : AV} {B : AHeap} {b : Nat} (hb : ldA 1 false (.ptr b 0) B = some v) (hx : L1 B v xs) (hl : xs.length ≤ 1000000) :
    ACalls Try.prog 104 [.nilS, .fn 100 [.ptr b 0]] B (outV 1 B xs.length) (outH B (xs.flatMap Go.Eng.e1) xs.length) := by
  refine acalls_wf Try.func104 (by kernel_rfl) rfl (fun n ρ w hs => ?_)
  refine WF_seq (WC_pure hmix (m := m104p0) (by kernel_rfl) ?_)
  show AW Try.prog m104p0 _ ([.nilS, .fn 100 [.ptr b 0]] ++ List.replicate 11 .junk) _
  simp (maxSteps := 4000000) -implicitDefEqProofs -dsimp (disch := omega) only [↓AW_ops, ↓AOps_nil, ↓AOps_pu, ↓AOps_ha, on_some, extK_app, pval, hval, rd_S, rd_C, put_S, AV.cells?, eq_self, List.replicate_succ, List.replicate_zero, List.set_cons_zero, List.set_cons_succ, List.getElem?_cons_zero, Option.getD_some, List.cons_append, List.nil_append, true_and, m104p0]
  have p1 := pre_app B [AObj.cells true [AV.nilS]]
  have hb1 : ∀ {H : AHeap}, B <+: H → ldA 1 false (.ptr b 0) H = some v := fun hp => by
    unfold ldA at hb ⊢
    simp only at hb ⊢
    split at hb
    · rename_i rw l h; rw [pre_get hp h]; exact hb
    · cases hb
  have h0 : Ap B (B ++ [AObj.cells true [AV.nilS]]) [] := ⟨p1, _, get_new _ _, .inl ⟨rfl, rfl⟩⟩
  obtain ⟨Hs, f0, f1, f2⟩ := chain (inv := fun k H => Ap B H (xs.take k)) (R := fun k H H' => ∀ z, xs[k]? = some z → AW Try.prog m104p2 (MX.then (AW Try.prog m104p3 (fun e _ H1 => e = .normal ∧ H1 = H')) (fun _ _ _ => False)) [.nilS, .fn 100 [.ptr b 0], .ptr B.length 0, .junk, .nilS, .junk, .fn 100 [.ptr b 0], I z, .junk, .junk, .junk, .junk, .junk] H) (x0 := B ++ [AObj.cells true [AV.nilS]]) (by simpa using h0) xs.length (fun k H hk hi => by
    obtain ⟨z, hz⟩ : ∃ z, xs[k]? = some z := ⟨_, List.getElem?_eq_getElem hk⟩
    obtain ⟨H', h1, h2⟩ := hi.step z (by rw [List.length_take]; simp [lim]; omega) (.fn 100 [.ptr b 0]) (.fn 100 [.ptr b 0])
    refine ⟨H', fun z' hz' => ?_, ?_⟩
    · rw [hz] at hz'
      cases hz'
      exact h1
    · rw [List.take_add_one, hz]
      exact h2)
  refine WF_range hmix (ma := m104p2) (mb := m104p3) rfl rfl (by kernel_rfl) (by kernel_rfl) rfl rfl rfl rfl (by kernel_rfl) (by kernel_rfl) ?_ ⟨ρ, hs, rfl⟩
  refine WC_pure hmix (m := m104p1) (by kernel_rfl) ?_
  simp (maxSteps := 4000000) -implicitDefEqProofs -dsimp (disch := omega) only [↓AW_ops, ↓AOps_nil, ↓AOps_pu, on_some, pval, rd_S, put_S, eq_self, List.set_cons_zero, List.set_cons_succ, List.getElem?_cons_zero, List.getElem?_cons_succ, Option.getD_some, List.length_cons, List.length_nil, Nat.reduceAdd, Nat.zero_add, true_and, m104p1]
  have hend := f1 xs.length (Nat.le_refl _)
  rw [List.take_length] at hend
  obtain ⟨v1, hv1, hacc⟩ := hend.acc
  refine ⟨by decide, by decide, Hs xs.length, v1, ⟨100, [.ptr b 0], rfl, ?_⟩, hv1, hacc.gc flat_e1⟩
  rw [← f0]
  refine it_Values hb hx hl (fun k hk => (f1 k hk).1) (fun k z hz => ?_) (hb1 (by rw [f0]; exact p1))
  exact f2 k (List.getElem?_eq_some_iff.1 hz).1 z hz
theorem c_Values (v : AV) (hc : v.cells? = some [v]) (A : AHeap) : ACalls Try.prog 86 [v] A (.fn 100 [.ptr A.length 0]) (A ++ [.cells true [v]]) := by
  refine acalls hmix Try.func86 (by kernel_rfl) t86 1 rfl (by decide) ?_
  dsimp only [m86]
  simp (maxSteps := 4000000) -implicitDefEqProofs -dsimp (disch := omega) only [↓AW_ops, ↓AW_seq, ↓AW_ret, ↓AOps_nil, ↓AOps_pu, ↓AOps_ha, on_some, extK_app, ↓then_normal, ↓Fin_ret, pval, hval_newv, rd_S, rd_C, put_S, resV, resL, List.replicate_succ, List.replicate_zero, List.set_cons_zero, List.set_cons_succ, List.getElem?_cons_zero, List.getElem?_cons_succ, Option.getD_some, map_c, map_n, Nat.reduceSub, List.cons_append, List.nil_append, hc]
  exact gc_all
end Go.Proofs.Ytlmbobbefgcolaa

namespace Go.Proofs.Ytlmbobbefgcolaa
open Go Go.Eng
/-- slices.Sorted[int] [] -/
def m85 : MFun := ⟨9, [], [.mov (.s 2)],
 .seq (.ops [⟨(some 2), some undefA, none, false, .pu (.mov (.c (.nilS)))⟩])
 (.seq (.ops [⟨(some 4), some undefA, none, false, .pu (.mov (.s 0))⟩,
   ⟨(some 5), some undefA, none, false, .call 98 [(.s 4)]⟩,
   ⟨(some 3), some undefA, none, false, .pu (.mov (.s 5))⟩])
 (.seq (.ops [⟨(some 6), some undefA, none, false, .pu (.mov (.s 3))⟩,
   ⟨(some 7), some undefA, none, false, .call 99 [(.s 6)]⟩])
 (.seq (.ops [⟨(some 8), some undefA, none, false, .pu (.mov (.s 3))⟩,
   ⟨(some 2), some undefA, none, false, .pu (.mov (.s 8))⟩])
 (.ret))))⟩
theorem t85 : trF Try.prog [] [] Try.f85 = some m85 := by kernel_rfl
/-- slices.Collect[int] [] -/
def m98 : MFun := ⟨5, [], [.mov (.s 2)],
 .seq (.ops [⟨(some 2), some undefA, none, false, .pu (.mov (.c (.nilS)))⟩])
 (.seq (.ops [⟨(some 3), some undefA, none, false, .pu (.mov (.s 0))⟩,
   ⟨(some 4), some undefA, none, false, .call 104 [(.c (.nilS)), (.s 3)]⟩,
   ⟨(some 2), some undefA, none, false, .pu (.mov (.s 4))⟩])
 (.ret))⟩
theorem t98 : trF Try.prog [] [] Try.f98 = some m98 := by kernel_rfl
end Go.Proofs.Ytlmbobbefgcolaa

namespace Go.Proofs.Ytlmbobbefgcolaa
open Go Go.Eng
abbrev eI : Int → Value := Value.int .i64
theorem put_heap (w : World) (q blk off : Nat) (d : Array Int) (b : Nat) : (Go.Sort.putRow eI (Go.Sort.ahead w q) blk off d).heap[b]? = if blk = b then (w.heap[b]?).map (Go.Sort.onCells (Go.Sort.putCells eI off d)) else w.heap[b]? := by
  show (w.heap.modify blk (Go.Sort.onCells (Go.Sort.putCells eI off d)))[b]? = _
  rw [Array.getElem?_modify]
/-- What the block's cells hold after they were written. -/
theorem put_all {cs : Array Value} {o : Nat} {d : Array Int} (hm : o + d.size ≤ cs.size) : ((Go.Sort.putCells eI o d cs).toList.drop o).take d.size = d.toList.map eI := by
  apply List.ext_getElem?
  intro k
  by_cases hk : k < d.size
  · rw [List.getElem?_take, if_pos hk, List.getElem?_drop, Array.getElem?_toList]
    unfold Go.Sort.putCells
    rw [Array.getElem?_mapIdx, Array.getElem?_eq_getElem (by omega), List.getElem?_map, Array.getElem?_toList, Array.getElem?_eq_getElem hk]
    simp only [Option.map_some]
    rw [if_pos (by omega), show o + k - o = k by omega, getElem!_pos d k hk]
  · rw [List.getElem?_eq_none (by rw [List.length_take]; omega), List.getElem?_eq_none (by simp; omega)]
theorem flat_vals {ρ : Ren} : ∀ {xs : List Int} {vs : List Value}, LR ρ (xs.flatMap Go.Eng.e1) vs → vs = xs.map eI
  | [], vs, h => by
    have := h.1
    exact List.eq_nil_of_length_eq_zero (by simpa using this.symm)
  | x :: xs, [], h => by
    have := h.1
    simp [Go.Eng.e1] at this
  | x :: xs, v :: vs, h => by
    have h1 : LR ρ (I x :: xs.flatMap Go.Eng.e1) (v :: vs) := h
    have h2 := h1.head
    cases h2
    rw [flat_vals h1.tail]
    rfl
theorem vals_flat (ρ : Ren) : ∀ (xs : List Int), LR ρ (xs.flatMap Go.Eng.e1) (xs.map eI)
  | [] => LR.nil
  | x :: xs => LR.cons (.int .i64 x) (vals_flat ρ xs)
/-- The list, sorted. -/
def srt (xs : List Int) : List Int := xs.mergeSort (fun x y => decide (x ≤ y))
theorem srt_perm (xs : List Int) : (srt xs).Perm xs := List.mergeSort_perm _ _
theorem srt_nil : srt [] = [] := by simp [srt]
theorem srt_len (xs : List Int) : (srt xs).length = xs.length := (srt_perm xs).length_eq
theorem c_Sort {H : AHeap} {n : Nat} {full : Bool} {xs : List Int} (hn : H[n]? = some (.cells true (xs.flatMap Go.Eng.e1))) (hl : xs.length ≤ 1000000) :
    ACalls Try.prog 99 [.sl 1 n 0 xs.length full] H undefA (H.set n (.cells true ((srt xs).flatMap Go.Eng.e1))) := by
  refine ⟨⟨Try.f99, Try.func99, by kernel_rfl, by kernel_rfl⟩, fun ρ w cargs hs hlr => ?_⟩
  obtain ⟨cl⟩ := cargs
  have hle := hlr.1
  rcases cl with _ | ⟨c0, _ | ⟨c1, cl⟩⟩ <;> simp at hle
  have r0 := hlr.head
  cases r0 with
  | sl _ _ _ _ _ L a cap h1 h2 h3 h4 h5 =>
    have hob := hs.obj n L _ h1 hn
    cases hh : w.heap[L.b]? with
    | none => rw [hh] at hob; exact hob.elim
    | some b =>
      rw [hh] at hob
      cases b with
      | cells cs ty fz =>
        obtain ⟨ho1, ho2, hLR, hone⟩ := hob
        have hown := ho1 rfl
        obtain ⟨hcsz, hfz⟩ := ho2 hown
        have hfl := flatMap_length e1_len xs
        rw [Nat.mul_one] at hfl
        rw [hfl] at hLR hone
        have hvs := flat_vals hLR
        have hfit : xs.length = 0 ∨ L.o + xs.length ≤ cs.size := by
          have h := congrArg List.length hvs
          have hcl : cs.toList.length = cs.size := Array.length_toList
          rw [List.length_take, List.length_drop, hcl, List.length_map] at h
          omega
        by_cases h0 : xs.length = 0
        · have hx0 : xs = [] := List.eq_nil_of_length_eq_zero h0
          subst hx0
          refine (AnyM.slices_Sort_int_none sortL (some a) cap w).mono ?_
          rintro e w' ⟨rfl, rfl⟩
          have hset : H.set n (.cells true ((srt []).flatMap Go.Eng.e1)) = H := by
            rw [srt_nil]
            exact List.ext_getElem? (fun k => by
              rw [List.getElem?_set]
              by_cases e : n = k
              · subst e
                rw [if_pos rfl, if_pos (List.getElem?_eq_some_iff.1 hn).1, hn]
              · rw [if_neg e])
          rw [hset]
          exact ⟨ρ, _, rfl, undef_ok, hs, Step.refl _ _ _ hs⟩
        · have hcap := h5 hown
          have ha : a = ⟨L.b, L.o + 0, none⟩ := by
            rcases h4 with h | h
            · exact h
            · omega
          subst ha
          have hfit := hfit.resolve_left h0
          have hcell : ∀ j, j < xs.length → cs[L.o + j]? = (xs.map eI)[j]? := fun j hj => by
            rw [← hvs, List.getElem?_take, if_pos hj, List.getElem?_drop, Array.getElem?_toList]
          have hH : Go.Sort.Holds eI w L.b (L.o + 0) xs.toArray := by
            intro j hj
            have hj' : j < xs.length := by simpa using hj
            have hv := hcell j hj'
            rw [List.getElem?_map, List.getElem?_eq_getElem hj', Option.map_some] at hv
            unfold World.cell? World.frozen?
            simp only [hh, Nat.add_zero]
            subst hfz
            refine ⟨?_, by simp⟩
            rw [getElem!_pos xs.toArray j hj]
            simpa using hv
          have hblk : L.b < w.heap.size := (hs.dom n L h1).2
          refine (AnyM.slices_Sort_int sortL L.b (L.o + 0) cap xs w hH hblk (by omega)).mono ?_
          rintro e w' ⟨rfl, q, os, rfl⟩
          obtain ⟨d, hd⟩ : ∃ d : Array Int, d = (xs.mergeSort fun x y => decide (x ≤ y)).toArray := ⟨_, rfl⟩
          rw [← hd]
          have hdl : d.toList = srt xs := by rw [hd]; rfl
          have hds : d.size = xs.length := by rw [← Array.length_toList, hdl, srt_len]
          have hbk : (Go.Sort.putRow eI (Go.Sort.ahead w q) L.b (L.o + 0) d).heap[L.b]? = some (.cells (Go.Sort.putCells eI (L.o + 0) d cs) ty fz) := by
            rw [put_heap, if_pos rfl, hh]
            rfl
          have hfl2 := flatMap_length e1_len (srt xs)
          rw [Nat.mul_one, srt_len] at hfl2
          have hpp : ((Go.Sort.putCells eI (L.o + 0) d cs).toList.drop L.o).take ((srt xs).flatMap Go.Eng.e1).length = (srt xs).map eI := by
            rw [hfl2, ← hds, Nat.add_zero, put_all (by omega), hdl]
          have hwr := Sim.write (w' := Go.Sort.putRow eI (Go.Sort.ahead w q) L.b (L.o + 0) d) (o := .cells true ((srt xs).flatMap Go.Eng.e1)) hs h1 hown hn (by simp) (by simp) (by simp [Go.Sort.putRow, Go.Sort.mapBlock, Go.Sort.ahead]) rfl rfl rfl (fun b hb => by rw [put_heap, if_neg (Ne.symm hb)]) (by
            rw [hbk]
            refine ⟨fun _ => hown, fun _ => ⟨?_, hfz⟩, ?_, ?_⟩
            · unfold Go.Sort.putCells
              rw [Array.size_mapIdx]
              exact hcsz
            · rw [hpp]
              exact vals_flat ρ (srt xs)
            · rw [hpp]
              intro v hv
              obtain ⟨x, _, rfl⟩ := List.mem_map.1 hv
              rfl)
          obtain ⟨s1, st1⟩ := hwr
          have hold : ∀ {k : Nat}, k < (Go.Sort.putRow eI (Go.Sort.ahead w q) L.b (L.o + 0) d).heap.size → (Go.Sort.grow (Go.Sort.putRow eI (Go.Sort.ahead w q) L.b (L.o + 0) d) os).heap[k]? = (Go.Sort.putRow eI (Go.Sort.ahead w q) L.b (L.o + 0) d).heap[k]? := fun hk => Go.Sort.heap_grow_old _ _ hk
          have hsz : (Go.Sort.putRow eI (Go.Sort.ahead w q) L.b (L.o + 0) d).heap.size ≤ (Go.Sort.grow (Go.Sort.putRow eI (Go.Sort.ahead w q) L.b (L.o + 0) d) os).heap.size := by
            simp [Go.Sort.grow]
          have s2 := s1.world hsz (fun n L e => hold (s1.dom n L e).2)
          have st2 : Step ρ (H.set n (.cells true ((srt xs).flatMap Go.Eng.e1))) (Go.Sort.putRow eI (Go.Sort.ahead w q) L.b (L.o + 0) d) ρ (H.set n (.cells true ((srt xs).flatMap Go.Eng.e1))) (Go.Sort.grow (Go.Sort.putRow eI (Go.Sort.ahead w q) L.b (L.o + 0) d) os) :=
            ⟨fun _ _ => rfl, Nat.le_refl _, rfl, rfl, rfl, hsz, fun b hb _ => hold hb, fun _ h => .inr h, fun n L e => .inl (s1.dom n L e).1⟩
          exact ⟨ρ, _, rfl, undef_ok, s2, st1.trans st2⟩
      | _ => exact hob.elim
theorem c_Sort_nil (H : AHeap) : ACalls Try.prog 99 [.nilS] H undefA H := by
  refine ⟨⟨Try.f99, Try.func99, by kernel_rfl, by kernel_rfl⟩, fun ρ w cargs hs hlr => ?_⟩
  obtain ⟨cl⟩ := cargs
  have hle := hlr.1
  rcases cl with _ | ⟨c0, _ | ⟨c1, cl⟩⟩ <;> simp at hle
  have r0 := hlr.head
  cases r0
  refine (AnyM.slices_Sort_int_none sortL none 0 w).mono ?_
  rintro e w' ⟨rfl, rfl⟩
  exact ⟨ρ, _, rfl, undef_ok, hs, Step.refl _ _ _ hs⟩
theorem c_Collect {xs : List Int} {v : AV} {B : AHeap} {b : Nat} (hb : ldA 1 false (.ptr b 0) B = some v) (hx : L1 B v xs) (hl : xs.length ≤ 1000000) :
    ACalls Try.prog 98 [.fn 100 [.ptr b 0]] B (outV 1 B xs.length) (outH B (xs.flatMap Go.Eng.e1) xs.length) := by
  refine acalls hmix Try.func98 (by kernel_rfl) t98 1 rfl (by decide) ?_
  dsimp only [m98]
  simp (maxSteps := 4000000) -implicitDefEqProofs -dsimp (disch := omega) only [↓AW_ops, ↓AW_seq, ↓AOps_nil, ↓AOps_pu, ↓AOps_call, on_some, ↓then_normal, pval, rd_S, rd_C, put_S, List.replicate_succ, List.replicate_zero, List.set_cons_zero, List.set_cons_succ, List.getElem?_cons_zero, List.getElem?_cons_succ, Option.getD_some, map_c, map_n, Nat.reduceSub, List.cons_append, List.nil_append]
  refine CallK.of (c_AppendSeq hb hx hl) ?_
  simp (maxSteps := 4000000) -implicitDefEqProofs -dsimp (disch := omega) only [↓AW_ret, ↓AOps_nil, ↓AOps_pu, on_some, ↓then_normal, ↓Fin_ret, pval, rd_S, put_S, resV, resL, List.replicate_succ, List.replicate_zero, List.set_cons_zero, List.set_cons_succ, List.getElem?_cons_zero, List.getElem?_cons_succ, Option.getD_some, Nat.reduceSub, List.cons_append, List.nil_append, extK_of (pre_out B (xs.flatMap Go.Eng.e1) xs.length)]
  exact gc_all
/-- Sorted: a new list. -/
theorem c_Sorted {xs : List Int} {v : AV} {B : AHeap} {b : Nat} (hb : ldA 1 false (.ptr b 0) B = some v) (hx : L1 B v xs) (hl : xs.length ≤ 1000000) :
    ∃ y H', ACalls Try.prog 85 [.fn 100 [.ptr b 0]] B y H' ∧ B <+: H' ∧ L1 H' y (srt xs) := by
  by_cases h0 : xs.length = 0
  · have hx0 : xs = [] := List.eq_nil_of_length_eq_zero h0
    subst hx0
    have hc := c_Collect hb hx hl
    rw [show outV 1 B ([] : List Int).length = .nilS from rfl, show outH B (([] : List Int).flatMap Go.Eng.e1) ([] : List Int).length = B from rfl] at hc
    refine ⟨.nilS, B, ?_, List.prefix_refl B, by rw [srt_nil]; exact L1_nil B⟩
    refine acalls hmix Try.func85 (by kernel_rfl) t85 1 rfl (by decide) ?_
    dsimp only [m85]
    simp (maxSteps := 4000000) -implicitDefEqProofs -dsimp (disch := omega) only [↓AW_ops, ↓AW_seq, ↓AOps_nil, ↓AOps_pu, ↓AOps_call, on_some, ↓then_normal, pval, rd_S, rd_C, put_S, List.replicate_succ, List.replicate_zero, List.set_cons_zero, List.set_cons_succ, List.getElem?_cons_zero, List.getElem?_cons_succ, Option.getD_some, map_c, map_n, Nat.reduceSub, List.cons_append, List.nil_append]
    refine CallK.of (hc) ?_
    simp (maxSteps := 4000000) -implicitDefEqProofs -dsimp (disch := omega) only [↓AW_ops, ↓AW_seq, ↓AOps_nil, ↓AOps_pu, ↓AOps_call, on_some, extK_same, ↓then_normal, pval, rd_S, put_S, List.replicate_succ, List.replicate_zero, List.set_cons_zero, List.set_cons_succ, List.getElem?_cons_zero, List.getElem?_cons_succ, Option.getD_some, map_c, map_n, Nat.reduceSub, List.cons_append, List.nil_append]
    refine CallK.of (c_Sort_nil B) ?_
    simp (maxSteps := 4000000) -implicitDefEqProofs -dsimp (disch := omega) only [↓AW_ops, ↓AW_seq, ↓AW_ret, ↓AOps_nil, ↓AOps_pu, on_some, extK_same, ↓then_normal, ↓Fin_ret, pval, rd_S, put_S, resV, resL, List.replicate_succ, List.replicate_zero, List.set_cons_zero, List.set_cons_succ, List.getElem?_cons_zero, List.getElem?_cons_succ, Option.getD_some, Nat.reduceSub, List.cons_append, List.nil_append]
    exact gc_same rfl
  · have hc := c_Collect hb hx hl
    have hV : outV 1 B xs.length = .sl 1 B.length 0 xs.length false := by unfold outV; rw [if_neg h0]
    have hH : outH B (xs.flatMap Go.Eng.e1) xs.length = B ++ [.cells true (xs.flatMap Go.Eng.e1)] := by unfold outH; rw [if_neg h0]
    rw [hV, hH] at hc
    have hs := c_Sort (full := false) (get_new B (AObj.cells true (xs.flatMap Go.Eng.e1))) hl
    have hset : (B ++ [AObj.cells true (xs.flatMap Go.Eng.e1)]).set B.length (.cells true ((srt xs).flatMap Go.Eng.e1)) = B ++ [.cells true ((srt xs).flatMap Go.Eng.e1)] := by simp
    rw [hset] at hs
    refine ⟨.sl 1 B.length 0 xs.length false, _, ?_, pre_app B [AObj.cells true ((srt xs).flatMap Go.Eng.e1)], ?_⟩
    · refine acalls hmix Try.func85 (by kernel_rfl) t85 1 rfl (by decide) ?_
      dsimp only [m85]
      simp (maxSteps := 4000000) -implicitDefEqProofs -dsimp (disch := omega) only [↓AW_ops, ↓AW_seq, ↓AOps_nil, ↓AOps_pu, ↓AOps_call, on_some, ↓then_normal, pval, rd_S, rd_C, put_S, List.replicate_succ, List.replicate_zero, List.set_cons_zero, List.set_cons_succ, List.getElem?_cons_zero, List.getElem?_cons_succ, Option.getD_some, map_c, map_n, Nat.reduceSub, List.cons_append, List.nil_append]
      refine CallK.of (hc) ?_
      simp (maxSteps := 4000000) -implicitDefEqProofs -dsimp (disch := omega) only [↓AW_ops, ↓AW_seq, ↓AOps_nil, ↓AOps_pu, ↓AOps_call, on_some, extK_app, ↓then_normal, pval, rd_S, put_S, List.replicate_succ, List.replicate_zero, List.set_cons_zero, List.set_cons_succ, List.getElem?_cons_zero, List.getElem?_cons_succ, Option.getD_some, map_c, map_n, Nat.reduceSub, List.cons_append, List.nil_append]
      refine CallK.of (hs) ?_
      simp (maxSteps := 4000000) -implicitDefEqProofs -dsimp (disch := omega) only [↓AW_ops, ↓AW_seq, ↓AW_ret, ↓AOps_nil, ↓AOps_pu, on_some, extK_false, ↓then_normal, ↓Fin_ret, pval, rd_S, put_S, resV, resL, List.replicate_succ, List.replicate_zero, List.set_cons_zero, List.set_cons_succ, List.getElem?_cons_zero, List.getElem?_cons_succ, Option.getD_some, Nat.reduceSub, List.cons_append, List.nil_append]
      exact gc_all
    · have := (OL.new_mk e1_len B (srt xs) false).ls
      rwa [srt_len] at this
end Go.Proofs.Ytlmbobbefgcolaa

namespace Go.Proofs.Ytlmbobbefgcolaa
open Go Go.Eng
theorem srt_isS {n : Nat} {os : List Int} : isS n (srt os) ↔ (∀ o ∈ os, inP n o) ∧ os.Nodup := by
  have hp := srt_perm os
  have hs : (srt os).Pairwise (fun a b => decide (a ≤ b) = true) := List.pairwise_mergeSort (fun a b c h1 h2 => by simp only [decide_eq_true_eq] at *; omega) (fun a b => by simp only [Bool.or_eq_true, decide_eq_true_eq]; omega) os
  unfold isS
  constructor
  · rintro ⟨h1, h2⟩
    exact ⟨fun o ho => h1 o (hp.mem_iff.2 ho), hp.nodup_iff.1 (up_nodup h2)⟩
  · rintro ⟨h1, h2⟩
    refine ⟨fun o ho => h1 o (hp.mem_iff.1 ho), ?_⟩
    have hn := hp.nodup_iff.2 h2
    unfold Up
    refine List.Pairwise.imp₂ (fun a b h1 h2 => ?_) hs hn
    have : a ≤ b := by simpa using h1
    have : a ≠ b := h2
    omega
theorem s88 {P : Int} {v y : AV} {g : List Int} {H : AHeap} {nb : Nat} (hb : ldA 3 true (.ptr nb 0) H = some (.agg [I P, v, y])) (hg : L1 H y g) (hl : g.length ≤ 1000000) (p : Int) : ACalls Try.prog 88 [I p, .ptr nb 0] H (B (decide (p ∉ g))) H := by
  refine acalls hmix Try.func88 (by kernel_rfl) t88 2 rfl (by decide) ?_
  dsimp only [m88]
  simp (maxSteps := 4000000) -implicitDefEqProofs -dsimp (disch := omega) only [↓AW_ops, ↓AW_seq, ↓AOps_nil, ↓AOps_pu, ↓AOps_ld, ↓AOps_call, on_some, ↓then_normal, pval, lval, rd_S, rd_C, put_S, List.replicate_succ, List.replicate_zero, List.set_cons_zero, List.set_cons_succ, List.getElem?_cons_zero, List.getElem?_cons_succ, Option.getD_some, map_c, map_n, Nat.reduceSub, List.cons_append, List.nil_append, hb]
  refine CallK.of (s89 hg hl p) ?_
  by_cases h : fpos (fun y => decide (p = y)) g < 0
  · have hn := fpos_neg h
    rw [decide_eq_true hn]
    simp (maxSteps := 4000000) -implicitDefEqProofs -dsimp (disch := omega) only [↓AW_ret, ↓AOps_nil, ↓AOps_pu, on_some, extK_same, ↓then_normal, ↓Fin_ret, pval, rd_S, rd_C, put_S, resV, resL, List.replicate_succ, List.replicate_zero, List.set_cons_zero, List.set_cons_succ, List.getElem?_cons_zero, List.getElem?_cons_succ, Option.getD_some, Nat.reduceSub, List.cons_append, List.nil_append, bin_lss, decide_true, h]
    exact gc_same rfl
  · have hn : ¬ p ∉ g := by
      obtain ⟨k, hk, _, e⟩ := fpos_get h
      rw [← e]
      exact not_not_intro (has_mem hk)
    rw [decide_eq_false hn]
    simp (maxSteps := 4000000) -implicitDefEqProofs -dsimp (disch := omega) only [↓AW_ret, ↓AOps_nil, ↓AOps_pu, on_some, extK_same, ↓then_normal, ↓Fin_ret, pval, rd_S, rd_C, put_S, resV, resL, List.replicate_succ, List.replicate_zero, List.set_cons_zero, List.set_cons_succ, List.getElem?_cons_zero, List.getElem?_cons_succ, Option.getD_some, Nat.reduceSub, List.cons_append, List.nil_append, bin_lss, decide_false, h]
    exact gc_same rfl
set_option maxRecDepth 20000 in
set_option maxHeartbeats 16000000 in
theorem s52 {P : Int} {ws : List (AV × List Int)} {v u : AV} {os : List Int} {A : AHeap} (hw : LL A v ws) (hs : Sz ws) (ho : L1 A u os) (hol : os.length ≤ 1000) :
    ∃ r H', ACalls Try.prog 52 [.agg [I P, v], u] A r H' ∧ LnR P (lists ws) os A r H' := by
  refine acallsR hmix Try.func52 (by kernel_rfl) t52 _ 2 rfl (by decide) ?_
  rw [start2]
  dsimp only [m52]
  simp (maxSteps := 4000000) -implicitDefEqProofs -dsimp (disch := omega) only [↓AW_ops, ↓AW_seq, ↓AOps_nil, ↓AOps_pu, ↓AOps_call, on_some, ↓then_normal, pval, rd_mkS, rd_mkS0, Nat.reduceBEq, Nat.reduceLT, rd_C, put_mkS, chkd, bgot, cells_agg, partA, beq_self_eq_true, eq_self, List.getElem?_cons_zero, List.drop_zero, List.take_succ_cons, List.take_nil, map_c, map_n, List.length_cons, List.length_nil, Nat.reduceAdd, Nat.reduceSub, Nat.reduceLeDiff, Nat.reduceEqDiff, Nat.zero_add, if_true, if_false, Bool.cond_true, Bool.cond_false]
  refine CallK.of (s39 hw hs) ?_
  by_cases h0 : vW P (lists ws) = 0
  case neg =>
    simp (maxSteps := 4000000) -implicitDefEqProofs -dsimp (disch := omega) only [↓AW_ops, ↓AW_seq, ↓AW_cond, ↓AW_ret, ↓AOps_nil, ↓AOps_pu, on_some, extK_same, condB_t, ↓then_normal, ↓then_ret, ↓FinR_ret, pval, rd_mkS, rd_mkS0, Nat.reduceBEq, Nat.reduceLT, rd_C, put_mkS, resV, resL, beq_self_eq_true, Nat.reduceAdd, Nat.reduceSub, bin_neq, if_true, decide_true, Bool.cond_true, Bool.cond_false, not_false_eq_true, h0]
    exact ⟨_, _, gc_all, LnR.no (by unfold lnE; rw [if_neg h0]) h0 (List.prefix_refl A)⟩
  have hv := val_of h0
  have hP := hv.hP
  have hn : ws.length ≤ 7 := by simpa using hv.n
  have hwl : (lists ws).length = ws.length := by simp
  have hls : ∀ l ∈ lists ws, ∀ p ∈ l, inP P p := fun l hl => (hv.l l hl).1
  have hcu : u.cells? = some [u] := by
    rcases ho.inv with ⟨rfl, _⟩ | ⟨n, off, full, rw, l, rfl, _⟩ <;> rfl
  simp (maxSteps := 4000000) -implicitDefEqProofs -dsimp (disch := omega) only [↓AW_skip, ↓AW_ops, ↓AW_seq, ↓AW_cond, ↓AOps_nil, ↓AOps_pu, ↓AOps_call, on_some, extK_same, condB_f, ↓then_normal, pval, rd_mkS, rd_mkS0, Nat.reduceBEq, Nat.reduceLT, rd_C, put_mkS, beq_self_eq_true, eq_self, map_c, map_n, Nat.reduceAdd, Nat.reduceSub, bin_neq, if_true, decide_false, Bool.cond_true, Bool.cond_false, not_true_eq_false, h0]
  refine CallK.of (c_Values u hcu A) ?_
  have p1 := pre_app A [AObj.cells true [u]]
  have l1 := ld_one (get_new A (AObj.cells true [u]))
  have ho1 := ho.mono p1
  obtain ⟨y, A2, cS, p2, hy⟩ := c_Sorted l1 ho1 (by omega)
  simp (maxSteps := 4000000) -implicitDefEqProofs -dsimp (disch := omega) only [↓AOps_call, extK_app, rd_mkS, rd_mkS0, Nat.reduceBEq, Nat.reduceLT, put_mkS, beq_self_eq_true, map_c, map_n, Nat.reduceAdd, Nat.reduceSub, if_true, Bool.cond_true, Bool.cond_false]
  refine CallK.of cS ?_
  have pA := p1.trans p2
  have ho2 := ho.mono pA
  have hw2 := hw.mono pA
  by_cases hlen : os.length = ws.length
  case neg =>
    have hlen' : ¬ ((os.length : Int) = ws.length) := by omega
    simp (maxSteps := 4000000) -implicitDefEqProofs -dsimp (disch := omega) only [↓AW_ops, ↓AW_seq, ↓AW_cond, ↓AW_ret, ↓AOps_nil, ↓AOps_pu, ↓AOps_guard, on_some, extK_false, guardB_tf, skipS_some, condB_t, ↓then_normal, ↓then_ret, ↓FinR_ret, pval, rd_mkS, rd_mkS0, Nat.reduceBEq, Nat.reduceLT, rd_C, put_mkS, resV, resL, chkd, isAdr, bgot, cells_agg, partA, beq_self_eq_true, eq_self, List.getElem?_cons_zero, List.getElem?_cons_succ, List.drop_zero, List.drop_succ_cons, List.take_succ_cons, List.take_nil, List.length_cons, List.length_nil, Nat.reduceAdd, Nat.reduceSub, Nat.reduceLeDiff, Nat.zero_add, bin_neq, if_true, if_false, Bool.false_eq_true, decide_true, Bool.cond_true, Bool.cond_false, not_false_eq_true, ho2.len, hw2.ls.len, hlen']
    exact ⟨_, _, gc_all, LnR.no (lnE_1 h0 (fun h => hlen (by rw [h.1, hwl]))) (by decide) pA⟩
  have hlen' : (os.length : Int) = ws.length := by omega
  simp (maxSteps := 4000000) -implicitDefEqProofs -dsimp (disch := omega) only [↓AW_ops, ↓AW_seq, ↓AOps_nil, ↓AOps_pu, ↓AOps_call, ↓AOps_guard, on_some, extK_false, guardB_ff, ↓then_normal, pval, rd_mkS, rd_mkS0, Nat.reduceBEq, Nat.reduceLT, put_mkS, chkd, isAdr, bgot, cells_agg, partA, beq_self_eq_true, eq_self, List.getElem?_cons_zero, List.getElem?_cons_succ, List.drop_zero, List.drop_succ_cons, List.take_succ_cons, List.take_nil, map_c, map_n, List.length_cons, List.length_nil, Nat.reduceAdd, Nat.reduceSub, Nat.reduceLeDiff, Nat.zero_add, bin_neq, if_true, if_false, Bool.false_eq_true, decide_false, Bool.cond_true, Bool.cond_false, not_true_eq_false, ho2.len, hw2.ls.len, hlen']
  refine CallK.of (s78 hy (by rw [srt_len]; omega) ws.length) ?_
  by_cases hS : isS (ws.length : Int) (srt os)
  case neg =>
    simp (maxSteps := 4000000) -implicitDefEqProofs -dsimp (disch := omega) only [↓AW_ops, ↓AW_seq, ↓AW_cond, ↓AW_ret, ↓AOps_nil, ↓AOps_pu, ↓AOps_guard, on_some, extK_same, guardB_ff, condB_t, ↓then_normal, ↓then_ret, ↓FinR_ret, pval, rd_mkS, rd_mkS0, Nat.reduceBEq, Nat.reduceLT, rd_C, put_mkS, resV, resL, beq_self_eq_true, Nat.reduceAdd, Nat.reduceSub, if_true, if_false, Bool.false_eq_true, Bool.not_false, decide_false, Bool.cond_true, Bool.cond_false, hS]
    exact ⟨_, _, gc_all, LnR.no (lnE_1 h0 (fun h => hS (by have := srt_isS.2 h.2; rwa [hwl] at this))) (by decide) pA⟩
  have hO : isO (lists ws).length os := ⟨by rw [hwl]; exact hlen, by rw [hwl]; exact srt_isS.1 hS⟩
  simp (maxSteps := 4000000) -implicitDefEqProofs -dsimp (disch := omega) only [↓AW_skip, ↓AW_ops, ↓AW_seq, ↓AW_cond, ↓AOps_nil, ↓AOps_pu, ↓AOps_call, ↓AOps_guard, on_some, extK_same, guardB_ff, condB_f, ↓then_normal, pval, rd_mkS, rd_mkS0, Nat.reduceBEq, Nat.reduceLT, rd_C, put_mkS, chkd, bgot, partA, beq_self_eq_true, eq_self, List.getElem?_cons_zero, List.drop_zero, List.take_succ_cons, List.take_nil, map_c, map_n, List.length_cons, List.length_nil, Nat.reduceAdd, Nat.reduceSub, Nat.reduceLeDiff, Nat.reduceEqDiff, Nat.zero_add, if_true, if_false, Bool.false_eq_true, Bool.not_true, decide_true, Bool.cond_true, Bool.cond_false, hS]
  refine CallK.of (s63 hw2 (by omega)) ?_
  have p3 := pre_app A2 [AObj.cells true ((noG ws).flatMap Go.Eng.e1)]
  have g3 := get_new A2 (AObj.cells true ((noG ws).flatMap Go.Eng.e1))
  have n3 : A2.length < (A2 ++ [AObj.cells true ((noG ws).flatMap Go.Eng.e1)]).length := by simp
  generalize A2 ++ [AObj.cells true ((noG ws).flatMap Go.Eng.e1)] = A3 at *
  have hst : stA 3 (.ptr A3.length 0) (.agg [I P, v, .sl 1 A2.length 0 ws.length false]) (A3 ++ [AObj.cells true [I 0, .nilS, .nilS]]) = some (A3 ++ [AObj.cells true [I P, v, .sl 1 A2.length 0 ws.length false]]) := by
    simp [stA, AV.cells?, splice]
  simp (maxSteps := 4000000) -implicitDefEqProofs -dsimp (disch := omega) only [↓AW_ops, ↓AW_seq, ↓AW_block, ↓AOps_nil, ↓AOps_pu, ↓AOps_ha, on_some, extK_false, extK_app, ↓then_normal, pval, hval_st, hval_newv, rd_mkS, rd_mkS0, Nat.reduceBEq, Nat.reduceLT, rd_C, put_mkS, putS_none, ↓AW_toLoop, cells_agg, beq_self_eq_true, Option.map_some, Nat.reduceAdd, Nat.reduceSub, if_true, Bool.cond_true, Bool.cond_false, hst, ho.len]
  have p4 := pre_app A3 [AObj.cells true [I P, v, .sl 1 A2.length 0 ws.length false]]
  have g4 := get_new A3 (AObj.cells true [I P, v, .sl 1 A2.length 0 ws.length false])
  have n4 : A3.length < (A3 ++ [AObj.cells true [I P, v, .sl 1 A2.length 0 ws.length false]]).length := by simp
  have g3' := pre_get p4 g3
  have pB := pA.trans (p3.trans p4)
  generalize A3 ++ [AObj.cells true [I P, v, .sl 1 A2.length 0 ws.length false]] = B0 at *
  have hOL0 : OL 1 Go.Eng.e1 A2 B0 A2.length (.sl 1 A2.length 0 ws.length false) (lnL (lists ws) (os.take 0)) :=
    ⟨e1_len, p3.trans p4, Nat.le_refl _, by rw [g3']; simp [lnL, noG], false, by rw [lnL_len, hwl]⟩
  refine LoopK.byS (fun x : Nat × AHeap => x.1 ≤ os.length ∧ OL 1 Go.Eng.e1 A2 x.2 A2.length (.sl 1 A2.length 0 ws.length false) (lnL (lists ws) (os.take x.1)) ∧ x.2[A3.length]? = some (.cells true [I P, v, .sl 1 A2.length 0 ws.length false])) (fun x => [(1, u), (2, .agg [I P, v]), (8, .ptr A3.length 0), (36, u), (37, I os.length), (38, I x.1)]) (fun x => x.2) (fun x => os.length - x.1) (0, B0) ⟨by simp only; omega, hOL0, g4⟩ (by simp [Has, rd_mkS]) rfl ?_
  rintro ⟨j, H⟩ ⟨hj, hD, hbx⟩
  simp only at hj hD hbx
  have hwH := hw2.mono hD.pre
  have hoH := ho2.mono hD.pre
  have hgl : (lnL (lists ws) (os.take j)).length = ws.length := by rw [lnL_len, hwl]
  have lb3 : ldA 3 true (.ptr A3.length 0) H = some (.agg [I P, v, .sl 1 A2.length 0 ws.length false]) := by simp [ldA, partA, hbx]
  have lb1 : ldA 1 false (.ptr A3.length (0 + 2)) H = some (.sl 1 A2.length 0 ws.length false) := by simp [ldA, partA, hbx]
  by_cases hjl : j < os.length
  · obtain ⟨o, hoj⟩ : ∃ o, os[j]? = some o := ⟨_, List.getElem?_eq_getElem hjl⟩
    have hjl' : (j : Int) < os.length := by omega
    have hor := hO.2.1 o (List.mem_of_getElem? hoj)
    obtain ⟨k0, rfl⟩ : ∃ k0 : Nat, o = (k0 : Int) := ⟨o.toNat, by have := hor.1; omega⟩
    have hk0 : k0 < ws.length := by have := hor.2; omega
    obtain ⟨x, hx⟩ : ∃ x, ws[k0]? = some x := ⟨_, List.getElem?_eq_getElem hk0⟩
    have hxm := List.mem_of_getElem? hx
    have hxl := lst_at hx
    have hx40 := hs.2 x hxm
    have hxH := hwH.inn x hxm
    have hsucc := lnL_succ (ls := lists ws) hoj
    simp (maxSteps := 4000000) -implicitDefEqProofs -dsimp (disch := omega) only [↓AW_skip, ↓AW_ops, ↓AW_seq, ↓AW_cond, ↓AW_block, ↓AOps_nil, ↓AOps_pu, ↓AOps_ld, ↓AOps_call, on_some, condB_t, ↓then_normal, pval, lval, rd_mkS, rd_mkS0, Nat.reduceBEq, Nat.reduceLT, put_mkS, chkd, isAdr, bgot, cells_agg, partA, beq_self_eq_true, eq_self, List.getElem?_cons_zero, List.getElem?_cons_succ, List.drop_zero, List.drop_succ_cons, List.take_succ_cons, List.take_nil, map_c, map_n, List.length_cons, List.length_nil, Nat.reduceAdd, Nat.reduceLeDiff, Nat.zero_add, bin_lss, if_true, if_false, Bool.false_eq_true, decide_true, Bool.cond_true, Bool.cond_false, Go.Eng.e1, hjl', hoH.idx hjl, hoH.ld0 hoj 1 false (by decide), hwH.ls.idx hk0, hwH.ls.ld0 hx 1 false (by decide), e0]
    refine CallK.of (c_IndexFunc hxH (by omega) 88 [.ptr A3.length 0] (fun p => decide (p ∉ lnL (lists ws) (os.take j))) (fun p _ => s88 lb3 hD.ls (by omega) p)) ?_
    have hfr : fpos (fun p => decide (p ∉ lnL (lists ws) (os.take j))) x.2 = fr (lnL (lists ws) (os.take j)) (lst (lists ws) (k0 : Int)) := by rw [hxl]; rfl
    rw [hfr]
    by_cases hf : 0 ≤ fr (lnL (lists ws) (os.take j)) (lst (lists ws) (k0 : Int))
    · obtain ⟨k, p, e1', hk, hp, hpn, _⟩ := fr_some hf
      have hnew : lnL (lists ws) (os.take (j + 1)) = (lnL (lists ws) (os.take j)).set k0 p := by
        rw [hsucc, lnS, if_pos hf, e1', Int.toNat_natCast, Int.toNat_natCast, hp, Option.getD_some]
      rw [hxl] at hk hp
      have hk' : (0 : Int) ≤ (k : Int) := by omega
      have hix := hD.ls.idx (k := .i64) (i := k0) (by rw [hgl]; exact hk0)
      have hst2 := hD.st (i := k0) (by rw [hgl]; exact hk0) (I p) p rfl
      have hD2 := hD.set k0 p
      rw [← hnew] at hD2 hst2
      rw [e1']
      simp (maxSteps := 4000000) -implicitDefEqProofs -dsimp (disch := omega) only [↓AW_ops, ↓AW_seq, ↓AW_cond, ↓AOps_nil, ↓AOps_pu, ↓AOps_ld, ↓AOps_ha, on_some, extK_false, extK_same, condB_t, ↓then_normal, ↓inBlock_normal, pval, lval, hval_st, rd_mkS, rd_mkS0, Nat.reduceBEq, Nat.reduceLT, mkS_len, rd_C, put_mkS, putS_none, chkd, isAdr, bgot, cells_agg, partA, beq_self_eq_true, eq_self, List.getElem?_cons_zero, List.getElem?_cons_succ, List.drop_zero, List.drop_succ_cons, List.take_succ_cons, List.take_nil, Option.map_some, List.length_cons, List.length_nil, Nat.reduceAdd, Nat.reduceLeDiff, Nat.zero_add, bin_add, bin_geq, w64, if_true, if_false, Bool.false_eq_true, decide_true, Bool.cond_true, Bool.cond_false, Go.Eng.e1, true_and, hk', lb1, hwH.ls.idx hk0, hwH.ls.ld0 hx 1 false (by decide), e0, hxH.idx hk, hxH.ld0 hp 1 false (by decide), hix, hst2]
      exact ⟨(j + 1, _), ⟨hjl, hD2, by rw [List.getElem?_set_ne (by omega)]; exact hbx⟩, by simp [Has, rd_mkS], rfl, by simp only; omega⟩
    · have hnew : lnL (lists ws) (os.take (j + 1)) = lnL (lists ws) (os.take j) := by rw [hsucc, lnS, if_neg hf]
      simp (maxSteps := 4000000) -implicitDefEqProofs -dsimp (disch := omega) only [↓AW_skip, ↓AW_ops, ↓AW_seq, ↓AW_cond, ↓AOps_nil, ↓AOps_pu, on_some, extK_same, condB_f, ↓then_normal, ↓inBlock_normal, pval, rd_mkS, rd_mkS0, Nat.reduceBEq, Nat.reduceLT, mkS_len, rd_C, put_mkS, beq_self_eq_true, eq_self, bin_add, bin_geq, w64, if_true, decide_false, Bool.cond_true, Bool.cond_false, true_and, hf]
      exact ⟨(j + 1, H), ⟨hjl, by rw [hnew]; exact hD, hbx⟩, by simp [Has, rd_mkS], rfl, by simp only; omega⟩
  · have hjl' : ¬ ((j : Int) < os.length) := by omega
    rw [List.take_of_length_le (by omega)] at hD
    simp (maxSteps := 4000000) -implicitDefEqProofs -dsimp (disch := omega) only [↓AW_ops, ↓AW_seq, ↓AW_cond, ↓AW_exit, ↓AW_ret, ↓AOps_nil, ↓AOps_pu, ↓AOps_ld, on_some, condB_f, ↓then_normal, ↓then_exit, ↓inBlock_exit, ↓FinR_ret, pval, lval, rd_mkS, rd_mkS0, Nat.reduceBEq, Nat.reduceLT, rd_C, put_mkS, resV, resL, beq_self_eq_true, eq_self, Nat.zero_add, bin_lss, if_true, decide_false, Bool.cond_true, Bool.cond_false, hjl', lb1]
    exact ⟨_, _, gc_all, pA.trans hD.pre, fun h => absurd (lnE_0.2 ⟨h0, hO⟩) h, fun _ => ⟨_, rfl, hD.ls⟩⟩
end Go.Proofs.Ytlmbobbefgcolaa

namespace Go.Proofs.Ytlmbobbefgcolaa
open Go Go.Eng
set_option maxHeartbeats 4000000 in
theorem s15 {P : Int} {ws : List (AV × List Int)} {v u : AV} {os : List Int} {A : AHeap} (hw : LL A v ws) (hl : ws.length ≤ 9223372036854775807) (ho : L1 A u os) :
    ACalls Try.prog 15 [.agg [I P, v], u] A (B true) A := by
  refine acalls hmix Try.func15 (by kernel_rfl) t15 2 rfl (by decide) ?_
  rw [start2]
  dsimp only [m15]
  simp (maxSteps := 4000000) -implicitDefEqProofs -dsimp (disch := omega) only [↓AW_ops, ↓AW_seq, ↓AOps_nil, ↓AOps_pu, ↓AOps_call, on_some, ↓then_normal, pval, rd_mkS, rd_mkS0, Nat.reduceBEq, Nat.reduceLT, rd_C, put_mkS, chkd, bgot, AV.cells?, partA, beq_self_eq_true, eq_self, List.getElem?_cons_zero, List.drop_zero, List.take_succ_cons, List.take_nil, map_c, map_n, List.length_cons, List.length_nil, Nat.reduceAdd, Nat.reduceSub, Nat.reduceLeDiff, Nat.reduceEqDiff, Nat.zero_add, if_true, if_false, Bool.cond_true, Bool.cond_false]
  refine CallK.of (s17 hw hl) ?_
  by_cases h1 : longW ws
  · simp (maxSteps := 4000000) -implicitDefEqProofs -dsimp (disch := omega) only [↓AW_ops, ↓AW_seq, ↓AW_cond, ↓AOps_nil, ↓AOps_pu, ↓AOps_call, ↓AOps_guard, on_some, extK_same, guardB_tf, skipS_some, condB_t, ↓then_normal, pval, rd_mkS, rd_mkS0, Nat.reduceBEq, Nat.reduceLT, rd_C, put_mkS, beq_self_eq_true, eq_self, map_n, Nat.reduceAdd, Nat.reduceSub, if_true, decide_true, Bool.cond_true, Bool.cond_false, h1]
    refine CallK.of (known A) ?_
    simp (maxSteps := 4000000) -implicitDefEqProofs -dsimp (disch := omega) only [↓AW_ret, ↓AOps_nil, ↓AOps_pu, on_some, extK_same, skipS_some, ↓then_normal, ↓then_ret, ↓Fin_ret, pval, rd_mkS, rd_mkS0, Nat.reduceBEq, Nat.reduceLT, put_mkS, resV, resL, beq_self_eq_true, Nat.reduceAdd, Nat.reduceSub, if_true, Bool.cond_true, Bool.cond_false]
    exact gc_same rfl
  simp (maxSteps := 4000000) -implicitDefEqProofs -dsimp (disch := omega) only [↓AOps_pu, ↓AOps_call, ↓AOps_guard, on_some, extK_same, guardB_ff, pval, rd_mkS, rd_mkS0, Nat.reduceBEq, Nat.reduceLT, put_mkS, beq_self_eq_true, map_c, map_n, Nat.reduceAdd, Nat.reduceSub, if_true, decide_false, Bool.cond_true, Bool.cond_false, h1]
  have hs := Sz_of h1
  have hs1 := hs.1
  refine CallK.of (s32 ho) ?_
  by_cases h2 : (40 : Int) < os.length
  · simp (maxSteps := 4000000) -implicitDefEqProofs -dsimp (disch := omega) only [↓AW_ops, ↓AW_seq, ↓AW_cond, ↓AOps_nil, ↓AOps_pu, ↓AOps_call, on_some, extK_same, condB_t, ↓then_normal, pval, rd_mkS, rd_mkS0, Nat.reduceBEq, Nat.reduceLT, rd_C, put_mkS, beq_self_eq_true, map_n, Nat.reduceAdd, Nat.reduceSub, if_true, if_false, Bool.false_eq_true, decide_true, Bool.cond_true, Bool.cond_false, h2]
    refine CallK.of (known A) ?_
    simp (maxSteps := 4000000) -implicitDefEqProofs -dsimp (disch := omega) only [↓AW_ret, ↓AOps_nil, ↓AOps_pu, on_some, extK_same, ↓then_normal, ↓then_ret, ↓Fin_ret, pval, rd_mkS, rd_mkS0, Nat.reduceBEq, Nat.reduceLT, put_mkS, resV, resL, beq_self_eq_true, Nat.reduceAdd, Nat.reduceSub, if_true, Bool.cond_true, Bool.cond_false]
    exact gc_same rfl
  simp (maxSteps := 4000000) -implicitDefEqProofs -dsimp (disch := omega) only [↓AW_skip, ↓AW_ops, ↓AW_seq, ↓AW_cond, ↓AOps_nil, ↓AOps_pu, ↓AOps_call, on_some, extK_same, condB_f, ↓then_normal, pval, rd_mkS, rd_mkS0, Nat.reduceBEq, Nat.reduceLT, rd_C, put_mkS, chkd, bgot, partA, beq_self_eq_true, eq_self, List.getElem?_cons_zero, List.drop_zero, List.take_succ_cons, List.take_nil, map_c, map_n, List.length_cons, List.length_nil, Nat.reduceAdd, Nat.reduceSub, Nat.reduceLeDiff, Nat.reduceEqDiff, Nat.zero_add, if_true, if_false, Bool.false_eq_true, decide_false, Bool.cond_true, Bool.cond_false, h2]
  obtain ⟨r, H1, c1, p1, n1, y1⟩ := s52 (P := P) hw hs ho (by omega)
  refine CallK.of c1 ?_
  obtain ⟨r', H2, c2, p2, n2, y2⟩ := s53 (P := P) (hw.mono p1) hs (ho.mono p1) (by omega)
  by_cases hE : lnE P (lists ws) os = 0
  · obtain ⟨y, rfl, hy⟩ := y1 hE
    obtain ⟨y', rfl, hy'⟩ := y2 hE
    obtain ⟨h0, hO⟩ := lnE_0.1 hE
    have hv := val_of h0
    obtain ⟨hG, _⟩ := ln_end hv hO
    have hm := ln_most hv hO
    have hgE : gE P (lists ws) (lnL (lists ws) os) = 0 := good_iff.2 ⟨h0, hG⟩
    have hgN : gN P (lists ws) (lnL (lists ws) os) = srv (lnL (lists ws) os) := by unfold gN; rw [if_pos hgE]
    have hM : mostN P (lists ws) = most P (lists ws) := by unfold mostN; rw [if_pos h0]
    have hll : (lnL (lists ws) os).length ≤ 40 := by rw [lnL_len]; simpa using hs1
    have hsr : srv (lnL (lists ws) os) ≤ 40 := by
      have := neg_srv (lnL (lists ws) os)
      omega
    have hy2 := hy.mono p2
    have hw2 := (hw.mono p1).mono p2
    simp (maxSteps := 4000000) -implicitDefEqProofs -dsimp (disch := omega) only [↓AW_ops, ↓AW_seq, ↓AOps_nil, ↓AOps_pu, ↓AOps_call, on_some, extK_false, ↓then_normal, pval, rd_mkS, rd_mkS0, Nat.reduceBEq, Nat.reduceLT, put_mkS, chkd, bgot, partA, beq_self_eq_true, eq_self, List.getElem?_cons_zero, List.getElem?_cons_succ, List.drop_zero, List.take_succ_cons, List.take_nil, map_c, map_n, List.length_cons, List.length_nil, Nat.reduceAdd, Nat.reduceSub, Nat.reduceLeDiff, Nat.reduceEqDiff, Nat.zero_add, if_true, if_false, Bool.cond_true, Bool.cond_false]
    refine CallK.of c2 ?_
    simp (maxSteps := 4000000) -implicitDefEqProofs -dsimp (disch := omega) only [↓AW_ops, ↓AW_seq, ↓AOps_nil, ↓AOps_pu, ↓AOps_call, on_some, extK_false, ↓then_normal, pval, rd_mkS, rd_mkS0, Nat.reduceBEq, Nat.reduceLT, put_mkS, beq_self_eq_true, List.getElem?_cons_zero, List.getElem?_cons_succ, map_c, map_n, Nat.reduceAdd, Nat.reduceSub, if_true, Bool.cond_true, Bool.cond_false]
    refine CallK.of (c_SameInts hy2 hy' (by omega)) ?_
    simp (maxSteps := 4000000) -implicitDefEqProofs -dsimp (disch := omega) only [↓AW_skip, ↓AW_ops, ↓AW_seq, ↓AW_cond, ↓AOps_nil, ↓AOps_pu, ↓AOps_call, ↓AOps_guard, on_some, extK_same, guardB_ff, condB_f, ↓then_normal, pval, rd_mkS, rd_mkS0, Nat.reduceBEq, Nat.reduceLT, rd_C, put_mkS, chkd, bgot, partA, beq_self_eq_true, eq_self, List.getElem?_cons_zero, List.drop_zero, List.take_succ_cons, List.take_nil, map_c, map_n, List.length_cons, List.length_nil, Nat.reduceAdd, Nat.reduceSub, Nat.reduceLeDiff, Nat.reduceEqDiff, Nat.zero_add, bin_neq, if_true, if_false, Bool.false_eq_true, Bool.not_true, decide_true, decide_false, Bool.cond_true, Bool.cond_false, not_true_eq_false]
    refine CallK.of (s33 (P := P) hw2 hs hy2 (by omega)) ?_
    simp (maxSteps := 4000000) -implicitDefEqProofs -dsimp (disch := omega) only [↓AW_ops, ↓AW_seq, ↓AOps_nil, ↓AOps_pu, ↓AOps_call, on_some, extK_same, ↓then_normal, pval, rd_mkS, rd_mkS0, Nat.reduceBEq, Nat.reduceLT, put_mkS, chkd, bgot, partA, beq_self_eq_true, eq_self, List.getElem?_cons_zero, List.getElem?_cons_succ, List.drop_zero, List.take_succ_cons, List.take_nil, map_c, map_n, List.length_cons, List.length_nil, Nat.reduceAdd, Nat.reduceSub, Nat.reduceLeDiff, Nat.reduceEqDiff, Nat.zero_add, if_true, if_false, decide_true, Bool.cond_true, Bool.cond_false, hgE, hgN]
    have hm' : (most P (lists ws) : Int) ≤ 2 * (srv (lnL (lists ws) os) : Int) := by omega
    refine CallK.of (s24 (P := P) hw2 hs) ?_
    simp (maxSteps := 4000000) -implicitDefEqProofs -dsimp (disch := omega) only [↓AW_ops, ↓AW_seq, ↓AOps_nil, ↓AOps_pu, ↓AOps_call, ↓AOps_guard, on_some, extK_same, guardB_tt, ↓then_normal, pval, rd_mkS, rd_mkS0, Nat.reduceBEq, Nat.reduceLT, rd_C, put_mkS, beq_self_eq_true, eq_self, List.getElem?_cons_zero, List.getElem?_cons_succ, map_n, Nat.reduceAdd, Nat.reduceSub, bin_mul, bin_eql, bin_geq, w64, if_true, decide_true, Bool.cond_true, Bool.cond_false, hM, h0, hm']
    refine CallK.of (known H2) ?_
    simp (maxSteps := 4000000) -implicitDefEqProofs -dsimp (disch := omega) only [↓AW_ret, ↓AOps_nil, ↓AOps_pu, on_some, extK_same, ↓then_normal, ↓Fin_ret, pval, rd_mkS, rd_mkS0, Nat.reduceBEq, Nat.reduceLT, rd_C, put_mkS, resV, resL, beq_self_eq_true, eq_self, Nat.reduceAdd, Nat.reduceSub, if_true, decide_true, Bool.cond_true, Bool.cond_false]
    exact gc_val (p1.trans p2) rfl
  · have hr := n1 hE
    have hr' := n2 hE
    subst hr
    subst hr'
    have hnil := L1_nil H2
    simp (maxSteps := 4000000) -implicitDefEqProofs -dsimp (disch := omega) only [↓AW_ops, ↓AW_seq, ↓AOps_nil, ↓AOps_pu, ↓AOps_call, on_some, extK_false, ↓then_normal, pval, rd_mkS, rd_mkS0, Nat.reduceBEq, Nat.reduceLT, put_mkS, chkd, bgot, partA, beq_self_eq_true, eq_self, List.getElem?_cons_zero, List.getElem?_cons_succ, List.drop_zero, List.take_succ_cons, List.take_nil, map_c, map_n, List.length_cons, List.length_nil, Nat.reduceAdd, Nat.reduceSub, Nat.reduceLeDiff, Nat.reduceEqDiff, Nat.zero_add, if_true, if_false, Bool.cond_true, Bool.cond_false]
    refine CallK.of c2 ?_
    simp (maxSteps := 4000000) -implicitDefEqProofs -dsimp (disch := omega) only [↓AW_ops, ↓AW_seq, ↓AOps_nil, ↓AOps_pu, ↓AOps_call, on_some, extK_false, ↓then_normal, pval, rd_mkS, rd_mkS0, Nat.reduceBEq, Nat.reduceLT, put_mkS, beq_self_eq_true, List.getElem?_cons_zero, List.getElem?_cons_succ, map_c, map_n, Nat.reduceAdd, Nat.reduceSub, if_true, Bool.cond_true, Bool.cond_false]
    refine CallK.of (c_SameInts hnil hnil (by simp)) ?_
    simp (maxSteps := 4000000) -implicitDefEqProofs -dsimp (disch := omega) only [↓AW_skip, ↓AW_ops, ↓AW_seq, ↓AW_cond, ↓AOps_nil, ↓AOps_pu, ↓AOps_call, ↓AOps_guard, on_some, extK_same, guardB_ff, condB_t, condB_f, ↓then_normal, pval, rd_mkS, rd_mkS0, Nat.reduceBEq, Nat.reduceLT, rd_C, put_mkS, beq_self_eq_true, eq_self, map_n, Nat.reduceAdd, Nat.reduceSub, bin_neq, if_true, if_false, Bool.false_eq_true, Bool.not_true, decide_true, decide_false, Bool.cond_true, Bool.cond_false, not_true_eq_false, not_false_eq_true, hE]
    refine CallK.of (known H2) ?_
    simp (maxSteps := 4000000) -implicitDefEqProofs -dsimp (disch := omega) only [↓AW_ret, ↓AOps_nil, ↓AOps_pu, on_some, extK_same, ↓then_normal, ↓then_ret, ↓Fin_ret, pval, rd_mkS, rd_mkS0, Nat.reduceBEq, Nat.reduceLT, put_mkS, resV, resL, beq_self_eq_true, eq_self, Nat.reduceAdd, Nat.reduceSub, if_true, decide_true, Bool.cond_true, Bool.cond_false]
    exact gc_val (p1.trans p2) rfl
end Go.Proofs.Ytlmbobbefgcolaa

