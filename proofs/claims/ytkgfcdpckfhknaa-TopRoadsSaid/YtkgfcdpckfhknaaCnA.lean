/- What the law's proof rests on, part 3: for all that is said in each line. No conditions. -/
import Derived.Test.YtkgfcdpckfhknaaRows
import Derived.Test.YtkgfcdpckfhknaaEnB
namespace Go.Proofs.Ytkgfcdpckfhknaa
open Go Go.Eng
/-- selion/selionlaw04.known [] -/
def m18 : MFun := ⟨54, [], [.mov (.s 0)],
 .seq (.ops [⟨(some 0), some undefA, none, false, .pu (.mov (.c (.bool false)))⟩])
 (.seq (.ops [⟨(some 10), some undefA, none, false, .call 56 []⟩,
   ⟨(some 11), some undefA, none, false, .call 43 [(.s 10)]⟩,
   ⟨(some 9), some undefA, none, false, .pu (.mov (.s 11))⟩,
   ⟨(some 12), some undefA, none, false, .pu (.extr 0 (.s 9))⟩,
   ⟨(some 13), some undefA, none, false, .pu (.extr 1 (.s 9))⟩,
   ⟨(some 1), some undefA, none, false, .pu (.mov (.s 12))⟩,
   ⟨(some 2), some undefA, none, false, .pu (.mov (.s 13))⟩])
 (.seq (.ops [⟨(some 15), some undefA, none, false, .call 56 []⟩,
   ⟨(some 16), some undefA, none, false, .call 25 [(.s 15), (.c (.int .i64 0)), (.c (.int .i64 2))]⟩,
   ⟨(some 14), some undefA, none, false, .pu (.mov (.s 16))⟩,
   ⟨(some 17), some undefA, none, false, .pu (.extr 0 (.s 14))⟩,
   ⟨(some 18), some undefA, none, false, .pu (.extr 1 (.s 14))⟩,
   ⟨(some 19), some undefA, none, false, .pu (.extr 2 (.s 14))⟩,
   ⟨(some 3), some undefA, none, false, .pu (.mov (.s 17))⟩,
   ⟨(some 4), some undefA, none, false, .pu (.mov (.s 18))⟩,
   ⟨(some 5), some undefA, none, false, .pu (.mov (.s 19))⟩])
 (.seq (.ops [⟨(some 21), some undefA, none, false, .call 56 []⟩,
   ⟨(some 22), some undefA, none, false, .call 19 [(.s 21), (.c (.int .i64 0))]⟩,
   ⟨(some 20), some undefA, none, false, .pu (.mov (.s 22))⟩,
   ⟨(some 23), some undefA, none, false, .pu (.extr 0 (.s 20))⟩,
   ⟨(some 24), some undefA, none, false, .pu (.extr 1 (.s 20))⟩,
   ⟨(some 25), some undefA, none, false, .pu (.extr 2 (.s 20))⟩,
   ⟨(some 6), some undefA, none, false, .pu (.mov (.s 23))⟩,
   ⟨(some 7), some undefA, none, false, .pu (.mov (.s 24))⟩,
   ⟨(some 8), some undefA, none, false, .pu (.mov (.s 25))⟩])
 (.seq (.ops [⟨(some 26), some undefA, none, false, .pu (.mov (.s 2))⟩,
   ⟨(some 27), some undefA, none, false, .pu (.bin .eql (.s 26) (.c (.int .i64 0)))⟩,
   ⟨(some 28), some undefA, none, false, .pu (.mov (.s 27))⟩,
   ⟨(some 29), some undefA, (some (28, true)), false, .pu (.mov (.s 1))⟩,
   ⟨(some 30), some undefA, (some (28, true)), false, .pu (.bin .eql (.s 29) (.c (.int .i64 3)))⟩,
   ⟨(some 31), some undefA, none, false, .pu (.pick (.s 28) (.s 30) (.c (.bool false)))⟩,
   ⟨(some 32), some undefA, none, false, .pu (.mov (.s 31))⟩,
   ⟨(some 33), some undefA, (some (32, true)), false, .pu (.mov (.s 5))⟩,
   ⟨(some 34), some undefA, (some (32, true)), false, .pu (.bin .eql (.s 33) (.c (.int .i64 0)))⟩,
   ⟨(some 35), some undefA, none, false, .pu (.pick (.s 32) (.s 34) (.c (.bool false)))⟩,
   ⟨(some 36), some undefA, none, false, .pu (.mov (.s 35))⟩,
   ⟨(some 37), some undefA, (some (36, true)), false, .pu (.mov (.s 4))⟩,
   ⟨(some 38), some undefA, none, false, .pu (.pick (.s 36) (.s 37) (.c (.bool false)))⟩,
   ⟨(some 39), some undefA, none, false, .pu (.mov (.s 38))⟩,
   ⟨(some 40), some undefA, (some (39, true)), false, .pu (.mov (.s 3))⟩,
   ⟨(some 41), some undefA, (some (39, true)), false, .pu (.bin .eql (.s 40) (.c (.int .i64 2)))⟩,
   ⟨(some 42), some undefA, none, false, .pu (.pick (.s 39) (.s 41) (.c (.bool false)))⟩,
   ⟨(some 43), some undefA, none, false, .pu (.mov (.s 42))⟩,
   ⟨(some 44), some undefA, (some (43, true)), false, .pu (.mov (.s 8))⟩,
   ⟨(some 45), some undefA, (some (43, true)), false, .pu (.bin .eql (.s 44) (.c (.int .i64 0)))⟩,
   ⟨(some 46), some undefA, none, false, .pu (.pick (.s 43) (.s 45) (.c (.bool false)))⟩,
   ⟨(some 47), some undefA, none, false, .pu (.mov (.s 46))⟩,
   ⟨(some 48), some undefA, (some (47, true)), false, .pu (.mov (.s 7))⟩,
   ⟨(some 49), some undefA, none, false, .pu (.pick (.s 47) (.s 48) (.c (.bool false)))⟩,
   ⟨(some 50), some undefA, none, false, .pu (.mov (.s 49))⟩,
   ⟨(some 51), some undefA, (some (50, true)), false, .pu (.mov (.s 6))⟩,
   ⟨(some 52), some undefA, (some (50, true)), false, .pu (.bin .eql (.s 51) (.c (.int .i64 3)))⟩,
   ⟨(some 53), some undefA, none, false, .pu (.pick (.s 50) (.s 52) (.c (.bool false)))⟩,
   ⟨(some 0), some undefA, none, false, .pu (.mov (.s 53))⟩])
 (.ret)))))⟩
theorem t18 : trF Try.prog [] [] Try.f18 = some m18 := by kernel_rfl
/-- selion/selionlaw04.example [] -/
def m56 : MFun := ⟨6, [0], [.bget none 0 0 2 true],
 .seq (.ops [⟨(some 0), some (.junk), none, false, .pu (.bnew (.c (.agg [.int .i64 0, .nilS])))⟩])
 (.seq (.ops [⟨(some 1), some undefA, none, false, .pu (.build [.int .i64 0, .int .i64 0, .int .i64 0] [(0, 1, (.c (.int .i64 0))), (1, 1, (.c (.int .i64 1))), (2, 1, (.c (.int .i64 1)))])⟩,
   ⟨(some 2), some undefA, none, false, .pu (.build [.int .i64 0, .int .i64 0, .int .i64 0] [(0, 1, (.c (.int .i64 1))), (1, 1, (.c (.int .i64 2))), (2, 1, (.c (.int .i64 2)))])⟩,
   ⟨(some 3), some undefA, none, false, .pu (.build [.int .i64 0, .int .i64 0, .int .i64 0] [(0, 1, (.c (.int .i64 0))), (1, 1, (.c (.int .i64 2))), (2, 1, (.c (.int .i64 3)))])⟩,
   ⟨(some 4), some undefA, none, false, .ha (.blds 3 3 [.int .i64 0, .int .i64 0, .int .i64 0] [(0, 3, (.s 1)), (3, 3, (.s 2)), (6, 3, (.s 3))])⟩,
   ⟨(some 5), some undefA, none, false, .pu (.build [.int .i64 0, .nilS] [(0, 1, (.c (.int .i64 3))), (1, 1, (.s 4))])⟩,
   ⟨(some 0), none, none, false, .pu (.bset none 0 0 2 (.s 5))⟩])
 (.ret))⟩
theorem t56 : trF Try.prog [0] [] Try.f56 = some m56 := by kernel_rfl
/-- selion/road.Count [loop [1, 5, 17, 18], loop [1, 5, 6, 7, 17, 18, 23, 24]] -/
def m43 : MFun := ⟨52, [1], [.mov (.s 2), .mov (.s 3)],
 .seq (.ops [⟨(some 1), some (.junk), none, false, .pu (.bnew (.s 0))⟩,
   ⟨(some 2), some undefA, none, false, .pu (.mov (.c (.int .i64 0)))⟩,
   ⟨(some 3), some undefA, none, false, .pu (.mov (.c (.int .i64 0)))⟩])
 (.seq (.seq (.ops [⟨(some 9), some undefA, none, false, .pu (.bget none 1 0 2 true)⟩,
   ⟨(some 10), some undefA, none, false, .call 28 [(.s 9)]⟩,
   ⟨(some 4), some undefA, none, false, .pu (.mov (.s 10))⟩])
 (.seq (.ops [⟨(some 11), some undefA, none, false, .pu (.mov (.s 4))⟩,
   ⟨(some 12), some undefA, none, false, .pu (.bin .neq (.s 11) (.c (.int .i64 0)))⟩])
 (.cond (.s 12) (.seq (.ops [⟨(some 13), some undefA, none, false, .pu (.mov (.s 4))⟩,
    ⟨(some 2), some undefA, none, false, .pu (.mov (.c (.int .i64 0)))⟩,
    ⟨(some 3), some undefA, none, false, .pu (.mov (.s 13))⟩])
  (.ret))
 (.skip))))
 (.seq (.ops [⟨(some 5), some undefA, none, false, .pu (.mov (.c (.int .i64 0)))⟩])
 (.seq (.seq (.ops [⟨(some 14), some undefA, none, false, .pu (.badr none 1)⟩,
   ⟨(some 15), some undefA, none, false, .pu (.bget (some 14) 1 1 1 false)⟩,
   ⟨(some 16), some undefA, none, false, .pu (.len (.s 15))⟩,
   ⟨(some 17), some undefA, none, false, .pu (.bin .shl (.c (.int .i64 1)) (.s 16))⟩,
   ⟨(some 18), some undefA, none, false, .pu (.mov (.c (.int .i64 0)))⟩])
 (.block 0 (.loop (.seq (.ops [⟨(some 19), some undefA, none, false, .pu (.bin .lss (.s 18) (.s 17))⟩])
   (.seq (.cond (.s 19) (.skip)
   (.exit 0))
   (.seq (.block 1 (.seq (.ops [⟨(some 20), some undefA, none, false, .pu (.mov (.s 18))⟩,
      ⟨(some 6), some undefA, none, false, .pu (.mov (.s 20))⟩])
    (.seq (.ops [⟨(some 7), some undefA, none, false, .pu (.mov (.c (.nilS)))⟩])
    (.seq (.seq (.ops [⟨(some 21), some undefA, none, false, .pu (.badr none 1)⟩,
      ⟨(some 22), some undefA, none, false, .pu (.bget (some 21) 1 1 1 false)⟩,
      ⟨(some 23), some undefA, none, false, .pu (.len (.s 22))⟩,
      ⟨(some 24), some undefA, none, false, .pu (.mov (.c (.int .i64 0)))⟩])
    (.block 2 (.loop (.seq (.ops [⟨(some 25), some undefA, none, false, .pu (.bin .lss (.s 24) (.s 23))⟩])
      (.seq (.cond (.s 25) (.skip)
      (.exit 2))
      (.seq (.block 3 (.seq (.ops [⟨(some 26), some undefA, none, false, .pu (.mov (.s 24))⟩,
         ⟨(some 8), some undefA, none, false, .pu (.mov (.s 26))⟩])
       (.seq (.ops [⟨(some 27), some undefA, none, false, .pu (.mov (.s 6))⟩,
         ⟨(some 28), some undefA, none, false, .pu (.mov (.s 8))⟩,
         ⟨(some 29), some undefA, none, false, .pu (.bin .shr (.s 27) (.s 28))⟩,
         ⟨(some 30), some undefA, none, false, .pu (.bin .and (.s 29) (.c (.int .i64 1)))⟩,
         ⟨(some 31), some undefA, none, false, .pu (.bin .eql (.s 30) (.c (.int .i64 1)))⟩])
       (.cond (.s 31) (.ops [⟨(some 32), some undefA, none, false, .pu (.mov (.s 7))⟩,
          ⟨(some 33), some undefA, none, false, .pu (.mov (.s 8))⟩,
          ⟨(some 34), some undefA, none, false, .ha (.blds 1 1 [.int .i64 0] [(0, 1, (.s 33))])⟩,
          ⟨(some 35), some undefA, none, false, .ha (.app 1 (.s 32) (.s 34))⟩,
          ⟨(some 7), some undefA, none, false, .pu (.mov (.s 35))⟩])
       (.skip)))))
      (.ops [⟨(some 36), some undefA, none, false, .pu (.bin .add (.s 24) (.c (.int .i64 1)))⟩,
        ⟨(some 24), some undefA, none, false, .pu (.mov (.s 36))⟩])))))))
    (.seq (.ops [⟨(some 37), some undefA, none, false, .pu (.mov (.s 7))⟩,
      ⟨(some 38), some undefA, none, false, .pu (.len (.s 37))⟩,
      ⟨(some 39), some undefA, none, false, .pu (.badr none 1)⟩,
      ⟨(some 40), some undefA, none, false, .pu (.bget (some 39) 1 0 1 false)⟩,
      ⟨(some 41), some undefA, none, false, .pu (.bin .sub (.s 40) (.c (.int .i64 1)))⟩,
      ⟨(some 42), some undefA, none, false, .pu (.bin .eql (.s 38) (.s 41))⟩,
      ⟨(some 43), some undefA, none, false, .pu (.mov (.s 42))⟩,
      ⟨(some 44), some undefA, (some (43, true)), false, .pu (.bget none 1 0 2 true)⟩,
      ⟨(some 45), some undefA, (some (43, true)), false, .pu (.mov (.s 7))⟩,
      ⟨(some 46), some undefA, (some (43, true)), false, .call 60 [(.s 44), (.s 45)]⟩,
      ⟨(some 47), some undefA, none, false, .pu (.pick (.s 43) (.s 46) (.c (.bool false)))⟩])
    (.cond (.s 47) (.ops [⟨(some 48), some undefA, none, false, .pu (.mov (.s 5))⟩,
       ⟨(some 49), some undefA, none, false, .pu (.bin .add (.s 48) (.c (.int .i64 1)))⟩,
       ⟨(some 5), some undefA, none, false, .pu (.mov (.s 49))⟩])
    (.skip)))))))
   (.ops [⟨(some 50), some undefA, none, false, .pu (.bin .add (.s 18) (.c (.int .i64 1)))⟩,
     ⟨(some 18), some undefA, none, false, .pu (.mov (.s 50))⟩])))))))
 (.seq (.ops [⟨(some 51), some undefA, none, false, .pu (.mov (.s 5))⟩,
   ⟨(some 2), some undefA, none, false, .pu (.mov (.s 51))⟩,
   ⟨(some 3), some undefA, none, false, .pu (.mov (.c (.int .i64 0)))⟩])
 (.ret)))))⟩
theorem t43 : trF Try.prog [1] [] Try.f43 = some m43 := by kernel_rfl
/-- selion/road.Worst [] -/
def m25 : MFun := ⟨30, [3], [.mov (.s 6), .mov (.s 7), .mov (.s 8)],
 .seq (.ops [⟨(some 3), some (.junk), none, false, .pu (.bnew (.s 0))⟩,
   ⟨(some 6), some undefA, none, false, .pu (.mov (.c (.int .i64 0)))⟩,
   ⟨(some 7), some undefA, none, false, .pu (.mov (.c (.bool false)))⟩,
   ⟨(some 8), some undefA, none, false, .pu (.mov (.c (.int .i64 0)))⟩])
 (.seq (.seq (.ops [⟨(some 12), some undefA, none, false, .pu (.bget none 3 0 2 true)⟩,
   ⟨(some 13), some undefA, none, false, .pu (.mov (.s 1))⟩,
   ⟨(some 14), some undefA, none, false, .pu (.mov (.s 2))⟩,
   ⟨(some 15), some undefA, none, false, .call 72 [(.s 12), (.s 13), (.s 14)]⟩,
   ⟨(some 9), some undefA, none, false, .pu (.mov (.s 15))⟩])
 (.seq (.ops [⟨(some 16), some undefA, none, false, .pu (.mov (.s 9))⟩,
   ⟨(some 17), some undefA, none, false, .pu (.bin .neq (.s 16) (.c (.int .i64 0)))⟩])
 (.cond (.s 17) (.seq (.ops [⟨(some 18), some undefA, none, false, .pu (.mov (.s 9))⟩,
    ⟨(some 6), some undefA, none, false, .pu (.mov (.c (.int .i64 0)))⟩,
    ⟨(some 7), some undefA, none, false, .pu (.mov (.c (.bool false)))⟩,
    ⟨(some 8), some undefA, none, false, .pu (.mov (.s 18))⟩])
  (.ret))
 (.skip))))
 (.seq (.ops [⟨(some 20), some undefA, none, false, .pu (.bget none 3 0 2 true)⟩,
   ⟨(some 21), some undefA, none, false, .pu (.bget none 3 0 2 true)⟩,
   ⟨(some 22), some undefA, none, false, .call 59 [(.s 21)]⟩,
   ⟨(some 23), some undefA, none, false, .pu (.mov (.s 1))⟩,
   ⟨(some 24), some undefA, none, false, .pu (.mov (.s 2))⟩,
   ⟨(some 25), some undefA, none, false, .call 62 [(.s 20), (.s 22), (.s 23), (.s 24)]⟩,
   ⟨(some 19), some undefA, none, false, .pu (.mov (.s 25))⟩,
   ⟨(some 26), some undefA, none, false, .pu (.extr 0 (.s 19))⟩,
   ⟨(some 27), some undefA, none, false, .pu (.extr 1 (.s 19))⟩,
   ⟨(some 10), some undefA, none, false, .pu (.mov (.s 26))⟩,
   ⟨(some 11), some undefA, none, false, .pu (.mov (.s 27))⟩])
 (.seq (.ops [⟨(some 28), some undefA, none, false, .pu (.mov (.s 10))⟩,
   ⟨(some 29), some undefA, none, false, .pu (.mov (.s 11))⟩,
   ⟨(some 6), some undefA, none, false, .pu (.mov (.s 28))⟩,
   ⟨(some 7), some undefA, none, false, .pu (.mov (.s 29))⟩,
   ⟨(some 8), some undefA, none, false, .pu (.mov (.c (.int .i64 0)))⟩])
 (.ret))))⟩
theorem t25 : trF Try.prog [3] [] Try.f25 = some m25 := by kernel_rfl
/-- selion/road.Range [] -/
def m19 : MFun := ⟨54, [2], [.mov (.s 4), .mov (.s 5), .mov (.s 6)],
 .seq (.ops [⟨(some 2), some (.junk), none, false, .pu (.bnew (.s 0))⟩,
   ⟨(some 4), some undefA, none, false, .pu (.mov (.c (.int .i64 0)))⟩,
   ⟨(some 5), some undefA, none, false, .pu (.mov (.c (.bool false)))⟩,
   ⟨(some 6), some undefA, none, false, .pu (.mov (.c (.int .i64 0)))⟩])
 (.seq (.seq (.ops2 [⟨(some 11), some undefA, none, false, .pu (.bget none 2 0 2 true)⟩,
   ⟨(some 12), some undefA, none, false, .call 28 [(.s 11)]⟩,
   ⟨(some 13), some undefA, none, false, .pu (.badr none 2)⟩,
   ⟨(some 14), some undefA, none, false, .pu (.bget (some 13) 2 1 1 false)⟩,
   ⟨(some 15), some undefA, none, false, .pu (.len (.s 14))⟩,
   ⟨(some 16), some undefA, none, false, .pu (.mov (.s 1))⟩,
   ⟨(some 17), some undefA, none, false, .ha (.blds 1 1 [.int .i64 0] [(0, 1, (.s 16))])⟩,
   ⟨(some 18), some undefA, none, false, .call 58 [(.s 15), (.s 17)]⟩,
   ⟨(some 19), some undefA, none, false, .ha (.blds 1 2 [.int .i64 0] [(0, 1, (.s 12)), (1, 1, (.s 18))])⟩,
   ⟨(some 20), some undefA, none, false, .call 57 [(.s 19)]⟩,
   ⟨(some 7), some undefA, none, false, .pu (.mov (.s 20))⟩]
 [⟨(some 11), some undefA, none, false, .pu (.bget none 2 0 2 true)⟩,
   ⟨(some 13), some undefA, none, false, .pu (.badr none 2)⟩,
   ⟨(some 14), some undefA, none, false, .pu (.bget (some 13) 2 1 1 false)⟩,
   ⟨(some 15), some undefA, none, false, .pu (.len (.s 14))⟩,
   ⟨(some 16), some undefA, none, false, .pu (.mov (.s 1))⟩,
   ⟨(some 17), some undefA, none, false, .ha (.blds 1 1 [.int .i64 0] [(0, 1, (.s 16))])⟩,
   ⟨(some 12), some undefA, none, false, .call 28 [(.s 11)]⟩,
   ⟨(some 18), some undefA, none, false, .call 58 [(.s 15), (.s 17)]⟩,
   ⟨(some 19), some undefA, none, false, .ha (.blds 1 2 [.int .i64 0] [(0, 1, (.s 12)), (1, 1, (.s 18))])⟩,
   ⟨(some 20), some undefA, none, false, .call 57 [(.s 19)]⟩,
   ⟨(some 7), some undefA, none, false, .pu (.mov (.s 20))⟩])
 (.seq (.ops [⟨(some 21), some undefA, none, false, .pu (.mov (.s 7))⟩,
   ⟨(some 22), some undefA, none, false, .pu (.bin .neq (.s 21) (.c (.int .i64 0)))⟩])
 (.cond (.s 22) (.seq (.ops [⟨(some 23), some undefA, none, false, .pu (.mov (.s 7))⟩,
    ⟨(some 4), some undefA, none, false, .pu (.mov (.c (.int .i64 0)))⟩,
    ⟨(some 5), some undefA, none, false, .pu (.mov (.c (.bool false)))⟩,
    ⟨(some 6), some undefA, none, false, .pu (.mov (.s 23))⟩])
  (.ret))
 (.skip))))
 (.seq (.ops [⟨(some 24), some undefA, none, false, .pu (.bget none 2 0 2 true)⟩,
   ⟨(some 25), some undefA, none, false, .call 59 [(.s 24)]⟩,
   ⟨(some 8), some undefA, none, false, .pu (.mov (.s 25))⟩])
 (.seq (.seq (.ops [⟨(some 26), some undefA, none, false, .pu (.bget none 2 0 2 true)⟩,
   ⟨(some 27), some undefA, none, false, .pu (.bget none 2 0 2 true)⟩,
   ⟨(some 28), some undefA, none, false, .pu (.mov (.s 8))⟩,
   ⟨(some 29), some undefA, none, false, .call 61 [(.s 27), (.s 28)]⟩,
   ⟨(some 30), some undefA, none, false, .call 60 [(.s 26), (.s 29)]⟩,
   ⟨(some 31), some undefA, none, false, .pu (.not (.s 30))⟩])
 (.cond (.s 31) (.seq (.ops [⟨(some 4), some undefA, none, false, .pu (.mov (.c (.int .i64 0)))⟩,
    ⟨(some 5), some undefA, none, false, .pu (.mov (.c (.bool false)))⟩,
    ⟨(some 6), some undefA, none, false, .pu (.mov (.c (.int .i64 0)))⟩])
  (.ret))
 (.skip)))
 (.seq (.seq (.ops [⟨(some 33), some undefA, none, true, .pu (.bget none 2 0 2 true)⟩,
   ⟨(some 34), some undefA, none, true, .pu (.mov (.s 8))⟩,
   ⟨(some 35), some undefA, none, true, .pu (.mov (.s 1))⟩,
   ⟨(some 36), some undefA, none, true, .call 63 [(.s 34), (.s 35)]⟩,
   ⟨(some 37), some undefA, none, true, .pu (.badr none 2)⟩,
   ⟨(some 38), some undefA, none, true, .pu (.bget (some 37) 2 1 1 false)⟩,
   ⟨(some 39), some undefA, none, true, .pu (.mov (.s 1))⟩,
   ⟨(some 40), some undefA, none, true, .pu (.idx 3 (.s 38) (.s 39))⟩,
   ⟨(some 41), some undefA, none, true, .pu (.fad 0 (.s 40))⟩,
   ⟨(some 42), some undefA, none, true, .ld (.ld 1 false (.s 41))⟩,
   ⟨(some 43), some undefA, none, true, .pu (.badr none 2)⟩,
   ⟨(some 44), some undefA, none, true, .pu (.bget (some 43) 2 1 1 false)⟩,
   ⟨(some 45), some undefA, none, true, .pu (.mov (.s 1))⟩,
   ⟨(some 46), some undefA, none, true, .pu (.idx 3 (.s 44) (.s 45))⟩,
   ⟨(some 47), some undefA, none, true, .pu (.fad 1 (.s 46))⟩,
   ⟨(some 48), some undefA, none, true, .ld (.ld 1 false (.s 47))⟩,
   ⟨(some 49), some undefA, none, false, .call 62 [(.s 33), (.s 36), (.s 42), (.s 48)]⟩,
   ⟨(some 32), some undefA, none, false, .pu (.mov (.s 49))⟩,
   ⟨(some 50), some undefA, none, false, .pu (.extr 0 (.s 32))⟩,
   ⟨(some 51), some undefA, none, false, .pu (.extr 1 (.s 32))⟩,
   ⟨(some 9), some undefA, none, false, .pu (.mov (.s 50))⟩,
   ⟨(some 10), some undefA, none, false, .pu (.mov (.s 51))⟩])
 (.seq (.ops [⟨(some 52), some undefA, none, false, .pu (.mov (.s 10))⟩])
 (.cond (.s 52) (.seq (.ops [⟨(some 53), some undefA, none, false, .pu (.mov (.s 9))⟩,
    ⟨(some 4), some undefA, none, false, .pu (.mov (.s 53))⟩,
    ⟨(some 5), some undefA, none, false, .pu (.mov (.c (.bool true)))⟩,
    ⟨(some 6), some undefA, none, false, .pu (.mov (.c (.int .i64 0)))⟩])
  (.ret))
 (.skip))))
 (.seq (.ops [⟨(some 4), some undefA, none, false, .pu (.mov (.c (.int .i64 99)))⟩,
   ⟨(some 5), some undefA, none, false, .pu (.mov (.c (.bool true)))⟩,
   ⟨(some 6), some undefA, none, false, .pu (.mov (.c (.int .i64 0)))⟩])
 (.ret))))))⟩
theorem t19 : trF Try.prog [2] [] Try.f19 = some m19 := by kernel_rfl
/-- selion/road.Validate [loop [1, 14, 15, 16]] -/
def m28 : MFun := ⟨50, [1, 4], [.mov (.s 2)],
 .seq (.ops [⟨(some 1), some (.junk), none, false, .pu (.bnew (.s 0))⟩,
   ⟨(some 2), some undefA, none, false, .pu (.mov (.c (.int .i64 0)))⟩])
 (.seq (.seq (.ops [⟨(some 5), some undefA, none, false, .pu (.badr none 1)⟩,
   ⟨(some 6), some undefA, none, false, .pu (.bget (some 5) 1 0 1 false)⟩,
   ⟨(some 7), some undefA, none, false, .call 76 [(.s 6), (.c (.int .i64 1)), (.c (.int .i64 7))]⟩,
   ⟨(some 8), some undefA, none, false, .pu (.not (.s 7))⟩])
 (.cond (.s 8) (.seq (.ops [⟨(some 2), some undefA, none, false, .pu (.mov (.c (.int .i64 1)))⟩])
  (.ret))
 (.skip)))
 (.seq (.seq (.ops [⟨(some 9), some undefA, none, false, .pu (.badr none 1)⟩,
   ⟨(some 10), some undefA, none, false, .pu (.bget (some 9) 1 1 1 false)⟩,
   ⟨(some 11), some undefA, none, false, .pu (.len (.s 10))⟩,
   ⟨(some 12), some undefA, none, false, .pu (.bin .gtr (.s 11) (.c (.int .i64 14)))⟩])
 (.cond (.s 12) (.seq (.ops [⟨(some 2), some undefA, none, false, .pu (.mov (.c (.int .i64 3)))⟩])
  (.ret))
 (.skip)))
 (.seq (.seq (.ops [⟨(some 13), some undefA, none, false, .pu (.badr none 1)⟩,
   ⟨(some 14), some undefA, none, false, .pu (.bget (some 13) 1 1 1 false)⟩,
   ⟨(some 15), some undefA, none, false, .pu (.len (.s 14))⟩,
   ⟨(some 16), some undefA, none, false, .pu (.mov (.c (.int .i64 0)))⟩])
 (.block 0 (.loop (.seq (.ops [⟨(some 17), some undefA, none, false, .pu (.bin .lss (.s 16) (.s 15))⟩])
   (.seq (.cond (.s 17) (.skip)
   (.exit 0))
   (.seq (.block 1 (.seq (.ops [⟨(some 18), some undefA, none, false, .pu (.idx 3 (.s 14) (.s 16))⟩,
      ⟨(some 19), some undefA, none, false, .ld (.ld 3 true (.s 18))⟩,
      ⟨(some 4), some (.junk), none, false, .pu (.bnew (.c (.agg [.int .i64 0, .int .i64 0, .int .i64 0])))⟩,
      ⟨(some 4), none, none, false, .pu (.bset none 4 0 3 (.s 19))⟩])
    (.seq (.ops [⟨(some 20), some undefA, none, false, .pu (.badr none 4)⟩,
      ⟨(some 21), some undefA, none, false, .pu (.bget (some 20) 4 0 1 false)⟩,
      ⟨(some 22), some undefA, none, false, .pu (.badr none 1)⟩,
      ⟨(some 23), some undefA, none, false, .pu (.bget (some 22) 1 0 1 false)⟩,
      ⟨(some 24), some undefA, none, false, .pu (.bin .sub (.s 23) (.c (.int .i64 1)))⟩,
      ⟨(some 25), some undefA, none, false, .call 76 [(.s 21), (.c (.int .i64 0)), (.s 24)]⟩,
      ⟨(some 26), some undefA, none, false, .pu (.not (.s 25))⟩,
      ⟨(some 27), some undefA, none, false, .pu (.mov (.s 26))⟩,
      ⟨(some 28), some undefA, (some (27, false)), false, .pu (.badr none 4)⟩,
      ⟨(some 29), some undefA, (some (27, false)), false, .pu (.bget (some 28) 4 1 1 false)⟩,
      ⟨(some 30), some undefA, (some (27, false)), false, .pu (.badr none 1)⟩,
      ⟨(some 31), some undefA, (some (27, false)), false, .pu (.bget (some 30) 1 0 1 false)⟩,
      ⟨(some 32), some undefA, (some (27, false)), false, .pu (.bin .sub (.s 31) (.c (.int .i64 1)))⟩,
      ⟨(some 33), some undefA, (some (27, false)), false, .call 76 [(.s 29), (.c (.int .i64 0)), (.s 32)]⟩,
      ⟨(some 34), some undefA, (some (27, false)), false, .pu (.not (.s 33))⟩,
      ⟨(some 35), some undefA, none, false, .pu (.pick (.s 27) (.c (.bool true)) (.s 34))⟩,
      ⟨(some 36), some undefA, none, false, .pu (.mov (.s 35))⟩,
      ⟨(some 37), some undefA, (some (36, false)), false, .pu (.badr none 4)⟩,
      ⟨(some 38), some undefA, (some (36, false)), false, .pu (.bget (some 37) 4 0 1 false)⟩,
      ⟨(some 39), some undefA, (some (36, false)), false, .pu (.badr none 4)⟩,
      ⟨(some 40), some undefA, (some (36, false)), false, .pu (.bget (some 39) 4 1 1 false)⟩,
      ⟨(some 41), some undefA, (some (36, false)), false, .pu (.bin .eql (.s 38) (.s 40))⟩,
      ⟨(some 42), some undefA, none, false, .pu (.pick (.s 36) (.c (.bool true)) (.s 41))⟩,
      ⟨(some 43), some undefA, none, false, .pu (.mov (.s 42))⟩,
      ⟨(some 44), some undefA, (some (43, false)), false, .pu (.badr none 4)⟩,
      ⟨(some 45), some undefA, (some (43, false)), false, .pu (.bget (some 44) 4 2 1 false)⟩,
      ⟨(some 46), some undefA, (some (43, false)), false, .call 76 [(.s 45), (.c (.int .i64 0)), (.c (.int .i64 99))]⟩,
      ⟨(some 47), some undefA, (some (43, false)), false, .pu (.not (.s 46))⟩,
      ⟨(some 48), some undefA, none, false, .pu (.pick (.s 43) (.c (.bool true)) (.s 47))⟩])
    (.cond (.s 48) (.seq (.ops [⟨(some 2), some undefA, none, false, .pu (.mov (.c (.int .i64 1)))⟩])
     (.ret))
    (.skip)))))
   (.ops [⟨(some 49), some undefA, none, false, .pu (.bin .add (.s 16) (.c (.int .i64 1)))⟩,
     ⟨(some 16), some undefA, none, false, .pu (.mov (.s 49))⟩])))))))
 (.seq (.ops [⟨(some 2), some undefA, none, false, .pu (.mov (.c (.int .i64 0)))⟩])
 (.ret)))))⟩
theorem t28 : trF Try.prog [1, 4] [] Try.f28 = some m28 := by kernel_rfl
/-- cmp.Or[selion/api.Errno] [loop [3, 6, 7, 8]] -/
def m57 : MFun := ⟨18, [], [.mov (.s 2)],
 .seq (.ops [⟨(some 2), some undefA, none, false, .pu (.mov (.c (.int .i64 0)))⟩])
 (.seq (.ops [⟨(some 3), some undefA, none, false, .pu (.mov (.c (.int .i64 0)))⟩])
 (.seq (.seq (.ops [⟨(some 6), some undefA, none, false, .pu (.mov (.s 0))⟩,
   ⟨(some 7), some undefA, none, false, .pu (.len (.s 6))⟩,
   ⟨(some 8), some undefA, none, false, .pu (.mov (.c (.int .i64 0)))⟩])
 (.block 0 (.loop (.seq (.ops [⟨(some 9), some undefA, none, false, .pu (.bin .lss (.s 8) (.s 7))⟩])
   (.seq (.cond (.s 9) (.skip)
   (.exit 0))
   (.seq (.block 1 (.seq (.ops [⟨(some 10), some undefA, none, false, .pu (.idx 1 (.s 6) (.s 8))⟩,
      ⟨(some 11), some undefA, none, false, .ld (.ld 1 false (.s 10))⟩,
      ⟨(some 5), some undefA, none, false, .pu (.mov (.s 11))⟩])
    (.seq (.ops [⟨(some 12), some undefA, none, false, .pu (.mov (.s 5))⟩,
      ⟨(some 13), some undefA, none, false, .pu (.mov (.s 3))⟩,
      ⟨(some 14), some undefA, none, false, .pu (.bin .neq (.s 12) (.s 13))⟩])
    (.cond (.s 14) (.seq (.ops [⟨(some 15), some undefA, none, false, .pu (.mov (.s 5))⟩,
       ⟨(some 2), some undefA, none, false, .pu (.mov (.s 15))⟩])
     (.ret))
    (.skip)))))
   (.ops [⟨(some 16), some undefA, none, false, .pu (.bin .add (.s 8) (.c (.int .i64 1)))⟩,
     ⟨(some 8), some undefA, none, false, .pu (.mov (.s 16))⟩])))))))
 (.seq (.ops [⟨(some 17), some undefA, none, false, .pu (.mov (.s 3))⟩,
   ⟨(some 2), some undefA, none, false, .pu (.mov (.s 17))⟩])
 (.ret))))⟩
theorem t57 : trF Try.prog [] [] Try.f57 = some m57 := by kernel_rfl
/-- selion/road.isOf [] -/
def m58 : MFun := ⟨8, [], [.mov (.s 4)],
 .seq (.ops [⟨(some 2), some undefA, none, false, .ha (.newv (.s 0))⟩,
   ⟨(some 4), some undefA, none, false, .pu (.mov (.c (.int .i64 0)))⟩])
 (.seq (.seq (.ops [⟨(some 5), some undefA, none, false, .pu (.mov (.s 1))⟩,
   ⟨(some 6), some undefA, none, false, .pu (.mkf 96 [(.s 2)])⟩,
   ⟨(some 7), some undefA, none, false, .call 95 [(.s 5), (.s 6)]⟩])
 (.cond (.s 7) (.seq (.ops [⟨(some 4), some undefA, none, false, .pu (.mov (.c (.int .i64 4)))⟩])
  (.ret))
 (.skip)))
 (.seq (.ops [⟨(some 4), some undefA, none, false, .pu (.mov (.c (.int .i64 0)))⟩])
 (.ret)))⟩
theorem t58 : trF Try.prog [] [] Try.f58 = some m58 := by kernel_rfl
/-- selion/road.all [loop [1, 3, 7, 8]] -/
def m59 : MFun := ⟨20, [], [.mov (.s 2)],
 .seq (.ops [⟨(some 1), some undefA, none, false, .ha (.newv (.s 0))⟩,
   ⟨(some 2), some undefA, none, false, .pu (.mov (.c (.nilS)))⟩])
 (.seq (.ops [⟨(some 3), some undefA, none, false, .pu (.mov (.c (.nilS)))⟩])
 (.seq (.seq (.ops [⟨(some 5), some undefA, none, false, .pu (.fad 1 (.s 1))⟩,
   ⟨(some 6), some undefA, none, false, .ld (.ld 1 false (.s 5))⟩,
   ⟨(some 7), some undefA, none, false, .pu (.len (.s 6))⟩,
   ⟨(some 8), some undefA, none, false, .pu (.mov (.c (.int .i64 0)))⟩])
 (.block 0 (.loop (.seq (.ops [⟨(some 9), some undefA, none, false, .pu (.bin .lss (.s 8) (.s 7))⟩])
   (.seq (.cond (.s 9) (.skip)
   (.exit 0))
   (.seq (.block 1 (.seq (.ops [⟨(some 10), some undefA, none, false, .pu (.mov (.s 8))⟩,
      ⟨(some 4), some undefA, none, false, .pu (.mov (.s 10))⟩])
    (.ops [⟨(some 11), some undefA, none, false, .pu (.mov (.s 3))⟩,
      ⟨(some 12), some undefA, none, false, .pu (.mov (.s 4))⟩,
      ⟨(some 13), some undefA, none, false, .ha (.blds 1 1 [.int .i64 0] [(0, 1, (.s 12))])⟩,
      ⟨(some 14), some undefA, none, false, .ha (.app 1 (.s 11) (.s 13))⟩,
      ⟨(some 3), some undefA, none, false, .pu (.mov (.s 14))⟩])))
   (.ops [⟨(some 15), some undefA, none, false, .pu (.bin .add (.s 8) (.c (.int .i64 1)))⟩,
     ⟨(some 8), some undefA, none, false, .pu (.mov (.s 15))⟩])))))))
 (.seq (.ops [⟨(some 16), some undefA, none, false, .pu (.mov (.s 3))⟩,
   ⟨(some 17), some undefA, none, false, .pu (.mkf 98 [(.s 1)])⟩,
   ⟨(some 18), some undefA, none, false, .call 97 [(.s 16), (.s 17)]⟩])
 (.seq (.ops [⟨(some 19), some undefA, none, false, .pu (.mov (.s 3))⟩,
   ⟨(some 2), some undefA, none, false, .pu (.mov (.s 19))⟩])
 (.ret)))))⟩
theorem t59 : trF Try.prog [] [] Try.f59 = some m59 := by kernel_rfl
/-- selion/road.isTree [] -/
def m60 : MFun := ⟨18, [2], [.mov (.s 4)],
 .seq (.ops [⟨(some 2), some (.junk), none, false, .pu (.bnew (.s 0))⟩,
   ⟨(some 4), some undefA, none, false, .pu (.mov (.c (.bool false)))⟩])
 (.seq (.ops [⟨(some 5), some undefA, none, false, .pu (.mov (.s 1))⟩,
   ⟨(some 6), some undefA, none, false, .pu (.len (.s 5))⟩,
   ⟨(some 7), some undefA, none, false, .pu (.badr none 2)⟩,
   ⟨(some 8), some undefA, none, false, .pu (.bget (some 7) 2 0 1 false)⟩,
   ⟨(some 9), some undefA, none, false, .pu (.bin .sub (.s 8) (.c (.int .i64 1)))⟩,
   ⟨(some 10), some undefA, none, false, .pu (.bin .eql (.s 6) (.s 9))⟩,
   ⟨(some 11), some undefA, none, false, .pu (.mov (.s 10))⟩,
   ⟨(some 12), some undefA, (some (11, true)), false, .pu (.bget none 2 0 2 true)⟩,
   ⟨(some 13), some undefA, (some (11, true)), false, .pu (.mov (.s 1))⟩,
   ⟨(some 14), some undefA, (some (11, true)), false, .call 74 [(.s 12), (.s 13)]⟩,
   ⟨(some 15), some undefA, (some (11, true)), false, .pu (.len (.s 14))⟩,
   ⟨(some 16), some undefA, (some (11, true)), false, .pu (.bin .eql (.s 15) (.c (.int .i64 1)))⟩,
   ⟨(some 17), some undefA, none, false, .pu (.pick (.s 11) (.s 16) (.c (.bool false)))⟩,
   ⟨(some 4), some undefA, none, false, .pu (.mov (.s 17))⟩])
 (.ret))⟩
theorem t60 : trF Try.prog [2] [] Try.f60 = some m60 := by kernel_rfl
/-- selion/road.grow [loop [2, 5, 9, 10, 11]] -/
def m61 : MFun := ⟨43, [2], [.mov (.s 4)],
 .seq (.ops [⟨(some 2), some (.junk), none, false, .pu (.bnew (.s 0))⟩,
   ⟨(some 4), some undefA, none, false, .pu (.mov (.c (.nilS)))⟩])
 (.seq (.ops [⟨(some 5), some undefA, none, false, .pu (.mov (.c (.nilS)))⟩])
 (.seq (.seq (.ops [⟨(some 9), some undefA, none, false, .pu (.mov (.s 1))⟩,
   ⟨(some 10), some undefA, none, false, .pu (.len (.s 9))⟩,
   ⟨(some 11), some undefA, none, false, .pu (.mov (.c (.int .i64 0)))⟩])
 (.block 0 (.loop (.seq (.ops [⟨(some 12), some undefA, none, false, .pu (.bin .lss (.s 11) (.s 10))⟩])
   (.seq (.cond (.s 12) (.skip)
   (.exit 0))
   (.seq (.block 1 (.seq (.ops [⟨(some 13), some undefA, none, false, .pu (.idx 1 (.s 9) (.s 11))⟩,
      ⟨(some 14), some undefA, none, false, .ld (.ld 1 false (.s 13))⟩,
      ⟨(some 7), some undefA, none, false, .pu (.mov (.s 14))⟩])
    (.seq (.ops [⟨(some 15), some undefA, none, false, .pu (.bget none 2 0 2 true)⟩,
      ⟨(some 16), some undefA, none, false, .pu (.mov (.s 5))⟩,
      ⟨(some 17), some undefA, none, false, .call 99 [(.s 15), (.s 16)]⟩,
      ⟨(some 8), some undefA, none, false, .pu (.mov (.s 17))⟩])
    (.seq (.ops [⟨(some 18), some undefA, none, true, .pu (.mov (.s 8))⟩,
      ⟨(some 19), some undefA, none, true, .pu (.badr none 2)⟩,
      ⟨(some 20), some undefA, none, true, .pu (.bget (some 19) 2 1 1 false)⟩,
      ⟨(some 21), some undefA, none, true, .pu (.mov (.s 7))⟩,
      ⟨(some 22), some undefA, none, true, .pu (.idx 3 (.s 20) (.s 21))⟩,
      ⟨(some 23), some undefA, none, true, .pu (.fad 0 (.s 22))⟩,
      ⟨(some 24), some undefA, none, true, .ld (.ld 1 false (.s 23))⟩,
      ⟨(some 25), some undefA, none, true, .ld (.look (.int .i64 0) false (.s 18) (.s 24))⟩,
      ⟨(some 26), some undefA, none, true, .pu (.mov (.s 8))⟩,
      ⟨(some 27), some undefA, none, true, .pu (.badr none 2)⟩,
      ⟨(some 28), some undefA, none, true, .pu (.bget (some 27) 2 1 1 false)⟩,
      ⟨(some 29), some undefA, none, true, .pu (.mov (.s 7))⟩,
      ⟨(some 30), some undefA, none, true, .pu (.idx 3 (.s 28) (.s 29))⟩,
      ⟨(some 31), some undefA, none, true, .pu (.fad 1 (.s 30))⟩,
      ⟨(some 32), some undefA, none, true, .ld (.ld 1 false (.s 31))⟩,
      ⟨(some 33), some undefA, none, true, .ld (.look (.int .i64 0) false (.s 26) (.s 32))⟩,
      ⟨(some 34), some undefA, none, false, .pu (.bin .neq (.s 25) (.s 33))⟩])
    (.cond (.s 34) (.ops [⟨(some 35), some undefA, none, false, .pu (.mov (.s 5))⟩,
       ⟨(some 36), some undefA, none, false, .pu (.mov (.s 7))⟩,
       ⟨(some 37), some undefA, none, false, .ha (.blds 1 1 [.int .i64 0] [(0, 1, (.s 36))])⟩,
       ⟨(some 38), some undefA, none, false, .ha (.app 1 (.s 35) (.s 37))⟩,
       ⟨(some 5), some undefA, none, false, .pu (.mov (.s 38))⟩])
    (.skip))))))
   (.ops [⟨(some 39), some undefA, none, false, .pu (.bin .add (.s 11) (.c (.int .i64 1)))⟩,
     ⟨(some 11), some undefA, none, false, .pu (.mov (.s 39))⟩])))))))
 (.seq (.ops [⟨(some 40), some undefA, none, false, .pu (.mov (.s 5))⟩,
   ⟨(some 41), some undefA, none, false, .call 100 [(.s 40)]⟩])
 (.seq (.ops [⟨(some 42), some undefA, none, false, .pu (.mov (.s 5))⟩,
   ⟨(some 4), some undefA, none, false, .pu (.mov (.s 42))⟩])
 (.ret)))))⟩
theorem t61 : trF Try.prog [2] [] Try.f61 = some m61 := by kernel_rfl
/-- selion/road.least [loop [2, 3, 4, 10, 17, 18, 19]] -/
def m62 : MFun := ⟨44, [4], [.mov (.s 8), .mov (.s 9)],
 .seq (.ops [⟨(some 4), some (.junk), none, false, .pu (.bnew (.s 0))⟩,
   ⟨(some 8), some undefA, none, false, .pu (.mov (.c (.int .i64 0)))⟩,
   ⟨(some 9), some undefA, none, false, .pu (.mov (.c (.bool false)))⟩])
 (.seq (.seq (.ops [⟨(some 14), some undefA, none, false, .pu (.mov (.s 2))⟩,
   ⟨(some 15), some undefA, none, false, .pu (.mov (.s 3))⟩,
   ⟨(some 16), some undefA, none, false, .pu (.bin .eql (.s 14) (.s 15))⟩])
 (.cond (.s 16) (.seq (.ops [⟨(some 8), some undefA, none, false, .pu (.mov (.c (.int .i64 0)))⟩,
    ⟨(some 9), some undefA, none, false, .pu (.mov (.c (.bool true)))⟩])
  (.ret))
 (.skip)))
 (.seq (.ops [⟨(some 10), some undefA, none, false, .pu (.mov (.c (.nilS)))⟩])
 (.seq (.seq (.ops [⟨(some 17), some undefA, none, false, .pu (.mov (.s 1))⟩,
   ⟨(some 18), some undefA, none, false, .pu (.len (.s 17))⟩,
   ⟨(some 19), some undefA, none, false, .pu (.mov (.c (.int .i64 0)))⟩])
 (.block 0 (.loop (.seq (.ops [⟨(some 20), some undefA, none, false, .pu (.bin .lss (.s 19) (.s 18))⟩])
   (.seq (.cond (.s 20) (.skip)
   (.exit 0))
   (.seq (.block 1 (.seq (.ops [⟨(some 21), some undefA, none, false, .pu (.idx 1 (.s 17) (.s 19))⟩,
      ⟨(some 22), some undefA, none, false, .ld (.ld 1 false (.s 21))⟩,
      ⟨(some 12), some undefA, none, false, .pu (.mov (.s 22))⟩])
    (.seq (.ops [⟨(some 23), some undefA, none, false, .pu (.mov (.s 10))⟩,
      ⟨(some 24), some undefA, none, false, .pu (.mov (.s 12))⟩,
      ⟨(some 25), some undefA, none, false, .ha (.blds 1 1 [.int .i64 0] [(0, 1, (.s 24))])⟩,
      ⟨(some 26), some undefA, none, false, .ha (.app 1 (.s 23) (.s 25))⟩,
      ⟨(some 10), some undefA, none, false, .pu (.mov (.s 26))⟩])
    (.seq (.ops [⟨(some 27), some undefA, none, false, .pu (.bget none 4 0 2 true)⟩,
      ⟨(some 28), some undefA, none, false, .pu (.mov (.s 10))⟩,
      ⟨(some 29), some undefA, none, false, .call 99 [(.s 27), (.s 28)]⟩,
      ⟨(some 13), some undefA, none, false, .pu (.mov (.s 29))⟩])
    (.seq (.ops [⟨(some 30), some undefA, none, false, .pu (.mov (.s 13))⟩,
      ⟨(some 31), some undefA, none, false, .pu (.mov (.s 2))⟩,
      ⟨(some 32), some undefA, none, false, .ld (.look (.int .i64 0) false (.s 30) (.s 31))⟩,
      ⟨(some 33), some undefA, none, false, .pu (.mov (.s 13))⟩,
      ⟨(some 34), some undefA, none, false, .pu (.mov (.s 3))⟩,
      ⟨(some 35), some undefA, none, false, .ld (.look (.int .i64 0) false (.s 33) (.s 34))⟩,
      ⟨(some 36), some undefA, none, false, .pu (.bin .eql (.s 32) (.s 35))⟩])
    (.cond (.s 36) (.seq (.ops [⟨(some 37), some undefA, none, false, .pu (.badr none 4)⟩,
       ⟨(some 38), some undefA, none, false, .pu (.bget (some 37) 4 1 1 false)⟩,
       ⟨(some 39), some undefA, none, false, .pu (.mov (.s 12))⟩,
       ⟨(some 40), some undefA, none, false, .pu (.idx 3 (.s 38) (.s 39))⟩,
       ⟨(some 41), some undefA, none, false, .pu (.fad 2 (.s 40))⟩,
       ⟨(some 42), some undefA, none, false, .ld (.ld 1 false (.s 41))⟩,
       ⟨(some 8), some undefA, none, false, .pu (.mov (.s 42))⟩,
       ⟨(some 9), some undefA, none, false, .pu (.mov (.c (.bool true)))⟩])
     (.ret))
    (.skip)))))))
   (.ops [⟨(some 43), some undefA, none, false, .pu (.bin .add (.s 19) (.c (.int .i64 1)))⟩,
     ⟨(some 19), some undefA, none, false, .pu (.mov (.s 43))⟩])))))))
 (.seq (.ops [⟨(some 8), some undefA, none, false, .pu (.mov (.c (.int .i64 0)))⟩,
   ⟨(some 9), some undefA, none, false, .pu (.mov (.c (.bool false)))⟩])
 (.ret)))))⟩
theorem t62 : trF Try.prog [4] [] Try.f62 = some m62 := by kernel_rfl
/-- selion/road.without [] -/
def m63 : MFun := ⟨9, [], [.mov (.s 4)],
 .seq (.ops [⟨(some 3), some undefA, none, false, .ha (.newv (.s 1))⟩,
   ⟨(some 4), some undefA, none, false, .pu (.mov (.c (.nilS)))⟩])
 (.seq (.ops [⟨(some 5), some undefA, none, false, .pu (.mov (.s 0))⟩,
   ⟨(some 6), some undefA, none, false, .call 102 [(.s 5)]⟩,
   ⟨(some 7), some undefA, none, false, .pu (.mkf 103 [(.s 3)])⟩,
   ⟨(some 8), some undefA, none, false, .call 101 [(.s 6), (.s 7)]⟩,
   ⟨(some 4), some undefA, none, false, .pu (.mov (.s 8))⟩])
 (.ret))⟩
theorem t63 : trF Try.prog [] [] Try.f63 = some m63 := by kernel_rfl
/-- selion/road.ends [] -/
def m72 : MFun := ⟨19, [3], [.mov (.s 6)],
 .seq (.ops [⟨(some 3), some (.junk), none, false, .pu (.bnew (.s 0))⟩,
   ⟨(some 6), some undefA, none, false, .pu (.mov (.c (.int .i64 0)))⟩])
 (.seq (.seq (.ops [⟨(some 8), some undefA, none, false, .pu (.bget none 3 0 2 true)⟩,
   ⟨(some 9), some undefA, none, false, .call 28 [(.s 8)]⟩,
   ⟨(some 7), some undefA, none, false, .pu (.mov (.s 9))⟩])
 (.seq (.ops [⟨(some 10), some undefA, none, false, .pu (.mov (.s 7))⟩,
   ⟨(some 11), some undefA, none, false, .pu (.bin .neq (.s 10) (.c (.int .i64 0)))⟩])
 (.cond (.s 11) (.seq (.ops [⟨(some 12), some undefA, none, false, .pu (.mov (.s 7))⟩,
    ⟨(some 6), some undefA, none, false, .pu (.mov (.s 12))⟩])
  (.ret))
 (.skip))))
 (.seq (.ops [⟨(some 13), some undefA, none, false, .pu (.badr none 3)⟩,
   ⟨(some 14), some undefA, none, false, .pu (.bget (some 13) 3 0 1 false)⟩,
   ⟨(some 15), some undefA, none, false, .pu (.mov (.s 1))⟩,
   ⟨(some 16), some undefA, none, false, .pu (.mov (.s 2))⟩,
   ⟨(some 17), some undefA, none, false, .ha (.blds 1 2 [.int .i64 0] [(0, 1, (.s 15)), (1, 1, (.s 16))])⟩,
   ⟨(some 18), some undefA, none, false, .call 58 [(.s 14), (.s 17)]⟩,
   ⟨(some 6), some undefA, none, false, .pu (.mov (.s 18))⟩])
 (.ret)))⟩
theorem t72 : trF Try.prog [3] [] Try.f72 = some m72 := by kernel_rfl
/-- selion/road.groups [loop [2, 5, 6, 14, 15], loop [2, 5, 6, 7, 8, 14, 15, 24, 25]] -/
def m74 : MFun := ⟨44, [2], [.mov (.s 4)],
 .seq (.ops [⟨(some 2), some (.junk), none, false, .pu (.bnew (.s 0))⟩,
   ⟨(some 4), some undefA, none, false, .pu (.mov (.c (.nilS)))⟩])
 (.seq (.ops [⟨(some 10), some undefA, none, false, .pu (.bget none 2 0 2 true)⟩,
   ⟨(some 11), some undefA, none, false, .pu (.mov (.s 1))⟩,
   ⟨(some 12), some undefA, none, false, .call 99 [(.s 10), (.s 11)]⟩,
   ⟨(some 5), some undefA, none, false, .pu (.mov (.s 12))⟩])
 (.seq (.ops [⟨(some 6), some undefA, none, false, .pu (.mov (.c (.nilS)))⟩])
 (.seq (.seq (.ops [⟨(some 13), some undefA, none, false, .pu (.badr none 2)⟩,
   ⟨(some 14), some undefA, none, false, .pu (.bget (some 13) 2 0 1 false)⟩,
   ⟨(some 15), some undefA, none, false, .pu (.mov (.c (.int .i64 0)))⟩])
 (.block 0 (.loop (.seq (.ops [⟨(some 16), some undefA, none, false, .pu (.bin .lss (.s 15) (.s 14))⟩])
   (.seq (.cond (.s 16) (.skip)
   (.exit 0))
   (.seq (.block 1 (.seq (.ops [⟨(some 17), some undefA, none, false, .pu (.mov (.s 15))⟩,
      ⟨(some 7), some undefA, none, false, .pu (.mov (.s 17))⟩])
    (.seq (.seq (.ops [⟨(some 18), some undefA, none, false, .pu (.mov (.s 5))⟩,
      ⟨(some 19), some undefA, none, false, .pu (.mov (.s 7))⟩,
      ⟨(some 20), some undefA, none, false, .ld (.look (.int .i64 0) false (.s 18) (.s 19))⟩,
      ⟨(some 21), some undefA, none, false, .pu (.mov (.s 7))⟩,
      ⟨(some 22), some undefA, none, false, .pu (.bin .neq (.s 20) (.s 21))⟩])
    (.cond (.s 22) (.exit 1)
    (.skip)))
    (.seq (.ops [⟨(some 8), some undefA, none, false, .pu (.mov (.c (.nilS)))⟩])
    (.seq (.seq (.ops [⟨(some 23), some undefA, none, false, .pu (.badr none 2)⟩,
      ⟨(some 24), some undefA, none, false, .pu (.bget (some 23) 2 0 1 false)⟩,
      ⟨(some 25), some undefA, none, false, .pu (.mov (.c (.int .i64 0)))⟩])
    (.block 2 (.loop (.seq (.ops [⟨(some 26), some undefA, none, false, .pu (.bin .lss (.s 25) (.s 24))⟩])
      (.seq (.cond (.s 26) (.skip)
      (.exit 2))
      (.seq (.block 3 (.seq (.ops [⟨(some 27), some undefA, none, false, .pu (.mov (.s 25))⟩,
         ⟨(some 9), some undefA, none, false, .pu (.mov (.s 27))⟩])
       (.seq (.ops [⟨(some 28), some undefA, none, false, .pu (.mov (.s 5))⟩,
         ⟨(some 29), some undefA, none, false, .pu (.mov (.s 9))⟩,
         ⟨(some 30), some undefA, none, false, .ld (.look (.int .i64 0) false (.s 28) (.s 29))⟩,
         ⟨(some 31), some undefA, none, false, .pu (.mov (.s 7))⟩,
         ⟨(some 32), some undefA, none, false, .pu (.bin .eql (.s 30) (.s 31))⟩])
       (.cond (.s 32) (.ops [⟨(some 33), some undefA, none, false, .pu (.mov (.s 8))⟩,
          ⟨(some 34), some undefA, none, false, .pu (.mov (.s 9))⟩,
          ⟨(some 35), some undefA, none, false, .ha (.blds 1 1 [.int .i64 0] [(0, 1, (.s 34))])⟩,
          ⟨(some 36), some undefA, none, false, .ha (.app 1 (.s 33) (.s 35))⟩,
          ⟨(some 8), some undefA, none, false, .pu (.mov (.s 36))⟩])
       (.skip)))))
      (.ops [⟨(some 37), some undefA, none, false, .pu (.bin .add (.s 25) (.c (.int .i64 1)))⟩,
        ⟨(some 25), some undefA, none, false, .pu (.mov (.s 37))⟩])))))))
    (.ops [⟨(some 38), some undefA, none, false, .pu (.mov (.s 6))⟩,
      ⟨(some 39), some undefA, none, false, .pu (.mov (.s 8))⟩,
      ⟨(some 40), some undefA, none, false, .ha (.blds 1 1 [.nilS] [(0, 1, (.s 39))])⟩,
      ⟨(some 41), some undefA, none, false, .ha (.app 1 (.s 38) (.s 40))⟩,
      ⟨(some 6), some undefA, none, false, .pu (.mov (.s 41))⟩]))))))
   (.ops [⟨(some 42), some undefA, none, false, .pu (.bin .add (.s 15) (.c (.int .i64 1)))⟩,
     ⟨(some 15), some undefA, none, false, .pu (.mov (.s 42))⟩])))))))
 (.seq (.ops [⟨(some 43), some undefA, none, false, .pu (.mov (.s 6))⟩,
   ⟨(some 4), some undefA, none, false, .pu (.mov (.s 43))⟩])
 (.ret)))))⟩
theorem t74 : trF Try.prog [2] [] Try.f74 = some m74 := by kernel_rfl
/-- selion/road.within [] -/
def m76 : MFun := ⟨15, [], [.mov (.s 6)],
 .seq (.ops [⟨(some 6), some undefA, none, false, .pu (.mov (.c (.bool false)))⟩])
 (.seq (.ops [⟨(some 7), some undefA, none, false, .pu (.mov (.s 0))⟩,
   ⟨(some 8), some undefA, none, false, .pu (.mov (.s 1))⟩,
   ⟨(some 9), some undefA, none, false, .pu (.bin .geq (.s 7) (.s 8))⟩,
   ⟨(some 10), some undefA, none, false, .pu (.mov (.s 9))⟩,
   ⟨(some 11), some undefA, (some (10, true)), false, .pu (.mov (.s 0))⟩,
   ⟨(some 12), some undefA, (some (10, true)), false, .pu (.mov (.s 2))⟩,
   ⟨(some 13), some undefA, (some (10, true)), false, .pu (.bin .leq (.s 11) (.s 12))⟩,
   ⟨(some 14), some undefA, none, false, .pu (.pick (.s 10) (.s 13) (.c (.bool false)))⟩,
   ⟨(some 6), some undefA, none, false, .pu (.mov (.s 14))⟩])
 (.ret))⟩
theorem t76 : trF Try.prog [] [] Try.f76 = some m76 := by kernel_rfl
/-- slices.Contains[[]int,int] [] -/
def m84 : MFun := ⟨9, [], [.mov (.s 4)],
 .seq (.ops [⟨(some 4), some undefA, none, false, .pu (.mov (.c (.bool false)))⟩])
 (.seq (.ops [⟨(some 5), some undefA, none, false, .pu (.mov (.s 0))⟩,
   ⟨(some 6), some undefA, none, false, .pu (.mov (.s 1))⟩,
   ⟨(some 7), some undefA, none, false, .call 105 [(.s 5), (.s 6)]⟩,
   ⟨(some 8), some undefA, none, false, .pu (.bin .geq (.s 7) (.c (.int .i64 0)))⟩,
   ⟨(some 4), some undefA, none, false, .pu (.mov (.s 8))⟩])
 (.ret))⟩
theorem t84 : trF Try.prog [] [] Try.f84 = some m84 := by kernel_rfl
/-- slices.ContainsFunc[[]int,int] [] -/
def m95 : MFun := ⟨9, [], [.mov (.s 4)],
 .seq (.ops [⟨(some 4), some undefA, none, false, .pu (.mov (.c (.bool false)))⟩])
 (.seq (.ops [⟨(some 5), some undefA, none, false, .pu (.mov (.s 0))⟩,
   ⟨(some 6), some undefA, none, false, .pu (.mov (.s 1))⟩,
   ⟨(some 7), some undefA, none, false, .call 108 [(.s 5), (.s 6)]⟩,
   ⟨(some 8), some undefA, none, false, .pu (.bin .geq (.s 7) (.c (.int .i64 0)))⟩,
   ⟨(some 4), some undefA, none, false, .pu (.mov (.s 8))⟩])
 (.ret))⟩
theorem t95 : trF Try.prog [] [] Try.f95 = some m95 := by kernel_rfl
/-- selion/road.isOf$1 [] -/
def m96 : MFun := ⟨9, [], [.mov (.s 3)],
 .seq (.ops [⟨(some 3), some undefA, none, false, .pu (.mov (.c (.bool false)))⟩])
 (.seq (.ops [⟨(some 4), some undefA, none, false, .pu (.mov (.s 0))⟩,
   ⟨(some 5), some undefA, none, false, .ld (.ld 1 false (.s 1))⟩,
   ⟨(some 6), some undefA, none, false, .pu (.bin .sub (.s 5) (.c (.int .i64 1)))⟩,
   ⟨(some 7), some undefA, none, false, .call 76 [(.s 4), (.c (.int .i64 0)), (.s 6)]⟩,
   ⟨(some 8), some undefA, none, false, .pu (.not (.s 7))⟩,
   ⟨(some 3), some undefA, none, false, .pu (.mov (.s 8))⟩])
 (.ret))⟩
theorem t96 : trF Try.prog [] [] Try.f96 = some m96 := by kernel_rfl
/-- slices.SortStableFunc[[]int,int] [] -/
def m97 : MFun := ⟨9, [], [],
 .ops [⟨(some 4), some undefA, none, false, .pu (.mov (.s 0))⟩,
   ⟨(some 5), some undefA, none, false, .pu (.mov (.s 0))⟩,
   ⟨(some 6), some undefA, none, false, .pu (.len (.s 5))⟩,
   ⟨(some 7), some undefA, none, false, .pu (.mov (.s 1))⟩,
   ⟨(some 8), some undefA, none, false, .call 109 [(.s 4), (.s 6), (.s 7)]⟩]⟩
theorem t97 : trF Try.prog [] [] Try.f97 = some m97 := by kernel_rfl
/-- selion/road.all$1 [] -/
def m98 : MFun := ⟨19, [], [.mov (.s 5)],
 .seq (.ops [⟨(some 5), some undefA, none, false, .pu (.mov (.c (.int .i64 0)))⟩])
 (.seq (.ops [⟨(some 6), some undefA, none, true, .pu (.fad 1 (.s 2))⟩,
   ⟨(some 7), some undefA, none, true, .ld (.ld 1 false (.s 6))⟩,
   ⟨(some 8), some undefA, none, true, .pu (.mov (.s 0))⟩,
   ⟨(some 9), some undefA, none, true, .pu (.idx 3 (.s 7) (.s 8))⟩,
   ⟨(some 10), some undefA, none, true, .pu (.fad 2 (.s 9))⟩,
   ⟨(some 11), some undefA, none, true, .ld (.ld 1 false (.s 10))⟩,
   ⟨(some 12), some undefA, none, true, .pu (.fad 1 (.s 2))⟩,
   ⟨(some 13), some undefA, none, true, .ld (.ld 1 false (.s 12))⟩,
   ⟨(some 14), some undefA, none, true, .pu (.mov (.s 1))⟩,
   ⟨(some 15), some undefA, none, true, .pu (.idx 3 (.s 13) (.s 14))⟩,
   ⟨(some 16), some undefA, none, true, .pu (.fad 2 (.s 15))⟩,
   ⟨(some 17), some undefA, none, true, .ld (.ld 1 false (.s 16))⟩,
   ⟨(some 18), some undefA, none, false, .pu (.bin .sub (.s 11) (.s 17))⟩,
   ⟨(some 5), some undefA, none, false, .pu (.mov (.s 18))⟩])
 (.ret))⟩
theorem t98 : trF Try.prog [] [] Try.f98 = some m98 := by kernel_rfl
/-- selion/road.joined [loop [1, 2, 5, 13, 14], loop [1, 2, 5, 22, 23], loop [1, 2, 5, 22, 23, 25, 26, 27]] -/
def m99 : MFun := ⟨56, [2, 9], [.mov (.s 4)],
 .seq (.ops [⟨(some 2), some (.junk), none, false, .pu (.bnew (.s 0))⟩,
   ⟨(some 4), some undefA, none, false, .pu (.mov (.c (.nilM)))⟩])
 (.seq (.ops [⟨(some 11), some undefA, none, false, .ha .mkm⟩,
   ⟨(some 5), some undefA, none, false, .pu (.mov (.s 11))⟩])
 (.seq (.seq (.ops [⟨(some 12), some undefA, none, false, .pu (.badr none 2)⟩,
   ⟨(some 13), some undefA, none, false, .pu (.bget (some 12) 2 0 1 false)⟩,
   ⟨(some 14), some undefA, none, false, .pu (.mov (.c (.int .i64 0)))⟩])
 (.block 0 (.loop (.seq (.ops [⟨(some 15), some undefA, none, false, .pu (.bin .lss (.s 14) (.s 13))⟩])
   (.seq (.cond (.s 15) (.skip)
   (.exit 0))
   (.seq (.block 1 (.seq (.ops [⟨(some 16), some undefA, none, false, .pu (.mov (.s 14))⟩,
      ⟨(some 6), some undefA, none, false, .pu (.mov (.s 16))⟩])
    (.ops [⟨(some 17), some undefA, none, false, .pu (.mov (.s 5))⟩,
      ⟨(some 18), some undefA, none, false, .pu (.mov (.s 6))⟩,
      ⟨(some 19), some undefA, none, false, .pu (.mov (.s 6))⟩,
      ⟨none, some undefA, none, false, .ha (.mset (.s 17) (.s 18) (.s 19))⟩])))
   (.ops [⟨(some 20), some undefA, none, false, .pu (.bin .add (.s 14) (.c (.int .i64 1)))⟩,
     ⟨(some 14), some undefA, none, false, .pu (.mov (.s 20))⟩])))))))
 (.seq (.seq (.ops [⟨(some 21), some undefA, none, false, .pu (.badr none 2)⟩,
   ⟨(some 22), some undefA, none, false, .pu (.bget (some 21) 2 0 1 false)⟩,
   ⟨(some 23), some undefA, none, false, .pu (.mov (.c (.int .i64 0)))⟩])
 (.block 2 (.loop (.seq (.ops [⟨(some 24), some undefA, none, false, .pu (.bin .lss (.s 23) (.s 22))⟩])
   (.seq (.cond (.s 24) (.skip)
   (.exit 2))
   (.seq (.block 3 (.seq (.ops [⟨(some 25), some undefA, none, false, .pu (.mov (.s 1))⟩,
      ⟨(some 26), some undefA, none, false, .pu (.len (.s 25))⟩,
      ⟨(some 27), some undefA, none, false, .pu (.mov (.c (.int .i64 0)))⟩])
    (.block 4 (.loop (.seq (.ops [⟨(some 28), some undefA, none, false, .pu (.bin .lss (.s 27) (.s 26))⟩])
      (.seq (.cond (.s 28) (.skip)
      (.exit 4))
      (.seq (.block 5 (.seq (.ops [⟨(some 29), some undefA, none, false, .pu (.idx 1 (.s 25) (.s 27))⟩,
         ⟨(some 30), some undefA, none, false, .ld (.ld 1 false (.s 29))⟩,
         ⟨(some 8), some undefA, none, false, .pu (.mov (.s 30))⟩])
       (.seq (.ops [⟨(some 31), some undefA, none, false, .pu (.badr none 2)⟩,
         ⟨(some 32), some undefA, none, false, .pu (.bget (some 31) 2 1 1 false)⟩,
         ⟨(some 33), some undefA, none, false, .pu (.mov (.s 8))⟩,
         ⟨(some 34), some undefA, none, false, .pu (.idx 3 (.s 32) (.s 33))⟩,
         ⟨(some 35), some undefA, none, false, .ld (.ld 3 true (.s 34))⟩,
         ⟨(some 9), some (.junk), none, false, .pu (.bnew (.c (.agg [.int .i64 0, .int .i64 0, .int .i64 0])))⟩,
         ⟨(some 9), none, none, false, .pu (.bset none 9 0 3 (.s 35))⟩])
       (.seq (.ops [⟨(some 36), some undefA, none, false, .pu (.mov (.s 5))⟩,
         ⟨(some 37), some undefA, none, false, .pu (.badr none 9)⟩,
         ⟨(some 38), some undefA, none, false, .pu (.bget (some 37) 9 0 1 false)⟩,
         ⟨(some 39), some undefA, none, false, .ld (.look (.int .i64 0) false (.s 36) (.s 38))⟩,
         ⟨(some 40), some undefA, none, false, .pu (.mov (.s 5))⟩,
         ⟨(some 41), some undefA, none, false, .pu (.badr none 9)⟩,
         ⟨(some 42), some undefA, none, false, .pu (.bget (some 41) 9 1 1 false)⟩,
         ⟨(some 43), some undefA, none, false, .ld (.look (.int .i64 0) false (.s 40) (.s 42))⟩,
         ⟨(some 44), some undefA, none, false, .pu (.mm false (.s 39) [(.s 43)])⟩,
         ⟨(some 10), some undefA, none, false, .pu (.mov (.s 44))⟩])
       (.ops [⟨(some 45), some undefA, none, false, .pu (.mov (.s 5))⟩,
         ⟨(some 46), some undefA, none, false, .pu (.badr none 9)⟩,
         ⟨(some 47), some undefA, none, false, .pu (.bget (some 46) 9 0 1 false)⟩,
         ⟨(some 48), some undefA, none, false, .pu (.mov (.s 5))⟩,
         ⟨(some 49), some undefA, none, false, .pu (.badr none 9)⟩,
         ⟨(some 50), some undefA, none, false, .pu (.bget (some 49) 9 1 1 false)⟩,
         ⟨(some 51), some undefA, none, false, .pu (.mov (.s 10))⟩,
         ⟨(some 52), some undefA, none, false, .pu (.mov (.s 10))⟩,
         ⟨none, some undefA, none, false, .ha (.mset (.s 45) (.s 47) (.s 51))⟩,
         ⟨none, some undefA, none, false, .ha (.mset (.s 48) (.s 50) (.s 52))⟩])))))
      (.ops [⟨(some 53), some undefA, none, false, .pu (.bin .add (.s 27) (.c (.int .i64 1)))⟩,
        ⟨(some 27), some undefA, none, false, .pu (.mov (.s 53))⟩]))))))))
   (.ops [⟨(some 54), some undefA, none, false, .pu (.bin .add (.s 23) (.c (.int .i64 1)))⟩,
     ⟨(some 23), some undefA, none, false, .pu (.mov (.s 54))⟩])))))))
 (.seq (.ops [⟨(some 55), some undefA, none, false, .pu (.mov (.s 5))⟩,
   ⟨(some 4), some undefA, none, false, .pu (.mov (.s 55))⟩])
 (.ret)))))⟩
theorem t99 : trF Try.prog [2, 9] [] Try.f99 = some m99 := by kernel_rfl
/-- slices.Sort[[]int,int] [] -/
def m100 : MFun := ⟨11, [], [],
 .seq (.ops [⟨(some 3), some undefA, none, false, .pu (.mov (.s 0))⟩,
   ⟨(some 4), some undefA, none, false, .pu (.len (.s 3))⟩,
   ⟨(some 2), some undefA, none, false, .pu (.mov (.s 4))⟩])
 (.ops [⟨(some 5), some undefA, none, false, .pu (.mov (.s 0))⟩,
   ⟨(some 6), some undefA, none, false, .pu (.mov (.s 2))⟩,
   ⟨(some 7), some undefA, none, false, .pu (.mov (.s 2))⟩,
   ⟨(some 8), some undefA, none, false, .pu (.conv .u64 (.s 7))⟩,
   ⟨(some 9), some undefA, none, false, .call 111 [(.s 8)]⟩,
   ⟨(some 10), some undefA, none, false, .call 110 [(.s 5), (.c (.int .i64 0)), (.s 6), (.s 9)]⟩])⟩
theorem t100 : trF Try.prog [] [] Try.f100 = some m100 := by kernel_rfl
/-- slices.DeleteFunc[[]int,int] [loop [0, 1, 5, 6]] -/
def m101 : MFun := ⟨42, [], [.mov (.s 4)],
 .seq (.ops [⟨(some 4), some undefA, none, false, .pu (.mov (.c (.nilS)))⟩])
 (.seq (.ops [⟨(some 8), some undefA, none, false, .pu (.mov (.s 0))⟩,
   ⟨(some 9), some undefA, none, false, .pu (.mov (.s 1))⟩,
   ⟨(some 10), some undefA, none, false, .call 108 [(.s 8), (.s 9)]⟩,
   ⟨(some 5), some undefA, none, false, .pu (.mov (.s 10))⟩])
 (.seq (.seq (.ops [⟨(some 11), some undefA, none, false, .pu (.mov (.s 5))⟩,
   ⟨(some 12), some undefA, none, false, .pu (.bin .eql (.s 11) (.c (.int .i64 (-1))))⟩])
 (.cond (.s 12) (.seq (.ops [⟨(some 13), some undefA, none, false, .pu (.mov (.s 0))⟩,
    ⟨(some 4), some undefA, none, false, .pu (.mov (.s 13))⟩])
  (.ret))
 (.skip)))
 (.seq (.seq (.ops [⟨(some 14), some undefA, none, false, .pu (.mov (.s 5))⟩,
   ⟨(some 15), some undefA, none, false, .pu (.bin .add (.s 14) (.c (.int .i64 1)))⟩,
   ⟨(some 6), some undefA, none, false, .pu (.mov (.s 15))⟩])
 (.block 0 (.loop (.seq (.seq (.ops [⟨(some 16), some undefA, none, false, .pu (.mov (.s 6))⟩,
     ⟨(some 17), some undefA, none, false, .pu (.mov (.s 0))⟩,
     ⟨(some 18), some undefA, none, false, .pu (.len (.s 17))⟩,
     ⟨(some 19), some undefA, none, false, .pu (.bin .lss (.s 16) (.s 18))⟩])
   (.cond (.s 19) (.skip)
   (.exit 0)))
   (.seq (.block 1 (.seq (.ops [⟨(some 22), some undefA, none, false, .pu (.mov (.s 0))⟩,
      ⟨(some 23), some undefA, none, false, .pu (.mov (.s 6))⟩,
      ⟨(some 24), some undefA, none, false, .pu (.idx 1 (.s 22) (.s 23))⟩,
      ⟨(some 25), some undefA, none, false, .ld (.ld 1 false (.s 24))⟩,
      ⟨(some 7), some undefA, none, false, .pu (.mov (.s 25))⟩])
    (.seq (.ops [⟨(some 26), some undefA, none, false, .pu (.mov (.s 1))⟩,
      ⟨(some 27), some undefA, none, false, .pu (.mov (.s 7))⟩,
      ⟨(some 28), some undefA, none, false, .callv (.s 26) [(.s 27)]⟩,
      ⟨(some 29), some undefA, none, false, .pu (.not (.s 28))⟩])
    (.cond (.s 29) (.seq (.ops [⟨(some 30), some undefA, none, false, .pu (.mov (.s 0))⟩,
       ⟨(some 31), some undefA, none, false, .pu (.mov (.s 5))⟩,
       ⟨(some 32), some undefA, none, false, .pu (.mov (.s 7))⟩,
       ⟨(some 33), some undefA, none, false, .pu (.idx 1 (.s 30) (.s 31))⟩,
       ⟨none, some undefA, none, false, .ha (.st 1 (.s 33) (.s 32))⟩])
     (.ops [⟨(some 34), some undefA, none, false, .pu (.mov (.s 5))⟩,
       ⟨(some 35), some undefA, none, false, .pu (.bin .add (.s 34) (.c (.int .i64 1)))⟩,
       ⟨(some 5), some undefA, none, false, .pu (.mov (.s 35))⟩]))
    (.skip)))))
   (.ops [⟨(some 20), some undefA, none, false, .pu (.mov (.s 6))⟩,
     ⟨(some 21), some undefA, none, false, .pu (.bin .add (.s 20) (.c (.int .i64 1)))⟩,
     ⟨(some 6), some undefA, none, false, .pu (.mov (.s 21))⟩]))))))
 (.seq (.ops [⟨(some 36), some undefA, none, false, .pu (.mov (.s 0))⟩,
   ⟨(some 37), some undefA, none, false, .pu (.mov (.s 5))⟩,
   ⟨(some 38), some undefA, none, false, .pu (.slc 1 (.s 36) (some (.s 37)) none none)⟩,
   ⟨none, some undefA, none, false, .ha (.clr 1 [.int .i64 0] (.s 38))⟩])
 (.seq (.ops [⟨(some 39), some undefA, none, false, .pu (.mov (.s 0))⟩,
   ⟨(some 40), some undefA, none, false, .pu (.mov (.s 5))⟩,
   ⟨(some 41), some undefA, none, false, .pu (.slc 1 (.s 39) none (some (.s 40)) none)⟩,
   ⟨(some 4), some undefA, none, false, .pu (.mov (.s 41))⟩])
 (.ret))))))⟩
theorem t101 : trF Try.prog [] [] Try.f101 = some m101 := by kernel_rfl
/-- slices.Clone[[]int,int] [] -/
def m102 : MFun := ⟨8, [], [.mov (.s 2)],
 .seq (.ops [⟨(some 2), some undefA, none, false, .pu (.mov (.c (.nilS)))⟩])
 (.seq (.seq (.ops [⟨(some 3), some undefA, none, false, .pu (.mov (.s 0))⟩,
   ⟨(some 4), some undefA, none, false, .pu (.isnil false (.s 3))⟩])
 (.cond (.s 4) (.seq (.ops [⟨(some 2), some undefA, none, false, .pu (.mov (.c (.nilS)))⟩])
  (.ret))
 (.skip)))
 (.seq (.ops [⟨(some 5), some undefA, none, false, .ha (.blds 1 0 [.int .i64 0] [])⟩,
   ⟨(some 6), some undefA, none, false, .pu (.mov (.s 0))⟩,
   ⟨(some 7), some undefA, none, false, .ha (.app 1 (.s 5) (.s 6))⟩,
   ⟨(some 2), some undefA, none, false, .pu (.mov (.s 7))⟩])
 (.ret)))⟩
theorem t102 : trF Try.prog [] [] Try.f102 = some m102 := by kernel_rfl
/-- selion/road.without$1 [] -/
def m103 : MFun := ⟨7, [], [.mov (.s 3)],
 .seq (.ops [⟨(some 3), some undefA, none, false, .pu (.mov (.c (.bool false)))⟩])
 (.seq (.ops [⟨(some 4), some undefA, none, false, .pu (.mov (.s 0))⟩,
   ⟨(some 5), some undefA, none, false, .ld (.ld 1 false (.s 1))⟩,
   ⟨(some 6), some undefA, none, false, .pu (.bin .eql (.s 4) (.s 5))⟩,
   ⟨(some 3), some undefA, none, false, .pu (.mov (.s 6))⟩])
 (.ret))⟩
theorem t103 : trF Try.prog [] [] Try.f103 = some m103 := by kernel_rfl
/-- slices.Index[[]int,int] [loop [0, 1, 7, 8]] -/
def m105 : MFun := ⟨19, [], [.mov (.s 4)],
 .seq (.ops [⟨(some 4), some undefA, none, false, .pu (.mov (.c (.int .i64 0)))⟩])
 (.seq (.seq (.ops [⟨(some 6), some undefA, none, false, .pu (.mov (.s 0))⟩,
   ⟨(some 7), some undefA, none, false, .pu (.len (.s 6))⟩,
   ⟨(some 8), some undefA, none, false, .pu (.mov (.c (.int .i64 0)))⟩])
 (.block 0 (.loop (.seq (.ops [⟨(some 9), some undefA, none, false, .pu (.bin .lss (.s 8) (.s 7))⟩])
   (.seq (.cond (.s 9) (.skip)
   (.exit 0))
   (.seq (.block 1 (.seq (.ops [⟨(some 10), some undefA, none, false, .pu (.mov (.s 8))⟩,
      ⟨(some 5), some undefA, none, false, .pu (.mov (.s 10))⟩])
    (.seq (.ops [⟨(some 11), some undefA, none, false, .pu (.mov (.s 1))⟩,
      ⟨(some 12), some undefA, none, false, .pu (.mov (.s 0))⟩,
      ⟨(some 13), some undefA, none, false, .pu (.mov (.s 5))⟩,
      ⟨(some 14), some undefA, none, false, .pu (.idx 1 (.s 12) (.s 13))⟩,
      ⟨(some 15), some undefA, none, false, .ld (.ld 1 false (.s 14))⟩,
      ⟨(some 16), some undefA, none, false, .pu (.bin .eql (.s 11) (.s 15))⟩])
    (.cond (.s 16) (.seq (.ops [⟨(some 17), some undefA, none, false, .pu (.mov (.s 5))⟩,
       ⟨(some 4), some undefA, none, false, .pu (.mov (.s 17))⟩])
     (.ret))
    (.skip)))))
   (.ops [⟨(some 18), some undefA, none, false, .pu (.bin .add (.s 8) (.c (.int .i64 1)))⟩,
     ⟨(some 8), some undefA, none, false, .pu (.mov (.s 18))⟩])))))))
 (.seq (.ops [⟨(some 4), some undefA, none, false, .pu (.mov (.c (.int .i64 (-1))))⟩])
 (.ret)))⟩
theorem t105 : trF Try.prog [] [] Try.f105 = some m105 := by kernel_rfl
/-- slices.IndexFunc[[]int,int] [loop [0, 1, 7, 8]] -/
def m108 : MFun := ⟨19, [], [.mov (.s 4)],
 .seq (.ops [⟨(some 4), some undefA, none, false, .pu (.mov (.c (.int .i64 0)))⟩])
 (.seq (.seq (.ops [⟨(some 6), some undefA, none, false, .pu (.mov (.s 0))⟩,
   ⟨(some 7), some undefA, none, false, .pu (.len (.s 6))⟩,
   ⟨(some 8), some undefA, none, false, .pu (.mov (.c (.int .i64 0)))⟩])
 (.block 0 (.loop (.seq (.ops [⟨(some 9), some undefA, none, false, .pu (.bin .lss (.s 8) (.s 7))⟩])
   (.seq (.cond (.s 9) (.skip)
   (.exit 0))
   (.seq (.block 1 (.seq (.ops [⟨(some 10), some undefA, none, false, .pu (.mov (.s 8))⟩,
      ⟨(some 5), some undefA, none, false, .pu (.mov (.s 10))⟩])
    (.seq (.ops [⟨(some 11), some undefA, none, false, .pu (.mov (.s 1))⟩,
      ⟨(some 12), some undefA, none, false, .pu (.mov (.s 0))⟩,
      ⟨(some 13), some undefA, none, false, .pu (.mov (.s 5))⟩,
      ⟨(some 14), some undefA, none, false, .pu (.idx 1 (.s 12) (.s 13))⟩,
      ⟨(some 15), some undefA, none, false, .ld (.ld 1 false (.s 14))⟩,
      ⟨(some 16), some undefA, none, false, .callv (.s 11) [(.s 15)]⟩])
    (.cond (.s 16) (.seq (.ops [⟨(some 17), some undefA, none, false, .pu (.mov (.s 5))⟩,
       ⟨(some 4), some undefA, none, false, .pu (.mov (.s 17))⟩])
     (.ret))
    (.skip)))))
   (.ops [⟨(some 18), some undefA, none, false, .pu (.bin .add (.s 8) (.c (.int .i64 1)))⟩,
     ⟨(some 8), some undefA, none, false, .pu (.mov (.s 18))⟩])))))))
 (.seq (.ops [⟨(some 4), some undefA, none, false, .pu (.mov (.c (.int .i64 (-1))))⟩])
 (.ret)))⟩
theorem t108 : trF Try.prog [] [] Try.f108 = some m108 := by kernel_rfl
/-- slices.stableCmpFunc[int] [loop [0, 1, 2, 6, 7, 8], loop [0, 1, 2, 6], loop [0, 1, 2, 6, 7, 8]] -/
def m109 : MFun := ⟨63, [], [],
 .seq (.ops [⟨(some 6), some undefA, none, false, .pu (.mov (.c (.int .i64 20)))⟩])
 (.seq (.ops [⟨(some 10), some undefA, none, false, .pu (.mov (.s 6))⟩,
   ⟨(some 7), some undefA, none, false, .pu (.mov (.c (.int .i64 0)))⟩,
   ⟨(some 8), some undefA, none, false, .pu (.mov (.s 10))⟩])
 (.seq (.block 0 (.loop (.seq (.seq (.ops [⟨(some 11), some undefA, none, false, .pu (.mov (.s 8))⟩,
     ⟨(some 12), some undefA, none, false, .pu (.mov (.s 1))⟩,
     ⟨(some 13), some undefA, none, false, .pu (.bin .leq (.s 11) (.s 12))⟩])
   (.cond (.s 13) (.skip)
   (.exit 0)))
   (.block 1 (.seq (.ops [⟨(some 14), some undefA, none, false, .pu (.mov (.s 0))⟩,
      ⟨(some 15), some undefA, none, false, .pu (.mov (.s 7))⟩,
      ⟨(some 16), some undefA, none, false, .pu (.mov (.s 8))⟩,
      ⟨(some 17), some undefA, none, false, .pu (.mov (.s 2))⟩,
      ⟨(some 18), some undefA, none, false, .call 112 [(.s 14), (.s 15), (.s 16), (.s 17)]⟩])
    (.seq (.ops [⟨(some 19), some undefA, none, false, .pu (.mov (.s 8))⟩,
      ⟨(some 7), some undefA, none, false, .pu (.mov (.s 19))⟩])
    (.ops [⟨(some 20), some undefA, none, false, .pu (.mov (.s 8))⟩,
      ⟨(some 21), some undefA, none, false, .pu (.mov (.s 6))⟩,
      ⟨(some 22), some undefA, none, false, .pu (.bin .add (.s 20) (.s 21))⟩,
      ⟨(some 8), some undefA, none, false, .pu (.mov (.s 22))⟩])))))))
 (.seq (.ops [⟨(some 23), some undefA, none, false, .pu (.mov (.s 0))⟩,
   ⟨(some 24), some undefA, none, false, .pu (.mov (.s 7))⟩,
   ⟨(some 25), some undefA, none, false, .pu (.mov (.s 1))⟩,
   ⟨(some 26), some undefA, none, false, .pu (.mov (.s 2))⟩,
   ⟨(some 27), some undefA, none, false, .call 112 [(.s 23), (.s 24), (.s 25), (.s 26)]⟩])
 (.block 2 (.loop (.seq (.seq (.ops [⟨(some 28), some undefA, none, false, .pu (.mov (.s 6))⟩,
     ⟨(some 29), some undefA, none, false, .pu (.mov (.s 1))⟩,
     ⟨(some 30), some undefA, none, false, .pu (.bin .lss (.s 28) (.s 29))⟩])
   (.cond (.s 30) (.skip)
   (.exit 2)))
   (.block 3 (.seq (.ops [⟨(some 31), some undefA, none, false, .pu (.mov (.s 6))⟩,
      ⟨(some 32), some undefA, none, false, .pu (.bin .mul (.c (.int .i64 2)) (.s 31))⟩,
      ⟨(some 7), some undefA, none, false, .pu (.mov (.c (.int .i64 0)))⟩,
      ⟨(some 8), some undefA, none, false, .pu (.mov (.s 32))⟩])
    (.seq (.block 4 (.loop (.seq (.seq (.ops [⟨(some 33), some undefA, none, false, .pu (.mov (.s 8))⟩,
        ⟨(some 34), some undefA, none, false, .pu (.mov (.s 1))⟩,
        ⟨(some 35), some undefA, none, false, .pu (.bin .leq (.s 33) (.s 34))⟩])
      (.cond (.s 35) (.skip)
      (.exit 4)))
      (.block 5 (.seq (.ops [⟨(some 36), some undefA, none, false, .pu (.mov (.s 0))⟩,
         ⟨(some 37), some undefA, none, false, .pu (.mov (.s 7))⟩,
         ⟨(some 38), some undefA, none, false, .pu (.mov (.s 7))⟩,
         ⟨(some 39), some undefA, none, false, .pu (.mov (.s 6))⟩,
         ⟨(some 40), some undefA, none, false, .pu (.bin .add (.s 38) (.s 39))⟩,
         ⟨(some 41), some undefA, none, false, .pu (.mov (.s 8))⟩,
         ⟨(some 42), some undefA, none, false, .pu (.mov (.s 2))⟩,
         ⟨(some 43), some undefA, none, false, .call 113 [(.s 36), (.s 37), (.s 40), (.s 41), (.s 42)]⟩])
       (.seq (.ops [⟨(some 44), some undefA, none, false, .pu (.mov (.s 8))⟩,
         ⟨(some 7), some undefA, none, false, .pu (.mov (.s 44))⟩])
       (.ops [⟨(some 45), some undefA, none, false, .pu (.mov (.s 8))⟩,
         ⟨(some 46), some undefA, none, false, .pu (.mov (.s 6))⟩,
         ⟨(some 47), some undefA, none, false, .pu (.bin .mul (.c (.int .i64 2)) (.s 46))⟩,
         ⟨(some 48), some undefA, none, false, .pu (.bin .add (.s 45) (.s 47))⟩,
         ⟨(some 8), some undefA, none, false, .pu (.mov (.s 48))⟩])))))))
    (.seq (.seq (.ops [⟨(some 49), some undefA, none, false, .pu (.mov (.s 7))⟩,
      ⟨(some 50), some undefA, none, false, .pu (.mov (.s 6))⟩,
      ⟨(some 51), some undefA, none, false, .pu (.bin .add (.s 49) (.s 50))⟩,
      ⟨(some 9), some undefA, none, false, .pu (.mov (.s 51))⟩])
    (.seq (.ops [⟨(some 52), some undefA, none, false, .pu (.mov (.s 9))⟩,
      ⟨(some 53), some undefA, none, false, .pu (.mov (.s 1))⟩,
      ⟨(some 54), some undefA, none, false, .pu (.bin .lss (.s 52) (.s 53))⟩])
    (.cond (.s 54) (.ops [⟨(some 55), some undefA, none, false, .pu (.mov (.s 0))⟩,
       ⟨(some 56), some undefA, none, false, .pu (.mov (.s 7))⟩,
       ⟨(some 57), some undefA, none, false, .pu (.mov (.s 9))⟩,
       ⟨(some 58), some undefA, none, false, .pu (.mov (.s 1))⟩,
       ⟨(some 59), some undefA, none, false, .pu (.mov (.s 2))⟩,
       ⟨(some 60), some undefA, none, false, .call 113 [(.s 55), (.s 56), (.s 57), (.s 58), (.s 59)]⟩])
    (.skip))))
    (.ops [⟨(some 61), some undefA, none, false, .pu (.mov (.s 6))⟩,
      ⟨(some 62), some undefA, none, false, .pu (.bin .mul (.s 61) (.c (.int .i64 2)))⟩,
      ⟨(some 6), some undefA, none, false, .pu (.mov (.s 62))⟩])))))))))))⟩
theorem t109 : trF Try.prog [] [] Try.f109 = some m109 := by kernel_rfl
/-- slices.pdqsortOrdered[int] [loop [0, 1, 2, 3, 8, 9]] -/
def m110 : MFun := ⟨134, [], [],
 .seq (.ops [⟨(some 8), some undefA, none, false, .pu (.mov (.c (.bool true)))⟩])
 (.seq (.ops [⟨(some 9), some undefA, none, false, .pu (.mov (.c (.bool true)))⟩])
 (.block 0 (.loop (.block 1 (.seq (.ops [⟨(some 19), some undefA, none, false, .pu (.mov (.s 2))⟩,
      ⟨(some 20), some undefA, none, false, .pu (.mov (.s 1))⟩,
      ⟨(some 21), some undefA, none, false, .pu (.bin .sub (.s 19) (.s 20))⟩,
      ⟨(some 10), some undefA, none, false, .pu (.mov (.s 21))⟩])
    (.seq (.seq (.ops [⟨(some 22), some undefA, none, false, .pu (.mov (.s 10))⟩,
      ⟨(some 23), some undefA, none, false, .pu (.bin .leq (.s 22) (.c (.int .i64 12)))⟩])
    (.cond (.s 23) (.seq (.ops [⟨(some 24), some undefA, none, false, .pu (.mov (.s 0))⟩,
       ⟨(some 25), some undefA, none, false, .pu (.mov (.s 1))⟩,
       ⟨(some 26), some undefA, none, false, .pu (.mov (.s 2))⟩,
       ⟨(some 27), some undefA, none, false, .call 114 [(.s 24), (.s 25), (.s 26)]⟩])
     (.ret))
    (.skip)))
    (.seq (.seq (.ops [⟨(some 28), some undefA, none, false, .pu (.mov (.s 3))⟩,
      ⟨(some 29), some undefA, none, false, .pu (.bin .eql (.s 28) (.c (.int .i64 0)))⟩])
    (.cond (.s 29) (.seq (.ops [⟨(some 30), some undefA, none, false, .pu (.mov (.s 0))⟩,
       ⟨(some 31), some undefA, none, false, .pu (.mov (.s 1))⟩,
       ⟨(some 32), some undefA, none, false, .pu (.mov (.s 2))⟩,
       ⟨(some 33), some undefA, none, false, .call 115 [(.s 30), (.s 31), (.s 32)]⟩])
     (.ret))
    (.skip)))
    (.seq (.seq (.ops [⟨(some 34), some undefA, none, false, .pu (.mov (.s 8))⟩,
      ⟨(some 35), some undefA, none, false, .pu (.not (.s 34))⟩])
    (.cond (.s 35) (.seq (.ops [⟨(some 36), some undefA, none, false, .pu (.mov (.s 0))⟩,
       ⟨(some 37), some undefA, none, false, .pu (.mov (.s 1))⟩,
       ⟨(some 38), some undefA, none, false, .pu (.mov (.s 2))⟩,
       ⟨(some 39), some undefA, none, false, .call 116 [(.s 36), (.s 37), (.s 38)]⟩])
     (.ops [⟨(some 40), some undefA, none, false, .pu (.mov (.s 3))⟩,
       ⟨(some 41), some undefA, none, false, .pu (.bin .sub (.s 40) (.c (.int .i64 1)))⟩,
       ⟨(some 3), some undefA, none, false, .pu (.mov (.s 41))⟩]))
    (.skip)))
    (.seq (.ops [⟨(some 43), some undefA, none, false, .pu (.mov (.s 0))⟩,
      ⟨(some 44), some undefA, none, false, .pu (.mov (.s 1))⟩,
      ⟨(some 45), some undefA, none, false, .pu (.mov (.s 2))⟩,
      ⟨(some 46), some undefA, none, false, .call 117 [(.s 43), (.s 44), (.s 45)]⟩,
      ⟨(some 42), some undefA, none, false, .pu (.mov (.s 46))⟩,
      ⟨(some 47), some undefA, none, false, .pu (.extr 0 (.s 42))⟩,
      ⟨(some 48), some undefA, none, false, .pu (.extr 1 (.s 42))⟩,
      ⟨(some 11), some undefA, none, false, .pu (.mov (.s 47))⟩,
      ⟨(some 12), some undefA, none, false, .pu (.mov (.s 48))⟩])
    (.seq (.seq (.ops [⟨(some 49), some undefA, none, false, .pu (.mov (.s 12))⟩,
      ⟨(some 50), some undefA, none, false, .pu (.bin .eql (.s 49) (.c (.int .i64 2)))⟩])
    (.cond (.s 50) (.seq (.ops [⟨(some 51), some undefA, none, false, .pu (.mov (.s 0))⟩,
       ⟨(some 52), some undefA, none, false, .pu (.mov (.s 1))⟩,
       ⟨(some 53), some undefA, none, false, .pu (.mov (.s 2))⟩,
       ⟨(some 54), some undefA, none, false, .call 118 [(.s 51), (.s 52), (.s 53)]⟩])
     (.seq (.ops [⟨(some 55), some undefA, none, false, .pu (.mov (.s 2))⟩,
       ⟨(some 56), some undefA, none, false, .pu (.bin .sub (.s 55) (.c (.int .i64 1)))⟩,
       ⟨(some 57), some undefA, none, false, .pu (.mov (.s 11))⟩,
       ⟨(some 58), some undefA, none, false, .pu (.mov (.s 1))⟩,
       ⟨(some 59), some undefA, none, false, .pu (.bin .sub (.s 57) (.s 58))⟩,
       ⟨(some 60), some undefA, none, false, .pu (.bin .sub (.s 56) (.s 59))⟩,
       ⟨(some 11), some undefA, none, false, .pu (.mov (.s 60))⟩])
     (.ops [⟨(some 12), some undefA, none, false, .pu (.mov (.c (.int .i64 1)))⟩])))
    (.skip)))
    (.seq (.seq (.ops [⟨(some 61), some undefA, none, false, .pu (.mov (.s 8))⟩,
      ⟨(some 62), some undefA, none, false, .pu (.mov (.s 61))⟩,
      ⟨(some 63), some undefA, (some (62, true)), false, .pu (.mov (.s 9))⟩,
      ⟨(some 64), some undefA, none, false, .pu (.pick (.s 62) (.s 63) (.c (.bool false)))⟩,
      ⟨(some 65), some undefA, none, false, .pu (.mov (.s 64))⟩,
      ⟨(some 66), some undefA, (some (65, true)), false, .pu (.mov (.s 12))⟩,
      ⟨(some 67), some undefA, (some (65, true)), false, .pu (.bin .eql (.s 66) (.c (.int .i64 1)))⟩,
      ⟨(some 68), some undefA, none, false, .pu (.pick (.s 65) (.s 67) (.c (.bool false)))⟩])
    (.cond (.s 68) (.seq (.ops [⟨(some 69), some undefA, none, false, .pu (.mov (.s 0))⟩,
       ⟨(some 70), some undefA, none, false, .pu (.mov (.s 1))⟩,
       ⟨(some 71), some undefA, none, false, .pu (.mov (.s 2))⟩,
       ⟨(some 72), some undefA, none, false, .call 119 [(.s 69), (.s 70), (.s 71)]⟩])
     (.cond (.s 72) (.ret)
     (.skip)))
    (.skip)))
    (.seq (.seq (.ops [⟨(some 73), some undefA, none, false, .pu (.mov (.s 1))⟩,
      ⟨(some 74), some undefA, none, false, .pu (.bin .gtr (.s 73) (.c (.int .i64 0)))⟩,
      ⟨(some 75), some undefA, none, false, .pu (.mov (.s 74))⟩,
      ⟨(some 76), some undefA, (some (75, true)), true, .pu (.mov (.s 0))⟩,
      ⟨(some 77), some undefA, (some (75, true)), true, .pu (.mov (.s 1))⟩,
      ⟨(some 78), some undefA, (some (75, true)), true, .pu (.bin .sub (.s 77) (.c (.int .i64 1)))⟩,
      ⟨(some 79), some undefA, (some (75, true)), true, .pu (.idx 1 (.s 76) (.s 78))⟩,
      ⟨(some 80), some undefA, (some (75, true)), true, .ld (.ld 1 false (.s 79))⟩,
      ⟨(some 81), some undefA, (some (75, true)), true, .pu (.mov (.s 0))⟩,
      ⟨(some 82), some undefA, (some (75, true)), true, .pu (.mov (.s 11))⟩,
      ⟨(some 83), some undefA, (some (75, true)), true, .pu (.idx 1 (.s 81) (.s 82))⟩,
      ⟨(some 84), some undefA, (some (75, true)), true, .ld (.ld 1 false (.s 83))⟩,
      ⟨(some 85), some undefA, (some (75, true)), false, .call 120 [(.s 80), (.s 84)]⟩,
      ⟨(some 86), some undefA, (some (75, true)), false, .pu (.not (.s 85))⟩,
      ⟨(some 87), some undefA, none, false, .pu (.pick (.s 75) (.s 86) (.c (.bool false)))⟩])
    (.cond (.s 87) (.seq (.ops [⟨(some 88), some undefA, none, false, .pu (.mov (.s 0))⟩,
       ⟨(some 89), some undefA, none, false, .pu (.mov (.s 1))⟩,
       ⟨(some 90), some undefA, none, false, .pu (.mov (.s 2))⟩,
       ⟨(some 91), some undefA, none, false, .pu (.mov (.s 11))⟩,
       ⟨(some 92), some undefA, none, false, .call 121 [(.s 88), (.s 89), (.s 90), (.s 91)]⟩,
       ⟨(some 13), some undefA, none, false, .pu (.mov (.s 92))⟩])
     (.seq (.ops [⟨(some 93), some undefA, none, false, .pu (.mov (.s 13))⟩,
       ⟨(some 1), some undefA, none, false, .pu (.mov (.s 93))⟩])
     (.exit 1)))
    (.skip)))
    (.seq (.ops [⟨(some 95), some undefA, none, false, .pu (.mov (.s 0))⟩,
      ⟨(some 96), some undefA, none, false, .pu (.mov (.s 1))⟩,
      ⟨(some 97), some undefA, none, false, .pu (.mov (.s 2))⟩,
      ⟨(some 98), some undefA, none, false, .pu (.mov (.s 11))⟩,
      ⟨(some 99), some undefA, none, false, .call 122 [(.s 95), (.s 96), (.s 97), (.s 98)]⟩,
      ⟨(some 94), some undefA, none, false, .pu (.mov (.s 99))⟩,
      ⟨(some 100), some undefA, none, false, .pu (.extr 0 (.s 94))⟩,
      ⟨(some 101), some undefA, none, false, .pu (.extr 1 (.s 94))⟩,
      ⟨(some 14), some undefA, none, false, .pu (.mov (.s 100))⟩,
      ⟨(some 15), some undefA, none, false, .pu (.mov (.s 101))⟩])
    (.seq (.ops [⟨(some 102), some undefA, none, false, .pu (.mov (.s 15))⟩,
      ⟨(some 9), some undefA, none, false, .pu (.mov (.s 102))⟩])
    (.seq (.ops [⟨(some 103), some undefA, none, false, .pu (.mov (.s 14))⟩,
      ⟨(some 104), some undefA, none, false, .pu (.mov (.s 1))⟩,
      ⟨(some 105), some undefA, none, false, .pu (.bin .sub (.s 103) (.s 104))⟩,
      ⟨(some 106), some undefA, none, false, .pu (.mov (.s 2))⟩,
      ⟨(some 107), some undefA, none, false, .pu (.mov (.s 14))⟩,
      ⟨(some 108), some undefA, none, false, .pu (.bin .sub (.s 106) (.s 107))⟩,
      ⟨(some 16), some undefA, none, false, .pu (.mov (.s 105))⟩,
      ⟨(some 17), some undefA, none, false, .pu (.mov (.s 108))⟩])
    (.seq (.ops [⟨(some 109), some undefA, none, false, .pu (.mov (.s 10))⟩,
      ⟨(some 110), some undefA, none, false, .pu (.bin .quo (.s 109) (.c (.int .i64 8)))⟩,
      ⟨(some 18), some undefA, none, false, .pu (.mov (.s 110))⟩])
    (.seq (.ops [⟨(some 111), some undefA, none, false, .pu (.mov (.s 16))⟩,
      ⟨(some 112), some undefA, none, false, .pu (.mov (.s 17))⟩,
      ⟨(some 113), some undefA, none, false, .pu (.bin .lss (.s 111) (.s 112))⟩])
    (.cond (.s 113) (.seq (.ops [⟨(some 114), some undefA, none, false, .pu (.mov (.s 16))⟩,
       ⟨(some 115), some undefA, none, false, .pu (.mov (.s 18))⟩,
       ⟨(some 116), some undefA, none, false, .pu (.bin .geq (.s 114) (.s 115))⟩,
       ⟨(some 8), some undefA, none, false, .pu (.mov (.s 116))⟩])
     (.seq (.ops [⟨(some 117), some undefA, none, false, .pu (.mov (.s 0))⟩,
       ⟨(some 118), some undefA, none, false, .pu (.mov (.s 1))⟩,
       ⟨(some 119), some undefA, none, false, .pu (.mov (.s 14))⟩,
       ⟨(some 120), some undefA, none, false, .pu (.mov (.s 3))⟩,
       ⟨(some 121), some undefA, none, false, .call 110 [(.s 117), (.s 118), (.s 119), (.s 120)]⟩])
     (.ops [⟨(some 122), some undefA, none, false, .pu (.mov (.s 14))⟩,
       ⟨(some 123), some undefA, none, false, .pu (.bin .add (.s 122) (.c (.int .i64 1)))⟩,
       ⟨(some 1), some undefA, none, false, .pu (.mov (.s 123))⟩])))
    (.seq (.ops [⟨(some 124), some undefA, none, false, .pu (.mov (.s 17))⟩,
       ⟨(some 125), some undefA, none, false, .pu (.mov (.s 18))⟩,
       ⟨(some 126), some undefA, none, false, .pu (.bin .geq (.s 124) (.s 125))⟩,
       ⟨(some 8), some undefA, none, false, .pu (.mov (.s 126))⟩])
     (.seq (.ops [⟨(some 127), some undefA, none, false, .pu (.mov (.s 0))⟩,
       ⟨(some 128), some undefA, none, false, .pu (.mov (.s 14))⟩,
       ⟨(some 129), some undefA, none, false, .pu (.bin .add (.s 128) (.c (.int .i64 1)))⟩,
       ⟨(some 130), some undefA, none, false, .pu (.mov (.s 2))⟩,
       ⟨(some 131), some undefA, none, false, .pu (.mov (.s 3))⟩,
       ⟨(some 132), some undefA, none, false, .call 110 [(.s 127), (.s 129), (.s 130), (.s 131)]⟩])
     (.ops [⟨(some 133), some undefA, none, false, .pu (.mov (.s 14))⟩,
       ⟨(some 2), some undefA, none, false, .pu (.mov (.s 133))⟩])))))))))))))))))))))⟩
theorem t110 : trF Try.prog [] [] Try.f110 = some m110 := by kernel_rfl
/-- math/bits.Len [] -/
def m111 : MFun := ⟨8, [], [.mov (.s 2)],
 .seq (.ops [⟨(some 2), some undefA, none, false, .pu (.mov (.c (.int .i64 0)))⟩])
 (.seq (.cond (.c (.bool false)) (.seq (.ops [⟨(some 3), some undefA, none, false, .pu (.mov (.s 0))⟩,
    ⟨(some 4), some undefA, none, false, .pu (.conv .u32 (.s 3))⟩,
    ⟨(some 5), some undefA, none, false, .call 123 [(.s 4)]⟩,
    ⟨(some 2), some undefA, none, false, .pu (.mov (.s 5))⟩])
  (.ret))
 (.skip))
 (.seq (.ops [⟨(some 6), some undefA, none, false, .pu (.mov (.s 0))⟩,
   ⟨(some 7), some undefA, none, false, .call 124 [(.s 6)]⟩,
   ⟨(some 2), some undefA, none, false, .pu (.mov (.s 7))⟩])
 (.ret)))⟩
theorem t111 : trF Try.prog [] [] Try.f111 = some m111 := by kernel_rfl
/-- slices.insertionSortCmpFunc[int] [loop [0, 1, 2, 3, 8], loop [0, 1, 2, 3, 8, 9]] -/
def m112 : MFun := ⟨53, [], [],
 .seq (.ops [⟨(some 10), some undefA, none, false, .pu (.mov (.s 1))⟩,
   ⟨(some 11), some undefA, none, false, .pu (.bin .add (.s 10) (.c (.int .i64 1)))⟩,
   ⟨(some 8), some undefA, none, false, .pu (.mov (.s 11))⟩])
 (.block 0 (.loop (.seq (.seq (.ops [⟨(some 12), some undefA, none, false, .pu (.mov (.s 8))⟩,
     ⟨(some 13), some undefA, none, false, .pu (.mov (.s 2))⟩,
     ⟨(some 14), some undefA, none, false, .pu (.bin .lss (.s 12) (.s 13))⟩])
   (.cond (.s 14) (.skip)
   (.exit 0)))
   (.seq (.block 1 (.seq (.ops [⟨(some 17), some undefA, none, false, .pu (.mov (.s 8))⟩,
      ⟨(some 9), some undefA, none, false, .pu (.mov (.s 17))⟩])
    (.block 2 (.loop (.seq (.seq (.ops [⟨(some 18), some undefA, none, false, .pu (.mov (.s 9))⟩,
        ⟨(some 19), some undefA, none, false, .pu (.mov (.s 1))⟩,
        ⟨(some 20), some undefA, none, false, .pu (.bin .gtr (.s 18) (.s 19))⟩,
        ⟨(some 21), some undefA, none, false, .pu (.mov (.s 20))⟩,
        ⟨(some 22), some undefA, (some (21, true)), true, .pu (.mov (.s 3))⟩,
        ⟨(some 23), some undefA, (some (21, true)), true, .pu (.mov (.s 0))⟩,
        ⟨(some 24), some undefA, (some (21, true)), true, .pu (.mov (.s 9))⟩,
        ⟨(some 25), some undefA, (some (21, true)), true, .pu (.idx 1 (.s 23) (.s 24))⟩,
        ⟨(some 26), some undefA, (some (21, true)), true, .ld (.ld 1 false (.s 25))⟩,
        ⟨(some 27), some undefA, (some (21, true)), true, .pu (.mov (.s 0))⟩,
        ⟨(some 28), some undefA, (some (21, true)), true, .pu (.mov (.s 9))⟩,
        ⟨(some 29), some undefA, (some (21, true)), true, .pu (.bin .sub (.s 28) (.c (.int .i64 1)))⟩,
        ⟨(some 30), some undefA, (some (21, true)), true, .pu (.idx 1 (.s 27) (.s 29))⟩,
        ⟨(some 31), some undefA, (some (21, true)), true, .ld (.ld 1 false (.s 30))⟩,
        ⟨(some 32), some undefA, (some (21, true)), false, .callv (.s 22) [(.s 26), (.s 31)]⟩,
        ⟨(some 33), some undefA, (some (21, true)), false, .pu (.bin .lss (.s 32) (.c (.int .i64 0)))⟩,
        ⟨(some 34), some undefA, none, false, .pu (.pick (.s 21) (.s 33) (.c (.bool false)))⟩])
      (.cond (.s 34) (.skip)
      (.exit 2)))
      (.seq (.block 3 (.ops [⟨(some 37), some undefA, none, true, .pu (.mov (.s 0))⟩,
         ⟨(some 38), some undefA, none, true, .pu (.mov (.s 9))⟩,
         ⟨(some 39), some undefA, none, true, .pu (.mov (.s 0))⟩,
         ⟨(some 40), some undefA, none, true, .pu (.mov (.s 9))⟩,
         ⟨(some 41), some undefA, none, true, .pu (.bin .sub (.s 40) (.c (.int .i64 1)))⟩,
         ⟨(some 42), some undefA, none, true, .pu (.mov (.s 0))⟩,
         ⟨(some 43), some undefA, none, true, .pu (.mov (.s 9))⟩,
         ⟨(some 44), some undefA, none, true, .pu (.bin .sub (.s 43) (.c (.int .i64 1)))⟩,
         ⟨(some 45), some undefA, none, true, .pu (.idx 1 (.s 42) (.s 44))⟩,
         ⟨(some 46), some undefA, none, true, .ld (.ld 1 false (.s 45))⟩,
         ⟨(some 47), some undefA, none, true, .pu (.mov (.s 0))⟩,
         ⟨(some 48), some undefA, none, true, .pu (.mov (.s 9))⟩,
         ⟨(some 49), some undefA, none, true, .pu (.idx 1 (.s 47) (.s 48))⟩,
         ⟨(some 50), some undefA, none, true, .ld (.ld 1 false (.s 49))⟩,
         ⟨(some 51), some undefA, none, false, .pu (.idx 1 (.s 37) (.s 38))⟩,
         ⟨none, some undefA, none, false, .ha (.st 1 (.s 51) (.s 46))⟩,
         ⟨(some 52), some undefA, none, false, .pu (.idx 1 (.s 39) (.s 41))⟩,
         ⟨none, some undefA, none, false, .ha (.st 1 (.s 52) (.s 50))⟩]))
      (.ops [⟨(some 35), some undefA, none, false, .pu (.mov (.s 9))⟩,
        ⟨(some 36), some undefA, none, false, .pu (.bin .sub (.s 35) (.c (.int .i64 1)))⟩,
        ⟨(some 9), some undefA, none, false, .pu (.mov (.s 36))⟩])))))))
   (.ops [⟨(some 15), some undefA, none, false, .pu (.mov (.s 8))⟩,
     ⟨(some 16), some undefA, none, false, .pu (.bin .add (.s 15) (.c (.int .i64 1)))⟩,
     ⟨(some 8), some undefA, none, false, .pu (.mov (.s 16))⟩])))))⟩
theorem t112 : trF Try.prog [] [] Try.f112 = some m112 := by kernel_rfl
/-- slices.insertionSortOrdered[int] [loop [0, 1, 2, 6], loop [0, 1, 2, 6, 7]] -/
def m114 : MFun := ⟨49, [], [],
 .seq (.ops [⟨(some 8), some undefA, none, false, .pu (.mov (.s 1))⟩,
   ⟨(some 9), some undefA, none, false, .pu (.bin .add (.s 8) (.c (.int .i64 1)))⟩,
   ⟨(some 6), some undefA, none, false, .pu (.mov (.s 9))⟩])
 (.block 0 (.loop (.seq (.seq (.ops [⟨(some 10), some undefA, none, false, .pu (.mov (.s 6))⟩,
     ⟨(some 11), some undefA, none, false, .pu (.mov (.s 2))⟩,
     ⟨(some 12), some undefA, none, false, .pu (.bin .lss (.s 10) (.s 11))⟩])
   (.cond (.s 12) (.skip)
   (.exit 0)))
   (.seq (.block 1 (.seq (.ops [⟨(some 15), some undefA, none, false, .pu (.mov (.s 6))⟩,
      ⟨(some 7), some undefA, none, false, .pu (.mov (.s 15))⟩])
    (.block 2 (.loop (.seq (.seq (.ops [⟨(some 16), some undefA, none, false, .pu (.mov (.s 7))⟩,
        ⟨(some 17), some undefA, none, false, .pu (.mov (.s 1))⟩,
        ⟨(some 18), some undefA, none, false, .pu (.bin .gtr (.s 16) (.s 17))⟩,
        ⟨(some 19), some undefA, none, false, .pu (.mov (.s 18))⟩,
        ⟨(some 20), some undefA, (some (19, true)), true, .pu (.mov (.s 0))⟩,
        ⟨(some 21), some undefA, (some (19, true)), true, .pu (.mov (.s 7))⟩,
        ⟨(some 22), some undefA, (some (19, true)), true, .pu (.idx 1 (.s 20) (.s 21))⟩,
        ⟨(some 23), some undefA, (some (19, true)), true, .ld (.ld 1 false (.s 22))⟩,
        ⟨(some 24), some undefA, (some (19, true)), true, .pu (.mov (.s 0))⟩,
        ⟨(some 25), some undefA, (some (19, true)), true, .pu (.mov (.s 7))⟩,
        ⟨(some 26), some undefA, (some (19, true)), true, .pu (.bin .sub (.s 25) (.c (.int .i64 1)))⟩,
        ⟨(some 27), some undefA, (some (19, true)), true, .pu (.idx 1 (.s 24) (.s 26))⟩,
        ⟨(some 28), some undefA, (some (19, true)), true, .ld (.ld 1 false (.s 27))⟩,
        ⟨(some 29), some undefA, (some (19, true)), false, .call 120 [(.s 23), (.s 28)]⟩,
        ⟨(some 30), some undefA, none, false, .pu (.pick (.s 19) (.s 29) (.c (.bool false)))⟩])
      (.cond (.s 30) (.skip)
      (.exit 2)))
      (.seq (.block 3 (.ops [⟨(some 33), some undefA, none, true, .pu (.mov (.s 0))⟩,
         ⟨(some 34), some undefA, none, true, .pu (.mov (.s 7))⟩,
         ⟨(some 35), some undefA, none, true, .pu (.mov (.s 0))⟩,
         ⟨(some 36), some undefA, none, true, .pu (.mov (.s 7))⟩,
         ⟨(some 37), some undefA, none, true, .pu (.bin .sub (.s 36) (.c (.int .i64 1)))⟩,
         ⟨(some 38), some undefA, none, true, .pu (.mov (.s 0))⟩,
         ⟨(some 39), some undefA, none, true, .pu (.mov (.s 7))⟩,
         ⟨(some 40), some undefA, none, true, .pu (.bin .sub (.s 39) (.c (.int .i64 1)))⟩,
         ⟨(some 41), some undefA, none, true, .pu (.idx 1 (.s 38) (.s 40))⟩,
         ⟨(some 42), some undefA, none, true, .ld (.ld 1 false (.s 41))⟩,
         ⟨(some 43), some undefA, none, true, .pu (.mov (.s 0))⟩,
         ⟨(some 44), some undefA, none, true, .pu (.mov (.s 7))⟩,
         ⟨(some 45), some undefA, none, true, .pu (.idx 1 (.s 43) (.s 44))⟩,
         ⟨(some 46), some undefA, none, true, .ld (.ld 1 false (.s 45))⟩,
         ⟨(some 47), some undefA, none, false, .pu (.idx 1 (.s 33) (.s 34))⟩,
         ⟨none, some undefA, none, false, .ha (.st 1 (.s 47) (.s 42))⟩,
         ⟨(some 48), some undefA, none, false, .pu (.idx 1 (.s 35) (.s 37))⟩,
         ⟨none, some undefA, none, false, .ha (.st 1 (.s 48) (.s 46))⟩]))
      (.ops [⟨(some 31), some undefA, none, false, .pu (.mov (.s 7))⟩,
        ⟨(some 32), some undefA, none, false, .pu (.bin .sub (.s 31) (.c (.int .i64 1)))⟩,
        ⟨(some 7), some undefA, none, false, .pu (.mov (.s 32))⟩])))))))
   (.ops [⟨(some 13), some undefA, none, false, .pu (.mov (.s 6))⟩,
     ⟨(some 14), some undefA, none, false, .pu (.bin .add (.s 13) (.c (.int .i64 1)))⟩,
     ⟨(some 6), some undefA, none, false, .pu (.mov (.s 14))⟩])))))⟩
theorem t114 : trF Try.prog [] [] Try.f114 = some m114 := by kernel_rfl
/-- cmp.Less[int] [] -/
def m120 : MFun := ⟨17, [], [.mov (.s 4)],
 .seq (.ops [⟨(some 4), some undefA, none, false, .pu (.mov (.c (.bool false)))⟩])
 (.seq (.ops [⟨(some 5), some undefA, none, false, .pu (.mov (.s 0))⟩,
   ⟨(some 6), some undefA, none, false, .call 131 [(.s 5)]⟩,
   ⟨(some 7), some undefA, none, false, .pu (.mov (.s 6))⟩,
   ⟨(some 8), some undefA, (some (7, true)), false, .pu (.mov (.s 1))⟩,
   ⟨(some 9), some undefA, (some (7, true)), false, .call 131 [(.s 8)]⟩,
   ⟨(some 10), some undefA, (some (7, true)), false, .pu (.not (.s 9))⟩,
   ⟨(some 11), some undefA, none, false, .pu (.pick (.s 7) (.s 10) (.c (.bool false)))⟩,
   ⟨(some 12), some undefA, none, false, .pu (.mov (.s 11))⟩,
   ⟨(some 13), some undefA, (some (12, false)), false, .pu (.mov (.s 0))⟩,
   ⟨(some 14), some undefA, (some (12, false)), false, .pu (.mov (.s 1))⟩,
   ⟨(some 15), some undefA, (some (12, false)), false, .pu (.bin .lss (.s 13) (.s 14))⟩,
   ⟨(some 16), some undefA, none, false, .pu (.pick (.s 12) (.c (.bool true)) (.s 15))⟩,
   ⟨(some 4), some undefA, none, false, .pu (.mov (.s 16))⟩])
 (.ret))⟩
theorem t120 : trF Try.prog [] [] Try.f120 = some m120 := by kernel_rfl
/-- math/bits.Len32 [] -/
def m123 : MFun := ⟨19, [], [.mov (.s 2)],
 .seq (.ops [⟨(some 2), some undefA, none, false, .pu (.mov (.c (.int .i64 0)))⟩])
 (.seq (.seq (.ops [⟨(some 3), some undefA, none, false, .pu (.mov (.s 0))⟩,
   ⟨(some 4), some undefA, none, false, .pu (.bin .geq (.s 3) (.c (.int .u32 65536)))⟩])
 (.cond (.s 4) (.seq (.ops [⟨(some 5), some undefA, none, false, .pu (.mov (.s 0))⟩,
    ⟨(some 6), some undefA, none, false, .pu (.bin .shr (.s 5) (.c (.int .u64 16)))⟩,
    ⟨(some 0), some undefA, none, false, .pu (.mov (.s 6))⟩])
  (.ops [⟨(some 2), some undefA, none, false, .pu (.mov (.c (.int .i64 16)))⟩]))
 (.skip)))
 (.seq (.seq (.ops [⟨(some 7), some undefA, none, false, .pu (.mov (.s 0))⟩,
   ⟨(some 8), some undefA, none, false, .pu (.bin .geq (.s 7) (.c (.int .u32 256)))⟩])
 (.cond (.s 8) (.seq (.ops [⟨(some 9), some undefA, none, false, .pu (.mov (.s 0))⟩,
    ⟨(some 10), some undefA, none, false, .pu (.bin .shr (.s 9) (.c (.int .u64 8)))⟩,
    ⟨(some 0), some undefA, none, false, .pu (.mov (.s 10))⟩])
  (.ops [⟨(some 11), some undefA, none, false, .pu (.mov (.s 2))⟩,
    ⟨(some 12), some undefA, none, false, .pu (.bin .add (.s 11) (.c (.int .i64 8)))⟩,
    ⟨(some 2), some undefA, none, false, .pu (.mov (.s 12))⟩]))
 (.skip)))
 (.seq (.ops [⟨(some 13), some undefA, none, false, .pu (.mov (.s 2))⟩,
   ⟨(some 14), some undefA, none, false, .pu (.mov (.s 0))⟩,
   ⟨(some 15), some undefA, none, false, .pu (.conv .u8 (.s 14))⟩,
   ⟨(some 16), some undefA, none, false, .pu (.aidx 256 1 false (.c (.agg [.int .u8 0, .int .u8 1, .int .u8 2, .int .u8 2, .int .u8 3, .int .u8 3, .int .u8 3, .int .u8 3, .int .u8 4, .int .u8 4, .int .u8 4, .int .u8 4, .int .u8 4, .int .u8 4, .int .u8 4, .int .u8 4, .int .u8 5, .int .u8 5, .int .u8 5, .int .u8 5, .int .u8 5, .int .u8 5, .int .u8 5, .int .u8 5, .int .u8 5, .int .u8 5, .int .u8 5, .int .u8 5, .int .u8 5, .int .u8 5, .int .u8 5, .int .u8 5, .int .u8 6, .int .u8 6, .int .u8 6, .int .u8 6, .int .u8 6, .int .u8 6, .int .u8 6, .int .u8 6, .int .u8 6, .int .u8 6, .int .u8 6, .int .u8 6, .int .u8 6, .int .u8 6, .int .u8 6, .int .u8 6, .int .u8 6, .int .u8 6, .int .u8 6, .int .u8 6, .int .u8 6, .int .u8 6, .int .u8 6, .int .u8 6, .int .u8 6, .int .u8 6, .int .u8 6, .int .u8 6, .int .u8 6, .int .u8 6, .int .u8 6, .int .u8 6, .int .u8 7, .int .u8 7, .int .u8 7, .int .u8 7, .int .u8 7, .int .u8 7, .int .u8 7, .int .u8 7, .int .u8 7, .int .u8 7, .int .u8 7, .int .u8 7, .int .u8 7, .int .u8 7, .int .u8 7, .int .u8 7, .int .u8 7, .int .u8 7, .int .u8 7, .int .u8 7, .int .u8 7, .int .u8 7, .int .u8 7, .int .u8 7, .int .u8 7, .int .u8 7, .int .u8 7, .int .u8 7, .int .u8 7, .int .u8 7, .int .u8 7, .int .u8 7, .int .u8 7, .int .u8 7, .int .u8 7, .int .u8 7, .int .u8 7, .int .u8 7, .int .u8 7, .int .u8 7, .int .u8 7, .int .u8 7, .int .u8 7, .int .u8 7, .int .u8 7, .int .u8 7, .int .u8 7, .int .u8 7, .int .u8 7, .int .u8 7, .int .u8 7, .int .u8 7, .int .u8 7, .int .u8 7, .int .u8 7, .int .u8 7, .int .u8 7, .int .u8 7, .int .u8 7, .int .u8 7, .int .u8 7, .int .u8 7, .int .u8 7, .int .u8 7, .int .u8 8, .int .u8 8, .int .u8 8, .int .u8 8, .int .u8 8, .int .u8 8, .int .u8 8, .int .u8 8, .int .u8 8, .int .u8 8, .int .u8 8, .int .u8 8, .int .u8 8, .int .u8 8, .int .u8 8, .int .u8 8, .int .u8 8, .int .u8 8, .int .u8 8, .int .u8 8, .int .u8 8, .int .u8 8, .int .u8 8, .int .u8 8, .int .u8 8, .int .u8 8, .int .u8 8, .int .u8 8, .int .u8 8, .int .u8 8, .int .u8 8, .int .u8 8, .int .u8 8, .int .u8 8, .int .u8 8, .int .u8 8, .int .u8 8, .int .u8 8, .int .u8 8, .int .u8 8, .int .u8 8, .int .u8 8, .int .u8 8, .int .u8 8, .int .u8 8, .int .u8 8, .int .u8 8, .int .u8 8, .int .u8 8, .int .u8 8, .int .u8 8, .int .u8 8, .int .u8 8, .int .u8 8, .int .u8 8, .int .u8 8, .int .u8 8, .int .u8 8, .int .u8 8, .int .u8 8, .int .u8 8, .int .u8 8, .int .u8 8, .int .u8 8, .int .u8 8, .int .u8 8, .int .u8 8, .int .u8 8, .int .u8 8, .int .u8 8, .int .u8 8, .int .u8 8, .int .u8 8, .int .u8 8, .int .u8 8, .int .u8 8, .int .u8 8, .int .u8 8, .int .u8 8, .int .u8 8, .int .u8 8, .int .u8 8, .int .u8 8, .int .u8 8, .int .u8 8, .int .u8 8, .int .u8 8, .int .u8 8, .int .u8 8, .int .u8 8, .int .u8 8, .int .u8 8, .int .u8 8, .int .u8 8, .int .u8 8, .int .u8 8, .int .u8 8, .int .u8 8, .int .u8 8, .int .u8 8, .int .u8 8, .int .u8 8, .int .u8 8, .int .u8 8, .int .u8 8, .int .u8 8, .int .u8 8, .int .u8 8, .int .u8 8, .int .u8 8, .int .u8 8, .int .u8 8, .int .u8 8, .int .u8 8, .int .u8 8, .int .u8 8, .int .u8 8, .int .u8 8, .int .u8 8, .int .u8 8, .int .u8 8, .int .u8 8, .int .u8 8, .int .u8 8, .int .u8 8, .int .u8 8, .int .u8 8, .int .u8 8])) (.s 15))⟩,
   ⟨(some 17), some undefA, none, false, .pu (.conv .i64 (.s 16))⟩,
   ⟨(some 18), some undefA, none, false, .pu (.bin .add (.s 13) (.s 17))⟩,
   ⟨(some 2), some undefA, none, false, .pu (.mov (.s 18))⟩])
 (.ret))))⟩
theorem t123 : trF Try.prog [] [] Try.f123 = some m123 := by kernel_rfl
/-- math/bits.Len64 [] -/
def m124 : MFun := ⟨25, [], [.mov (.s 2)],
 .seq (.ops [⟨(some 2), some undefA, none, false, .pu (.mov (.c (.int .i64 0)))⟩])
 (.seq (.seq (.ops [⟨(some 3), some undefA, none, false, .pu (.mov (.s 0))⟩,
   ⟨(some 4), some undefA, none, false, .pu (.bin .geq (.s 3) (.c (.int .u64 4294967296)))⟩])
 (.cond (.s 4) (.seq (.ops [⟨(some 5), some undefA, none, false, .pu (.mov (.s 0))⟩,
    ⟨(some 6), some undefA, none, false, .pu (.bin .shr (.s 5) (.c (.int .u64 32)))⟩,
    ⟨(some 0), some undefA, none, false, .pu (.mov (.s 6))⟩])
  (.ops [⟨(some 2), some undefA, none, false, .pu (.mov (.c (.int .i64 32)))⟩]))
 (.skip)))
 (.seq (.seq (.ops [⟨(some 7), some undefA, none, false, .pu (.mov (.s 0))⟩,
   ⟨(some 8), some undefA, none, false, .pu (.bin .geq (.s 7) (.c (.int .u64 65536)))⟩])
 (.cond (.s 8) (.seq (.ops [⟨(some 9), some undefA, none, false, .pu (.mov (.s 0))⟩,
    ⟨(some 10), some undefA, none, false, .pu (.bin .shr (.s 9) (.c (.int .u64 16)))⟩,
    ⟨(some 0), some undefA, none, false, .pu (.mov (.s 10))⟩])
  (.ops [⟨(some 11), some undefA, none, false, .pu (.mov (.s 2))⟩,
    ⟨(some 12), some undefA, none, false, .pu (.bin .add (.s 11) (.c (.int .i64 16)))⟩,
    ⟨(some 2), some undefA, none, false, .pu (.mov (.s 12))⟩]))
 (.skip)))
 (.seq (.seq (.ops [⟨(some 13), some undefA, none, false, .pu (.mov (.s 0))⟩,
   ⟨(some 14), some undefA, none, false, .pu (.bin .geq (.s 13) (.c (.int .u64 256)))⟩])
 (.cond (.s 14) (.seq (.ops [⟨(some 15), some undefA, none, false, .pu (.mov (.s 0))⟩,
    ⟨(some 16), some undefA, none, false, .pu (.bin .shr (.s 15) (.c (.int .u64 8)))⟩,
    ⟨(some 0), some undefA, none, false, .pu (.mov (.s 16))⟩])
  (.ops [⟨(some 17), some undefA, none, false, .pu (.mov (.s 2))⟩,
    ⟨(some 18), some undefA, none, false, .pu (.bin .add (.s 17) (.c (.int .i64 8)))⟩,
    ⟨(some 2), some undefA, none, false, .pu (.mov (.s 18))⟩]))
 (.skip)))
 (.seq (.ops [⟨(some 19), some undefA, none, false, .pu (.mov (.s 2))⟩,
   ⟨(some 20), some undefA, none, false, .pu (.mov (.s 0))⟩,
   ⟨(some 21), some undefA, none, false, .pu (.conv .u8 (.s 20))⟩,
   ⟨(some 22), some undefA, none, false, .pu (.aidx 256 1 false (.c (.agg [.int .u8 0, .int .u8 1, .int .u8 2, .int .u8 2, .int .u8 3, .int .u8 3, .int .u8 3, .int .u8 3, .int .u8 4, .int .u8 4, .int .u8 4, .int .u8 4, .int .u8 4, .int .u8 4, .int .u8 4, .int .u8 4, .int .u8 5, .int .u8 5, .int .u8 5, .int .u8 5, .int .u8 5, .int .u8 5, .int .u8 5, .int .u8 5, .int .u8 5, .int .u8 5, .int .u8 5, .int .u8 5, .int .u8 5, .int .u8 5, .int .u8 5, .int .u8 5, .int .u8 6, .int .u8 6, .int .u8 6, .int .u8 6, .int .u8 6, .int .u8 6, .int .u8 6, .int .u8 6, .int .u8 6, .int .u8 6, .int .u8 6, .int .u8 6, .int .u8 6, .int .u8 6, .int .u8 6, .int .u8 6, .int .u8 6, .int .u8 6, .int .u8 6, .int .u8 6, .int .u8 6, .int .u8 6, .int .u8 6, .int .u8 6, .int .u8 6, .int .u8 6, .int .u8 6, .int .u8 6, .int .u8 6, .int .u8 6, .int .u8 6, .int .u8 6, .int .u8 7, .int .u8 7, .int .u8 7, .int .u8 7, .int .u8 7, .int .u8 7, .int .u8 7, .int .u8 7, .int .u8 7, .int .u8 7, .int .u8 7, .int .u8 7, .int .u8 7, .int .u8 7, .int .u8 7, .int .u8 7, .int .u8 7, .int .u8 7, .int .u8 7, .int .u8 7, .int .u8 7, .int .u8 7, .int .u8 7, .int .u8 7, .int .u8 7, .int .u8 7, .int .u8 7, .int .u8 7, .int .u8 7, .int .u8 7, .int .u8 7, .int .u8 7, .int .u8 7, .int .u8 7, .int .u8 7, .int .u8 7, .int .u8 7, .int .u8 7, .int .u8 7, .int .u8 7, .int .u8 7, .int .u8 7, .int .u8 7, .int .u8 7, .int .u8 7, .int .u8 7, .int .u8 7, .int .u8 7, .int .u8 7, .int .u8 7, .int .u8 7, .int .u8 7, .int .u8 7, .int .u8 7, .int .u8 7, .int .u8 7, .int .u8 7, .int .u8 7, .int .u8 7, .int .u8 7, .int .u8 7, .int .u8 7, .int .u8 7, .int .u8 7, .int .u8 8, .int .u8 8, .int .u8 8, .int .u8 8, .int .u8 8, .int .u8 8, .int .u8 8, .int .u8 8, .int .u8 8, .int .u8 8, .int .u8 8, .int .u8 8, .int .u8 8, .int .u8 8, .int .u8 8, .int .u8 8, .int .u8 8, .int .u8 8, .int .u8 8, .int .u8 8, .int .u8 8, .int .u8 8, .int .u8 8, .int .u8 8, .int .u8 8, .int .u8 8, .int .u8 8, .int .u8 8, .int .u8 8, .int .u8 8, .int .u8 8, .int .u8 8, .int .u8 8, .int .u8 8, .int .u8 8, .int .u8 8, .int .u8 8, .int .u8 8, .int .u8 8, .int .u8 8, .int .u8 8, .int .u8 8, .int .u8 8, .int .u8 8, .int .u8 8, .int .u8 8, .int .u8 8, .int .u8 8, .int .u8 8, .int .u8 8, .int .u8 8, .int .u8 8, .int .u8 8, .int .u8 8, .int .u8 8, .int .u8 8, .int .u8 8, .int .u8 8, .int .u8 8, .int .u8 8, .int .u8 8, .int .u8 8, .int .u8 8, .int .u8 8, .int .u8 8, .int .u8 8, .int .u8 8, .int .u8 8, .int .u8 8, .int .u8 8, .int .u8 8, .int .u8 8, .int .u8 8, .int .u8 8, .int .u8 8, .int .u8 8, .int .u8 8, .int .u8 8, .int .u8 8, .int .u8 8, .int .u8 8, .int .u8 8, .int .u8 8, .int .u8 8, .int .u8 8, .int .u8 8, .int .u8 8, .int .u8 8, .int .u8 8, .int .u8 8, .int .u8 8, .int .u8 8, .int .u8 8, .int .u8 8, .int .u8 8, .int .u8 8, .int .u8 8, .int .u8 8, .int .u8 8, .int .u8 8, .int .u8 8, .int .u8 8, .int .u8 8, .int .u8 8, .int .u8 8, .int .u8 8, .int .u8 8, .int .u8 8, .int .u8 8, .int .u8 8, .int .u8 8, .int .u8 8, .int .u8 8, .int .u8 8, .int .u8 8, .int .u8 8, .int .u8 8, .int .u8 8, .int .u8 8, .int .u8 8, .int .u8 8, .int .u8 8, .int .u8 8, .int .u8 8, .int .u8 8, .int .u8 8, .int .u8 8, .int .u8 8])) (.s 21))⟩,
   ⟨(some 23), some undefA, none, false, .pu (.conv .i64 (.s 22))⟩,
   ⟨(some 24), some undefA, none, false, .pu (.bin .add (.s 19) (.s 23))⟩,
   ⟨(some 2), some undefA, none, false, .pu (.mov (.s 24))⟩])
 (.ret)))))⟩
theorem t124 : trF Try.prog [] [] Try.f124 = some m124 := by kernel_rfl
/-- cmp.isNaN[int] [] -/
def m131 : MFun := ⟨6, [], [.mov (.s 2)],
 .seq (.ops [⟨(some 2), some undefA, none, false, .pu (.mov (.c (.bool false)))⟩])
 (.seq (.ops [⟨(some 3), some undefA, none, false, .pu (.mov (.s 0))⟩,
   ⟨(some 4), some undefA, none, false, .pu (.mov (.s 0))⟩,
   ⟨(some 5), some undefA, none, false, .pu (.bin .neq (.s 3) (.s 4))⟩,
   ⟨(some 2), some undefA, none, false, .pu (.mov (.s 5))⟩])
 (.ret))⟩
theorem t131 : trF Try.prog [] [] Try.f131 = some m131 := by kernel_rfl
/-- selion/selionlaw04.Long [] -/
def m17 : MFun := ⟨7, [1], [.mov (.s 2)],
 .seq (.ops [⟨(some 1), some (.junk), none, false, .pu (.bnew (.s 0))⟩,
   ⟨(some 2), some undefA, none, false, .pu (.mov (.c (.bool false)))⟩])
 (.seq (.ops [⟨(some 3), some undefA, none, false, .pu (.badr none 1)⟩,
   ⟨(some 4), some undefA, none, false, .pu (.bget (some 3) 1 1 1 false)⟩,
   ⟨(some 5), some undefA, none, false, .pu (.len (.s 4))⟩,
   ⟨(some 6), some undefA, none, false, .pu (.bin .gtr (.s 5) (.c (.int .i64 100)))⟩,
   ⟨(some 2), some undefA, none, false, .pu (.mov (.s 6))⟩])
 (.ret))⟩
theorem t17 : trF Try.prog [1] [] Try.f17 = some m17 := by kernel_rfl
end Go.Proofs.Ytkgfcdpckfhknaa

namespace Go.Proofs.Ytkgfcdpckfhknaa
open Go Go.Eng
theorem hmix : Try.prog.follows .mixedOrders = true := by kernel_rfl
def tab : List (Nat × MFun) := [(18, m18), (19, m19), (25, m25), (28, m28), (43, m43), (56, m56), (57, m57), (58, m58), (59, m59), (60, m60), (61, m61), (62, m62), (63, m63), (72, m72), (74, m74), (76, m76), (95, m95), (96, m96), (97, m97), (98, m98), (99, m99), (100, m100), (101, m101), (102, m102), (103, m103), (108, m108), (109, m109), (110, m110), (111, m111), (112, m112), (114, m114), (120, m120), (123, m123), (124, m124), (131, m131)]
theorem tabOK : TabOK Try.prog tab :=
  .cons Try.func18 (by kernel_rfl) t18 <| .cons Try.func19 (by kernel_rfl) t19 <| .cons Try.func25 (by kernel_rfl) t25 <| .cons Try.func28 (by kernel_rfl) t28 <| .cons Try.func43 (by kernel_rfl) t43 <| .cons Try.func56 (by kernel_rfl) t56 <| .cons Try.func57 (by kernel_rfl) t57 <| .cons Try.func58 (by kernel_rfl) t58 <| .cons Try.func59 (by kernel_rfl) t59 <| .cons Try.func60 (by kernel_rfl) t60 <| .cons Try.func61 (by kernel_rfl) t61 <| .cons Try.func62 (by kernel_rfl) t62 <| .cons Try.func63 (by kernel_rfl) t63 <| .cons Try.func72 (by kernel_rfl) t72 <| .cons Try.func74 (by kernel_rfl) t74 <| .cons Try.func76 (by kernel_rfl) t76 <| .cons Try.func95 (by kernel_rfl) t95 <| .cons Try.func96 (by kernel_rfl) t96 <| .cons Try.func97 (by kernel_rfl) t97 <| .cons Try.func98 (by kernel_rfl) t98 <| .cons Try.func99 (by kernel_rfl) t99 <| .cons Try.func100 (by kernel_rfl) t100 <| .cons Try.func101 (by kernel_rfl) t101 <| .cons Try.func102 (by kernel_rfl) t102 <| .cons Try.func103 (by kernel_rfl) t103 <| .cons Try.func108 (by kernel_rfl) t108 <| .cons Try.func109 (by kernel_rfl) t109 <| .cons Try.func110 (by kernel_rfl) t110 <| .cons Try.func111 (by kernel_rfl) t111 <| .cons Try.func112 (by kernel_rfl) t112 <| .cons Try.func114 (by kernel_rfl) t114 <| .cons Try.func120 (by kernel_rfl) t120 <| .cons Try.func123 (by kernel_rfl) t123 <| .cons Try.func124 (by kernel_rfl) t124 <| .cons Try.func131 (by kernel_rfl) t131 <| .nil
def isTrue : Option (AV × AHeap) → Bool
  | some (.bool true, _) => true
  | _ => false
set_option maxRecDepth 100000 in
theorem known_run : isTrue (runF tab 300 14 18 [] []) = true := by kernel_rfl
theorem known (A : AHeap) : ACalls Try.prog 18 [] A (B true) A := by
  cases h : runF tab 300 14 18 [] [] with
  | none => have := known_run; rw [h] at this; cases this
  | some p =>
    obtain ⟨v, A'⟩ := p
    have h1 := known_run
    rw [h] at h1
    have h2 : v = B true := by
      unfold isTrue at h1
      split at h1
      · rename_i e; cases e; rfl
      · cases h1
    subst h2
    exact (runF_ok hmix tabOK 300 14 18 [] [] _ _ h).lift (by simp) rfl A
end Go.Proofs.Ytkgfcdpckfhknaa

namespace Go.Proofs.Ytkgfcdpckfhknaa
open Go Go.Eng
theorem ld_mono {A A' : AHeap} (hp : A <+: A') {sz : Nat} {ag : Bool} {p x : AV} (h : ldA sz ag p A = some x) : ldA sz ag p A' = some x := by
  unfold ldA at *
  split at h
  · rename_i n off
    split at h
    · rename_i rw l hn
      simp only [pre_get hp hn]
      exact h
    · cases h
  · cases h
theorem get_new (A : AHeap) (o : AObj) : (A ++ [o])[A.length]? = some o := by simp
theorem AccL_ls {α : Type} {es : Nat} {e : α → List AV} {H H1 : AHeap} {v : AV} {xs : List α} (h : AccL es e H H1 v xs) (he : ∀ x, (e x).length = es) : Ls es e H1 v xs := by
  obtain ⟨h1, h2, h3⟩ := h
  refine ⟨he, ?_⟩
  rcases h3 with ⟨h4, rfl⟩ | ⟨h0, n, rfl, h5, h6⟩
  · have : xs = [] := List.eq_nil_of_length_eq_zero h4
    subst this; rfl
  · simp only [slCells, cellsAt, h6, if_true, Nat.zero_add]
    rw [if_pos (by omega)]
    simp only [List.drop_zero, Option.map_some, Option.some.injEq, Prod.mk.injEq, true_and]
    rw [← h2, List.take_length]
theorem cells_agg (l : List AV) : (AV.agg l).cells? = some l := rfl
theorem cells_int (k : IntKind) (n : Int) : (AV.int k n).cells? = some [.int k n] := rfl
theorem cells_sl (a b c d : Nat) (e : Bool) : (AV.sl a b c d e).cells? = some [.sl a b c d e] := rfl
theorem cells_nilS : AV.nilS.cells? = some [.nilS] := rfl
/-- A store. -/
def stA (sz : Nat) (p x : AV) (H : AHeap) : Option AHeap :=
  match p, x.cells? with
  | .ptr n off, some c => match H[n]? with
    | some (.cells true l) => if c.length = sz ∧ off + sz ≤ l.length then some (H.set n (.cells true (splice l off c))) else none
    | _ => none
  | _, _ => none
theorem hval_st (sz : Nat) (p x : Opd) (S : List AV) (H : AHeap) : hval (.st sz p x) S H = (stA sz (rd S p) (rd S x) H).map (fun H' => (undefA, H')) := by
  simp only [hval, stA]
  cases rd S p with
  | ptr n off =>
    cases (rd S x).cells? with
    | none => rfl
    | some c =>
      simp only
      cases H[n]? with
      | none => rfl
      | some o =>
        cases o with
        | cells rw l =>
          cases rw
          · rfl
          · simp only
            split <;> rfl
        | _ => rfl
  | _ => rfl
theorem hval_newv (x : Opd) (S : List AV) (H : AHeap) : hval (.newv x) S H = match (rd S x).cells? with | some c => some (.ptr H.length 0, H ++ [.cells true c]) | none => none := rfl
theorem hval_blds (es n : Nat) (zero : List AV) (parts : List (Nat × Nat × Opd)) (S : List AV) (H : AHeap) : hval (.blds es n zero parts) S H = match fillA (parts.map fun p => (p.1, p.2.1, rd S p.2.2)) (repl zero n) with | some l => some (.sl es H.length 0 n true, H ++ [.cells true l]) | none => none := rfl
theorem hval_app (es : Nat) (x y : Opd) (S : List AV) (H : AHeap) : hval (.app es x y) S H = appA es H (rd S x) (rd S y) := rfl
theorem splice_flat {α : Type} {es : Nat} {e : α → List AV} (he : ∀ x, (e x).length = es) {xs : List α} {i : Nat} (hi : i < xs.length) (z : α) : splice (xs.flatMap e) (i * es) (e z) = (xs.set i z).flatMap e := by
  unfold splice
  have h1 := flatMap_length he (xs.take i)
  rw [List.length_take, Nat.min_eq_left (by omega)] at h1
  have h2 := flatMap_length he (xs.take (i + 1))
  rw [List.length_take, Nat.min_eq_left (by omega)] at h2
  have e1 : (xs.flatMap e).take (i * es) = (xs.take i).flatMap e := by
    conv => lhs; rw [← List.take_append_drop i xs, List.flatMap_append]
    rw [← h1, List.take_left]
  have e2 : (xs.flatMap e).drop (i * es + (e z).length) = (xs.drop (i + 1)).flatMap e := by
    conv => lhs; rw [← List.take_append_drop (i + 1) xs, List.flatMap_append]
    rw [he z, ← Nat.succ_mul, Nat.succ_eq_add_one, ← h2, List.drop_left]
  rw [e1, e2, List.set_eq_take_append_cons_drop, if_pos hi, List.flatMap_append, List.flatMap_cons, List.append_assoc]
/-- A list that the call itself has made and may write. -/
structure OL {α : Type} (es : Nat) (e : α → List AV) (A H : AHeap) (n : Nat) (v : AV) (xs : List α) : Prop where
  he : ∀ x, (e x).length = es
  pre : A <+: H
  new : A.length ≤ n
  ob : H[n]? = some (.cells true (xs.flatMap e))
  v : ∃ full, v = .sl es n 0 xs.length full
section
variable {α : Type} {es : Nat} {e : α → List AV} {A H : AHeap} {n : Nat} {v : AV} {xs : List α}
theorem OL.ls (h : OL es e A H n v xs) : Ls es e H v xs := by
  obtain ⟨he, h1, h2, h3, full, rfl⟩ := h
  refine ⟨he, ?_⟩
  have hl := flatMap_length he xs
  simp only [slCells, cellsAt, h3, if_true, Nat.zero_add]
  rw [if_pos (by omega)]
  simp only [List.drop_zero, Option.map_some, Option.some.injEq, Prod.mk.injEq, true_and]
  rw [← hl, List.take_length]
theorem OL.lt (h : OL es e A H n v xs) : n < H.length := (List.getElem?_eq_some_iff.1 h.ob).1
theorem OL.set (h : OL es e A H n v xs) (i : Nat) (z : α) : OL es e A (H.set n (.cells true ((xs.set i z).flatMap e))) n v (xs.set i z) := by
  have hn := h.lt
  obtain ⟨he, h1, h2, h3, full, rfl⟩ := h
  exact ⟨he, pre_set h1 h2 _, h2, by rw [List.getElem?_set_self hn], full, by simp⟩
theorem OL.st (h : OL es e A H n v xs) {i : Nat} (hi : i < xs.length) (x : AV) (z : α) (hx : x.cells? = some (e z)) : stA es (.ptr (nm v) (of v + i * es)) x H = some (H.set n (.cells true ((xs.set i z).flatMap e))) := by
  obtain ⟨he, h1, h2, h3, full, rfl⟩ := h
  have hl := flatMap_length he xs
  have hle : i * es + es ≤ xs.length * es := by
    rw [← Nat.succ_mul]; exact Nat.mul_le_mul_right _ hi
  simp only [stA, nm, of, hx, h3, Nat.zero_add]
  rw [if_pos ⟨he z, by omega⟩, splice_flat he hi z]
theorem OL.mono {H' : AHeap} (h : OL es e A H n v xs) (hp : H <+: H') : OL es e A H' n v xs := ⟨h.he, h.pre.trans hp, h.new, pre_get hp h.ob, h.v⟩
theorem OL.new_mk (he : ∀ x, (e x).length = es) (A : AHeap) (xs : List α) (full : Bool) : OL es e A (A ++ [.cells true (xs.flatMap e)]) A.length (.sl es A.length 0 xs.length full) xs :=
  ⟨he, pre_app _ _, Nat.le_refl _, by simp, full, rfl⟩
theorem OL.acc (h : OL es e A H n v xs) (h0 : 0 < xs.length) : AccL es e A H (.sl es n 0 xs.length false) xs :=
  ⟨h.pre, flatMap_length h.he xs, .inr ⟨h0, n, rfl, h.new, h.ob⟩⟩
end
theorem flat_take {α : Type} {es : Nat} {e : α → List AV} (he : ∀ x, (e x).length = es) (xs : List α) (m : Nat) (hm : m ≤ xs.length) : (xs.flatMap e).take (m * es) = (xs.take m).flatMap e := by
  have h1 := flatMap_length he (xs.take m)
  rw [List.length_take, Nat.min_eq_left hm] at h1
  conv => lhs; rw [← List.take_append_drop m xs, List.flatMap_append]
  rw [← h1, List.take_left]
theorem OL_setAll {α : Type} {es : Nat} {e : α → List AV} {A H : AHeap} {n : Nat} {v : AV} {xs : List α} (h : OL es e A H n v xs) (xs' : List α) (hl : xs'.length = xs.length) : OL es e A (H.set n (.cells true (xs'.flatMap e))) n v xs' := by
  have hn := h.lt
  obtain ⟨he, h1, h2, h3, full, rfl⟩ := h
  exact ⟨he, pre_set h1 h2 _, h2, by rw [List.getElem?_set_self hn], full, by rw [hl]⟩
end Go.Proofs.Ytkgfcdpckfhknaa

namespace Go.Proofs.Ytkgfcdpckfhknaa
open Go Go.Eng
/-- A number that a machine word holds. -/
abbrev W (a : Int) : Prop := -9223372036854775808 ≤ a ∧ a ≤ 9223372036854775807
/-- The first element's place, or -1. -/
def fpos (g : Int → Bool) (xs : List Int) : Int := match xs.findIdx? g with | some i => i | none => -1
theorem fpos_some {g : Int → Bool} {xs : List Int} {i : Nat} {z : Int} (h : ∀ y ∈ xs.take i, g y = false) (hz : xs[i]? = some z) (hg : g z = true) : fpos g xs = i := by
  have hi : i < xs.length := (List.getElem?_eq_some_iff.1 hz).1
  have he : xs[i] = z := (List.getElem?_eq_some_iff.1 hz).2
  have : xs.findIdx? g = some i := by
    rw [List.findIdx?_eq_some_iff_getElem]
    refine ⟨hi, by rw [he]; exact hg, fun j hj => ?_⟩
    have : xs[j]'(by omega) ∈ xs.take i := by
      rw [List.mem_take_iff_getElem]
      exact ⟨j, by omega, rfl⟩
    simp [h _ this]
  unfold fpos
  rw [this]
theorem fpos_none {g : Int → Bool} {xs : List Int} (h : ∀ y ∈ xs, g y = false) : fpos g xs = -1 := by
  have : xs.findIdx? g = none := by
    rw [List.findIdx?_eq_none_iff]
    exact h
  unfold fpos
  rw [this]
theorem fpos_iff (g : Int → Bool) (xs : List Int) : 0 ≤ fpos g xs ↔ xs.any g = true := by
  unfold fpos
  cases h : xs.findIdx? g with
  | some i =>
    rw [List.findIdx?_eq_some_iff_getElem] at h
    obtain ⟨hi, hg, _⟩ := h
    simp only [Int.natCast_nonneg, true_iff, List.any_eq_true]
    exact ⟨_, List.getElem_mem hi, hg⟩
  | none =>
    rw [List.findIdx?_eq_none_iff] at h
    constructor
    · intro h1; simp at h1
    · intro h1
      rw [List.any_eq_true] at h1
      obtain ⟨x, hx, hg⟩ := h1
      rw [h x hx] at hg; cases hg
theorem take_false {g : Int → Bool} {xs : List Int} {i : Nat} {z : Int} (h : ∀ y ∈ xs.take i, g y = false) (hz : xs[i]? = some z) (hg : g z = false) : ∀ y ∈ xs.take (i + 1), g y = false := by
  intro y hy
  rw [List.take_add_one, hz] at hy
  rcases List.mem_append.1 hy with hy | hy
  · exact h y hy
  · have : y = z := by simpa using hy
    rw [this]; exact hg
theorem c_Index {xs : List Int} {v : AV} {A : AHeap} (hx : L1 A v xs) (hl : xs.length ≤ 1000000) (p : Int) : ACalls Try.prog 105 [v, I p] A (I (fpos (fun y => decide (p = y)) xs)) A := by
  refine acalls hmix Try.func105 (by kernel_rfl) t105 2 rfl (by decide) ?_
  dsimp only [m105]
  simp (maxSteps := 4000000) -implicitDefEqProofs -dsimp (disch := omega) only [↓AW_ops, ↓AW_seq, ↓AW_block, ↓AOps_nil, ↓AOps_pu, on_some, ↓then_normal, pval, rd_S, rd_C, put_S, ↓AW_toLoop, List.replicate_succ, List.replicate_zero, List.set_cons_zero, List.set_cons_succ, List.getElem?_cons_zero, List.getElem?_cons_succ, Option.getD_some, Nat.reduceSub, List.cons_append, List.nil_append, hx.len]
  refine LoopK.by 19 (fun i : Nat => i ≤ xs.length ∧ ∀ y ∈ xs.take i, decide (p = y) = false) (fun i => [(0, v), (1, I p), (7, I xs.length), (8, I i)]) (fun _ => A) (fun i => xs.length - i) 0 ⟨by omega, by simp⟩ rfl (by simp [Has, rd_s]) rfl ?_
  rintro i ⟨hi, he⟩
  by_cases hlt : i < xs.length
  · obtain ⟨z, hz⟩ : ∃ z, xs[i]? = some z := ⟨_, List.getElem?_eq_getElem hlt⟩
    have hlt' : (i : Int) < xs.length := by omega
    by_cases h : p = z
    · simp (maxSteps := 4000000) -implicitDefEqProofs -dsimp (disch := omega) only [↓AW_skip, ↓AW_ops, ↓AW_seq, ↓AW_cond, ↓AW_block, ↓AW_ret, ↓AOps_nil, ↓AOps_pu, ↓AOps_ld, on_some, condB_t, ↓then_normal, ↓then_ret, ↓inBlock_ret, ↓Fin_ret, pval, lval, rd_S, put_S, resV, resL, partA, eq_self, mk, List.foldl_cons, List.foldl_nil, List.replicate_succ, List.replicate_zero, List.set_cons_zero, List.set_cons_succ, List.getElem?_cons_zero, List.getElem?_cons_succ, List.drop_zero, List.take_succ_cons, List.take_nil, Option.getD_some, List.length_cons, List.length_nil, Nat.reduceLeDiff, Nat.zero_add, bin_eql, bin_lss, if_true, if_false, Bool.false_eq_true, decide_true, Go.Eng.e1, hlt', hx.idx hlt, hx.ld0 hz 1 false (by decide), h]
      exact gc_same (by rw [← h, fpos_some he hz (by simp [h])])
    · simp (maxSteps := 4000000) -implicitDefEqProofs -dsimp (disch := omega) only [↓AW_skip, ↓AW_ops, ↓AW_seq, ↓AW_cond, ↓AW_block, ↓AOps_nil, ↓AOps_pu, ↓AOps_ld, on_some, condB_t, condB_f, ↓then_normal, ↓inBlock_normal, pval, lval, rd_S, rd_C, put_S, partA, eq_self, mk, List.foldl_cons, List.foldl_nil, List.replicate_succ, List.replicate_zero, List.set_cons_zero, List.set_cons_succ, List.getElem?_cons_zero, List.getElem?_cons_succ, List.drop_zero, List.take_succ_cons, List.take_nil, Option.getD_some, List.length_cons, List.length_nil, Nat.reduceAdd, Nat.reduceLeDiff, Nat.zero_add, bin_add, bin_eql, bin_lss, w64, if_true, if_false, Bool.false_eq_true, decide_true, decide_false, decide_eq_false_iff_not, Go.Eng.e1, true_and, hlt', hx.idx hlt, hx.ld0 hz 1 false (by decide), h]
      exact ⟨i + 1, ⟨hlt, by simpa using take_false he hz (by simp [h])⟩, by simp [Has, rd_s], by omega⟩
  · have hlt' : ¬ ((i : Int) < xs.length) := by omega
    simp (maxSteps := 4000000) -implicitDefEqProofs -dsimp (disch := omega) only [↓AW_ops, ↓AW_seq, ↓AW_cond, ↓AW_exit, ↓AW_ret, ↓AOps_nil, ↓AOps_pu, on_some, condB_f, ↓then_normal, ↓then_exit, ↓inBlock_exit, ↓Fin_ret, pval, rd_S, rd_C, put_S, resV, resL, eq_self, mk, List.foldl_cons, List.foldl_nil, List.replicate_succ, List.replicate_zero, List.set_cons_zero, List.set_cons_succ, List.getElem?_cons_zero, List.getElem?_cons_succ, Option.getD_some, bin_lss, if_true, decide_false, Int.reduceNeg, hlt']
    rw [List.take_of_length_le (by omega)] at he
    exact gc_same (by rw [fpos_none he])
theorem c_Contains {xs : List Int} {v : AV} {A : AHeap} (hx : L1 A v xs) (hl : xs.length ≤ 1000000) (p : Int) : ACalls Try.prog 84 [v, I p] A (B (decide (p ∈ xs))) A := by
  refine acalls hmix Try.func84 (by kernel_rfl) t84 2 rfl (by decide) ?_
  dsimp only [m84]
  simp (maxSteps := 4000000) -implicitDefEqProofs -dsimp (disch := omega) only [↓AW_ops, ↓AW_seq, ↓AOps_nil, ↓AOps_pu, ↓AOps_call, on_some, ↓then_normal, pval, rd_S, rd_C, put_S, List.replicate_succ, List.replicate_zero, List.set_cons_zero, List.set_cons_succ, List.getElem?_cons_zero, List.getElem?_cons_succ, Option.getD_some, map_c, map_n, Nat.reduceSub, List.cons_append, List.nil_append]
  refine CallK.of (c_Index hx hl p) ?_
  simp (maxSteps := 4000000) -implicitDefEqProofs -dsimp (disch := omega) only [↓AW_ret, ↓AOps_nil, ↓AOps_pu, on_some, extK_same, ↓then_normal, ↓Fin_ret, pval, rd_S, rd_C, put_S, resV, resL, List.replicate_succ, List.replicate_zero, List.set_cons_zero, List.set_cons_succ, List.getElem?_cons_zero, List.getElem?_cons_succ, Option.getD_some, Nat.reduceSub, List.cons_append, List.nil_append, bin_geq]
  refine gc_same ?_
  congr 1
  rw [decide_eq_decide, fpos_iff]
  simp
theorem c_IndexFunc {xs : List Int} {v : AV} {A : AHeap} (hx : L1 A v xs) (hl : xs.length ≤ 1000000) (f : FuncId) (cap : List AV) (g : Int → Bool) (hg : ∀ x ∈ xs, ACalls Try.prog f ([I x] ++ cap) A (B (g x)) A) : ACalls Try.prog 108 [v, .fn f cap] A (I (fpos g xs)) A := by
  refine acalls hmix Try.func108 (by kernel_rfl) t108 2 rfl (by decide) ?_
  dsimp only [m108]
  simp (maxSteps := 4000000) -implicitDefEqProofs -dsimp (disch := omega) only [↓AW_ops, ↓AW_seq, ↓AW_block, ↓AOps_nil, ↓AOps_pu, on_some, ↓then_normal, pval, rd_S, rd_C, put_S, ↓AW_toLoop, List.replicate_succ, List.replicate_zero, List.set_cons_zero, List.set_cons_succ, List.getElem?_cons_zero, List.getElem?_cons_succ, Option.getD_some, Nat.reduceSub, List.cons_append, List.nil_append, hx.len]
  refine LoopK.by 19 (fun i : Nat => i ≤ xs.length ∧ ∀ y ∈ xs.take i, g y = false) (fun i => [(0, v), (1, .fn f cap), (7, I xs.length), (8, I i)]) (fun _ => A) (fun i => xs.length - i) 0 ⟨by omega, by simp⟩ rfl (by simp [Has, rd_s]) rfl ?_
  rintro i ⟨hi, he⟩
  by_cases hlt : i < xs.length
  · obtain ⟨z, hz⟩ : ∃ z, xs[i]? = some z := ⟨_, List.getElem?_eq_getElem hlt⟩
    have hlt' : (i : Int) < xs.length := by omega
    simp (maxSteps := 4000000) -implicitDefEqProofs -dsimp (disch := omega) only [↓AW_skip, ↓AW_ops, ↓AW_seq, ↓AW_cond, ↓AW_block, ↓AOps_nil, ↓AOps_pu, ↓AOps_ld, ↓AOps_callv, on_some, CallF_fn, condB_t, ↓then_normal, pval, lval, rd_S, put_S, partA, eq_self, mk, List.foldl_cons, List.foldl_nil, List.replicate_succ, List.replicate_zero, List.set_cons_zero, List.set_cons_succ, List.getElem?_cons_zero, List.getElem?_cons_succ, List.drop_zero, List.take_succ_cons, List.take_nil, Option.getD_some, map_c, map_n, List.length_cons, List.length_nil, Nat.reduceLeDiff, Nat.zero_add, List.cons_append, List.nil_append, bin_lss, if_true, if_false, Bool.false_eq_true, decide_true, Go.Eng.e1, hlt', hx.idx hlt, hx.ld0 hz 1 false (by decide)]
    refine CallK.of (hg z (List.mem_of_getElem? hz)) ?_
    by_cases h : g z = true
    · simp (maxSteps := 4000000) -implicitDefEqProofs -dsimp (disch := omega) only [↓AW_ops, ↓AW_seq, ↓AW_cond, ↓AW_ret, ↓AOps_nil, ↓AOps_pu, on_some, extK_same, condB_t, ↓then_normal, ↓then_ret, ↓inBlock_ret, ↓Fin_ret, pval, rd_S, put_S, resV, resL, mk, List.foldl_cons, List.foldl_nil, List.replicate_succ, List.replicate_zero, List.set_cons_zero, List.set_cons_succ, List.getElem?_cons_zero, List.getElem?_cons_succ, Option.getD_some, h]
      exact gc_same (by rw [fpos_some he hz h])
    · have h : g z = false := by simpa using h
      simp (maxSteps := 4000000) -implicitDefEqProofs -dsimp (disch := omega) only [↓AW_skip, ↓AW_ops, ↓AW_cond, ↓AOps_nil, ↓AOps_pu, on_some, extK_same, condB_f, ↓then_normal, ↓inBlock_normal, pval, rd_S, rd_C, put_S, eq_self, mk, List.foldl_cons, List.foldl_nil, List.replicate_succ, List.replicate_zero, List.set_cons_zero, List.set_cons_succ, List.getElem?_cons_zero, List.getElem?_cons_succ, Option.getD_some, List.length_cons, List.length_nil, Nat.reduceAdd, Nat.zero_add, bin_add, w64, true_and, h]
      exact ⟨i + 1, ⟨hlt, take_false he hz h⟩, by simp [Has, rd_s], by omega⟩
  · have hlt' : ¬ ((i : Int) < xs.length) := by omega
    simp (maxSteps := 4000000) -implicitDefEqProofs -dsimp (disch := omega) only [↓AW_ops, ↓AW_seq, ↓AW_cond, ↓AW_exit, ↓AW_ret, ↓AOps_nil, ↓AOps_pu, on_some, condB_f, ↓then_normal, ↓then_exit, ↓inBlock_exit, ↓Fin_ret, pval, rd_S, rd_C, put_S, resV, resL, eq_self, mk, List.foldl_cons, List.foldl_nil, List.replicate_succ, List.replicate_zero, List.set_cons_zero, List.set_cons_succ, List.getElem?_cons_zero, List.getElem?_cons_succ, Option.getD_some, bin_lss, if_true, decide_false, Int.reduceNeg, hlt']
    rw [List.take_of_length_le (by omega)] at he
    exact gc_same (by rw [fpos_none he])
theorem c_ContainsFunc {xs : List Int} {v : AV} {A : AHeap} (hx : L1 A v xs) (hl : xs.length ≤ 1000000) (f : FuncId) (cap : List AV) (g : Int → Bool) (hg : ∀ x ∈ xs, ACalls Try.prog f ([I x] ++ cap) A (B (g x)) A) : ACalls Try.prog 95 [v, .fn f cap] A (B (xs.any g)) A := by
  refine acalls hmix Try.func95 (by kernel_rfl) t95 2 rfl (by decide) ?_
  dsimp only [m95]
  simp (maxSteps := 4000000) -implicitDefEqProofs -dsimp (disch := omega) only [↓AW_ops, ↓AW_seq, ↓AOps_nil, ↓AOps_pu, ↓AOps_call, on_some, ↓then_normal, pval, rd_S, rd_C, put_S, List.replicate_succ, List.replicate_zero, List.set_cons_zero, List.set_cons_succ, List.getElem?_cons_zero, List.getElem?_cons_succ, Option.getD_some, map_c, map_n, Nat.reduceSub, List.cons_append, List.nil_append]
  refine CallK.of (c_IndexFunc hx hl f cap g hg) ?_
  simp (maxSteps := 4000000) -implicitDefEqProofs -dsimp (disch := omega) only [↓AW_ret, ↓AOps_nil, ↓AOps_pu, on_some, extK_same, ↓then_normal, ↓Fin_ret, pval, rd_S, rd_C, put_S, resV, resL, List.replicate_succ, List.replicate_zero, List.set_cons_zero, List.set_cons_succ, List.getElem?_cons_zero, List.getElem?_cons_succ, Option.getD_some, Nat.reduceSub, List.cons_append, List.nil_append, bin_geq]
  refine gc_same ?_
  congr 1
  rw [Bool.eq_iff_iff, decide_eq_true_iff, fpos_iff]
theorem L1_nil (A : AHeap) : L1 A .nilS [] := ⟨e1_len, rfl⟩
theorem L1_one (A : AHeap) (x : Int) : L1 (A ++ [.cells true [I x]]) (.sl 1 A.length 0 1 true) [x] := ⟨e1_len, by simp [slCells, cellsAt, e1]⟩
/-- Numbers that grow. -/
abbrev Up (l : List Int) : Prop := l.Pairwise (· < ·)
end Go.Proofs.Ytkgfcdpckfhknaa

namespace Go.Eng
open Go
section
variable {P : Program} {α : Type}
theorem AOps_ex : ∀ (l : List MOp) {Q : α → List AV → AHeap → Prop} {S : List AV} {H : AHeap}, AOps P l (fun S H => ∃ x, Q x S H) S H → ∃ x, AOps P l (Q x) S H := by
  intro l
  induction l with
  | nil => intro Q S H h; exact h
  | cons o r ih =>
    intro Q S H h
    simp only [AOps] at h ⊢
    split at h
    · exact h.elim
    · rename_i t _
      cases t with
      | true =>
        simp only [if_true] at h ⊢
        obtain ⟨v, H1, h1, h2, h3⟩ := h
        obtain ⟨x, hx⟩ := ih h3
        exact ⟨x, v, H1, h1, h2, hx⟩
      | false =>
        simp only [Bool.false_eq_true, if_false] at h ⊢
        exact ih h
/-- A loop with a rank. -/
def LoopR (P : Program) (a : MCode) (Q : Post) (k : Nat) (S : List AV) (H : AHeap) : Prop :=
  ∃ (J : Nat → List AV → AHeap → Prop), J k S H ∧ ∀ k S H, J k S H → AW P a (MX.then (fun S' H' => ∃ k' S'', k' < k ∧ Forget S' S'' ∧ J k' S'' H') Q) S H
/-- One round, and then loops of a smaller rank. -/
theorem LoopR_step {a : MCode} {Q : Post} {k : Nat} {S : List AV} {H : AHeap} (h : AW P a (MX.then (fun S' H' => ∃ k' S'', k' < k ∧ Forget S' S'' ∧ LoopR P a Q k' S'' H') Q) S H) : LoopR P a Q k S H := by
  refine ⟨fun j S1 H1 => (j = k ∧ S1 = S ∧ H1 = H) ∨ (j < k ∧ LoopR P a Q j S1 H1), .inl ⟨rfl, rfl, rfl⟩, ?_⟩
  rintro j S1 H1 (⟨rfl, rfl, rfl⟩ | ⟨hj, J, h1, h2⟩)
  · refine AW_mono (fun e S' H' h' => ?_) h
    cases e with
    | normal =>
      obtain ⟨k', S'', g1, g2, g3⟩ := h'
      exact ⟨k', S'', g1, g2, .inr ⟨g1, g3⟩⟩
    | exit id => exact h'
    | ret => exact h'
  · refine AW_mono (fun e S' H' h' => ?_) (h2 j S1 H1 h1)
    cases e with
    | normal =>
      obtain ⟨k', S'', g1, g2, g3⟩ := h'
      exact ⟨k', S'', g1, g2, .inr ⟨by omega, J, g3, h2⟩⟩
    | exit id => exact h'
    | ret => exact h'
theorem inScope_mono {g : Nat} {K K' : List AV → AHeap → Prop} {Q : Post} {e : MX} {S : List AV} {H : AHeap} (hk : ∀ S H, K S H → K' S H) (h : MX.inScope g K Q e S H) : MX.inScope g K' Q e S H := by
  cases e with
  | normal => exact h
  | exit id =>
    simp only [MX.inScope] at h ⊢
    split at h
    · rename_i hi; rw [if_pos hi]; exact hk _ _ h
    · rename_i hi; rw [if_neg hi]; exact h
  | ret => exact h
theorem inScope_ex {g : Nat} {K : α → List AV → AHeap → Prop} {Q : α → Post} {e : MX} {S : List AV} {H : AHeap} (h : MX.inScope g (fun S H => ∃ x, K x S H) (fun e S H => ∃ x, Q x e S H) e S H) : ∃ x, MX.inScope g (K x) (Q x) e S H := by
  cases e with
  | normal => exact h
  | exit id =>
    simp only [MX.inScope] at h ⊢
    split at h
    · rename_i hi
      obtain ⟨x, hx⟩ := h
      exact ⟨x, by rw [if_pos hi]; exact hx⟩
    · rename_i hi
      split at h
      · exact h.elim
      · rename_i hj
        obtain ⟨x, hx⟩ := h
        exact ⟨x, by rw [if_neg hi, if_neg hj]; exact hx⟩
  | ret => exact h
/-- What stands behind a label, with a rank. -/
def ScopeR (P : Program) (g : Nat) (r : MCode) (Q : Post) (k : Nat) (S : List AV) (H : AHeap) : Prop :=
  ∃ (J : Nat → List AV → AHeap → Prop), J k S H ∧ ∀ k S H, J k S H → AW P r (MX.inScope g (fun S' H' => ∃ k' S'', k' < k ∧ Forget S' S'' ∧ J k' S'' H') Q) S H
theorem ScopeR_step {g : Nat} {r : MCode} {Q : Post} {k : Nat} {S : List AV} {H : AHeap} (h : AW P r (MX.inScope g (fun S' H' => ∃ k' S'', k' < k ∧ Forget S' S'' ∧ ScopeR P g r Q k' S'' H') Q) S H) : ScopeR P g r Q k S H := by
  refine ⟨fun j S1 H1 => (j = k ∧ S1 = S ∧ H1 = H) ∨ (j < k ∧ ScopeR P g r Q j S1 H1), .inl ⟨rfl, rfl, rfl⟩, ?_⟩
  rintro j S1 H1 (⟨rfl, rfl, rfl⟩ | ⟨hj, J, h1, h2⟩)
  · refine AW_mono (fun e S' H' h' => inScope_mono (fun S' H' h3 => ?_) h') h
    obtain ⟨k', S'', g1, g2, g3⟩ := h3
    exact ⟨k', S'', g1, g2, .inr ⟨g1, g3⟩⟩
  · refine AW_mono (fun e S' H' h' => inScope_mono (fun S' H' h3 => ?_) h') (h2 j S1 H1 h1)
    obtain ⟨k', S'', g1, g2, g3⟩ := h3
    exact ⟨k', S'', g1, g2, .inr ⟨by omega, J, g3, h2⟩⟩
/-- No region of two orders. -/
def noAlt : MCode → Bool
  | .ops2 _ _ => false
  | .seq a b => noAlt a && noAlt b
  | .cond _ a b => noAlt a && noAlt b
  | .block _ a => noAlt a
  | .loop a => noAlt a
  | .cut a => noAlt a
  | .scope _ a b => noAlt a && noAlt b
  | _ => true
theorem AW_ex : ∀ {m : MCode}, noAlt m = true → ∀ {Q : α → Post} {S : List AV} {H : AHeap}, AW P m (fun e S H => ∃ x, Q x e S H) S H → ∃ x, AW P m (Q x) S H := by
  intro m
  induction m with
  | skip => intro _ Q S H h; exact h
  | ops l => intro _ Q S H h; exact AOps_ex l h
  | ops2 l l' => intro hno; cases hno
  | seq a b iha ihb =>
    intro hno Q S H h
    simp only [noAlt, Bool.and_eq_true] at hno
    refine iha hno.1 (Q := fun x => MX.then (AW P b (Q x)) (Q x)) (AW_mono (fun e S H h => ?_) h)
    cases e with
    | normal => exact ihb hno.2 h
    | exit id => exact h
    | ret => exact h
  | cond c a b iha ihb =>
    intro hno Q S H h
    simp only [noAlt, Bool.and_eq_true] at hno
    simp only [AW] at h ⊢
    split at h
    · split at h
      · rename_i ht
        obtain ⟨x, hx⟩ := iha hno.1 h
        exact ⟨x, by rw [if_pos ht]; exact hx⟩
      · rename_i ht
        obtain ⟨x, hx⟩ := ihb hno.2 h
        exact ⟨x, by rw [if_neg ht]; exact hx⟩
    · exact h.elim
  | block id a iha =>
    intro hno Q S H h
    simp only [noAlt] at hno
    refine iha hno (Q := fun x => MX.inBlock id (Q x)) (AW_mono (fun e S H h => ?_) h)
    cases e with
    | normal => exact h
    | exit id' =>
      simp only [MX.inBlock] at h ⊢
      split at h
      · rename_i hi
        obtain ⟨x, hx⟩ := h
        exact ⟨x, by rw [if_pos hi]; exact hx⟩
      · rename_i hi
        obtain ⟨x, hx⟩ := h
        exact ⟨x, by rw [if_neg hi]; exact hx⟩
    | ret => exact h
  | loop a iha =>
    intro hno Q S H h
    simp only [noAlt] at hno
    obtain ⟨J, ⟨k0, S0, hf, hJ⟩, hstep⟩ := h
    have key : ∀ k S H, J k S H → ∃ x, LoopR P a (Q x) k S H := by
      intro k
      induction k using Nat.strongRecOn with
      | _ k ih =>
        intro S H hj
        have h1 := hstep k S H hj
        have h2 : ∃ x, AW P a (MX.then (fun S' H' => ∃ k' S'', k' < k ∧ Forget S' S'' ∧ LoopR P a (Q x) k' S'' H') (Q x)) S H := by
          refine iha hno (Q := fun x => MX.then (fun S' H' => ∃ k' S'', k' < k ∧ Forget S' S'' ∧ LoopR P a (Q x) k' S'' H') (Q x)) (AW_mono (fun e S' H' h' => ?_) h1)
          cases e with
          | normal =>
            obtain ⟨k', S'', g1, g2, g3⟩ := h'
            obtain ⟨x, hx⟩ := ih k' g1 S'' H' g3
            exact ⟨x, k', S'', g1, g2, hx⟩
          | exit id => exact h'
          | ret => exact h'
        obtain ⟨x, hx⟩ := h2
        exact ⟨x, LoopR_step hx⟩
    obtain ⟨x, J', h1, h2⟩ := key k0 S0 H hJ
    exact ⟨x, J', ⟨k0, S0, hf, h1⟩, h2⟩
  | exit id => intro _ Q S H h; exact h
  | cut a iha =>
    intro hno Q S H h
    simp only [noAlt] at hno
    obtain ⟨S0, h0, h1⟩ := h
    obtain ⟨x, hx⟩ := iha hno h1
    exact ⟨x, S0, h0, hx⟩
  | label l => intro _ Q S H h; exact h
  | scope g a r iha ihr =>
    intro hno Q S H h
    simp only [noAlt, Bool.and_eq_true] at hno
    obtain ⟨J, h0, hstep⟩ := h
    have key : ∀ k S H, J k S H → ∃ x, ScopeR P g r (Q x) k S H := by
      intro k
      induction k using Nat.strongRecOn with
      | _ k ih =>
        intro S H hj
        have h1 := hstep k S H hj
        have h2 : ∃ x, AW P r (MX.inScope g (fun S' H' => ∃ k' S'', k' < k ∧ Forget S' S'' ∧ ScopeR P g r (Q x) k' S'' H') (Q x)) S H := by
          refine ihr hno.2 (Q := fun x => MX.inScope g (fun S' H' => ∃ k' S'', k' < k ∧ Forget S' S'' ∧ ScopeR P g r (Q x) k' S'' H') (Q x)) (AW_mono (fun e S' H' h' => ?_) h1)
          refine inScope_ex (inScope_mono (fun S' H' h3 => ?_) h')
          obtain ⟨k', S'', g1, g2, g3⟩ := h3
          obtain ⟨x, hx⟩ := ih k' g1 S'' H' g3
          exact ⟨x, k', S'', g1, g2, hx⟩
        obtain ⟨x, hx⟩ := h2
        exact ⟨x, ScopeR_step hx⟩
    have h3 : ∃ x, AW P a (MX.inScope g (fun S' H' => ∃ k S'', Forget S' S'' ∧ ScopeR P g r (Q x) k S'' H') (Q x)) S H := by
      refine iha hno.1 (Q := fun x => MX.inScope g (fun S' H' => ∃ k S'', Forget S' S'' ∧ ScopeR P g r (Q x) k S'' H') (Q x)) (AW_mono (fun e S' H' h' => ?_) h0)
      refine inScope_ex (inScope_mono (fun S' H' h3 => ?_) h')
      obtain ⟨k, S'', g2, g3⟩ := h3
      obtain ⟨x, hx⟩ := key k S'' H' g3
      exact ⟨x, k, S'', g2, hx⟩
    obtain ⟨x, hx⟩ := h3
    refine ⟨x, fun k S H => ScopeR P g r (Q x) k S H, hx, ?_⟩
    rintro k S H ⟨J', j1, j2⟩
    refine AW_mono (fun e S' H' h' => inScope_mono (fun S' H' h3 => ?_) h') (j2 k S H j1)
    obtain ⟨k', S'', g1, g2, g3⟩ := h3
    exact ⟨k', S'', g1, g2, J', g3, j2⟩
  | ret => intro _ Q S H h; exact h
  | fail => intro _ Q S H h; exact h.elim
theorem AW_false : ∀ {m : MCode}, noAlt m = true → ∀ {S : List AV} {H : AHeap}, ¬ AW P m (fun _ _ _ => False) S H := by
  intro m hno S H h
  have h2 : AW P m (fun e S H => ∃ x : Empty, (fun (_ : Empty) (_ : MX) (_ : List AV) (_ : AHeap) => True) x e S H) S H := AW_mono (fun _ _ _ h => h.elim) h
  obtain ⟨x, _⟩ := AW_ex hno h2
  exact x.elim
/-- The end of a function, where what it hands back need not be known ahead. -/
def FinR (res : List PAct) (H : AHeap) (R : AV → AHeap → Prop) : Post := fun e S H1 => ∃ x : AV × AHeap, Fin res H x.1 x.2 e S H1 ∧ R x.1 x.2
theorem FinR_ret (res : List PAct) (H : AHeap) (R : AV → AHeap → Prop) (S : List AV) (H1 : AHeap) : FinR res H R .ret S H1 = on (resV res S) (fun v1 => ∃ v H', GC H v1 H1 v H' ∧ R v H') ⟨⟩ := by
  apply propext
  unfold FinR
  simp only [Fin_ret]
  unfold on
  cases resV res S with
  | none => simp
  | some v1 =>
    constructor
    · rintro ⟨x, h1, h2⟩; exact ⟨_, _, h1, h2⟩
    · rintro ⟨v, H', h1, h2⟩; exact ⟨(v, H'), h1, h2⟩
theorem FinR_normal (res : List PAct) (H : AHeap) (R : AV → AHeap → Prop) (S : List AV) (H1 : AHeap) : FinR res H R .normal S H1 = on (resV res S) (fun v1 => ∃ v H', GC H v1 H1 v H' ∧ R v H') ⟨⟩ := by
  apply propext
  unfold FinR
  simp only [Fin_normal]
  unfold on
  cases resV res S with
  | none => simp
  | some v1 =>
    constructor
    · rintro ⟨x, h1, h2⟩; exact ⟨_, _, h1, h2⟩
    · rintro ⟨v, H', h1, h2⟩; exact ⟨(v, H'), h1, h2⟩
/-- A function's contract, where the result is told by what it is like. -/
theorem acallsR (hm : P.follows .mixedOrders = true) {f : FuncId} {fn : Func} (hf : P.funcs[f]? = some fn) (hn : (fn.name == "runtime.NumGoroutine") = false) {bx cs : List Nat} {m : MFun} (ht : trF P bx cs fn = some m) {args : List AV} {H : AHeap} (R : AV → AHeap → Prop) (n : Nat)
    (hl : args.length = n) (hb : m.bx.all (fun d => decide (n ≤ d)) = true) (hA : AW P m.body (FinR m.res H R) (args ++ List.replicate (m.nt - n) .junk) H) (hno : noAlt m.body = true := by rfl) : ∃ v H', ACalls P f args H v H' ∧ R v H' := by
  obtain ⟨x, hx⟩ := AW_ex hno (Q := fun (x : AV × AHeap) e S H1 => Fin m.res H x.1 x.2 e S H1 ∧ R x.1 x.2) hA
  have hR : R x.1 x.2 := by
    refine Classical.byContradiction (fun hn => ?_)
    have : AW P m.body (fun _ _ _ => False) (args ++ List.replicate (m.nt - n) .junk) H := AW_mono (fun _ _ _ h => hn h.2) hx
    exact AW_false hno this
  exact ⟨x.1, x.2, acalls hm hf hn ht n hl hb (AW_mono (fun _ _ _ h => h.1) hx), hR⟩
end
end Go.Eng

namespace Go.Eng
open Go
theorem AccL_push2 {α : Type} {es : Nat} {e : α → List AV} {H H1 : AHeap} {v : AV} {xs : List α} (h : AccL es e H H1 v xs) (he : ∀ x, (e x).length = es) (h0 : 0 < es) (x : α) (hl : xs.length + 1 ≤ lim) :
    ∃ v' H2, appA es (H1 ++ [.cells true (e x)]) v (.sl es H1.length 0 1 true) = some (v', H2) ∧ AccL es e H H2 v' (xs ++ [x]) ∧
      (∀ k o, H1[k]? = some o → (∀ n len, v = .sl es n 0 len false → k ≠ n) → H2[k]? = some o) ∧ ∃ n len, v' = .sl es n 0 len false ∧ H1.length ≤ n := by
  obtain ⟨v', H2, happ, hacc⟩ := h.push he x hl
  refine ⟨v', H2, happ, hacc, ?_⟩
  have hc := slCells_new (es := es) H1 (e x) (he x)
  rcases h.2.2 with ⟨h3, rfl⟩ | ⟨h3, n, rfl, h5, h6⟩
  · unfold appA at happ
    rw [hc] at happ
    simp [lim] at happ
    obtain ⟨rfl, rfl⟩ := happ
    refine ⟨fun k o hk _ => ?_, _, _, rfl, by simp⟩
    have hlt := (List.getElem?_eq_some_iff.1 hk).1
    first
      | (rw [List.getElem?_append_left hlt]; exact hk)
      | (rw [List.getElem?_append_left (by rw [List.length_append]; omega), List.getElem?_append_left hlt]; exact hk)
  · have hlt := (List.getElem?_eq_some_iff.1 h6).1
    have hget : (H1 ++ [AObj.cells true (e x)])[n]? = some (.cells true (xs.flatMap e)) := by rw [List.getElem?_append_left hlt]; exact h6
    have hfl := flatMap_length he xs
    unfold appA at happ
    rw [hc] at happ
    simp only [hget, Nat.one_ne_zero, if_false, if_true, true_and] at happ
    rw [if_pos hl, if_pos (by omega)] at happ
    simp only [Bool.false_eq_true, if_false, Option.some.injEq, Prod.mk.injEq] at happ
    obtain ⟨rfl, rfl⟩ := happ
    refine ⟨fun k o hk hne => ?_, _, _, rfl, by simp⟩
    have hk1 := (List.getElem?_eq_some_iff.1 hk).1
    have hkn := hne n xs.length rfl
    rw [List.getElem?_append_left (by simp; omega), List.getElem?_set_ne (Ne.symm hkn), List.getElem?_append_left hk1]
    exact hk
theorem AccL_base0 {α : Type} {es : Nat} {e : α → List AV} {A0 A H : AHeap} {v : AV} {xs : List α} (hp : A0 <+: A) (h : AccL es e A H v xs) : AccL es e A0 H v xs := by
  obtain ⟨h1, h2, h3⟩ := h
  refine ⟨hp.trans h1, h2, ?_⟩
  rcases h3 with h4 | ⟨h0, n, h4, h5, h6⟩
  · exact .inl h4
  · exact .inr ⟨h0, n, h4, Nat.le_trans hp.length_le h5, h6⟩
end Go.Eng

namespace Go.Proofs.Ytkgfcdpckfhknaa
open Go Go.Eng
section
variable {α : Type} {es : Nat} {e : α → List AV} {A H : AHeap} {v : AV} {xs : List α}
theorem AccL_ol (h : AccL es e A H v xs) (he : ∀ x, (e x).length = es) (h0 : 0 < xs.length) : ∃ n, OL es e A H n v xs ∧ v = .sl es n 0 xs.length false := by
  obtain ⟨h1, h2, h3⟩ := h
  rcases h3 with ⟨h4, _⟩ | ⟨_, n, rfl, h5, h6⟩
  · omega
  · exact ⟨n, ⟨he, h1, h5, h6, false, rfl⟩, rfl⟩
end
/-- All that was there before stays. -/
theorem OL.old {α : Type} {es : Nat} {e : α → List AV} {A H : AHeap} {n : Nat} {v : AV} {xs : List α} (h : OL es e A H n v xs) (o : AObj) : A <+: H.set n o := pre_set h.pre h.new o
theorem set_same {α : Type} {l : List α} {n : Nat} {x : α} (h : l[n]? = some x) : l.set n x = l := by
  have hlt := (List.getElem?_eq_some_iff.1 h).1
  have hx := (List.getElem?_eq_some_iff.1 h).2
  rw [← hx]
  exact List.set_getElem_self hlt
end Go.Proofs.Ytkgfcdpckfhknaa

namespace Go.Proofs.Ytkgfcdpckfhknaa
open Go Go.Eng
/-- selion/road.Tree [] -/
def m21 : MFun := ⟨21, [1], [.mov (.s 2), .mov (.s 3), .mov (.s 4)],
 .seq (.ops [⟨(some 1), some (.junk), none, false, .pu (.bnew (.s 0))⟩,
   ⟨(some 2), some undefA, none, false, .pu (.mov (.c (.nilS)))⟩,
   ⟨(some 3), some undefA, none, false, .pu (.mov (.c (.bool false)))⟩,
   ⟨(some 4), some undefA, none, false, .pu (.mov (.c (.int .i64 0)))⟩])
 (.seq (.seq (.ops [⟨(some 7), some undefA, none, false, .pu (.bget none 1 0 2 true)⟩,
   ⟨(some 8), some undefA, none, false, .call 28 [(.s 7)]⟩,
   ⟨(some 5), some undefA, none, false, .pu (.mov (.s 8))⟩])
 (.seq (.ops [⟨(some 9), some undefA, none, false, .pu (.mov (.s 5))⟩,
   ⟨(some 10), some undefA, none, false, .pu (.bin .neq (.s 9) (.c (.int .i64 0)))⟩])
 (.cond (.s 10) (.seq (.ops [⟨(some 11), some undefA, none, false, .pu (.mov (.s 5))⟩,
    ⟨(some 2), some undefA, none, false, .pu (.mov (.c (.nilS)))⟩,
    ⟨(some 3), some undefA, none, false, .pu (.mov (.c (.bool false)))⟩,
    ⟨(some 4), some undefA, none, false, .pu (.mov (.s 11))⟩])
  (.ret))
 (.skip))))
 (.seq (.ops [⟨(some 12), some undefA, none, false, .pu (.bget none 1 0 2 true)⟩,
   ⟨(some 13), some undefA, none, false, .pu (.bget none 1 0 2 true)⟩,
   ⟨(some 14), some undefA, none, false, .call 59 [(.s 13)]⟩,
   ⟨(some 15), some undefA, none, false, .call 61 [(.s 12), (.s 14)]⟩,
   ⟨(some 6), some undefA, none, false, .pu (.mov (.s 15))⟩])
 (.seq (.seq (.ops [⟨(some 16), some undefA, none, false, .pu (.bget none 1 0 2 true)⟩,
   ⟨(some 17), some undefA, none, false, .pu (.mov (.s 6))⟩,
   ⟨(some 18), some undefA, none, false, .call 60 [(.s 16), (.s 17)]⟩,
   ⟨(some 19), some undefA, none, false, .pu (.not (.s 18))⟩])
 (.cond (.s 19) (.seq (.ops [⟨(some 2), some undefA, none, false, .pu (.mov (.c (.nilS)))⟩,
    ⟨(some 3), some undefA, none, false, .pu (.mov (.c (.bool false)))⟩,
    ⟨(some 4), some undefA, none, false, .pu (.mov (.c (.int .i64 0)))⟩])
  (.ret))
 (.skip)))
 (.seq (.ops [⟨(some 20), some undefA, none, false, .pu (.mov (.s 6))⟩,
   ⟨(some 2), some undefA, none, false, .pu (.mov (.s 20))⟩,
   ⟨(some 3), some undefA, none, false, .pu (.mov (.c (.bool true)))⟩,
   ⟨(some 4), some undefA, none, false, .pu (.mov (.c (.int .i64 0)))⟩])
 (.ret)))))⟩
theorem t21 : trF Try.prog [1] [] Try.f21 = some m21 := by kernel_rfl
/-- selion/road.CheckWay [loop [1, 2, 4, 12, 31, 32, 33]] -/
def m30 : MFun := ⟨64, [4, 15], [.mov (.s 8), .mov (.s 9)],
 .seq (.ops [⟨(some 4), some (.junk), none, false, .pu (.bnew (.s 0))⟩,
   ⟨(some 8), some undefA, none, false, .pu (.mov (.c (.int .i64 0)))⟩,
   ⟨(some 9), some undefA, none, false, .pu (.mov (.c (.int .i64 0)))⟩])
 (.seq (.seq (.ops [⟨(some 16), some undefA, none, false, .pu (.bget none 4 0 2 true)⟩,
   ⟨(some 17), some undefA, none, false, .pu (.mov (.s 1))⟩,
   ⟨(some 18), some undefA, none, false, .pu (.mov (.s 2))⟩,
   ⟨(some 19), some undefA, none, false, .call 72 [(.s 16), (.s 17), (.s 18)]⟩,
   ⟨(some 10), some undefA, none, false, .pu (.mov (.s 19))⟩])
 (.seq (.ops [⟨(some 20), some undefA, none, false, .pu (.mov (.s 10))⟩,
   ⟨(some 21), some undefA, none, false, .pu (.bin .neq (.s 20) (.c (.int .i64 0)))⟩])
 (.cond (.s 21) (.seq (.ops [⟨(some 22), some undefA, none, false, .pu (.mov (.s 10))⟩,
    ⟨(some 8), some undefA, none, false, .pu (.mov (.c (.int .i64 0)))⟩,
    ⟨(some 9), some undefA, none, false, .pu (.mov (.s 22))⟩])
  (.ret))
 (.skip))))
 (.seq (.seq (.ops [⟨(some 23), some undefA, none, false, .pu (.badr none 4)⟩,
   ⟨(some 24), some undefA, none, false, .pu (.bget (some 23) 4 1 1 false)⟩,
   ⟨(some 25), some undefA, none, false, .pu (.len (.s 24))⟩,
   ⟨(some 26), some undefA, none, false, .pu (.mov (.s 3))⟩,
   ⟨(some 27), some undefA, none, false, .call 58 [(.s 25), (.s 26)]⟩,
   ⟨(some 11), some undefA, none, false, .pu (.mov (.s 27))⟩])
 (.seq (.ops [⟨(some 28), some undefA, none, false, .pu (.mov (.s 11))⟩,
   ⟨(some 29), some undefA, none, false, .pu (.bin .neq (.s 28) (.c (.int .i64 0)))⟩])
 (.cond (.s 29) (.seq (.ops [⟨(some 30), some undefA, none, false, .pu (.mov (.s 11))⟩,
    ⟨(some 8), some undefA, none, false, .pu (.mov (.c (.int .i64 0)))⟩,
    ⟨(some 9), some undefA, none, false, .pu (.mov (.s 30))⟩])
  (.ret))
 (.skip))))
 (.seq (.ops [⟨(some 12), some undefA, none, false, .pu (.mov (.c (.int .i64 0)))⟩])
 (.seq (.seq (.ops [⟨(some 31), some undefA, none, false, .pu (.mov (.s 3))⟩,
   ⟨(some 32), some undefA, none, false, .pu (.len (.s 31))⟩,
   ⟨(some 33), some undefA, none, false, .pu (.mov (.c (.int .i64 0)))⟩])
 (.block 0 (.loop (.seq (.ops [⟨(some 34), some undefA, none, false, .pu (.bin .lss (.s 33) (.s 32))⟩])
   (.seq (.cond (.s 34) (.skip)
   (.exit 0))
   (.seq (.block 1 (.seq (.ops [⟨(some 35), some undefA, none, false, .pu (.idx 1 (.s 31) (.s 33))⟩,
      ⟨(some 36), some undefA, none, false, .ld (.ld 1 false (.s 35))⟩,
      ⟨(some 14), some undefA, none, false, .pu (.mov (.s 36))⟩])
    (.seq (.ops [⟨(some 37), some undefA, none, false, .pu (.badr none 4)⟩,
      ⟨(some 38), some undefA, none, false, .pu (.bget (some 37) 4 1 1 false)⟩,
      ⟨(some 39), some undefA, none, false, .pu (.mov (.s 14))⟩,
      ⟨(some 40), some undefA, none, false, .pu (.idx 3 (.s 38) (.s 39))⟩,
      ⟨(some 41), some undefA, none, false, .ld (.ld 3 true (.s 40))⟩,
      ⟨(some 15), some (.junk), none, false, .pu (.bnew (.c (.agg [.int .i64 0, .int .i64 0, .int .i64 0])))⟩,
      ⟨(some 15), none, none, false, .pu (.bset none 15 0 3 (.s 41))⟩])
    (.seq (.seq (.ops [⟨(some 42), some undefA, none, false, .pu (.mov (.s 1))⟩])
    (.block 2 (.seq (.ops [⟨(some 44), some undefA, none, false, .pu (.badr none 15)⟩,
       ⟨(some 45), some undefA, none, false, .pu (.bget (some 44) 15 0 1 false)⟩,
       ⟨(some 46), some undefA, none, false, .pu (.bin .eql (.s 42) (.s 45))⟩,
       ⟨(some 43), some undefA, none, false, .pu (.mov (.s 46))⟩])
     (.cond (.s 43) (.ops [⟨(some 47), some undefA, none, false, .pu (.badr none 15)⟩,
        ⟨(some 48), some undefA, none, false, .pu (.bget (some 47) 15 1 1 false)⟩,
        ⟨(some 1), some undefA, none, false, .pu (.mov (.s 48))⟩])
     (.seq (.ops [⟨(some 50), some undefA, none, false, .pu (.badr none 15)⟩,
        ⟨(some 51), some undefA, none, false, .pu (.bget (some 50) 15 1 1 false)⟩,
        ⟨(some 52), some undefA, none, false, .pu (.bin .eql (.s 42) (.s 51))⟩,
        ⟨(some 49), some undefA, none, false, .pu (.mov (.s 52))⟩])
      (.cond (.s 49) (.ops [⟨(some 53), some undefA, none, false, .pu (.badr none 15)⟩,
         ⟨(some 54), some undefA, none, false, .pu (.bget (some 53) 15 0 1 false)⟩,
         ⟨(some 1), some undefA, none, false, .pu (.mov (.s 54))⟩])
      (.seq (.ops [⟨(some 8), some undefA, none, false, .pu (.mov (.c (.int .i64 0)))⟩,
         ⟨(some 9), some undefA, none, false, .pu (.mov (.c (.int .i64 7)))⟩])
       (.ret))))))))
    (.ops [⟨(some 55), some undefA, none, false, .pu (.mov (.s 12))⟩,
      ⟨(some 56), some undefA, none, false, .pu (.badr none 15)⟩,
      ⟨(some 57), some undefA, none, false, .pu (.bget (some 56) 15 2 1 false)⟩,
      ⟨(some 58), some undefA, none, false, .pu (.mm true (.s 55) [(.s 57)])⟩,
      ⟨(some 12), some undefA, none, false, .pu (.mov (.s 58))⟩])))))
   (.ops [⟨(some 59), some undefA, none, false, .pu (.bin .add (.s 33) (.c (.int .i64 1)))⟩,
     ⟨(some 33), some undefA, none, false, .pu (.mov (.s 59))⟩])))))))
 (.seq (.seq (.ops [⟨(some 60), some undefA, none, false, .pu (.mov (.s 1))⟩,
   ⟨(some 61), some undefA, none, false, .pu (.mov (.s 2))⟩,
   ⟨(some 62), some undefA, none, false, .pu (.bin .neq (.s 60) (.s 61))⟩])
 (.cond (.s 62) (.seq (.ops [⟨(some 8), some undefA, none, false, .pu (.mov (.c (.int .i64 0)))⟩,
    ⟨(some 9), some undefA, none, false, .pu (.mov (.c (.int .i64 7)))⟩])
  (.ret))
 (.skip)))
 (.seq (.ops [⟨(some 63), some undefA, none, false, .pu (.mov (.s 12))⟩,
   ⟨(some 8), some undefA, none, false, .pu (.mov (.s 63))⟩,
   ⟨(some 9), some undefA, none, false, .pu (.mov (.c (.int .i64 0)))⟩])
 (.ret)))))))⟩
theorem t30 : trF Try.prog [4, 15] [] Try.f30 = some m30 := by kernel_rfl
/-- selion/road.IsCheapest [] -/
def m33 : MFun := ⟨23, [2], [.mov (.s 4), .mov (.s 5)],
 .seq (.ops [⟨(some 2), some (.junk), none, false, .pu (.bnew (.s 0))⟩,
   ⟨(some 4), some undefA, none, false, .pu (.mov (.c (.bool false)))⟩,
   ⟨(some 5), some undefA, none, false, .pu (.mov (.c (.int .i64 0)))⟩])
 (.seq (.seq (.ops [⟨(some 7), some undefA, none, false, .pu (.bget none 2 0 2 true)⟩,
   ⟨(some 8), some undefA, none, false, .pu (.mov (.s 1))⟩,
   ⟨(some 9), some undefA, none, false, .call 78 [(.s 7), (.s 8)]⟩,
   ⟨(some 6), some undefA, none, false, .pu (.mov (.s 9))⟩])
 (.seq (.ops [⟨(some 10), some undefA, none, false, .pu (.mov (.s 6))⟩,
   ⟨(some 11), some undefA, none, false, .pu (.bin .neq (.s 10) (.c (.int .i64 0)))⟩])
 (.cond (.s 11) (.seq (.ops [⟨(some 12), some undefA, none, false, .pu (.mov (.s 6))⟩,
    ⟨(some 4), some undefA, none, false, .pu (.mov (.c (.bool false)))⟩,
    ⟨(some 5), some undefA, none, false, .pu (.mov (.s 12))⟩])
  (.ret))
 (.skip))))
 (.seq (.ops [⟨(some 13), some undefA, none, false, .pu (.bget none 2 0 2 true)⟩,
   ⟨(some 14), some undefA, none, false, .pu (.mov (.s 1))⟩,
   ⟨(some 15), some undefA, none, false, .call 79 [(.s 13), (.s 14)]⟩,
   ⟨(some 16), some undefA, none, false, .pu (.bget none 2 0 2 true)⟩,
   ⟨(some 17), some undefA, none, false, .pu (.bget none 2 0 2 true)⟩,
   ⟨(some 18), some undefA, none, false, .pu (.bget none 2 0 2 true)⟩,
   ⟨(some 19), some undefA, none, false, .call 59 [(.s 18)]⟩,
   ⟨(some 20), some undefA, none, false, .call 61 [(.s 17), (.s 19)]⟩,
   ⟨(some 21), some undefA, none, false, .call 79 [(.s 16), (.s 20)]⟩,
   ⟨(some 22), some undefA, none, false, .pu (.bin .eql (.s 15) (.s 21))⟩,
   ⟨(some 4), some undefA, none, false, .pu (.mov (.s 22))⟩,
   ⟨(some 5), some undefA, none, false, .pu (.mov (.c (.int .i64 0)))⟩])
 (.ret)))⟩
theorem t33 : trF Try.prog [2] [] Try.f33 = some m33 := by kernel_rfl
/-- selion/road.Way [loop [1, 12, 13, 14]] -/
def m36 : MFun := ⟨48, [3], [.mov (.s 6), .mov (.s 7), .mov (.s 8)],
 .seq (.ops [⟨(some 3), some (.junk), none, false, .pu (.bnew (.s 0))⟩,
   ⟨(some 6), some undefA, none, false, .pu (.mov (.c (.nilS)))⟩,
   ⟨(some 7), some undefA, none, false, .pu (.mov (.c (.bool false)))⟩,
   ⟨(some 8), some undefA, none, false, .pu (.mov (.c (.int .i64 0)))⟩])
 (.seq (.ops [⟨(some 16), some undefA, none, false, .pu (.bget none 3 0 2 true)⟩,
   ⟨(some 17), some undefA, none, false, .pu (.mov (.s 1))⟩,
   ⟨(some 18), some undefA, none, false, .pu (.mov (.s 2))⟩,
   ⟨(some 19), some undefA, none, false, .call 25 [(.s 16), (.s 17), (.s 18)]⟩,
   ⟨(some 15), some undefA, none, false, .pu (.mov (.s 19))⟩,
   ⟨(some 20), some undefA, none, false, .pu (.extr 0 (.s 15))⟩,
   ⟨(some 21), some undefA, none, false, .pu (.extr 1 (.s 15))⟩,
   ⟨(some 22), some undefA, none, false, .pu (.extr 2 (.s 15))⟩,
   ⟨(some 9), some undefA, none, false, .pu (.mov (.s 20))⟩,
   ⟨(some 10), some undefA, none, false, .pu (.mov (.s 21))⟩,
   ⟨(some 11), some undefA, none, false, .pu (.mov (.s 22))⟩])
 (.seq (.seq (.ops [⟨(some 23), some undefA, none, false, .pu (.mov (.s 10))⟩,
   ⟨(some 24), some undefA, none, false, .pu (.not (.s 23))⟩])
 (.cond (.s 24) (.seq (.ops [⟨(some 25), some undefA, none, false, .pu (.mov (.s 11))⟩,
    ⟨(some 6), some undefA, none, false, .pu (.mov (.c (.nilS)))⟩,
    ⟨(some 7), some undefA, none, false, .pu (.mov (.c (.bool false)))⟩,
    ⟨(some 8), some undefA, none, false, .pu (.mov (.s 25))⟩])
  (.ret))
 (.skip)))
 (.seq (.ops [⟨(some 26), some undefA, none, false, .pu (.bget none 3 0 2 true)⟩,
   ⟨(some 27), some undefA, none, false, .pu (.mov (.s 1))⟩,
   ⟨(some 28), some undefA, none, false, .pu (.mov (.s 9))⟩,
   ⟨(some 29), some undefA, none, false, .call 81 [(.s 26), (.s 27), (.s 28)]⟩,
   ⟨(some 12), some undefA, none, false, .pu (.mov (.s 29))⟩])
 (.seq (.ops [⟨(some 13), some undefA, none, false, .pu (.mov (.c (.nilS)))⟩])
 (.seq (.seq (.ops [⟨(some 30), some undefA, none, false, .pu (.mov (.s 2))⟩,
   ⟨(some 14), some undefA, none, false, .pu (.mov (.s 30))⟩])
 (.block 0 (.loop (.seq (.seq (.ops [⟨(some 31), some undefA, none, false, .pu (.mov (.s 14))⟩,
     ⟨(some 32), some undefA, none, false, .pu (.mov (.s 1))⟩,
     ⟨(some 33), some undefA, none, false, .pu (.bin .neq (.s 31) (.s 32))⟩])
   (.cond (.s 33) (.skip)
   (.exit 0)))
   (.seq (.block 1 (.ops [⟨(some 38), some undefA, none, false, .pu (.mov (.s 13))⟩,
      ⟨(some 39), some undefA, none, false, .pu (.mov (.s 12))⟩,
      ⟨(some 40), some undefA, none, false, .pu (.mov (.s 14))⟩,
      ⟨(some 41), some undefA, none, false, .ld (.look (.agg [.int .i64 0, .int .i64 0]) false (.s 39) (.s 40))⟩,
      ⟨(some 42), some undefA, none, false, .pu (.part 0 1 false (.s 41))⟩,
      ⟨(some 43), some undefA, none, false, .ha (.blds 1 1 [.int .i64 0] [(0, 1, (.s 42))])⟩,
      ⟨(some 44), some undefA, none, false, .ha (.app 1 (.s 38) (.s 43))⟩,
      ⟨(some 13), some undefA, none, false, .pu (.mov (.s 44))⟩]))
   (.ops [⟨(some 34), some undefA, none, false, .pu (.mov (.s 12))⟩,
     ⟨(some 35), some undefA, none, false, .pu (.mov (.s 14))⟩,
     ⟨(some 36), some undefA, none, false, .ld (.look (.agg [.int .i64 0, .int .i64 0]) false (.s 34) (.s 35))⟩,
     ⟨(some 37), some undefA, none, false, .pu (.part 1 1 false (.s 36))⟩,
     ⟨(some 14), some undefA, none, false, .pu (.mov (.s 37))⟩]))))))
 (.seq (.ops [⟨(some 45), some undefA, none, false, .pu (.mov (.s 13))⟩,
   ⟨(some 46), some undefA, none, false, .call 82 [(.s 45)]⟩])
 (.seq (.ops [⟨(some 47), some undefA, none, false, .pu (.mov (.s 13))⟩,
   ⟨(some 6), some undefA, none, false, .pu (.mov (.s 47))⟩,
   ⟨(some 7), some undefA, none, false, .pu (.mov (.c (.bool true)))⟩,
   ⟨(some 8), some undefA, none, false, .pu (.mov (.c (.int .i64 0)))⟩])
 (.ret))))))))⟩
theorem t36 : trF Try.prog [3] [] Try.f36 = some m36 := by kernel_rfl
/-- selion/road.CheckWall [loop [3, 4, 43, 44, 45]] -/
def m37 : MFun := ⟨65, [5, 14], [.mov (.s 10)],
 .seq (.ops [⟨(some 5), some (.junk), none, false, .pu (.bnew (.s 0))⟩,
   ⟨(some 10), some undefA, none, false, .pu (.mov (.c (.int .i64 0)))⟩])
 (.seq (.seq (.ops [⟨(some 15), some undefA, none, false, .pu (.bget none 5 0 2 true)⟩,
   ⟨(some 16), some undefA, none, false, .pu (.mov (.s 1))⟩,
   ⟨(some 17), some undefA, none, false, .pu (.mov (.s 2))⟩,
   ⟨(some 18), some undefA, none, false, .call 72 [(.s 15), (.s 16), (.s 17)]⟩,
   ⟨(some 11), some undefA, none, false, .pu (.mov (.s 18))⟩])
 (.seq (.ops [⟨(some 19), some undefA, none, false, .pu (.mov (.s 11))⟩,
   ⟨(some 20), some undefA, none, false, .pu (.bin .neq (.s 19) (.c (.int .i64 0)))⟩])
 (.cond (.s 20) (.seq (.ops [⟨(some 21), some undefA, none, false, .pu (.mov (.s 11))⟩,
    ⟨(some 10), some undefA, none, false, .pu (.mov (.s 21))⟩])
  (.ret))
 (.skip))))
 (.seq (.seq (.ops [⟨(some 22), some undefA, none, false, .pu (.mov (.s 4))⟩,
   ⟨(some 23), some undefA, none, false, .pu (.badr none 5)⟩,
   ⟨(some 24), some undefA, none, false, .pu (.bget (some 23) 5 0 1 false)⟩,
   ⟨(some 25), some undefA, none, false, .call 73 [(.s 22), (.s 24)]⟩,
   ⟨(some 26), some undefA, none, false, .pu (.mov (.s 3))⟩,
   ⟨(some 27), some undefA, none, false, .call 83 [(.s 26)]⟩,
   ⟨(some 28), some undefA, none, false, .ha (.blds 1 2 [.int .i64 0] [(0, 1, (.s 25)), (1, 1, (.s 27))])⟩,
   ⟨(some 29), some undefA, none, false, .call 57 [(.s 28)]⟩,
   ⟨(some 12), some undefA, none, false, .pu (.mov (.s 29))⟩])
 (.seq (.ops [⟨(some 30), some undefA, none, false, .pu (.mov (.s 12))⟩,
   ⟨(some 31), some undefA, none, false, .pu (.bin .neq (.s 30) (.c (.int .i64 0)))⟩])
 (.cond (.s 31) (.seq (.ops [⟨(some 32), some undefA, none, false, .pu (.mov (.s 12))⟩,
    ⟨(some 10), some undefA, none, false, .pu (.mov (.s 32))⟩])
  (.ret))
 (.skip))))
 (.seq (.seq (.ops [⟨(some 33), some undefA, none, false, .pu (.mov (.s 4))⟩,
   ⟨(some 34), some undefA, none, false, .pu (.mov (.s 1))⟩,
   ⟨(some 35), some undefA, none, false, .call 84 [(.s 33), (.s 34)]⟩,
   ⟨(some 36), some undefA, none, false, .pu (.not (.s 35))⟩,
   ⟨(some 37), some undefA, none, false, .pu (.mov (.s 36))⟩,
   ⟨(some 38), some undefA, (some (37, false)), false, .pu (.mov (.s 4))⟩,
   ⟨(some 39), some undefA, (some (37, false)), false, .pu (.mov (.s 2))⟩,
   ⟨(some 40), some undefA, (some (37, false)), false, .call 84 [(.s 38), (.s 39)]⟩,
   ⟨(some 41), some undefA, none, false, .pu (.pick (.s 37) (.c (.bool true)) (.s 40))⟩])
 (.cond (.s 41) (.seq (.ops [⟨(some 10), some undefA, none, false, .pu (.mov (.c (.int .i64 7)))⟩])
  (.ret))
 (.skip)))
 (.seq (.seq (.ops [⟨(some 42), some undefA, none, false, .pu (.badr none 5)⟩,
   ⟨(some 43), some undefA, none, false, .pu (.bget (some 42) 5 1 1 false)⟩,
   ⟨(some 44), some undefA, none, false, .pu (.len (.s 43))⟩,
   ⟨(some 45), some undefA, none, false, .pu (.mov (.c (.int .i64 0)))⟩])
 (.block 0 (.loop (.seq (.ops [⟨(some 46), some undefA, none, false, .pu (.bin .lss (.s 45) (.s 44))⟩])
   (.seq (.cond (.s 46) (.skip)
   (.exit 0))
   (.seq (.block 1 (.seq (.ops [⟨(some 47), some undefA, none, false, .pu (.idx 3 (.s 43) (.s 45))⟩,
      ⟨(some 48), some undefA, none, false, .ld (.ld 3 true (.s 47))⟩,
      ⟨(some 14), some (.junk), none, false, .pu (.bnew (.c (.agg [.int .i64 0, .int .i64 0, .int .i64 0])))⟩,
      ⟨(some 14), none, none, false, .pu (.bset none 14 0 3 (.s 48))⟩])
    (.seq (.ops [⟨(some 49), some undefA, none, false, .pu (.mov (.s 4))⟩,
      ⟨(some 50), some undefA, none, false, .pu (.badr none 14)⟩,
      ⟨(some 51), some undefA, none, false, .pu (.bget (some 50) 14 0 1 false)⟩,
      ⟨(some 52), some undefA, none, false, .call 84 [(.s 49), (.s 51)]⟩,
      ⟨(some 53), some undefA, none, false, .pu (.mov (.s 4))⟩,
      ⟨(some 54), some undefA, none, false, .pu (.badr none 14)⟩,
      ⟨(some 55), some undefA, none, false, .pu (.bget (some 54) 14 1 1 false)⟩,
      ⟨(some 56), some undefA, none, false, .call 84 [(.s 53), (.s 55)]⟩,
      ⟨(some 57), some undefA, none, false, .pu (.eqb true (.s 52) (.s 56))⟩,
      ⟨(some 58), some undefA, none, false, .pu (.mov (.s 57))⟩,
      ⟨(some 59), some undefA, (some (58, true)), false, .pu (.badr none 14)⟩,
      ⟨(some 60), some undefA, (some (58, true)), false, .pu (.bget (some 59) 14 2 1 false)⟩,
      ⟨(some 61), some undefA, (some (58, true)), false, .pu (.mov (.s 3))⟩,
      ⟨(some 62), some undefA, (some (58, true)), false, .pu (.bin .leq (.s 60) (.s 61))⟩,
      ⟨(some 63), some undefA, none, false, .pu (.pick (.s 58) (.s 62) (.c (.bool false)))⟩])
    (.cond (.s 63) (.seq (.ops [⟨(some 10), some undefA, none, false, .pu (.mov (.c (.int .i64 7)))⟩])
     (.ret))
    (.skip)))))
   (.ops [⟨(some 64), some undefA, none, false, .pu (.bin .add (.s 45) (.c (.int .i64 1)))⟩,
     ⟨(some 45), some undefA, none, false, .pu (.mov (.s 64))⟩])))))))
 (.seq (.ops [⟨(some 10), some undefA, none, false, .pu (.mov (.c (.int .i64 0)))⟩])
 (.ret))))))⟩
theorem t37 : trF Try.prog [5, 14] [] Try.f37 = some m37 := by kernel_rfl
/-- selion/road.Wall [loop [12, 15, 39, 40]] -/
def m39 : MFun := ⟨56, [4, 13, 17], [.mov (.s 8), .mov (.s 9), .mov (.s 10)],
 .seq (.ops [⟨(some 4), some (.junk), none, false, .pu (.bnew (.s 0))⟩,
   ⟨(some 8), some undefA, none, false, .pu (.mov (.c (.nilS)))⟩,
   ⟨(some 9), some undefA, none, false, .pu (.mov (.c (.bool false)))⟩,
   ⟨(some 10), some undefA, none, false, .pu (.mov (.c (.int .i64 0)))⟩])
 (.seq (.seq (.ops [⟨(some 19), some undefA, none, false, .pu (.bget none 4 0 2 true)⟩,
   ⟨(some 20), some undefA, none, false, .pu (.mov (.s 1))⟩,
   ⟨(some 21), some undefA, none, false, .pu (.mov (.s 2))⟩,
   ⟨(some 22), some undefA, none, false, .pu (.mov (.s 3))⟩,
   ⟨(some 23), some undefA, none, false, .call 85 [(.s 19), (.s 20), (.s 21), (.s 22)]⟩,
   ⟨(some 11), some undefA, none, false, .pu (.mov (.s 23))⟩])
 (.seq (.ops [⟨(some 24), some undefA, none, false, .pu (.mov (.s 11))⟩,
   ⟨(some 25), some undefA, none, false, .pu (.bin .neq (.s 24) (.c (.int .i64 0)))⟩])
 (.cond (.s 25) (.seq (.ops [⟨(some 26), some undefA, none, false, .pu (.mov (.s 11))⟩,
    ⟨(some 8), some undefA, none, false, .pu (.mov (.c (.nilS)))⟩,
    ⟨(some 9), some undefA, none, false, .pu (.mov (.c (.bool false)))⟩,
    ⟨(some 10), some undefA, none, false, .pu (.mov (.s 26))⟩])
  (.ret))
 (.skip))))
 (.seq (.ops [⟨(some 27), some undefA, none, false, .pu (.bget none 4 0 2 true)⟩,
   ⟨(some 28), some undefA, none, false, .pu (.mov (.s 1))⟩,
   ⟨(some 29), some undefA, none, false, .pu (.mov (.s 3))⟩,
   ⟨(some 30), some undefA, none, false, .call 81 [(.s 27), (.s 28), (.s 29)]⟩,
   ⟨(some 12), some undefA, none, false, .pu (.mov (.s 30))⟩])
 (.seq (.seq (.ops [⟨(some 32), some undefA, none, false, .pu (.mov (.s 12))⟩,
   ⟨(some 33), some undefA, none, false, .pu (.mov (.s 2))⟩,
   ⟨(some 34), some undefA, none, false, .ld (.look (.agg [.int .i64 0, .int .i64 0]) true (.s 32) (.s 33))⟩,
   ⟨(some 31), some undefA, none, false, .pu (.mov (.s 34))⟩,
   ⟨(some 35), some undefA, none, false, .pu (.extr 0 (.s 31))⟩,
   ⟨(some 36), some undefA, none, false, .pu (.extr 1 (.s 31))⟩,
   ⟨(some 13), some (.junk), none, false, .pu (.bnew (.c (.agg [.int .i64 0, .int .i64 0])))⟩,
   ⟨(some 13), none, none, false, .pu (.bset none 13 0 2 (.s 35))⟩,
   ⟨(some 14), some undefA, none, false, .pu (.mov (.s 36))⟩])
 (.seq (.ops [⟨(some 37), some undefA, none, false, .pu (.mov (.s 14))⟩])
 (.cond (.s 37) (.seq (.ops [⟨(some 8), some undefA, none, false, .pu (.mov (.c (.nilS)))⟩,
    ⟨(some 9), some undefA, none, false, .pu (.mov (.c (.bool false)))⟩,
    ⟨(some 10), some undefA, none, false, .pu (.mov (.c (.int .i64 0)))⟩])
  (.ret))
 (.skip))))
 (.seq (.ops [⟨(some 15), some undefA, none, false, .pu (.mov (.c (.nilS)))⟩])
 (.seq (.seq (.ops [⟨(some 38), some undefA, none, false, .pu (.badr none 4)⟩,
   ⟨(some 39), some undefA, none, false, .pu (.bget (some 38) 4 0 1 false)⟩,
   ⟨(some 40), some undefA, none, false, .pu (.mov (.c (.int .i64 0)))⟩])
 (.block 0 (.loop (.seq (.ops [⟨(some 41), some undefA, none, false, .pu (.bin .lss (.s 40) (.s 39))⟩])
   (.seq (.cond (.s 41) (.skip)
   (.exit 0))
   (.seq (.block 1 (.seq (.ops [⟨(some 42), some undefA, none, false, .pu (.mov (.s 40))⟩,
      ⟨(some 16), some undefA, none, false, .pu (.mov (.s 42))⟩])
    (.seq (.ops [⟨(some 44), some undefA, none, false, .pu (.mov (.s 12))⟩,
      ⟨(some 45), some undefA, none, false, .pu (.mov (.s 16))⟩,
      ⟨(some 46), some undefA, none, false, .ld (.look (.agg [.int .i64 0, .int .i64 0]) true (.s 44) (.s 45))⟩,
      ⟨(some 43), some undefA, none, false, .pu (.mov (.s 46))⟩,
      ⟨(some 47), some undefA, none, false, .pu (.extr 0 (.s 43))⟩,
      ⟨(some 48), some undefA, none, false, .pu (.extr 1 (.s 43))⟩,
      ⟨(some 17), some (.junk), none, false, .pu (.bnew (.c (.agg [.int .i64 0, .int .i64 0])))⟩,
      ⟨(some 17), none, none, false, .pu (.bset none 17 0 2 (.s 47))⟩,
      ⟨(some 18), some undefA, none, false, .pu (.mov (.s 48))⟩])
    (.seq (.ops [⟨(some 49), some undefA, none, false, .pu (.mov (.s 18))⟩])
    (.cond (.s 49) (.ops [⟨(some 50), some undefA, none, false, .pu (.mov (.s 15))⟩,
       ⟨(some 51), some undefA, none, false, .pu (.mov (.s 16))⟩,
       ⟨(some 52), some undefA, none, false, .ha (.blds 1 1 [.int .i64 0] [(0, 1, (.s 51))])⟩,
       ⟨(some 53), some undefA, none, false, .ha (.app 1 (.s 50) (.s 52))⟩,
       ⟨(some 15), some undefA, none, false, .pu (.mov (.s 53))⟩])
    (.skip))))))
   (.ops [⟨(some 54), some undefA, none, false, .pu (.bin .add (.s 40) (.c (.int .i64 1)))⟩,
     ⟨(some 40), some undefA, none, false, .pu (.mov (.s 54))⟩])))))))
 (.seq (.ops [⟨(some 55), some undefA, none, false, .pu (.mov (.s 15))⟩,
   ⟨(some 8), some undefA, none, false, .pu (.mov (.s 55))⟩,
   ⟨(some 9), some undefA, none, false, .pu (.mov (.c (.bool true)))⟩,
   ⟨(some 10), some undefA, none, false, .pu (.mov (.c (.int .i64 0)))⟩])
 (.ret)))))))⟩
theorem t39 : trF Try.prog [4, 13, 17] [] Try.f39 = some m39 := by kernel_rfl
/-- selion/road.Better [loop [1, 2, 21, 22, 23], loop [1, 2, 10, 21, 22, 23, 28, 29, 30]] -/
def m41 : MFun := ⟨59, [2, 12], [.mov (.s 4), .mov (.s 5), .mov (.s 6), .mov (.s 7)],
 .seq (.ops [⟨(some 2), some (.junk), none, false, .pu (.bnew (.s 0))⟩,
   ⟨(some 4), some undefA, none, false, .pu (.mov (.c (.int .i64 0)))⟩,
   ⟨(some 5), some undefA, none, false, .pu (.mov (.c (.int .i64 0)))⟩,
   ⟨(some 6), some undefA, none, false, .pu (.mov (.c (.bool false)))⟩,
   ⟨(some 7), some undefA, none, false, .pu (.mov (.c (.int .i64 0)))⟩])
 (.seq (.seq (.ops [⟨(some 15), some undefA, none, false, .pu (.bget none 2 0 2 true)⟩,
   ⟨(some 16), some undefA, none, false, .pu (.mov (.s 1))⟩,
   ⟨(some 17), some undefA, none, false, .call 78 [(.s 15), (.s 16)]⟩,
   ⟨(some 8), some undefA, none, false, .pu (.mov (.s 17))⟩])
 (.seq (.ops [⟨(some 18), some undefA, none, false, .pu (.mov (.s 8))⟩,
   ⟨(some 19), some undefA, none, false, .pu (.bin .neq (.s 18) (.c (.int .i64 0)))⟩])
 (.cond (.s 19) (.seq (.ops [⟨(some 20), some undefA, none, false, .pu (.mov (.s 8))⟩,
    ⟨(some 4), some undefA, none, false, .pu (.mov (.c (.int .i64 0)))⟩,
    ⟨(some 5), some undefA, none, false, .pu (.mov (.c (.int .i64 0)))⟩,
    ⟨(some 6), some undefA, none, false, .pu (.mov (.c (.bool false)))⟩,
    ⟨(some 7), some undefA, none, false, .pu (.mov (.s 20))⟩])
  (.ret))
 (.skip))))
 (.seq (.seq (.ops [⟨(some 21), some undefA, none, false, .pu (.mov (.s 1))⟩,
   ⟨(some 22), some undefA, none, false, .pu (.len (.s 21))⟩,
   ⟨(some 23), some undefA, none, false, .pu (.mov (.c (.int .i64 0)))⟩])
 (.block 0 (.loop (.seq (.ops [⟨(some 24), some undefA, none, false, .pu (.bin .lss (.s 23) (.s 22))⟩])
   (.seq (.cond (.s 24) (.skip)
   (.exit 0))
   (.seq (.block 1 (.seq (.ops [⟨(some 25), some undefA, none, false, .pu (.idx 1 (.s 21) (.s 23))⟩,
      ⟨(some 26), some undefA, none, false, .ld (.ld 1 false (.s 25))⟩,
      ⟨(some 10), some undefA, none, false, .pu (.mov (.s 26))⟩])
    (.seq (.ops [⟨(some 27), some undefA, none, false, .pu (.badr none 2)⟩,
      ⟨(some 28), some undefA, none, false, .pu (.bget (some 27) 2 1 1 false)⟩,
      ⟨(some 29), some undefA, none, false, .pu (.len (.s 28))⟩,
      ⟨(some 30), some undefA, none, false, .pu (.mov (.c (.int .i64 0)))⟩])
    (.block 2 (.loop (.seq (.ops [⟨(some 31), some undefA, none, false, .pu (.bin .lss (.s 30) (.s 29))⟩])
      (.seq (.cond (.s 31) (.skip)
      (.exit 2))
      (.seq (.block 3 (.seq (.ops [⟨(some 32), some undefA, none, false, .pu (.mov (.s 30))⟩,
         ⟨(some 33), some undefA, none, false, .pu (.idx 3 (.s 28) (.s 30))⟩,
         ⟨(some 34), some undefA, none, false, .ld (.ld 3 true (.s 33))⟩,
         ⟨(some 12), some (.junk), none, false, .pu (.bnew (.c (.agg [.int .i64 0, .int .i64 0, .int .i64 0])))⟩,
         ⟨(some 11), some undefA, none, false, .pu (.mov (.s 32))⟩,
         ⟨(some 12), none, none, false, .pu (.bset none 12 0 3 (.s 34))⟩])
       (.seq (.ops [⟨(some 36), some undefA, none, false, .pu (.bget none 2 0 2 true)⟩,
         ⟨(some 37), some undefA, none, false, .pu (.mov (.s 1))⟩,
         ⟨(some 38), some undefA, none, false, .pu (.mov (.s 10))⟩,
         ⟨(some 39), some undefA, none, false, .pu (.mov (.s 11))⟩,
         ⟨(some 40), some undefA, none, false, .call 86 [(.s 36), (.s 37), (.s 38), (.s 39)]⟩,
         ⟨(some 35), some undefA, none, false, .pu (.mov (.s 40))⟩,
         ⟨(some 41), some undefA, none, false, .pu (.extr 0 (.s 35))⟩,
         ⟨(some 42), some undefA, none, false, .pu (.extr 1 (.s 35))⟩,
         ⟨(some 13), some undefA, none, false, .pu (.mov (.s 41))⟩,
         ⟨(some 14), some undefA, none, false, .pu (.mov (.s 42))⟩])
       (.seq (.ops [⟨(some 43), some undefA, none, false, .pu (.mov (.s 14))⟩,
         ⟨(some 44), some undefA, none, false, .pu (.mov (.s 43))⟩,
         ⟨(some 45), some undefA, (some (44, true)), true, .pu (.badr none 12)⟩,
         ⟨(some 46), some undefA, (some (44, true)), true, .pu (.bget (some 45) 12 2 1 false)⟩,
         ⟨(some 47), some undefA, (some (44, true)), false, .pu (.badr none 2)⟩,
         ⟨(some 48), some undefA, (some (44, true)), false, .pu (.bget (some 47) 2 1 1 false)⟩,
         ⟨(some 49), some undefA, (some (44, true)), false, .pu (.mov (.s 10))⟩,
         ⟨(some 50), some undefA, (some (44, true)), false, .pu (.idx 3 (.s 48) (.s 49))⟩,
         ⟨(some 51), some undefA, (some (44, true)), false, .pu (.fad 2 (.s 50))⟩,
         ⟨(some 52), some undefA, (some (44, true)), true, .ld (.ld 1 false (.s 51))⟩,
         ⟨(some 53), some undefA, (some (44, true)), false, .pu (.bin .lss (.s 46) (.s 52))⟩,
         ⟨(some 54), some undefA, none, false, .pu (.pick (.s 44) (.s 53) (.c (.bool false)))⟩])
       (.cond (.s 54) (.seq (.ops [⟨(some 55), some undefA, none, false, .pu (.mov (.s 10))⟩,
          ⟨(some 56), some undefA, none, false, .pu (.mov (.s 11))⟩,
          ⟨(some 4), some undefA, none, false, .pu (.mov (.s 55))⟩,
          ⟨(some 5), some undefA, none, false, .pu (.mov (.s 56))⟩,
          ⟨(some 6), some undefA, none, false, .pu (.mov (.c (.bool true)))⟩,
          ⟨(some 7), some undefA, none, false, .pu (.mov (.c (.int .i64 0)))⟩])
        (.ret))
       (.skip))))))
      (.ops [⟨(some 57), some undefA, none, false, .pu (.bin .add (.s 30) (.c (.int .i64 1)))⟩,
        ⟨(some 30), some undefA, none, false, .pu (.mov (.s 57))⟩])))))))))
   (.ops [⟨(some 58), some undefA, none, false, .pu (.bin .add (.s 23) (.c (.int .i64 1)))⟩,
     ⟨(some 23), some undefA, none, false, .pu (.mov (.s 58))⟩])))))))
 (.seq (.ops [⟨(some 4), some undefA, none, false, .pu (.mov (.c (.int .i64 0)))⟩,
   ⟨(some 5), some undefA, none, false, .pu (.mov (.c (.int .i64 0)))⟩,
   ⟨(some 6), some undefA, none, false, .pu (.mov (.c (.bool false)))⟩,
   ⟨(some 7), some undefA, none, false, .pu (.mov (.c (.int .i64 0)))⟩])
 (.ret))))⟩
theorem t41 : trF Try.prog [2, 12] [] Try.f41 = some m41 := by kernel_rfl
/-- selion/road.Always [] -/
def m45 : MFun := ⟨20, [], [.mov (.s 2), .mov (.s 3)],
 .seq (.ops [⟨(some 1), some undefA, none, false, .ha (.newv (.s 0))⟩,
   ⟨(some 2), some undefA, none, false, .pu (.mov (.c (.nilS)))⟩,
   ⟨(some 3), some undefA, none, false, .pu (.mov (.c (.int .i64 0)))⟩])
 (.seq (.seq (.ops [⟨(some 7), some undefA, none, false, .ld (.ld 2 true (.s 1))⟩,
   ⟨(some 8), some undefA, none, false, .call 28 [(.s 7)]⟩,
   ⟨(some 4), some undefA, none, false, .pu (.mov (.s 8))⟩])
 (.seq (.ops [⟨(some 9), some undefA, none, false, .pu (.mov (.s 4))⟩,
   ⟨(some 10), some undefA, none, false, .pu (.bin .neq (.s 9) (.c (.int .i64 0)))⟩])
 (.cond (.s 10) (.seq (.ops [⟨(some 11), some undefA, none, false, .pu (.mov (.s 4))⟩,
    ⟨(some 2), some undefA, none, false, .pu (.mov (.c (.nilS)))⟩,
    ⟨(some 3), some undefA, none, false, .pu (.mov (.s 11))⟩])
  (.ret))
 (.skip))))
 (.seq (.ops [⟨(some 12), some undefA, none, false, .ld (.ld 2 true (.s 1))⟩,
   ⟨(some 13), some undefA, none, false, .call 59 [(.s 12)]⟩,
   ⟨(some 5), some undefA, none, false, .ha (.newv (.c (.nilS)))⟩,
   ⟨none, some undefA, none, false, .ha (.st 1 (.s 5) (.s 13))⟩])
 (.seq (.ops [⟨(some 14), some undefA, none, false, .ld (.ld 2 true (.s 1))⟩,
   ⟨(some 15), some undefA, none, false, .ld (.ld 1 false (.s 5))⟩,
   ⟨(some 16), some undefA, none, false, .call 61 [(.s 14), (.s 15)]⟩,
   ⟨(some 6), some undefA, none, false, .ha (.newv (.c (.nilS)))⟩,
   ⟨none, some undefA, none, false, .ha (.st 1 (.s 6) (.s 16))⟩])
 (.seq (.ops [⟨(some 17), some undefA, none, false, .ld (.ld 2 true (.s 1))⟩,
   ⟨(some 18), some undefA, none, false, .pu (.mkf 90 [(.s 1), (.s 5), (.s 6)])⟩,
   ⟨(some 19), some undefA, none, false, .call 89 [(.s 17), (.s 18)]⟩,
   ⟨(some 2), some undefA, none, false, .pu (.mov (.s 19))⟩,
   ⟨(some 3), some undefA, none, false, .pu (.mov (.c (.int .i64 0)))⟩])
 (.ret)))))⟩
theorem t45 : trF Try.prog [] [] Try.f45 = some m45 := by kernel_rfl
/-- selion/road.Never [] -/
def m47 : MFun := ⟨20, [], [.mov (.s 2), .mov (.s 3)],
 .seq (.ops [⟨(some 1), some undefA, none, false, .ha (.newv (.s 0))⟩,
   ⟨(some 2), some undefA, none, false, .pu (.mov (.c (.nilS)))⟩,
   ⟨(some 3), some undefA, none, false, .pu (.mov (.c (.int .i64 0)))⟩])
 (.seq (.seq (.ops [⟨(some 7), some undefA, none, false, .ld (.ld 2 true (.s 1))⟩,
   ⟨(some 8), some undefA, none, false, .call 28 [(.s 7)]⟩,
   ⟨(some 4), some undefA, none, false, .pu (.mov (.s 8))⟩])
 (.seq (.ops [⟨(some 9), some undefA, none, false, .pu (.mov (.s 4))⟩,
   ⟨(some 10), some undefA, none, false, .pu (.bin .neq (.s 9) (.c (.int .i64 0)))⟩])
 (.cond (.s 10) (.seq (.ops [⟨(some 11), some undefA, none, false, .pu (.mov (.s 4))⟩,
    ⟨(some 2), some undefA, none, false, .pu (.mov (.c (.nilS)))⟩,
    ⟨(some 3), some undefA, none, false, .pu (.mov (.s 11))⟩])
  (.ret))
 (.skip))))
 (.seq (.ops [⟨(some 12), some undefA, none, false, .ld (.ld 2 true (.s 1))⟩,
   ⟨(some 13), some undefA, none, false, .call 59 [(.s 12)]⟩,
   ⟨(some 5), some undefA, none, false, .ha (.newv (.c (.nilS)))⟩,
   ⟨none, some undefA, none, false, .ha (.st 1 (.s 5) (.s 13))⟩])
 (.seq (.ops [⟨(some 14), some undefA, none, false, .ld (.ld 2 true (.s 1))⟩,
   ⟨(some 15), some undefA, none, false, .ld (.ld 1 false (.s 5))⟩,
   ⟨(some 16), some undefA, none, false, .call 61 [(.s 14), (.s 15)]⟩,
   ⟨(some 6), some undefA, none, false, .ha (.newv (.c (.nilS)))⟩,
   ⟨none, some undefA, none, false, .ha (.st 1 (.s 6) (.s 16))⟩])
 (.seq (.ops [⟨(some 17), some undefA, none, false, .ld (.ld 2 true (.s 1))⟩,
   ⟨(some 18), some undefA, none, false, .pu (.mkf 92 [(.s 1), (.s 5), (.s 6)])⟩,
   ⟨(some 19), some undefA, none, false, .call 89 [(.s 17), (.s 18)]⟩,
   ⟨(some 2), some undefA, none, false, .pu (.mov (.s 19))⟩,
   ⟨(some 3), some undefA, none, false, .pu (.mov (.c (.int .i64 0)))⟩])
 (.ret)))))⟩
theorem t47 : trF Try.prog [] [] Try.f47 = some m47 := by kernel_rfl
/-- selion/selionref04.Has [loop [0, 1, 5]] -/
def m51 : MFun := ⟨18, [], [.mov (.s 4)],
 .seq (.ops [⟨(some 4), some undefA, none, false, .pu (.mov (.c (.bool false)))⟩])
 (.seq (.seq (.ops [⟨(some 5), some undefA, none, false, .pu (.mov (.c (.int .i64 0)))⟩])
 (.block 0 (.loop (.seq (.seq (.ops [⟨(some 6), some undefA, none, false, .pu (.mov (.s 5))⟩,
     ⟨(some 7), some undefA, none, false, .pu (.mov (.s 0))⟩,
     ⟨(some 8), some undefA, none, false, .pu (.len (.s 7))⟩,
     ⟨(some 9), some undefA, none, false, .pu (.bin .lss (.s 6) (.s 8))⟩])
   (.cond (.s 9) (.skip)
   (.exit 0)))
   (.seq (.block 1 (.seq (.ops [⟨(some 12), some undefA, none, false, .pu (.mov (.s 0))⟩,
      ⟨(some 13), some undefA, none, false, .pu (.mov (.s 5))⟩,
      ⟨(some 14), some undefA, none, false, .pu (.idx 1 (.s 12) (.s 13))⟩,
      ⟨(some 15), some undefA, none, false, .ld (.ld 1 false (.s 14))⟩,
      ⟨(some 16), some undefA, none, false, .pu (.mov (.s 1))⟩,
      ⟨(some 17), some undefA, none, false, .pu (.bin .eql (.s 15) (.s 16))⟩])
    (.cond (.s 17) (.seq (.ops [⟨(some 4), some undefA, none, false, .pu (.mov (.c (.bool true)))⟩])
     (.ret))
    (.skip))))
   (.ops [⟨(some 10), some undefA, none, false, .pu (.mov (.s 5))⟩,
     ⟨(some 11), some undefA, none, false, .pu (.bin .add (.s 10) (.c (.int .i64 1)))⟩,
     ⟨(some 5), some undefA, none, false, .pu (.mov (.s 11))⟩]))))))
 (.seq (.ops [⟨(some 4), some undefA, none, false, .pu (.mov (.c (.bool false)))⟩])
 (.ret)))⟩
theorem t51 : trF Try.prog [] [] Try.f51 = some m51 := by kernel_rfl
/-- selion/road.isSet [loop [0, 1, 7, 8, 9]] -/
def m73 : MFun := ⟨33, [], [.mov (.s 4)],
 .seq (.ops [⟨(some 4), some undefA, none, false, .pu (.mov (.c (.int .i64 0)))⟩])
 (.seq (.seq (.ops [⟨(some 7), some undefA, none, false, .pu (.mov (.s 0))⟩,
   ⟨(some 8), some undefA, none, false, .pu (.len (.s 7))⟩,
   ⟨(some 9), some undefA, none, false, .pu (.mov (.c (.int .i64 0)))⟩])
 (.block 0 (.loop (.seq (.ops [⟨(some 10), some undefA, none, false, .pu (.bin .lss (.s 9) (.s 8))⟩])
   (.seq (.cond (.s 10) (.skip)
   (.exit 0))
   (.seq (.block 1 (.seq (.ops [⟨(some 11), some undefA, none, false, .pu (.mov (.s 9))⟩,
      ⟨(some 12), some undefA, none, false, .pu (.idx 1 (.s 7) (.s 9))⟩,
      ⟨(some 13), some undefA, none, false, .ld (.ld 1 false (.s 12))⟩,
      ⟨(some 5), some undefA, none, false, .pu (.mov (.s 11))⟩,
      ⟨(some 6), some undefA, none, false, .pu (.mov (.s 13))⟩])
    (.seq (.ops [⟨(some 14), some undefA, none, false, .pu (.mov (.s 6))⟩,
      ⟨(some 15), some undefA, none, false, .pu (.mov (.s 1))⟩,
      ⟨(some 16), some undefA, none, false, .pu (.bin .sub (.s 15) (.c (.int .i64 1)))⟩,
      ⟨(some 17), some undefA, none, false, .call 76 [(.s 14), (.c (.int .i64 0)), (.s 16)]⟩,
      ⟨(some 18), some undefA, none, false, .pu (.not (.s 17))⟩,
      ⟨(some 19), some undefA, none, false, .pu (.mov (.s 18))⟩,
      ⟨(some 20), some undefA, (some (19, false)), false, .pu (.mov (.s 5))⟩,
      ⟨(some 21), some undefA, (some (19, false)), false, .pu (.bin .gtr (.s 20) (.c (.int .i64 0)))⟩,
      ⟨(some 22), some undefA, (some (19, false)), false, .pu (.mov (.s 21))⟩,
      ⟨(some 23), some undefA, (some (22, true)), false, .pu (.mov (.s 0))⟩,
      ⟨(some 24), some undefA, (some (22, true)), false, .pu (.mov (.s 5))⟩,
      ⟨(some 25), some undefA, (some (22, true)), false, .pu (.bin .sub (.s 24) (.c (.int .i64 1)))⟩,
      ⟨(some 26), some undefA, (some (22, true)), false, .pu (.idx 1 (.s 23) (.s 25))⟩,
      ⟨(some 27), some undefA, (some (22, true)), false, .ld (.ld 1 false (.s 26))⟩,
      ⟨(some 28), some undefA, (some (22, true)), false, .pu (.mov (.s 6))⟩,
      ⟨(some 29), some undefA, (some (22, true)), false, .pu (.bin .geq (.s 27) (.s 28))⟩,
      ⟨(some 30), some undefA, (some (19, false)), false, .pu (.pick (.s 22) (.s 29) (.c (.bool false)))⟩,
      ⟨(some 31), some undefA, none, false, .pu (.pick (.s 19) (.c (.bool true)) (.s 30))⟩])
    (.cond (.s 31) (.seq (.ops [⟨(some 4), some undefA, none, false, .pu (.mov (.c (.int .i64 1)))⟩])
     (.ret))
    (.skip)))))
   (.ops [⟨(some 32), some undefA, none, false, .pu (.bin .add (.s 9) (.c (.int .i64 1)))⟩,
     ⟨(some 9), some undefA, none, false, .pu (.mov (.s 32))⟩])))))))
 (.seq (.ops [⟨(some 4), some undefA, none, false, .pu (.mov (.c (.int .i64 0)))⟩])
 (.ret)))⟩
theorem t73 : trF Try.prog [] [] Try.f73 = some m73 := by kernel_rfl
/-- selion/road.treed [] -/
def m78 : MFun := ⟨24, [2], [.mov (.s 4)],
 .seq (.ops [⟨(some 2), some (.junk), none, false, .pu (.bnew (.s 0))⟩,
   ⟨(some 4), some undefA, none, false, .pu (.mov (.c (.int .i64 0)))⟩])
 (.seq (.seq (.ops [⟨(some 7), some undefA, none, false, .pu (.bget none 2 0 2 true)⟩,
   ⟨(some 8), some undefA, none, false, .call 28 [(.s 7)]⟩,
   ⟨(some 5), some undefA, none, false, .pu (.mov (.s 8))⟩])
 (.seq (.ops [⟨(some 9), some undefA, none, false, .pu (.mov (.s 5))⟩,
   ⟨(some 10), some undefA, none, false, .pu (.bin .neq (.s 9) (.c (.int .i64 0)))⟩])
 (.cond (.s 10) (.seq (.ops [⟨(some 11), some undefA, none, false, .pu (.mov (.s 5))⟩,
    ⟨(some 4), some undefA, none, false, .pu (.mov (.s 11))⟩])
  (.ret))
 (.skip))))
 (.seq (.seq (.ops [⟨(some 12), some undefA, none, false, .pu (.mov (.s 1))⟩,
   ⟨(some 13), some undefA, none, false, .pu (.badr none 2)⟩,
   ⟨(some 14), some undefA, none, false, .pu (.bget (some 13) 2 1 1 false)⟩,
   ⟨(some 15), some undefA, none, false, .pu (.len (.s 14))⟩,
   ⟨(some 16), some undefA, none, false, .call 73 [(.s 12), (.s 15)]⟩,
   ⟨(some 6), some undefA, none, false, .pu (.mov (.s 16))⟩])
 (.seq (.ops [⟨(some 17), some undefA, none, false, .pu (.mov (.s 6))⟩,
   ⟨(some 18), some undefA, none, false, .pu (.bin .neq (.s 17) (.c (.int .i64 0)))⟩])
 (.cond (.s 18) (.seq (.ops [⟨(some 19), some undefA, none, false, .pu (.mov (.s 6))⟩,
    ⟨(some 4), some undefA, none, false, .pu (.mov (.s 19))⟩])
  (.ret))
 (.skip))))
 (.seq (.seq (.ops [⟨(some 20), some undefA, none, false, .pu (.bget none 2 0 2 true)⟩,
   ⟨(some 21), some undefA, none, false, .pu (.mov (.s 1))⟩,
   ⟨(some 22), some undefA, none, false, .call 60 [(.s 20), (.s 21)]⟩,
   ⟨(some 23), some undefA, none, false, .pu (.not (.s 22))⟩])
 (.cond (.s 23) (.seq (.ops [⟨(some 4), some undefA, none, false, .pu (.mov (.c (.int .i64 7)))⟩])
  (.ret))
 (.skip)))
 (.seq (.ops [⟨(some 4), some undefA, none, false, .pu (.mov (.c (.int .i64 0)))⟩])
 (.ret)))))⟩
theorem t78 : trF Try.prog [2] [] Try.f78 = some m78 := by kernel_rfl
/-- selion/road.cost [loop [2, 5, 8, 9, 10]] -/
def m79 : MFun := ⟨24, [2], [.mov (.s 4)],
 .seq (.ops [⟨(some 2), some (.junk), none, false, .pu (.bnew (.s 0))⟩,
   ⟨(some 4), some undefA, none, false, .pu (.mov (.c (.int .i64 0)))⟩])
 (.seq (.ops [⟨(some 5), some undefA, none, false, .pu (.mov (.c (.int .i64 0)))⟩])
 (.seq (.seq (.ops [⟨(some 8), some undefA, none, false, .pu (.mov (.s 1))⟩,
   ⟨(some 9), some undefA, none, false, .pu (.len (.s 8))⟩,
   ⟨(some 10), some undefA, none, false, .pu (.mov (.c (.int .i64 0)))⟩])
 (.block 0 (.loop (.seq (.ops [⟨(some 11), some undefA, none, false, .pu (.bin .lss (.s 10) (.s 9))⟩])
   (.seq (.cond (.s 11) (.skip)
   (.exit 0))
   (.seq (.block 1 (.seq (.ops [⟨(some 12), some undefA, none, false, .pu (.idx 1 (.s 8) (.s 10))⟩,
      ⟨(some 13), some undefA, none, false, .ld (.ld 1 false (.s 12))⟩,
      ⟨(some 7), some undefA, none, false, .pu (.mov (.s 13))⟩])
    (.ops [⟨(some 14), some undefA, none, false, .pu (.mov (.s 5))⟩,
      ⟨(some 15), some undefA, none, false, .pu (.badr none 2)⟩,
      ⟨(some 16), some undefA, none, false, .pu (.bget (some 15) 2 1 1 false)⟩,
      ⟨(some 17), some undefA, none, false, .pu (.mov (.s 7))⟩,
      ⟨(some 18), some undefA, none, false, .pu (.idx 3 (.s 16) (.s 17))⟩,
      ⟨(some 19), some undefA, none, false, .pu (.fad 2 (.s 18))⟩,
      ⟨(some 20), some undefA, none, false, .ld (.ld 1 false (.s 19))⟩,
      ⟨(some 21), some undefA, none, false, .pu (.bin .add (.s 14) (.s 20))⟩,
      ⟨(some 5), some undefA, none, false, .pu (.mov (.s 21))⟩])))
   (.ops [⟨(some 22), some undefA, none, false, .pu (.bin .add (.s 10) (.c (.int .i64 1)))⟩,
     ⟨(some 10), some undefA, none, false, .pu (.mov (.s 22))⟩])))))))
 (.seq (.ops [⟨(some 23), some undefA, none, false, .pu (.mov (.s 5))⟩,
   ⟨(some 4), some undefA, none, false, .pu (.mov (.s 23))⟩])
 (.ret))))⟩
theorem t79 : trF Try.prog [2] [] Try.f79 = some m79 := by kernel_rfl
/-- selion/road.reached [scope [2, 3, 7, 8], loop [2, 3, 7, 8], loop [2, 3, 7, 8, 9, 28, 29, 30]] -/
def m81 : MFun := ⟨73, [3, 11, 13], [.mov (.s 6)],
 .seq (.ops [⟨(some 3), some (.junk), none, false, .pu (.bnew (.s 0))⟩,
   ⟨(some 6), some undefA, none, false, .pu (.mov (.c (.nilM)))⟩])
 (.scope 1000000 (.seq (.ops [⟨(some 15), some undefA, none, false, .ha .mkm⟩,
    ⟨(some 16), some undefA, none, false, .pu (.mov (.s 1))⟩,
    ⟨(some 17), some undefA, none, false, .pu (.build [.int .i64 0, .int .i64 0] [(0, 1, (.c (.int .i64 (-1)))), (1, 1, (.c (.int .i64 (-1))))])⟩,
    ⟨none, some undefA, none, false, .ha (.mset (.s 15) (.s 16) (.s 17))⟩,
    ⟨(some 18), some undefA, none, false, .pu (.mov (.s 15))⟩,
    ⟨(some 7), some undefA, none, false, .pu (.mov (.s 18))⟩])
  (.seq (.ops [⟨(some 19), some undefA, none, false, .pu (.mov (.s 1))⟩,
    ⟨(some 20), some undefA, none, false, .ha (.blds 1 1 [.int .i64 0] [(0, 1, (.s 19))])⟩,
    ⟨(some 8), some undefA, none, false, .pu (.mov (.s 20))⟩])
  (.seq (.label 0)
  (.seq (.block 0 (.loop (.seq (.seq (.ops [⟨(some 21), some undefA, none, false, .pu (.mov (.s 8))⟩,
      ⟨(some 22), some undefA, none, false, .pu (.len (.s 21))⟩,
      ⟨(some 23), some undefA, none, false, .pu (.bin .gtr (.s 22) (.c (.int .i64 0)))⟩])
    (.cond (.s 23) (.skip)
    (.exit 0)))
    (.block 1 (.seq (.ops [⟨(some 24), some undefA, none, false, .pu (.mov (.s 8))⟩,
       ⟨(some 25), some undefA, none, false, .pu (.idx 1 (.s 24) (.c (.int .i64 0)))⟩,
       ⟨(some 26), some undefA, none, false, .ld (.ld 1 false (.s 25))⟩,
       ⟨(some 9), some undefA, none, false, .pu (.mov (.s 26))⟩])
     (.seq (.seq (.ops [⟨(some 27), some undefA, none, false, .pu (.badr none 3)⟩,
       ⟨(some 28), some undefA, none, false, .pu (.bget (some 27) 3 1 1 false)⟩,
       ⟨(some 29), some undefA, none, false, .pu (.len (.s 28))⟩,
       ⟨(some 30), some undefA, none, false, .pu (.mov (.c (.int .i64 0)))⟩])
     (.block 2 (.loop (.seq (.ops [⟨(some 31), some undefA, none, false, .pu (.bin .lss (.s 30) (.s 29))⟩])
       (.seq (.cond (.s 31) (.skip)
       (.exit 2))
       (.seq (.block 3 (.seq (.ops [⟨(some 32), some undefA, none, false, .pu (.mov (.s 30))⟩,
          ⟨(some 33), some undefA, none, false, .pu (.idx 3 (.s 28) (.s 30))⟩,
          ⟨(some 34), some undefA, none, false, .ld (.ld 3 true (.s 33))⟩,
          ⟨(some 11), some (.junk), none, false, .pu (.bnew (.c (.agg [.int .i64 0, .int .i64 0, .int .i64 0])))⟩,
          ⟨(some 10), some undefA, none, false, .pu (.mov (.s 32))⟩,
          ⟨(some 11), none, none, false, .pu (.bset none 11 0 3 (.s 34))⟩])
        (.seq (.ops [⟨(some 35), some undefA, none, false, .pu (.badr none 11)⟩,
          ⟨(some 36), some undefA, none, false, .pu (.bget (some 35) 11 1 1 false)⟩,
          ⟨(some 12), some undefA, none, false, .pu (.mov (.s 36))⟩])
        (.seq (.seq (.ops [⟨(some 37), some undefA, none, false, .pu (.mov (.s 9))⟩,
          ⟨(some 38), some undefA, none, false, .pu (.badr none 11)⟩,
          ⟨(some 39), some undefA, none, false, .pu (.bget (some 38) 11 1 1 false)⟩,
          ⟨(some 40), some undefA, none, false, .pu (.bin .eql (.s 37) (.s 39))⟩])
        (.cond (.s 40) (.ops [⟨(some 41), some undefA, none, false, .pu (.badr none 11)⟩,
           ⟨(some 42), some undefA, none, false, .pu (.bget (some 41) 11 0 1 false)⟩,
           ⟨(some 12), some undefA, none, false, .pu (.mov (.s 42))⟩])
        (.seq (.ops [⟨(some 43), some undefA, none, false, .pu (.mov (.s 9))⟩,
           ⟨(some 44), some undefA, none, false, .pu (.badr none 11)⟩,
           ⟨(some 45), some undefA, none, false, .pu (.bget (some 44) 11 0 1 false)⟩,
           ⟨(some 46), some undefA, none, false, .pu (.bin .neq (.s 43) (.s 45))⟩])
         (.cond (.s 46) (.exit 3)
         (.skip)))))
        (.seq (.seq (.ops [⟨(some 48), some undefA, none, false, .pu (.mov (.s 7))⟩,
          ⟨(some 49), some undefA, none, false, .pu (.mov (.s 12))⟩,
          ⟨(some 50), some undefA, none, false, .ld (.look (.agg [.int .i64 0, .int .i64 0]) true (.s 48) (.s 49))⟩,
          ⟨(some 47), some undefA, none, false, .pu (.mov (.s 50))⟩,
          ⟨(some 51), some undefA, none, false, .pu (.extr 0 (.s 47))⟩,
          ⟨(some 52), some undefA, none, false, .pu (.extr 1 (.s 47))⟩,
          ⟨(some 13), some (.junk), none, false, .pu (.bnew (.c (.agg [.int .i64 0, .int .i64 0])))⟩,
          ⟨(some 13), none, none, false, .pu (.bset none 13 0 2 (.s 51))⟩,
          ⟨(some 14), some undefA, none, false, .pu (.mov (.s 52))⟩])
        (.seq (.ops [⟨(some 53), some undefA, none, false, .pu (.mov (.s 14))⟩,
          ⟨(some 54), some undefA, none, false, .pu (.mov (.s 53))⟩,
          ⟨(some 55), some undefA, (some (54, false)), false, .pu (.badr none 11)⟩,
          ⟨(some 56), some undefA, (some (54, false)), false, .pu (.bget (some 55) 11 2 1 false)⟩,
          ⟨(some 57), some undefA, (some (54, false)), false, .pu (.mov (.s 2))⟩,
          ⟨(some 58), some undefA, (some (54, false)), false, .pu (.bin .gtr (.s 56) (.s 57))⟩,
          ⟨(some 59), some undefA, none, false, .pu (.pick (.s 54) (.c (.bool true)) (.s 58))⟩])
        (.cond (.s 59) (.exit 3)
        (.skip))))
        (.seq (.ops [⟨(some 60), some undefA, none, false, .pu (.mov (.s 7))⟩,
          ⟨(some 61), some undefA, none, false, .pu (.mov (.s 12))⟩,
          ⟨(some 62), some undefA, none, false, .pu (.mov (.s 10))⟩,
          ⟨(some 63), some undefA, none, false, .pu (.mov (.s 9))⟩,
          ⟨(some 64), some undefA, none, false, .pu (.build [.int .i64 0, .int .i64 0] [(0, 1, (.s 62)), (1, 1, (.s 63))])⟩,
          ⟨none, some undefA, none, false, .ha (.mset (.s 60) (.s 61) (.s 64))⟩])
        (.seq (.ops [⟨(some 65), some undefA, none, false, .pu (.mov (.s 8))⟩,
          ⟨(some 66), some undefA, none, false, .pu (.mov (.s 12))⟩,
          ⟨(some 67), some undefA, none, false, .ha (.blds 1 1 [.int .i64 0] [(0, 1, (.s 66))])⟩,
          ⟨(some 68), some undefA, none, false, .ha (.app 1 (.s 65) (.s 67))⟩,
          ⟨(some 8), some undefA, none, false, .pu (.mov (.s 68))⟩])
        (.exit 1))))))))
       (.ops [⟨(some 69), some undefA, none, false, .pu (.bin .add (.s 30) (.c (.int .i64 1)))⟩,
         ⟨(some 30), some undefA, none, false, .pu (.mov (.s 69))⟩])))))))
     (.ops [⟨(some 70), some undefA, none, false, .pu (.mov (.s 8))⟩,
       ⟨(some 71), some undefA, none, false, .pu (.slc 1 (.s 70) (some (.c (.int .i64 1))) none none)⟩,
       ⟨(some 8), some undefA, none, false, .pu (.mov (.s 71))⟩])))))))
  (.seq (.ops [⟨(some 72), some undefA, none, false, .pu (.mov (.s 7))⟩,
    ⟨(some 6), some undefA, none, false, .pu (.mov (.s 72))⟩])
  (.ret))))))
 (.seq (.skip)
  (.seq (.block 0 (.loop (.seq (.seq (.ops [⟨(some 21), some undefA, none, false, .pu (.mov (.s 8))⟩,
      ⟨(some 22), some undefA, none, false, .pu (.len (.s 21))⟩,
      ⟨(some 23), some undefA, none, false, .pu (.bin .gtr (.s 22) (.c (.int .i64 0)))⟩])
    (.cond (.s 23) (.skip)
    (.exit 0)))
    (.block 1 (.seq (.ops [⟨(some 24), some undefA, none, false, .pu (.mov (.s 8))⟩,
       ⟨(some 25), some undefA, none, false, .pu (.idx 1 (.s 24) (.c (.int .i64 0)))⟩,
       ⟨(some 26), some undefA, none, false, .ld (.ld 1 false (.s 25))⟩,
       ⟨(some 9), some undefA, none, false, .pu (.mov (.s 26))⟩])
     (.seq (.seq (.ops [⟨(some 27), some undefA, none, false, .pu (.badr none 3)⟩,
       ⟨(some 28), some undefA, none, false, .pu (.bget (some 27) 3 1 1 false)⟩,
       ⟨(some 29), some undefA, none, false, .pu (.len (.s 28))⟩,
       ⟨(some 30), some undefA, none, false, .pu (.mov (.c (.int .i64 0)))⟩])
     (.block 2 (.loop (.seq (.ops [⟨(some 31), some undefA, none, false, .pu (.bin .lss (.s 30) (.s 29))⟩])
       (.seq (.cond (.s 31) (.skip)
       (.exit 2))
       (.seq (.block 3 (.seq (.ops [⟨(some 32), some undefA, none, false, .pu (.mov (.s 30))⟩,
          ⟨(some 33), some undefA, none, false, .pu (.idx 3 (.s 28) (.s 30))⟩,
          ⟨(some 34), some undefA, none, false, .ld (.ld 3 true (.s 33))⟩,
          ⟨(some 11), some (.junk), none, false, .pu (.bnew (.c (.agg [.int .i64 0, .int .i64 0, .int .i64 0])))⟩,
          ⟨(some 10), some undefA, none, false, .pu (.mov (.s 32))⟩,
          ⟨(some 11), none, none, false, .pu (.bset none 11 0 3 (.s 34))⟩])
        (.seq (.ops [⟨(some 35), some undefA, none, false, .pu (.badr none 11)⟩,
          ⟨(some 36), some undefA, none, false, .pu (.bget (some 35) 11 1 1 false)⟩,
          ⟨(some 12), some undefA, none, false, .pu (.mov (.s 36))⟩])
        (.seq (.seq (.ops [⟨(some 37), some undefA, none, false, .pu (.mov (.s 9))⟩,
          ⟨(some 38), some undefA, none, false, .pu (.badr none 11)⟩,
          ⟨(some 39), some undefA, none, false, .pu (.bget (some 38) 11 1 1 false)⟩,
          ⟨(some 40), some undefA, none, false, .pu (.bin .eql (.s 37) (.s 39))⟩])
        (.cond (.s 40) (.ops [⟨(some 41), some undefA, none, false, .pu (.badr none 11)⟩,
           ⟨(some 42), some undefA, none, false, .pu (.bget (some 41) 11 0 1 false)⟩,
           ⟨(some 12), some undefA, none, false, .pu (.mov (.s 42))⟩])
        (.seq (.ops [⟨(some 43), some undefA, none, false, .pu (.mov (.s 9))⟩,
           ⟨(some 44), some undefA, none, false, .pu (.badr none 11)⟩,
           ⟨(some 45), some undefA, none, false, .pu (.bget (some 44) 11 0 1 false)⟩,
           ⟨(some 46), some undefA, none, false, .pu (.bin .neq (.s 43) (.s 45))⟩])
         (.cond (.s 46) (.exit 3)
         (.skip)))))
        (.seq (.seq (.ops [⟨(some 48), some undefA, none, false, .pu (.mov (.s 7))⟩,
          ⟨(some 49), some undefA, none, false, .pu (.mov (.s 12))⟩,
          ⟨(some 50), some undefA, none, false, .ld (.look (.agg [.int .i64 0, .int .i64 0]) true (.s 48) (.s 49))⟩,
          ⟨(some 47), some undefA, none, false, .pu (.mov (.s 50))⟩,
          ⟨(some 51), some undefA, none, false, .pu (.extr 0 (.s 47))⟩,
          ⟨(some 52), some undefA, none, false, .pu (.extr 1 (.s 47))⟩,
          ⟨(some 13), some (.junk), none, false, .pu (.bnew (.c (.agg [.int .i64 0, .int .i64 0])))⟩,
          ⟨(some 13), none, none, false, .pu (.bset none 13 0 2 (.s 51))⟩,
          ⟨(some 14), some undefA, none, false, .pu (.mov (.s 52))⟩])
        (.seq (.ops [⟨(some 53), some undefA, none, false, .pu (.mov (.s 14))⟩,
          ⟨(some 54), some undefA, none, false, .pu (.mov (.s 53))⟩,
          ⟨(some 55), some undefA, (some (54, false)), false, .pu (.badr none 11)⟩,
          ⟨(some 56), some undefA, (some (54, false)), false, .pu (.bget (some 55) 11 2 1 false)⟩,
          ⟨(some 57), some undefA, (some (54, false)), false, .pu (.mov (.s 2))⟩,
          ⟨(some 58), some undefA, (some (54, false)), false, .pu (.bin .gtr (.s 56) (.s 57))⟩,
          ⟨(some 59), some undefA, none, false, .pu (.pick (.s 54) (.c (.bool true)) (.s 58))⟩])
        (.cond (.s 59) (.exit 3)
        (.skip))))
        (.seq (.ops [⟨(some 60), some undefA, none, false, .pu (.mov (.s 7))⟩,
          ⟨(some 61), some undefA, none, false, .pu (.mov (.s 12))⟩,
          ⟨(some 62), some undefA, none, false, .pu (.mov (.s 10))⟩,
          ⟨(some 63), some undefA, none, false, .pu (.mov (.s 9))⟩,
          ⟨(some 64), some undefA, none, false, .pu (.build [.int .i64 0, .int .i64 0] [(0, 1, (.s 62)), (1, 1, (.s 63))])⟩,
          ⟨none, some undefA, none, false, .ha (.mset (.s 60) (.s 61) (.s 64))⟩])
        (.seq (.ops [⟨(some 65), some undefA, none, false, .pu (.mov (.s 8))⟩,
          ⟨(some 66), some undefA, none, false, .pu (.mov (.s 12))⟩,
          ⟨(some 67), some undefA, none, false, .ha (.blds 1 1 [.int .i64 0] [(0, 1, (.s 66))])⟩,
          ⟨(some 68), some undefA, none, false, .ha (.app 1 (.s 65) (.s 67))⟩,
          ⟨(some 8), some undefA, none, false, .pu (.mov (.s 68))⟩])
        (.exit 1))))))))
       (.ops [⟨(some 69), some undefA, none, false, .pu (.bin .add (.s 30) (.c (.int .i64 1)))⟩,
         ⟨(some 30), some undefA, none, false, .pu (.mov (.s 69))⟩])))))))
     (.ops [⟨(some 70), some undefA, none, false, .pu (.mov (.s 8))⟩,
       ⟨(some 71), some undefA, none, false, .pu (.slc 1 (.s 70) (some (.c (.int .i64 1))) none none)⟩,
       ⟨(some 8), some undefA, none, false, .pu (.mov (.s 71))⟩])))))))
  (.seq (.ops [⟨(some 72), some undefA, none, false, .pu (.mov (.s 7))⟩,
    ⟨(some 6), some undefA, none, false, .pu (.mov (.s 72))⟩])
  (.ret)))))⟩
theorem t81 : trF Try.prog [3, 11, 13] [] Try.f81 = some m81 := by kernel_rfl
/-- slices.Reverse[[]int,int] [loop [0, 2, 3]] -/
def m82 : MFun := ⟨28, [], [],
 .seq (.ops [⟨(some 4), some undefA, none, false, .pu (.mov (.s 0))⟩,
   ⟨(some 5), some undefA, none, false, .pu (.len (.s 4))⟩,
   ⟨(some 6), some undefA, none, false, .pu (.bin .sub (.s 5) (.c (.int .i64 1)))⟩,
   ⟨(some 2), some undefA, none, false, .pu (.mov (.c (.int .i64 0)))⟩,
   ⟨(some 3), some undefA, none, false, .pu (.mov (.s 6))⟩])
 (.block 0 (.loop (.seq (.seq (.ops [⟨(some 7), some undefA, none, false, .pu (.mov (.s 2))⟩,
     ⟨(some 8), some undefA, none, false, .pu (.mov (.s 3))⟩,
     ⟨(some 9), some undefA, none, false, .pu (.bin .lss (.s 7) (.s 8))⟩])
   (.cond (.s 9) (.skip)
   (.exit 0)))
   (.seq (.block 1 (.ops [⟨(some 14), some undefA, none, true, .pu (.mov (.s 0))⟩,
      ⟨(some 15), some undefA, none, true, .pu (.mov (.s 2))⟩,
      ⟨(some 16), some undefA, none, true, .pu (.mov (.s 0))⟩,
      ⟨(some 17), some undefA, none, true, .pu (.mov (.s 3))⟩,
      ⟨(some 18), some undefA, none, true, .pu (.mov (.s 0))⟩,
      ⟨(some 19), some undefA, none, true, .pu (.mov (.s 3))⟩,
      ⟨(some 20), some undefA, none, true, .pu (.idx 1 (.s 18) (.s 19))⟩,
      ⟨(some 21), some undefA, none, true, .ld (.ld 1 false (.s 20))⟩,
      ⟨(some 22), some undefA, none, true, .pu (.mov (.s 0))⟩,
      ⟨(some 23), some undefA, none, true, .pu (.mov (.s 2))⟩,
      ⟨(some 24), some undefA, none, true, .pu (.idx 1 (.s 22) (.s 23))⟩,
      ⟨(some 25), some undefA, none, true, .ld (.ld 1 false (.s 24))⟩,
      ⟨(some 26), some undefA, none, false, .pu (.idx 1 (.s 14) (.s 15))⟩,
      ⟨none, some undefA, none, false, .ha (.st 1 (.s 26) (.s 21))⟩,
      ⟨(some 27), some undefA, none, false, .pu (.idx 1 (.s 16) (.s 17))⟩,
      ⟨none, some undefA, none, false, .ha (.st 1 (.s 27) (.s 25))⟩]))
   (.ops [⟨(some 10), some undefA, none, false, .pu (.mov (.s 2))⟩,
     ⟨(some 11), some undefA, none, false, .pu (.bin .add (.s 10) (.c (.int .i64 1)))⟩,
     ⟨(some 12), some undefA, none, false, .pu (.mov (.s 3))⟩,
     ⟨(some 13), some undefA, none, false, .pu (.bin .sub (.s 12) (.c (.int .i64 1)))⟩,
     ⟨(some 2), some undefA, none, false, .pu (.mov (.s 11))⟩,
     ⟨(some 3), some undefA, none, false, .pu (.mov (.s 13))⟩])))))⟩
theorem t82 : trF Try.prog [] [] Try.f82 = some m82 := by kernel_rfl
/-- selion/road.isCost [] -/
def m83 : MFun := ⟨6, [], [.mov (.s 2)],
 .seq (.ops [⟨(some 2), some undefA, none, false, .pu (.mov (.c (.int .i64 0)))⟩])
 (.seq (.seq (.ops [⟨(some 3), some undefA, none, false, .pu (.mov (.s 0))⟩,
   ⟨(some 4), some undefA, none, false, .call 76 [(.s 3), (.c (.int .i64 0)), (.c (.int .i64 99))]⟩,
   ⟨(some 5), some undefA, none, false, .pu (.not (.s 4))⟩])
 (.cond (.s 5) (.seq (.ops [⟨(some 2), some undefA, none, false, .pu (.mov (.c (.int .i64 1)))⟩])
  (.ret))
 (.skip)))
 (.seq (.ops [⟨(some 2), some undefA, none, false, .pu (.mov (.c (.int .i64 0)))⟩])
 (.ret)))⟩
theorem t83 : trF Try.prog [] [] Try.f83 = some m83 := by kernel_rfl
/-- selion/road.walled [] -/
def m85 : MFun := ⟨17, [4], [.mov (.s 8)],
 .seq (.ops [⟨(some 4), some (.junk), none, false, .pu (.bnew (.s 0))⟩,
   ⟨(some 8), some undefA, none, false, .pu (.mov (.c (.int .i64 0)))⟩])
 (.seq (.ops [⟨(some 9), some undefA, none, false, .pu (.bget none 4 0 2 true)⟩,
   ⟨(some 10), some undefA, none, false, .pu (.mov (.s 1))⟩,
   ⟨(some 11), some undefA, none, false, .pu (.mov (.s 2))⟩,
   ⟨(some 12), some undefA, none, false, .call 72 [(.s 9), (.s 10), (.s 11)]⟩,
   ⟨(some 13), some undefA, none, false, .pu (.mov (.s 3))⟩,
   ⟨(some 14), some undefA, none, false, .call 83 [(.s 13)]⟩,
   ⟨(some 15), some undefA, none, false, .ha (.blds 1 2 [.int .i64 0] [(0, 1, (.s 12)), (1, 1, (.s 14))])⟩,
   ⟨(some 16), some undefA, none, false, .call 57 [(.s 15)]⟩,
   ⟨(some 8), some undefA, none, false, .pu (.mov (.s 16))⟩])
 (.ret))⟩
theorem t85 : trF Try.prog [4] [] Try.f85 = some m85 := by kernel_rfl
/-- selion/road.changed [] -/
def m86 : MFun := ⟨34, [4], [.mov (.s 8), .mov (.s 9)],
 .seq (.ops [⟨(some 4), some (.junk), none, false, .pu (.bnew (.s 0))⟩,
   ⟨(some 6), some undefA, none, false, .ha (.newv (.s 2))⟩,
   ⟨(some 8), some undefA, none, false, .pu (.mov (.c (.nilS)))⟩,
   ⟨(some 9), some undefA, none, false, .pu (.mov (.c (.bool false)))⟩])
 (.seq (.seq (.ops [⟨(some 11), some undefA, none, false, .pu (.mov (.s 1))⟩,
   ⟨(some 12), some undefA, none, false, .ld (.ld 1 false (.s 6))⟩,
   ⟨(some 13), some undefA, none, false, .call 84 [(.s 11), (.s 12)]⟩,
   ⟨(some 14), some undefA, none, false, .pu (.not (.s 13))⟩,
   ⟨(some 15), some undefA, none, false, .pu (.mov (.s 14))⟩,
   ⟨(some 16), some undefA, (some (15, false)), false, .pu (.mov (.s 1))⟩,
   ⟨(some 17), some undefA, (some (15, false)), false, .pu (.mov (.s 3))⟩,
   ⟨(some 18), some undefA, (some (15, false)), false, .call 84 [(.s 16), (.s 17)]⟩,
   ⟨(some 19), some undefA, none, false, .pu (.pick (.s 15) (.c (.bool true)) (.s 18))⟩])
 (.cond (.s 19) (.seq (.ops [⟨(some 8), some undefA, none, false, .pu (.mov (.c (.nilS)))⟩,
    ⟨(some 9), some undefA, none, false, .pu (.mov (.c (.bool false)))⟩])
  (.ret))
 (.skip)))
 (.seq (.ops [⟨(some 20), some undefA, none, false, .pu (.mov (.s 1))⟩,
   ⟨(some 21), some undefA, none, false, .call 102 [(.s 20)]⟩,
   ⟨(some 22), some undefA, none, false, .pu (.mkf 106 [(.s 6)])⟩,
   ⟨(some 23), some undefA, none, false, .call 101 [(.s 21), (.s 22)]⟩,
   ⟨(some 10), some undefA, none, false, .pu (.mov (.s 23))⟩])
 (.seq (.ops [⟨(some 24), some undefA, none, false, .pu (.mov (.s 10))⟩,
   ⟨(some 25), some undefA, none, false, .pu (.mov (.s 3))⟩,
   ⟨(some 26), some undefA, none, false, .ha (.blds 1 1 [.int .i64 0] [(0, 1, (.s 25))])⟩,
   ⟨(some 27), some undefA, none, false, .ha (.app 1 (.s 24) (.s 26))⟩,
   ⟨(some 10), some undefA, none, false, .pu (.mov (.s 27))⟩])
 (.seq (.ops [⟨(some 28), some undefA, none, false, .pu (.mov (.s 10))⟩,
   ⟨(some 29), some undefA, none, false, .call 100 [(.s 28)]⟩])
 (.seq (.ops [⟨(some 30), some undefA, none, false, .pu (.mov (.s 10))⟩,
   ⟨(some 31), some undefA, none, false, .pu (.bget none 4 0 2 true)⟩,
   ⟨(some 32), some undefA, none, false, .pu (.mov (.s 10))⟩,
   ⟨(some 33), some undefA, none, false, .call 60 [(.s 31), (.s 32)]⟩,
   ⟨(some 8), some undefA, none, false, .pu (.mov (.s 30))⟩,
   ⟨(some 9), some undefA, none, false, .pu (.mov (.s 33))⟩])
 (.ret))))))⟩
theorem t86 : trF Try.prog [4] [] Try.f86 = some m86 := by kernel_rfl
/-- selion/road.roads [loop [1, 5, 9, 10]] -/
def m89 : MFun := ⟨22, [2], [.mov (.s 4)],
 .seq (.ops [⟨(some 2), some (.junk), none, false, .pu (.bnew (.s 0))⟩,
   ⟨(some 4), some undefA, none, false, .pu (.mov (.c (.nilS)))⟩])
 (.seq (.ops [⟨(some 5), some undefA, none, false, .pu (.mov (.c (.nilS)))⟩])
 (.seq (.seq (.ops [⟨(some 7), some undefA, none, false, .pu (.badr none 2)⟩,
   ⟨(some 8), some undefA, none, false, .pu (.bget (some 7) 2 1 1 false)⟩,
   ⟨(some 9), some undefA, none, false, .pu (.len (.s 8))⟩,
   ⟨(some 10), some undefA, none, false, .pu (.mov (.c (.int .i64 0)))⟩])
 (.block 0 (.loop (.seq (.ops [⟨(some 11), some undefA, none, false, .pu (.bin .lss (.s 10) (.s 9))⟩])
   (.seq (.cond (.s 11) (.skip)
   (.exit 0))
   (.seq (.block 1 (.seq (.ops [⟨(some 12), some undefA, none, false, .pu (.mov (.s 10))⟩,
      ⟨(some 6), some undefA, none, false, .pu (.mov (.s 12))⟩])
    (.seq (.ops [⟨(some 13), some undefA, none, false, .pu (.mov (.s 1))⟩,
      ⟨(some 14), some undefA, none, false, .pu (.mov (.s 6))⟩,
      ⟨(some 15), some undefA, none, false, .callv (.s 13) [(.s 14)]⟩])
    (.cond (.s 15) (.ops [⟨(some 16), some undefA, none, false, .pu (.mov (.s 5))⟩,
       ⟨(some 17), some undefA, none, false, .pu (.mov (.s 6))⟩,
       ⟨(some 18), some undefA, none, false, .ha (.blds 1 1 [.int .i64 0] [(0, 1, (.s 17))])⟩,
       ⟨(some 19), some undefA, none, false, .ha (.app 1 (.s 16) (.s 18))⟩,
       ⟨(some 5), some undefA, none, false, .pu (.mov (.s 19))⟩])
    (.skip)))))
   (.ops [⟨(some 20), some undefA, none, false, .pu (.bin .add (.s 10) (.c (.int .i64 1)))⟩,
     ⟨(some 10), some undefA, none, false, .pu (.mov (.s 20))⟩])))))))
 (.seq (.ops [⟨(some 21), some undefA, none, false, .pu (.mov (.s 5))⟩,
   ⟨(some 4), some undefA, none, false, .pu (.mov (.s 21))⟩])
 (.ret))))⟩
theorem t89 : trF Try.prog [2] [] Try.f89 = some m89 := by kernel_rfl
/-- selion/road.Always$1 [] -/
def m90 : MFun := ⟨25, [], [.mov (.s 5)],
 .seq (.ops [⟨(some 5), some undefA, none, false, .pu (.mov (.c (.bool false)))⟩])
 (.seq (.ops [⟨(some 7), some undefA, none, true, .ld (.ld 2 true (.s 1))⟩,
   ⟨(some 8), some undefA, none, true, .ld (.ld 1 false (.s 2))⟩,
   ⟨(some 9), some undefA, none, true, .pu (.mov (.s 0))⟩,
   ⟨(some 10), some undefA, none, true, .call 63 [(.s 8), (.s 9)]⟩,
   ⟨(some 11), some undefA, none, false, .call 61 [(.s 7), (.s 10)]⟩,
   ⟨(some 6), some undefA, none, false, .pu (.mov (.s 11))⟩])
 (.seq (.ops [⟨(some 12), some undefA, none, true, .ld (.ld 2 true (.s 1))⟩,
   ⟨(some 13), some undefA, none, true, .pu (.mov (.s 6))⟩,
   ⟨(some 14), some undefA, none, false, .call 60 [(.s 12), (.s 13)]⟩,
   ⟨(some 15), some undefA, none, false, .pu (.not (.s 14))⟩,
   ⟨(some 16), some undefA, none, false, .pu (.mov (.s 15))⟩,
   ⟨(some 17), some undefA, (some (16, false)), true, .ld (.ld 2 true (.s 1))⟩,
   ⟨(some 18), some undefA, (some (16, false)), true, .pu (.mov (.s 6))⟩,
   ⟨(some 19), some undefA, (some (16, false)), true, .call 79 [(.s 17), (.s 18)]⟩,
   ⟨(some 20), some undefA, (some (16, false)), true, .ld (.ld 2 true (.s 1))⟩,
   ⟨(some 21), some undefA, (some (16, false)), true, .ld (.ld 1 false (.s 3))⟩,
   ⟨(some 22), some undefA, (some (16, false)), false, .call 79 [(.s 20), (.s 21)]⟩,
   ⟨(some 23), some undefA, (some (16, false)), false, .pu (.bin .gtr (.s 19) (.s 22))⟩,
   ⟨(some 24), some undefA, none, false, .pu (.pick (.s 16) (.c (.bool true)) (.s 23))⟩,
   ⟨(some 5), some undefA, none, false, .pu (.mov (.s 24))⟩])
 (.ret)))⟩
theorem t90 : trF Try.prog [] [] Try.f90 = some m90 := by kernel_rfl
/-- selion/road.Never$1 [] -/
def m92 : MFun := ⟨29, [], [.mov (.s 5)],
 .seq (.ops [⟨(some 5), some undefA, none, false, .pu (.mov (.c (.bool false)))⟩])
 (.seq (.ops2 [⟨(some 7), some undefA, none, true, .ld (.ld 2 true (.s 1))⟩,
   ⟨(some 8), some undefA, none, true, .pu (.mov (.s 0))⟩,
   ⟨(some 9), some undefA, none, true, .ha (.blds 1 1 [.int .i64 0] [(0, 1, (.s 8))])⟩,
   ⟨(some 10), some undefA, none, true, .ld (.ld 1 false (.s 2))⟩,
   ⟨(some 11), some undefA, none, true, .pu (.mov (.s 0))⟩,
   ⟨(some 12), some undefA, none, true, .call 63 [(.s 10), (.s 11)]⟩,
   ⟨(some 13), some undefA, none, true, .ha (.blds 1 2 [.nilS] [(0, 1, (.s 9)), (1, 1, (.s 12))])⟩,
   ⟨(some 14), some undefA, none, true, .call 93 [(.s 13)]⟩,
   ⟨(some 15), some undefA, none, false, .call 61 [(.s 7), (.s 14)]⟩,
   ⟨(some 6), some undefA, none, false, .pu (.mov (.s 15))⟩]
 [⟨(some 7), some undefA, none, true, .ld (.ld 2 true (.s 1))⟩,
   ⟨(some 8), some undefA, none, true, .pu (.mov (.s 0))⟩,
   ⟨(some 10), some undefA, none, true, .ld (.ld 1 false (.s 2))⟩,
   ⟨(some 11), some undefA, none, true, .pu (.mov (.s 0))⟩,
   ⟨(some 12), some undefA, none, true, .call 63 [(.s 10), (.s 11)]⟩,
   ⟨(some 9), some undefA, none, true, .ha (.blds 1 1 [.int .i64 0] [(0, 1, (.s 8))])⟩,
   ⟨(some 13), some undefA, none, true, .ha (.blds 1 2 [.nilS] [(0, 1, (.s 9)), (1, 1, (.s 12))])⟩,
   ⟨(some 14), some undefA, none, true, .call 93 [(.s 13)]⟩,
   ⟨(some 15), some undefA, none, false, .call 61 [(.s 7), (.s 14)]⟩,
   ⟨(some 6), some undefA, none, false, .pu (.mov (.s 15))⟩])
 (.seq (.ops [⟨(some 16), some undefA, none, true, .ld (.ld 2 true (.s 1))⟩,
   ⟨(some 17), some undefA, none, true, .pu (.mov (.s 6))⟩,
   ⟨(some 18), some undefA, none, false, .call 60 [(.s 16), (.s 17)]⟩,
   ⟨(some 19), some undefA, none, false, .pu (.not (.s 18))⟩,
   ⟨(some 20), some undefA, none, false, .pu (.mov (.s 19))⟩,
   ⟨(some 21), some undefA, (some (20, false)), true, .ld (.ld 2 true (.s 1))⟩,
   ⟨(some 22), some undefA, (some (20, false)), true, .pu (.mov (.s 6))⟩,
   ⟨(some 23), some undefA, (some (20, false)), true, .call 79 [(.s 21), (.s 22)]⟩,
   ⟨(some 24), some undefA, (some (20, false)), true, .ld (.ld 2 true (.s 1))⟩,
   ⟨(some 25), some undefA, (some (20, false)), true, .ld (.ld 1 false (.s 3))⟩,
   ⟨(some 26), some undefA, (some (20, false)), false, .call 79 [(.s 24), (.s 25)]⟩,
   ⟨(some 27), some undefA, (some (20, false)), false, .pu (.bin .gtr (.s 23) (.s 26))⟩,
   ⟨(some 28), some undefA, none, false, .pu (.pick (.s 20) (.c (.bool true)) (.s 27))⟩,
   ⟨(some 5), some undefA, none, false, .pu (.mov (.s 28))⟩])
 (.ret)))⟩
theorem t92 : trF Try.prog [] [] Try.f92 = some m92 := by kernel_rfl
/-- slices.Concat[[]int,int] [loop [0, 3, 9, 10, 11], loop [6, 25, 26, 27]] -/
def m93 : MFun := ⟨36, [], [.mov (.s 2)],
 .seq (.ops [⟨(some 2), some undefA, none, false, .pu (.mov (.c (.nilS)))⟩])
 (.seq (.ops [⟨(some 3), some undefA, none, false, .pu (.mov (.c (.int .i64 0)))⟩])
 (.seq (.seq (.ops [⟨(some 9), some undefA, none, false, .pu (.mov (.s 0))⟩,
   ⟨(some 10), some undefA, none, false, .pu (.len (.s 9))⟩,
   ⟨(some 11), some undefA, none, false, .pu (.mov (.c (.int .i64 0)))⟩])
 (.block 0 (.loop (.seq (.ops [⟨(some 12), some undefA, none, false, .pu (.bin .lss (.s 11) (.s 10))⟩])
   (.seq (.cond (.s 12) (.skip)
   (.exit 0))
   (.seq (.block 1 (.seq (.ops [⟨(some 13), some undefA, none, false, .pu (.idx 1 (.s 9) (.s 11))⟩,
      ⟨(some 14), some undefA, none, false, .ld (.ld 1 false (.s 13))⟩,
      ⟨(some 5), some undefA, none, false, .pu (.mov (.s 14))⟩])
    (.seq (.ops [⟨(some 15), some undefA, none, false, .pu (.mov (.s 3))⟩,
      ⟨(some 16), some undefA, none, false, .pu (.mov (.s 5))⟩,
      ⟨(some 17), some undefA, none, false, .pu (.len (.s 16))⟩,
      ⟨(some 18), some undefA, none, false, .pu (.bin .add (.s 15) (.s 17))⟩,
      ⟨(some 3), some undefA, none, false, .pu (.mov (.s 18))⟩])
    (.seq (.ops [⟨(some 19), some undefA, none, false, .pu (.mov (.s 3))⟩,
      ⟨(some 20), some undefA, none, false, .pu (.bin .lss (.s 19) (.c (.int .i64 0)))⟩])
    (.cond (.s 20) (.ops [⟨(some 21), some undefA, none, false, .pu (.fail)⟩,
       ⟨none, some undefA, none, false, .pu (.fail)⟩])
    (.skip))))))
   (.ops [⟨(some 22), some undefA, none, false, .pu (.bin .add (.s 11) (.c (.int .i64 1)))⟩,
     ⟨(some 11), some undefA, none, false, .pu (.mov (.s 22))⟩])))))))
 (.seq (.ops [⟨(some 23), some undefA, none, false, .pu (.mov (.s 3))⟩,
   ⟨(some 24), some undefA, none, false, .call 107 [(.c (.nilS)), (.s 23)]⟩,
   ⟨(some 6), some undefA, none, false, .pu (.mov (.s 24))⟩])
 (.seq (.seq (.ops [⟨(some 25), some undefA, none, false, .pu (.mov (.s 0))⟩,
   ⟨(some 26), some undefA, none, false, .pu (.len (.s 25))⟩,
   ⟨(some 27), some undefA, none, false, .pu (.mov (.c (.int .i64 0)))⟩])
 (.block 2 (.loop (.seq (.ops [⟨(some 28), some undefA, none, false, .pu (.bin .lss (.s 27) (.s 26))⟩])
   (.seq (.cond (.s 28) (.skip)
   (.exit 2))
   (.seq (.block 3 (.seq (.ops [⟨(some 29), some undefA, none, false, .pu (.idx 1 (.s 25) (.s 27))⟩,
      ⟨(some 30), some undefA, none, false, .ld (.ld 1 false (.s 29))⟩,
      ⟨(some 8), some undefA, none, false, .pu (.mov (.s 30))⟩])
    (.ops [⟨(some 31), some undefA, none, false, .pu (.mov (.s 6))⟩,
      ⟨(some 32), some undefA, none, false, .pu (.mov (.s 8))⟩,
      ⟨(some 33), some undefA, none, false, .ha (.app 1 (.s 31) (.s 32))⟩,
      ⟨(some 6), some undefA, none, false, .pu (.mov (.s 33))⟩])))
   (.ops [⟨(some 34), some undefA, none, false, .pu (.bin .add (.s 27) (.c (.int .i64 1)))⟩,
     ⟨(some 27), some undefA, none, false, .pu (.mov (.s 34))⟩])))))))
 (.seq (.ops [⟨(some 35), some undefA, none, false, .pu (.mov (.s 6))⟩,
   ⟨(some 2), some undefA, none, false, .pu (.mov (.s 35))⟩])
 (.ret))))))⟩
theorem t93 : trF Try.prog [] [] Try.f93 = some m93 := by kernel_rfl
/-- selion/road.changed$1 [] -/
def m106 : MFun := ⟨7, [], [.mov (.s 3)],
 .seq (.ops [⟨(some 3), some undefA, none, false, .pu (.mov (.c (.bool false)))⟩])
 (.seq (.ops [⟨(some 4), some undefA, none, false, .pu (.mov (.s 0))⟩,
   ⟨(some 5), some undefA, none, false, .ld (.ld 1 false (.s 1))⟩,
   ⟨(some 6), some undefA, none, false, .pu (.bin .eql (.s 4) (.s 5))⟩,
   ⟨(some 3), some undefA, none, false, .pu (.mov (.s 6))⟩])
 (.ret))⟩
theorem t106 : trF Try.prog [] [] Try.f106 = some m106 := by kernel_rfl
/-- slices.Grow[[]int,int] [] -/
def m107 : MFun := ⟨27, [], [.mov (.s 4)],
 .seq (.ops [⟨(some 4), some undefA, none, false, .pu (.mov (.c (.nilS)))⟩])
 (.seq (.seq (.ops [⟨(some 5), some undefA, none, false, .pu (.mov (.s 1))⟩,
   ⟨(some 6), some undefA, none, false, .pu (.bin .lss (.s 5) (.c (.int .i64 0)))⟩])
 (.cond (.s 6) (.ops [⟨(some 7), some undefA, none, false, .pu (.fail)⟩,
    ⟨none, some undefA, none, false, .pu (.fail)⟩])
 (.skip)))
 (.seq (.seq (.ops [⟨(some 8), some undefA, none, false, .pu (.mov (.s 1))⟩,
   ⟨(some 9), some undefA, none, false, .pu (.mov (.s 0))⟩,
   ⟨(some 10), some undefA, none, false, .pu (.cap (.s 9))⟩,
   ⟨(some 11), some undefA, none, false, .pu (.mov (.s 0))⟩,
   ⟨(some 12), some undefA, none, false, .pu (.len (.s 11))⟩,
   ⟨(some 13), some undefA, none, false, .pu (.bin .sub (.s 10) (.s 12))⟩,
   ⟨(some 14), some undefA, none, false, .pu (.bin .sub (.s 8) (.s 13))⟩,
   ⟨(some 1), some undefA, none, false, .pu (.mov (.s 14))⟩])
 (.seq (.ops [⟨(some 15), some undefA, none, false, .pu (.mov (.s 1))⟩,
   ⟨(some 16), some undefA, none, false, .pu (.bin .gtr (.s 15) (.c (.int .i64 0)))⟩])
 (.cond (.s 16) (.ops [⟨(some 17), some undefA, none, false, .pu (.mov (.s 0))⟩,
    ⟨(some 18), some undefA, none, false, .pu (.mov (.s 0))⟩,
    ⟨(some 19), some undefA, none, false, .pu (.cap (.s 18))⟩,
    ⟨(some 20), some undefA, none, false, .pu (.slc 1 (.s 17) none (some (.s 19)) none)⟩,
    ⟨(some 21), some undefA, none, false, .pu (.mov (.s 1))⟩,
    ⟨(some 22), some undefA, none, false, .ha (.appz 1 [.int .i64 0] (.s 20) (.s 21))⟩,
    ⟨(some 23), some undefA, none, false, .pu (.mov (.s 0))⟩,
    ⟨(some 24), some undefA, none, false, .pu (.len (.s 23))⟩,
    ⟨(some 25), some undefA, none, false, .pu (.slc 1 (.s 22) none (some (.s 24)) none)⟩,
    ⟨(some 0), some undefA, none, false, .pu (.mov (.s 25))⟩])
 (.skip))))
 (.seq (.ops [⟨(some 26), some undefA, none, false, .pu (.mov (.s 0))⟩,
   ⟨(some 4), some undefA, none, false, .pu (.mov (.s 26))⟩])
 (.ret))))⟩
theorem t107 : trF Try.prog [] [] Try.f107 = some m107 := by kernel_rfl
end Go.Proofs.Ytkgfcdpckfhknaa

namespace Go.Proofs.Ytkgfcdpckfhknaa
/-- A road: its two ends and its cost. -/
abbrev Rd := Int × Int × Int
/-- What some roads join. -/
inductive Cn (S : List Rd) : Int → Int → Prop
  | refl (p : Int) : Cn S p p
  | step {p q r : Int} (h : Cn S p q) (e : Rd) (he : e ∈ S) (hr : (e.1 = q ∧ e.2.1 = r) ∨ (e.1 = r ∧ e.2.1 = q)) : Cn S p r
theorem Cn.trans {S : List Rd} {p q r : Int} (h : Cn S p q) (k : Cn S q r) : Cn S p r := by
  induction k with
  | refl => exact h
  | step _ e he hr ih => exact .step ih e he hr
theorem Cn.one {S : List Rd} {e : Rd} (he : e ∈ S) : Cn S e.1 e.2.1 := .step (.refl _) e he (.inl ⟨rfl, rfl⟩)
theorem Cn.symm {S : List Rd} {p q : Int} (h : Cn S p q) : Cn S q p := by
  induction h with
  | refl => exact .refl _
  | step _ e he hr ih => exact Cn.trans (.step (.refl _) e he hr.symm) ih
theorem Cn.mono {S U : List Rd} (hs : ∀ e ∈ S, e ∈ U) {p q : Int} (h : Cn S p q) : Cn U p q := by
  induction h with
  | refl => exact .refl _
  | step _ e he hr ih => exact .step ih e (hs e he) hr
theorem Cn.iff {S U : List Rd} (hs : ∀ e, e ∈ S ↔ e ∈ U) {p q : Int} : Cn S p q ↔ Cn U p q := ⟨Cn.mono (fun e h => (hs e).1 h), Cn.mono (fun e h => (hs e).2 h)⟩
theorem Cn.nil {p q : Int} (h : Cn [] p q) : p = q := by
  induction h with
  | refl => rfl
  | step _ e he _ _ => simp at he
/-- One road more. -/
theorem Cn.add {S : List Rd} {e : Rd} {p q : Int} (h : Cn (e :: S) p q) : Cn S p q ∨ (Cn S p e.1 ∧ Cn S e.2.1 q) ∨ (Cn S p e.2.1 ∧ Cn S e.1 q) := by
  induction h with
  | refl => exact .inl (.refl _)
  | step _ f hf hr ih =>
    rcases List.mem_cons.1 hf with rfl | hf
    · rcases hr with ⟨rfl, rfl⟩ | ⟨rfl, rfl⟩
      · rcases ih with h | ⟨h, k⟩ | ⟨h, k⟩
        · exact .inr (.inl ⟨h, .refl _⟩)
        · exact .inr (.inl ⟨h, .refl _⟩)
        · exact .inl h
      · rcases ih with h | ⟨h, k⟩ | ⟨h, k⟩
        · exact .inr (.inr ⟨h, .refl _⟩)
        · exact .inl h
        · exact .inr (.inr ⟨h, .refl _⟩)
    · rcases ih with h | ⟨h, k⟩ | ⟨h, k⟩
      · exact .inl (.step h f hf hr)
      · exact .inr (.inl ⟨h, .step k f hf hr⟩)
      · exact .inr (.inr ⟨h, .step k f hf hr⟩)
theorem Cn.up {S : List Rd} (e : Rd) {p q : Int} (h : Cn S p q) : Cn (e :: S) p q := h.mono (fun f hf => List.mem_cons_of_mem _ hf)
theorem Cn.add_iff {S : List Rd} {e : Rd} (h : Cn S e.1 e.2.1) {p q : Int} : Cn (e :: S) p q ↔ Cn S p q := by
  refine ⟨fun k => ?_, Cn.up e⟩
  rcases k.add with k | ⟨a, b⟩ | ⟨a, b⟩
  · exact k
  · exact (a.trans h).trans b
  · exact (a.trans h.symm).trans b
/-- No smaller place is joined with it. -/
def Root (S : List Rd) (p : Int) : Prop := ∀ q, 0 ≤ q → q < p → ¬ Cn S q p
theorem Root.uniq {S : List Rd} {p q : Int} (hp : Root S p) (hq : Root S q) (h0 : 0 ≤ p) (k0 : 0 ≤ q) (h : Cn S p q) : p = q := by
  rcases Int.lt_trichotomy p q with k | k | k
  · exact absurd h (hq p h0 k)
  · exact k
  · exact absurd h.symm (hp q k0 k)
theorem root_ex (S : List Rd) : ∀ (n : Nat) (p : Int), p.toNat = n → 0 ≤ p → ∃ m, 0 ≤ m ∧ m ≤ p ∧ Cn S m p ∧ Root S m := by
  intro n
  induction n using Nat.strongRecOn with
  | ind n ih =>
    intro p hn h0
    by_cases h : Root S p
    · exact ⟨p, h0, Int.le_refl _, .refl _, h⟩
    · unfold Root at h
      have : ∃ q, 0 ≤ q ∧ q < p ∧ Cn S q p := by
        refine Classical.byContradiction (fun hh => h (fun q a b c => hh ⟨q, a, b, c⟩))
      obtain ⟨q, a, b, c⟩ := this
      obtain ⟨m, m0, m1, m2, m3⟩ := ih q.toNat (by omega) q rfl a
      exact ⟨m, m0, by omega, m2.trans c, m3⟩
/-- The smallest place joined with it. -/
noncomputable def lab (S : List Rd) (p : Int) : Int := open Classical in if h : 0 ≤ p then (root_ex S p.toNat p rfl h).choose else p
theorem lab_spec (S : List Rd) {p : Int} (h : 0 ≤ p) : 0 ≤ lab S p ∧ lab S p ≤ p ∧ Cn S (lab S p) p ∧ Root S (lab S p) := by
  unfold lab
  rw [dif_pos h]
  exact (root_ex S p.toNat p rfl h).choose_spec
theorem lab_uniq {S : List Rd} {p m : Int} (h : 0 ≤ p) (m0 : 0 ≤ m) (hm : Cn S m p) (hr : Root S m) : lab S p = m := by
  obtain ⟨a, _, b, c⟩ := lab_spec S h
  exact Root.uniq c hr a m0 (b.trans hm.symm)
theorem lab_eq_iff {S : List Rd} {p q : Int} (h : 0 ≤ p) (k : 0 ≤ q) : lab S p = lab S q ↔ Cn S p q := by
  obtain ⟨a, _, b, c⟩ := lab_spec S h
  obtain ⟨a', _, b', c'⟩ := lab_spec S k
  constructor
  · intro e; rw [e] at b; exact b.symm.trans b'
  · intro e; exact Root.uniq c c' a a' ((b.trans e).trans b'.symm)
theorem lab_self_iff {S : List Rd} {p : Int} (h : 0 ≤ p) : lab S p = p ↔ Root S p := by
  constructor
  · intro e; have := (lab_spec S h).2.2.2; rw [e] at this; exact this
  · intro e; exact lab_uniq h h (.refl _) e
theorem Root.iff {S U : List Rd} (hs : ∀ p q, Cn S p q ↔ Cn U p q) {p : Int} : Root S p ↔ Root U p := by
  unfold Root
  simp only [hs]
/-- The places of a net. -/
def plc (P : Nat) : List Int := (List.range P).map Int.ofNat
theorem mem_plc {P : Nat} {p : Int} : p ∈ plc P ↔ 0 ≤ p ∧ p < P := by
  unfold plc
  rw [List.mem_map]
  constructor
  · rintro ⟨n, hn, rfl⟩
    have := List.mem_range.1 hn
    exact ⟨Int.natCast_nonneg n, by show (n : Int) < P; omega⟩
  · rintro ⟨h, k⟩
    exact ⟨p.toNat, List.mem_range.2 (by omega), Int.toNat_of_nonneg h⟩
theorem plc_nodup (P : Nat) : (plc P).Nodup := by
  unfold plc
  rw [List.nodup_iff_pairwise_ne, List.pairwise_map]
  exact List.nodup_range.imp (fun h e => h (Int.ofNat.inj e))
theorem plc_len (P : Nat) : (plc P).length = P := by simp [plc]
noncomputable instance rootDec (S : List Rd) (p : Int) : Decidable (Root S p) := Classical.propDecidable _
/-- The roots. -/
noncomputable def roots (P : Nat) (S : List Rd) : List Int := (plc P).filter (fun p => decide (Root S p))
/-- How many groups there are. -/
noncomputable def comps (P : Nat) (S : List Rd) : Nat := (roots P S).length
theorem mem_roots {P : Nat} {S : List Rd} {p : Int} : p ∈ roots P S ↔ (0 ≤ p ∧ p < P) ∧ Root S p := by
  unfold roots
  rw [List.mem_filter, mem_plc, decide_eq_true_eq]
theorem roots_nodup (P : Nat) (S : List Rd) : (roots P S).Nodup := (plc_nodup P).filter _
theorem comps_congr {P : Nat} {S U : List Rd} (hs : ∀ p q, Cn S p q ↔ Cn U p q) : comps P S = comps P U := by
  unfold comps roots
  congr 1
  refine List.filter_congr (fun p _ => ?_)
  exact decide_eq_decide.2 (Root.iff hs)
theorem comps_mem {P : Nat} {S U : List Rd} (hs : ∀ e, e ∈ S ↔ e ∈ U) : comps P S = comps P U := comps_congr (fun _ _ => Cn.iff hs)
theorem comps_nil (P : Nat) : comps P [] = P := by
  unfold comps roots
  rw [List.filter_eq_self.2 (fun p _ => ?_), plc_len]
  refine decide_eq_true (fun q _ h k => ?_)
  have := k.nil
  omega
theorem nodup_len_le {xs ys : List Int} (h : xs.Nodup) (hs : ∀ x ∈ xs, x ∈ ys) : xs.length ≤ ys.length := by
  induction xs generalizing ys with
  | nil => simp
  | cons x xs ih =>
    rw [List.nodup_cons] at h
    have hx : x ∈ ys := hs x (by simp)
    have := ih (ys := ys.erase x) h.2 (fun y hy => by
      have hne : y ≠ x := fun e => h.1 (e ▸ hy)
      exact (List.mem_erase_of_ne hne).2 (hs y (by simp [hy])))
    rw [List.length_erase_of_mem hx] at this
    have hp : 0 < ys.length := List.length_pos_of_mem hx
    simp only [List.length_cons]
    omega
theorem comps_mono {P : Nat} {S U : List Rd} (h : ∀ p q, Cn S p q → Cn U p q) : comps P U ≤ comps P S := by
  unfold comps
  refine nodup_len_le (roots_nodup P U) (fun p hp => ?_)
  rw [mem_roots] at hp ⊢
  exact ⟨hp.1, fun q h0 h1 k => hp.2 q h0 h1 (h _ _ k)⟩
/-- A road's ends are places of the net. -/
def InP (P : Nat) (e : Rd) : Prop := (0 ≤ e.1 ∧ e.1 < P) ∧ (0 ≤ e.2.1 ∧ e.2.1 < P)
theorem comps_same {P : Nat} {S : List Rd} {e : Rd} (h : Cn S e.1 e.2.1) : comps P (e :: S) = comps P S := comps_congr (fun _ _ => Cn.add_iff h)
theorem comps_join {P : Nat} {S : List Rd} {e : Rd} (hP : InP P e) (h : ¬ Cn S e.1 e.2.1) : comps P (e :: S) + 1 = comps P S := by
  obtain ⟨a0, a1, a2, a3⟩ := lab_spec S hP.1.1
  obtain ⟨b0, b1, b2, b3⟩ := lab_spec S hP.2.1
  have hne : lab S e.1 ≠ lab S e.2.1 := fun hh => h ((lab_eq_iff hP.1.1 hP.2.1).1 hh)
  have hE : Cn (e :: S) e.1 e.2.1 := Cn.one (by simp)
  generalize lab S e.1 = la at *
  generalize lab S e.2.1 = lb at *
  have hm : max la lb ∈ roots P S := by
    rw [mem_roots]
    rcases Int.le_total la lb with k | k
    · rw [Int.max_eq_right k]; exact ⟨⟨b0, by have := hP.2.2; omega⟩, b3⟩
    · rw [Int.max_eq_left k]; exact ⟨⟨a0, by have := hP.1.2; omega⟩, a3⟩
  have hab : Cn (e :: S) la lb := ((a2.up e).trans hE).trans (b2.up e).symm
  have key : roots P (e :: S) = (roots P S).filter (fun p => decide (p ≠ max la lb)) := by
    unfold roots
    rw [List.filter_filter]
    refine List.filter_congr (fun p hp => ?_)
    have hp := mem_plc.1 hp
    rw [← Bool.decide_and]
    congr 1
    apply propext
    constructor
    · intro hr
      refine ⟨?_, fun q q0 q1 k => hr q q0 q1 (k.up e)⟩
      rintro rfl
      rcases Int.lt_or_gt_of_ne hne with k | k
      · rw [Int.max_eq_right (by omega)] at hr
        exact hr la a0 k hab
      · rw [Int.max_eq_left (by omega)] at hr
        exact hr lb b0 k hab.symm
    · rintro ⟨hpm, hr⟩ q q0 q1 k
      rcases k.add with k | ⟨k1, k2⟩ | ⟨k1, k2⟩
      · exact hr q q0 q1 k
      · have e1 : p = lb := Root.uniq hr b3 hp.1 b0 (k2.symm.trans b2.symm)
        have e2 : ¬ q < la := fun hh => a3 q q0 hh (k1.trans a2.symm)
        omega
      · have e1 : p = la := Root.uniq hr a3 hp.1 a0 (k2.symm.trans a2.symm)
        have e2 : ¬ q < lb := fun hh => b3 q q0 hh (k1.trans b2.symm)
        omega
  have hlen : ((roots P S).filter (fun p => decide (p ≠ max la lb))).length + 1 = (roots P S).length := by
    have hf : ∀ (l : List Int) (m : Int), l.Nodup → m ∈ l → (l.filter (fun p => decide (p ≠ m))).length + 1 = l.length := by
      intro l m
      induction l with
      | nil => intro _ hm; simp at hm
      | cons x l ih =>
        intro hn hm
        rw [List.nodup_cons] at hn
        by_cases hx : x = m
        · subst hx
          have hfl : l.filter (fun p => decide (p ≠ x)) = l := List.filter_eq_self.2 (fun y hy => decide_eq_true (fun e : y = x => hn.1 (e ▸ hy)))
          rw [List.filter_cons_of_neg (by simp), hfl]
          simp
        · have hm2 : m ∈ l := by
            rcases List.mem_cons.1 hm with e | e
            · exact absurd e.symm hx
            · exact e
          rw [List.filter_cons_of_pos (by simp [hx])]
          have := ih hn.2 hm2
          simp only [List.length_cons]
          omega
    exact hf _ _ (roots_nodup P S) hm
  unfold comps
  rw [key]
  exact hlen
theorem comps_add {P : Nat} {S : List Rd} {e : Rd} (hP : InP P e) : comps P (e :: S) ≤ comps P S ∧ comps P S ≤ comps P (e :: S) + 1 := by
  by_cases h : Cn S e.1 e.2.1
  · rw [comps_same h]; omega
  · have := comps_join hP h; omega
theorem comps_one {P : Nat} {S : List Rd} (hP : 1 ≤ P) : comps P S = 1 ↔ ∀ p : Int, 0 ≤ p → p < P → Cn S 0 p := by
  have hr0 : (0 : Int) ∈ roots P S := by
    rw [mem_roots]
    exact ⟨⟨by omega, by omega⟩, fun q h k => by omega⟩
  constructor
  · intro h p p0 p1
    obtain ⟨a, b, c, d⟩ := lab_spec S p0
    unfold comps at h
    obtain ⟨x, hx⟩ := List.length_eq_one_iff.1 h
    have h1 : lab S p ∈ roots P S := mem_roots.2 ⟨⟨a, by omega⟩, d⟩
    rw [hx] at h1 hr0
    have e1 : lab S p = x := by simpa using h1
    have e2 : (0 : Int) = x := by simpa using hr0
    rw [e1, ← e2] at c
    exact c
  · intro h
    have h1 : (roots P S).length ≤ [(0 : Int)].length := nodup_len_le (roots_nodup P S) (fun p hp => by
      rw [mem_roots] at hp
      have := h p hp.1.1 hp.1.2
      rcases Int.lt_or_eq_of_le hp.1.1 with k | k
      · exact absurd this (hp.2 0 (by omega) k)
      · simp [← k])
    have h2 : 0 < (roots P S).length := List.length_pos_of_mem hr0
    unfold comps
    simp only [List.length_cons, List.length_nil] at h1
    omega
theorem comps_pos {P : Nat} {S : List Rd} (hP : 1 ≤ P) : 1 ≤ comps P S := by
  have hr0 : (0 : Int) ∈ roots P S := by
    rw [mem_roots]
    exact ⟨⟨by omega, by omega⟩, fun q h k => by omega⟩
  exact List.length_pos_of_mem hr0
/-- Roads without a ring: each one joins two groups. -/
def Ind (P : Nat) (F : List Rd) : Prop := F.length + comps P F = P
theorem len_comps {P : Nat} : ∀ {F : List Rd}, (∀ e ∈ F, InP P e) → P ≤ F.length + comps P F
  | [], _ => by rw [comps_nil]; simp
  | e :: F, h => by
    have ih := len_comps (P := P) (F := F) (fun x hx => h x (by simp [hx]))
    have := comps_add (S := F) (h e (by simp))
    simp only [List.length_cons]
    omega
theorem comps_sub {P : Nat} {F G : List Rd} (hs : F.Sublist G) (hG : ∀ e ∈ G, InP P e) : comps P F + F.length ≤ comps P G + G.length ∧ ∀ p q, Cn F p q → Cn G p q := by
  refine ⟨?_, fun p q h => h.mono (fun e he => hs.subset he)⟩
  induction hs with
  | slnil => exact Nat.le_refl _
  | cons a hs ih =>
    have := ih (fun x hx => hG x (by simp [hx]))
    rename_i l1 l2
    have h2 := comps_add (P := P) (S := l2) (hG a (by simp))
    simp only [List.length_cons]
    omega
  | cons_cons a hs ih =>
    rename_i l1 l2
    have h1 := ih (fun x hx => hG x (by simp [hx]))
    simp only [List.length_cons]
    by_cases hj : Cn l2 a.1 a.2.1
    · rw [comps_same hj]
      have := comps_add (P := P) (S := l1) (hG a (by simp))
      omega
    · have hj1 : ¬ Cn l1 a.1 a.2.1 := fun hh => hj (hh.mono (fun e he => hs.subset he))
      have := comps_join (hG a (by simp)) hj
      have := comps_join (hG a (by simp)) hj1
      omega
theorem Ind.sub {P : Nat} {F G : List Rd} (h : Ind P G) (hs : F.Sublist G) (hG : ∀ e ∈ G, InP P e) : Ind P F := by
  have h1 := (comps_sub hs hG).1
  have h2 := len_comps (P := P) (F := F) (fun e he => hG e (hs.subset he))
  unfold Ind at *
  omega
theorem Ind.perm {P : Nat} {F G : List Rd} (h : Ind P G) (hp : F.Perm G) : Ind P F := by
  unfold Ind at *
  rw [hp.length_eq, comps_mem (fun e => hp.mem_iff)]
  exact h
theorem Ind.nil (P : Nat) : Ind P [] := by unfold Ind; rw [comps_nil]; simp
theorem Ind.cons {P : Nat} {F : List Rd} {e : Rd} (hP : InP P e) (h : Ind P F) : Ind P (e :: F) ↔ ¬ Cn F e.1 e.2.1 := by
  unfold Ind at *
  simp only [List.length_cons]
  constructor
  · intro h1 h2
    rw [comps_same h2] at h1
    omega
  · intro h1
    have := comps_join hP h1
    omega
/-- A road less: a road that joins what it joined may stand in its place. -/
theorem Ind.swap {P : Nat} {F : List Rd} {e f : Rd} (he : InP P e) (hf : InP P f) (hF : Ind P F) (h : Ind P (e :: F)) (hc : Cn (e :: F) f.1 f.2.1) (hn : ¬ Cn F f.1 f.2.1) : Ind P (f :: F) ∧ ∀ p q, Cn (e :: F) p q → Cn (f :: F) p q := by
  refine ⟨(Ind.cons hf hF).2 hn, ?_⟩
  have hE : Cn (f :: F) f.1 f.2.1 := Cn.one (by simp)
  have hee : Cn (f :: F) e.1 e.2.1 := by
    rcases hc.add with k | ⟨k1, k2⟩ | ⟨k1, k2⟩
    · exact absurd k hn
    · exact ((k1.up f).symm.trans hE).trans (k2.up f).symm
    · exact ((k2.up f).trans hE.symm).trans (k1.up f)
  intro p q h
  rcases h.add with k | ⟨k1, k2⟩ | ⟨k1, k2⟩
  · exact k.up f
  · exact ((k1.up f).trans hee).trans (k2.up f)
  · exact ((k1.up f).trans hee.symm).trans (k2.up f)
end Go.Proofs.Ytkgfcdpckfhknaa

namespace Go.Proofs.Ytkgfcdpckfhknaa
noncomputable instance cnDec (S : List Rd) (p q : Int) : Decidable (Cn S p q) := Classical.propDecidable _
section
variable {P : Nat} {R : Int → Rd} {w : Int → Int}
/-- Roads are taken in an order, each one that joins two groups. -/
noncomputable def grw (R : Int → Rd) : List Int → List Int → List Int
  | out, [] => out
  | out, k :: ks => grw R (if Cn (out.map R) (R k).1 (R k).2.1 then out else out ++ [k]) ks
theorem grw_append (out : List Int) : ∀ (xs ys : List Int) , grw R out (xs ++ ys) = grw R (grw R out xs) ys := by
  intro xs
  induction xs generalizing out with
  | nil => intro ys; rfl
  | cons x xs ih => intro ys; exact ih _ ys
theorem grw_more : ∀ (ks out : List Int), ∃ X, grw R out ks = out ++ X ∧ X.Sublist ks
  | [], out => ⟨[], by simp [grw], .slnil⟩
  | k :: ks, out => by
    rw [grw]
    split
    · obtain ⟨X, h, s⟩ := grw_more ks out
      exact ⟨X, h, s.cons _⟩
    · obtain ⟨X, h, s⟩ := grw_more ks (out ++ [k])
      refine ⟨k :: X, by rw [h]; simp, s.cons_cons _⟩
theorem grw_sub (ks : List Int) : (grw R [] ks).Sublist ks := by
  obtain ⟨X, h, s⟩ := grw_more (R := R) ks []
  rw [h]
  exact s
theorem cn_snoc {out : List Int} {k : Int} {p q : Int} : Cn ((out ++ [k]).map R) p q ↔ Cn (R k :: out.map R) p q := by
  refine Cn.iff (fun e => ?_)
  rw [List.map_append, List.mem_append, List.mem_cons]
  constructor
  · rintro (h | h)
    · exact .inr h
    · exact .inl (by simpa using h)
  · rintro (h | h)
    · exact .inr (by simp [h])
    · exact .inl h
theorem ind_snoc {out : List Int} {k : Int} : Ind P ((out ++ [k]).map R) ↔ Ind P (R k :: out.map R) := by
  have : ((out ++ [k]).map R).Perm (R k :: out.map R) := by
    rw [List.map_append]
    exact List.perm_append_comm
  exact ⟨fun h => h.perm this.symm, fun h => h.perm this⟩
/-- What was taken joins what all of them join, without a ring. -/
theorem grw_inv : ∀ (ks out S : List Int), (∀ k ∈ ks, InP P (R k)) → (∀ p q, Cn (out.map R) p q ↔ Cn (S.map R) p q) → Ind P (out.map R) →
    (∀ p q, Cn ((grw R out ks).map R) p q ↔ Cn ((S ++ ks).map R) p q) ∧ Ind P ((grw R out ks).map R)
  | [], out, S, _, h, hi => by rw [List.append_nil]; exact ⟨h, hi⟩
  | k :: ks, out, S, hP, h, hi => by
    rw [grw]
    have e : S ++ k :: ks = (S ++ [k]) ++ ks := by simp
    rw [e]
    have step : ∀ p q, Cn ((S ++ [k]).map R) p q ↔ Cn ((out ++ [k]).map R) p q := by
      intro p q
      rw [cn_snoc, cn_snoc]
      constructor <;> intro hh
      · rcases hh.add with g | ⟨g1, g2⟩ | ⟨g1, g2⟩
        · exact ((h _ _).2 g).up _
        · exact ((((h _ _).2 g1).up _).trans (Cn.one (by simp))).trans (((h _ _).2 g2).up _)
        · exact ((((h _ _).2 g1).up _).trans (Cn.one (by simp)).symm).trans (((h _ _).2 g2).up _)
      · rcases hh.add with g | ⟨g1, g2⟩ | ⟨g1, g2⟩
        · exact ((h _ _).1 g).up _
        · exact ((((h _ _).1 g1).up _).trans (Cn.one (by simp))).trans (((h _ _).1 g2).up _)
        · exact ((((h _ _).1 g1).up _).trans (Cn.one (by simp)).symm).trans (((h _ _).1 g2).up _)
    split
    · rename_i hc
      refine grw_inv ks out (S ++ [k]) (fun x hx => hP x (by simp [hx])) (fun p q => ?_) hi
      rw [step, cn_snoc]
      exact (Cn.add_iff hc).symm
    · rename_i hc
      refine grw_inv ks (out ++ [k]) (S ++ [k]) (fun x hx => hP x (by simp [hx])) (fun p q => (step p q).symm) ?_
      rw [ind_snoc]
      exact (Ind.cons (hP k (by simp)) hi).2 hc
theorem grw_cn {ks : List Int} (hP : ∀ k ∈ ks, InP P (R k)) : (∀ p q, Cn ((grw R [] ks).map R) p q ↔ Cn (ks.map R) p q) ∧ Ind P ((grw R [] ks).map R) := by
  have := grw_inv (P := P) ks [] [] hP (fun _ _ => Iff.rfl) (Ind.nil P)
  rw [List.nil_append] at this
  exact this
/-- In ascending order those up to a number come first. -/
theorem sorted_split (t : Int) : ∀ {L : List Int}, L.Pairwise (fun a b => w a ≤ w b) → L = L.filter (fun k => decide (w k ≤ t)) ++ L.filter (fun k => !decide (w k ≤ t))
  | [], _ => rfl
  | x :: L, h => by
    rw [List.pairwise_cons] at h
    have ih := sorted_split t h.2
    by_cases hx : w x ≤ t
    · rw [List.filter_cons_of_pos (by simpa using hx), List.filter_cons_of_neg (by simpa using hx), List.cons_append, ← ih]
    · have e1 : L.filter (fun k => decide (w k ≤ t)) = [] := by
        rw [List.filter_eq_nil_iff]
        intro y hy
        have := h.1 y hy
        simp
        omega
      have e2 : L.filter (fun k => !decide (w k ≤ t)) = L := by
        rw [e1, List.nil_append] at ih
        exact ih.symm
      rw [List.filter_cons_of_neg (by simpa using hx), List.filter_cons_of_pos (by simpa using hx), e1, e2, List.nil_append]
/-- The roads up to a cost. -/
def upTo (w : Int → Int) (L : List Int) (t : Int) : List Int := L.filter (fun k => decide (w k ≤ t))
theorem mem_upTo {L : List Int} {t k : Int} : k ∈ upTo w L t ↔ k ∈ L ∧ w k ≤ t := by
  unfold upTo
  rw [List.mem_filter, decide_eq_true_eq]
theorem grw_thr {L : List Int} (hw : L.Pairwise (fun a b => w a ≤ w b)) (t : Int) : upTo w (grw R [] L) t = grw R [] (upTo w L t) := by
  have hs := sorted_split (w := w) t hw
  have e : grw R [] L = grw R (grw R [] (upTo w L t)) (L.filter (fun k => !decide (w k ≤ t))) := by
    conv => lhs; rw [hs]
    exact grw_append _ _ _
  obtain ⟨X, h1, h2⟩ := grw_more (R := R) (L.filter (fun k => !decide (w k ≤ t))) (grw R [] (upTo w L t))
  rw [e, h1]
  unfold upTo
  rw [List.filter_append]
  have e1 : X.filter (fun k => decide (w k ≤ t)) = [] := by
    rw [List.filter_eq_nil_iff]
    intro y hy
    have := (List.mem_filter.1 (h2.subset hy)).2
    simpa using this
  have e2 : (grw R [] (L.filter (fun k => decide (w k ≤ t)))).filter (fun k => decide (w k ≤ t)) = grw R [] (L.filter (fun k => decide (w k ≤ t))) := by
    rw [List.filter_eq_self]
    intro y hy
    exact (List.mem_filter.1 ((grw_sub _).subset hy)).2
  rw [e1, e2, List.append_nil]
theorem inP_map {L : List Int} (h : ∀ k ∈ L, InP P (R k)) : ∀ e ∈ L.map R, InP P e := by
  intro e he
  obtain ⟨k, hk, rfl⟩ := List.mem_map.1 he
  exact h k hk
theorem map_sub {A B : List Int} (h : ∀ k ∈ A, k ∈ B) {p q : Int} (hc : Cn (A.map R) p q) : Cn (B.map R) p q :=
  hc.mono (fun e he => by
    obtain ⟨k, hk, rfl⟩ := List.mem_map.1 he
    exact List.mem_map_of_mem (h k hk))
/-- How many of those up to a cost are taken. -/
theorem grw_len {L : List Int} (hP : ∀ k ∈ L, InP P (R k)) : (grw R [] L).length + comps P (L.map R) = P := by
  obtain ⟨h1, h2⟩ := grw_cn hP
  unfold Ind at h2
  rw [List.length_map] at h2
  rw [← comps_congr h1]
  exact h2
theorem thr_G {L : List Int} (hP : ∀ k ∈ L, InP P (R k)) (hw : L.Pairwise (fun a b => w a ≤ w b)) (t : Int) : (upTo w (grw R [] L) t).length + comps P ((upTo w L t).map R) = P := by
  rw [grw_thr hw]
  exact grw_len (fun k hk => hP k (mem_upTo.1 hk).1)
theorem upTo_sub (L : List Int) (t : Int) : (upTo w L t).Sublist L := List.filter_sublist
theorem ind_sub {T F : List Int} (hs : F.Sublist T) (hP : ∀ k ∈ T, InP P (R k)) (hI : Ind P (T.map R)) : Ind P (F.map R) := hI.sub (hs.map R) (inP_map hP)
theorem thr_T {L T : List Int} (hP : ∀ k ∈ L, InP P (R k)) (hT : ∀ k ∈ T, k ∈ L) (hI : Ind P (T.map R)) (t : Int) : (upTo w T t).length + comps P ((upTo w L t).map R) ≤ P := by
  have h1 := ind_sub (upTo_sub (w := w) T t) (fun k hk => hP k (hT k hk)) hI
  unfold Ind at h1
  rw [List.length_map] at h1
  have h2 : comps P ((upTo w L t).map R) ≤ comps P ((upTo w T t).map R) := comps_mono (fun p q h => map_sub (fun k hk => by
    rw [mem_upTo] at hk ⊢
    exact ⟨hT k hk.1, hk.2⟩) h)
  omega
/-- What a list of roads costs. -/
def cst (w : Int → Int) (T : List Int) : Int := (T.map w).sum
theorem cst_cons (k : Int) (T : List Int) : cst w (k :: T) = w k + cst w T := by unfold cst; rw [List.map_cons, List.sum_cons]
theorem cst_perm {T U : List Int} (h : T.Perm U) : cst w T = cst w U := by
  unfold cst
  induction h with
  | nil => rfl
  | cons x _ ih => simp only [List.map_cons, List.sum_cons, ih]
  | swap x y l => simp only [List.map_cons, List.sum_cons]; omega
  | trans _ _ ih1 ih2 => exact ih1.trans ih2
/-- How many numbers below 'M' a number is above. -/
def stairs (x : Int) : Nat → Int
  | 0 => 0
  | m + 1 => stairs x m + (if x ≤ (m : Int) then 0 else 1)
theorem stairs_eq {x : Int} (h0 : 0 ≤ x) : ∀ {M : Nat}, x ≤ M → stairs x M = x := by
  have key : ∀ M : Nat, stairs x M = min x M := by
    intro M
    induction M with
    | zero => show (0 : Int) = _; omega
    | succ m ih => rw [stairs, ih]; split <;> omega
  intro M h
  rw [key]
  omega
def layers (w : Int → Int) (T : List Int) : Nat → Int
  | 0 => 0
  | m + 1 => layers w T m + ((T.length : Int) - (upTo w T (m : Int)).length)
theorem layers_nil : ∀ M : Nat, layers w [] M = 0
  | 0 => rfl
  | m + 1 => by rw [layers, layers_nil m]; rfl
theorem layers_cons (k : Int) (T : List Int) : ∀ M : Nat, layers w (k :: T) M = stairs (w k) M + layers w T M
  | 0 => rfl
  | m + 1 => by
    rw [layers, layers, stairs, layers_cons k T m]
    unfold upTo
    by_cases h : w k ≤ (m : Int)
    · rw [List.filter_cons_of_pos (by simpa using h), if_pos h]
      simp only [List.length_cons]
      omega
    · rw [List.filter_cons_of_neg (by simpa using h), if_neg h]
      simp only [List.length_cons]
      omega
theorem cst_layers {M : Nat} : ∀ {T : List Int}, (∀ k ∈ T, 0 ≤ w k ∧ w k ≤ M) → cst w T = layers w T M
  | [], _ => by rw [layers_nil]; rfl
  | k :: T, h => by
    have hk := h k (by simp)
    rw [cst_cons, layers_cons, stairs_eq hk.1 hk.2, cst_layers (fun x hx => h x (by simp [hx]))]
theorem layers_le {A B : List Int} (hl : A.length = B.length) (h : ∀ t : Int, (upTo w B t).length ≤ (upTo w A t).length) : ∀ M : Nat, layers w A M ≤ layers w B M
  | 0 => Int.le_refl _
  | m + 1 => by
    have := layers_le hl h m
    have := h (m : Int)
    rw [layers, layers]
    omega
/-- What is taken in ascending order costs the least. -/
theorem grw_opt {M : Nat} {L T : List Int} (hP : ∀ k ∈ L, InP P (R k)) (hw : L.Pairwise (fun a b => w a ≤ w b)) (hb : ∀ k ∈ L, 0 ≤ w k ∧ w k ≤ M) (hT : ∀ k ∈ T, k ∈ L) (hI : Ind P (T.map R)) (hl : T.length = (grw R [] L).length) : cst w (grw R [] L) ≤ cst w T := by
  rw [cst_layers (M := M) (fun k hk => hb k ((grw_sub L).subset hk)), cst_layers (M := M) (fun k hk => hb k (hT k hk))]
  refine layers_le hl.symm (fun t => ?_) M
  have h1 := thr_G hP hw t
  have h2 := thr_T (w := w) hP hT hI t
  omega
/-- A tree of a net. -/
def Tree (P : Nat) (R : Int → Rd) (T : List Int) : Prop := T.length + 1 = P ∧ comps P (T.map R) = 1
theorem Tree.ind {T : List Int} (h : Tree P R T) : Ind P (T.map R) := by
  unfold Ind
  rw [List.length_map, h.2]
  exact h.1
theorem tree_of_ind {T : List Int} (h1 : T.length + 1 = P) (h2 : Ind P (T.map R)) : Tree P R T := by
  refine ⟨h1, ?_⟩
  unfold Ind at h2
  rw [List.length_map] at h2
  omega
theorem Tree.perm {T U : List Int} (h : Tree P R T) (hp : U.Perm T) : Tree P R U := by
  refine ⟨by rw [hp.length_eq]; exact h.1, ?_⟩
  rw [comps_mem (fun e => (hp.map R).mem_iff)]
  exact h.2
theorem tree_all {L T : List Int} (hT : ∀ k ∈ T, k ∈ L) (h : Tree P R T) : comps P (L.map R) = 1 := by
  have h1 : comps P (L.map R) ≤ comps P (T.map R) := comps_mono (fun p q hc => map_sub hT hc)
  have h2 := comps_pos (P := P) (S := L.map R) (by have := h.1; omega)
  have := h.2
  omega
theorem grw_tree {L : List Int} (hP : ∀ k ∈ L, InP P (R k)) (h1 : 1 ≤ P) : Tree P R (grw R [] L) ↔ comps P (L.map R) = 1 := by
  constructor
  · exact tree_all (fun k hk => (grw_sub L).subset hk)
  · intro h
    have hl := grw_len hP
    refine tree_of_ind (by omega) (grw_cn hP).2
/-- A tree that no change of one road makes cheaper costs the least. -/
theorem local_opt {M : Nat} {L T : List Int} (hP : ∀ k ∈ L, InP P (R k)) (hw : L.Pairwise (fun a b => w a ≤ w b)) (hb : ∀ k ∈ L, 0 ≤ w k ∧ w k ≤ M) (hT : ∀ k ∈ T, k ∈ L) (hTr : Tree P R T)
    (hloc : ∀ (A B : List Int) (g f : Int), T.Perm (g :: (A ++ B)) → f ∈ L → Tree P R (f :: (A ++ B)) → w g ≤ w f) : cst w T ≤ cst w (grw R [] L) := by
  have hG : Tree P R (grw R [] L) := (grw_tree hP (by have := hTr.1; omega)).2 (tree_all hT hTr)
  rw [cst_layers (M := M) (fun k hk => hb k ((grw_sub L).subset hk)), cst_layers (M := M) (fun k hk => hb k (hT k hk))]
  refine layers_le (by have := hG.1; have := hTr.1; omega) (fun t => ?_) M
  have h1 := thr_G hP hw t
  have hTP : ∀ k ∈ T, InP P (R k) := fun k hk => hP k (hT k hk)
  have h2 := ind_sub (upTo_sub (w := w) T t) hTP hTr.ind
  -- all roads up to 't' are joined by the tree's roads up to 't'
  have key : ∀ f ∈ upTo w L t, Cn ((upTo w T t).map R) (R f).1 (R f).2.1 := by
    intro f hf
    rw [mem_upTo] at hf
    refine Classical.byContradiction (fun hn => ?_)
    -- the dear roads of the tree are put aside one after another
    have chain : ∀ (D K : List Int), T.Perm (D ++ K) → (∀ k ∈ D, ¬ w k ≤ t) → ¬ Cn (K.map R) (R f).1 (R f).2.1 → Cn ((D ++ K).map R) (R f).1 (R f).2.1 → False := by
      intro D
      induction D with
      | nil => intro K _ _ h3 h4; exact h3 h4
      | cons g D ih =>
        intro K hp hD h3 h4
        by_cases h5 : Cn ((g :: K).map R) (R f).1 (R f).2.1
        · -- 'g' joins them: 'f' may stand in its place
          have hp2 : T.Perm (g :: (D ++ K)) := hp
          have hIgDK : Ind P (R g :: (D ++ K).map R) := hTr.ind.perm ((hp2.symm).map R)
          have hPg : InP P (R g) := hTP g (hp2.symm.subset (by simp))
          have hPf := hP f hf.1
          have hIDK : Ind P ((D ++ K).map R) := ind_sub (T := g :: (D ++ K)) (List.sublist_cons_self _ _) (fun k hk => hTP k (hp2.symm.subset hk)) hIgDK
          have hnot : ¬ Cn ((D ++ K).map R) (R f).1 (R f).2.1 := by
            intro hc
            have hng := (Ind.cons hPg hIDK).1 hIgDK
            have up : ∀ {p q : Int}, Cn (K.map R) p q → Cn ((D ++ K).map R) p q := fun h => map_sub (fun k hk => by simp [hk]) h
            rcases Cn.add (e := R g) h5 with a | ⟨a, b⟩ | ⟨a, b⟩
            · exact h3 a
            · exact hng (((up a).symm.trans hc).trans (up b).symm)
            · exact hng ((((up b).trans hc.symm).trans (up a)))
          have hTf : Tree P R (f :: (D ++ K)) := by
            refine tree_of_ind ?_ ((Ind.cons hPf hIDK).2 hnot)
            have := hTr.1
            rw [hp2.length_eq] at this
            exact this
          have := hloc D K g f hp2 hf.1 hTf
          have := hD g (by simp)
          have := hf.2
          omega
        · refine ih (g :: K) (hp.trans ?_) (fun k hk => hD k (by simp [hk])) h5 (map_sub (fun k hk => ?_) h4)
          · exact List.perm_middle.symm
          · rcases List.mem_append.1 hk with hk | hk
            · rcases List.mem_cons.1 hk with rfl | hk
              · simp
              · simp [hk]
            · simp [hk]
    refine chain (T.filter (fun k => !decide (w k ≤ t))) (upTo w T t) ?_ ?_ hn ?_
    · exact (List.filter_append_perm (fun k => decide (w k ≤ t)) T).symm.trans List.perm_append_comm
    · intro k hk
      simpa using (List.mem_filter.1 hk).2
    · have h6 : Cn (T.map R) (R f).1 (R f).2.1 := by
        have hc1 := (comps_one (P := P) (S := T.map R) (by have := hTr.1; omega)).1 hTr.2
        have hPf := hP f hf.1
        exact (hc1 _ hPf.1.1 hPf.1.2).symm.trans (hc1 _ hPf.2.1 hPf.2.2)
      refine map_sub (fun k hk => ?_) h6
      rw [List.mem_append, List.mem_filter, mem_upTo]
      by_cases hkt : w k ≤ t
      · exact .inr ⟨hk, hkt⟩
      · exact .inl ⟨hk, by simpa using hkt⟩
  have h3 : comps P ((upTo w T t).map R) ≤ comps P ((upTo w L t).map R) := by
    refine comps_mono (fun p q h => ?_)
    induction h with
    | refl => exact .refl _
    | step _ e he hr ih =>
      obtain ⟨k, hk, rfl⟩ := List.mem_map.1 he
      rcases hr with ⟨rfl, rfl⟩ | ⟨rfl, rfl⟩
      · exact ih.trans (key k hk)
      · exact ih.trans (key k hk).symm
  unfold Ind at h2
  rw [List.length_map] at h2
  omega
end
end Go.Proofs.Ytkgfcdpckfhknaa

