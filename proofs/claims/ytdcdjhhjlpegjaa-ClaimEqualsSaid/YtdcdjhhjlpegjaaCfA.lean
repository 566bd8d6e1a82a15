/- What the law's proof rests on, part 3: for all that is said in each line. No conditions. -/
import Derived.Test.YtdcdjhhjlpegjaaRows
import Derived.Test.YtdcdjhhjlpegjaaEnB
namespace Go.Proofs.Ytdcdjhhjlpegjaa
open Go Go.Eng
/-- selion/claim.Validate [] -/
def m16 : MFun := ⟨18, [], [.mov (.s 4)],
 .seq (.ops [⟨(some 4), some undefA, none, false, .pu (.mov (.c (.int .i64 0)))⟩])
 (.seq (.seq (.ops [⟨(some 5), some undefA, none, false, .pu (.mov (.s 0))⟩,
   ⟨(some 6), some undefA, none, false, .call 53 [(.s 5)]⟩,
   ⟨(some 7), some undefA, none, false, .pu (.not (.s 6))⟩,
   ⟨(some 8), some undefA, none, false, .pu (.mov (.s 7))⟩,
   ⟨(some 9), some undefA, (some (8, false)), false, .pu (.mov (.s 1))⟩,
   ⟨(some 10), some undefA, (some (8, false)), false, .pu (.bin .lss (.s 9) (.c (.int .i64 0)))⟩,
   ⟨(some 11), some undefA, none, false, .pu (.pick (.s 8) (.c (.bool true)) (.s 10))⟩,
   ⟨(some 12), some undefA, none, false, .pu (.mov (.s 11))⟩,
   ⟨(some 13), some undefA, (some (12, false)), false, .pu (.mov (.s 1))⟩,
   ⟨(some 14), some undefA, (some (12, false)), false, .pu (.mov (.s 0))⟩,
   ⟨(some 15), some undefA, (some (12, false)), false, .call 54 [(.s 14)]⟩,
   ⟨(some 16), some undefA, (some (12, false)), false, .pu (.bin .gtr (.s 13) (.s 15))⟩,
   ⟨(some 17), some undefA, none, false, .pu (.pick (.s 12) (.c (.bool true)) (.s 16))⟩])
 (.cond (.s 17) (.seq (.ops [⟨(some 4), some undefA, none, false, .pu (.mov (.c (.int .i64 1)))⟩])
  (.ret))
 (.skip)))
 (.seq (.ops [⟨(some 4), some undefA, none, false, .pu (.mov (.c (.int .i64 0)))⟩])
 (.ret)))⟩
theorem t16 : trF Try.prog [] [] Try.f16 = some m16 := by kernel_rfl
/-- selion/selionlaw03.known [] -/
def m17 : MFun := ⟨34, [], [.mov (.s 0)],
 .seq (.ops [⟨(some 0), some undefA, none, false, .pu (.mov (.c (.bool false)))⟩])
 (.seq (.ops [⟨(some 6), some undefA, none, false, .ha (.blds 1 3 [.int .i64 0] [(0, 1, (.c (.int .i64 100))), (1, 1, (.c (.int .i64 200))), (2, 1, (.c (.int .i64 300)))])⟩,
   ⟨(some 7), some undefA, none, false, .call 21 [(.s 6), (.c (.int .i64 200))]⟩,
   ⟨(some 5), some undefA, none, false, .pu (.mov (.s 7))⟩,
   ⟨(some 8), some undefA, none, false, .pu (.extr 0 (.s 5))⟩,
   ⟨(some 9), some undefA, none, false, .pu (.extr 1 (.s 5))⟩,
   ⟨(some 1), some undefA, none, false, .pu (.mov (.s 8))⟩,
   ⟨(some 2), some undefA, none, false, .pu (.mov (.s 9))⟩])
 (.seq (.ops [⟨(some 11), some undefA, none, false, .ha (.blds 1 3 [.int .i64 0] [(0, 1, (.c (.int .i64 1))), (1, 1, (.c (.int .i64 1))), (2, 1, (.c (.int .i64 1)))])⟩,
   ⟨(some 12), some undefA, none, false, .call 31 [(.s 11), (.c (.int .i64 2))]⟩,
   ⟨(some 10), some undefA, none, false, .pu (.mov (.s 12))⟩,
   ⟨(some 13), some undefA, none, false, .pu (.extr 0 (.s 10))⟩,
   ⟨(some 14), some undefA, none, false, .pu (.extr 1 (.s 10))⟩,
   ⟨(some 3), some undefA, none, false, .pu (.mov (.s 13))⟩,
   ⟨(some 4), some undefA, none, false, .pu (.mov (.s 14))⟩])
 (.seq (.ops [⟨(some 15), some undefA, none, false, .pu (.mov (.s 2))⟩,
   ⟨(some 16), some undefA, none, false, .pu (.bin .eql (.s 15) (.c (.int .i64 0)))⟩,
   ⟨(some 17), some undefA, none, false, .pu (.mov (.s 16))⟩,
   ⟨(some 18), some undefA, (some (17, true)), false, .pu (.mov (.s 1))⟩,
   ⟨(some 19), some undefA, (some (17, true)), false, .pu (.build [.int .i64 0, .int .i64 0] [(0, 1, (.c (.int .i64 50))), (1, 1, (.c (.int .i64 1)))])⟩,
   ⟨(some 20), some undefA, (some (17, true)), false, .pu (.build [.int .i64 0, .int .i64 0] [(0, 1, (.c (.int .i64 75))), (1, 1, (.c (.int .i64 1)))])⟩,
   ⟨(some 21), some undefA, (some (17, true)), false, .pu (.build [.int .i64 0, .int .i64 0] [(0, 1, (.c (.int .i64 75))), (1, 1, (.c (.int .i64 1)))])⟩,
   ⟨(some 22), some undefA, (some (17, true)), false, .ha (.blds 2 3 [.int .i64 0, .int .i64 0] [(0, 2, (.s 19)), (2, 2, (.s 20)), (4, 2, (.s 21))])⟩,
   ⟨(some 23), some undefA, (some (17, true)), false, .call 30 [(.s 18), (.s 22)]⟩,
   ⟨(some 24), some undefA, none, false, .pu (.pick (.s 17) (.s 23) (.c (.bool false)))⟩,
   ⟨(some 25), some undefA, none, false, .pu (.mov (.s 24))⟩,
   ⟨(some 26), some undefA, (some (25, true)), false, .pu (.mov (.s 4))⟩,
   ⟨(some 27), some undefA, (some (25, true)), false, .pu (.bin .eql (.s 26) (.c (.int .i64 0)))⟩,
   ⟨(some 28), some undefA, none, false, .pu (.pick (.s 25) (.s 27) (.c (.bool false)))⟩,
   ⟨(some 29), some undefA, none, false, .pu (.mov (.s 28))⟩,
   ⟨(some 30), some undefA, (some (29, true)), false, .pu (.mov (.s 3))⟩,
   ⟨(some 31), some undefA, (some (29, true)), false, .ha (.blds 1 3 [.int .i64 0] [(0, 1, (.c (.int .i64 1))), (1, 1, (.c (.int .i64 1))), (2, 1, (.c (.int .i64 0)))])⟩,
   ⟨(some 32), some undefA, (some (29, true)), false, .call 26 [(.s 30), (.s 31)]⟩,
   ⟨(some 33), some undefA, none, false, .pu (.pick (.s 29) (.s 32) (.c (.bool false)))⟩,
   ⟨(some 0), some undefA, none, false, .pu (.mov (.s 33))⟩])
 (.ret))))⟩
theorem t17 : trF Try.prog [] [] Try.f17 = some m17 := by kernel_rfl
/-- selion/claim.ByCourt [] -/
def m21 : MFun := ⟨11, [], [.mov (.s 4), .mov (.s 5)],
 .seq (.ops [⟨(some 4), some undefA, none, false, .pu (.mov (.c (.nilS)))⟩,
   ⟨(some 5), some undefA, none, false, .pu (.mov (.c (.int .i64 0)))⟩])
 (.seq (.ops [⟨(some 6), some undefA, none, false, .pu (.mov (.s 0))⟩,
   ⟨(some 7), some undefA, none, false, .pu (.mov (.s 1))⟩,
   ⟨(some 8), some undefA, none, false, .call 55 [(.c (.int .i64 3)), (.s 6), (.s 7)]⟩,
   ⟨(some 9), some undefA, none, false, .pu (.extr 0 (.s 8))⟩,
   ⟨(some 10), some undefA, none, false, .pu (.extr 1 (.s 8))⟩,
   ⟨(some 4), some undefA, none, false, .pu (.mov (.s 9))⟩,
   ⟨(some 5), some undefA, none, false, .pu (.mov (.s 10))⟩])
 (.ret))⟩
theorem t21 : trF Try.prog [] [] Try.f21 = some m21 := by kernel_rfl
/-- selion/selionref01.SameInts [loop [0, 1, 5]] -/
def m26 : MFun := ⟨26, [], [.mov (.s 4)],
 .seq (.ops [⟨(some 4), some undefA, none, false, .pu (.mov (.c (.bool false)))⟩])
 (.seq (.seq (.ops [⟨(some 6), some undefA, none, false, .pu (.mov (.s 0))⟩,
   ⟨(some 7), some undefA, none, false, .pu (.len (.s 6))⟩,
   ⟨(some 8), some undefA, none, false, .pu (.mov (.s 1))⟩,
   ⟨(some 9), some undefA, none, false, .pu (.len (.s 8))⟩,
   ⟨(some 10), some undefA, none, false, .pu (.bin .neq (.s 7) (.s 9))⟩])
 (.cond (.s 10) (.seq (.ops [⟨(some 4), some undefA, none, false, .pu (.mov (.c (.bool false)))⟩])
  (.ret))
 (.skip)))
 (.seq (.seq (.ops [⟨(some 5), some undefA, none, false, .pu (.mov (.c (.int .i64 0)))⟩])
 (.block 0 (.loop (.seq (.seq (.ops [⟨(some 11), some undefA, none, false, .pu (.mov (.s 5))⟩,
     ⟨(some 12), some undefA, none, false, .pu (.mov (.s 0))⟩,
     ⟨(some 13), some undefA, none, false, .pu (.len (.s 12))⟩,
     ⟨(some 14), some undefA, none, false, .pu (.bin .lss (.s 11) (.s 13))⟩])
   (.cond (.s 14) (.skip)
   (.exit 0)))
   (.seq (.block 1 (.seq (.ops [⟨(some 17), some undefA, none, true, .pu (.mov (.s 0))⟩,
      ⟨(some 18), some undefA, none, true, .pu (.mov (.s 5))⟩,
      ⟨(some 19), some undefA, none, true, .pu (.idx 1 (.s 17) (.s 18))⟩,
      ⟨(some 20), some undefA, none, true, .ld (.ld 1 false (.s 19))⟩,
      ⟨(some 21), some undefA, none, true, .pu (.mov (.s 1))⟩,
      ⟨(some 22), some undefA, none, true, .pu (.mov (.s 5))⟩,
      ⟨(some 23), some undefA, none, true, .pu (.idx 1 (.s 21) (.s 22))⟩,
      ⟨(some 24), some undefA, none, true, .ld (.ld 1 false (.s 23))⟩,
      ⟨(some 25), some undefA, none, false, .pu (.bin .neq (.s 20) (.s 24))⟩])
    (.cond (.s 25) (.seq (.ops [⟨(some 4), some undefA, none, false, .pu (.mov (.c (.bool false)))⟩])
     (.ret))
    (.skip))))
   (.ops [⟨(some 15), some undefA, none, false, .pu (.mov (.s 5))⟩,
     ⟨(some 16), some undefA, none, false, .pu (.bin .add (.s 15) (.c (.int .i64 1)))⟩,
     ⟨(some 5), some undefA, none, false, .pu (.mov (.s 16))⟩]))))))
 (.seq (.ops [⟨(some 4), some undefA, none, false, .pu (.mov (.c (.bool true)))⟩])
 (.ret))))⟩
theorem t26 : trF Try.prog [] [] Try.f26 = some m26 := by kernel_rfl
/-- selion/selionref03.SameRats [loop [0, 1, 5]] -/
def m30 : MFun := ⟨26, [], [.mov (.s 4)],
 .seq (.ops [⟨(some 4), some undefA, none, false, .pu (.mov (.c (.bool false)))⟩])
 (.seq (.seq (.ops [⟨(some 6), some undefA, none, false, .pu (.mov (.s 0))⟩,
   ⟨(some 7), some undefA, none, false, .pu (.len (.s 6))⟩,
   ⟨(some 8), some undefA, none, false, .pu (.mov (.s 1))⟩,
   ⟨(some 9), some undefA, none, false, .pu (.len (.s 8))⟩,
   ⟨(some 10), some undefA, none, false, .pu (.bin .neq (.s 7) (.s 9))⟩])
 (.cond (.s 10) (.seq (.ops [⟨(some 4), some undefA, none, false, .pu (.mov (.c (.bool false)))⟩])
  (.ret))
 (.skip)))
 (.seq (.seq (.ops [⟨(some 5), some undefA, none, false, .pu (.mov (.c (.int .i64 0)))⟩])
 (.block 0 (.loop (.seq (.seq (.ops [⟨(some 11), some undefA, none, false, .pu (.mov (.s 5))⟩,
     ⟨(some 12), some undefA, none, false, .pu (.mov (.s 0))⟩,
     ⟨(some 13), some undefA, none, false, .pu (.len (.s 12))⟩,
     ⟨(some 14), some undefA, none, false, .pu (.bin .lss (.s 11) (.s 13))⟩])
   (.cond (.s 14) (.skip)
   (.exit 0)))
   (.seq (.block 1 (.seq (.ops [⟨(some 17), some undefA, none, true, .pu (.mov (.s 0))⟩,
      ⟨(some 18), some undefA, none, true, .pu (.mov (.s 5))⟩,
      ⟨(some 19), some undefA, none, true, .pu (.idx 2 (.s 17) (.s 18))⟩,
      ⟨(some 20), some undefA, none, true, .ld (.ld 2 true (.s 19))⟩,
      ⟨(some 21), some undefA, none, true, .pu (.mov (.s 1))⟩,
      ⟨(some 22), some undefA, none, true, .pu (.mov (.s 5))⟩,
      ⟨(some 23), some undefA, none, true, .pu (.idx 2 (.s 21) (.s 22))⟩,
      ⟨(some 24), some undefA, none, true, .ld (.ld 2 true (.s 23))⟩,
      ⟨(some 25), some undefA, none, false, .pu (.eqs true [true, true] (.s 20) (.s 24))⟩])
    (.cond (.s 25) (.seq (.ops [⟨(some 4), some undefA, none, false, .pu (.mov (.c (.bool false)))⟩])
     (.ret))
    (.skip))))
   (.ops [⟨(some 15), some undefA, none, false, .pu (.mov (.s 5))⟩,
     ⟨(some 16), some undefA, none, false, .pu (.bin .add (.s 15) (.c (.int .i64 1)))⟩,
     ⟨(some 5), some undefA, none, false, .pu (.mov (.s 16))⟩]))))))
 (.seq (.ops [⟨(some 4), some undefA, none, false, .pu (.mov (.c (.bool true)))⟩])
 (.ret))))⟩
theorem t30 : trF Try.prog [] [] Try.f30 = some m30 := by kernel_rfl
/-- selion/claim.Whole [loop [1, 7, 8, 9, 10, 30, 31, 32], loop [8, 9, 60, 61]] -/
def m31 : MFun := ⟨78, [], [.mov (.s 4), .mov (.s 5)],
 .seq (.ops [⟨(some 4), some undefA, none, false, .pu (.mov (.c (.nilS)))⟩,
   ⟨(some 5), some undefA, none, false, .pu (.mov (.c (.int .i64 0)))⟩])
 (.seq (.seq (.ops [⟨(some 14), some undefA, none, false, .pu (.mov (.s 0))⟩,
   ⟨(some 15), some undefA, none, false, .pu (.mov (.s 1))⟩,
   ⟨(some 16), some undefA, none, false, .call 16 [(.s 14), (.s 15)]⟩,
   ⟨(some 6), some undefA, none, false, .pu (.mov (.s 16))⟩])
 (.seq (.ops [⟨(some 17), some undefA, none, false, .pu (.mov (.s 6))⟩,
   ⟨(some 18), some undefA, none, false, .pu (.bin .neq (.s 17) (.c (.int .i64 0)))⟩])
 (.cond (.s 18) (.seq (.ops [⟨(some 19), some undefA, none, false, .pu (.mov (.s 6))⟩,
    ⟨(some 4), some undefA, none, false, .pu (.mov (.c (.nilS)))⟩,
    ⟨(some 5), some undefA, none, false, .pu (.mov (.s 19))⟩])
  (.ret))
 (.skip))))
 (.seq (.ops [⟨(some 20), some undefA, none, false, .pu (.mov (.s 0))⟩,
   ⟨(some 21), some undefA, none, false, .call 54 [(.s 20)]⟩,
   ⟨(some 22), some undefA, none, false, .pu (.mm true (.c (.int .i64 1)) [(.s 21)])⟩,
   ⟨(some 7), some undefA, none, false, .pu (.mov (.s 22))⟩])
 (.seq (.ops [⟨(some 23), some undefA, none, false, .pu (.mov (.s 0))⟩,
   ⟨(some 24), some undefA, none, false, .pu (.len (.s 23))⟩,
   ⟨(some 25), some undefA, none, false, .ha (.mks 1 [.int .i64 0] (.s 24) (.s 24))⟩,
   ⟨(some 8), some undefA, none, false, .pu (.mov (.s 25))⟩])
 (.seq (.ops [⟨(some 26), some undefA, none, false, .pu (.mov (.s 0))⟩,
   ⟨(some 27), some undefA, none, false, .pu (.len (.s 26))⟩,
   ⟨(some 28), some undefA, none, false, .ha (.mks 1 [.int .i64 0] (.s 27) (.s 27))⟩,
   ⟨(some 9), some undefA, none, false, .pu (.mov (.s 28))⟩])
 (.seq (.ops [⟨(some 29), some undefA, none, false, .pu (.mov (.s 1))⟩,
   ⟨(some 10), some undefA, none, false, .pu (.mov (.s 29))⟩])
 (.seq (.seq (.ops [⟨(some 30), some undefA, none, false, .pu (.mov (.s 0))⟩,
   ⟨(some 31), some undefA, none, false, .pu (.len (.s 30))⟩,
   ⟨(some 32), some undefA, none, false, .pu (.mov (.c (.int .i64 0)))⟩])
 (.block 0 (.loop (.seq (.ops [⟨(some 33), some undefA, none, false, .pu (.bin .lss (.s 32) (.s 31))⟩])
   (.seq (.cond (.s 33) (.skip)
   (.exit 0))
   (.seq (.block 1 (.seq (.ops [⟨(some 34), some undefA, none, false, .pu (.mov (.s 32))⟩,
      ⟨(some 35), some undefA, none, false, .pu (.idx 1 (.s 30) (.s 32))⟩,
      ⟨(some 36), some undefA, none, false, .ld (.ld 1 false (.s 35))⟩,
      ⟨(some 11), some undefA, none, false, .pu (.mov (.s 34))⟩,
      ⟨(some 12), some undefA, none, false, .pu (.mov (.s 36))⟩])
    (.seq (.ops [⟨(some 37), some undefA, none, false, .pu (.mov (.s 9))⟩,
      ⟨(some 38), some undefA, none, false, .pu (.mov (.s 11))⟩,
      ⟨(some 39), some undefA, none, false, .pu (.mov (.s 8))⟩,
      ⟨(some 40), some undefA, none, false, .pu (.mov (.s 11))⟩,
      ⟨(some 41), some undefA, none, false, .pu (.mov (.s 12))⟩,
      ⟨(some 42), some undefA, none, false, .pu (.mov (.s 1))⟩,
      ⟨(some 43), some undefA, none, false, .pu (.bin .mul (.s 41) (.s 42))⟩,
      ⟨(some 44), some undefA, none, false, .pu (.mov (.s 7))⟩,
      ⟨(some 45), some undefA, none, false, .pu (.bin .quo (.s 43) (.s 44))⟩,
      ⟨(some 46), some undefA, none, false, .pu (.mov (.s 12))⟩,
      ⟨(some 47), some undefA, none, false, .pu (.mov (.s 1))⟩,
      ⟨(some 48), some undefA, none, false, .pu (.bin .mul (.s 46) (.s 47))⟩,
      ⟨(some 49), some undefA, none, false, .pu (.mov (.s 7))⟩,
      ⟨(some 50), some undefA, none, false, .pu (.bin .rem (.s 48) (.s 49))⟩,
      ⟨(some 51), some undefA, none, false, .pu (.idx 1 (.s 37) (.s 38))⟩,
      ⟨none, some undefA, none, false, .ha (.st 1 (.s 51) (.s 45))⟩,
      ⟨(some 52), some undefA, none, false, .pu (.idx 1 (.s 39) (.s 40))⟩,
      ⟨none, some undefA, none, false, .ha (.st 1 (.s 52) (.s 50))⟩])
    (.ops [⟨(some 53), some undefA, none, false, .pu (.mov (.s 10))⟩,
      ⟨(some 54), some undefA, none, false, .pu (.mov (.s 9))⟩,
      ⟨(some 55), some undefA, none, false, .pu (.mov (.s 11))⟩,
      ⟨(some 56), some undefA, none, false, .pu (.idx 1 (.s 54) (.s 55))⟩,
      ⟨(some 57), some undefA, none, false, .ld (.ld 1 false (.s 56))⟩,
      ⟨(some 58), some undefA, none, false, .pu (.bin .sub (.s 53) (.s 57))⟩,
      ⟨(some 10), some undefA, none, false, .pu (.mov (.s 58))⟩]))))
   (.ops [⟨(some 59), some undefA, none, false, .pu (.bin .add (.s 32) (.c (.int .i64 1)))⟩,
     ⟨(some 32), some undefA, none, false, .pu (.mov (.s 59))⟩])))))))
 (.seq (.seq (.ops [⟨(some 60), some undefA, none, false, .pu (.mov (.s 10))⟩,
   ⟨(some 61), some undefA, none, false, .pu (.mov (.c (.int .i64 0)))⟩])
 (.block 2 (.loop (.seq (.ops [⟨(some 62), some undefA, none, false, .pu (.bin .lss (.s 61) (.s 60))⟩])
   (.seq (.cond (.s 62) (.skip)
   (.exit 2))
   (.seq (.block 3 (.seq (.ops [⟨(some 63), some undefA, none, false, .pu (.mov (.s 8))⟩,
      ⟨(some 64), some undefA, none, false, .pu (.mov (.s 8))⟩,
      ⟨(some 65), some undefA, none, false, .call 64 [(.s 64)]⟩,
      ⟨(some 66), some undefA, none, false, .call 63 [(.s 63), (.s 65)]⟩,
      ⟨(some 13), some undefA, none, false, .pu (.mov (.s 66))⟩])
    (.seq (.ops [⟨(some 67), some undefA, none, false, .pu (.mov (.s 9))⟩,
      ⟨(some 68), some undefA, none, false, .pu (.mov (.s 13))⟩,
      ⟨(some 69), some undefA, none, false, .pu (.idx 1 (.s 67) (.s 68))⟩,
      ⟨(some 70), some undefA, none, false, .ld (.ld 1 false (.s 69))⟩,
      ⟨(some 71), some undefA, none, false, .pu (.bin .add (.s 70) (.c (.int .i64 1)))⟩,
      ⟨(some 72), some undefA, none, false, .pu (.idx 1 (.s 67) (.s 68))⟩,
      ⟨none, some undefA, none, false, .ha (.st 1 (.s 72) (.s 71))⟩])
    (.ops [⟨(some 73), some undefA, none, false, .pu (.mov (.s 8))⟩,
      ⟨(some 74), some undefA, none, false, .pu (.mov (.s 13))⟩,
      ⟨(some 75), some undefA, none, false, .pu (.idx 1 (.s 73) (.s 74))⟩,
      ⟨none, some undefA, none, false, .ha (.st 1 (.s 75) (.c (.int .i64 (-1))))⟩]))))
   (.ops [⟨(some 76), some undefA, none, false, .pu (.bin .add (.s 61) (.c (.int .i64 1)))⟩,
     ⟨(some 61), some undefA, none, false, .pu (.mov (.s 76))⟩])))))))
 (.seq (.ops [⟨(some 77), some undefA, none, false, .pu (.mov (.s 9))⟩,
   ⟨(some 4), some undefA, none, false, .pu (.mov (.s 77))⟩,
   ⟨(some 5), some undefA, none, false, .pu (.mov (.c (.int .i64 0)))⟩])
 (.ret)))))))))⟩
theorem t31 : trF Try.prog [] [] Try.f31 = some m31 := by kernel_rfl
/-- selion/claim.isClaims [] -/
def m53 : MFun := ⟨16, [], [.mov (.s 2)],
 .seq (.ops [⟨(some 2), some undefA, none, false, .pu (.mov (.c (.bool false)))⟩])
 (.seq (.ops [⟨(some 3), some undefA, none, false, .pu (.mov (.s 0))⟩,
   ⟨(some 4), some undefA, none, false, .pu (.len (.s 3))⟩,
   ⟨(some 5), some undefA, none, false, .pu (.bin .geq (.s 4) (.c (.int .i64 1)))⟩,
   ⟨(some 6), some undefA, none, false, .pu (.mov (.s 5))⟩,
   ⟨(some 7), some undefA, (some (6, true)), false, .pu (.mov (.s 0))⟩,
   ⟨(some 8), some undefA, (some (6, true)), false, .pu (.len (.s 7))⟩,
   ⟨(some 9), some undefA, (some (6, true)), false, .pu (.bin .leq (.s 8) (.c (.int .i64 8)))⟩,
   ⟨(some 10), some undefA, none, false, .pu (.pick (.s 6) (.s 9) (.c (.bool false)))⟩,
   ⟨(some 11), some undefA, none, false, .pu (.mov (.s 10))⟩,
   ⟨(some 12), some undefA, (some (11, true)), false, .pu (.mov (.s 0))⟩,
   ⟨(some 13), some undefA, (some (11, true)), false, .call 57 [(.s 12), (.c (.fn 78 []))]⟩,
   ⟨(some 14), some undefA, (some (11, true)), false, .pu (.not (.s 13))⟩,
   ⟨(some 15), some undefA, none, false, .pu (.pick (.s 11) (.s 14) (.c (.bool false)))⟩,
   ⟨(some 2), some undefA, none, false, .pu (.mov (.s 15))⟩])
 (.ret))⟩
theorem t53 : trF Try.prog [] [] Try.f53 = some m53 := by kernel_rfl
/-- selion/claim.total [loop [3, 6, 7, 8]] -/
def m54 : MFun := ⟨17, [], [.mov (.s 2)],
 .seq (.ops [⟨(some 2), some undefA, none, false, .pu (.mov (.c (.int .i64 0)))⟩])
 (.seq (.ops [⟨(some 3), some undefA, none, false, .pu (.mov (.c (.int .i64 0)))⟩])
 (.seq (.seq (.ops [⟨(some 6), some undefA, none, false, .pu (.mov (.s 0))⟩,
   ⟨(some 7), some undefA, none, false, .pu (.len (.s 6))⟩,
   ⟨(some 8), some undefA, none, false, .pu (.mov (.c (.int .i64 0)))⟩])
 (.block 0 (.loop (.seq (.ops [⟨(some 9), some undefA, none, false, .pu (.bin .lss (.s 8) (.s 7))⟩])
   (.seq (.cond (.s 9) (.skip)
   (.exit 0))
   (.seq (.block 1 (.seq (.ops [⟨(some 10), some undefA, none, false, .pu (.idx 1 (.s 6) (.s 8))⟩,
      ⟨(some 11), some undefA, none, false, .ld (.ld 1 false (.s 10))⟩,
      ⟨(some 5), some undefA, none, false, .pu (.mov (.s 11))⟩])
    (.ops [⟨(some 12), some undefA, none, false, .pu (.mov (.s 3))⟩,
      ⟨(some 13), some undefA, none, false, .pu (.mov (.s 5))⟩,
      ⟨(some 14), some undefA, none, false, .pu (.bin .add (.s 12) (.s 13))⟩,
      ⟨(some 3), some undefA, none, false, .pu (.mov (.s 14))⟩])))
   (.ops [⟨(some 15), some undefA, none, false, .pu (.bin .add (.s 8) (.c (.int .i64 1)))⟩,
     ⟨(some 8), some undefA, none, false, .pu (.mov (.s 15))⟩])))))))
 (.seq (.ops [⟨(some 16), some undefA, none, false, .pu (.mov (.s 3))⟩,
   ⟨(some 2), some undefA, none, false, .pu (.mov (.s 16))⟩])
 (.ret))))⟩
theorem t54 : trF Try.prog [] [] Try.f54 = some m54 := by kernel_rfl
/-- selion/claim.by [] -/
def m55 : MFun := ⟨22, [], [.mov (.s 6), .mov (.s 7)],
 .seq (.ops [⟨(some 6), some undefA, none, false, .pu (.mov (.c (.nilS)))⟩,
   ⟨(some 7), some undefA, none, false, .pu (.mov (.c (.int .i64 0)))⟩])
 (.seq (.seq (.ops [⟨(some 9), some undefA, none, false, .pu (.mov (.s 1))⟩,
   ⟨(some 10), some undefA, none, false, .pu (.mov (.s 2))⟩,
   ⟨(some 11), some undefA, none, false, .call 16 [(.s 9), (.s 10)]⟩,
   ⟨(some 8), some undefA, none, false, .pu (.mov (.s 11))⟩])
 (.seq (.ops [⟨(some 12), some undefA, none, false, .pu (.mov (.s 8))⟩,
   ⟨(some 13), some undefA, none, false, .pu (.bin .neq (.s 12) (.c (.int .i64 0)))⟩])
 (.cond (.s 13) (.seq (.ops [⟨(some 14), some undefA, none, false, .pu (.mov (.s 8))⟩,
    ⟨(some 6), some undefA, none, false, .pu (.mov (.c (.nilS)))⟩,
    ⟨(some 7), some undefA, none, false, .pu (.mov (.s 14))⟩])
  (.ret))
 (.skip))))
 (.seq (.ops [⟨(some 15), some undefA, none, false, .call 79 []⟩,
   ⟨(some 16), some undefA, none, false, .pu (.mov (.s 0))⟩,
   ⟨(some 17), some undefA, none, false, .pu (.aidx 4 1 true (.s 15) (.s 16))⟩,
   ⟨(some 18), some undefA, none, false, .pu (.part 0 1 false (.s 17))⟩,
   ⟨(some 19), some undefA, none, false, .pu (.mov (.s 1))⟩,
   ⟨(some 20), some undefA, none, false, .pu (.mov (.s 2))⟩,
   ⟨(some 21), some undefA, none, false, .callv (.s 18) [(.s 19), (.s 20)]⟩,
   ⟨(some 6), some undefA, none, false, .pu (.mov (.s 21))⟩,
   ⟨(some 7), some undefA, none, false, .pu (.mov (.c (.int .i64 0)))⟩])
 (.ret)))⟩
theorem t55 : trF Try.prog [] [] Try.f55 = some m55 := by kernel_rfl
/-- slices.ContainsFunc[[]int,int] [] -/
def m57 : MFun := ⟨9, [], [.mov (.s 4)],
 .seq (.ops [⟨(some 4), some undefA, none, false, .pu (.mov (.c (.bool false)))⟩])
 (.seq (.ops [⟨(some 5), some undefA, none, false, .pu (.mov (.s 0))⟩,
   ⟨(some 6), some undefA, none, false, .pu (.mov (.s 1))⟩,
   ⟨(some 7), some undefA, none, false, .call 81 [(.s 5), (.s 6)]⟩,
   ⟨(some 8), some undefA, none, false, .pu (.bin .geq (.s 7) (.c (.int .i64 0)))⟩,
   ⟨(some 4), some undefA, none, false, .pu (.mov (.s 8))⟩])
 (.ret))⟩
theorem t57 : trF Try.prog [] [] Try.f57 = some m57 := by kernel_rfl
/-- selion/claim.ratio [] -/
def m61 : MFun := ⟨16, [4], [.bget none 4 0 2 true],
 .seq (.ops [⟨(some 4), some (.junk), none, false, .pu (.bnew (.c (.agg [.int .i64 0, .int .i64 0])))⟩])
 (.seq (.ops [⟨(some 6), some undefA, none, false, .pu (.mov (.s 0))⟩,
   ⟨(some 7), some undefA, none, false, .pu (.mov (.s 1))⟩,
   ⟨(some 8), some undefA, none, false, .call 82 [(.s 6), (.s 7)]⟩,
   ⟨(some 5), some undefA, none, false, .pu (.mov (.s 8))⟩])
 (.seq (.ops [⟨(some 9), some undefA, none, false, .pu (.mov (.s 0))⟩,
   ⟨(some 10), some undefA, none, false, .pu (.mov (.s 5))⟩,
   ⟨(some 11), some undefA, none, false, .pu (.bin .quo (.s 9) (.s 10))⟩,
   ⟨(some 12), some undefA, none, false, .pu (.mov (.s 1))⟩,
   ⟨(some 13), some undefA, none, false, .pu (.mov (.s 5))⟩,
   ⟨(some 14), some undefA, none, false, .pu (.bin .quo (.s 12) (.s 13))⟩,
   ⟨(some 15), some undefA, none, false, .pu (.build [.int .i64 0, .int .i64 0] [(0, 1, (.s 11)), (1, 1, (.s 14))])⟩,
   ⟨(some 4), none, none, false, .pu (.bset none 4 0 2 (.s 15))⟩])
 (.ret)))⟩
theorem t61 : trF Try.prog [4] [] Try.f61 = some m61 := by kernel_rfl
/-- slices.Index[[]int,int] [loop [0, 1, 7, 8]] -/
def m63 : MFun := ⟨19, [], [.mov (.s 4)],
 .seq (.ops [⟨(some 4), some undefA, none, false, .pu (.mov (.c (.int .i64 0)))⟩])
 (.seq (.seq (.ops [⟨(some 6), some undefA, none, false, .pu (.mov (.s 0))⟩,
   ⟨(some 7), some undefA, none, false, .pu (.len (.s 6))⟩,
   ⟨(some 8), some undefA, none, false, .pu (.mov (.c (.int .i64 0)))⟩])
 (.block 0 (.loop (.seq (.ops [⟨(some 9), some undefA, none, false, .pu (.bin .lss (.s 8) (.s 7))⟩])
   (.seq (.cond (.s 9) (.skip)
   (.exit 0))
   (.seq (.block 1 (.seq (.ops [⟨(some 10), some undefA, none, false, .pu (.mov (.s 8))⟩,
      ⟨(some 5), some undefA, none, false, .pu (.mov (.s 10))⟩])
    (.seq (.ops [⟨(some 11), some undefA, none, false, .pu (.mov (.s 1))⟩,
      ⟨(some 12), some undefA, none, false, .pu (.mov (.s 0))⟩,
      ⟨(some 13), some undefA, none, false, .pu (.mov (.s 5))⟩,
      ⟨(some 14), some undefA, none, false, .pu (.idx 1 (.s 12) (.s 13))⟩,
      ⟨(some 15), some undefA, none, false, .ld (.ld 1 false (.s 14))⟩,
      ⟨(some 16), some undefA, none, false, .pu (.bin .eql (.s 11) (.s 15))⟩])
    (.cond (.s 16) (.seq (.ops [⟨(some 17), some undefA, none, false, .pu (.mov (.s 5))⟩,
       ⟨(some 4), some undefA, none, false, .pu (.mov (.s 17))⟩])
     (.ret))
    (.skip)))))
   (.ops [⟨(some 18), some undefA, none, false, .pu (.bin .add (.s 8) (.c (.int .i64 1)))⟩,
     ⟨(some 8), some undefA, none, false, .pu (.mov (.s 18))⟩])))))))
 (.seq (.ops [⟨(some 4), some undefA, none, false, .pu (.mov (.c (.int .i64 (-1))))⟩])
 (.ret)))⟩
theorem t63 : trF Try.prog [] [] Try.f63 = some m63 := by kernel_rfl
/-- slices.Max[[]int,int] [loop [0, 3, 4]] -/
def m64 : MFun := ⟨25, [], [.mov (.s 2)],
 .seq (.ops [⟨(some 2), some undefA, none, false, .pu (.mov (.c (.int .i64 0)))⟩])
 (.seq (.seq (.ops [⟨(some 5), some undefA, none, false, .pu (.mov (.s 0))⟩,
   ⟨(some 6), some undefA, none, false, .pu (.len (.s 5))⟩,
   ⟨(some 7), some undefA, none, false, .pu (.bin .lss (.s 6) (.c (.int .i64 1)))⟩])
 (.cond (.s 7) (.ops [⟨(some 8), some undefA, none, false, .pu (.fail)⟩,
    ⟨none, some undefA, none, false, .pu (.fail)⟩])
 (.skip)))
 (.seq (.ops [⟨(some 9), some undefA, none, false, .pu (.mov (.s 0))⟩,
   ⟨(some 10), some undefA, none, false, .pu (.idx 1 (.s 9) (.c (.int .i64 0)))⟩,
   ⟨(some 11), some undefA, none, false, .ld (.ld 1 false (.s 10))⟩,
   ⟨(some 3), some undefA, none, false, .pu (.mov (.s 11))⟩])
 (.seq (.seq (.ops [⟨(some 4), some undefA, none, false, .pu (.mov (.c (.int .i64 1)))⟩])
 (.block 0 (.loop (.seq (.seq (.ops [⟨(some 12), some undefA, none, false, .pu (.mov (.s 4))⟩,
     ⟨(some 13), some undefA, none, false, .pu (.mov (.s 0))⟩,
     ⟨(some 14), some undefA, none, false, .pu (.len (.s 13))⟩,
     ⟨(some 15), some undefA, none, false, .pu (.bin .lss (.s 12) (.s 14))⟩])
   (.cond (.s 15) (.skip)
   (.exit 0)))
   (.seq (.block 1 (.ops [⟨(some 18), some undefA, none, false, .pu (.mov (.s 3))⟩,
      ⟨(some 19), some undefA, none, false, .pu (.mov (.s 0))⟩,
      ⟨(some 20), some undefA, none, false, .pu (.mov (.s 4))⟩,
      ⟨(some 21), some undefA, none, false, .pu (.idx 1 (.s 19) (.s 20))⟩,
      ⟨(some 22), some undefA, none, false, .ld (.ld 1 false (.s 21))⟩,
      ⟨(some 23), some undefA, none, false, .pu (.mm true (.s 18) [(.s 22)])⟩,
      ⟨(some 3), some undefA, none, false, .pu (.mov (.s 23))⟩]))
   (.ops [⟨(some 16), some undefA, none, false, .pu (.mov (.s 4))⟩,
     ⟨(some 17), some undefA, none, false, .pu (.bin .add (.s 16) (.c (.int .i64 1)))⟩,
     ⟨(some 4), some undefA, none, false, .pu (.mov (.s 17))⟩]))))))
 (.seq (.ops [⟨(some 24), some undefA, none, false, .pu (.mov (.s 3))⟩,
   ⟨(some 2), some undefA, none, false, .pu (.mov (.s 24))⟩])
 (.ret)))))⟩
theorem t64 : trF Try.prog [] [] Try.f64 = some m64 := by kernel_rfl
/-- slices.Sort[[]int,int] [] -/
def m72 : MFun := ⟨11, [], [],
 .seq (.ops [⟨(some 3), some undefA, none, false, .pu (.mov (.s 0))⟩,
   ⟨(some 4), some undefA, none, false, .pu (.len (.s 3))⟩,
   ⟨(some 2), some undefA, none, false, .pu (.mov (.s 4))⟩])
 (.ops [⟨(some 5), some undefA, none, false, .pu (.mov (.s 0))⟩,
   ⟨(some 6), some undefA, none, false, .pu (.mov (.s 2))⟩,
   ⟨(some 7), some undefA, none, false, .pu (.mov (.s 2))⟩,
   ⟨(some 8), some undefA, none, false, .pu (.conv .u64 (.s 7))⟩,
   ⟨(some 9), some undefA, none, false, .call 84 [(.s 8)]⟩,
   ⟨(some 10), some undefA, none, false, .call 83 [(.s 5), (.c (.int .i64 0)), (.s 6), (.s 9)]⟩])⟩
theorem t72 : trF Try.prog [] [] Try.f72 = some m72 := by kernel_rfl
/-- selion/claim.isClaims$1 [] -/
def m78 : MFun := ⟨9, [], [.mov (.s 2)],
 .seq (.ops [⟨(some 2), some undefA, none, false, .pu (.mov (.c (.bool false)))⟩])
 (.seq (.ops [⟨(some 3), some undefA, none, false, .pu (.mov (.s 0))⟩,
   ⟨(some 4), some undefA, none, false, .pu (.bin .lss (.s 3) (.c (.int .i64 0)))⟩,
   ⟨(some 5), some undefA, none, false, .pu (.mov (.s 4))⟩,
   ⟨(some 6), some undefA, (some (5, false)), false, .pu (.mov (.s 0))⟩,
   ⟨(some 7), some undefA, (some (5, false)), false, .pu (.bin .gtr (.s 6) (.c (.int .i64 1000)))⟩,
   ⟨(some 8), some undefA, none, false, .pu (.pick (.s 5) (.c (.bool true)) (.s 7))⟩,
   ⟨(some 2), some undefA, none, false, .pu (.mov (.s 8))⟩])
 (.ret))⟩
theorem t78 : trF Try.prog [] [] Try.f78 = some m78 := by kernel_rfl
/-- selion/claim.rules [] -/
def m79 : MFun := ⟨12, [0], [.bget none 0 0 4 true],
 .seq (.ops [⟨(some 0), some (.junk), none, false, .pu (.bnew (.c (.agg [.nilF, .nilF, .nilF, .nilF])))⟩])
 (.seq (.ops [⟨(some 1), some undefA, none, false, .ha (.newv (.c (.nilF)))⟩,
   ⟨none, some undefA, none, false, .ha (.st 1 (.s 1) (.c (.fn 87 [])))⟩])
 (.seq (.ops [⟨(some 3), some undefA, none, false, .pu (.mkf 89 [(.s 1)])⟩,
   ⟨(some 2), some undefA, none, false, .ha (.newv (.c (.nilF)))⟩,
   ⟨none, some undefA, none, false, .ha (.st 1 (.s 2) (.s 3))⟩])
 (.seq (.ops [⟨(some 4), some undefA, none, false, .pu (.build [.nilF] [(0, 1, (.c (.fn 90 [])))])⟩,
   ⟨(some 5), some undefA, none, false, .ld (.ld 1 false (.s 1))⟩,
   ⟨(some 6), some undefA, none, false, .pu (.build [.nilF] [(0, 1, (.s 5))])⟩,
   ⟨(some 7), some undefA, none, false, .ld (.ld 1 false (.s 2))⟩,
   ⟨(some 8), some undefA, none, false, .pu (.build [.nilF] [(0, 1, (.s 7))])⟩,
   ⟨(some 9), some undefA, none, false, .pu (.mkf 91 [(.s 1), (.s 2)])⟩,
   ⟨(some 10), some undefA, none, false, .pu (.build [.nilF] [(0, 1, (.s 9))])⟩,
   ⟨(some 11), some undefA, none, false, .pu (.build [.nilF, .nilF, .nilF, .nilF] [(0, 1, (.s 4)), (1, 1, (.s 6)), (2, 1, (.s 8)), (3, 1, (.s 10))])⟩,
   ⟨(some 0), none, none, false, .pu (.bset none 0 0 4 (.s 11))⟩])
 (.ret))))⟩
theorem t79 : trF Try.prog [0] [] Try.f79 = some m79 := by kernel_rfl
/-- slices.IndexFunc[[]int,int] [loop [0, 1, 7, 8]] -/
def m81 : MFun := ⟨19, [], [.mov (.s 4)],
 .seq (.ops [⟨(some 4), some undefA, none, false, .pu (.mov (.c (.int .i64 0)))⟩])
 (.seq (.seq (.ops [⟨(some 6), some undefA, none, false, .pu (.mov (.s 0))⟩,
   ⟨(some 7), some undefA, none, false, .pu (.len (.s 6))⟩,
   ⟨(some 8), some undefA, none, false, .pu (.mov (.c (.int .i64 0)))⟩])
 (.block 0 (.loop (.seq (.ops [⟨(some 9), some undefA, none, false, .pu (.bin .lss (.s 8) (.s 7))⟩])
   (.seq (.cond (.s 9) (.skip)
   (.exit 0))
   (.seq (.block 1 (.seq (.ops [⟨(some 10), some undefA, none, false, .pu (.mov (.s 8))⟩,
      ⟨(some 5), some undefA, none, false, .pu (.mov (.s 10))⟩])
    (.seq (.ops [⟨(some 11), some undefA, none, false, .pu (.mov (.s 1))⟩,
      ⟨(some 12), some undefA, none, false, .pu (.mov (.s 0))⟩,
      ⟨(some 13), some undefA, none, false, .pu (.mov (.s 5))⟩,
      ⟨(some 14), some undefA, none, false, .pu (.idx 1 (.s 12) (.s 13))⟩,
      ⟨(some 15), some undefA, none, false, .ld (.ld 1 false (.s 14))⟩,
      ⟨(some 16), some undefA, none, false, .callv (.s 11) [(.s 15)]⟩])
    (.cond (.s 16) (.seq (.ops [⟨(some 17), some undefA, none, false, .pu (.mov (.s 5))⟩,
       ⟨(some 4), some undefA, none, false, .pu (.mov (.s 17))⟩])
     (.ret))
    (.skip)))))
   (.ops [⟨(some 18), some undefA, none, false, .pu (.bin .add (.s 8) (.c (.int .i64 1)))⟩,
     ⟨(some 8), some undefA, none, false, .pu (.mov (.s 18))⟩])))))))
 (.seq (.ops [⟨(some 4), some undefA, none, false, .pu (.mov (.c (.int .i64 (-1))))⟩])
 (.ret)))⟩
theorem t81 : trF Try.prog [] [] Try.f81 = some m81 := by kernel_rfl
/-- selion/claim.gcd [loop [0, 1]] -/
def m82 : MFun := ⟨15, [], [.mov (.s 4)],
 .seq (.ops [⟨(some 4), some undefA, none, false, .pu (.mov (.c (.int .i64 0)))⟩])
 (.seq (.block 0 (.loop (.seq (.seq (.ops [⟨(some 5), some undefA, none, false, .pu (.mov (.s 1))⟩,
     ⟨(some 6), some undefA, none, false, .pu (.bin .neq (.s 5) (.c (.int .i64 0)))⟩])
   (.cond (.s 6) (.skip)
   (.exit 0)))
   (.block 1 (.ops [⟨(some 7), some undefA, none, false, .pu (.mov (.s 1))⟩,
      ⟨(some 8), some undefA, none, false, .pu (.mov (.s 0))⟩,
      ⟨(some 9), some undefA, none, false, .pu (.mov (.s 1))⟩,
      ⟨(some 10), some undefA, none, false, .pu (.bin .rem (.s 8) (.s 9))⟩,
      ⟨(some 0), some undefA, none, false, .pu (.mov (.s 7))⟩,
      ⟨(some 1), some undefA, none, false, .pu (.mov (.s 10))⟩])))))
 (.seq (.ops [⟨(some 11), some undefA, none, false, .pu (.mov (.s 0))⟩,
   ⟨(some 12), some undefA, none, false, .pu (.mov (.s 0))⟩,
   ⟨(some 13), some undefA, none, false, .pu (.neg (.s 12))⟩,
   ⟨(some 14), some undefA, none, false, .pu (.mm true (.s 11) [(.s 13)])⟩,
   ⟨(some 4), some undefA, none, false, .pu (.mov (.s 14))⟩])
 (.ret)))⟩
theorem t82 : trF Try.prog [] [] Try.f82 = some m82 := by kernel_rfl
/-- slices.pdqsortOrdered[int] [loop [0, 1, 2, 3, 8, 9]] -/
def m83 : MFun := ⟨134, [], [],
 .seq (.ops [⟨(some 8), some undefA, none, false, .pu (.mov (.c (.bool true)))⟩])
 (.seq (.ops [⟨(some 9), some undefA, none, false, .pu (.mov (.c (.bool true)))⟩])
 (.block 0 (.loop (.block 1 (.seq (.ops [⟨(some 19), some undefA, none, false, .pu (.mov (.s 2))⟩,
      ⟨(some 20), some undefA, none, false, .pu (.mov (.s 1))⟩,
      ⟨(some 21), some undefA, none, false, .pu (.bin .sub (.s 19) (.s 20))⟩,
      ⟨(some 10), some undefA, none, false, .pu (.mov (.s 21))⟩])
    (.seq (.seq (.ops [⟨(some 22), some undefA, none, false, .pu (.mov (.s 10))⟩,
      ⟨(some 23), some undefA, none, false, .pu (.bin .leq (.s 22) (.c (.int .i64 12)))⟩])
    (.cond (.s 23) (.seq (.ops [⟨(some 24), some undefA, none, false, .pu (.mov (.s 0))⟩,
       ⟨(some 25), some undefA, none, false, .pu (.mov (.s 1))⟩,
       ⟨(some 26), some undefA, none, false, .pu (.mov (.s 2))⟩,
       ⟨(some 27), some undefA, none, false, .call 92 [(.s 24), (.s 25), (.s 26)]⟩])
     (.ret))
    (.skip)))
    (.seq (.seq (.ops [⟨(some 28), some undefA, none, false, .pu (.mov (.s 3))⟩,
      ⟨(some 29), some undefA, none, false, .pu (.bin .eql (.s 28) (.c (.int .i64 0)))⟩])
    (.cond (.s 29) (.seq (.ops [⟨(some 30), some undefA, none, false, .pu (.mov (.s 0))⟩,
       ⟨(some 31), some undefA, none, false, .pu (.mov (.s 1))⟩,
       ⟨(some 32), some undefA, none, false, .pu (.mov (.s 2))⟩,
       ⟨(some 33), some undefA, none, false, .call 93 [(.s 30), (.s 31), (.s 32)]⟩])
     (.ret))
    (.skip)))
    (.seq (.seq (.ops [⟨(some 34), some undefA, none, false, .pu (.mov (.s 8))⟩,
      ⟨(some 35), some undefA, none, false, .pu (.not (.s 34))⟩])
    (.cond (.s 35) (.seq (.ops [⟨(some 36), some undefA, none, false, .pu (.mov (.s 0))⟩,
       ⟨(some 37), some undefA, none, false, .pu (.mov (.s 1))⟩,
       ⟨(some 38), some undefA, none, false, .pu (.mov (.s 2))⟩,
       ⟨(some 39), some undefA, none, false, .call 94 [(.s 36), (.s 37), (.s 38)]⟩])
     (.ops [⟨(some 40), some undefA, none, false, .pu (.mov (.s 3))⟩,
       ⟨(some 41), some undefA, none, false, .pu (.bin .sub (.s 40) (.c (.int .i64 1)))⟩,
       ⟨(some 3), some undefA, none, false, .pu (.mov (.s 41))⟩]))
    (.skip)))
    (.seq (.ops [⟨(some 43), some undefA, none, false, .pu (.mov (.s 0))⟩,
      ⟨(some 44), some undefA, none, false, .pu (.mov (.s 1))⟩,
      ⟨(some 45), some undefA, none, false, .pu (.mov (.s 2))⟩,
      ⟨(some 46), some undefA, none, false, .call 95 [(.s 43), (.s 44), (.s 45)]⟩,
      ⟨(some 42), some undefA, none, false, .pu (.mov (.s 46))⟩,
      ⟨(some 47), some undefA, none, false, .pu (.extr 0 (.s 42))⟩,
      ⟨(some 48), some undefA, none, false, .pu (.extr 1 (.s 42))⟩,
      ⟨(some 11), some undefA, none, false, .pu (.mov (.s 47))⟩,
      ⟨(some 12), some undefA, none, false, .pu (.mov (.s 48))⟩])
    (.seq (.seq (.ops [⟨(some 49), some undefA, none, false, .pu (.mov (.s 12))⟩,
      ⟨(some 50), some undefA, none, false, .pu (.bin .eql (.s 49) (.c (.int .i64 2)))⟩])
    (.cond (.s 50) (.seq (.ops [⟨(some 51), some undefA, none, false, .pu (.mov (.s 0))⟩,
       ⟨(some 52), some undefA, none, false, .pu (.mov (.s 1))⟩,
       ⟨(some 53), some undefA, none, false, .pu (.mov (.s 2))⟩,
       ⟨(some 54), some undefA, none, false, .call 96 [(.s 51), (.s 52), (.s 53)]⟩])
     (.seq (.ops [⟨(some 55), some undefA, none, false, .pu (.mov (.s 2))⟩,
       ⟨(some 56), some undefA, none, false, .pu (.bin .sub (.s 55) (.c (.int .i64 1)))⟩,
       ⟨(some 57), some undefA, none, false, .pu (.mov (.s 11))⟩,
       ⟨(some 58), some undefA, none, false, .pu (.mov (.s 1))⟩,
       ⟨(some 59), some undefA, none, false, .pu (.bin .sub (.s 57) (.s 58))⟩,
       ⟨(some 60), some undefA, none, false, .pu (.bin .sub (.s 56) (.s 59))⟩,
       ⟨(some 11), some undefA, none, false, .pu (.mov (.s 60))⟩])
     (.ops [⟨(some 12), some undefA, none, false, .pu (.mov (.c (.int .i64 1)))⟩])))
    (.skip)))
    (.seq (.seq (.ops [⟨(some 61), some undefA, none, false, .pu (.mov (.s 8))⟩,
      ⟨(some 62), some undefA, none, false, .pu (.mov (.s 61))⟩,
      ⟨(some 63), some undefA, (some (62, true)), false, .pu (.mov (.s 9))⟩,
      ⟨(some 64), some undefA, none, false, .pu (.pick (.s 62) (.s 63) (.c (.bool false)))⟩,
      ⟨(some 65), some undefA, none, false, .pu (.mov (.s 64))⟩,
      ⟨(some 66), some undefA, (some (65, true)), false, .pu (.mov (.s 12))⟩,
      ⟨(some 67), some undefA, (some (65, true)), false, .pu (.bin .eql (.s 66) (.c (.int .i64 1)))⟩,
      ⟨(some 68), some undefA, none, false, .pu (.pick (.s 65) (.s 67) (.c (.bool false)))⟩])
    (.cond (.s 68) (.seq (.ops [⟨(some 69), some undefA, none, false, .pu (.mov (.s 0))⟩,
       ⟨(some 70), some undefA, none, false, .pu (.mov (.s 1))⟩,
       ⟨(some 71), some undefA, none, false, .pu (.mov (.s 2))⟩,
       ⟨(some 72), some undefA, none, false, .call 97 [(.s 69), (.s 70), (.s 71)]⟩])
     (.cond (.s 72) (.ret)
     (.skip)))
    (.skip)))
    (.seq (.seq (.ops [⟨(some 73), some undefA, none, false, .pu (.mov (.s 1))⟩,
      ⟨(some 74), some undefA, none, false, .pu (.bin .gtr (.s 73) (.c (.int .i64 0)))⟩,
      ⟨(some 75), some undefA, none, false, .pu (.mov (.s 74))⟩,
      ⟨(some 76), some undefA, (some (75, true)), true, .pu (.mov (.s 0))⟩,
      ⟨(some 77), some undefA, (some (75, true)), true, .pu (.mov (.s 1))⟩,
      ⟨(some 78), some undefA, (some (75, true)), true, .pu (.bin .sub (.s 77) (.c (.int .i64 1)))⟩,
      ⟨(some 79), some undefA, (some (75, true)), true, .pu (.idx 1 (.s 76) (.s 78))⟩,
      ⟨(some 80), some undefA, (some (75, true)), true, .ld (.ld 1 false (.s 79))⟩,
      ⟨(some 81), some undefA, (some (75, true)), true, .pu (.mov (.s 0))⟩,
      ⟨(some 82), some undefA, (some (75, true)), true, .pu (.mov (.s 11))⟩,
      ⟨(some 83), some undefA, (some (75, true)), true, .pu (.idx 1 (.s 81) (.s 82))⟩,
      ⟨(some 84), some undefA, (some (75, true)), true, .ld (.ld 1 false (.s 83))⟩,
      ⟨(some 85), some undefA, (some (75, true)), false, .call 98 [(.s 80), (.s 84)]⟩,
      ⟨(some 86), some undefA, (some (75, true)), false, .pu (.not (.s 85))⟩,
      ⟨(some 87), some undefA, none, false, .pu (.pick (.s 75) (.s 86) (.c (.bool false)))⟩])
    (.cond (.s 87) (.seq (.ops [⟨(some 88), some undefA, none, false, .pu (.mov (.s 0))⟩,
       ⟨(some 89), some undefA, none, false, .pu (.mov (.s 1))⟩,
       ⟨(some 90), some undefA, none, false, .pu (.mov (.s 2))⟩,
       ⟨(some 91), some undefA, none, false, .pu (.mov (.s 11))⟩,
       ⟨(some 92), some undefA, none, false, .call 99 [(.s 88), (.s 89), (.s 90), (.s 91)]⟩,
       ⟨(some 13), some undefA, none, false, .pu (.mov (.s 92))⟩])
     (.seq (.ops [⟨(some 93), some undefA, none, false, .pu (.mov (.s 13))⟩,
       ⟨(some 1), some undefA, none, false, .pu (.mov (.s 93))⟩])
     (.exit 1)))
    (.skip)))
    (.seq (.ops [⟨(some 95), some undefA, none, false, .pu (.mov (.s 0))⟩,
      ⟨(some 96), some undefA, none, false, .pu (.mov (.s 1))⟩,
      ⟨(some 97), some undefA, none, false, .pu (.mov (.s 2))⟩,
      ⟨(some 98), some undefA, none, false, .pu (.mov (.s 11))⟩,
      ⟨(some 99), some undefA, none, false, .call 100 [(.s 95), (.s 96), (.s 97), (.s 98)]⟩,
      ⟨(some 94), some undefA, none, false, .pu (.mov (.s 99))⟩,
      ⟨(some 100), some undefA, none, false, .pu (.extr 0 (.s 94))⟩,
      ⟨(some 101), some undefA, none, false, .pu (.extr 1 (.s 94))⟩,
      ⟨(some 14), some undefA, none, false, .pu (.mov (.s 100))⟩,
      ⟨(some 15), some undefA, none, false, .pu (.mov (.s 101))⟩])
    (.seq (.ops [⟨(some 102), some undefA, none, false, .pu (.mov (.s 15))⟩,
      ⟨(some 9), some undefA, none, false, .pu (.mov (.s 102))⟩])
    (.seq (.ops [⟨(some 103), some undefA, none, false, .pu (.mov (.s 14))⟩,
      ⟨(some 104), some undefA, none, false, .pu (.mov (.s 1))⟩,
      ⟨(some 105), some undefA, none, false, .pu (.bin .sub (.s 103) (.s 104))⟩,
      ⟨(some 106), some undefA, none, false, .pu (.mov (.s 2))⟩,
      ⟨(some 107), some undefA, none, false, .pu (.mov (.s 14))⟩,
      ⟨(some 108), some undefA, none, false, .pu (.bin .sub (.s 106) (.s 107))⟩,
      ⟨(some 16), some undefA, none, false, .pu (.mov (.s 105))⟩,
      ⟨(some 17), some undefA, none, false, .pu (.mov (.s 108))⟩])
    (.seq (.ops [⟨(some 109), some undefA, none, false, .pu (.mov (.s 10))⟩,
      ⟨(some 110), some undefA, none, false, .pu (.bin .quo (.s 109) (.c (.int .i64 8)))⟩,
      ⟨(some 18), some undefA, none, false, .pu (.mov (.s 110))⟩])
    (.seq (.ops [⟨(some 111), some undefA, none, false, .pu (.mov (.s 16))⟩,
      ⟨(some 112), some undefA, none, false, .pu (.mov (.s 17))⟩,
      ⟨(some 113), some undefA, none, false, .pu (.bin .lss (.s 111) (.s 112))⟩])
    (.cond (.s 113) (.seq (.ops [⟨(some 114), some undefA, none, false, .pu (.mov (.s 16))⟩,
       ⟨(some 115), some undefA, none, false, .pu (.mov (.s 18))⟩,
       ⟨(some 116), some undefA, none, false, .pu (.bin .geq (.s 114) (.s 115))⟩,
       ⟨(some 8), some undefA, none, false, .pu (.mov (.s 116))⟩])
     (.seq (.ops [⟨(some 117), some undefA, none, false, .pu (.mov (.s 0))⟩,
       ⟨(some 118), some undefA, none, false, .pu (.mov (.s 1))⟩,
       ⟨(some 119), some undefA, none, false, .pu (.mov (.s 14))⟩,
       ⟨(some 120), some undefA, none, false, .pu (.mov (.s 3))⟩,
       ⟨(some 121), some undefA, none, false, .call 83 [(.s 117), (.s 118), (.s 119), (.s 120)]⟩])
     (.ops [⟨(some 122), some undefA, none, false, .pu (.mov (.s 14))⟩,
       ⟨(some 123), some undefA, none, false, .pu (.bin .add (.s 122) (.c (.int .i64 1)))⟩,
       ⟨(some 1), some undefA, none, false, .pu (.mov (.s 123))⟩])))
    (.seq (.ops [⟨(some 124), some undefA, none, false, .pu (.mov (.s 17))⟩,
       ⟨(some 125), some undefA, none, false, .pu (.mov (.s 18))⟩,
       ⟨(some 126), some undefA, none, false, .pu (.bin .geq (.s 124) (.s 125))⟩,
       ⟨(some 8), some undefA, none, false, .pu (.mov (.s 126))⟩])
     (.seq (.ops [⟨(some 127), some undefA, none, false, .pu (.mov (.s 0))⟩,
       ⟨(some 128), some undefA, none, false, .pu (.mov (.s 14))⟩,
       ⟨(some 129), some undefA, none, false, .pu (.bin .add (.s 128) (.c (.int .i64 1)))⟩,
       ⟨(some 130), some undefA, none, false, .pu (.mov (.s 2))⟩,
       ⟨(some 131), some undefA, none, false, .pu (.mov (.s 3))⟩,
       ⟨(some 132), some undefA, none, false, .call 83 [(.s 127), (.s 129), (.s 130), (.s 131)]⟩])
     (.ops [⟨(some 133), some undefA, none, false, .pu (.mov (.s 14))⟩,
       ⟨(some 2), some undefA, none, false, .pu (.mov (.s 133))⟩])))))))))))))))))))))⟩
theorem t83 : trF Try.prog [] [] Try.f83 = some m83 := by kernel_rfl
/-- math/bits.Len [] -/
def m84 : MFun := ⟨8, [], [.mov (.s 2)],
 .seq (.ops [⟨(some 2), some undefA, none, false, .pu (.mov (.c (.int .i64 0)))⟩])
 (.seq (.cond (.c (.bool false)) (.seq (.ops [⟨(some 3), some undefA, none, false, .pu (.mov (.s 0))⟩,
    ⟨(some 4), some undefA, none, false, .pu (.conv .u32 (.s 3))⟩,
    ⟨(some 5), some undefA, none, false, .call 101 [(.s 4)]⟩,
    ⟨(some 2), some undefA, none, false, .pu (.mov (.s 5))⟩])
  (.ret))
 (.skip))
 (.seq (.ops [⟨(some 6), some undefA, none, false, .pu (.mov (.s 0))⟩,
   ⟨(some 7), some undefA, none, false, .call 102 [(.s 6)]⟩,
   ⟨(some 2), some undefA, none, false, .pu (.mov (.s 7))⟩])
 (.ret)))⟩
theorem t84 : trF Try.prog [] [] Try.f84 = some m84 := by kernel_rfl
/-- selion/claim.level [loop [0, 4, 5, 6, 15, 16, 17]] -/
def m85 : MFun := ⟨41, [4], [.bget none 4 0 2 true],
 .seq (.ops [⟨(some 4), some (.junk), none, false, .pu (.bnew (.c (.agg [.int .i64 0, .int .i64 0])))⟩])
 (.seq (.ops [⟨(some 10), some undefA, none, false, .pu (.mov (.s 0))⟩,
   ⟨(some 11), some undefA, none, false, .call 103 [(.s 10)]⟩,
   ⟨(some 5), some undefA, none, false, .pu (.mov (.s 11))⟩])
 (.seq (.ops [⟨(some 12), some undefA, none, false, .pu (.mov (.s 5))⟩,
   ⟨(some 13), some undefA, none, false, .call 72 [(.s 12)]⟩])
 (.seq (.ops [⟨(some 14), some undefA, none, false, .pu (.mov (.s 1))⟩,
   ⟨(some 6), some undefA, none, false, .pu (.mov (.s 14))⟩])
 (.seq (.seq (.ops [⟨(some 15), some undefA, none, false, .pu (.mov (.s 5))⟩,
   ⟨(some 16), some undefA, none, false, .pu (.len (.s 15))⟩,
   ⟨(some 17), some undefA, none, false, .pu (.mov (.c (.int .i64 0)))⟩])
 (.block 0 (.loop (.seq (.ops [⟨(some 18), some undefA, none, false, .pu (.bin .lss (.s 17) (.s 16))⟩])
   (.seq (.cond (.s 18) (.skip)
   (.exit 0))
   (.seq (.block 1 (.seq (.ops [⟨(some 19), some undefA, none, false, .pu (.mov (.s 17))⟩,
      ⟨(some 20), some undefA, none, false, .pu (.idx 1 (.s 15) (.s 17))⟩,
      ⟨(some 21), some undefA, none, false, .ld (.ld 1 false (.s 20))⟩,
      ⟨(some 7), some undefA, none, false, .pu (.mov (.s 19))⟩,
      ⟨(some 8), some undefA, none, false, .pu (.mov (.s 21))⟩])
    (.seq (.seq (.ops [⟨(some 22), some undefA, none, false, .pu (.mov (.s 5))⟩,
      ⟨(some 23), some undefA, none, false, .pu (.len (.s 22))⟩,
      ⟨(some 24), some undefA, none, false, .pu (.mov (.s 7))⟩,
      ⟨(some 25), some undefA, none, false, .pu (.bin .sub (.s 23) (.s 24))⟩,
      ⟨(some 9), some undefA, none, false, .pu (.mov (.s 25))⟩])
    (.seq (.ops [⟨(some 26), some undefA, none, false, .pu (.mov (.s 8))⟩,
      ⟨(some 27), some undefA, none, false, .pu (.mov (.s 9))⟩,
      ⟨(some 28), some undefA, none, false, .pu (.bin .mul (.s 26) (.s 27))⟩,
      ⟨(some 29), some undefA, none, false, .pu (.mov (.s 6))⟩,
      ⟨(some 30), some undefA, none, false, .pu (.bin .geq (.s 28) (.s 29))⟩])
    (.cond (.s 30) (.seq (.ops [⟨(some 31), some undefA, none, false, .pu (.mov (.s 6))⟩,
       ⟨(some 32), some undefA, none, false, .pu (.mov (.s 9))⟩,
       ⟨(some 33), some undefA, none, false, .call 61 [(.s 31), (.s 32)]⟩,
       ⟨(some 4), none, none, false, .pu (.bset none 4 0 2 (.s 33))⟩])
     (.ret))
    (.skip))))
    (.ops [⟨(some 34), some undefA, none, false, .pu (.mov (.s 6))⟩,
      ⟨(some 35), some undefA, none, false, .pu (.mov (.s 8))⟩,
      ⟨(some 36), some undefA, none, false, .pu (.bin .sub (.s 34) (.s 35))⟩,
      ⟨(some 6), some undefA, none, false, .pu (.mov (.s 36))⟩]))))
   (.ops [⟨(some 37), some undefA, none, false, .pu (.bin .add (.s 17) (.c (.int .i64 1)))⟩,
     ⟨(some 17), some undefA, none, false, .pu (.mov (.s 37))⟩])))))))
 (.seq (.ops [⟨(some 38), some undefA, none, false, .pu (.mov (.s 0))⟩,
   ⟨(some 39), some undefA, none, false, .call 64 [(.s 38)]⟩,
   ⟨(some 40), some undefA, none, false, .call 61 [(.s 39), (.c (.int .i64 1))]⟩,
   ⟨(some 4), none, none, false, .pu (.bset none 4 0 2 (.s 40))⟩])
 (.ret))))))⟩
theorem t85 : trF Try.prog [4] [] Try.f85 = some m85 := by kernel_rfl
/-- selion/claim.rules$1 [] -/
def m87 : MFun := ⟨10, [], [.mov (.s 4)],
 .seq (.ops [⟨(some 4), some undefA, none, false, .pu (.mov (.c (.nilS)))⟩])
 (.seq (.ops [⟨(some 5), some undefA, none, false, .pu (.mov (.s 0))⟩,
   ⟨(some 6), some undefA, none, false, .pu (.mov (.s 0))⟩,
   ⟨(some 7), some undefA, none, false, .pu (.mov (.s 1))⟩,
   ⟨(some 8), some undefA, none, false, .call 85 [(.s 6), (.s 7)]⟩,
   ⟨(some 9), some undefA, none, false, .call 88 [(.s 5), (.s 8)]⟩,
   ⟨(some 4), some undefA, none, false, .pu (.mov (.s 9))⟩])
 (.ret))⟩
theorem t87 : trF Try.prog [] [] Try.f87 = some m87 := by kernel_rfl
/-- selion/claim.capped [loop [3, 5, 8, 9, 10]] -/
def m88 : MFun := ⟨32, [3], [.mov (.s 4)],
 .seq (.ops [⟨(some 3), some (.junk), none, false, .pu (.bnew (.s 1))⟩,
   ⟨(some 4), some undefA, none, false, .pu (.mov (.c (.nilS)))⟩])
 (.seq (.ops [⟨(some 5), some undefA, none, false, .pu (.mov (.c (.nilS)))⟩])
 (.seq (.seq (.ops [⟨(some 8), some undefA, none, false, .pu (.mov (.s 0))⟩,
   ⟨(some 9), some undefA, none, false, .pu (.len (.s 8))⟩,
   ⟨(some 10), some undefA, none, false, .pu (.mov (.c (.int .i64 0)))⟩])
 (.block 0 (.loop (.seq (.ops [⟨(some 11), some undefA, none, false, .pu (.bin .lss (.s 10) (.s 9))⟩])
   (.seq (.cond (.s 11) (.skip)
   (.exit 0))
   (.seq (.block 1 (.seq (.ops [⟨(some 12), some undefA, none, false, .pu (.idx 1 (.s 8) (.s 10))⟩,
      ⟨(some 13), some undefA, none, false, .ld (.ld 1 false (.s 12))⟩,
      ⟨(some 7), some undefA, none, false, .pu (.mov (.s 13))⟩])
    (.seq (.ops [⟨(some 14), some undefA, none, false, .pu (.mov (.s 7))⟩,
      ⟨(some 15), some undefA, none, false, .pu (.badr none 3)⟩,
      ⟨(some 16), some undefA, none, false, .pu (.bget (some 15) 3 1 1 false)⟩,
      ⟨(some 17), some undefA, none, false, .pu (.bin .mul (.s 14) (.s 16))⟩,
      ⟨(some 18), some undefA, none, false, .pu (.badr none 3)⟩,
      ⟨(some 19), some undefA, none, false, .pu (.bget (some 18) 3 0 1 false)⟩,
      ⟨(some 20), some undefA, none, false, .pu (.bin .lss (.s 17) (.s 19))⟩])
    (.cond (.s 20) (.ops [⟨(some 21), some undefA, none, false, .pu (.mov (.s 5))⟩,
       ⟨(some 22), some undefA, none, false, .pu (.mov (.s 7))⟩,
       ⟨(some 23), some undefA, none, false, .call 61 [(.s 22), (.c (.int .i64 1))]⟩,
       ⟨(some 24), some undefA, none, false, .ha (.blds 2 1 [.int .i64 0, .int .i64 0] [(0, 2, (.s 23))])⟩,
       ⟨(some 25), some undefA, none, false, .ha (.app 2 (.s 21) (.s 24))⟩,
       ⟨(some 5), some undefA, none, false, .pu (.mov (.s 25))⟩])
    (.ops [⟨(some 26), some undefA, none, false, .pu (.mov (.s 5))⟩,
       ⟨(some 27), some undefA, none, false, .pu (.bget none 3 0 2 true)⟩,
       ⟨(some 28), some undefA, none, false, .ha (.blds 2 1 [.int .i64 0, .int .i64 0] [(0, 2, (.s 27))])⟩,
       ⟨(some 29), some undefA, none, false, .ha (.app 2 (.s 26) (.s 28))⟩,
       ⟨(some 5), some undefA, none, false, .pu (.mov (.s 29))⟩])))))
   (.ops [⟨(some 30), some undefA, none, false, .pu (.bin .add (.s 10) (.c (.int .i64 1)))⟩,
     ⟨(some 10), some undefA, none, false, .pu (.mov (.s 30))⟩])))))))
 (.seq (.ops [⟨(some 31), some undefA, none, false, .pu (.mov (.s 5))⟩,
   ⟨(some 4), some undefA, none, false, .pu (.mov (.s 31))⟩])
 (.ret))))⟩
theorem t88 : trF Try.prog [3] [] Try.f88 = some m88 := by kernel_rfl
/-- selion/claim.rules$2 [] -/
def m89 : MFun := ⟨15, [], [.mov (.s 5)],
 .seq (.ops [⟨(some 5), some undefA, none, false, .pu (.mov (.c (.nilS)))⟩])
 (.seq (.ops [⟨(some 6), some undefA, none, true, .pu (.mov (.s 0))⟩,
   ⟨(some 7), some undefA, none, true, .ld (.ld 1 false (.s 2))⟩,
   ⟨(some 8), some undefA, none, true, .pu (.mov (.s 0))⟩,
   ⟨(some 9), some undefA, none, true, .pu (.mov (.s 0))⟩,
   ⟨(some 10), some undefA, none, true, .call 54 [(.s 9)]⟩,
   ⟨(some 11), some undefA, none, true, .pu (.mov (.s 1))⟩,
   ⟨(some 12), some undefA, none, true, .pu (.bin .sub (.s 10) (.s 11))⟩,
   ⟨(some 13), some undefA, none, false, .callv (.s 7) [(.s 8), (.s 12)]⟩,
   ⟨(some 14), some undefA, none, false, .call 75 [(.s 6), (.s 13)]⟩,
   ⟨(some 5), some undefA, none, false, .pu (.mov (.s 14))⟩])
 (.ret))⟩
theorem t89 : trF Try.prog [] [] Try.f89 = some m89 := by kernel_rfl
/-- selion/claim.rules$3 [loop [0, 1, 5, 8, 9, 10]] -/
def m90 : MFun := ⟨26, [], [.mov (.s 4)],
 .seq (.ops [⟨(some 4), some undefA, none, false, .pu (.mov (.c (.nilS)))⟩])
 (.seq (.ops [⟨(some 5), some undefA, none, false, .pu (.mov (.c (.nilS)))⟩])
 (.seq (.seq (.ops [⟨(some 8), some undefA, none, false, .pu (.mov (.s 0))⟩,
   ⟨(some 9), some undefA, none, false, .pu (.len (.s 8))⟩,
   ⟨(some 10), some undefA, none, false, .pu (.mov (.c (.int .i64 0)))⟩])
 (.block 0 (.loop (.seq (.ops [⟨(some 11), some undefA, none, false, .pu (.bin .lss (.s 10) (.s 9))⟩])
   (.seq (.cond (.s 11) (.skip)
   (.exit 0))
   (.seq (.block 1 (.seq (.ops [⟨(some 12), some undefA, none, false, .pu (.idx 1 (.s 8) (.s 10))⟩,
      ⟨(some 13), some undefA, none, false, .ld (.ld 1 false (.s 12))⟩,
      ⟨(some 7), some undefA, none, false, .pu (.mov (.s 13))⟩])
    (.ops [⟨(some 14), some undefA, none, false, .pu (.mov (.s 5))⟩,
      ⟨(some 15), some undefA, none, false, .pu (.mov (.s 7))⟩,
      ⟨(some 16), some undefA, none, false, .pu (.mov (.s 1))⟩,
      ⟨(some 17), some undefA, none, false, .pu (.bin .mul (.s 15) (.s 16))⟩,
      ⟨(some 18), some undefA, none, false, .pu (.mov (.s 0))⟩,
      ⟨(some 19), some undefA, none, false, .call 54 [(.s 18)]⟩,
      ⟨(some 20), some undefA, none, false, .pu (.mm true (.c (.int .i64 1)) [(.s 19)])⟩,
      ⟨(some 21), some undefA, none, false, .call 61 [(.s 17), (.s 20)]⟩,
      ⟨(some 22), some undefA, none, false, .ha (.blds 2 1 [.int .i64 0, .int .i64 0] [(0, 2, (.s 21))])⟩,
      ⟨(some 23), some undefA, none, false, .ha (.app 2 (.s 14) (.s 22))⟩,
      ⟨(some 5), some undefA, none, false, .pu (.mov (.s 23))⟩])))
   (.ops [⟨(some 24), some undefA, none, false, .pu (.bin .add (.s 10) (.c (.int .i64 1)))⟩,
     ⟨(some 10), some undefA, none, false, .pu (.mov (.s 24))⟩])))))))
 (.seq (.ops [⟨(some 25), some undefA, none, false, .pu (.mov (.s 5))⟩,
   ⟨(some 4), some undefA, none, false, .pu (.mov (.s 25))⟩])
 (.ret))))⟩
theorem t90 : trF Try.prog [] [] Try.f90 = some m90 := by kernel_rfl
/-- selion/claim.rules$4 [loop [8, 23, 24, 25], loop [0, 8, 46, 47, 48]] -/
def m91 : MFun := ⟨72, [10, 12], [.mov (.s 6)],
 .seq (.ops [⟨(some 6), some undefA, none, false, .pu (.mov (.c (.nilS)))⟩])
 (.seq (.ops [⟨(some 13), some undefA, none, false, .pu (.mov (.s 0))⟩,
   ⟨(some 14), some undefA, none, false, .call 54 [(.s 13)]⟩,
   ⟨(some 7), some undefA, none, false, .pu (.mov (.s 14))⟩])
 (.seq (.ops [⟨(some 8), some undefA, none, false, .pu (.mov (.c (.nilS)))⟩])
 (.seq (.seq (.ops [⟨(some 15), some undefA, none, false, .pu (.mov (.s 1))⟩,
   ⟨(some 16), some undefA, none, false, .pu (.bin .mul (.c (.int .i64 2)) (.s 15))⟩,
   ⟨(some 17), some undefA, none, false, .pu (.mov (.s 7))⟩,
   ⟨(some 18), some undefA, none, false, .pu (.bin .leq (.s 16) (.s 17))⟩])
 (.cond (.s 18) (.seq (.seq (.ops [⟨(some 19), some undefA, none, false, .ld (.ld 1 false (.s 2))⟩,
    ⟨(some 20), some undefA, none, false, .pu (.mov (.s 0))⟩,
    ⟨(some 21), some undefA, none, false, .pu (.mov (.s 1))⟩,
    ⟨(some 22), some undefA, none, false, .pu (.bin .mul (.c (.int .i64 2)) (.s 21))⟩,
    ⟨(some 23), some undefA, none, false, .callv (.s 19) [(.s 20), (.s 22)]⟩,
    ⟨(some 24), some undefA, none, false, .pu (.len (.s 23))⟩,
    ⟨(some 25), some undefA, none, false, .pu (.mov (.c (.int .i64 0)))⟩])
  (.block 0 (.loop (.seq (.ops [⟨(some 26), some undefA, none, false, .pu (.bin .lss (.s 25) (.s 24))⟩])
    (.seq (.cond (.s 26) (.skip)
    (.exit 0))
    (.seq (.block 1 (.seq (.ops [⟨(some 27), some undefA, none, false, .pu (.idx 2 (.s 23) (.s 25))⟩,
       ⟨(some 28), some undefA, none, false, .ld (.ld 2 true (.s 27))⟩,
       ⟨(some 10), some (.junk), none, false, .pu (.bnew (.c (.agg [.int .i64 0, .int .i64 0])))⟩,
       ⟨(some 10), none, none, false, .pu (.bset none 10 0 2 (.s 28))⟩])
     (.ops [⟨(some 29), some undefA, none, false, .pu (.mov (.s 8))⟩,
       ⟨(some 30), some undefA, none, false, .pu (.badr none 10)⟩,
       ⟨(some 31), some undefA, none, false, .pu (.bget (some 30) 10 0 1 false)⟩,
       ⟨(some 32), some undefA, none, false, .pu (.badr none 10)⟩,
       ⟨(some 33), some undefA, none, false, .pu (.bget (some 32) 10 1 1 false)⟩,
       ⟨(some 34), some undefA, none, false, .pu (.bin .mul (.c (.int .i64 2)) (.s 33))⟩,
       ⟨(some 35), some undefA, none, false, .call 61 [(.s 31), (.s 34)]⟩,
       ⟨(some 36), some undefA, none, false, .ha (.blds 2 1 [.int .i64 0, .int .i64 0] [(0, 2, (.s 35))])⟩,
       ⟨(some 37), some undefA, none, false, .ha (.app 2 (.s 29) (.s 36))⟩,
       ⟨(some 8), some undefA, none, false, .pu (.mov (.s 37))⟩])))
    (.ops [⟨(some 38), some undefA, none, false, .pu (.bin .add (.s 25) (.c (.int .i64 1)))⟩,
      ⟨(some 25), some undefA, none, false, .pu (.mov (.s 38))⟩])))))))
  (.seq (.ops [⟨(some 39), some undefA, none, false, .pu (.mov (.s 8))⟩,
    ⟨(some 6), some undefA, none, false, .pu (.mov (.s 39))⟩])
  (.ret)))
 (.skip)))
 (.seq (.seq (.ops [⟨(some 40), some undefA, none, false, .ld (.ld 1 false (.s 3))⟩,
   ⟨(some 41), some undefA, none, false, .pu (.mov (.s 0))⟩,
   ⟨(some 42), some undefA, none, false, .pu (.mov (.s 1))⟩,
   ⟨(some 43), some undefA, none, false, .pu (.bin .mul (.c (.int .i64 2)) (.s 42))⟩,
   ⟨(some 44), some undefA, none, false, .pu (.mov (.s 7))⟩,
   ⟨(some 45), some undefA, none, false, .pu (.bin .sub (.s 43) (.s 44))⟩,
   ⟨(some 46), some undefA, none, false, .callv (.s 40) [(.s 41), (.s 45)]⟩,
   ⟨(some 47), some undefA, none, false, .pu (.len (.s 46))⟩,
   ⟨(some 48), some undefA, none, false, .pu (.mov (.c (.int .i64 0)))⟩])
 (.block 2 (.loop (.seq (.ops [⟨(some 49), some undefA, none, false, .pu (.bin .lss (.s 48) (.s 47))⟩])
   (.seq (.cond (.s 49) (.skip)
   (.exit 2))
   (.seq (.block 3 (.seq (.ops [⟨(some 50), some undefA, none, false, .pu (.mov (.s 48))⟩,
      ⟨(some 51), some undefA, none, false, .pu (.idx 2 (.s 46) (.s 48))⟩,
      ⟨(some 52), some undefA, none, false, .ld (.ld 2 true (.s 51))⟩,
      ⟨(some 12), some (.junk), none, false, .pu (.bnew (.c (.agg [.int .i64 0, .int .i64 0])))⟩,
      ⟨(some 11), some undefA, none, false, .pu (.mov (.s 50))⟩,
      ⟨(some 12), none, none, false, .pu (.bset none 12 0 2 (.s 52))⟩])
    (.ops [⟨(some 53), some undefA, none, true, .pu (.mov (.s 8))⟩,
      ⟨(some 54), some undefA, none, true, .pu (.badr none 12)⟩,
      ⟨(some 55), some undefA, none, true, .pu (.bget (some 54) 12 0 1 false)⟩,
      ⟨(some 56), some undefA, none, false, .pu (.mov (.s 0))⟩,
      ⟨(some 57), some undefA, none, false, .pu (.mov (.s 11))⟩,
      ⟨(some 58), some undefA, none, false, .pu (.idx 1 (.s 56) (.s 57))⟩,
      ⟨(some 59), some undefA, none, true, .ld (.ld 1 false (.s 58))⟩,
      ⟨(some 60), some undefA, none, true, .pu (.badr none 12)⟩,
      ⟨(some 61), some undefA, none, true, .pu (.bget (some 60) 12 1 1 false)⟩,
      ⟨(some 62), some undefA, none, false, .pu (.bin .mul (.s 59) (.s 61))⟩,
      ⟨(some 63), some undefA, none, false, .pu (.bin .add (.s 55) (.s 62))⟩,
      ⟨(some 64), some undefA, none, true, .pu (.badr none 12)⟩,
      ⟨(some 65), some undefA, none, true, .pu (.bget (some 64) 12 1 1 false)⟩,
      ⟨(some 66), some undefA, none, true, .pu (.bin .mul (.c (.int .i64 2)) (.s 65))⟩,
      ⟨(some 67), some undefA, none, false, .call 61 [(.s 63), (.s 66)]⟩,
      ⟨(some 68), some undefA, none, false, .ha (.blds 2 1 [.int .i64 0, .int .i64 0] [(0, 2, (.s 67))])⟩,
      ⟨(some 69), some undefA, none, false, .ha (.app 2 (.s 53) (.s 68))⟩,
      ⟨(some 8), some undefA, none, false, .pu (.mov (.s 69))⟩])))
   (.ops [⟨(some 70), some undefA, none, false, .pu (.bin .add (.s 48) (.c (.int .i64 1)))⟩,
     ⟨(some 48), some undefA, none, false, .pu (.mov (.s 70))⟩])))))))
 (.seq (.ops [⟨(some 71), some undefA, none, false, .pu (.mov (.s 8))⟩,
   ⟨(some 6), some undefA, none, false, .pu (.mov (.s 71))⟩])
 (.ret))))))⟩
theorem t91 : trF Try.prog [10, 12] [] Try.f91 = some m91 := by kernel_rfl
/-- slices.insertionSortOrdered[int] [loop [0, 1, 2, 6], loop [0, 1, 2, 6, 7]] -/
def m92 : MFun := ⟨49, [], [],
 .seq (.ops [⟨(some 8), some undefA, none, false, .pu (.mov (.s 1))⟩,
   ⟨(some 9), some undefA, none, false, .pu (.bin .add (.s 8) (.c (.int .i64 1)))⟩,
   ⟨(some 6), some undefA, none, false, .pu (.mov (.s 9))⟩])
 (.block 0 (.loop (.seq (.seq (.ops [⟨(some 10), some undefA, none, false, .pu (.mov (.s 6))⟩,
     ⟨(some 11), some undefA, none, false, .pu (.mov (.s 2))⟩,
     ⟨(some 12), some undefA, none, false, .pu (.bin .lss (.s 10) (.s 11))⟩])
   (.cond (.s 12) (.skip)
   (.exit 0)))
   (.seq (.block 1 (.seq (.ops [⟨(some 15), some undefA, none, false, .pu (.mov (.s 6))⟩,
      ⟨(some 7), some undefA, none, false, .pu (.mov (.s 15))⟩])
    (.block 2 (.loop (.seq (.seq (.ops [⟨(some 16), some undefA, none, false, .pu (.mov (.s 7))⟩,
        ⟨(some 17), some undefA, none, false, .pu (.mov (.s 1))⟩,
        ⟨(some 18), some undefA, none, false, .pu (.bin .gtr (.s 16) (.s 17))⟩,
        ⟨(some 19), some undefA, none, false, .pu (.mov (.s 18))⟩,
        ⟨(some 20), some undefA, (some (19, true)), true, .pu (.mov (.s 0))⟩,
        ⟨(some 21), some undefA, (some (19, true)), true, .pu (.mov (.s 7))⟩,
        ⟨(some 22), some undefA, (some (19, true)), true, .pu (.idx 1 (.s 20) (.s 21))⟩,
        ⟨(some 23), some undefA, (some (19, true)), true, .ld (.ld 1 false (.s 22))⟩,
        ⟨(some 24), some undefA, (some (19, true)), true, .pu (.mov (.s 0))⟩,
        ⟨(some 25), some undefA, (some (19, true)), true, .pu (.mov (.s 7))⟩,
        ⟨(some 26), some undefA, (some (19, true)), true, .pu (.bin .sub (.s 25) (.c (.int .i64 1)))⟩,
        ⟨(some 27), some undefA, (some (19, true)), true, .pu (.idx 1 (.s 24) (.s 26))⟩,
        ⟨(some 28), some undefA, (some (19, true)), true, .ld (.ld 1 false (.s 27))⟩,
        ⟨(some 29), some undefA, (some (19, true)), false, .call 98 [(.s 23), (.s 28)]⟩,
        ⟨(some 30), some undefA, none, false, .pu (.pick (.s 19) (.s 29) (.c (.bool false)))⟩])
      (.cond (.s 30) (.skip)
      (.exit 2)))
      (.seq (.block 3 (.ops [⟨(some 33), some undefA, none, true, .pu (.mov (.s 0))⟩,
         ⟨(some 34), some undefA, none, true, .pu (.mov (.s 7))⟩,
         ⟨(some 35), some undefA, none, true, .pu (.mov (.s 0))⟩,
         ⟨(some 36), some undefA, none, true, .pu (.mov (.s 7))⟩,
         ⟨(some 37), some undefA, none, true, .pu (.bin .sub (.s 36) (.c (.int .i64 1)))⟩,
         ⟨(some 38), some undefA, none, true, .pu (.mov (.s 0))⟩,
         ⟨(some 39), some undefA, none, true, .pu (.mov (.s 7))⟩,
         ⟨(some 40), some undefA, none, true, .pu (.bin .sub (.s 39) (.c (.int .i64 1)))⟩,
         ⟨(some 41), some undefA, none, true, .pu (.idx 1 (.s 38) (.s 40))⟩,
         ⟨(some 42), some undefA, none, true, .ld (.ld 1 false (.s 41))⟩,
         ⟨(some 43), some undefA, none, true, .pu (.mov (.s 0))⟩,
         ⟨(some 44), some undefA, none, true, .pu (.mov (.s 7))⟩,
         ⟨(some 45), some undefA, none, true, .pu (.idx 1 (.s 43) (.s 44))⟩,
         ⟨(some 46), some undefA, none, true, .ld (.ld 1 false (.s 45))⟩,
         ⟨(some 47), some undefA, none, false, .pu (.idx 1 (.s 33) (.s 34))⟩,
         ⟨none, some undefA, none, false, .ha (.st 1 (.s 47) (.s 42))⟩,
         ⟨(some 48), some undefA, none, false, .pu (.idx 1 (.s 35) (.s 37))⟩,
         ⟨none, some undefA, none, false, .ha (.st 1 (.s 48) (.s 46))⟩]))
      (.ops [⟨(some 31), some undefA, none, false, .pu (.mov (.s 7))⟩,
        ⟨(some 32), some undefA, none, false, .pu (.bin .sub (.s 31) (.c (.int .i64 1)))⟩,
        ⟨(some 7), some undefA, none, false, .pu (.mov (.s 32))⟩])))))))
   (.ops [⟨(some 13), some undefA, none, false, .pu (.mov (.s 6))⟩,
     ⟨(some 14), some undefA, none, false, .pu (.bin .add (.s 13) (.c (.int .i64 1)))⟩,
     ⟨(some 6), some undefA, none, false, .pu (.mov (.s 14))⟩])))))⟩
theorem t92 : trF Try.prog [] [] Try.f92 = some m92 := by kernel_rfl
/-- cmp.Less[int] [] -/
def m98 : MFun := ⟨17, [], [.mov (.s 4)],
 .seq (.ops [⟨(some 4), some undefA, none, false, .pu (.mov (.c (.bool false)))⟩])
 (.seq (.ops [⟨(some 5), some undefA, none, false, .pu (.mov (.s 0))⟩,
   ⟨(some 6), some undefA, none, false, .call 109 [(.s 5)]⟩,
   ⟨(some 7), some undefA, none, false, .pu (.mov (.s 6))⟩,
   ⟨(some 8), some undefA, (some (7, true)), false, .pu (.mov (.s 1))⟩,
   ⟨(some 9), some undefA, (some (7, true)), false, .call 109 [(.s 8)]⟩,
   ⟨(some 10), some undefA, (some (7, true)), false, .pu (.not (.s 9))⟩,
   ⟨(some 11), some undefA, none, false, .pu (.pick (.s 7) (.s 10) (.c (.bool false)))⟩,
   ⟨(some 12), some undefA, none, false, .pu (.mov (.s 11))⟩,
   ⟨(some 13), some undefA, (some (12, false)), false, .pu (.mov (.s 0))⟩,
   ⟨(some 14), some undefA, (some (12, false)), false, .pu (.mov (.s 1))⟩,
   ⟨(some 15), some undefA, (some (12, false)), false, .pu (.bin .lss (.s 13) (.s 14))⟩,
   ⟨(some 16), some undefA, none, false, .pu (.pick (.s 12) (.c (.bool true)) (.s 15))⟩,
   ⟨(some 4), some undefA, none, false, .pu (.mov (.s 16))⟩])
 (.ret))⟩
theorem t98 : trF Try.prog [] [] Try.f98 = some m98 := by kernel_rfl
/-- math/bits.Len64 [] -/
def m102 : MFun := ⟨25, [], [.mov (.s 2)],
 .seq (.ops [⟨(some 2), some undefA, none, false, .pu (.mov (.c (.int .i64 0)))⟩])
 (.seq (.seq (.ops [⟨(some 3), some undefA, none, false, .pu (.mov (.s 0))⟩,
   ⟨(some 4), some undefA, none, false, .pu (.bin .geq (.s 3) (.c (.int .u64 4294967296)))⟩])
 (.cond (.s 4) (.seq (.ops [⟨(some 5), some undefA, none, false, .pu (.mov (.s 0))⟩,
    ⟨(some 6), some undefA, none, false, .pu (.bin .shr (.s 5) (.c (.int .u64 32)))⟩,
    ⟨(some 0), some undefA, none, false, .pu (.mov (.s 6))⟩])
  (.ops [⟨(some 2), some undefA, none, false, .pu (.mov (.c (.int .i64 32)))⟩]))
 (.skip)))
 (.seq (.seq (.ops [⟨(some 7), some undefA, none, false, .pu (.mov (.s 0))⟩,
   ⟨(some 8), some undefA, none, false, .pu (.bin .geq (.s 7) (.c (.int .u64 65536)))⟩])
 (.cond (.s 8) (.seq (.ops [⟨(some 9), some undefA, none, false, .pu (.mov (.s 0))⟩,
    ⟨(some 10), some undefA, none, false, .pu (.bin .shr (.s 9) (.c (.int .u64 16)))⟩,
    ⟨(some 0), some undefA, none, false, .pu (.mov (.s 10))⟩])
  (.ops [⟨(some 11), some undefA, none, false, .pu (.mov (.s 2))⟩,
    ⟨(some 12), some undefA, none, false, .pu (.bin .add (.s 11) (.c (.int .i64 16)))⟩,
    ⟨(some 2), some undefA, none, false, .pu (.mov (.s 12))⟩]))
 (.skip)))
 (.seq (.seq (.ops [⟨(some 13), some undefA, none, false, .pu (.mov (.s 0))⟩,
   ⟨(some 14), some undefA, none, false, .pu (.bin .geq (.s 13) (.c (.int .u64 256)))⟩])
 (.cond (.s 14) (.seq (.ops [⟨(some 15), some undefA, none, false, .pu (.mov (.s 0))⟩,
    ⟨(some 16), some undefA, none, false, .pu (.bin .shr (.s 15) (.c (.int .u64 8)))⟩,
    ⟨(some 0), some undefA, none, false, .pu (.mov (.s 16))⟩])
  (.ops [⟨(some 17), some undefA, none, false, .pu (.mov (.s 2))⟩,
    ⟨(some 18), some undefA, none, false, .pu (.bin .add (.s 17) (.c (.int .i64 8)))⟩,
    ⟨(some 2), some undefA, none, false, .pu (.mov (.s 18))⟩]))
 (.skip)))
 (.seq (.ops [⟨(some 19), some undefA, none, false, .pu (.mov (.s 2))⟩,
   ⟨(some 20), some undefA, none, false, .pu (.mov (.s 0))⟩,
   ⟨(some 21), some undefA, none, false, .pu (.conv .u8 (.s 20))⟩,
   ⟨(some 22), some undefA, none, false, .pu (.aidx 256 1 false (.c (.agg [.int .u8 0, .int .u8 1, .int .u8 2, .int .u8 2, .int .u8 3, .int .u8 3, .int .u8 3, .int .u8 3, .int .u8 4, .int .u8 4, .int .u8 4, .int .u8 4, .int .u8 4, .int .u8 4, .int .u8 4, .int .u8 4, .int .u8 5, .int .u8 5, .int .u8 5, .int .u8 5, .int .u8 5, .int .u8 5, .int .u8 5, .int .u8 5, .int .u8 5, .int .u8 5, .int .u8 5, .int .u8 5, .int .u8 5, .int .u8 5, .int .u8 5, .int .u8 5, .int .u8 6, .int .u8 6, .int .u8 6, .int .u8 6, .int .u8 6, .int .u8 6, .int .u8 6, .int .u8 6, .int .u8 6, .int .u8 6, .int .u8 6, .int .u8 6, .int .u8 6, .int .u8 6, .int .u8 6, .int .u8 6, .int .u8 6, .int .u8 6, .int .u8 6, .int .u8 6, .int .u8 6, .int .u8 6, .int .u8 6, .int .u8 6, .int .u8 6, .int .u8 6, .int .u8 6, .int .u8 6, .int .u8 6, .int .u8 6, .int .u8 6, .int .u8 6, .int .u8 7, .int .u8 7, .int .u8 7, .int .u8 7, .int .u8 7, .int .u8 7, .int .u8 7, .int .u8 7, .int .u8 7, .int .u8 7, .int .u8 7, .int .u8 7, .int .u8 7, .int .u8 7, .int .u8 7, .int .u8 7, .int .u8 7, .int .u8 7, .int .u8 7, .int .u8 7, .int .u8 7, .int .u8 7, .int .u8 7, .int .u8 7, .int .u8 7, .int .u8 7, .int .u8 7, .int .u8 7, .int .u8 7, .int .u8 7, .int .u8 7, .int .u8 7, .int .u8 7, .int .u8 7, .int .u8 7, .int .u8 7, .int .u8 7, .int .u8 7, .int .u8 7, .int .u8 7, .int .u8 7, .int .u8 7, .int .u8 7, .int .u8 7, .int .u8 7, .int .u8 7, .int .u8 7, .int .u8 7, .int .u8 7, .int .u8 7, .int .u8 7, .int .u8 7, .int .u8 7, .int .u8 7, .int .u8 7, .int .u8 7, .int .u8 7, .int .u8 7, .int .u8 7, .int .u8 7, .int .u8 7, .int .u8 7, .int .u8 7, .int .u8 7, .int .u8 8, .int .u8 8, .int .u8 8, .int .u8 8, .int .u8 8, .int .u8 8, .int .u8 8, .int .u8 8, .int .u8 8, .int .u8 8, .int .u8 8, .int .u8 8, .int .u8 8, .int .u8 8, .int .u8 8, .int .u8 8, .int .u8 8, .int .u8 8, .int .u8 8, .int .u8 8, .int .u8 8, .int .u8 8, .int .u8 8, .int .u8 8, .int .u8 8, .int .u8 8, .int .u8 8, .int .u8 8, .int .u8 8, .int .u8 8, .int .u8 8, .int .u8 8, .int .u8 8, .int .u8 8, .int .u8 8, .int .u8 8, .int .u8 8, .int .u8 8, .int .u8 8, .int .u8 8, .int .u8 8, .int .u8 8, .int .u8 8, .int .u8 8, .int .u8 8, .int .u8 8, .int .u8 8, .int .u8 8, .int .u8 8, .int .u8 8, .int .u8 8, .int .u8 8, .int .u8 8, .int .u8 8, .int .u8 8, .int .u8 8, .int .u8 8, .int .u8 8, .int .u8 8, .int .u8 8, .int .u8 8, .int .u8 8, .int .u8 8, .int .u8 8, .int .u8 8, .int .u8 8, .int .u8 8, .int .u8 8, .int .u8 8, .int .u8 8, .int .u8 8, .int .u8 8, .int .u8 8, .int .u8 8, .int .u8 8, .int .u8 8, .int .u8 8, .int .u8 8, .int .u8 8, .int .u8 8, .int .u8 8, .int .u8 8, .int .u8 8, .int .u8 8, .int .u8 8, .int .u8 8, .int .u8 8, .int .u8 8, .int .u8 8, .int .u8 8, .int .u8 8, .int .u8 8, .int .u8 8, .int .u8 8, .int .u8 8, .int .u8 8, .int .u8 8, .int .u8 8, .int .u8 8, .int .u8 8, .int .u8 8, .int .u8 8, .int .u8 8, .int .u8 8, .int .u8 8, .int .u8 8, .int .u8 8, .int .u8 8, .int .u8 8, .int .u8 8, .int .u8 8, .int .u8 8, .int .u8 8, .int .u8 8, .int .u8 8, .int .u8 8, .int .u8 8, .int .u8 8, .int .u8 8, .int .u8 8, .int .u8 8, .int .u8 8, .int .u8 8, .int .u8 8, .int .u8 8, .int .u8 8, .int .u8 8, .int .u8 8])) (.s 21))⟩,
   ⟨(some 23), some undefA, none, false, .pu (.conv .i64 (.s 22))⟩,
   ⟨(some 24), some undefA, none, false, .pu (.bin .add (.s 19) (.s 23))⟩,
   ⟨(some 2), some undefA, none, false, .pu (.mov (.s 24))⟩])
 (.ret)))))⟩
theorem t102 : trF Try.prog [] [] Try.f102 = some m102 := by kernel_rfl
/-- slices.Clone[[]int,int] [] -/
def m103 : MFun := ⟨8, [], [.mov (.s 2)],
 .seq (.ops [⟨(some 2), some undefA, none, false, .pu (.mov (.c (.nilS)))⟩])
 (.seq (.seq (.ops [⟨(some 3), some undefA, none, false, .pu (.mov (.s 0))⟩,
   ⟨(some 4), some undefA, none, false, .pu (.isnil false (.s 3))⟩])
 (.cond (.s 4) (.seq (.ops [⟨(some 2), some undefA, none, false, .pu (.mov (.c (.nilS)))⟩])
  (.ret))
 (.skip)))
 (.seq (.ops [⟨(some 5), some undefA, none, false, .ha (.blds 1 0 [.int .i64 0] [])⟩,
   ⟨(some 6), some undefA, none, false, .pu (.mov (.s 0))⟩,
   ⟨(some 7), some undefA, none, false, .ha (.app 1 (.s 5) (.s 6))⟩,
   ⟨(some 2), some undefA, none, false, .pu (.mov (.s 7))⟩])
 (.ret)))⟩
theorem t103 : trF Try.prog [] [] Try.f103 = some m103 := by kernel_rfl
/-- cmp.isNaN[int] [] -/
def m109 : MFun := ⟨6, [], [.mov (.s 2)],
 .seq (.ops [⟨(some 2), some undefA, none, false, .pu (.mov (.c (.bool false)))⟩])
 (.seq (.ops [⟨(some 3), some undefA, none, false, .pu (.mov (.s 0))⟩,
   ⟨(some 4), some undefA, none, false, .pu (.mov (.s 0))⟩,
   ⟨(some 5), some undefA, none, false, .pu (.bin .neq (.s 3) (.s 4))⟩,
   ⟨(some 2), some undefA, none, false, .pu (.mov (.s 5))⟩])
 (.ret))⟩
theorem t109 : trF Try.prog [] [] Try.f109 = some m109 := by kernel_rfl
end Go.Proofs.Ytdcdjhhjlpegjaa

namespace Go.Proofs.Ytdcdjhhjlpegjaa
open Go Go.Eng
theorem hmix : Try.prog.follows .mixedOrders = true := by kernel_rfl
def tab : List (Nat × MFun) := [(16, m16), (17, m17), (21, m21), (26, m26), (30, m30), (31, m31), (53, m53), (54, m54), (55, m55), (57, m57), (61, m61), (63, m63), (64, m64), (72, m72), (78, m78), (79, m79), (81, m81), (82, m82), (83, m83), (84, m84), (85, m85), (87, m87), (88, m88), (89, m89), (90, m90), (91, m91), (92, m92), (98, m98), (102, m102), (103, m103), (109, m109)]
theorem tabOK : TabOK Try.prog tab :=
  .cons Try.func16 (by kernel_rfl) t16 <| .cons Try.func17 (by kernel_rfl) t17 <| .cons Try.func21 (by kernel_rfl) t21 <| .cons Try.func26 (by kernel_rfl) t26 <| .cons Try.func30 (by kernel_rfl) t30 <| .cons Try.func31 (by kernel_rfl) t31 <| .cons Try.func53 (by kernel_rfl) t53 <| .cons Try.func54 (by kernel_rfl) t54 <| .cons Try.func55 (by kernel_rfl) t55 <| .cons Try.func57 (by kernel_rfl) t57 <| .cons Try.func61 (by kernel_rfl) t61 <| .cons Try.func63 (by kernel_rfl) t63 <| .cons Try.func64 (by kernel_rfl) t64 <| .cons Try.func72 (by kernel_rfl) t72 <| .cons Try.func78 (by kernel_rfl) t78 <| .cons Try.func79 (by kernel_rfl) t79 <| .cons Try.func81 (by kernel_rfl) t81 <| .cons Try.func82 (by kernel_rfl) t82 <| .cons Try.func83 (by kernel_rfl) t83 <| .cons Try.func84 (by kernel_rfl) t84 <| .cons Try.func85 (by kernel_rfl) t85 <| .cons Try.func87 (by kernel_rfl) t87 <| .cons Try.func88 (by kernel_rfl) t88 <| .cons Try.func89 (by kernel_rfl) t89 <| .cons Try.func90 (by kernel_rfl) t90 <| .cons Try.func91 (by kernel_rfl) t91 <| .cons Try.func92 (by kernel_rfl) t92 <| .cons Try.func98 (by kernel_rfl) t98 <| .cons Try.func102 (by kernel_rfl) t102 <| .cons Try.func103 (by kernel_rfl) t103 <| .cons Try.func109 (by kernel_rfl) t109 <| .nil
def isTrue : Option (AV × AHeap) → Bool
  | some (.bool true, _) => true
  | _ => false
set_option maxRecDepth 100000 in
theorem known_run : isTrue (runF tab 300 14 17 [] []) = true := by kernel_rfl
theorem known (A : AHeap) : ACalls Try.prog 17 [] A (B true) A := by
  cases h : runF tab 300 14 17 [] [] with
  | none => have := known_run; rw [h] at this; cases this
  | some p =>
    obtain ⟨v, A'⟩ := p
    have h1 := known_run
    rw [h] at h1
    have h2 : v = B true := by
      unfold isTrue at h1
      split at h1
      · rename_i e; cases e; rfl
      · cases h1
    subst h2
    exact (runF_ok hmix tabOK 300 14 17 [] [] _ _ h).lift (by simp) rfl A
end Go.Proofs.Ytdcdjhhjlpegjaa

namespace Go.Proofs.Ytdcdjhhjlpegjaa
open Go Go.Eng
/-- The front of a list. -/
theorem Ls_takeS {α : Type} {es : Nat} {e : α → List AV} {H : AHeap} {v : AV} {xs : List α} (h : Ls es e H v xs) (k : Nat) (hk : k ≤ xs.length) : ∃ v', slcA es v none (some (I k)) none = some v' ∧ Ls es e H v' (xs.take k) := by
  rcases h.inv with ⟨rfl, rfl⟩ | ⟨n, off, full, rw, l, rfl, h1, h2, h3⟩
  · have : k = 0 := by simpa using hk
    subst this
    exact ⟨.nilS, by simp [slcA, bnd], ⟨h.he, rfl⟩⟩
  · have hk' : (0 : Int) ≤ k ∧ (k : Int) ≤ xs.length := by omega
    refine ⟨.sl es n off k (full && (k == xs.length)), by simp [slcA, bnd, hk], ⟨h.he, ?_⟩⟩
    have hm : k * es ≤ xs.length * es := Nat.mul_le_mul_right _ hk
    simp only [slCells, cellsAt, h1, if_true]
    rw [if_pos (by omega)]
    simp only [Option.map_some, List.length_take, Nat.min_eq_left hk, Option.some.injEq, Prod.mk.injEq, true_and]
    have h4 : (xs.take k).flatMap e = (xs.flatMap e).take (k * es) := by
      conv => rhs; rw [← List.take_append_drop k xs, List.flatMap_append]
      have h5 := flatMap_length h.he (xs.take k)
      rw [List.length_take, Nat.min_eq_left hk] at h5
      rw [← h5, List.take_left]
    rw [h4, ← h3, List.take_take, Nat.min_eq_left hm]
theorem set_new (A : AHeap) (o o' : AObj) : (A ++ [o]).set A.length o' = A ++ [o'] := by simp
/-- A store. -/
def stA (sz : Nat) (p x : AV) (H : AHeap) : Option AHeap :=
  match p, x.cells? with
  | .ptr n off, some c => match H[n]? with
    | some (.cells true l) => if c.length = sz ∧ off + sz ≤ l.length then some (H.set n (.cells true (splice l off c))) else none
    | _ => none
  | _, _ => none
theorem hval_st (sz : Nat) (p x : Opd) (S : List AV) (H : AHeap) : hval (.st sz p x) S H = (stA sz (rd S p) (rd S x) H).map (fun H' => (undefA, H')) := by
  simp only [hval, stA]
  cases rd S p with
  | ptr n off =>
    cases (rd S x).cells? with
    | none => rfl
    | some c =>
      simp only
      cases H[n]? with
      | none => rfl
      | some o =>
        cases o with
        | cells rw l =>
          cases rw
          · rfl
          · simp only
            split <;> rfl
        | _ => rfl
  | _ => rfl
theorem hval_blds (es n : Nat) (zero : List AV) (parts : List (Nat × Nat × Opd)) (S : List AV) (H : AHeap) : hval (.blds es n zero parts) S H = match fillA (parts.map fun p => (p.1, p.2.1, rd S p.2.2)) (repl zero n) with | some l => some (.sl es H.length 0 n true, H ++ [.cells true l]) | none => none := rfl
theorem hval_app (es : Nat) (x y : Opd) (S : List AV) (H : AHeap) : hval (.app es x y) S H = appA es H (rd S x) (rd S y) := rfl
theorem splice_flat {α : Type} {es : Nat} {e : α → List AV} (he : ∀ x, (e x).length = es) {xs : List α} {i : Nat} (hi : i < xs.length) (z : α) : splice (xs.flatMap e) (i * es) (e z) = (xs.set i z).flatMap e := by
  unfold splice
  have h1 := flatMap_length he (xs.take i)
  rw [List.length_take, Nat.min_eq_left (by omega)] at h1
  have h2 := flatMap_length he (xs.take (i + 1))
  rw [List.length_take, Nat.min_eq_left (by omega)] at h2
  have e1 : (xs.flatMap e).take (i * es) = (xs.take i).flatMap e := by
    conv => lhs; rw [← List.take_append_drop i xs, List.flatMap_append]
    rw [← h1, List.take_left]
  have e2 : (xs.flatMap e).drop (i * es + (e z).length) = (xs.drop (i + 1)).flatMap e := by
    conv => lhs; rw [← List.take_append_drop (i + 1) xs, List.flatMap_append]
    rw [he z, ← Nat.succ_mul, Nat.succ_eq_add_one, ← h2, List.drop_left]
  rw [e1, e2, List.set_eq_take_append_cons_drop, if_pos hi, List.flatMap_append, List.flatMap_cons, List.append_assoc]
/-- A list that the call itself has made and may write. -/
structure OL {α : Type} (es : Nat) (e : α → List AV) (A H : AHeap) (n : Nat) (v : AV) (xs : List α) : Prop where
  he : ∀ x, (e x).length = es
  pre : A <+: H
  new : A.length ≤ n
  ob : H[n]? = some (.cells true (xs.flatMap e))
  v : ∃ full, v = .sl es n 0 xs.length full
section
variable {α : Type} {es : Nat} {e : α → List AV} {A H : AHeap} {n : Nat} {v : AV} {xs : List α}
theorem OL.ls (h : OL es e A H n v xs) : Ls es e H v xs := by
  obtain ⟨he, h1, h2, h3, full, rfl⟩ := h
  refine ⟨he, ?_⟩
  have hl := flatMap_length he xs
  simp only [slCells, cellsAt, h3, if_true, Nat.zero_add]
  rw [if_pos (by omega)]
  simp only [List.drop_zero, Option.map_some, Option.some.injEq, Prod.mk.injEq, true_and]
  rw [← hl, List.take_length]
theorem OL.lt (h : OL es e A H n v xs) : n < H.length := (List.getElem?_eq_some_iff.1 h.ob).1
theorem OL.set (h : OL es e A H n v xs) (i : Nat) (z : α) : OL es e A (H.set n (.cells true ((xs.set i z).flatMap e))) n v (xs.set i z) := by
  have hn := h.lt
  obtain ⟨he, h1, h2, h3, full, rfl⟩ := h
  exact ⟨he, pre_set h1 h2 _, h2, by rw [List.getElem?_set_self hn], full, by simp⟩
theorem OL.st (h : OL es e A H n v xs) {i : Nat} (hi : i < xs.length) (x : AV) (z : α) (hx : x.cells? = some (e z)) : stA es (.ptr (nm v) (of v + i * es)) x H = some (H.set n (.cells true ((xs.set i z).flatMap e))) := by
  obtain ⟨he, h1, h2, h3, full, rfl⟩ := h
  have hl := flatMap_length he xs
  have hle : i * es + es ≤ xs.length * es := by
    rw [← Nat.succ_mul]; exact Nat.mul_le_mul_right _ hi
  simp only [stA, nm, of, hx, h3, Nat.zero_add]
  rw [if_pos ⟨he z, by omega⟩, splice_flat he hi z]
theorem OL.mono {H' : AHeap} (h : OL es e A H n v xs) (hp : H <+: H') : OL es e A H' n v xs := ⟨h.he, h.pre.trans hp, h.new, pre_get hp h.ob, h.v⟩
theorem OL.new_mk (he : ∀ x, (e x).length = es) (A : AHeap) (xs : List α) (full : Bool) : OL es e A (A ++ [.cells true (xs.flatMap e)]) A.length (.sl es A.length 0 xs.length full) xs :=
  ⟨he, pre_app _ _, Nat.le_refl _, by simp, full, rfl⟩
theorem gc_weak {v1 v1' v : AV} {H1 H' : AHeap} (h : ∀ ρ c, VR ρ v1 c → VR ρ v1' c) (g : GC A v1' H1 v H') : GC A v1 H1 v H' :=
  fun ρ w ρ1 w1 cv s0 s1 st hv => g ρ w ρ1 w1 cv s0 s1 st (h ρ1 cv hv)
theorem VR.unfull {ρ : Ren} {es n off len : Nat} {full : Bool} {c : Value} (h : VR ρ (.sl es n off len full) c) : VR ρ (.sl es n off len false) c := by
  cases h with
  | sl _ _ _ _ _ L a cap h1 h2 h3 h4 h5 => exact .sl es n off len false L a cap h1 h2 (fun e => by cases e) h4 h5
theorem OL.acc (h : OL es e A H n v xs) (h0 : 0 < xs.length) : AccL es e A H (.sl es n 0 xs.length false) xs :=
  ⟨h.pre, flatMap_length h.he xs, .inr ⟨h0, n, rfl, h.new, h.ob⟩⟩
theorem OL.gc (h : OL es e A H n v xs) (h0 : 0 < xs.length) (hf : ∀ x, ∀ y ∈ e x, flat y = true) : GC A v H (outV es A xs.length) (outH A (xs.flatMap e) xs.length) := by
  have h1 := (h.acc h0).gc hf
  obtain ⟨_, _, _, _, full, rfl⟩ := h
  exact gc_weak (fun ρ c => VR.unfull) h1
end
theorem OL_setAll {α : Type} {es : Nat} {e : α → List AV} {A H : AHeap} {n : Nat} {v : AV} {xs : List α} (h : OL es e A H n v xs) (xs' : List α) (hl : xs'.length = xs.length) : OL es e A (H.set n (.cells true (xs'.flatMap e))) n v xs' := by
  have hn := h.lt
  obtain ⟨he, h1, h2, h3, full, rfl⟩ := h
  exact ⟨he, pre_set h1 h2 _, h2, by rw [List.getElem?_set_self hn], full, by rw [hl]⟩
end Go.Proofs.Ytdcdjhhjlpegjaa

namespace Go.Proofs.Ytdcdjhhjlpegjaa
open Go Go.Eng
/-- A number that a machine word holds. -/
abbrev W (a : Int) : Prop := -9223372036854775808 ≤ a ∧ a ≤ 9223372036854775807
theorem take_mem {α : Type} {l : List α} {i : Nat} {z y : α} (hz : l[i]? = some z) : y ∈ l.take (i + 1) ↔ y ∈ l.take i ∨ y = z := by
  rw [List.take_add_one, hz, List.mem_append]
  simp
end Go.Proofs.Ytdcdjhhjlpegjaa

namespace Go.Proofs.Ytdcdjhhjlpegjaa
open Go Go.Eng
/-- selion/selionref01.Sum [loop [0, 3, 4]] -/
def m27 : MFun := ⟨18, [], [.mov (.s 2)],
 .seq (.ops [⟨(some 2), some undefA, none, false, .pu (.mov (.c (.int .i64 0)))⟩])
 (.seq (.ops [⟨(some 3), some undefA, none, false, .pu (.mov (.c (.int .i64 0)))⟩])
 (.seq (.seq (.ops [⟨(some 4), some undefA, none, false, .pu (.mov (.c (.int .i64 0)))⟩])
 (.block 0 (.loop (.seq (.seq (.ops [⟨(some 5), some undefA, none, false, .pu (.mov (.s 4))⟩,
     ⟨(some 6), some undefA, none, false, .pu (.mov (.s 0))⟩,
     ⟨(some 7), some undefA, none, false, .pu (.len (.s 6))⟩,
     ⟨(some 8), some undefA, none, false, .pu (.bin .lss (.s 5) (.s 7))⟩])
   (.cond (.s 8) (.skip)
   (.exit 0)))
   (.seq (.block 1 (.ops [⟨(some 11), some undefA, none, false, .pu (.mov (.s 3))⟩,
      ⟨(some 12), some undefA, none, false, .pu (.mov (.s 0))⟩,
      ⟨(some 13), some undefA, none, false, .pu (.mov (.s 4))⟩,
      ⟨(some 14), some undefA, none, false, .pu (.idx 1 (.s 12) (.s 13))⟩,
      ⟨(some 15), some undefA, none, false, .ld (.ld 1 false (.s 14))⟩,
      ⟨(some 16), some undefA, none, false, .pu (.bin .add (.s 11) (.s 15))⟩,
      ⟨(some 3), some undefA, none, false, .pu (.mov (.s 16))⟩]))
   (.ops [⟨(some 9), some undefA, none, false, .pu (.mov (.s 4))⟩,
     ⟨(some 10), some undefA, none, false, .pu (.bin .add (.s 9) (.c (.int .i64 1)))⟩,
     ⟨(some 4), some undefA, none, false, .pu (.mov (.s 10))⟩]))))))
 (.seq (.ops [⟨(some 17), some undefA, none, false, .pu (.mov (.s 3))⟩,
   ⟨(some 2), some undefA, none, false, .pu (.mov (.s 17))⟩])
 (.ret))))⟩
theorem t27 : trF Try.prog [] [] Try.f27 = some m27 := by kernel_rfl
/-- selion/claim.MoreEqual [loop [0, 1, 19, 20, 21], loop [10, 12, 14, 15, 80, 81]] -/
def m39 : MFun := ⟨98, [], [.mov (.s 4), .mov (.s 5)],
 .seq (.ops [⟨(some 4), some undefA, none, false, .pu (.mov (.c (.bool false)))⟩,
   ⟨(some 5), some undefA, none, false, .pu (.mov (.c (.int .i64 0)))⟩])
 (.seq (.seq (.ops [⟨(some 17), some undefA, none, false, .pu (.mov (.s 0))⟩,
   ⟨(some 18), some undefA, none, false, .pu (.mov (.s 1))⟩,
   ⟨(some 19), some undefA, none, false, .ha (.blds 1 2 [.nilS] [(0, 1, (.s 17)), (1, 1, (.s 18))])⟩,
   ⟨(some 20), some undefA, none, false, .pu (.len (.s 19))⟩,
   ⟨(some 21), some undefA, none, false, .pu (.mov (.c (.int .i64 0)))⟩])
 (.block 0 (.loop (.seq (.ops [⟨(some 22), some undefA, none, false, .pu (.bin .lss (.s 21) (.s 20))⟩])
   (.seq (.cond (.s 22) (.skip)
   (.exit 0))
   (.seq (.block 1 (.seq (.ops [⟨(some 23), some undefA, none, false, .pu (.idx 1 (.s 19) (.s 21))⟩,
      ⟨(some 24), some undefA, none, false, .ld (.ld 1 false (.s 23))⟩,
      ⟨(some 7), some undefA, none, false, .pu (.mov (.s 24))⟩])
    (.seq (.ops [⟨(some 26), some undefA, none, false, .pu (.mov (.s 7))⟩,
      ⟨(some 27), some undefA, none, false, .call 70 [(.s 26)]⟩,
      ⟨(some 25), some undefA, none, false, .pu (.mov (.s 27))⟩,
      ⟨(some 28), some undefA, none, false, .pu (.extr 0 (.s 25))⟩,
      ⟨(some 29), some undefA, none, false, .pu (.extr 1 (.s 25))⟩,
      ⟨(some 8), some undefA, none, false, .pu (.mov (.s 28))⟩,
      ⟨(some 9), some undefA, none, false, .pu (.mov (.s 29))⟩])
    (.seq (.ops [⟨(some 30), some undefA, none, false, .pu (.mov (.s 9))⟩,
      ⟨(some 31), some undefA, none, false, .pu (.not (.s 30))⟩,
      ⟨(some 32), some undefA, none, false, .pu (.mov (.s 31))⟩,
      ⟨(some 33), some undefA, (some (32, false)), false, .pu (.mov (.s 7))⟩,
      ⟨(some 34), some undefA, (some (32, false)), false, .pu (.len (.s 33))⟩,
      ⟨(some 35), some undefA, (some (32, false)), false, .pu (.bin .lss (.s 34) (.c (.int .i64 1)))⟩,
      ⟨(some 36), some undefA, none, false, .pu (.pick (.s 32) (.c (.bool true)) (.s 35))⟩,
      ⟨(some 37), some undefA, none, false, .pu (.mov (.s 36))⟩,
      ⟨(some 38), some undefA, (some (37, false)), false, .pu (.mov (.s 7))⟩,
      ⟨(some 39), some undefA, (some (37, false)), false, .pu (.len (.s 38))⟩,
      ⟨(some 40), some undefA, (some (37, false)), false, .pu (.bin .gtr (.s 39) (.c (.int .i64 8)))⟩,
      ⟨(some 41), some undefA, none, false, .pu (.pick (.s 37) (.c (.bool true)) (.s 40))⟩])
    (.cond (.s 41) (.seq (.ops [⟨(some 4), some undefA, none, false, .pu (.mov (.c (.bool false)))⟩,
       ⟨(some 5), some undefA, none, false, .pu (.mov (.c (.int .i64 1)))⟩])
     (.ret))
    (.skip))))))
   (.ops [⟨(some 42), some undefA, none, false, .pu (.bin .add (.s 21) (.c (.int .i64 1)))⟩,
     ⟨(some 21), some undefA, none, false, .pu (.mov (.s 42))⟩])))))))
 (.seq (.ops [⟨(some 44), some undefA, none, false, .pu (.mov (.s 0))⟩,
   ⟨(some 45), some undefA, none, false, .call 70 [(.s 44)]⟩,
   ⟨(some 43), some undefA, none, false, .pu (.mov (.s 45))⟩,
   ⟨(some 46), some undefA, none, false, .pu (.extr 0 (.s 43))⟩,
   ⟨(some 47), some undefA, none, false, .pu (.extr 1 (.s 43))⟩,
   ⟨(some 10), some undefA, none, false, .pu (.mov (.s 46))⟩,
   ⟨(some 11), some undefA, none, false, .pu (.mov (.s 47))⟩])
 (.seq (.ops [⟨(some 49), some undefA, none, false, .pu (.mov (.s 1))⟩,
   ⟨(some 50), some undefA, none, false, .call 70 [(.s 49)]⟩,
   ⟨(some 48), some undefA, none, false, .pu (.mov (.s 50))⟩,
   ⟨(some 51), some undefA, none, false, .pu (.extr 0 (.s 48))⟩,
   ⟨(some 52), some undefA, none, false, .pu (.extr 1 (.s 48))⟩,
   ⟨(some 12), some undefA, none, false, .pu (.mov (.s 51))⟩,
   ⟨(some 13), some undefA, none, false, .pu (.mov (.s 52))⟩])
 (.seq (.ops [⟨(some 53), some undefA, none, false, .pu (.mov (.s 0))⟩,
   ⟨(some 54), some undefA, none, false, .pu (.mov (.s 10))⟩,
   ⟨(some 55), some undefA, none, false, .call 71 [(.s 53), (.s 54)]⟩,
   ⟨(some 56), some undefA, none, false, .pu (.mov (.s 1))⟩,
   ⟨(some 57), some undefA, none, false, .pu (.mov (.s 12))⟩,
   ⟨(some 58), some undefA, none, false, .call 71 [(.s 56), (.s 57)]⟩,
   ⟨(some 14), some undefA, none, false, .pu (.mov (.s 55))⟩,
   ⟨(some 15), some undefA, none, false, .pu (.mov (.s 58))⟩])
 (.seq (.seq (.ops [⟨(some 59), some undefA, none, false, .pu (.mov (.s 14))⟩,
   ⟨(some 60), some undefA, none, false, .pu (.len (.s 59))⟩,
   ⟨(some 61), some undefA, none, false, .pu (.mov (.s 15))⟩,
   ⟨(some 62), some undefA, none, false, .pu (.len (.s 61))⟩,
   ⟨(some 63), some undefA, none, false, .pu (.bin .neq (.s 60) (.s 62))⟩,
   ⟨(some 64), some undefA, none, false, .pu (.mov (.s 63))⟩,
   ⟨(some 65), some undefA, (some (64, false)), false, .pu (.mov (.s 14))⟩,
   ⟨(some 66), some undefA, (some (64, false)), false, .call 54 [(.s 65)]⟩,
   ⟨(some 67), some undefA, (some (64, false)), false, .pu (.mov (.s 12))⟩,
   ⟨(some 68), some undefA, (some (64, false)), false, .pu (.bin .mul (.s 66) (.s 67))⟩,
   ⟨(some 69), some undefA, (some (64, false)), false, .pu (.mov (.s 15))⟩,
   ⟨(some 70), some undefA, (some (64, false)), false, .call 54 [(.s 69)]⟩,
   ⟨(some 71), some undefA, (some (64, false)), false, .pu (.mov (.s 10))⟩,
   ⟨(some 72), some undefA, (some (64, false)), false, .pu (.bin .mul (.s 70) (.s 71))⟩,
   ⟨(some 73), some undefA, (some (64, false)), false, .pu (.bin .neq (.s 68) (.s 72))⟩,
   ⟨(some 74), some undefA, none, false, .pu (.pick (.s 64) (.c (.bool true)) (.s 73))⟩])
 (.cond (.s 74) (.seq (.ops [⟨(some 4), some undefA, none, false, .pu (.mov (.c (.bool false)))⟩,
    ⟨(some 5), some undefA, none, false, .pu (.mov (.c (.int .i64 5)))⟩])
  (.ret))
 (.skip)))
 (.seq (.ops [⟨(some 75), some undefA, none, false, .pu (.mov (.s 14))⟩,
   ⟨(some 76), some undefA, none, false, .call 72 [(.s 75)]⟩])
 (.seq (.ops [⟨(some 77), some undefA, none, false, .pu (.mov (.s 15))⟩,
   ⟨(some 78), some undefA, none, false, .call 72 [(.s 77)]⟩])
 (.seq (.seq (.ops [⟨(some 79), some undefA, none, false, .pu (.mov (.s 14))⟩,
   ⟨(some 80), some undefA, none, false, .pu (.len (.s 79))⟩,
   ⟨(some 81), some undefA, none, false, .pu (.mov (.c (.int .i64 0)))⟩])
 (.block 2 (.loop (.seq (.ops [⟨(some 82), some undefA, none, false, .pu (.bin .lss (.s 81) (.s 80))⟩])
   (.seq (.cond (.s 82) (.skip)
   (.exit 2))
   (.seq (.block 3 (.seq (.ops [⟨(some 83), some undefA, none, false, .pu (.mov (.s 81))⟩,
      ⟨(some 16), some undefA, none, false, .pu (.mov (.s 83))⟩])
    (.seq (.ops [⟨(some 84), some undefA, none, false, .pu (.mov (.s 14))⟩,
      ⟨(some 85), some undefA, none, false, .pu (.mov (.s 16))⟩,
      ⟨(some 86), some undefA, none, false, .pu (.slc 1 (.s 84) none (some (.s 85)) none)⟩,
      ⟨(some 87), some undefA, none, false, .call 54 [(.s 86)]⟩,
      ⟨(some 88), some undefA, none, false, .pu (.mov (.s 12))⟩,
      ⟨(some 89), some undefA, none, false, .pu (.bin .mul (.s 87) (.s 88))⟩,
      ⟨(some 90), some undefA, none, false, .pu (.mov (.s 15))⟩,
      ⟨(some 91), some undefA, none, false, .pu (.mov (.s 16))⟩,
      ⟨(some 92), some undefA, none, false, .pu (.slc 1 (.s 90) none (some (.s 91)) none)⟩,
      ⟨(some 93), some undefA, none, false, .call 54 [(.s 92)]⟩,
      ⟨(some 94), some undefA, none, false, .pu (.mov (.s 10))⟩,
      ⟨(some 95), some undefA, none, false, .pu (.bin .mul (.s 93) (.s 94))⟩,
      ⟨(some 96), some undefA, none, false, .pu (.bin .lss (.s 89) (.s 95))⟩])
    (.cond (.s 96) (.seq (.ops [⟨(some 4), some undefA, none, false, .pu (.mov (.c (.bool false)))⟩,
       ⟨(some 5), some undefA, none, false, .pu (.mov (.c (.int .i64 0)))⟩])
     (.ret))
    (.skip)))))
   (.ops [⟨(some 97), some undefA, none, false, .pu (.bin .add (.s 81) (.c (.int .i64 1)))⟩,
     ⟨(some 81), some undefA, none, false, .pu (.mov (.s 97))⟩])))))))
 (.seq (.ops [⟨(some 4), some undefA, none, false, .pu (.mov (.c (.bool true)))⟩,
   ⟨(some 5), some undefA, none, false, .pu (.mov (.c (.int .i64 0)))⟩])
 (.ret))))))))))⟩
theorem t39 : trF Try.prog [] [] Try.f39 = some m39 := by kernel_rfl
/-- selion/selionref03.MoreEqual [loop [6, 7, 8, 9, 10]] -/
def m40 : MFun := ⟨78, [], [.mov (.s 4), .mov (.s 5)],
 .seq (.ops [⟨(some 4), some undefA, none, false, .pu (.mov (.c (.bool false)))⟩,
   ⟨(some 5), some undefA, none, false, .pu (.mov (.c (.int .i64 0)))⟩])
 (.seq (.seq (.ops [⟨(some 11), some undefA, none, false, .pu (.mov (.s 0))⟩,
   ⟨(some 12), some undefA, none, false, .pu (.len (.s 11))⟩,
   ⟨(some 13), some undefA, none, false, .call 60 [(.s 12), (.c (.int .i64 1)), (.c (.int .i64 8))]⟩,
   ⟨(some 14), some undefA, none, false, .pu (.not (.s 13))⟩,
   ⟨(some 15), some undefA, none, false, .pu (.mov (.s 14))⟩,
   ⟨(some 16), some undefA, (some (15, false)), false, .pu (.mov (.s 1))⟩,
   ⟨(some 17), some undefA, (some (15, false)), false, .pu (.len (.s 16))⟩,
   ⟨(some 18), some undefA, (some (15, false)), false, .call 60 [(.s 17), (.c (.int .i64 1)), (.c (.int .i64 8))]⟩,
   ⟨(some 19), some undefA, (some (15, false)), false, .pu (.not (.s 18))⟩,
   ⟨(some 20), some undefA, none, false, .pu (.pick (.s 15) (.c (.bool true)) (.s 19))⟩,
   ⟨(some 21), some undefA, none, false, .pu (.mov (.s 20))⟩,
   ⟨(some 22), some undefA, (some (21, false)), false, .pu (.mov (.s 0))⟩,
   ⟨(some 23), some undefA, (some (21, false)), false, .call 56 [(.s 22)]⟩,
   ⟨(some 24), some undefA, (some (21, false)), false, .pu (.bin .eql (.s 23) (.c (.int .i64 0)))⟩,
   ⟨(some 25), some undefA, none, false, .pu (.pick (.s 21) (.c (.bool true)) (.s 24))⟩,
   ⟨(some 26), some undefA, none, false, .pu (.mov (.s 25))⟩,
   ⟨(some 27), some undefA, (some (26, false)), false, .pu (.mov (.s 1))⟩,
   ⟨(some 28), some undefA, (some (26, false)), false, .call 56 [(.s 27)]⟩,
   ⟨(some 29), some undefA, (some (26, false)), false, .pu (.bin .eql (.s 28) (.c (.int .i64 0)))⟩,
   ⟨(some 30), some undefA, none, false, .pu (.pick (.s 26) (.c (.bool true)) (.s 29))⟩])
 (.cond (.s 30) (.seq (.ops [⟨(some 4), some undefA, none, false, .pu (.mov (.c (.bool false)))⟩,
    ⟨(some 5), some undefA, none, false, .pu (.mov (.c (.int .i64 1)))⟩])
  (.ret))
 (.skip)))
 (.seq (.ops [⟨(some 31), some undefA, none, false, .pu (.mov (.s 0))⟩,
   ⟨(some 32), some undefA, none, false, .call 56 [(.s 31)]⟩,
   ⟨(some 33), some undefA, none, false, .pu (.mov (.s 1))⟩,
   ⟨(some 34), some undefA, none, false, .call 56 [(.s 33)]⟩,
   ⟨(some 6), some undefA, none, false, .pu (.mov (.s 32))⟩,
   ⟨(some 7), some undefA, none, false, .pu (.mov (.s 34))⟩])
 (.seq (.ops [⟨(some 35), some undefA, none, false, .pu (.mov (.s 0))⟩,
   ⟨(some 36), some undefA, none, false, .pu (.mov (.s 6))⟩,
   ⟨(some 37), some undefA, none, false, .call 74 [(.s 35), (.s 36)]⟩,
   ⟨(some 38), some undefA, none, false, .call 73 [(.s 37)]⟩,
   ⟨(some 39), some undefA, none, false, .pu (.mov (.s 1))⟩,
   ⟨(some 40), some undefA, none, false, .pu (.mov (.s 7))⟩,
   ⟨(some 41), some undefA, none, false, .call 74 [(.s 39), (.s 40)]⟩,
   ⟨(some 42), some undefA, none, false, .call 73 [(.s 41)]⟩,
   ⟨(some 8), some undefA, none, false, .pu (.mov (.s 38))⟩,
   ⟨(some 9), some undefA, none, false, .pu (.mov (.s 42))⟩])
 (.seq (.seq (.ops [⟨(some 43), some undefA, none, false, .pu (.mov (.s 8))⟩,
   ⟨(some 44), some undefA, none, false, .pu (.len (.s 43))⟩,
   ⟨(some 45), some undefA, none, false, .pu (.mov (.s 9))⟩,
   ⟨(some 46), some undefA, none, false, .pu (.len (.s 45))⟩,
   ⟨(some 47), some undefA, none, false, .pu (.bin .neq (.s 44) (.s 46))⟩,
   ⟨(some 48), some undefA, none, false, .pu (.mov (.s 47))⟩,
   ⟨(some 49), some undefA, (some (48, false)), false, .pu (.mov (.s 8))⟩,
   ⟨(some 50), some undefA, (some (48, false)), false, .call 27 [(.s 49)]⟩,
   ⟨(some 51), some undefA, (some (48, false)), false, .pu (.mov (.s 7))⟩,
   ⟨(some 52), some undefA, (some (48, false)), false, .pu (.bin .mul (.s 50) (.s 51))⟩,
   ⟨(some 53), some undefA, (some (48, false)), false, .pu (.mov (.s 9))⟩,
   ⟨(some 54), some undefA, (some (48, false)), false, .call 27 [(.s 53)]⟩,
   ⟨(some 55), some undefA, (some (48, false)), false, .pu (.mov (.s 6))⟩,
   ⟨(some 56), some undefA, (some (48, false)), false, .pu (.bin .mul (.s 54) (.s 55))⟩,
   ⟨(some 57), some undefA, (some (48, false)), false, .pu (.bin .neq (.s 52) (.s 56))⟩,
   ⟨(some 58), some undefA, none, false, .pu (.pick (.s 48) (.c (.bool true)) (.s 57))⟩])
 (.cond (.s 58) (.seq (.ops [⟨(some 4), some undefA, none, false, .pu (.mov (.c (.bool false)))⟩,
    ⟨(some 5), some undefA, none, false, .pu (.mov (.c (.int .i64 5)))⟩])
  (.ret))
 (.skip)))
 (.seq (.seq (.ops [⟨(some 10), some undefA, none, false, .pu (.mov (.c (.int .i64 0)))⟩])
 (.block 0 (.loop (.seq (.seq (.ops [⟨(some 59), some undefA, none, false, .pu (.mov (.s 10))⟩,
     ⟨(some 60), some undefA, none, false, .pu (.mov (.s 8))⟩,
     ⟨(some 61), some undefA, none, false, .pu (.len (.s 60))⟩,
     ⟨(some 62), some undefA, none, false, .pu (.bin .lss (.s 59) (.s 61))⟩])
   (.cond (.s 62) (.skip)
   (.exit 0)))
   (.seq (.block 1 (.seq (.ops [⟨(some 65), some undefA, none, false, .pu (.mov (.s 8))⟩,
      ⟨(some 66), some undefA, none, false, .pu (.mov (.s 10))⟩,
      ⟨(some 67), some undefA, none, false, .pu (.slc 1 (.s 65) none (some (.s 66)) none)⟩,
      ⟨(some 68), some undefA, none, false, .call 27 [(.s 67)]⟩,
      ⟨(some 69), some undefA, none, false, .pu (.mov (.s 7))⟩,
      ⟨(some 70), some undefA, none, false, .pu (.bin .mul (.s 68) (.s 69))⟩,
      ⟨(some 71), some undefA, none, false, .pu (.mov (.s 9))⟩,
      ⟨(some 72), some undefA, none, false, .pu (.mov (.s 10))⟩,
      ⟨(some 73), some undefA, none, false, .pu (.slc 1 (.s 71) none (some (.s 72)) none)⟩,
      ⟨(some 74), some undefA, none, false, .call 27 [(.s 73)]⟩,
      ⟨(some 75), some undefA, none, false, .pu (.mov (.s 6))⟩,
      ⟨(some 76), some undefA, none, false, .pu (.bin .mul (.s 74) (.s 75))⟩,
      ⟨(some 77), some undefA, none, false, .pu (.bin .lss (.s 70) (.s 76))⟩])
    (.cond (.s 77) (.seq (.ops [⟨(some 4), some undefA, none, false, .pu (.mov (.c (.bool false)))⟩,
       ⟨(some 5), some undefA, none, false, .pu (.mov (.c (.int .i64 0)))⟩])
     (.ret))
    (.skip))))
   (.ops [⟨(some 63), some undefA, none, false, .pu (.mov (.s 10))⟩,
     ⟨(some 64), some undefA, none, false, .pu (.bin .add (.s 63) (.c (.int .i64 1)))⟩,
     ⟨(some 10), some undefA, none, false, .pu (.mov (.s 64))⟩]))))))
 (.seq (.ops [⟨(some 4), some undefA, none, false, .pu (.mov (.c (.bool true)))⟩,
   ⟨(some 5), some undefA, none, false, .pu (.mov (.c (.int .i64 0)))⟩])
 (.ret)))))))⟩
theorem t40 : trF Try.prog [] [] Try.f40 = some m40 := by kernel_rfl
/-- selion/selionref03.Common [loop [0, 3, 4]] -/
def m56 : MFun := ⟨59, [], [.mov (.s 2)],
 .seq (.ops [⟨(some 2), some undefA, none, false, .pu (.mov (.c (.int .i64 0)))⟩])
 (.seq (.ops [⟨(some 3), some undefA, none, false, .pu (.mov (.c (.int .i64 1)))⟩])
 (.seq (.seq (.ops [⟨(some 4), some undefA, none, false, .pu (.mov (.c (.int .i64 0)))⟩])
 (.block 0 (.loop (.seq (.seq (.ops [⟨(some 5), some undefA, none, false, .pu (.mov (.s 4))⟩,
     ⟨(some 6), some undefA, none, false, .pu (.mov (.s 0))⟩,
     ⟨(some 7), some undefA, none, false, .pu (.len (.s 6))⟩,
     ⟨(some 8), some undefA, none, false, .pu (.bin .lss (.s 5) (.s 7))⟩])
   (.cond (.s 8) (.skip)
   (.exit 0)))
   (.seq (.block 1 (.seq (.seq (.ops [⟨(some 11), some undefA, none, false, .pu (.mov (.s 0))⟩,
      ⟨(some 12), some undefA, none, false, .pu (.mov (.s 4))⟩,
      ⟨(some 13), some undefA, none, false, .pu (.idx 2 (.s 11) (.s 12))⟩,
      ⟨(some 14), some undefA, none, false, .pu (.fad 1 (.s 13))⟩,
      ⟨(some 15), some undefA, none, true, .ld (.ld 1 false (.s 14))⟩,
      ⟨(some 16), some undefA, none, false, .call 60 [(.s 15), (.c (.int .i64 1)), (.c (.int .i64 10000))]⟩,
      ⟨(some 17), some undefA, none, false, .pu (.not (.s 16))⟩,
      ⟨(some 18), some undefA, none, false, .pu (.mov (.s 17))⟩,
      ⟨(some 19), some undefA, (some (18, false)), false, .pu (.mov (.s 0))⟩,
      ⟨(some 20), some undefA, (some (18, false)), false, .pu (.mov (.s 4))⟩,
      ⟨(some 21), some undefA, (some (18, false)), false, .pu (.idx 2 (.s 19) (.s 20))⟩,
      ⟨(some 22), some undefA, (some (18, false)), false, .pu (.fad 0 (.s 21))⟩,
      ⟨(some 23), some undefA, (some (18, false)), true, .ld (.ld 1 false (.s 22))⟩,
      ⟨(some 24), some undefA, (some (18, false)), false, .call 60 [(.s 23), (.c (.int .i64 0)), (.c (.int .i64 10000000))]⟩,
      ⟨(some 25), some undefA, (some (18, false)), false, .pu (.not (.s 24))⟩,
      ⟨(some 26), some undefA, none, false, .pu (.pick (.s 18) (.c (.bool true)) (.s 25))⟩,
      ⟨(some 27), some undefA, none, false, .pu (.mov (.s 26))⟩,
      ⟨(some 28), some undefA, (some (27, false)), true, .pu (.mov (.s 0))⟩,
      ⟨(some 29), some undefA, (some (27, false)), true, .pu (.mov (.s 4))⟩,
      ⟨(some 30), some undefA, (some (27, false)), true, .pu (.idx 2 (.s 28) (.s 29))⟩,
      ⟨(some 31), some undefA, (some (27, false)), true, .pu (.fad 0 (.s 30))⟩,
      ⟨(some 32), some undefA, (some (27, false)), true, .ld (.ld 1 false (.s 31))⟩,
      ⟨(some 33), some undefA, (some (27, false)), true, .pu (.mov (.s 0))⟩,
      ⟨(some 34), some undefA, (some (27, false)), true, .pu (.mov (.s 4))⟩,
      ⟨(some 35), some undefA, (some (27, false)), true, .pu (.idx 2 (.s 33) (.s 34))⟩,
      ⟨(some 36), some undefA, (some (27, false)), true, .pu (.fad 1 (.s 35))⟩,
      ⟨(some 37), some undefA, (some (27, false)), true, .ld (.ld 1 false (.s 36))⟩,
      ⟨(some 38), some undefA, (some (27, false)), false, .call 80 [(.s 32), (.s 37)]⟩,
      ⟨(some 39), some undefA, (some (27, false)), false, .pu (.bin .neq (.s 38) (.c (.int .i64 1)))⟩,
      ⟨(some 40), some undefA, none, false, .pu (.pick (.s 27) (.c (.bool true)) (.s 39))⟩])
    (.cond (.s 40) (.seq (.ops [⟨(some 2), some undefA, none, false, .pu (.mov (.c (.int .i64 0)))⟩])
     (.ret))
    (.skip)))
    (.seq (.ops [⟨(some 41), some undefA, none, true, .pu (.mov (.s 3))⟩,
      ⟨(some 42), some undefA, none, true, .pu (.mov (.s 3))⟩,
      ⟨(some 43), some undefA, none, true, .pu (.mov (.s 0))⟩,
      ⟨(some 44), some undefA, none, true, .pu (.mov (.s 4))⟩,
      ⟨(some 45), some undefA, none, true, .pu (.idx 2 (.s 43) (.s 44))⟩,
      ⟨(some 46), some undefA, none, true, .pu (.fad 1 (.s 45))⟩,
      ⟨(some 47), some undefA, none, true, .ld (.ld 1 false (.s 46))⟩,
      ⟨(some 48), some undefA, none, true, .call 80 [(.s 42), (.s 47)]⟩,
      ⟨(some 49), some undefA, none, true, .pu (.bin .quo (.s 41) (.s 48))⟩,
      ⟨(some 50), some undefA, none, true, .pu (.mov (.s 0))⟩,
      ⟨(some 51), some undefA, none, true, .pu (.mov (.s 4))⟩,
      ⟨(some 52), some undefA, none, true, .pu (.idx 2 (.s 50) (.s 51))⟩,
      ⟨(some 53), some undefA, none, true, .pu (.fad 1 (.s 52))⟩,
      ⟨(some 54), some undefA, none, true, .ld (.ld 1 false (.s 53))⟩,
      ⟨(some 55), some undefA, none, false, .pu (.bin .mul (.s 49) (.s 54))⟩,
      ⟨(some 3), some undefA, none, false, .pu (.mov (.s 55))⟩])
    (.seq (.ops [⟨(some 56), some undefA, none, false, .pu (.mov (.s 3))⟩,
      ⟨(some 57), some undefA, none, false, .pu (.bin .gtr (.s 56) (.c (.int .i64 10000)))⟩])
    (.cond (.s 57) (.seq (.ops [⟨(some 2), some undefA, none, false, .pu (.mov (.c (.int .i64 0)))⟩])
     (.ret))
    (.skip))))))
   (.ops [⟨(some 9), some undefA, none, false, .pu (.mov (.s 4))⟩,
     ⟨(some 10), some undefA, none, false, .pu (.bin .add (.s 9) (.c (.int .i64 1)))⟩,
     ⟨(some 4), some undefA, none, false, .pu (.mov (.s 10))⟩]))))))
 (.seq (.ops [⟨(some 58), some undefA, none, false, .pu (.mov (.s 3))⟩,
   ⟨(some 2), some undefA, none, false, .pu (.mov (.s 58))⟩])
 (.ret))))⟩
theorem t56 : trF Try.prog [] [] Try.f56 = some m56 := by kernel_rfl
/-- selion/selionref01.Within [] -/
def m60 : MFun := ⟨15, [], [.mov (.s 6)],
 .seq (.ops [⟨(some 6), some undefA, none, false, .pu (.mov (.c (.bool false)))⟩])
 (.seq (.ops [⟨(some 7), some undefA, none, false, .pu (.mov (.s 0))⟩,
   ⟨(some 8), some undefA, none, false, .pu (.mov (.s 1))⟩,
   ⟨(some 9), some undefA, none, false, .pu (.bin .geq (.s 7) (.s 8))⟩,
   ⟨(some 10), some undefA, none, false, .pu (.mov (.s 9))⟩,
   ⟨(some 11), some undefA, (some (10, true)), false, .pu (.mov (.s 0))⟩,
   ⟨(some 12), some undefA, (some (10, true)), false, .pu (.mov (.s 2))⟩,
   ⟨(some 13), some undefA, (some (10, true)), false, .pu (.bin .leq (.s 11) (.s 12))⟩,
   ⟨(some 14), some undefA, none, false, .pu (.pick (.s 10) (.s 13) (.c (.bool false)))⟩,
   ⟨(some 6), some undefA, none, false, .pu (.mov (.s 14))⟩])
 (.ret))⟩
theorem t60 : trF Try.prog [] [] Try.f60 = some m60 := by kernel_rfl
/-- selion/claim.common [loop [4, 7, 8, 9]] -/
def m70 : MFun := ⟨52, [6], [.mov (.s 2), .mov (.s 3)],
 .seq (.ops [⟨(some 2), some undefA, none, false, .pu (.mov (.c (.int .i64 0)))⟩,
   ⟨(some 3), some undefA, none, false, .pu (.mov (.c (.bool false)))⟩])
 (.seq (.ops [⟨(some 4), some undefA, none, false, .pu (.mov (.c (.int .i64 1)))⟩])
 (.seq (.seq (.ops [⟨(some 7), some undefA, none, false, .pu (.mov (.s 0))⟩,
   ⟨(some 8), some undefA, none, false, .pu (.len (.s 7))⟩,
   ⟨(some 9), some undefA, none, false, .pu (.mov (.c (.int .i64 0)))⟩])
 (.block 0 (.loop (.seq (.ops [⟨(some 10), some undefA, none, false, .pu (.bin .lss (.s 9) (.s 8))⟩])
   (.seq (.cond (.s 10) (.skip)
   (.exit 0))
   (.seq (.block 1 (.seq (.ops [⟨(some 11), some undefA, none, false, .pu (.idx 2 (.s 7) (.s 9))⟩,
      ⟨(some 12), some undefA, none, false, .ld (.ld 2 true (.s 11))⟩,
      ⟨(some 6), some (.junk), none, false, .pu (.bnew (.c (.agg [.int .i64 0, .int .i64 0])))⟩,
      ⟨(some 6), none, none, false, .pu (.bset none 6 0 2 (.s 12))⟩])
    (.seq (.seq (.ops [⟨(some 13), some undefA, none, false, .pu (.badr none 6)⟩,
      ⟨(some 14), some undefA, none, false, .pu (.bget (some 13) 6 1 1 false)⟩,
      ⟨(some 15), some undefA, none, false, .pu (.bin .lss (.s 14) (.c (.int .i64 1)))⟩,
      ⟨(some 16), some undefA, none, false, .pu (.mov (.s 15))⟩,
      ⟨(some 17), some undefA, (some (16, false)), false, .pu (.badr none 6)⟩,
      ⟨(some 18), some undefA, (some (16, false)), false, .pu (.bget (some 17) 6 1 1 false)⟩,
      ⟨(some 19), some undefA, (some (16, false)), false, .pu (.bin .gtr (.s 18) (.c (.int .i64 10000)))⟩,
      ⟨(some 20), some undefA, none, false, .pu (.pick (.s 16) (.c (.bool true)) (.s 19))⟩,
      ⟨(some 21), some undefA, none, false, .pu (.mov (.s 20))⟩,
      ⟨(some 22), some undefA, (some (21, false)), false, .pu (.badr none 6)⟩,
      ⟨(some 23), some undefA, (some (21, false)), false, .pu (.bget (some 22) 6 0 1 false)⟩,
      ⟨(some 24), some undefA, (some (21, false)), false, .pu (.bin .lss (.s 23) (.c (.int .i64 0)))⟩,
      ⟨(some 25), some undefA, none, false, .pu (.pick (.s 21) (.c (.bool true)) (.s 24))⟩,
      ⟨(some 26), some undefA, none, false, .pu (.mov (.s 25))⟩,
      ⟨(some 27), some undefA, (some (26, false)), false, .pu (.badr none 6)⟩,
      ⟨(some 28), some undefA, (some (26, false)), false, .pu (.bget (some 27) 6 0 1 false)⟩,
      ⟨(some 29), some undefA, (some (26, false)), false, .pu (.bin .gtr (.s 28) (.c (.int .i64 10000000)))⟩,
      ⟨(some 30), some undefA, none, false, .pu (.pick (.s 26) (.c (.bool true)) (.s 29))⟩,
      ⟨(some 31), some undefA, none, false, .pu (.mov (.s 30))⟩,
      ⟨(some 32), some undefA, (some (31, false)), false, .pu (.badr none 6)⟩,
      ⟨(some 33), some undefA, (some (31, false)), false, .pu (.bget (some 32) 6 0 1 false)⟩,
      ⟨(some 34), some undefA, (some (31, false)), false, .pu (.badr none 6)⟩,
      ⟨(some 35), some undefA, (some (31, false)), false, .pu (.bget (some 34) 6 1 1 false)⟩,
      ⟨(some 36), some undefA, (some (31, false)), false, .call 82 [(.s 33), (.s 35)]⟩,
      ⟨(some 37), some undefA, (some (31, false)), false, .pu (.bin .neq (.s 36) (.c (.int .i64 1)))⟩,
      ⟨(some 38), some undefA, none, false, .pu (.pick (.s 31) (.c (.bool true)) (.s 37))⟩])
    (.cond (.s 38) (.seq (.ops [⟨(some 2), some undefA, none, false, .pu (.mov (.c (.int .i64 0)))⟩,
       ⟨(some 3), some undefA, none, false, .pu (.mov (.c (.bool false)))⟩])
     (.ret))
    (.skip)))
    (.seq (.ops [⟨(some 39), some undefA, none, false, .pu (.mov (.s 4))⟩,
      ⟨(some 40), some undefA, none, false, .pu (.mov (.s 4))⟩,
      ⟨(some 41), some undefA, none, false, .pu (.badr none 6)⟩,
      ⟨(some 42), some undefA, none, false, .pu (.bget (some 41) 6 1 1 false)⟩,
      ⟨(some 43), some undefA, none, false, .call 82 [(.s 40), (.s 42)]⟩,
      ⟨(some 44), some undefA, none, false, .pu (.bin .quo (.s 39) (.s 43))⟩,
      ⟨(some 45), some undefA, none, false, .pu (.badr none 6)⟩,
      ⟨(some 46), some undefA, none, false, .pu (.bget (some 45) 6 1 1 false)⟩,
      ⟨(some 47), some undefA, none, false, .pu (.bin .mul (.s 44) (.s 46))⟩,
      ⟨(some 4), some undefA, none, false, .pu (.mov (.s 47))⟩])
    (.seq (.ops [⟨(some 48), some undefA, none, false, .pu (.mov (.s 4))⟩,
      ⟨(some 49), some undefA, none, false, .pu (.bin .gtr (.s 48) (.c (.int .i64 10000)))⟩])
    (.cond (.s 49) (.seq (.ops [⟨(some 2), some undefA, none, false, .pu (.mov (.c (.int .i64 0)))⟩,
       ⟨(some 3), some undefA, none, false, .pu (.mov (.c (.bool false)))⟩])
     (.ret))
    (.skip)))))))
   (.ops [⟨(some 50), some undefA, none, false, .pu (.bin .add (.s 9) (.c (.int .i64 1)))⟩,
     ⟨(some 9), some undefA, none, false, .pu (.mov (.s 50))⟩])))))))
 (.seq (.ops [⟨(some 51), some undefA, none, false, .pu (.mov (.s 4))⟩,
   ⟨(some 2), some undefA, none, false, .pu (.mov (.s 51))⟩,
   ⟨(some 3), some undefA, none, false, .pu (.mov (.c (.bool true)))⟩])
 (.ret))))⟩
theorem t70 : trF Try.prog [6] [] Try.f70 = some m70 := by kernel_rfl
/-- selion/claim.over [loop [1, 5, 8, 9, 10]] -/
def m71 : MFun := ⟨26, [7], [.mov (.s 4)],
 .seq (.ops [⟨(some 4), some undefA, none, false, .pu (.mov (.c (.nilS)))⟩])
 (.seq (.ops [⟨(some 5), some undefA, none, false, .pu (.mov (.c (.nilS)))⟩])
 (.seq (.seq (.ops [⟨(some 8), some undefA, none, false, .pu (.mov (.s 0))⟩,
   ⟨(some 9), some undefA, none, false, .pu (.len (.s 8))⟩,
   ⟨(some 10), some undefA, none, false, .pu (.mov (.c (.int .i64 0)))⟩])
 (.block 0 (.loop (.seq (.ops [⟨(some 11), some undefA, none, false, .pu (.bin .lss (.s 10) (.s 9))⟩])
   (.seq (.cond (.s 11) (.skip)
   (.exit 0))
   (.seq (.block 1 (.seq (.ops [⟨(some 12), some undefA, none, false, .pu (.idx 2 (.s 8) (.s 10))⟩,
      ⟨(some 13), some undefA, none, false, .ld (.ld 2 true (.s 12))⟩,
      ⟨(some 7), some (.junk), none, false, .pu (.bnew (.c (.agg [.int .i64 0, .int .i64 0])))⟩,
      ⟨(some 7), none, none, false, .pu (.bset none 7 0 2 (.s 13))⟩])
    (.ops [⟨(some 14), some undefA, none, false, .pu (.mov (.s 5))⟩,
      ⟨(some 15), some undefA, none, false, .pu (.badr none 7)⟩,
      ⟨(some 16), some undefA, none, false, .pu (.bget (some 15) 7 0 1 false)⟩,
      ⟨(some 17), some undefA, none, false, .pu (.mov (.s 1))⟩,
      ⟨(some 18), some undefA, none, false, .pu (.badr none 7)⟩,
      ⟨(some 19), some undefA, none, false, .pu (.bget (some 18) 7 1 1 false)⟩,
      ⟨(some 20), some undefA, none, false, .pu (.bin .quo (.s 17) (.s 19))⟩,
      ⟨(some 21), some undefA, none, false, .pu (.bin .mul (.s 16) (.s 20))⟩,
      ⟨(some 22), some undefA, none, false, .ha (.blds 1 1 [.int .i64 0] [(0, 1, (.s 21))])⟩,
      ⟨(some 23), some undefA, none, false, .ha (.app 1 (.s 14) (.s 22))⟩,
      ⟨(some 5), some undefA, none, false, .pu (.mov (.s 23))⟩])))
   (.ops [⟨(some 24), some undefA, none, false, .pu (.bin .add (.s 10) (.c (.int .i64 1)))⟩,
     ⟨(some 10), some undefA, none, false, .pu (.mov (.s 24))⟩])))))))
 (.seq (.ops [⟨(some 25), some undefA, none, false, .pu (.mov (.s 5))⟩,
   ⟨(some 4), some undefA, none, false, .pu (.mov (.s 25))⟩])
 (.ret))))⟩
theorem t71 : trF Try.prog [7] [] Try.f71 = some m71 := by kernel_rfl
/-- selion/selionref03.sorted [loop [3, 4], loop [3, 4, 5]] -/
def m73 : MFun := ⟨49, [], [.mov (.s 2)],
 .seq (.ops [⟨(some 2), some undefA, none, false, .pu (.mov (.c (.nilS)))⟩])
 (.seq (.ops [⟨(some 6), some undefA, none, false, .ha (.blds 1 0 [.int .i64 0] [])⟩,
   ⟨(some 7), some undefA, none, false, .pu (.mov (.s 0))⟩,
   ⟨(some 8), some undefA, none, false, .ha (.app 1 (.s 6) (.s 7))⟩,
   ⟨(some 3), some undefA, none, false, .pu (.mov (.s 8))⟩])
 (.seq (.seq (.ops [⟨(some 4), some undefA, none, false, .pu (.mov (.c (.int .i64 0)))⟩])
 (.block 0 (.loop (.seq (.seq (.ops [⟨(some 9), some undefA, none, false, .pu (.mov (.s 4))⟩,
     ⟨(some 10), some undefA, none, false, .pu (.mov (.s 3))⟩,
     ⟨(some 11), some undefA, none, false, .pu (.len (.s 10))⟩,
     ⟨(some 12), some undefA, none, false, .pu (.bin .lss (.s 9) (.s 11))⟩])
   (.cond (.s 12) (.skip)
   (.exit 0)))
   (.seq (.block 1 (.seq (.ops [⟨(some 15), some undefA, none, false, .pu (.mov (.s 4))⟩,
      ⟨(some 5), some undefA, none, false, .pu (.mov (.s 15))⟩])
    (.block 2 (.loop (.seq (.seq (.ops [⟨(some 16), some undefA, none, false, .pu (.mov (.s 5))⟩,
        ⟨(some 17), some undefA, none, false, .pu (.bin .gtr (.s 16) (.c (.int .i64 0)))⟩,
        ⟨(some 18), some undefA, none, false, .pu (.mov (.s 17))⟩,
        ⟨(some 19), some undefA, (some (18, true)), true, .pu (.mov (.s 3))⟩,
        ⟨(some 20), some undefA, (some (18, true)), true, .pu (.mov (.s 5))⟩,
        ⟨(some 21), some undefA, (some (18, true)), true, .pu (.idx 1 (.s 19) (.s 20))⟩,
        ⟨(some 22), some undefA, (some (18, true)), true, .ld (.ld 1 false (.s 21))⟩,
        ⟨(some 23), some undefA, (some (18, true)), true, .pu (.mov (.s 3))⟩,
        ⟨(some 24), some undefA, (some (18, true)), true, .pu (.mov (.s 5))⟩,
        ⟨(some 25), some undefA, (some (18, true)), true, .pu (.bin .sub (.s 24) (.c (.int .i64 1)))⟩,
        ⟨(some 26), some undefA, (some (18, true)), true, .pu (.idx 1 (.s 23) (.s 25))⟩,
        ⟨(some 27), some undefA, (some (18, true)), true, .ld (.ld 1 false (.s 26))⟩,
        ⟨(some 28), some undefA, (some (18, true)), false, .pu (.bin .lss (.s 22) (.s 27))⟩,
        ⟨(some 29), some undefA, none, false, .pu (.pick (.s 18) (.s 28) (.c (.bool false)))⟩])
      (.cond (.s 29) (.skip)
      (.exit 2)))
      (.seq (.block 3 (.ops [⟨(some 32), some undefA, none, true, .pu (.mov (.s 3))⟩,
         ⟨(some 33), some undefA, none, true, .pu (.mov (.s 5))⟩,
         ⟨(some 34), some undefA, none, true, .pu (.mov (.s 3))⟩,
         ⟨(some 35), some undefA, none, true, .pu (.mov (.s 5))⟩,
         ⟨(some 36), some undefA, none, true, .pu (.bin .sub (.s 35) (.c (.int .i64 1)))⟩,
         ⟨(some 37), some undefA, none, true, .pu (.mov (.s 3))⟩,
         ⟨(some 38), some undefA, none, true, .pu (.mov (.s 5))⟩,
         ⟨(some 39), some undefA, none, true, .pu (.bin .sub (.s 38) (.c (.int .i64 1)))⟩,
         ⟨(some 40), some undefA, none, true, .pu (.idx 1 (.s 37) (.s 39))⟩,
         ⟨(some 41), some undefA, none, true, .ld (.ld 1 false (.s 40))⟩,
         ⟨(some 42), some undefA, none, true, .pu (.mov (.s 3))⟩,
         ⟨(some 43), some undefA, none, true, .pu (.mov (.s 5))⟩,
         ⟨(some 44), some undefA, none, true, .pu (.idx 1 (.s 42) (.s 43))⟩,
         ⟨(some 45), some undefA, none, true, .ld (.ld 1 false (.s 44))⟩,
         ⟨(some 46), some undefA, none, false, .pu (.idx 1 (.s 32) (.s 33))⟩,
         ⟨none, some undefA, none, false, .ha (.st 1 (.s 46) (.s 41))⟩,
         ⟨(some 47), some undefA, none, false, .pu (.idx 1 (.s 34) (.s 36))⟩,
         ⟨none, some undefA, none, false, .ha (.st 1 (.s 47) (.s 45))⟩]))
      (.ops [⟨(some 30), some undefA, none, false, .pu (.mov (.s 5))⟩,
        ⟨(some 31), some undefA, none, false, .pu (.bin .sub (.s 30) (.c (.int .i64 1)))⟩,
        ⟨(some 5), some undefA, none, false, .pu (.mov (.s 31))⟩])))))))
   (.ops [⟨(some 13), some undefA, none, false, .pu (.mov (.s 4))⟩,
     ⟨(some 14), some undefA, none, false, .pu (.bin .add (.s 13) (.c (.int .i64 1)))⟩,
     ⟨(some 4), some undefA, none, false, .pu (.mov (.s 14))⟩]))))))
 (.seq (.ops [⟨(some 48), some undefA, none, false, .pu (.mov (.s 3))⟩,
   ⟨(some 2), some undefA, none, false, .pu (.mov (.s 48))⟩])
 (.ret))))⟩
theorem t73 : trF Try.prog [] [] Try.f73 = some m73 := by kernel_rfl
/-- selion/selionref03.over [loop [0, 1, 5, 6]] -/
def m74 : MFun := ⟨30, [], [.mov (.s 4)],
 .seq (.ops [⟨(some 4), some undefA, none, false, .pu (.mov (.c (.nilS)))⟩])
 (.seq (.ops [⟨(some 5), some undefA, none, false, .pu (.mov (.c (.nilS)))⟩])
 (.seq (.seq (.ops [⟨(some 6), some undefA, none, false, .pu (.mov (.c (.int .i64 0)))⟩])
 (.block 0 (.loop (.seq (.seq (.ops [⟨(some 7), some undefA, none, false, .pu (.mov (.s 6))⟩,
     ⟨(some 8), some undefA, none, false, .pu (.mov (.s 0))⟩,
     ⟨(some 9), some undefA, none, false, .pu (.len (.s 8))⟩,
     ⟨(some 10), some undefA, none, false, .pu (.bin .lss (.s 7) (.s 9))⟩])
   (.cond (.s 10) (.skip)
   (.exit 0)))
   (.seq (.block 1 (.ops [⟨(some 13), some undefA, none, true, .pu (.mov (.s 5))⟩,
      ⟨(some 14), some undefA, none, true, .pu (.mov (.s 0))⟩,
      ⟨(some 15), some undefA, none, true, .pu (.mov (.s 6))⟩,
      ⟨(some 16), some undefA, none, true, .pu (.idx 2 (.s 14) (.s 15))⟩,
      ⟨(some 17), some undefA, none, true, .pu (.fad 0 (.s 16))⟩,
      ⟨(some 18), some undefA, none, true, .ld (.ld 1 false (.s 17))⟩,
      ⟨(some 19), some undefA, none, true, .pu (.mov (.s 1))⟩,
      ⟨(some 20), some undefA, none, true, .pu (.mov (.s 0))⟩,
      ⟨(some 21), some undefA, none, true, .pu (.mov (.s 6))⟩,
      ⟨(some 22), some undefA, none, true, .pu (.idx 2 (.s 20) (.s 21))⟩,
      ⟨(some 23), some undefA, none, true, .pu (.fad 1 (.s 22))⟩,
      ⟨(some 24), some undefA, none, true, .ld (.ld 1 false (.s 23))⟩,
      ⟨(some 25), some undefA, none, true, .pu (.bin .quo (.s 19) (.s 24))⟩,
      ⟨(some 26), some undefA, none, false, .pu (.bin .mul (.s 18) (.s 25))⟩,
      ⟨(some 27), some undefA, none, false, .ha (.blds 1 1 [.int .i64 0] [(0, 1, (.s 26))])⟩,
      ⟨(some 28), some undefA, none, false, .ha (.app 1 (.s 13) (.s 27))⟩,
      ⟨(some 5), some undefA, none, false, .pu (.mov (.s 28))⟩]))
   (.ops [⟨(some 11), some undefA, none, false, .pu (.mov (.s 6))⟩,
     ⟨(some 12), some undefA, none, false, .pu (.bin .add (.s 11) (.c (.int .i64 1)))⟩,
     ⟨(some 6), some undefA, none, false, .pu (.mov (.s 12))⟩]))))))
 (.seq (.ops [⟨(some 29), some undefA, none, false, .pu (.mov (.s 5))⟩,
   ⟨(some 4), some undefA, none, false, .pu (.mov (.s 29))⟩])
 (.ret))))⟩
theorem t74 : trF Try.prog [] [] Try.f74 = some m74 := by kernel_rfl
/-- selion/selionref03.gcd [loop [0, 1]] -/
def m80 : MFun := ⟨14, [], [.mov (.s 4)],
 .seq (.ops [⟨(some 4), some undefA, none, false, .pu (.mov (.c (.int .i64 0)))⟩])
 (.seq (.block 0 (.loop (.seq (.seq (.ops [⟨(some 6), some undefA, none, false, .pu (.mov (.s 1))⟩,
     ⟨(some 7), some undefA, none, false, .pu (.bin .neq (.s 6) (.c (.int .i64 0)))⟩])
   (.cond (.s 7) (.skip)
   (.exit 0)))
   (.block 1 (.seq (.ops [⟨(some 8), some undefA, none, false, .pu (.mov (.s 0))⟩,
      ⟨(some 9), some undefA, none, false, .pu (.mov (.s 1))⟩,
      ⟨(some 10), some undefA, none, false, .pu (.bin .rem (.s 8) (.s 9))⟩,
      ⟨(some 5), some undefA, none, false, .pu (.mov (.s 10))⟩])
    (.seq (.ops [⟨(some 11), some undefA, none, false, .pu (.mov (.s 1))⟩,
      ⟨(some 0), some undefA, none, false, .pu (.mov (.s 11))⟩])
    (.ops [⟨(some 12), some undefA, none, false, .pu (.mov (.s 5))⟩,
      ⟨(some 1), some undefA, none, false, .pu (.mov (.s 12))⟩])))))))
 (.seq (.ops [⟨(some 13), some undefA, none, false, .pu (.mov (.s 0))⟩,
   ⟨(some 4), some undefA, none, false, .pu (.mov (.s 13))⟩])
 (.ret)))⟩
theorem t80 : trF Try.prog [] [] Try.f80 = some m80 := by kernel_rfl
end Go.Proofs.Ytdcdjhhjlpegjaa

namespace Go.Eng
open Go
section
variable {P : Program} {α : Type}
end
end Go.Eng

namespace Go.Proofs.Ytdcdjhhjlpegjaa
open Go Go.Eng
section
variable {α : Type} {es : Nat} {e : α → List AV} {A H : AHeap} {v : AV} {xs : List α}
end
/-- What is appended to an empty list that has just been made. -/
theorem app_new {α : Type} {es : Nat} {e : α → List AV} {A : AHeap} {y : AV} {ys : List α} (hy : Ls es e A y ys) (hl : ys.length ≤ lim) :
    ∃ v' n H2, appA es (A ++ [.cells true []]) (.sl es A.length 0 0 true) y = some (v', H2) ∧ OL es e A H2 n v' ys := by
  have hc := (hy.mono (pre_app A [.cells true []])).hc
  by_cases h0 : ys.length = 0
  · have : ys = [] := List.eq_nil_of_length_eq_zero h0
    subst this
    refine ⟨.sl es A.length 0 0 true, A.length, A ++ [.cells true []], ?_, hy.he, pre_app _ _, Nat.le_refl _, by simp, true, rfl⟩
    unfold appA
    rw [hc]
    simp
  · refine ⟨.sl es (A ++ [AObj.cells true []]).length 0 ys.length false, (A ++ [AObj.cells true []]).length, A ++ [AObj.cells true []] ++ [.cells true (ys.flatMap e)], ?_, hy.he, (pre_app A _).trans (pre_app _ _), by simp, by simp, false, rfl⟩
    unfold appA
    rw [hc]
    simp [h0, hl]
theorem set_same {α : Type} {l : List α} {n : Nat} {x : α} (h : l[n]? = some x) : l.set n x = l := by
  have hlt := (List.getElem?_eq_some_iff.1 h).1
  have hx := (List.getElem?_eq_some_iff.1 h).2
  rw [← hx]
  exact List.set_getElem_self hlt
end Go.Proofs.Ytdcdjhhjlpegjaa

namespace Go.Proofs.Ytdcdjhhjlpegjaa
open Go Go.Eng
theorem c_wi (n lo hi : Int) (A : AHeap) : ACalls Try.prog 60 [I n, I lo, I hi] A (B (decide (lo ≤ n ∧ n ≤ hi))) A := by
  refine acalls hmix Try.func60 (by kernel_rfl) t60 3 rfl (by decide) ?_
  by_cases h : lo ≤ n
  · dsimp only [m60]
    simp (maxSteps := 4000000) -implicitDefEqProofs -dsimp (disch := omega) only [↓AW_ops, ↓AW_seq, ↓AW_ret, ↓AOps_nil, ↓AOps_pu, ↓AOps_guard, on_some, guardB_tt, ↓then_normal, ↓Fin_ret, pval, rd_S, rd_C, put_S, resV, resL, eq_self, List.replicate_succ, List.replicate_zero, List.set_cons_zero, List.set_cons_succ, List.getElem?_cons_zero, List.getElem?_cons_succ, Option.getD_some, Nat.reduceSub, List.cons_append, List.nil_append, bin_leq, bin_geq, if_true, decide_true, true_and, h]
    exact gc_same rfl
  · dsimp only [m60]
    simp (maxSteps := 4000000) -implicitDefEqProofs -dsimp (disch := omega) only [↓AW_ops, ↓AW_seq, ↓AW_ret, ↓AOps_nil, ↓AOps_pu, ↓AOps_guard, on_some, guardB_ft, skipS_some, ↓then_normal, ↓Fin_ret, pval, rd_S, rd_C, put_S, resV, resL, List.replicate_succ, List.replicate_zero, List.set_cons_zero, List.set_cons_succ, List.getElem?_cons_zero, List.getElem?_cons_succ, Option.getD_some, Nat.reduceSub, List.cons_append, List.nil_append, bin_geq, if_false, Bool.false_eq_true, decide_false, h]
    exact gc_same rfl
theorem take_sum {us : List Int} {k : Nat} {u : Int} (h : us[k]? = some u) : (us.take (k + 1)).sum = (us.take k).sum + u := by
  rw [List.take_add_one, h]
  simp
theorem sum_bd {K : Int} : ∀ {l : List Int}, (∀ x ∈ l, -K ≤ x ∧ x ≤ K) → -(K * l.length) ≤ l.sum ∧ l.sum ≤ K * l.length
  | [], _ => by simp
  | x :: l, h => by
    have ih := sum_bd (fun y hy => h y (List.mem_cons_of_mem x hy))
    have hx := h x (by simp)
    simp only [List.sum_cons, List.length_cons, Int.natCast_add, Int.cast_ofNat_Int, Int.mul_add, Int.mul_one]
    omega
theorem sum_bd0 {K : Int} : ∀ {l : List Int}, (∀ x ∈ l, 0 ≤ x ∧ x ≤ K) → 0 ≤ l.sum ∧ l.sum ≤ K * l.length
  | [], _ => by simp
  | x :: l, h => by
    have ih := sum_bd0 (fun y hy => h y (List.mem_cons_of_mem x hy))
    have hx := h x (by simp)
    simp only [List.sum_cons, List.length_cons, Int.natCast_add, Int.cast_ofNat_Int, Int.mul_add, Int.mul_one]
    omega
theorem sum_w {l : List Int} (hl : l.length ≤ 1000000) (h : ∀ x ∈ l, -1000000000000 ≤ x ∧ x ≤ 1000000000000) (i : Nat) : -1000000000000000000 ≤ (l.take i).sum ∧ (l.take i).sum ≤ 1000000000000000000 := by
  have := sum_bd (K := 1000000000000) (l := l.take i) (fun x hx => h x (List.mem_of_mem_take hx))
  have h2 : (l.take i).length ≤ 1000000 := by rw [List.length_take]; omega
  omega
theorem c_total {xs : List Int} {v : AV} {A : AHeap} (hx : L1 A v xs) (hl : xs.length ≤ 1000000) (hb : ∀ x ∈ xs, -1000000000000 ≤ x ∧ x ≤ 1000000000000) : ACalls Try.prog 54 [v] A (I xs.sum) A := by
  refine acalls hmix Try.func54 (by kernel_rfl) t54 1 rfl (by decide) ?_
  dsimp only [m54]
  simp (maxSteps := 4000000) -implicitDefEqProofs -dsimp (disch := omega) only [↓AW_ops, ↓AW_seq, ↓AW_block, ↓AOps_nil, ↓AOps_pu, on_some, ↓then_normal, pval, rd_S, rd_C, put_S, ↓AW_toLoop, List.replicate_succ, List.replicate_zero, List.set_cons_zero, List.set_cons_succ, List.getElem?_cons_zero, List.getElem?_cons_succ, Option.getD_some, Nat.reduceSub, List.cons_append, List.nil_append, hx.len]
  refine LoopK.by 17 (fun i : Nat => i ≤ xs.length) (fun i => [(3, I (xs.take i).sum), (6, v), (7, I xs.length), (8, I i)]) (fun _ => A) (fun i => xs.length - i) 0 (by omega) rfl (by simp [Has, rd_s]) rfl ?_
  intro i hi
  by_cases hlt : i < xs.length
  · obtain ⟨z, hz⟩ : ∃ z, xs[i]? = some z := ⟨_, List.getElem?_eq_getElem hlt⟩
    have hlt' : (i : Int) < xs.length := by omega
    have h1 := sum_w hl hb i
    have h2 := hb z (List.mem_of_getElem? hz)
    simp (maxSteps := 4000000) -implicitDefEqProofs -dsimp (disch := omega) only [↓AW_skip, ↓AW_ops, ↓AW_seq, ↓AW_cond, ↓AW_block, ↓AOps_nil, ↓AOps_pu, ↓AOps_ld, on_some, condB_t, ↓then_normal, ↓inBlock_normal, pval, lval, rd_S, rd_C, put_S, partA, eq_self, mk, List.foldl_cons, List.foldl_nil, List.replicate_succ, List.replicate_zero, List.set_cons_zero, List.set_cons_succ, List.getElem?_cons_zero, List.getElem?_cons_succ, List.drop_zero, List.take_succ_cons, List.take_nil, Option.getD_some, List.length_cons, List.length_nil, Nat.reduceAdd, Nat.reduceLeDiff, Nat.zero_add, bin_add, bin_lss, w64, if_true, if_false, Bool.false_eq_true, decide_true, Go.Eng.e1, true_and, hlt', hx.idx hlt, hx.ld0 hz 1 false (by decide)]
    exact ⟨i + 1, hlt, by simp [Has, rd_s, take_sum hz], by omega⟩
  · have hlt' : ¬ ((i : Int) < xs.length) := by omega
    simp (maxSteps := 4000000) -implicitDefEqProofs -dsimp (disch := omega) only [↓AW_ops, ↓AW_seq, ↓AW_cond, ↓AW_exit, ↓AW_ret, ↓AOps_nil, ↓AOps_pu, on_some, condB_f, ↓then_normal, ↓then_exit, ↓inBlock_exit, ↓Fin_ret, pval, rd_S, put_S, resV, resL, eq_self, mk, List.foldl_cons, List.foldl_nil, List.replicate_succ, List.replicate_zero, List.set_cons_zero, List.set_cons_succ, List.getElem?_cons_zero, List.getElem?_cons_succ, Option.getD_some, bin_lss, if_true, decide_false, hlt']
    rw [List.take_of_length_le (by omega)]
    exact gc_same rfl
theorem c_Sum {xs : List Int} {v : AV} {A : AHeap} (hx : L1 A v xs) (hl : xs.length ≤ 1000000) (hb : ∀ x ∈ xs, -1000000000000 ≤ x ∧ x ≤ 1000000000000) : ACalls Try.prog 27 [v] A (I xs.sum) A := by
  refine acalls hmix Try.func27 (by kernel_rfl) t27 1 rfl (by decide) ?_
  dsimp only [m27]
  simp (maxSteps := 4000000) -implicitDefEqProofs -dsimp (disch := omega) only [↓AW_ops, ↓AW_seq, ↓AW_block, ↓AOps_nil, ↓AOps_pu, on_some, ↓then_normal, pval, rd_C, put_S, ↓AW_toLoop, List.replicate_succ, List.replicate_zero, List.set_cons_zero, List.set_cons_succ, Nat.reduceSub, List.cons_append, List.nil_append]
  refine LoopK.by 18 (fun i : Nat => i ≤ xs.length) (fun i => [(0, v), (3, I (xs.take i).sum), (4, I i)]) (fun _ => A) (fun i => xs.length - i) 0 (by omega) rfl (by simp [Has, rd_s]) rfl ?_
  intro i hi
  by_cases hlt : i < xs.length
  · obtain ⟨z, hz⟩ : ∃ z, xs[i]? = some z := ⟨_, List.getElem?_eq_getElem hlt⟩
    have hlt' : (i : Int) < xs.length := by omega
    have h1 := sum_w hl hb i
    have h2 := hb z (List.mem_of_getElem? hz)
    simp (maxSteps := 4000000) -implicitDefEqProofs -dsimp (disch := omega) only [↓AW_skip, ↓AW_ops, ↓AW_seq, ↓AW_cond, ↓AW_block, ↓AOps_nil, ↓AOps_pu, ↓AOps_ld, on_some, condB_t, ↓then_normal, ↓inBlock_normal, pval, lval, rd_S, rd_C, put_S, partA, eq_self, mk, List.foldl_cons, List.foldl_nil, List.replicate_succ, List.replicate_zero, List.set_cons_zero, List.set_cons_succ, List.getElem?_cons_zero, List.getElem?_cons_succ, List.drop_zero, List.take_succ_cons, List.take_nil, Option.getD_some, List.length_cons, List.length_nil, Nat.reduceAdd, Nat.reduceLeDiff, Nat.zero_add, bin_add, bin_lss, w64, if_true, if_false, Bool.false_eq_true, decide_true, Go.Eng.e1, true_and, hlt', hx.len, hx.idx hlt, hx.ld0 hz 1 false (by decide)]
    exact ⟨i + 1, hlt, by simp [Has, rd_s, take_sum hz], by omega⟩
  · have hlt' : ¬ ((i : Int) < xs.length) := by omega
    simp (maxSteps := 4000000) -implicitDefEqProofs -dsimp (disch := omega) only [↓AW_ops, ↓AW_seq, ↓AW_cond, ↓AW_exit, ↓AW_ret, ↓AOps_nil, ↓AOps_pu, on_some, condB_f, ↓then_normal, ↓then_exit, ↓inBlock_exit, ↓Fin_ret, pval, rd_S, put_S, resV, resL, eq_self, mk, List.foldl_cons, List.foldl_nil, List.replicate_succ, List.replicate_zero, List.set_cons_zero, List.set_cons_succ, List.getElem?_cons_zero, List.getElem?_cons_succ, Option.getD_some, bin_lss, if_true, decide_false, hlt', hx.len]
    rw [List.take_of_length_le (by omega)]
    exact gc_same rfl
structure OK (cs : List Int) : Prop where
  l1 : 1 ≤ cs.length
  l8 : cs.length ≤ 8
  c : ∀ x ∈ cs, 0 ≤ x ∧ x ≤ 1000
theorem OK.sum {cs : List Int} (h : OK cs) : 0 ≤ cs.sum ∧ cs.sum ≤ 8000 := by
  have := sum_bd0 h.c
  have := h.l8
  omega
/-- A case. -/
structure CE (cs : List Int) (e : Int) : Prop where
  ok : OK cs
  e0 : 0 ≤ e
  e1 : e ≤ cs.sum
section
variable {cs : List Int} {v : AV} {A : AHeap}
end
end Go.Proofs.Ytdcdjhhjlpegjaa

namespace Go.Proofs.Ytdcdjhhjlpegjaa
open Go Go.Eng
theorem gcd_step (x y : Int) : Int.gcd y (x.tmod y) = Int.gcd x y := by
  unfold Int.gcd
  rw [Int.natAbs_tmod, Nat.gcd_comm y.natAbs, ← Nat.gcd_rec, Nat.gcd_comm]
theorem gcd_pos {a b : Int} (hb : 0 < b) : 0 < Int.gcd a b ∧ (Int.gcd a b : Int) ≤ b := by
  have h1 : 0 < Int.gcd a b := Int.gcd_pos_of_ne_zero_right a (by omega)
  have h2 : (Int.gcd a b : Int) ∣ b := Int.gcd_dvd_right a b
  exact ⟨h1, Int.le_of_dvd hb h2⟩
theorem s82 {a b : Int} (A : AHeap) (ha : W a) (hb0 : 0 < b) (hb : b ≤ 9223372036854775807) : ACalls Try.prog 82 [I a, I b] A (I (Int.gcd a b)) A := by
  refine acalls hmix Try.func82 (by kernel_rfl) t82 2 rfl (by decide) ?_
  dsimp only [m82]
  simp (maxSteps := 4000000) -implicitDefEqProofs -dsimp (disch := omega) only [↓AW_ops, ↓AW_seq, ↓AW_block, ↓AOps_nil, ↓AOps_pu, on_some, ↓then_normal, pval, rd_C, put_S, ↓AW_toLoop, List.replicate_succ, List.replicate_zero, List.set_cons_zero, List.set_cons_succ, Nat.reduceSub, List.cons_append, List.nil_append]
  obtain ⟨g1, g2⟩ := gcd_pos (a := a) hb0
  refine LoopK.by 15 (fun x : Int × Int => Int.gcd x.1 x.2 = Int.gcd a b ∧ W x.1 ∧ W x.2) (fun x => [(0, I x.1), (1, I x.2)]) (fun _ => A) (fun x => x.2.natAbs) (a, b) ⟨rfl, ha, by omega, hb⟩ rfl (by simp [Has, rd_s]) rfl ?_
  rintro ⟨x, y⟩ ⟨hxy, hx, hy⟩
  simp only at hxy hx hy
  by_cases hy0 : y = 0
  · subst hy0
    have hx1 : x.natAbs = Int.gcd a b := by rw [← hxy]; simp
    simp (maxSteps := 4000000) -implicitDefEqProofs -dsimp (disch := omega) only [↓AW_ops, ↓AW_seq, ↓AW_cond, ↓AW_exit, ↓AW_ret, ↓AOps_nil, ↓AOps_pu, on_some, condB_f, ↓then_normal, ↓then_exit, ↓inBlock_exit, ↓Fin_ret, pval, rd_S, rd_C, put_S, resV, resL, eq_self, mk, List.foldl_cons, List.foldl_nil, List.replicate_succ, List.replicate_zero, List.set_cons_zero, List.set_cons_succ, List.getElem?_cons_zero, List.getElem?_cons_succ, Option.getD_some, map_c, map_n, bin_neq, mm_max, w64, if_true, decide_false, not_true_eq_false]
    exact gc_same (by congr 1; omega)
  · simp (maxSteps := 4000000) -implicitDefEqProofs -dsimp (disch := omega) only [↓AW_skip, ↓AW_ops, ↓AW_seq, ↓AW_cond, ↓AW_block, ↓AOps_nil, ↓AOps_pu, on_some, condB_t, ↓then_normal, ↓inBlock_normal, pval, rd_S, rd_C, put_S, eq_self, mk, List.foldl_cons, List.foldl_nil, List.replicate_succ, List.replicate_zero, List.set_cons_zero, List.set_cons_succ, List.getElem?_cons_zero, List.getElem?_cons_succ, Option.getD_some, List.length_cons, List.length_nil, Nat.reduceAdd, Nat.zero_add, bin_rem, bin_neq, if_false, decide_true, true_and, not_false_eq_true, hy0]
    have hm : (x.tmod y).natAbs < y.natAbs := by rw [Int.natAbs_tmod]; exact Nat.mod_lt _ (by omega)
    exact ⟨(y, x.tmod y), ⟨by rw [gcd_step]; exact hxy, hy, by omega⟩, by simp [Has, rd_s], hm⟩
theorem s80 {a b : Int} (A : AHeap) (ha : 0 ≤ a ∧ a ≤ 9223372036854775807) (hb0 : 0 < b) (hb : b ≤ 9223372036854775807) : ACalls Try.prog 80 [I a, I b] A (I (Int.gcd a b)) A := by
  refine acalls hmix Try.func80 (by kernel_rfl) t80 2 rfl (by decide) ?_
  dsimp only [m80]
  simp (maxSteps := 4000000) -implicitDefEqProofs -dsimp (disch := omega) only [↓AW_ops, ↓AW_seq, ↓AW_block, ↓AOps_nil, ↓AOps_pu, on_some, ↓then_normal, pval, rd_C, put_S, ↓AW_toLoop, List.replicate_succ, List.replicate_zero, List.set_cons_zero, List.set_cons_succ, Nat.reduceSub, List.cons_append, List.nil_append]
  refine LoopK.by 14 (fun x : Int × Int => Int.gcd x.1 x.2 = Int.gcd a b ∧ (0 ≤ x.1 ∧ W x.1) ∧ (0 ≤ x.2 ∧ W x.2)) (fun x => [(0, I x.1), (1, I x.2)]) (fun _ => A) (fun x => x.2.natAbs) (a, b) ⟨rfl, by simp only; omega, by simp only; omega⟩ rfl (by simp [Has, rd_s]) rfl ?_
  rintro ⟨x, y⟩ ⟨hxy, hx, hy⟩
  simp only at hxy hx hy
  by_cases hy0 : y = 0
  · subst hy0
    have hx1 : x.natAbs = Int.gcd a b := by rw [← hxy]; simp
    simp (maxSteps := 4000000) -implicitDefEqProofs -dsimp (disch := omega) only [↓AW_ops, ↓AW_seq, ↓AW_cond, ↓AW_exit, ↓AW_ret, ↓AOps_nil, ↓AOps_pu, on_some, condB_f, ↓then_normal, ↓then_exit, ↓inBlock_exit, ↓Fin_ret, pval, rd_S, rd_C, put_S, resV, resL, eq_self, mk, List.foldl_cons, List.foldl_nil, List.replicate_succ, List.replicate_zero, List.set_cons_zero, List.set_cons_succ, List.getElem?_cons_zero, List.getElem?_cons_succ, Option.getD_some, bin_neq, if_true, decide_false, not_true_eq_false]
    exact gc_same (by congr 1; omega)
  · simp (maxSteps := 4000000) -implicitDefEqProofs -dsimp (disch := omega) only [↓AW_skip, ↓AW_ops, ↓AW_seq, ↓AW_cond, ↓AW_block, ↓AOps_nil, ↓AOps_pu, on_some, condB_t, ↓then_normal, ↓inBlock_normal, pval, rd_S, rd_C, put_S, eq_self, mk, List.foldl_cons, List.foldl_nil, List.replicate_succ, List.replicate_zero, List.set_cons_zero, List.set_cons_succ, List.getElem?_cons_zero, List.getElem?_cons_succ, Option.getD_some, List.length_cons, List.length_nil, Nat.reduceAdd, Nat.zero_add, bin_rem, bin_neq, if_false, decide_true, true_and, not_false_eq_true, hy0]
    have hm : (x.tmod y).natAbs < y.natAbs := by rw [Int.natAbs_tmod]; exact Nat.mod_lt _ (by omega)
    have hm0 : 0 ≤ x.tmod y := Int.tmod_nonneg y hx.1
    exact ⟨(y, x.tmod y), ⟨by rw [gcd_step]; exact hxy, hy, by omega⟩, by simp [Has, rd_s], hm⟩
theorem gcd_div {out d : Int} (h0 : 0 < out) (hd : 0 < d) : out.tdiv (Int.gcd out d) = out / (Int.gcd out d : Int) ∧ 0 < out / (Int.gcd out d : Int) ∧ out / (Int.gcd out d : Int) ≤ out := by
  obtain ⟨g1, g2⟩ := gcd_pos (a := out) hd
  obtain ⟨x, hx⟩ := Int.gcd_dvd_left out d
  generalize (Int.gcd out d : Nat) = g at *
  have hg : (0 : Int) < g := by omega
  refine ⟨Int.tdiv_eq_ediv_of_nonneg (by omega), ?_, ?_⟩
  · rw [hx, Int.mul_ediv_cancel_left _ (by omega)]
    rcases Int.lt_or_le 0 x with h | h
    · exact h
    · have := Int.mul_nonpos_of_nonneg_of_nonpos (Int.le_of_lt hg) h; omega
  · exact Int.ediv_le_self _ (by omega)
/-- A fraction that a list may hold. -/
def fitR (r : Int × Int) : Prop := (1 ≤ r.2 ∧ r.2 ≤ 10000) ∧ (0 ≤ r.1 ∧ r.1 ≤ 10000000) ∧ Int.gcd r.1 r.2 = 1
instance (r : Int × Int) : Decidable (fitR r) := by unfold fitR; exact inferInstance
/-- The common denominator; 0 if the list is not fit. -/
def cm : Int → List (Int × Int) → Int
  | a, [] => a
  | a, r :: rs => if fitR r then (if 10000 < a / (Int.gcd a r.2 : Int) * r.2 then 0 else cm (a / (Int.gcd a r.2 : Int) * r.2) rs) else 0
theorem cm_bad {a : Int} {r : Int × Int} {rs : List (Int × Int)} (h : ¬ fitR r) : cm a (r :: rs) = 0 := by rw [cm, if_neg h]
theorem cm_go {a : Int} {r : Int × Int} {rs : List (Int × Int)} (h : fitR r) : cm a (r :: rs) = if 10000 < a / (Int.gcd a r.2 : Int) * r.2 then 0 else cm (a / (Int.gcd a r.2 : Int) * r.2) rs := by rw [cm, if_pos h]
theorem lc_pos {a d : Int} (ha : 1 ≤ a ∧ a ≤ 10000) (hd : 1 ≤ d ∧ d ≤ 10000) : 1 ≤ a / (Int.gcd a d : Int) * d ∧ a / (Int.gcd a d : Int) * d ≤ 100000000 ∧ a.tdiv (Int.gcd a d) = a / (Int.gcd a d : Int) ∧ ¬ (Int.gcd a d : Int) = 0 ∧ 0 < a / (Int.gcd a d : Int) ∧ a / (Int.gcd a d : Int) ≤ 10000 := by
  obtain ⟨q1, q2, q3⟩ := gcd_div (out := a) (d := d) (by omega) (by omega)
  have hm := Int.mul_le_mul (Int.le_trans q3 ha.2) hd.2 (by omega) (by omega : (0 : Int) ≤ 10000)
  have hm0 : 0 < a / (Int.gcd a d : Int) * d := Int.mul_pos q2 (by omega)
  have hg0 : ¬ (Int.gcd a d : Int) = 0 := by have := gcd_pos (a := a) (b := d) (by omega); omega
  exact ⟨by omega, by omega, q1, hg0, q2, by omega⟩
theorem drop_at {α : Type} {rs : List α} {i : Nat} {z : α} (hz : rs[i]? = some z) : rs.drop i = z :: rs.drop (i + 1) := by
  obtain ⟨hlt, h⟩ := List.getElem?_eq_some_iff.1 hz
  rw [← h]; exact List.drop_eq_getElem_cons hlt
section
variable {rs : List (Int × Int)} {v : AV} {A : AHeap}
theorem c_common (hr : L2 A v rs) (hl : rs.length ≤ 1000000) : ACalls Try.prog 70 [v] A (.tuple [I (cm 1 rs), B (!decide (cm 1 rs = 0))]) A := by
  refine acalls hmix Try.func70 (by kernel_rfl) t70 1 rfl (by decide) ?_
  dsimp only [m70]
  simp (maxSteps := 4000000) -implicitDefEqProofs -dsimp (disch := omega) only [↓AW_ops, ↓AW_seq, ↓AW_block, ↓AOps_nil, ↓AOps_pu, on_some, ↓then_normal, pval, rd_S, rd_C, put_S, ↓AW_toLoop, List.replicate_succ, List.replicate_zero, List.set_cons_zero, List.set_cons_succ, List.getElem?_cons_zero, List.getElem?_cons_succ, Option.getD_some, Nat.reduceSub, List.cons_append, List.nil_append, hr.len]
  refine LoopK.by 52 (fun x : Nat × Int => x.1 ≤ rs.length ∧ (1 ≤ x.2 ∧ x.2 ≤ 10000) ∧ cm 1 rs = cm x.2 (rs.drop x.1)) (fun x => [(4, I x.2), (7, v), (8, I rs.length), (9, I x.1)]) (fun _ => A) (fun x => rs.length - x.1) (0, 1) ⟨by simp only; omega, by simp only; omega, by simp⟩ rfl (by simp [Has, rd_s]) rfl ?_
  rintro ⟨i, all⟩ ⟨hi, ho, he⟩
  simp only at hi ho he
  by_cases hlt : i < rs.length
  · obtain ⟨z, hz⟩ : ∃ z, rs[i]? = some z := ⟨_, List.getElem?_eq_getElem hlt⟩
    have hlt' : (i : Int) < rs.length := by omega
    rw [drop_at hz] at he
    have bad : cm 1 rs = 0 → GC A (.tuple [I 0, B false]) A (.tuple [I (cm 1 rs), B (!decide (cm 1 rs = 0))]) A := by
      intro h; rw [h]; exact gc_same rfl
    by_cases h1 : z.2 < 1
    · simp (maxSteps := 4000000) -implicitDefEqProofs -dsimp (disch := omega) only [↓AW_skip, ↓AW_ops, ↓AW_seq, ↓AW_cond, ↓AW_block, ↓AW_ret, ↓AOps_nil, ↓AOps_pu, ↓AOps_ld, ↓AOps_guard, on_some, guardB_tf, skipS_some, condB_t, ↓then_normal, ↓then_ret, ↓inBlock_ret, ↓Fin_ret, pval, lval, rd_S, rd_C, put_S, resV, resL, chkd, isAdr, bput, bgot, AV.cells?, splice, partA, eq_self, mk, List.foldl_cons, List.foldl_nil, List.replicate_succ, List.replicate_zero, List.set_cons_zero, List.set_cons_succ, List.getElem?_cons_zero, List.getElem?_cons_succ, List.drop_zero, List.drop_succ_cons, List.drop_nil, List.take_zero, List.take_succ_cons, List.take_nil, Option.getD_some, List.length_cons, List.length_nil, Nat.reduceAdd, Nat.reduceLeDiff, Nat.reduceEqDiff, Nat.zero_add, List.nil_append, List.append_nil, bin_lss, if_true, if_false, Bool.false_eq_true, decide_true, Go.Eng.e2, ne_eq, not_true_eq_false, hlt', hr.idx hlt, hr.ld0 hz 2 true (by decide), e2, h1]
      exact bad (by rw [he, cm_bad (fun hh => by have := hh.1; omega)])
    by_cases h2 : 10000 < z.2
    · simp (maxSteps := 4000000) -implicitDefEqProofs -dsimp (disch := omega) only [↓AW_skip, ↓AW_ops, ↓AW_seq, ↓AW_cond, ↓AW_block, ↓AW_ret, ↓AOps_nil, ↓AOps_pu, ↓AOps_ld, ↓AOps_guard, on_some, guardB_tf, guardB_ff, skipS_some, condB_t, ↓then_normal, ↓then_ret, ↓inBlock_ret, ↓Fin_ret, pval, lval, rd_S, rd_C, put_S, resV, resL, chkd, isAdr, bput, bgot, AV.cells?, splice, partA, eq_self, mk, List.foldl_cons, List.foldl_nil, List.replicate_succ, List.replicate_zero, List.set_cons_zero, List.set_cons_succ, List.getElem?_cons_zero, List.getElem?_cons_succ, List.drop_zero, List.drop_succ_cons, List.drop_nil, List.take_zero, List.take_succ_cons, List.take_nil, Option.getD_some, List.length_cons, List.length_nil, Nat.reduceAdd, Nat.reduceLeDiff, Nat.reduceEqDiff, Nat.zero_add, List.nil_append, List.append_nil, bin_lss, bin_gtr, if_true, if_false, Bool.false_eq_true, decide_true, decide_false, Go.Eng.e2, ne_eq, not_true_eq_false, hlt', hr.idx hlt, hr.ld0 hz 2 true (by decide), e2, h1, h2]
      exact bad (by rw [he, cm_bad (fun hh => by have := hh.1; omega)])
    by_cases h3 : z.1 < 0
    · simp (maxSteps := 4000000) -implicitDefEqProofs -dsimp (disch := omega) only [↓AW_skip, ↓AW_ops, ↓AW_seq, ↓AW_cond, ↓AW_block, ↓AW_ret, ↓AOps_nil, ↓AOps_pu, ↓AOps_ld, ↓AOps_guard, on_some, guardB_tf, guardB_ff, skipS_some, condB_t, ↓then_normal, ↓then_ret, ↓inBlock_ret, ↓Fin_ret, pval, lval, rd_S, rd_C, put_S, resV, resL, chkd, isAdr, bput, bgot, AV.cells?, splice, partA, eq_self, mk, List.foldl_cons, List.foldl_nil, List.replicate_succ, List.replicate_zero, List.set_cons_zero, List.set_cons_succ, List.getElem?_cons_zero, List.getElem?_cons_succ, List.drop_zero, List.drop_succ_cons, List.drop_nil, List.take_zero, List.take_succ_cons, List.take_nil, Option.getD_some, List.length_cons, List.length_nil, Nat.reduceAdd, Nat.reduceLeDiff, Nat.reduceEqDiff, Nat.zero_add, List.nil_append, List.append_nil, bin_lss, bin_gtr, if_true, if_false, Bool.false_eq_true, decide_true, decide_false, Go.Eng.e2, ne_eq, not_true_eq_false, hlt', hr.idx hlt, hr.ld0 hz 2 true (by decide), e2, h1, h2, h3]
      exact bad (by rw [he, cm_bad (fun hh => by have := hh.2.1; omega)])
    by_cases h4 : 10000000 < z.1
    · simp (maxSteps := 4000000) -implicitDefEqProofs -dsimp (disch := omega) only [↓AW_skip, ↓AW_ops, ↓AW_seq, ↓AW_cond, ↓AW_block, ↓AW_ret, ↓AOps_nil, ↓AOps_pu, ↓AOps_ld, ↓AOps_guard, on_some, guardB_tf, guardB_ff, skipS_some, condB_t, ↓then_normal, ↓then_ret, ↓inBlock_ret, ↓Fin_ret, pval, lval, rd_S, rd_C, put_S, resV, resL, chkd, isAdr, bput, bgot, AV.cells?, splice, partA, eq_self, mk, List.foldl_cons, List.foldl_nil, List.replicate_succ, List.replicate_zero, List.set_cons_zero, List.set_cons_succ, List.getElem?_cons_zero, List.getElem?_cons_succ, List.drop_zero, List.drop_succ_cons, List.drop_nil, List.take_zero, List.take_succ_cons, List.take_nil, Option.getD_some, List.length_cons, List.length_nil, Nat.reduceAdd, Nat.reduceLeDiff, Nat.reduceEqDiff, Nat.zero_add, List.nil_append, List.append_nil, bin_lss, bin_gtr, if_true, if_false, Bool.false_eq_true, decide_true, decide_false, Go.Eng.e2, ne_eq, not_true_eq_false, hlt', hr.idx hlt, hr.ld0 hz 2 true (by decide), e2, h1, h2, h3, h4]
      exact bad (by rw [he, cm_bad (fun hh => by have := hh.2.1; omega)])
    simp (maxSteps := 4000000) -implicitDefEqProofs -dsimp (disch := omega) only [↓AW_skip, ↓AW_ops, ↓AW_seq, ↓AW_cond, ↓AW_block, ↓AOps_nil, ↓AOps_pu, ↓AOps_ld, ↓AOps_call, ↓AOps_guard, on_some, guardB_ff, condB_t, ↓then_normal, pval, lval, rd_S, rd_C, put_S, chkd, isAdr, bput, bgot, AV.cells?, splice, partA, eq_self, mk, List.foldl_cons, List.foldl_nil, List.replicate_succ, List.replicate_zero, List.set_cons_zero, List.set_cons_succ, List.getElem?_cons_zero, List.getElem?_cons_succ, List.drop_zero, List.drop_succ_cons, List.drop_nil, List.take_zero, List.take_succ_cons, List.take_nil, Option.getD_some, map_c, map_n, List.length_cons, List.length_nil, Nat.reduceAdd, Nat.reduceLeDiff, Nat.reduceEqDiff, Nat.zero_add, List.nil_append, List.append_nil, bin_lss, bin_gtr, if_true, if_false, Bool.false_eq_true, decide_true, decide_false, Go.Eng.e2, ne_eq, not_true_eq_false, hlt', hr.idx hlt, hr.ld0 hz 2 true (by decide), e2, h1, h2, h3, h4]
    refine CallK.of (s82 _ ⟨by omega, by omega⟩ (by omega) (by omega)) ?_
    by_cases h5 : Int.gcd z.1 z.2 = 1
    · have hf : fitR z := ⟨by omega, by omega, h5⟩
      rw [cm_go hf] at he
      obtain ⟨q1, q2, q3, q4, q5, q6⟩ := lc_pos ho hf.1
      have h5' : (Int.gcd z.1 z.2 : Int) = 1 := by omega
      simp (maxSteps := 4000000) -implicitDefEqProofs -dsimp (disch := omega) only [↓AW_skip, ↓AW_ops, ↓AW_seq, ↓AW_cond, ↓AOps_nil, ↓AOps_pu, ↓AOps_call, ↓AOps_guard, on_some, extK_same, guardB_ff, condB_f, ↓then_normal, pval, rd_S, rd_C, put_S, chkd, isAdr, bgot, AV.cells?, partA, eq_self, mk, List.foldl_cons, List.foldl_nil, List.replicate_succ, List.replicate_zero, List.set_cons_zero, List.set_cons_succ, List.getElem?_cons_zero, List.getElem?_cons_succ, List.drop_zero, List.drop_succ_cons, List.take_succ_cons, List.take_nil, Option.getD_some, map_c, map_n, List.length_cons, List.length_nil, Nat.reduceAdd, Nat.reduceLeDiff, Nat.zero_add, bin_neq, if_true, if_false, Bool.false_eq_true, decide_false, not_true_eq_false, h5']
      refine CallK.of (s82 _ ⟨by omega, by omega⟩ (by omega) (by omega)) ?_
      by_cases h6 : 10000 < all / (Int.gcd all z.2 : Int) * z.2
      · rw [if_pos h6] at he
        simp (maxSteps := 4000000) -implicitDefEqProofs -dsimp (disch := omega) only [↓AW_ops, ↓AW_seq, ↓AW_cond, ↓AW_ret, ↓AOps_nil, ↓AOps_pu, on_some, extK_same, condB_t, ↓then_normal, ↓then_ret, ↓inBlock_ret, ↓Fin_ret, pval, rd_S, rd_C, put_S, resV, resL, chkd, isAdr, bgot, AV.cells?, partA, eq_self, mk, List.foldl_cons, List.foldl_nil, List.replicate_succ, List.replicate_zero, List.set_cons_zero, List.set_cons_succ, List.getElem?_cons_zero, List.getElem?_cons_succ, List.drop_zero, List.drop_succ_cons, List.take_succ_cons, List.take_nil, Option.getD_some, List.length_cons, List.length_nil, Nat.reduceAdd, Nat.reduceLeDiff, Nat.zero_add, bin_mul, bin_quo, bin_gtr, w64, if_true, if_false, Bool.false_eq_true, decide_true, q4, q3, h6]
        exact bad he
      · rw [if_neg h6] at he
        simp (maxSteps := 4000000) -implicitDefEqProofs -dsimp (disch := omega) only [↓AW_skip, ↓AW_ops, ↓AW_seq, ↓AW_cond, ↓AOps_nil, ↓AOps_pu, on_some, extK_same, condB_f, ↓then_normal, ↓inBlock_normal, pval, rd_S, rd_C, put_S, chkd, isAdr, bgot, AV.cells?, partA, eq_self, mk, List.foldl_cons, List.foldl_nil, List.replicate_succ, List.replicate_zero, List.set_cons_zero, List.set_cons_succ, List.getElem?_cons_zero, List.getElem?_cons_succ, List.drop_zero, List.drop_succ_cons, List.take_succ_cons, List.take_nil, Option.getD_some, List.length_cons, List.length_nil, Nat.reduceAdd, Nat.reduceLeDiff, Nat.zero_add, bin_add, bin_mul, bin_quo, bin_gtr, w64, if_true, if_false, Bool.false_eq_true, decide_false, true_and, q4, q3, h6]
        exact ⟨(i + 1, all / (Int.gcd all z.2 : Int) * z.2), ⟨hlt, by simp only; omega, he⟩, by simp [Has, rd_s], by simp only; omega⟩
    · have h5' : ¬ (Int.gcd z.1 z.2 : Int) = 1 := by omega
      simp (maxSteps := 4000000) -implicitDefEqProofs -dsimp (disch := omega) only [↓AW_ops, ↓AW_seq, ↓AW_cond, ↓AW_ret, ↓AOps_nil, ↓AOps_pu, ↓AOps_guard, on_some, extK_same, guardB_ff, condB_t, ↓then_normal, ↓then_ret, ↓inBlock_ret, ↓Fin_ret, pval, rd_S, rd_C, put_S, resV, resL, mk, List.foldl_cons, List.foldl_nil, List.replicate_succ, List.replicate_zero, List.set_cons_zero, List.set_cons_succ, List.getElem?_cons_zero, List.getElem?_cons_succ, Option.getD_some, bin_neq, if_false, Bool.false_eq_true, decide_true, not_false_eq_true, h5']
      exact bad (by rw [he, cm_bad (fun hh => h5 hh.2.2)])
  · have hlt' : ¬ ((i : Int) < rs.length) := by omega
    rw [List.drop_of_length_le (by omega)] at he
    simp (maxSteps := 4000000) -implicitDefEqProofs -dsimp (disch := omega) only [↓AW_ops, ↓AW_seq, ↓AW_cond, ↓AW_exit, ↓AW_ret, ↓AOps_nil, ↓AOps_pu, on_some, condB_f, ↓then_normal, ↓then_exit, ↓inBlock_exit, ↓Fin_ret, pval, rd_S, rd_C, put_S, resV, resL, eq_self, mk, List.foldl_cons, List.foldl_nil, List.replicate_succ, List.replicate_zero, List.set_cons_zero, List.set_cons_succ, List.getElem?_cons_zero, List.getElem?_cons_succ, Option.getD_some, bin_lss, if_true, decide_false, hlt']
    have he' : cm 1 rs = all := he
    refine gc_same ?_
    rw [he']
    have : ¬ all = 0 := by omega
    simp [this]
theorem c_Common (hr : L2 A v rs) (hl : rs.length ≤ 1000000) : ACalls Try.prog 56 [v] A (I (cm 1 rs)) A := by
  refine acalls hmix Try.func56 (by kernel_rfl) t56 1 rfl (by decide) ?_
  dsimp only [m56]
  simp (maxSteps := 4000000) -implicitDefEqProofs -dsimp (disch := omega) only [↓AW_ops, ↓AW_seq, ↓AW_block, ↓AOps_nil, ↓AOps_pu, on_some, ↓then_normal, pval, rd_C, put_S, ↓AW_toLoop, List.replicate_succ, List.replicate_zero, List.set_cons_zero, List.set_cons_succ, Nat.reduceSub, List.cons_append, List.nil_append]
  refine LoopK.by 59 (fun x : Nat × Int => x.1 ≤ rs.length ∧ (1 ≤ x.2 ∧ x.2 ≤ 10000) ∧ cm 1 rs = cm x.2 (rs.drop x.1)) (fun x => [(0, v), (3, I x.2), (4, I x.1)]) (fun _ => A) (fun x => rs.length - x.1) (0, 1) ⟨by simp only; omega, by simp only; omega, by simp⟩ rfl (by simp [Has, rd_s]) rfl ?_
  rintro ⟨i, all⟩ ⟨hi, ho, he⟩
  simp only at hi ho he
  by_cases hlt : i < rs.length
  · obtain ⟨z, hz⟩ : ∃ z, rs[i]? = some z := ⟨_, List.getElem?_eq_getElem hlt⟩
    have hlt' : (i : Int) < rs.length := by omega
    rw [drop_at hz] at he
    have bad : cm 1 rs = 0 → GC A (I 0) A (I (cm 1 rs)) A := by
      intro h; rw [h]; exact gc_same rfl
    simp (maxSteps := 4000000) -implicitDefEqProofs -dsimp (disch := omega) only [↓AW_skip, ↓AW_ops, ↓AW_seq, ↓AW_cond, ↓AW_block, ↓AOps_nil, ↓AOps_pu, ↓AOps_ld, ↓AOps_call, on_some, condB_t, ↓then_normal, pval, lval, rd_S, rd_C, put_S, partA, eq_self, mk, List.foldl_cons, List.foldl_nil, List.replicate_succ, List.replicate_zero, List.set_cons_zero, List.set_cons_succ, List.getElem?_cons_zero, List.getElem?_cons_succ, List.drop_zero, List.drop_succ_cons, List.take_succ_cons, List.take_nil, Option.getD_some, map_c, map_n, List.length_cons, List.length_nil, Nat.reduceAdd, Nat.reduceLeDiff, Nat.zero_add, bin_lss, if_true, if_false, Bool.false_eq_true, decide_true, Go.Eng.e2, hlt', hr.len, hr.idx hlt, hr.ld hz 1 1 false (by decide), e2]
    refine CallK.of (c_wi _ _ _ _) ?_
    by_cases h1 : 1 ≤ z.2 ∧ z.2 ≤ 10000
    case neg =>
      simp (maxSteps := 4000000) -implicitDefEqProofs -dsimp (disch := omega) only [↓AW_ops, ↓AW_seq, ↓AW_cond, ↓AW_ret, ↓AOps_nil, ↓AOps_pu, ↓AOps_guard, on_some, extK_same, guardB_tf, skipS_some, condB_t, ↓then_normal, ↓then_ret, ↓inBlock_ret, ↓Fin_ret, pval, rd_S, rd_C, put_S, resV, resL, eq_self, mk, List.foldl_cons, List.foldl_nil, List.replicate_succ, List.replicate_zero, List.set_cons_zero, List.set_cons_succ, List.getElem?_cons_zero, List.getElem?_cons_succ, Option.getD_some, if_true, Bool.not_false, decide_false, h1]
      exact bad (by rw [he, cm_bad (fun hh => h1 hh.1)])
    simp (maxSteps := 4000000) -implicitDefEqProofs -dsimp (disch := omega) only [↓AOps_pu, ↓AOps_ld, ↓AOps_call, ↓AOps_guard, on_some, extK_same, guardB_ff, pval, lval, rd_S, rd_C, put_S, partA, eq_self, mk, List.foldl_cons, List.foldl_nil, List.replicate_succ, List.replicate_zero, List.set_cons_zero, List.set_cons_succ, List.getElem?_cons_zero, List.getElem?_cons_succ, List.drop_zero, List.take_zero, List.take_succ_cons, Option.getD_some, map_c, map_n, List.length_cons, List.length_nil, Nat.reduceAdd, Nat.reduceLeDiff, Nat.zero_add, Nat.add_zero, if_true, if_false, Bool.false_eq_true, Bool.not_true, decide_true, Go.Eng.e2, and_true, h1, hr.idx hlt, hr.ld0 hz 1 false (by decide), e2]
    refine CallK.of (c_wi _ _ _ _) ?_
    by_cases h2 : 0 ≤ z.1 ∧ z.1 ≤ 10000000
    case neg =>
      simp (maxSteps := 4000000) -implicitDefEqProofs -dsimp (disch := omega) only [↓AW_ops, ↓AW_seq, ↓AW_cond, ↓AW_ret, ↓AOps_nil, ↓AOps_pu, ↓AOps_guard, on_some, extK_same, guardB_tf, guardB_ff, skipS_some, condB_t, ↓then_normal, ↓then_ret, ↓inBlock_ret, ↓Fin_ret, pval, rd_S, rd_C, put_S, resV, resL, eq_self, mk, List.foldl_cons, List.foldl_nil, List.replicate_succ, List.replicate_zero, List.set_cons_zero, List.set_cons_succ, List.getElem?_cons_zero, List.getElem?_cons_succ, Option.getD_some, if_true, if_false, Bool.false_eq_true, Bool.not_false, decide_false, h2]
      exact bad (by rw [he, cm_bad (fun hh => h2 hh.2.1)])
    simp (maxSteps := 4000000) -implicitDefEqProofs -dsimp (disch := omega) only [↓AOps_pu, ↓AOps_ld, ↓AOps_call, ↓AOps_guard, on_some, extK_same, guardB_ff, pval, lval, rd_S, rd_C, put_S, partA, eq_self, mk, List.foldl_cons, List.foldl_nil, List.replicate_succ, List.replicate_zero, List.set_cons_zero, List.set_cons_succ, List.getElem?_cons_zero, List.getElem?_cons_succ, List.drop_zero, List.drop_succ_cons, List.take_zero, List.take_succ_cons, List.take_nil, Option.getD_some, map_c, map_n, List.length_cons, List.length_nil, Nat.reduceAdd, Nat.reduceLeDiff, Nat.zero_add, Nat.add_zero, if_true, if_false, Bool.false_eq_true, Bool.not_true, decide_true, Go.Eng.e2, and_true, h2, hr.idx hlt, hr.ld0 hz 1 false (by decide), hr.ld hz 1 1 false (by decide), e2]
    refine CallK.of (s80 _ ⟨by omega, by omega⟩ (by omega) (by omega)) ?_
    by_cases h5 : Int.gcd z.1 z.2 = 1
    · have hf : fitR z := ⟨h1, h2, h5⟩
      rw [cm_go hf] at he
      obtain ⟨q1, q2, q3, q4, q5, q6⟩ := lc_pos ho hf.1
      have h5' : (Int.gcd z.1 z.2 : Int) = 1 := by omega
      simp (maxSteps := 4000000) -implicitDefEqProofs -dsimp (disch := omega) only [↓AW_skip, ↓AW_ops, ↓AW_seq, ↓AW_cond, ↓AOps_nil, ↓AOps_pu, ↓AOps_ld, ↓AOps_call, ↓AOps_guard, on_some, extK_same, guardB_ff, condB_f, ↓then_normal, pval, lval, rd_S, rd_C, put_S, partA, eq_self, mk, List.foldl_cons, List.foldl_nil, List.replicate_succ, List.replicate_zero, List.set_cons_zero, List.set_cons_succ, List.getElem?_cons_zero, List.getElem?_cons_succ, List.drop_zero, List.drop_succ_cons, List.take_succ_cons, List.take_nil, Option.getD_some, map_c, map_n, List.length_cons, List.length_nil, Nat.reduceAdd, Nat.reduceLeDiff, Nat.zero_add, bin_neq, if_true, if_false, Bool.false_eq_true, decide_false, Go.Eng.e2, not_true_eq_false, h5', hr.idx hlt, hr.ld hz 1 1 false (by decide), e2]
      refine CallK.of (s80 _ ⟨by omega, by omega⟩ (by omega) (by omega)) ?_
      by_cases h6 : 10000 < all / (Int.gcd all z.2 : Int) * z.2
      · rw [if_pos h6] at he
        simp (maxSteps := 4000000) -implicitDefEqProofs -dsimp (disch := omega) only [↓AW_ops, ↓AW_seq, ↓AW_cond, ↓AW_ret, ↓AOps_nil, ↓AOps_pu, ↓AOps_ld, on_some, extK_same, condB_t, ↓then_normal, ↓then_ret, ↓inBlock_ret, ↓Fin_ret, pval, lval, rd_S, rd_C, put_S, resV, resL, partA, eq_self, mk, List.foldl_cons, List.foldl_nil, List.replicate_succ, List.replicate_zero, List.set_cons_zero, List.set_cons_succ, List.getElem?_cons_zero, List.getElem?_cons_succ, List.drop_zero, List.drop_succ_cons, List.take_succ_cons, List.take_nil, Option.getD_some, List.length_cons, List.length_nil, Nat.reduceAdd, Nat.reduceLeDiff, Nat.zero_add, bin_mul, bin_quo, bin_gtr, w64, if_true, if_false, Bool.false_eq_true, decide_true, Go.Eng.e2, q4, q3, h6, hr.idx hlt, hr.ld hz 1 1 false (by decide), e2]
        exact bad he
      · rw [if_neg h6] at he
        simp (maxSteps := 4000000) -implicitDefEqProofs -dsimp (disch := omega) only [↓AW_skip, ↓AW_ops, ↓AW_seq, ↓AW_cond, ↓AOps_nil, ↓AOps_pu, ↓AOps_ld, on_some, extK_same, condB_f, ↓then_normal, ↓inBlock_normal, pval, lval, rd_S, rd_C, put_S, partA, eq_self, mk, List.foldl_cons, List.foldl_nil, List.replicate_succ, List.replicate_zero, List.set_cons_zero, List.set_cons_succ, List.getElem?_cons_zero, List.getElem?_cons_succ, List.drop_zero, List.drop_succ_cons, List.take_succ_cons, List.take_nil, Option.getD_some, List.length_cons, List.length_nil, Nat.reduceAdd, Nat.reduceLeDiff, Nat.zero_add, bin_add, bin_mul, bin_quo, bin_gtr, w64, if_true, if_false, Bool.false_eq_true, decide_false, Go.Eng.e2, true_and, q4, q3, h6, hr.idx hlt, hr.ld hz 1 1 false (by decide), e2]
        exact ⟨(i + 1, all / (Int.gcd all z.2 : Int) * z.2), ⟨hlt, by simp only; omega, he⟩, by simp [Has, rd_s], by simp only; omega⟩
    · have h5' : ¬ (Int.gcd z.1 z.2 : Int) = 1 := by omega
      simp (maxSteps := 4000000) -implicitDefEqProofs -dsimp (disch := omega) only [↓AW_ops, ↓AW_seq, ↓AW_cond, ↓AW_ret, ↓AOps_nil, ↓AOps_pu, ↓AOps_guard, on_some, extK_same, guardB_ff, condB_t, ↓then_normal, ↓then_ret, ↓inBlock_ret, ↓Fin_ret, pval, rd_S, rd_C, put_S, resV, resL, mk, List.foldl_cons, List.foldl_nil, List.replicate_succ, List.replicate_zero, List.set_cons_zero, List.set_cons_succ, List.getElem?_cons_zero, List.getElem?_cons_succ, Option.getD_some, bin_neq, if_false, Bool.false_eq_true, decide_true, not_false_eq_true, h5']
      exact bad (by rw [he, cm_bad (fun hh => h5 hh.2.2)])
  · have hlt' : ¬ ((i : Int) < rs.length) := by omega
    rw [List.drop_of_length_le (by omega)] at he
    simp (maxSteps := 4000000) -implicitDefEqProofs -dsimp (disch := omega) only [↓AW_ops, ↓AW_seq, ↓AW_cond, ↓AW_exit, ↓AW_ret, ↓AOps_nil, ↓AOps_pu, on_some, condB_f, ↓then_normal, ↓then_exit, ↓inBlock_exit, ↓Fin_ret, pval, rd_S, put_S, resV, resL, eq_self, mk, List.foldl_cons, List.foldl_nil, List.replicate_succ, List.replicate_zero, List.set_cons_zero, List.set_cons_succ, List.getElem?_cons_zero, List.getElem?_cons_succ, Option.getD_some, bin_lss, if_true, decide_false, hlt', hr.len]
    have he' : cm 1 rs = all := he
    exact gc_same (by rw [he'])
/-- The numbers of a list over a denominator. -/
def ov (den : Int) (rs : List (Int × Int)) : List Int := rs.map (fun r => r.1 * (den / r.2))
theorem ov_len (den : Int) (rs : List (Int × Int)) : (ov den rs).length = rs.length := by simp [ov]
theorem ov_take {den : Int} {i : Nat} {r : Int × Int} (h : rs[i]? = some r) : (ov den rs).take (i + 1) = (ov den rs).take i ++ [r.1 * (den / r.2)] := by
  unfold ov
  rw [List.take_add_one, List.getElem?_map, h]
  rfl
theorem ov_bd {den : Int} (hd : 0 ≤ den ∧ den ≤ 10000) {r : Int × Int} (h : fitR r) : den.tdiv r.2 = den / r.2 ∧ (0 ≤ den / r.2 ∧ den / r.2 ≤ 10000) ∧ 0 ≤ r.1 * (den / r.2) ∧ r.1 * (den / r.2) ≤ 100000000000 := by
  have h0 := h.1
  have h1 := h.2.1
  have e1 := Int.tdiv_eq_ediv_of_nonneg (b := r.2) hd.1
  have e2 : 0 ≤ den / r.2 := Int.ediv_nonneg hd.1 (by omega)
  have e3 : den / r.2 ≤ den := Int.ediv_le_self _ hd.1
  have e4 := Int.mul_le_mul h1.2 (show den / r.2 ≤ 10000 by omega) e2 (by omega : (0 : Int) ≤ 10000000)
  have e5 := Int.mul_nonneg h1.1 e2
  exact ⟨e1, by omega, e5, by omega⟩
theorem c_over (hr : L2 A v rs) (hl : rs.length ≤ 1000000) {den : Int} (hd : 0 ≤ den ∧ den ≤ 10000) (hf : ∀ r ∈ rs, fitR r) : ACalls Try.prog 71 [v, I den] A (outV 1 A (ov den rs).length) (outH A ((ov den rs).flatMap e1) (ov den rs).length) := by
  refine acalls hmix Try.func71 (by kernel_rfl) t71 2 rfl (by decide) ?_
  have hlen := ov_len den rs
  dsimp only [m71]
  simp (maxSteps := 4000000) -implicitDefEqProofs -dsimp (disch := omega) only [↓AW_ops, ↓AW_seq, ↓AW_block, ↓AOps_nil, ↓AOps_pu, on_some, ↓then_normal, pval, rd_S, rd_C, put_S, ↓AW_toLoop, List.replicate_succ, List.replicate_zero, List.set_cons_zero, List.set_cons_succ, List.getElem?_cons_zero, List.getElem?_cons_succ, Option.getD_some, Nat.reduceSub, List.cons_append, List.nil_append, hr.len]
  refine LoopK.by 26 (fun x : Nat × AV × AHeap => x.1 ≤ rs.length ∧ AccL 1 e1 A x.2.2 x.2.1 ((ov den rs).take x.1)) (fun x => [(1, I den), (5, x.2.1), (8, v), (9, I rs.length), (10, I x.1)]) (fun x => x.2.2) (fun x => rs.length - x.1) (0, .nilS, A) ⟨by simp only; omega, AccL.nil (List.prefix_refl _)⟩ rfl (by simp [Has, rd_s]) rfl ?_
  rintro ⟨i, w, A1⟩ ⟨hi, hu⟩
  simp only at hi hu
  have hr1 := hr.mono hu.pre
  by_cases hlt : i < rs.length
  · obtain ⟨z, hz⟩ : ∃ z, rs[i]? = some z := ⟨_, List.getElem?_eq_getElem hlt⟩
    have hlt' : (i : Int) < rs.length := by omega
    have hfz := hf z (List.mem_of_getElem? hz)
    have h0 := hfz.1
    have h1 := hfz.2.1
    have hne : ¬ z.2 = 0 := by omega
    obtain ⟨e1', e2', e3', e4'⟩ := ov_bd hd hfz
    obtain ⟨u3, A3, happ, hu3⟩ := hu.push e1_len (z.1 * (den / z.2)) (by rw [List.length_take]; simp [lim]; omega)
    rw [← ov_take hz] at hu3
    simp only [e1] at happ
    simp (maxSteps := 4000000) -implicitDefEqProofs -dsimp (disch := omega) only [↓AW_skip, ↓AW_ops, ↓AW_seq, ↓AW_cond, ↓AW_block, ↓AOps_nil, ↓AOps_pu, ↓AOps_ld, ↓AOps_ha, on_some, extK_false, extK_app, condB_t, ↓then_normal, ↓inBlock_normal, pval, lval, hval, rd_S, rd_C, put_S, chkd, isAdr, bput, bgot, AV.cells?, splice, partA, fillA, repl, eq_self, mk, List.foldl_cons, List.foldl_nil, List.replicate_succ, List.replicate_zero, List.set_cons_zero, List.set_cons_succ, List.getElem?_cons_zero, List.getElem?_cons_succ, List.drop_zero, List.drop_succ_cons, List.drop_nil, List.take_zero, List.take_succ_cons, List.take_nil, Option.getD_some, map_c, map_n, List.length_cons, List.length_nil, Nat.reduceAdd, Nat.reduceLeDiff, Nat.reduceEqDiff, Nat.zero_add, List.nil_append, List.append_nil, bin_add, bin_mul, bin_quo, bin_lss, w64, if_true, if_false, Bool.false_eq_true, decide_true, Go.Eng.e2, true_and, and_true, ne_eq, not_true_eq_false, hlt', hr1.idx hlt, hr1.ld0 hz 2 true (by decide), e2, hne, e1', happ]
    exact ⟨(i + 1, u3, A3), ⟨hlt, hu3⟩, by simp [Has, rd_s], rfl, by simp only; omega⟩
  · have hlt' : ¬ ((i : Int) < rs.length) := by omega
    simp (maxSteps := 4000000) -implicitDefEqProofs -dsimp (disch := omega) only [↓AW_ops, ↓AW_seq, ↓AW_cond, ↓AW_exit, ↓AW_ret, ↓AOps_nil, ↓AOps_pu, on_some, condB_f, ↓then_normal, ↓then_exit, ↓inBlock_exit, ↓Fin_ret, pval, rd_S, put_S, resV, resL, eq_self, mk, List.foldl_cons, List.foldl_nil, List.replicate_succ, List.replicate_zero, List.set_cons_zero, List.set_cons_succ, List.getElem?_cons_zero, List.getElem?_cons_succ, Option.getD_some, bin_lss, if_true, decide_false, hlt']
    rw [List.take_of_length_le (by omega)] at hu
    exact hu.gc flat_e1
theorem c_Over (hr : L2 A v rs) (hl : rs.length ≤ 1000000) {den : Int} (hd : 0 ≤ den ∧ den ≤ 10000) (hf : ∀ r ∈ rs, fitR r) : ACalls Try.prog 74 [v, I den] A (outV 1 A (ov den rs).length) (outH A ((ov den rs).flatMap e1) (ov den rs).length) := by
  refine acalls hmix Try.func74 (by kernel_rfl) t74 2 rfl (by decide) ?_
  have hlen := ov_len den rs
  dsimp only [m74]
  simp (maxSteps := 4000000) -implicitDefEqProofs -dsimp (disch := omega) only [↓AW_ops, ↓AW_seq, ↓AW_block, ↓AOps_nil, ↓AOps_pu, on_some, ↓then_normal, pval, rd_C, put_S, ↓AW_toLoop, List.replicate_succ, List.replicate_zero, List.set_cons_zero, List.set_cons_succ, Nat.reduceSub, List.cons_append, List.nil_append]
  refine LoopK.by 30 (fun x : Nat × AV × AHeap => x.1 ≤ rs.length ∧ AccL 1 e1 A x.2.2 x.2.1 ((ov den rs).take x.1)) (fun x => [(0, v), (1, I den), (5, x.2.1), (6, I x.1)]) (fun x => x.2.2) (fun x => rs.length - x.1) (0, .nilS, A) ⟨by simp only; omega, AccL.nil (List.prefix_refl _)⟩ rfl (by simp [Has, rd_s]) rfl ?_
  rintro ⟨i, w, A1⟩ ⟨hi, hu⟩
  simp only at hi hu
  have hr1 := hr.mono hu.pre
  by_cases hlt : i < rs.length
  · obtain ⟨z, hz⟩ : ∃ z, rs[i]? = some z := ⟨_, List.getElem?_eq_getElem hlt⟩
    have hlt' : (i : Int) < rs.length := by omega
    have hfz := hf z (List.mem_of_getElem? hz)
    have h0 := hfz.1
    have h1 := hfz.2.1
    have hne : ¬ z.2 = 0 := by omega
    obtain ⟨e1', e2', e3', e4'⟩ := ov_bd hd hfz
    obtain ⟨u3, A3, happ, hu3⟩ := hu.push e1_len (z.1 * (den / z.2)) (by rw [List.length_take]; simp [lim]; omega)
    rw [← ov_take hz] at hu3
    simp only [e1] at happ
    simp (maxSteps := 4000000) -implicitDefEqProofs -dsimp (disch := omega) only [↓AW_skip, ↓AW_ops, ↓AW_seq, ↓AW_cond, ↓AW_block, ↓AOps_nil, ↓AOps_pu, ↓AOps_ld, ↓AOps_ha, on_some, extK_false, extK_app, condB_t, ↓then_normal, ↓inBlock_normal, pval, lval, hval, rd_S, rd_C, put_S, AV.cells?, splice, partA, fillA, repl, eq_self, mk, List.foldl_cons, List.foldl_nil, List.replicate_succ, List.replicate_zero, List.set_cons_zero, List.set_cons_succ, List.getElem?_cons_zero, List.getElem?_cons_succ, List.drop_zero, List.drop_succ_cons, List.drop_nil, List.take_zero, List.take_succ_cons, List.take_nil, Option.getD_some, map_c, map_n, List.length_cons, List.length_nil, Nat.reduceAdd, Nat.reduceLeDiff, Nat.zero_add, Nat.add_zero, List.nil_append, List.append_nil, bin_add, bin_mul, bin_quo, bin_lss, w64, if_true, if_false, Bool.false_eq_true, decide_true, Go.Eng.e2, true_and, and_true, hlt', hr1.len, hr1.idx hlt, hr1.ld0 hz 1 false (by decide), hr1.ld hz 1 1 false (by decide), e2, hne, e1', happ]
    exact ⟨(i + 1, u3, A3), ⟨hlt, hu3⟩, by simp [Has, rd_s], rfl, by simp only; omega⟩
  · have hlt' : ¬ ((i : Int) < rs.length) := by omega
    simp (maxSteps := 4000000) -implicitDefEqProofs -dsimp (disch := omega) only [↓AW_ops, ↓AW_seq, ↓AW_cond, ↓AW_exit, ↓AW_ret, ↓AOps_nil, ↓AOps_pu, on_some, condB_f, ↓then_normal, ↓then_exit, ↓inBlock_exit, ↓Fin_ret, pval, rd_S, put_S, resV, resL, eq_self, mk, List.foldl_cons, List.foldl_nil, List.replicate_succ, List.replicate_zero, List.set_cons_zero, List.set_cons_succ, List.getElem?_cons_zero, List.getElem?_cons_succ, Option.getD_some, bin_lss, if_true, decide_false, hlt', hr1.len]
    rw [List.take_of_length_le (by omega)] at hu
    exact hu.gc flat_e1
end
end Go.Proofs.Ytdcdjhhjlpegjaa

namespace Go.Proofs.Ytdcdjhhjlpegjaa
open Go Go.Eng
/-- selion/selionlaw03.ClaimTwo [] -/
def m5 : MFun := ⟨58, [1], [.mov (.s 2)],
 .seq (.ops [⟨(some 1), some (.junk), none, false, .pu (.bnew (.s 0))⟩,
   ⟨(some 2), some undefA, none, false, .pu (.mov (.c (.bool false)))⟩])
 (.seq (.seq (.ops [⟨(some 9), some undefA, none, false, .pu (.bget none 1 0 2 true)⟩,
   ⟨(some 10), some undefA, none, false, .call 15 [(.s 9)]⟩])
 (.cond (.s 10) (.seq (.ops [⟨(some 11), some undefA, none, false, .call 17 []⟩,
    ⟨(some 2), some undefA, none, false, .pu (.mov (.s 11))⟩])
  (.ret))
 (.skip)))
 (.seq (.ops [⟨(some 13), some undefA, none, false, .pu (.badr none 1)⟩,
   ⟨(some 14), some undefA, none, false, .pu (.bget (some 13) 1 0 1 false)⟩,
   ⟨(some 15), some undefA, none, false, .pu (.badr none 1)⟩,
   ⟨(some 16), some undefA, none, false, .pu (.bget (some 15) 1 1 1 false)⟩,
   ⟨(some 17), some undefA, none, false, .call 28 [(.s 14), (.s 16)]⟩,
   ⟨(some 12), some undefA, none, false, .pu (.mov (.s 17))⟩,
   ⟨(some 18), some undefA, none, false, .pu (.extr 0 (.s 12))⟩,
   ⟨(some 19), some undefA, none, false, .pu (.extr 1 (.s 12))⟩,
   ⟨(some 3), some undefA, none, false, .pu (.mov (.s 18))⟩,
   ⟨(some 4), some undefA, none, false, .pu (.mov (.s 19))⟩])
 (.seq (.ops [⟨(some 21), some undefA, none, false, .pu (.badr none 1)⟩,
   ⟨(some 22), some undefA, none, false, .pu (.bget (some 21) 1 0 1 false)⟩,
   ⟨(some 23), some undefA, none, false, .pu (.badr none 1)⟩,
   ⟨(some 24), some undefA, none, false, .pu (.bget (some 23) 1 1 1 false)⟩,
   ⟨(some 25), some undefA, none, false, .call 29 [(.s 22), (.s 24)]⟩,
   ⟨(some 20), some undefA, none, false, .pu (.mov (.s 25))⟩,
   ⟨(some 26), some undefA, none, false, .pu (.extr 0 (.s 20))⟩,
   ⟨(some 27), some undefA, none, false, .pu (.extr 1 (.s 20))⟩,
   ⟨(some 5), some undefA, none, false, .pu (.mov (.s 26))⟩,
   ⟨(some 6), some undefA, none, false, .pu (.mov (.s 27))⟩])
 (.seq (.seq (.ops [⟨(some 28), some undefA, none, false, .pu (.mov (.s 3))⟩,
   ⟨(some 29), some undefA, none, false, .pu (.mov (.s 5))⟩,
   ⟨(some 30), some undefA, none, false, .call 30 [(.s 28), (.s 29)]⟩,
   ⟨(some 31), some undefA, none, false, .pu (.not (.s 30))⟩,
   ⟨(some 32), some undefA, none, false, .pu (.mov (.s 31))⟩,
   ⟨(some 33), some undefA, (some (32, false)), false, .pu (.mov (.s 4))⟩,
   ⟨(some 34), some undefA, (some (32, false)), false, .pu (.mov (.s 6))⟩,
   ⟨(some 35), some undefA, (some (32, false)), false, .pu (.bin .neq (.s 33) (.s 34))⟩,
   ⟨(some 36), some undefA, none, false, .pu (.pick (.s 32) (.c (.bool true)) (.s 35))⟩])
 (.cond (.s 36) (.seq (.ops [⟨(some 2), some undefA, none, false, .pu (.mov (.c (.bool false)))⟩])
  (.ret))
 (.skip)))
 (.seq (.seq (.ops [⟨(some 37), some undefA, none, false, .pu (.mov (.s 4))⟩,
   ⟨(some 38), some undefA, none, false, .pu (.bin .neq (.s 37) (.c (.int .i64 0)))⟩])
 (.cond (.s 38) (.seq (.ops [⟨(some 39), some undefA, none, false, .call 17 []⟩,
    ⟨(some 2), some undefA, none, false, .pu (.mov (.s 39))⟩])
  (.ret))
 (.skip)))
 (.seq (.ops [⟨(some 41), some undefA, none, false, .pu (.badr none 1)⟩,
   ⟨(some 42), some undefA, none, false, .pu (.bget (some 41) 1 0 1 false)⟩,
   ⟨(some 43), some undefA, none, false, .pu (.badr none 1)⟩,
   ⟨(some 44), some undefA, none, false, .pu (.bget (some 43) 1 1 1 false)⟩,
   ⟨(some 45), some undefA, none, false, .call 21 [(.s 42), (.s 44)]⟩,
   ⟨(some 40), some undefA, none, false, .pu (.mov (.s 45))⟩,
   ⟨(some 46), some undefA, none, false, .pu (.extr 0 (.s 40))⟩,
   ⟨(some 47), some undefA, none, false, .pu (.extr 1 (.s 40))⟩,
   ⟨(some 7), some undefA, none, false, .pu (.mov (.s 46))⟩,
   ⟨(some 8), some undefA, none, false, .pu (.mov (.s 47))⟩])
 (.seq (.ops [⟨(some 48), some undefA, none, false, .pu (.mov (.s 8))⟩,
   ⟨(some 49), some undefA, none, false, .pu (.bin .eql (.s 48) (.c (.int .i64 0)))⟩,
   ⟨(some 50), some undefA, none, false, .pu (.mov (.s 49))⟩,
   ⟨(some 51), some undefA, (some (50, true)), false, .pu (.mov (.s 7))⟩,
   ⟨(some 52), some undefA, (some (50, true)), false, .pu (.mov (.s 3))⟩,
   ⟨(some 53), some undefA, (some (50, true)), false, .call 30 [(.s 51), (.s 52)]⟩,
   ⟨(some 54), some undefA, none, false, .pu (.pick (.s 50) (.s 53) (.c (.bool false)))⟩,
   ⟨(some 55), some undefA, none, false, .pu (.mov (.s 54))⟩,
   ⟨(some 56), some undefA, (some (55, true)), false, .call 17 []⟩,
   ⟨(some 57), some undefA, none, false, .pu (.pick (.s 55) (.s 56) (.c (.bool false)))⟩,
   ⟨(some 2), some undefA, none, false, .pu (.mov (.s 57))⟩])
 (.ret))))))))⟩
theorem t5 : trF Try.prog [1] [] Try.f5 = some m5 := by kernel_rfl
/-- selion/selionlaw03.ClaimEquals [] -/
def m9 : MFun := ⟨41, [], [.mov (.s 4)],
 .seq (.ops [⟨(some 4), some undefA, none, false, .pu (.mov (.c (.bool false)))⟩])
 (.seq (.seq (.ops [⟨(some 9), some undefA, none, false, .pu (.mov (.s 0))⟩,
   ⟨(some 10), some undefA, none, false, .pu (.len (.s 9))⟩,
   ⟨(some 11), some undefA, none, false, .pu (.bin .gtr (.s 10) (.c (.int .i64 40)))⟩,
   ⟨(some 12), some undefA, none, false, .pu (.mov (.s 11))⟩,
   ⟨(some 13), some undefA, (some (12, false)), false, .pu (.mov (.s 1))⟩,
   ⟨(some 14), some undefA, (some (12, false)), false, .pu (.len (.s 13))⟩,
   ⟨(some 15), some undefA, (some (12, false)), false, .pu (.bin .gtr (.s 14) (.c (.int .i64 40)))⟩,
   ⟨(some 16), some undefA, none, false, .pu (.pick (.s 12) (.c (.bool true)) (.s 15))⟩])
 (.cond (.s 16) (.seq (.ops [⟨(some 17), some undefA, none, false, .call 17 []⟩,
    ⟨(some 4), some undefA, none, false, .pu (.mov (.s 17))⟩])
  (.ret))
 (.skip)))
 (.seq (.ops [⟨(some 19), some undefA, none, false, .pu (.mov (.s 0))⟩,
   ⟨(some 20), some undefA, none, false, .pu (.mov (.s 1))⟩,
   ⟨(some 21), some undefA, none, false, .call 39 [(.s 19), (.s 20)]⟩,
   ⟨(some 18), some undefA, none, false, .pu (.mov (.s 21))⟩,
   ⟨(some 22), some undefA, none, false, .pu (.extr 0 (.s 18))⟩,
   ⟨(some 23), some undefA, none, false, .pu (.extr 1 (.s 18))⟩,
   ⟨(some 5), some undefA, none, false, .pu (.mov (.s 22))⟩,
   ⟨(some 6), some undefA, none, false, .pu (.mov (.s 23))⟩])
 (.seq (.ops [⟨(some 25), some undefA, none, false, .pu (.mov (.s 0))⟩,
   ⟨(some 26), some undefA, none, false, .pu (.mov (.s 1))⟩,
   ⟨(some 27), some undefA, none, false, .call 40 [(.s 25), (.s 26)]⟩,
   ⟨(some 24), some undefA, none, false, .pu (.mov (.s 27))⟩,
   ⟨(some 28), some undefA, none, false, .pu (.extr 0 (.s 24))⟩,
   ⟨(some 29), some undefA, none, false, .pu (.extr 1 (.s 24))⟩,
   ⟨(some 7), some undefA, none, false, .pu (.mov (.s 28))⟩,
   ⟨(some 8), some undefA, none, false, .pu (.mov (.s 29))⟩])
 (.seq (.ops [⟨(some 30), some undefA, none, false, .pu (.mov (.s 5))⟩,
   ⟨(some 31), some undefA, none, false, .pu (.mov (.s 7))⟩,
   ⟨(some 32), some undefA, none, false, .pu (.eqb false (.s 30) (.s 31))⟩,
   ⟨(some 33), some undefA, none, false, .pu (.mov (.s 32))⟩,
   ⟨(some 34), some undefA, (some (33, true)), false, .pu (.mov (.s 6))⟩,
   ⟨(some 35), some undefA, (some (33, true)), false, .pu (.mov (.s 8))⟩,
   ⟨(some 36), some undefA, (some (33, true)), false, .pu (.bin .eql (.s 34) (.s 35))⟩,
   ⟨(some 37), some undefA, none, false, .pu (.pick (.s 33) (.s 36) (.c (.bool false)))⟩,
   ⟨(some 38), some undefA, none, false, .pu (.mov (.s 37))⟩,
   ⟨(some 39), some undefA, (some (38, true)), false, .call 17 []⟩,
   ⟨(some 40), some undefA, none, false, .pu (.pick (.s 38) (.s 39) (.c (.bool false)))⟩,
   ⟨(some 4), some undefA, none, false, .pu (.mov (.s 40))⟩])
 (.ret)))))⟩
theorem t9 : trF Try.prog [] [] Try.f9 = some m9 := by kernel_rfl
end Go.Proofs.Ytdcdjhhjlpegjaa

namespace Go.Proofs.Ytdcdjhhjlpegjaa
open Go Go.Eng
theorem lc_dvd {a d : Int} : a ∣ a / (Int.gcd a d : Int) * d ∧ d ∣ a / (Int.gcd a d : Int) * d := by
  refine ⟨?_, Int.dvd_mul_left _ _⟩
  obtain ⟨k, hk⟩ := Int.gcd_dvd_right a d
  obtain ⟨m, hm⟩ := Int.gcd_dvd_left a d
  generalize hg : (Int.gcd a d : Int) = g at *
  by_cases h0 : g = 0
  · subst h0
    have h1 : a = 0 := by rw [hm, Int.zero_mul]
    have h2 : d = 0 := by rw [hk, Int.zero_mul]
    rw [h1, h2]; simp
  · have : a / g = m := by rw [hm, Int.mul_ediv_cancel_left _ h0]
    rw [this]
    exact ⟨k, by rw [hm, hk]; rw [Int.mul_comm g m, Int.mul_assoc]⟩
theorem cm_facts : ∀ (rs : List (Int × Int)) (a : Int), 1 ≤ a ∧ a ≤ 10000 → ¬ cm a rs = 0 → (∀ r ∈ rs, fitR r ∧ r.2 ∣ cm a rs) ∧ a ∣ cm a rs ∧ 1 ≤ cm a rs ∧ cm a rs ≤ 10000
  | [], a, ha, _ => ⟨by simp, Int.dvd_refl _, ha⟩
  | r :: rs, a, ha, h => by
    by_cases hf : fitR r
    · rw [cm_go hf] at h ⊢
      split at h
      · exact absurd rfl h
      · rename_i h6
        rw [if_neg h6]
        obtain ⟨q1, q2, q3, q4, q5, q6⟩ := lc_pos ha hf.1
        obtain ⟨k1, k2, k3⟩ := cm_facts rs (a / (Int.gcd a r.2 : Int) * r.2) ⟨q1, by omega⟩ h
        obtain ⟨d1, d2⟩ := lc_dvd (a := a) (d := r.2)
        refine ⟨fun x hx => ?_, Int.dvd_trans d1 k2, k3⟩
        rcases List.mem_cons.1 hx with rfl | hx
        · exact ⟨hf, Int.dvd_trans d2 k2⟩
        · exact k1 x hx
    · rw [cm_bad hf] at h
      exact absurd rfl h
section
variable {cs : List Int} {rs : List (Int × Int)} {v u : AV} {A : AHeap} {e : Int}
end
end Go.Proofs.Ytdcdjhhjlpegjaa

namespace Go.Proofs.Ytdcdjhhjlpegjaa
open Go Go.Eng
section
variable {cs : List Int} {v : AV} {A : AHeap} {e : Int}
end
end Go.Proofs.Ytdcdjhhjlpegjaa

namespace Go.Proofs.Ytdcdjhhjlpegjaa
open Go Go.Eng
/-- Numbers in ascending order. -/
def srt (xs : List Int) : List Int := xs.mergeSort (fun a b => decide (a ≤ b))
theorem srt_perm (xs : List Int) : (srt xs).Perm xs := List.mergeSort_perm xs _
theorem srt_pw (xs : List Int) : (srt xs).Pairwise (· ≤ ·) := by
  have := List.pairwise_mergeSort (le := fun a b : Int => decide (a ≤ b)) (fun a b c h k => by simp at *; omega) (fun a b => by simp; omega) xs
  exact this.imp (fun h => by simpa using h)
theorem srt_len (xs : List Int) : (srt xs).length = xs.length := (srt_perm xs).length_eq
theorem srt_uniq {zs xs : List Int} (hp : zs.Perm xs) (h : zs.Pairwise (· ≤ ·)) : zs = srt xs :=
  List.Perm.eq_of_pairwise (le := fun a b : Int => a ≤ b) (fun a b _ _ h1 h2 => by omega) h (srt_pw xs) (hp.trans (srt_perm xs).symm)
/-- The first elements are in order. -/
def SU (zs : List Int) (i : Nat) : Prop := ∀ (p q : Nat) (a b : Int), p < q → q < i → zs[p]? = some a → zs[q]? = some b → a ≤ b
theorem SU.one (zs : List Int) : SU zs 1 := fun p q a b h k => by omega
theorem SU.zero (zs : List Int) : SU zs 0 := fun p q a b h k => by omega
theorem SU.all {zs : List Int} (h : SU zs zs.length) : zs.Pairwise (· ≤ ·) := by
  rw [List.pairwise_iff_getElem]
  intro i j hi hj hij
  exact h i j _ _ hij hj (List.getElem?_eq_getElem hi) (List.getElem?_eq_getElem hj)
theorem SU.srt {zs xs : List Int} (hp : zs.Perm xs) {i : Nat} (h : SU zs i) (hi : xs.length ≤ i) : zs = srt xs := by
  refine srt_uniq hp (SU.all (fun p q a b h1 h2 => h p q a b h1 ?_))
  have := hp.length_eq
  omega
/-- An element that goes down to its place. -/
structure IS (xs zs : List Int) (i j : Nat) : Prop where
  perm : zs.Perm xs
  a : ∀ (p q : Nat) (a b : Int), p < q → q ≤ i → p ≠ j → q ≠ j → zs[p]? = some a → zs[q]? = some b → a ≤ b
  b : ∀ (q : Nat) (x y : Int), j < q → q ≤ i → zs[j]? = some x → zs[q]? = some y → x ≤ y
theorem IS.start {xs zs : List Int} {i : Nat} (hp : zs.Perm xs) (h : SU zs i) : IS xs zs i i :=
  ⟨hp, fun p q a b h1 h2 _ h4 => h p q a b h1 (by omega), fun q x y h1 h2 => by omega⟩
theorem IS.zero {xs zs : List Int} {i : Nat} (h : IS xs zs i 0) : SU zs (i + 1) := by
  intro p q a b h1 h2 h3 h4
  by_cases hp : p = 0
  · subst hp
    exact h.b q a b h1 (by omega) h3 h4
  · exact h.a p q a b h1 (by omega) hp (by omega) h3 h4
theorem IS.stop {xs zs : List Int} {i j : Nat} {x y : Int} (h : IS xs zs i (j + 1)) (hx : zs[j + 1]? = some x) (hy : zs[j]? = some y) (hxy : ¬ x < y) : SU zs (i + 1) := by
  intro p q a b h1 h2 h3 h4
  by_cases hq : q = j + 1
  · subst hq
    have hbx : b = x := by rw [hx] at h4; exact (Option.some.inj h4).symm
    subst hbx
    by_cases hp : p = j
    · subst hp
      have : a = y := by rw [hy] at h3; exact (Option.some.inj h3).symm
      omega
    · have := h.a p j a y (by omega) (by omega) (by omega) (by omega) h3 hy
      omega
  · by_cases hp : p = j + 1
    · subst hp
      exact h.b q a b h1 (by omega) h3 h4
    · exact h.a p q a b h1 (by omega) hp hq h3 h4
theorem swap_get {zs : List Int} {j : Nat} {x y : Int} (hj : j + 1 < zs.length) (k : Nat) : ((zs.set (j + 1) y).set j x)[k]? = if k = j then some x else if k = j + 1 then some y else zs[k]? := by
  rw [List.getElem?_set, List.getElem?_set]
  by_cases h1 : k = j
  · subst h1
    rw [if_pos rfl, if_pos rfl, if_pos (by simp; omega)]
  · rw [if_neg (Ne.symm h1), if_neg h1]
    by_cases h2 : k = j + 1
    · subst h2
      rw [if_pos rfl, if_pos rfl, if_pos hj]
    · rw [if_neg (Ne.symm h2), if_neg h2]
theorem IS.swap {xs zs : List Int} {i j : Nat} {x y : Int} (h : IS xs zs i (j + 1)) (hi : j + 1 ≤ i) (hx : zs[j + 1]? = some x) (hy : zs[j]? = some y) (hxy : x < y) : IS xs ((zs.set (j + 1) y).set j x) i j := by
  obtain ⟨h1, rfl⟩ := List.getElem?_eq_some_iff.1 hx
  obtain ⟨h2, rfl⟩ := List.getElem?_eq_some_iff.1 hy
  refine ⟨(List.set_set_perm h1 h2).trans h.perm, fun p q a b hpq hqi hp hq ha hb => ?_, fun q a b hjq hqi ha hb => ?_⟩
  · rw [swap_get h1] at ha hb
    rw [if_neg hp] at ha
    rw [if_neg hq] at hb
    by_cases hq1 : q = j + 1
    · rw [if_pos hq1] at hb
      rw [if_neg (by omega)] at ha
      have := h.a p j a zs[j] (by omega) (by omega) (by omega) (by omega) ha hy
      have := Option.some.inj hb
      omega
    · rw [if_neg hq1] at hb
      by_cases hp1 : p = j + 1
      · rw [if_pos hp1] at ha
        have := h.a j q zs[j] b (by omega) hqi (by omega) hq1 hy hb
        have := Option.some.inj ha
        omega
      · rw [if_neg hp1] at ha
        exact h.a p q a b hpq hqi hp1 hq1 ha hb
  · rw [swap_get h1] at ha hb
    rw [if_pos rfl] at ha
    rw [if_neg (by omega)] at hb
    have ha := Option.some.inj ha
    by_cases hq1 : q = j + 1
    · rw [if_pos hq1] at hb
      have := Option.some.inj hb
      omega
    · rw [if_neg hq1] at hb
      have := h.b q _ b (by omega) hqi hx hb
      omega
theorem s109 (a : Int) (A : AHeap) : ACalls Try.prog 109 [I a] A (B false) A := by
  refine acalls hmix Try.func109 (by kernel_rfl) t109 1 rfl (by decide) ?_
  dsimp only [m109]
  simp (maxSteps := 4000000) -implicitDefEqProofs -dsimp (disch := omega) only [↓AW_ops, ↓AW_seq, ↓AW_ret, ↓AOps_nil, ↓AOps_pu, on_some, ↓then_normal, ↓Fin_ret, pval, rd_S, rd_C, put_S, resV, resL, eq_self, List.replicate_succ, List.replicate_zero, List.set_cons_zero, List.set_cons_succ, List.getElem?_cons_zero, List.getElem?_cons_succ, Option.getD_some, Nat.reduceSub, List.cons_append, List.nil_append, bin_neq, decide_false, not_true_eq_false]
  exact gc_same rfl
theorem s98 (a b : Int) (A : AHeap) : ACalls Try.prog 98 [I a, I b] A (B (decide (a < b))) A := by
  refine acalls hmix Try.func98 (by kernel_rfl) t98 2 rfl (by decide) ?_
  dsimp only [m98]
  simp (maxSteps := 4000000) -implicitDefEqProofs -dsimp (disch := omega) only [↓AW_ops, ↓AW_seq, ↓AOps_nil, ↓AOps_pu, ↓AOps_call, on_some, ↓then_normal, pval, rd_S, rd_C, put_S, List.replicate_succ, List.replicate_zero, List.set_cons_zero, List.set_cons_succ, List.getElem?_cons_zero, List.getElem?_cons_succ, Option.getD_some, map_c, map_n, Nat.reduceSub, List.cons_append, List.nil_append]
  refine CallK.of (s109 a A) ?_
  simp (maxSteps := 4000000) -implicitDefEqProofs -dsimp (disch := omega) only [↓AW_ret, ↓AOps_nil, ↓AOps_pu, ↓AOps_guard, on_some, extK_same, guardB_ft, guardB_ff, skipS_some, ↓then_normal, ↓Fin_ret, pval, rd_S, rd_C, put_S, resV, resL, List.replicate_succ, List.replicate_zero, List.set_cons_zero, List.set_cons_succ, List.getElem?_cons_zero, List.getElem?_cons_succ, Option.getD_some, Nat.reduceSub, List.cons_append, List.nil_append, bin_lss, if_false, Bool.false_eq_true]
  exact gc_same rfl
theorem c_ins {xs : List Int} {v : AV} {A H : AHeap} {n : Nat} (h : OL 1 e1 A H n v xs) (hl : xs.length ≤ 1000) : ACalls Try.prog 92 [v, I 0, I xs.length] H (.tuple []) (H.set n (.cells true ((srt xs).flatMap e1))) := by
  refine acalls hmix Try.func92 (by kernel_rfl) t92 3 rfl (by decide) ?_
  dsimp only [m92]
  simp (maxSteps := 4000000) -implicitDefEqProofs -dsimp (disch := omega) only [↓AW_ops, ↓AW_seq, ↓AW_block, ↓AOps_nil, ↓AOps_pu, on_some, ↓then_normal, pval, rd_S, rd_C, put_S, ↓AW_toLoop, List.replicate_succ, List.replicate_zero, List.set_cons_zero, List.set_cons_succ, List.getElem?_cons_zero, List.getElem?_cons_succ, Option.getD_some, Nat.reduceSub, List.cons_append, List.nil_append, bin_add, w64, Int.reduceAdd]
  refine LoopK.by 49 (fun x : Nat × List Int => (1 ≤ x.1 ∧ x.1 ≤ xs.length + 1) ∧ x.2.Perm xs ∧ SU x.2 x.1) (fun x => [(0, v), (1, I 0), (2, I xs.length), (6, I x.1)]) (fun x => H.set n (.cells true (x.2.flatMap e1))) (fun x => xs.length + 1 - x.1) (1, xs) ⟨by simp only; omega, List.Perm.refl _, SU.one _⟩ rfl (by simp [Has, rd_s]) (by simp only; rw [set_same h.ob]) ?_
  rintro ⟨i, zs⟩ ⟨hi, hpz, hz⟩
  simp only at hi hpz hz
  by_cases hlt : i < xs.length
  · have hlt' : (i : Int) < xs.length := by omega
    simp (maxSteps := 4000000) -implicitDefEqProofs -dsimp (disch := omega) only [↓AW_skip, ↓AW_ops, ↓AW_seq, ↓AW_cond, ↓AW_block, ↓AOps_nil, ↓AOps_pu, on_some, condB_t, ↓then_normal, pval, rd_S, put_S, ↓AW_toLoop, mk, List.foldl_cons, List.foldl_nil, List.replicate_succ, List.replicate_zero, List.set_cons_zero, List.set_cons_succ, List.getElem?_cons_zero, List.getElem?_cons_succ, Option.getD_some, bin_lss, decide_true, hlt']
    refine LoopK.by 49 (fun x : Nat × List Int => x.1 ≤ i ∧ IS xs x.2 i x.1) (fun x => [(0, v), (1, I 0), (2, I xs.length), (6, I i), (7, I x.1)]) (fun x => H.set n (.cells true (x.2.flatMap e1))) (fun x => x.1) (i, zs) ⟨by simp only; omega, IS.start hpz hz⟩ rfl (by simp [Has, rd_s]) rfl ?_
    rintro ⟨j, ws⟩ ⟨hj, hs⟩
    simp only at hj hs
    have hlen := hs.perm.length_eq
    have ho := OL_setAll h ws hlen
    cases j with
    | zero =>
      have hz0 : ¬ ((0 : Nat) : Int) > 0 := by omega
      simp (maxSteps := 4000000) -implicitDefEqProofs -dsimp (disch := omega) only [↓AW_ops, ↓AW_seq, ↓AW_cond, ↓AW_exit, ↓AOps_nil, ↓AOps_pu, ↓AOps_guard, on_some, guardB_ft, skipS_some, condB_f, ↓then_normal, ↓then_exit, ↓inBlock_normal, ↓inBlock_exit, ↓Fin_normal, pval, rd_S, rd_C, put_S, resV, resL, eq_self, mk, List.foldl_cons, List.foldl_nil, List.replicate_succ, List.replicate_zero, List.set_cons_zero, List.set_cons_succ, List.getElem?_cons_zero, List.getElem?_cons_succ, Option.getD_some, List.length_cons, List.length_nil, Nat.reduceAdd, Nat.reduceEqDiff, Nat.zero_add, bin_add, bin_gtr, w64, if_true, if_false, Bool.false_eq_true, decide_false, true_and, reduceCtorEq, Int.reduceLT, Int.ofNat_zero]
      exact ⟨(i + 1, ws), ⟨by simp only; omega, hs.perm, hs.zero⟩, by simp [Has, rd_s], rfl, by simp only; omega⟩
    | succ k =>
      have hk1 : k + 1 < ws.length := by omega
      have hk0 : k < ws.length := by omega
      have hjp : (0 : Int) < ((k + 1 : Nat) : Int) := by omega
      have hjm : ((k + 1 : Nat) : Int) - 1 = (k : Int) := by omega
      obtain ⟨x, hx⟩ : ∃ x, ws[k + 1]? = some x := ⟨_, List.getElem?_eq_getElem hk1⟩
      obtain ⟨y, hy⟩ : ∃ y, ws[k]? = some y := ⟨_, List.getElem?_eq_getElem hk0⟩
      have h1 := ho.st hk1 (I y) y rfl
      rw [List.set_set] at h1
      have ho2 := OL_setAll h (ws.set (k + 1) y) (by simp [hlen])
      have h2 := ho2.st (i := k) (by simp; omega) (I x) x rfl
      rw [List.set_set] at h2
      have hswap := hs.swap (x := x) (y := y) hj hx hy
      have hstop := hs.stop hx hy
      generalize hJ : ((k + 1 : Nat) : Int) = J at *
      have hidx1 : idxA 1 v (.int .i64 J) = some (.ptr (nm v) (of v + (k + 1) * 1)) := by rw [← hJ]; exact ho.ls.idx hk1
      simp (maxSteps := 4000000) -implicitDefEqProofs -dsimp (disch := omega) only [↓AW_ops, ↓AW_seq, ↓AOps_pu, ↓AOps_ld, ↓AOps_call, ↓AOps_guard, on_some, guardB_tt, pval, lval, rd_S, rd_C, put_S, partA, eq_self, mk, List.foldl_cons, List.foldl_nil, List.replicate_succ, List.replicate_zero, List.set_cons_zero, List.set_cons_succ, List.getElem?_cons_zero, List.getElem?_cons_succ, List.drop_zero, List.take_succ_cons, List.take_nil, Option.getD_some, map_c, map_n, List.length_cons, List.length_nil, Nat.reduceLeDiff, Nat.zero_add, bin_sub, bin_gtr, w64, if_true, if_false, Bool.false_eq_true, decide_true, Go.Eng.e1, hjp, hjm, hidx1, ho.ls.ld0 hx 1 false (by decide), ho.ls.idx hk0, ho.ls.ld0 hy 1 false (by decide)]
      refine CallK.of (s98 x y _) ?_
      by_cases hxy : x < y
      · simp (maxSteps := 4000000) -implicitDefEqProofs -dsimp (disch := omega) only [↓AW_skip, ↓AW_ops, ↓AW_seq, ↓AW_cond, ↓AW_block, ↓AOps_nil, ↓AOps_pu, ↓AOps_ld, ↓AOps_ha, on_some, extK_false, extK_same, condB_t, ↓then_normal, ↓inBlock_normal, pval, lval, hval_st, rd_S, rd_C, put_S, putS_none, partA, eq_self, mk, List.foldl_cons, List.foldl_nil, List.replicate_succ, List.replicate_zero, List.set_cons_zero, List.set_cons_succ, List.getElem?_cons_zero, List.getElem?_cons_succ, List.drop_zero, List.take_succ_cons, List.take_nil, Option.getD_some, Option.map_some, List.length_cons, List.length_nil, Nat.reduceAdd, Nat.reduceLeDiff, Nat.zero_add, bin_sub, w64, if_true, if_false, Bool.false_eq_true, decide_true, Go.Eng.e1, true_and, hxy, hjm, hidx1, ho.ls.ld0 hx 1 false (by decide), ho.ls.idx hk0, ho.ls.ld0 hy 1 false (by decide), h1, h2]
        exact ⟨(k, (ws.set (k + 1) y).set k x), ⟨by simp only; omega, hswap hxy⟩, by simp [Has, rd_s], rfl, by simp only; omega⟩
      · simp (maxSteps := 4000000) -implicitDefEqProofs -dsimp (disch := omega) only [↓AW_ops, ↓AW_cond, ↓AW_exit, ↓AOps_nil, ↓AOps_pu, on_some, extK_same, condB_f, ↓then_normal, ↓then_exit, ↓inBlock_normal, ↓inBlock_exit, ↓Fin_normal, pval, rd_S, rd_C, put_S, resV, resL, eq_self, mk, List.foldl_cons, List.foldl_nil, List.replicate_succ, List.replicate_zero, List.set_cons_zero, List.set_cons_succ, List.getElem?_cons_zero, List.getElem?_cons_succ, Option.getD_some, List.length_cons, List.length_nil, Nat.reduceAdd, Nat.reduceEqDiff, Nat.zero_add, bin_add, w64, if_true, if_false, decide_false, true_and, reduceCtorEq, hxy]
        exact ⟨(i + 1, ws), ⟨by simp only; omega, hs.perm, hstop hxy⟩, by simp [Has, rd_s], rfl, by simp only; omega⟩
  · have hlt' : ¬ (i : Int) < xs.length := by omega
    have he := SU.srt hpz hz (by omega)
    simp (maxSteps := 4000000) -implicitDefEqProofs -dsimp (disch := omega) only [↓AW_ops, ↓AW_seq, ↓AW_cond, ↓AW_exit, ↓AOps_nil, ↓AOps_pu, on_some, condB_f, ↓then_normal, ↓then_exit, ↓inBlock_exit, ↓Fin_normal, pval, rd_S, put_S, resV, resL, eq_self, mk, List.foldl_cons, List.foldl_nil, List.replicate_succ, List.replicate_zero, List.set_cons_zero, List.set_cons_succ, List.getElem?_cons_zero, List.getElem?_cons_succ, Option.getD_some, bin_lss, if_true, decide_false, hlt']
    rw [he]
    exact gc_same_all rfl rfl
theorem c_pdq {xs : List Int} {v : AV} {A H : AHeap} {n : Nat} (h : OL 1 e1 A H n v xs) (hl : xs.length ≤ 12) (k : Int) : ACalls Try.prog 83 [v, I 0, I xs.length, I k] H (.tuple []) (H.set n (.cells true ((srt xs).flatMap e1))) := by
  refine acalls hmix Try.func83 (by kernel_rfl) t83 4 rfl (by decide) ?_
  dsimp only [m83]
  simp (maxSteps := 4000000) -implicitDefEqProofs -dsimp (disch := omega) only [↓AW_ops, ↓AW_seq, ↓AW_block, ↓AOps_nil, ↓AOps_pu, on_some, ↓then_normal, pval, rd_C, put_S, ↓AW_toLoop, List.replicate_succ, List.replicate_zero, List.set_cons_zero, List.set_cons_succ, Nat.reduceSub, List.cons_append, List.nil_append]
  refine LoopK.by 134 (fun _ : Unit => True) (fun _ => [(0, v), (1, I 0), (2, I xs.length), (3, I k), (8, B true), (9, B true)]) (fun _ => H) (fun _ => 0) () trivial rfl (by simp [Has, rd_s]) rfl ?_
  rintro _ _
  have h12 : (xs.length : Int) ≤ 12 := by omega
  have h0 : (xs.length : Int) - 0 = xs.length := by omega
  simp (maxSteps := 4000000) -implicitDefEqProofs -dsimp (disch := omega) only [↓AW_ops, ↓AW_seq, ↓AW_cond, ↓AW_block, ↓AOps_nil, ↓AOps_pu, ↓AOps_call, on_some, condB_t, ↓then_normal, pval, rd_S, rd_C, put_S, mk, List.foldl_cons, List.foldl_nil, List.replicate_succ, List.replicate_zero, List.set_cons_zero, List.set_cons_succ, List.getElem?_cons_zero, List.getElem?_cons_succ, Option.getD_some, map_c, map_n, bin_sub, bin_leq, w64, decide_true, h0, h12]
  refine CallK.of (c_ins h (by omega)) ?_
  simp (maxSteps := 4000000) -implicitDefEqProofs -dsimp (disch := omega) only [↓AW_ret, ↓AOps_nil, on_some, extK_false, ↓then_normal, ↓then_ret, ↓inBlock_ret, ↓Fin_ret, resV, resL]
  exact gc_same_all rfl rfl
def isI : Option (AV × AHeap) → Bool
  | some (.int .i64 _, _) => true
  | _ => false
set_option maxRecDepth 100000 in
theorem len_run : (List.range 13).all (fun k => isI (runF tab 300 14 84 [.int .u64 (k : Int)] [])) = true := by kernel_rfl
theorem c_Len {k : Nat} (hk : k ≤ 12) (A : AHeap) : ∃ n : Int, ACalls Try.prog 84 [.int .u64 (k : Int)] A (I n) A := by
  have h := List.all_eq_true.1 len_run k (List.mem_range.2 (by omega))
  cases hr : runF tab 300 14 84 [.int .u64 (k : Int)] [] with
  | none => rw [hr] at h; cases h
  | some p =>
    obtain ⟨v, A'⟩ := p
    rw [hr] at h
    have h2 : ∃ n, v = I n := by
      unfold isI at h
      split at h
      · rename_i m _ e; cases e; exact ⟨m, rfl⟩
      · cases h
    obtain ⟨n, rfl⟩ := h2
    exact ⟨n, (runF_ok hmix tabOK 300 14 84 [.int .u64 (k : Int)] [] _ _ hr).lift (by simp [flat]) rfl A⟩
theorem wu64 {n : Int} (h0 : 0 ≤ n) (h1 : n < 18446744073709551616) : IntKind.u64.wrap n = n := by
  have : (2 : Int) ^ IntKind.u64.bits = 18446744073709551616 := by decide
  unfold IntKind.wrap
  simp only [this, IntKind.signed, Bool.false_and, Bool.false_eq_true, if_false]
  exact Int.emod_eq_of_lt h0 h1
theorem c_Sort {xs : List Int} {v : AV} {A H : AHeap} {n : Nat} (h : OL 1 e1 A H n v xs) (hl : xs.length ≤ 12) : ACalls Try.prog 72 [v] H (.tuple []) (H.set n (.cells true ((srt xs).flatMap e1))) := by
  refine acalls hmix Try.func72 (by kernel_rfl) t72 1 rfl (by decide) ?_
  obtain ⟨k, hk⟩ := c_Len hl H
  have hw := wu64 (n := (xs.length : Int)) (by omega) (by omega)
  dsimp only [m72]
  simp (maxSteps := 4000000) -implicitDefEqProofs -dsimp (disch := omega) only [↓AW_ops, ↓AW_seq, ↓AOps_nil, ↓AOps_pu, ↓AOps_call, on_some, ↓then_normal, pval, rd_S, put_S, List.replicate_succ, List.replicate_zero, List.set_cons_zero, List.set_cons_succ, List.getElem?_cons_zero, List.getElem?_cons_succ, Option.getD_some, map_c, map_n, Nat.reduceSub, List.cons_append, List.nil_append, h.ls.len, hw]
  refine CallK.of hk ?_
  simp (maxSteps := 4000000) -implicitDefEqProofs -dsimp (disch := omega) only [↓AOps_call, extK_same, rd_S, rd_C, put_S, List.replicate_succ, List.replicate_zero, List.set_cons_zero, List.set_cons_succ, List.getElem?_cons_zero, List.getElem?_cons_succ, Option.getD_some, map_c, map_n, Nat.reduceSub, List.cons_append, List.nil_append]
  refine CallK.of (c_pdq h hl k) ?_
  simp (maxSteps := 4000000) -implicitDefEqProofs -dsimp (disch := omega) only [↓AOps_nil, on_some, extK_false, ↓Fin_normal, resV, resL]
  exact gc_same_all rfl rfl
end Go.Proofs.Ytdcdjhhjlpegjaa

namespace Go.Proofs.Ytdcdjhhjlpegjaa
open Go Go.Eng
theorem perm_is {xs ys : List Int} (h : xs.Perm ys) : xs.sum = ys.sum := by
  induction h with
  | nil => rfl
  | cons x _ ih => rw [List.sum_cons, List.sum_cons, ih]
  | swap x y l => simp only [List.sum_cons]; omega
  | trans _ _ h1 h2 => exact h1.trans h2
theorem OL_gcS' {α : Type} {es : Nat} {e : α → List AV} {A H : AHeap} {n : Nat} {v : AV} {xs : List α} (h : OL es e A H n v xs) (hf : ∀ x, ∀ y ∈ e x, flat y = true) : GC A v H (.sl es A.length 0 xs.length false) (A ++ [.cells true (xs.flatMap e)]) := by
  obtain ⟨he, h1, h2, h3, full, rfl⟩ := h
  have hfl : ∀ y ∈ xs.flatMap e, flat y = true := fun y hy => by
    obtain ⟨x, _, hx⟩ := List.mem_flatMap.1 hy
    exact hf x y hx
  refine gc_weak (fun ρ c => VR.unfull) ?_
  have hk := Keep.add (keep_old h1) (n := n) (o := .cells true (xs.flatMap e)) h2 (by simp; omega) h3
  simp only [renO, ren_flats _ 3 _ hfl] at hk
  exact gc_keep hk (by simp [ren])
theorem c_sorted {xs : List Int} {w : AV} {A : AHeap} (hx : L1 A w xs) (hl : xs.length ≤ 1000) : ACalls Try.prog 73 [w] A (.sl 1 A.length 0 xs.length false) (A ++ [.cells true ((srt xs).flatMap e1)]) := by
  refine acalls hmix Try.func73 (by kernel_rfl) t73 1 rfl (by decide) ?_
  obtain ⟨v, n, H, happ, h⟩ := app_new hx (by simp [lim]; omega)
  dsimp only [m73]
  simp (maxSteps := 4000000) -implicitDefEqProofs -dsimp (disch := omega) only [↓AW_ops, ↓AW_seq, ↓AW_block, ↓AOps_nil, ↓AOps_pu, ↓AOps_ha, on_some, extK_false, extK_app, ↓then_normal, pval, hval_blds, hval_app, rd_S, rd_C, put_S, ↓AW_toLoop, fillA, repl, List.replicate_succ, List.replicate_zero, List.set_cons_zero, List.set_cons_succ, List.getElem?_cons_zero, List.getElem?_cons_succ, Option.getD_some, map_n, Nat.reduceSub, List.cons_append, List.nil_append, List.replicate_zero, repl, happ]
  refine LoopK.by 49 (fun x : Nat × List Int => x.1 ≤ xs.length ∧ x.2.Perm xs ∧ SU x.2 x.1) (fun x => [(3, v), (4, I x.1)]) (fun x => H.set n (.cells true (x.2.flatMap e1))) (fun x => xs.length - x.1) (0, xs) ⟨by simp only; omega, List.Perm.refl _, SU.zero _⟩ rfl (by simp [Has, rd_s]) (by simp only; rw [set_same h.ob]) ?_
  rintro ⟨i, zs⟩ ⟨hi, hpz, hz⟩
  simp only at hi hpz hz
  have hzl := hpz.length_eq
  have hoz := OL_setAll h zs hzl
  have hzl' : (zs.length : Int) = xs.length := by omega
  by_cases hlt : i < xs.length
  · have hlt' : (i : Int) < xs.length := by omega
    simp (maxSteps := 4000000) -implicitDefEqProofs -dsimp (disch := omega) only [↓AW_skip, ↓AW_ops, ↓AW_seq, ↓AW_cond, ↓AW_block, ↓AOps_nil, ↓AOps_pu, on_some, condB_t, ↓then_normal, pval, rd_S, put_S, ↓AW_toLoop, mk, List.foldl_cons, List.foldl_nil, List.replicate_succ, List.replicate_zero, List.set_cons_zero, List.set_cons_succ, List.getElem?_cons_zero, List.getElem?_cons_succ, Option.getD_some, bin_lss, decide_true, hoz.ls.len, hzl', hlt']
    refine LoopK.by 49 (fun x : Nat × List Int => x.1 ≤ i ∧ IS xs x.2 i x.1) (fun x => [(3, v), (4, I i), (5, I x.1)]) (fun x => H.set n (.cells true (x.2.flatMap e1))) (fun x => x.1) (i, zs) ⟨by simp only; omega, IS.start hpz hz⟩ rfl (by simp [Has, rd_s]) rfl ?_
    rintro ⟨j, ws⟩ ⟨hj, hs⟩
    simp only at hj hs
    have hlen := hs.perm.length_eq
    have ho := OL_setAll h ws hlen
    cases j with
    | zero =>
      simp (maxSteps := 4000000) -implicitDefEqProofs -dsimp (disch := omega) only [↓AW_ops, ↓AW_seq, ↓AW_cond, ↓AW_exit, ↓AW_ret, ↓AOps_nil, ↓AOps_pu, ↓AOps_guard, on_some, guardB_ft, skipS_some, condB_f, ↓then_normal, ↓then_exit, ↓inBlock_normal, ↓inBlock_exit, ↓Fin_ret, pval, rd_S, rd_C, put_S, resV, resL, eq_self, mk, List.foldl_cons, List.foldl_nil, List.replicate_succ, List.replicate_zero, List.set_cons_zero, List.set_cons_succ, List.getElem?_cons_zero, List.getElem?_cons_succ, Option.getD_some, List.length_cons, List.length_nil, Nat.reduceAdd, Nat.reduceEqDiff, Nat.zero_add, bin_add, bin_gtr, w64, if_true, if_false, Bool.false_eq_true, decide_false, true_and, reduceCtorEq, Int.reduceLT, Int.ofNat_zero]
      exact ⟨(i + 1, ws), ⟨by simp only; omega, hs.perm, hs.zero⟩, by simp [Has, rd_s], rfl, by simp only; omega⟩
    | succ k =>
      have hk1 : k + 1 < ws.length := by omega
      have hk0 : k < ws.length := by omega
      have hjp : (0 : Int) < ((k + 1 : Nat) : Int) := by omega
      have hjm : ((k + 1 : Nat) : Int) - 1 = (k : Int) := by omega
      obtain ⟨x, hx⟩ : ∃ x, ws[k + 1]? = some x := ⟨_, List.getElem?_eq_getElem hk1⟩
      obtain ⟨y, hy⟩ : ∃ y, ws[k]? = some y := ⟨_, List.getElem?_eq_getElem hk0⟩
      have h1 := ho.st hk1 (I y) y rfl
      rw [List.set_set] at h1
      have ho2 := OL_setAll h (ws.set (k + 1) y) (by simp [hlen])
      have h2 := ho2.st (i := k) (by simp; omega) (I x) x rfl
      rw [List.set_set] at h2
      have hswap := hs.swap (x := x) (y := y) hj hx hy
      have hstop := hs.stop hx hy
      generalize hJ : ((k + 1 : Nat) : Int) = J at *
      have hidx1 : idxA 1 v (.int .i64 J) = some (.ptr (nm v) (of v + (k + 1) * 1)) := by rw [← hJ]; exact ho.ls.idx hk1
      by_cases hxy : x < y
      · simp (maxSteps := 4000000) -implicitDefEqProofs -dsimp (disch := omega) only [↓AW_skip, ↓AW_ops, ↓AW_seq, ↓AW_cond, ↓AW_block, ↓AOps_nil, ↓AOps_pu, ↓AOps_ld, ↓AOps_ha, ↓AOps_guard, on_some, extK_false, guardB_tt, condB_t, ↓then_normal, ↓inBlock_normal, pval, lval, hval_st, rd_S, rd_C, put_S, putS_none, partA, eq_self, mk, List.foldl_cons, List.foldl_nil, List.replicate_succ, List.replicate_zero, List.set_cons_zero, List.set_cons_succ, List.getElem?_cons_zero, List.getElem?_cons_succ, List.drop_zero, List.take_succ_cons, List.take_nil, Option.getD_some, Option.map_some, List.length_cons, List.length_nil, Nat.reduceAdd, Nat.reduceLeDiff, Nat.zero_add, bin_sub, bin_lss, bin_gtr, w64, if_true, if_false, Bool.false_eq_true, decide_true, Go.Eng.e1, true_and, hjp, hjm, hidx1, ho.ls.ld0 hx 1 false (by decide), ho.ls.idx hk0, ho.ls.ld0 hy 1 false (by decide), hxy, h1, h2]
        exact ⟨(k, (ws.set (k + 1) y).set k x), ⟨by simp only; omega, hswap hxy⟩, by simp [Has, rd_s], rfl, by simp only; omega⟩
      · simp (maxSteps := 4000000) -implicitDefEqProofs -dsimp (disch := omega) only [↓AW_ops, ↓AW_seq, ↓AW_cond, ↓AW_exit, ↓AW_ret, ↓AOps_nil, ↓AOps_pu, ↓AOps_ld, ↓AOps_guard, on_some, guardB_tt, condB_f, ↓then_normal, ↓then_exit, ↓inBlock_normal, ↓inBlock_exit, ↓Fin_ret, pval, lval, rd_S, rd_C, put_S, resV, resL, partA, eq_self, mk, List.foldl_cons, List.foldl_nil, List.replicate_succ, List.replicate_zero, List.set_cons_zero, List.set_cons_succ, List.getElem?_cons_zero, List.getElem?_cons_succ, List.drop_zero, List.take_succ_cons, List.take_nil, Option.getD_some, List.length_cons, List.length_nil, Nat.reduceAdd, Nat.reduceLeDiff, Nat.reduceEqDiff, Nat.zero_add, bin_add, bin_sub, bin_lss, bin_gtr, w64, if_true, if_false, Bool.false_eq_true, decide_true, decide_false, Go.Eng.e1, true_and, reduceCtorEq, hjp, hjm, hidx1, ho.ls.ld0 hx 1 false (by decide), ho.ls.idx hk0, ho.ls.ld0 hy 1 false (by decide), hxy]
        exact ⟨(i + 1, ws), ⟨by simp only; omega, hs.perm, hstop hxy⟩, by simp [Has, rd_s], rfl, by simp only; omega⟩
  · have hlt' : ¬ (i : Int) < xs.length := by omega
    have he := SU.srt hpz hz (by omega)
    simp (maxSteps := 4000000) -implicitDefEqProofs -dsimp (disch := omega) only [↓AW_ops, ↓AW_seq, ↓AW_cond, ↓AW_exit, ↓AW_ret, ↓AOps_nil, ↓AOps_pu, on_some, condB_f, ↓then_normal, ↓then_exit, ↓inBlock_exit, ↓Fin_ret, pval, rd_S, put_S, resV, resL, eq_self, mk, List.foldl_cons, List.foldl_nil, List.replicate_succ, List.replicate_zero, List.set_cons_zero, List.set_cons_succ, List.getElem?_cons_zero, List.getElem?_cons_succ, Option.getD_some, bin_lss, if_true, decide_false, hoz.ls.len, hzl', hlt']
    rw [he] at hoz ⊢
    have hg := OL_gcS' hoz flat_e1
    rw [srt_len] at hg
    exact hg
/-- A list that may be compared. -/
def okQ (xs : List (Int × Int)) : Prop := ¬ cm 1 xs = 0 ∧ (1 : Int) ≤ xs.length ∧ (xs.length : Int) ≤ 8
instance (xs : List (Int × Int)) : Decidable (okQ xs) := by unfold okQ; exact inferInstance
/-- The sums of the smallest ones of a first list, over their denominators, are not below those of a second one. -/
def meP (a b : List Int) (dx dy : Int) (n : Nat) : Prop := ∀ j, j < n → ((srt b).take j).sum * dx ≤ ((srt a).take j).sum * dy
instance (a b : List Int) (dx dy : Int) (n : Nat) : Decidable (meP a b dx dy n) := by unfold meP; exact inferInstance
def oX (xs : List (Int × Int)) : List Int := ov (cm 1 xs) xs
def meE (xs ys : List (Int × Int)) : Int := if okQ xs ∧ okQ ys then (if xs.length = ys.length ∧ (oX xs).sum * cm 1 ys = (oX ys).sum * cm 1 xs then 0 else 5) else 1
def meB (xs ys : List (Int × Int)) : Bool := decide (meE xs ys = 0 ∧ meP (oX xs) (oX ys) (cm 1 xs) (cm 1 ys) xs.length)
theorem meE_1 {xs ys : List (Int × Int)} (h : ¬ (okQ xs ∧ okQ ys)) : meE xs ys = 1 := by unfold meE; rw [if_neg h]
theorem meE_5 {xs ys : List (Int × Int)} (h : okQ xs ∧ okQ ys) (h2 : ¬ (xs.length = ys.length ∧ (oX xs).sum * cm 1 ys = (oX ys).sum * cm 1 xs)) : meE xs ys = 5 := by unfold meE; rw [if_pos h, if_neg h2]
theorem meE_0 {xs ys : List (Int × Int)} (h : okQ xs ∧ okQ ys) (h2 : xs.length = ys.length ∧ (oX xs).sum * cm 1 ys = (oX ys).sum * cm 1 xs) : meE xs ys = 0 := by unfold meE; rw [if_pos h, if_pos h2]
theorem meB_e {xs ys : List (Int × Int)} (h : ¬ meE xs ys = 0) : meB xs ys = false := by unfold meB; exact decide_eq_false (fun hh => h hh.1)
structure QF (xs : List (Int × Int)) : Prop where
  f : ∀ r ∈ xs, fitR r
  d : 0 ≤ cm 1 xs ∧ cm 1 xs ≤ 10000
  b : ∀ x ∈ oX xs, 0 ≤ x ∧ x ≤ 100000000000
  l : (oX xs).length = xs.length
  s : ∀ k, 0 ≤ ((srt (oX xs)).take k).sum ∧ ((srt (oX xs)).take k).sum ≤ 800000000000
  t : 0 ≤ (oX xs).sum ∧ (oX xs).sum ≤ 800000000000
theorem okQ.qf {xs : List (Int × Int)} (h : okQ xs) : QF xs := by
  obtain ⟨h1, h2, h3⟩ := h
  obtain ⟨hf, _, hc1, hc2⟩ := cm_facts xs 1 (by omega) h1
  have hb : ∀ x ∈ oX xs, 0 ≤ x ∧ x ≤ 100000000000 := by
    intro x hx
    obtain ⟨r, hr, rfl⟩ := List.mem_map.1 hx
    exact (ov_bd ⟨by omega, hc2⟩ (hf r hr).1).2.2
  have hl : (oX xs).length = xs.length := ov_len _ _
  refine ⟨fun r hr => (hf r hr).1, ⟨by omega, hc2⟩, hb, hl, fun k => ?_, ?_⟩
  · have h5 := sum_bd0 (K := 100000000000) (l := (srt (oX xs)).take k) (fun x hx => hb x ((srt_perm _).mem_iff.1 (List.mem_of_mem_take hx)))
    have h6 : ((srt (oX xs)).take k).length ≤ 8 := by rw [List.length_take, srt_len]; omega
    omega
  · have h5 := sum_bd0 (K := 100000000000) (l := oX xs) hb
    omega
section
variable {xs ys : List (Int × Int)} {v u : AV} {A : AHeap}
theorem outV_pos {es : Nat} {A : AHeap} {k : Nat} (h : 0 < k) : outV es A k = .sl es A.length 0 k false := by unfold outV; rw [if_neg (by omega)]
theorem outH_pos {A : AHeap} {cs : List AV} {k : Nat} (h : 0 < k) : outH A cs k = A ++ [.cells true cs] := by unfold outH; rw [if_neg (by omega)]
theorem Ls_cells {α : Type} {es : Nat} {e : α → List AV} {A : AHeap} {u : AV} {xs : List α} (h : Ls es e A u xs) : u.cells? = some [u] := by
  rcases h.inv with ⟨rfl, _⟩ | ⟨n, off, full, rw, l, rfl, _⟩ <;> rfl
def ev (x : AV × List (Int × Int)) : List AV := [x.1]
theorem mul_w {s d : Int} (hs : 0 ≤ s ∧ s ≤ 800000000000) (hd : 0 ≤ d ∧ d ≤ 10000) : 0 ≤ s * d ∧ s * d ≤ 8000000000000000 := by
  have m1 := Int.mul_le_mul hs.2 hd.2 hd.1 (by omega : (0 : Int) ≤ 800000000000)
  have m2 := Int.mul_nonneg hs.1 hd.1
  omega
set_option maxHeartbeats 4000000 in
theorem s39 (hx : L2 A v xs) (hy : L2 A u ys) (hl : xs.length ≤ 1000000) (hl2 : ys.length ≤ 1000000) : ACalls Try.prog 39 [v, u] A (.tuple [B (meB xs ys), I (meE xs ys)]) A := by
  refine acalls hmix Try.func39 (by kernel_rfl) t39 2 rfl (by decide) ?_
  have hp0 := pre_app A [AObj.cells true [v, u]]
  have hL : Ls 1 ev (A ++ [AObj.cells true [v, u]]) (.sl 1 A.length 0 2 true) [(v, xs), (u, ys)] := by
    refine ⟨fun _ => rfl, ?_⟩
    simp [slCells, cellsAt, ev]
  have hvc := Ls_cells hx
  have huc := Ls_cells hy
  dsimp only [m39]
  simp (maxSteps := 4000000) -implicitDefEqProofs -dsimp (disch := omega) only [↓AW_ops, ↓AW_seq, ↓AOps_nil, ↓AOps_pu, ↓AOps_ha, on_some, extK_app, ↓then_normal, pval, hval_blds, rd_S, rd_C, put_S, splice, fillA, repl, eq_self, List.replicate_succ, List.replicate_zero, List.set_cons_zero, List.set_cons_succ, List.getElem?_cons_zero, List.getElem?_cons_succ, List.drop_zero, List.drop_succ_cons, List.drop_nil, List.take_zero, List.take_succ_cons, Option.getD_some, map_c, map_n, List.length_cons, List.length_nil, Nat.reduceAdd, Nat.reduceSub, Nat.reduceLeDiff, Nat.zero_add, List.cons_append, List.nil_append, List.append_nil, if_true, and_true, hvc, huc]
  generalize A ++ [AObj.cells true [v, u]] = A0 at *
  have hl2' : lenA (.sl 1 A.length 0 2 true) = some (I 2) := rfl
  generalize AV.sl 1 A.length 0 2 true = w at *
  have hx0 := hx.mono hp0
  have hy0 := hy.mono hp0
  have hin : ∀ x ∈ [(v, xs), (u, ys)], L2 A0 x.1 x.2 ∧ x.2.length ≤ 1000000 := by
    intro x hxm
    simp only [List.mem_cons, List.not_mem_nil, or_false] at hxm
    rcases hxm with rfl | rfl
    · exact ⟨hx0, hl⟩
    · exact ⟨hy0, hl2⟩
  simp (maxSteps := 4000000) -implicitDefEqProofs -dsimp (disch := omega) only [↓AW_block, ↓AOps_nil, ↓AOps_pu, on_some, ↓then_normal, pval, rd_C, put_S, ↓AW_toLoop, List.replicate_succ, List.replicate_zero, List.set_cons_zero, List.set_cons_succ, Nat.reduceSub, List.cons_append, List.nil_append, hl2']
  have bad : ¬ (okQ xs ∧ okQ ys) → GC A (.tuple [B false, I 1]) A0 (.tuple [B (meB xs ys), I (meE xs ys)]) A := by
    intro h
    have h1 := meE_1 h
    rw [meB_e (by omega), h1]
    exact gc_val hp0 rfl
  refine LoopK.by 98 (fun i : Nat => i ≤ 2 ∧ ∀ x ∈ [(v, xs), (u, ys)].take i, okQ x.2) (fun i => [(0, v), (1, u), (19, w), (20, I 2), (21, I i)]) (fun _ => A0) (fun i => 2 - i) 0 ⟨by omega, by simp⟩ rfl (by simp [Has, rd_s]) rfl ?_
  rintro i ⟨hi, hok⟩
  by_cases hlt : i < [(v, xs), (u, ys)].length
  · obtain ⟨z, hz⟩ : ∃ z, [(v, xs), (u, ys)][i]? = some z := ⟨_, List.getElem?_eq_getElem hlt⟩
    have hlt' : (i : Int) < 2 := by simp at hlt; omega
    have hzm := List.mem_of_getElem? hz
    obtain ⟨hz1, hz2⟩ := hin z hzm
    have hzbad : ¬ okQ z.2 → ¬ (okQ xs ∧ okQ ys) := by
      intro h hh
      simp only [List.mem_cons, List.not_mem_nil, or_false] at hzm
      rcases hzm with rfl | rfl
      · exact h hh.1
      · exact h hh.2
    simp (maxSteps := 4000000) -implicitDefEqProofs -dsimp (disch := omega) only [↓AW_skip, ↓AW_ops, ↓AW_seq, ↓AW_cond, ↓AW_block, ↓AOps_nil, ↓AOps_pu, ↓AOps_ld, ↓AOps_call, on_some, condB_t, ↓then_normal, pval, lval, rd_S, put_S, partA, eq_self, mk, List.foldl_cons, List.foldl_nil, List.replicate_succ, List.replicate_zero, List.set_cons_zero, List.set_cons_succ, List.getElem?_cons_zero, List.getElem?_cons_succ, List.drop_zero, List.take_succ_cons, List.take_nil, Option.getD_some, map_c, map_n, List.length_cons, List.length_nil, Nat.reduceLeDiff, Nat.zero_add, bin_lss, if_true, if_false, Bool.false_eq_true, decide_true, hlt', hL.idx hlt, hL.ld0 hz 1 false (by decide), ev]
    refine CallK.of (c_common hz1 hz2) ?_
    by_cases h1 : cm 1 z.2 = 0
    · simp (maxSteps := 4000000) -implicitDefEqProofs -dsimp (disch := omega) only [↓AW_ops, ↓AW_seq, ↓AW_cond, ↓AW_ret, ↓AOps_nil, ↓AOps_pu, ↓AOps_guard, on_some, extK_same, guardB_tf, skipS_some, condB_t, ↓then_normal, ↓then_ret, ↓inBlock_ret, ↓Fin_ret, pval, rd_S, rd_C, put_S, resV, resL, eq_self, mk, List.foldl_cons, List.foldl_nil, List.replicate_succ, List.replicate_zero, List.set_cons_zero, List.set_cons_succ, List.getElem?_cons_zero, List.getElem?_cons_succ, Option.getD_some, if_true, Bool.not_true, Bool.not_false, decide_true, h1]
      exact bad (hzbad (fun hh => hh.1 h1))
    by_cases h2 : (z.2.length : Int) < 1
    · simp (maxSteps := 4000000) -implicitDefEqProofs -dsimp (disch := omega) only [↓AW_ops, ↓AW_seq, ↓AW_cond, ↓AW_ret, ↓AOps_nil, ↓AOps_pu, ↓AOps_guard, on_some, extK_same, guardB_tf, guardB_ff, skipS_some, condB_t, ↓then_normal, ↓then_ret, ↓inBlock_ret, ↓Fin_ret, pval, rd_S, rd_C, put_S, resV, resL, eq_self, mk, List.foldl_cons, List.foldl_nil, List.replicate_succ, List.replicate_zero, List.set_cons_zero, List.set_cons_succ, List.getElem?_cons_zero, List.getElem?_cons_succ, Option.getD_some, bin_lss, if_true, if_false, Bool.false_eq_true, Bool.not_true, Bool.not_false, decide_true, decide_false, h1, hz1.len, h2]
      exact bad (hzbad (fun hh => by have := hh.2; omega))
    by_cases h3 : (8 : Int) < z.2.length
    · simp (maxSteps := 4000000) -implicitDefEqProofs -dsimp (disch := omega) only [↓AW_ops, ↓AW_seq, ↓AW_cond, ↓AW_ret, ↓AOps_nil, ↓AOps_pu, ↓AOps_guard, on_some, extK_same, guardB_ff, condB_t, ↓then_normal, ↓then_ret, ↓inBlock_ret, ↓Fin_ret, pval, rd_S, rd_C, put_S, resV, resL, mk, List.foldl_cons, List.foldl_nil, List.replicate_succ, List.replicate_zero, List.set_cons_zero, List.set_cons_succ, List.getElem?_cons_zero, List.getElem?_cons_succ, Option.getD_some, bin_lss, bin_gtr, if_false, Bool.false_eq_true, Bool.not_true, Bool.not_false, decide_true, decide_false, h1, hz1.len, h2, h3]
      exact bad (hzbad (fun hh => by have := hh.2; omega))
    simp (maxSteps := 4000000) -implicitDefEqProofs -dsimp (disch := omega) only [↓AW_skip, ↓AW_ops, ↓AW_seq, ↓AW_cond, ↓AOps_nil, ↓AOps_pu, ↓AOps_guard, on_some, extK_same, guardB_ff, condB_f, ↓then_normal, ↓inBlock_normal, pval, rd_S, rd_C, put_S, eq_self, mk, List.foldl_cons, List.foldl_nil, List.replicate_succ, List.replicate_zero, List.set_cons_zero, List.set_cons_succ, List.getElem?_cons_zero, List.getElem?_cons_succ, Option.getD_some, List.length_cons, List.length_nil, Nat.reduceAdd, Nat.zero_add, bin_add, bin_lss, bin_gtr, w64, if_false, Bool.false_eq_true, Bool.not_true, Bool.not_false, decide_false, true_and, h1, hz1.len, h2, h3]
    refine ⟨i + 1, ⟨by simp at hlt; omega, fun x hxm => ?_⟩, by simp [Has, rd_s], by omega⟩
    rcases (take_mem hz).1 hxm with hxm | rfl
    · exact hok x hxm
    · exact ⟨h1, by omega, by omega⟩
  · have hi2 : i = 2 := by simp at hlt; omega
    subst hi2
    have hox : okQ xs := hok (v, xs) (by simp)
    have hoy : okQ ys := hok (u, ys) (by simp)
    have qx := hox.qf
    have qy := hoy.qf
    have h1x := hox.1
    have h1y := hoy.1
    have h2x := hox.2
    have h2y := hoy.2
    simp (maxSteps := 4000000) -implicitDefEqProofs -dsimp (disch := omega) only [↓AW_ops, ↓AW_seq, ↓AW_cond, ↓AW_exit, ↓AOps_nil, ↓AOps_pu, ↓AOps_call, on_some, condB_f, ↓then_normal, ↓then_exit, ↓inBlock_exit, pval, rd_S, put_S, eq_self, mk, List.foldl_cons, List.foldl_nil, List.replicate_succ, List.replicate_zero, List.set_cons_zero, List.set_cons_succ, List.getElem?_cons_zero, List.getElem?_cons_succ, Option.getD_some, map_c, map_n, bin_lss, if_true, decide_false, Int.reduceLT, Int.cast_ofNat_Int]
    refine CallK.of (c_common hx0 hl) ?_
    simp (maxSteps := 4000000) -implicitDefEqProofs -dsimp (disch := omega) only [↓AW_ops, ↓AW_seq, ↓AOps_nil, ↓AOps_pu, ↓AOps_call, on_some, extK_same, ↓then_normal, pval, rd_S, put_S, mk, List.foldl_cons, List.foldl_nil, List.replicate_succ, List.replicate_zero, List.set_cons_zero, List.set_cons_succ, List.getElem?_cons_zero, List.getElem?_cons_succ, Option.getD_some, map_c, map_n]
    refine CallK.of (c_common hy0 hl2) ?_
    simp (maxSteps := 4000000) -implicitDefEqProofs -dsimp (disch := omega) only [↓AW_ops, ↓AW_seq, ↓AOps_nil, ↓AOps_pu, ↓AOps_call, on_some, extK_same, ↓then_normal, pval, rd_S, put_S, mk, List.foldl_cons, List.foldl_nil, List.replicate_succ, List.replicate_zero, List.set_cons_zero, List.set_cons_succ, List.getElem?_cons_zero, List.getElem?_cons_succ, Option.getD_some, map_c, map_n]
    have hax : ov (cm 1 xs) xs = oX xs := rfl
    have hay : ov (cm 1 ys) ys = oX ys := rfl
    refine CallK.of (c_over hx0 hl qx.d qx.f) ?_
    rw [hax, outV_pos (by rw [qx.l]; omega), outH_pos (by rw [qx.l]; omega)]
    have hp1 := pre_app A0 [AObj.cells true ((oX xs).flatMap e1)]
    simp (maxSteps := 4000000) -implicitDefEqProofs -dsimp (disch := omega) only [↓AOps_pu, ↓AOps_call, on_some, extK_app, pval, rd_S, put_S, mk, List.foldl_cons, List.foldl_nil, List.replicate_succ, List.replicate_zero, List.set_cons_zero, List.set_cons_succ, List.getElem?_cons_zero, List.getElem?_cons_succ, Option.getD_some, map_c, map_n]
    refine CallK.of (c_over (hy0.mono hp1) hl2 qy.d qy.f) ?_
    rw [hay, outV_pos (by rw [qy.l]; omega), outH_pos (by rw [qy.l]; omega)]
    have hA1l : (A0 ++ [AObj.cells true ((oX xs).flatMap e1)]).length = A0.length + 1 := by simp
    have hoa := (OL.new_mk e1_len A0 (oX xs) false).mono (pre_app _ [AObj.cells true ((oX ys).flatMap e1)])
    have hob := OL.new_mk e1_len (A0 ++ [AObj.cells true ((oX xs).flatMap e1)]) (oX ys) false
    have hob2 := OL.new_mk e1_len (A0 ++ [AObj.cells true ((srt (oX xs)).flatMap e1)]) (oX ys) false
    have hobs := OL.new_mk e1_len (A0 ++ [AObj.cells true ((srt (oX xs)).flatMap e1)]) (srt (oX ys)) false
    have hoas := (OL.new_mk e1_len A0 (srt (oX xs)) false).mono (pre_app _ [AObj.cells true ((srt (oX ys)).flatMap e1)])
    have hA1l2 : (A0 ++ [AObj.cells true ((srt (oX xs)).flatMap e1)]).length = A0.length + 1 := by simp
    rw [hA1l] at hob ⊢
    rw [hA1l2] at hob2 hobs
    rw [srt_len] at hoas hobs
    have hsa := c_Sort hoa (by have := qx.l; omega)
    have hsb := c_Sort hob2 (by have := qy.l; omega)
    have e1s : (A0 ++ [AObj.cells true ((oX xs).flatMap e1)] ++ [AObj.cells true ((oX ys).flatMap e1)]).set A0.length (.cells true ((srt (oX xs)).flatMap e1)) = A0 ++ [AObj.cells true ((srt (oX xs)).flatMap e1)] ++ [AObj.cells true ((oX ys).flatMap e1)] := by
      rw [List.set_append_left _ _ (by simp), set_new]
    have e2s : (A0 ++ [AObj.cells true ((srt (oX xs)).flatMap e1)] ++ [AObj.cells true ((oX ys).flatMap e1)]).set (A0.length + 1) (.cells true ((srt (oX ys)).flatMap e1)) = A0 ++ [AObj.cells true ((srt (oX xs)).flatMap e1)] ++ [AObj.cells true ((srt (oX ys)).flatMap e1)] := by
      have := set_new (A0 ++ [AObj.cells true ((srt (oX xs)).flatMap e1)]) (.cells true ((oX ys).flatMap e1)) (.cells true ((srt (oX ys)).flatMap e1))
      rw [hA1l2] at this
      exact this
    rw [e1s] at hsa
    rw [e2s] at hsb
    have hla : lenA (.sl 1 A0.length 0 (oX xs).length false) = some (I xs.length) := by rw [qx.l]; rfl
    have hlb : lenA (.sl 1 (A0.length + 1) 0 (oX ys).length false) = some (I ys.length) := by rw [qy.l]; rfl
    generalize AV.sl 1 A0.length 0 (oX xs).length false = va at *
    generalize AV.sl 1 (A0.length + 1) 0 (oX ys).length false = vb at *
    have hpo := hoa.pre
    have hpos := hoas.pre
    generalize A0 ++ [AObj.cells true ((oX xs).flatMap e1)] ++ [AObj.cells true ((oX ys).flatMap e1)] = A2 at *
    generalize A0 ++ [AObj.cells true ((srt (oX xs)).flatMap e1)] ++ [AObj.cells true ((oX ys).flatMap e1)] = A3 at *
    generalize A0 ++ [AObj.cells true ((srt (oX xs)).flatMap e1)] ++ [AObj.cells true ((srt (oX ys)).flatMap e1)] = A4 at *
    have t5 : ∀ H, A <+: H → ¬ (xs.length = ys.length ∧ (oX xs).sum * cm 1 ys = (oX ys).sum * cm 1 xs) → GC A (.tuple [B false, I 5]) H (.tuple [B (meB xs ys), I (meE xs ys)]) A := by
      intro H hp h
      have h5 := meE_5 ⟨hox, hoy⟩ h
      rw [meB_e (by omega), h5]
      exact gc_val hp rfl
    by_cases hle : xs.length = ys.length
    case neg =>
      have hle' : ¬ (xs.length : Int) = ys.length := by omega
      simp (maxSteps := 4000000) -implicitDefEqProofs -dsimp (disch := omega) only [↓AW_ops, ↓AW_seq, ↓AW_cond, ↓AW_ret, ↓AOps_nil, ↓AOps_pu, ↓AOps_guard, on_some, extK_false, guardB_tf, skipS_some, condB_t, ↓then_normal, ↓then_ret, ↓Fin_ret, pval, rd_S, rd_C, put_S, resV, resL, eq_self, mk, List.foldl_cons, List.foldl_nil, List.replicate_succ, List.replicate_zero, List.set_cons_zero, List.set_cons_succ, List.getElem?_cons_zero, List.getElem?_cons_succ, Option.getD_some, bin_neq, if_true, decide_true, not_false_eq_true, hla, hlb, hle']
      exact t5 A2 (hp0.trans hpo) (fun hh => hle hh.1)
    have hle' : (xs.length : Int) = ys.length := by omega
    simp (maxSteps := 4000000) -implicitDefEqProofs -dsimp (disch := omega) only [↓AW_ops, ↓AW_seq, ↓AOps_nil, ↓AOps_pu, ↓AOps_call, ↓AOps_guard, on_some, extK_false, guardB_ff, ↓then_normal, pval, rd_S, put_S, eq_self, mk, List.foldl_cons, List.foldl_nil, List.replicate_succ, List.replicate_zero, List.set_cons_zero, List.set_cons_succ, List.getElem?_cons_zero, List.getElem?_cons_succ, Option.getD_some, map_c, map_n, bin_neq, decide_false, not_true_eq_false, hla, hlb, hle']
    refine CallK.of (c_total hoa.ls (by have := qx.l; omega) (fun x hx => by have := qx.b x hx; omega)) ?_
    have w1 := mul_w qx.t qy.d
    have w2 := mul_w qy.t qx.d
    simp (maxSteps := 4000000) -implicitDefEqProofs -dsimp (disch := omega) only [↓AOps_pu, ↓AOps_call, ↓AOps_guard, on_some, extK_same, guardB_ff, pval, rd_S, put_S, mk, List.foldl_cons, List.foldl_nil, List.replicate_succ, List.replicate_zero, List.set_cons_zero, List.set_cons_succ, List.getElem?_cons_zero, List.getElem?_cons_succ, Option.getD_some, map_c, map_n, bin_mul, w64]
    refine CallK.of (c_total hob.ls (by have := qy.l; omega) (fun x hx => by have := qy.b x hx; omega)) ?_
    by_cases heq : (oX xs).sum * cm 1 ys = (oX ys).sum * cm 1 xs
    case neg =>
      simp (maxSteps := 4000000) -implicitDefEqProofs -dsimp (disch := omega) only [↓AW_ops, ↓AW_seq, ↓AW_cond, ↓AW_ret, ↓AOps_nil, ↓AOps_pu, ↓AOps_guard, on_some, extK_same, guardB_ff, condB_t, ↓then_normal, ↓then_ret, ↓Fin_ret, pval, rd_S, rd_C, put_S, resV, resL, mk, List.foldl_cons, List.foldl_nil, List.replicate_succ, List.replicate_zero, List.set_cons_zero, List.set_cons_succ, List.getElem?_cons_zero, List.getElem?_cons_succ, Option.getD_some, bin_mul, bin_neq, w64, if_false, Bool.false_eq_true, decide_true, not_false_eq_true, heq]
      exact t5 A2 (hp0.trans hpo) (fun hh => heq hh.2)
    have hE := meE_0 ⟨hox, hoy⟩ ⟨hle, heq⟩
    simp (maxSteps := 4000000) -implicitDefEqProofs -dsimp (disch := omega) only [↓AW_skip, ↓AW_ops, ↓AW_seq, ↓AW_cond, ↓AOps_nil, ↓AOps_pu, ↓AOps_call, ↓AOps_guard, on_some, extK_same, guardB_ff, condB_f, ↓then_normal, pval, rd_S, rd_C, put_S, eq_self, mk, List.foldl_cons, List.foldl_nil, List.replicate_succ, List.replicate_zero, List.set_cons_zero, List.set_cons_succ, List.getElem?_cons_zero, List.getElem?_cons_succ, Option.getD_some, map_c, map_n, bin_mul, bin_neq, w64, if_false, Bool.false_eq_true, decide_false, not_true_eq_false, heq]
    refine CallK.of hsa ?_
    simp (maxSteps := 4000000) -implicitDefEqProofs -dsimp (disch := omega) only [↓AW_ops, ↓AW_seq, ↓AOps_nil, ↓AOps_pu, ↓AOps_call, on_some, extK_false, ↓then_normal, pval, rd_S, put_S, mk, List.foldl_cons, List.foldl_nil, List.replicate_succ, List.replicate_zero, List.set_cons_zero, List.set_cons_succ, List.getElem?_cons_zero, List.getElem?_cons_succ, Option.getD_some, map_c, map_n]
    refine CallK.of hsb ?_
    simp (maxSteps := 4000000) -implicitDefEqProofs -dsimp (disch := omega) only [↓AW_ops, ↓AW_seq, ↓AW_block, ↓AOps_nil, ↓AOps_pu, on_some, extK_false, ↓then_normal, pval, rd_S, rd_C, put_S, ↓AW_toLoop, mk, List.foldl_cons, List.foldl_nil, List.replicate_succ, List.replicate_zero, List.set_cons_zero, List.set_cons_succ, List.getElem?_cons_zero, List.getElem?_cons_succ, Option.getD_some, hla]
    refine LoopK.by 98 (fun k : Nat => k ≤ xs.length ∧ meP (oX xs) (oX ys) (cm 1 xs) (cm 1 ys) k) (fun k => [(10, I (cm 1 xs)), (12, I (cm 1 ys)), (14, va), (15, vb), (80, I xs.length), (81, I k)]) (fun _ => A4) (fun k => xs.length - k) 0 ⟨by omega, fun j hj => by omega⟩ rfl (by simp [Has, rd_s, hle']) rfl ?_
    rintro k ⟨hk, hme⟩
    by_cases hkt : k < xs.length
    · have hkt' : (k : Int) < xs.length := by omega
      obtain ⟨va2, hsl1, hta⟩ := Ls_takeS hoas.ls k (by rw [srt_len, qx.l]; omega)
      obtain ⟨vb2, hsl2, htb⟩ := Ls_takeS hobs.ls k (by rw [srt_len, qy.l]; omega)
      have s1 := qx.s k
      have s2 := qy.s k
      have w3 := mul_w s1 qy.d
      have w4 := mul_w s2 qx.d
      simp (maxSteps := 4000000) -implicitDefEqProofs -dsimp (disch := omega) only [↓AW_skip, ↓AW_ops, ↓AW_seq, ↓AW_cond, ↓AW_block, ↓AOps_nil, ↓AOps_pu, ↓AOps_call, on_some, condB_t, ↓then_normal, pval, rd_S, put_S, mk, List.foldl_cons, List.foldl_nil, List.replicate_succ, List.replicate_zero, List.set_cons_zero, List.set_cons_succ, List.getElem?_cons_zero, List.getElem?_cons_succ, Option.getD_some, Option.map_some, Option.map_none, map_c, map_n, bin_lss, decide_true, hkt', hsl1]
      refine CallK.of (c_total hta (by rw [List.length_take, srt_len]; omega) (fun x hx => by have := qx.b x ((srt_perm _).mem_iff.1 (List.mem_of_mem_take hx)); omega)) ?_
      simp (maxSteps := 4000000) -implicitDefEqProofs -dsimp (disch := omega) only [↓AOps_pu, ↓AOps_call, on_some, extK_same, pval, rd_S, put_S, mk, List.foldl_cons, List.foldl_nil, List.replicate_succ, List.replicate_zero, List.set_cons_zero, List.set_cons_succ, List.getElem?_cons_zero, List.getElem?_cons_succ, Option.getD_some, Option.map_some, Option.map_none, map_c, map_n, bin_mul, w64, hsl2]
      refine CallK.of (c_total htb (by rw [List.length_take, srt_len]; omega) (fun x hx => by have := qy.b x ((srt_perm _).mem_iff.1 (List.mem_of_mem_take hx)); omega)) ?_
      by_cases hlt2 : ((srt (oX xs)).take k).sum * cm 1 ys < ((srt (oX ys)).take k).sum * cm 1 xs
      · simp (maxSteps := 4000000) -implicitDefEqProofs -dsimp (disch := omega) only [↓AW_ops, ↓AW_seq, ↓AW_cond, ↓AW_ret, ↓AOps_nil, ↓AOps_pu, on_some, extK_same, condB_t, ↓then_normal, ↓then_ret, ↓inBlock_ret, ↓Fin_ret, pval, rd_S, rd_C, put_S, resV, resL, mk, List.foldl_cons, List.foldl_nil, List.replicate_succ, List.replicate_zero, List.set_cons_zero, List.set_cons_succ, List.getElem?_cons_zero, List.getElem?_cons_succ, Option.getD_some, bin_mul, bin_lss, w64, decide_true, hlt2]
        have hB : meB xs ys = false := by
          unfold meB
          refine decide_eq_false (fun hh => ?_)
          have := hh.2 k hkt
          omega
        rw [hB, hE]
        exact gc_val (hp0.trans hpos) rfl
      · simp (maxSteps := 4000000) -implicitDefEqProofs -dsimp (disch := omega) only [↓AW_skip, ↓AW_ops, ↓AW_cond, ↓AOps_nil, ↓AOps_pu, on_some, extK_same, condB_f, ↓then_normal, ↓inBlock_normal, pval, rd_S, rd_C, put_S, eq_self, mk, List.foldl_cons, List.foldl_nil, List.replicate_succ, List.replicate_zero, List.set_cons_zero, List.set_cons_succ, List.getElem?_cons_zero, List.getElem?_cons_succ, Option.getD_some, List.length_cons, List.length_nil, Nat.reduceAdd, Nat.zero_add, bin_add, bin_mul, bin_lss, w64, decide_false, true_and, hlt2]
        refine ⟨k + 1, ⟨hkt, fun j hj => ?_⟩, by simp [Has, rd_s], by omega⟩
        by_cases hjk : j < k
        · exact hme j hjk
        · have : j = k := by omega
          subst this
          omega
    · have hkt' : ¬ ((k : Int) < xs.length) := by omega
      have hke : k = xs.length := by omega
      subst hke
      simp (maxSteps := 4000000) -implicitDefEqProofs -dsimp (disch := omega) only [↓AW_ops, ↓AW_seq, ↓AW_cond, ↓AW_exit, ↓AW_ret, ↓AOps_nil, ↓AOps_pu, on_some, condB_f, ↓then_normal, ↓then_exit, ↓inBlock_exit, ↓Fin_ret, pval, rd_S, rd_C, put_S, resV, resL, eq_self, mk, List.foldl_cons, List.foldl_nil, List.replicate_succ, List.replicate_zero, List.set_cons_zero, List.set_cons_succ, List.getElem?_cons_zero, List.getElem?_cons_succ, Option.getD_some, bin_lss, if_true, decide_false, hkt']
      have hB : meB xs ys = true := by
        unfold meB
        exact decide_eq_true ⟨hE, hme⟩
      rw [hB, hE]
      exact gc_val (hp0.trans hpos) rfl
end
end Go.Proofs.Ytdcdjhhjlpegjaa

namespace Go.Proofs.Ytdcdjhhjlpegjaa
open Go Go.Eng
section
variable {xs ys : List (Int × Int)} {v u : AV} {A : AHeap}
theorem c_srtA {w : AV} {zs : List Int} (hw : L1 A w zs) (hl : zs.length ≤ 1000) : ∃ r H, ACalls Try.prog 73 [w] A r H ∧ A <+: H ∧ L1 H r (srt zs) := by
  have ho := OL.new_mk e1_len A (srt zs) false
  refine ⟨_, _, c_sorted hw hl, pre_app _ _, ?_⟩
  rw [srt_len] at ho
  exact ho.ls
set_option maxHeartbeats 4000000 in
theorem s40 (hx : L2 A v xs) (hy : L2 A u ys) (hl : xs.length ≤ 1000000) (hl2 : ys.length ≤ 1000000) : ACalls Try.prog 40 [v, u] A (.tuple [B (meB xs ys), I (meE xs ys)]) A := by
  refine acalls hmix Try.func40 (by kernel_rfl) t40 2 rfl (by decide) ?_
  have bad : ¬ (okQ xs ∧ okQ ys) → GC A (.tuple [B false, I 1]) A (.tuple [B (meB xs ys), I (meE xs ys)]) A := by
    intro h
    have h1 := meE_1 h
    rw [meB_e (by omega), h1]
    exact gc_same rfl
  dsimp only [m40]
  simp (maxSteps := 4000000) -implicitDefEqProofs -dsimp (disch := omega) only [↓AW_ops, ↓AW_seq, ↓AOps_nil, ↓AOps_pu, ↓AOps_call, on_some, ↓then_normal, pval, rd_S, rd_C, put_S, List.replicate_succ, List.replicate_zero, List.set_cons_zero, List.set_cons_succ, List.getElem?_cons_zero, List.getElem?_cons_succ, Option.getD_some, map_c, map_n, Nat.reduceSub, List.cons_append, List.nil_append, hx.len]
  refine CallK.of (c_wi _ _ _ _) ?_
  by_cases h1 : (1 : Int) ≤ xs.length ∧ (xs.length : Int) ≤ 8
  case neg =>
    simp (maxSteps := 4000000) -implicitDefEqProofs -dsimp (disch := omega) only [↓AW_ops, ↓AW_seq, ↓AW_cond, ↓AW_ret, ↓AOps_nil, ↓AOps_pu, ↓AOps_guard, on_some, extK_same, guardB_tf, skipS_some, condB_t, ↓then_normal, ↓then_ret, ↓Fin_ret, pval, rd_S, rd_C, put_S, resV, resL, eq_self, List.replicate_succ, List.replicate_zero, List.set_cons_zero, List.set_cons_succ, List.getElem?_cons_zero, List.getElem?_cons_succ, Option.getD_some, Nat.reduceSub, List.cons_append, List.nil_append, if_true, Bool.not_false, decide_false, h1]
    exact bad (fun hh => h1 hh.1.2)
  simp (maxSteps := 4000000) -implicitDefEqProofs -dsimp (disch := omega) only [↓AOps_pu, ↓AOps_call, ↓AOps_guard, on_some, extK_same, guardB_ff, pval, rd_S, rd_C, put_S, List.replicate_succ, List.replicate_zero, List.set_cons_zero, List.set_cons_succ, List.getElem?_cons_zero, List.getElem?_cons_succ, Option.getD_some, map_c, map_n, Nat.reduceSub, List.cons_append, List.nil_append, Bool.not_true, decide_true, and_true, h1, hy.len]
  refine CallK.of (c_wi _ _ _ _) ?_
  by_cases h2 : (1 : Int) ≤ ys.length ∧ (ys.length : Int) ≤ 8
  case neg =>
    simp (maxSteps := 4000000) -implicitDefEqProofs -dsimp (disch := omega) only [↓AW_ops, ↓AW_seq, ↓AW_cond, ↓AW_ret, ↓AOps_nil, ↓AOps_pu, ↓AOps_guard, on_some, extK_same, guardB_tf, guardB_ff, skipS_some, condB_t, ↓then_normal, ↓then_ret, ↓Fin_ret, pval, rd_S, rd_C, put_S, resV, resL, eq_self, List.replicate_succ, List.replicate_zero, List.set_cons_zero, List.set_cons_succ, List.getElem?_cons_zero, List.getElem?_cons_succ, Option.getD_some, Nat.reduceSub, List.cons_append, List.nil_append, if_true, if_false, Bool.false_eq_true, Bool.not_false, decide_false, h2]
    exact bad (fun hh => h2 hh.2.2)
  simp (maxSteps := 4000000) -implicitDefEqProofs -dsimp (disch := omega) only [↓AOps_pu, ↓AOps_call, ↓AOps_guard, on_some, extK_same, guardB_ff, pval, rd_S, rd_C, put_S, List.replicate_succ, List.replicate_zero, List.set_cons_zero, List.set_cons_succ, List.getElem?_cons_zero, List.getElem?_cons_succ, Option.getD_some, map_c, map_n, Nat.reduceSub, List.cons_append, List.nil_append, if_false, Bool.false_eq_true, Bool.not_true, decide_true, and_true, h2]
  refine CallK.of (c_Common hx hl) ?_
  by_cases h3 : cm 1 xs = 0
  · simp (maxSteps := 4000000) -implicitDefEqProofs -dsimp (disch := omega) only [↓AW_ops, ↓AW_seq, ↓AW_cond, ↓AW_ret, ↓AOps_nil, ↓AOps_pu, ↓AOps_guard, on_some, extK_same, guardB_tf, guardB_ff, skipS_some, condB_t, ↓then_normal, ↓then_ret, ↓Fin_ret, pval, rd_S, rd_C, put_S, resV, resL, eq_self, List.replicate_succ, List.replicate_zero, List.set_cons_zero, List.set_cons_succ, List.getElem?_cons_zero, List.getElem?_cons_succ, Option.getD_some, Nat.reduceSub, List.cons_append, List.nil_append, bin_eql, if_true, if_false, Bool.false_eq_true, decide_true, h3]
    exact bad (fun hh => hh.1.1 h3)
  simp (maxSteps := 4000000) -implicitDefEqProofs -dsimp (disch := omega) only [↓AOps_pu, ↓AOps_call, ↓AOps_guard, on_some, extK_same, guardB_ff, pval, rd_S, rd_C, put_S, List.replicate_succ, List.replicate_zero, List.set_cons_zero, List.set_cons_succ, List.getElem?_cons_zero, List.getElem?_cons_succ, Option.getD_some, map_c, map_n, Nat.reduceSub, List.cons_append, List.nil_append, bin_eql, if_false, Bool.false_eq_true, decide_false, h3]
  refine CallK.of (c_Common hy hl2) ?_
  by_cases h4 : cm 1 ys = 0
  · simp (maxSteps := 4000000) -implicitDefEqProofs -dsimp (disch := omega) only [↓AW_ops, ↓AW_seq, ↓AW_cond, ↓AW_ret, ↓AOps_nil, ↓AOps_pu, ↓AOps_guard, on_some, extK_same, guardB_ff, condB_t, ↓then_normal, ↓then_ret, ↓Fin_ret, pval, rd_S, rd_C, put_S, resV, resL, eq_self, List.replicate_succ, List.replicate_zero, List.set_cons_zero, List.set_cons_succ, List.getElem?_cons_zero, List.getElem?_cons_succ, Option.getD_some, Nat.reduceSub, List.cons_append, List.nil_append, bin_eql, if_false, Bool.false_eq_true, decide_true, h4]
    exact bad (fun hh => hh.2.1 h4)
  have hox : okQ xs := ⟨h3, h1⟩
  have hoy : okQ ys := ⟨h4, h2⟩
  have qx := hox.qf
  have qy := hoy.qf
  have hax : ov (cm 1 xs) xs = oX xs := rfl
  have hay : ov (cm 1 ys) ys = oX ys := rfl
  have hxl := qx.l
  have hyl := qy.l
  simp (maxSteps := 4000000) -implicitDefEqProofs -dsimp (disch := omega) only [↓AW_skip, ↓AW_ops, ↓AW_seq, ↓AW_cond, ↓AOps_nil, ↓AOps_pu, ↓AOps_call, ↓AOps_guard, on_some, extK_same, guardB_ff, condB_f, ↓then_normal, pval, rd_S, rd_C, put_S, List.replicate_succ, List.replicate_zero, List.set_cons_zero, List.set_cons_succ, List.getElem?_cons_zero, List.getElem?_cons_succ, Option.getD_some, map_c, map_n, Nat.reduceSub, List.cons_append, List.nil_append, bin_eql, if_false, Bool.false_eq_true, decide_false, h4]
  refine CallK.of (c_Common hx hl) ?_
  simp (maxSteps := 4000000) -implicitDefEqProofs -dsimp (disch := omega) only [↓AOps_pu, ↓AOps_call, on_some, extK_same, pval, rd_S, put_S, List.replicate_succ, List.replicate_zero, List.set_cons_zero, List.set_cons_succ, List.getElem?_cons_zero, List.getElem?_cons_succ, Option.getD_some, map_c, map_n, Nat.reduceSub, List.cons_append, List.nil_append]
  refine CallK.of (c_Common hy hl2) ?_
  simp (maxSteps := 4000000) -implicitDefEqProofs -dsimp (disch := omega) only [↓AW_ops, ↓AW_seq, ↓AOps_nil, ↓AOps_pu, ↓AOps_call, on_some, extK_same, ↓then_normal, pval, rd_S, put_S, List.replicate_succ, List.replicate_zero, List.set_cons_zero, List.set_cons_succ, List.getElem?_cons_zero, List.getElem?_cons_succ, Option.getD_some, map_c, map_n, Nat.reduceSub, List.cons_append, List.nil_append]
  refine CallK.of (c_Over hx hl qx.d qx.f) ?_
  rw [hax]
  have hp1 := pre_out A ((oX xs).flatMap e1) (oX xs).length
  have hq1 := Ls_out A e1_len (oX xs)
  generalize outV 1 A (oX xs).length = v1 at *
  generalize outH A ((oX xs).flatMap e1) (oX xs).length = A1 at *
  simp (maxSteps := 4000000) -implicitDefEqProofs -dsimp (disch := omega) only [↓AOps_call, extK_false, rd_S, put_S, List.replicate_succ, List.replicate_zero, List.set_cons_zero, List.set_cons_succ, List.getElem?_cons_zero, List.getElem?_cons_succ, Option.getD_some, map_c, map_n, Nat.reduceSub, List.cons_append, List.nil_append]
  obtain ⟨va, A2, hca, hp2, hqa⟩ := c_srtA hq1 (by omega)
  refine CallK.of hca ?_
  have hP2 := hp1.trans hp2
  simp (maxSteps := 4000000) -implicitDefEqProofs -dsimp (disch := omega) only [↓AOps_pu, ↓AOps_call, on_some, extK_false, pval, rd_S, put_S, List.replicate_succ, List.replicate_zero, List.set_cons_zero, List.set_cons_succ, List.getElem?_cons_zero, List.getElem?_cons_succ, Option.getD_some, map_c, map_n, Nat.reduceSub, List.cons_append, List.nil_append]
  refine CallK.of (c_Over (hy.mono hP2) hl2 qy.d qy.f) ?_
  rw [hay]
  have hp3 := pre_out A2 ((oX ys).flatMap e1) (oX ys).length
  have hq3 := Ls_out A2 e1_len (oX ys)
  generalize outV 1 A2 (oX ys).length = v3 at *
  generalize outH A2 ((oX ys).flatMap e1) (oX ys).length = A3 at *
  simp (maxSteps := 4000000) -implicitDefEqProofs -dsimp (disch := omega) only [↓AOps_call, extK_false, rd_S, put_S, List.replicate_succ, List.replicate_zero, List.set_cons_zero, List.set_cons_succ, List.getElem?_cons_zero, List.getElem?_cons_succ, Option.getD_some, map_c, map_n, Nat.reduceSub, List.cons_append, List.nil_append]
  obtain ⟨vb, A4, hcb, hp4, hqb⟩ := c_srtA hq3 (by omega)
  refine CallK.of hcb ?_
  have hP4 := (hP2.trans hp3).trans hp4
  have hqa4 := (hqa.mono hp3).mono hp4
  have hal : ((srt (oX xs)).length : Int) = xs.length := by rw [srt_len, hxl]
  have hbl : ((srt (oX ys)).length : Int) = ys.length := by rw [srt_len, hyl]
  have hsa : (srt (oX xs)).sum = (oX xs).sum := perm_is (srt_perm _)
  have hsb : (srt (oX ys)).sum = (oX ys).sum := perm_is (srt_perm _)
  have t5 : ¬ (xs.length = ys.length ∧ (oX xs).sum * cm 1 ys = (oX ys).sum * cm 1 xs) → GC A (.tuple [B false, I 5]) A4 (.tuple [B (meB xs ys), I (meE xs ys)]) A := by
    intro h
    have h5 := meE_5 ⟨hox, hoy⟩ h
    rw [meB_e (by omega), h5]
    exact gc_val hP4 rfl
  by_cases hle : xs.length = ys.length
  case neg =>
    have hle' : ¬ (xs.length : Int) = ys.length := by omega
    simp (maxSteps := 4000000) -implicitDefEqProofs -dsimp (disch := omega) only [↓AW_ops, ↓AW_seq, ↓AW_cond, ↓AW_ret, ↓AOps_nil, ↓AOps_pu, ↓AOps_guard, on_some, extK_false, guardB_tf, skipS_some, condB_t, ↓then_normal, ↓then_ret, ↓Fin_ret, pval, rd_S, rd_C, put_S, resV, resL, eq_self, List.replicate_succ, List.replicate_zero, List.set_cons_zero, List.set_cons_succ, List.getElem?_cons_zero, List.getElem?_cons_succ, Option.getD_some, Nat.reduceSub, List.cons_append, List.nil_append, bin_neq, if_true, decide_true, not_false_eq_true, hqa4.len, hqb.len, hal, hbl, hle']
    exact t5 (fun hh => hle hh.1)
  have hle' : (xs.length : Int) = ys.length := by omega
  have hba : ∀ x ∈ srt (oX xs), 0 ≤ x ∧ x ≤ 100000000000 := fun x hx => qx.b x ((srt_perm _).mem_iff.1 hx)
  have hbb : ∀ x ∈ srt (oX ys), 0 ≤ x ∧ x ≤ 100000000000 := fun x hx => qy.b x ((srt_perm _).mem_iff.1 hx)
  simp (maxSteps := 4000000) -implicitDefEqProofs -dsimp (disch := omega) only [↓AW_ops, ↓AW_seq, ↓AOps_nil, ↓AOps_pu, ↓AOps_call, ↓AOps_guard, on_some, extK_false, guardB_ff, ↓then_normal, pval, rd_S, put_S, eq_self, List.replicate_succ, List.replicate_zero, List.set_cons_zero, List.set_cons_succ, List.getElem?_cons_zero, List.getElem?_cons_succ, Option.getD_some, map_c, map_n, Nat.reduceSub, List.cons_append, List.nil_append, bin_neq, decide_false, not_true_eq_false, hqa4.len, hqb.len, hal, hbl, hle']
  refine CallK.of (c_Sum hqa4 (by omega) (fun x hx => by have := hba x hx; omega)) ?_
  rw [hsa]
  have w1 := mul_w qx.t qy.d
  have w2 := mul_w qy.t qx.d
  simp (maxSteps := 4000000) -implicitDefEqProofs -dsimp (disch := omega) only [↓AOps_pu, ↓AOps_call, ↓AOps_guard, on_some, extK_same, guardB_ff, pval, rd_S, put_S, List.replicate_succ, List.replicate_zero, List.set_cons_zero, List.set_cons_succ, List.getElem?_cons_zero, List.getElem?_cons_succ, Option.getD_some, map_c, map_n, Nat.reduceSub, List.cons_append, List.nil_append, bin_mul, w64]
  refine CallK.of (c_Sum hqb (by omega) (fun x hx => by have := hbb x hx; omega)) ?_
  rw [hsb]
  by_cases heq : (oX xs).sum * cm 1 ys = (oX ys).sum * cm 1 xs
  case neg =>
    simp (maxSteps := 4000000) -implicitDefEqProofs -dsimp (disch := omega) only [↓AW_ops, ↓AW_seq, ↓AW_cond, ↓AW_ret, ↓AOps_nil, ↓AOps_pu, ↓AOps_guard, on_some, extK_same, guardB_ff, condB_t, ↓then_normal, ↓then_ret, ↓Fin_ret, pval, rd_S, rd_C, put_S, resV, resL, List.replicate_succ, List.replicate_zero, List.set_cons_zero, List.set_cons_succ, List.getElem?_cons_zero, List.getElem?_cons_succ, Option.getD_some, Nat.reduceSub, List.cons_append, List.nil_append, bin_mul, bin_neq, w64, if_false, Bool.false_eq_true, decide_true, not_false_eq_true, heq]
    exact t5 (fun hh => heq hh.2)
  have hE := meE_0 ⟨hox, hoy⟩ ⟨hle, heq⟩
  simp (maxSteps := 4000000) -implicitDefEqProofs -dsimp (disch := omega) only [↓AW_skip, ↓AW_ops, ↓AW_seq, ↓AW_cond, ↓AW_block, ↓AOps_nil, ↓AOps_pu, ↓AOps_guard, on_some, extK_same, guardB_ff, condB_f, ↓then_normal, pval, rd_S, rd_C, put_S, ↓AW_toLoop, eq_self, List.replicate_succ, List.replicate_zero, List.set_cons_zero, List.set_cons_succ, List.getElem?_cons_zero, List.getElem?_cons_succ, Option.getD_some, Nat.reduceSub, List.cons_append, List.nil_append, bin_mul, bin_neq, w64, if_false, Bool.false_eq_true, decide_false, not_true_eq_false, heq]
  refine LoopK.by 78 (fun k : Nat => k ≤ xs.length ∧ meP (oX xs) (oX ys) (cm 1 xs) (cm 1 ys) k) (fun k => [(6, I (cm 1 xs)), (7, I (cm 1 ys)), (8, va), (9, vb), (10, I k)]) (fun _ => A4) (fun k => xs.length - k) 0 ⟨by omega, fun j hj => by omega⟩ rfl (by simp [Has, rd_s]) rfl ?_
  rintro k ⟨hk, hme⟩
  by_cases hkt : k < xs.length
  · have hkt' : (k : Int) < ys.length := by omega
    obtain ⟨va2, hsl1, hta⟩ := Ls_takeS hqa4 k (by omega)
    obtain ⟨vb2, hsl2, htb⟩ := Ls_takeS hqb k (by omega)
    have s1 := qx.s k
    have s2 := qy.s k
    have w3 := mul_w s1 qy.d
    have w4 := mul_w s2 qx.d
    simp (maxSteps := 4000000) -implicitDefEqProofs -dsimp (disch := omega) only [↓AW_skip, ↓AW_ops, ↓AW_seq, ↓AW_cond, ↓AW_block, ↓AOps_nil, ↓AOps_pu, ↓AOps_call, on_some, condB_t, ↓then_normal, pval, rd_S, put_S, mk, List.foldl_cons, List.foldl_nil, List.replicate_succ, List.replicate_zero, List.set_cons_zero, List.set_cons_succ, List.getElem?_cons_zero, List.getElem?_cons_succ, Option.getD_some, Option.map_some, Option.map_none, map_c, map_n, bin_lss, decide_true, hqa4.len, hal, hle', hkt', hsl1]
    refine CallK.of (c_Sum hta (by rw [List.length_take]; omega) (fun x hx => by have := hba x (List.mem_of_mem_take hx); omega)) ?_
    simp (maxSteps := 4000000) -implicitDefEqProofs -dsimp (disch := omega) only [↓AOps_pu, ↓AOps_call, on_some, extK_same, pval, rd_S, put_S, mk, List.foldl_cons, List.foldl_nil, List.replicate_succ, List.replicate_zero, List.set_cons_zero, List.set_cons_succ, List.getElem?_cons_zero, List.getElem?_cons_succ, Option.getD_some, Option.map_some, Option.map_none, map_c, map_n, bin_mul, w64, hsl2]
    refine CallK.of (c_Sum htb (by rw [List.length_take]; omega) (fun x hx => by have := hbb x (List.mem_of_mem_take hx); omega)) ?_
    by_cases hlt2 : ((srt (oX xs)).take k).sum * cm 1 ys < ((srt (oX ys)).take k).sum * cm 1 xs
    · simp (maxSteps := 4000000) -implicitDefEqProofs -dsimp (disch := omega) only [↓AW_ops, ↓AW_seq, ↓AW_cond, ↓AW_ret, ↓AOps_nil, ↓AOps_pu, on_some, extK_same, condB_t, ↓then_normal, ↓then_ret, ↓inBlock_ret, ↓Fin_ret, pval, rd_S, rd_C, put_S, resV, resL, mk, List.foldl_cons, List.foldl_nil, List.replicate_succ, List.replicate_zero, List.set_cons_zero, List.set_cons_succ, List.getElem?_cons_zero, List.getElem?_cons_succ, Option.getD_some, bin_mul, bin_lss, w64, decide_true, hlt2]
      have hB : meB xs ys = false := by
        unfold meB
        refine decide_eq_false (fun hh => ?_)
        have := hh.2 k hkt
        omega
      rw [hB, hE]
      exact gc_val hP4 rfl
    · simp (maxSteps := 4000000) -implicitDefEqProofs -dsimp (disch := omega) only [↓AW_skip, ↓AW_ops, ↓AW_cond, ↓AOps_nil, ↓AOps_pu, on_some, extK_same, condB_f, ↓then_normal, ↓inBlock_normal, pval, rd_S, rd_C, put_S, eq_self, mk, List.foldl_cons, List.foldl_nil, List.replicate_succ, List.replicate_zero, List.set_cons_zero, List.set_cons_succ, List.getElem?_cons_zero, List.getElem?_cons_succ, Option.getD_some, List.length_cons, List.length_nil, Nat.reduceAdd, Nat.zero_add, bin_add, bin_mul, bin_lss, w64, decide_false, true_and, hlt2]
      refine ⟨k + 1, ⟨hkt, fun j hj => ?_⟩, by simp [Has, rd_s], by omega⟩
      by_cases hjk : j < k
      · exact hme j hjk
      · have : j = k := by omega
        subst this
        omega
  · have hkt' : ¬ ((k : Int) < ys.length) := by omega
    have hke : k = xs.length := by omega
    simp (maxSteps := 4000000) -implicitDefEqProofs -dsimp (disch := omega) only [↓AW_ops, ↓AW_seq, ↓AW_cond, ↓AW_exit, ↓AW_ret, ↓AOps_nil, ↓AOps_pu, on_some, condB_f, ↓then_normal, ↓then_exit, ↓inBlock_exit, ↓Fin_ret, pval, rd_S, rd_C, put_S, resV, resL, eq_self, mk, List.foldl_cons, List.foldl_nil, List.replicate_succ, List.replicate_zero, List.set_cons_zero, List.set_cons_succ, List.getElem?_cons_zero, List.getElem?_cons_succ, Option.getD_some, bin_lss, if_true, decide_false, hqa4.len, hal, hle', hkt']
    subst hke
    have hB : meB xs ys = true := by
      unfold meB
      exact decide_eq_true ⟨hE, hme⟩
    rw [hB, hE]
    exact gc_val hP4 rfl
theorem s9 (hx : L2 A v xs) (hy : L2 A u ys) : ACalls Try.prog 9 [v, u] A (B true) A := by
  refine acalls hmix Try.func9 (by kernel_rfl) t9 2 rfl (by decide) ?_
  by_cases h1 : (40 : Int) < xs.length
  · dsimp only [m9]
    simp (maxSteps := 4000000) -implicitDefEqProofs -dsimp (disch := omega) only [↓AW_ops, ↓AW_seq, ↓AW_cond, ↓AOps_nil, ↓AOps_pu, ↓AOps_call, ↓AOps_guard, on_some, guardB_tf, skipS_some, condB_t, ↓then_normal, pval, rd_S, rd_C, put_S, eq_self, List.replicate_succ, List.replicate_zero, List.set_cons_zero, List.set_cons_succ, List.getElem?_cons_zero, List.getElem?_cons_succ, Option.getD_some, map_n, Nat.reduceSub, List.cons_append, List.nil_append, bin_gtr, if_true, decide_true, hx.len, h1]
    refine CallK.of (known A) ?_
    simp (maxSteps := 4000000) -implicitDefEqProofs -dsimp (disch := omega) only [↓AW_ret, ↓AOps_nil, ↓AOps_pu, on_some, extK_same, skipS_some, ↓then_normal, ↓then_ret, ↓Fin_ret, pval, rd_S, put_S, resV, resL, List.replicate_succ, List.replicate_zero, List.set_cons_zero, List.set_cons_succ, List.getElem?_cons_zero, List.getElem?_cons_succ, Option.getD_some, Nat.reduceSub, List.cons_append, List.nil_append]
    exact gc_same rfl
  by_cases h2 : (40 : Int) < ys.length
  · dsimp only [m9]
    simp (maxSteps := 4000000) -implicitDefEqProofs -dsimp (disch := omega) only [↓AW_ops, ↓AW_seq, ↓AW_cond, ↓AOps_nil, ↓AOps_pu, ↓AOps_call, ↓AOps_guard, on_some, guardB_ff, condB_t, ↓then_normal, pval, rd_S, rd_C, put_S, List.replicate_succ, List.replicate_zero, List.set_cons_zero, List.set_cons_succ, List.getElem?_cons_zero, List.getElem?_cons_succ, Option.getD_some, map_n, Nat.reduceSub, List.cons_append, List.nil_append, bin_gtr, if_false, Bool.false_eq_true, decide_true, decide_false, hx.len, hy.len, h1, h2]
    refine CallK.of (known A) ?_
    simp (maxSteps := 4000000) -implicitDefEqProofs -dsimp (disch := omega) only [↓AW_ret, ↓AOps_nil, ↓AOps_pu, on_some, extK_same, ↓then_normal, ↓then_ret, ↓Fin_ret, pval, rd_S, put_S, resV, resL, List.replicate_succ, List.replicate_zero, List.set_cons_zero, List.set_cons_succ, List.getElem?_cons_zero, List.getElem?_cons_succ, Option.getD_some, Nat.reduceSub, List.cons_append, List.nil_append]
    exact gc_same rfl
  dsimp only [m9]
  simp (maxSteps := 4000000) -implicitDefEqProofs -dsimp (disch := omega) only [↓AW_skip, ↓AW_ops, ↓AW_seq, ↓AW_cond, ↓AOps_nil, ↓AOps_pu, ↓AOps_call, ↓AOps_guard, on_some, guardB_ff, condB_f, ↓then_normal, pval, rd_S, rd_C, put_S, List.replicate_succ, List.replicate_zero, List.set_cons_zero, List.set_cons_succ, List.getElem?_cons_zero, List.getElem?_cons_succ, Option.getD_some, map_c, map_n, Nat.reduceSub, List.cons_append, List.nil_append, bin_gtr, if_false, Bool.false_eq_true, decide_false, hx.len, hy.len, h1, h2]
  refine CallK.of (s39 hx hy (by omega) (by omega)) ?_
  simp (maxSteps := 4000000) -implicitDefEqProofs -dsimp (disch := omega) only [↓AW_ops, ↓AW_seq, ↓AOps_nil, ↓AOps_pu, ↓AOps_call, on_some, extK_same, ↓then_normal, pval, rd_S, put_S, List.replicate_succ, List.replicate_zero, List.set_cons_zero, List.set_cons_succ, List.getElem?_cons_zero, List.getElem?_cons_succ, Option.getD_some, map_c, map_n, Nat.reduceSub, List.cons_append, List.nil_append]
  refine CallK.of (s40 hx hy (by omega) (by omega)) ?_
  simp (maxSteps := 4000000) -implicitDefEqProofs -dsimp (disch := omega) only [↓AW_ops, ↓AW_seq, ↓AOps_nil, ↓AOps_pu, ↓AOps_call, ↓AOps_guard, on_some, extK_same, guardB_tt, ↓then_normal, pval, rd_S, rd_C, put_S, beq_self_eq_true, eq_self, List.replicate_succ, List.replicate_zero, List.set_cons_zero, List.set_cons_succ, List.getElem?_cons_zero, List.getElem?_cons_succ, Option.getD_some, map_n, Nat.reduceSub, List.cons_append, List.nil_append, bin_eql, if_true, if_false, Bool.false_eq_true, Bool.not_true, decide_true]
  refine CallK.of (known A) ?_
  simp (maxSteps := 4000000) -implicitDefEqProofs -dsimp (disch := omega) only [↓AW_ret, ↓AOps_nil, ↓AOps_pu, on_some, extK_same, ↓then_normal, ↓Fin_ret, pval, rd_S, rd_C, put_S, resV, resL, eq_self, List.replicate_succ, List.replicate_zero, List.set_cons_zero, List.set_cons_succ, List.getElem?_cons_zero, List.getElem?_cons_succ, Option.getD_some, Nat.reduceSub, List.cons_append, List.nil_append, if_true]
  exact gc_same rfl
end
end Go.Proofs.Ytdcdjhhjlpegjaa

