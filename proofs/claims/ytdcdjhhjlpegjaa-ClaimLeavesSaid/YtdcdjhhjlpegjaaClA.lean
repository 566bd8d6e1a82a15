/- What the law's proof rests on, part 3: for all that is said in each line. No conditions. -/
import Derived.Test.YtdcdjhhjlpegjaaRows
import Derived.Test.YtdcdjhhjlpegjaaEnB
namespace Go.Proofs.Ytdcdjhhjlpegjaa
open Go Go.Eng
/-- selion/claim.Validate [] -/
def m16 : MFun := ⟨18, [], [.mov (.s 4)],
 .seq (.ops [⟨(some 4), some undefA, none, false, .pu (.mov (.c (.int .i64 0)))⟩])
 (.seq (.seq (.ops [⟨(some 5), some undefA, none, false, .pu (.mov (.s 0))⟩,
   ⟨(some 6), some undefA, none, false, .call 53 [(.s 5)]⟩,
   ⟨(some 7), some undefA, none, false, .pu (.not (.s 6))⟩,
   ⟨(some 8), some undefA, none, false, .pu (.mov (.s 7))⟩,
   ⟨(some 9), some undefA, (some (8, false)), false, .pu (.mov (.s 1))⟩,
   ⟨(some 10), some undefA, (some (8, false)), false, .pu (.bin .lss (.s 9) (.c (.int .i64 0)))⟩,
   ⟨(some 11), some undefA, none, false, .pu (.pick (.s 8) (.c (.bool true)) (.s 10))⟩,
   ⟨(some 12), some undefA, none, false, .pu (.mov (.s 11))⟩,
   ⟨(some 13), some undefA, (some (12, false)), false, .pu (.mov (.s 1))⟩,
   ⟨(some 14), some undefA, (some (12, false)), false, .pu (.mov (.s 0))⟩,
   ⟨(some 15), some undefA, (some (12, false)), false, .call 54 [(.s 14)]⟩,
   ⟨(some 16), some undefA, (some (12, false)), false, .pu (.bin .gtr (.s 13) (.s 15))⟩,
   ⟨(some 17), some undefA, none, false, .pu (.pick (.s 12) (.c (.bool true)) (.s 16))⟩])
 (.cond (.s 17) (.seq (.ops [⟨(some 4), some undefA, none, false, .pu (.mov (.c (.int .i64 1)))⟩])
  (.ret))
 (.skip)))
 (.seq (.ops [⟨(some 4), some undefA, none, false, .pu (.mov (.c (.int .i64 0)))⟩])
 (.ret)))⟩
theorem t16 : trF Try.prog [] [] Try.f16 = some m16 := by kernel_rfl
/-- selion/selionlaw03.known [] -/
def m17 : MFun := ⟨34, [], [.mov (.s 0)],
 .seq (.ops [⟨(some 0), some undefA, none, false, .pu (.mov (.c (.bool false)))⟩])
 (.seq (.ops [⟨(some 6), some undefA, none, false, .ha (.blds 1 3 [.int .i64 0] [(0, 1, (.c (.int .i64 100))), (1, 1, (.c (.int .i64 200))), (2, 1, (.c (.int .i64 300)))])⟩,
   ⟨(some 7), some undefA, none, false, .call 21 [(.s 6), (.c (.int .i64 200))]⟩,
   ⟨(some 5), some undefA, none, false, .pu (.mov (.s 7))⟩,
   ⟨(some 8), some undefA, none, false, .pu (.extr 0 (.s 5))⟩,
   ⟨(some 9), some undefA, none, false, .pu (.extr 1 (.s 5))⟩,
   ⟨(some 1), some undefA, none, false, .pu (.mov (.s 8))⟩,
   ⟨(some 2), some undefA, none, false, .pu (.mov (.s 9))⟩])
 (.seq (.ops [⟨(some 11), some undefA, none, false, .ha (.blds 1 3 [.int .i64 0] [(0, 1, (.c (.int .i64 1))), (1, 1, (.c (.int .i64 1))), (2, 1, (.c (.int .i64 1)))])⟩,
   ⟨(some 12), some undefA, none, false, .call 31 [(.s 11), (.c (.int .i64 2))]⟩,
   ⟨(some 10), some undefA, none, false, .pu (.mov (.s 12))⟩,
   ⟨(some 13), some undefA, none, false, .pu (.extr 0 (.s 10))⟩,
   ⟨(some 14), some undefA, none, false, .pu (.extr 1 (.s 10))⟩,
   ⟨(some 3), some undefA, none, false, .pu (.mov (.s 13))⟩,
   ⟨(some 4), some undefA, none, false, .pu (.mov (.s 14))⟩])
 (.seq (.ops [⟨(some 15), some undefA, none, false, .pu (.mov (.s 2))⟩,
   ⟨(some 16), some undefA, none, false, .pu (.bin .eql (.s 15) (.c (.int .i64 0)))⟩,
   ⟨(some 17), some undefA, none, false, .pu (.mov (.s 16))⟩,
   ⟨(some 18), some undefA, (some (17, true)), false, .pu (.mov (.s 1))⟩,
   ⟨(some 19), some undefA, (some (17, true)), false, .pu (.build [.int .i64 0, .int .i64 0] [(0, 1, (.c (.int .i64 50))), (1, 1, (.c (.int .i64 1)))])⟩,
   ⟨(some 20), some undefA, (some (17, true)), false, .pu (.build [.int .i64 0, .int .i64 0] [(0, 1, (.c (.int .i64 75))), (1, 1, (.c (.int .i64 1)))])⟩,
   ⟨(some 21), some undefA, (some (17, true)), false, .pu (.build [.int .i64 0, .int .i64 0] [(0, 1, (.c (.int .i64 75))), (1, 1, (.c (.int .i64 1)))])⟩,
   ⟨(some 22), some undefA, (some (17, true)), false, .ha (.blds 2 3 [.int .i64 0, .int .i64 0] [(0, 2, (.s 19)), (2, 2, (.s 20)), (4, 2, (.s 21))])⟩,
   ⟨(some 23), some undefA, (some (17, true)), false, .call 30 [(.s 18), (.s 22)]⟩,
   ⟨(some 24), some undefA, none, false, .pu (.pick (.s 17) (.s 23) (.c (.bool false)))⟩,
   ⟨(some 25), some undefA, none, false, .pu (.mov (.s 24))⟩,
   ⟨(some 26), some undefA, (some (25, true)), false, .pu (.mov (.s 4))⟩,
   ⟨(some 27), some undefA, (some (25, true)), false, .pu (.bin .eql (.s 26) (.c (.int .i64 0)))⟩,
   ⟨(some 28), some undefA, none, false, .pu (.pick (.s 25) (.s 27) (.c (.bool false)))⟩,
   ⟨(some 29), some undefA, none, false, .pu (.mov (.s 28))⟩,
   ⟨(some 30), some undefA, (some (29, true)), false, .pu (.mov (.s 3))⟩,
   ⟨(some 31), some undefA, (some (29, true)), false, .ha (.blds 1 3 [.int .i64 0] [(0, 1, (.c (.int .i64 1))), (1, 1, (.c (.int .i64 1))), (2, 1, (.c (.int .i64 0)))])⟩,
   ⟨(some 32), some undefA, (some (29, true)), false, .call 26 [(.s 30), (.s 31)]⟩,
   ⟨(some 33), some undefA, none, false, .pu (.pick (.s 29) (.s 32) (.c (.bool false)))⟩,
   ⟨(some 0), some undefA, none, false, .pu (.mov (.s 33))⟩])
 (.ret))))⟩
theorem t17 : trF Try.prog [] [] Try.f17 = some m17 := by kernel_rfl
/-- selion/claim.ByCourt [] -/
def m21 : MFun := ⟨11, [], [.mov (.s 4), .mov (.s 5)],
 .seq (.ops [⟨(some 4), some undefA, none, false, .pu (.mov (.c (.nilS)))⟩,
   ⟨(some 5), some undefA, none, false, .pu (.mov (.c (.int .i64 0)))⟩])
 (.seq (.ops [⟨(some 6), some undefA, none, false, .pu (.mov (.s 0))⟩,
   ⟨(some 7), some undefA, none, false, .pu (.mov (.s 1))⟩,
   ⟨(some 8), some undefA, none, false, .call 55 [(.c (.int .i64 3)), (.s 6), (.s 7)]⟩,
   ⟨(some 9), some undefA, none, false, .pu (.extr 0 (.s 8))⟩,
   ⟨(some 10), some undefA, none, false, .pu (.extr 1 (.s 8))⟩,
   ⟨(some 4), some undefA, none, false, .pu (.mov (.s 9))⟩,
   ⟨(some 5), some undefA, none, false, .pu (.mov (.s 10))⟩])
 (.ret))⟩
theorem t21 : trF Try.prog [] [] Try.f21 = some m21 := by kernel_rfl
/-- selion/selionref01.SameInts [loop [0, 1, 5]] -/
def m26 : MFun := ⟨26, [], [.mov (.s 4)],
 .seq (.ops [⟨(some 4), some undefA, none, false, .pu (.mov (.c (.bool false)))⟩])
 (.seq (.seq (.ops [⟨(some 6), some undefA, none, false, .pu (.mov (.s 0))⟩,
   ⟨(some 7), some undefA, none, false, .pu (.len (.s 6))⟩,
   ⟨(some 8), some undefA, none, false, .pu (.mov (.s 1))⟩,
   ⟨(some 9), some undefA, none, false, .pu (.len (.s 8))⟩,
   ⟨(some 10), some undefA, none, false, .pu (.bin .neq (.s 7) (.s 9))⟩])
 (.cond (.s 10) (.seq (.ops [⟨(some 4), some undefA, none, false, .pu (.mov (.c (.bool false)))⟩])
  (.ret))
 (.skip)))
 (.seq (.seq (.ops [⟨(some 5), some undefA, none, false, .pu (.mov (.c (.int .i64 0)))⟩])
 (.block 0 (.loop (.seq (.seq (.ops [⟨(some 11), some undefA, none, false, .pu (.mov (.s 5))⟩,
     ⟨(some 12), some undefA, none, false, .pu (.mov (.s 0))⟩,
     ⟨(some 13), some undefA, none, false, .pu (.len (.s 12))⟩,
     ⟨(some 14), some undefA, none, false, .pu (.bin .lss (.s 11) (.s 13))⟩])
   (.cond (.s 14) (.skip)
   (.exit 0)))
   (.seq (.block 1 (.seq (.ops [⟨(some 17), some undefA, none, true, .pu (.mov (.s 0))⟩,
      ⟨(some 18), some undefA, none, true, .pu (.mov (.s 5))⟩,
      ⟨(some 19), some undefA, none, true, .pu (.idx 1 (.s 17) (.s 18))⟩,
      ⟨(some 20), some undefA, none, true, .ld (.ld 1 false (.s 19))⟩,
      ⟨(some 21), some undefA, none, true, .pu (.mov (.s 1))⟩,
      ⟨(some 22), some undefA, none, true, .pu (.mov (.s 5))⟩,
      ⟨(some 23), some undefA, none, true, .pu (.idx 1 (.s 21) (.s 22))⟩,
      ⟨(some 24), some undefA, none, true, .ld (.ld 1 false (.s 23))⟩,
      ⟨(some 25), some undefA, none, false, .pu (.bin .neq (.s 20) (.s 24))⟩])
    (.cond (.s 25) (.seq (.ops [⟨(some 4), some undefA, none, false, .pu (.mov (.c (.bool false)))⟩])
     (.ret))
    (.skip))))
   (.ops [⟨(some 15), some undefA, none, false, .pu (.mov (.s 5))⟩,
     ⟨(some 16), some undefA, none, false, .pu (.bin .add (.s 15) (.c (.int .i64 1)))⟩,
     ⟨(some 5), some undefA, none, false, .pu (.mov (.s 16))⟩]))))))
 (.seq (.ops [⟨(some 4), some undefA, none, false, .pu (.mov (.c (.bool true)))⟩])
 (.ret))))⟩
theorem t26 : trF Try.prog [] [] Try.f26 = some m26 := by kernel_rfl
/-- selion/selionref03.SameRats [loop [0, 1, 5]] -/
def m30 : MFun := ⟨26, [], [.mov (.s 4)],
 .seq (.ops [⟨(some 4), some undefA, none, false, .pu (.mov (.c (.bool false)))⟩])
 (.seq (.seq (.ops [⟨(some 6), some undefA, none, false, .pu (.mov (.s 0))⟩,
   ⟨(some 7), some undefA, none, false, .pu (.len (.s 6))⟩,
   ⟨(some 8), some undefA, none, false, .pu (.mov (.s 1))⟩,
   ⟨(some 9), some undefA, none, false, .pu (.len (.s 8))⟩,
   ⟨(some 10), some undefA, none, false, .pu (.bin .neq (.s 7) (.s 9))⟩])
 (.cond (.s 10) (.seq (.ops [⟨(some 4), some undefA, none, false, .pu (.mov (.c (.bool false)))⟩])
  (.ret))
 (.skip)))
 (.seq (.seq (.ops [⟨(some 5), some undefA, none, false, .pu (.mov (.c (.int .i64 0)))⟩])
 (.block 0 (.loop (.seq (.seq (.ops [⟨(some 11), some undefA, none, false, .pu (.mov (.s 5))⟩,
     ⟨(some 12), some undefA, none, false, .pu (.mov (.s 0))⟩,
     ⟨(some 13), some undefA, none, false, .pu (.len (.s 12))⟩,
     ⟨(some 14), some undefA, none, false, .pu (.bin .lss (.s 11) (.s 13))⟩])
   (.cond (.s 14) (.skip)
   (.exit 0)))
   (.seq (.block 1 (.seq (.ops [⟨(some 17), some undefA, none, true, .pu (.mov (.s 0))⟩,
      ⟨(some 18), some undefA, none, true, .pu (.mov (.s 5))⟩,
      ⟨(some 19), some undefA, none, true, .pu (.idx 2 (.s 17) (.s 18))⟩,
      ⟨(some 20), some undefA, none, true, .ld (.ld 2 true (.s 19))⟩,
      ⟨(some 21), some undefA, none, true, .pu (.mov (.s 1))⟩,
      ⟨(some 22), some undefA, none, true, .pu (.mov (.s 5))⟩,
      ⟨(some 23), some undefA, none, true, .pu (.idx 2 (.s 21) (.s 22))⟩,
      ⟨(some 24), some undefA, none, true, .ld (.ld 2 true (.s 23))⟩,
      ⟨(some 25), some undefA, none, false, .pu (.eqs true [true, true] (.s 20) (.s 24))⟩])
    (.cond (.s 25) (.seq (.ops [⟨(some 4), some undefA, none, false, .pu (.mov (.c (.bool false)))⟩])
     (.ret))
    (.skip))))
   (.ops [⟨(some 15), some undefA, none, false, .pu (.mov (.s 5))⟩,
     ⟨(some 16), some undefA, none, false, .pu (.bin .add (.s 15) (.c (.int .i64 1)))⟩,
     ⟨(some 5), some undefA, none, false, .pu (.mov (.s 16))⟩]))))))
 (.seq (.ops [⟨(some 4), some undefA, none, false, .pu (.mov (.c (.bool true)))⟩])
 (.ret))))⟩
theorem t30 : trF Try.prog [] [] Try.f30 = some m30 := by kernel_rfl
/-- selion/claim.Whole [loop [1, 7, 8, 9, 10, 30, 31, 32], loop [8, 9, 60, 61]] -/
def m31 : MFun := ⟨78, [], [.mov (.s 4), .mov (.s 5)],
 .seq (.ops [⟨(some 4), some undefA, none, false, .pu (.mov (.c (.nilS)))⟩,
   ⟨(some 5), some undefA, none, false, .pu (.mov (.c (.int .i64 0)))⟩])
 (.seq (.seq (.ops [⟨(some 14), some undefA, none, false, .pu (.mov (.s 0))⟩,
   ⟨(some 15), some undefA, none, false, .pu (.mov (.s 1))⟩,
   ⟨(some 16), some undefA, none, false, .call 16 [(.s 14), (.s 15)]⟩,
   ⟨(some 6), some undefA, none, false, .pu (.mov (.s 16))⟩])
 (.seq (.ops [⟨(some 17), some undefA, none, false, .pu (.mov (.s 6))⟩,
   ⟨(some 18), some undefA, none, false, .pu (.bin .neq (.s 17) (.c (.int .i64 0)))⟩])
 (.cond (.s 18) (.seq (.ops [⟨(some 19), some undefA, none, false, .pu (.mov (.s 6))⟩,
    ⟨(some 4), some undefA, none, false, .pu (.mov (.c (.nilS)))⟩,
    ⟨(some 5), some undefA, none, false, .pu (.mov (.s 19))⟩])
  (.ret))
 (.skip))))
 (.seq (.ops [⟨(some 20), some undefA, none, false, .pu (.mov (.s 0))⟩,
   ⟨(some 21), some undefA, none, false, .call 54 [(.s 20)]⟩,
   ⟨(some 22), some undefA, none, false, .pu (.mm true (.c (.int .i64 1)) [(.s 21)])⟩,
   ⟨(some 7), some undefA, none, false, .pu (.mov (.s 22))⟩])
 (.seq (.ops [⟨(some 23), some undefA, none, false, .pu (.mov (.s 0))⟩,
   ⟨(some 24), some undefA, none, false, .pu (.len (.s 23))⟩,
   ⟨(some 25), some undefA, none, false, .ha (.mks 1 [.int .i64 0] (.s 24) (.s 24))⟩,
   ⟨(some 8), some undefA, none, false, .pu (.mov (.s 25))⟩])
 (.seq (.ops [⟨(some 26), some undefA, none, false, .pu (.mov (.s 0))⟩,
   ⟨(some 27), some undefA, none, false, .pu (.len (.s 26))⟩,
   ⟨(some 28), some undefA, none, false, .ha (.mks 1 [.int .i64 0] (.s 27) (.s 27))⟩,
   ⟨(some 9), some undefA, none, false, .pu (.mov (.s 28))⟩])
 (.seq (.ops [⟨(some 29), some undefA, none, false, .pu (.mov (.s 1))⟩,
   ⟨(some 10), some undefA, none, false, .pu (.mov (.s 29))⟩])
 (.seq (.seq (.ops [⟨(some 30), some undefA, none, false, .pu (.mov (.s 0))⟩,
   ⟨(some 31), some undefA, none, false, .pu (.len (.s 30))⟩,
   ⟨(some 32), some undefA, none, false, .pu (.mov (.c (.int .i64 0)))⟩])
 (.block 0 (.loop (.seq (.ops [⟨(some 33), some undefA, none, false, .pu (.bin .lss (.s 32) (.s 31))⟩])
   (.seq (.cond (.s 33) (.skip)
   (.exit 0))
   (.seq (.block 1 (.seq (.ops [⟨(some 34), some undefA, none, false, .pu (.mov (.s 32))⟩,
      ⟨(some 35), some undefA, none, false, .pu (.idx 1 (.s 30) (.s 32))⟩,
      ⟨(some 36), some undefA, none, false, .ld (.ld 1 false (.s 35))⟩,
      ⟨(some 11), some undefA, none, false, .pu (.mov (.s 34))⟩,
      ⟨(some 12), some undefA, none, false, .pu (.mov (.s 36))⟩])
    (.seq (.ops [⟨(some 37), some undefA, none, false, .pu (.mov (.s 9))⟩,
      ⟨(some 38), some undefA, none, false, .pu (.mov (.s 11))⟩,
      ⟨(some 39), some undefA, none, false, .pu (.mov (.s 8))⟩,
      ⟨(some 40), some undefA, none, false, .pu (.mov (.s 11))⟩,
      ⟨(some 41), some undefA, none, false, .pu (.mov (.s 12))⟩,
      ⟨(some 42), some undefA, none, false, .pu (.mov (.s 1))⟩,
      ⟨(some 43), some undefA, none, false, .pu (.bin .mul (.s 41) (.s 42))⟩,
      ⟨(some 44), some undefA, none, false, .pu (.mov (.s 7))⟩,
      ⟨(some 45), some undefA, none, false, .pu (.bin .quo (.s 43) (.s 44))⟩,
      ⟨(some 46), some undefA, none, false, .pu (.mov (.s 12))⟩,
      ⟨(some 47), some undefA, none, false, .pu (.mov (.s 1))⟩,
      ⟨(some 48), some undefA, none, false, .pu (.bin .mul (.s 46) (.s 47))⟩,
      ⟨(some 49), some undefA, none, false, .pu (.mov (.s 7))⟩,
      ⟨(some 50), some undefA, none, false, .pu (.bin .rem (.s 48) (.s 49))⟩,
      ⟨(some 51), some undefA, none, false, .pu (.idx 1 (.s 37) (.s 38))⟩,
      ⟨none, some undefA, none, false, .ha (.st 1 (.s 51) (.s 45))⟩,
      ⟨(some 52), some undefA, none, false, .pu (.idx 1 (.s 39) (.s 40))⟩,
      ⟨none, some undefA, none, false, .ha (.st 1 (.s 52) (.s 50))⟩])
    (.ops [⟨(some 53), some undefA, none, false, .pu (.mov (.s 10))⟩,
      ⟨(some 54), some undefA, none, false, .pu (.mov (.s 9))⟩,
      ⟨(some 55), some undefA, none, false, .pu (.mov (.s 11))⟩,
      ⟨(some 56), some undefA, none, false, .pu (.idx 1 (.s 54) (.s 55))⟩,
      ⟨(some 57), some undefA, none, false, .ld (.ld 1 false (.s 56))⟩,
      ⟨(some 58), some undefA, none, false, .pu (.bin .sub (.s 53) (.s 57))⟩,
      ⟨(some 10), some undefA, none, false, .pu (.mov (.s 58))⟩]))))
   (.ops [⟨(some 59), some undefA, none, false, .pu (.bin .add (.s 32) (.c (.int .i64 1)))⟩,
     ⟨(some 32), some undefA, none, false, .pu (.mov (.s 59))⟩])))))))
 (.seq (.seq (.ops [⟨(some 60), some undefA, none, false, .pu (.mov (.s 10))⟩,
   ⟨(some 61), some undefA, none, false, .pu (.mov (.c (.int .i64 0)))⟩])
 (.block 2 (.loop (.seq (.ops [⟨(some 62), some undefA, none, false, .pu (.bin .lss (.s 61) (.s 60))⟩])
   (.seq (.cond (.s 62) (.skip)
   (.exit 2))
   (.seq (.block 3 (.seq (.ops [⟨(some 63), some undefA, none, false, .pu (.mov (.s 8))⟩,
      ⟨(some 64), some undefA, none, false, .pu (.mov (.s 8))⟩,
      ⟨(some 65), some undefA, none, false, .call 64 [(.s 64)]⟩,
      ⟨(some 66), some undefA, none, false, .call 63 [(.s 63), (.s 65)]⟩,
      ⟨(some 13), some undefA, none, false, .pu (.mov (.s 66))⟩])
    (.seq (.ops [⟨(some 67), some undefA, none, false, .pu (.mov (.s 9))⟩,
      ⟨(some 68), some undefA, none, false, .pu (.mov (.s 13))⟩,
      ⟨(some 69), some undefA, none, false, .pu (.idx 1 (.s 67) (.s 68))⟩,
      ⟨(some 70), some undefA, none, false, .ld (.ld 1 false (.s 69))⟩,
      ⟨(some 71), some undefA, none, false, .pu (.bin .add (.s 70) (.c (.int .i64 1)))⟩,
      ⟨(some 72), some undefA, none, false, .pu (.idx 1 (.s 67) (.s 68))⟩,
      ⟨none, some undefA, none, false, .ha (.st 1 (.s 72) (.s 71))⟩])
    (.ops [⟨(some 73), some undefA, none, false, .pu (.mov (.s 8))⟩,
      ⟨(some 74), some undefA, none, false, .pu (.mov (.s 13))⟩,
      ⟨(some 75), some undefA, none, false, .pu (.idx 1 (.s 73) (.s 74))⟩,
      ⟨none, some undefA, none, false, .ha (.st 1 (.s 75) (.c (.int .i64 (-1))))⟩]))))
   (.ops [⟨(some 76), some undefA, none, false, .pu (.bin .add (.s 61) (.c (.int .i64 1)))⟩,
     ⟨(some 61), some undefA, none, false, .pu (.mov (.s 76))⟩])))))))
 (.seq (.ops [⟨(some 77), some undefA, none, false, .pu (.mov (.s 9))⟩,
   ⟨(some 4), some undefA, none, false, .pu (.mov (.s 77))⟩,
   ⟨(some 5), some undefA, none, false, .pu (.mov (.c (.int .i64 0)))⟩])
 (.ret)))))))))⟩
theorem t31 : trF Try.prog [] [] Try.f31 = some m31 := by kernel_rfl
/-- selion/claim.isClaims [] -/
def m53 : MFun := ⟨16, [], [.mov (.s 2)],
 .seq (.ops [⟨(some 2), some undefA, none, false, .pu (.mov (.c (.bool false)))⟩])
 (.seq (.ops [⟨(some 3), some undefA, none, false, .pu (.mov (.s 0))⟩,
   ⟨(some 4), some undefA, none, false, .pu (.len (.s 3))⟩,
   ⟨(some 5), some undefA, none, false, .pu (.bin .geq (.s 4) (.c (.int .i64 1)))⟩,
   ⟨(some 6), some undefA, none, false, .pu (.mov (.s 5))⟩,
   ⟨(some 7), some undefA, (some (6, true)), false, .pu (.mov (.s 0))⟩,
   ⟨(some 8), some undefA, (some (6, true)), false, .pu (.len (.s 7))⟩,
   ⟨(some 9), some undefA, (some (6, true)), false, .pu (.bin .leq (.s 8) (.c (.int .i64 8)))⟩,
   ⟨(some 10), some undefA, none, false, .pu (.pick (.s 6) (.s 9) (.c (.bool false)))⟩,
   ⟨(some 11), some undefA, none, false, .pu (.mov (.s 10))⟩,
   ⟨(some 12), some undefA, (some (11, true)), false, .pu (.mov (.s 0))⟩,
   ⟨(some 13), some undefA, (some (11, true)), false, .call 57 [(.s 12), (.c (.fn 78 []))]⟩,
   ⟨(some 14), some undefA, (some (11, true)), false, .pu (.not (.s 13))⟩,
   ⟨(some 15), some undefA, none, false, .pu (.pick (.s 11) (.s 14) (.c (.bool false)))⟩,
   ⟨(some 2), some undefA, none, false, .pu (.mov (.s 15))⟩])
 (.ret))⟩
theorem t53 : trF Try.prog [] [] Try.f53 = some m53 := by kernel_rfl
/-- selion/claim.total [loop [3, 6, 7, 8]] -/
def m54 : MFun := ⟨17, [], [.mov (.s 2)],
 .seq (.ops [⟨(some 2), some undefA, none, false, .pu (.mov (.c (.int .i64 0)))⟩])
 (.seq (.ops [⟨(some 3), some undefA, none, false, .pu (.mov (.c (.int .i64 0)))⟩])
 (.seq (.seq (.ops [⟨(some 6), some undefA, none, false, .pu (.mov (.s 0))⟩,
   ⟨(some 7), some undefA, none, false, .pu (.len (.s 6))⟩,
   ⟨(some 8), some undefA, none, false, .pu (.mov (.c (.int .i64 0)))⟩])
 (.block 0 (.loop (.seq (.ops [⟨(some 9), some undefA, none, false, .pu (.bin .lss (.s 8) (.s 7))⟩])
   (.seq (.cond (.s 9) (.skip)
   (.exit 0))
   (.seq (.block 1 (.seq (.ops [⟨(some 10), some undefA, none, false, .pu (.idx 1 (.s 6) (.s 8))⟩,
      ⟨(some 11), some undefA, none, false, .ld (.ld 1 false (.s 10))⟩,
      ⟨(some 5), some undefA, none, false, .pu (.mov (.s 11))⟩])
    (.ops [⟨(some 12), some undefA, none, false, .pu (.mov (.s 3))⟩,
      ⟨(some 13), some undefA, none, false, .pu (.mov (.s 5))⟩,
      ⟨(some 14), some undefA, none, false, .pu (.bin .add (.s 12) (.s 13))⟩,
      ⟨(some 3), some undefA, none, false, .pu (.mov (.s 14))⟩])))
   (.ops [⟨(some 15), some undefA, none, false, .pu (.bin .add (.s 8) (.c (.int .i64 1)))⟩,
     ⟨(some 8), some undefA, none, false, .pu (.mov (.s 15))⟩])))))))
 (.seq (.ops [⟨(some 16), some undefA, none, false, .pu (.mov (.s 3))⟩,
   ⟨(some 2), some undefA, none, false, .pu (.mov (.s 16))⟩])
 (.ret))))⟩
theorem t54 : trF Try.prog [] [] Try.f54 = some m54 := by kernel_rfl
/-- selion/claim.by [] -/
def m55 : MFun := ⟨22, [], [.mov (.s 6), .mov (.s 7)],
 .seq (.ops [⟨(some 6), some undefA, none, false, .pu (.mov (.c (.nilS)))⟩,
   ⟨(some 7), some undefA, none, false, .pu (.mov (.c (.int .i64 0)))⟩])
 (.seq (.seq (.ops [⟨(some 9), some undefA, none, false, .pu (.mov (.s 1))⟩,
   ⟨(some 10), some undefA, none, false, .pu (.mov (.s 2))⟩,
   ⟨(some 11), some undefA, none, false, .call 16 [(.s 9), (.s 10)]⟩,
   ⟨(some 8), some undefA, none, false, .pu (.mov (.s 11))⟩])
 (.seq (.ops [⟨(some 12), some undefA, none, false, .pu (.mov (.s 8))⟩,
   ⟨(some 13), some undefA, none, false, .pu (.bin .neq (.s 12) (.c (.int .i64 0)))⟩])
 (.cond (.s 13) (.seq (.ops [⟨(some 14), some undefA, none, false, .pu (.mov (.s 8))⟩,
    ⟨(some 6), some undefA, none, false, .pu (.mov (.c (.nilS)))⟩,
    ⟨(some 7), some undefA, none, false, .pu (.mov (.s 14))⟩])
  (.ret))
 (.skip))))
 (.seq (.ops [⟨(some 15), some undefA, none, false, .call 79 []⟩,
   ⟨(some 16), some undefA, none, false, .pu (.mov (.s 0))⟩,
   ⟨(some 17), some undefA, none, false, .pu (.aidx 4 1 true (.s 15) (.s 16))⟩,
   ⟨(some 18), some undefA, none, false, .pu (.part 0 1 false (.s 17))⟩,
   ⟨(some 19), some undefA, none, false, .pu (.mov (.s 1))⟩,
   ⟨(some 20), some undefA, none, false, .pu (.mov (.s 2))⟩,
   ⟨(some 21), some undefA, none, false, .callv (.s 18) [(.s 19), (.s 20)]⟩,
   ⟨(some 6), some undefA, none, false, .pu (.mov (.s 21))⟩,
   ⟨(some 7), some undefA, none, false, .pu (.mov (.c (.int .i64 0)))⟩])
 (.ret)))⟩
theorem t55 : trF Try.prog [] [] Try.f55 = some m55 := by kernel_rfl
/-- slices.ContainsFunc[[]int,int] [] -/
def m57 : MFun := ⟨9, [], [.mov (.s 4)],
 .seq (.ops [⟨(some 4), some undefA, none, false, .pu (.mov (.c (.bool false)))⟩])
 (.seq (.ops [⟨(some 5), some undefA, none, false, .pu (.mov (.s 0))⟩,
   ⟨(some 6), some undefA, none, false, .pu (.mov (.s 1))⟩,
   ⟨(some 7), some undefA, none, false, .call 81 [(.s 5), (.s 6)]⟩,
   ⟨(some 8), some undefA, none, false, .pu (.bin .geq (.s 7) (.c (.int .i64 0)))⟩,
   ⟨(some 4), some undefA, none, false, .pu (.mov (.s 8))⟩])
 (.ret))⟩
theorem t57 : trF Try.prog [] [] Try.f57 = some m57 := by kernel_rfl
/-- selion/claim.ratio [] -/
def m61 : MFun := ⟨16, [4], [.bget none 4 0 2 true],
 .seq (.ops [⟨(some 4), some (.junk), none, false, .pu (.bnew (.c (.agg [.int .i64 0, .int .i64 0])))⟩])
 (.seq (.ops [⟨(some 6), some undefA, none, false, .pu (.mov (.s 0))⟩,
   ⟨(some 7), some undefA, none, false, .pu (.mov (.s 1))⟩,
   ⟨(some 8), some undefA, none, false, .call 82 [(.s 6), (.s 7)]⟩,
   ⟨(some 5), some undefA, none, false, .pu (.mov (.s 8))⟩])
 (.seq (.ops [⟨(some 9), some undefA, none, false, .pu (.mov (.s 0))⟩,
   ⟨(some 10), some undefA, none, false, .pu (.mov (.s 5))⟩,
   ⟨(some 11), some undefA, none, false, .pu (.bin .quo (.s 9) (.s 10))⟩,
   ⟨(some 12), some undefA, none, false, .pu (.mov (.s 1))⟩,
   ⟨(some 13), some undefA, none, false, .pu (.mov (.s 5))⟩,
   ⟨(some 14), some undefA, none, false, .pu (.bin .quo (.s 12) (.s 13))⟩,
   ⟨(some 15), some undefA, none, false, .pu (.build [.int .i64 0, .int .i64 0] [(0, 1, (.s 11)), (1, 1, (.s 14))])⟩,
   ⟨(some 4), none, none, false, .pu (.bset none 4 0 2 (.s 15))⟩])
 (.ret)))⟩
theorem t61 : trF Try.prog [4] [] Try.f61 = some m61 := by kernel_rfl
/-- slices.Index[[]int,int] [loop [0, 1, 7, 8]] -/
def m63 : MFun := ⟨19, [], [.mov (.s 4)],
 .seq (.ops [⟨(some 4), some undefA, none, false, .pu (.mov (.c (.int .i64 0)))⟩])
 (.seq (.seq (.ops [⟨(some 6), some undefA, none, false, .pu (.mov (.s 0))⟩,
   ⟨(some 7), some undefA, none, false, .pu (.len (.s 6))⟩,
   ⟨(some 8), some undefA, none, false, .pu (.mov (.c (.int .i64 0)))⟩])
 (.block 0 (.loop (.seq (.ops [⟨(some 9), some undefA, none, false, .pu (.bin .lss (.s 8) (.s 7))⟩])
   (.seq (.cond (.s 9) (.skip)
   (.exit 0))
   (.seq (.block 1 (.seq (.ops [⟨(some 10), some undefA, none, false, .pu (.mov (.s 8))⟩,
      ⟨(some 5), some undefA, none, false, .pu (.mov (.s 10))⟩])
    (.seq (.ops [⟨(some 11), some undefA, none, false, .pu (.mov (.s 1))⟩,
      ⟨(some 12), some undefA, none, false, .pu (.mov (.s 0))⟩,
      ⟨(some 13), some undefA, none, false, .pu (.mov (.s 5))⟩,
      ⟨(some 14), some undefA, none, false, .pu (.idx 1 (.s 12) (.s 13))⟩,
      ⟨(some 15), some undefA, none, false, .ld (.ld 1 false (.s 14))⟩,
      ⟨(some 16), some undefA, none, false, .pu (.bin .eql (.s 11) (.s 15))⟩])
    (.cond (.s 16) (.seq (.ops [⟨(some 17), some undefA, none, false, .pu (.mov (.s 5))⟩,
       ⟨(some 4), some undefA, none, false, .pu (.mov (.s 17))⟩])
     (.ret))
    (.skip)))))
   (.ops [⟨(some 18), some undefA, none, false, .pu (.bin .add (.s 8) (.c (.int .i64 1)))⟩,
     ⟨(some 8), some undefA, none, false, .pu (.mov (.s 18))⟩])))))))
 (.seq (.ops [⟨(some 4), some undefA, none, false, .pu (.mov (.c (.int .i64 (-1))))⟩])
 (.ret)))⟩
theorem t63 : trF Try.prog [] [] Try.f63 = some m63 := by kernel_rfl
/-- slices.Max[[]int,int] [loop [0, 3, 4]] -/
def m64 : MFun := ⟨25, [], [.mov (.s 2)],
 .seq (.ops [⟨(some 2), some undefA, none, false, .pu (.mov (.c (.int .i64 0)))⟩])
 (.seq (.seq (.ops [⟨(some 5), some undefA, none, false, .pu (.mov (.s 0))⟩,
   ⟨(some 6), some undefA, none, false, .pu (.len (.s 5))⟩,
   ⟨(some 7), some undefA, none, false, .pu (.bin .lss (.s 6) (.c (.int .i64 1)))⟩])
 (.cond (.s 7) (.ops [⟨(some 8), some undefA, none, false, .pu (.fail)⟩,
    ⟨none, some undefA, none, false, .pu (.fail)⟩])
 (.skip)))
 (.seq (.ops [⟨(some 9), some undefA, none, false, .pu (.mov (.s 0))⟩,
   ⟨(some 10), some undefA, none, false, .pu (.idx 1 (.s 9) (.c (.int .i64 0)))⟩,
   ⟨(some 11), some undefA, none, false, .ld (.ld 1 false (.s 10))⟩,
   ⟨(some 3), some undefA, none, false, .pu (.mov (.s 11))⟩])
 (.seq (.seq (.ops [⟨(some 4), some undefA, none, false, .pu (.mov (.c (.int .i64 1)))⟩])
 (.block 0 (.loop (.seq (.seq (.ops [⟨(some 12), some undefA, none, false, .pu (.mov (.s 4))⟩,
     ⟨(some 13), some undefA, none, false, .pu (.mov (.s 0))⟩,
     ⟨(some 14), some undefA, none, false, .pu (.len (.s 13))⟩,
     ⟨(some 15), some undefA, none, false, .pu (.bin .lss (.s 12) (.s 14))⟩])
   (.cond (.s 15) (.skip)
   (.exit 0)))
   (.seq (.block 1 (.ops [⟨(some 18), some undefA, none, false, .pu (.mov (.s 3))⟩,
      ⟨(some 19), some undefA, none, false, .pu (.mov (.s 0))⟩,
      ⟨(some 20), some undefA, none, false, .pu (.mov (.s 4))⟩,
      ⟨(some 21), some undefA, none, false, .pu (.idx 1 (.s 19) (.s 20))⟩,
      ⟨(some 22), some undefA, none, false, .ld (.ld 1 false (.s 21))⟩,
      ⟨(some 23), some undefA, none, false, .pu (.mm true (.s 18) [(.s 22)])⟩,
      ⟨(some 3), some undefA, none, false, .pu (.mov (.s 23))⟩]))
   (.ops [⟨(some 16), some undefA, none, false, .pu (.mov (.s 4))⟩,
     ⟨(some 17), some undefA, none, false, .pu (.bin .add (.s 16) (.c (.int .i64 1)))⟩,
     ⟨(some 4), some undefA, none, false, .pu (.mov (.s 17))⟩]))))))
 (.seq (.ops [⟨(some 24), some undefA, none, false, .pu (.mov (.s 3))⟩,
   ⟨(some 2), some undefA, none, false, .pu (.mov (.s 24))⟩])
 (.ret)))))⟩
theorem t64 : trF Try.prog [] [] Try.f64 = some m64 := by kernel_rfl
/-- slices.Sort[[]int,int] [] -/
def m72 : MFun := ⟨11, [], [],
 .seq (.ops [⟨(some 3), some undefA, none, false, .pu (.mov (.s 0))⟩,
   ⟨(some 4), some undefA, none, false, .pu (.len (.s 3))⟩,
   ⟨(some 2), some undefA, none, false, .pu (.mov (.s 4))⟩])
 (.ops [⟨(some 5), some undefA, none, false, .pu (.mov (.s 0))⟩,
   ⟨(some 6), some undefA, none, false, .pu (.mov (.s 2))⟩,
   ⟨(some 7), some undefA, none, false, .pu (.mov (.s 2))⟩,
   ⟨(some 8), some undefA, none, false, .pu (.conv .u64 (.s 7))⟩,
   ⟨(some 9), some undefA, none, false, .call 84 [(.s 8)]⟩,
   ⟨(some 10), some undefA, none, false, .call 83 [(.s 5), (.c (.int .i64 0)), (.s 6), (.s 9)]⟩])⟩
theorem t72 : trF Try.prog [] [] Try.f72 = some m72 := by kernel_rfl
/-- selion/claim.isClaims$1 [] -/
def m78 : MFun := ⟨9, [], [.mov (.s 2)],
 .seq (.ops [⟨(some 2), some undefA, none, false, .pu (.mov (.c (.bool false)))⟩])
 (.seq (.ops [⟨(some 3), some undefA, none, false, .pu (.mov (.s 0))⟩,
   ⟨(some 4), some undefA, none, false, .pu (.bin .lss (.s 3) (.c (.int .i64 0)))⟩,
   ⟨(some 5), some undefA, none, false, .pu (.mov (.s 4))⟩,
   ⟨(some 6), some undefA, (some (5, false)), false, .pu (.mov (.s 0))⟩,
   ⟨(some 7), some undefA, (some (5, false)), false, .pu (.bin .gtr (.s 6) (.c (.int .i64 1000)))⟩,
   ⟨(some 8), some undefA, none, false, .pu (.pick (.s 5) (.c (.bool true)) (.s 7))⟩,
   ⟨(some 2), some undefA, none, false, .pu (.mov (.s 8))⟩])
 (.ret))⟩
theorem t78 : trF Try.prog [] [] Try.f78 = some m78 := by kernel_rfl
/-- selion/claim.rules [] -/
def m79 : MFun := ⟨12, [0], [.bget none 0 0 4 true],
 .seq (.ops [⟨(some 0), some (.junk), none, false, .pu (.bnew (.c (.agg [.nilF, .nilF, .nilF, .nilF])))⟩])
 (.seq (.ops [⟨(some 1), some undefA, none, false, .ha (.newv (.c (.nilF)))⟩,
   ⟨none, some undefA, none, false, .ha (.st 1 (.s 1) (.c (.fn 87 [])))⟩])
 (.seq (.ops [⟨(some 3), some undefA, none, false, .pu (.mkf 89 [(.s 1)])⟩,
   ⟨(some 2), some undefA, none, false, .ha (.newv (.c (.nilF)))⟩,
   ⟨none, some undefA, none, false, .ha (.st 1 (.s 2) (.s 3))⟩])
 (.seq (.ops [⟨(some 4), some undefA, none, false, .pu (.build [.nilF] [(0, 1, (.c (.fn 90 [])))])⟩,
   ⟨(some 5), some undefA, none, false, .ld (.ld 1 false (.s 1))⟩,
   ⟨(some 6), some undefA, none, false, .pu (.build [.nilF] [(0, 1, (.s 5))])⟩,
   ⟨(some 7), some undefA, none, false, .ld (.ld 1 false (.s 2))⟩,
   ⟨(some 8), some undefA, none, false, .pu (.build [.nilF] [(0, 1, (.s 7))])⟩,
   ⟨(some 9), some undefA, none, false, .pu (.mkf 91 [(.s 1), (.s 2)])⟩,
   ⟨(some 10), some undefA, none, false, .pu (.build [.nilF] [(0, 1, (.s 9))])⟩,
   ⟨(some 11), some undefA, none, false, .pu (.build [.nilF, .nilF, .nilF, .nilF] [(0, 1, (.s 4)), (1, 1, (.s 6)), (2, 1, (.s 8)), (3, 1, (.s 10))])⟩,
   ⟨(some 0), none, none, false, .pu (.bset none 0 0 4 (.s 11))⟩])
 (.ret))))⟩
theorem t79 : trF Try.prog [0] [] Try.f79 = some m79 := by kernel_rfl
/-- slices.IndexFunc[[]int,int] [loop [0, 1, 7, 8]] -/
def m81 : MFun := ⟨19, [], [.mov (.s 4)],
 .seq (.ops [⟨(some 4), some undefA, none, false, .pu (.mov (.c (.int .i64 0)))⟩])
 (.seq (.seq (.ops [⟨(some 6), some undefA, none, false, .pu (.mov (.s 0))⟩,
   ⟨(some 7), some undefA, none, false, .pu (.len (.s 6))⟩,
   ⟨(some 8), some undefA, none, false, .pu (.mov (.c (.int .i64 0)))⟩])
 (.block 0 (.loop (.seq (.ops [⟨(some 9), some undefA, none, false, .pu (.bin .lss (.s 8) (.s 7))⟩])
   (.seq (.cond (.s 9) (.skip)
   (.exit 0))
   (.seq (.block 1 (.seq (.ops [⟨(some 10), some undefA, none, false, .pu (.mov (.s 8))⟩,
      ⟨(some 5), some undefA, none, false, .pu (.mov (.s 10))⟩])
    (.seq (.ops [⟨(some 11), some undefA, none, false, .pu (.mov (.s 1))⟩,
      ⟨(some 12), some undefA, none, false, .pu (.mov (.s 0))⟩,
      ⟨(some 13), some undefA, none, false, .pu (.mov (.s 5))⟩,
      ⟨(some 14), some undefA, none, false, .pu (.idx 1 (.s 12) (.s 13))⟩,
      ⟨(some 15), some undefA, none, false, .ld (.ld 1 false (.s 14))⟩,
      ⟨(some 16), some undefA, none, false, .callv (.s 11) [(.s 15)]⟩])
    (.cond (.s 16) (.seq (.ops [⟨(some 17), some undefA, none, false, .pu (.mov (.s 5))⟩,
       ⟨(some 4), some undefA, none, false, .pu (.mov (.s 17))⟩])
     (.ret))
    (.skip)))))
   (.ops [⟨(some 18), some undefA, none, false, .pu (.bin .add (.s 8) (.c (.int .i64 1)))⟩,
     ⟨(some 8), some undefA, none, false, .pu (.mov (.s 18))⟩])))))))
 (.seq (.ops [⟨(some 4), some undefA, none, false, .pu (.mov (.c (.int .i64 (-1))))⟩])
 (.ret)))⟩
theorem t81 : trF Try.prog [] [] Try.f81 = some m81 := by kernel_rfl
/-- selion/claim.gcd [loop [0, 1]] -/
def m82 : MFun := ⟨15, [], [.mov (.s 4)],
 .seq (.ops [⟨(some 4), some undefA, none, false, .pu (.mov (.c (.int .i64 0)))⟩])
 (.seq (.block 0 (.loop (.seq (.seq (.ops [⟨(some 5), some undefA, none, false, .pu (.mov (.s 1))⟩,
     ⟨(some 6), some undefA, none, false, .pu (.bin .neq (.s 5) (.c (.int .i64 0)))⟩])
   (.cond (.s 6) (.skip)
   (.exit 0)))
   (.block 1 (.ops [⟨(some 7), some undefA, none, false, .pu (.mov (.s 1))⟩,
      ⟨(some 8), some undefA, none, false, .pu (.mov (.s 0))⟩,
      ⟨(some 9), some undefA, none, false, .pu (.mov (.s 1))⟩,
      ⟨(some 10), some undefA, none, false, .pu (.bin .rem (.s 8) (.s 9))⟩,
      ⟨(some 0), some undefA, none, false, .pu (.mov (.s 7))⟩,
      ⟨(some 1), some undefA, none, false, .pu (.mov (.s 10))⟩])))))
 (.seq (.ops [⟨(some 11), some undefA, none, false, .pu (.mov (.s 0))⟩,
   ⟨(some 12), some undefA, none, false, .pu (.mov (.s 0))⟩,
   ⟨(some 13), some undefA, none, false, .pu (.neg (.s 12))⟩,
   ⟨(some 14), some undefA, none, false, .pu (.mm true (.s 11) [(.s 13)])⟩,
   ⟨(some 4), some undefA, none, false, .pu (.mov (.s 14))⟩])
 (.ret)))⟩
theorem t82 : trF Try.prog [] [] Try.f82 = some m82 := by kernel_rfl
/-- slices.pdqsortOrdered[int] [loop [0, 1, 2, 3, 8, 9]] -/
def m83 : MFun := ⟨134, [], [],
 .seq (.ops [⟨(some 8), some undefA, none, false, .pu (.mov (.c (.bool true)))⟩])
 (.seq (.ops [⟨(some 9), some undefA, none, false, .pu (.mov (.c (.bool true)))⟩])
 (.block 0 (.loop (.block 1 (.seq (.ops [⟨(some 19), some undefA, none, false, .pu (.mov (.s 2))⟩,
      ⟨(some 20), some undefA, none, false, .pu (.mov (.s 1))⟩,
      ⟨(some 21), some undefA, none, false, .pu (.bin .sub (.s 19) (.s 20))⟩,
      ⟨(some 10), some undefA, none, false, .pu (.mov (.s 21))⟩])
    (.seq (.seq (.ops [⟨(some 22), some undefA, none, false, .pu (.mov (.s 10))⟩,
      ⟨(some 23), some undefA, none, false, .pu (.bin .leq (.s 22) (.c (.int .i64 12)))⟩])
    (.cond (.s 23) (.seq (.ops [⟨(some 24), some undefA, none, false, .pu (.mov (.s 0))⟩,
       ⟨(some 25), some undefA, none, false, .pu (.mov (.s 1))⟩,
       ⟨(some 26), some undefA, none, false, .pu (.mov (.s 2))⟩,
       ⟨(some 27), some undefA, none, false, .call 92 [(.s 24), (.s 25), (.s 26)]⟩])
     (.ret))
    (.skip)))
    (.seq (.seq (.ops [⟨(some 28), some undefA, none, false, .pu (.mov (.s 3))⟩,
      ⟨(some 29), some undefA, none, false, .pu (.bin .eql (.s 28) (.c (.int .i64 0)))⟩])
    (.cond (.s 29) (.seq (.ops [⟨(some 30), some undefA, none, false, .pu (.mov (.s 0))⟩,
       ⟨(some 31), some undefA, none, false, .pu (.mov (.s 1))⟩,
       ⟨(some 32), some undefA, none, false, .pu (.mov (.s 2))⟩,
       ⟨(some 33), some undefA, none, false, .call 93 [(.s 30), (.s 31), (.s 32)]⟩])
     (.ret))
    (.skip)))
    (.seq (.seq (.ops [⟨(some 34), some undefA, none, false, .pu (.mov (.s 8))⟩,
      ⟨(some 35), some undefA, none, false, .pu (.not (.s 34))⟩])
    (.cond (.s 35) (.seq (.ops [⟨(some 36), some undefA, none, false, .pu (.mov (.s 0))⟩,
       ⟨(some 37), some undefA, none, false, .pu (.mov (.s 1))⟩,
       ⟨(some 38), some undefA, none, false, .pu (.mov (.s 2))⟩,
       ⟨(some 39), some undefA, none, false, .call 94 [(.s 36), (.s 37), (.s 38)]⟩])
     (.ops [⟨(some 40), some undefA, none, false, .pu (.mov (.s 3))⟩,
       ⟨(some 41), some undefA, none, false, .pu (.bin .sub (.s 40) (.c (.int .i64 1)))⟩,
       ⟨(some 3), some undefA, none, false, .pu (.mov (.s 41))⟩]))
    (.skip)))
    (.seq (.ops [⟨(some 43), some undefA, none, false, .pu (.mov (.s 0))⟩,
      ⟨(some 44), some undefA, none, false, .pu (.mov (.s 1))⟩,
      ⟨(some 45), some undefA, none, false, .pu (.mov (.s 2))⟩,
      ⟨(some 46), some undefA, none, false, .call 95 [(.s 43), (.s 44), (.s 45)]⟩,
      ⟨(some 42), some undefA, none, false, .pu (.mov (.s 46))⟩,
      ⟨(some 47), some undefA, none, false, .pu (.extr 0 (.s 42))⟩,
      ⟨(some 48), some undefA, none, false, .pu (.extr 1 (.s 42))⟩,
      ⟨(some 11), some undefA, none, false, .pu (.mov (.s 47))⟩,
      ⟨(some 12), some undefA, none, false, .pu (.mov (.s 48))⟩])
    (.seq (.seq (.ops [⟨(some 49), some undefA, none, false, .pu (.mov (.s 12))⟩,
      ⟨(some 50), some undefA, none, false, .pu (.bin .eql (.s 49) (.c (.int .i64 2)))⟩])
    (.cond (.s 50) (.seq (.ops [⟨(some 51), some undefA, none, false, .pu (.mov (.s 0))⟩,
       ⟨(some 52), some undefA, none, false, .pu (.mov (.s 1))⟩,
       ⟨(some 53), some undefA, none, false, .pu (.mov (.s 2))⟩,
       ⟨(some 54), some undefA, none, false, .call 96 [(.s 51), (.s 52), (.s 53)]⟩])
     (.seq (.ops [⟨(some 55), some undefA, none, false, .pu (.mov (.s 2))⟩,
       ⟨(some 56), some undefA, none, false, .pu (.bin .sub (.s 55) (.c (.int .i64 1)))⟩,
       ⟨(some 57), some undefA, none, false, .pu (.mov (.s 11))⟩,
       ⟨(some 58), some undefA, none, false, .pu (.mov (.s 1))⟩,
       ⟨(some 59), some undefA, none, false, .pu (.bin .sub (.s 57) (.s 58))⟩,
       ⟨(some 60), some undefA, none, false, .pu (.bin .sub (.s 56) (.s 59))⟩,
       ⟨(some 11), some undefA, none, false, .pu (.mov (.s 60))⟩])
     (.ops [⟨(some 12), some undefA, none, false, .pu (.mov (.c (.int .i64 1)))⟩])))
    (.skip)))
    (.seq (.seq (.ops [⟨(some 61), some undefA, none, false, .pu (.mov (.s 8))⟩,
      ⟨(some 62), some undefA, none, false, .pu (.mov (.s 61))⟩,
      ⟨(some 63), some undefA, (some (62, true)), false, .pu (.mov (.s 9))⟩,
      ⟨(some 64), some undefA, none, false, .pu (.pick (.s 62) (.s 63) (.c (.bool false)))⟩,
      ⟨(some 65), some undefA, none, false, .pu (.mov (.s 64))⟩,
      ⟨(some 66), some undefA, (some (65, true)), false, .pu (.mov (.s 12))⟩,
      ⟨(some 67), some undefA, (some (65, true)), false, .pu (.bin .eql (.s 66) (.c (.int .i64 1)))⟩,
      ⟨(some 68), some undefA, none, false, .pu (.pick (.s 65) (.s 67) (.c (.bool false)))⟩])
    (.cond (.s 68) (.seq (.ops [⟨(some 69), some undefA, none, false, .pu (.mov (.s 0))⟩,
       ⟨(some 70), some undefA, none, false, .pu (.mov (.s 1))⟩,
       ⟨(some 71), some undefA, none, false, .pu (.mov (.s 2))⟩,
       ⟨(some 72), some undefA, none, false, .call 97 [(.s 69), (.s 70), (.s 71)]⟩])
     (.cond (.s 72) (.ret)
     (.skip)))
    (.skip)))
    (.seq (.seq (.ops [⟨(some 73), some undefA, none, false, .pu (.mov (.s 1))⟩,
      ⟨(some 74), some undefA, none, false, .pu (.bin .gtr (.s 73) (.c (.int .i64 0)))⟩,
      ⟨(some 75), some undefA, none, false, .pu (.mov (.s 74))⟩,
      ⟨(some 76), some undefA, (some (75, true)), true, .pu (.mov (.s 0))⟩,
      ⟨(some 77), some undefA, (some (75, true)), true, .pu (.mov (.s 1))⟩,
      ⟨(some 78), some undefA, (some (75, true)), true, .pu (.bin .sub (.s 77) (.c (.int .i64 1)))⟩,
      ⟨(some 79), some undefA, (some (75, true)), true, .pu (.idx 1 (.s 76) (.s 78))⟩,
      ⟨(some 80), some undefA, (some (75, true)), true, .ld (.ld 1 false (.s 79))⟩,
      ⟨(some 81), some undefA, (some (75, true)), true, .pu (.mov (.s 0))⟩,
      ⟨(some 82), some undefA, (some (75, true)), true, .pu (.mov (.s 11))⟩,
      ⟨(some 83), some undefA, (some (75, true)), true, .pu (.idx 1 (.s 81) (.s 82))⟩,
      ⟨(some 84), some undefA, (some (75, true)), true, .ld (.ld 1 false (.s 83))⟩,
      ⟨(some 85), some undefA, (some (75, true)), false, .call 98 [(.s 80), (.s 84)]⟩,
      ⟨(some 86), some undefA, (some (75, true)), false, .pu (.not (.s 85))⟩,
      ⟨(some 87), some undefA, none, false, .pu (.pick (.s 75) (.s 86) (.c (.bool false)))⟩])
    (.cond (.s 87) (.seq (.ops [⟨(some 88), some undefA, none, false, .pu (.mov (.s 0))⟩,
       ⟨(some 89), some undefA, none, false, .pu (.mov (.s 1))⟩,
       ⟨(some 90), some undefA, none, false, .pu (.mov (.s 2))⟩,
       ⟨(some 91), some undefA, none, false, .pu (.mov (.s 11))⟩,
       ⟨(some 92), some undefA, none, false, .call 99 [(.s 88), (.s 89), (.s 90), (.s 91)]⟩,
       ⟨(some 13), some undefA, none, false, .pu (.mov (.s 92))⟩])
     (.seq (.ops [⟨(some 93), some undefA, none, false, .pu (.mov (.s 13))⟩,
       ⟨(some 1), some undefA, none, false, .pu (.mov (.s 93))⟩])
     (.exit 1)))
    (.skip)))
    (.seq (.ops [⟨(some 95), some undefA, none, false, .pu (.mov (.s 0))⟩,
      ⟨(some 96), some undefA, none, false, .pu (.mov (.s 1))⟩,
      ⟨(some 97), some undefA, none, false, .pu (.mov (.s 2))⟩,
      ⟨(some 98), some undefA, none, false, .pu (.mov (.s 11))⟩,
      ⟨(some 99), some undefA, none, false, .call 100 [(.s 95), (.s 96), (.s 97), (.s 98)]⟩,
      ⟨(some 94), some undefA, none, false, .pu (.mov (.s 99))⟩,
      ⟨(some 100), some undefA, none, false, .pu (.extr 0 (.s 94))⟩,
      ⟨(some 101), some undefA, none, false, .pu (.extr 1 (.s 94))⟩,
      ⟨(some 14), some undefA, none, false, .pu (.mov (.s 100))⟩,
      ⟨(some 15), some undefA, none, false, .pu (.mov (.s 101))⟩])
    (.seq (.ops [⟨(some 102), some undefA, none, false, .pu (.mov (.s 15))⟩,
      ⟨(some 9), some undefA, none, false, .pu (.mov (.s 102))⟩])
    (.seq (.ops [⟨(some 103), some undefA, none, false, .pu (.mov (.s 14))⟩,
      ⟨(some 104), some undefA, none, false, .pu (.mov (.s 1))⟩,
      ⟨(some 105), some undefA, none, false, .pu (.bin .sub (.s 103) (.s 104))⟩,
      ⟨(some 106), some undefA, none, false, .pu (.mov (.s 2))⟩,
      ⟨(some 107), some undefA, none, false, .pu (.mov (.s 14))⟩,
      ⟨(some 108), some undefA, none, false, .pu (.bin .sub (.s 106) (.s 107))⟩,
      ⟨(some 16), some undefA, none, false, .pu (.mov (.s 105))⟩,
      ⟨(some 17), some undefA, none, false, .pu (.mov (.s 108))⟩])
    (.seq (.ops [⟨(some 109), some undefA, none, false, .pu (.mov (.s 10))⟩,
      ⟨(some 110), some undefA, none, false, .pu (.bin .quo (.s 109) (.c (.int .i64 8)))⟩,
      ⟨(some 18), some undefA, none, false, .pu (.mov (.s 110))⟩])
    (.seq (.ops [⟨(some 111), some undefA, none, false, .pu (.mov (.s 16))⟩,
      ⟨(some 112), some undefA, none, false, .pu (.mov (.s 17))⟩,
      ⟨(some 113), some undefA, none, false, .pu (.bin .lss (.s 111) (.s 112))⟩])
    (.cond (.s 113) (.seq (.ops [⟨(some 114), some undefA, none, false, .pu (.mov (.s 16))⟩,
       ⟨(some 115), some undefA, none, false, .pu (.mov (.s 18))⟩,
       ⟨(some 116), some undefA, none, false, .pu (.bin .geq (.s 114) (.s 115))⟩,
       ⟨(some 8), some undefA, none, false, .pu (.mov (.s 116))⟩])
     (.seq (.ops [⟨(some 117), some undefA, none, false, .pu (.mov (.s 0))⟩,
       ⟨(some 118), some undefA, none, false, .pu (.mov (.s 1))⟩,
       ⟨(some 119), some undefA, none, false, .pu (.mov (.s 14))⟩,
       ⟨(some 120), some undefA, none, false, .pu (.mov (.s 3))⟩,
       ⟨(some 121), some undefA, none, false, .call 83 [(.s 117), (.s 118), (.s 119), (.s 120)]⟩])
     (.ops [⟨(some 122), some undefA, none, false, .pu (.mov (.s 14))⟩,
       ⟨(some 123), some undefA, none, false, .pu (.bin .add (.s 122) (.c (.int .i64 1)))⟩,
       ⟨(some 1), some undefA, none, false, .pu (.mov (.s 123))⟩])))
    (.seq (.ops [⟨(some 124), some undefA, none, false, .pu (.mov (.s 17))⟩,
       ⟨(some 125), some undefA, none, false, .pu (.mov (.s 18))⟩,
       ⟨(some 126), some undefA, none, false, .pu (.bin .geq (.s 124) (.s 125))⟩,
       ⟨(some 8), some undefA, none, false, .pu (.mov (.s 126))⟩])
     (.seq (.ops [⟨(some 127), some undefA, none, false, .pu (.mov (.s 0))⟩,
       ⟨(some 128), some undefA, none, false, .pu (.mov (.s 14))⟩,
       ⟨(some 129), some undefA, none, false, .pu (.bin .add (.s 128) (.c (.int .i64 1)))⟩,
       ⟨(some 130), some undefA, none, false, .pu (.mov (.s 2))⟩,
       ⟨(some 131), some undefA, none, false, .pu (.mov (.s 3))⟩,
       ⟨(some 132), some undefA, none, false, .call 83 [(.s 127), (.s 129), (.s 130), (.s 131)]⟩])
     (.ops [⟨(some 133), some undefA, none, false, .pu (.mov (.s 14))⟩,
       ⟨(some 2), some undefA, none, false, .pu (.mov (.s 133))⟩])))))))))))))))))))))⟩
theorem t83 : trF Try.prog [] [] Try.f83 = some m83 := by kernel_rfl
/-- math/bits.Len [] -/
def m84 : MFun := ⟨8, [], [.mov (.s 2)],
 .seq (.ops [⟨(some 2), some undefA, none, false, .pu (.mov (.c (.int .i64 0)))⟩])
 (.seq (.cond (.c (.bool false)) (.seq (.ops [⟨(some 3), some undefA, none, false, .pu (.mov (.s 0))⟩,
    ⟨(some 4), some undefA, none, false, .pu (.conv .u32 (.s 3))⟩,
    ⟨(some 5), some undefA, none, false, .call 101 [(.s 4)]⟩,
    ⟨(some 2), some undefA, none, false, .pu (.mov (.s 5))⟩])
  (.ret))
 (.skip))
 (.seq (.ops [⟨(some 6), some undefA, none, false, .pu (.mov (.s 0))⟩,
   ⟨(some 7), some undefA, none, false, .call 102 [(.s 6)]⟩,
   ⟨(some 2), some undefA, none, false, .pu (.mov (.s 7))⟩])
 (.ret)))⟩
theorem t84 : trF Try.prog [] [] Try.f84 = some m84 := by kernel_rfl
/-- selion/claim.level [loop [0, 4, 5, 6, 15, 16, 17]] -/
def m85 : MFun := ⟨41, [4], [.bget none 4 0 2 true],
 .seq (.ops [⟨(some 4), some (.junk), none, false, .pu (.bnew (.c (.agg [.int .i64 0, .int .i64 0])))⟩])
 (.seq (.ops [⟨(some 10), some undefA, none, false, .pu (.mov (.s 0))⟩,
   ⟨(some 11), some undefA, none, false, .call 103 [(.s 10)]⟩,
   ⟨(some 5), some undefA, none, false, .pu (.mov (.s 11))⟩])
 (.seq (.ops [⟨(some 12), some undefA, none, false, .pu (.mov (.s 5))⟩,
   ⟨(some 13), some undefA, none, false, .call 72 [(.s 12)]⟩])
 (.seq (.ops [⟨(some 14), some undefA, none, false, .pu (.mov (.s 1))⟩,
   ⟨(some 6), some undefA, none, false, .pu (.mov (.s 14))⟩])
 (.seq (.seq (.ops [⟨(some 15), some undefA, none, false, .pu (.mov (.s 5))⟩,
   ⟨(some 16), some undefA, none, false, .pu (.len (.s 15))⟩,
   ⟨(some 17), some undefA, none, false, .pu (.mov (.c (.int .i64 0)))⟩])
 (.block 0 (.loop (.seq (.ops [⟨(some 18), some undefA, none, false, .pu (.bin .lss (.s 17) (.s 16))⟩])
   (.seq (.cond (.s 18) (.skip)
   (.exit 0))
   (.seq (.block 1 (.seq (.ops [⟨(some 19), some undefA, none, false, .pu (.mov (.s 17))⟩,
      ⟨(some 20), some undefA, none, false, .pu (.idx 1 (.s 15) (.s 17))⟩,
      ⟨(some 21), some undefA, none, false, .ld (.ld 1 false (.s 20))⟩,
      ⟨(some 7), some undefA, none, false, .pu (.mov (.s 19))⟩,
      ⟨(some 8), some undefA, none, false, .pu (.mov (.s 21))⟩])
    (.seq (.seq (.ops [⟨(some 22), some undefA, none, false, .pu (.mov (.s 5))⟩,
      ⟨(some 23), some undefA, none, false, .pu (.len (.s 22))⟩,
      ⟨(some 24), some undefA, none, false, .pu (.mov (.s 7))⟩,
      ⟨(some 25), some undefA, none, false, .pu (.bin .sub (.s 23) (.s 24))⟩,
      ⟨(some 9), some undefA, none, false, .pu (.mov (.s 25))⟩])
    (.seq (.ops [⟨(some 26), some undefA, none, false, .pu (.mov (.s 8))⟩,
      ⟨(some 27), some undefA, none, false, .pu (.mov (.s 9))⟩,
      ⟨(some 28), some undefA, none, false, .pu (.bin .mul (.s 26) (.s 27))⟩,
      ⟨(some 29), some undefA, none, false, .pu (.mov (.s 6))⟩,
      ⟨(some 30), some undefA, none, false, .pu (.bin .geq (.s 28) (.s 29))⟩])
    (.cond (.s 30) (.seq (.ops [⟨(some 31), some undefA, none, false, .pu (.mov (.s 6))⟩,
       ⟨(some 32), some undefA, none, false, .pu (.mov (.s 9))⟩,
       ⟨(some 33), some undefA, none, false, .call 61 [(.s 31), (.s 32)]⟩,
       ⟨(some 4), none, none, false, .pu (.bset none 4 0 2 (.s 33))⟩])
     (.ret))
    (.skip))))
    (.ops [⟨(some 34), some undefA, none, false, .pu (.mov (.s 6))⟩,
      ⟨(some 35), some undefA, none, false, .pu (.mov (.s 8))⟩,
      ⟨(some 36), some undefA, none, false, .pu (.bin .sub (.s 34) (.s 35))⟩,
      ⟨(some 6), some undefA, none, false, .pu (.mov (.s 36))⟩]))))
   (.ops [⟨(some 37), some undefA, none, false, .pu (.bin .add (.s 17) (.c (.int .i64 1)))⟩,
     ⟨(some 17), some undefA, none, false, .pu (.mov (.s 37))⟩])))))))
 (.seq (.ops [⟨(some 38), some undefA, none, false, .pu (.mov (.s 0))⟩,
   ⟨(some 39), some undefA, none, false, .call 64 [(.s 38)]⟩,
   ⟨(some 40), some undefA, none, false, .call 61 [(.s 39), (.c (.int .i64 1))]⟩,
   ⟨(some 4), none, none, false, .pu (.bset none 4 0 2 (.s 40))⟩])
 (.ret))))))⟩
theorem t85 : trF Try.prog [4] [] Try.f85 = some m85 := by kernel_rfl
/-- selion/claim.rules$1 [] -/
def m87 : MFun := ⟨10, [], [.mov (.s 4)],
 .seq (.ops [⟨(some 4), some undefA, none, false, .pu (.mov (.c (.nilS)))⟩])
 (.seq (.ops [⟨(some 5), some undefA, none, false, .pu (.mov (.s 0))⟩,
   ⟨(some 6), some undefA, none, false, .pu (.mov (.s 0))⟩,
   ⟨(some 7), some undefA, none, false, .pu (.mov (.s 1))⟩,
   ⟨(some 8), some undefA, none, false, .call 85 [(.s 6), (.s 7)]⟩,
   ⟨(some 9), some undefA, none, false, .call 88 [(.s 5), (.s 8)]⟩,
   ⟨(some 4), some undefA, none, false, .pu (.mov (.s 9))⟩])
 (.ret))⟩
theorem t87 : trF Try.prog [] [] Try.f87 = some m87 := by kernel_rfl
/-- selion/claim.capped [loop [3, 5, 8, 9, 10]] -/
def m88 : MFun := ⟨32, [3], [.mov (.s 4)],
 .seq (.ops [⟨(some 3), some (.junk), none, false, .pu (.bnew (.s 1))⟩,
   ⟨(some 4), some undefA, none, false, .pu (.mov (.c (.nilS)))⟩])
 (.seq (.ops [⟨(some 5), some undefA, none, false, .pu (.mov (.c (.nilS)))⟩])
 (.seq (.seq (.ops [⟨(some 8), some undefA, none, false, .pu (.mov (.s 0))⟩,
   ⟨(some 9), some undefA, none, false, .pu (.len (.s 8))⟩,
   ⟨(some 10), some undefA, none, false, .pu (.mov (.c (.int .i64 0)))⟩])
 (.block 0 (.loop (.seq (.ops [⟨(some 11), some undefA, none, false, .pu (.bin .lss (.s 10) (.s 9))⟩])
   (.seq (.cond (.s 11) (.skip)
   (.exit 0))
   (.seq (.block 1 (.seq (.ops [⟨(some 12), some undefA, none, false, .pu (.idx 1 (.s 8) (.s 10))⟩,
      ⟨(some 13), some undefA, none, false, .ld (.ld 1 false (.s 12))⟩,
      ⟨(some 7), some undefA, none, false, .pu (.mov (.s 13))⟩])
    (.seq (.ops [⟨(some 14), some undefA, none, false, .pu (.mov (.s 7))⟩,
      ⟨(some 15), some undefA, none, false, .pu (.badr none 3)⟩,
      ⟨(some 16), some undefA, none, false, .pu (.bget (some 15) 3 1 1 false)⟩,
      ⟨(some 17), some undefA, none, false, .pu (.bin .mul (.s 14) (.s 16))⟩,
      ⟨(some 18), some undefA, none, false, .pu (.badr none 3)⟩,
      ⟨(some 19), some undefA, none, false, .pu (.bget (some 18) 3 0 1 false)⟩,
      ⟨(some 20), some undefA, none, false, .pu (.bin .lss (.s 17) (.s 19))⟩])
    (.cond (.s 20) (.ops [⟨(some 21), some undefA, none, false, .pu (.mov (.s 5))⟩,
       ⟨(some 22), some undefA, none, false, .pu (.mov (.s 7))⟩,
       ⟨(some 23), some undefA, none, false, .call 61 [(.s 22), (.c (.int .i64 1))]⟩,
       ⟨(some 24), some undefA, none, false, .ha (.blds 2 1 [.int .i64 0, .int .i64 0] [(0, 2, (.s 23))])⟩,
       ⟨(some 25), some undefA, none, false, .ha (.app 2 (.s 21) (.s 24))⟩,
       ⟨(some 5), some undefA, none, false, .pu (.mov (.s 25))⟩])
    (.ops [⟨(some 26), some undefA, none, false, .pu (.mov (.s 5))⟩,
       ⟨(some 27), some undefA, none, false, .pu (.bget none 3 0 2 true)⟩,
       ⟨(some 28), some undefA, none, false, .ha (.blds 2 1 [.int .i64 0, .int .i64 0] [(0, 2, (.s 27))])⟩,
       ⟨(some 29), some undefA, none, false, .ha (.app 2 (.s 26) (.s 28))⟩,
       ⟨(some 5), some undefA, none, false, .pu (.mov (.s 29))⟩])))))
   (.ops [⟨(some 30), some undefA, none, false, .pu (.bin .add (.s 10) (.c (.int .i64 1)))⟩,
     ⟨(some 10), some undefA, none, false, .pu (.mov (.s 30))⟩])))))))
 (.seq (.ops [⟨(some 31), some undefA, none, false, .pu (.mov (.s 5))⟩,
   ⟨(some 4), some undefA, none, false, .pu (.mov (.s 31))⟩])
 (.ret))))⟩
theorem t88 : trF Try.prog [3] [] Try.f88 = some m88 := by kernel_rfl
/-- selion/claim.rules$2 [] -/
def m89 : MFun := ⟨15, [], [.mov (.s 5)],
 .seq (.ops [⟨(some 5), some undefA, none, false, .pu (.mov (.c (.nilS)))⟩])
 (.seq (.ops [⟨(some 6), some undefA, none, true, .pu (.mov (.s 0))⟩,
   ⟨(some 7), some undefA, none, true, .ld (.ld 1 false (.s 2))⟩,
   ⟨(some 8), some undefA, none, true, .pu (.mov (.s 0))⟩,
   ⟨(some 9), some undefA, none, true, .pu (.mov (.s 0))⟩,
   ⟨(some 10), some undefA, none, true, .call 54 [(.s 9)]⟩,
   ⟨(some 11), some undefA, none, true, .pu (.mov (.s 1))⟩,
   ⟨(some 12), some undefA, none, true, .pu (.bin .sub (.s 10) (.s 11))⟩,
   ⟨(some 13), some undefA, none, false, .callv (.s 7) [(.s 8), (.s 12)]⟩,
   ⟨(some 14), some undefA, none, false, .call 75 [(.s 6), (.s 13)]⟩,
   ⟨(some 5), some undefA, none, false, .pu (.mov (.s 14))⟩])
 (.ret))⟩
theorem t89 : trF Try.prog [] [] Try.f89 = some m89 := by kernel_rfl
/-- selion/claim.rules$3 [loop [0, 1, 5, 8, 9, 10]] -/
def m90 : MFun := ⟨26, [], [.mov (.s 4)],
 .seq (.ops [⟨(some 4), some undefA, none, false, .pu (.mov (.c (.nilS)))⟩])
 (.seq (.ops [⟨(some 5), some undefA, none, false, .pu (.mov (.c (.nilS)))⟩])
 (.seq (.seq (.ops [⟨(some 8), some undefA, none, false, .pu (.mov (.s 0))⟩,
   ⟨(some 9), some undefA, none, false, .pu (.len (.s 8))⟩,
   ⟨(some 10), some undefA, none, false, .pu (.mov (.c (.int .i64 0)))⟩])
 (.block 0 (.loop (.seq (.ops [⟨(some 11), some undefA, none, false, .pu (.bin .lss (.s 10) (.s 9))⟩])
   (.seq (.cond (.s 11) (.skip)
   (.exit 0))
   (.seq (.block 1 (.seq (.ops [⟨(some 12), some undefA, none, false, .pu (.idx 1 (.s 8) (.s 10))⟩,
      ⟨(some 13), some undefA, none, false, .ld (.ld 1 false (.s 12))⟩,
      ⟨(some 7), some undefA, none, false, .pu (.mov (.s 13))⟩])
    (.ops [⟨(some 14), some undefA, none, false, .pu (.mov (.s 5))⟩,
      ⟨(some 15), some undefA, none, false, .pu (.mov (.s 7))⟩,
      ⟨(some 16), some undefA, none, false, .pu (.mov (.s 1))⟩,
      ⟨(some 17), some undefA, none, false, .pu (.bin .mul (.s 15) (.s 16))⟩,
      ⟨(some 18), some undefA, none, false, .pu (.mov (.s 0))⟩,
      ⟨(some 19), some undefA, none, false, .call 54 [(.s 18)]⟩,
      ⟨(some 20), some undefA, none, false, .pu (.mm true (.c (.int .i64 1)) [(.s 19)])⟩,
      ⟨(some 21), some undefA, none, false, .call 61 [(.s 17), (.s 20)]⟩,
      ⟨(some 22), some undefA, none, false, .ha (.blds 2 1 [.int .i64 0, .int .i64 0] [(0, 2, (.s 21))])⟩,
      ⟨(some 23), some undefA, none, false, .ha (.app 2 (.s 14) (.s 22))⟩,
      ⟨(some 5), some undefA, none, false, .pu (.mov (.s 23))⟩])))
   (.ops [⟨(some 24), some undefA, none, false, .pu (.bin .add (.s 10) (.c (.int .i64 1)))⟩,
     ⟨(some 10), some undefA, none, false, .pu (.mov (.s 24))⟩])))))))
 (.seq (.ops [⟨(some 25), some undefA, none, false, .pu (.mov (.s 5))⟩,
   ⟨(some 4), some undefA, none, false, .pu (.mov (.s 25))⟩])
 (.ret))))⟩
theorem t90 : trF Try.prog [] [] Try.f90 = some m90 := by kernel_rfl
/-- selion/claim.rules$4 [loop [8, 23, 24, 25], loop [0, 8, 46, 47, 48]] -/
def m91 : MFun := ⟨72, [10, 12], [.mov (.s 6)],
 .seq (.ops [⟨(some 6), some undefA, none, false, .pu (.mov (.c (.nilS)))⟩])
 (.seq (.ops [⟨(some 13), some undefA, none, false, .pu (.mov (.s 0))⟩,
   ⟨(some 14), some undefA, none, false, .call 54 [(.s 13)]⟩,
   ⟨(some 7), some undefA, none, false, .pu (.mov (.s 14))⟩])
 (.seq (.ops [⟨(some 8), some undefA, none, false, .pu (.mov (.c (.nilS)))⟩])
 (.seq (.seq (.ops [⟨(some 15), some undefA, none, false, .pu (.mov (.s 1))⟩,
   ⟨(some 16), some undefA, none, false, .pu (.bin .mul (.c (.int .i64 2)) (.s 15))⟩,
   ⟨(some 17), some undefA, none, false, .pu (.mov (.s 7))⟩,
   ⟨(some 18), some undefA, none, false, .pu (.bin .leq (.s 16) (.s 17))⟩])
 (.cond (.s 18) (.seq (.seq (.ops [⟨(some 19), some undefA, none, false, .ld (.ld 1 false (.s 2))⟩,
    ⟨(some 20), some undefA, none, false, .pu (.mov (.s 0))⟩,
    ⟨(some 21), some undefA, none, false, .pu (.mov (.s 1))⟩,
    ⟨(some 22), some undefA, none, false, .pu (.bin .mul (.c (.int .i64 2)) (.s 21))⟩,
    ⟨(some 23), some undefA, none, false, .callv (.s 19) [(.s 20), (.s 22)]⟩,
    ⟨(some 24), some undefA, none, false, .pu (.len (.s 23))⟩,
    ⟨(some 25), some undefA, none, false, .pu (.mov (.c (.int .i64 0)))⟩])
  (.block 0 (.loop (.seq (.ops [⟨(some 26), some undefA, none, false, .pu (.bin .lss (.s 25) (.s 24))⟩])
    (.seq (.cond (.s 26) (.skip)
    (.exit 0))
    (.seq (.block 1 (.seq (.ops [⟨(some 27), some undefA, none, false, .pu (.idx 2 (.s 23) (.s 25))⟩,
       ⟨(some 28), some undefA, none, false, .ld (.ld 2 true (.s 27))⟩,
       ⟨(some 10), some (.junk), none, false, .pu (.bnew (.c (.agg [.int .i64 0, .int .i64 0])))⟩,
       ⟨(some 10), none, none, false, .pu (.bset none 10 0 2 (.s 28))⟩])
     (.ops [⟨(some 29), some undefA, none, false, .pu (.mov (.s 8))⟩,
       ⟨(some 30), some undefA, none, false, .pu (.badr none 10)⟩,
       ⟨(some 31), some undefA, none, false, .pu (.bget (some 30) 10 0 1 false)⟩,
       ⟨(some 32), some undefA, none, false, .pu (.badr none 10)⟩,
       ⟨(some 33), some undefA, none, false, .pu (.bget (some 32) 10 1 1 false)⟩,
       ⟨(some 34), some undefA, none, false, .pu (.bin .mul (.c (.int .i64 2)) (.s 33))⟩,
       ⟨(some 35), some undefA, none, false, .call 61 [(.s 31), (.s 34)]⟩,
       ⟨(some 36), some undefA, none, false, .ha (.blds 2 1 [.int .i64 0, .int .i64 0] [(0, 2, (.s 35))])⟩,
       ⟨(some 37), some undefA, none, false, .ha (.app 2 (.s 29) (.s 36))⟩,
       ⟨(some 8), some undefA, none, false, .pu (.mov (.s 37))⟩])))
    (.ops [⟨(some 38), some undefA, none, false, .pu (.bin .add (.s 25) (.c (.int .i64 1)))⟩,
      ⟨(some 25), some undefA, none, false, .pu (.mov (.s 38))⟩])))))))
  (.seq (.ops [⟨(some 39), some undefA, none, false, .pu (.mov (.s 8))⟩,
    ⟨(some 6), some undefA, none, false, .pu (.mov (.s 39))⟩])
  (.ret)))
 (.skip)))
 (.seq (.seq (.ops [⟨(some 40), some undefA, none, false, .ld (.ld 1 false (.s 3))⟩,
   ⟨(some 41), some undefA, none, false, .pu (.mov (.s 0))⟩,
   ⟨(some 42), some undefA, none, false, .pu (.mov (.s 1))⟩,
   ⟨(some 43), some undefA, none, false, .pu (.bin .mul (.c (.int .i64 2)) (.s 42))⟩,
   ⟨(some 44), some undefA, none, false, .pu (.mov (.s 7))⟩,
   ⟨(some 45), some undefA, none, false, .pu (.bin .sub (.s 43) (.s 44))⟩,
   ⟨(some 46), some undefA, none, false, .callv (.s 40) [(.s 41), (.s 45)]⟩,
   ⟨(some 47), some undefA, none, false, .pu (.len (.s 46))⟩,
   ⟨(some 48), some undefA, none, false, .pu (.mov (.c (.int .i64 0)))⟩])
 (.block 2 (.loop (.seq (.ops [⟨(some 49), some undefA, none, false, .pu (.bin .lss (.s 48) (.s 47))⟩])
   (.seq (.cond (.s 49) (.skip)
   (.exit 2))
   (.seq (.block 3 (.seq (.ops [⟨(some 50), some undefA, none, false, .pu (.mov (.s 48))⟩,
      ⟨(some 51), some undefA, none, false, .pu (.idx 2 (.s 46) (.s 48))⟩,
      ⟨(some 52), some undefA, none, false, .ld (.ld 2 true (.s 51))⟩,
      ⟨(some 12), some (.junk), none, false, .pu (.bnew (.c (.agg [.int .i64 0, .int .i64 0])))⟩,
      ⟨(some 11), some undefA, none, false, .pu (.mov (.s 50))⟩,
      ⟨(some 12), none, none, false, .pu (.bset none 12 0 2 (.s 52))⟩])
    (.ops [⟨(some 53), some undefA, none, true, .pu (.mov (.s 8))⟩,
      ⟨(some 54), some undefA, none, true, .pu (.badr none 12)⟩,
      ⟨(some 55), some undefA, none, true, .pu (.bget (some 54) 12 0 1 false)⟩,
      ⟨(some 56), some undefA, none, false, .pu (.mov (.s 0))⟩,
      ⟨(some 57), some undefA, none, false, .pu (.mov (.s 11))⟩,
      ⟨(some 58), some undefA, none, false, .pu (.idx 1 (.s 56) (.s 57))⟩,
      ⟨(some 59), some undefA, none, true, .ld (.ld 1 false (.s 58))⟩,
      ⟨(some 60), some undefA, none, true, .pu (.badr none 12)⟩,
      ⟨(some 61), some undefA, none, true, .pu (.bget (some 60) 12 1 1 false)⟩,
      ⟨(some 62), some undefA, none, false, .pu (.bin .mul (.s 59) (.s 61))⟩,
      ⟨(some 63), some undefA, none, false, .pu (.bin .add (.s 55) (.s 62))⟩,
      ⟨(some 64), some undefA, none, true, .pu (.badr none 12)⟩,
      ⟨(some 65), some undefA, none, true, .pu (.bget (some 64) 12 1 1 false)⟩,
      ⟨(some 66), some undefA, none, true, .pu (.bin .mul (.c (.int .i64 2)) (.s 65))⟩,
      ⟨(some 67), some undefA, none, false, .call 61 [(.s 63), (.s 66)]⟩,
      ⟨(some 68), some undefA, none, false, .ha (.blds 2 1 [.int .i64 0, .int .i64 0] [(0, 2, (.s 67))])⟩,
      ⟨(some 69), some undefA, none, false, .ha (.app 2 (.s 53) (.s 68))⟩,
      ⟨(some 8), some undefA, none, false, .pu (.mov (.s 69))⟩])))
   (.ops [⟨(some 70), some undefA, none, false, .pu (.bin .add (.s 48) (.c (.int .i64 1)))⟩,
     ⟨(some 48), some undefA, none, false, .pu (.mov (.s 70))⟩])))))))
 (.seq (.ops [⟨(some 71), some undefA, none, false, .pu (.mov (.s 8))⟩,
   ⟨(some 6), some undefA, none, false, .pu (.mov (.s 71))⟩])
 (.ret))))))⟩
theorem t91 : trF Try.prog [10, 12] [] Try.f91 = some m91 := by kernel_rfl
/-- slices.insertionSortOrdered[int] [loop [0, 1, 2, 6], loop [0, 1, 2, 6, 7]] -/
def m92 : MFun := ⟨49, [], [],
 .seq (.ops [⟨(some 8), some undefA, none, false, .pu (.mov (.s 1))⟩,
   ⟨(some 9), some undefA, none, false, .pu (.bin .add (.s 8) (.c (.int .i64 1)))⟩,
   ⟨(some 6), some undefA, none, false, .pu (.mov (.s 9))⟩])
 (.block 0 (.loop (.seq (.seq (.ops [⟨(some 10), some undefA, none, false, .pu (.mov (.s 6))⟩,
     ⟨(some 11), some undefA, none, false, .pu (.mov (.s 2))⟩,
     ⟨(some 12), some undefA, none, false, .pu (.bin .lss (.s 10) (.s 11))⟩])
   (.cond (.s 12) (.skip)
   (.exit 0)))
   (.seq (.block 1 (.seq (.ops [⟨(some 15), some undefA, none, false, .pu (.mov (.s 6))⟩,
      ⟨(some 7), some undefA, none, false, .pu (.mov (.s 15))⟩])
    (.block 2 (.loop (.seq (.seq (.ops [⟨(some 16), some undefA, none, false, .pu (.mov (.s 7))⟩,
        ⟨(some 17), some undefA, none, false, .pu (.mov (.s 1))⟩,
        ⟨(some 18), some undefA, none, false, .pu (.bin .gtr (.s 16) (.s 17))⟩,
        ⟨(some 19), some undefA, none, false, .pu (.mov (.s 18))⟩,
        ⟨(some 20), some undefA, (some (19, true)), true, .pu (.mov (.s 0))⟩,
        ⟨(some 21), some undefA, (some (19, true)), true, .pu (.mov (.s 7))⟩,
        ⟨(some 22), some undefA, (some (19, true)), true, .pu (.idx 1 (.s 20) (.s 21))⟩,
        ⟨(some 23), some undefA, (some (19, true)), true, .ld (.ld 1 false (.s 22))⟩,
        ⟨(some 24), some undefA, (some (19, true)), true, .pu (.mov (.s 0))⟩,
        ⟨(some 25), some undefA, (some (19, true)), true, .pu (.mov (.s 7))⟩,
        ⟨(some 26), some undefA, (some (19, true)), true, .pu (.bin .sub (.s 25) (.c (.int .i64 1)))⟩,
        ⟨(some 27), some undefA, (some (19, true)), true, .pu (.idx 1 (.s 24) (.s 26))⟩,
        ⟨(some 28), some undefA, (some (19, true)), true, .ld (.ld 1 false (.s 27))⟩,
        ⟨(some 29), some undefA, (some (19, true)), false, .call 98 [(.s 23), (.s 28)]⟩,
        ⟨(some 30), some undefA, none, false, .pu (.pick (.s 19) (.s 29) (.c (.bool false)))⟩])
      (.cond (.s 30) (.skip)
      (.exit 2)))
      (.seq (.block 3 (.ops [⟨(some 33), some undefA, none, true, .pu (.mov (.s 0))⟩,
         ⟨(some 34), some undefA, none, true, .pu (.mov (.s 7))⟩,
         ⟨(some 35), some undefA, none, true, .pu (.mov (.s 0))⟩,
         ⟨(some 36), some undefA, none, true, .pu (.mov (.s 7))⟩,
         ⟨(some 37), some undefA, none, true, .pu (.bin .sub (.s 36) (.c (.int .i64 1)))⟩,
         ⟨(some 38), some undefA, none, true, .pu (.mov (.s 0))⟩,
         ⟨(some 39), some undefA, none, true, .pu (.mov (.s 7))⟩,
         ⟨(some 40), some undefA, none, true, .pu (.bin .sub (.s 39) (.c (.int .i64 1)))⟩,
         ⟨(some 41), some undefA, none, true, .pu (.idx 1 (.s 38) (.s 40))⟩,
         ⟨(some 42), some undefA, none, true, .ld (.ld 1 false (.s 41))⟩,
         ⟨(some 43), some undefA, none, true, .pu (.mov (.s 0))⟩,
         ⟨(some 44), some undefA, none, true, .pu (.mov (.s 7))⟩,
         ⟨(some 45), some undefA, none, true, .pu (.idx 1 (.s 43) (.s 44))⟩,
         ⟨(some 46), some undefA, none, true, .ld (.ld 1 false (.s 45))⟩,
         ⟨(some 47), some undefA, none, false, .pu (.idx 1 (.s 33) (.s 34))⟩,
         ⟨none, some undefA, none, false, .ha (.st 1 (.s 47) (.s 42))⟩,
         ⟨(some 48), some undefA, none, false, .pu (.idx 1 (.s 35) (.s 37))⟩,
         ⟨none, some undefA, none, false, .ha (.st 1 (.s 48) (.s 46))⟩]))
      (.ops [⟨(some 31), some undefA, none, false, .pu (.mov (.s 7))⟩,
        ⟨(some 32), some undefA, none, false, .pu (.bin .sub (.s 31) (.c (.int .i64 1)))⟩,
        ⟨(some 7), some undefA, none, false, .pu (.mov (.s 32))⟩])))))))
   (.ops [⟨(some 13), some undefA, none, false, .pu (.mov (.s 6))⟩,
     ⟨(some 14), some undefA, none, false, .pu (.bin .add (.s 13) (.c (.int .i64 1)))⟩,
     ⟨(some 6), some undefA, none, false, .pu (.mov (.s 14))⟩])))))⟩
theorem t92 : trF Try.prog [] [] Try.f92 = some m92 := by kernel_rfl
/-- cmp.Less[int] [] -/
def m98 : MFun := ⟨17, [], [.mov (.s 4)],
 .seq (.ops [⟨(some 4), some undefA, none, false, .pu (.mov (.c (.bool false)))⟩])
 (.seq (.ops [⟨(some 5), some undefA, none, false, .pu (.mov (.s 0))⟩,
   ⟨(some 6), some undefA, none, false, .call 109 [(.s 5)]⟩,
   ⟨(some 7), some undefA, none, false, .pu (.mov (.s 6))⟩,
   ⟨(some 8), some undefA, (some (7, true)), false, .pu (.mov (.s 1))⟩,
   ⟨(some 9), some undefA, (some (7, true)), false, .call 109 [(.s 8)]⟩,
   ⟨(some 10), some undefA, (some (7, true)), false, .pu (.not (.s 9))⟩,
   ⟨(some 11), some undefA, none, false, .pu (.pick (.s 7) (.s 10) (.c (.bool false)))⟩,
   ⟨(some 12), some undefA, none, false, .pu (.mov (.s 11))⟩,
   ⟨(some 13), some undefA, (some (12, false)), false, .pu (.mov (.s 0))⟩,
   ⟨(some 14), some undefA, (some (12, false)), false, .pu (.mov (.s 1))⟩,
   ⟨(some 15), some undefA, (some (12, false)), false, .pu (.bin .lss (.s 13) (.s 14))⟩,
   ⟨(some 16), some undefA, none, false, .pu (.pick (.s 12) (.c (.bool true)) (.s 15))⟩,
   ⟨(some 4), some undefA, none, false, .pu (.mov (.s 16))⟩])
 (.ret))⟩
theorem t98 : trF Try.prog [] [] Try.f98 = some m98 := by kernel_rfl
/-- math/bits.Len64 [] -/
def m102 : MFun := ⟨25, [], [.mov (.s 2)],
 .seq (.ops [⟨(some 2), some undefA, none, false, .pu (.mov (.c (.int .i64 0)))⟩])
 (.seq (.seq (.ops [⟨(some 3), some undefA, none, false, .pu (.mov (.s 0))⟩,
   ⟨(some 4), some undefA, none, false, .pu (.bin .geq (.s 3) (.c (.int .u64 4294967296)))⟩])
 (.cond (.s 4) (.seq (.ops [⟨(some 5), some undefA, none, false, .pu (.mov (.s 0))⟩,
    ⟨(some 6), some undefA, none, false, .pu (.bin .shr (.s 5) (.c (.int .u64 32)))⟩,
    ⟨(some 0), some undefA, none, false, .pu (.mov (.s 6))⟩])
  (.ops [⟨(some 2), some undefA, none, false, .pu (.mov (.c (.int .i64 32)))⟩]))
 (.skip)))
 (.seq (.seq (.ops [⟨(some 7), some undefA, none, false, .pu (.mov (.s 0))⟩,
   ⟨(some 8), some undefA, none, false, .pu (.bin .geq (.s 7) (.c (.int .u64 65536)))⟩])
 (.cond (.s 8) (.seq (.ops [⟨(some 9), some undefA, none, false, .pu (.mov (.s 0))⟩,
    ⟨(some 10), some undefA, none, false, .pu (.bin .shr (.s 9) (.c (.int .u64 16)))⟩,
    ⟨(some 0), some undefA, none, false, .pu (.mov (.s 10))⟩])
  (.ops [⟨(some 11), some undefA, none, false, .pu (.mov (.s 2))⟩,
    ⟨(some 12), some undefA, none, false, .pu (.bin .add (.s 11) (.c (.int .i64 16)))⟩,
    ⟨(some 2), some undefA, none, false, .pu (.mov (.s 12))⟩]))
 (.skip)))
 (.seq (.seq (.ops [⟨(some 13), some undefA, none, false, .pu (.mov (.s 0))⟩,
   ⟨(some 14), some undefA, none, false, .pu (.bin .geq (.s 13) (.c (.int .u64 256)))⟩])
 (.cond (.s 14) (.seq (.ops [⟨(some 15), some undefA, none, false, .pu (.mov (.s 0))⟩,
    ⟨(some 16), some undefA, none, false, .pu (.bin .shr (.s 15) (.c (.int .u64 8)))⟩,
    ⟨(some 0), some undefA, none, false, .pu (.mov (.s 16))⟩])
  (.ops [⟨(some 17), some undefA, none, false, .pu (.mov (.s 2))⟩,
    ⟨(some 18), some undefA, none, false, .pu (.bin .add (.s 17) (.c (.int .i64 8)))⟩,
    ⟨(some 2), some undefA, none, false, .pu (.mov (.s 18))⟩]))
 (.skip)))
 (.seq (.ops [⟨(some 19), some undefA, none, false, .pu (.mov (.s 2))⟩,
   ⟨(some 20), some undefA, none, false, .pu (.mov (.s 0))⟩,
   ⟨(some 21), some undefA, none, false, .pu (.conv .u8 (.s 20))⟩,
   ⟨(some 22), some undefA, none, false, .pu (.aidx 256 1 false (.c (.agg [.int .u8 0, .int .u8 1, .int .u8 2, .int .u8 2, .int .u8 3, .int .u8 3, .int .u8 3, .int .u8 3, .int .u8 4, .int .u8 4, .int .u8 4, .int .u8 4, .int .u8 4, .int .u8 4, .int .u8 4, .int .u8 4, .int .u8 5, .int .u8 5, .int .u8 5, .int .u8 5, .int .u8 5, .int .u8 5, .int .u8 5, .int .u8 5, .int .u8 5, .int .u8 5, .int .u8 5, .int .u8 5, .int .u8 5, .int .u8 5, .int .u8 5, .int .u8 5, .int .u8 6, .int .u8 6, .int .u8 6, .int .u8 6, .int .u8 6, .int .u8 6, .int .u8 6, .int .u8 6, .int .u8 6, .int .u8 6, .int .u8 6, .int .u8 6, .int .u8 6, .int .u8 6, .int .u8 6, .int .u8 6, .int .u8 6, .int .u8 6, .int .u8 6, .int .u8 6, .int .u8 6, .int .u8 6, .int .u8 6, .int .u8 6, .int .u8 6, .int .u8 6, .int .u8 6, .int .u8 6, .int .u8 6, .int .u8 6, .int .u8 6, .int .u8 6, .int .u8 7, .int .u8 7, .int .u8 7, .int .u8 7, .int .u8 7, .int .u8 7, .int .u8 7, .int .u8 7, .int .u8 7, .int .u8 7, .int .u8 7, .int .u8 7, .int .u8 7, .int .u8 7, .int .u8 7, .int .u8 7, .int .u8 7, .int .u8 7, .int .u8 7, .int .u8 7, .int .u8 7, .int .u8 7, .int .u8 7, .int .u8 7, .int .u8 7, .int .u8 7, .int .u8 7, .int .u8 7, .int .u8 7, .int .u8 7, .int .u8 7, .int .u8 7, .int .u8 7, .int .u8 7, .int .u8 7, .int .u8 7, .int .u8 7, .int .u8 7, .int .u8 7, .int .u8 7, .int .u8 7, .int .u8 7, .int .u8 7, .int .u8 7, .int .u8 7, .int .u8 7, .int .u8 7, .int .u8 7, .int .u8 7, .int .u8 7, .int .u8 7, .int .u8 7, .int .u8 7, .int .u8 7, .int .u8 7, .int .u8 7, .int .u8 7, .int .u8 7, .int .u8 7, .int .u8 7, .int .u8 7, .int .u8 7, .int .u8 7, .int .u8 7, .int .u8 8, .int .u8 8, .int .u8 8, .int .u8 8, .int .u8 8, .int .u8 8, .int .u8 8, .int .u8 8, .int .u8 8, .int .u8 8, .int .u8 8, .int .u8 8, .int .u8 8, .int .u8 8, .int .u8 8, .int .u8 8, .int .u8 8, .int .u8 8, .int .u8 8, .int .u8 8, .int .u8 8, .int .u8 8, .int .u8 8, .int .u8 8, .int .u8 8, .int .u8 8, .int .u8 8, .int .u8 8, .int .u8 8, .int .u8 8, .int .u8 8, .int .u8 8, .int .u8 8, .int .u8 8, .int .u8 8, .int .u8 8, .int .u8 8, .int .u8 8, .int .u8 8, .int .u8 8, .int .u8 8, .int .u8 8, .int .u8 8, .int .u8 8, .int .u8 8, .int .u8 8, .int .u8 8, .int .u8 8, .int .u8 8, .int .u8 8, .int .u8 8, .int .u8 8, .int .u8 8, .int .u8 8, .int .u8 8, .int .u8 8, .int .u8 8, .int .u8 8, .int .u8 8, .int .u8 8, .int .u8 8, .int .u8 8, .int .u8 8, .int .u8 8, .int .u8 8, .int .u8 8, .int .u8 8, .int .u8 8, .int .u8 8, .int .u8 8, .int .u8 8, .int .u8 8, .int .u8 8, .int .u8 8, .int .u8 8, .int .u8 8, .int .u8 8, .int .u8 8, .int .u8 8, .int .u8 8, .int .u8 8, .int .u8 8, .int .u8 8, .int .u8 8, .int .u8 8, .int .u8 8, .int .u8 8, .int .u8 8, .int .u8 8, .int .u8 8, .int .u8 8, .int .u8 8, .int .u8 8, .int .u8 8, .int .u8 8, .int .u8 8, .int .u8 8, .int .u8 8, .int .u8 8, .int .u8 8, .int .u8 8, .int .u8 8, .int .u8 8, .int .u8 8, .int .u8 8, .int .u8 8, .int .u8 8, .int .u8 8, .int .u8 8, .int .u8 8, .int .u8 8, .int .u8 8, .int .u8 8, .int .u8 8, .int .u8 8, .int .u8 8, .int .u8 8, .int .u8 8, .int .u8 8, .int .u8 8, .int .u8 8, .int .u8 8, .int .u8 8, .int .u8 8, .int .u8 8, .int .u8 8, .int .u8 8, .int .u8 8])) (.s 21))⟩,
   ⟨(some 23), some undefA, none, false, .pu (.conv .i64 (.s 22))⟩,
   ⟨(some 24), some undefA, none, false, .pu (.bin .add (.s 19) (.s 23))⟩,
   ⟨(some 2), some undefA, none, false, .pu (.mov (.s 24))⟩])
 (.ret)))))⟩
theorem t102 : trF Try.prog [] [] Try.f102 = some m102 := by kernel_rfl
/-- slices.Clone[[]int,int] [] -/
def m103 : MFun := ⟨8, [], [.mov (.s 2)],
 .seq (.ops [⟨(some 2), some undefA, none, false, .pu (.mov (.c (.nilS)))⟩])
 (.seq (.seq (.ops [⟨(some 3), some undefA, none, false, .pu (.mov (.s 0))⟩,
   ⟨(some 4), some undefA, none, false, .pu (.isnil false (.s 3))⟩])
 (.cond (.s 4) (.seq (.ops [⟨(some 2), some undefA, none, false, .pu (.mov (.c (.nilS)))⟩])
  (.ret))
 (.skip)))
 (.seq (.ops [⟨(some 5), some undefA, none, false, .ha (.blds 1 0 [.int .i64 0] [])⟩,
   ⟨(some 6), some undefA, none, false, .pu (.mov (.s 0))⟩,
   ⟨(some 7), some undefA, none, false, .ha (.app 1 (.s 5) (.s 6))⟩,
   ⟨(some 2), some undefA, none, false, .pu (.mov (.s 7))⟩])
 (.ret)))⟩
theorem t103 : trF Try.prog [] [] Try.f103 = some m103 := by kernel_rfl
/-- cmp.isNaN[int] [] -/
def m109 : MFun := ⟨6, [], [.mov (.s 2)],
 .seq (.ops [⟨(some 2), some undefA, none, false, .pu (.mov (.c (.bool false)))⟩])
 (.seq (.ops [⟨(some 3), some undefA, none, false, .pu (.mov (.s 0))⟩,
   ⟨(some 4), some undefA, none, false, .pu (.mov (.s 0))⟩,
   ⟨(some 5), some undefA, none, false, .pu (.bin .neq (.s 3) (.s 4))⟩,
   ⟨(some 2), some undefA, none, false, .pu (.mov (.s 5))⟩])
 (.ret))⟩
theorem t109 : trF Try.prog [] [] Try.f109 = some m109 := by kernel_rfl
end Go.Proofs.Ytdcdjhhjlpegjaa

namespace Go.Proofs.Ytdcdjhhjlpegjaa
open Go Go.Eng
theorem hmix : Try.prog.follows .mixedOrders = true := by kernel_rfl
def tab : List (Nat × MFun) := [(16, m16), (17, m17), (21, m21), (26, m26), (30, m30), (31, m31), (53, m53), (54, m54), (55, m55), (57, m57), (61, m61), (63, m63), (64, m64), (72, m72), (78, m78), (79, m79), (81, m81), (82, m82), (83, m83), (84, m84), (85, m85), (87, m87), (88, m88), (89, m89), (90, m90), (91, m91), (92, m92), (98, m98), (102, m102), (103, m103), (109, m109)]
theorem tabOK : TabOK Try.prog tab :=
  .cons Try.func16 (by kernel_rfl) t16 <| .cons Try.func17 (by kernel_rfl) t17 <| .cons Try.func21 (by kernel_rfl) t21 <| .cons Try.func26 (by kernel_rfl) t26 <| .cons Try.func30 (by kernel_rfl) t30 <| .cons Try.func31 (by kernel_rfl) t31 <| .cons Try.func53 (by kernel_rfl) t53 <| .cons Try.func54 (by kernel_rfl) t54 <| .cons Try.func55 (by kernel_rfl) t55 <| .cons Try.func57 (by kernel_rfl) t57 <| .cons Try.func61 (by kernel_rfl) t61 <| .cons Try.func63 (by kernel_rfl) t63 <| .cons Try.func64 (by kernel_rfl) t64 <| .cons Try.func72 (by kernel_rfl) t72 <| .cons Try.func78 (by kernel_rfl) t78 <| .cons Try.func79 (by kernel_rfl) t79 <| .cons Try.func81 (by kernel_rfl) t81 <| .cons Try.func82 (by kernel_rfl) t82 <| .cons Try.func83 (by kernel_rfl) t83 <| .cons Try.func84 (by kernel_rfl) t84 <| .cons Try.func85 (by kernel_rfl) t85 <| .cons Try.func87 (by kernel_rfl) t87 <| .cons Try.func88 (by kernel_rfl) t88 <| .cons Try.func89 (by kernel_rfl) t89 <| .cons Try.func90 (by kernel_rfl) t90 <| .cons Try.func91 (by kernel_rfl) t91 <| .cons Try.func92 (by kernel_rfl) t92 <| .cons Try.func98 (by kernel_rfl) t98 <| .cons Try.func102 (by kernel_rfl) t102 <| .cons Try.func103 (by kernel_rfl) t103 <| .cons Try.func109 (by kernel_rfl) t109 <| .nil
def isTrue : Option (AV × AHeap) → Bool
  | some (.bool true, _) => true
  | _ => false
set_option maxRecDepth 100000 in
theorem known_run : isTrue (runF tab 300 14 17 [] []) = true := by kernel_rfl
theorem known (A : AHeap) : ACalls Try.prog 17 [] A (B true) A := by
  cases h : runF tab 300 14 17 [] [] with
  | none => have := known_run; rw [h] at this; cases this
  | some p =>
    obtain ⟨v, A'⟩ := p
    have h1 := known_run
    rw [h] at h1
    have h2 : v = B true := by
      unfold isTrue at h1
      split at h1
      · rename_i e; cases e; rfl
      · cases h1
    subst h2
    exact (runF_ok hmix tabOK 300 14 17 [] [] _ _ h).lift (by simp) rfl A
end Go.Proofs.Ytdcdjhhjlpegjaa

namespace Go.Proofs.Ytdcdjhhjlpegjaa
open Go Go.Eng
/-- The front of a list. -/
theorem Ls_takeS {α : Type} {es : Nat} {e : α → List AV} {H : AHeap} {v : AV} {xs : List α} (h : Ls es e H v xs) (k : Nat) (hk : k ≤ xs.length) : ∃ v', slcA es v none (some (I k)) none = some v' ∧ Ls es e H v' (xs.take k) := by
  rcases h.inv with ⟨rfl, rfl⟩ | ⟨n, off, full, rw, l, rfl, h1, h2, h3⟩
  · have : k = 0 := by simpa using hk
    subst this
    exact ⟨.nilS, by simp [slcA, bnd], ⟨h.he, rfl⟩⟩
  · have hk' : (0 : Int) ≤ k ∧ (k : Int) ≤ xs.length := by omega
    refine ⟨.sl es n off k (full && (k == xs.length)), by simp [slcA, bnd, hk], ⟨h.he, ?_⟩⟩
    have hm : k * es ≤ xs.length * es := Nat.mul_le_mul_right _ hk
    simp only [slCells, cellsAt, h1, if_true]
    rw [if_pos (by omega)]
    simp only [Option.map_some, List.length_take, Nat.min_eq_left hk, Option.some.injEq, Prod.mk.injEq, true_and]
    have h4 : (xs.take k).flatMap e = (xs.flatMap e).take (k * es) := by
      conv => rhs; rw [← List.take_append_drop k xs, List.flatMap_append]
      have h5 := flatMap_length h.he (xs.take k)
      rw [List.length_take, Nat.min_eq_left hk] at h5
      rw [← h5, List.take_left]
    rw [h4, ← h3, List.take_take, Nat.min_eq_left hm]
/-- The rest of a list. -/
theorem Ls_dropS {α : Type} {es : Nat} {e : α → List AV} {H : AHeap} {v : AV} {xs : List α} (h : Ls es e H v xs) (k : Nat) (hk : k ≤ xs.length) : ∃ v', slcA es v (some (I k)) none none = some v' ∧ Ls es e H v' (xs.drop k) := by
  rcases h.inv with ⟨rfl, rfl⟩ | ⟨n, off, full, rw, l, rfl, h1, h2, h3⟩
  · have : k = 0 := by simpa using hk
    subst this
    exact ⟨.nilS, by simp [slcA, bnd], ⟨h.he, rfl⟩⟩
  · have hk' : (0 : Int) ≤ k ∧ (k : Int) ≤ xs.length := by omega
    refine ⟨.sl es n (off + k * es) (xs.length - k) full, by simp [slcA, bnd]; exact hk, ⟨h.he, ?_⟩⟩
    have hm : k * es ≤ xs.length * es := Nat.mul_le_mul_right _ hk
    have hs : (xs.length - k) * es = xs.length * es - k * es := Nat.sub_mul _ _ _
    simp only [slCells, cellsAt, h1, if_true]
    rw [if_pos (by omega)]
    simp only [Option.map_some, List.length_drop, Option.some.injEq, Prod.mk.injEq, true_and]
    have h4 : (xs.drop k).flatMap e = (xs.flatMap e).drop (k * es) := by
      conv => rhs; rw [← List.take_append_drop k xs, List.flatMap_append]
      have h5 := flatMap_length h.he (xs.take k)
      rw [List.length_take, Nat.min_eq_left hk] at h5
      rw [← h5, List.drop_left]
    rw [h4, ← h3, List.drop_take, List.drop_drop, hs]
theorem set_new (A : AHeap) (o o' : AObj) : (A ++ [o]).set A.length o' = A ++ [o'] := by simp
theorem AccL_ls {α : Type} {es : Nat} {e : α → List AV} {H H1 : AHeap} {v : AV} {xs : List α} (h : AccL es e H H1 v xs) (he : ∀ x, (e x).length = es) : Ls es e H1 v xs := by
  obtain ⟨h1, h2, h3⟩ := h
  refine ⟨he, ?_⟩
  rcases h3 with ⟨h4, rfl⟩ | ⟨h0, n, rfl, h5, h6⟩
  · have : xs = [] := List.eq_nil_of_length_eq_zero h4
    subst this; rfl
  · simp only [slCells, cellsAt, h6, if_true, Nat.zero_add]
    rw [if_pos (by omega)]
    simp only [List.drop_zero, Option.map_some, Option.some.injEq, Prod.mk.injEq, true_and]
    rw [← h2, List.take_length]
theorem AccL_base {α : Type} {es : Nat} {e : α → List AV} {H0 H H1 : AHeap} {v : AV} {xs : List α} (hp : H0 <+: H) (h : AccL es e H H1 v xs) : AccL es e H0 H1 v xs := by
  obtain ⟨h1, h2, h3⟩ := h
  refine ⟨hp.trans h1, h2, ?_⟩
  rcases h3 with h4 | ⟨h0, n, h4, h5, h6⟩
  · exact .inl h4
  · exact .inr ⟨h0, n, h4, Nat.le_trans hp.length_le h5, h6⟩
theorem cells_agg (l : List AV) : (AV.agg l).cells? = some l := rfl
theorem cells_int (k : IntKind) (n : Int) : (AV.int k n).cells? = some [.int k n] := rfl
theorem cells_fn (f : FuncId) (cs : List AV) : (AV.fn f cs).cells? = some [.fn f cs] := rfl
theorem cells_nilF : AV.nilF.cells? = some [.nilF] := rfl
/-- A store. -/
def stA (sz : Nat) (p x : AV) (H : AHeap) : Option AHeap :=
  match p, x.cells? with
  | .ptr n off, some c => match H[n]? with
    | some (.cells true l) => if c.length = sz ∧ off + sz ≤ l.length then some (H.set n (.cells true (splice l off c))) else none
    | _ => none
  | _, _ => none
theorem hval_st (sz : Nat) (p x : Opd) (S : List AV) (H : AHeap) : hval (.st sz p x) S H = (stA sz (rd S p) (rd S x) H).map (fun H' => (undefA, H')) := by
  simp only [hval, stA]
  cases rd S p with
  | ptr n off =>
    cases (rd S x).cells? with
    | none => rfl
    | some c =>
      simp only
      cases H[n]? with
      | none => rfl
      | some o =>
        cases o with
        | cells rw l =>
          cases rw
          · rfl
          · simp only
            split <;> rfl
        | _ => rfl
  | _ => rfl
theorem hval_newv (x : Opd) (S : List AV) (H : AHeap) : hval (.newv x) S H = match (rd S x).cells? with | some c => some (.ptr H.length 0, H ++ [.cells true c]) | none => none := rfl
theorem hval_blds (es n : Nat) (zero : List AV) (parts : List (Nat × Nat × Opd)) (S : List AV) (H : AHeap) : hval (.blds es n zero parts) S H = match fillA (parts.map fun p => (p.1, p.2.1, rd S p.2.2)) (repl zero n) with | some l => some (.sl es H.length 0 n true, H ++ [.cells true l]) | none => none := rfl
theorem hval_app (es : Nat) (x y : Opd) (S : List AV) (H : AHeap) : hval (.app es x y) S H = appA es H (rd S x) (rd S y) := rfl
theorem splice_flat {α : Type} {es : Nat} {e : α → List AV} (he : ∀ x, (e x).length = es) {xs : List α} {i : Nat} (hi : i < xs.length) (z : α) : splice (xs.flatMap e) (i * es) (e z) = (xs.set i z).flatMap e := by
  unfold splice
  have h1 := flatMap_length he (xs.take i)
  rw [List.length_take, Nat.min_eq_left (by omega)] at h1
  have h2 := flatMap_length he (xs.take (i + 1))
  rw [List.length_take, Nat.min_eq_left (by omega)] at h2
  have e1 : (xs.flatMap e).take (i * es) = (xs.take i).flatMap e := by
    conv => lhs; rw [← List.take_append_drop i xs, List.flatMap_append]
    rw [← h1, List.take_left]
  have e2 : (xs.flatMap e).drop (i * es + (e z).length) = (xs.drop (i + 1)).flatMap e := by
    conv => lhs; rw [← List.take_append_drop (i + 1) xs, List.flatMap_append]
    rw [he z, ← Nat.succ_mul, Nat.succ_eq_add_one, ← h2, List.drop_left]
  rw [e1, e2, List.set_eq_take_append_cons_drop, if_pos hi, List.flatMap_append, List.flatMap_cons, List.append_assoc]
/-- A list that the call itself has made and may write. -/
structure OL {α : Type} (es : Nat) (e : α → List AV) (A H : AHeap) (n : Nat) (v : AV) (xs : List α) : Prop where
  he : ∀ x, (e x).length = es
  pre : A <+: H
  new : A.length ≤ n
  ob : H[n]? = some (.cells true (xs.flatMap e))
  v : ∃ full, v = .sl es n 0 xs.length full
section
variable {α : Type} {es : Nat} {e : α → List AV} {A H : AHeap} {n : Nat} {v : AV} {xs : List α}
theorem OL.ls (h : OL es e A H n v xs) : Ls es e H v xs := by
  obtain ⟨he, h1, h2, h3, full, rfl⟩ := h
  refine ⟨he, ?_⟩
  have hl := flatMap_length he xs
  simp only [slCells, cellsAt, h3, if_true, Nat.zero_add]
  rw [if_pos (by omega)]
  simp only [List.drop_zero, Option.map_some, Option.some.injEq, Prod.mk.injEq, true_and]
  rw [← hl, List.take_length]
theorem OL.lt (h : OL es e A H n v xs) : n < H.length := (List.getElem?_eq_some_iff.1 h.ob).1
theorem OL.set (h : OL es e A H n v xs) (i : Nat) (z : α) : OL es e A (H.set n (.cells true ((xs.set i z).flatMap e))) n v (xs.set i z) := by
  have hn := h.lt
  obtain ⟨he, h1, h2, h3, full, rfl⟩ := h
  exact ⟨he, pre_set h1 h2 _, h2, by rw [List.getElem?_set_self hn], full, by simp⟩
theorem OL.st (h : OL es e A H n v xs) {i : Nat} (hi : i < xs.length) (x : AV) (z : α) (hx : x.cells? = some (e z)) : stA es (.ptr (nm v) (of v + i * es)) x H = some (H.set n (.cells true ((xs.set i z).flatMap e))) := by
  obtain ⟨he, h1, h2, h3, full, rfl⟩ := h
  have hl := flatMap_length he xs
  have hle : i * es + es ≤ xs.length * es := by
    rw [← Nat.succ_mul]; exact Nat.mul_le_mul_right _ hi
  simp only [stA, nm, of, hx, h3, Nat.zero_add]
  rw [if_pos ⟨he z, by omega⟩, splice_flat he hi z]
theorem OL.mono {H' : AHeap} (h : OL es e A H n v xs) (hp : H <+: H') : OL es e A H' n v xs := ⟨h.he, h.pre.trans hp, h.new, pre_get hp h.ob, h.v⟩
theorem OL.new_mk (he : ∀ x, (e x).length = es) (A : AHeap) (xs : List α) (full : Bool) : OL es e A (A ++ [.cells true (xs.flatMap e)]) A.length (.sl es A.length 0 xs.length full) xs :=
  ⟨he, pre_app _ _, Nat.le_refl _, by simp, full, rfl⟩
theorem gc_weak {v1 v1' v : AV} {H1 H' : AHeap} (h : ∀ ρ c, VR ρ v1 c → VR ρ v1' c) (g : GC A v1' H1 v H') : GC A v1 H1 v H' :=
  fun ρ w ρ1 w1 cv s0 s1 st hv => g ρ w ρ1 w1 cv s0 s1 st (h ρ1 cv hv)
theorem VR.unfull {ρ : Ren} {es n off len : Nat} {full : Bool} {c : Value} (h : VR ρ (.sl es n off len full) c) : VR ρ (.sl es n off len false) c := by
  cases h with
  | sl _ _ _ _ _ L a cap h1 h2 h3 h4 h5 => exact .sl es n off len false L a cap h1 h2 (fun e => by cases e) h4 h5
theorem OL.acc (h : OL es e A H n v xs) (h0 : 0 < xs.length) : AccL es e A H (.sl es n 0 xs.length false) xs :=
  ⟨h.pre, flatMap_length h.he xs, .inr ⟨h0, n, rfl, h.new, h.ob⟩⟩
theorem OL.gc (h : OL es e A H n v xs) (h0 : 0 < xs.length) (hf : ∀ x, ∀ y ∈ e x, flat y = true) : GC A v H (outV es A xs.length) (outH A (xs.flatMap e) xs.length) := by
  have h1 := (h.acc h0).gc hf
  obtain ⟨_, _, _, _, full, rfl⟩ := h
  exact gc_weak (fun ρ c => VR.unfull) h1
theorem OL.gc2 (h : OL es e A H n v xs) (h0 : 0 < xs.length) (hf : ∀ x, ∀ y ∈ e x, flat y = true) (c : AV) (hc : flat c = true) : GC A (.tuple [v, c]) H (.tuple [outV es A xs.length, c]) (outH A (xs.flatMap e) xs.length) := by
  have h1 := (h.acc h0).gc2 hf c hc
  obtain ⟨_, _, _, _, full, rfl⟩ := h
  refine gc_weak (fun ρ cv hv => ?_) h1
  cases hv with
  | tuple _ vs hl hh =>
    refine .tuple _ _ hl (fun i x u hx hu => ?_)
    match i with
    | 0 =>
      simp at hx
      subst hx
      exact VR.unfull (hh 0 _ u rfl hu)
    | i + 1 => exact hh (i + 1) x u (by simpa using hx) hu
end
theorem OL_setAll {α : Type} {es : Nat} {e : α → List AV} {A H : AHeap} {n : Nat} {v : AV} {xs : List α} (h : OL es e A H n v xs) (xs' : List α) (hl : xs'.length = xs.length) : OL es e A (H.set n (.cells true (xs'.flatMap e))) n v xs' := by
  have hn := h.lt
  obtain ⟨he, h1, h2, h3, full, rfl⟩ := h
  exact ⟨he, pre_set h1 h2 _, h2, by rw [List.getElem?_set_self hn], full, by rw [hl]⟩
end Go.Proofs.Ytdcdjhhjlpegjaa

namespace Go.Proofs.Ytdcdjhhjlpegjaa
open Go Go.Eng
/-- A number that a machine word holds. -/
abbrev W (a : Int) : Prop := -9223372036854775808 ≤ a ∧ a ≤ 9223372036854775807
/-- The first element's place, or -1. -/
def fpos (g : Int → Bool) (xs : List Int) : Int := match xs.findIdx? g with | some i => i | none => -1
theorem fpos_some {g : Int → Bool} {xs : List Int} {i : Nat} {z : Int} (h : ∀ y ∈ xs.take i, g y = false) (hz : xs[i]? = some z) (hg : g z = true) : fpos g xs = i := by
  have hi : i < xs.length := (List.getElem?_eq_some_iff.1 hz).1
  have he : xs[i] = z := (List.getElem?_eq_some_iff.1 hz).2
  have : xs.findIdx? g = some i := by
    rw [List.findIdx?_eq_some_iff_getElem]
    refine ⟨hi, by rw [he]; exact hg, fun j hj => ?_⟩
    have : xs[j]'(by omega) ∈ xs.take i := by
      rw [List.mem_take_iff_getElem]
      exact ⟨j, by omega, rfl⟩
    simp [h _ this]
  unfold fpos
  rw [this]
theorem fpos_none {g : Int → Bool} {xs : List Int} (h : ∀ y ∈ xs, g y = false) : fpos g xs = -1 := by
  have : xs.findIdx? g = none := by
    rw [List.findIdx?_eq_none_iff]
    exact h
  unfold fpos
  rw [this]
theorem fpos_iff (g : Int → Bool) (xs : List Int) : 0 ≤ fpos g xs ↔ xs.any g = true := by
  unfold fpos
  cases h : xs.findIdx? g with
  | some i =>
    rw [List.findIdx?_eq_some_iff_getElem] at h
    obtain ⟨hi, hg, _⟩ := h
    simp only [Int.natCast_nonneg, true_iff, List.any_eq_true]
    exact ⟨_, List.getElem_mem hi, hg⟩
  | none =>
    rw [List.findIdx?_eq_none_iff] at h
    constructor
    · intro h1; simp at h1
    · intro h1
      rw [List.any_eq_true] at h1
      obtain ⟨x, hx, hg⟩ := h1
      rw [h x hx] at hg; cases hg
theorem take_false {g : Int → Bool} {xs : List Int} {i : Nat} {z : Int} (h : ∀ y ∈ xs.take i, g y = false) (hz : xs[i]? = some z) (hg : g z = false) : ∀ y ∈ xs.take (i + 1), g y = false := by
  intro y hy
  rw [List.take_add_one, hz] at hy
  rcases List.mem_append.1 hy with hy | hy
  · exact h y hy
  · have : y = z := by simpa using hy
    rw [this]; exact hg
theorem c_IndexFunc {xs : List Int} {v : AV} {A : AHeap} (hx : L1 A v xs) (hl : xs.length ≤ 1000000) (f : FuncId) (cap : List AV) (g : Int → Bool) (hg : ∀ x ∈ xs, ACalls Try.prog f ([I x] ++ cap) A (B (g x)) A) : ACalls Try.prog 81 [v, .fn f cap] A (I (fpos g xs)) A := by
  refine acalls hmix Try.func81 (by kernel_rfl) t81 2 rfl (by decide) ?_
  dsimp only [m81]
  simp (maxSteps := 4000000) -implicitDefEqProofs -dsimp (disch := omega) only [↓AW_ops, ↓AW_seq, ↓AW_block, ↓AOps_nil, ↓AOps_pu, on_some, ↓then_normal, pval, rd_S, rd_C, put_S, ↓AW_toLoop, List.replicate_succ, List.replicate_zero, List.set_cons_zero, List.set_cons_succ, List.getElem?_cons_zero, List.getElem?_cons_succ, Option.getD_some, Nat.reduceSub, List.cons_append, List.nil_append, hx.len]
  refine LoopK.by 19 (fun i : Nat => i ≤ xs.length ∧ ∀ y ∈ xs.take i, g y = false) (fun i => [(0, v), (1, .fn f cap), (7, I xs.length), (8, I i)]) (fun _ => A) (fun i => xs.length - i) 0 ⟨by omega, by simp⟩ rfl (by simp [Has, rd_s]) rfl ?_
  rintro i ⟨hi, he⟩
  by_cases hlt : i < xs.length
  · obtain ⟨z, hz⟩ : ∃ z, xs[i]? = some z := ⟨_, List.getElem?_eq_getElem hlt⟩
    have hlt' : (i : Int) < xs.length := by omega
    simp (maxSteps := 4000000) -implicitDefEqProofs -dsimp (disch := omega) only [↓AW_skip, ↓AW_ops, ↓AW_seq, ↓AW_cond, ↓AW_block, ↓AOps_nil, ↓AOps_pu, ↓AOps_ld, ↓AOps_callv, on_some, CallF_fn, condB_t, ↓then_normal, pval, lval, rd_S, put_S, partA, eq_self, mk, List.foldl_cons, List.foldl_nil, List.replicate_succ, List.replicate_zero, List.set_cons_zero, List.set_cons_succ, List.getElem?_cons_zero, List.getElem?_cons_succ, List.drop_zero, List.take_succ_cons, List.take_nil, Option.getD_some, map_c, map_n, List.length_cons, List.length_nil, Nat.reduceLeDiff, Nat.zero_add, List.cons_append, List.nil_append, bin_lss, if_true, if_false, Bool.false_eq_true, decide_true, Go.Eng.e1, hlt', hx.idx hlt, hx.ld0 hz 1 false (by decide)]
    refine CallK.of (hg z (List.mem_of_getElem? hz)) ?_
    by_cases h : g z = true
    · simp (maxSteps := 4000000) -implicitDefEqProofs -dsimp (disch := omega) only [↓AW_ops, ↓AW_seq, ↓AW_cond, ↓AW_ret, ↓AOps_nil, ↓AOps_pu, on_some, extK_same, condB_t, ↓then_normal, ↓then_ret, ↓inBlock_ret, ↓Fin_ret, pval, rd_S, put_S, resV, resL, mk, List.foldl_cons, List.foldl_nil, List.replicate_succ, List.replicate_zero, List.set_cons_zero, List.set_cons_succ, List.getElem?_cons_zero, List.getElem?_cons_succ, Option.getD_some, h]
      exact gc_same (by rw [fpos_some he hz h])
    · have h : g z = false := by simpa using h
      simp (maxSteps := 4000000) -implicitDefEqProofs -dsimp (disch := omega) only [↓AW_skip, ↓AW_ops, ↓AW_cond, ↓AOps_nil, ↓AOps_pu, on_some, extK_same, condB_f, ↓then_normal, ↓inBlock_normal, pval, rd_S, rd_C, put_S, eq_self, mk, List.foldl_cons, List.foldl_nil, List.replicate_succ, List.replicate_zero, List.set_cons_zero, List.set_cons_succ, List.getElem?_cons_zero, List.getElem?_cons_succ, Option.getD_some, List.length_cons, List.length_nil, Nat.reduceAdd, Nat.zero_add, bin_add, w64, true_and, h]
      exact ⟨i + 1, ⟨hlt, take_false he hz h⟩, by simp [Has, rd_s], by omega⟩
  · have hlt' : ¬ ((i : Int) < xs.length) := by omega
    simp (maxSteps := 4000000) -implicitDefEqProofs -dsimp (disch := omega) only [↓AW_ops, ↓AW_seq, ↓AW_cond, ↓AW_exit, ↓AW_ret, ↓AOps_nil, ↓AOps_pu, on_some, condB_f, ↓then_normal, ↓then_exit, ↓inBlock_exit, ↓Fin_ret, pval, rd_S, rd_C, put_S, resV, resL, eq_self, mk, List.foldl_cons, List.foldl_nil, List.replicate_succ, List.replicate_zero, List.set_cons_zero, List.set_cons_succ, List.getElem?_cons_zero, List.getElem?_cons_succ, Option.getD_some, bin_lss, if_true, decide_false, Int.reduceNeg, hlt']
    rw [List.take_of_length_le (by omega)] at he
    exact gc_same (by rw [fpos_none he])
theorem c_ContainsFunc {xs : List Int} {v : AV} {A : AHeap} (hx : L1 A v xs) (hl : xs.length ≤ 1000000) (f : FuncId) (cap : List AV) (g : Int → Bool) (hg : ∀ x ∈ xs, ACalls Try.prog f ([I x] ++ cap) A (B (g x)) A) : ACalls Try.prog 57 [v, .fn f cap] A (B (xs.any g)) A := by
  refine acalls hmix Try.func57 (by kernel_rfl) t57 2 rfl (by decide) ?_
  dsimp only [m57]
  simp (maxSteps := 4000000) -implicitDefEqProofs -dsimp (disch := omega) only [↓AW_ops, ↓AW_seq, ↓AOps_nil, ↓AOps_pu, ↓AOps_call, on_some, ↓then_normal, pval, rd_S, rd_C, put_S, List.replicate_succ, List.replicate_zero, List.set_cons_zero, List.set_cons_succ, List.getElem?_cons_zero, List.getElem?_cons_succ, Option.getD_some, map_c, map_n, Nat.reduceSub, List.cons_append, List.nil_append]
  refine CallK.of (c_IndexFunc hx hl f cap g hg) ?_
  simp (maxSteps := 4000000) -implicitDefEqProofs -dsimp (disch := omega) only [↓AW_ret, ↓AOps_nil, ↓AOps_pu, on_some, extK_same, ↓then_normal, ↓Fin_ret, pval, rd_S, rd_C, put_S, resV, resL, List.replicate_succ, List.replicate_zero, List.set_cons_zero, List.set_cons_succ, List.getElem?_cons_zero, List.getElem?_cons_succ, Option.getD_some, Nat.reduceSub, List.cons_append, List.nil_append, bin_geq]
  refine gc_same ?_
  congr 1
  rw [Bool.eq_iff_iff, decide_eq_true_iff, fpos_iff]
theorem L1_nil (A : AHeap) : L1 A .nilS [] := ⟨e1_len, rfl⟩
theorem take_mem {α : Type} {l : List α} {i : Nat} {z y : α} (hz : l[i]? = some z) : y ∈ l.take (i + 1) ↔ y ∈ l.take i ∨ y = z := by
  rw [List.take_add_one, hz, List.mem_append]
  simp
end Go.Proofs.Ytdcdjhhjlpegjaa

namespace Go.Proofs.Ytdcdjhhjlpegjaa
open Go Go.Eng
/-- selion/selionlaw03.Long [] -/
def m15 : MFun := ⟨7, [1], [.mov (.s 2)],
 .seq (.ops [⟨(some 1), some (.junk), none, false, .pu (.bnew (.s 0))⟩,
   ⟨(some 2), some undefA, none, false, .pu (.mov (.c (.bool false)))⟩])
 (.seq (.ops [⟨(some 3), some undefA, none, false, .pu (.badr none 1)⟩,
   ⟨(some 4), some undefA, none, false, .pu (.bget (some 3) 1 0 1 false)⟩,
   ⟨(some 5), some undefA, none, false, .pu (.len (.s 4))⟩,
   ⟨(some 6), some undefA, none, false, .pu (.bin .gtr (.s 5) (.c (.int .i64 40)))⟩,
   ⟨(some 2), some undefA, none, false, .pu (.mov (.s 6))⟩])
 (.ret))⟩
theorem t15 : trF Try.prog [1] [] Try.f15 = some m15 := by kernel_rfl
/-- selion/claim.ByParts [] -/
def m18 : MFun := ⟨11, [], [.mov (.s 4), .mov (.s 5)],
 .seq (.ops [⟨(some 4), some undefA, none, false, .pu (.mov (.c (.nilS)))⟩,
   ⟨(some 5), some undefA, none, false, .pu (.mov (.c (.int .i64 0)))⟩])
 (.seq (.ops [⟨(some 6), some undefA, none, false, .pu (.mov (.s 0))⟩,
   ⟨(some 7), some undefA, none, false, .pu (.mov (.s 1))⟩,
   ⟨(some 8), some undefA, none, false, .call 55 [(.c (.int .i64 0)), (.s 6), (.s 7)]⟩,
   ⟨(some 9), some undefA, none, false, .pu (.extr 0 (.s 8))⟩,
   ⟨(some 10), some undefA, none, false, .pu (.extr 1 (.s 8))⟩,
   ⟨(some 4), some undefA, none, false, .pu (.mov (.s 9))⟩,
   ⟨(some 5), some undefA, none, false, .pu (.mov (.s 10))⟩])
 (.ret))⟩
theorem t18 : trF Try.prog [] [] Try.f18 = some m18 := by kernel_rfl
/-- selion/claim.ByAwards [] -/
def m19 : MFun := ⟨11, [], [.mov (.s 4), .mov (.s 5)],
 .seq (.ops [⟨(some 4), some undefA, none, false, .pu (.mov (.c (.nilS)))⟩,
   ⟨(some 5), some undefA, none, false, .pu (.mov (.c (.int .i64 0)))⟩])
 (.seq (.ops [⟨(some 6), some undefA, none, false, .pu (.mov (.s 0))⟩,
   ⟨(some 7), some undefA, none, false, .pu (.mov (.s 1))⟩,
   ⟨(some 8), some undefA, none, false, .call 55 [(.c (.int .i64 1)), (.s 6), (.s 7)]⟩,
   ⟨(some 9), some undefA, none, false, .pu (.extr 0 (.s 8))⟩,
   ⟨(some 10), some undefA, none, false, .pu (.extr 1 (.s 8))⟩,
   ⟨(some 4), some undefA, none, false, .pu (.mov (.s 9))⟩,
   ⟨(some 5), some undefA, none, false, .pu (.mov (.s 10))⟩])
 (.ret))⟩
theorem t19 : trF Try.prog [] [] Try.f19 = some m19 := by kernel_rfl
/-- selion/claim.ByLosses [] -/
def m20 : MFun := ⟨11, [], [.mov (.s 4), .mov (.s 5)],
 .seq (.ops [⟨(some 4), some undefA, none, false, .pu (.mov (.c (.nilS)))⟩,
   ⟨(some 5), some undefA, none, false, .pu (.mov (.c (.int .i64 0)))⟩])
 (.seq (.ops [⟨(some 6), some undefA, none, false, .pu (.mov (.s 0))⟩,
   ⟨(some 7), some undefA, none, false, .pu (.mov (.s 1))⟩,
   ⟨(some 8), some undefA, none, false, .call 55 [(.c (.int .i64 2)), (.s 6), (.s 7)]⟩,
   ⟨(some 9), some undefA, none, false, .pu (.extr 0 (.s 8))⟩,
   ⟨(some 10), some undefA, none, false, .pu (.extr 1 (.s 8))⟩,
   ⟨(some 4), some undefA, none, false, .pu (.mov (.s 9))⟩,
   ⟨(some 5), some undefA, none, false, .pu (.mov (.s 10))⟩])
 (.ret))⟩
theorem t20 : trF Try.prog [] [] Try.f20 = some m20 := by kernel_rfl
/-- selion/selionref01.Sum [loop [0, 3, 4]] -/
def m27 : MFun := ⟨18, [], [.mov (.s 2)],
 .seq (.ops [⟨(some 2), some undefA, none, false, .pu (.mov (.c (.int .i64 0)))⟩])
 (.seq (.ops [⟨(some 3), some undefA, none, false, .pu (.mov (.c (.int .i64 0)))⟩])
 (.seq (.seq (.ops [⟨(some 4), some undefA, none, false, .pu (.mov (.c (.int .i64 0)))⟩])
 (.block 0 (.loop (.seq (.seq (.ops [⟨(some 5), some undefA, none, false, .pu (.mov (.s 4))⟩,
     ⟨(some 6), some undefA, none, false, .pu (.mov (.s 0))⟩,
     ⟨(some 7), some undefA, none, false, .pu (.len (.s 6))⟩,
     ⟨(some 8), some undefA, none, false, .pu (.bin .lss (.s 5) (.s 7))⟩])
   (.cond (.s 8) (.skip)
   (.exit 0)))
   (.seq (.block 1 (.ops [⟨(some 11), some undefA, none, false, .pu (.mov (.s 3))⟩,
      ⟨(some 12), some undefA, none, false, .pu (.mov (.s 0))⟩,
      ⟨(some 13), some undefA, none, false, .pu (.mov (.s 4))⟩,
      ⟨(some 14), some undefA, none, false, .pu (.idx 1 (.s 12) (.s 13))⟩,
      ⟨(some 15), some undefA, none, false, .ld (.ld 1 false (.s 14))⟩,
      ⟨(some 16), some undefA, none, false, .pu (.bin .add (.s 11) (.s 15))⟩,
      ⟨(some 3), some undefA, none, false, .pu (.mov (.s 16))⟩]))
   (.ops [⟨(some 9), some undefA, none, false, .pu (.mov (.s 4))⟩,
     ⟨(some 10), some undefA, none, false, .pu (.bin .add (.s 9) (.c (.int .i64 1)))⟩,
     ⟨(some 4), some undefA, none, false, .pu (.mov (.s 10))⟩]))))))
 (.seq (.ops [⟨(some 17), some undefA, none, false, .pu (.mov (.s 3))⟩,
   ⟨(some 2), some undefA, none, false, .pu (.mov (.s 17))⟩])
 (.ret))))⟩
theorem t27 : trF Try.prog [] [] Try.f27 = some m27 := by kernel_rfl
/-- selion/selionref03.ByCourt [loop [0, 9, 10, 11]] -/
def m35 : MFun := ⟨69, [8, 9], [.mov (.s 4), .mov (.s 5)],
 .seq (.ops [⟨(some 4), some undefA, none, false, .pu (.mov (.c (.nilS)))⟩,
   ⟨(some 5), some undefA, none, false, .pu (.mov (.c (.int .i64 0)))⟩])
 (.seq (.seq (.ops [⟨(some 12), some undefA, none, false, .pu (.mov (.s 0))⟩,
   ⟨(some 13), some undefA, none, false, .pu (.mov (.s 1))⟩,
   ⟨(some 14), some undefA, none, false, .call 38 [(.s 12), (.s 13)]⟩,
   ⟨(some 6), some undefA, none, false, .pu (.mov (.s 14))⟩])
 (.seq (.ops [⟨(some 15), some undefA, none, false, .pu (.mov (.s 6))⟩,
   ⟨(some 16), some undefA, none, false, .pu (.bin .neq (.s 15) (.c (.int .i64 0)))⟩])
 (.cond (.s 16) (.seq (.ops [⟨(some 17), some undefA, none, false, .pu (.mov (.s 6))⟩,
    ⟨(some 4), some undefA, none, false, .pu (.mov (.c (.nilS)))⟩,
    ⟨(some 5), some undefA, none, false, .pu (.mov (.s 17))⟩])
  (.ret))
 (.skip))))
 (.seq (.ops [⟨(some 18), some undefA, none, false, .pu (.mov (.s 0))⟩,
   ⟨(some 19), some undefA, none, false, .call 27 [(.s 18)]⟩,
   ⟨(some 7), some undefA, none, false, .pu (.mov (.s 19))⟩])
 (.seq (.seq (.ops [⟨(some 20), some undefA, none, false, .pu (.mov (.s 1))⟩,
   ⟨(some 21), some undefA, none, false, .pu (.bin .mul (.c (.int .i64 2)) (.s 20))⟩,
   ⟨(some 22), some undefA, none, false, .pu (.mov (.s 7))⟩,
   ⟨(some 23), some undefA, none, false, .pu (.bin .leq (.s 21) (.s 22))⟩])
 (.cond (.s 23) (.seq (.ops [⟨(some 24), some undefA, none, false, .pu (.mov (.s 0))⟩,
    ⟨(some 25), some undefA, none, false, .pu (.mov (.s 1))⟩,
    ⟨(some 26), some undefA, none, false, .pu (.bin .mul (.c (.int .i64 2)) (.s 25))⟩,
    ⟨(some 27), some undefA, none, false, .call 66 [(.s 24), (.s 26)]⟩,
    ⟨(some 8), some (.junk), none, false, .pu (.bnew (.c (.agg [.int .i64 0, .int .i64 0])))⟩,
    ⟨(some 8), none, none, false, .pu (.bset none 8 0 2 (.s 27))⟩])
  (.seq (.ops [⟨(some 28), some undefA, none, false, .pu (.mov (.s 0))⟩,
    ⟨(some 29), some undefA, none, false, .pu (.bget none 8 0 2 true)⟩,
    ⟨(some 30), some undefA, none, false, .call 68 [(.s 28), (.s 29)]⟩,
    ⟨(some 31), some undefA, none, false, .pu (.badr none 8)⟩,
    ⟨(some 32), some undefA, none, false, .pu (.bget (some 31) 8 1 1 false)⟩,
    ⟨(some 33), some undefA, none, false, .pu (.bin .mul (.c (.int .i64 2)) (.s 32))⟩,
    ⟨(some 34), some undefA, none, false, .call 67 [(.s 30), (.s 33)]⟩,
    ⟨(some 4), some undefA, none, false, .pu (.mov (.s 34))⟩,
    ⟨(some 5), some undefA, none, false, .pu (.mov (.c (.int .i64 0)))⟩])
  (.ret)))
 (.skip)))
 (.seq (.ops [⟨(some 35), some undefA, none, false, .pu (.mov (.s 0))⟩,
   ⟨(some 36), some undefA, none, false, .pu (.mov (.s 7))⟩,
   ⟨(some 37), some undefA, none, false, .pu (.bin .mul (.c (.int .i64 2)) (.s 36))⟩,
   ⟨(some 38), some undefA, none, false, .pu (.mov (.s 1))⟩,
   ⟨(some 39), some undefA, none, false, .pu (.bin .mul (.c (.int .i64 2)) (.s 38))⟩,
   ⟨(some 40), some undefA, none, false, .pu (.bin .sub (.s 37) (.s 39))⟩,
   ⟨(some 41), some undefA, none, false, .call 66 [(.s 35), (.s 40)]⟩,
   ⟨(some 9), some (.junk), none, false, .pu (.bnew (.c (.agg [.int .i64 0, .int .i64 0])))⟩,
   ⟨(some 9), none, none, false, .pu (.bset none 9 0 2 (.s 41))⟩])
 (.seq (.ops [⟨(some 42), some undefA, none, false, .pu (.mov (.s 0))⟩,
   ⟨(some 43), some undefA, none, false, .pu (.bget none 9 0 2 true)⟩,
   ⟨(some 44), some undefA, none, false, .call 69 [(.s 42), (.s 43)]⟩,
   ⟨(some 10), some undefA, none, false, .pu (.mov (.s 44))⟩])
 (.seq (.seq (.ops [⟨(some 11), some undefA, none, false, .pu (.mov (.c (.int .i64 0)))⟩])
 (.block 0 (.loop (.seq (.seq (.ops [⟨(some 45), some undefA, none, false, .pu (.mov (.s 11))⟩,
     ⟨(some 46), some undefA, none, false, .pu (.mov (.s 10))⟩,
     ⟨(some 47), some undefA, none, false, .pu (.len (.s 46))⟩,
     ⟨(some 48), some undefA, none, false, .pu (.bin .lss (.s 45) (.s 47))⟩])
   (.cond (.s 48) (.skip)
   (.exit 0)))
   (.seq (.block 1 (.ops [⟨(some 51), some undefA, none, true, .pu (.mov (.s 10))⟩,
      ⟨(some 52), some undefA, none, true, .pu (.mov (.s 11))⟩,
      ⟨(some 53), some undefA, none, true, .pu (.idx 1 (.s 51) (.s 52))⟩,
      ⟨(some 54), some undefA, none, true, .ld (.ld 1 false (.s 53))⟩,
      ⟨(some 55), some undefA, none, true, .pu (.mov (.s 0))⟩,
      ⟨(some 56), some undefA, none, true, .pu (.mov (.s 11))⟩,
      ⟨(some 57), some undefA, none, true, .pu (.idx 1 (.s 55) (.s 56))⟩,
      ⟨(some 58), some undefA, none, true, .ld (.ld 1 false (.s 57))⟩,
      ⟨(some 59), some undefA, none, true, .pu (.badr none 9)⟩,
      ⟨(some 60), some undefA, none, true, .pu (.bget (some 59) 9 1 1 false)⟩,
      ⟨(some 61), some undefA, none, true, .pu (.bin .mul (.s 58) (.s 60))⟩,
      ⟨(some 62), some undefA, none, false, .pu (.bin .add (.s 54) (.s 61))⟩,
      ⟨(some 63), some undefA, none, false, .pu (.idx 1 (.s 51) (.s 52))⟩,
      ⟨none, some undefA, none, false, .ha (.st 1 (.s 63) (.s 62))⟩]))
   (.ops [⟨(some 49), some undefA, none, false, .pu (.mov (.s 11))⟩,
     ⟨(some 50), some undefA, none, false, .pu (.bin .add (.s 49) (.c (.int .i64 1)))⟩,
     ⟨(some 11), some undefA, none, false, .pu (.mov (.s 50))⟩]))))))
 (.seq (.ops [⟨(some 64), some undefA, none, false, .pu (.mov (.s 10))⟩,
   ⟨(some 65), some undefA, none, false, .pu (.badr none 9)⟩,
   ⟨(some 66), some undefA, none, false, .pu (.bget (some 65) 9 1 1 false)⟩,
   ⟨(some 67), some undefA, none, false, .pu (.bin .mul (.c (.int .i64 2)) (.s 66))⟩,
   ⟨(some 68), some undefA, none, false, .call 67 [(.s 64), (.s 67)]⟩,
   ⟨(some 4), some undefA, none, false, .pu (.mov (.s 68))⟩,
   ⟨(some 5), some undefA, none, false, .pu (.mov (.c (.int .i64 0)))⟩])
 (.ret))))))))⟩
theorem t35 : trF Try.prog [8, 9] [] Try.f35 = some m35 := by kernel_rfl
/-- selion/claim.Check [loop [1, 8, 10, 36, 37, 38]] -/
def m36 : MFun := ⟨58, [], [.mov (.s 6)],
 .seq (.ops [⟨(some 6), some undefA, none, false, .pu (.mov (.c (.int .i64 0)))⟩])
 (.seq (.seq (.ops [⟨(some 13), some undefA, none, false, .pu (.mov (.s 0))⟩,
   ⟨(some 14), some undefA, none, false, .pu (.mov (.s 1))⟩,
   ⟨(some 15), some undefA, none, false, .call 16 [(.s 13), (.s 14)]⟩,
   ⟨(some 7), some undefA, none, false, .pu (.mov (.s 15))⟩])
 (.seq (.ops [⟨(some 16), some undefA, none, false, .pu (.mov (.s 7))⟩,
   ⟨(some 17), some undefA, none, false, .pu (.bin .neq (.s 16) (.c (.int .i64 0)))⟩])
 (.cond (.s 17) (.seq (.ops [⟨(some 18), some undefA, none, false, .pu (.mov (.s 7))⟩,
    ⟨(some 6), some undefA, none, false, .pu (.mov (.s 18))⟩])
  (.ret))
 (.skip))))
 (.seq (.ops [⟨(some 20), some undefA, none, false, .pu (.mov (.s 2))⟩,
   ⟨(some 21), some undefA, none, false, .call 70 [(.s 20)]⟩,
   ⟨(some 19), some undefA, none, false, .pu (.mov (.s 21))⟩,
   ⟨(some 22), some undefA, none, false, .pu (.extr 0 (.s 19))⟩,
   ⟨(some 23), some undefA, none, false, .pu (.extr 1 (.s 19))⟩,
   ⟨(some 8), some undefA, none, false, .pu (.mov (.s 22))⟩,
   ⟨(some 9), some undefA, none, false, .pu (.mov (.s 23))⟩])
 (.seq (.seq (.ops [⟨(some 24), some undefA, none, false, .pu (.mov (.s 9))⟩,
   ⟨(some 25), some undefA, none, false, .pu (.not (.s 24))⟩,
   ⟨(some 26), some undefA, none, false, .pu (.mov (.s 25))⟩,
   ⟨(some 27), some undefA, (some (26, false)), false, .pu (.mov (.s 2))⟩,
   ⟨(some 28), some undefA, (some (26, false)), false, .pu (.len (.s 27))⟩,
   ⟨(some 29), some undefA, (some (26, false)), false, .pu (.mov (.s 0))⟩,
   ⟨(some 30), some undefA, (some (26, false)), false, .pu (.len (.s 29))⟩,
   ⟨(some 31), some undefA, (some (26, false)), false, .pu (.bin .neq (.s 28) (.s 30))⟩,
   ⟨(some 32), some undefA, none, false, .pu (.pick (.s 26) (.c (.bool true)) (.s 31))⟩])
 (.cond (.s 32) (.seq (.ops [⟨(some 6), some undefA, none, false, .pu (.mov (.c (.int .i64 1)))⟩])
  (.ret))
 (.skip)))
 (.seq (.ops [⟨(some 33), some undefA, none, false, .pu (.mov (.s 2))⟩,
   ⟨(some 34), some undefA, none, false, .pu (.mov (.s 8))⟩,
   ⟨(some 35), some undefA, none, false, .call 71 [(.s 33), (.s 34)]⟩,
   ⟨(some 10), some undefA, none, false, .pu (.mov (.s 35))⟩])
 (.seq (.seq (.ops [⟨(some 36), some undefA, none, false, .pu (.mov (.s 0))⟩,
   ⟨(some 37), some undefA, none, false, .pu (.len (.s 36))⟩,
   ⟨(some 38), some undefA, none, false, .pu (.mov (.c (.int .i64 0)))⟩])
 (.block 0 (.loop (.seq (.ops [⟨(some 39), some undefA, none, false, .pu (.bin .lss (.s 38) (.s 37))⟩])
   (.seq (.cond (.s 39) (.skip)
   (.exit 0))
   (.seq (.block 1 (.seq (.ops [⟨(some 40), some undefA, none, false, .pu (.mov (.s 38))⟩,
      ⟨(some 41), some undefA, none, false, .pu (.idx 1 (.s 36) (.s 38))⟩,
      ⟨(some 42), some undefA, none, false, .ld (.ld 1 false (.s 41))⟩,
      ⟨(some 11), some undefA, none, false, .pu (.mov (.s 40))⟩,
      ⟨(some 12), some undefA, none, false, .pu (.mov (.s 42))⟩])
    (.seq (.ops [⟨(some 43), some undefA, none, false, .pu (.mov (.s 10))⟩,
      ⟨(some 44), some undefA, none, false, .pu (.mov (.s 11))⟩,
      ⟨(some 45), some undefA, none, false, .pu (.idx 1 (.s 43) (.s 44))⟩,
      ⟨(some 46), some undefA, none, false, .ld (.ld 1 false (.s 45))⟩,
      ⟨(some 47), some undefA, none, false, .pu (.mov (.s 12))⟩,
      ⟨(some 48), some undefA, none, false, .pu (.mov (.s 8))⟩,
      ⟨(some 49), some undefA, none, false, .pu (.bin .mul (.s 47) (.s 48))⟩,
      ⟨(some 50), some undefA, none, false, .pu (.bin .gtr (.s 46) (.s 49))⟩])
    (.cond (.s 50) (.seq (.ops [⟨(some 6), some undefA, none, false, .pu (.mov (.c (.int .i64 8)))⟩])
     (.ret))
    (.skip)))))
   (.ops [⟨(some 51), some undefA, none, false, .pu (.bin .add (.s 38) (.c (.int .i64 1)))⟩,
     ⟨(some 38), some undefA, none, false, .pu (.mov (.s 51))⟩])))))))
 (.seq (.seq (.ops [⟨(some 52), some undefA, none, false, .pu (.mov (.s 10))⟩,
   ⟨(some 53), some undefA, none, false, .call 54 [(.s 52)]⟩,
   ⟨(some 54), some undefA, none, false, .pu (.mov (.s 1))⟩,
   ⟨(some 55), some undefA, none, false, .pu (.mov (.s 8))⟩,
   ⟨(some 56), some undefA, none, false, .pu (.bin .mul (.s 54) (.s 55))⟩,
   ⟨(some 57), some undefA, none, false, .pu (.bin .neq (.s 53) (.s 56))⟩])
 (.cond (.s 57) (.seq (.ops [⟨(some 6), some undefA, none, false, .pu (.mov (.c (.int .i64 7)))⟩])
  (.ret))
 (.skip)))
 (.seq (.ops [⟨(some 6), some undefA, none, false, .pu (.mov (.c (.int .i64 0)))⟩])
 (.ret))))))))⟩
theorem t36 : trF Try.prog [] [] Try.f36 = some m36 := by kernel_rfl
/-- selion/selionref03.Validate [] -/
def m38 : MFun := ⟨15, [], [.mov (.s 4)],
 .seq (.ops [⟨(some 4), some undefA, none, false, .pu (.mov (.c (.int .i64 0)))⟩])
 (.seq (.seq (.ops [⟨(some 5), some undefA, none, false, .pu (.mov (.s 0))⟩,
   ⟨(some 6), some undefA, none, false, .call 59 [(.s 5)]⟩,
   ⟨(some 7), some undefA, none, false, .pu (.not (.s 6))⟩,
   ⟨(some 8), some undefA, none, false, .pu (.mov (.s 7))⟩,
   ⟨(some 9), some undefA, (some (8, false)), false, .pu (.mov (.s 1))⟩,
   ⟨(some 10), some undefA, (some (8, false)), false, .pu (.mov (.s 0))⟩,
   ⟨(some 11), some undefA, (some (8, false)), false, .call 27 [(.s 10)]⟩,
   ⟨(some 12), some undefA, (some (8, false)), false, .call 60 [(.s 9), (.c (.int .i64 0)), (.s 11)]⟩,
   ⟨(some 13), some undefA, (some (8, false)), false, .pu (.not (.s 12))⟩,
   ⟨(some 14), some undefA, none, false, .pu (.pick (.s 8) (.c (.bool true)) (.s 13))⟩])
 (.cond (.s 14) (.seq (.ops [⟨(some 4), some undefA, none, false, .pu (.mov (.c (.int .i64 1)))⟩])
  (.ret))
 (.skip)))
 (.seq (.ops [⟨(some 4), some undefA, none, false, .pu (.mov (.c (.int .i64 0)))⟩])
 (.ret)))⟩
theorem t38 : trF Try.prog [] [] Try.f38 = some m38 := by kernel_rfl
/-- selion/selionref03.Check [loop [0, 1, 8, 9, 10]] -/
def m43 : MFun := ⟨54, [], [.mov (.s 6)],
 .seq (.ops [⟨(some 6), some undefA, none, false, .pu (.mov (.c (.int .i64 0)))⟩])
 (.seq (.seq (.ops [⟨(some 11), some undefA, none, false, .pu (.mov (.s 0))⟩,
   ⟨(some 12), some undefA, none, false, .pu (.mov (.s 1))⟩,
   ⟨(some 13), some undefA, none, false, .call 38 [(.s 11), (.s 12)]⟩,
   ⟨(some 7), some undefA, none, false, .pu (.mov (.s 13))⟩])
 (.seq (.ops [⟨(some 14), some undefA, none, false, .pu (.mov (.s 7))⟩,
   ⟨(some 15), some undefA, none, false, .pu (.bin .neq (.s 14) (.c (.int .i64 0)))⟩])
 (.cond (.s 15) (.seq (.ops [⟨(some 16), some undefA, none, false, .pu (.mov (.s 7))⟩,
    ⟨(some 6), some undefA, none, false, .pu (.mov (.s 16))⟩])
  (.ret))
 (.skip))))
 (.seq (.ops [⟨(some 17), some undefA, none, false, .pu (.mov (.s 2))⟩,
   ⟨(some 18), some undefA, none, false, .call 56 [(.s 17)]⟩,
   ⟨(some 8), some undefA, none, false, .pu (.mov (.s 18))⟩])
 (.seq (.seq (.ops [⟨(some 19), some undefA, none, false, .pu (.mov (.s 2))⟩,
   ⟨(some 20), some undefA, none, false, .pu (.len (.s 19))⟩,
   ⟨(some 21), some undefA, none, false, .pu (.mov (.s 0))⟩,
   ⟨(some 22), some undefA, none, false, .pu (.len (.s 21))⟩,
   ⟨(some 23), some undefA, none, false, .pu (.bin .neq (.s 20) (.s 22))⟩,
   ⟨(some 24), some undefA, none, false, .pu (.mov (.s 23))⟩,
   ⟨(some 25), some undefA, (some (24, false)), false, .pu (.mov (.s 8))⟩,
   ⟨(some 26), some undefA, (some (24, false)), false, .pu (.bin .eql (.s 25) (.c (.int .i64 0)))⟩,
   ⟨(some 27), some undefA, none, false, .pu (.pick (.s 24) (.c (.bool true)) (.s 26))⟩])
 (.cond (.s 27) (.seq (.ops [⟨(some 6), some undefA, none, false, .pu (.mov (.c (.int .i64 1)))⟩])
  (.ret))
 (.skip)))
 (.seq (.ops [⟨(some 28), some undefA, none, false, .pu (.mov (.s 2))⟩,
   ⟨(some 29), some undefA, none, false, .pu (.mov (.s 8))⟩,
   ⟨(some 30), some undefA, none, false, .call 74 [(.s 28), (.s 29)]⟩,
   ⟨(some 9), some undefA, none, false, .pu (.mov (.s 30))⟩])
 (.seq (.seq (.ops [⟨(some 10), some undefA, none, false, .pu (.mov (.c (.int .i64 0)))⟩])
 (.block 0 (.loop (.seq (.seq (.ops [⟨(some 31), some undefA, none, false, .pu (.mov (.s 10))⟩,
     ⟨(some 32), some undefA, none, false, .pu (.mov (.s 9))⟩,
     ⟨(some 33), some undefA, none, false, .pu (.len (.s 32))⟩,
     ⟨(some 34), some undefA, none, false, .pu (.bin .lss (.s 31) (.s 33))⟩])
   (.cond (.s 34) (.skip)
   (.exit 0)))
   (.seq (.block 1 (.seq (.ops [⟨(some 37), some undefA, none, true, .pu (.mov (.s 9))⟩,
      ⟨(some 38), some undefA, none, true, .pu (.mov (.s 10))⟩,
      ⟨(some 39), some undefA, none, true, .pu (.idx 1 (.s 37) (.s 38))⟩,
      ⟨(some 40), some undefA, none, true, .ld (.ld 1 false (.s 39))⟩,
      ⟨(some 41), some undefA, none, true, .pu (.mov (.s 8))⟩,
      ⟨(some 42), some undefA, none, true, .pu (.mov (.s 0))⟩,
      ⟨(some 43), some undefA, none, true, .pu (.mov (.s 10))⟩,
      ⟨(some 44), some undefA, none, true, .pu (.idx 1 (.s 42) (.s 43))⟩,
      ⟨(some 45), some undefA, none, true, .ld (.ld 1 false (.s 44))⟩,
      ⟨(some 46), some undefA, none, true, .pu (.bin .mul (.s 41) (.s 45))⟩,
      ⟨(some 47), some undefA, none, false, .pu (.bin .gtr (.s 40) (.s 46))⟩])
    (.cond (.s 47) (.seq (.ops [⟨(some 6), some undefA, none, false, .pu (.mov (.c (.int .i64 8)))⟩])
     (.ret))
    (.skip))))
   (.ops [⟨(some 35), some undefA, none, false, .pu (.mov (.s 10))⟩,
     ⟨(some 36), some undefA, none, false, .pu (.bin .add (.s 35) (.c (.int .i64 1)))⟩,
     ⟨(some 10), some undefA, none, false, .pu (.mov (.s 36))⟩]))))))
 (.seq (.seq (.ops [⟨(some 48), some undefA, none, false, .pu (.mov (.s 9))⟩,
   ⟨(some 49), some undefA, none, false, .call 27 [(.s 48)]⟩,
   ⟨(some 50), some undefA, none, false, .pu (.mov (.s 8))⟩,
   ⟨(some 51), some undefA, none, false, .pu (.mov (.s 1))⟩,
   ⟨(some 52), some undefA, none, false, .pu (.bin .mul (.s 50) (.s 51))⟩,
   ⟨(some 53), some undefA, none, false, .pu (.bin .neq (.s 49) (.s 52))⟩])
 (.cond (.s 53) (.seq (.ops [⟨(some 6), some undefA, none, false, .pu (.mov (.c (.int .i64 7)))⟩])
  (.ret))
 (.skip)))
 (.seq (.ops [⟨(some 6), some undefA, none, false, .pu (.mov (.c (.int .i64 0)))⟩])
 (.ret))))))))⟩
theorem t43 : trF Try.prog [] [] Try.f43 = some m43 := by kernel_rfl
/-- selion/claim.Leave [] -/
def m50 : MFun := ⟨53, [9, 12], [.mov (.s 8), .bget none 9 0 2 true, .mov (.s 10)],
 .seq (.ops [⟨(some 8), some undefA, none, false, .pu (.mov (.c (.nilS)))⟩,
   ⟨(some 9), some (.junk), none, false, .pu (.bnew (.c (.agg [.int .i64 0, .int .i64 0])))⟩,
   ⟨(some 10), some undefA, none, false, .pu (.mov (.c (.int .i64 0)))⟩])
 (.seq (.seq (.ops [⟨(some 13), some undefA, none, false, .pu (.mov (.s 0))⟩,
   ⟨(some 14), some undefA, none, false, .pu (.mov (.s 1))⟩,
   ⟨(some 15), some undefA, none, false, .pu (.mov (.s 2))⟩,
   ⟨(some 16), some undefA, none, false, .call 36 [(.s 13), (.s 14), (.s 15)]⟩,
   ⟨(some 11), some undefA, none, false, .pu (.mov (.s 16))⟩])
 (.seq (.ops [⟨(some 17), some undefA, none, false, .pu (.mov (.s 11))⟩,
   ⟨(some 18), some undefA, none, false, .pu (.bin .neq (.s 17) (.c (.int .i64 0)))⟩])
 (.cond (.s 18) (.seq (.ops [⟨(some 19), some undefA, none, false, .pu (.build [.int .i64 0, .int .i64 0] [])⟩,
    ⟨(some 20), some undefA, none, false, .pu (.mov (.s 11))⟩,
    ⟨(some 8), some undefA, none, false, .pu (.mov (.c (.nilS)))⟩,
    ⟨(some 9), none, none, false, .pu (.bset none 9 0 2 (.s 19))⟩,
    ⟨(some 10), some undefA, none, false, .pu (.mov (.s 20))⟩])
  (.ret))
 (.skip))))
 (.seq (.seq (.ops [⟨(some 21), some undefA, none, false, .pu (.mov (.s 3))⟩,
   ⟨(some 22), some undefA, none, false, .pu (.bin .lss (.s 21) (.c (.int .i64 0)))⟩,
   ⟨(some 23), some undefA, none, false, .pu (.mov (.s 22))⟩,
   ⟨(some 24), some undefA, (some (23, false)), false, .pu (.mov (.s 3))⟩,
   ⟨(some 25), some undefA, (some (23, false)), false, .pu (.mov (.s 0))⟩,
   ⟨(some 26), some undefA, (some (23, false)), false, .pu (.len (.s 25))⟩,
   ⟨(some 27), some undefA, (some (23, false)), false, .pu (.bin .geq (.s 24) (.s 26))⟩,
   ⟨(some 28), some undefA, none, false, .pu (.pick (.s 23) (.c (.bool true)) (.s 27))⟩])
 (.cond (.s 28) (.seq (.ops [⟨(some 29), some undefA, none, false, .pu (.build [.int .i64 0, .int .i64 0] [])⟩,
    ⟨(some 8), some undefA, none, false, .pu (.mov (.c (.nilS)))⟩,
    ⟨(some 9), none, none, false, .pu (.bset none 9 0 2 (.s 29))⟩,
    ⟨(some 10), some undefA, none, false, .pu (.mov (.c (.int .i64 4)))⟩])
  (.ret))
 (.skip)))
 (.seq (.ops [⟨(some 30), some undefA, none, false, .pu (.mov (.s 2))⟩,
   ⟨(some 31), some undefA, none, false, .pu (.mov (.s 3))⟩,
   ⟨(some 32), some undefA, none, false, .pu (.idx 2 (.s 30) (.s 31))⟩,
   ⟨(some 33), some undefA, none, false, .ld (.ld 2 true (.s 32))⟩,
   ⟨(some 12), some (.junk), none, false, .pu (.bnew (.c (.agg [.int .i64 0, .int .i64 0])))⟩,
   ⟨(some 12), none, none, false, .pu (.bset none 12 0 2 (.s 33))⟩])
 (.seq (.ops [⟨(some 34), some undefA, none, false, .pu (.mov (.s 0))⟩,
   ⟨(some 35), some undefA, none, false, .pu (.mov (.s 3))⟩,
   ⟨(some 36), some undefA, none, false, .pu (.slc 1 (.s 34) none (some (.s 35)) none)⟩,
   ⟨(some 37), some undefA, none, false, .pu (.mov (.s 0))⟩,
   ⟨(some 38), some undefA, none, false, .pu (.mov (.s 3))⟩,
   ⟨(some 39), some undefA, none, false, .pu (.bin .add (.s 38) (.c (.int .i64 1)))⟩,
   ⟨(some 40), some undefA, none, false, .pu (.slc 1 (.s 37) (some (.s 39)) none none)⟩,
   ⟨(some 41), some undefA, none, false, .ha (.blds 1 2 [.nilS] [(0, 1, (.s 36)), (1, 1, (.s 40))])⟩,
   ⟨(some 42), some undefA, none, false, .call 77 [(.s 41)]⟩,
   ⟨(some 43), some undefA, none, false, .pu (.mov (.s 1))⟩,
   ⟨(some 44), some undefA, none, false, .pu (.badr none 12)⟩,
   ⟨(some 45), some undefA, none, false, .pu (.bget (some 44) 12 1 1 false)⟩,
   ⟨(some 46), some undefA, none, false, .pu (.bin .mul (.s 43) (.s 45))⟩,
   ⟨(some 47), some undefA, none, false, .pu (.badr none 12)⟩,
   ⟨(some 48), some undefA, none, false, .pu (.bget (some 47) 12 0 1 false)⟩,
   ⟨(some 49), some undefA, none, false, .pu (.bin .sub (.s 46) (.s 48))⟩,
   ⟨(some 50), some undefA, none, false, .pu (.badr none 12)⟩,
   ⟨(some 51), some undefA, none, false, .pu (.bget (some 50) 12 1 1 false)⟩,
   ⟨(some 52), some undefA, none, false, .call 61 [(.s 49), (.s 51)]⟩,
   ⟨(some 8), some undefA, none, false, .pu (.mov (.s 42))⟩,
   ⟨(some 9), none, none, false, .pu (.bset none 9 0 2 (.s 52))⟩,
   ⟨(some 10), some undefA, none, false, .pu (.mov (.c (.int .i64 0)))⟩])
 (.ret)))))⟩
theorem t50 : trF Try.prog [9, 12] [] Try.f50 = some m50 := by kernel_rfl
/-- selion/selionref03.Leave [loop [0, 1, 2, 3, 9, 12, 13]] -/
def m51 : MFun := ⟨65, [9], [.mov (.s 8), .bget none 9 0 2 true, .mov (.s 10)],
 .seq (.ops [⟨(some 8), some undefA, none, false, .pu (.mov (.c (.nilS)))⟩,
   ⟨(some 9), some (.junk), none, false, .pu (.bnew (.c (.agg [.int .i64 0, .int .i64 0])))⟩,
   ⟨(some 10), some undefA, none, false, .pu (.mov (.c (.int .i64 0)))⟩])
 (.seq (.seq (.ops [⟨(some 14), some undefA, none, false, .pu (.mov (.s 0))⟩,
   ⟨(some 15), some undefA, none, false, .pu (.mov (.s 1))⟩,
   ⟨(some 16), some undefA, none, false, .pu (.mov (.s 2))⟩,
   ⟨(some 17), some undefA, none, false, .call 43 [(.s 14), (.s 15), (.s 16)]⟩,
   ⟨(some 11), some undefA, none, false, .pu (.mov (.s 17))⟩])
 (.seq (.ops [⟨(some 18), some undefA, none, false, .pu (.mov (.s 11))⟩,
   ⟨(some 19), some undefA, none, false, .pu (.bin .neq (.s 18) (.c (.int .i64 0)))⟩])
 (.cond (.s 19) (.seq (.ops [⟨(some 20), some undefA, none, false, .pu (.build [.int .i64 0, .int .i64 0] [])⟩,
    ⟨(some 21), some undefA, none, false, .pu (.mov (.s 11))⟩,
    ⟨(some 8), some undefA, none, false, .pu (.mov (.c (.nilS)))⟩,
    ⟨(some 9), none, none, false, .pu (.bset none 9 0 2 (.s 20))⟩,
    ⟨(some 10), some undefA, none, false, .pu (.mov (.s 21))⟩])
  (.ret))
 (.skip))))
 (.seq (.seq (.ops [⟨(some 22), some undefA, none, false, .pu (.mov (.s 3))⟩,
   ⟨(some 23), some undefA, none, false, .pu (.mov (.s 0))⟩,
   ⟨(some 24), some undefA, none, false, .pu (.len (.s 23))⟩,
   ⟨(some 25), some undefA, none, false, .pu (.bin .sub (.s 24) (.c (.int .i64 1)))⟩,
   ⟨(some 26), some undefA, none, false, .call 60 [(.s 22), (.c (.int .i64 0)), (.s 25)]⟩,
   ⟨(some 27), some undefA, none, false, .pu (.not (.s 26))⟩])
 (.cond (.s 27) (.seq (.ops [⟨(some 28), some undefA, none, false, .pu (.build [.int .i64 0, .int .i64 0] [])⟩,
    ⟨(some 8), some undefA, none, false, .pu (.mov (.c (.nilS)))⟩,
    ⟨(some 9), none, none, false, .pu (.bset none 9 0 2 (.s 28))⟩,
    ⟨(some 10), some undefA, none, false, .pu (.mov (.c (.int .i64 4)))⟩])
  (.ret))
 (.skip)))
 (.seq (.ops [⟨(some 12), some undefA, none, false, .pu (.mov (.c (.nilS)))⟩])
 (.seq (.seq (.ops [⟨(some 13), some undefA, none, false, .pu (.mov (.c (.int .i64 0)))⟩])
 (.block 0 (.loop (.seq (.seq (.ops [⟨(some 29), some undefA, none, false, .pu (.mov (.s 13))⟩,
     ⟨(some 30), some undefA, none, false, .pu (.mov (.s 0))⟩,
     ⟨(some 31), some undefA, none, false, .pu (.len (.s 30))⟩,
     ⟨(some 32), some undefA, none, false, .pu (.bin .lss (.s 29) (.s 31))⟩])
   (.cond (.s 32) (.skip)
   (.exit 0)))
   (.seq (.block 1 (.seq (.ops [⟨(some 35), some undefA, none, false, .pu (.mov (.s 13))⟩,
      ⟨(some 36), some undefA, none, false, .pu (.mov (.s 3))⟩,
      ⟨(some 37), some undefA, none, false, .pu (.bin .neq (.s 35) (.s 36))⟩])
    (.cond (.s 37) (.ops [⟨(some 38), some undefA, none, false, .pu (.mov (.s 12))⟩,
       ⟨(some 39), some undefA, none, false, .pu (.mov (.s 0))⟩,
       ⟨(some 40), some undefA, none, false, .pu (.mov (.s 13))⟩,
       ⟨(some 41), some undefA, none, false, .pu (.idx 1 (.s 39) (.s 40))⟩,
       ⟨(some 42), some undefA, none, false, .ld (.ld 1 false (.s 41))⟩,
       ⟨(some 43), some undefA, none, false, .ha (.blds 1 1 [.int .i64 0] [(0, 1, (.s 42))])⟩,
       ⟨(some 44), some undefA, none, false, .ha (.app 1 (.s 38) (.s 43))⟩,
       ⟨(some 12), some undefA, none, false, .pu (.mov (.s 44))⟩])
    (.skip))))
   (.ops [⟨(some 33), some undefA, none, false, .pu (.mov (.s 13))⟩,
     ⟨(some 34), some undefA, none, false, .pu (.bin .add (.s 33) (.c (.int .i64 1)))⟩,
     ⟨(some 13), some undefA, none, false, .pu (.mov (.s 34))⟩]))))))
 (.seq (.ops [⟨(some 45), some undefA, none, true, .pu (.mov (.s 12))⟩,
   ⟨(some 46), some undefA, none, true, .pu (.mov (.s 1))⟩,
   ⟨(some 47), some undefA, none, true, .pu (.mov (.s 2))⟩,
   ⟨(some 48), some undefA, none, true, .pu (.mov (.s 3))⟩,
   ⟨(some 49), some undefA, none, true, .pu (.idx 2 (.s 47) (.s 48))⟩,
   ⟨(some 50), some undefA, none, true, .pu (.fad 1 (.s 49))⟩,
   ⟨(some 51), some undefA, none, true, .ld (.ld 1 false (.s 50))⟩,
   ⟨(some 52), some undefA, none, true, .pu (.bin .mul (.s 46) (.s 51))⟩,
   ⟨(some 53), some undefA, none, true, .pu (.mov (.s 2))⟩,
   ⟨(some 54), some undefA, none, true, .pu (.mov (.s 3))⟩,
   ⟨(some 55), some undefA, none, true, .pu (.idx 2 (.s 53) (.s 54))⟩,
   ⟨(some 56), some undefA, none, true, .pu (.fad 0 (.s 55))⟩,
   ⟨(some 57), some undefA, none, true, .ld (.ld 1 false (.s 56))⟩,
   ⟨(some 58), some undefA, none, true, .pu (.bin .sub (.s 52) (.s 57))⟩,
   ⟨(some 59), some undefA, none, true, .pu (.mov (.s 2))⟩,
   ⟨(some 60), some undefA, none, true, .pu (.mov (.s 3))⟩,
   ⟨(some 61), some undefA, none, true, .pu (.idx 2 (.s 59) (.s 60))⟩,
   ⟨(some 62), some undefA, none, true, .pu (.fad 1 (.s 61))⟩,
   ⟨(some 63), some undefA, none, true, .ld (.ld 1 false (.s 62))⟩,
   ⟨(some 64), some undefA, none, false, .call 62 [(.s 58), (.s 63)]⟩,
   ⟨(some 8), some undefA, none, false, .pu (.mov (.s 45))⟩,
   ⟨(some 9), none, none, false, .pu (.bset none 9 0 2 (.s 64))⟩,
   ⟨(some 10), some undefA, none, false, .pu (.mov (.c (.int .i64 0)))⟩])
 (.ret))))))⟩
theorem t51 : trF Try.prog [9] [] Try.f51 = some m51 := by kernel_rfl
/-- selion/selionlaw03.by [] -/
def m52 : MFun := ⟨35, [], [.mov (.s 6), .mov (.s 7)],
 .seq (.ops [⟨(some 6), some undefA, none, false, .pu (.mov (.c (.nilS)))⟩,
   ⟨(some 7), some undefA, none, false, .pu (.mov (.c (.int .i64 0)))⟩])
 (.seq (.seq (.ops [⟨(some 8), some undefA, none, false, .pu (.mov (.s 0))⟩])
 (.block 0 (.seq (.ops [⟨(some 10), some undefA, none, false, .pu (.bin .eql (.s 8) (.c (.int .i64 0)))⟩,
    ⟨(some 9), some undefA, none, false, .pu (.mov (.s 10))⟩])
  (.cond (.s 9) (.seq (.ops [⟨(some 11), some undefA, none, false, .pu (.mov (.s 1))⟩,
     ⟨(some 12), some undefA, none, false, .pu (.mov (.s 2))⟩,
     ⟨(some 13), some undefA, none, false, .call 18 [(.s 11), (.s 12)]⟩,
     ⟨(some 14), some undefA, none, false, .pu (.extr 0 (.s 13))⟩,
     ⟨(some 15), some undefA, none, false, .pu (.extr 1 (.s 13))⟩,
     ⟨(some 6), some undefA, none, false, .pu (.mov (.s 14))⟩,
     ⟨(some 7), some undefA, none, false, .pu (.mov (.s 15))⟩])
   (.ret))
  (.seq (.ops [⟨(some 17), some undefA, none, false, .pu (.bin .eql (.s 8) (.c (.int .i64 1)))⟩,
     ⟨(some 16), some undefA, none, false, .pu (.mov (.s 17))⟩])
   (.cond (.s 16) (.seq (.ops [⟨(some 18), some undefA, none, false, .pu (.mov (.s 1))⟩,
      ⟨(some 19), some undefA, none, false, .pu (.mov (.s 2))⟩,
      ⟨(some 20), some undefA, none, false, .call 19 [(.s 18), (.s 19)]⟩,
      ⟨(some 21), some undefA, none, false, .pu (.extr 0 (.s 20))⟩,
      ⟨(some 22), some undefA, none, false, .pu (.extr 1 (.s 20))⟩,
      ⟨(some 6), some undefA, none, false, .pu (.mov (.s 21))⟩,
      ⟨(some 7), some undefA, none, false, .pu (.mov (.s 22))⟩])
    (.ret))
   (.seq (.ops [⟨(some 24), some undefA, none, false, .pu (.bin .eql (.s 8) (.c (.int .i64 2)))⟩,
      ⟨(some 23), some undefA, none, false, .pu (.mov (.s 24))⟩])
    (.cond (.s 23) (.seq (.ops [⟨(some 25), some undefA, none, false, .pu (.mov (.s 1))⟩,
       ⟨(some 26), some undefA, none, false, .pu (.mov (.s 2))⟩,
       ⟨(some 27), some undefA, none, false, .call 20 [(.s 25), (.s 26)]⟩,
       ⟨(some 28), some undefA, none, false, .pu (.extr 0 (.s 27))⟩,
       ⟨(some 29), some undefA, none, false, .pu (.extr 1 (.s 27))⟩,
       ⟨(some 6), some undefA, none, false, .pu (.mov (.s 28))⟩,
       ⟨(some 7), some undefA, none, false, .pu (.mov (.s 29))⟩])
     (.ret))
    (.skip)))))))))
 (.seq (.ops [⟨(some 30), some undefA, none, false, .pu (.mov (.s 1))⟩,
   ⟨(some 31), some undefA, none, false, .pu (.mov (.s 2))⟩,
   ⟨(some 32), some undefA, none, false, .call 21 [(.s 30), (.s 31)]⟩,
   ⟨(some 33), some undefA, none, false, .pu (.extr 0 (.s 32))⟩,
   ⟨(some 34), some undefA, none, false, .pu (.extr 1 (.s 32))⟩,
   ⟨(some 6), some undefA, none, false, .pu (.mov (.s 33))⟩,
   ⟨(some 7), some undefA, none, false, .pu (.mov (.s 34))⟩])
 (.ret)))⟩
theorem t52 : trF Try.prog [] [] Try.f52 = some m52 := by kernel_rfl
/-- selion/selionref03.Common [loop [0, 3, 4]] -/
def m56 : MFun := ⟨59, [], [.mov (.s 2)],
 .seq (.ops [⟨(some 2), some undefA, none, false, .pu (.mov (.c (.int .i64 0)))⟩])
 (.seq (.ops [⟨(some 3), some undefA, none, false, .pu (.mov (.c (.int .i64 1)))⟩])
 (.seq (.seq (.ops [⟨(some 4), some undefA, none, false, .pu (.mov (.c (.int .i64 0)))⟩])
 (.block 0 (.loop (.seq (.seq (.ops [⟨(some 5), some undefA, none, false, .pu (.mov (.s 4))⟩,
     ⟨(some 6), some undefA, none, false, .pu (.mov (.s 0))⟩,
     ⟨(some 7), some undefA, none, false, .pu (.len (.s 6))⟩,
     ⟨(some 8), some undefA, none, false, .pu (.bin .lss (.s 5) (.s 7))⟩])
   (.cond (.s 8) (.skip)
   (.exit 0)))
   (.seq (.block 1 (.seq (.seq (.ops [⟨(some 11), some undefA, none, false, .pu (.mov (.s 0))⟩,
      ⟨(some 12), some undefA, none, false, .pu (.mov (.s 4))⟩,
      ⟨(some 13), some undefA, none, false, .pu (.idx 2 (.s 11) (.s 12))⟩,
      ⟨(some 14), some undefA, none, false, .pu (.fad 1 (.s 13))⟩,
      ⟨(some 15), some undefA, none, true, .ld (.ld 1 false (.s 14))⟩,
      ⟨(some 16), some undefA, none, false, .call 60 [(.s 15), (.c (.int .i64 1)), (.c (.int .i64 10000))]⟩,
      ⟨(some 17), some undefA, none, false, .pu (.not (.s 16))⟩,
      ⟨(some 18), some undefA, none, false, .pu (.mov (.s 17))⟩,
      ⟨(some 19), some undefA, (some (18, false)), false, .pu (.mov (.s 0))⟩,
      ⟨(some 20), some undefA, (some (18, false)), false, .pu (.mov (.s 4))⟩,
      ⟨(some 21), some undefA, (some (18, false)), false, .pu (.idx 2 (.s 19) (.s 20))⟩,
      ⟨(some 22), some undefA, (some (18, false)), false, .pu (.fad 0 (.s 21))⟩,
      ⟨(some 23), some undefA, (some (18, false)), true, .ld (.ld 1 false (.s 22))⟩,
      ⟨(some 24), some undefA, (some (18, false)), false, .call 60 [(.s 23), (.c (.int .i64 0)), (.c (.int .i64 10000000))]⟩,
      ⟨(some 25), some undefA, (some (18, false)), false, .pu (.not (.s 24))⟩,
      ⟨(some 26), some undefA, none, false, .pu (.pick (.s 18) (.c (.bool true)) (.s 25))⟩,
      ⟨(some 27), some undefA, none, false, .pu (.mov (.s 26))⟩,
      ⟨(some 28), some undefA, (some (27, false)), true, .pu (.mov (.s 0))⟩,
      ⟨(some 29), some undefA, (some (27, false)), true, .pu (.mov (.s 4))⟩,
      ⟨(some 30), some undefA, (some (27, false)), true, .pu (.idx 2 (.s 28) (.s 29))⟩,
      ⟨(some 31), some undefA, (some (27, false)), true, .pu (.fad 0 (.s 30))⟩,
      ⟨(some 32), some undefA, (some (27, false)), true, .ld (.ld 1 false (.s 31))⟩,
      ⟨(some 33), some undefA, (some (27, false)), true, .pu (.mov (.s 0))⟩,
      ⟨(some 34), some undefA, (some (27, false)), true, .pu (.mov (.s 4))⟩,
      ⟨(some 35), some undefA, (some (27, false)), true, .pu (.idx 2 (.s 33) (.s 34))⟩,
      ⟨(some 36), some undefA, (some (27, false)), true, .pu (.fad 1 (.s 35))⟩,
      ⟨(some 37), some undefA, (some (27, false)), true, .ld (.ld 1 false (.s 36))⟩,
      ⟨(some 38), some undefA, (some (27, false)), false, .call 80 [(.s 32), (.s 37)]⟩,
      ⟨(some 39), some undefA, (some (27, false)), false, .pu (.bin .neq (.s 38) (.c (.int .i64 1)))⟩,
      ⟨(some 40), some undefA, none, false, .pu (.pick (.s 27) (.c (.bool true)) (.s 39))⟩])
    (.cond (.s 40) (.seq (.ops [⟨(some 2), some undefA, none, false, .pu (.mov (.c (.int .i64 0)))⟩])
     (.ret))
    (.skip)))
    (.seq (.ops [⟨(some 41), some undefA, none, true, .pu (.mov (.s 3))⟩,
      ⟨(some 42), some undefA, none, true, .pu (.mov (.s 3))⟩,
      ⟨(some 43), some undefA, none, true, .pu (.mov (.s 0))⟩,
      ⟨(some 44), some undefA, none, true, .pu (.mov (.s 4))⟩,
      ⟨(some 45), some undefA, none, true, .pu (.idx 2 (.s 43) (.s 44))⟩,
      ⟨(some 46), some undefA, none, true, .pu (.fad 1 (.s 45))⟩,
      ⟨(some 47), some undefA, none, true, .ld (.ld 1 false (.s 46))⟩,
      ⟨(some 48), some undefA, none, true, .call 80 [(.s 42), (.s 47)]⟩,
      ⟨(some 49), some undefA, none, true, .pu (.bin .quo (.s 41) (.s 48))⟩,
      ⟨(some 50), some undefA, none, true, .pu (.mov (.s 0))⟩,
      ⟨(some 51), some undefA, none, true, .pu (.mov (.s 4))⟩,
      ⟨(some 52), some undefA, none, true, .pu (.idx 2 (.s 50) (.s 51))⟩,
      ⟨(some 53), some undefA, none, true, .pu (.fad 1 (.s 52))⟩,
      ⟨(some 54), some undefA, none, true, .ld (.ld 1 false (.s 53))⟩,
      ⟨(some 55), some undefA, none, false, .pu (.bin .mul (.s 49) (.s 54))⟩,
      ⟨(some 3), some undefA, none, false, .pu (.mov (.s 55))⟩])
    (.seq (.ops [⟨(some 56), some undefA, none, false, .pu (.mov (.s 3))⟩,
      ⟨(some 57), some undefA, none, false, .pu (.bin .gtr (.s 56) (.c (.int .i64 10000)))⟩])
    (.cond (.s 57) (.seq (.ops [⟨(some 2), some undefA, none, false, .pu (.mov (.c (.int .i64 0)))⟩])
     (.ret))
    (.skip))))))
   (.ops [⟨(some 9), some undefA, none, false, .pu (.mov (.s 4))⟩,
     ⟨(some 10), some undefA, none, false, .pu (.bin .add (.s 9) (.c (.int .i64 1)))⟩,
     ⟨(some 4), some undefA, none, false, .pu (.mov (.s 10))⟩]))))))
 (.seq (.ops [⟨(some 58), some undefA, none, false, .pu (.mov (.s 3))⟩,
   ⟨(some 2), some undefA, none, false, .pu (.mov (.s 58))⟩])
 (.ret))))⟩
theorem t56 : trF Try.prog [] [] Try.f56 = some m56 := by kernel_rfl
/-- selion/selionref03.areClaims [loop [0, 3]] -/
def m59 : MFun := ⟨20, [], [.mov (.s 2)],
 .seq (.ops [⟨(some 2), some undefA, none, false, .pu (.mov (.c (.bool false)))⟩])
 (.seq (.seq (.ops [⟨(some 4), some undefA, none, false, .pu (.mov (.s 0))⟩,
   ⟨(some 5), some undefA, none, false, .pu (.len (.s 4))⟩,
   ⟨(some 6), some undefA, none, false, .call 60 [(.s 5), (.c (.int .i64 1)), (.c (.int .i64 8))]⟩,
   ⟨(some 7), some undefA, none, false, .pu (.not (.s 6))⟩])
 (.cond (.s 7) (.seq (.ops [⟨(some 2), some undefA, none, false, .pu (.mov (.c (.bool false)))⟩])
  (.ret))
 (.skip)))
 (.seq (.seq (.ops [⟨(some 3), some undefA, none, false, .pu (.mov (.c (.int .i64 0)))⟩])
 (.block 0 (.loop (.seq (.seq (.ops [⟨(some 8), some undefA, none, false, .pu (.mov (.s 3))⟩,
     ⟨(some 9), some undefA, none, false, .pu (.mov (.s 0))⟩,
     ⟨(some 10), some undefA, none, false, .pu (.len (.s 9))⟩,
     ⟨(some 11), some undefA, none, false, .pu (.bin .lss (.s 8) (.s 10))⟩])
   (.cond (.s 11) (.skip)
   (.exit 0)))
   (.seq (.block 1 (.seq (.ops [⟨(some 14), some undefA, none, false, .pu (.mov (.s 0))⟩,
      ⟨(some 15), some undefA, none, false, .pu (.mov (.s 3))⟩,
      ⟨(some 16), some undefA, none, false, .pu (.idx 1 (.s 14) (.s 15))⟩,
      ⟨(some 17), some undefA, none, false, .ld (.ld 1 false (.s 16))⟩,
      ⟨(some 18), some undefA, none, false, .call 60 [(.s 17), (.c (.int .i64 0)), (.c (.int .i64 1000))]⟩,
      ⟨(some 19), some undefA, none, false, .pu (.not (.s 18))⟩])
    (.cond (.s 19) (.seq (.ops [⟨(some 2), some undefA, none, false, .pu (.mov (.c (.bool false)))⟩])
     (.ret))
    (.skip))))
   (.ops [⟨(some 12), some undefA, none, false, .pu (.mov (.s 3))⟩,
     ⟨(some 13), some undefA, none, false, .pu (.bin .add (.s 12) (.c (.int .i64 1)))⟩,
     ⟨(some 3), some undefA, none, false, .pu (.mov (.s 13))⟩]))))))
 (.seq (.ops [⟨(some 2), some undefA, none, false, .pu (.mov (.c (.bool true)))⟩])
 (.ret))))⟩
theorem t59 : trF Try.prog [] [] Try.f59 = some m59 := by kernel_rfl
/-- selion/selionref01.Within [] -/
def m60 : MFun := ⟨15, [], [.mov (.s 6)],
 .seq (.ops [⟨(some 6), some undefA, none, false, .pu (.mov (.c (.bool false)))⟩])
 (.seq (.ops [⟨(some 7), some undefA, none, false, .pu (.mov (.s 0))⟩,
   ⟨(some 8), some undefA, none, false, .pu (.mov (.s 1))⟩,
   ⟨(some 9), some undefA, none, false, .pu (.bin .geq (.s 7) (.s 8))⟩,
   ⟨(some 10), some undefA, none, false, .pu (.mov (.s 9))⟩,
   ⟨(some 11), some undefA, (some (10, true)), false, .pu (.mov (.s 0))⟩,
   ⟨(some 12), some undefA, (some (10, true)), false, .pu (.mov (.s 2))⟩,
   ⟨(some 13), some undefA, (some (10, true)), false, .pu (.bin .leq (.s 11) (.s 12))⟩,
   ⟨(some 14), some undefA, none, false, .pu (.pick (.s 10) (.s 13) (.c (.bool false)))⟩,
   ⟨(some 6), some undefA, none, false, .pu (.mov (.s 14))⟩])
 (.ret))⟩
theorem t60 : trF Try.prog [] [] Try.f60 = some m60 := by kernel_rfl
/-- selion/selionref03.Ratio [] -/
def m62 : MFun := ⟨19, [4], [.bget none 4 0 2 true],
 .seq (.ops [⟨(some 4), some (.junk), none, false, .pu (.bnew (.c (.agg [.int .i64 0, .int .i64 0])))⟩])
 (.seq (.ops [⟨(some 6), some undefA, none, false, .pu (.mov (.s 0))⟩,
   ⟨(some 7), some undefA, none, false, .pu (.mov (.s 0))⟩,
   ⟨(some 8), some undefA, none, false, .pu (.neg (.s 7))⟩,
   ⟨(some 9), some undefA, none, false, .pu (.mm true (.s 6) [(.s 8)])⟩,
   ⟨(some 10), some undefA, none, false, .pu (.mov (.s 1))⟩,
   ⟨(some 11), some undefA, none, false, .call 80 [(.s 9), (.s 10)]⟩,
   ⟨(some 5), some undefA, none, false, .pu (.mov (.s 11))⟩])
 (.seq (.ops [⟨(some 12), some undefA, none, false, .pu (.mov (.s 0))⟩,
   ⟨(some 13), some undefA, none, false, .pu (.mov (.s 5))⟩,
   ⟨(some 14), some undefA, none, false, .pu (.bin .quo (.s 12) (.s 13))⟩,
   ⟨(some 15), some undefA, none, false, .pu (.mov (.s 1))⟩,
   ⟨(some 16), some undefA, none, false, .pu (.mov (.s 5))⟩,
   ⟨(some 17), some undefA, none, false, .pu (.bin .quo (.s 15) (.s 16))⟩,
   ⟨(some 18), some undefA, none, false, .pu (.build [.int .i64 0, .int .i64 0] [(0, 1, (.s 14)), (1, 1, (.s 17))])⟩,
   ⟨(some 4), none, none, false, .pu (.bset none 4 0 2 (.s 18))⟩])
 (.ret)))⟩
theorem t62 : trF Try.prog [4] [] Try.f62 = some m62 := by kernel_rfl
/-- selion/selionref03.level [loop [0, 1, 4, 5], loop [0, 1, 4, 5, 6, 7, 8], loop [0, 1, 4, 5, 6, 7, 9, 10]] -/
def m66 : MFun := ⟨84, [4, 11], [.bget none 4 0 2 true],
 .seq (.ops [⟨(some 4), some (.junk), none, false, .pu (.bnew (.c (.agg [.int .i64 0, .int .i64 0])))⟩])
 (.seq (.seq (.ops [⟨(some 5), some undefA, none, false, .pu (.mov (.c (.int .i64 0)))⟩])
 (.block 0 (.loop (.seq (.seq (.ops [⟨(some 12), some undefA, none, false, .pu (.mov (.s 5))⟩,
     ⟨(some 13), some undefA, none, false, .pu (.mov (.s 0))⟩,
     ⟨(some 14), some undefA, none, false, .pu (.len (.s 13))⟩,
     ⟨(some 15), some undefA, none, false, .pu (.bin .lss (.s 12) (.s 14))⟩])
   (.cond (.s 15) (.skip)
   (.exit 0)))
   (.seq (.block 1 (.seq (.ops [⟨(some 18), some undefA, none, false, .pu (.mov (.s 1))⟩,
      ⟨(some 6), some undefA, none, false, .pu (.mov (.s 18))⟩,
      ⟨(some 7), some undefA, none, false, .pu (.mov (.c (.int .i64 0)))⟩])
    (.seq (.seq (.ops [⟨(some 8), some undefA, none, false, .pu (.mov (.c (.int .i64 0)))⟩])
    (.block 2 (.loop (.seq (.seq (.ops [⟨(some 19), some undefA, none, false, .pu (.mov (.s 8))⟩,
        ⟨(some 20), some undefA, none, false, .pu (.mov (.s 0))⟩,
        ⟨(some 21), some undefA, none, false, .pu (.len (.s 20))⟩,
        ⟨(some 22), some undefA, none, false, .pu (.bin .lss (.s 19) (.s 21))⟩])
      (.cond (.s 22) (.skip)
      (.exit 2)))
      (.seq (.block 3 (.seq (.ops [⟨(some 25), some undefA, none, true, .pu (.mov (.s 0))⟩,
         ⟨(some 26), some undefA, none, true, .pu (.mov (.s 8))⟩,
         ⟨(some 27), some undefA, none, true, .pu (.idx 1 (.s 25) (.s 26))⟩,
         ⟨(some 28), some undefA, none, true, .ld (.ld 1 false (.s 27))⟩,
         ⟨(some 29), some undefA, none, true, .pu (.mov (.s 0))⟩,
         ⟨(some 30), some undefA, none, true, .pu (.mov (.s 5))⟩,
         ⟨(some 31), some undefA, none, true, .pu (.idx 1 (.s 29) (.s 30))⟩,
         ⟨(some 32), some undefA, none, true, .ld (.ld 1 false (.s 31))⟩,
         ⟨(some 33), some undefA, none, false, .pu (.bin .lss (.s 28) (.s 32))⟩])
       (.cond (.s 33) (.ops [⟨(some 34), some undefA, none, false, .pu (.mov (.s 6))⟩,
          ⟨(some 35), some undefA, none, false, .pu (.mov (.s 0))⟩,
          ⟨(some 36), some undefA, none, false, .pu (.mov (.s 8))⟩,
          ⟨(some 37), some undefA, none, false, .pu (.idx 1 (.s 35) (.s 36))⟩,
          ⟨(some 38), some undefA, none, false, .ld (.ld 1 false (.s 37))⟩,
          ⟨(some 39), some undefA, none, false, .pu (.bin .sub (.s 34) (.s 38))⟩,
          ⟨(some 6), some undefA, none, false, .pu (.mov (.s 39))⟩])
       (.ops [⟨(some 40), some undefA, none, false, .pu (.mov (.s 7))⟩,
          ⟨(some 41), some undefA, none, false, .pu (.bin .add (.s 40) (.c (.int .i64 1)))⟩,
          ⟨(some 7), some undefA, none, false, .pu (.mov (.s 41))⟩]))))
      (.ops [⟨(some 23), some undefA, none, false, .pu (.mov (.s 8))⟩,
        ⟨(some 24), some undefA, none, false, .pu (.bin .add (.s 23) (.c (.int .i64 1)))⟩,
        ⟨(some 8), some undefA, none, false, .pu (.mov (.s 24))⟩]))))))
    (.seq (.ops [⟨(some 9), some undefA, none, false, .pu (.mov (.c (.int .i64 0)))⟩])
    (.seq (.seq (.ops [⟨(some 10), some undefA, none, false, .pu (.mov (.c (.int .i64 0)))⟩])
    (.block 4 (.loop (.seq (.seq (.ops [⟨(some 42), some undefA, none, false, .pu (.mov (.s 10))⟩,
        ⟨(some 43), some undefA, none, false, .pu (.mov (.s 0))⟩,
        ⟨(some 44), some undefA, none, false, .pu (.len (.s 43))⟩,
        ⟨(some 45), some undefA, none, false, .pu (.bin .lss (.s 42) (.s 44))⟩])
      (.cond (.s 45) (.skip)
      (.exit 4)))
      (.seq (.block 5 (.seq (.ops [⟨(some 48), some undefA, none, true, .pu (.mov (.s 0))⟩,
         ⟨(some 49), some undefA, none, true, .pu (.mov (.s 10))⟩,
         ⟨(some 50), some undefA, none, true, .pu (.idx 1 (.s 48) (.s 49))⟩,
         ⟨(some 51), some undefA, none, true, .ld (.ld 1 false (.s 50))⟩,
         ⟨(some 52), some undefA, none, true, .pu (.mov (.s 0))⟩,
         ⟨(some 53), some undefA, none, true, .pu (.mov (.s 5))⟩,
         ⟨(some 54), some undefA, none, true, .pu (.idx 1 (.s 52) (.s 53))⟩,
         ⟨(some 55), some undefA, none, true, .ld (.ld 1 false (.s 54))⟩,
         ⟨(some 56), some undefA, none, false, .pu (.bin .lss (.s 51) (.s 55))⟩])
       (.cond (.s 56) (.ops [⟨(some 57), some undefA, none, false, .pu (.mov (.s 9))⟩,
          ⟨(some 58), some undefA, none, false, .pu (.mov (.s 0))⟩,
          ⟨(some 59), some undefA, none, false, .pu (.mov (.s 10))⟩,
          ⟨(some 60), some undefA, none, false, .pu (.idx 1 (.s 58) (.s 59))⟩,
          ⟨(some 61), some undefA, none, false, .ld (.ld 1 false (.s 60))⟩,
          ⟨(some 62), some undefA, none, false, .pu (.mm true (.s 57) [(.s 61)])⟩,
          ⟨(some 9), some undefA, none, false, .pu (.mov (.s 62))⟩])
       (.skip))))
      (.ops [⟨(some 46), some undefA, none, false, .pu (.mov (.s 10))⟩,
        ⟨(some 47), some undefA, none, false, .pu (.bin .add (.s 46) (.c (.int .i64 1)))⟩,
        ⟨(some 10), some undefA, none, false, .pu (.mov (.s 47))⟩]))))))
    (.seq (.ops [⟨(some 63), some undefA, none, false, .pu (.mov (.s 6))⟩,
      ⟨(some 64), some undefA, none, false, .pu (.mov (.s 7))⟩,
      ⟨(some 65), some undefA, none, false, .pu (.mov (.s 9))⟩,
      ⟨(some 66), some undefA, none, false, .pu (.bin .mul (.s 64) (.s 65))⟩,
      ⟨(some 67), some undefA, none, false, .pu (.bin .geq (.s 63) (.s 66))⟩,
      ⟨(some 68), some undefA, none, false, .pu (.mov (.s 67))⟩,
      ⟨(some 69), some undefA, (some (68, true)), false, .pu (.mov (.s 6))⟩,
      ⟨(some 70), some undefA, (some (68, true)), false, .pu (.mov (.s 7))⟩,
      ⟨(some 71), some undefA, (some (68, true)), false, .pu (.mov (.s 0))⟩,
      ⟨(some 72), some undefA, (some (68, true)), false, .pu (.mov (.s 5))⟩,
      ⟨(some 73), some undefA, (some (68, true)), false, .pu (.idx 1 (.s 71) (.s 72))⟩,
      ⟨(some 74), some undefA, (some (68, true)), false, .ld (.ld 1 false (.s 73))⟩,
      ⟨(some 75), some undefA, (some (68, true)), false, .pu (.bin .mul (.s 70) (.s 74))⟩,
      ⟨(some 76), some undefA, (some (68, true)), false, .pu (.bin .leq (.s 69) (.s 75))⟩,
      ⟨(some 77), some undefA, none, false, .pu (.pick (.s 68) (.s 76) (.c (.bool false)))⟩])
    (.cond (.s 77) (.seq (.ops [⟨(some 78), some undefA, none, false, .pu (.mov (.s 6))⟩,
       ⟨(some 79), some undefA, none, false, .pu (.mm true (.s 78) [(.c (.int .i64 0))])⟩,
       ⟨(some 80), some undefA, none, false, .pu (.mov (.s 7))⟩,
       ⟨(some 81), some undefA, none, false, .call 62 [(.s 79), (.s 80)]⟩,
       ⟨(some 11), some (.junk), none, false, .pu (.bnew (.c (.agg [.int .i64 0, .int .i64 0])))⟩,
       ⟨(some 11), none, none, false, .pu (.bset none 11 0 2 (.s 81))⟩])
     (.seq (.ops [⟨(some 82), some undefA, none, false, .pu (.bget none 11 0 2 true)⟩,
       ⟨(some 4), none, none, false, .pu (.bset none 4 0 2 (.s 82))⟩])
     (.ret)))
    (.skip))))))))
   (.ops [⟨(some 16), some undefA, none, false, .pu (.mov (.s 5))⟩,
     ⟨(some 17), some undefA, none, false, .pu (.bin .add (.s 16) (.c (.int .i64 1)))⟩,
     ⟨(some 5), some undefA, none, false, .pu (.mov (.s 17))⟩]))))))
 (.seq (.ops [⟨(some 83), some undefA, none, false, .pu (.build [.int .i64 0, .int .i64 0] [(1, 1, (.c (.int .i64 1)))])⟩,
   ⟨(some 4), none, none, false, .pu (.bset none 4 0 2 (.s 83))⟩])
 (.ret)))⟩
theorem t66 : trF Try.prog [4, 11] [] Try.f66 = some m66 := by kernel_rfl
/-- selion/selionref03.fractions [loop [0, 1, 5, 6]] -/
def m67 : MFun := ⟨23, [], [.mov (.s 4)],
 .seq (.ops [⟨(some 4), some undefA, none, false, .pu (.mov (.c (.nilS)))⟩])
 (.seq (.ops [⟨(some 5), some undefA, none, false, .pu (.mov (.c (.nilS)))⟩])
 (.seq (.seq (.ops [⟨(some 6), some undefA, none, false, .pu (.mov (.c (.int .i64 0)))⟩])
 (.block 0 (.loop (.seq (.seq (.ops [⟨(some 7), some undefA, none, false, .pu (.mov (.s 6))⟩,
     ⟨(some 8), some undefA, none, false, .pu (.mov (.s 0))⟩,
     ⟨(some 9), some undefA, none, false, .pu (.len (.s 8))⟩,
     ⟨(some 10), some undefA, none, false, .pu (.bin .lss (.s 7) (.s 9))⟩])
   (.cond (.s 10) (.skip)
   (.exit 0)))
   (.seq (.block 1 (.ops [⟨(some 13), some undefA, none, false, .pu (.mov (.s 5))⟩,
      ⟨(some 14), some undefA, none, false, .pu (.mov (.s 0))⟩,
      ⟨(some 15), some undefA, none, false, .pu (.mov (.s 6))⟩,
      ⟨(some 16), some undefA, none, false, .pu (.idx 1 (.s 14) (.s 15))⟩,
      ⟨(some 17), some undefA, none, false, .ld (.ld 1 false (.s 16))⟩,
      ⟨(some 18), some undefA, none, false, .pu (.mov (.s 1))⟩,
      ⟨(some 19), some undefA, none, false, .call 62 [(.s 17), (.s 18)]⟩,
      ⟨(some 20), some undefA, none, false, .ha (.blds 2 1 [.int .i64 0, .int .i64 0] [(0, 2, (.s 19))])⟩,
      ⟨(some 21), some undefA, none, false, .ha (.app 2 (.s 13) (.s 20))⟩,
      ⟨(some 5), some undefA, none, false, .pu (.mov (.s 21))⟩]))
   (.ops [⟨(some 11), some undefA, none, false, .pu (.mov (.s 6))⟩,
     ⟨(some 12), some undefA, none, false, .pu (.bin .add (.s 11) (.c (.int .i64 1)))⟩,
     ⟨(some 6), some undefA, none, false, .pu (.mov (.s 12))⟩]))))))
 (.seq (.ops [⟨(some 22), some undefA, none, false, .pu (.mov (.s 5))⟩,
   ⟨(some 4), some undefA, none, false, .pu (.mov (.s 22))⟩])
 (.ret))))⟩
theorem t67 : trF Try.prog [] [] Try.f67 = some m67 := by kernel_rfl
/-- selion/selionref03.up [loop [0, 3, 5, 6]] -/
def m68 : MFun := ⟨27, [3], [.mov (.s 4)],
 .seq (.ops [⟨(some 3), some (.junk), none, false, .pu (.bnew (.s 1))⟩,
   ⟨(some 4), some undefA, none, false, .pu (.mov (.c (.nilS)))⟩])
 (.seq (.ops [⟨(some 5), some undefA, none, false, .pu (.mov (.c (.nilS)))⟩])
 (.seq (.seq (.ops [⟨(some 6), some undefA, none, false, .pu (.mov (.c (.int .i64 0)))⟩])
 (.block 0 (.loop (.seq (.seq (.ops [⟨(some 7), some undefA, none, false, .pu (.mov (.s 6))⟩,
     ⟨(some 8), some undefA, none, false, .pu (.mov (.s 0))⟩,
     ⟨(some 9), some undefA, none, false, .pu (.len (.s 8))⟩,
     ⟨(some 10), some undefA, none, false, .pu (.bin .lss (.s 7) (.s 9))⟩])
   (.cond (.s 10) (.skip)
   (.exit 0)))
   (.seq (.block 1 (.ops [⟨(some 13), some undefA, none, true, .pu (.mov (.s 5))⟩,
      ⟨(some 14), some undefA, none, false, .pu (.mov (.s 0))⟩,
      ⟨(some 15), some undefA, none, false, .pu (.mov (.s 6))⟩,
      ⟨(some 16), some undefA, none, false, .pu (.idx 1 (.s 14) (.s 15))⟩,
      ⟨(some 17), some undefA, none, true, .ld (.ld 1 false (.s 16))⟩,
      ⟨(some 18), some undefA, none, true, .pu (.badr none 3)⟩,
      ⟨(some 19), some undefA, none, true, .pu (.bget (some 18) 3 1 1 false)⟩,
      ⟨(some 20), some undefA, none, false, .pu (.bin .mul (.s 17) (.s 19))⟩,
      ⟨(some 21), some undefA, none, true, .pu (.badr none 3)⟩,
      ⟨(some 22), some undefA, none, true, .pu (.bget (some 21) 3 0 1 false)⟩,
      ⟨(some 23), some undefA, none, false, .pu (.mm false (.s 20) [(.s 22)])⟩,
      ⟨(some 24), some undefA, none, false, .ha (.blds 1 1 [.int .i64 0] [(0, 1, (.s 23))])⟩,
      ⟨(some 25), some undefA, none, false, .ha (.app 1 (.s 13) (.s 24))⟩,
      ⟨(some 5), some undefA, none, false, .pu (.mov (.s 25))⟩]))
   (.ops [⟨(some 11), some undefA, none, false, .pu (.mov (.s 6))⟩,
     ⟨(some 12), some undefA, none, false, .pu (.bin .add (.s 11) (.c (.int .i64 1)))⟩,
     ⟨(some 6), some undefA, none, false, .pu (.mov (.s 12))⟩]))))))
 (.seq (.ops [⟨(some 26), some undefA, none, false, .pu (.mov (.s 5))⟩,
   ⟨(some 4), some undefA, none, false, .pu (.mov (.s 26))⟩])
 (.ret))))⟩
theorem t68 : trF Try.prog [3] [] Try.f68 = some m68 := by kernel_rfl
/-- selion/selionref03.rest [loop [0, 3, 5, 6]] -/
def m69 : MFun := ⟨28, [3], [.mov (.s 4)],
 .seq (.ops [⟨(some 3), some (.junk), none, false, .pu (.bnew (.s 1))⟩,
   ⟨(some 4), some undefA, none, false, .pu (.mov (.c (.nilS)))⟩])
 (.seq (.ops [⟨(some 5), some undefA, none, false, .pu (.mov (.c (.nilS)))⟩])
 (.seq (.seq (.ops [⟨(some 6), some undefA, none, false, .pu (.mov (.c (.int .i64 0)))⟩])
 (.block 0 (.loop (.seq (.seq (.ops [⟨(some 7), some undefA, none, false, .pu (.mov (.s 6))⟩,
     ⟨(some 8), some undefA, none, false, .pu (.mov (.s 0))⟩,
     ⟨(some 9), some undefA, none, false, .pu (.len (.s 8))⟩,
     ⟨(some 10), some undefA, none, false, .pu (.bin .lss (.s 7) (.s 9))⟩])
   (.cond (.s 10) (.skip)
   (.exit 0)))
   (.seq (.block 1 (.ops [⟨(some 13), some undefA, none, true, .pu (.mov (.s 5))⟩,
      ⟨(some 14), some undefA, none, false, .pu (.mov (.s 0))⟩,
      ⟨(some 15), some undefA, none, false, .pu (.mov (.s 6))⟩,
      ⟨(some 16), some undefA, none, false, .pu (.idx 1 (.s 14) (.s 15))⟩,
      ⟨(some 17), some undefA, none, true, .ld (.ld 1 false (.s 16))⟩,
      ⟨(some 18), some undefA, none, true, .pu (.badr none 3)⟩,
      ⟨(some 19), some undefA, none, true, .pu (.bget (some 18) 3 1 1 false)⟩,
      ⟨(some 20), some undefA, none, false, .pu (.bin .mul (.s 17) (.s 19))⟩,
      ⟨(some 21), some undefA, none, true, .pu (.badr none 3)⟩,
      ⟨(some 22), some undefA, none, true, .pu (.bget (some 21) 3 0 1 false)⟩,
      ⟨(some 23), some undefA, none, false, .pu (.bin .sub (.s 20) (.s 22))⟩,
      ⟨(some 24), some undefA, none, false, .pu (.mm true (.c (.int .i64 0)) [(.s 23)])⟩,
      ⟨(some 25), some undefA, none, false, .ha (.blds 1 1 [.int .i64 0] [(0, 1, (.s 24))])⟩,
      ⟨(some 26), some undefA, none, false, .ha (.app 1 (.s 13) (.s 25))⟩,
      ⟨(some 5), some undefA, none, false, .pu (.mov (.s 26))⟩]))
   (.ops [⟨(some 11), some undefA, none, false, .pu (.mov (.s 6))⟩,
     ⟨(some 12), some undefA, none, false, .pu (.bin .add (.s 11) (.c (.int .i64 1)))⟩,
     ⟨(some 6), some undefA, none, false, .pu (.mov (.s 12))⟩]))))))
 (.seq (.ops [⟨(some 27), some undefA, none, false, .pu (.mov (.s 5))⟩,
   ⟨(some 4), some undefA, none, false, .pu (.mov (.s 27))⟩])
 (.ret))))⟩
theorem t69 : trF Try.prog [3] [] Try.f69 = some m69 := by kernel_rfl
/-- selion/claim.common [loop [4, 7, 8, 9]] -/
def m70 : MFun := ⟨52, [6], [.mov (.s 2), .mov (.s 3)],
 .seq (.ops [⟨(some 2), some undefA, none, false, .pu (.mov (.c (.int .i64 0)))⟩,
   ⟨(some 3), some undefA, none, false, .pu (.mov (.c (.bool false)))⟩])
 (.seq (.ops [⟨(some 4), some undefA, none, false, .pu (.mov (.c (.int .i64 1)))⟩])
 (.seq (.seq (.ops [⟨(some 7), some undefA, none, false, .pu (.mov (.s 0))⟩,
   ⟨(some 8), some undefA, none, false, .pu (.len (.s 7))⟩,
   ⟨(some 9), some undefA, none, false, .pu (.mov (.c (.int .i64 0)))⟩])
 (.block 0 (.loop (.seq (.ops [⟨(some 10), some undefA, none, false, .pu (.bin .lss (.s 9) (.s 8))⟩])
   (.seq (.cond (.s 10) (.skip)
   (.exit 0))
   (.seq (.block 1 (.seq (.ops [⟨(some 11), some undefA, none, false, .pu (.idx 2 (.s 7) (.s 9))⟩,
      ⟨(some 12), some undefA, none, false, .ld (.ld 2 true (.s 11))⟩,
      ⟨(some 6), some (.junk), none, false, .pu (.bnew (.c (.agg [.int .i64 0, .int .i64 0])))⟩,
      ⟨(some 6), none, none, false, .pu (.bset none 6 0 2 (.s 12))⟩])
    (.seq (.seq (.ops [⟨(some 13), some undefA, none, false, .pu (.badr none 6)⟩,
      ⟨(some 14), some undefA, none, false, .pu (.bget (some 13) 6 1 1 false)⟩,
      ⟨(some 15), some undefA, none, false, .pu (.bin .lss (.s 14) (.c (.int .i64 1)))⟩,
      ⟨(some 16), some undefA, none, false, .pu (.mov (.s 15))⟩,
      ⟨(some 17), some undefA, (some (16, false)), false, .pu (.badr none 6)⟩,
      ⟨(some 18), some undefA, (some (16, false)), false, .pu (.bget (some 17) 6 1 1 false)⟩,
      ⟨(some 19), some undefA, (some (16, false)), false, .pu (.bin .gtr (.s 18) (.c (.int .i64 10000)))⟩,
      ⟨(some 20), some undefA, none, false, .pu (.pick (.s 16) (.c (.bool true)) (.s 19))⟩,
      ⟨(some 21), some undefA, none, false, .pu (.mov (.s 20))⟩,
      ⟨(some 22), some undefA, (some (21, false)), false, .pu (.badr none 6)⟩,
      ⟨(some 23), some undefA, (some (21, false)), false, .pu (.bget (some 22) 6 0 1 false)⟩,
      ⟨(some 24), some undefA, (some (21, false)), false, .pu (.bin .lss (.s 23) (.c (.int .i64 0)))⟩,
      ⟨(some 25), some undefA, none, false, .pu (.pick (.s 21) (.c (.bool true)) (.s 24))⟩,
      ⟨(some 26), some undefA, none, false, .pu (.mov (.s 25))⟩,
      ⟨(some 27), some undefA, (some (26, false)), false, .pu (.badr none 6)⟩,
      ⟨(some 28), some undefA, (some (26, false)), false, .pu (.bget (some 27) 6 0 1 false)⟩,
      ⟨(some 29), some undefA, (some (26, false)), false, .pu (.bin .gtr (.s 28) (.c (.int .i64 10000000)))⟩,
      ⟨(some 30), some undefA, none, false, .pu (.pick (.s 26) (.c (.bool true)) (.s 29))⟩,
      ⟨(some 31), some undefA, none, false, .pu (.mov (.s 30))⟩,
      ⟨(some 32), some undefA, (some (31, false)), false, .pu (.badr none 6)⟩,
      ⟨(some 33), some undefA, (some (31, false)), false, .pu (.bget (some 32) 6 0 1 false)⟩,
      ⟨(some 34), some undefA, (some (31, false)), false, .pu (.badr none 6)⟩,
      ⟨(some 35), some undefA, (some (31, false)), false, .pu (.bget (some 34) 6 1 1 false)⟩,
      ⟨(some 36), some undefA, (some (31, false)), false, .call 82 [(.s 33), (.s 35)]⟩,
      ⟨(some 37), some undefA, (some (31, false)), false, .pu (.bin .neq (.s 36) (.c (.int .i64 1)))⟩,
      ⟨(some 38), some undefA, none, false, .pu (.pick (.s 31) (.c (.bool true)) (.s 37))⟩])
    (.cond (.s 38) (.seq (.ops [⟨(some 2), some undefA, none, false, .pu (.mov (.c (.int .i64 0)))⟩,
       ⟨(some 3), some undefA, none, false, .pu (.mov (.c (.bool false)))⟩])
     (.ret))
    (.skip)))
    (.seq (.ops [⟨(some 39), some undefA, none, false, .pu (.mov (.s 4))⟩,
      ⟨(some 40), some undefA, none, false, .pu (.mov (.s 4))⟩,
      ⟨(some 41), some undefA, none, false, .pu (.badr none 6)⟩,
      ⟨(some 42), some undefA, none, false, .pu (.bget (some 41) 6 1 1 false)⟩,
      ⟨(some 43), some undefA, none, false, .call 82 [(.s 40), (.s 42)]⟩,
      ⟨(some 44), some undefA, none, false, .pu (.bin .quo (.s 39) (.s 43))⟩,
      ⟨(some 45), some undefA, none, false, .pu (.badr none 6)⟩,
      ⟨(some 46), some undefA, none, false, .pu (.bget (some 45) 6 1 1 false)⟩,
      ⟨(some 47), some undefA, none, false, .pu (.bin .mul (.s 44) (.s 46))⟩,
      ⟨(some 4), some undefA, none, false, .pu (.mov (.s 47))⟩])
    (.seq (.ops [⟨(some 48), some undefA, none, false, .pu (.mov (.s 4))⟩,
      ⟨(some 49), some undefA, none, false, .pu (.bin .gtr (.s 48) (.c (.int .i64 10000)))⟩])
    (.cond (.s 49) (.seq (.ops [⟨(some 2), some undefA, none, false, .pu (.mov (.c (.int .i64 0)))⟩,
       ⟨(some 3), some undefA, none, false, .pu (.mov (.c (.bool false)))⟩])
     (.ret))
    (.skip)))))))
   (.ops [⟨(some 50), some undefA, none, false, .pu (.bin .add (.s 9) (.c (.int .i64 1)))⟩,
     ⟨(some 9), some undefA, none, false, .pu (.mov (.s 50))⟩])))))))
 (.seq (.ops [⟨(some 51), some undefA, none, false, .pu (.mov (.s 4))⟩,
   ⟨(some 2), some undefA, none, false, .pu (.mov (.s 51))⟩,
   ⟨(some 3), some undefA, none, false, .pu (.mov (.c (.bool true)))⟩])
 (.ret))))⟩
theorem t70 : trF Try.prog [6] [] Try.f70 = some m70 := by kernel_rfl
/-- selion/claim.over [loop [1, 5, 8, 9, 10]] -/
def m71 : MFun := ⟨26, [7], [.mov (.s 4)],
 .seq (.ops [⟨(some 4), some undefA, none, false, .pu (.mov (.c (.nilS)))⟩])
 (.seq (.ops [⟨(some 5), some undefA, none, false, .pu (.mov (.c (.nilS)))⟩])
 (.seq (.seq (.ops [⟨(some 8), some undefA, none, false, .pu (.mov (.s 0))⟩,
   ⟨(some 9), some undefA, none, false, .pu (.len (.s 8))⟩,
   ⟨(some 10), some undefA, none, false, .pu (.mov (.c (.int .i64 0)))⟩])
 (.block 0 (.loop (.seq (.ops [⟨(some 11), some undefA, none, false, .pu (.bin .lss (.s 10) (.s 9))⟩])
   (.seq (.cond (.s 11) (.skip)
   (.exit 0))
   (.seq (.block 1 (.seq (.ops [⟨(some 12), some undefA, none, false, .pu (.idx 2 (.s 8) (.s 10))⟩,
      ⟨(some 13), some undefA, none, false, .ld (.ld 2 true (.s 12))⟩,
      ⟨(some 7), some (.junk), none, false, .pu (.bnew (.c (.agg [.int .i64 0, .int .i64 0])))⟩,
      ⟨(some 7), none, none, false, .pu (.bset none 7 0 2 (.s 13))⟩])
    (.ops [⟨(some 14), some undefA, none, false, .pu (.mov (.s 5))⟩,
      ⟨(some 15), some undefA, none, false, .pu (.badr none 7)⟩,
      ⟨(some 16), some undefA, none, false, .pu (.bget (some 15) 7 0 1 false)⟩,
      ⟨(some 17), some undefA, none, false, .pu (.mov (.s 1))⟩,
      ⟨(some 18), some undefA, none, false, .pu (.badr none 7)⟩,
      ⟨(some 19), some undefA, none, false, .pu (.bget (some 18) 7 1 1 false)⟩,
      ⟨(some 20), some undefA, none, false, .pu (.bin .quo (.s 17) (.s 19))⟩,
      ⟨(some 21), some undefA, none, false, .pu (.bin .mul (.s 16) (.s 20))⟩,
      ⟨(some 22), some undefA, none, false, .ha (.blds 1 1 [.int .i64 0] [(0, 1, (.s 21))])⟩,
      ⟨(some 23), some undefA, none, false, .ha (.app 1 (.s 14) (.s 22))⟩,
      ⟨(some 5), some undefA, none, false, .pu (.mov (.s 23))⟩])))
   (.ops [⟨(some 24), some undefA, none, false, .pu (.bin .add (.s 10) (.c (.int .i64 1)))⟩,
     ⟨(some 10), some undefA, none, false, .pu (.mov (.s 24))⟩])))))))
 (.seq (.ops [⟨(some 25), some undefA, none, false, .pu (.mov (.s 5))⟩,
   ⟨(some 4), some undefA, none, false, .pu (.mov (.s 25))⟩])
 (.ret))))⟩
theorem t71 : trF Try.prog [7] [] Try.f71 = some m71 := by kernel_rfl
/-- selion/selionref03.over [loop [0, 1, 5, 6]] -/
def m74 : MFun := ⟨30, [], [.mov (.s 4)],
 .seq (.ops [⟨(some 4), some undefA, none, false, .pu (.mov (.c (.nilS)))⟩])
 (.seq (.ops [⟨(some 5), some undefA, none, false, .pu (.mov (.c (.nilS)))⟩])
 (.seq (.seq (.ops [⟨(some 6), some undefA, none, false, .pu (.mov (.c (.int .i64 0)))⟩])
 (.block 0 (.loop (.seq (.seq (.ops [⟨(some 7), some undefA, none, false, .pu (.mov (.s 6))⟩,
     ⟨(some 8), some undefA, none, false, .pu (.mov (.s 0))⟩,
     ⟨(some 9), some undefA, none, false, .pu (.len (.s 8))⟩,
     ⟨(some 10), some undefA, none, false, .pu (.bin .lss (.s 7) (.s 9))⟩])
   (.cond (.s 10) (.skip)
   (.exit 0)))
   (.seq (.block 1 (.ops [⟨(some 13), some undefA, none, true, .pu (.mov (.s 5))⟩,
      ⟨(some 14), some undefA, none, true, .pu (.mov (.s 0))⟩,
      ⟨(some 15), some undefA, none, true, .pu (.mov (.s 6))⟩,
      ⟨(some 16), some undefA, none, true, .pu (.idx 2 (.s 14) (.s 15))⟩,
      ⟨(some 17), some undefA, none, true, .pu (.fad 0 (.s 16))⟩,
      ⟨(some 18), some undefA, none, true, .ld (.ld 1 false (.s 17))⟩,
      ⟨(some 19), some undefA, none, true, .pu (.mov (.s 1))⟩,
      ⟨(some 20), some undefA, none, true, .pu (.mov (.s 0))⟩,
      ⟨(some 21), some undefA, none, true, .pu (.mov (.s 6))⟩,
      ⟨(some 22), some undefA, none, true, .pu (.idx 2 (.s 20) (.s 21))⟩,
      ⟨(some 23), some undefA, none, true, .pu (.fad 1 (.s 22))⟩,
      ⟨(some 24), some undefA, none, true, .ld (.ld 1 false (.s 23))⟩,
      ⟨(some 25), some undefA, none, true, .pu (.bin .quo (.s 19) (.s 24))⟩,
      ⟨(some 26), some undefA, none, false, .pu (.bin .mul (.s 18) (.s 25))⟩,
      ⟨(some 27), some undefA, none, false, .ha (.blds 1 1 [.int .i64 0] [(0, 1, (.s 26))])⟩,
      ⟨(some 28), some undefA, none, false, .ha (.app 1 (.s 13) (.s 27))⟩,
      ⟨(some 5), some undefA, none, false, .pu (.mov (.s 28))⟩]))
   (.ops [⟨(some 11), some undefA, none, false, .pu (.mov (.s 6))⟩,
     ⟨(some 12), some undefA, none, false, .pu (.bin .add (.s 11) (.c (.int .i64 1)))⟩,
     ⟨(some 6), some undefA, none, false, .pu (.mov (.s 12))⟩]))))))
 (.seq (.ops [⟨(some 29), some undefA, none, false, .pu (.mov (.s 5))⟩,
   ⟨(some 4), some undefA, none, false, .pu (.mov (.s 29))⟩])
 (.ret))))⟩
theorem t74 : trF Try.prog [] [] Try.f74 = some m74 := by kernel_rfl
/-- selion/claim.lost [loop [1, 5, 8, 9, 10]] -/
def m75 : MFun := ⟨39, [], [.mov (.s 4)],
 .seq (.ops [⟨(some 4), some undefA, none, false, .pu (.mov (.c (.nilS)))⟩])
 (.seq (.ops [⟨(some 5), some undefA, none, false, .pu (.mov (.c (.nilS)))⟩])
 (.seq (.seq (.ops [⟨(some 8), some undefA, none, false, .pu (.mov (.s 0))⟩,
   ⟨(some 9), some undefA, none, false, .pu (.len (.s 8))⟩,
   ⟨(some 10), some undefA, none, false, .pu (.mov (.c (.int .i64 0)))⟩])
 (.block 0 (.loop (.seq (.ops [⟨(some 11), some undefA, none, false, .pu (.bin .lss (.s 10) (.s 9))⟩])
   (.seq (.cond (.s 11) (.skip)
   (.exit 0))
   (.seq (.block 1 (.seq (.ops [⟨(some 12), some undefA, none, false, .pu (.mov (.s 10))⟩,
      ⟨(some 13), some undefA, none, false, .pu (.idx 1 (.s 8) (.s 10))⟩,
      ⟨(some 14), some undefA, none, false, .ld (.ld 1 false (.s 13))⟩,
      ⟨(some 6), some undefA, none, false, .pu (.mov (.s 12))⟩,
      ⟨(some 7), some undefA, none, false, .pu (.mov (.s 14))⟩])
    (.ops [⟨(some 15), some undefA, none, true, .pu (.mov (.s 5))⟩,
      ⟨(some 16), some undefA, none, true, .pu (.mov (.s 7))⟩,
      ⟨(some 17), some undefA, none, true, .pu (.mov (.s 1))⟩,
      ⟨(some 18), some undefA, none, true, .pu (.mov (.s 6))⟩,
      ⟨(some 19), some undefA, none, true, .pu (.idx 2 (.s 17) (.s 18))⟩,
      ⟨(some 20), some undefA, none, true, .pu (.fad 1 (.s 19))⟩,
      ⟨(some 21), some undefA, none, true, .ld (.ld 1 false (.s 20))⟩,
      ⟨(some 22), some undefA, none, true, .pu (.bin .mul (.s 16) (.s 21))⟩,
      ⟨(some 23), some undefA, none, true, .pu (.mov (.s 1))⟩,
      ⟨(some 24), some undefA, none, true, .pu (.mov (.s 6))⟩,
      ⟨(some 25), some undefA, none, true, .pu (.idx 2 (.s 23) (.s 24))⟩,
      ⟨(some 26), some undefA, none, true, .pu (.fad 0 (.s 25))⟩,
      ⟨(some 27), some undefA, none, true, .ld (.ld 1 false (.s 26))⟩,
      ⟨(some 28), some undefA, none, true, .pu (.bin .sub (.s 22) (.s 27))⟩,
      ⟨(some 29), some undefA, none, true, .pu (.mov (.s 1))⟩,
      ⟨(some 30), some undefA, none, true, .pu (.mov (.s 6))⟩,
      ⟨(some 31), some undefA, none, true, .pu (.idx 2 (.s 29) (.s 30))⟩,
      ⟨(some 32), some undefA, none, true, .pu (.fad 1 (.s 31))⟩,
      ⟨(some 33), some undefA, none, true, .ld (.ld 1 false (.s 32))⟩,
      ⟨(some 34), some undefA, none, false, .call 61 [(.s 28), (.s 33)]⟩,
      ⟨(some 35), some undefA, none, false, .ha (.blds 2 1 [.int .i64 0, .int .i64 0] [(0, 2, (.s 34))])⟩,
      ⟨(some 36), some undefA, none, false, .ha (.app 2 (.s 15) (.s 35))⟩,
      ⟨(some 5), some undefA, none, false, .pu (.mov (.s 36))⟩])))
   (.ops [⟨(some 37), some undefA, none, false, .pu (.bin .add (.s 10) (.c (.int .i64 1)))⟩,
     ⟨(some 10), some undefA, none, false, .pu (.mov (.s 37))⟩])))))))
 (.seq (.ops [⟨(some 38), some undefA, none, false, .pu (.mov (.s 5))⟩,
   ⟨(some 4), some undefA, none, false, .pu (.mov (.s 38))⟩])
 (.ret))))⟩
theorem t75 : trF Try.prog [] [] Try.f75 = some m75 := by kernel_rfl
/-- selion/selionref03.gcd [loop [0, 1]] -/
def m80 : MFun := ⟨14, [], [.mov (.s 4)],
 .seq (.ops [⟨(some 4), some undefA, none, false, .pu (.mov (.c (.int .i64 0)))⟩])
 (.seq (.block 0 (.loop (.seq (.seq (.ops [⟨(some 6), some undefA, none, false, .pu (.mov (.s 1))⟩,
     ⟨(some 7), some undefA, none, false, .pu (.bin .neq (.s 6) (.c (.int .i64 0)))⟩])
   (.cond (.s 7) (.skip)
   (.exit 0)))
   (.block 1 (.seq (.ops [⟨(some 8), some undefA, none, false, .pu (.mov (.s 0))⟩,
      ⟨(some 9), some undefA, none, false, .pu (.mov (.s 1))⟩,
      ⟨(some 10), some undefA, none, false, .pu (.bin .rem (.s 8) (.s 9))⟩,
      ⟨(some 5), some undefA, none, false, .pu (.mov (.s 10))⟩])
    (.seq (.ops [⟨(some 11), some undefA, none, false, .pu (.mov (.s 1))⟩,
      ⟨(some 0), some undefA, none, false, .pu (.mov (.s 11))⟩])
    (.ops [⟨(some 12), some undefA, none, false, .pu (.mov (.s 5))⟩,
      ⟨(some 1), some undefA, none, false, .pu (.mov (.s 12))⟩])))))))
 (.seq (.ops [⟨(some 13), some undefA, none, false, .pu (.mov (.s 0))⟩,
   ⟨(some 4), some undefA, none, false, .pu (.mov (.s 13))⟩])
 (.ret)))⟩
theorem t80 : trF Try.prog [] [] Try.f80 = some m80 := by kernel_rfl
end Go.Proofs.Ytdcdjhhjlpegjaa

namespace Go.Eng
open Go
section
variable {P : Program} {α : Type}
theorem AOps_ex : ∀ (l : List MOp) {Q : α → List AV → AHeap → Prop} {S : List AV} {H : AHeap}, AOps P l (fun S H => ∃ x, Q x S H) S H → ∃ x, AOps P l (Q x) S H := by
  intro l
  induction l with
  | nil => intro Q S H h; exact h
  | cons o r ih =>
    intro Q S H h
    simp only [AOps] at h ⊢
    split at h
    · exact h.elim
    · rename_i t _
      cases t with
      | true =>
        simp only [if_true] at h ⊢
        obtain ⟨v, H1, h1, h2, h3⟩ := h
        obtain ⟨x, hx⟩ := ih h3
        exact ⟨x, v, H1, h1, h2, hx⟩
      | false =>
        simp only [Bool.false_eq_true, if_false] at h ⊢
        exact ih h
/-- A loop with a rank. -/
def LoopR (P : Program) (a : MCode) (Q : Post) (k : Nat) (S : List AV) (H : AHeap) : Prop :=
  ∃ (J : Nat → List AV → AHeap → Prop), J k S H ∧ ∀ k S H, J k S H → AW P a (MX.then (fun S' H' => ∃ k' S'', k' < k ∧ Forget S' S'' ∧ J k' S'' H') Q) S H
/-- One round, and then loops of a smaller rank. -/
theorem LoopR_step {a : MCode} {Q : Post} {k : Nat} {S : List AV} {H : AHeap} (h : AW P a (MX.then (fun S' H' => ∃ k' S'', k' < k ∧ Forget S' S'' ∧ LoopR P a Q k' S'' H') Q) S H) : LoopR P a Q k S H := by
  refine ⟨fun j S1 H1 => (j = k ∧ S1 = S ∧ H1 = H) ∨ (j < k ∧ LoopR P a Q j S1 H1), .inl ⟨rfl, rfl, rfl⟩, ?_⟩
  rintro j S1 H1 (⟨rfl, rfl, rfl⟩ | ⟨hj, J, h1, h2⟩)
  · refine AW_mono (fun e S' H' h' => ?_) h
    cases e with
    | normal =>
      obtain ⟨k', S'', g1, g2, g3⟩ := h'
      exact ⟨k', S'', g1, g2, .inr ⟨g1, g3⟩⟩
    | exit id => exact h'
    | ret => exact h'
  · refine AW_mono (fun e S' H' h' => ?_) (h2 j S1 H1 h1)
    cases e with
    | normal =>
      obtain ⟨k', S'', g1, g2, g3⟩ := h'
      exact ⟨k', S'', g1, g2, .inr ⟨by omega, J, g3, h2⟩⟩
    | exit id => exact h'
    | ret => exact h'
theorem inScope_mono {g : Nat} {K K' : List AV → AHeap → Prop} {Q : Post} {e : MX} {S : List AV} {H : AHeap} (hk : ∀ S H, K S H → K' S H) (h : MX.inScope g K Q e S H) : MX.inScope g K' Q e S H := by
  cases e with
  | normal => exact h
  | exit id =>
    simp only [MX.inScope] at h ⊢
    split at h
    · rename_i hi; rw [if_pos hi]; exact hk _ _ h
    · rename_i hi; rw [if_neg hi]; exact h
  | ret => exact h
theorem inScope_ex {g : Nat} {K : α → List AV → AHeap → Prop} {Q : α → Post} {e : MX} {S : List AV} {H : AHeap} (h : MX.inScope g (fun S H => ∃ x, K x S H) (fun e S H => ∃ x, Q x e S H) e S H) : ∃ x, MX.inScope g (K x) (Q x) e S H := by
  cases e with
  | normal => exact h
  | exit id =>
    simp only [MX.inScope] at h ⊢
    split at h
    · rename_i hi
      obtain ⟨x, hx⟩ := h
      exact ⟨x, by rw [if_pos hi]; exact hx⟩
    · rename_i hi
      split at h
      · exact h.elim
      · rename_i hj
        obtain ⟨x, hx⟩ := h
        exact ⟨x, by rw [if_neg hi, if_neg hj]; exact hx⟩
  | ret => exact h
/-- What stands behind a label, with a rank. -/
def ScopeR (P : Program) (g : Nat) (r : MCode) (Q : Post) (k : Nat) (S : List AV) (H : AHeap) : Prop :=
  ∃ (J : Nat → List AV → AHeap → Prop), J k S H ∧ ∀ k S H, J k S H → AW P r (MX.inScope g (fun S' H' => ∃ k' S'', k' < k ∧ Forget S' S'' ∧ J k' S'' H') Q) S H
theorem ScopeR_step {g : Nat} {r : MCode} {Q : Post} {k : Nat} {S : List AV} {H : AHeap} (h : AW P r (MX.inScope g (fun S' H' => ∃ k' S'', k' < k ∧ Forget S' S'' ∧ ScopeR P g r Q k' S'' H') Q) S H) : ScopeR P g r Q k S H := by
  refine ⟨fun j S1 H1 => (j = k ∧ S1 = S ∧ H1 = H) ∨ (j < k ∧ ScopeR P g r Q j S1 H1), .inl ⟨rfl, rfl, rfl⟩, ?_⟩
  rintro j S1 H1 (⟨rfl, rfl, rfl⟩ | ⟨hj, J, h1, h2⟩)
  · refine AW_mono (fun e S' H' h' => inScope_mono (fun S' H' h3 => ?_) h') h
    obtain ⟨k', S'', g1, g2, g3⟩ := h3
    exact ⟨k', S'', g1, g2, .inr ⟨g1, g3⟩⟩
  · refine AW_mono (fun e S' H' h' => inScope_mono (fun S' H' h3 => ?_) h') (h2 j S1 H1 h1)
    obtain ⟨k', S'', g1, g2, g3⟩ := h3
    exact ⟨k', S'', g1, g2, .inr ⟨by omega, J, g3, h2⟩⟩
/-- No region of two orders. -/
def noAlt : MCode → Bool
  | .ops2 _ _ => false
  | .seq a b => noAlt a && noAlt b
  | .cond _ a b => noAlt a && noAlt b
  | .block _ a => noAlt a
  | .loop a => noAlt a
  | .cut a => noAlt a
  | .scope _ a b => noAlt a && noAlt b
  | _ => true
theorem AW_ex : ∀ {m : MCode}, noAlt m = true → ∀ {Q : α → Post} {S : List AV} {H : AHeap}, AW P m (fun e S H => ∃ x, Q x e S H) S H → ∃ x, AW P m (Q x) S H := by
  intro m
  induction m with
  | skip => intro _ Q S H h; exact h
  | ops l => intro _ Q S H h; exact AOps_ex l h
  | ops2 l l' => intro hno; cases hno
  | seq a b iha ihb =>
    intro hno Q S H h
    simp only [noAlt, Bool.and_eq_true] at hno
    refine iha hno.1 (Q := fun x => MX.then (AW P b (Q x)) (Q x)) (AW_mono (fun e S H h => ?_) h)
    cases e with
    | normal => exact ihb hno.2 h
    | exit id => exact h
    | ret => exact h
  | cond c a b iha ihb =>
    intro hno Q S H h
    simp only [noAlt, Bool.and_eq_true] at hno
    simp only [AW] at h ⊢
    split at h
    · split at h
      · rename_i ht
        obtain ⟨x, hx⟩ := iha hno.1 h
        exact ⟨x, by rw [if_pos ht]; exact hx⟩
      · rename_i ht
        obtain ⟨x, hx⟩ := ihb hno.2 h
        exact ⟨x, by rw [if_neg ht]; exact hx⟩
    · exact h.elim
  | block id a iha =>
    intro hno Q S H h
    simp only [noAlt] at hno
    refine iha hno (Q := fun x => MX.inBlock id (Q x)) (AW_mono (fun e S H h => ?_) h)
    cases e with
    | normal => exact h
    | exit id' =>
      simp only [MX.inBlock] at h ⊢
      split at h
      · rename_i hi
        obtain ⟨x, hx⟩ := h
        exact ⟨x, by rw [if_pos hi]; exact hx⟩
      · rename_i hi
        obtain ⟨x, hx⟩ := h
        exact ⟨x, by rw [if_neg hi]; exact hx⟩
    | ret => exact h
  | loop a iha =>
    intro hno Q S H h
    simp only [noAlt] at hno
    obtain ⟨J, ⟨k0, S0, hf, hJ⟩, hstep⟩ := h
    have key : ∀ k S H, J k S H → ∃ x, LoopR P a (Q x) k S H := by
      intro k
      induction k using Nat.strongRecOn with
      | _ k ih =>
        intro S H hj
        have h1 := hstep k S H hj
        have h2 : ∃ x, AW P a (MX.then (fun S' H' => ∃ k' S'', k' < k ∧ Forget S' S'' ∧ LoopR P a (Q x) k' S'' H') (Q x)) S H := by
          refine iha hno (Q := fun x => MX.then (fun S' H' => ∃ k' S'', k' < k ∧ Forget S' S'' ∧ LoopR P a (Q x) k' S'' H') (Q x)) (AW_mono (fun e S' H' h' => ?_) h1)
          cases e with
          | normal =>
            obtain ⟨k', S'', g1, g2, g3⟩ := h'
            obtain ⟨x, hx⟩ := ih k' g1 S'' H' g3
            exact ⟨x, k', S'', g1, g2, hx⟩
          | exit id => exact h'
          | ret => exact h'
        obtain ⟨x, hx⟩ := h2
        exact ⟨x, LoopR_step hx⟩
    obtain ⟨x, J', h1, h2⟩ := key k0 S0 H hJ
    exact ⟨x, J', ⟨k0, S0, hf, h1⟩, h2⟩
  | exit id => intro _ Q S H h; exact h
  | cut a iha =>
    intro hno Q S H h
    simp only [noAlt] at hno
    obtain ⟨S0, h0, h1⟩ := h
    obtain ⟨x, hx⟩ := iha hno h1
    exact ⟨x, S0, h0, hx⟩
  | label l => intro _ Q S H h; exact h
  | scope g a r iha ihr =>
    intro hno Q S H h
    simp only [noAlt, Bool.and_eq_true] at hno
    obtain ⟨J, h0, hstep⟩ := h
    have key : ∀ k S H, J k S H → ∃ x, ScopeR P g r (Q x) k S H := by
      intro k
      induction k using Nat.strongRecOn with
      | _ k ih =>
        intro S H hj
        have h1 := hstep k S H hj
        have h2 : ∃ x, AW P r (MX.inScope g (fun S' H' => ∃ k' S'', k' < k ∧ Forget S' S'' ∧ ScopeR P g r (Q x) k' S'' H') (Q x)) S H := by
          refine ihr hno.2 (Q := fun x => MX.inScope g (fun S' H' => ∃ k' S'', k' < k ∧ Forget S' S'' ∧ ScopeR P g r (Q x) k' S'' H') (Q x)) (AW_mono (fun e S' H' h' => ?_) h1)
          refine inScope_ex (inScope_mono (fun S' H' h3 => ?_) h')
          obtain ⟨k', S'', g1, g2, g3⟩ := h3
          obtain ⟨x, hx⟩ := ih k' g1 S'' H' g3
          exact ⟨x, k', S'', g1, g2, hx⟩
        obtain ⟨x, hx⟩ := h2
        exact ⟨x, ScopeR_step hx⟩
    have h3 : ∃ x, AW P a (MX.inScope g (fun S' H' => ∃ k S'', Forget S' S'' ∧ ScopeR P g r (Q x) k S'' H') (Q x)) S H := by
      refine iha hno.1 (Q := fun x => MX.inScope g (fun S' H' => ∃ k S'', Forget S' S'' ∧ ScopeR P g r (Q x) k S'' H') (Q x)) (AW_mono (fun e S' H' h' => ?_) h0)
      refine inScope_ex (inScope_mono (fun S' H' h3 => ?_) h')
      obtain ⟨k, S'', g2, g3⟩ := h3
      obtain ⟨x, hx⟩ := key k S'' H' g3
      exact ⟨x, k, S'', g2, hx⟩
    obtain ⟨x, hx⟩ := h3
    refine ⟨x, fun k S H => ScopeR P g r (Q x) k S H, hx, ?_⟩
    rintro k S H ⟨J', j1, j2⟩
    refine AW_mono (fun e S' H' h' => inScope_mono (fun S' H' h3 => ?_) h') (j2 k S H j1)
    obtain ⟨k', S'', g1, g2, g3⟩ := h3
    exact ⟨k', S'', g1, g2, J', g3, j2⟩
  | ret => intro _ Q S H h; exact h
  | fail => intro _ Q S H h; exact h.elim
theorem AW_false : ∀ {m : MCode}, noAlt m = true → ∀ {S : List AV} {H : AHeap}, ¬ AW P m (fun _ _ _ => False) S H := by
  intro m hno S H h
  have h2 : AW P m (fun e S H => ∃ x : Empty, (fun (_ : Empty) (_ : MX) (_ : List AV) (_ : AHeap) => True) x e S H) S H := AW_mono (fun _ _ _ h => h.elim) h
  obtain ⟨x, _⟩ := AW_ex hno h2
  exact x.elim
/-- The end of a function, where what it hands back need not be known ahead. -/
def FinR (res : List PAct) (H : AHeap) (R : AV → AHeap → Prop) : Post := fun e S H1 => ∃ x : AV × AHeap, Fin res H x.1 x.2 e S H1 ∧ R x.1 x.2
theorem FinR_ret (res : List PAct) (H : AHeap) (R : AV → AHeap → Prop) (S : List AV) (H1 : AHeap) : FinR res H R .ret S H1 = on (resV res S) (fun v1 => ∃ v H', GC H v1 H1 v H' ∧ R v H') ⟨⟩ := by
  apply propext
  unfold FinR
  simp only [Fin_ret]
  unfold on
  cases resV res S with
  | none => simp
  | some v1 =>
    constructor
    · rintro ⟨x, h1, h2⟩; exact ⟨_, _, h1, h2⟩
    · rintro ⟨v, H', h1, h2⟩; exact ⟨(v, H'), h1, h2⟩
/-- A function's contract, where the result is told by what it is like. -/
theorem acallsR (hm : P.follows .mixedOrders = true) {f : FuncId} {fn : Func} (hf : P.funcs[f]? = some fn) (hn : (fn.name == "runtime.NumGoroutine") = false) {bx cs : List Nat} {m : MFun} (ht : trF P bx cs fn = some m) {args : List AV} {H : AHeap} (R : AV → AHeap → Prop) (n : Nat)
    (hl : args.length = n) (hb : m.bx.all (fun d => decide (n ≤ d)) = true) (hA : AW P m.body (FinR m.res H R) (args ++ List.replicate (m.nt - n) .junk) H) (hno : noAlt m.body = true := by rfl) : ∃ v H', ACalls P f args H v H' ∧ R v H' := by
  obtain ⟨x, hx⟩ := AW_ex hno (Q := fun (x : AV × AHeap) e S H1 => Fin m.res H x.1 x.2 e S H1 ∧ R x.1 x.2) hA
  have hR : R x.1 x.2 := by
    refine Classical.byContradiction (fun hn => ?_)
    have : AW P m.body (fun _ _ _ => False) (args ++ List.replicate (m.nt - n) .junk) H := AW_mono (fun _ _ _ h => hn h.2) hx
    exact AW_false hno this
  exact ⟨x.1, x.2, acalls hm hf hn ht n hl hb (AW_mono (fun _ _ _ h => h.1) hx), hR⟩
end
end Go.Eng

namespace Go.Proofs.Ytdcdjhhjlpegjaa
open Go Go.Eng
section
variable {α : Type} {es : Nat} {e : α → List AV} {A H : AHeap} {v : AV} {xs : List α}
end
/-- What is appended to an empty list that has just been made. -/
theorem app_new {α : Type} {es : Nat} {e : α → List AV} {A : AHeap} {y : AV} {ys : List α} (hy : Ls es e A y ys) (hl : ys.length ≤ lim) :
    ∃ v' n H2, appA es (A ++ [.cells true []]) (.sl es A.length 0 0 true) y = some (v', H2) ∧ OL es e A H2 n v' ys := by
  have hc := (hy.mono (pre_app A [.cells true []])).hc
  by_cases h0 : ys.length = 0
  · have : ys = [] := List.eq_nil_of_length_eq_zero h0
    subst this
    refine ⟨.sl es A.length 0 0 true, A.length, A ++ [.cells true []], ?_, hy.he, pre_app _ _, Nat.le_refl _, by simp, true, rfl⟩
    unfold appA
    rw [hc]
    simp
  · refine ⟨.sl es (A ++ [AObj.cells true []]).length 0 ys.length false, (A ++ [AObj.cells true []]).length, A ++ [AObj.cells true []] ++ [.cells true (ys.flatMap e)], ?_, hy.he, (pre_app A _).trans (pre_app _ _), by simp, by simp, false, rfl⟩
    unfold appA
    rw [hc]
    simp [h0, hl]
theorem Ls_nn {α : Type} {es : Nat} {e : α → List AV} {A : AHeap} {v : AV} {xs : List α} (h : Ls es e A v xs) (h0 : 0 < xs.length) : v ≠ .nilS := by
  rintro rfl
  have := h.hc
  simp [slCells] at this
  omega
theorem set_same {α : Type} {l : List α} {n : Nat} {x : α} (h : l[n]? = some x) : l.set n x = l := by
  have hlt := (List.getElem?_eq_some_iff.1 h).1
  have hx := (List.getElem?_eq_some_iff.1 h).2
  rw [← hx]
  exact List.set_getElem_self hlt
end Go.Proofs.Ytdcdjhhjlpegjaa

namespace Go.Proofs.Ytdcdjhhjlpegjaa
open Go Go.Eng
theorem c_wi (n lo hi : Int) (A : AHeap) : ACalls Try.prog 60 [I n, I lo, I hi] A (B (decide (lo ≤ n ∧ n ≤ hi))) A := by
  refine acalls hmix Try.func60 (by kernel_rfl) t60 3 rfl (by decide) ?_
  by_cases h : lo ≤ n
  · dsimp only [m60]
    simp (maxSteps := 4000000) -implicitDefEqProofs -dsimp (disch := omega) only [↓AW_ops, ↓AW_seq, ↓AW_ret, ↓AOps_nil, ↓AOps_pu, ↓AOps_guard, on_some, guardB_tt, ↓then_normal, ↓Fin_ret, pval, rd_S, rd_C, put_S, resV, resL, eq_self, List.replicate_succ, List.replicate_zero, List.set_cons_zero, List.set_cons_succ, List.getElem?_cons_zero, List.getElem?_cons_succ, Option.getD_some, Nat.reduceSub, List.cons_append, List.nil_append, bin_leq, bin_geq, if_true, decide_true, true_and, h]
    exact gc_same rfl
  · dsimp only [m60]
    simp (maxSteps := 4000000) -implicitDefEqProofs -dsimp (disch := omega) only [↓AW_ops, ↓AW_seq, ↓AW_ret, ↓AOps_nil, ↓AOps_pu, ↓AOps_guard, on_some, guardB_ft, skipS_some, ↓then_normal, ↓Fin_ret, pval, rd_S, rd_C, put_S, resV, resL, List.replicate_succ, List.replicate_zero, List.set_cons_zero, List.set_cons_succ, List.getElem?_cons_zero, List.getElem?_cons_succ, Option.getD_some, Nat.reduceSub, List.cons_append, List.nil_append, bin_geq, if_false, Bool.false_eq_true, decide_false, h]
    exact gc_same rfl
theorem take_sum {us : List Int} {k : Nat} {u : Int} (h : us[k]? = some u) : (us.take (k + 1)).sum = (us.take k).sum + u := by
  rw [List.take_add_one, h]
  simp
theorem sum_bd {K : Int} : ∀ {l : List Int}, (∀ x ∈ l, -K ≤ x ∧ x ≤ K) → -(K * l.length) ≤ l.sum ∧ l.sum ≤ K * l.length
  | [], _ => by simp
  | x :: l, h => by
    have ih := sum_bd (fun y hy => h y (List.mem_cons_of_mem x hy))
    have hx := h x (by simp)
    simp only [List.sum_cons, List.length_cons, Int.natCast_add, Int.cast_ofNat_Int, Int.mul_add, Int.mul_one]
    omega
theorem sum_bd0 {K : Int} : ∀ {l : List Int}, (∀ x ∈ l, 0 ≤ x ∧ x ≤ K) → 0 ≤ l.sum ∧ l.sum ≤ K * l.length
  | [], _ => by simp
  | x :: l, h => by
    have ih := sum_bd0 (fun y hy => h y (List.mem_cons_of_mem x hy))
    have hx := h x (by simp)
    simp only [List.sum_cons, List.length_cons, Int.natCast_add, Int.cast_ofNat_Int, Int.mul_add, Int.mul_one]
    omega
theorem sum_w {l : List Int} (hl : l.length ≤ 1000000) (h : ∀ x ∈ l, -1000000000000 ≤ x ∧ x ≤ 1000000000000) (i : Nat) : -1000000000000000000 ≤ (l.take i).sum ∧ (l.take i).sum ≤ 1000000000000000000 := by
  have := sum_bd (K := 1000000000000) (l := l.take i) (fun x hx => h x (List.mem_of_mem_take hx))
  have h2 : (l.take i).length ≤ 1000000 := by rw [List.length_take]; omega
  omega
theorem c_total {xs : List Int} {v : AV} {A : AHeap} (hx : L1 A v xs) (hl : xs.length ≤ 1000000) (hb : ∀ x ∈ xs, -1000000000000 ≤ x ∧ x ≤ 1000000000000) : ACalls Try.prog 54 [v] A (I xs.sum) A := by
  refine acalls hmix Try.func54 (by kernel_rfl) t54 1 rfl (by decide) ?_
  dsimp only [m54]
  simp (maxSteps := 4000000) -implicitDefEqProofs -dsimp (disch := omega) only [↓AW_ops, ↓AW_seq, ↓AW_block, ↓AOps_nil, ↓AOps_pu, on_some, ↓then_normal, pval, rd_S, rd_C, put_S, ↓AW_toLoop, List.replicate_succ, List.replicate_zero, List.set_cons_zero, List.set_cons_succ, List.getElem?_cons_zero, List.getElem?_cons_succ, Option.getD_some, Nat.reduceSub, List.cons_append, List.nil_append, hx.len]
  refine LoopK.by 17 (fun i : Nat => i ≤ xs.length) (fun i => [(3, I (xs.take i).sum), (6, v), (7, I xs.length), (8, I i)]) (fun _ => A) (fun i => xs.length - i) 0 (by omega) rfl (by simp [Has, rd_s]) rfl ?_
  intro i hi
  by_cases hlt : i < xs.length
  · obtain ⟨z, hz⟩ : ∃ z, xs[i]? = some z := ⟨_, List.getElem?_eq_getElem hlt⟩
    have hlt' : (i : Int) < xs.length := by omega
    have h1 := sum_w hl hb i
    have h2 := hb z (List.mem_of_getElem? hz)
    simp (maxSteps := 4000000) -implicitDefEqProofs -dsimp (disch := omega) only [↓AW_skip, ↓AW_ops, ↓AW_seq, ↓AW_cond, ↓AW_block, ↓AOps_nil, ↓AOps_pu, ↓AOps_ld, on_some, condB_t, ↓then_normal, ↓inBlock_normal, pval, lval, rd_S, rd_C, put_S, partA, eq_self, mk, List.foldl_cons, List.foldl_nil, List.replicate_succ, List.replicate_zero, List.set_cons_zero, List.set_cons_succ, List.getElem?_cons_zero, List.getElem?_cons_succ, List.drop_zero, List.take_succ_cons, List.take_nil, Option.getD_some, List.length_cons, List.length_nil, Nat.reduceAdd, Nat.reduceLeDiff, Nat.zero_add, bin_add, bin_lss, w64, if_true, if_false, Bool.false_eq_true, decide_true, Go.Eng.e1, true_and, hlt', hx.idx hlt, hx.ld0 hz 1 false (by decide)]
    exact ⟨i + 1, hlt, by simp [Has, rd_s, take_sum hz], by omega⟩
  · have hlt' : ¬ ((i : Int) < xs.length) := by omega
    simp (maxSteps := 4000000) -implicitDefEqProofs -dsimp (disch := omega) only [↓AW_ops, ↓AW_seq, ↓AW_cond, ↓AW_exit, ↓AW_ret, ↓AOps_nil, ↓AOps_pu, on_some, condB_f, ↓then_normal, ↓then_exit, ↓inBlock_exit, ↓Fin_ret, pval, rd_S, put_S, resV, resL, eq_self, mk, List.foldl_cons, List.foldl_nil, List.replicate_succ, List.replicate_zero, List.set_cons_zero, List.set_cons_succ, List.getElem?_cons_zero, List.getElem?_cons_succ, Option.getD_some, bin_lss, if_true, decide_false, hlt']
    rw [List.take_of_length_le (by omega)]
    exact gc_same rfl
theorem c_Sum {xs : List Int} {v : AV} {A : AHeap} (hx : L1 A v xs) (hl : xs.length ≤ 1000000) (hb : ∀ x ∈ xs, -1000000000000 ≤ x ∧ x ≤ 1000000000000) : ACalls Try.prog 27 [v] A (I xs.sum) A := by
  refine acalls hmix Try.func27 (by kernel_rfl) t27 1 rfl (by decide) ?_
  dsimp only [m27]
  simp (maxSteps := 4000000) -implicitDefEqProofs -dsimp (disch := omega) only [↓AW_ops, ↓AW_seq, ↓AW_block, ↓AOps_nil, ↓AOps_pu, on_some, ↓then_normal, pval, rd_C, put_S, ↓AW_toLoop, List.replicate_succ, List.replicate_zero, List.set_cons_zero, List.set_cons_succ, Nat.reduceSub, List.cons_append, List.nil_append]
  refine LoopK.by 18 (fun i : Nat => i ≤ xs.length) (fun i => [(0, v), (3, I (xs.take i).sum), (4, I i)]) (fun _ => A) (fun i => xs.length - i) 0 (by omega) rfl (by simp [Has, rd_s]) rfl ?_
  intro i hi
  by_cases hlt : i < xs.length
  · obtain ⟨z, hz⟩ : ∃ z, xs[i]? = some z := ⟨_, List.getElem?_eq_getElem hlt⟩
    have hlt' : (i : Int) < xs.length := by omega
    have h1 := sum_w hl hb i
    have h2 := hb z (List.mem_of_getElem? hz)
    simp (maxSteps := 4000000) -implicitDefEqProofs -dsimp (disch := omega) only [↓AW_skip, ↓AW_ops, ↓AW_seq, ↓AW_cond, ↓AW_block, ↓AOps_nil, ↓AOps_pu, ↓AOps_ld, on_some, condB_t, ↓then_normal, ↓inBlock_normal, pval, lval, rd_S, rd_C, put_S, partA, eq_self, mk, List.foldl_cons, List.foldl_nil, List.replicate_succ, List.replicate_zero, List.set_cons_zero, List.set_cons_succ, List.getElem?_cons_zero, List.getElem?_cons_succ, List.drop_zero, List.take_succ_cons, List.take_nil, Option.getD_some, List.length_cons, List.length_nil, Nat.reduceAdd, Nat.reduceLeDiff, Nat.zero_add, bin_add, bin_lss, w64, if_true, if_false, Bool.false_eq_true, decide_true, Go.Eng.e1, true_and, hlt', hx.len, hx.idx hlt, hx.ld0 hz 1 false (by decide)]
    exact ⟨i + 1, hlt, by simp [Has, rd_s, take_sum hz], by omega⟩
  · have hlt' : ¬ ((i : Int) < xs.length) := by omega
    simp (maxSteps := 4000000) -implicitDefEqProofs -dsimp (disch := omega) only [↓AW_ops, ↓AW_seq, ↓AW_cond, ↓AW_exit, ↓AW_ret, ↓AOps_nil, ↓AOps_pu, on_some, condB_f, ↓then_normal, ↓then_exit, ↓inBlock_exit, ↓Fin_ret, pval, rd_S, put_S, resV, resL, eq_self, mk, List.foldl_cons, List.foldl_nil, List.replicate_succ, List.replicate_zero, List.set_cons_zero, List.set_cons_succ, List.getElem?_cons_zero, List.getElem?_cons_succ, Option.getD_some, bin_lss, if_true, decide_false, hlt', hx.len]
    rw [List.take_of_length_le (by omega)]
    exact gc_same rfl
/-- A claim. -/
def cK (c : Int) : Bool := decide (0 ≤ c ∧ c ≤ 1000)
/-- The claims of a case. -/
def okC (cs : List Int) : Bool := decide ((1 : Int) ≤ cs.length ∧ (cs.length : Int) ≤ 8) && cs.all cK
/-- The first error of a case. -/
def vE (cs : List Int) (e : Int) : Int := if okC cs = true ∧ 0 ≤ e ∧ e ≤ cs.sum then 0 else 1
structure OK (cs : List Int) : Prop where
  l1 : 1 ≤ cs.length
  l8 : cs.length ≤ 8
  c : ∀ x ∈ cs, 0 ≤ x ∧ x ≤ 1000
theorem okC_iff {cs : List Int} : okC cs = true ↔ OK cs := by
  unfold okC
  rw [Bool.and_eq_true, decide_eq_true_iff, List.all_eq_true]
  constructor
  · rintro ⟨h1, h2⟩
    exact ⟨by omega, by omega, fun x hx => by simpa [cK] using h2 x hx⟩
  · rintro ⟨h1, h2, h3⟩
    exact ⟨by omega, fun x hx => by simpa [cK] using h3 x hx⟩
theorem OK.bd {cs : List Int} (h : OK cs) : ∀ x ∈ cs, -1000000000000 ≤ x ∧ x ≤ 1000000000000 := fun x hx => by have := h.c x hx; omega
theorem OK.sum {cs : List Int} (h : OK cs) : 0 ≤ cs.sum ∧ cs.sum ≤ 8000 := by
  have := sum_bd0 h.c
  have := h.l8
  omega
/-- A case. -/
structure CE (cs : List Int) (e : Int) : Prop where
  ok : OK cs
  e0 : 0 ≤ e
  e1 : e ≤ cs.sum
theorem vE_0 {cs : List Int} {e : Int} : vE cs e = 0 ↔ CE cs e := by
  unfold vE
  constructor
  · intro h
    split at h
    · rename_i g; exact ⟨okC_iff.1 g.1, g.2.1, g.2.2⟩
    · cases h
  · rintro ⟨h1, h2, h3⟩
    rw [if_pos ⟨okC_iff.2 h1, h2, h3⟩]
section
variable {cs : List Int} {v : AV} {A : AHeap}
theorem s78 (n : Int) (A : AHeap) : ACalls Try.prog 78 [I n] A (B (!cK n)) A := by
  refine acalls hmix Try.func78 (by kernel_rfl) t78 1 rfl (by decide) ?_
  by_cases h : n < 0
  · have : cK n = false := by simp [cK]; omega
    dsimp only [m78]
    simp (maxSteps := 4000000) -implicitDefEqProofs -dsimp (disch := omega) only [↓AW_ops, ↓AW_seq, ↓AW_ret, ↓AOps_nil, ↓AOps_pu, ↓AOps_guard, on_some, guardB_tf, skipS_some, ↓then_normal, ↓Fin_ret, pval, rd_S, rd_C, put_S, resV, resL, eq_self, List.replicate_succ, List.replicate_zero, List.set_cons_zero, List.set_cons_succ, List.getElem?_cons_zero, List.getElem?_cons_succ, Option.getD_some, Nat.reduceSub, List.cons_append, List.nil_append, bin_lss, if_true, decide_true, h]
    exact gc_same (by rw [this]; rfl)
  · by_cases h2 : 1000 < n
    · have : cK n = false := by simp [cK]; omega
      dsimp only [m78]
      simp (maxSteps := 4000000) -implicitDefEqProofs -dsimp (disch := omega) only [↓AW_ops, ↓AW_seq, ↓AW_ret, ↓AOps_nil, ↓AOps_pu, ↓AOps_guard, on_some, guardB_ff, ↓then_normal, ↓Fin_ret, pval, rd_S, rd_C, put_S, resV, resL, List.replicate_succ, List.replicate_zero, List.set_cons_zero, List.set_cons_succ, List.getElem?_cons_zero, List.getElem?_cons_succ, Option.getD_some, Nat.reduceSub, List.cons_append, List.nil_append, bin_lss, bin_gtr, if_false, Bool.false_eq_true, decide_true, decide_false, h, h2]
      exact gc_same (by rw [this]; rfl)
    · have : cK n = true := by simp [cK]; omega
      dsimp only [m78]
      simp (maxSteps := 4000000) -implicitDefEqProofs -dsimp (disch := omega) only [↓AW_ops, ↓AW_seq, ↓AW_ret, ↓AOps_nil, ↓AOps_pu, ↓AOps_guard, on_some, guardB_ff, ↓then_normal, ↓Fin_ret, pval, rd_S, rd_C, put_S, resV, resL, List.replicate_succ, List.replicate_zero, List.set_cons_zero, List.set_cons_succ, List.getElem?_cons_zero, List.getElem?_cons_succ, Option.getD_some, Nat.reduceSub, List.cons_append, List.nil_append, bin_lss, bin_gtr, if_false, Bool.false_eq_true, decide_false, h, h2]
      exact gc_same (by rw [this]; rfl)
theorem any_not {g : Int → Bool} (xs : List Int) : (!(xs.any (fun y => !g y))) = xs.all g := by
  induction xs with
  | nil => rfl
  | cons x xs ih => rw [List.any_cons, List.all_cons, ← ih, Bool.not_or, Bool.not_not]
theorem s53 (hx : L1 A v cs) (hl : cs.length ≤ 1000000) : ACalls Try.prog 53 [v] A (B (okC cs)) A := by
  refine acalls hmix Try.func53 (by kernel_rfl) t53 1 rfl (by decide) ?_
  by_cases h1 : (1 : Int) ≤ cs.length
  · by_cases h8 : (cs.length : Int) ≤ 8
    · dsimp only [m53]
      simp (maxSteps := 4000000) -implicitDefEqProofs -dsimp (disch := omega) only [↓AW_ops, ↓AW_seq, ↓AOps_nil, ↓AOps_pu, ↓AOps_call, ↓AOps_guard, on_some, guardB_tt, ↓then_normal, pval, rd_S, rd_C, put_S, eq_self, List.replicate_succ, List.replicate_zero, List.set_cons_zero, List.set_cons_succ, List.getElem?_cons_zero, List.getElem?_cons_succ, Option.getD_some, map_c, map_n, Nat.reduceSub, List.cons_append, List.nil_append, bin_leq, bin_geq, if_true, decide_true, hx.len, h1, h8]
      refine CallK.of (c_ContainsFunc hx hl 78 [] (fun c => !cK c) (fun x _ => s78 x A)) ?_
      simp (maxSteps := 4000000) -implicitDefEqProofs -dsimp (disch := omega) only [↓AW_ret, ↓AOps_nil, ↓AOps_pu, ↓AOps_guard, on_some, extK_same, guardB_tt, ↓then_normal, ↓Fin_ret, pval, rd_S, rd_C, put_S, resV, resL, eq_self, List.replicate_succ, List.replicate_zero, List.set_cons_zero, List.set_cons_succ, List.getElem?_cons_zero, List.getElem?_cons_succ, Option.getD_some, Nat.reduceSub, List.cons_append, List.nil_append, if_true]
      refine gc_same ?_
      unfold okC
      rw [← any_not (g := cK)]
      simp [h1, h8]
    · dsimp only [m53]
      simp (maxSteps := 4000000) -implicitDefEqProofs -dsimp (disch := omega) only [↓AW_ops, ↓AW_seq, ↓AW_ret, ↓AOps_nil, ↓AOps_pu, ↓AOps_guard, on_some, guardB_tt, guardB_ft, skipS_some, ↓then_normal, ↓Fin_ret, pval, rd_S, rd_C, put_S, resV, resL, eq_self, List.replicate_succ, List.replicate_zero, List.set_cons_zero, List.set_cons_succ, List.getElem?_cons_zero, List.getElem?_cons_succ, Option.getD_some, Nat.reduceSub, List.cons_append, List.nil_append, bin_leq, bin_geq, if_true, if_false, Bool.false_eq_true, decide_true, decide_false, hx.len, h1, h8]
      exact gc_same (by unfold okC; simp [h1, h8])
  · dsimp only [m53]
    simp (maxSteps := 4000000) -implicitDefEqProofs -dsimp (disch := omega) only [↓AW_ops, ↓AW_seq, ↓AW_ret, ↓AOps_nil, ↓AOps_pu, ↓AOps_guard, on_some, guardB_ft, skipS_some, ↓then_normal, ↓Fin_ret, pval, rd_S, rd_C, put_S, resV, resL, List.replicate_succ, List.replicate_zero, List.set_cons_zero, List.set_cons_succ, List.getElem?_cons_zero, List.getElem?_cons_succ, Option.getD_some, Nat.reduceSub, List.cons_append, List.nil_append, bin_geq, if_false, Bool.false_eq_true, decide_false, hx.len, h1]
    exact gc_same (by unfold okC; simp [h1])
theorem s59 (hx : L1 A v cs) (hl : cs.length ≤ 1000000) : ACalls Try.prog 59 [v] A (B (okC cs)) A := by
  refine acalls hmix Try.func59 (by kernel_rfl) t59 1 rfl (by decide) ?_
  dsimp only [m59]
  simp (maxSteps := 4000000) -implicitDefEqProofs -dsimp (disch := omega) only [↓AW_ops, ↓AW_seq, ↓AOps_nil, ↓AOps_pu, ↓AOps_call, on_some, ↓then_normal, pval, rd_S, rd_C, put_S, List.replicate_succ, List.replicate_zero, List.set_cons_zero, List.set_cons_succ, List.getElem?_cons_zero, List.getElem?_cons_succ, Option.getD_some, map_c, map_n, Nat.reduceSub, List.cons_append, List.nil_append, hx.len]
  refine CallK.of (c_wi _ _ _ _) ?_
  by_cases h1 : (1 : Int) ≤ cs.length ∧ (cs.length : Int) ≤ 8
  · simp (maxSteps := 4000000) -implicitDefEqProofs -dsimp (disch := omega) only [↓AW_skip, ↓AW_ops, ↓AW_seq, ↓AW_cond, ↓AW_block, ↓AOps_nil, ↓AOps_pu, on_some, extK_same, condB_f, ↓then_normal, pval, rd_S, rd_C, put_S, ↓AW_toLoop, List.replicate_succ, List.replicate_zero, List.set_cons_zero, List.set_cons_succ, List.getElem?_cons_zero, List.getElem?_cons_succ, Option.getD_some, Nat.reduceSub, List.cons_append, List.nil_append, Bool.not_true, decide_true, and_true, h1]
    refine LoopK.by 20 (fun i : Nat => i ≤ cs.length ∧ (cs.take i).all cK = true) (fun i => [(0, v), (3, I i)]) (fun _ => A) (fun i => cs.length - i) 0 ⟨by omega, rfl⟩ rfl (by simp [Has, rd_s]) rfl ?_
    rintro i ⟨hi, he⟩
    by_cases hlt : i < cs.length
    · obtain ⟨z, hz⟩ : ∃ z, cs[i]? = some z := ⟨_, List.getElem?_eq_getElem hlt⟩
      have hlt' : (i : Int) < cs.length := by omega
      simp (maxSteps := 4000000) -implicitDefEqProofs -dsimp (disch := omega) only [↓AW_skip, ↓AW_ops, ↓AW_seq, ↓AW_cond, ↓AW_block, ↓AOps_nil, ↓AOps_pu, ↓AOps_ld, ↓AOps_call, on_some, condB_t, ↓then_normal, pval, lval, rd_S, rd_C, put_S, partA, eq_self, mk, List.foldl_cons, List.foldl_nil, List.replicate_succ, List.replicate_zero, List.set_cons_zero, List.set_cons_succ, List.getElem?_cons_zero, List.getElem?_cons_succ, List.drop_zero, List.take_succ_cons, List.take_nil, Option.getD_some, map_c, map_n, List.length_cons, List.length_nil, Nat.reduceLeDiff, Nat.zero_add, bin_lss, if_true, if_false, Bool.false_eq_true, decide_true, Go.Eng.e1, hlt', hx.len, hx.idx hlt, hx.ld0 hz 1 false (by decide)]
      refine CallK.of (c_wi _ _ _ _) ?_
      by_cases h2 : 0 ≤ z ∧ z ≤ 1000
      · simp (maxSteps := 4000000) -implicitDefEqProofs -dsimp (disch := omega) only [↓AW_skip, ↓AW_ops, ↓AW_cond, ↓AOps_nil, ↓AOps_pu, on_some, extK_same, condB_f, ↓then_normal, ↓inBlock_normal, pval, rd_S, rd_C, put_S, eq_self, mk, List.foldl_cons, List.foldl_nil, List.replicate_succ, List.replicate_zero, List.set_cons_zero, List.set_cons_succ, List.getElem?_cons_zero, List.getElem?_cons_succ, Option.getD_some, List.length_cons, List.length_nil, Nat.reduceAdd, Nat.zero_add, bin_add, w64, Bool.not_true, decide_true, true_and, and_true, h2]
        refine ⟨i + 1, ⟨hlt, ?_⟩, by simp [Has, rd_s], by omega⟩
        rw [List.take_add_one, hz, List.all_append, he]
        simp [cK, h2]
      · simp (maxSteps := 4000000) -implicitDefEqProofs -dsimp (disch := omega) only [↓AW_ops, ↓AW_seq, ↓AW_cond, ↓AW_ret, ↓AOps_nil, ↓AOps_pu, on_some, extK_same, condB_t, ↓then_normal, ↓then_ret, ↓inBlock_ret, ↓Fin_ret, pval, rd_S, rd_C, put_S, resV, resL, mk, List.foldl_cons, List.foldl_nil, List.replicate_succ, List.replicate_zero, List.set_cons_zero, List.set_cons_succ, List.getElem?_cons_zero, List.getElem?_cons_succ, Option.getD_some, Bool.not_false, decide_false, h2]
        refine gc_same ?_
        have : okC cs = false := by
          unfold okC
          have hf : cs.all cK = false := by
            rw [← Bool.not_eq_true, List.all_eq_true]
            intro hh
            have := hh z (List.mem_of_getElem? hz)
            simp [cK] at this
            omega
          rw [hf, Bool.and_false]
        rw [this]
    · have hlt' : ¬ ((i : Int) < cs.length) := by omega
      rw [List.take_of_length_le (by omega)] at he
      simp (maxSteps := 4000000) -implicitDefEqProofs -dsimp (disch := omega) only [↓AW_ops, ↓AW_seq, ↓AW_cond, ↓AW_exit, ↓AW_ret, ↓AOps_nil, ↓AOps_pu, on_some, condB_f, ↓then_normal, ↓then_exit, ↓inBlock_exit, ↓Fin_ret, pval, rd_S, rd_C, put_S, resV, resL, eq_self, mk, List.foldl_cons, List.foldl_nil, List.replicate_succ, List.replicate_zero, List.set_cons_zero, List.set_cons_succ, List.getElem?_cons_zero, List.getElem?_cons_succ, Option.getD_some, bin_lss, if_true, decide_false, hlt', hx.len]
      exact gc_same (by unfold okC; rw [he]; simp [h1])
  · simp (maxSteps := 4000000) -implicitDefEqProofs -dsimp (disch := omega) only [↓AW_ops, ↓AW_seq, ↓AW_cond, ↓AW_ret, ↓AOps_nil, ↓AOps_pu, on_some, extK_same, condB_t, ↓then_normal, ↓then_ret, ↓Fin_ret, pval, rd_S, rd_C, put_S, resV, resL, List.replicate_succ, List.replicate_zero, List.set_cons_zero, List.set_cons_succ, List.getElem?_cons_zero, List.getElem?_cons_succ, Option.getD_some, Nat.reduceSub, List.cons_append, List.nil_append, Bool.not_false, decide_false, h1]
    exact gc_same (by unfold okC; simp [h1])
theorem s16 (hx : L1 A v cs) (hl : cs.length ≤ 1000000) (e : Int) : ACalls Try.prog 16 [v, I e] A (I (vE cs e)) A := by
  refine acalls hmix Try.func16 (by kernel_rfl) t16 2 rfl (by decide) ?_
  dsimp only [m16]
  simp (maxSteps := 4000000) -implicitDefEqProofs -dsimp (disch := omega) only [↓AW_ops, ↓AW_seq, ↓AOps_nil, ↓AOps_pu, ↓AOps_call, on_some, ↓then_normal, pval, rd_S, rd_C, put_S, List.replicate_succ, List.replicate_zero, List.set_cons_zero, List.set_cons_succ, List.getElem?_cons_zero, List.getElem?_cons_succ, Option.getD_some, map_c, map_n, Nat.reduceSub, List.cons_append, List.nil_append]
  refine CallK.of (s53 hx hl) ?_
  by_cases h1 : okC cs = true
  · by_cases h2 : e < 0
    · simp (maxSteps := 4000000) -implicitDefEqProofs -dsimp (disch := omega) only [↓AW_ops, ↓AW_seq, ↓AW_cond, ↓AW_ret, ↓AOps_nil, ↓AOps_pu, ↓AOps_guard, on_some, extK_same, guardB_tf, guardB_ff, skipS_some, condB_t, ↓then_normal, ↓then_ret, ↓Fin_ret, pval, rd_S, rd_C, put_S, resV, resL, eq_self, List.replicate_succ, List.replicate_zero, List.set_cons_zero, List.set_cons_succ, List.getElem?_cons_zero, List.getElem?_cons_succ, Option.getD_some, Nat.reduceSub, List.cons_append, List.nil_append, bin_lss, if_true, if_false, Bool.false_eq_true, Bool.not_true, decide_true, h1, h2]
      exact gc_same (by unfold vE; rw [if_neg (by omega)])
    · simp (maxSteps := 4000000) -implicitDefEqProofs -dsimp (disch := omega) only [↓AOps_pu, ↓AOps_call, ↓AOps_guard, on_some, extK_same, guardB_ff, pval, rd_S, rd_C, put_S, List.replicate_succ, List.replicate_zero, List.set_cons_zero, List.set_cons_succ, List.getElem?_cons_zero, List.getElem?_cons_succ, Option.getD_some, map_c, map_n, Nat.reduceSub, List.cons_append, List.nil_append, bin_lss, if_false, Bool.false_eq_true, Bool.not_true, decide_false, h1, h2]
      refine CallK.of (c_total hx hl (okC_iff.1 h1).bd) ?_
      by_cases h3 : cs.sum < e
      · simp (maxSteps := 4000000) -implicitDefEqProofs -dsimp (disch := omega) only [↓AW_ops, ↓AW_seq, ↓AW_cond, ↓AW_ret, ↓AOps_nil, ↓AOps_pu, ↓AOps_guard, on_some, extK_same, guardB_ff, condB_t, ↓then_normal, ↓then_ret, ↓Fin_ret, pval, rd_S, rd_C, put_S, resV, resL, List.replicate_succ, List.replicate_zero, List.set_cons_zero, List.set_cons_succ, List.getElem?_cons_zero, List.getElem?_cons_succ, Option.getD_some, Nat.reduceSub, List.cons_append, List.nil_append, bin_gtr, if_false, Bool.false_eq_true, decide_true, h3]
        exact gc_same (by unfold vE; rw [if_neg (by omega)])
      · simp (maxSteps := 4000000) -implicitDefEqProofs -dsimp (disch := omega) only [↓AW_skip, ↓AW_ops, ↓AW_seq, ↓AW_cond, ↓AW_ret, ↓AOps_nil, ↓AOps_pu, ↓AOps_guard, on_some, extK_same, guardB_ff, condB_f, ↓then_normal, ↓Fin_ret, pval, rd_S, rd_C, put_S, resV, resL, List.replicate_succ, List.replicate_zero, List.set_cons_zero, List.set_cons_succ, List.getElem?_cons_zero, List.getElem?_cons_succ, Option.getD_some, Nat.reduceSub, List.cons_append, List.nil_append, bin_gtr, if_false, Bool.false_eq_true, decide_false, h3]
        exact gc_same (by unfold vE; rw [if_pos ⟨h1, by omega, by omega⟩])
  · have h1' : okC cs = false := by simpa using h1
    simp (maxSteps := 4000000) -implicitDefEqProofs -dsimp (disch := omega) only [↓AW_ops, ↓AW_seq, ↓AW_cond, ↓AW_ret, ↓AOps_nil, ↓AOps_pu, ↓AOps_guard, on_some, extK_same, guardB_tf, skipS_some, condB_t, ↓then_normal, ↓then_ret, ↓Fin_ret, pval, rd_S, rd_C, put_S, resV, resL, eq_self, List.replicate_succ, List.replicate_zero, List.set_cons_zero, List.set_cons_succ, List.getElem?_cons_zero, List.getElem?_cons_succ, Option.getD_some, Nat.reduceSub, List.cons_append, List.nil_append, if_true, Bool.not_false, h1']
    exact gc_same (by unfold vE; rw [if_neg (fun hh => h1 hh.1)])
theorem s38 (hx : L1 A v cs) (hl : cs.length ≤ 1000000) (e : Int) : ACalls Try.prog 38 [v, I e] A (I (vE cs e)) A := by
  refine acalls hmix Try.func38 (by kernel_rfl) t38 2 rfl (by decide) ?_
  dsimp only [m38]
  simp (maxSteps := 4000000) -implicitDefEqProofs -dsimp (disch := omega) only [↓AW_ops, ↓AW_seq, ↓AOps_nil, ↓AOps_pu, ↓AOps_call, on_some, ↓then_normal, pval, rd_S, rd_C, put_S, List.replicate_succ, List.replicate_zero, List.set_cons_zero, List.set_cons_succ, List.getElem?_cons_zero, List.getElem?_cons_succ, Option.getD_some, map_c, map_n, Nat.reduceSub, List.cons_append, List.nil_append]
  refine CallK.of (s59 hx hl) ?_
  by_cases h1 : okC cs = true
  · simp (maxSteps := 4000000) -implicitDefEqProofs -dsimp (disch := omega) only [↓AOps_pu, ↓AOps_call, ↓AOps_guard, on_some, extK_same, guardB_ff, pval, rd_S, put_S, List.replicate_succ, List.replicate_zero, List.set_cons_zero, List.set_cons_succ, List.getElem?_cons_zero, List.getElem?_cons_succ, Option.getD_some, map_c, map_n, Nat.reduceSub, List.cons_append, List.nil_append, Bool.not_true, h1]
    refine CallK.of (c_Sum hx hl (okC_iff.1 h1).bd) ?_
    simp (maxSteps := 4000000) -implicitDefEqProofs -dsimp (disch := omega) only [↓AOps_call, ↓AOps_guard, extK_same, guardB_ff, rd_S, rd_C, put_S, List.replicate_succ, List.replicate_zero, List.set_cons_zero, List.set_cons_succ, List.getElem?_cons_zero, List.getElem?_cons_succ, Option.getD_some, map_c, map_n, Nat.reduceSub, List.cons_append, List.nil_append]
    refine CallK.of (c_wi _ _ _ _) ?_
    by_cases h2 : 0 ≤ e ∧ e ≤ cs.sum
    · simp (maxSteps := 4000000) -implicitDefEqProofs -dsimp (disch := omega) only [↓AW_skip, ↓AW_ops, ↓AW_seq, ↓AW_cond, ↓AW_ret, ↓AOps_nil, ↓AOps_pu, ↓AOps_guard, on_some, extK_same, guardB_ff, condB_f, ↓then_normal, ↓Fin_ret, pval, rd_S, rd_C, put_S, resV, resL, List.replicate_succ, List.replicate_zero, List.set_cons_zero, List.set_cons_succ, List.getElem?_cons_zero, List.getElem?_cons_succ, Option.getD_some, Nat.reduceSub, List.cons_append, List.nil_append, if_false, Bool.false_eq_true, Bool.not_true, decide_true, and_true, h2]
      exact gc_same (by unfold vE; rw [if_pos ⟨h1, h2⟩])
    · simp (maxSteps := 4000000) -implicitDefEqProofs -dsimp (disch := omega) only [↓AW_ops, ↓AW_seq, ↓AW_cond, ↓AW_ret, ↓AOps_nil, ↓AOps_pu, ↓AOps_guard, on_some, extK_same, guardB_ff, condB_t, ↓then_normal, ↓then_ret, ↓Fin_ret, pval, rd_S, rd_C, put_S, resV, resL, List.replicate_succ, List.replicate_zero, List.set_cons_zero, List.set_cons_succ, List.getElem?_cons_zero, List.getElem?_cons_succ, Option.getD_some, Nat.reduceSub, List.cons_append, List.nil_append, if_false, Bool.false_eq_true, Bool.not_false, decide_false, h2]
      exact gc_same (by unfold vE; rw [if_neg (fun hh => h2 hh.2)])
  · have h1' : okC cs = false := by simpa using h1
    simp (maxSteps := 4000000) -implicitDefEqProofs -dsimp (disch := omega) only [↓AW_ops, ↓AW_seq, ↓AW_cond, ↓AW_ret, ↓AOps_nil, ↓AOps_pu, ↓AOps_guard, on_some, extK_same, guardB_tf, skipS_some, condB_t, ↓then_normal, ↓then_ret, ↓Fin_ret, pval, rd_S, rd_C, put_S, resV, resL, eq_self, List.replicate_succ, List.replicate_zero, List.set_cons_zero, List.set_cons_succ, List.getElem?_cons_zero, List.getElem?_cons_succ, Option.getD_some, Nat.reduceSub, List.cons_append, List.nil_append, if_true, Bool.not_false, h1']
    exact gc_same (by unfold vE; rw [if_neg (fun hh => h1 hh.1)])
end
theorem take_succ_eq {α : Type} {xs ys : List α} {i : Nat} {z w : α} (hz : xs[i]? = some z) (hw : ys[i]? = some w) : xs.take (i + 1) = ys.take (i + 1) ↔ xs.take i = ys.take i ∧ z = w := by
  rw [List.take_add_one, List.take_add_one, hz, hw]
  constructor
  · intro h
    have := List.append_inj' h rfl
    exact ⟨this.1, by simpa using this.2⟩
  · rintro ⟨h, rfl⟩; rw [h]
theorem c_SameInts {xs ys : List Int} {v u : AV} {A : AHeap} (hx : L1 A v xs) (hy : L1 A u ys) (hl : xs.length ≤ 1000000) : ACalls Try.prog 26 [v, u] A (B (decide (xs = ys))) A := by
  refine acalls hmix Try.func26 (by kernel_rfl) t26 2 rfl (by decide) ?_
  by_cases hle : xs.length = ys.length
  · have hle' : (xs.length : Int) = ys.length := by omega
    dsimp only [m26]
    simp (maxSteps := 4000000) -implicitDefEqProofs -dsimp (disch := omega) only [↓AW_skip, ↓AW_ops, ↓AW_seq, ↓AW_cond, ↓AW_block, ↓AOps_nil, ↓AOps_pu, on_some, condB_f, ↓then_normal, pval, rd_S, rd_C, put_S, ↓AW_toLoop, eq_self, List.replicate_succ, List.replicate_zero, List.set_cons_zero, List.set_cons_succ, List.getElem?_cons_zero, List.getElem?_cons_succ, Option.getD_some, Nat.reduceSub, List.cons_append, List.nil_append, bin_neq, decide_false, not_true_eq_false, hx.len, hy.len, hle']
    refine LoopK.by 26 (fun i : Nat => i ≤ xs.length ∧ xs.take i = ys.take i) (fun i => [(0, v), (1, u), (5, I i)]) (fun _ => A) (fun i => xs.length - i) 0 ⟨by omega, rfl⟩ rfl (by simp [Has, rd_s]) rfl ?_
    rintro i ⟨hi, he⟩
    by_cases hlt : i < xs.length
    · obtain ⟨z, hz⟩ : ∃ z, xs[i]? = some z := ⟨_, List.getElem?_eq_getElem hlt⟩
      have hlt' : (i : Int) < xs.length := by omega
      have hlt2 : i < ys.length := by omega
      obtain ⟨w, hw⟩ : ∃ w, ys[i]? = some w := ⟨_, List.getElem?_eq_getElem hlt2⟩
      by_cases hzw : z = w
      · subst hzw
        simp (maxSteps := 4000000) -implicitDefEqProofs -dsimp (disch := omega) only [↓AW_skip, ↓AW_ops, ↓AW_seq, ↓AW_cond, ↓AW_block, ↓AOps_nil, ↓AOps_pu, ↓AOps_ld, on_some, condB_t, condB_f, ↓then_normal, ↓inBlock_normal, pval, lval, rd_S, rd_C, put_S, partA, eq_self, mk, List.foldl_cons, List.foldl_nil, List.replicate_succ, List.replicate_zero, List.set_cons_zero, List.set_cons_succ, List.getElem?_cons_zero, List.getElem?_cons_succ, List.drop_zero, List.take_succ_cons, List.take_nil, Option.getD_some, List.length_cons, List.length_nil, Nat.reduceAdd, Nat.reduceLeDiff, Nat.zero_add, bin_add, bin_neq, bin_lss, w64, if_true, if_false, Bool.false_eq_true, decide_true, decide_false, Go.Eng.e1, true_and, not_true_eq_false, hlt', hx.len, hx.idx hlt, hx.ld0 hz 1 false (by decide), hy.idx hlt2, hy.ld0 hw 1 false (by decide)]
        exact ⟨i + 1, ⟨hlt, (take_succ_eq hz hw).2 ⟨he, rfl⟩⟩, by simp [Has, rd_s], by omega⟩
      · simp (maxSteps := 4000000) -implicitDefEqProofs -dsimp (disch := omega) only [↓AW_skip, ↓AW_ops, ↓AW_seq, ↓AW_cond, ↓AW_block, ↓AW_ret, ↓AOps_nil, ↓AOps_pu, ↓AOps_ld, on_some, condB_t, ↓then_normal, ↓then_ret, ↓inBlock_ret, ↓Fin_ret, pval, lval, rd_S, rd_C, put_S, resV, resL, partA, eq_self, mk, List.foldl_cons, List.foldl_nil, List.replicate_succ, List.replicate_zero, List.set_cons_zero, List.set_cons_succ, List.getElem?_cons_zero, List.getElem?_cons_succ, List.drop_zero, List.take_succ_cons, List.take_nil, Option.getD_some, List.length_cons, List.length_nil, Nat.reduceLeDiff, Nat.zero_add, bin_neq, bin_lss, if_true, if_false, Bool.false_eq_true, decide_true, Go.Eng.e1, not_false_eq_true, hlt', hx.len, hx.idx hlt, hx.ld0 hz 1 false (by decide), hy.idx hlt2, hy.ld0 hw 1 false (by decide), hzw]
        refine gc_same ?_
        have : ¬ xs = ys := by rintro rfl; rw [hz] at hw; exact hzw (Option.some.inj hw)
        simp [this]
    · have hlt' : ¬ ((i : Int) < xs.length) := by omega
      simp (maxSteps := 4000000) -implicitDefEqProofs -dsimp (disch := omega) only [↓AW_ops, ↓AW_seq, ↓AW_cond, ↓AW_exit, ↓AW_ret, ↓AOps_nil, ↓AOps_pu, on_some, condB_f, ↓then_normal, ↓then_exit, ↓inBlock_exit, ↓Fin_ret, pval, rd_S, rd_C, put_S, resV, resL, eq_self, mk, List.foldl_cons, List.foldl_nil, List.replicate_succ, List.replicate_zero, List.set_cons_zero, List.set_cons_succ, List.getElem?_cons_zero, List.getElem?_cons_succ, Option.getD_some, bin_lss, if_true, decide_false, hlt', hx.len]
      rw [List.take_of_length_le (by omega), List.take_of_length_le (by omega)] at he
      exact gc_same (by simp [he])
  · have hle' : ¬ (xs.length : Int) = ys.length := by omega
    dsimp only [m26]
    simp (maxSteps := 4000000) -implicitDefEqProofs -dsimp (disch := omega) only [↓AW_ops, ↓AW_seq, ↓AW_cond, ↓AW_ret, ↓AOps_nil, ↓AOps_pu, on_some, condB_t, ↓then_normal, ↓then_ret, ↓Fin_ret, pval, rd_S, rd_C, put_S, resV, resL, List.replicate_succ, List.replicate_zero, List.set_cons_zero, List.set_cons_succ, List.getElem?_cons_zero, List.getElem?_cons_succ, Option.getD_some, Nat.reduceSub, List.cons_append, List.nil_append, bin_neq, decide_true, not_false_eq_true, hx.len, hy.len, hle']
    have : ¬ xs = ys := by rintro rfl; exact hle rfl
    exact gc_same (by simp [this])
end Go.Proofs.Ytdcdjhhjlpegjaa

namespace Go.Proofs.Ytdcdjhhjlpegjaa
open Go Go.Eng
theorem gcd_step (x y : Int) : Int.gcd y (x.tmod y) = Int.gcd x y := by
  unfold Int.gcd
  rw [Int.natAbs_tmod, Nat.gcd_comm y.natAbs, ← Nat.gcd_rec, Nat.gcd_comm]
theorem gcd_pos {a b : Int} (hb : 0 < b) : 0 < Int.gcd a b ∧ (Int.gcd a b : Int) ≤ b := by
  have h1 : 0 < Int.gcd a b := Int.gcd_pos_of_ne_zero_right a (by omega)
  have h2 : (Int.gcd a b : Int) ∣ b := Int.gcd_dvd_right a b
  exact ⟨h1, Int.le_of_dvd hb h2⟩
theorem s82 {a b : Int} (A : AHeap) (ha : W a) (hb0 : 0 < b) (hb : b ≤ 9223372036854775807) : ACalls Try.prog 82 [I a, I b] A (I (Int.gcd a b)) A := by
  refine acalls hmix Try.func82 (by kernel_rfl) t82 2 rfl (by decide) ?_
  dsimp only [m82]
  simp (maxSteps := 4000000) -implicitDefEqProofs -dsimp (disch := omega) only [↓AW_ops, ↓AW_seq, ↓AW_block, ↓AOps_nil, ↓AOps_pu, on_some, ↓then_normal, pval, rd_C, put_S, ↓AW_toLoop, List.replicate_succ, List.replicate_zero, List.set_cons_zero, List.set_cons_succ, Nat.reduceSub, List.cons_append, List.nil_append]
  obtain ⟨g1, g2⟩ := gcd_pos (a := a) hb0
  refine LoopK.by 15 (fun x : Int × Int => Int.gcd x.1 x.2 = Int.gcd a b ∧ W x.1 ∧ W x.2) (fun x => [(0, I x.1), (1, I x.2)]) (fun _ => A) (fun x => x.2.natAbs) (a, b) ⟨rfl, ha, by omega, hb⟩ rfl (by simp [Has, rd_s]) rfl ?_
  rintro ⟨x, y⟩ ⟨hxy, hx, hy⟩
  simp only at hxy hx hy
  by_cases hy0 : y = 0
  · subst hy0
    have hx1 : x.natAbs = Int.gcd a b := by rw [← hxy]; simp
    simp (maxSteps := 4000000) -implicitDefEqProofs -dsimp (disch := omega) only [↓AW_ops, ↓AW_seq, ↓AW_cond, ↓AW_exit, ↓AW_ret, ↓AOps_nil, ↓AOps_pu, on_some, condB_f, ↓then_normal, ↓then_exit, ↓inBlock_exit, ↓Fin_ret, pval, rd_S, rd_C, put_S, resV, resL, eq_self, mk, List.foldl_cons, List.foldl_nil, List.replicate_succ, List.replicate_zero, List.set_cons_zero, List.set_cons_succ, List.getElem?_cons_zero, List.getElem?_cons_succ, Option.getD_some, map_c, map_n, bin_neq, mm_max, w64, if_true, decide_false, not_true_eq_false]
    exact gc_same (by congr 1; omega)
  · simp (maxSteps := 4000000) -implicitDefEqProofs -dsimp (disch := omega) only [↓AW_skip, ↓AW_ops, ↓AW_seq, ↓AW_cond, ↓AW_block, ↓AOps_nil, ↓AOps_pu, on_some, condB_t, ↓then_normal, ↓inBlock_normal, pval, rd_S, rd_C, put_S, eq_self, mk, List.foldl_cons, List.foldl_nil, List.replicate_succ, List.replicate_zero, List.set_cons_zero, List.set_cons_succ, List.getElem?_cons_zero, List.getElem?_cons_succ, Option.getD_some, List.length_cons, List.length_nil, Nat.reduceAdd, Nat.zero_add, bin_rem, bin_neq, if_false, decide_true, true_and, not_false_eq_true, hy0]
    have hm : (x.tmod y).natAbs < y.natAbs := by rw [Int.natAbs_tmod]; exact Nat.mod_lt _ (by omega)
    exact ⟨(y, x.tmod y), ⟨by rw [gcd_step]; exact hxy, hy, by omega⟩, by simp [Has, rd_s], hm⟩
theorem s80 {a b : Int} (A : AHeap) (ha : 0 ≤ a ∧ a ≤ 9223372036854775807) (hb0 : 0 < b) (hb : b ≤ 9223372036854775807) : ACalls Try.prog 80 [I a, I b] A (I (Int.gcd a b)) A := by
  refine acalls hmix Try.func80 (by kernel_rfl) t80 2 rfl (by decide) ?_
  dsimp only [m80]
  simp (maxSteps := 4000000) -implicitDefEqProofs -dsimp (disch := omega) only [↓AW_ops, ↓AW_seq, ↓AW_block, ↓AOps_nil, ↓AOps_pu, on_some, ↓then_normal, pval, rd_C, put_S, ↓AW_toLoop, List.replicate_succ, List.replicate_zero, List.set_cons_zero, List.set_cons_succ, Nat.reduceSub, List.cons_append, List.nil_append]
  refine LoopK.by 14 (fun x : Int × Int => Int.gcd x.1 x.2 = Int.gcd a b ∧ (0 ≤ x.1 ∧ W x.1) ∧ (0 ≤ x.2 ∧ W x.2)) (fun x => [(0, I x.1), (1, I x.2)]) (fun _ => A) (fun x => x.2.natAbs) (a, b) ⟨rfl, by simp only; omega, by simp only; omega⟩ rfl (by simp [Has, rd_s]) rfl ?_
  rintro ⟨x, y⟩ ⟨hxy, hx, hy⟩
  simp only at hxy hx hy
  by_cases hy0 : y = 0
  · subst hy0
    have hx1 : x.natAbs = Int.gcd a b := by rw [← hxy]; simp
    simp (maxSteps := 4000000) -implicitDefEqProofs -dsimp (disch := omega) only [↓AW_ops, ↓AW_seq, ↓AW_cond, ↓AW_exit, ↓AW_ret, ↓AOps_nil, ↓AOps_pu, on_some, condB_f, ↓then_normal, ↓then_exit, ↓inBlock_exit, ↓Fin_ret, pval, rd_S, rd_C, put_S, resV, resL, eq_self, mk, List.foldl_cons, List.foldl_nil, List.replicate_succ, List.replicate_zero, List.set_cons_zero, List.set_cons_succ, List.getElem?_cons_zero, List.getElem?_cons_succ, Option.getD_some, bin_neq, if_true, decide_false, not_true_eq_false]
    exact gc_same (by congr 1; omega)
  · simp (maxSteps := 4000000) -implicitDefEqProofs -dsimp (disch := omega) only [↓AW_skip, ↓AW_ops, ↓AW_seq, ↓AW_cond, ↓AW_block, ↓AOps_nil, ↓AOps_pu, on_some, condB_t, ↓then_normal, ↓inBlock_normal, pval, rd_S, rd_C, put_S, eq_self, mk, List.foldl_cons, List.foldl_nil, List.replicate_succ, List.replicate_zero, List.set_cons_zero, List.set_cons_succ, List.getElem?_cons_zero, List.getElem?_cons_succ, Option.getD_some, List.length_cons, List.length_nil, Nat.reduceAdd, Nat.zero_add, bin_rem, bin_neq, if_false, decide_true, true_and, not_false_eq_true, hy0]
    have hm : (x.tmod y).natAbs < y.natAbs := by rw [Int.natAbs_tmod]; exact Nat.mod_lt _ (by omega)
    have hm0 : 0 ≤ x.tmod y := Int.tmod_nonneg y hx.1
    exact ⟨(y, x.tmod y), ⟨by rw [gcd_step]; exact hxy, hy, by omega⟩, by simp [Has, rd_s], hm⟩
theorem tdiv_W {a : Int} (ha : W a) {g : Int} (hg : 0 < g) : W (a.tdiv g) := by
  have h : (a.tdiv g).natAbs ≤ a.natAbs := by rw [Int.natAbs_tdiv]; exact Nat.div_le_self _ _
  rcases Int.le_total 0 a with h0 | h0
  · have := Int.tdiv_nonneg h0 (by omega : 0 ≤ g); omega
  · have := Int.tdiv_nonneg (a := -a) (b := g) (by omega) (by omega)
    rw [Int.neg_tdiv] at this; omega
def nrm (a b : Int) : AV := .agg [I (a.tdiv (Int.gcd a b)), I (b.tdiv (Int.gcd a b))]
abbrev R (q : Rat) : AV := .agg [I q.num, I (q.den : Int)]
theorem tdiv_eq {n : Int} {g : Nat} (h : (g : Int) ∣ n) : n.tdiv g = n / g := by
  rw [Int.tdiv_eq_ediv_of_dvd h]
theorem den_pos (q : Rat) : 0 < (q.den : Int) := by have := q.den_pos; omega
theorem nrm_R (n d : Int) (hd : 0 < d) : nrm n d = R ((n : Rat) / (d : Rat)) := by
  have h0 : d.toNat ≠ 0 := by omega
  have hg : d.toNat.gcd n.natAbs = Int.gcd n d := by
    unfold Int.gcd
    rw [Nat.gcd_comm]; congr 1; omega
  have e : (n : Rat) / (d : Rat) = mkRat n d.toNat := by
    rw [Rat.mkRat_eq_div]
    have : ((d.toNat : Nat) : Rat) = ((d : Int) : Rat) := by
      rw [← Rat.intCast_natCast, Int.toNat_of_nonneg (by omega)]
    rw [this]
  rw [e]
  unfold nrm
  have h1 : (mkRat n d.toNat).num = n.tdiv (Int.gcd n d) := by
    rw [Rat.num_mkRat, if_neg h0, hg, tdiv_eq (Int.gcd_dvd_left n d)]
  have h2 : ((mkRat n d.toNat).den : Int) = d.tdiv (Int.gcd n d) := by
    rw [Rat.den_mkRat, if_neg h0, hg, tdiv_eq (Int.gcd_dvd_right n d), Int.natCast_ediv]
    congr 1; omega
  show _ = AV.agg [I (mkRat n d.toNat).num, I ((mkRat n d.toNat).den : Int)]
  rw [h1, h2]
theorem R_self (q : Rat) : q = (q.num : Rat) / ((q.den : Int) : Rat) := by
  have := Rat.mkRat_self q
  rw [Rat.mkRat_eq_div] at this
  rw [Rat.intCast_natCast]
  exact this.symm
theorem s61 {a b : Int} (A : AHeap) (ha : W a) (hb0 : 0 < b) (hb : b ≤ 9223372036854775807) : ACalls Try.prog 61 [I a, I b] A (R ((a : Rat) / (b : Rat))) A := by
  rw [← nrm_R a b hb0]
  refine acalls hmix Try.func61 (by kernel_rfl) t61 2 rfl (by decide) ?_
  dsimp only [m61]
  simp (maxSteps := 4000000) -implicitDefEqProofs -dsimp (disch := omega) only [↓AW_ops, ↓AW_seq, ↓AOps_nil, ↓AOps_pu, ↓AOps_call, on_some, ↓then_normal, pval, rd_S, rd_C, put_S, AV.cells?, List.replicate_succ, List.replicate_zero, List.set_cons_zero, List.set_cons_succ, List.getElem?_cons_zero, List.getElem?_cons_succ, Option.getD_some, map_c, map_n, Nat.reduceSub, List.cons_append, List.nil_append]
  refine CallK.of (s82 _ ha hb0 hb) ?_
  obtain ⟨g1, g2⟩ := gcd_pos (a := a) hb0
  have hg : ¬ (Int.gcd a b : Int) = 0 := by omega
  have h1 := tdiv_W ha (g := Int.gcd a b) (by omega)
  have h2 := tdiv_W (a := b) ⟨by omega, hb⟩ (g := Int.gcd a b) (by omega)
  simp (maxSteps := 4000000) -implicitDefEqProofs -dsimp (disch := omega) only [↓AW_ops, ↓AW_seq, ↓AW_ret, ↓AOps_nil, ↓AOps_pu, on_some, extK_same, ↓then_normal, ↓Fin_ret, pval, rd_S, put_S, resV, resL, chkd, bput, bgot, AV.cells?, splice, partA, fillA, eq_self, List.replicate_succ, List.replicate_zero, List.set_cons_zero, List.set_cons_succ, List.getElem?_cons_zero, List.getElem?_cons_succ, List.drop_zero, List.drop_succ_cons, List.drop_nil, List.take_zero, List.take_succ_cons, List.take_nil, Option.getD_some, Option.map_some, map_c, map_n, List.length_cons, List.length_nil, Nat.reduceAdd, Nat.reduceSub, Nat.reduceLeDiff, Nat.reduceEqDiff, Nat.zero_add, List.cons_append, List.nil_append, List.append_nil, bin_quo, w64, if_true, if_false, and_true, ne_eq, not_true_eq_false, hg]
  exact gc_same rfl
theorem s62 {a b : Int} (A : AHeap) (ha : 0 ≤ a ∧ a ≤ 9223372036854775807) (hb0 : 0 < b) (hb : b ≤ 9223372036854775807) : ACalls Try.prog 62 [I a, I b] A (R ((a : Rat) / (b : Rat))) A := by
  rw [← nrm_R a b hb0]
  refine acalls hmix Try.func62 (by kernel_rfl) t62 2 rfl (by decide) ?_
  have hm : max a (0 - a) = a := by omega
  dsimp only [m62]
  simp (maxSteps := 4000000) -implicitDefEqProofs -dsimp (disch := omega) only [↓AW_ops, ↓AW_seq, ↓AOps_nil, ↓AOps_pu, ↓AOps_call, on_some, ↓then_normal, pval, rd_S, rd_C, put_S, AV.cells?, List.replicate_succ, List.replicate_zero, List.set_cons_zero, List.set_cons_succ, List.getElem?_cons_zero, List.getElem?_cons_succ, Option.getD_some, map_c, map_n, Nat.reduceSub, List.cons_append, List.nil_append, mm_max, w64, hm]
  refine CallK.of (s80 _ ha hb0 hb) ?_
  obtain ⟨g1, g2⟩ := gcd_pos (a := a) hb0
  have hg : ¬ (Int.gcd a b : Int) = 0 := by omega
  have h1 := tdiv_W (a := a) ⟨by omega, ha.2⟩ (g := Int.gcd a b) (by omega)
  have h2 := tdiv_W (a := b) ⟨by omega, hb⟩ (g := Int.gcd a b) (by omega)
  simp (maxSteps := 4000000) -implicitDefEqProofs -dsimp (disch := omega) only [↓AW_ops, ↓AW_seq, ↓AW_ret, ↓AOps_nil, ↓AOps_pu, on_some, extK_same, ↓then_normal, ↓Fin_ret, pval, rd_S, put_S, resV, resL, chkd, bput, bgot, AV.cells?, splice, partA, fillA, eq_self, List.replicate_succ, List.replicate_zero, List.set_cons_zero, List.set_cons_succ, List.getElem?_cons_zero, List.getElem?_cons_succ, List.drop_zero, List.drop_succ_cons, List.drop_nil, List.take_zero, List.take_succ_cons, List.take_nil, Option.getD_some, Option.map_some, map_c, map_n, List.length_cons, List.length_nil, Nat.reduceAdd, Nat.reduceSub, Nat.reduceLeDiff, Nat.reduceEqDiff, Nat.zero_add, List.cons_append, List.nil_append, List.append_nil, bin_quo, w64, if_true, if_false, and_true, ne_eq, not_true_eq_false, hg]
  exact gc_same rfl
theorem pair_beq {z w : Int × Int} (h : z ≠ w) : (z.1 == w.1 && z.2 == w.2) = false := by
  cases hb : (z.1 == w.1 && z.2 == w.2) with
  | false => rfl
  | true => simp at hb; exact absurd (Prod.ext hb.1 hb.2) h
theorem s30 {xs ys : List (Int × Int)} {v u : AV} {A : AHeap} (hx : L2 A v xs) (hy : L2 A u ys) (hl : xs.length ≤ 1000000) : ACalls Try.prog 30 [v, u] A (B (decide (xs = ys))) A := by
  refine acalls hmix Try.func30 (by kernel_rfl) t30 2 rfl (by decide) ?_
  by_cases hle : xs.length = ys.length
  · have hle' : (xs.length : Int) = ys.length := by omega
    dsimp only [m30]
    simp (maxSteps := 4000000) -implicitDefEqProofs -dsimp (disch := omega) only [↓AW_skip, ↓AW_ops, ↓AW_seq, ↓AW_cond, ↓AW_block, ↓AOps_nil, ↓AOps_pu, on_some, condB_f, ↓then_normal, pval, rd_S, rd_C, put_S, ↓AW_toLoop, eq_self, List.replicate_succ, List.replicate_zero, List.set_cons_zero, List.set_cons_succ, List.getElem?_cons_zero, List.getElem?_cons_succ, Option.getD_some, Nat.reduceSub, List.cons_append, List.nil_append, bin_neq, decide_false, not_true_eq_false, hx.len, hy.len, hle']
    refine LoopK.by 26 (fun i : Nat => i ≤ xs.length ∧ xs.take i = ys.take i) (fun i => [(0, v), (1, u), (5, I i)]) (fun _ => A) (fun i => xs.length - i) 0 ⟨by omega, rfl⟩ rfl (by simp [Has, rd_s]) rfl ?_
    rintro i ⟨hi, he⟩
    by_cases hlt : i < xs.length
    · obtain ⟨z, hz⟩ : ∃ z, xs[i]? = some z := ⟨_, List.getElem?_eq_getElem hlt⟩
      have hlt' : (i : Int) < xs.length := by omega
      have hlt2 : i < ys.length := by omega
      obtain ⟨w, hw⟩ : ∃ w, ys[i]? = some w := ⟨_, List.getElem?_eq_getElem hlt2⟩
      by_cases hzw : z = w
      · subst hzw
        simp (maxSteps := 4000000) -implicitDefEqProofs -dsimp (disch := omega) only [↓AW_skip, ↓AW_ops, ↓AW_seq, ↓AW_cond, ↓AW_block, ↓AOps_nil, ↓AOps_pu, ↓AOps_ld, on_some, condB_t, condB_f, ↓then_normal, ↓inBlock_normal, pval, lval, rd_S, rd_C, put_S, partA, eqc, beq_self_eq_true, eq_self, mk, List.foldl_cons, List.foldl_nil, List.replicate_succ, List.replicate_zero, List.set_cons_zero, List.set_cons_succ, List.getElem?_cons_zero, List.getElem?_cons_succ, List.drop_zero, List.take_succ_cons, List.take_nil, Option.getD_some, Option.map_some, List.length_cons, List.length_nil, Nat.reduceAdd, Nat.reduceLeDiff, Nat.reduceEqDiff, Nat.zero_add, bin_add, bin_lss, w64, if_true, if_false, Bool.not_true, Bool.true_and, decide_true, Go.Eng.e2, true_and, hlt', hx.len, hx.idx hlt, hx.ld0 hz 2 true (by decide), hy.idx hlt2, hy.ld0 hw 2 true (by decide)]
        exact ⟨i + 1, ⟨hlt, (take_succ_eq hz hw).2 ⟨he, rfl⟩⟩, by simp [Has, rd_s], by omega⟩
      · have hb := pair_beq hzw
        simp (maxSteps := 4000000) -implicitDefEqProofs -dsimp (disch := omega) only [↓AW_skip, ↓AW_ops, ↓AW_seq, ↓AW_cond, ↓AW_block, ↓AW_ret, ↓AOps_nil, ↓AOps_pu, ↓AOps_ld, on_some, condB_t, ↓then_normal, ↓then_ret, ↓inBlock_ret, ↓Fin_ret, pval, lval, rd_S, rd_C, put_S, resV, resL, partA, eqc, Bool.and_true, eq_self, mk, List.foldl_cons, List.foldl_nil, List.replicate_succ, List.replicate_zero, List.set_cons_zero, List.set_cons_succ, List.getElem?_cons_zero, List.getElem?_cons_succ, List.drop_zero, List.take_succ_cons, List.take_nil, Option.getD_some, Option.map_some, List.length_cons, List.length_nil, Nat.reduceAdd, Nat.reduceLeDiff, Nat.reduceEqDiff, Nat.zero_add, bin_lss, if_true, if_false, Bool.not_false, decide_true, Go.Eng.e2, hlt', hx.len, hx.idx hlt, hx.ld0 hz 2 true (by decide), hy.idx hlt2, hy.ld0 hw 2 true (by decide), hb]
        refine gc_same ?_
        have : ¬ xs = ys := by rintro rfl; rw [hz] at hw; exact hzw (Option.some.inj hw)
        simp [this]
    · have hlt' : ¬ ((i : Int) < xs.length) := by omega
      simp (maxSteps := 4000000) -implicitDefEqProofs -dsimp (disch := omega) only [↓AW_ops, ↓AW_seq, ↓AW_cond, ↓AW_exit, ↓AW_ret, ↓AOps_nil, ↓AOps_pu, on_some, condB_f, ↓then_normal, ↓then_exit, ↓inBlock_exit, ↓Fin_ret, pval, rd_S, rd_C, put_S, resV, resL, eq_self, mk, List.foldl_cons, List.foldl_nil, List.replicate_succ, List.replicate_zero, List.set_cons_zero, List.set_cons_succ, List.getElem?_cons_zero, List.getElem?_cons_succ, Option.getD_some, bin_lss, if_true, decide_false, hlt', hx.len]
      rw [List.take_of_length_le (by omega), List.take_of_length_le (by omega)] at he
      exact gc_same (by simp [he])
  · have hle' : ¬ (xs.length : Int) = ys.length := by omega
    dsimp only [m30]
    simp (maxSteps := 4000000) -implicitDefEqProofs -dsimp (disch := omega) only [↓AW_ops, ↓AW_seq, ↓AW_cond, ↓AW_ret, ↓AOps_nil, ↓AOps_pu, on_some, condB_t, ↓then_normal, ↓then_ret, ↓Fin_ret, pval, rd_S, rd_C, put_S, resV, resL, List.replicate_succ, List.replicate_zero, List.set_cons_zero, List.set_cons_succ, List.getElem?_cons_zero, List.getElem?_cons_succ, Option.getD_some, Nat.reduceSub, List.cons_append, List.nil_append, bin_neq, decide_true, not_false_eq_true, hx.len, hy.len, hle']
    have : ¬ xs = ys := by rintro rfl; exact hle rfl
    exact gc_same (by simp [this])
theorem gcd_div {out d : Int} (h0 : 0 < out) (hd : 0 < d) : out.tdiv (Int.gcd out d) = out / (Int.gcd out d : Int) ∧ 0 < out / (Int.gcd out d : Int) ∧ out / (Int.gcd out d : Int) ≤ out := by
  obtain ⟨g1, g2⟩ := gcd_pos (a := out) hd
  obtain ⟨x, hx⟩ := Int.gcd_dvd_left out d
  generalize (Int.gcd out d : Nat) = g at *
  have hg : (0 : Int) < g := by omega
  refine ⟨Int.tdiv_eq_ediv_of_nonneg (by omega), ?_, ?_⟩
  · rw [hx, Int.mul_ediv_cancel_left _ (by omega)]
    rcases Int.lt_or_le 0 x with h | h
    · exact h
    · have := Int.mul_nonpos_of_nonneg_of_nonpos (Int.le_of_lt hg) h; omega
  · exact Int.ediv_le_self _ (by omega)
/-- A fraction that a list may hold. -/
def fitR (r : Int × Int) : Prop := (1 ≤ r.2 ∧ r.2 ≤ 10000) ∧ (0 ≤ r.1 ∧ r.1 ≤ 10000000) ∧ Int.gcd r.1 r.2 = 1
instance (r : Int × Int) : Decidable (fitR r) := by unfold fitR; exact inferInstance
/-- The common denominator; 0 if the list is not fit. -/
def cm : Int → List (Int × Int) → Int
  | a, [] => a
  | a, r :: rs => if fitR r then (if 10000 < a / (Int.gcd a r.2 : Int) * r.2 then 0 else cm (a / (Int.gcd a r.2 : Int) * r.2) rs) else 0
theorem cm_bad {a : Int} {r : Int × Int} {rs : List (Int × Int)} (h : ¬ fitR r) : cm a (r :: rs) = 0 := by rw [cm, if_neg h]
theorem cm_go {a : Int} {r : Int × Int} {rs : List (Int × Int)} (h : fitR r) : cm a (r :: rs) = if 10000 < a / (Int.gcd a r.2 : Int) * r.2 then 0 else cm (a / (Int.gcd a r.2 : Int) * r.2) rs := by rw [cm, if_pos h]
theorem lc_pos {a d : Int} (ha : 1 ≤ a ∧ a ≤ 10000) (hd : 1 ≤ d ∧ d ≤ 10000) : 1 ≤ a / (Int.gcd a d : Int) * d ∧ a / (Int.gcd a d : Int) * d ≤ 100000000 ∧ a.tdiv (Int.gcd a d) = a / (Int.gcd a d : Int) ∧ ¬ (Int.gcd a d : Int) = 0 ∧ 0 < a / (Int.gcd a d : Int) ∧ a / (Int.gcd a d : Int) ≤ 10000 := by
  obtain ⟨q1, q2, q3⟩ := gcd_div (out := a) (d := d) (by omega) (by omega)
  have hm := Int.mul_le_mul (Int.le_trans q3 ha.2) hd.2 (by omega) (by omega : (0 : Int) ≤ 10000)
  have hm0 : 0 < a / (Int.gcd a d : Int) * d := Int.mul_pos q2 (by omega)
  have hg0 : ¬ (Int.gcd a d : Int) = 0 := by have := gcd_pos (a := a) (b := d) (by omega); omega
  exact ⟨by omega, by omega, q1, hg0, q2, by omega⟩
theorem drop_at {α : Type} {rs : List α} {i : Nat} {z : α} (hz : rs[i]? = some z) : rs.drop i = z :: rs.drop (i + 1) := by
  obtain ⟨hlt, h⟩ := List.getElem?_eq_some_iff.1 hz
  rw [← h]; exact List.drop_eq_getElem_cons hlt
section
variable {rs : List (Int × Int)} {v : AV} {A : AHeap}
theorem c_common (hr : L2 A v rs) (hl : rs.length ≤ 1000000) : ACalls Try.prog 70 [v] A (.tuple [I (cm 1 rs), B (!decide (cm 1 rs = 0))]) A := by
  refine acalls hmix Try.func70 (by kernel_rfl) t70 1 rfl (by decide) ?_
  dsimp only [m70]
  simp (maxSteps := 4000000) -implicitDefEqProofs -dsimp (disch := omega) only [↓AW_ops, ↓AW_seq, ↓AW_block, ↓AOps_nil, ↓AOps_pu, on_some, ↓then_normal, pval, rd_S, rd_C, put_S, ↓AW_toLoop, List.replicate_succ, List.replicate_zero, List.set_cons_zero, List.set_cons_succ, List.getElem?_cons_zero, List.getElem?_cons_succ, Option.getD_some, Nat.reduceSub, List.cons_append, List.nil_append, hr.len]
  refine LoopK.by 52 (fun x : Nat × Int => x.1 ≤ rs.length ∧ (1 ≤ x.2 ∧ x.2 ≤ 10000) ∧ cm 1 rs = cm x.2 (rs.drop x.1)) (fun x => [(4, I x.2), (7, v), (8, I rs.length), (9, I x.1)]) (fun _ => A) (fun x => rs.length - x.1) (0, 1) ⟨by simp only; omega, by simp only; omega, by simp⟩ rfl (by simp [Has, rd_s]) rfl ?_
  rintro ⟨i, all⟩ ⟨hi, ho, he⟩
  simp only at hi ho he
  by_cases hlt : i < rs.length
  · obtain ⟨z, hz⟩ : ∃ z, rs[i]? = some z := ⟨_, List.getElem?_eq_getElem hlt⟩
    have hlt' : (i : Int) < rs.length := by omega
    rw [drop_at hz] at he
    have bad : cm 1 rs = 0 → GC A (.tuple [I 0, B false]) A (.tuple [I (cm 1 rs), B (!decide (cm 1 rs = 0))]) A := by
      intro h; rw [h]; exact gc_same rfl
    by_cases h1 : z.2 < 1
    · simp (maxSteps := 4000000) -implicitDefEqProofs -dsimp (disch := omega) only [↓AW_skip, ↓AW_ops, ↓AW_seq, ↓AW_cond, ↓AW_block, ↓AW_ret, ↓AOps_nil, ↓AOps_pu, ↓AOps_ld, ↓AOps_guard, on_some, guardB_tf, skipS_some, condB_t, ↓then_normal, ↓then_ret, ↓inBlock_ret, ↓Fin_ret, pval, lval, rd_S, rd_C, put_S, resV, resL, chkd, isAdr, bput, bgot, AV.cells?, splice, partA, eq_self, mk, List.foldl_cons, List.foldl_nil, List.replicate_succ, List.replicate_zero, List.set_cons_zero, List.set_cons_succ, List.getElem?_cons_zero, List.getElem?_cons_succ, List.drop_zero, List.drop_succ_cons, List.drop_nil, List.take_zero, List.take_succ_cons, List.take_nil, Option.getD_some, List.length_cons, List.length_nil, Nat.reduceAdd, Nat.reduceLeDiff, Nat.reduceEqDiff, Nat.zero_add, List.nil_append, List.append_nil, bin_lss, if_true, if_false, Bool.false_eq_true, decide_true, Go.Eng.e2, ne_eq, not_true_eq_false, hlt', hr.idx hlt, hr.ld0 hz 2 true (by decide), e2, h1]
      exact bad (by rw [he, cm_bad (fun hh => by have := hh.1; omega)])
    by_cases h2 : 10000 < z.2
    · simp (maxSteps := 4000000) -implicitDefEqProofs -dsimp (disch := omega) only [↓AW_skip, ↓AW_ops, ↓AW_seq, ↓AW_cond, ↓AW_block, ↓AW_ret, ↓AOps_nil, ↓AOps_pu, ↓AOps_ld, ↓AOps_guard, on_some, guardB_tf, guardB_ff, skipS_some, condB_t, ↓then_normal, ↓then_ret, ↓inBlock_ret, ↓Fin_ret, pval, lval, rd_S, rd_C, put_S, resV, resL, chkd, isAdr, bput, bgot, AV.cells?, splice, partA, eq_self, mk, List.foldl_cons, List.foldl_nil, List.replicate_succ, List.replicate_zero, List.set_cons_zero, List.set_cons_succ, List.getElem?_cons_zero, List.getElem?_cons_succ, List.drop_zero, List.drop_succ_cons, List.drop_nil, List.take_zero, List.take_succ_cons, List.take_nil, Option.getD_some, List.length_cons, List.length_nil, Nat.reduceAdd, Nat.reduceLeDiff, Nat.reduceEqDiff, Nat.zero_add, List.nil_append, List.append_nil, bin_lss, bin_gtr, if_true, if_false, Bool.false_eq_true, decide_true, decide_false, Go.Eng.e2, ne_eq, not_true_eq_false, hlt', hr.idx hlt, hr.ld0 hz 2 true (by decide), e2, h1, h2]
      exact bad (by rw [he, cm_bad (fun hh => by have := hh.1; omega)])
    by_cases h3 : z.1 < 0
    · simp (maxSteps := 4000000) -implicitDefEqProofs -dsimp (disch := omega) only [↓AW_skip, ↓AW_ops, ↓AW_seq, ↓AW_cond, ↓AW_block, ↓AW_ret, ↓AOps_nil, ↓AOps_pu, ↓AOps_ld, ↓AOps_guard, on_some, guardB_tf, guardB_ff, skipS_some, condB_t, ↓then_normal, ↓then_ret, ↓inBlock_ret, ↓Fin_ret, pval, lval, rd_S, rd_C, put_S, resV, resL, chkd, isAdr, bput, bgot, AV.cells?, splice, partA, eq_self, mk, List.foldl_cons, List.foldl_nil, List.replicate_succ, List.replicate_zero, List.set_cons_zero, List.set_cons_succ, List.getElem?_cons_zero, List.getElem?_cons_succ, List.drop_zero, List.drop_succ_cons, List.drop_nil, List.take_zero, List.take_succ_cons, List.take_nil, Option.getD_some, List.length_cons, List.length_nil, Nat.reduceAdd, Nat.reduceLeDiff, Nat.reduceEqDiff, Nat.zero_add, List.nil_append, List.append_nil, bin_lss, bin_gtr, if_true, if_false, Bool.false_eq_true, decide_true, decide_false, Go.Eng.e2, ne_eq, not_true_eq_false, hlt', hr.idx hlt, hr.ld0 hz 2 true (by decide), e2, h1, h2, h3]
      exact bad (by rw [he, cm_bad (fun hh => by have := hh.2.1; omega)])
    by_cases h4 : 10000000 < z.1
    · simp (maxSteps := 4000000) -implicitDefEqProofs -dsimp (disch := omega) only [↓AW_skip, ↓AW_ops, ↓AW_seq, ↓AW_cond, ↓AW_block, ↓AW_ret, ↓AOps_nil, ↓AOps_pu, ↓AOps_ld, ↓AOps_guard, on_some, guardB_tf, guardB_ff, skipS_some, condB_t, ↓then_normal, ↓then_ret, ↓inBlock_ret, ↓Fin_ret, pval, lval, rd_S, rd_C, put_S, resV, resL, chkd, isAdr, bput, bgot, AV.cells?, splice, partA, eq_self, mk, List.foldl_cons, List.foldl_nil, List.replicate_succ, List.replicate_zero, List.set_cons_zero, List.set_cons_succ, List.getElem?_cons_zero, List.getElem?_cons_succ, List.drop_zero, List.drop_succ_cons, List.drop_nil, List.take_zero, List.take_succ_cons, List.take_nil, Option.getD_some, List.length_cons, List.length_nil, Nat.reduceAdd, Nat.reduceLeDiff, Nat.reduceEqDiff, Nat.zero_add, List.nil_append, List.append_nil, bin_lss, bin_gtr, if_true, if_false, Bool.false_eq_true, decide_true, decide_false, Go.Eng.e2, ne_eq, not_true_eq_false, hlt', hr.idx hlt, hr.ld0 hz 2 true (by decide), e2, h1, h2, h3, h4]
      exact bad (by rw [he, cm_bad (fun hh => by have := hh.2.1; omega)])
    simp (maxSteps := 4000000) -implicitDefEqProofs -dsimp (disch := omega) only [↓AW_skip, ↓AW_ops, ↓AW_seq, ↓AW_cond, ↓AW_block, ↓AOps_nil, ↓AOps_pu, ↓AOps_ld, ↓AOps_call, ↓AOps_guard, on_some, guardB_ff, condB_t, ↓then_normal, pval, lval, rd_S, rd_C, put_S, chkd, isAdr, bput, bgot, AV.cells?, splice, partA, eq_self, mk, List.foldl_cons, List.foldl_nil, List.replicate_succ, List.replicate_zero, List.set_cons_zero, List.set_cons_succ, List.getElem?_cons_zero, List.getElem?_cons_succ, List.drop_zero, List.drop_succ_cons, List.drop_nil, List.take_zero, List.take_succ_cons, List.take_nil, Option.getD_some, map_c, map_n, List.length_cons, List.length_nil, Nat.reduceAdd, Nat.reduceLeDiff, Nat.reduceEqDiff, Nat.zero_add, List.nil_append, List.append_nil, bin_lss, bin_gtr, if_true, if_false, Bool.false_eq_true, decide_true, decide_false, Go.Eng.e2, ne_eq, not_true_eq_false, hlt', hr.idx hlt, hr.ld0 hz 2 true (by decide), e2, h1, h2, h3, h4]
    refine CallK.of (s82 _ ⟨by omega, by omega⟩ (by omega) (by omega)) ?_
    by_cases h5 : Int.gcd z.1 z.2 = 1
    · have hf : fitR z := ⟨by omega, by omega, h5⟩
      rw [cm_go hf] at he
      obtain ⟨q1, q2, q3, q4, q5, q6⟩ := lc_pos ho hf.1
      have h5' : (Int.gcd z.1 z.2 : Int) = 1 := by omega
      simp (maxSteps := 4000000) -implicitDefEqProofs -dsimp (disch := omega) only [↓AW_skip, ↓AW_ops, ↓AW_seq, ↓AW_cond, ↓AOps_nil, ↓AOps_pu, ↓AOps_call, ↓AOps_guard, on_some, extK_same, guardB_ff, condB_f, ↓then_normal, pval, rd_S, rd_C, put_S, chkd, isAdr, bgot, AV.cells?, partA, eq_self, mk, List.foldl_cons, List.foldl_nil, List.replicate_succ, List.replicate_zero, List.set_cons_zero, List.set_cons_succ, List.getElem?_cons_zero, List.getElem?_cons_succ, List.drop_zero, List.drop_succ_cons, List.take_succ_cons, List.take_nil, Option.getD_some, map_c, map_n, List.length_cons, List.length_nil, Nat.reduceAdd, Nat.reduceLeDiff, Nat.zero_add, bin_neq, if_true, if_false, Bool.false_eq_true, decide_false, not_true_eq_false, h5']
      refine CallK.of (s82 _ ⟨by omega, by omega⟩ (by omega) (by omega)) ?_
      by_cases h6 : 10000 < all / (Int.gcd all z.2 : Int) * z.2
      · rw [if_pos h6] at he
        simp (maxSteps := 4000000) -implicitDefEqProofs -dsimp (disch := omega) only [↓AW_ops, ↓AW_seq, ↓AW_cond, ↓AW_ret, ↓AOps_nil, ↓AOps_pu, on_some, extK_same, condB_t, ↓then_normal, ↓then_ret, ↓inBlock_ret, ↓Fin_ret, pval, rd_S, rd_C, put_S, resV, resL, chkd, isAdr, bgot, AV.cells?, partA, eq_self, mk, List.foldl_cons, List.foldl_nil, List.replicate_succ, List.replicate_zero, List.set_cons_zero, List.set_cons_succ, List.getElem?_cons_zero, List.getElem?_cons_succ, List.drop_zero, List.drop_succ_cons, List.take_succ_cons, List.take_nil, Option.getD_some, List.length_cons, List.length_nil, Nat.reduceAdd, Nat.reduceLeDiff, Nat.zero_add, bin_mul, bin_quo, bin_gtr, w64, if_true, if_false, Bool.false_eq_true, decide_true, q4, q3, h6]
        exact bad he
      · rw [if_neg h6] at he
        simp (maxSteps := 4000000) -implicitDefEqProofs -dsimp (disch := omega) only [↓AW_skip, ↓AW_ops, ↓AW_seq, ↓AW_cond, ↓AOps_nil, ↓AOps_pu, on_some, extK_same, condB_f, ↓then_normal, ↓inBlock_normal, pval, rd_S, rd_C, put_S, chkd, isAdr, bgot, AV.cells?, partA, eq_self, mk, List.foldl_cons, List.foldl_nil, List.replicate_succ, List.replicate_zero, List.set_cons_zero, List.set_cons_succ, List.getElem?_cons_zero, List.getElem?_cons_succ, List.drop_zero, List.drop_succ_cons, List.take_succ_cons, List.take_nil, Option.getD_some, List.length_cons, List.length_nil, Nat.reduceAdd, Nat.reduceLeDiff, Nat.zero_add, bin_add, bin_mul, bin_quo, bin_gtr, w64, if_true, if_false, Bool.false_eq_true, decide_false, true_and, q4, q3, h6]
        exact ⟨(i + 1, all / (Int.gcd all z.2 : Int) * z.2), ⟨hlt, by simp only; omega, he⟩, by simp [Has, rd_s], by simp only; omega⟩
    · have h5' : ¬ (Int.gcd z.1 z.2 : Int) = 1 := by omega
      simp (maxSteps := 4000000) -implicitDefEqProofs -dsimp (disch := omega) only [↓AW_ops, ↓AW_seq, ↓AW_cond, ↓AW_ret, ↓AOps_nil, ↓AOps_pu, ↓AOps_guard, on_some, extK_same, guardB_ff, condB_t, ↓then_normal, ↓then_ret, ↓inBlock_ret, ↓Fin_ret, pval, rd_S, rd_C, put_S, resV, resL, mk, List.foldl_cons, List.foldl_nil, List.replicate_succ, List.replicate_zero, List.set_cons_zero, List.set_cons_succ, List.getElem?_cons_zero, List.getElem?_cons_succ, Option.getD_some, bin_neq, if_false, Bool.false_eq_true, decide_true, not_false_eq_true, h5']
      exact bad (by rw [he, cm_bad (fun hh => h5 hh.2.2)])
  · have hlt' : ¬ ((i : Int) < rs.length) := by omega
    rw [List.drop_of_length_le (by omega)] at he
    simp (maxSteps := 4000000) -implicitDefEqProofs -dsimp (disch := omega) only [↓AW_ops, ↓AW_seq, ↓AW_cond, ↓AW_exit, ↓AW_ret, ↓AOps_nil, ↓AOps_pu, on_some, condB_f, ↓then_normal, ↓then_exit, ↓inBlock_exit, ↓Fin_ret, pval, rd_S, rd_C, put_S, resV, resL, eq_self, mk, List.foldl_cons, List.foldl_nil, List.replicate_succ, List.replicate_zero, List.set_cons_zero, List.set_cons_succ, List.getElem?_cons_zero, List.getElem?_cons_succ, Option.getD_some, bin_lss, if_true, decide_false, hlt']
    have he' : cm 1 rs = all := he
    refine gc_same ?_
    rw [he']
    have : ¬ all = 0 := by omega
    simp [this]
theorem c_Common (hr : L2 A v rs) (hl : rs.length ≤ 1000000) : ACalls Try.prog 56 [v] A (I (cm 1 rs)) A := by
  refine acalls hmix Try.func56 (by kernel_rfl) t56 1 rfl (by decide) ?_
  dsimp only [m56]
  simp (maxSteps := 4000000) -implicitDefEqProofs -dsimp (disch := omega) only [↓AW_ops, ↓AW_seq, ↓AW_block, ↓AOps_nil, ↓AOps_pu, on_some, ↓then_normal, pval, rd_C, put_S, ↓AW_toLoop, List.replicate_succ, List.replicate_zero, List.set_cons_zero, List.set_cons_succ, Nat.reduceSub, List.cons_append, List.nil_append]
  refine LoopK.by 59 (fun x : Nat × Int => x.1 ≤ rs.length ∧ (1 ≤ x.2 ∧ x.2 ≤ 10000) ∧ cm 1 rs = cm x.2 (rs.drop x.1)) (fun x => [(0, v), (3, I x.2), (4, I x.1)]) (fun _ => A) (fun x => rs.length - x.1) (0, 1) ⟨by simp only; omega, by simp only; omega, by simp⟩ rfl (by simp [Has, rd_s]) rfl ?_
  rintro ⟨i, all⟩ ⟨hi, ho, he⟩
  simp only at hi ho he
  by_cases hlt : i < rs.length
  · obtain ⟨z, hz⟩ : ∃ z, rs[i]? = some z := ⟨_, List.getElem?_eq_getElem hlt⟩
    have hlt' : (i : Int) < rs.length := by omega
    rw [drop_at hz] at he
    have bad : cm 1 rs = 0 → GC A (I 0) A (I (cm 1 rs)) A := by
      intro h; rw [h]; exact gc_same rfl
    simp (maxSteps := 4000000) -implicitDefEqProofs -dsimp (disch := omega) only [↓AW_skip, ↓AW_ops, ↓AW_seq, ↓AW_cond, ↓AW_block, ↓AOps_nil, ↓AOps_pu, ↓AOps_ld, ↓AOps_call, on_some, condB_t, ↓then_normal, pval, lval, rd_S, rd_C, put_S, partA, eq_self, mk, List.foldl_cons, List.foldl_nil, List.replicate_succ, List.replicate_zero, List.set_cons_zero, List.set_cons_succ, List.getElem?_cons_zero, List.getElem?_cons_succ, List.drop_zero, List.drop_succ_cons, List.take_succ_cons, List.take_nil, Option.getD_some, map_c, map_n, List.length_cons, List.length_nil, Nat.reduceAdd, Nat.reduceLeDiff, Nat.zero_add, bin_lss, if_true, if_false, Bool.false_eq_true, decide_true, Go.Eng.e2, hlt', hr.len, hr.idx hlt, hr.ld hz 1 1 false (by decide), e2]
    refine CallK.of (c_wi _ _ _ _) ?_
    by_cases h1 : 1 ≤ z.2 ∧ z.2 ≤ 10000
    case neg =>
      simp (maxSteps := 4000000) -implicitDefEqProofs -dsimp (disch := omega) only [↓AW_ops, ↓AW_seq, ↓AW_cond, ↓AW_ret, ↓AOps_nil, ↓AOps_pu, ↓AOps_guard, on_some, extK_same, guardB_tf, skipS_some, condB_t, ↓then_normal, ↓then_ret, ↓inBlock_ret, ↓Fin_ret, pval, rd_S, rd_C, put_S, resV, resL, eq_self, mk, List.foldl_cons, List.foldl_nil, List.replicate_succ, List.replicate_zero, List.set_cons_zero, List.set_cons_succ, List.getElem?_cons_zero, List.getElem?_cons_succ, Option.getD_some, if_true, Bool.not_false, decide_false, h1]
      exact bad (by rw [he, cm_bad (fun hh => h1 hh.1)])
    simp (maxSteps := 4000000) -implicitDefEqProofs -dsimp (disch := omega) only [↓AOps_pu, ↓AOps_ld, ↓AOps_call, ↓AOps_guard, on_some, extK_same, guardB_ff, pval, lval, rd_S, rd_C, put_S, partA, eq_self, mk, List.foldl_cons, List.foldl_nil, List.replicate_succ, List.replicate_zero, List.set_cons_zero, List.set_cons_succ, List.getElem?_cons_zero, List.getElem?_cons_succ, List.drop_zero, List.take_zero, List.take_succ_cons, Option.getD_some, map_c, map_n, List.length_cons, List.length_nil, Nat.reduceAdd, Nat.reduceLeDiff, Nat.zero_add, Nat.add_zero, if_true, if_false, Bool.false_eq_true, Bool.not_true, decide_true, Go.Eng.e2, and_true, h1, hr.idx hlt, hr.ld0 hz 1 false (by decide), e2]
    refine CallK.of (c_wi _ _ _ _) ?_
    by_cases h2 : 0 ≤ z.1 ∧ z.1 ≤ 10000000
    case neg =>
      simp (maxSteps := 4000000) -implicitDefEqProofs -dsimp (disch := omega) only [↓AW_ops, ↓AW_seq, ↓AW_cond, ↓AW_ret, ↓AOps_nil, ↓AOps_pu, ↓AOps_guard, on_some, extK_same, guardB_tf, guardB_ff, skipS_some, condB_t, ↓then_normal, ↓then_ret, ↓inBlock_ret, ↓Fin_ret, pval, rd_S, rd_C, put_S, resV, resL, eq_self, mk, List.foldl_cons, List.foldl_nil, List.replicate_succ, List.replicate_zero, List.set_cons_zero, List.set_cons_succ, List.getElem?_cons_zero, List.getElem?_cons_succ, Option.getD_some, if_true, if_false, Bool.false_eq_true, Bool.not_false, decide_false, h2]
      exact bad (by rw [he, cm_bad (fun hh => h2 hh.2.1)])
    simp (maxSteps := 4000000) -implicitDefEqProofs -dsimp (disch := omega) only [↓AOps_pu, ↓AOps_ld, ↓AOps_call, ↓AOps_guard, on_some, extK_same, guardB_ff, pval, lval, rd_S, rd_C, put_S, partA, eq_self, mk, List.foldl_cons, List.foldl_nil, List.replicate_succ, List.replicate_zero, List.set_cons_zero, List.set_cons_succ, List.getElem?_cons_zero, List.getElem?_cons_succ, List.drop_zero, List.drop_succ_cons, List.take_zero, List.take_succ_cons, List.take_nil, Option.getD_some, map_c, map_n, List.length_cons, List.length_nil, Nat.reduceAdd, Nat.reduceLeDiff, Nat.zero_add, Nat.add_zero, if_true, if_false, Bool.false_eq_true, Bool.not_true, decide_true, Go.Eng.e2, and_true, h2, hr.idx hlt, hr.ld0 hz 1 false (by decide), hr.ld hz 1 1 false (by decide), e2]
    refine CallK.of (s80 _ ⟨by omega, by omega⟩ (by omega) (by omega)) ?_
    by_cases h5 : Int.gcd z.1 z.2 = 1
    · have hf : fitR z := ⟨h1, h2, h5⟩
      rw [cm_go hf] at he
      obtain ⟨q1, q2, q3, q4, q5, q6⟩ := lc_pos ho hf.1
      have h5' : (Int.gcd z.1 z.2 : Int) = 1 := by omega
      simp (maxSteps := 4000000) -implicitDefEqProofs -dsimp (disch := omega) only [↓AW_skip, ↓AW_ops, ↓AW_seq, ↓AW_cond, ↓AOps_nil, ↓AOps_pu, ↓AOps_ld, ↓AOps_call, ↓AOps_guard, on_some, extK_same, guardB_ff, condB_f, ↓then_normal, pval, lval, rd_S, rd_C, put_S, partA, eq_self, mk, List.foldl_cons, List.foldl_nil, List.replicate_succ, List.replicate_zero, List.set_cons_zero, List.set_cons_succ, List.getElem?_cons_zero, List.getElem?_cons_succ, List.drop_zero, List.drop_succ_cons, List.take_succ_cons, List.take_nil, Option.getD_some, map_c, map_n, List.length_cons, List.length_nil, Nat.reduceAdd, Nat.reduceLeDiff, Nat.zero_add, bin_neq, if_true, if_false, Bool.false_eq_true, decide_false, Go.Eng.e2, not_true_eq_false, h5', hr.idx hlt, hr.ld hz 1 1 false (by decide), e2]
      refine CallK.of (s80 _ ⟨by omega, by omega⟩ (by omega) (by omega)) ?_
      by_cases h6 : 10000 < all / (Int.gcd all z.2 : Int) * z.2
      · rw [if_pos h6] at he
        simp (maxSteps := 4000000) -implicitDefEqProofs -dsimp (disch := omega) only [↓AW_ops, ↓AW_seq, ↓AW_cond, ↓AW_ret, ↓AOps_nil, ↓AOps_pu, ↓AOps_ld, on_some, extK_same, condB_t, ↓then_normal, ↓then_ret, ↓inBlock_ret, ↓Fin_ret, pval, lval, rd_S, rd_C, put_S, resV, resL, partA, eq_self, mk, List.foldl_cons, List.foldl_nil, List.replicate_succ, List.replicate_zero, List.set_cons_zero, List.set_cons_succ, List.getElem?_cons_zero, List.getElem?_cons_succ, List.drop_zero, List.drop_succ_cons, List.take_succ_cons, List.take_nil, Option.getD_some, List.length_cons, List.length_nil, Nat.reduceAdd, Nat.reduceLeDiff, Nat.zero_add, bin_mul, bin_quo, bin_gtr, w64, if_true, if_false, Bool.false_eq_true, decide_true, Go.Eng.e2, q4, q3, h6, hr.idx hlt, hr.ld hz 1 1 false (by decide), e2]
        exact bad he
      · rw [if_neg h6] at he
        simp (maxSteps := 4000000) -implicitDefEqProofs -dsimp (disch := omega) only [↓AW_skip, ↓AW_ops, ↓AW_seq, ↓AW_cond, ↓AOps_nil, ↓AOps_pu, ↓AOps_ld, on_some, extK_same, condB_f, ↓then_normal, ↓inBlock_normal, pval, lval, rd_S, rd_C, put_S, partA, eq_self, mk, List.foldl_cons, List.foldl_nil, List.replicate_succ, List.replicate_zero, List.set_cons_zero, List.set_cons_succ, List.getElem?_cons_zero, List.getElem?_cons_succ, List.drop_zero, List.drop_succ_cons, List.take_succ_cons, List.take_nil, Option.getD_some, List.length_cons, List.length_nil, Nat.reduceAdd, Nat.reduceLeDiff, Nat.zero_add, bin_add, bin_mul, bin_quo, bin_gtr, w64, if_true, if_false, Bool.false_eq_true, decide_false, Go.Eng.e2, true_and, q4, q3, h6, hr.idx hlt, hr.ld hz 1 1 false (by decide), e2]
        exact ⟨(i + 1, all / (Int.gcd all z.2 : Int) * z.2), ⟨hlt, by simp only; omega, he⟩, by simp [Has, rd_s], by simp only; omega⟩
    · have h5' : ¬ (Int.gcd z.1 z.2 : Int) = 1 := by omega
      simp (maxSteps := 4000000) -implicitDefEqProofs -dsimp (disch := omega) only [↓AW_ops, ↓AW_seq, ↓AW_cond, ↓AW_ret, ↓AOps_nil, ↓AOps_pu, ↓AOps_guard, on_some, extK_same, guardB_ff, condB_t, ↓then_normal, ↓then_ret, ↓inBlock_ret, ↓Fin_ret, pval, rd_S, rd_C, put_S, resV, resL, mk, List.foldl_cons, List.foldl_nil, List.replicate_succ, List.replicate_zero, List.set_cons_zero, List.set_cons_succ, List.getElem?_cons_zero, List.getElem?_cons_succ, Option.getD_some, bin_neq, if_false, Bool.false_eq_true, decide_true, not_false_eq_true, h5']
      exact bad (by rw [he, cm_bad (fun hh => h5 hh.2.2)])
  · have hlt' : ¬ ((i : Int) < rs.length) := by omega
    rw [List.drop_of_length_le (by omega)] at he
    simp (maxSteps := 4000000) -implicitDefEqProofs -dsimp (disch := omega) only [↓AW_ops, ↓AW_seq, ↓AW_cond, ↓AW_exit, ↓AW_ret, ↓AOps_nil, ↓AOps_pu, on_some, condB_f, ↓then_normal, ↓then_exit, ↓inBlock_exit, ↓Fin_ret, pval, rd_S, put_S, resV, resL, eq_self, mk, List.foldl_cons, List.foldl_nil, List.replicate_succ, List.replicate_zero, List.set_cons_zero, List.set_cons_succ, List.getElem?_cons_zero, List.getElem?_cons_succ, Option.getD_some, bin_lss, if_true, decide_false, hlt', hr.len]
    have he' : cm 1 rs = all := he
    exact gc_same (by rw [he'])
/-- The numbers of a list over a denominator. -/
def ov (den : Int) (rs : List (Int × Int)) : List Int := rs.map (fun r => r.1 * (den / r.2))
theorem ov_len (den : Int) (rs : List (Int × Int)) : (ov den rs).length = rs.length := by simp [ov]
theorem ov_take {den : Int} {i : Nat} {r : Int × Int} (h : rs[i]? = some r) : (ov den rs).take (i + 1) = (ov den rs).take i ++ [r.1 * (den / r.2)] := by
  unfold ov
  rw [List.take_add_one, List.getElem?_map, h]
  rfl
theorem ov_bd {den : Int} (hd : 0 ≤ den ∧ den ≤ 10000) {r : Int × Int} (h : fitR r) : den.tdiv r.2 = den / r.2 ∧ (0 ≤ den / r.2 ∧ den / r.2 ≤ 10000) ∧ 0 ≤ r.1 * (den / r.2) ∧ r.1 * (den / r.2) ≤ 100000000000 := by
  have h0 := h.1
  have h1 := h.2.1
  have e1 := Int.tdiv_eq_ediv_of_nonneg (b := r.2) hd.1
  have e2 : 0 ≤ den / r.2 := Int.ediv_nonneg hd.1 (by omega)
  have e3 : den / r.2 ≤ den := Int.ediv_le_self _ hd.1
  have e4 := Int.mul_le_mul h1.2 (show den / r.2 ≤ 10000 by omega) e2 (by omega : (0 : Int) ≤ 10000000)
  have e5 := Int.mul_nonneg h1.1 e2
  exact ⟨e1, by omega, e5, by omega⟩
theorem c_over (hr : L2 A v rs) (hl : rs.length ≤ 1000000) {den : Int} (hd : 0 ≤ den ∧ den ≤ 10000) (hf : ∀ r ∈ rs, fitR r) : ACalls Try.prog 71 [v, I den] A (outV 1 A (ov den rs).length) (outH A ((ov den rs).flatMap e1) (ov den rs).length) := by
  refine acalls hmix Try.func71 (by kernel_rfl) t71 2 rfl (by decide) ?_
  have hlen := ov_len den rs
  dsimp only [m71]
  simp (maxSteps := 4000000) -implicitDefEqProofs -dsimp (disch := omega) only [↓AW_ops, ↓AW_seq, ↓AW_block, ↓AOps_nil, ↓AOps_pu, on_some, ↓then_normal, pval, rd_S, rd_C, put_S, ↓AW_toLoop, List.replicate_succ, List.replicate_zero, List.set_cons_zero, List.set_cons_succ, List.getElem?_cons_zero, List.getElem?_cons_succ, Option.getD_some, Nat.reduceSub, List.cons_append, List.nil_append, hr.len]
  refine LoopK.by 26 (fun x : Nat × AV × AHeap => x.1 ≤ rs.length ∧ AccL 1 e1 A x.2.2 x.2.1 ((ov den rs).take x.1)) (fun x => [(1, I den), (5, x.2.1), (8, v), (9, I rs.length), (10, I x.1)]) (fun x => x.2.2) (fun x => rs.length - x.1) (0, .nilS, A) ⟨by simp only; omega, AccL.nil (List.prefix_refl _)⟩ rfl (by simp [Has, rd_s]) rfl ?_
  rintro ⟨i, w, A1⟩ ⟨hi, hu⟩
  simp only at hi hu
  have hr1 := hr.mono hu.pre
  by_cases hlt : i < rs.length
  · obtain ⟨z, hz⟩ : ∃ z, rs[i]? = some z := ⟨_, List.getElem?_eq_getElem hlt⟩
    have hlt' : (i : Int) < rs.length := by omega
    have hfz := hf z (List.mem_of_getElem? hz)
    have h0 := hfz.1
    have h1 := hfz.2.1
    have hne : ¬ z.2 = 0 := by omega
    obtain ⟨e1', e2', e3', e4'⟩ := ov_bd hd hfz
    obtain ⟨u3, A3, happ, hu3⟩ := hu.push e1_len (z.1 * (den / z.2)) (by rw [List.length_take]; simp [lim]; omega)
    rw [← ov_take hz] at hu3
    simp only [e1] at happ
    simp (maxSteps := 4000000) -implicitDefEqProofs -dsimp (disch := omega) only [↓AW_skip, ↓AW_ops, ↓AW_seq, ↓AW_cond, ↓AW_block, ↓AOps_nil, ↓AOps_pu, ↓AOps_ld, ↓AOps_ha, on_some, extK_false, extK_app, condB_t, ↓then_normal, ↓inBlock_normal, pval, lval, hval, rd_S, rd_C, put_S, chkd, isAdr, bput, bgot, AV.cells?, splice, partA, fillA, repl, eq_self, mk, List.foldl_cons, List.foldl_nil, List.replicate_succ, List.replicate_zero, List.set_cons_zero, List.set_cons_succ, List.getElem?_cons_zero, List.getElem?_cons_succ, List.drop_zero, List.drop_succ_cons, List.drop_nil, List.take_zero, List.take_succ_cons, List.take_nil, Option.getD_some, map_c, map_n, List.length_cons, List.length_nil, Nat.reduceAdd, Nat.reduceLeDiff, Nat.reduceEqDiff, Nat.zero_add, List.nil_append, List.append_nil, bin_add, bin_mul, bin_quo, bin_lss, w64, if_true, if_false, Bool.false_eq_true, decide_true, Go.Eng.e2, true_and, and_true, ne_eq, not_true_eq_false, hlt', hr1.idx hlt, hr1.ld0 hz 2 true (by decide), e2, hne, e1', happ]
    exact ⟨(i + 1, u3, A3), ⟨hlt, hu3⟩, by simp [Has, rd_s], rfl, by simp only; omega⟩
  · have hlt' : ¬ ((i : Int) < rs.length) := by omega
    simp (maxSteps := 4000000) -implicitDefEqProofs -dsimp (disch := omega) only [↓AW_ops, ↓AW_seq, ↓AW_cond, ↓AW_exit, ↓AW_ret, ↓AOps_nil, ↓AOps_pu, on_some, condB_f, ↓then_normal, ↓then_exit, ↓inBlock_exit, ↓Fin_ret, pval, rd_S, put_S, resV, resL, eq_self, mk, List.foldl_cons, List.foldl_nil, List.replicate_succ, List.replicate_zero, List.set_cons_zero, List.set_cons_succ, List.getElem?_cons_zero, List.getElem?_cons_succ, Option.getD_some, bin_lss, if_true, decide_false, hlt']
    rw [List.take_of_length_le (by omega)] at hu
    exact hu.gc flat_e1
theorem c_Over (hr : L2 A v rs) (hl : rs.length ≤ 1000000) {den : Int} (hd : 0 ≤ den ∧ den ≤ 10000) (hf : ∀ r ∈ rs, fitR r) : ACalls Try.prog 74 [v, I den] A (outV 1 A (ov den rs).length) (outH A ((ov den rs).flatMap e1) (ov den rs).length) := by
  refine acalls hmix Try.func74 (by kernel_rfl) t74 2 rfl (by decide) ?_
  have hlen := ov_len den rs
  dsimp only [m74]
  simp (maxSteps := 4000000) -implicitDefEqProofs -dsimp (disch := omega) only [↓AW_ops, ↓AW_seq, ↓AW_block, ↓AOps_nil, ↓AOps_pu, on_some, ↓then_normal, pval, rd_C, put_S, ↓AW_toLoop, List.replicate_succ, List.replicate_zero, List.set_cons_zero, List.set_cons_succ, Nat.reduceSub, List.cons_append, List.nil_append]
  refine LoopK.by 30 (fun x : Nat × AV × AHeap => x.1 ≤ rs.length ∧ AccL 1 e1 A x.2.2 x.2.1 ((ov den rs).take x.1)) (fun x => [(0, v), (1, I den), (5, x.2.1), (6, I x.1)]) (fun x => x.2.2) (fun x => rs.length - x.1) (0, .nilS, A) ⟨by simp only; omega, AccL.nil (List.prefix_refl _)⟩ rfl (by simp [Has, rd_s]) rfl ?_
  rintro ⟨i, w, A1⟩ ⟨hi, hu⟩
  simp only at hi hu
  have hr1 := hr.mono hu.pre
  by_cases hlt : i < rs.length
  · obtain ⟨z, hz⟩ : ∃ z, rs[i]? = some z := ⟨_, List.getElem?_eq_getElem hlt⟩
    have hlt' : (i : Int) < rs.length := by omega
    have hfz := hf z (List.mem_of_getElem? hz)
    have h0 := hfz.1
    have h1 := hfz.2.1
    have hne : ¬ z.2 = 0 := by omega
    obtain ⟨e1', e2', e3', e4'⟩ := ov_bd hd hfz
    obtain ⟨u3, A3, happ, hu3⟩ := hu.push e1_len (z.1 * (den / z.2)) (by rw [List.length_take]; simp [lim]; omega)
    rw [← ov_take hz] at hu3
    simp only [e1] at happ
    simp (maxSteps := 4000000) -implicitDefEqProofs -dsimp (disch := omega) only [↓AW_skip, ↓AW_ops, ↓AW_seq, ↓AW_cond, ↓AW_block, ↓AOps_nil, ↓AOps_pu, ↓AOps_ld, ↓AOps_ha, on_some, extK_false, extK_app, condB_t, ↓then_normal, ↓inBlock_normal, pval, lval, hval, rd_S, rd_C, put_S, AV.cells?, splice, partA, fillA, repl, eq_self, mk, List.foldl_cons, List.foldl_nil, List.replicate_succ, List.replicate_zero, List.set_cons_zero, List.set_cons_succ, List.getElem?_cons_zero, List.getElem?_cons_succ, List.drop_zero, List.drop_succ_cons, List.drop_nil, List.take_zero, List.take_succ_cons, List.take_nil, Option.getD_some, map_c, map_n, List.length_cons, List.length_nil, Nat.reduceAdd, Nat.reduceLeDiff, Nat.zero_add, Nat.add_zero, List.nil_append, List.append_nil, bin_add, bin_mul, bin_quo, bin_lss, w64, if_true, if_false, Bool.false_eq_true, decide_true, Go.Eng.e2, true_and, and_true, hlt', hr1.len, hr1.idx hlt, hr1.ld0 hz 1 false (by decide), hr1.ld hz 1 1 false (by decide), e2, hne, e1', happ]
    exact ⟨(i + 1, u3, A3), ⟨hlt, hu3⟩, by simp [Has, rd_s], rfl, by simp only; omega⟩
  · have hlt' : ¬ ((i : Int) < rs.length) := by omega
    simp (maxSteps := 4000000) -implicitDefEqProofs -dsimp (disch := omega) only [↓AW_ops, ↓AW_seq, ↓AW_cond, ↓AW_exit, ↓AW_ret, ↓AOps_nil, ↓AOps_pu, on_some, condB_f, ↓then_normal, ↓then_exit, ↓inBlock_exit, ↓Fin_ret, pval, rd_S, put_S, resV, resL, eq_self, mk, List.foldl_cons, List.foldl_nil, List.replicate_succ, List.replicate_zero, List.set_cons_zero, List.set_cons_succ, List.getElem?_cons_zero, List.getElem?_cons_succ, Option.getD_some, bin_lss, if_true, decide_false, hlt', hr1.len]
    rw [List.take_of_length_le (by omega)] at hu
    exact hu.gc flat_e1
end
end Go.Proofs.Ytdcdjhhjlpegjaa

