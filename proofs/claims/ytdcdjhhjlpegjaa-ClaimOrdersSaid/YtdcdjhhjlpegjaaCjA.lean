/- What the law's proof rests on, part 3: for all that is said in each line. No conditions. -/
import Derived.Test.YtdcdjhhjlpegjaaRows
import Derived.Test.YtdcdjhhjlpegjaaEnB
namespace Go.Proofs.Ytdcdjhhjlpegjaa
open Go Go.Eng
/-- selion/claim.Validate [] -/
def m16 : MFun := ⟨18, [], [.mov (.s 4)],
 .seq (.ops [⟨(some 4), some undefA, none, false, .pu (.mov (.c (.int .i64 0)))⟩])
 (.seq (.seq (.ops [⟨(some 5), some undefA, none, false, .pu (.mov (.s 0))⟩,
   ⟨(some 6), some undefA, none, false, .call 53 [(.s 5)]⟩,
   ⟨(some 7), some undefA, none, false, .pu (.not (.s 6))⟩,
   ⟨(some 8), some undefA, none, false, .pu (.mov (.s 7))⟩,
   ⟨(some 9), some undefA, (some (8, false)), false, .pu (.mov (.s 1))⟩,
   ⟨(some 10), some undefA, (some (8, false)), false, .pu (.bin .lss (.s 9) (.c (.int .i64 0)))⟩,
   ⟨(some 11), some undefA, none, false, .pu (.pick (.s 8) (.c (.bool true)) (.s 10))⟩,
   ⟨(some 12), some undefA, none, false, .pu (.mov (.s 11))⟩,
   ⟨(some 13), some undefA, (some (12, false)), false, .pu (.mov (.s 1))⟩,
   ⟨(some 14), some undefA, (some (12, false)), false, .pu (.mov (.s 0))⟩,
   ⟨(some 15), some undefA, (some (12, false)), false, .call 54 [(.s 14)]⟩,
   ⟨(some 16), some undefA, (some (12, false)), false, .pu (.bin .gtr (.s 13) (.s 15))⟩,
   ⟨(some 17), some undefA, none, false, .pu (.pick (.s 12) (.c (.bool true)) (.s 16))⟩])
 (.cond (.s 17) (.seq (.ops [⟨(some 4), some undefA, none, false, .pu (.mov (.c (.int .i64 1)))⟩])
  (.ret))
 (.skip)))
 (.seq (.ops [⟨(some 4), some undefA, none, false, .pu (.mov (.c (.int .i64 0)))⟩])
 (.ret)))⟩
theorem t16 : trF Try.prog [] [] Try.f16 = some m16 := by kernel_rfl
/-- selion/selionlaw03.known [] -/
def m17 : MFun := ⟨34, [], [.mov (.s 0)],
 .seq (.ops [⟨(some 0), some undefA, none, false, .pu (.mov (.c (.bool false)))⟩])
 (.seq (.ops [⟨(some 6), some undefA, none, false, .ha (.blds 1 3 [.int .i64 0] [(0, 1, (.c (.int .i64 100))), (1, 1, (.c (.int .i64 200))), (2, 1, (.c (.int .i64 300)))])⟩,
   ⟨(some 7), some undefA, none, false, .call 21 [(.s 6), (.c (.int .i64 200))]⟩,
   ⟨(some 5), some undefA, none, false, .pu (.mov (.s 7))⟩,
   ⟨(some 8), some undefA, none, false, .pu (.extr 0 (.s 5))⟩,
   ⟨(some 9), some undefA, none, false, .pu (.extr 1 (.s 5))⟩,
   ⟨(some 1), some undefA, none, false, .pu (.mov (.s 8))⟩,
   ⟨(some 2), some undefA, none, false, .pu (.mov (.s 9))⟩])
 (.seq (.ops [⟨(some 11), some undefA, none, false, .ha (.blds 1 3 [.int .i64 0] [(0, 1, (.c (.int .i64 1))), (1, 1, (.c (.int .i64 1))), (2, 1, (.c (.int .i64 1)))])⟩,
   ⟨(some 12), some undefA, none, false, .call 31 [(.s 11), (.c (.int .i64 2))]⟩,
   ⟨(some 10), some undefA, none, false, .pu (.mov (.s 12))⟩,
   ⟨(some 13), some undefA, none, false, .pu (.extr 0 (.s 10))⟩,
   ⟨(some 14), some undefA, none, false, .pu (.extr 1 (.s 10))⟩,
   ⟨(some 3), some undefA, none, false, .pu (.mov (.s 13))⟩,
   ⟨(some 4), some undefA, none, false, .pu (.mov (.s 14))⟩])
 (.seq (.ops [⟨(some 15), some undefA, none, false, .pu (.mov (.s 2))⟩,
   ⟨(some 16), some undefA, none, false, .pu (.bin .eql (.s 15) (.c (.int .i64 0)))⟩,
   ⟨(some 17), some undefA, none, false, .pu (.mov (.s 16))⟩,
   ⟨(some 18), some undefA, (some (17, true)), false, .pu (.mov (.s 1))⟩,
   ⟨(some 19), some undefA, (some (17, true)), false, .pu (.build [.int .i64 0, .int .i64 0] [(0, 1, (.c (.int .i64 50))), (1, 1, (.c (.int .i64 1)))])⟩,
   ⟨(some 20), some undefA, (some (17, true)), false, .pu (.build [.int .i64 0, .int .i64 0] [(0, 1, (.c (.int .i64 75))), (1, 1, (.c (.int .i64 1)))])⟩,
   ⟨(some 21), some undefA, (some (17, true)), false, .pu (.build [.int .i64 0, .int .i64 0] [(0, 1, (.c (.int .i64 75))), (1, 1, (.c (.int .i64 1)))])⟩,
   ⟨(some 22), some undefA, (some (17, true)), false, .ha (.blds 2 3 [.int .i64 0, .int .i64 0] [(0, 2, (.s 19)), (2, 2, (.s 20)), (4, 2, (.s 21))])⟩,
   ⟨(some 23), some undefA, (some (17, true)), false, .call 30 [(.s 18), (.s 22)]⟩,
   ⟨(some 24), some undefA, none, false, .pu (.pick (.s 17) (.s 23) (.c (.bool false)))⟩,
   ⟨(some 25), some undefA, none, false, .pu (.mov (.s 24))⟩,
   ⟨(some 26), some undefA, (some (25, true)), false, .pu (.mov (.s 4))⟩,
   ⟨(some 27), some undefA, (some (25, true)), false, .pu (.bin .eql (.s 26) (.c (.int .i64 0)))⟩,
   ⟨(some 28), some undefA, none, false, .pu (.pick (.s 25) (.s 27) (.c (.bool false)))⟩,
   ⟨(some 29), some undefA, none, false, .pu (.mov (.s 28))⟩,
   ⟨(some 30), some undefA, (some (29, true)), false, .pu (.mov (.s 3))⟩,
   ⟨(some 31), some undefA, (some (29, true)), false, .ha (.blds 1 3 [.int .i64 0] [(0, 1, (.c (.int .i64 1))), (1, 1, (.c (.int .i64 1))), (2, 1, (.c (.int .i64 0)))])⟩,
   ⟨(some 32), some undefA, (some (29, true)), false, .call 26 [(.s 30), (.s 31)]⟩,
   ⟨(some 33), some undefA, none, false, .pu (.pick (.s 29) (.s 32) (.c (.bool false)))⟩,
   ⟨(some 0), some undefA, none, false, .pu (.mov (.s 33))⟩])
 (.ret))))⟩
theorem t17 : trF Try.prog [] [] Try.f17 = some m17 := by kernel_rfl
/-- selion/claim.ByCourt [] -/
def m21 : MFun := ⟨11, [], [.mov (.s 4), .mov (.s 5)],
 .seq (.ops [⟨(some 4), some undefA, none, false, .pu (.mov (.c (.nilS)))⟩,
   ⟨(some 5), some undefA, none, false, .pu (.mov (.c (.int .i64 0)))⟩])
 (.seq (.ops [⟨(some 6), some undefA, none, false, .pu (.mov (.s 0))⟩,
   ⟨(some 7), some undefA, none, false, .pu (.mov (.s 1))⟩,
   ⟨(some 8), some undefA, none, false, .call 55 [(.c (.int .i64 3)), (.s 6), (.s 7)]⟩,
   ⟨(some 9), some undefA, none, false, .pu (.extr 0 (.s 8))⟩,
   ⟨(some 10), some undefA, none, false, .pu (.extr 1 (.s 8))⟩,
   ⟨(some 4), some undefA, none, false, .pu (.mov (.s 9))⟩,
   ⟨(some 5), some undefA, none, false, .pu (.mov (.s 10))⟩])
 (.ret))⟩
theorem t21 : trF Try.prog [] [] Try.f21 = some m21 := by kernel_rfl
/-- selion/selionref01.SameInts [loop [0, 1, 5]] -/
def m26 : MFun := ⟨26, [], [.mov (.s 4)],
 .seq (.ops [⟨(some 4), some undefA, none, false, .pu (.mov (.c (.bool false)))⟩])
 (.seq (.seq (.ops [⟨(some 6), some undefA, none, false, .pu (.mov (.s 0))⟩,
   ⟨(some 7), some undefA, none, false, .pu (.len (.s 6))⟩,
   ⟨(some 8), some undefA, none, false, .pu (.mov (.s 1))⟩,
   ⟨(some 9), some undefA, none, false, .pu (.len (.s 8))⟩,
   ⟨(some 10), some undefA, none, false, .pu (.bin .neq (.s 7) (.s 9))⟩])
 (.cond (.s 10) (.seq (.ops [⟨(some 4), some undefA, none, false, .pu (.mov (.c (.bool false)))⟩])
  (.ret))
 (.skip)))
 (.seq (.seq (.ops [⟨(some 5), some undefA, none, false, .pu (.mov (.c (.int .i64 0)))⟩])
 (.block 0 (.loop (.seq (.seq (.ops [⟨(some 11), some undefA, none, false, .pu (.mov (.s 5))⟩,
     ⟨(some 12), some undefA, none, false, .pu (.mov (.s 0))⟩,
     ⟨(some 13), some undefA, none, false, .pu (.len (.s 12))⟩,
     ⟨(some 14), some undefA, none, false, .pu (.bin .lss (.s 11) (.s 13))⟩])
   (.cond (.s 14) (.skip)
   (.exit 0)))
   (.seq (.block 1 (.seq (.ops [⟨(some 17), some undefA, none, true, .pu (.mov (.s 0))⟩,
      ⟨(some 18), some undefA, none, true, .pu (.mov (.s 5))⟩,
      ⟨(some 19), some undefA, none, true, .pu (.idx 1 (.s 17) (.s 18))⟩,
      ⟨(some 20), some undefA, none, true, .ld (.ld 1 false (.s 19))⟩,
      ⟨(some 21), some undefA, none, true, .pu (.mov (.s 1))⟩,
      ⟨(some 22), some undefA, none, true, .pu (.mov (.s 5))⟩,
      ⟨(some 23), some undefA, none, true, .pu (.idx 1 (.s 21) (.s 22))⟩,
      ⟨(some 24), some undefA, none, true, .ld (.ld 1 false (.s 23))⟩,
      ⟨(some 25), some undefA, none, false, .pu (.bin .neq (.s 20) (.s 24))⟩])
    (.cond (.s 25) (.seq (.ops [⟨(some 4), some undefA, none, false, .pu (.mov (.c (.bool false)))⟩])
     (.ret))
    (.skip))))
   (.ops [⟨(some 15), some undefA, none, false, .pu (.mov (.s 5))⟩,
     ⟨(some 16), some undefA, none, false, .pu (.bin .add (.s 15) (.c (.int .i64 1)))⟩,
     ⟨(some 5), some undefA, none, false, .pu (.mov (.s 16))⟩]))))))
 (.seq (.ops [⟨(some 4), some undefA, none, false, .pu (.mov (.c (.bool true)))⟩])
 (.ret))))⟩
theorem t26 : trF Try.prog [] [] Try.f26 = some m26 := by kernel_rfl
/-- selion/selionref03.SameRats [loop [0, 1, 5]] -/
def m30 : MFun := ⟨26, [], [.mov (.s 4)],
 .seq (.ops [⟨(some 4), some undefA, none, false, .pu (.mov (.c (.bool false)))⟩])
 (.seq (.seq (.ops [⟨(some 6), some undefA, none, false, .pu (.mov (.s 0))⟩,
   ⟨(some 7), some undefA, none, false, .pu (.len (.s 6))⟩,
   ⟨(some 8), some undefA, none, false, .pu (.mov (.s 1))⟩,
   ⟨(some 9), some undefA, none, false, .pu (.len (.s 8))⟩,
   ⟨(some 10), some undefA, none, false, .pu (.bin .neq (.s 7) (.s 9))⟩])
 (.cond (.s 10) (.seq (.ops [⟨(some 4), some undefA, none, false, .pu (.mov (.c (.bool false)))⟩])
  (.ret))
 (.skip)))
 (.seq (.seq (.ops [⟨(some 5), some undefA, none, false, .pu (.mov (.c (.int .i64 0)))⟩])
 (.block 0 (.loop (.seq (.seq (.ops [⟨(some 11), some undefA, none, false, .pu (.mov (.s 5))⟩,
     ⟨(some 12), some undefA, none, false, .pu (.mov (.s 0))⟩,
     ⟨(some 13), some undefA, none, false, .pu (.len (.s 12))⟩,
     ⟨(some 14), some undefA, none, false, .pu (.bin .lss (.s 11) (.s 13))⟩])
   (.cond (.s 14) (.skip)
   (.exit 0)))
   (.seq (.block 1 (.seq (.ops [⟨(some 17), some undefA, none, true, .pu (.mov (.s 0))⟩,
      ⟨(some 18), some undefA, none, true, .pu (.mov (.s 5))⟩,
      ⟨(some 19), some undefA, none, true, .pu (.idx 2 (.s 17) (.s 18))⟩,
      ⟨(some 20), some undefA, none, true, .ld (.ld 2 true (.s 19))⟩,
      ⟨(some 21), some undefA, none, true, .pu (.mov (.s 1))⟩,
      ⟨(some 22), some undefA, none, true, .pu (.mov (.s 5))⟩,
      ⟨(some 23), some undefA, none, true, .pu (.idx 2 (.s 21) (.s 22))⟩,
      ⟨(some 24), some undefA, none, true, .ld (.ld 2 true (.s 23))⟩,
      ⟨(some 25), some undefA, none, false, .pu (.eqs true [true, true] (.s 20) (.s 24))⟩])
    (.cond (.s 25) (.seq (.ops [⟨(some 4), some undefA, none, false, .pu (.mov (.c (.bool false)))⟩])
     (.ret))
    (.skip))))
   (.ops [⟨(some 15), some undefA, none, false, .pu (.mov (.s 5))⟩,
     ⟨(some 16), some undefA, none, false, .pu (.bin .add (.s 15) (.c (.int .i64 1)))⟩,
     ⟨(some 5), some undefA, none, false, .pu (.mov (.s 16))⟩]))))))
 (.seq (.ops [⟨(some 4), some undefA, none, false, .pu (.mov (.c (.bool true)))⟩])
 (.ret))))⟩
theorem t30 : trF Try.prog [] [] Try.f30 = some m30 := by kernel_rfl
/-- selion/claim.Whole [loop [1, 7, 8, 9, 10, 30, 31, 32], loop [8, 9, 60, 61]] -/
def m31 : MFun := ⟨78, [], [.mov (.s 4), .mov (.s 5)],
 .seq (.ops [⟨(some 4), some undefA, none, false, .pu (.mov (.c (.nilS)))⟩,
   ⟨(some 5), some undefA, none, false, .pu (.mov (.c (.int .i64 0)))⟩])
 (.seq (.seq (.ops [⟨(some 14), some undefA, none, false, .pu (.mov (.s 0))⟩,
   ⟨(some 15), some undefA, none, false, .pu (.mov (.s 1))⟩,
   ⟨(some 16), some undefA, none, false, .call 16 [(.s 14), (.s 15)]⟩,
   ⟨(some 6), some undefA, none, false, .pu (.mov (.s 16))⟩])
 (.seq (.ops [⟨(some 17), some undefA, none, false, .pu (.mov (.s 6))⟩,
   ⟨(some 18), some undefA, none, false, .pu (.bin .neq (.s 17) (.c (.int .i64 0)))⟩])
 (.cond (.s 18) (.seq (.ops [⟨(some 19), some undefA, none, false, .pu (.mov (.s 6))⟩,
    ⟨(some 4), some undefA, none, false, .pu (.mov (.c (.nilS)))⟩,
    ⟨(some 5), some undefA, none, false, .pu (.mov (.s 19))⟩])
  (.ret))
 (.skip))))
 (.seq (.ops [⟨(some 20), some undefA, none, false, .pu (.mov (.s 0))⟩,
   ⟨(some 21), some undefA, none, false, .call 54 [(.s 20)]⟩,
   ⟨(some 22), some undefA, none, false, .pu (.mm true (.c (.int .i64 1)) [(.s 21)])⟩,
   ⟨(some 7), some undefA, none, false, .pu (.mov (.s 22))⟩])
 (.seq (.ops [⟨(some 23), some undefA, none, false, .pu (.mov (.s 0))⟩,
   ⟨(some 24), some undefA, none, false, .pu (.len (.s 23))⟩,
   ⟨(some 25), some undefA, none, false, .ha (.mks 1 [.int .i64 0] (.s 24) (.s 24))⟩,
   ⟨(some 8), some undefA, none, false, .pu (.mov (.s 25))⟩])
 (.seq (.ops [⟨(some 26), some undefA, none, false, .pu (.mov (.s 0))⟩,
   ⟨(some 27), some undefA, none, false, .pu (.len (.s 26))⟩,
   ⟨(some 28), some undefA, none, false, .ha (.mks 1 [.int .i64 0] (.s 27) (.s 27))⟩,
   ⟨(some 9), some undefA, none, false, .pu (.mov (.s 28))⟩])
 (.seq (.ops [⟨(some 29), some undefA, none, false, .pu (.mov (.s 1))⟩,
   ⟨(some 10), some undefA, none, false, .pu (.mov (.s 29))⟩])
 (.seq (.seq (.ops [⟨(some 30), some undefA, none, false, .pu (.mov (.s 0))⟩,
   ⟨(some 31), some undefA, none, false, .pu (.len (.s 30))⟩,
   ⟨(some 32), some undefA, none, false, .pu (.mov (.c (.int .i64 0)))⟩])
 (.block 0 (.loop (.seq (.ops [⟨(some 33), some undefA, none, false, .pu (.bin .lss (.s 32) (.s 31))⟩])
   (.seq (.cond (.s 33) (.skip)
   (.exit 0))
   (.seq (.block 1 (.seq (.ops [⟨(some 34), some undefA, none, false, .pu (.mov (.s 32))⟩,
      ⟨(some 35), some undefA, none, false, .pu (.idx 1 (.s 30) (.s 32))⟩,
      ⟨(some 36), some undefA, none, false, .ld (.ld 1 false (.s 35))⟩,
      ⟨(some 11), some undefA, none, false, .pu (.mov (.s 34))⟩,
      ⟨(some 12), some undefA, none, false, .pu (.mov (.s 36))⟩])
    (.seq (.ops [⟨(some 37), some undefA, none, false, .pu (.mov (.s 9))⟩,
      ⟨(some 38), some undefA, none, false, .pu (.mov (.s 11))⟩,
      ⟨(some 39), some undefA, none, false, .pu (.mov (.s 8))⟩,
      ⟨(some 40), some undefA, none, false, .pu (.mov (.s 11))⟩,
      ⟨(some 41), some undefA, none, false, .pu (.mov (.s 12))⟩,
      ⟨(some 42), some undefA, none, false, .pu (.mov (.s 1))⟩,
      ⟨(some 43), some undefA, none, false, .pu (.bin .mul (.s 41) (.s 42))⟩,
      ⟨(some 44), some undefA, none, false, .pu (.mov (.s 7))⟩,
      ⟨(some 45), some undefA, none, false, .pu (.bin .quo (.s 43) (.s 44))⟩,
      ⟨(some 46), some undefA, none, false, .pu (.mov (.s 12))⟩,
      ⟨(some 47), some undefA, none, false, .pu (.mov (.s 1))⟩,
      ⟨(some 48), some undefA, none, false, .pu (.bin .mul (.s 46) (.s 47))⟩,
      ⟨(some 49), some undefA, none, false, .pu (.mov (.s 7))⟩,
      ⟨(some 50), some undefA, none, false, .pu (.bin .rem (.s 48) (.s 49))⟩,
      ⟨(some 51), some undefA, none, false, .pu (.idx 1 (.s 37) (.s 38))⟩,
      ⟨none, some undefA, none, false, .ha (.st 1 (.s 51) (.s 45))⟩,
      ⟨(some 52), some undefA, none, false, .pu (.idx 1 (.s 39) (.s 40))⟩,
      ⟨none, some undefA, none, false, .ha (.st 1 (.s 52) (.s 50))⟩])
    (.ops [⟨(some 53), some undefA, none, false, .pu (.mov (.s 10))⟩,
      ⟨(some 54), some undefA, none, false, .pu (.mov (.s 9))⟩,
      ⟨(some 55), some undefA, none, false, .pu (.mov (.s 11))⟩,
      ⟨(some 56), some undefA, none, false, .pu (.idx 1 (.s 54) (.s 55))⟩,
      ⟨(some 57), some undefA, none, false, .ld (.ld 1 false (.s 56))⟩,
      ⟨(some 58), some undefA, none, false, .pu (.bin .sub (.s 53) (.s 57))⟩,
      ⟨(some 10), some undefA, none, false, .pu (.mov (.s 58))⟩]))))
   (.ops [⟨(some 59), some undefA, none, false, .pu (.bin .add (.s 32) (.c (.int .i64 1)))⟩,
     ⟨(some 32), some undefA, none, false, .pu (.mov (.s 59))⟩])))))))
 (.seq (.seq (.ops [⟨(some 60), some undefA, none, false, .pu (.mov (.s 10))⟩,
   ⟨(some 61), some undefA, none, false, .pu (.mov (.c (.int .i64 0)))⟩])
 (.block 2 (.loop (.seq (.ops [⟨(some 62), some undefA, none, false, .pu (.bin .lss (.s 61) (.s 60))⟩])
   (.seq (.cond (.s 62) (.skip)
   (.exit 2))
   (.seq (.block 3 (.seq (.ops [⟨(some 63), some undefA, none, false, .pu (.mov (.s 8))⟩,
      ⟨(some 64), some undefA, none, false, .pu (.mov (.s 8))⟩,
      ⟨(some 65), some undefA, none, false, .call 64 [(.s 64)]⟩,
      ⟨(some 66), some undefA, none, false, .call 63 [(.s 63), (.s 65)]⟩,
      ⟨(some 13), some undefA, none, false, .pu (.mov (.s 66))⟩])
    (.seq (.ops [⟨(some 67), some undefA, none, false, .pu (.mov (.s 9))⟩,
      ⟨(some 68), some undefA, none, false, .pu (.mov (.s 13))⟩,
      ⟨(some 69), some undefA, none, false, .pu (.idx 1 (.s 67) (.s 68))⟩,
      ⟨(some 70), some undefA, none, false, .ld (.ld 1 false (.s 69))⟩,
      ⟨(some 71), some undefA, none, false, .pu (.bin .add (.s 70) (.c (.int .i64 1)))⟩,
      ⟨(some 72), some undefA, none, false, .pu (.idx 1 (.s 67) (.s 68))⟩,
      ⟨none, some undefA, none, false, .ha (.st 1 (.s 72) (.s 71))⟩])
    (.ops [⟨(some 73), some undefA, none, false, .pu (.mov (.s 8))⟩,
      ⟨(some 74), some undefA, none, false, .pu (.mov (.s 13))⟩,
      ⟨(some 75), some undefA, none, false, .pu (.idx 1 (.s 73) (.s 74))⟩,
      ⟨none, some undefA, none, false, .ha (.st 1 (.s 75) (.c (.int .i64 (-1))))⟩]))))
   (.ops [⟨(some 76), some undefA, none, false, .pu (.bin .add (.s 61) (.c (.int .i64 1)))⟩,
     ⟨(some 61), some undefA, none, false, .pu (.mov (.s 76))⟩])))))))
 (.seq (.ops [⟨(some 77), some undefA, none, false, .pu (.mov (.s 9))⟩,
   ⟨(some 4), some undefA, none, false, .pu (.mov (.s 77))⟩,
   ⟨(some 5), some undefA, none, false, .pu (.mov (.c (.int .i64 0)))⟩])
 (.ret)))))))))⟩
theorem t31 : trF Try.prog [] [] Try.f31 = some m31 := by kernel_rfl
/-- selion/claim.isClaims [] -/
def m53 : MFun := ⟨16, [], [.mov (.s 2)],
 .seq (.ops [⟨(some 2), some undefA, none, false, .pu (.mov (.c (.bool false)))⟩])
 (.seq (.ops [⟨(some 3), some undefA, none, false, .pu (.mov (.s 0))⟩,
   ⟨(some 4), some undefA, none, false, .pu (.len (.s 3))⟩,
   ⟨(some 5), some undefA, none, false, .pu (.bin .geq (.s 4) (.c (.int .i64 1)))⟩,
   ⟨(some 6), some undefA, none, false, .pu (.mov (.s 5))⟩,
   ⟨(some 7), some undefA, (some (6, true)), false, .pu (.mov (.s 0))⟩,
   ⟨(some 8), some undefA, (some (6, true)), false, .pu (.len (.s 7))⟩,
   ⟨(some 9), some undefA, (some (6, true)), false, .pu (.bin .leq (.s 8) (.c (.int .i64 8)))⟩,
   ⟨(some 10), some undefA, none, false, .pu (.pick (.s 6) (.s 9) (.c (.bool false)))⟩,
   ⟨(some 11), some undefA, none, false, .pu (.mov (.s 10))⟩,
   ⟨(some 12), some undefA, (some (11, true)), false, .pu (.mov (.s 0))⟩,
   ⟨(some 13), some undefA, (some (11, true)), false, .call 57 [(.s 12), (.c (.fn 78 []))]⟩,
   ⟨(some 14), some undefA, (some (11, true)), false, .pu (.not (.s 13))⟩,
   ⟨(some 15), some undefA, none, false, .pu (.pick (.s 11) (.s 14) (.c (.bool false)))⟩,
   ⟨(some 2), some undefA, none, false, .pu (.mov (.s 15))⟩])
 (.ret))⟩
theorem t53 : trF Try.prog [] [] Try.f53 = some m53 := by kernel_rfl
/-- selion/claim.total [loop [3, 6, 7, 8]] -/
def m54 : MFun := ⟨17, [], [.mov (.s 2)],
 .seq (.ops [⟨(some 2), some undefA, none, false, .pu (.mov (.c (.int .i64 0)))⟩])
 (.seq (.ops [⟨(some 3), some undefA, none, false, .pu (.mov (.c (.int .i64 0)))⟩])
 (.seq (.seq (.ops [⟨(some 6), some undefA, none, false, .pu (.mov (.s 0))⟩,
   ⟨(some 7), some undefA, none, false, .pu (.len (.s 6))⟩,
   ⟨(some 8), some undefA, none, false, .pu (.mov (.c (.int .i64 0)))⟩])
 (.block 0 (.loop (.seq (.ops [⟨(some 9), some undefA, none, false, .pu (.bin .lss (.s 8) (.s 7))⟩])
   (.seq (.cond (.s 9) (.skip)
   (.exit 0))
   (.seq (.block 1 (.seq (.ops [⟨(some 10), some undefA, none, false, .pu (.idx 1 (.s 6) (.s 8))⟩,
      ⟨(some 11), some undefA, none, false, .ld (.ld 1 false (.s 10))⟩,
      ⟨(some 5), some undefA, none, false, .pu (.mov (.s 11))⟩])
    (.ops [⟨(some 12), some undefA, none, false, .pu (.mov (.s 3))⟩,
      ⟨(some 13), some undefA, none, false, .pu (.mov (.s 5))⟩,
      ⟨(some 14), some undefA, none, false, .pu (.bin .add (.s 12) (.s 13))⟩,
      ⟨(some 3), some undefA, none, false, .pu (.mov (.s 14))⟩])))
   (.ops [⟨(some 15), some undefA, none, false, .pu (.bin .add (.s 8) (.c (.int .i64 1)))⟩,
     ⟨(some 8), some undefA, none, false, .pu (.mov (.s 15))⟩])))))))
 (.seq (.ops [⟨(some 16), some undefA, none, false, .pu (.mov (.s 3))⟩,
   ⟨(some 2), some undefA, none, false, .pu (.mov (.s 16))⟩])
 (.ret))))⟩
theorem t54 : trF Try.prog [] [] Try.f54 = some m54 := by kernel_rfl
/-- selion/claim.by [] -/
def m55 : MFun := ⟨22, [], [.mov (.s 6), .mov (.s 7)],
 .seq (.ops [⟨(some 6), some undefA, none, false, .pu (.mov (.c (.nilS)))⟩,
   ⟨(some 7), some undefA, none, false, .pu (.mov (.c (.int .i64 0)))⟩])
 (.seq (.seq (.ops [⟨(some 9), some undefA, none, false, .pu (.mov (.s 1))⟩,
   ⟨(some 10), some undefA, none, false, .pu (.mov (.s 2))⟩,
   ⟨(some 11), some undefA, none, false, .call 16 [(.s 9), (.s 10)]⟩,
   ⟨(some 8), some undefA, none, false, .pu (.mov (.s 11))⟩])
 (.seq (.ops [⟨(some 12), some undefA, none, false, .pu (.mov (.s 8))⟩,
   ⟨(some 13), some undefA, none, false, .pu (.bin .neq (.s 12) (.c (.int .i64 0)))⟩])
 (.cond (.s 13) (.seq (.ops [⟨(some 14), some undefA, none, false, .pu (.mov (.s 8))⟩,
    ⟨(some 6), some undefA, none, false, .pu (.mov (.c (.nilS)))⟩,
    ⟨(some 7), some undefA, none, false, .pu (.mov (.s 14))⟩])
  (.ret))
 (.skip))))
 (.seq (.ops [⟨(some 15), some undefA, none, false, .call 79 []⟩,
   ⟨(some 16), some undefA, none, false, .pu (.mov (.s 0))⟩,
   ⟨(some 17), some undefA, none, false, .pu (.aidx 4 1 true (.s 15) (.s 16))⟩,
   ⟨(some 18), some undefA, none, false, .pu (.part 0 1 false (.s 17))⟩,
   ⟨(some 19), some undefA, none, false, .pu (.mov (.s 1))⟩,
   ⟨(some 20), some undefA, none, false, .pu (.mov (.s 2))⟩,
   ⟨(some 21), some undefA, none, false, .callv (.s 18) [(.s 19), (.s 20)]⟩,
   ⟨(some 6), some undefA, none, false, .pu (.mov (.s 21))⟩,
   ⟨(some 7), some undefA, none, false, .pu (.mov (.c (.int .i64 0)))⟩])
 (.ret)))⟩
theorem t55 : trF Try.prog [] [] Try.f55 = some m55 := by kernel_rfl
/-- slices.ContainsFunc[[]int,int] [] -/
def m57 : MFun := ⟨9, [], [.mov (.s 4)],
 .seq (.ops [⟨(some 4), some undefA, none, false, .pu (.mov (.c (.bool false)))⟩])
 (.seq (.ops [⟨(some 5), some undefA, none, false, .pu (.mov (.s 0))⟩,
   ⟨(some 6), some undefA, none, false, .pu (.mov (.s 1))⟩,
   ⟨(some 7), some undefA, none, false, .call 81 [(.s 5), (.s 6)]⟩,
   ⟨(some 8), some undefA, none, false, .pu (.bin .geq (.s 7) (.c (.int .i64 0)))⟩,
   ⟨(some 4), some undefA, none, false, .pu (.mov (.s 8))⟩])
 (.ret))⟩
theorem t57 : trF Try.prog [] [] Try.f57 = some m57 := by kernel_rfl
/-- selion/claim.ratio [] -/
def m61 : MFun := ⟨16, [4], [.bget none 4 0 2 true],
 .seq (.ops [⟨(some 4), some (.junk), none, false, .pu (.bnew (.c (.agg [.int .i64 0, .int .i64 0])))⟩])
 (.seq (.ops [⟨(some 6), some undefA, none, false, .pu (.mov (.s 0))⟩,
   ⟨(some 7), some undefA, none, false, .pu (.mov (.s 1))⟩,
   ⟨(some 8), some undefA, none, false, .call 82 [(.s 6), (.s 7)]⟩,
   ⟨(some 5), some undefA, none, false, .pu (.mov (.s 8))⟩])
 (.seq (.ops [⟨(some 9), some undefA, none, false, .pu (.mov (.s 0))⟩,
   ⟨(some 10), some undefA, none, false, .pu (.mov (.s 5))⟩,
   ⟨(some 11), some undefA, none, false, .pu (.bin .quo (.s 9) (.s 10))⟩,
   ⟨(some 12), some undefA, none, false, .pu (.mov (.s 1))⟩,
   ⟨(some 13), some undefA, none, false, .pu (.mov (.s 5))⟩,
   ⟨(some 14), some undefA, none, false, .pu (.bin .quo (.s 12) (.s 13))⟩,
   ⟨(some 15), some undefA, none, false, .pu (.build [.int .i64 0, .int .i64 0] [(0, 1, (.s 11)), (1, 1, (.s 14))])⟩,
   ⟨(some 4), none, none, false, .pu (.bset none 4 0 2 (.s 15))⟩])
 (.ret)))⟩
theorem t61 : trF Try.prog [4] [] Try.f61 = some m61 := by kernel_rfl
/-- slices.Index[[]int,int] [loop [0, 1, 7, 8]] -/
def m63 : MFun := ⟨19, [], [.mov (.s 4)],
 .seq (.ops [⟨(some 4), some undefA, none, false, .pu (.mov (.c (.int .i64 0)))⟩])
 (.seq (.seq (.ops [⟨(some 6), some undefA, none, false, .pu (.mov (.s 0))⟩,
   ⟨(some 7), some undefA, none, false, .pu (.len (.s 6))⟩,
   ⟨(some 8), some undefA, none, false, .pu (.mov (.c (.int .i64 0)))⟩])
 (.block 0 (.loop (.seq (.ops [⟨(some 9), some undefA, none, false, .pu (.bin .lss (.s 8) (.s 7))⟩])
   (.seq (.cond (.s 9) (.skip)
   (.exit 0))
   (.seq (.block 1 (.seq (.ops [⟨(some 10), some undefA, none, false, .pu (.mov (.s 8))⟩,
      ⟨(some 5), some undefA, none, false, .pu (.mov (.s 10))⟩])
    (.seq (.ops [⟨(some 11), some undefA, none, false, .pu (.mov (.s 1))⟩,
      ⟨(some 12), some undefA, none, false, .pu (.mov (.s 0))⟩,
      ⟨(some 13), some undefA, none, false, .pu (.mov (.s 5))⟩,
      ⟨(some 14), some undefA, none, false, .pu (.idx 1 (.s 12) (.s 13))⟩,
      ⟨(some 15), some undefA, none, false, .ld (.ld 1 false (.s 14))⟩,
      ⟨(some 16), some undefA, none, false, .pu (.bin .eql (.s 11) (.s 15))⟩])
    (.cond (.s 16) (.seq (.ops [⟨(some 17), some undefA, none, false, .pu (.mov (.s 5))⟩,
       ⟨(some 4), some undefA, none, false, .pu (.mov (.s 17))⟩])
     (.ret))
    (.skip)))))
   (.ops [⟨(some 18), some undefA, none, false, .pu (.bin .add (.s 8) (.c (.int .i64 1)))⟩,
     ⟨(some 8), some undefA, none, false, .pu (.mov (.s 18))⟩])))))))
 (.seq (.ops [⟨(some 4), some undefA, none, false, .pu (.mov (.c (.int .i64 (-1))))⟩])
 (.ret)))⟩
theorem t63 : trF Try.prog [] [] Try.f63 = some m63 := by kernel_rfl
/-- slices.Max[[]int,int] [loop [0, 3, 4]] -/
def m64 : MFun := ⟨25, [], [.mov (.s 2)],
 .seq (.ops [⟨(some 2), some undefA, none, false, .pu (.mov (.c (.int .i64 0)))⟩])
 (.seq (.seq (.ops [⟨(some 5), some undefA, none, false, .pu (.mov (.s 0))⟩,
   ⟨(some 6), some undefA, none, false, .pu (.len (.s 5))⟩,
   ⟨(some 7), some undefA, none, false, .pu (.bin .lss (.s 6) (.c (.int .i64 1)))⟩])
 (.cond (.s 7) (.ops [⟨(some 8), some undefA, none, false, .pu (.fail)⟩,
    ⟨none, some undefA, none, false, .pu (.fail)⟩])
 (.skip)))
 (.seq (.ops [⟨(some 9), some undefA, none, false, .pu (.mov (.s 0))⟩,
   ⟨(some 10), some undefA, none, false, .pu (.idx 1 (.s 9) (.c (.int .i64 0)))⟩,
   ⟨(some 11), some undefA, none, false, .ld (.ld 1 false (.s 10))⟩,
   ⟨(some 3), some undefA, none, false, .pu (.mov (.s 11))⟩])
 (.seq (.seq (.ops [⟨(some 4), some undefA, none, false, .pu (.mov (.c (.int .i64 1)))⟩])
 (.block 0 (.loop (.seq (.seq (.ops [⟨(some 12), some undefA, none, false, .pu (.mov (.s 4))⟩,
     ⟨(some 13), some undefA, none, false, .pu (.mov (.s 0))⟩,
     ⟨(some 14), some undefA, none, false, .pu (.len (.s 13))⟩,
     ⟨(some 15), some undefA, none, false, .pu (.bin .lss (.s 12) (.s 14))⟩])
   (.cond (.s 15) (.skip)
   (.exit 0)))
   (.seq (.block 1 (.ops [⟨(some 18), some undefA, none, false, .pu (.mov (.s 3))⟩,
      ⟨(some 19), some undefA, none, false, .pu (.mov (.s 0))⟩,
      ⟨(some 20), some undefA, none, false, .pu (.mov (.s 4))⟩,
      ⟨(some 21), some undefA, none, false, .pu (.idx 1 (.s 19) (.s 20))⟩,
      ⟨(some 22), some undefA, none, false, .ld (.ld 1 false (.s 21))⟩,
      ⟨(some 23), some undefA, none, false, .pu (.mm true (.s 18) [(.s 22)])⟩,
      ⟨(some 3), some undefA, none, false, .pu (.mov (.s 23))⟩]))
   (.ops [⟨(some 16), some undefA, none, false, .pu (.mov (.s 4))⟩,
     ⟨(some 17), some undefA, none, false, .pu (.bin .add (.s 16) (.c (.int .i64 1)))⟩,
     ⟨(some 4), some undefA, none, false, .pu (.mov (.s 17))⟩]))))))
 (.seq (.ops [⟨(some 24), some undefA, none, false, .pu (.mov (.s 3))⟩,
   ⟨(some 2), some undefA, none, false, .pu (.mov (.s 24))⟩])
 (.ret)))))⟩
theorem t64 : trF Try.prog [] [] Try.f64 = some m64 := by kernel_rfl
/-- slices.Sort[[]int,int] [] -/
def m72 : MFun := ⟨11, [], [],
 .seq (.ops [⟨(some 3), some undefA, none, false, .pu (.mov (.s 0))⟩,
   ⟨(some 4), some undefA, none, false, .pu (.len (.s 3))⟩,
   ⟨(some 2), some undefA, none, false, .pu (.mov (.s 4))⟩])
 (.ops [⟨(some 5), some undefA, none, false, .pu (.mov (.s 0))⟩,
   ⟨(some 6), some undefA, none, false, .pu (.mov (.s 2))⟩,
   ⟨(some 7), some undefA, none, false, .pu (.mov (.s 2))⟩,
   ⟨(some 8), some undefA, none, false, .pu (.conv .u64 (.s 7))⟩,
   ⟨(some 9), some undefA, none, false, .call 84 [(.s 8)]⟩,
   ⟨(some 10), some undefA, none, false, .call 83 [(.s 5), (.c (.int .i64 0)), (.s 6), (.s 9)]⟩])⟩
theorem t72 : trF Try.prog [] [] Try.f72 = some m72 := by kernel_rfl
/-- selion/claim.isClaims$1 [] -/
def m78 : MFun := ⟨9, [], [.mov (.s 2)],
 .seq (.ops [⟨(some 2), some undefA, none, false, .pu (.mov (.c (.bool false)))⟩])
 (.seq (.ops [⟨(some 3), some undefA, none, false, .pu (.mov (.s 0))⟩,
   ⟨(some 4), some undefA, none, false, .pu (.bin .lss (.s 3) (.c (.int .i64 0)))⟩,
   ⟨(some 5), some undefA, none, false, .pu (.mov (.s 4))⟩,
   ⟨(some 6), some undefA, (some (5, false)), false, .pu (.mov (.s 0))⟩,
   ⟨(some 7), some undefA, (some (5, false)), false, .pu (.bin .gtr (.s 6) (.c (.int .i64 1000)))⟩,
   ⟨(some 8), some undefA, none, false, .pu (.pick (.s 5) (.c (.bool true)) (.s 7))⟩,
   ⟨(some 2), some undefA, none, false, .pu (.mov (.s 8))⟩])
 (.ret))⟩
theorem t78 : trF Try.prog [] [] Try.f78 = some m78 := by kernel_rfl
/-- selion/claim.rules [] -/
def m79 : MFun := ⟨12, [0], [.bget none 0 0 4 true],
 .seq (.ops [⟨(some 0), some (.junk), none, false, .pu (.bnew (.c (.agg [.nilF, .nilF, .nilF, .nilF])))⟩])
 (.seq (.ops [⟨(some 1), some undefA, none, false, .ha (.newv (.c (.nilF)))⟩,
   ⟨none, some undefA, none, false, .ha (.st 1 (.s 1) (.c (.fn 87 [])))⟩])
 (.seq (.ops [⟨(some 3), some undefA, none, false, .pu (.mkf 89 [(.s 1)])⟩,
   ⟨(some 2), some undefA, none, false, .ha (.newv (.c (.nilF)))⟩,
   ⟨none, some undefA, none, false, .ha (.st 1 (.s 2) (.s 3))⟩])
 (.seq (.ops [⟨(some 4), some undefA, none, false, .pu (.build [.nilF] [(0, 1, (.c (.fn 90 [])))])⟩,
   ⟨(some 5), some undefA, none, false, .ld (.ld 1 false (.s 1))⟩,
   ⟨(some 6), some undefA, none, false, .pu (.build [.nilF] [(0, 1, (.s 5))])⟩,
   ⟨(some 7), some undefA, none, false, .ld (.ld 1 false (.s 2))⟩,
   ⟨(some 8), some undefA, none, false, .pu (.build [.nilF] [(0, 1, (.s 7))])⟩,
   ⟨(some 9), some undefA, none, false, .pu (.mkf 91 [(.s 1), (.s 2)])⟩,
   ⟨(some 10), some undefA, none, false, .pu (.build [.nilF] [(0, 1, (.s 9))])⟩,
   ⟨(some 11), some undefA, none, false, .pu (.build [.nilF, .nilF, .nilF, .nilF] [(0, 1, (.s 4)), (1, 1, (.s 6)), (2, 1, (.s 8)), (3, 1, (.s 10))])⟩,
   ⟨(some 0), none, none, false, .pu (.bset none 0 0 4 (.s 11))⟩])
 (.ret))))⟩
theorem t79 : trF Try.prog [0] [] Try.f79 = some m79 := by kernel_rfl
/-- slices.IndexFunc[[]int,int] [loop [0, 1, 7, 8]] -/
def m81 : MFun := ⟨19, [], [.mov (.s 4)],
 .seq (.ops [⟨(some 4), some undefA, none, false, .pu (.mov (.c (.int .i64 0)))⟩])
 (.seq (.seq (.ops [⟨(some 6), some undefA, none, false, .pu (.mov (.s 0))⟩,
   ⟨(some 7), some undefA, none, false, .pu (.len (.s 6))⟩,
   ⟨(some 8), some undefA, none, false, .pu (.mov (.c (.int .i64 0)))⟩])
 (.block 0 (.loop (.seq (.ops [⟨(some 9), some undefA, none, false, .pu (.bin .lss (.s 8) (.s 7))⟩])
   (.seq (.cond (.s 9) (.skip)
   (.exit 0))
   (.seq (.block 1 (.seq (.ops [⟨(some 10), some undefA, none, false, .pu (.mov (.s 8))⟩,
      ⟨(some 5), some undefA, none, false, .pu (.mov (.s 10))⟩])
    (.seq (.ops [⟨(some 11), some undefA, none, false, .pu (.mov (.s 1))⟩,
      ⟨(some 12), some undefA, none, false, .pu (.mov (.s 0))⟩,
      ⟨(some 13), some undefA, none, false, .pu (.mov (.s 5))⟩,
      ⟨(some 14), some undefA, none, false, .pu (.idx 1 (.s 12) (.s 13))⟩,
      ⟨(some 15), some undefA, none, false, .ld (.ld 1 false (.s 14))⟩,
      ⟨(some 16), some undefA, none, false, .callv (.s 11) [(.s 15)]⟩])
    (.cond (.s 16) (.seq (.ops [⟨(some 17), some undefA, none, false, .pu (.mov (.s 5))⟩,
       ⟨(some 4), some undefA, none, false, .pu (.mov (.s 17))⟩])
     (.ret))
    (.skip)))))
   (.ops [⟨(some 18), some undefA, none, false, .pu (.bin .add (.s 8) (.c (.int .i64 1)))⟩,
     ⟨(some 8), some undefA, none, false, .pu (.mov (.s 18))⟩])))))))
 (.seq (.ops [⟨(some 4), some undefA, none, false, .pu (.mov (.c (.int .i64 (-1))))⟩])
 (.ret)))⟩
theorem t81 : trF Try.prog [] [] Try.f81 = some m81 := by kernel_rfl
/-- selion/claim.gcd [loop [0, 1]] -/
def m82 : MFun := ⟨15, [], [.mov (.s 4)],
 .seq (.ops [⟨(some 4), some undefA, none, false, .pu (.mov (.c (.int .i64 0)))⟩])
 (.seq (.block 0 (.loop (.seq (.seq (.ops [⟨(some 5), some undefA, none, false, .pu (.mov (.s 1))⟩,
     ⟨(some 6), some undefA, none, false, .pu (.bin .neq (.s 5) (.c (.int .i64 0)))⟩])
   (.cond (.s 6) (.skip)
   (.exit 0)))
   (.block 1 (.ops [⟨(some 7), some undefA, none, false, .pu (.mov (.s 1))⟩,
      ⟨(some 8), some undefA, none, false, .pu (.mov (.s 0))⟩,
      ⟨(some 9), some undefA, none, false, .pu (.mov (.s 1))⟩,
      ⟨(some 10), some undefA, none, false, .pu (.bin .rem (.s 8) (.s 9))⟩,
      ⟨(some 0), some undefA, none, false, .pu (.mov (.s 7))⟩,
      ⟨(some 1), some undefA, none, false, .pu (.mov (.s 10))⟩])))))
 (.seq (.ops [⟨(some 11), some undefA, none, false, .pu (.mov (.s 0))⟩,
   ⟨(some 12), some undefA, none, false, .pu (.mov (.s 0))⟩,
   ⟨(some 13), some undefA, none, false, .pu (.neg (.s 12))⟩,
   ⟨(some 14), some undefA, none, false, .pu (.mm true (.s 11) [(.s 13)])⟩,
   ⟨(some 4), some undefA, none, false, .pu (.mov (.s 14))⟩])
 (.ret)))⟩
theorem t82 : trF Try.prog [] [] Try.f82 = some m82 := by kernel_rfl
/-- slices.pdqsortOrdered[int] [loop [0, 1, 2, 3, 8, 9]] -/
def m83 : MFun := ⟨134, [], [],
 .seq (.ops [⟨(some 8), some undefA, none, false, .pu (.mov (.c (.bool true)))⟩])
 (.seq (.ops [⟨(some 9), some undefA, none, false, .pu (.mov (.c (.bool true)))⟩])
 (.block 0 (.loop (.block 1 (.seq (.ops [⟨(some 19), some undefA, none, false, .pu (.mov (.s 2))⟩,
      ⟨(some 20), some undefA, none, false, .pu (.mov (.s 1))⟩,
      ⟨(some 21), some undefA, none, false, .pu (.bin .sub (.s 19) (.s 20))⟩,
      ⟨(some 10), some undefA, none, false, .pu (.mov (.s 21))⟩])
    (.seq (.seq (.ops [⟨(some 22), some undefA, none, false, .pu (.mov (.s 10))⟩,
      ⟨(some 23), some undefA, none, false, .pu (.bin .leq (.s 22) (.c (.int .i64 12)))⟩])
    (.cond (.s 23) (.seq (.ops [⟨(some 24), some undefA, none, false, .pu (.mov (.s 0))⟩,
       ⟨(some 25), some undefA, none, false, .pu (.mov (.s 1))⟩,
       ⟨(some 26), some undefA, none, false, .pu (.mov (.s 2))⟩,
       ⟨(some 27), some undefA, none, false, .call 92 [(.s 24), (.s 25), (.s 26)]⟩])
     (.ret))
    (.skip)))
    (.seq (.seq (.ops [⟨(some 28), some undefA, none, false, .pu (.mov (.s 3))⟩,
      ⟨(some 29), some undefA, none, false, .pu (.bin .eql (.s 28) (.c (.int .i64 0)))⟩])
    (.cond (.s 29) (.seq (.ops [⟨(some 30), some undefA, none, false, .pu (.mov (.s 0))⟩,
       ⟨(some 31), some undefA, none, false, .pu (.mov (.s 1))⟩,
       ⟨(some 32), some undefA, none, false, .pu (.mov (.s 2))⟩,
       ⟨(some 33), some undefA, none, false, .call 93 [(.s 30), (.s 31), (.s 32)]⟩])
     (.ret))
    (.skip)))
    (.seq (.seq (.ops [⟨(some 34), some undefA, none, false, .pu (.mov (.s 8))⟩,
      ⟨(some 35), some undefA, none, false, .pu (.not (.s 34))⟩])
    (.cond (.s 35) (.seq (.ops [⟨(some 36), some undefA, none, false, .pu (.mov (.s 0))⟩,
       ⟨(some 37), some undefA, none, false, .pu (.mov (.s 1))⟩,
       ⟨(some 38), some undefA, none, false, .pu (.mov (.s 2))⟩,
       ⟨(some 39), some undefA, none, false, .call 94 [(.s 36), (.s 37), (.s 38)]⟩])
     (.ops [⟨(some 40), some undefA, none, false, .pu (.mov (.s 3))⟩,
       ⟨(some 41), some undefA, none, false, .pu (.bin .sub (.s 40) (.c (.int .i64 1)))⟩,
       ⟨(some 3), some undefA, none, false, .pu (.mov (.s 41))⟩]))
    (.skip)))
    (.seq (.ops [⟨(some 43), some undefA, none, false, .pu (.mov (.s 0))⟩,
      ⟨(some 44), some undefA, none, false, .pu (.mov (.s 1))⟩,
      ⟨(some 45), some undefA, none, false, .pu (.mov (.s 2))⟩,
      ⟨(some 46), some undefA, none, false, .call 95 [(.s 43), (.s 44), (.s 45)]⟩,
      ⟨(some 42), some undefA, none, false, .pu (.mov (.s 46))⟩,
      ⟨(some 47), some undefA, none, false, .pu (.extr 0 (.s 42))⟩,
      ⟨(some 48), some undefA, none, false, .pu (.extr 1 (.s 42))⟩,
      ⟨(some 11), some undefA, none, false, .pu (.mov (.s 47))⟩,
      ⟨(some 12), some undefA, none, false, .pu (.mov (.s 48))⟩])
    (.seq (.seq (.ops [⟨(some 49), some undefA, none, false, .pu (.mov (.s 12))⟩,
      ⟨(some 50), some undefA, none, false, .pu (.bin .eql (.s 49) (.c (.int .i64 2)))⟩])
    (.cond (.s 50) (.seq (.ops [⟨(some 51), some undefA, none, false, .pu (.mov (.s 0))⟩,
       ⟨(some 52), some undefA, none, false, .pu (.mov (.s 1))⟩,
       ⟨(some 53), some undefA, none, false, .pu (.mov (.s 2))⟩,
       ⟨(some 54), some undefA, none, false, .call 96 [(.s 51), (.s 52), (.s 53)]⟩])
     (.seq (.ops [⟨(some 55), some undefA, none, false, .pu (.mov (.s 2))⟩,
       ⟨(some 56), some undefA, none, false, .pu (.bin .sub (.s 55) (.c (.int .i64 1)))⟩,
       ⟨(some 57), some undefA, none, false, .pu (.mov (.s 11))⟩,
       ⟨(some 58), some undefA, none, false, .pu (.mov (.s 1))⟩,
       ⟨(some 59), some undefA, none, false, .pu (.bin .sub (.s 57) (.s 58))⟩,
       ⟨(some 60), some undefA, none, false, .pu (.bin .sub (.s 56) (.s 59))⟩,
       ⟨(some 11), some undefA, none, false, .pu (.mov (.s 60))⟩])
     (.ops [⟨(some 12), some undefA, none, false, .pu (.mov (.c (.int .i64 1)))⟩])))
    (.skip)))
    (.seq (.seq (.ops [⟨(some 61), some undefA, none, false, .pu (.mov (.s 8))⟩,
      ⟨(some 62), some undefA, none, false, .pu (.mov (.s 61))⟩,
      ⟨(some 63), some undefA, (some (62, true)), false, .pu (.mov (.s 9))⟩,
      ⟨(some 64), some undefA, none, false, .pu (.pick (.s 62) (.s 63) (.c (.bool false)))⟩,
      ⟨(some 65), some undefA, none, false, .pu (.mov (.s 64))⟩,
      ⟨(some 66), some undefA, (some (65, true)), false, .pu (.mov (.s 12))⟩,
      ⟨(some 67), some undefA, (some (65, true)), false, .pu (.bin .eql (.s 66) (.c (.int .i64 1)))⟩,
      ⟨(some 68), some undefA, none, false, .pu (.pick (.s 65) (.s 67) (.c (.bool false)))⟩])
    (.cond (.s 68) (.seq (.ops [⟨(some 69), some undefA, none, false, .pu (.mov (.s 0))⟩,
       ⟨(some 70), some undefA, none, false, .pu (.mov (.s 1))⟩,
       ⟨(some 71), some undefA, none, false, .pu (.mov (.s 2))⟩,
       ⟨(some 72), some undefA, none, false, .call 97 [(.s 69), (.s 70), (.s 71)]⟩])
     (.cond (.s 72) (.ret)
     (.skip)))
    (.skip)))
    (.seq (.seq (.ops [⟨(some 73), some undefA, none, false, .pu (.mov (.s 1))⟩,
      ⟨(some 74), some undefA, none, false, .pu (.bin .gtr (.s 73) (.c (.int .i64 0)))⟩,
      ⟨(some 75), some undefA, none, false, .pu (.mov (.s 74))⟩,
      ⟨(some 76), some undefA, (some (75, true)), true, .pu (.mov (.s 0))⟩,
      ⟨(some 77), some undefA, (some (75, true)), true, .pu (.mov (.s 1))⟩,
      ⟨(some 78), some undefA, (some (75, true)), true, .pu (.bin .sub (.s 77) (.c (.int .i64 1)))⟩,
      ⟨(some 79), some undefA, (some (75, true)), true, .pu (.idx 1 (.s 76) (.s 78))⟩,
      ⟨(some 80), some undefA, (some (75, true)), true, .ld (.ld 1 false (.s 79))⟩,
      ⟨(some 81), some undefA, (some (75, true)), true, .pu (.mov (.s 0))⟩,
      ⟨(some 82), some undefA, (some (75, true)), true, .pu (.mov (.s 11))⟩,
      ⟨(some 83), some undefA, (some (75, true)), true, .pu (.idx 1 (.s 81) (.s 82))⟩,
      ⟨(some 84), some undefA, (some (75, true)), true, .ld (.ld 1 false (.s 83))⟩,
      ⟨(some 85), some undefA, (some (75, true)), false, .call 98 [(.s 80), (.s 84)]⟩,
      ⟨(some 86), some undefA, (some (75, true)), false, .pu (.not (.s 85))⟩,
      ⟨(some 87), some undefA, none, false, .pu (.pick (.s 75) (.s 86) (.c (.bool false)))⟩])
    (.cond (.s 87) (.seq (.ops [⟨(some 88), some undefA, none, false, .pu (.mov (.s 0))⟩,
       ⟨(some 89), some undefA, none, false, .pu (.mov (.s 1))⟩,
       ⟨(some 90), some undefA, none, false, .pu (.mov (.s 2))⟩,
       ⟨(some 91), some undefA, none, false, .pu (.mov (.s 11))⟩,
       ⟨(some 92), some undefA, none, false, .call 99 [(.s 88), (.s 89), (.s 90), (.s 91)]⟩,
       ⟨(some 13), some undefA, none, false, .pu (.mov (.s 92))⟩])
     (.seq (.ops [⟨(some 93), some undefA, none, false, .pu (.mov (.s 13))⟩,
       ⟨(some 1), some undefA, none, false, .pu (.mov (.s 93))⟩])
     (.exit 1)))
    (.skip)))
    (.seq (.ops [⟨(some 95), some undefA, none, false, .pu (.mov (.s 0))⟩,
      ⟨(some 96), some undefA, none, false, .pu (.mov (.s 1))⟩,
      ⟨(some 97), some undefA, none, false, .pu (.mov (.s 2))⟩,
      ⟨(some 98), some undefA, none, false, .pu (.mov (.s 11))⟩,
      ⟨(some 99), some undefA, none, false, .call 100 [(.s 95), (.s 96), (.s 97), (.s 98)]⟩,
      ⟨(some 94), some undefA, none, false, .pu (.mov (.s 99))⟩,
      ⟨(some 100), some undefA, none, false, .pu (.extr 0 (.s 94))⟩,
      ⟨(some 101), some undefA, none, false, .pu (.extr 1 (.s 94))⟩,
      ⟨(some 14), some undefA, none, false, .pu (.mov (.s 100))⟩,
      ⟨(some 15), some undefA, none, false, .pu (.mov (.s 101))⟩])
    (.seq (.ops [⟨(some 102), some undefA, none, false, .pu (.mov (.s 15))⟩,
      ⟨(some 9), some undefA, none, false, .pu (.mov (.s 102))⟩])
    (.seq (.ops [⟨(some 103), some undefA, none, false, .pu (.mov (.s 14))⟩,
      ⟨(some 104), some undefA, none, false, .pu (.mov (.s 1))⟩,
      ⟨(some 105), some undefA, none, false, .pu (.bin .sub (.s 103) (.s 104))⟩,
      ⟨(some 106), some undefA, none, false, .pu (.mov (.s 2))⟩,
      ⟨(some 107), some undefA, none, false, .pu (.mov (.s 14))⟩,
      ⟨(some 108), some undefA, none, false, .pu (.bin .sub (.s 106) (.s 107))⟩,
      ⟨(some 16), some undefA, none, false, .pu (.mov (.s 105))⟩,
      ⟨(some 17), some undefA, none, false, .pu (.mov (.s 108))⟩])
    (.seq (.ops [⟨(some 109), some undefA, none, false, .pu (.mov (.s 10))⟩,
      ⟨(some 110), some undefA, none, false, .pu (.bin .quo (.s 109) (.c (.int .i64 8)))⟩,
      ⟨(some 18), some undefA, none, false, .pu (.mov (.s 110))⟩])
    (.seq (.ops [⟨(some 111), some undefA, none, false, .pu (.mov (.s 16))⟩,
      ⟨(some 112), some undefA, none, false, .pu (.mov (.s 17))⟩,
      ⟨(some 113), some undefA, none, false, .pu (.bin .lss (.s 111) (.s 112))⟩])
    (.cond (.s 113) (.seq (.ops [⟨(some 114), some undefA, none, false, .pu (.mov (.s 16))⟩,
       ⟨(some 115), some undefA, none, false, .pu (.mov (.s 18))⟩,
       ⟨(some 116), some undefA, none, false, .pu (.bin .geq (.s 114) (.s 115))⟩,
       ⟨(some 8), some undefA, none, false, .pu (.mov (.s 116))⟩])
     (.seq (.ops [⟨(some 117), some undefA, none, false, .pu (.mov (.s 0))⟩,
       ⟨(some 118), some undefA, none, false, .pu (.mov (.s 1))⟩,
       ⟨(some 119), some undefA, none, false, .pu (.mov (.s 14))⟩,
       ⟨(some 120), some undefA, none, false, .pu (.mov (.s 3))⟩,
       ⟨(some 121), some undefA, none, false, .call 83 [(.s 117), (.s 118), (.s 119), (.s 120)]⟩])
     (.ops [⟨(some 122), some undefA, none, false, .pu (.mov (.s 14))⟩,
       ⟨(some 123), some undefA, none, false, .pu (.bin .add (.s 122) (.c (.int .i64 1)))⟩,
       ⟨(some 1), some undefA, none, false, .pu (.mov (.s 123))⟩])))
    (.seq (.ops [⟨(some 124), some undefA, none, false, .pu (.mov (.s 17))⟩,
       ⟨(some 125), some undefA, none, false, .pu (.mov (.s 18))⟩,
       ⟨(some 126), some undefA, none, false, .pu (.bin .geq (.s 124) (.s 125))⟩,
       ⟨(some 8), some undefA, none, false, .pu (.mov (.s 126))⟩])
     (.seq (.ops [⟨(some 127), some undefA, none, false, .pu (.mov (.s 0))⟩,
       ⟨(some 128), some undefA, none, false, .pu (.mov (.s 14))⟩,
       ⟨(some 129), some undefA, none, false, .pu (.bin .add (.s 128) (.c (.int .i64 1)))⟩,
       ⟨(some 130), some undefA, none, false, .pu (.mov (.s 2))⟩,
       ⟨(some 131), some undefA, none, false, .pu (.mov (.s 3))⟩,
       ⟨(some 132), some undefA, none, false, .call 83 [(.s 127), (.s 129), (.s 130), (.s 131)]⟩])
     (.ops [⟨(some 133), some undefA, none, false, .pu (.mov (.s 14))⟩,
       ⟨(some 2), some undefA, none, false, .pu (.mov (.s 133))⟩])))))))))))))))))))))⟩
theorem t83 : trF Try.prog [] [] Try.f83 = some m83 := by kernel_rfl
/-- math/bits.Len [] -/
def m84 : MFun := ⟨8, [], [.mov (.s 2)],
 .seq (.ops [⟨(some 2), some undefA, none, false, .pu (.mov (.c (.int .i64 0)))⟩])
 (.seq (.cond (.c (.bool false)) (.seq (.ops [⟨(some 3), some undefA, none, false, .pu (.mov (.s 0))⟩,
    ⟨(some 4), some undefA, none, false, .pu (.conv .u32 (.s 3))⟩,
    ⟨(some 5), some undefA, none, false, .call 101 [(.s 4)]⟩,
    ⟨(some 2), some undefA, none, false, .pu (.mov (.s 5))⟩])
  (.ret))
 (.skip))
 (.seq (.ops [⟨(some 6), some undefA, none, false, .pu (.mov (.s 0))⟩,
   ⟨(some 7), some undefA, none, false, .call 102 [(.s 6)]⟩,
   ⟨(some 2), some undefA, none, false, .pu (.mov (.s 7))⟩])
 (.ret)))⟩
theorem t84 : trF Try.prog [] [] Try.f84 = some m84 := by kernel_rfl
/-- selion/claim.level [loop [0, 4, 5, 6, 15, 16, 17]] -/
def m85 : MFun := ⟨41, [4], [.bget none 4 0 2 true],
 .seq (.ops [⟨(some 4), some (.junk), none, false, .pu (.bnew (.c (.agg [.int .i64 0, .int .i64 0])))⟩])
 (.seq (.ops [⟨(some 10), some undefA, none, false, .pu (.mov (.s 0))⟩,
   ⟨(some 11), some undefA, none, false, .call 103 [(.s 10)]⟩,
   ⟨(some 5), some undefA, none, false, .pu (.mov (.s 11))⟩])
 (.seq (.ops [⟨(some 12), some undefA, none, false, .pu (.mov (.s 5))⟩,
   ⟨(some 13), some undefA, none, false, .call 72 [(.s 12)]⟩])
 (.seq (.ops [⟨(some 14), some undefA, none, false, .pu (.mov (.s 1))⟩,
   ⟨(some 6), some undefA, none, false, .pu (.mov (.s 14))⟩])
 (.seq (.seq (.ops [⟨(some 15), some undefA, none, false, .pu (.mov (.s 5))⟩,
   ⟨(some 16), some undefA, none, false, .pu (.len (.s 15))⟩,
   ⟨(some 17), some undefA, none, false, .pu (.mov (.c (.int .i64 0)))⟩])
 (.block 0 (.loop (.seq (.ops [⟨(some 18), some undefA, none, false, .pu (.bin .lss (.s 17) (.s 16))⟩])
   (.seq (.cond (.s 18) (.skip)
   (.exit 0))
   (.seq (.block 1 (.seq (.ops [⟨(some 19), some undefA, none, false, .pu (.mov (.s 17))⟩,
      ⟨(some 20), some undefA, none, false, .pu (.idx 1 (.s 15) (.s 17))⟩,
      ⟨(some 21), some undefA, none, false, .ld (.ld 1 false (.s 20))⟩,
      ⟨(some 7), some undefA, none, false, .pu (.mov (.s 19))⟩,
      ⟨(some 8), some undefA, none, false, .pu (.mov (.s 21))⟩])
    (.seq (.seq (.ops [⟨(some 22), some undefA, none, false, .pu (.mov (.s 5))⟩,
      ⟨(some 23), some undefA, none, false, .pu (.len (.s 22))⟩,
      ⟨(some 24), some undefA, none, false, .pu (.mov (.s 7))⟩,
      ⟨(some 25), some undefA, none, false, .pu (.bin .sub (.s 23) (.s 24))⟩,
      ⟨(some 9), some undefA, none, false, .pu (.mov (.s 25))⟩])
    (.seq (.ops [⟨(some 26), some undefA, none, false, .pu (.mov (.s 8))⟩,
      ⟨(some 27), some undefA, none, false, .pu (.mov (.s 9))⟩,
      ⟨(some 28), some undefA, none, false, .pu (.bin .mul (.s 26) (.s 27))⟩,
      ⟨(some 29), some undefA, none, false, .pu (.mov (.s 6))⟩,
      ⟨(some 30), some undefA, none, false, .pu (.bin .geq (.s 28) (.s 29))⟩])
    (.cond (.s 30) (.seq (.ops [⟨(some 31), some undefA, none, false, .pu (.mov (.s 6))⟩,
       ⟨(some 32), some undefA, none, false, .pu (.mov (.s 9))⟩,
       ⟨(some 33), some undefA, none, false, .call 61 [(.s 31), (.s 32)]⟩,
       ⟨(some 4), none, none, false, .pu (.bset none 4 0 2 (.s 33))⟩])
     (.ret))
    (.skip))))
    (.ops [⟨(some 34), some undefA, none, false, .pu (.mov (.s 6))⟩,
      ⟨(some 35), some undefA, none, false, .pu (.mov (.s 8))⟩,
      ⟨(some 36), some undefA, none, false, .pu (.bin .sub (.s 34) (.s 35))⟩,
      ⟨(some 6), some undefA, none, false, .pu (.mov (.s 36))⟩]))))
   (.ops [⟨(some 37), some undefA, none, false, .pu (.bin .add (.s 17) (.c (.int .i64 1)))⟩,
     ⟨(some 17), some undefA, none, false, .pu (.mov (.s 37))⟩])))))))
 (.seq (.ops [⟨(some 38), some undefA, none, false, .pu (.mov (.s 0))⟩,
   ⟨(some 39), some undefA, none, false, .call 64 [(.s 38)]⟩,
   ⟨(some 40), some undefA, none, false, .call 61 [(.s 39), (.c (.int .i64 1))]⟩,
   ⟨(some 4), none, none, false, .pu (.bset none 4 0 2 (.s 40))⟩])
 (.ret))))))⟩
theorem t85 : trF Try.prog [4] [] Try.f85 = some m85 := by kernel_rfl
/-- selion/claim.rules$1 [] -/
def m87 : MFun := ⟨10, [], [.mov (.s 4)],
 .seq (.ops [⟨(some 4), some undefA, none, false, .pu (.mov (.c (.nilS)))⟩])
 (.seq (.ops [⟨(some 5), some undefA, none, false, .pu (.mov (.s 0))⟩,
   ⟨(some 6), some undefA, none, false, .pu (.mov (.s 0))⟩,
   ⟨(some 7), some undefA, none, false, .pu (.mov (.s 1))⟩,
   ⟨(some 8), some undefA, none, false, .call 85 [(.s 6), (.s 7)]⟩,
   ⟨(some 9), some undefA, none, false, .call 88 [(.s 5), (.s 8)]⟩,
   ⟨(some 4), some undefA, none, false, .pu (.mov (.s 9))⟩])
 (.ret))⟩
theorem t87 : trF Try.prog [] [] Try.f87 = some m87 := by kernel_rfl
/-- selion/claim.capped [loop [3, 5, 8, 9, 10]] -/
def m88 : MFun := ⟨32, [3], [.mov (.s 4)],
 .seq (.ops [⟨(some 3), some (.junk), none, false, .pu (.bnew (.s 1))⟩,
   ⟨(some 4), some undefA, none, false, .pu (.mov (.c (.nilS)))⟩])
 (.seq (.ops [⟨(some 5), some undefA, none, false, .pu (.mov (.c (.nilS)))⟩])
 (.seq (.seq (.ops [⟨(some 8), some undefA, none, false, .pu (.mov (.s 0))⟩,
   ⟨(some 9), some undefA, none, false, .pu (.len (.s 8))⟩,
   ⟨(some 10), some undefA, none, false, .pu (.mov (.c (.int .i64 0)))⟩])
 (.block 0 (.loop (.seq (.ops [⟨(some 11), some undefA, none, false, .pu (.bin .lss (.s 10) (.s 9))⟩])
   (.seq (.cond (.s 11) (.skip)
   (.exit 0))
   (.seq (.block 1 (.seq (.ops [⟨(some 12), some undefA, none, false, .pu (.idx 1 (.s 8) (.s 10))⟩,
      ⟨(some 13), some undefA, none, false, .ld (.ld 1 false (.s 12))⟩,
      ⟨(some 7), some undefA, none, false, .pu (.mov (.s 13))⟩])
    (.seq (.ops [⟨(some 14), some undefA, none, false, .pu (.mov (.s 7))⟩,
      ⟨(some 15), some undefA, none, false, .pu (.badr none 3)⟩,
      ⟨(some 16), some undefA, none, false, .pu (.bget (some 15) 3 1 1 false)⟩,
      ⟨(some 17), some undefA, none, false, .pu (.bin .mul (.s 14) (.s 16))⟩,
      ⟨(some 18), some undefA, none, false, .pu (.badr none 3)⟩,
      ⟨(some 19), some undefA, none, false, .pu (.bget (some 18) 3 0 1 false)⟩,
      ⟨(some 20), some undefA, none, false, .pu (.bin .lss (.s 17) (.s 19))⟩])
    (.cond (.s 20) (.ops [⟨(some 21), some undefA, none, false, .pu (.mov (.s 5))⟩,
       ⟨(some 22), some undefA, none, false, .pu (.mov (.s 7))⟩,
       ⟨(some 23), some undefA, none, false, .call 61 [(.s 22), (.c (.int .i64 1))]⟩,
       ⟨(some 24), some undefA, none, false, .ha (.blds 2 1 [.int .i64 0, .int .i64 0] [(0, 2, (.s 23))])⟩,
       ⟨(some 25), some undefA, none, false, .ha (.app 2 (.s 21) (.s 24))⟩,
       ⟨(some 5), some undefA, none, false, .pu (.mov (.s 25))⟩])
    (.ops [⟨(some 26), some undefA, none, false, .pu (.mov (.s 5))⟩,
       ⟨(some 27), some undefA, none, false, .pu (.bget none 3 0 2 true)⟩,
       ⟨(some 28), some undefA, none, false, .ha (.blds 2 1 [.int .i64 0, .int .i64 0] [(0, 2, (.s 27))])⟩,
       ⟨(some 29), some undefA, none, false, .ha (.app 2 (.s 26) (.s 28))⟩,
       ⟨(some 5), some undefA, none, false, .pu (.mov (.s 29))⟩])))))
   (.ops [⟨(some 30), some undefA, none, false, .pu (.bin .add (.s 10) (.c (.int .i64 1)))⟩,
     ⟨(some 10), some undefA, none, false, .pu (.mov (.s 30))⟩])))))))
 (.seq (.ops [⟨(some 31), some undefA, none, false, .pu (.mov (.s 5))⟩,
   ⟨(some 4), some undefA, none, false, .pu (.mov (.s 31))⟩])
 (.ret))))⟩
theorem t88 : trF Try.prog [3] [] Try.f88 = some m88 := by kernel_rfl
/-- selion/claim.rules$2 [] -/
def m89 : MFun := ⟨15, [], [.mov (.s 5)],
 .seq (.ops [⟨(some 5), some undefA, none, false, .pu (.mov (.c (.nilS)))⟩])
 (.seq (.ops [⟨(some 6), some undefA, none, true, .pu (.mov (.s 0))⟩,
   ⟨(some 7), some undefA, none, true, .ld (.ld 1 false (.s 2))⟩,
   ⟨(some 8), some undefA, none, true, .pu (.mov (.s 0))⟩,
   ⟨(some 9), some undefA, none, true, .pu (.mov (.s 0))⟩,
   ⟨(some 10), some undefA, none, true, .call 54 [(.s 9)]⟩,
   ⟨(some 11), some undefA, none, true, .pu (.mov (.s 1))⟩,
   ⟨(some 12), some undefA, none, true, .pu (.bin .sub (.s 10) (.s 11))⟩,
   ⟨(some 13), some undefA, none, false, .callv (.s 7) [(.s 8), (.s 12)]⟩,
   ⟨(some 14), some undefA, none, false, .call 75 [(.s 6), (.s 13)]⟩,
   ⟨(some 5), some undefA, none, false, .pu (.mov (.s 14))⟩])
 (.ret))⟩
theorem t89 : trF Try.prog [] [] Try.f89 = some m89 := by kernel_rfl
/-- selion/claim.rules$3 [loop [0, 1, 5, 8, 9, 10]] -/
def m90 : MFun := ⟨26, [], [.mov (.s 4)],
 .seq (.ops [⟨(some 4), some undefA, none, false, .pu (.mov (.c (.nilS)))⟩])
 (.seq (.ops [⟨(some 5), some undefA, none, false, .pu (.mov (.c (.nilS)))⟩])
 (.seq (.seq (.ops [⟨(some 8), some undefA, none, false, .pu (.mov (.s 0))⟩,
   ⟨(some 9), some undefA, none, false, .pu (.len (.s 8))⟩,
   ⟨(some 10), some undefA, none, false, .pu (.mov (.c (.int .i64 0)))⟩])
 (.block 0 (.loop (.seq (.ops [⟨(some 11), some undefA, none, false, .pu (.bin .lss (.s 10) (.s 9))⟩])
   (.seq (.cond (.s 11) (.skip)
   (.exit 0))
   (.seq (.block 1 (.seq (.ops [⟨(some 12), some undefA, none, false, .pu (.idx 1 (.s 8) (.s 10))⟩,
      ⟨(some 13), some undefA, none, false, .ld (.ld 1 false (.s 12))⟩,
      ⟨(some 7), some undefA, none, false, .pu (.mov (.s 13))⟩])
    (.ops [⟨(some 14), some undefA, none, false, .pu (.mov (.s 5))⟩,
      ⟨(some 15), some undefA, none, false, .pu (.mov (.s 7))⟩,
      ⟨(some 16), some undefA, none, false, .pu (.mov (.s 1))⟩,
      ⟨(some 17), some undefA, none, false, .pu (.bin .mul (.s 15) (.s 16))⟩,
      ⟨(some 18), some undefA, none, false, .pu (.mov (.s 0))⟩,
      ⟨(some 19), some undefA, none, false, .call 54 [(.s 18)]⟩,
      ⟨(some 20), some undefA, none, false, .pu (.mm true (.c (.int .i64 1)) [(.s 19)])⟩,
      ⟨(some 21), some undefA, none, false, .call 61 [(.s 17), (.s 20)]⟩,
      ⟨(some 22), some undefA, none, false, .ha (.blds 2 1 [.int .i64 0, .int .i64 0] [(0, 2, (.s 21))])⟩,
      ⟨(some 23), some undefA, none, false, .ha (.app 2 (.s 14) (.s 22))⟩,
      ⟨(some 5), some undefA, none, false, .pu (.mov (.s 23))⟩])))
   (.ops [⟨(some 24), some undefA, none, false, .pu (.bin .add (.s 10) (.c (.int .i64 1)))⟩,
     ⟨(some 10), some undefA, none, false, .pu (.mov (.s 24))⟩])))))))
 (.seq (.ops [⟨(some 25), some undefA, none, false, .pu (.mov (.s 5))⟩,
   ⟨(some 4), some undefA, none, false, .pu (.mov (.s 25))⟩])
 (.ret))))⟩
theorem t90 : trF Try.prog [] [] Try.f90 = some m90 := by kernel_rfl
/-- selion/claim.rules$4 [loop [8, 23, 24, 25], loop [0, 8, 46, 47, 48]] -/
def m91 : MFun := ⟨72, [10, 12], [.mov (.s 6)],
 .seq (.ops [⟨(some 6), some undefA, none, false, .pu (.mov (.c (.nilS)))⟩])
 (.seq (.ops [⟨(some 13), some undefA, none, false, .pu (.mov (.s 0))⟩,
   ⟨(some 14), some undefA, none, false, .call 54 [(.s 13)]⟩,
   ⟨(some 7), some undefA, none, false, .pu (.mov (.s 14))⟩])
 (.seq (.ops [⟨(some 8), some undefA, none, false, .pu (.mov (.c (.nilS)))⟩])
 (.seq (.seq (.ops [⟨(some 15), some undefA, none, false, .pu (.mov (.s 1))⟩,
   ⟨(some 16), some undefA, none, false, .pu (.bin .mul (.c (.int .i64 2)) (.s 15))⟩,
   ⟨(some 17), some undefA, none, false, .pu (.mov (.s 7))⟩,
   ⟨(some 18), some undefA, none, false, .pu (.bin .leq (.s 16) (.s 17))⟩])
 (.cond (.s 18) (.seq (.seq (.ops [⟨(some 19), some undefA, none, false, .ld (.ld 1 false (.s 2))⟩,
    ⟨(some 20), some undefA, none, false, .pu (.mov (.s 0))⟩,
    ⟨(some 21), some undefA, none, false, .pu (.mov (.s 1))⟩,
    ⟨(some 22), some undefA, none, false, .pu (.bin .mul (.c (.int .i64 2)) (.s 21))⟩,
    ⟨(some 23), some undefA, none, false, .callv (.s 19) [(.s 20), (.s 22)]⟩,
    ⟨(some 24), some undefA, none, false, .pu (.len (.s 23))⟩,
    ⟨(some 25), some undefA, none, false, .pu (.mov (.c (.int .i64 0)))⟩])
  (.block 0 (.loop (.seq (.ops [⟨(some 26), some undefA, none, false, .pu (.bin .lss (.s 25) (.s 24))⟩])
    (.seq (.cond (.s 26) (.skip)
    (.exit 0))
    (.seq (.block 1 (.seq (.ops [⟨(some 27), some undefA, none, false, .pu (.idx 2 (.s 23) (.s 25))⟩,
       ⟨(some 28), some undefA, none, false, .ld (.ld 2 true (.s 27))⟩,
       ⟨(some 10), some (.junk), none, false, .pu (.bnew (.c (.agg [.int .i64 0, .int .i64 0])))⟩,
       ⟨(some 10), none, none, false, .pu (.bset none 10 0 2 (.s 28))⟩])
     (.ops [⟨(some 29), some undefA, none, false, .pu (.mov (.s 8))⟩,
       ⟨(some 30), some undefA, none, false, .pu (.badr none 10)⟩,
       ⟨(some 31), some undefA, none, false, .pu (.bget (some 30) 10 0 1 false)⟩,
       ⟨(some 32), some undefA, none, false, .pu (.badr none 10)⟩,
       ⟨(some 33), some undefA, none, false, .pu (.bget (some 32) 10 1 1 false)⟩,
       ⟨(some 34), some undefA, none, false, .pu (.bin .mul (.c (.int .i64 2)) (.s 33))⟩,
       ⟨(some 35), some undefA, none, false, .call 61 [(.s 31), (.s 34)]⟩,
       ⟨(some 36), some undefA, none, false, .ha (.blds 2 1 [.int .i64 0, .int .i64 0] [(0, 2, (.s 35))])⟩,
       ⟨(some 37), some undefA, none, false, .ha (.app 2 (.s 29) (.s 36))⟩,
       ⟨(some 8), some undefA, none, false, .pu (.mov (.s 37))⟩])))
    (.ops [⟨(some 38), some undefA, none, false, .pu (.bin .add (.s 25) (.c (.int .i64 1)))⟩,
      ⟨(some 25), some undefA, none, false, .pu (.mov (.s 38))⟩])))))))
  (.seq (.ops [⟨(some 39), some undefA, none, false, .pu (.mov (.s 8))⟩,
    ⟨(some 6), some undefA, none, false, .pu (.mov (.s 39))⟩])
  (.ret)))
 (.skip)))
 (.seq (.seq (.ops [⟨(some 40), some undefA, none, false, .ld (.ld 1 false (.s 3))⟩,
   ⟨(some 41), some undefA, none, false, .pu (.mov (.s 0))⟩,
   ⟨(some 42), some undefA, none, false, .pu (.mov (.s 1))⟩,
   ⟨(some 43), some undefA, none, false, .pu (.bin .mul (.c (.int .i64 2)) (.s 42))⟩,
   ⟨(some 44), some undefA, none, false, .pu (.mov (.s 7))⟩,
   ⟨(some 45), some undefA, none, false, .pu (.bin .sub (.s 43) (.s 44))⟩,
   ⟨(some 46), some undefA, none, false, .callv (.s 40) [(.s 41), (.s 45)]⟩,
   ⟨(some 47), some undefA, none, false, .pu (.len (.s 46))⟩,
   ⟨(some 48), some undefA, none, false, .pu (.mov (.c (.int .i64 0)))⟩])
 (.block 2 (.loop (.seq (.ops [⟨(some 49), some undefA, none, false, .pu (.bin .lss (.s 48) (.s 47))⟩])
   (.seq (.cond (.s 49) (.skip)
   (.exit 2))
   (.seq (.block 3 (.seq (.ops [⟨(some 50), some undefA, none, false, .pu (.mov (.s 48))⟩,
      ⟨(some 51), some undefA, none, false, .pu (.idx 2 (.s 46) (.s 48))⟩,
      ⟨(some 52), some undefA, none, false, .ld (.ld 2 true (.s 51))⟩,
      ⟨(some 12), some (.junk), none, false, .pu (.bnew (.c (.agg [.int .i64 0, .int .i64 0])))⟩,
      ⟨(some 11), some undefA, none, false, .pu (.mov (.s 50))⟩,
      ⟨(some 12), none, none, false, .pu (.bset none 12 0 2 (.s 52))⟩])
    (.ops [⟨(some 53), some undefA, none, true, .pu (.mov (.s 8))⟩,
      ⟨(some 54), some undefA, none, true, .pu (.badr none 12)⟩,
      ⟨(some 55), some undefA, none, true, .pu (.bget (some 54) 12 0 1 false)⟩,
      ⟨(some 56), some undefA, none, false, .pu (.mov (.s 0))⟩,
      ⟨(some 57), some undefA, none, false, .pu (.mov (.s 11))⟩,
      ⟨(some 58), some undefA, none, false, .pu (.idx 1 (.s 56) (.s 57))⟩,
      ⟨(some 59), some undefA, none, true, .ld (.ld 1 false (.s 58))⟩,
      ⟨(some 60), some undefA, none, true, .pu (.badr none 12)⟩,
      ⟨(some 61), some undefA, none, true, .pu (.bget (some 60) 12 1 1 false)⟩,
      ⟨(some 62), some undefA, none, false, .pu (.bin .mul (.s 59) (.s 61))⟩,
      ⟨(some 63), some undefA, none, false, .pu (.bin .add (.s 55) (.s 62))⟩,
      ⟨(some 64), some undefA, none, true, .pu (.badr none 12)⟩,
      ⟨(some 65), some undefA, none, true, .pu (.bget (some 64) 12 1 1 false)⟩,
      ⟨(some 66), some undefA, none, true, .pu (.bin .mul (.c (.int .i64 2)) (.s 65))⟩,
      ⟨(some 67), some undefA, none, false, .call 61 [(.s 63), (.s 66)]⟩,
      ⟨(some 68), some undefA, none, false, .ha (.blds 2 1 [.int .i64 0, .int .i64 0] [(0, 2, (.s 67))])⟩,
      ⟨(some 69), some undefA, none, false, .ha (.app 2 (.s 53) (.s 68))⟩,
      ⟨(some 8), some undefA, none, false, .pu (.mov (.s 69))⟩])))
   (.ops [⟨(some 70), some undefA, none, false, .pu (.bin .add (.s 48) (.c (.int .i64 1)))⟩,
     ⟨(some 48), some undefA, none, false, .pu (.mov (.s 70))⟩])))))))
 (.seq (.ops [⟨(some 71), some undefA, none, false, .pu (.mov (.s 8))⟩,
   ⟨(some 6), some undefA, none, false, .pu (.mov (.s 71))⟩])
 (.ret))))))⟩
theorem t91 : trF Try.prog [10, 12] [] Try.f91 = some m91 := by kernel_rfl
/-- slices.insertionSortOrdered[int] [loop [0, 1, 2, 6], loop [0, 1, 2, 6, 7]] -/
def m92 : MFun := ⟨49, [], [],
 .seq (.ops [⟨(some 8), some undefA, none, false, .pu (.mov (.s 1))⟩,
   ⟨(some 9), some undefA, none, false, .pu (.bin .add (.s 8) (.c (.int .i64 1)))⟩,
   ⟨(some 6), some undefA, none, false, .pu (.mov (.s 9))⟩])
 (.block 0 (.loop (.seq (.seq (.ops [⟨(some 10), some undefA, none, false, .pu (.mov (.s 6))⟩,
     ⟨(some 11), some undefA, none, false, .pu (.mov (.s 2))⟩,
     ⟨(some 12), some undefA, none, false, .pu (.bin .lss (.s 10) (.s 11))⟩])
   (.cond (.s 12) (.skip)
   (.exit 0)))
   (.seq (.block 1 (.seq (.ops [⟨(some 15), some undefA, none, false, .pu (.mov (.s 6))⟩,
      ⟨(some 7), some undefA, none, false, .pu (.mov (.s 15))⟩])
    (.block 2 (.loop (.seq (.seq (.ops [⟨(some 16), some undefA, none, false, .pu (.mov (.s 7))⟩,
        ⟨(some 17), some undefA, none, false, .pu (.mov (.s 1))⟩,
        ⟨(some 18), some undefA, none, false, .pu (.bin .gtr (.s 16) (.s 17))⟩,
        ⟨(some 19), some undefA, none, false, .pu (.mov (.s 18))⟩,
        ⟨(some 20), some undefA, (some (19, true)), true, .pu (.mov (.s 0))⟩,
        ⟨(some 21), some undefA, (some (19, true)), true, .pu (.mov (.s 7))⟩,
        ⟨(some 22), some undefA, (some (19, true)), true, .pu (.idx 1 (.s 20) (.s 21))⟩,
        ⟨(some 23), some undefA, (some (19, true)), true, .ld (.ld 1 false (.s 22))⟩,
        ⟨(some 24), some undefA, (some (19, true)), true, .pu (.mov (.s 0))⟩,
        ⟨(some 25), some undefA, (some (19, true)), true, .pu (.mov (.s 7))⟩,
        ⟨(some 26), some undefA, (some (19, true)), true, .pu (.bin .sub (.s 25) (.c (.int .i64 1)))⟩,
        ⟨(some 27), some undefA, (some (19, true)), true, .pu (.idx 1 (.s 24) (.s 26))⟩,
        ⟨(some 28), some undefA, (some (19, true)), true, .ld (.ld 1 false (.s 27))⟩,
        ⟨(some 29), some undefA, (some (19, true)), false, .call 98 [(.s 23), (.s 28)]⟩,
        ⟨(some 30), some undefA, none, false, .pu (.pick (.s 19) (.s 29) (.c (.bool false)))⟩])
      (.cond (.s 30) (.skip)
      (.exit 2)))
      (.seq (.block 3 (.ops [⟨(some 33), some undefA, none, true, .pu (.mov (.s 0))⟩,
         ⟨(some 34), some undefA, none, true, .pu (.mov (.s 7))⟩,
         ⟨(some 35), some undefA, none, true, .pu (.mov (.s 0))⟩,
         ⟨(some 36), some undefA, none, true, .pu (.mov (.s 7))⟩,
         ⟨(some 37), some undefA, none, true, .pu (.bin .sub (.s 36) (.c (.int .i64 1)))⟩,
         ⟨(some 38), some undefA, none, true, .pu (.mov (.s 0))⟩,
         ⟨(some 39), some undefA, none, true, .pu (.mov (.s 7))⟩,
         ⟨(some 40), some undefA, none, true, .pu (.bin .sub (.s 39) (.c (.int .i64 1)))⟩,
         ⟨(some 41), some undefA, none, true, .pu (.idx 1 (.s 38) (.s 40))⟩,
         ⟨(some 42), some undefA, none, true, .ld (.ld 1 false (.s 41))⟩,
         ⟨(some 43), some undefA, none, true, .pu (.mov (.s 0))⟩,
         ⟨(some 44), some undefA, none, true, .pu (.mov (.s 7))⟩,
         ⟨(some 45), some undefA, none, true, .pu (.idx 1 (.s 43) (.s 44))⟩,
         ⟨(some 46), some undefA, none, true, .ld (.ld 1 false (.s 45))⟩,
         ⟨(some 47), some undefA, none, false, .pu (.idx 1 (.s 33) (.s 34))⟩,
         ⟨none, some undefA, none, false, .ha (.st 1 (.s 47) (.s 42))⟩,
         ⟨(some 48), some undefA, none, false, .pu (.idx 1 (.s 35) (.s 37))⟩,
         ⟨none, some undefA, none, false, .ha (.st 1 (.s 48) (.s 46))⟩]))
      (.ops [⟨(some 31), some undefA, none, false, .pu (.mov (.s 7))⟩,
        ⟨(some 32), some undefA, none, false, .pu (.bin .sub (.s 31) (.c (.int .i64 1)))⟩,
        ⟨(some 7), some undefA, none, false, .pu (.mov (.s 32))⟩])))))))
   (.ops [⟨(some 13), some undefA, none, false, .pu (.mov (.s 6))⟩,
     ⟨(some 14), some undefA, none, false, .pu (.bin .add (.s 13) (.c (.int .i64 1)))⟩,
     ⟨(some 6), some undefA, none, false, .pu (.mov (.s 14))⟩])))))⟩
theorem t92 : trF Try.prog [] [] Try.f92 = some m92 := by kernel_rfl
/-- cmp.Less[int] [] -/
def m98 : MFun := ⟨17, [], [.mov (.s 4)],
 .seq (.ops [⟨(some 4), some undefA, none, false, .pu (.mov (.c (.bool false)))⟩])
 (.seq (.ops [⟨(some 5), some undefA, none, false, .pu (.mov (.s 0))⟩,
   ⟨(some 6), some undefA, none, false, .call 109 [(.s 5)]⟩,
   ⟨(some 7), some undefA, none, false, .pu (.mov (.s 6))⟩,
   ⟨(some 8), some undefA, (some (7, true)), false, .pu (.mov (.s 1))⟩,
   ⟨(some 9), some undefA, (some (7, true)), false, .call 109 [(.s 8)]⟩,
   ⟨(some 10), some undefA, (some (7, true)), false, .pu (.not (.s 9))⟩,
   ⟨(some 11), some undefA, none, false, .pu (.pick (.s 7) (.s 10) (.c (.bool false)))⟩,
   ⟨(some 12), some undefA, none, false, .pu (.mov (.s 11))⟩,
   ⟨(some 13), some undefA, (some (12, false)), false, .pu (.mov (.s 0))⟩,
   ⟨(some 14), some undefA, (some (12, false)), false, .pu (.mov (.s 1))⟩,
   ⟨(some 15), some undefA, (some (12, false)), false, .pu (.bin .lss (.s 13) (.s 14))⟩,
   ⟨(some 16), some undefA, none, false, .pu (.pick (.s 12) (.c (.bool true)) (.s 15))⟩,
   ⟨(some 4), some undefA, none, false, .pu (.mov (.s 16))⟩])
 (.ret))⟩
theorem t98 : trF Try.prog [] [] Try.f98 = some m98 := by kernel_rfl
/-- math/bits.Len64 [] -/
def m102 : MFun := ⟨25, [], [.mov (.s 2)],
 .seq (.ops [⟨(some 2), some undefA, none, false, .pu (.mov (.c (.int .i64 0)))⟩])
 (.seq (.seq (.ops [⟨(some 3), some undefA, none, false, .pu (.mov (.s 0))⟩,
   ⟨(some 4), some undefA, none, false, .pu (.bin .geq (.s 3) (.c (.int .u64 4294967296)))⟩])
 (.cond (.s 4) (.seq (.ops [⟨(some 5), some undefA, none, false, .pu (.mov (.s 0))⟩,
    ⟨(some 6), some undefA, none, false, .pu (.bin .shr (.s 5) (.c (.int .u64 32)))⟩,
    ⟨(some 0), some undefA, none, false, .pu (.mov (.s 6))⟩])
  (.ops [⟨(some 2), some undefA, none, false, .pu (.mov (.c (.int .i64 32)))⟩]))
 (.skip)))
 (.seq (.seq (.ops [⟨(some 7), some undefA, none, false, .pu (.mov (.s 0))⟩,
   ⟨(some 8), some undefA, none, false, .pu (.bin .geq (.s 7) (.c (.int .u64 65536)))⟩])
 (.cond (.s 8) (.seq (.ops [⟨(some 9), some undefA, none, false, .pu (.mov (.s 0))⟩,
    ⟨(some 10), some undefA, none, false, .pu (.bin .shr (.s 9) (.c (.int .u64 16)))⟩,
    ⟨(some 0), some undefA, none, false, .pu (.mov (.s 10))⟩])
  (.ops [⟨(some 11), some undefA, none, false, .pu (.mov (.s 2))⟩,
    ⟨(some 12), some undefA, none, false, .pu (.bin .add (.s 11) (.c (.int .i64 16)))⟩,
    ⟨(some 2), some undefA, none, false, .pu (.mov (.s 12))⟩]))
 (.skip)))
 (.seq (.seq (.ops [⟨(some 13), some undefA, none, false, .pu (.mov (.s 0))⟩,
   ⟨(some 14), some undefA, none, false, .pu (.bin .geq (.s 13) (.c (.int .u64 256)))⟩])
 (.cond (.s 14) (.seq (.ops [⟨(some 15), some undefA, none, false, .pu (.mov (.s 0))⟩,
    ⟨(some 16), some undefA, none, false, .pu (.bin .shr (.s 15) (.c (.int .u64 8)))⟩,
    ⟨(some 0), some undefA, none, false, .pu (.mov (.s 16))⟩])
  (.ops [⟨(some 17), some undefA, none, false, .pu (.mov (.s 2))⟩,
    ⟨(some 18), some undefA, none, false, .pu (.bin .add (.s 17) (.c (.int .i64 8)))⟩,
    ⟨(some 2), some undefA, none, false, .pu (.mov (.s 18))⟩]))
 (.skip)))
 (.seq (.ops [⟨(some 19), some undefA, none, false, .pu (.mov (.s 2))⟩,
   ⟨(some 20), some undefA, none, false, .pu (.mov (.s 0))⟩,
   ⟨(some 21), some undefA, none, false, .pu (.conv .u8 (.s 20))⟩,
   ⟨(some 22), some undefA, none, false, .pu (.aidx 256 1 false (.c (.agg [.int .u8 0, .int .u8 1, .int .u8 2, .int .u8 2, .int .u8 3, .int .u8 3, .int .u8 3, .int .u8 3, .int .u8 4, .int .u8 4, .int .u8 4, .int .u8 4, .int .u8 4, .int .u8 4, .int .u8 4, .int .u8 4, .int .u8 5, .int .u8 5, .int .u8 5, .int .u8 5, .int .u8 5, .int .u8 5, .int .u8 5, .int .u8 5, .int .u8 5, .int .u8 5, .int .u8 5, .int .u8 5, .int .u8 5, .int .u8 5, .int .u8 5, .int .u8 5, .int .u8 6, .int .u8 6, .int .u8 6, .int .u8 6, .int .u8 6, .int .u8 6, .int .u8 6, .int .u8 6, .int .u8 6, .int .u8 6, .int .u8 6, .int .u8 6, .int .u8 6, .int .u8 6, .int .u8 6, .int .u8 6, .int .u8 6, .int .u8 6, .int .u8 6, .int .u8 6, .int .u8 6, .int .u8 6, .int .u8 6, .int .u8 6, .int .u8 6, .int .u8 6, .int .u8 6, .int .u8 6, .int .u8 6, .int .u8 6, .int .u8 6, .int .u8 6, .int .u8 7, .int .u8 7, .int .u8 7, .int .u8 7, .int .u8 7, .int .u8 7, .int .u8 7, .int .u8 7, .int .u8 7, .int .u8 7, .int .u8 7, .int .u8 7, .int .u8 7, .int .u8 7, .int .u8 7, .int .u8 7, .int .u8 7, .int .u8 7, .int .u8 7, .int .u8 7, .int .u8 7, .int .u8 7, .int .u8 7, .int .u8 7, .int .u8 7, .int .u8 7, .int .u8 7, .int .u8 7, .int .u8 7, .int .u8 7, .int .u8 7, .int .u8 7, .int .u8 7, .int .u8 7, .int .u8 7, .int .u8 7, .int .u8 7, .int .u8 7, .int .u8 7, .int .u8 7, .int .u8 7, .int .u8 7, .int .u8 7, .int .u8 7, .int .u8 7, .int .u8 7, .int .u8 7, .int .u8 7, .int .u8 7, .int .u8 7, .int .u8 7, .int .u8 7, .int .u8 7, .int .u8 7, .int .u8 7, .int .u8 7, .int .u8 7, .int .u8 7, .int .u8 7, .int .u8 7, .int .u8 7, .int .u8 7, .int .u8 7, .int .u8 7, .int .u8 8, .int .u8 8, .int .u8 8, .int .u8 8, .int .u8 8, .int .u8 8, .int .u8 8, .int .u8 8, .int .u8 8, .int .u8 8, .int .u8 8, .int .u8 8, .int .u8 8, .int .u8 8, .int .u8 8, .int .u8 8, .int .u8 8, .int .u8 8, .int .u8 8, .int .u8 8, .int .u8 8, .int .u8 8, .int .u8 8, .int .u8 8, .int .u8 8, .int .u8 8, .int .u8 8, .int .u8 8, .int .u8 8, .int .u8 8, .int .u8 8, .int .u8 8, .int .u8 8, .int .u8 8, .int .u8 8, .int .u8 8, .int .u8 8, .int .u8 8, .int .u8 8, .int .u8 8, .int .u8 8, .int .u8 8, .int .u8 8, .int .u8 8, .int .u8 8, .int .u8 8, .int .u8 8, .int .u8 8, .int .u8 8, .int .u8 8, .int .u8 8, .int .u8 8, .int .u8 8, .int .u8 8, .int .u8 8, .int .u8 8, .int .u8 8, .int .u8 8, .int .u8 8, .int .u8 8, .int .u8 8, .int .u8 8, .int .u8 8, .int .u8 8, .int .u8 8, .int .u8 8, .int .u8 8, .int .u8 8, .int .u8 8, .int .u8 8, .int .u8 8, .int .u8 8, .int .u8 8, .int .u8 8, .int .u8 8, .int .u8 8, .int .u8 8, .int .u8 8, .int .u8 8, .int .u8 8, .int .u8 8, .int .u8 8, .int .u8 8, .int .u8 8, .int .u8 8, .int .u8 8, .int .u8 8, .int .u8 8, .int .u8 8, .int .u8 8, .int .u8 8, .int .u8 8, .int .u8 8, .int .u8 8, .int .u8 8, .int .u8 8, .int .u8 8, .int .u8 8, .int .u8 8, .int .u8 8, .int .u8 8, .int .u8 8, .int .u8 8, .int .u8 8, .int .u8 8, .int .u8 8, .int .u8 8, .int .u8 8, .int .u8 8, .int .u8 8, .int .u8 8, .int .u8 8, .int .u8 8, .int .u8 8, .int .u8 8, .int .u8 8, .int .u8 8, .int .u8 8, .int .u8 8, .int .u8 8, .int .u8 8, .int .u8 8, .int .u8 8, .int .u8 8, .int .u8 8, .int .u8 8, .int .u8 8, .int .u8 8])) (.s 21))⟩,
   ⟨(some 23), some undefA, none, false, .pu (.conv .i64 (.s 22))⟩,
   ⟨(some 24), some undefA, none, false, .pu (.bin .add (.s 19) (.s 23))⟩,
   ⟨(some 2), some undefA, none, false, .pu (.mov (.s 24))⟩])
 (.ret)))))⟩
theorem t102 : trF Try.prog [] [] Try.f102 = some m102 := by kernel_rfl
/-- slices.Clone[[]int,int] [] -/
def m103 : MFun := ⟨8, [], [.mov (.s 2)],
 .seq (.ops [⟨(some 2), some undefA, none, false, .pu (.mov (.c (.nilS)))⟩])
 (.seq (.seq (.ops [⟨(some 3), some undefA, none, false, .pu (.mov (.s 0))⟩,
   ⟨(some 4), some undefA, none, false, .pu (.isnil false (.s 3))⟩])
 (.cond (.s 4) (.seq (.ops [⟨(some 2), some undefA, none, false, .pu (.mov (.c (.nilS)))⟩])
  (.ret))
 (.skip)))
 (.seq (.ops [⟨(some 5), some undefA, none, false, .ha (.blds 1 0 [.int .i64 0] [])⟩,
   ⟨(some 6), some undefA, none, false, .pu (.mov (.s 0))⟩,
   ⟨(some 7), some undefA, none, false, .ha (.app 1 (.s 5) (.s 6))⟩,
   ⟨(some 2), some undefA, none, false, .pu (.mov (.s 7))⟩])
 (.ret)))⟩
theorem t103 : trF Try.prog [] [] Try.f103 = some m103 := by kernel_rfl
/-- cmp.isNaN[int] [] -/
def m109 : MFun := ⟨6, [], [.mov (.s 2)],
 .seq (.ops [⟨(some 2), some undefA, none, false, .pu (.mov (.c (.bool false)))⟩])
 (.seq (.ops [⟨(some 3), some undefA, none, false, .pu (.mov (.s 0))⟩,
   ⟨(some 4), some undefA, none, false, .pu (.mov (.s 0))⟩,
   ⟨(some 5), some undefA, none, false, .pu (.bin .neq (.s 3) (.s 4))⟩,
   ⟨(some 2), some undefA, none, false, .pu (.mov (.s 5))⟩])
 (.ret))⟩
theorem t109 : trF Try.prog [] [] Try.f109 = some m109 := by kernel_rfl
end Go.Proofs.Ytdcdjhhjlpegjaa

namespace Go.Proofs.Ytdcdjhhjlpegjaa
open Go Go.Eng
theorem hmix : Try.prog.follows .mixedOrders = true := by kernel_rfl
def tab : List (Nat × MFun) := [(16, m16), (17, m17), (21, m21), (26, m26), (30, m30), (31, m31), (53, m53), (54, m54), (55, m55), (57, m57), (61, m61), (63, m63), (64, m64), (72, m72), (78, m78), (79, m79), (81, m81), (82, m82), (83, m83), (84, m84), (85, m85), (87, m87), (88, m88), (89, m89), (90, m90), (91, m91), (92, m92), (98, m98), (102, m102), (103, m103), (109, m109)]
theorem tabOK : TabOK Try.prog tab :=
  .cons Try.func16 (by kernel_rfl) t16 <| .cons Try.func17 (by kernel_rfl) t17 <| .cons Try.func21 (by kernel_rfl) t21 <| .cons Try.func26 (by kernel_rfl) t26 <| .cons Try.func30 (by kernel_rfl) t30 <| .cons Try.func31 (by kernel_rfl) t31 <| .cons Try.func53 (by kernel_rfl) t53 <| .cons Try.func54 (by kernel_rfl) t54 <| .cons Try.func55 (by kernel_rfl) t55 <| .cons Try.func57 (by kernel_rfl) t57 <| .cons Try.func61 (by kernel_rfl) t61 <| .cons Try.func63 (by kernel_rfl) t63 <| .cons Try.func64 (by kernel_rfl) t64 <| .cons Try.func72 (by kernel_rfl) t72 <| .cons Try.func78 (by kernel_rfl) t78 <| .cons Try.func79 (by kernel_rfl) t79 <| .cons Try.func81 (by kernel_rfl) t81 <| .cons Try.func82 (by kernel_rfl) t82 <| .cons Try.func83 (by kernel_rfl) t83 <| .cons Try.func84 (by kernel_rfl) t84 <| .cons Try.func85 (by kernel_rfl) t85 <| .cons Try.func87 (by kernel_rfl) t87 <| .cons Try.func88 (by kernel_rfl) t88 <| .cons Try.func89 (by kernel_rfl) t89 <| .cons Try.func90 (by kernel_rfl) t90 <| .cons Try.func91 (by kernel_rfl) t91 <| .cons Try.func92 (by kernel_rfl) t92 <| .cons Try.func98 (by kernel_rfl) t98 <| .cons Try.func102 (by kernel_rfl) t102 <| .cons Try.func103 (by kernel_rfl) t103 <| .cons Try.func109 (by kernel_rfl) t109 <| .nil
def isTrue : Option (AV × AHeap) → Bool
  | some (.bool true, _) => true
  | _ => false
set_option maxRecDepth 100000 in
theorem known_run : isTrue (runF tab 300 14 17 [] []) = true := by kernel_rfl
theorem known (A : AHeap) : ACalls Try.prog 17 [] A (B true) A := by
  cases h : runF tab 300 14 17 [] [] with
  | none => have := known_run; rw [h] at this; cases this
  | some p =>
    obtain ⟨v, A'⟩ := p
    have h1 := known_run
    rw [h] at h1
    have h2 : v = B true := by
      unfold isTrue at h1
      split at h1
      · rename_i e; cases e; rfl
      · cases h1
    subst h2
    exact (runF_ok hmix tabOK 300 14 17 [] [] _ _ h).lift (by simp) rfl A
end Go.Proofs.Ytdcdjhhjlpegjaa

namespace Go.Proofs.Ytdcdjhhjlpegjaa
open Go Go.Eng
theorem set_new (A : AHeap) (o o' : AObj) : (A ++ [o]).set A.length o' = A ++ [o'] := by simp
theorem AccL_base {α : Type} {es : Nat} {e : α → List AV} {H0 H H1 : AHeap} {v : AV} {xs : List α} (hp : H0 <+: H) (h : AccL es e H H1 v xs) : AccL es e H0 H1 v xs := by
  obtain ⟨h1, h2, h3⟩ := h
  refine ⟨hp.trans h1, h2, ?_⟩
  rcases h3 with h4 | ⟨h0, n, h4, h5, h6⟩
  · exact .inl h4
  · exact .inr ⟨h0, n, h4, Nat.le_trans hp.length_le h5, h6⟩
theorem cells_agg (l : List AV) : (AV.agg l).cells? = some l := rfl
theorem cells_fn (f : FuncId) (cs : List AV) : (AV.fn f cs).cells? = some [.fn f cs] := rfl
theorem cells_nilF : AV.nilF.cells? = some [.nilF] := rfl
/-- A store. -/
def stA (sz : Nat) (p x : AV) (H : AHeap) : Option AHeap :=
  match p, x.cells? with
  | .ptr n off, some c => match H[n]? with
    | some (.cells true l) => if c.length = sz ∧ off + sz ≤ l.length then some (H.set n (.cells true (splice l off c))) else none
    | _ => none
  | _, _ => none
theorem hval_st (sz : Nat) (p x : Opd) (S : List AV) (H : AHeap) : hval (.st sz p x) S H = (stA sz (rd S p) (rd S x) H).map (fun H' => (undefA, H')) := by
  simp only [hval, stA]
  cases rd S p with
  | ptr n off =>
    cases (rd S x).cells? with
    | none => rfl
    | some c =>
      simp only
      cases H[n]? with
      | none => rfl
      | some o =>
        cases o with
        | cells rw l =>
          cases rw
          · rfl
          · simp only
            split <;> rfl
        | _ => rfl
  | _ => rfl
theorem hval_newv (x : Opd) (S : List AV) (H : AHeap) : hval (.newv x) S H = match (rd S x).cells? with | some c => some (.ptr H.length 0, H ++ [.cells true c]) | none => none := rfl
theorem hval_blds (es n : Nat) (zero : List AV) (parts : List (Nat × Nat × Opd)) (S : List AV) (H : AHeap) : hval (.blds es n zero parts) S H = match fillA (parts.map fun p => (p.1, p.2.1, rd S p.2.2)) (repl zero n) with | some l => some (.sl es H.length 0 n true, H ++ [.cells true l]) | none => none := rfl
theorem hval_app (es : Nat) (x y : Opd) (S : List AV) (H : AHeap) : hval (.app es x y) S H = appA es H (rd S x) (rd S y) := rfl
theorem splice_flat {α : Type} {es : Nat} {e : α → List AV} (he : ∀ x, (e x).length = es) {xs : List α} {i : Nat} (hi : i < xs.length) (z : α) : splice (xs.flatMap e) (i * es) (e z) = (xs.set i z).flatMap e := by
  unfold splice
  have h1 := flatMap_length he (xs.take i)
  rw [List.length_take, Nat.min_eq_left (by omega)] at h1
  have h2 := flatMap_length he (xs.take (i + 1))
  rw [List.length_take, Nat.min_eq_left (by omega)] at h2
  have e1 : (xs.flatMap e).take (i * es) = (xs.take i).flatMap e := by
    conv => lhs; rw [← List.take_append_drop i xs, List.flatMap_append]
    rw [← h1, List.take_left]
  have e2 : (xs.flatMap e).drop (i * es + (e z).length) = (xs.drop (i + 1)).flatMap e := by
    conv => lhs; rw [← List.take_append_drop (i + 1) xs, List.flatMap_append]
    rw [he z, ← Nat.succ_mul, Nat.succ_eq_add_one, ← h2, List.drop_left]
  rw [e1, e2, List.set_eq_take_append_cons_drop, if_pos hi, List.flatMap_append, List.flatMap_cons, List.append_assoc]
/-- A list that the call itself has made and may write. -/
structure OL {α : Type} (es : Nat) (e : α → List AV) (A H : AHeap) (n : Nat) (v : AV) (xs : List α) : Prop where
  he : ∀ x, (e x).length = es
  pre : A <+: H
  new : A.length ≤ n
  ob : H[n]? = some (.cells true (xs.flatMap e))
  v : ∃ full, v = .sl es n 0 xs.length full
section
variable {α : Type} {es : Nat} {e : α → List AV} {A H : AHeap} {n : Nat} {v : AV} {xs : List α}
theorem OL.ls (h : OL es e A H n v xs) : Ls es e H v xs := by
  obtain ⟨he, h1, h2, h3, full, rfl⟩ := h
  refine ⟨he, ?_⟩
  have hl := flatMap_length he xs
  simp only [slCells, cellsAt, h3, if_true, Nat.zero_add]
  rw [if_pos (by omega)]
  simp only [List.drop_zero, Option.map_some, Option.some.injEq, Prod.mk.injEq, true_and]
  rw [← hl, List.take_length]
theorem OL.lt (h : OL es e A H n v xs) : n < H.length := (List.getElem?_eq_some_iff.1 h.ob).1
theorem OL.set (h : OL es e A H n v xs) (i : Nat) (z : α) : OL es e A (H.set n (.cells true ((xs.set i z).flatMap e))) n v (xs.set i z) := by
  have hn := h.lt
  obtain ⟨he, h1, h2, h3, full, rfl⟩ := h
  exact ⟨he, pre_set h1 h2 _, h2, by rw [List.getElem?_set_self hn], full, by simp⟩
theorem OL.st (h : OL es e A H n v xs) {i : Nat} (hi : i < xs.length) (x : AV) (z : α) (hx : x.cells? = some (e z)) : stA es (.ptr (nm v) (of v + i * es)) x H = some (H.set n (.cells true ((xs.set i z).flatMap e))) := by
  obtain ⟨he, h1, h2, h3, full, rfl⟩ := h
  have hl := flatMap_length he xs
  have hle : i * es + es ≤ xs.length * es := by
    rw [← Nat.succ_mul]; exact Nat.mul_le_mul_right _ hi
  simp only [stA, nm, of, hx, h3, Nat.zero_add]
  rw [if_pos ⟨he z, by omega⟩, splice_flat he hi z]
theorem OL.mono {H' : AHeap} (h : OL es e A H n v xs) (hp : H <+: H') : OL es e A H' n v xs := ⟨h.he, h.pre.trans hp, h.new, pre_get hp h.ob, h.v⟩
theorem OL.new_mk (he : ∀ x, (e x).length = es) (A : AHeap) (xs : List α) (full : Bool) : OL es e A (A ++ [.cells true (xs.flatMap e)]) A.length (.sl es A.length 0 xs.length full) xs :=
  ⟨he, pre_app _ _, Nat.le_refl _, by simp, full, rfl⟩
theorem gc_weak {v1 v1' v : AV} {H1 H' : AHeap} (h : ∀ ρ c, VR ρ v1 c → VR ρ v1' c) (g : GC A v1' H1 v H') : GC A v1 H1 v H' :=
  fun ρ w ρ1 w1 cv s0 s1 st hv => g ρ w ρ1 w1 cv s0 s1 st (h ρ1 cv hv)
theorem VR.unfull {ρ : Ren} {es n off len : Nat} {full : Bool} {c : Value} (h : VR ρ (.sl es n off len full) c) : VR ρ (.sl es n off len false) c := by
  cases h with
  | sl _ _ _ _ _ L a cap h1 h2 h3 h4 h5 => exact .sl es n off len false L a cap h1 h2 (fun e => by cases e) h4 h5
theorem OL.acc (h : OL es e A H n v xs) (h0 : 0 < xs.length) : AccL es e A H (.sl es n 0 xs.length false) xs :=
  ⟨h.pre, flatMap_length h.he xs, .inr ⟨h0, n, rfl, h.new, h.ob⟩⟩
theorem OL.gc (h : OL es e A H n v xs) (h0 : 0 < xs.length) (hf : ∀ x, ∀ y ∈ e x, flat y = true) : GC A v H (outV es A xs.length) (outH A (xs.flatMap e) xs.length) := by
  have h1 := (h.acc h0).gc hf
  obtain ⟨_, _, _, _, full, rfl⟩ := h
  exact gc_weak (fun ρ c => VR.unfull) h1
theorem OL.gc2 (h : OL es e A H n v xs) (h0 : 0 < xs.length) (hf : ∀ x, ∀ y ∈ e x, flat y = true) (c : AV) (hc : flat c = true) : GC A (.tuple [v, c]) H (.tuple [outV es A xs.length, c]) (outH A (xs.flatMap e) xs.length) := by
  have h1 := (h.acc h0).gc2 hf c hc
  obtain ⟨_, _, _, _, full, rfl⟩ := h
  refine gc_weak (fun ρ cv hv => ?_) h1
  cases hv with
  | tuple _ vs hl hh =>
    refine .tuple _ _ hl (fun i x u hx hu => ?_)
    match i with
    | 0 =>
      simp at hx
      subst hx
      exact VR.unfull (hh 0 _ u rfl hu)
    | i + 1 => exact hh (i + 1) x u (by simpa using hx) hu
end
theorem OL_setAll {α : Type} {es : Nat} {e : α → List AV} {A H : AHeap} {n : Nat} {v : AV} {xs : List α} (h : OL es e A H n v xs) (xs' : List α) (hl : xs'.length = xs.length) : OL es e A (H.set n (.cells true (xs'.flatMap e))) n v xs' := by
  have hn := h.lt
  obtain ⟨he, h1, h2, h3, full, rfl⟩ := h
  exact ⟨he, pre_set h1 h2 _, h2, by rw [List.getElem?_set_self hn], full, by rw [hl]⟩
end Go.Proofs.Ytdcdjhhjlpegjaa

namespace Go.Proofs.Ytdcdjhhjlpegjaa
open Go Go.Eng
/-- A number that a machine word holds. -/
abbrev W (a : Int) : Prop := -9223372036854775808 ≤ a ∧ a ≤ 9223372036854775807
/-- The first element's place, or -1. -/
def fpos (g : Int → Bool) (xs : List Int) : Int := match xs.findIdx? g with | some i => i | none => -1
theorem fpos_some {g : Int → Bool} {xs : List Int} {i : Nat} {z : Int} (h : ∀ y ∈ xs.take i, g y = false) (hz : xs[i]? = some z) (hg : g z = true) : fpos g xs = i := by
  have hi : i < xs.length := (List.getElem?_eq_some_iff.1 hz).1
  have he : xs[i] = z := (List.getElem?_eq_some_iff.1 hz).2
  have : xs.findIdx? g = some i := by
    rw [List.findIdx?_eq_some_iff_getElem]
    refine ⟨hi, by rw [he]; exact hg, fun j hj => ?_⟩
    have : xs[j]'(by omega) ∈ xs.take i := by
      rw [List.mem_take_iff_getElem]
      exact ⟨j, by omega, rfl⟩
    simp [h _ this]
  unfold fpos
  rw [this]
theorem fpos_none {g : Int → Bool} {xs : List Int} (h : ∀ y ∈ xs, g y = false) : fpos g xs = -1 := by
  have : xs.findIdx? g = none := by
    rw [List.findIdx?_eq_none_iff]
    exact h
  unfold fpos
  rw [this]
theorem fpos_iff (g : Int → Bool) (xs : List Int) : 0 ≤ fpos g xs ↔ xs.any g = true := by
  unfold fpos
  cases h : xs.findIdx? g with
  | some i =>
    rw [List.findIdx?_eq_some_iff_getElem] at h
    obtain ⟨hi, hg, _⟩ := h
    simp only [Int.natCast_nonneg, true_iff, List.any_eq_true]
    exact ⟨_, List.getElem_mem hi, hg⟩
  | none =>
    rw [List.findIdx?_eq_none_iff] at h
    constructor
    · intro h1; simp at h1
    · intro h1
      rw [List.any_eq_true] at h1
      obtain ⟨x, hx, hg⟩ := h1
      rw [h x hx] at hg; cases hg
theorem take_false {g : Int → Bool} {xs : List Int} {i : Nat} {z : Int} (h : ∀ y ∈ xs.take i, g y = false) (hz : xs[i]? = some z) (hg : g z = false) : ∀ y ∈ xs.take (i + 1), g y = false := by
  intro y hy
  rw [List.take_add_one, hz] at hy
  rcases List.mem_append.1 hy with hy | hy
  · exact h y hy
  · have : y = z := by simpa using hy
    rw [this]; exact hg
theorem c_IndexFunc {xs : List Int} {v : AV} {A : AHeap} (hx : L1 A v xs) (hl : xs.length ≤ 1000000) (f : FuncId) (cap : List AV) (g : Int → Bool) (hg : ∀ x ∈ xs, ACalls Try.prog f ([I x] ++ cap) A (B (g x)) A) : ACalls Try.prog 81 [v, .fn f cap] A (I (fpos g xs)) A := by
  refine acalls hmix Try.func81 (by kernel_rfl) t81 2 rfl (by decide) ?_
  dsimp only [m81]
  simp (maxSteps := 4000000) -implicitDefEqProofs -dsimp (disch := omega) only [↓AW_ops, ↓AW_seq, ↓AW_block, ↓AOps_nil, ↓AOps_pu, on_some, ↓then_normal, pval, rd_S, rd_C, put_S, ↓AW_toLoop, List.replicate_succ, List.replicate_zero, List.set_cons_zero, List.set_cons_succ, List.getElem?_cons_zero, List.getElem?_cons_succ, Option.getD_some, Nat.reduceSub, List.cons_append, List.nil_append, hx.len]
  refine LoopK.by 19 (fun i : Nat => i ≤ xs.length ∧ ∀ y ∈ xs.take i, g y = false) (fun i => [(0, v), (1, .fn f cap), (7, I xs.length), (8, I i)]) (fun _ => A) (fun i => xs.length - i) 0 ⟨by omega, by simp⟩ rfl (by simp [Has, rd_s]) rfl ?_
  rintro i ⟨hi, he⟩
  by_cases hlt : i < xs.length
  · obtain ⟨z, hz⟩ : ∃ z, xs[i]? = some z := ⟨_, List.getElem?_eq_getElem hlt⟩
    have hlt' : (i : Int) < xs.length := by omega
    simp (maxSteps := 4000000) -implicitDefEqProofs -dsimp (disch := omega) only [↓AW_skip, ↓AW_ops, ↓AW_seq, ↓AW_cond, ↓AW_block, ↓AOps_nil, ↓AOps_pu, ↓AOps_ld, ↓AOps_callv, on_some, CallF_fn, condB_t, ↓then_normal, pval, lval, rd_S, put_S, partA, eq_self, mk, List.foldl_cons, List.foldl_nil, List.replicate_succ, List.replicate_zero, List.set_cons_zero, List.set_cons_succ, List.getElem?_cons_zero, List.getElem?_cons_succ, List.drop_zero, List.take_succ_cons, List.take_nil, Option.getD_some, map_c, map_n, List.length_cons, List.length_nil, Nat.reduceLeDiff, Nat.zero_add, List.cons_append, List.nil_append, bin_lss, if_true, if_false, Bool.false_eq_true, decide_true, Go.Eng.e1, hlt', hx.idx hlt, hx.ld0 hz 1 false (by decide)]
    refine CallK.of (hg z (List.mem_of_getElem? hz)) ?_
    by_cases h : g z = true
    · simp (maxSteps := 4000000) -implicitDefEqProofs -dsimp (disch := omega) only [↓AW_ops, ↓AW_seq, ↓AW_cond, ↓AW_ret, ↓AOps_nil, ↓AOps_pu, on_some, extK_same, condB_t, ↓then_normal, ↓then_ret, ↓inBlock_ret, ↓Fin_ret, pval, rd_S, put_S, resV, resL, mk, List.foldl_cons, List.foldl_nil, List.replicate_succ, List.replicate_zero, List.set_cons_zero, List.set_cons_succ, List.getElem?_cons_zero, List.getElem?_cons_succ, Option.getD_some, h]
      exact gc_same (by rw [fpos_some he hz h])
    · have h : g z = false := by simpa using h
      simp (maxSteps := 4000000) -implicitDefEqProofs -dsimp (disch := omega) only [↓AW_skip, ↓AW_ops, ↓AW_cond, ↓AOps_nil, ↓AOps_pu, on_some, extK_same, condB_f, ↓then_normal, ↓inBlock_normal, pval, rd_S, rd_C, put_S, eq_self, mk, List.foldl_cons, List.foldl_nil, List.replicate_succ, List.replicate_zero, List.set_cons_zero, List.set_cons_succ, List.getElem?_cons_zero, List.getElem?_cons_succ, Option.getD_some, List.length_cons, List.length_nil, Nat.reduceAdd, Nat.zero_add, bin_add, w64, true_and, h]
      exact ⟨i + 1, ⟨hlt, take_false he hz h⟩, by simp [Has, rd_s], by omega⟩
  · have hlt' : ¬ ((i : Int) < xs.length) := by omega
    simp (maxSteps := 4000000) -implicitDefEqProofs -dsimp (disch := omega) only [↓AW_ops, ↓AW_seq, ↓AW_cond, ↓AW_exit, ↓AW_ret, ↓AOps_nil, ↓AOps_pu, on_some, condB_f, ↓then_normal, ↓then_exit, ↓inBlock_exit, ↓Fin_ret, pval, rd_S, rd_C, put_S, resV, resL, eq_self, mk, List.foldl_cons, List.foldl_nil, List.replicate_succ, List.replicate_zero, List.set_cons_zero, List.set_cons_succ, List.getElem?_cons_zero, List.getElem?_cons_succ, Option.getD_some, bin_lss, if_true, decide_false, Int.reduceNeg, hlt']
    rw [List.take_of_length_le (by omega)] at he
    exact gc_same (by rw [fpos_none he])
theorem c_ContainsFunc {xs : List Int} {v : AV} {A : AHeap} (hx : L1 A v xs) (hl : xs.length ≤ 1000000) (f : FuncId) (cap : List AV) (g : Int → Bool) (hg : ∀ x ∈ xs, ACalls Try.prog f ([I x] ++ cap) A (B (g x)) A) : ACalls Try.prog 57 [v, .fn f cap] A (B (xs.any g)) A := by
  refine acalls hmix Try.func57 (by kernel_rfl) t57 2 rfl (by decide) ?_
  dsimp only [m57]
  simp (maxSteps := 4000000) -implicitDefEqProofs -dsimp (disch := omega) only [↓AW_ops, ↓AW_seq, ↓AOps_nil, ↓AOps_pu, ↓AOps_call, on_some, ↓then_normal, pval, rd_S, rd_C, put_S, List.replicate_succ, List.replicate_zero, List.set_cons_zero, List.set_cons_succ, List.getElem?_cons_zero, List.getElem?_cons_succ, Option.getD_some, map_c, map_n, Nat.reduceSub, List.cons_append, List.nil_append]
  refine CallK.of (c_IndexFunc hx hl f cap g hg) ?_
  simp (maxSteps := 4000000) -implicitDefEqProofs -dsimp (disch := omega) only [↓AW_ret, ↓AOps_nil, ↓AOps_pu, on_some, extK_same, ↓then_normal, ↓Fin_ret, pval, rd_S, rd_C, put_S, resV, resL, List.replicate_succ, List.replicate_zero, List.set_cons_zero, List.set_cons_succ, List.getElem?_cons_zero, List.getElem?_cons_succ, Option.getD_some, Nat.reduceSub, List.cons_append, List.nil_append, bin_geq]
  refine gc_same ?_
  congr 1
  rw [Bool.eq_iff_iff, decide_eq_true_iff, fpos_iff]
end Go.Proofs.Ytdcdjhhjlpegjaa

namespace Go.Proofs.Ytdcdjhhjlpegjaa
open Go Go.Eng
/-- selion/selionlaw03.Long [] -/
def m15 : MFun := ⟨7, [1], [.mov (.s 2)],
 .seq (.ops [⟨(some 1), some (.junk), none, false, .pu (.bnew (.s 0))⟩,
   ⟨(some 2), some undefA, none, false, .pu (.mov (.c (.bool false)))⟩])
 (.seq (.ops [⟨(some 3), some undefA, none, false, .pu (.badr none 1)⟩,
   ⟨(some 4), some undefA, none, false, .pu (.bget (some 3) 1 0 1 false)⟩,
   ⟨(some 5), some undefA, none, false, .pu (.len (.s 4))⟩,
   ⟨(some 6), some undefA, none, false, .pu (.bin .gtr (.s 5) (.c (.int .i64 40)))⟩,
   ⟨(some 2), some undefA, none, false, .pu (.mov (.s 6))⟩])
 (.ret))⟩
theorem t15 : trF Try.prog [1] [] Try.f15 = some m15 := by kernel_rfl
/-- selion/claim.ByParts [] -/
def m18 : MFun := ⟨11, [], [.mov (.s 4), .mov (.s 5)],
 .seq (.ops [⟨(some 4), some undefA, none, false, .pu (.mov (.c (.nilS)))⟩,
   ⟨(some 5), some undefA, none, false, .pu (.mov (.c (.int .i64 0)))⟩])
 (.seq (.ops [⟨(some 6), some undefA, none, false, .pu (.mov (.s 0))⟩,
   ⟨(some 7), some undefA, none, false, .pu (.mov (.s 1))⟩,
   ⟨(some 8), some undefA, none, false, .call 55 [(.c (.int .i64 0)), (.s 6), (.s 7)]⟩,
   ⟨(some 9), some undefA, none, false, .pu (.extr 0 (.s 8))⟩,
   ⟨(some 10), some undefA, none, false, .pu (.extr 1 (.s 8))⟩,
   ⟨(some 4), some undefA, none, false, .pu (.mov (.s 9))⟩,
   ⟨(some 5), some undefA, none, false, .pu (.mov (.s 10))⟩])
 (.ret))⟩
theorem t18 : trF Try.prog [] [] Try.f18 = some m18 := by kernel_rfl
/-- selion/claim.ByAwards [] -/
def m19 : MFun := ⟨11, [], [.mov (.s 4), .mov (.s 5)],
 .seq (.ops [⟨(some 4), some undefA, none, false, .pu (.mov (.c (.nilS)))⟩,
   ⟨(some 5), some undefA, none, false, .pu (.mov (.c (.int .i64 0)))⟩])
 (.seq (.ops [⟨(some 6), some undefA, none, false, .pu (.mov (.s 0))⟩,
   ⟨(some 7), some undefA, none, false, .pu (.mov (.s 1))⟩,
   ⟨(some 8), some undefA, none, false, .call 55 [(.c (.int .i64 1)), (.s 6), (.s 7)]⟩,
   ⟨(some 9), some undefA, none, false, .pu (.extr 0 (.s 8))⟩,
   ⟨(some 10), some undefA, none, false, .pu (.extr 1 (.s 8))⟩,
   ⟨(some 4), some undefA, none, false, .pu (.mov (.s 9))⟩,
   ⟨(some 5), some undefA, none, false, .pu (.mov (.s 10))⟩])
 (.ret))⟩
theorem t19 : trF Try.prog [] [] Try.f19 = some m19 := by kernel_rfl
/-- selion/claim.ByLosses [] -/
def m20 : MFun := ⟨11, [], [.mov (.s 4), .mov (.s 5)],
 .seq (.ops [⟨(some 4), some undefA, none, false, .pu (.mov (.c (.nilS)))⟩,
   ⟨(some 5), some undefA, none, false, .pu (.mov (.c (.int .i64 0)))⟩])
 (.seq (.ops [⟨(some 6), some undefA, none, false, .pu (.mov (.s 0))⟩,
   ⟨(some 7), some undefA, none, false, .pu (.mov (.s 1))⟩,
   ⟨(some 8), some undefA, none, false, .call 55 [(.c (.int .i64 2)), (.s 6), (.s 7)]⟩,
   ⟨(some 9), some undefA, none, false, .pu (.extr 0 (.s 8))⟩,
   ⟨(some 10), some undefA, none, false, .pu (.extr 1 (.s 8))⟩,
   ⟨(some 4), some undefA, none, false, .pu (.mov (.s 9))⟩,
   ⟨(some 5), some undefA, none, false, .pu (.mov (.s 10))⟩])
 (.ret))⟩
theorem t20 : trF Try.prog [] [] Try.f20 = some m20 := by kernel_rfl
/-- selion/selionlaw03.ordered [loop [0, 1, 5], loop [0, 1, 5, 6]] -/
def m22 : MFun := ⟨88, [7, 8], [.mov (.s 4)],
 .seq (.ops [⟨(some 4), some undefA, none, false, .pu (.mov (.c (.bool false)))⟩])
 (.seq (.seq (.ops [⟨(some 10), some undefA, none, false, .pu (.mov (.s 1))⟩,
   ⟨(some 11), some undefA, none, false, .pu (.len (.s 10))⟩,
   ⟨(some 12), some undefA, none, false, .pu (.mov (.s 0))⟩,
   ⟨(some 13), some undefA, none, false, .pu (.len (.s 12))⟩,
   ⟨(some 14), some undefA, none, false, .pu (.bin .neq (.s 11) (.s 13))⟩,
   ⟨(some 15), some undefA, none, false, .pu (.mov (.s 14))⟩,
   ⟨(some 16), some undefA, (some (15, false)), false, .pu (.mov (.s 0))⟩,
   ⟨(some 17), some undefA, (some (15, false)), false, .pu (.len (.s 16))⟩,
   ⟨(some 18), some undefA, (some (15, false)), false, .pu (.bin .gtr (.s 17) (.c (.int .i64 0)))⟩,
   ⟨(some 19), some undefA, (some (15, false)), false, .pu (.mov (.s 18))⟩,
   ⟨(some 20), some undefA, (some (19, true)), false, .pu (.mov (.s 1))⟩,
   ⟨(some 21), some undefA, (some (19, true)), false, .call 56 [(.s 20)]⟩,
   ⟨(some 22), some undefA, (some (19, true)), false, .pu (.bin .eql (.s 21) (.c (.int .i64 0)))⟩,
   ⟨(some 23), some undefA, (some (15, false)), false, .pu (.pick (.s 19) (.s 22) (.c (.bool false)))⟩,
   ⟨(some 24), some undefA, none, false, .pu (.pick (.s 15) (.c (.bool true)) (.s 23))⟩])
 (.cond (.s 24) (.seq (.ops [⟨(some 4), some undefA, none, false, .pu (.mov (.c (.bool false)))⟩])
  (.ret))
 (.skip)))
 (.seq (.seq (.ops [⟨(some 5), some undefA, none, false, .pu (.mov (.c (.int .i64 0)))⟩])
 (.block 0 (.loop (.seq (.seq (.ops [⟨(some 25), some undefA, none, false, .pu (.mov (.s 5))⟩,
     ⟨(some 26), some undefA, none, false, .pu (.mov (.s 0))⟩,
     ⟨(some 27), some undefA, none, false, .pu (.len (.s 26))⟩,
     ⟨(some 28), some undefA, none, false, .pu (.bin .lss (.s 25) (.s 27))⟩])
   (.cond (.s 28) (.skip)
   (.exit 0)))
   (.seq (.block 1 (.seq (.ops [⟨(some 6), some undefA, none, false, .pu (.mov (.c (.int .i64 0)))⟩])
    (.block 2 (.loop (.seq (.seq (.ops [⟨(some 31), some undefA, none, false, .pu (.mov (.s 6))⟩,
        ⟨(some 32), some undefA, none, false, .pu (.mov (.s 0))⟩,
        ⟨(some 33), some undefA, none, false, .pu (.len (.s 32))⟩,
        ⟨(some 34), some undefA, none, false, .pu (.bin .lss (.s 31) (.s 33))⟩])
      (.cond (.s 34) (.skip)
      (.exit 2)))
      (.seq (.block 3 (.seq (.ops [⟨(some 37), some undefA, none, true, .pu (.mov (.s 1))⟩,
         ⟨(some 38), some undefA, none, true, .pu (.mov (.s 5))⟩,
         ⟨(some 39), some undefA, none, true, .pu (.idx 2 (.s 37) (.s 38))⟩,
         ⟨(some 40), some undefA, none, true, .ld (.ld 2 true (.s 39))⟩,
         ⟨(some 41), some undefA, none, true, .pu (.mov (.s 1))⟩,
         ⟨(some 42), some undefA, none, true, .pu (.mov (.s 6))⟩,
         ⟨(some 43), some undefA, none, true, .pu (.idx 2 (.s 41) (.s 42))⟩,
         ⟨(some 44), some undefA, none, true, .ld (.ld 2 true (.s 43))⟩,
         ⟨(some 7), some (.junk), none, true, .pu (.bnew (.c (.agg [.int .i64 0, .int .i64 0])))⟩,
         ⟨(some 8), some (.junk), none, true, .pu (.bnew (.c (.agg [.int .i64 0, .int .i64 0])))⟩,
         ⟨(some 7), none, none, true, .pu (.bset none 7 0 2 (.s 40))⟩,
         ⟨(some 8), none, none, false, .pu (.bset none 8 0 2 (.s 44))⟩])
       (.seq (.ops [⟨(some 45), some undefA, none, false, .pu (.badr none 8)⟩,
         ⟨(some 46), some undefA, none, false, .pu (.bget (some 45) 8 0 1 false)⟩,
         ⟨(some 47), some undefA, none, false, .pu (.badr none 7)⟩,
         ⟨(some 48), some undefA, none, false, .pu (.bget (some 47) 7 1 1 false)⟩,
         ⟨(some 49), some undefA, none, false, .pu (.bin .mul (.s 46) (.s 48))⟩,
         ⟨(some 50), some undefA, none, false, .pu (.badr none 7)⟩,
         ⟨(some 51), some undefA, none, false, .pu (.bget (some 50) 7 0 1 false)⟩,
         ⟨(some 52), some undefA, none, false, .pu (.badr none 8)⟩,
         ⟨(some 53), some undefA, none, false, .pu (.bget (some 52) 8 1 1 false)⟩,
         ⟨(some 54), some undefA, none, false, .pu (.bin .mul (.s 51) (.s 53))⟩,
         ⟨(some 55), some undefA, none, false, .pu (.bin .sub (.s 49) (.s 54))⟩,
         ⟨(some 9), some undefA, none, false, .pu (.mov (.s 55))⟩])
       (.seq (.ops [⟨(some 56), some undefA, none, true, .pu (.mov (.s 0))⟩,
         ⟨(some 57), some undefA, none, true, .pu (.mov (.s 5))⟩,
         ⟨(some 58), some undefA, none, true, .pu (.idx 1 (.s 56) (.s 57))⟩,
         ⟨(some 59), some undefA, none, true, .ld (.ld 1 false (.s 58))⟩,
         ⟨(some 60), some undefA, none, true, .pu (.mov (.s 0))⟩,
         ⟨(some 61), some undefA, none, true, .pu (.mov (.s 6))⟩,
         ⟨(some 62), some undefA, none, true, .pu (.idx 1 (.s 60) (.s 61))⟩,
         ⟨(some 63), some undefA, none, true, .ld (.ld 1 false (.s 62))⟩,
         ⟨(some 64), some undefA, none, false, .pu (.bin .leq (.s 59) (.s 63))⟩,
         ⟨(some 65), some undefA, none, false, .pu (.mov (.s 64))⟩,
         ⟨(some 66), some undefA, (some (65, true)), false, .pu (.mov (.s 9))⟩,
         ⟨(some 67), some undefA, (some (65, true)), false, .pu (.bin .lss (.s 66) (.c (.int .i64 0)))⟩,
         ⟨(some 68), some undefA, (some (65, true)), false, .pu (.mov (.s 67))⟩,
         ⟨(some 69), some undefA, (some (68, false)), true, .pu (.mov (.s 9))⟩,
         ⟨(some 70), some undefA, (some (68, false)), true, .pu (.mov (.s 0))⟩,
         ⟨(some 71), some undefA, (some (68, false)), true, .pu (.mov (.s 6))⟩,
         ⟨(some 72), some undefA, (some (68, false)), true, .pu (.idx 1 (.s 70) (.s 71))⟩,
         ⟨(some 73), some undefA, (some (68, false)), true, .ld (.ld 1 false (.s 72))⟩,
         ⟨(some 74), some undefA, (some (68, false)), true, .pu (.mov (.s 0))⟩,
         ⟨(some 75), some undefA, (some (68, false)), true, .pu (.mov (.s 5))⟩,
         ⟨(some 76), some undefA, (some (68, false)), true, .pu (.idx 1 (.s 74) (.s 75))⟩,
         ⟨(some 77), some undefA, (some (68, false)), true, .ld (.ld 1 false (.s 76))⟩,
         ⟨(some 78), some undefA, (some (68, false)), false, .pu (.bin .sub (.s 73) (.s 77))⟩,
         ⟨(some 79), some undefA, (some (68, false)), true, .pu (.badr none 7)⟩,
         ⟨(some 80), some undefA, (some (68, false)), true, .pu (.bget (some 79) 7 1 1 false)⟩,
         ⟨(some 81), some undefA, (some (68, false)), false, .pu (.bin .mul (.s 78) (.s 80))⟩,
         ⟨(some 82), some undefA, (some (68, false)), true, .pu (.badr none 8)⟩,
         ⟨(some 83), some undefA, (some (68, false)), true, .pu (.bget (some 82) 8 1 1 false)⟩,
         ⟨(some 84), some undefA, (some (68, false)), false, .pu (.bin .mul (.s 81) (.s 83))⟩,
         ⟨(some 85), some undefA, (some (68, false)), false, .pu (.bin .gtr (.s 69) (.s 84))⟩,
         ⟨(some 86), some undefA, (some (65, true)), false, .pu (.pick (.s 68) (.c (.bool true)) (.s 85))⟩,
         ⟨(some 87), some undefA, none, false, .pu (.pick (.s 65) (.s 86) (.c (.bool false)))⟩])
       (.cond (.s 87) (.seq (.ops [⟨(some 4), some undefA, none, false, .pu (.mov (.c (.bool false)))⟩])
        (.ret))
       (.skip))))))
      (.ops [⟨(some 35), some undefA, none, false, .pu (.mov (.s 6))⟩,
        ⟨(some 36), some undefA, none, false, .pu (.bin .add (.s 35) (.c (.int .i64 1)))⟩,
        ⟨(some 6), some undefA, none, false, .pu (.mov (.s 36))⟩])))))))
   (.ops [⟨(some 29), some undefA, none, false, .pu (.mov (.s 5))⟩,
     ⟨(some 30), some undefA, none, false, .pu (.bin .add (.s 29) (.c (.int .i64 1)))⟩,
     ⟨(some 5), some undefA, none, false, .pu (.mov (.s 30))⟩]))))))
 (.seq (.ops [⟨(some 4), some undefA, none, false, .pu (.mov (.c (.bool true)))⟩])
 (.ret))))⟩
theorem t22 : trF Try.prog [7, 8] [] Try.f22 = some m22 := by kernel_rfl
/-- selion/selionref03.Common [loop [0, 3, 4]] -/
def m56 : MFun := ⟨59, [], [.mov (.s 2)],
 .seq (.ops [⟨(some 2), some undefA, none, false, .pu (.mov (.c (.int .i64 0)))⟩])
 (.seq (.ops [⟨(some 3), some undefA, none, false, .pu (.mov (.c (.int .i64 1)))⟩])
 (.seq (.seq (.ops [⟨(some 4), some undefA, none, false, .pu (.mov (.c (.int .i64 0)))⟩])
 (.block 0 (.loop (.seq (.seq (.ops [⟨(some 5), some undefA, none, false, .pu (.mov (.s 4))⟩,
     ⟨(some 6), some undefA, none, false, .pu (.mov (.s 0))⟩,
     ⟨(some 7), some undefA, none, false, .pu (.len (.s 6))⟩,
     ⟨(some 8), some undefA, none, false, .pu (.bin .lss (.s 5) (.s 7))⟩])
   (.cond (.s 8) (.skip)
   (.exit 0)))
   (.seq (.block 1 (.seq (.seq (.ops [⟨(some 11), some undefA, none, false, .pu (.mov (.s 0))⟩,
      ⟨(some 12), some undefA, none, false, .pu (.mov (.s 4))⟩,
      ⟨(some 13), some undefA, none, false, .pu (.idx 2 (.s 11) (.s 12))⟩,
      ⟨(some 14), some undefA, none, false, .pu (.fad 1 (.s 13))⟩,
      ⟨(some 15), some undefA, none, true, .ld (.ld 1 false (.s 14))⟩,
      ⟨(some 16), some undefA, none, false, .call 60 [(.s 15), (.c (.int .i64 1)), (.c (.int .i64 10000))]⟩,
      ⟨(some 17), some undefA, none, false, .pu (.not (.s 16))⟩,
      ⟨(some 18), some undefA, none, false, .pu (.mov (.s 17))⟩,
      ⟨(some 19), some undefA, (some (18, false)), false, .pu (.mov (.s 0))⟩,
      ⟨(some 20), some undefA, (some (18, false)), false, .pu (.mov (.s 4))⟩,
      ⟨(some 21), some undefA, (some (18, false)), false, .pu (.idx 2 (.s 19) (.s 20))⟩,
      ⟨(some 22), some undefA, (some (18, false)), false, .pu (.fad 0 (.s 21))⟩,
      ⟨(some 23), some undefA, (some (18, false)), true, .ld (.ld 1 false (.s 22))⟩,
      ⟨(some 24), some undefA, (some (18, false)), false, .call 60 [(.s 23), (.c (.int .i64 0)), (.c (.int .i64 10000000))]⟩,
      ⟨(some 25), some undefA, (some (18, false)), false, .pu (.not (.s 24))⟩,
      ⟨(some 26), some undefA, none, false, .pu (.pick (.s 18) (.c (.bool true)) (.s 25))⟩,
      ⟨(some 27), some undefA, none, false, .pu (.mov (.s 26))⟩,
      ⟨(some 28), some undefA, (some (27, false)), true, .pu (.mov (.s 0))⟩,
      ⟨(some 29), some undefA, (some (27, false)), true, .pu (.mov (.s 4))⟩,
      ⟨(some 30), some undefA, (some (27, false)), true, .pu (.idx 2 (.s 28) (.s 29))⟩,
      ⟨(some 31), some undefA, (some (27, false)), true, .pu (.fad 0 (.s 30))⟩,
      ⟨(some 32), some undefA, (some (27, false)), true, .ld (.ld 1 false (.s 31))⟩,
      ⟨(some 33), some undefA, (some (27, false)), true, .pu (.mov (.s 0))⟩,
      ⟨(some 34), some undefA, (some (27, false)), true, .pu (.mov (.s 4))⟩,
      ⟨(some 35), some undefA, (some (27, false)), true, .pu (.idx 2 (.s 33) (.s 34))⟩,
      ⟨(some 36), some undefA, (some (27, false)), true, .pu (.fad 1 (.s 35))⟩,
      ⟨(some 37), some undefA, (some (27, false)), true, .ld (.ld 1 false (.s 36))⟩,
      ⟨(some 38), some undefA, (some (27, false)), false, .call 80 [(.s 32), (.s 37)]⟩,
      ⟨(some 39), some undefA, (some (27, false)), false, .pu (.bin .neq (.s 38) (.c (.int .i64 1)))⟩,
      ⟨(some 40), some undefA, none, false, .pu (.pick (.s 27) (.c (.bool true)) (.s 39))⟩])
    (.cond (.s 40) (.seq (.ops [⟨(some 2), some undefA, none, false, .pu (.mov (.c (.int .i64 0)))⟩])
     (.ret))
    (.skip)))
    (.seq (.ops [⟨(some 41), some undefA, none, true, .pu (.mov (.s 3))⟩,
      ⟨(some 42), some undefA, none, true, .pu (.mov (.s 3))⟩,
      ⟨(some 43), some undefA, none, true, .pu (.mov (.s 0))⟩,
      ⟨(some 44), some undefA, none, true, .pu (.mov (.s 4))⟩,
      ⟨(some 45), some undefA, none, true, .pu (.idx 2 (.s 43) (.s 44))⟩,
      ⟨(some 46), some undefA, none, true, .pu (.fad 1 (.s 45))⟩,
      ⟨(some 47), some undefA, none, true, .ld (.ld 1 false (.s 46))⟩,
      ⟨(some 48), some undefA, none, true, .call 80 [(.s 42), (.s 47)]⟩,
      ⟨(some 49), some undefA, none, true, .pu (.bin .quo (.s 41) (.s 48))⟩,
      ⟨(some 50), some undefA, none, true, .pu (.mov (.s 0))⟩,
      ⟨(some 51), some undefA, none, true, .pu (.mov (.s 4))⟩,
      ⟨(some 52), some undefA, none, true, .pu (.idx 2 (.s 50) (.s 51))⟩,
      ⟨(some 53), some undefA, none, true, .pu (.fad 1 (.s 52))⟩,
      ⟨(some 54), some undefA, none, true, .ld (.ld 1 false (.s 53))⟩,
      ⟨(some 55), some undefA, none, false, .pu (.bin .mul (.s 49) (.s 54))⟩,
      ⟨(some 3), some undefA, none, false, .pu (.mov (.s 55))⟩])
    (.seq (.ops [⟨(some 56), some undefA, none, false, .pu (.mov (.s 3))⟩,
      ⟨(some 57), some undefA, none, false, .pu (.bin .gtr (.s 56) (.c (.int .i64 10000)))⟩])
    (.cond (.s 57) (.seq (.ops [⟨(some 2), some undefA, none, false, .pu (.mov (.c (.int .i64 0)))⟩])
     (.ret))
    (.skip))))))
   (.ops [⟨(some 9), some undefA, none, false, .pu (.mov (.s 4))⟩,
     ⟨(some 10), some undefA, none, false, .pu (.bin .add (.s 9) (.c (.int .i64 1)))⟩,
     ⟨(some 4), some undefA, none, false, .pu (.mov (.s 10))⟩]))))))
 (.seq (.ops [⟨(some 58), some undefA, none, false, .pu (.mov (.s 3))⟩,
   ⟨(some 2), some undefA, none, false, .pu (.mov (.s 58))⟩])
 (.ret))))⟩
theorem t56 : trF Try.prog [] [] Try.f56 = some m56 := by kernel_rfl
/-- selion/selionref01.Within [] -/
def m60 : MFun := ⟨15, [], [.mov (.s 6)],
 .seq (.ops [⟨(some 6), some undefA, none, false, .pu (.mov (.c (.bool false)))⟩])
 (.seq (.ops [⟨(some 7), some undefA, none, false, .pu (.mov (.s 0))⟩,
   ⟨(some 8), some undefA, none, false, .pu (.mov (.s 1))⟩,
   ⟨(some 9), some undefA, none, false, .pu (.bin .geq (.s 7) (.s 8))⟩,
   ⟨(some 10), some undefA, none, false, .pu (.mov (.s 9))⟩,
   ⟨(some 11), some undefA, (some (10, true)), false, .pu (.mov (.s 0))⟩,
   ⟨(some 12), some undefA, (some (10, true)), false, .pu (.mov (.s 2))⟩,
   ⟨(some 13), some undefA, (some (10, true)), false, .pu (.bin .leq (.s 11) (.s 12))⟩,
   ⟨(some 14), some undefA, none, false, .pu (.pick (.s 10) (.s 13) (.c (.bool false)))⟩,
   ⟨(some 6), some undefA, none, false, .pu (.mov (.s 14))⟩])
 (.ret))⟩
theorem t60 : trF Try.prog [] [] Try.f60 = some m60 := by kernel_rfl
/-- selion/claim.lost [loop [1, 5, 8, 9, 10]] -/
def m75 : MFun := ⟨39, [], [.mov (.s 4)],
 .seq (.ops [⟨(some 4), some undefA, none, false, .pu (.mov (.c (.nilS)))⟩])
 (.seq (.ops [⟨(some 5), some undefA, none, false, .pu (.mov (.c (.nilS)))⟩])
 (.seq (.seq (.ops [⟨(some 8), some undefA, none, false, .pu (.mov (.s 0))⟩,
   ⟨(some 9), some undefA, none, false, .pu (.len (.s 8))⟩,
   ⟨(some 10), some undefA, none, false, .pu (.mov (.c (.int .i64 0)))⟩])
 (.block 0 (.loop (.seq (.ops [⟨(some 11), some undefA, none, false, .pu (.bin .lss (.s 10) (.s 9))⟩])
   (.seq (.cond (.s 11) (.skip)
   (.exit 0))
   (.seq (.block 1 (.seq (.ops [⟨(some 12), some undefA, none, false, .pu (.mov (.s 10))⟩,
      ⟨(some 13), some undefA, none, false, .pu (.idx 1 (.s 8) (.s 10))⟩,
      ⟨(some 14), some undefA, none, false, .ld (.ld 1 false (.s 13))⟩,
      ⟨(some 6), some undefA, none, false, .pu (.mov (.s 12))⟩,
      ⟨(some 7), some undefA, none, false, .pu (.mov (.s 14))⟩])
    (.ops [⟨(some 15), some undefA, none, true, .pu (.mov (.s 5))⟩,
      ⟨(some 16), some undefA, none, true, .pu (.mov (.s 7))⟩,
      ⟨(some 17), some undefA, none, true, .pu (.mov (.s 1))⟩,
      ⟨(some 18), some undefA, none, true, .pu (.mov (.s 6))⟩,
      ⟨(some 19), some undefA, none, true, .pu (.idx 2 (.s 17) (.s 18))⟩,
      ⟨(some 20), some undefA, none, true, .pu (.fad 1 (.s 19))⟩,
      ⟨(some 21), some undefA, none, true, .ld (.ld 1 false (.s 20))⟩,
      ⟨(some 22), some undefA, none, true, .pu (.bin .mul (.s 16) (.s 21))⟩,
      ⟨(some 23), some undefA, none, true, .pu (.mov (.s 1))⟩,
      ⟨(some 24), some undefA, none, true, .pu (.mov (.s 6))⟩,
      ⟨(some 25), some undefA, none, true, .pu (.idx 2 (.s 23) (.s 24))⟩,
      ⟨(some 26), some undefA, none, true, .pu (.fad 0 (.s 25))⟩,
      ⟨(some 27), some undefA, none, true, .ld (.ld 1 false (.s 26))⟩,
      ⟨(some 28), some undefA, none, true, .pu (.bin .sub (.s 22) (.s 27))⟩,
      ⟨(some 29), some undefA, none, true, .pu (.mov (.s 1))⟩,
      ⟨(some 30), some undefA, none, true, .pu (.mov (.s 6))⟩,
      ⟨(some 31), some undefA, none, true, .pu (.idx 2 (.s 29) (.s 30))⟩,
      ⟨(some 32), some undefA, none, true, .pu (.fad 1 (.s 31))⟩,
      ⟨(some 33), some undefA, none, true, .ld (.ld 1 false (.s 32))⟩,
      ⟨(some 34), some undefA, none, false, .call 61 [(.s 28), (.s 33)]⟩,
      ⟨(some 35), some undefA, none, false, .ha (.blds 2 1 [.int .i64 0, .int .i64 0] [(0, 2, (.s 34))])⟩,
      ⟨(some 36), some undefA, none, false, .ha (.app 2 (.s 15) (.s 35))⟩,
      ⟨(some 5), some undefA, none, false, .pu (.mov (.s 36))⟩])))
   (.ops [⟨(some 37), some undefA, none, false, .pu (.bin .add (.s 10) (.c (.int .i64 1)))⟩,
     ⟨(some 10), some undefA, none, false, .pu (.mov (.s 37))⟩])))))))
 (.seq (.ops [⟨(some 38), some undefA, none, false, .pu (.mov (.s 5))⟩,
   ⟨(some 4), some undefA, none, false, .pu (.mov (.s 38))⟩])
 (.ret))))⟩
theorem t75 : trF Try.prog [] [] Try.f75 = some m75 := by kernel_rfl
/-- selion/selionref03.gcd [loop [0, 1]] -/
def m80 : MFun := ⟨14, [], [.mov (.s 4)],
 .seq (.ops [⟨(some 4), some undefA, none, false, .pu (.mov (.c (.int .i64 0)))⟩])
 (.seq (.block 0 (.loop (.seq (.seq (.ops [⟨(some 6), some undefA, none, false, .pu (.mov (.s 1))⟩,
     ⟨(some 7), some undefA, none, false, .pu (.bin .neq (.s 6) (.c (.int .i64 0)))⟩])
   (.cond (.s 7) (.skip)
   (.exit 0)))
   (.block 1 (.seq (.ops [⟨(some 8), some undefA, none, false, .pu (.mov (.s 0))⟩,
      ⟨(some 9), some undefA, none, false, .pu (.mov (.s 1))⟩,
      ⟨(some 10), some undefA, none, false, .pu (.bin .rem (.s 8) (.s 9))⟩,
      ⟨(some 5), some undefA, none, false, .pu (.mov (.s 10))⟩])
    (.seq (.ops [⟨(some 11), some undefA, none, false, .pu (.mov (.s 1))⟩,
      ⟨(some 0), some undefA, none, false, .pu (.mov (.s 11))⟩])
    (.ops [⟨(some 12), some undefA, none, false, .pu (.mov (.s 5))⟩,
      ⟨(some 1), some undefA, none, false, .pu (.mov (.s 12))⟩])))))))
 (.seq (.ops [⟨(some 13), some undefA, none, false, .pu (.mov (.s 0))⟩,
   ⟨(some 4), some undefA, none, false, .pu (.mov (.s 13))⟩])
 (.ret)))⟩
theorem t80 : trF Try.prog [] [] Try.f80 = some m80 := by kernel_rfl
end Go.Proofs.Ytdcdjhhjlpegjaa

namespace Go.Eng
open Go
section
variable {P : Program} {α : Type}
end
end Go.Eng

namespace Go.Proofs.Ytdcdjhhjlpegjaa
open Go Go.Eng
section
variable {α : Type} {es : Nat} {e : α → List AV} {A H : AHeap} {v : AV} {xs : List α}
end
/-- What is appended to an empty list that has just been made. -/
theorem app_new {α : Type} {es : Nat} {e : α → List AV} {A : AHeap} {y : AV} {ys : List α} (hy : Ls es e A y ys) (hl : ys.length ≤ lim) :
    ∃ v' n H2, appA es (A ++ [.cells true []]) (.sl es A.length 0 0 true) y = some (v', H2) ∧ OL es e A H2 n v' ys := by
  have hc := (hy.mono (pre_app A [.cells true []])).hc
  by_cases h0 : ys.length = 0
  · have : ys = [] := List.eq_nil_of_length_eq_zero h0
    subst this
    refine ⟨.sl es A.length 0 0 true, A.length, A ++ [.cells true []], ?_, hy.he, pre_app _ _, Nat.le_refl _, by simp, true, rfl⟩
    unfold appA
    rw [hc]
    simp
  · refine ⟨.sl es (A ++ [AObj.cells true []]).length 0 ys.length false, (A ++ [AObj.cells true []]).length, A ++ [AObj.cells true []] ++ [.cells true (ys.flatMap e)], ?_, hy.he, (pre_app A _).trans (pre_app _ _), by simp, by simp, false, rfl⟩
    unfold appA
    rw [hc]
    simp [h0, hl]
theorem Ls_nn {α : Type} {es : Nat} {e : α → List AV} {A : AHeap} {v : AV} {xs : List α} (h : Ls es e A v xs) (h0 : 0 < xs.length) : v ≠ .nilS := by
  rintro rfl
  have := h.hc
  simp [slCells] at this
  omega
theorem set_same {α : Type} {l : List α} {n : Nat} {x : α} (h : l[n]? = some x) : l.set n x = l := by
  have hlt := (List.getElem?_eq_some_iff.1 h).1
  have hx := (List.getElem?_eq_some_iff.1 h).2
  rw [← hx]
  exact List.set_getElem_self hlt
end Go.Proofs.Ytdcdjhhjlpegjaa

namespace Go.Proofs.Ytdcdjhhjlpegjaa
open Go Go.Eng
theorem c_wi (n lo hi : Int) (A : AHeap) : ACalls Try.prog 60 [I n, I lo, I hi] A (B (decide (lo ≤ n ∧ n ≤ hi))) A := by
  refine acalls hmix Try.func60 (by kernel_rfl) t60 3 rfl (by decide) ?_
  by_cases h : lo ≤ n
  · dsimp only [m60]
    simp (maxSteps := 4000000) -implicitDefEqProofs -dsimp (disch := omega) only [↓AW_ops, ↓AW_seq, ↓AW_ret, ↓AOps_nil, ↓AOps_pu, ↓AOps_guard, on_some, guardB_tt, ↓then_normal, ↓Fin_ret, pval, rd_S, rd_C, put_S, resV, resL, eq_self, List.replicate_succ, List.replicate_zero, List.set_cons_zero, List.set_cons_succ, List.getElem?_cons_zero, List.getElem?_cons_succ, Option.getD_some, Nat.reduceSub, List.cons_append, List.nil_append, bin_leq, bin_geq, if_true, decide_true, true_and, h]
    exact gc_same rfl
  · dsimp only [m60]
    simp (maxSteps := 4000000) -implicitDefEqProofs -dsimp (disch := omega) only [↓AW_ops, ↓AW_seq, ↓AW_ret, ↓AOps_nil, ↓AOps_pu, ↓AOps_guard, on_some, guardB_ft, skipS_some, ↓then_normal, ↓Fin_ret, pval, rd_S, rd_C, put_S, resV, resL, List.replicate_succ, List.replicate_zero, List.set_cons_zero, List.set_cons_succ, List.getElem?_cons_zero, List.getElem?_cons_succ, Option.getD_some, Nat.reduceSub, List.cons_append, List.nil_append, bin_geq, if_false, Bool.false_eq_true, decide_false, h]
    exact gc_same rfl
theorem take_sum {us : List Int} {k : Nat} {u : Int} (h : us[k]? = some u) : (us.take (k + 1)).sum = (us.take k).sum + u := by
  rw [List.take_add_one, h]
  simp
theorem sum_bd {K : Int} : ∀ {l : List Int}, (∀ x ∈ l, -K ≤ x ∧ x ≤ K) → -(K * l.length) ≤ l.sum ∧ l.sum ≤ K * l.length
  | [], _ => by simp
  | x :: l, h => by
    have ih := sum_bd (fun y hy => h y (List.mem_cons_of_mem x hy))
    have hx := h x (by simp)
    simp only [List.sum_cons, List.length_cons, Int.natCast_add, Int.cast_ofNat_Int, Int.mul_add, Int.mul_one]
    omega
theorem sum_bd0 {K : Int} : ∀ {l : List Int}, (∀ x ∈ l, 0 ≤ x ∧ x ≤ K) → 0 ≤ l.sum ∧ l.sum ≤ K * l.length
  | [], _ => by simp
  | x :: l, h => by
    have ih := sum_bd0 (fun y hy => h y (List.mem_cons_of_mem x hy))
    have hx := h x (by simp)
    simp only [List.sum_cons, List.length_cons, Int.natCast_add, Int.cast_ofNat_Int, Int.mul_add, Int.mul_one]
    omega
theorem sum_w {l : List Int} (hl : l.length ≤ 1000000) (h : ∀ x ∈ l, -1000000000000 ≤ x ∧ x ≤ 1000000000000) (i : Nat) : -1000000000000000000 ≤ (l.take i).sum ∧ (l.take i).sum ≤ 1000000000000000000 := by
  have := sum_bd (K := 1000000000000) (l := l.take i) (fun x hx => h x (List.mem_of_mem_take hx))
  have h2 : (l.take i).length ≤ 1000000 := by rw [List.length_take]; omega
  omega
theorem c_total {xs : List Int} {v : AV} {A : AHeap} (hx : L1 A v xs) (hl : xs.length ≤ 1000000) (hb : ∀ x ∈ xs, -1000000000000 ≤ x ∧ x ≤ 1000000000000) : ACalls Try.prog 54 [v] A (I xs.sum) A := by
  refine acalls hmix Try.func54 (by kernel_rfl) t54 1 rfl (by decide) ?_
  dsimp only [m54]
  simp (maxSteps := 4000000) -implicitDefEqProofs -dsimp (disch := omega) only [↓AW_ops, ↓AW_seq, ↓AW_block, ↓AOps_nil, ↓AOps_pu, on_some, ↓then_normal, pval, rd_S, rd_C, put_S, ↓AW_toLoop, List.replicate_succ, List.replicate_zero, List.set_cons_zero, List.set_cons_succ, List.getElem?_cons_zero, List.getElem?_cons_succ, Option.getD_some, Nat.reduceSub, List.cons_append, List.nil_append, hx.len]
  refine LoopK.by 17 (fun i : Nat => i ≤ xs.length) (fun i => [(3, I (xs.take i).sum), (6, v), (7, I xs.length), (8, I i)]) (fun _ => A) (fun i => xs.length - i) 0 (by omega) rfl (by simp [Has, rd_s]) rfl ?_
  intro i hi
  by_cases hlt : i < xs.length
  · obtain ⟨z, hz⟩ : ∃ z, xs[i]? = some z := ⟨_, List.getElem?_eq_getElem hlt⟩
    have hlt' : (i : Int) < xs.length := by omega
    have h1 := sum_w hl hb i
    have h2 := hb z (List.mem_of_getElem? hz)
    simp (maxSteps := 4000000) -implicitDefEqProofs -dsimp (disch := omega) only [↓AW_skip, ↓AW_ops, ↓AW_seq, ↓AW_cond, ↓AW_block, ↓AOps_nil, ↓AOps_pu, ↓AOps_ld, on_some, condB_t, ↓then_normal, ↓inBlock_normal, pval, lval, rd_S, rd_C, put_S, partA, eq_self, mk, List.foldl_cons, List.foldl_nil, List.replicate_succ, List.replicate_zero, List.set_cons_zero, List.set_cons_succ, List.getElem?_cons_zero, List.getElem?_cons_succ, List.drop_zero, List.take_succ_cons, List.take_nil, Option.getD_some, List.length_cons, List.length_nil, Nat.reduceAdd, Nat.reduceLeDiff, Nat.zero_add, bin_add, bin_lss, w64, if_true, if_false, Bool.false_eq_true, decide_true, Go.Eng.e1, true_and, hlt', hx.idx hlt, hx.ld0 hz 1 false (by decide)]
    exact ⟨i + 1, hlt, by simp [Has, rd_s, take_sum hz], by omega⟩
  · have hlt' : ¬ ((i : Int) < xs.length) := by omega
    simp (maxSteps := 4000000) -implicitDefEqProofs -dsimp (disch := omega) only [↓AW_ops, ↓AW_seq, ↓AW_cond, ↓AW_exit, ↓AW_ret, ↓AOps_nil, ↓AOps_pu, on_some, condB_f, ↓then_normal, ↓then_exit, ↓inBlock_exit, ↓Fin_ret, pval, rd_S, put_S, resV, resL, eq_self, mk, List.foldl_cons, List.foldl_nil, List.replicate_succ, List.replicate_zero, List.set_cons_zero, List.set_cons_succ, List.getElem?_cons_zero, List.getElem?_cons_succ, Option.getD_some, bin_lss, if_true, decide_false, hlt']
    rw [List.take_of_length_le (by omega)]
    exact gc_same rfl
/-- A claim. -/
def cK (c : Int) : Bool := decide (0 ≤ c ∧ c ≤ 1000)
/-- The claims of a case. -/
def okC (cs : List Int) : Bool := decide ((1 : Int) ≤ cs.length ∧ (cs.length : Int) ≤ 8) && cs.all cK
/-- The first error of a case. -/
def vE (cs : List Int) (e : Int) : Int := if okC cs = true ∧ 0 ≤ e ∧ e ≤ cs.sum then 0 else 1
structure OK (cs : List Int) : Prop where
  l1 : 1 ≤ cs.length
  l8 : cs.length ≤ 8
  c : ∀ x ∈ cs, 0 ≤ x ∧ x ≤ 1000
theorem okC_iff {cs : List Int} : okC cs = true ↔ OK cs := by
  unfold okC
  rw [Bool.and_eq_true, decide_eq_true_iff, List.all_eq_true]
  constructor
  · rintro ⟨h1, h2⟩
    exact ⟨by omega, by omega, fun x hx => by simpa [cK] using h2 x hx⟩
  · rintro ⟨h1, h2, h3⟩
    exact ⟨by omega, fun x hx => by simpa [cK] using h3 x hx⟩
theorem OK.bd {cs : List Int} (h : OK cs) : ∀ x ∈ cs, -1000000000000 ≤ x ∧ x ≤ 1000000000000 := fun x hx => by have := h.c x hx; omega
theorem OK.sum {cs : List Int} (h : OK cs) : 0 ≤ cs.sum ∧ cs.sum ≤ 8000 := by
  have := sum_bd0 h.c
  have := h.l8
  omega
/-- A case. -/
structure CE (cs : List Int) (e : Int) : Prop where
  ok : OK cs
  e0 : 0 ≤ e
  e1 : e ≤ cs.sum
theorem vE_0 {cs : List Int} {e : Int} : vE cs e = 0 ↔ CE cs e := by
  unfold vE
  constructor
  · intro h
    split at h
    · rename_i g; exact ⟨okC_iff.1 g.1, g.2.1, g.2.2⟩
    · cases h
  · rintro ⟨h1, h2, h3⟩
    rw [if_pos ⟨okC_iff.2 h1, h2, h3⟩]
section
variable {cs : List Int} {v : AV} {A : AHeap}
theorem s78 (n : Int) (A : AHeap) : ACalls Try.prog 78 [I n] A (B (!cK n)) A := by
  refine acalls hmix Try.func78 (by kernel_rfl) t78 1 rfl (by decide) ?_
  by_cases h : n < 0
  · have : cK n = false := by simp [cK]; omega
    dsimp only [m78]
    simp (maxSteps := 4000000) -implicitDefEqProofs -dsimp (disch := omega) only [↓AW_ops, ↓AW_seq, ↓AW_ret, ↓AOps_nil, ↓AOps_pu, ↓AOps_guard, on_some, guardB_tf, skipS_some, ↓then_normal, ↓Fin_ret, pval, rd_S, rd_C, put_S, resV, resL, eq_self, List.replicate_succ, List.replicate_zero, List.set_cons_zero, List.set_cons_succ, List.getElem?_cons_zero, List.getElem?_cons_succ, Option.getD_some, Nat.reduceSub, List.cons_append, List.nil_append, bin_lss, if_true, decide_true, h]
    exact gc_same (by rw [this]; rfl)
  · by_cases h2 : 1000 < n
    · have : cK n = false := by simp [cK]; omega
      dsimp only [m78]
      simp (maxSteps := 4000000) -implicitDefEqProofs -dsimp (disch := omega) only [↓AW_ops, ↓AW_seq, ↓AW_ret, ↓AOps_nil, ↓AOps_pu, ↓AOps_guard, on_some, guardB_ff, ↓then_normal, ↓Fin_ret, pval, rd_S, rd_C, put_S, resV, resL, List.replicate_succ, List.replicate_zero, List.set_cons_zero, List.set_cons_succ, List.getElem?_cons_zero, List.getElem?_cons_succ, Option.getD_some, Nat.reduceSub, List.cons_append, List.nil_append, bin_lss, bin_gtr, if_false, Bool.false_eq_true, decide_true, decide_false, h, h2]
      exact gc_same (by rw [this]; rfl)
    · have : cK n = true := by simp [cK]; omega
      dsimp only [m78]
      simp (maxSteps := 4000000) -implicitDefEqProofs -dsimp (disch := omega) only [↓AW_ops, ↓AW_seq, ↓AW_ret, ↓AOps_nil, ↓AOps_pu, ↓AOps_guard, on_some, guardB_ff, ↓then_normal, ↓Fin_ret, pval, rd_S, rd_C, put_S, resV, resL, List.replicate_succ, List.replicate_zero, List.set_cons_zero, List.set_cons_succ, List.getElem?_cons_zero, List.getElem?_cons_succ, Option.getD_some, Nat.reduceSub, List.cons_append, List.nil_append, bin_lss, bin_gtr, if_false, Bool.false_eq_true, decide_false, h, h2]
      exact gc_same (by rw [this]; rfl)
theorem any_not {g : Int → Bool} (xs : List Int) : (!(xs.any (fun y => !g y))) = xs.all g := by
  induction xs with
  | nil => rfl
  | cons x xs ih => rw [List.any_cons, List.all_cons, ← ih, Bool.not_or, Bool.not_not]
theorem s53 (hx : L1 A v cs) (hl : cs.length ≤ 1000000) : ACalls Try.prog 53 [v] A (B (okC cs)) A := by
  refine acalls hmix Try.func53 (by kernel_rfl) t53 1 rfl (by decide) ?_
  by_cases h1 : (1 : Int) ≤ cs.length
  · by_cases h8 : (cs.length : Int) ≤ 8
    · dsimp only [m53]
      simp (maxSteps := 4000000) -implicitDefEqProofs -dsimp (disch := omega) only [↓AW_ops, ↓AW_seq, ↓AOps_nil, ↓AOps_pu, ↓AOps_call, ↓AOps_guard, on_some, guardB_tt, ↓then_normal, pval, rd_S, rd_C, put_S, eq_self, List.replicate_succ, List.replicate_zero, List.set_cons_zero, List.set_cons_succ, List.getElem?_cons_zero, List.getElem?_cons_succ, Option.getD_some, map_c, map_n, Nat.reduceSub, List.cons_append, List.nil_append, bin_leq, bin_geq, if_true, decide_true, hx.len, h1, h8]
      refine CallK.of (c_ContainsFunc hx hl 78 [] (fun c => !cK c) (fun x _ => s78 x A)) ?_
      simp (maxSteps := 4000000) -implicitDefEqProofs -dsimp (disch := omega) only [↓AW_ret, ↓AOps_nil, ↓AOps_pu, ↓AOps_guard, on_some, extK_same, guardB_tt, ↓then_normal, ↓Fin_ret, pval, rd_S, rd_C, put_S, resV, resL, eq_self, List.replicate_succ, List.replicate_zero, List.set_cons_zero, List.set_cons_succ, List.getElem?_cons_zero, List.getElem?_cons_succ, Option.getD_some, Nat.reduceSub, List.cons_append, List.nil_append, if_true]
      refine gc_same ?_
      unfold okC
      rw [← any_not (g := cK)]
      simp [h1, h8]
    · dsimp only [m53]
      simp (maxSteps := 4000000) -implicitDefEqProofs -dsimp (disch := omega) only [↓AW_ops, ↓AW_seq, ↓AW_ret, ↓AOps_nil, ↓AOps_pu, ↓AOps_guard, on_some, guardB_tt, guardB_ft, skipS_some, ↓then_normal, ↓Fin_ret, pval, rd_S, rd_C, put_S, resV, resL, eq_self, List.replicate_succ, List.replicate_zero, List.set_cons_zero, List.set_cons_succ, List.getElem?_cons_zero, List.getElem?_cons_succ, Option.getD_some, Nat.reduceSub, List.cons_append, List.nil_append, bin_leq, bin_geq, if_true, if_false, Bool.false_eq_true, decide_true, decide_false, hx.len, h1, h8]
      exact gc_same (by unfold okC; simp [h1, h8])
  · dsimp only [m53]
    simp (maxSteps := 4000000) -implicitDefEqProofs -dsimp (disch := omega) only [↓AW_ops, ↓AW_seq, ↓AW_ret, ↓AOps_nil, ↓AOps_pu, ↓AOps_guard, on_some, guardB_ft, skipS_some, ↓then_normal, ↓Fin_ret, pval, rd_S, rd_C, put_S, resV, resL, List.replicate_succ, List.replicate_zero, List.set_cons_zero, List.set_cons_succ, List.getElem?_cons_zero, List.getElem?_cons_succ, Option.getD_some, Nat.reduceSub, List.cons_append, List.nil_append, bin_geq, if_false, Bool.false_eq_true, decide_false, hx.len, h1]
    exact gc_same (by unfold okC; simp [h1])
theorem s16 (hx : L1 A v cs) (hl : cs.length ≤ 1000000) (e : Int) : ACalls Try.prog 16 [v, I e] A (I (vE cs e)) A := by
  refine acalls hmix Try.func16 (by kernel_rfl) t16 2 rfl (by decide) ?_
  dsimp only [m16]
  simp (maxSteps := 4000000) -implicitDefEqProofs -dsimp (disch := omega) only [↓AW_ops, ↓AW_seq, ↓AOps_nil, ↓AOps_pu, ↓AOps_call, on_some, ↓then_normal, pval, rd_S, rd_C, put_S, List.replicate_succ, List.replicate_zero, List.set_cons_zero, List.set_cons_succ, List.getElem?_cons_zero, List.getElem?_cons_succ, Option.getD_some, map_c, map_n, Nat.reduceSub, List.cons_append, List.nil_append]
  refine CallK.of (s53 hx hl) ?_
  by_cases h1 : okC cs = true
  · by_cases h2 : e < 0
    · simp (maxSteps := 4000000) -implicitDefEqProofs -dsimp (disch := omega) only [↓AW_ops, ↓AW_seq, ↓AW_cond, ↓AW_ret, ↓AOps_nil, ↓AOps_pu, ↓AOps_guard, on_some, extK_same, guardB_tf, guardB_ff, skipS_some, condB_t, ↓then_normal, ↓then_ret, ↓Fin_ret, pval, rd_S, rd_C, put_S, resV, resL, eq_self, List.replicate_succ, List.replicate_zero, List.set_cons_zero, List.set_cons_succ, List.getElem?_cons_zero, List.getElem?_cons_succ, Option.getD_some, Nat.reduceSub, List.cons_append, List.nil_append, bin_lss, if_true, if_false, Bool.false_eq_true, Bool.not_true, decide_true, h1, h2]
      exact gc_same (by unfold vE; rw [if_neg (by omega)])
    · simp (maxSteps := 4000000) -implicitDefEqProofs -dsimp (disch := omega) only [↓AOps_pu, ↓AOps_call, ↓AOps_guard, on_some, extK_same, guardB_ff, pval, rd_S, rd_C, put_S, List.replicate_succ, List.replicate_zero, List.set_cons_zero, List.set_cons_succ, List.getElem?_cons_zero, List.getElem?_cons_succ, Option.getD_some, map_c, map_n, Nat.reduceSub, List.cons_append, List.nil_append, bin_lss, if_false, Bool.false_eq_true, Bool.not_true, decide_false, h1, h2]
      refine CallK.of (c_total hx hl (okC_iff.1 h1).bd) ?_
      by_cases h3 : cs.sum < e
      · simp (maxSteps := 4000000) -implicitDefEqProofs -dsimp (disch := omega) only [↓AW_ops, ↓AW_seq, ↓AW_cond, ↓AW_ret, ↓AOps_nil, ↓AOps_pu, ↓AOps_guard, on_some, extK_same, guardB_ff, condB_t, ↓then_normal, ↓then_ret, ↓Fin_ret, pval, rd_S, rd_C, put_S, resV, resL, List.replicate_succ, List.replicate_zero, List.set_cons_zero, List.set_cons_succ, List.getElem?_cons_zero, List.getElem?_cons_succ, Option.getD_some, Nat.reduceSub, List.cons_append, List.nil_append, bin_gtr, if_false, Bool.false_eq_true, decide_true, h3]
        exact gc_same (by unfold vE; rw [if_neg (by omega)])
      · simp (maxSteps := 4000000) -implicitDefEqProofs -dsimp (disch := omega) only [↓AW_skip, ↓AW_ops, ↓AW_seq, ↓AW_cond, ↓AW_ret, ↓AOps_nil, ↓AOps_pu, ↓AOps_guard, on_some, extK_same, guardB_ff, condB_f, ↓then_normal, ↓Fin_ret, pval, rd_S, rd_C, put_S, resV, resL, List.replicate_succ, List.replicate_zero, List.set_cons_zero, List.set_cons_succ, List.getElem?_cons_zero, List.getElem?_cons_succ, Option.getD_some, Nat.reduceSub, List.cons_append, List.nil_append, bin_gtr, if_false, Bool.false_eq_true, decide_false, h3]
        exact gc_same (by unfold vE; rw [if_pos ⟨h1, by omega, by omega⟩])
  · have h1' : okC cs = false := by simpa using h1
    simp (maxSteps := 4000000) -implicitDefEqProofs -dsimp (disch := omega) only [↓AW_ops, ↓AW_seq, ↓AW_cond, ↓AW_ret, ↓AOps_nil, ↓AOps_pu, ↓AOps_guard, on_some, extK_same, guardB_tf, skipS_some, condB_t, ↓then_normal, ↓then_ret, ↓Fin_ret, pval, rd_S, rd_C, put_S, resV, resL, eq_self, List.replicate_succ, List.replicate_zero, List.set_cons_zero, List.set_cons_succ, List.getElem?_cons_zero, List.getElem?_cons_succ, Option.getD_some, Nat.reduceSub, List.cons_append, List.nil_append, if_true, Bool.not_false, h1']
    exact gc_same (by unfold vE; rw [if_neg (fun hh => h1 hh.1)])
end
end Go.Proofs.Ytdcdjhhjlpegjaa

namespace Go.Proofs.Ytdcdjhhjlpegjaa
open Go Go.Eng
theorem gcd_step (x y : Int) : Int.gcd y (x.tmod y) = Int.gcd x y := by
  unfold Int.gcd
  rw [Int.natAbs_tmod, Nat.gcd_comm y.natAbs, ← Nat.gcd_rec, Nat.gcd_comm]
theorem gcd_pos {a b : Int} (hb : 0 < b) : 0 < Int.gcd a b ∧ (Int.gcd a b : Int) ≤ b := by
  have h1 : 0 < Int.gcd a b := Int.gcd_pos_of_ne_zero_right a (by omega)
  have h2 : (Int.gcd a b : Int) ∣ b := Int.gcd_dvd_right a b
  exact ⟨h1, Int.le_of_dvd hb h2⟩
theorem s82 {a b : Int} (A : AHeap) (ha : W a) (hb0 : 0 < b) (hb : b ≤ 9223372036854775807) : ACalls Try.prog 82 [I a, I b] A (I (Int.gcd a b)) A := by
  refine acalls hmix Try.func82 (by kernel_rfl) t82 2 rfl (by decide) ?_
  dsimp only [m82]
  simp (maxSteps := 4000000) -implicitDefEqProofs -dsimp (disch := omega) only [↓AW_ops, ↓AW_seq, ↓AW_block, ↓AOps_nil, ↓AOps_pu, on_some, ↓then_normal, pval, rd_C, put_S, ↓AW_toLoop, List.replicate_succ, List.replicate_zero, List.set_cons_zero, List.set_cons_succ, Nat.reduceSub, List.cons_append, List.nil_append]
  obtain ⟨g1, g2⟩ := gcd_pos (a := a) hb0
  refine LoopK.by 15 (fun x : Int × Int => Int.gcd x.1 x.2 = Int.gcd a b ∧ W x.1 ∧ W x.2) (fun x => [(0, I x.1), (1, I x.2)]) (fun _ => A) (fun x => x.2.natAbs) (a, b) ⟨rfl, ha, by omega, hb⟩ rfl (by simp [Has, rd_s]) rfl ?_
  rintro ⟨x, y⟩ ⟨hxy, hx, hy⟩
  simp only at hxy hx hy
  by_cases hy0 : y = 0
  · subst hy0
    have hx1 : x.natAbs = Int.gcd a b := by rw [← hxy]; simp
    simp (maxSteps := 4000000) -implicitDefEqProofs -dsimp (disch := omega) only [↓AW_ops, ↓AW_seq, ↓AW_cond, ↓AW_exit, ↓AW_ret, ↓AOps_nil, ↓AOps_pu, on_some, condB_f, ↓then_normal, ↓then_exit, ↓inBlock_exit, ↓Fin_ret, pval, rd_S, rd_C, put_S, resV, resL, eq_self, mk, List.foldl_cons, List.foldl_nil, List.replicate_succ, List.replicate_zero, List.set_cons_zero, List.set_cons_succ, List.getElem?_cons_zero, List.getElem?_cons_succ, Option.getD_some, map_c, map_n, bin_neq, mm_max, w64, if_true, decide_false, not_true_eq_false]
    exact gc_same (by congr 1; omega)
  · simp (maxSteps := 4000000) -implicitDefEqProofs -dsimp (disch := omega) only [↓AW_skip, ↓AW_ops, ↓AW_seq, ↓AW_cond, ↓AW_block, ↓AOps_nil, ↓AOps_pu, on_some, condB_t, ↓then_normal, ↓inBlock_normal, pval, rd_S, rd_C, put_S, eq_self, mk, List.foldl_cons, List.foldl_nil, List.replicate_succ, List.replicate_zero, List.set_cons_zero, List.set_cons_succ, List.getElem?_cons_zero, List.getElem?_cons_succ, Option.getD_some, List.length_cons, List.length_nil, Nat.reduceAdd, Nat.zero_add, bin_rem, bin_neq, if_false, decide_true, true_and, not_false_eq_true, hy0]
    have hm : (x.tmod y).natAbs < y.natAbs := by rw [Int.natAbs_tmod]; exact Nat.mod_lt _ (by omega)
    exact ⟨(y, x.tmod y), ⟨by rw [gcd_step]; exact hxy, hy, by omega⟩, by simp [Has, rd_s], hm⟩
theorem s80 {a b : Int} (A : AHeap) (ha : 0 ≤ a ∧ a ≤ 9223372036854775807) (hb0 : 0 < b) (hb : b ≤ 9223372036854775807) : ACalls Try.prog 80 [I a, I b] A (I (Int.gcd a b)) A := by
  refine acalls hmix Try.func80 (by kernel_rfl) t80 2 rfl (by decide) ?_
  dsimp only [m80]
  simp (maxSteps := 4000000) -implicitDefEqProofs -dsimp (disch := omega) only [↓AW_ops, ↓AW_seq, ↓AW_block, ↓AOps_nil, ↓AOps_pu, on_some, ↓then_normal, pval, rd_C, put_S, ↓AW_toLoop, List.replicate_succ, List.replicate_zero, List.set_cons_zero, List.set_cons_succ, Nat.reduceSub, List.cons_append, List.nil_append]
  refine LoopK.by 14 (fun x : Int × Int => Int.gcd x.1 x.2 = Int.gcd a b ∧ (0 ≤ x.1 ∧ W x.1) ∧ (0 ≤ x.2 ∧ W x.2)) (fun x => [(0, I x.1), (1, I x.2)]) (fun _ => A) (fun x => x.2.natAbs) (a, b) ⟨rfl, by simp only; omega, by simp only; omega⟩ rfl (by simp [Has, rd_s]) rfl ?_
  rintro ⟨x, y⟩ ⟨hxy, hx, hy⟩
  simp only at hxy hx hy
  by_cases hy0 : y = 0
  · subst hy0
    have hx1 : x.natAbs = Int.gcd a b := by rw [← hxy]; simp
    simp (maxSteps := 4000000) -implicitDefEqProofs -dsimp (disch := omega) only [↓AW_ops, ↓AW_seq, ↓AW_cond, ↓AW_exit, ↓AW_ret, ↓AOps_nil, ↓AOps_pu, on_some, condB_f, ↓then_normal, ↓then_exit, ↓inBlock_exit, ↓Fin_ret, pval, rd_S, rd_C, put_S, resV, resL, eq_self, mk, List.foldl_cons, List.foldl_nil, List.replicate_succ, List.replicate_zero, List.set_cons_zero, List.set_cons_succ, List.getElem?_cons_zero, List.getElem?_cons_succ, Option.getD_some, bin_neq, if_true, decide_false, not_true_eq_false]
    exact gc_same (by congr 1; omega)
  · simp (maxSteps := 4000000) -implicitDefEqProofs -dsimp (disch := omega) only [↓AW_skip, ↓AW_ops, ↓AW_seq, ↓AW_cond, ↓AW_block, ↓AOps_nil, ↓AOps_pu, on_some, condB_t, ↓then_normal, ↓inBlock_normal, pval, rd_S, rd_C, put_S, eq_self, mk, List.foldl_cons, List.foldl_nil, List.replicate_succ, List.replicate_zero, List.set_cons_zero, List.set_cons_succ, List.getElem?_cons_zero, List.getElem?_cons_succ, Option.getD_some, List.length_cons, List.length_nil, Nat.reduceAdd, Nat.zero_add, bin_rem, bin_neq, if_false, decide_true, true_and, not_false_eq_true, hy0]
    have hm : (x.tmod y).natAbs < y.natAbs := by rw [Int.natAbs_tmod]; exact Nat.mod_lt _ (by omega)
    have hm0 : 0 ≤ x.tmod y := Int.tmod_nonneg y hx.1
    exact ⟨(y, x.tmod y), ⟨by rw [gcd_step]; exact hxy, hy, by omega⟩, by simp [Has, rd_s], hm⟩
theorem tdiv_W {a : Int} (ha : W a) {g : Int} (hg : 0 < g) : W (a.tdiv g) := by
  have h : (a.tdiv g).natAbs ≤ a.natAbs := by rw [Int.natAbs_tdiv]; exact Nat.div_le_self _ _
  rcases Int.le_total 0 a with h0 | h0
  · have := Int.tdiv_nonneg h0 (by omega : 0 ≤ g); omega
  · have := Int.tdiv_nonneg (a := -a) (b := g) (by omega) (by omega)
    rw [Int.neg_tdiv] at this; omega
def nrm (a b : Int) : AV := .agg [I (a.tdiv (Int.gcd a b)), I (b.tdiv (Int.gcd a b))]
abbrev R (q : Rat) : AV := .agg [I q.num, I (q.den : Int)]
theorem tdiv_eq {n : Int} {g : Nat} (h : (g : Int) ∣ n) : n.tdiv g = n / g := by
  rw [Int.tdiv_eq_ediv_of_dvd h]
theorem den_pos (q : Rat) : 0 < (q.den : Int) := by have := q.den_pos; omega
theorem nrm_R (n d : Int) (hd : 0 < d) : nrm n d = R ((n : Rat) / (d : Rat)) := by
  have h0 : d.toNat ≠ 0 := by omega
  have hg : d.toNat.gcd n.natAbs = Int.gcd n d := by
    unfold Int.gcd
    rw [Nat.gcd_comm]; congr 1; omega
  have e : (n : Rat) / (d : Rat) = mkRat n d.toNat := by
    rw [Rat.mkRat_eq_div]
    have : ((d.toNat : Nat) : Rat) = ((d : Int) : Rat) := by
      rw [← Rat.intCast_natCast, Int.toNat_of_nonneg (by omega)]
    rw [this]
  rw [e]
  unfold nrm
  have h1 : (mkRat n d.toNat).num = n.tdiv (Int.gcd n d) := by
    rw [Rat.num_mkRat, if_neg h0, hg, tdiv_eq (Int.gcd_dvd_left n d)]
  have h2 : ((mkRat n d.toNat).den : Int) = d.tdiv (Int.gcd n d) := by
    rw [Rat.den_mkRat, if_neg h0, hg, tdiv_eq (Int.gcd_dvd_right n d), Int.natCast_ediv]
    congr 1; omega
  show _ = AV.agg [I (mkRat n d.toNat).num, I ((mkRat n d.toNat).den : Int)]
  rw [h1, h2]
theorem R_self (q : Rat) : q = (q.num : Rat) / ((q.den : Int) : Rat) := by
  have := Rat.mkRat_self q
  rw [Rat.mkRat_eq_div] at this
  rw [Rat.intCast_natCast]
  exact this.symm
theorem s61 {a b : Int} (A : AHeap) (ha : W a) (hb0 : 0 < b) (hb : b ≤ 9223372036854775807) : ACalls Try.prog 61 [I a, I b] A (R ((a : Rat) / (b : Rat))) A := by
  rw [← nrm_R a b hb0]
  refine acalls hmix Try.func61 (by kernel_rfl) t61 2 rfl (by decide) ?_
  dsimp only [m61]
  simp (maxSteps := 4000000) -implicitDefEqProofs -dsimp (disch := omega) only [↓AW_ops, ↓AW_seq, ↓AOps_nil, ↓AOps_pu, ↓AOps_call, on_some, ↓then_normal, pval, rd_S, rd_C, put_S, AV.cells?, List.replicate_succ, List.replicate_zero, List.set_cons_zero, List.set_cons_succ, List.getElem?_cons_zero, List.getElem?_cons_succ, Option.getD_some, map_c, map_n, Nat.reduceSub, List.cons_append, List.nil_append]
  refine CallK.of (s82 _ ha hb0 hb) ?_
  obtain ⟨g1, g2⟩ := gcd_pos (a := a) hb0
  have hg : ¬ (Int.gcd a b : Int) = 0 := by omega
  have h1 := tdiv_W ha (g := Int.gcd a b) (by omega)
  have h2 := tdiv_W (a := b) ⟨by omega, hb⟩ (g := Int.gcd a b) (by omega)
  simp (maxSteps := 4000000) -implicitDefEqProofs -dsimp (disch := omega) only [↓AW_ops, ↓AW_seq, ↓AW_ret, ↓AOps_nil, ↓AOps_pu, on_some, extK_same, ↓then_normal, ↓Fin_ret, pval, rd_S, put_S, resV, resL, chkd, bput, bgot, AV.cells?, splice, partA, fillA, eq_self, List.replicate_succ, List.replicate_zero, List.set_cons_zero, List.set_cons_succ, List.getElem?_cons_zero, List.getElem?_cons_succ, List.drop_zero, List.drop_succ_cons, List.drop_nil, List.take_zero, List.take_succ_cons, List.take_nil, Option.getD_some, Option.map_some, map_c, map_n, List.length_cons, List.length_nil, Nat.reduceAdd, Nat.reduceSub, Nat.reduceLeDiff, Nat.reduceEqDiff, Nat.zero_add, List.cons_append, List.nil_append, List.append_nil, bin_quo, w64, if_true, if_false, and_true, ne_eq, not_true_eq_false, hg]
  exact gc_same rfl
theorem gcd_div {out d : Int} (h0 : 0 < out) (hd : 0 < d) : out.tdiv (Int.gcd out d) = out / (Int.gcd out d : Int) ∧ 0 < out / (Int.gcd out d : Int) ∧ out / (Int.gcd out d : Int) ≤ out := by
  obtain ⟨g1, g2⟩ := gcd_pos (a := out) hd
  obtain ⟨x, hx⟩ := Int.gcd_dvd_left out d
  generalize (Int.gcd out d : Nat) = g at *
  have hg : (0 : Int) < g := by omega
  refine ⟨Int.tdiv_eq_ediv_of_nonneg (by omega), ?_, ?_⟩
  · rw [hx, Int.mul_ediv_cancel_left _ (by omega)]
    rcases Int.lt_or_le 0 x with h | h
    · exact h
    · have := Int.mul_nonpos_of_nonneg_of_nonpos (Int.le_of_lt hg) h; omega
  · exact Int.ediv_le_self _ (by omega)
/-- A fraction that a list may hold. -/
def fitR (r : Int × Int) : Prop := (1 ≤ r.2 ∧ r.2 ≤ 10000) ∧ (0 ≤ r.1 ∧ r.1 ≤ 10000000) ∧ Int.gcd r.1 r.2 = 1
instance (r : Int × Int) : Decidable (fitR r) := by unfold fitR; exact inferInstance
/-- The common denominator; 0 if the list is not fit. -/
def cm : Int → List (Int × Int) → Int
  | a, [] => a
  | a, r :: rs => if fitR r then (if 10000 < a / (Int.gcd a r.2 : Int) * r.2 then 0 else cm (a / (Int.gcd a r.2 : Int) * r.2) rs) else 0
theorem cm_bad {a : Int} {r : Int × Int} {rs : List (Int × Int)} (h : ¬ fitR r) : cm a (r :: rs) = 0 := by rw [cm, if_neg h]
theorem cm_go {a : Int} {r : Int × Int} {rs : List (Int × Int)} (h : fitR r) : cm a (r :: rs) = if 10000 < a / (Int.gcd a r.2 : Int) * r.2 then 0 else cm (a / (Int.gcd a r.2 : Int) * r.2) rs := by rw [cm, if_pos h]
theorem lc_pos {a d : Int} (ha : 1 ≤ a ∧ a ≤ 10000) (hd : 1 ≤ d ∧ d ≤ 10000) : 1 ≤ a / (Int.gcd a d : Int) * d ∧ a / (Int.gcd a d : Int) * d ≤ 100000000 ∧ a.tdiv (Int.gcd a d) = a / (Int.gcd a d : Int) ∧ ¬ (Int.gcd a d : Int) = 0 ∧ 0 < a / (Int.gcd a d : Int) ∧ a / (Int.gcd a d : Int) ≤ 10000 := by
  obtain ⟨q1, q2, q3⟩ := gcd_div (out := a) (d := d) (by omega) (by omega)
  have hm := Int.mul_le_mul (Int.le_trans q3 ha.2) hd.2 (by omega) (by omega : (0 : Int) ≤ 10000)
  have hm0 : 0 < a / (Int.gcd a d : Int) * d := Int.mul_pos q2 (by omega)
  have hg0 : ¬ (Int.gcd a d : Int) = 0 := by have := gcd_pos (a := a) (b := d) (by omega); omega
  exact ⟨by omega, by omega, q1, hg0, q2, by omega⟩
theorem drop_at {α : Type} {rs : List α} {i : Nat} {z : α} (hz : rs[i]? = some z) : rs.drop i = z :: rs.drop (i + 1) := by
  obtain ⟨hlt, h⟩ := List.getElem?_eq_some_iff.1 hz
  rw [← h]; exact List.drop_eq_getElem_cons hlt
section
variable {rs : List (Int × Int)} {v : AV} {A : AHeap}
theorem c_Common (hr : L2 A v rs) (hl : rs.length ≤ 1000000) : ACalls Try.prog 56 [v] A (I (cm 1 rs)) A := by
  refine acalls hmix Try.func56 (by kernel_rfl) t56 1 rfl (by decide) ?_
  dsimp only [m56]
  simp (maxSteps := 4000000) -implicitDefEqProofs -dsimp (disch := omega) only [↓AW_ops, ↓AW_seq, ↓AW_block, ↓AOps_nil, ↓AOps_pu, on_some, ↓then_normal, pval, rd_C, put_S, ↓AW_toLoop, List.replicate_succ, List.replicate_zero, List.set_cons_zero, List.set_cons_succ, Nat.reduceSub, List.cons_append, List.nil_append]
  refine LoopK.by 59 (fun x : Nat × Int => x.1 ≤ rs.length ∧ (1 ≤ x.2 ∧ x.2 ≤ 10000) ∧ cm 1 rs = cm x.2 (rs.drop x.1)) (fun x => [(0, v), (3, I x.2), (4, I x.1)]) (fun _ => A) (fun x => rs.length - x.1) (0, 1) ⟨by simp only; omega, by simp only; omega, by simp⟩ rfl (by simp [Has, rd_s]) rfl ?_
  rintro ⟨i, all⟩ ⟨hi, ho, he⟩
  simp only at hi ho he
  by_cases hlt : i < rs.length
  · obtain ⟨z, hz⟩ : ∃ z, rs[i]? = some z := ⟨_, List.getElem?_eq_getElem hlt⟩
    have hlt' : (i : Int) < rs.length := by omega
    rw [drop_at hz] at he
    have bad : cm 1 rs = 0 → GC A (I 0) A (I (cm 1 rs)) A := by
      intro h; rw [h]; exact gc_same rfl
    simp (maxSteps := 4000000) -implicitDefEqProofs -dsimp (disch := omega) only [↓AW_skip, ↓AW_ops, ↓AW_seq, ↓AW_cond, ↓AW_block, ↓AOps_nil, ↓AOps_pu, ↓AOps_ld, ↓AOps_call, on_some, condB_t, ↓then_normal, pval, lval, rd_S, rd_C, put_S, partA, eq_self, mk, List.foldl_cons, List.foldl_nil, List.replicate_succ, List.replicate_zero, List.set_cons_zero, List.set_cons_succ, List.getElem?_cons_zero, List.getElem?_cons_succ, List.drop_zero, List.drop_succ_cons, List.take_succ_cons, List.take_nil, Option.getD_some, map_c, map_n, List.length_cons, List.length_nil, Nat.reduceAdd, Nat.reduceLeDiff, Nat.zero_add, bin_lss, if_true, if_false, Bool.false_eq_true, decide_true, Go.Eng.e2, hlt', hr.len, hr.idx hlt, hr.ld hz 1 1 false (by decide), e2]
    refine CallK.of (c_wi _ _ _ _) ?_
    by_cases h1 : 1 ≤ z.2 ∧ z.2 ≤ 10000
    case neg =>
      simp (maxSteps := 4000000) -implicitDefEqProofs -dsimp (disch := omega) only [↓AW_ops, ↓AW_seq, ↓AW_cond, ↓AW_ret, ↓AOps_nil, ↓AOps_pu, ↓AOps_guard, on_some, extK_same, guardB_tf, skipS_some, condB_t, ↓then_normal, ↓then_ret, ↓inBlock_ret, ↓Fin_ret, pval, rd_S, rd_C, put_S, resV, resL, eq_self, mk, List.foldl_cons, List.foldl_nil, List.replicate_succ, List.replicate_zero, List.set_cons_zero, List.set_cons_succ, List.getElem?_cons_zero, List.getElem?_cons_succ, Option.getD_some, if_true, Bool.not_false, decide_false, h1]
      exact bad (by rw [he, cm_bad (fun hh => h1 hh.1)])
    simp (maxSteps := 4000000) -implicitDefEqProofs -dsimp (disch := omega) only [↓AOps_pu, ↓AOps_ld, ↓AOps_call, ↓AOps_guard, on_some, extK_same, guardB_ff, pval, lval, rd_S, rd_C, put_S, partA, eq_self, mk, List.foldl_cons, List.foldl_nil, List.replicate_succ, List.replicate_zero, List.set_cons_zero, List.set_cons_succ, List.getElem?_cons_zero, List.getElem?_cons_succ, List.drop_zero, List.take_zero, List.take_succ_cons, Option.getD_some, map_c, map_n, List.length_cons, List.length_nil, Nat.reduceAdd, Nat.reduceLeDiff, Nat.zero_add, Nat.add_zero, if_true, if_false, Bool.false_eq_true, Bool.not_true, decide_true, Go.Eng.e2, and_true, h1, hr.idx hlt, hr.ld0 hz 1 false (by decide), e2]
    refine CallK.of (c_wi _ _ _ _) ?_
    by_cases h2 : 0 ≤ z.1 ∧ z.1 ≤ 10000000
    case neg =>
      simp (maxSteps := 4000000) -implicitDefEqProofs -dsimp (disch := omega) only [↓AW_ops, ↓AW_seq, ↓AW_cond, ↓AW_ret, ↓AOps_nil, ↓AOps_pu, ↓AOps_guard, on_some, extK_same, guardB_tf, guardB_ff, skipS_some, condB_t, ↓then_normal, ↓then_ret, ↓inBlock_ret, ↓Fin_ret, pval, rd_S, rd_C, put_S, resV, resL, eq_self, mk, List.foldl_cons, List.foldl_nil, List.replicate_succ, List.replicate_zero, List.set_cons_zero, List.set_cons_succ, List.getElem?_cons_zero, List.getElem?_cons_succ, Option.getD_some, if_true, if_false, Bool.false_eq_true, Bool.not_false, decide_false, h2]
      exact bad (by rw [he, cm_bad (fun hh => h2 hh.2.1)])
    simp (maxSteps := 4000000) -implicitDefEqProofs -dsimp (disch := omega) only [↓AOps_pu, ↓AOps_ld, ↓AOps_call, ↓AOps_guard, on_some, extK_same, guardB_ff, pval, lval, rd_S, rd_C, put_S, partA, eq_self, mk, List.foldl_cons, List.foldl_nil, List.replicate_succ, List.replicate_zero, List.set_cons_zero, List.set_cons_succ, List.getElem?_cons_zero, List.getElem?_cons_succ, List.drop_zero, List.drop_succ_cons, List.take_zero, List.take_succ_cons, List.take_nil, Option.getD_some, map_c, map_n, List.length_cons, List.length_nil, Nat.reduceAdd, Nat.reduceLeDiff, Nat.zero_add, Nat.add_zero, if_true, if_false, Bool.false_eq_true, Bool.not_true, decide_true, Go.Eng.e2, and_true, h2, hr.idx hlt, hr.ld0 hz 1 false (by decide), hr.ld hz 1 1 false (by decide), e2]
    refine CallK.of (s80 _ ⟨by omega, by omega⟩ (by omega) (by omega)) ?_
    by_cases h5 : Int.gcd z.1 z.2 = 1
    · have hf : fitR z := ⟨h1, h2, h5⟩
      rw [cm_go hf] at he
      obtain ⟨q1, q2, q3, q4, q5, q6⟩ := lc_pos ho hf.1
      have h5' : (Int.gcd z.1 z.2 : Int) = 1 := by omega
      simp (maxSteps := 4000000) -implicitDefEqProofs -dsimp (disch := omega) only [↓AW_skip, ↓AW_ops, ↓AW_seq, ↓AW_cond, ↓AOps_nil, ↓AOps_pu, ↓AOps_ld, ↓AOps_call, ↓AOps_guard, on_some, extK_same, guardB_ff, condB_f, ↓then_normal, pval, lval, rd_S, rd_C, put_S, partA, eq_self, mk, List.foldl_cons, List.foldl_nil, List.replicate_succ, List.replicate_zero, List.set_cons_zero, List.set_cons_succ, List.getElem?_cons_zero, List.getElem?_cons_succ, List.drop_zero, List.drop_succ_cons, List.take_succ_cons, List.take_nil, Option.getD_some, map_c, map_n, List.length_cons, List.length_nil, Nat.reduceAdd, Nat.reduceLeDiff, Nat.zero_add, bin_neq, if_true, if_false, Bool.false_eq_true, decide_false, Go.Eng.e2, not_true_eq_false, h5', hr.idx hlt, hr.ld hz 1 1 false (by decide), e2]
      refine CallK.of (s80 _ ⟨by omega, by omega⟩ (by omega) (by omega)) ?_
      by_cases h6 : 10000 < all / (Int.gcd all z.2 : Int) * z.2
      · rw [if_pos h6] at he
        simp (maxSteps := 4000000) -implicitDefEqProofs -dsimp (disch := omega) only [↓AW_ops, ↓AW_seq, ↓AW_cond, ↓AW_ret, ↓AOps_nil, ↓AOps_pu, ↓AOps_ld, on_some, extK_same, condB_t, ↓then_normal, ↓then_ret, ↓inBlock_ret, ↓Fin_ret, pval, lval, rd_S, rd_C, put_S, resV, resL, partA, eq_self, mk, List.foldl_cons, List.foldl_nil, List.replicate_succ, List.replicate_zero, List.set_cons_zero, List.set_cons_succ, List.getElem?_cons_zero, List.getElem?_cons_succ, List.drop_zero, List.drop_succ_cons, List.take_succ_cons, List.take_nil, Option.getD_some, List.length_cons, List.length_nil, Nat.reduceAdd, Nat.reduceLeDiff, Nat.zero_add, bin_mul, bin_quo, bin_gtr, w64, if_true, if_false, Bool.false_eq_true, decide_true, Go.Eng.e2, q4, q3, h6, hr.idx hlt, hr.ld hz 1 1 false (by decide), e2]
        exact bad he
      · rw [if_neg h6] at he
        simp (maxSteps := 4000000) -implicitDefEqProofs -dsimp (disch := omega) only [↓AW_skip, ↓AW_ops, ↓AW_seq, ↓AW_cond, ↓AOps_nil, ↓AOps_pu, ↓AOps_ld, on_some, extK_same, condB_f, ↓then_normal, ↓inBlock_normal, pval, lval, rd_S, rd_C, put_S, partA, eq_self, mk, List.foldl_cons, List.foldl_nil, List.replicate_succ, List.replicate_zero, List.set_cons_zero, List.set_cons_succ, List.getElem?_cons_zero, List.getElem?_cons_succ, List.drop_zero, List.drop_succ_cons, List.take_succ_cons, List.take_nil, Option.getD_some, List.length_cons, List.length_nil, Nat.reduceAdd, Nat.reduceLeDiff, Nat.zero_add, bin_add, bin_mul, bin_quo, bin_gtr, w64, if_true, if_false, Bool.false_eq_true, decide_false, Go.Eng.e2, true_and, q4, q3, h6, hr.idx hlt, hr.ld hz 1 1 false (by decide), e2]
        exact ⟨(i + 1, all / (Int.gcd all z.2 : Int) * z.2), ⟨hlt, by simp only; omega, he⟩, by simp [Has, rd_s], by simp only; omega⟩
    · have h5' : ¬ (Int.gcd z.1 z.2 : Int) = 1 := by omega
      simp (maxSteps := 4000000) -implicitDefEqProofs -dsimp (disch := omega) only [↓AW_ops, ↓AW_seq, ↓AW_cond, ↓AW_ret, ↓AOps_nil, ↓AOps_pu, ↓AOps_guard, on_some, extK_same, guardB_ff, condB_t, ↓then_normal, ↓then_ret, ↓inBlock_ret, ↓Fin_ret, pval, rd_S, rd_C, put_S, resV, resL, mk, List.foldl_cons, List.foldl_nil, List.replicate_succ, List.replicate_zero, List.set_cons_zero, List.set_cons_succ, List.getElem?_cons_zero, List.getElem?_cons_succ, Option.getD_some, bin_neq, if_false, Bool.false_eq_true, decide_true, not_false_eq_true, h5']
      exact bad (by rw [he, cm_bad (fun hh => h5 hh.2.2)])
  · have hlt' : ¬ ((i : Int) < rs.length) := by omega
    rw [List.drop_of_length_le (by omega)] at he
    simp (maxSteps := 4000000) -implicitDefEqProofs -dsimp (disch := omega) only [↓AW_ops, ↓AW_seq, ↓AW_cond, ↓AW_exit, ↓AW_ret, ↓AOps_nil, ↓AOps_pu, on_some, condB_f, ↓then_normal, ↓then_exit, ↓inBlock_exit, ↓Fin_ret, pval, rd_S, put_S, resV, resL, eq_self, mk, List.foldl_cons, List.foldl_nil, List.replicate_succ, List.replicate_zero, List.set_cons_zero, List.set_cons_succ, List.getElem?_cons_zero, List.getElem?_cons_succ, Option.getD_some, bin_lss, if_true, decide_false, hlt', hr.len]
    have he' : cm 1 rs = all := he
    exact gc_same (by rw [he'])
/-- The numbers of a list over a denominator. -/
def ov (den : Int) (rs : List (Int × Int)) : List Int := rs.map (fun r => r.1 * (den / r.2))
end
end Go.Proofs.Ytdcdjhhjlpegjaa

namespace Go.Proofs.Ytdcdjhhjlpegjaa
open Go Go.Eng
/-- selion/selionlaw03.ClaimOrders [] -/
def m3 : MFun := ⟨93, [1], [.mov (.s 2)],
 .seq (.ops [⟨(some 1), some (.junk), none, false, .pu (.bnew (.s 0))⟩,
   ⟨(some 2), some undefA, none, false, .pu (.mov (.c (.bool false)))⟩])
 (.seq (.seq (.ops [⟨(some 11), some undefA, none, false, .pu (.bget none 1 0 2 true)⟩,
   ⟨(some 12), some undefA, none, false, .call 15 [(.s 11)]⟩,
   ⟨(some 13), some undefA, none, false, .pu (.mov (.s 12))⟩,
   ⟨(some 14), some undefA, (some (13, false)), false, .pu (.badr none 1)⟩,
   ⟨(some 15), some undefA, (some (13, false)), false, .pu (.bget (some 14) 1 0 1 false)⟩,
   ⟨(some 16), some undefA, (some (13, false)), false, .pu (.badr none 1)⟩,
   ⟨(some 17), some undefA, (some (13, false)), false, .pu (.bget (some 16) 1 1 1 false)⟩,
   ⟨(some 18), some undefA, (some (13, false)), false, .call 16 [(.s 15), (.s 17)]⟩,
   ⟨(some 19), some undefA, (some (13, false)), false, .pu (.bin .neq (.s 18) (.c (.int .i64 0)))⟩,
   ⟨(some 20), some undefA, none, false, .pu (.pick (.s 13) (.c (.bool true)) (.s 19))⟩])
 (.cond (.s 20) (.seq (.ops [⟨(some 21), some undefA, none, false, .call 17 []⟩,
    ⟨(some 2), some undefA, none, false, .pu (.mov (.s 21))⟩])
  (.ret))
 (.skip)))
 (.seq (.ops [⟨(some 23), some undefA, none, false, .pu (.badr none 1)⟩,
   ⟨(some 24), some undefA, none, false, .pu (.bget (some 23) 1 0 1 false)⟩,
   ⟨(some 25), some undefA, none, false, .pu (.badr none 1)⟩,
   ⟨(some 26), some undefA, none, false, .pu (.bget (some 25) 1 1 1 false)⟩,
   ⟨(some 27), some undefA, none, false, .call 18 [(.s 24), (.s 26)]⟩,
   ⟨(some 22), some undefA, none, false, .pu (.mov (.s 27))⟩,
   ⟨(some 28), some undefA, none, false, .pu (.extr 0 (.s 22))⟩,
   ⟨(some 29), some undefA, none, false, .pu (.extr 1 (.s 22))⟩,
   ⟨(some 3), some undefA, none, false, .pu (.mov (.s 28))⟩,
   ⟨(some 4), some undefA, none, false, .pu (.mov (.s 29))⟩])
 (.seq (.ops [⟨(some 31), some undefA, none, false, .pu (.badr none 1)⟩,
   ⟨(some 32), some undefA, none, false, .pu (.bget (some 31) 1 0 1 false)⟩,
   ⟨(some 33), some undefA, none, false, .pu (.badr none 1)⟩,
   ⟨(some 34), some undefA, none, false, .pu (.bget (some 33) 1 1 1 false)⟩,
   ⟨(some 35), some undefA, none, false, .call 19 [(.s 32), (.s 34)]⟩,
   ⟨(some 30), some undefA, none, false, .pu (.mov (.s 35))⟩,
   ⟨(some 36), some undefA, none, false, .pu (.extr 0 (.s 30))⟩,
   ⟨(some 37), some undefA, none, false, .pu (.extr 1 (.s 30))⟩,
   ⟨(some 5), some undefA, none, false, .pu (.mov (.s 36))⟩,
   ⟨(some 6), some undefA, none, false, .pu (.mov (.s 37))⟩])
 (.seq (.ops [⟨(some 39), some undefA, none, false, .pu (.badr none 1)⟩,
   ⟨(some 40), some undefA, none, false, .pu (.bget (some 39) 1 0 1 false)⟩,
   ⟨(some 41), some undefA, none, false, .pu (.badr none 1)⟩,
   ⟨(some 42), some undefA, none, false, .pu (.bget (some 41) 1 1 1 false)⟩,
   ⟨(some 43), some undefA, none, false, .call 20 [(.s 40), (.s 42)]⟩,
   ⟨(some 38), some undefA, none, false, .pu (.mov (.s 43))⟩,
   ⟨(some 44), some undefA, none, false, .pu (.extr 0 (.s 38))⟩,
   ⟨(some 45), some undefA, none, false, .pu (.extr 1 (.s 38))⟩,
   ⟨(some 7), some undefA, none, false, .pu (.mov (.s 44))⟩,
   ⟨(some 8), some undefA, none, false, .pu (.mov (.s 45))⟩])
 (.seq (.ops [⟨(some 47), some undefA, none, false, .pu (.badr none 1)⟩,
   ⟨(some 48), some undefA, none, false, .pu (.bget (some 47) 1 0 1 false)⟩,
   ⟨(some 49), some undefA, none, false, .pu (.badr none 1)⟩,
   ⟨(some 50), some undefA, none, false, .pu (.bget (some 49) 1 1 1 false)⟩,
   ⟨(some 51), some undefA, none, false, .call 21 [(.s 48), (.s 50)]⟩,
   ⟨(some 46), some undefA, none, false, .pu (.mov (.s 51))⟩,
   ⟨(some 52), some undefA, none, false, .pu (.extr 0 (.s 46))⟩,
   ⟨(some 53), some undefA, none, false, .pu (.extr 1 (.s 46))⟩,
   ⟨(some 9), some undefA, none, false, .pu (.mov (.s 52))⟩,
   ⟨(some 10), some undefA, none, false, .pu (.mov (.s 53))⟩])
 (.seq (.seq (.ops [⟨(some 54), some undefA, none, false, .pu (.mov (.s 4))⟩,
   ⟨(some 55), some undefA, none, false, .pu (.bin .neq (.s 54) (.c (.int .i64 0)))⟩,
   ⟨(some 56), some undefA, none, false, .pu (.mov (.s 55))⟩,
   ⟨(some 57), some undefA, (some (56, false)), false, .pu (.mov (.s 6))⟩,
   ⟨(some 58), some undefA, (some (56, false)), false, .pu (.bin .neq (.s 57) (.c (.int .i64 0)))⟩,
   ⟨(some 59), some undefA, none, false, .pu (.pick (.s 56) (.c (.bool true)) (.s 58))⟩,
   ⟨(some 60), some undefA, none, false, .pu (.mov (.s 59))⟩,
   ⟨(some 61), some undefA, (some (60, false)), false, .pu (.mov (.s 8))⟩,
   ⟨(some 62), some undefA, (some (60, false)), false, .pu (.bin .neq (.s 61) (.c (.int .i64 0)))⟩,
   ⟨(some 63), some undefA, none, false, .pu (.pick (.s 60) (.c (.bool true)) (.s 62))⟩,
   ⟨(some 64), some undefA, none, false, .pu (.mov (.s 63))⟩,
   ⟨(some 65), some undefA, (some (64, false)), false, .pu (.mov (.s 10))⟩,
   ⟨(some 66), some undefA, (some (64, false)), false, .pu (.bin .neq (.s 65) (.c (.int .i64 0)))⟩,
   ⟨(some 67), some undefA, none, false, .pu (.pick (.s 64) (.c (.bool true)) (.s 66))⟩])
 (.cond (.s 67) (.seq (.ops [⟨(some 2), some undefA, none, false, .pu (.mov (.c (.bool false)))⟩])
  (.ret))
 (.skip)))
 (.seq (.ops [⟨(some 68), some undefA, none, false, .pu (.badr none 1)⟩,
   ⟨(some 69), some undefA, none, false, .pu (.bget (some 68) 1 0 1 false)⟩,
   ⟨(some 70), some undefA, none, false, .pu (.mov (.s 3))⟩,
   ⟨(some 71), some undefA, none, false, .call 22 [(.s 69), (.s 70)]⟩,
   ⟨(some 72), some undefA, none, false, .pu (.mov (.s 71))⟩,
   ⟨(some 73), some undefA, (some (72, true)), false, .pu (.badr none 1)⟩,
   ⟨(some 74), some undefA, (some (72, true)), false, .pu (.bget (some 73) 1 0 1 false)⟩,
   ⟨(some 75), some undefA, (some (72, true)), false, .pu (.mov (.s 5))⟩,
   ⟨(some 76), some undefA, (some (72, true)), false, .call 22 [(.s 74), (.s 75)]⟩,
   ⟨(some 77), some undefA, none, false, .pu (.pick (.s 72) (.s 76) (.c (.bool false)))⟩,
   ⟨(some 78), some undefA, none, false, .pu (.mov (.s 77))⟩,
   ⟨(some 79), some undefA, (some (78, true)), false, .pu (.badr none 1)⟩,
   ⟨(some 80), some undefA, (some (78, true)), false, .pu (.bget (some 79) 1 0 1 false)⟩,
   ⟨(some 81), some undefA, (some (78, true)), false, .pu (.mov (.s 7))⟩,
   ⟨(some 82), some undefA, (some (78, true)), false, .call 22 [(.s 80), (.s 81)]⟩,
   ⟨(some 83), some undefA, none, false, .pu (.pick (.s 78) (.s 82) (.c (.bool false)))⟩,
   ⟨(some 84), some undefA, none, false, .pu (.mov (.s 83))⟩,
   ⟨(some 85), some undefA, (some (84, true)), false, .pu (.badr none 1)⟩,
   ⟨(some 86), some undefA, (some (84, true)), false, .pu (.bget (some 85) 1 0 1 false)⟩,
   ⟨(some 87), some undefA, (some (84, true)), false, .pu (.mov (.s 9))⟩,
   ⟨(some 88), some undefA, (some (84, true)), false, .call 22 [(.s 86), (.s 87)]⟩,
   ⟨(some 89), some undefA, none, false, .pu (.pick (.s 84) (.s 88) (.c (.bool false)))⟩,
   ⟨(some 90), some undefA, none, false, .pu (.mov (.s 89))⟩,
   ⟨(some 91), some undefA, (some (90, true)), false, .call 17 []⟩,
   ⟨(some 92), some undefA, none, false, .pu (.pick (.s 90) (.s 91) (.c (.bool false)))⟩,
   ⟨(some 2), some undefA, none, false, .pu (.mov (.s 92))⟩])
 (.ret))))))))⟩
theorem t3 : trF Try.prog [1] [] Try.f3 = some m3 := by kernel_rfl
/-- selion/selionlaw03.ClaimPays [] -/
def m4 : MFun := ⟨58, [], [.mov (.s 6)],
 .seq (.ops [⟨(some 6), some undefA, none, false, .pu (.mov (.c (.bool false)))⟩])
 (.seq (.seq (.ops [⟨(some 11), some undefA, none, false, .pu (.mov (.s 0))⟩,
   ⟨(some 12), some undefA, none, false, .call 23 [(.s 11)]⟩,
   ⟨(some 13), some undefA, none, false, .pu (.mov (.s 12))⟩,
   ⟨(some 14), some undefA, (some (13, false)), false, .pu (.mov (.s 1))⟩,
   ⟨(some 15), some undefA, (some (13, false)), false, .call 23 [(.s 14)]⟩,
   ⟨(some 16), some undefA, none, false, .pu (.pick (.s 13) (.c (.bool true)) (.s 15))⟩])
 (.cond (.s 16) (.seq (.ops [⟨(some 17), some undefA, none, false, .call 17 []⟩,
    ⟨(some 6), some undefA, none, false, .pu (.mov (.s 17))⟩])
  (.ret))
 (.skip)))
 (.seq (.ops [⟨(some 19), some undefA, none, false, .pu (.mov (.s 0))⟩,
   ⟨(some 20), some undefA, none, false, .pu (.mov (.s 1))⟩,
   ⟨(some 21), some undefA, none, false, .pu (.mov (.s 2))⟩,
   ⟨(some 22), some undefA, none, false, .call 24 [(.s 19), (.s 20), (.s 21)]⟩,
   ⟨(some 18), some undefA, none, false, .pu (.mov (.s 22))⟩,
   ⟨(some 23), some undefA, none, false, .pu (.extr 0 (.s 18))⟩,
   ⟨(some 24), some undefA, none, false, .pu (.extr 1 (.s 18))⟩,
   ⟨(some 7), some undefA, none, false, .pu (.mov (.s 23))⟩,
   ⟨(some 8), some undefA, none, false, .pu (.mov (.s 24))⟩])
 (.seq (.ops [⟨(some 26), some undefA, none, false, .pu (.mov (.s 0))⟩,
   ⟨(some 27), some undefA, none, false, .pu (.mov (.s 1))⟩,
   ⟨(some 28), some undefA, none, false, .pu (.mov (.s 2))⟩,
   ⟨(some 29), some undefA, none, false, .call 25 [(.s 26), (.s 27), (.s 28)]⟩,
   ⟨(some 25), some undefA, none, false, .pu (.mov (.s 29))⟩,
   ⟨(some 30), some undefA, none, false, .pu (.extr 0 (.s 25))⟩,
   ⟨(some 31), some undefA, none, false, .pu (.extr 1 (.s 25))⟩,
   ⟨(some 9), some undefA, none, false, .pu (.mov (.s 30))⟩,
   ⟨(some 10), some undefA, none, false, .pu (.mov (.s 31))⟩])
 (.seq (.seq (.ops [⟨(some 32), some undefA, none, false, .pu (.mov (.s 7))⟩,
   ⟨(some 33), some undefA, none, false, .pu (.mov (.s 9))⟩,
   ⟨(some 34), some undefA, none, false, .call 26 [(.s 32), (.s 33)]⟩,
   ⟨(some 35), some undefA, none, false, .pu (.not (.s 34))⟩,
   ⟨(some 36), some undefA, none, false, .pu (.mov (.s 35))⟩,
   ⟨(some 37), some undefA, (some (36, false)), false, .pu (.mov (.s 8))⟩,
   ⟨(some 38), some undefA, (some (36, false)), false, .pu (.mov (.s 10))⟩,
   ⟨(some 39), some undefA, (some (36, false)), false, .pu (.bin .neq (.s 37) (.s 38))⟩,
   ⟨(some 40), some undefA, none, false, .pu (.pick (.s 36) (.c (.bool true)) (.s 39))⟩])
 (.cond (.s 40) (.seq (.ops [⟨(some 6), some undefA, none, false, .pu (.mov (.c (.bool false)))⟩])
  (.ret))
 (.skip)))
 (.seq (.ops [⟨(some 41), some undefA, none, false, .pu (.mov (.s 8))⟩,
   ⟨(some 42), some undefA, none, false, .pu (.bin .neq (.s 41) (.c (.int .i64 0)))⟩,
   ⟨(some 43), some undefA, none, false, .pu (.mov (.s 42))⟩,
   ⟨(some 44), some undefA, (some (43, false)), false, .pu (.mov (.s 7))⟩,
   ⟨(some 45), some undefA, (some (43, false)), false, .call 27 [(.s 44)]⟩,
   ⟨(some 46), some undefA, (some (43, false)), false, .pu (.mov (.s 0))⟩,
   ⟨(some 47), some undefA, (some (43, false)), false, .call 27 [(.s 46)]⟩,
   ⟨(some 48), some undefA, (some (43, false)), false, .pu (.mov (.s 1))⟩,
   ⟨(some 49), some undefA, (some (43, false)), false, .call 27 [(.s 48)]⟩,
   ⟨(some 50), some undefA, (some (43, false)), false, .pu (.bin .sub (.s 47) (.s 49))⟩,
   ⟨(some 51), some undefA, (some (43, false)), false, .pu (.mov (.s 2))⟩,
   ⟨(some 52), some undefA, (some (43, false)), false, .pu (.bin .mul (.s 50) (.s 51))⟩,
   ⟨(some 53), some undefA, (some (43, false)), false, .pu (.bin .eql (.s 45) (.s 52))⟩,
   ⟨(some 54), some undefA, none, false, .pu (.pick (.s 43) (.c (.bool true)) (.s 53))⟩,
   ⟨(some 55), some undefA, none, false, .pu (.mov (.s 54))⟩,
   ⟨(some 56), some undefA, (some (55, true)), false, .call 17 []⟩,
   ⟨(some 57), some undefA, none, false, .pu (.pick (.s 55) (.s 56) (.c (.bool false)))⟩,
   ⟨(some 6), some undefA, none, false, .pu (.mov (.s 57))⟩])
 (.ret))))))⟩
end Go.Proofs.Ytdcdjhhjlpegjaa

namespace Go.Proofs.Ytdcdjhhjlpegjaa
open Go Go.Eng
theorem lc_dvd {a d : Int} : a ∣ a / (Int.gcd a d : Int) * d ∧ d ∣ a / (Int.gcd a d : Int) * d := by
  refine ⟨?_, Int.dvd_mul_left _ _⟩
  obtain ⟨k, hk⟩ := Int.gcd_dvd_right a d
  obtain ⟨m, hm⟩ := Int.gcd_dvd_left a d
  generalize hg : (Int.gcd a d : Int) = g at *
  by_cases h0 : g = 0
  · subst h0
    have h1 : a = 0 := by rw [hm, Int.zero_mul]
    have h2 : d = 0 := by rw [hk, Int.zero_mul]
    rw [h1, h2]; simp
  · have : a / g = m := by rw [hm, Int.mul_ediv_cancel_left _ h0]
    rw [this]
    exact ⟨k, by rw [hm, hk]; rw [Int.mul_comm g m, Int.mul_assoc]⟩
theorem lcm_facts {out d : Int} (h0 : 0 < out) (hd : 0 < d) : 0 < out / (Int.gcd out d : Int) * d ∧ out ∣ out / (Int.gcd out d : Int) * d ∧ d ∣ out / (Int.gcd out d : Int) * d ∧ ∀ D, out ∣ D → d ∣ D → out / (Int.gcd out d : Int) * d ∣ D := by
  obtain ⟨_, q2, _⟩ := gcd_div h0 hd
  obtain ⟨g1, g2⟩ := gcd_pos (a := out) hd
  refine ⟨Int.mul_pos q2 hd, ?_, Int.dvd_mul_left _ _, fun D h1 h2 => ?_⟩
  · obtain ⟨x, hx⟩ := Int.gcd_dvd_left out d
    obtain ⟨y, hy⟩ := Int.gcd_dvd_right out d
    generalize (Int.gcd out d : Nat) = g at *
    refine ⟨y, ?_⟩
    rw [hx, Int.mul_ediv_cancel_left _ (by omega)]
    rw [hy]
    rw [← Int.mul_assoc, Int.mul_comm x]
  · obtain ⟨z, hz⟩ := h1
    have hgd := Int.gcd_dvd_left out d
    have hl : out / (Int.gcd out d : Int) * d = (Int.lcm out d : Int) := by
      have e1 : (Int.gcd out d : Int) * (Int.lcm out d : Int) = (out * d) := by
        have := Int.gcd_mul_lcm out d
        have h3 : ((Int.gcd out d * Int.lcm out d : Nat) : Int) = ((out * d).natAbs : Int) := by rw [this, Int.natAbs_mul]
        rw [Int.natCast_mul] at h3
        rw [h3, Int.natAbs_of_nonneg (Int.le_of_lt (Int.mul_pos h0 hd))]
      obtain ⟨x, hx⟩ := hgd
      have hg0 : (Int.gcd out d : Int) ≠ 0 := by omega
      have e2 : out / (Int.gcd out d : Int) = x := by
        conv => lhs; lhs; rw [hx]
        exact Int.mul_ediv_cancel_left _ hg0
      rw [e2]
      have e3 : (Int.gcd out d : Int) * (Int.lcm out d : Int) = (Int.gcd out d : Int) * (x * d) := by
        rw [e1, ← Int.mul_assoc, ← hx]
      exact (Int.eq_of_mul_eq_mul_left hg0 e3).symm
    rw [hl]
    exact Int.coe_lcm_dvd ⟨z, hz⟩ h2
/-- The least common multiple divides every common multiple. -/
theorem lc_min {a d E : Int} (h0 : 0 < a) (ha : a ∣ E) (hd : d ∣ E) (hd0 : 0 < d) : a / (Int.gcd a d : Int) * d ∣ E := (lcm_facts h0 hd0).2.2.2 E ha hd
theorem cm_facts : ∀ (rs : List (Int × Int)) (a : Int), 1 ≤ a ∧ a ≤ 10000 → ¬ cm a rs = 0 → (∀ r ∈ rs, fitR r ∧ r.2 ∣ cm a rs) ∧ a ∣ cm a rs ∧ 1 ≤ cm a rs ∧ cm a rs ≤ 10000
  | [], a, ha, _ => ⟨by simp, Int.dvd_refl _, ha⟩
  | r :: rs, a, ha, h => by
    by_cases hf : fitR r
    · rw [cm_go hf] at h ⊢
      split at h
      · exact absurd rfl h
      · rename_i h6
        rw [if_neg h6]
        obtain ⟨q1, q2, q3, q4, q5, q6⟩ := lc_pos ha hf.1
        obtain ⟨k1, k2, k3⟩ := cm_facts rs (a / (Int.gcd a r.2 : Int) * r.2) ⟨q1, by omega⟩ h
        obtain ⟨d1, d2⟩ := lc_dvd (a := a) (d := r.2)
        refine ⟨fun x hx => ?_, Int.dvd_trans d1 k2, k3⟩
        rcases List.mem_cons.1 hx with rfl | hx
        · exact ⟨hf, Int.dvd_trans d2 k2⟩
        · exact k1 x hx
    · rw [cm_bad hf] at h
      exact absurd rfl h
/-- A list whose denominators divide a number that is not too great is fit. -/
theorem cm_ok {E : Int} (hE : 1 ≤ E ∧ E ≤ 10000) : ∀ (rs : List (Int × Int)) (a : Int), 1 ≤ a → a ∣ E → (∀ r ∈ rs, fitR r ∧ r.2 ∣ E) → ¬ cm a rs = 0 ∧ cm a rs ∣ E
  | [], a, ha, hd, _ => ⟨by show ¬ a = 0; omega, hd⟩
  | r :: rs, a, ha, hd, h => by
    obtain ⟨hf, hr⟩ := h r (by simp)
    have hr0 := hf.1
    have hl := lc_min (by omega) hd hr (by omega)
    have hle := Int.le_of_dvd (by omega) hl
    have haE := Int.le_of_dvd (by omega) hd
    obtain ⟨q1, q2, q3, q4, q5, q6⟩ := lc_pos (a := a) ⟨ha, by omega⟩ hf.1
    rw [cm_go hf, if_neg (by omega)]
    exact cm_ok hE rs _ q1 hl (fun x hx => h x (by simp [hx]))
/-- Some award is more than the claim. -/
def ovr (den : Int) (cs ls : List Int) : Bool := (cs.zip ls).any (fun z => decide (z.1 * den < z.2))
/-- The first error of awards. -/
def chE (cs : List Int) (e : Int) (rs : List (Int × Int)) : Int :=
  if vE cs e = 0 then (if ¬ cm 1 rs = 0 ∧ rs.length = cs.length then (if ovr (cm 1 rs) cs (ov (cm 1 rs) rs) = true then 8 else if (ov (cm 1 rs) rs).sum = e * cm 1 rs then 0 else 7) else 1) else vE cs e
theorem chE_v {cs : List Int} {e : Int} {rs : List (Int × Int)} (h : ¬ vE cs e = 0) : chE cs e rs = vE cs e := by unfold chE; rw [if_neg h]
theorem chE_1 {cs : List Int} {e : Int} {rs : List (Int × Int)} (h : vE cs e = 0) (h2 : ¬ (¬ cm 1 rs = 0 ∧ rs.length = cs.length)) : chE cs e rs = 1 := by unfold chE; rw [if_pos h, if_neg h2]
theorem chE_8 {cs : List Int} {e : Int} {rs : List (Int × Int)} (h : vE cs e = 0) (h2 : ¬ cm 1 rs = 0 ∧ rs.length = cs.length) (h3 : ovr (cm 1 rs) cs (ov (cm 1 rs) rs) = true) : chE cs e rs = 8 := by unfold chE; rw [if_pos h, if_pos h2, if_pos h3]
theorem chE_e {cs : List Int} {e : Int} {rs : List (Int × Int)} (h : vE cs e = 0) (h2 : ¬ cm 1 rs = 0 ∧ rs.length = cs.length) (h3 : ovr (cm 1 rs) cs (ov (cm 1 rs) rs) = false) : chE cs e rs = if (ov (cm 1 rs) rs).sum = e * cm 1 rs then 0 else 7 := by
  unfold chE; rw [if_pos h, if_pos h2, if_neg (by rw [h3]; decide)]
theorem chE_0 {cs : List Int} {e : Int} {rs : List (Int × Int)} : chE cs e rs = 0 ↔ CE cs e ∧ ¬ cm 1 rs = 0 ∧ rs.length = cs.length ∧ ovr (cm 1 rs) cs (ov (cm 1 rs) rs) = false ∧ (ov (cm 1 rs) rs).sum = e * cm 1 rs := by
  rw [← vE_0]
  constructor
  · intro h
    by_cases h0 : vE cs e = 0
    · by_cases h2 : ¬ cm 1 rs = 0 ∧ rs.length = cs.length
      · cases h3 : ovr (cm 1 rs) cs (ov (cm 1 rs) rs) with
        | true => rw [chE_8 h0 h2 h3] at h; cases h
        | false =>
          rw [chE_e h0 h2 h3] at h
          split at h
          · rename_i h4; exact ⟨h0, h2.1, h2.2, rfl, h4⟩
          · cases h
      · rw [chE_1 h0 h2] at h; cases h
    · rw [chE_v h0] at h; exact absurd h h0
  · rintro ⟨h0, h1, h2, h3, h4⟩
    rw [chE_e h0 ⟨h1, h2⟩ h3, if_pos h4]
section
variable {cs : List Int} {rs : List (Int × Int)} {v u : AV} {A : AHeap} {e : Int}
def rp (q : Rat) : Int × Int := (q.num, q.den)
theorem e2_rp (q : Rat) : e2 (rp q) = [I q.num, I (q.den : Int)] := rfl
/-- What is lost of a claim. -/
def lsq (c : Int) (r : Int × Int) : Rat := ((c * r.2 - r.1 : Int) : Rat) / ((r.2 : Int) : Rat)
def lsL (cs : List Int) (rs : List (Int × Int)) : List Rat := (cs.zip rs).map (fun z => lsq z.1 z.2)
theorem lsL_len {cs : List Int} {rs : List (Int × Int)} (h : rs.length = cs.length) : ((lsL cs rs).map rp).length = cs.length := by
  unfold lsL
  rw [List.length_map, List.length_map, List.length_zip, h, Nat.min_self]
theorem lsL_take {cs : List Int} {rs : List (Int × Int)} {i : Nat} {c : Int} {r : Int × Int} (hc : cs[i]? = some c) (hr : rs[i]? = some r) : ((lsL cs rs).map rp).take (i + 1) = ((lsL cs rs).map rp).take i ++ [rp (lsq c r)] := by
  unfold lsL
  rw [List.take_add_one, List.getElem?_map, List.getElem?_map]
  have : (cs.zip rs)[i]? = some (c, r) := by rw [List.getElem?_zip_eq_some]; exact ⟨hc, hr⟩
  rw [this]
  rfl
/-- Bounds with which nothing overflows. -/
def bdR (r : Int × Int) : Prop := (1 ≤ r.2 ∧ r.2 ≤ 1000000) ∧ (0 ≤ r.1 ∧ r.1 ≤ 1000000000000)
theorem s75 (hx : L1 A v cs) (hr : L2 A u rs) (hok : OK cs) (h2 : rs.length = cs.length) (hb : ∀ r ∈ rs, bdR r) : ACalls Try.prog 75 [v, u] A (outV 2 A ((lsL cs rs).map rp).length) (outH A (((lsL cs rs).map rp).flatMap e2) ((lsL cs rs).map rp).length) := by
  refine acalls hmix Try.func75 (by kernel_rfl) t75 2 rfl (by decide) ?_
  have hlen := lsL_len h2
  have hl8 := hok.l8
  dsimp only [m75]
  simp (maxSteps := 4000000) -implicitDefEqProofs -dsimp (disch := omega) only [↓AW_ops, ↓AW_seq, ↓AW_block, ↓AOps_nil, ↓AOps_pu, on_some, ↓then_normal, pval, rd_S, rd_C, put_S, ↓AW_toLoop, List.replicate_succ, List.replicate_zero, List.set_cons_zero, List.set_cons_succ, List.getElem?_cons_zero, List.getElem?_cons_succ, Option.getD_some, Nat.reduceSub, List.cons_append, List.nil_append, hx.len]
  refine LoopK.by 39 (fun x : Nat × AV × AHeap => x.1 ≤ cs.length ∧ AccL 2 e2 A x.2.2 x.2.1 (((lsL cs rs).map rp).take x.1)) (fun x => [(1, u), (5, x.2.1), (8, v), (9, I cs.length), (10, I x.1)]) (fun x => x.2.2) (fun x => cs.length - x.1) (0, .nilS, A) ⟨by simp only; omega, AccL.nil (List.prefix_refl _)⟩ rfl (by simp [Has, rd_s]) rfl ?_
  rintro ⟨i, w, A1⟩ ⟨hi, hu⟩
  simp only at hi hu
  have hx1 := hx.mono hu.pre
  have hr1 := hr.mono hu.pre
  by_cases hlt : i < cs.length
  · obtain ⟨z, hz⟩ : ∃ z, cs[i]? = some z := ⟨_, List.getElem?_eq_getElem hlt⟩
    have hlt' : (i : Int) < cs.length := by omega
    have hlt2 : i < rs.length := by omega
    obtain ⟨r, hr2⟩ : ∃ r, rs[i]? = some r := ⟨_, List.getElem?_eq_getElem hlt2⟩
    have hzc := hok.c z (List.mem_of_getElem? hz)
    obtain ⟨b1, b2⟩ := hb r (List.mem_of_getElem? hr2)
    have m1 := Int.mul_le_mul hzc.2 b1.2 (by omega) (by omega : (0 : Int) ≤ 1000)
    have m2 := Int.mul_nonneg hzc.1 (show 0 ≤ r.2 by omega)
    obtain ⟨u3, A3, happ, hu3⟩ := hu.push e2_len (rp (lsq z r)) (by rw [List.length_take]; simp [lim]; omega)
    rw [← lsL_take hz hr2] at hu3
    simp only [e2_rp] at happ
    simp (maxSteps := 4000000) -implicitDefEqProofs -dsimp (disch := omega) only [↓AW_skip, ↓AW_ops, ↓AW_seq, ↓AW_cond, ↓AW_block, ↓AOps_nil, ↓AOps_pu, ↓AOps_ld, ↓AOps_call, on_some, condB_t, ↓then_normal, pval, lval, rd_S, put_S, partA, eq_self, mk, List.foldl_cons, List.foldl_nil, List.replicate_succ, List.replicate_zero, List.set_cons_zero, List.set_cons_succ, List.getElem?_cons_zero, List.getElem?_cons_succ, List.drop_zero, List.drop_succ_cons, List.take_zero, List.take_succ_cons, List.take_nil, Option.getD_some, map_c, map_n, List.length_cons, List.length_nil, Nat.reduceAdd, Nat.reduceLeDiff, Nat.zero_add, Nat.add_zero, bin_sub, bin_mul, bin_lss, w64, if_true, if_false, Bool.false_eq_true, decide_true, Go.Eng.e1, Go.Eng.e2, hlt', hx1.idx hlt, hx1.ld0 hz 1 false (by decide), hr1.idx hlt2, hr1.ld0 hr2 1 false (by decide), hr1.ld hr2 1 1 false (by decide), e2]
    refine CallK.of (s61 (a := z * r.2 - r.1) (b := r.2) _ ⟨by omega, by omega⟩ (by omega) (by omega)) ?_
    have hls : (((z * r.2 - r.1 : Int) : Rat) / ((r.2 : Int) : Rat)) = lsq z r := rfl
    simp (maxSteps := 4000000) -implicitDefEqProofs -dsimp (disch := omega) only [↓AW_ops, ↓AOps_nil, ↓AOps_pu, ↓AOps_ha, on_some, extK_false, extK_app, extK_same, ↓then_normal, ↓inBlock_normal, pval, hval, rd_S, rd_C, put_S, AV.cells?, splice, fillA, repl, eq_self, mk, List.foldl_cons, List.foldl_nil, List.replicate_succ, List.replicate_zero, List.set_cons_zero, List.set_cons_succ, List.getElem?_cons_zero, List.getElem?_cons_succ, List.drop_succ_cons, List.drop_nil, List.take_zero, Option.getD_some, map_c, map_n, List.length_cons, List.length_nil, Nat.reduceAdd, Nat.reduceLeDiff, Nat.zero_add, List.nil_append, List.append_nil, bin_add, w64, if_true, true_and, and_true, hls, R, happ]
    exact ⟨(i + 1, u3, A3), ⟨hlt, hu3⟩, by simp [Has, rd_s], rfl, by simp only; omega⟩
  · have hlt' : ¬ ((i : Int) < cs.length) := by omega
    simp (maxSteps := 4000000) -implicitDefEqProofs -dsimp (disch := omega) only [↓AW_ops, ↓AW_seq, ↓AW_cond, ↓AW_exit, ↓AW_ret, ↓AOps_nil, ↓AOps_pu, on_some, condB_f, ↓then_normal, ↓then_exit, ↓inBlock_exit, ↓Fin_ret, pval, rd_S, put_S, resV, resL, eq_self, mk, List.foldl_cons, List.foldl_nil, List.replicate_succ, List.replicate_zero, List.set_cons_zero, List.set_cons_succ, List.getElem?_cons_zero, List.getElem?_cons_succ, Option.getD_some, bin_lss, if_true, decide_false, hlt']
    rw [List.take_of_length_le (by omega)] at hu
    exact hu.gc flat_e2
theorem s15 (hx : L1 A v cs) : ACalls Try.prog 15 [.agg [v, I e]] A (B (decide ((40 : Int) < cs.length))) A := by
  refine acalls hmix Try.func15 (by kernel_rfl) t15 1 rfl (by decide) ?_
  dsimp only [m15]
  simp (maxSteps := 4000000) -implicitDefEqProofs -dsimp (disch := omega) only [↓AW_ops, ↓AW_seq, ↓AW_ret, ↓AOps_nil, ↓AOps_pu, on_some, ↓then_normal, ↓Fin_ret, pval, rd_S, rd_C, put_S, resV, resL, chkd, isAdr, bgot, AV.cells?, partA, eq_self, List.replicate_succ, List.replicate_zero, List.set_cons_zero, List.set_cons_succ, List.getElem?_cons_zero, List.getElem?_cons_succ, List.drop_zero, List.take_zero, List.take_succ_cons, Option.getD_some, List.length_cons, List.length_nil, Nat.reduceAdd, Nat.reduceSub, Nat.reduceLeDiff, Nat.zero_add, List.cons_append, List.nil_append, bin_gtr, if_true, if_false, Bool.false_eq_true, hx.len]
  exact gc_same rfl
end
end Go.Proofs.Ytdcdjhhjlpegjaa

namespace Go.Proofs.Ytdcdjhhjlpegjaa
open Go Go.Eng
theorem AccL_out {α : Type} {es : Nat} {e : α → List AV} {A H : AHeap} (hp : A <+: H) (he : ∀ x, (e x).length = es) (xs : List α) : AccL es e A (outH H (xs.flatMap e) xs.length) (outV es H xs.length) xs := by
  refine ⟨hp.trans (pre_out _ _ _), flatMap_length he xs, ?_⟩
  unfold outV outH
  by_cases h : xs.length = 0
  · rw [if_pos h, if_pos h]; exact .inl ⟨h, rfl⟩
  · rw [if_neg h, if_neg h]
    exact .inr ⟨by omega, H.length, rfl, hp.length_le, by simp⟩
theorem int0 : ((0 : Int) : Rat) = 0 := rfl
theorem int1 : ((1 : Int) : Rat) = 1 := rfl
theorem cast_nonneg {n : Int} (h : 0 ≤ n) : (0 : Rat) ≤ (n : Rat) := by rw [← int0]; exact Rat.intCast_le_intCast.2 h
theorem cast_pos {n : Int} (h : 0 < n) : (0 : Rat) < (n : Rat) := by rw [← int0]; exact Rat.intCast_lt_intCast.2 h
theorem cast_ne {n : Int} (h : n ≠ 0) : (n : Rat) ≠ 0 := by
  intro e
  rw [← int0] at e
  exact h (Rat.intCast_inj.1 e)
theorem div_den {n d : Int} (hd : 0 < d) : (((n : Rat) / (d : Rat)).den : Int) ∣ d := by
  have h := nrm_R n d hd
  unfold nrm at h
  have h2 : AV.agg [I (n.tdiv (Int.gcd n d)), I (d.tdiv (Int.gcd n d))] = R ((n : Rat) / (d : Rat)) := h
  injection h2 with h3
  injection h3 with h4 h5
  injection h5 with h6 h7
  injection h6 with _ h8
  rw [← h8, tdiv_eq (Int.gcd_dvd_right n d)]
  exact ⟨(Int.gcd n d : Int), (Int.ediv_mul_cancel (Int.gcd_dvd_right n d)).symm⟩
theorem ovq {q : Rat} {D : Int} (h : (q.den : Int) ∣ D) : ((q.num * (D / q.den) : Int) : Rat) = q * (D : Rat) := by
  obtain ⟨k, hk⟩ := h
  have hd := den_pos q
  have e := R_self q
  rw [hk, Int.mul_ediv_cancel_left _ (by omega), Rat.intCast_mul, Rat.intCast_mul]
  have hne := cast_ne (show (q.den : Int) ≠ 0 by omega)
  conv => rhs; lhs; rw [e]
  generalize ((q.num : Int) : Rat) = n at *
  generalize ((q.den : Int) : Rat) = d at *
  generalize (k : Rat) = k' at *
  have h1 : n / d * d = n := Rat.div_mul_cancel hne
  rw [← Rat.mul_assoc, h1]
theorem ov_rp (D : Int) (qs : List Rat) : ov D (qs.map rp) = qs.map (fun q => q.num * (D / q.den)) := by
  unfold ov
  rw [List.map_map]
  rfl
theorem ov_sum {D : Int} : ∀ {qs : List Rat}, (∀ q ∈ qs, (q.den : Int) ∣ D) → (((ov D (qs.map rp)).sum : Int) : Rat) = qs.sum * (D : Rat)
  | [], _ => by simp only [ov, List.map_nil, List.sum_nil, Rat.zero_mul]; rfl
  | q :: qs, h => by
    have ih := ov_sum (D := D) (qs := qs) (fun x hx => h x (by simp [hx]))
    rw [ov_rp] at ih ⊢
    rw [List.map_cons, List.sum_cons, List.sum_cons, Rat.intCast_add, ih, ovq (h q (by simp)), Rat.add_mul]
theorem rat_le_of_mul {a b c : Rat} (hc : 0 < c) (h : a * c ≤ b * c) : a ≤ b := Rat.le_of_mul_le_mul_right h hc
theorem fit_rp {q : Rat} {E : Int} (hE : 1 ≤ E ∧ E ≤ 10000) (hd : (q.den : Int) ∣ E) (h0 : 0 ≤ q) (h1 : q ≤ ((1000 : Int) : Rat)) : fitR (rp q) := by
  have hdp := den_pos q
  have hle := Int.le_of_dvd (by omega) hd
  have hne := cast_pos hdp
  have e := R_self q
  have hn : ((q.num : Int) : Rat) = q * ((q.den : Int) : Rat) := by
    conv => rhs; lhs; rw [e]
    exact (Rat.div_mul_cancel (Ne.symm (Rat.ne_of_lt hne))).symm
  have n0 : 0 ≤ q.num := by
    refine Rat.intCast_le_intCast.1 ?_
    rw [hn, int0]
    exact Rat.mul_nonneg h0 (Rat.le_of_lt hne)
  have n1 : q.num ≤ 1000 * (q.den : Int) := by
    refine Rat.intCast_le_intCast.1 ?_
    rw [hn, Rat.intCast_mul]
    exact Rat.mul_le_mul_of_nonneg_right h1 (Rat.le_of_lt hne)
  refine ⟨⟨by show 1 ≤ (q.den : Int); omega, by show (q.den : Int) ≤ 10000; omega⟩, ⟨n0, ?_⟩, ?_⟩
  · show q.num ≤ 10000000
    omega
  · show Int.gcd q.num (q.den : Int) = 1
    unfold Int.gcd
    rw [Int.natAbs_natCast]
    exact q.reduced
/-- Awards that are accepted. -/
theorem chE_ok {cs : List Int} {e : Int} (hc : CE cs e) {qs : List Rat} {E : Int} (hE : 1 ≤ E ∧ E ≤ 10000) (hl : qs.length = cs.length) (hq : ∀ q ∈ qs, (q.den : Int) ∣ E ∧ 0 ≤ q)
    (hz : ∀ z ∈ cs.zip qs, z.2 ≤ (z.1 : Rat)) (hs : qs.sum = (e : Rat)) : chE cs e (qs.map rp) = 0 := by
  have hq1 : ∀ q ∈ qs, q ≤ ((1000 : Int) : Rat) := by
    intro q hqm
    obtain ⟨i, hi, rfl⟩ := List.mem_iff_getElem.1 hqm
    have hi2 : i < cs.length := by omega
    have hmem : (cs[i], qs[i]) ∈ cs.zip qs := by
      refine List.mem_of_getElem? (i := i) ?_
      rw [List.getElem?_zip_eq_some]
      exact ⟨List.getElem?_eq_getElem hi2, List.getElem?_eq_getElem hi⟩
    have h1 := hz _ hmem
    have h2 := (hc.ok.c _ (List.getElem_mem hi2)).2
    exact Rat.le_trans h1 (Rat.intCast_le_intCast.2 h2)
  have hfit : ∀ r ∈ qs.map rp, fitR r ∧ r.2 ∣ E := by
    intro r hr
    obtain ⟨q, hqm, rfl⟩ := List.mem_map.1 hr
    obtain ⟨a, b⟩ := hq q hqm
    exact ⟨fit_rp hE a b (hq1 q hqm), a⟩
  obtain ⟨hne, _⟩ := cm_ok hE (qs.map rp) 1 (by omega) (Int.one_dvd _) hfit
  obtain ⟨hf, _, hc1, hc2⟩ := cm_facts (qs.map rp) 1 (by omega) hne
  have hdv : ∀ q ∈ qs, (q.den : Int) ∣ cm 1 (qs.map rp) := fun q hqm => (hf (rp q) (List.mem_map_of_mem hqm)).2
  refine chE_0.2 ⟨hc, hne, by simp [hl], ?_, ?_⟩
  · generalize cm 1 (qs.map rp) = D at *
    have hD := cast_pos (show 0 < D by omega)
    rw [← Bool.not_eq_true]
    intro ha
    unfold ovr at ha
    rw [ov_rp, List.zip_map_right, List.any_map, List.any_eq_true] at ha
    obtain ⟨z, hzm, hlt⟩ := ha
    have hlt : z.1 * D < z.2.num * (D / z.2.den) := by simpa using hlt
    have h1 := Rat.intCast_lt_intCast.2 hlt
    rw [ovq (hdv z.2 (List.of_mem_zip hzm).2), Rat.intCast_mul] at h1
    have h2 := Rat.mul_le_mul_of_nonneg_right (hz z hzm) (Rat.le_of_lt hD)
    exact absurd h1 (Rat.not_lt.2 h2)
  · refine Rat.intCast_inj.1 ?_
    rw [ov_sum hdv, hs, Rat.intCast_mul]
/-- The awards by parts. -/
def pts (cs : List Int) (e : Int) : List Rat := cs.map (fun c => ((c * e : Int) : Rat) / ((max 1 cs.sum : Int) : Rat))
theorem pts_len (cs : List Int) (e : Int) : ((pts cs e).map rp).length = cs.length := by simp [pts]
theorem pts_take {cs : List Int} {e : Int} {i : Nat} {c : Int} (h : cs[i]? = some c) : ((pts cs e).map rp).take (i + 1) = ((pts cs e).map rp).take i ++ [rp (((c * e : Int) : Rat) / ((max 1 cs.sum : Int) : Rat))] := by
  unfold pts
  rw [List.take_add_one, List.getElem?_map, List.getElem?_map, h]
  rfl
theorem sum_map_div (d : Rat) (e : Int) : ∀ cs : List Int, (cs.map (fun c => ((c * e : Int) : Rat) / d)).sum = ((cs.sum * e : Int) : Rat) / d
  | [] => by simp only [List.map_nil, List.sum_nil, Int.zero_mul]; rw [int0, Rat.div_def, Rat.zero_mul]
  | c :: cs => by
    rw [List.map_cons, List.sum_cons, List.sum_cons, sum_map_div d e cs, Int.add_mul, Rat.intCast_add, Rat.div_def, Rat.div_def, Rat.div_def, Rat.add_mul]
theorem div_le {a b : Int} {d : Rat} (hd : 0 < d) (h : (a : Rat) ≤ (b : Rat) * d) : (a : Rat) / d ≤ (b : Rat) := by
  refine rat_le_of_mul hd ?_
  rw [Rat.div_mul_cancel (Ne.symm (Rat.ne_of_lt hd))]
  exact h
theorem div_ge0 {a d : Rat} (hd : 0 < d) (h : 0 ≤ a) : 0 ≤ a / d := by
  refine rat_le_of_mul hd ?_
  rw [Rat.div_mul_cancel (Ne.symm (Rat.ne_of_lt hd)), Rat.zero_mul]
  exact h
theorem zip_self {α β : Type} (f : α → β) : ∀ cs : List α, cs.zip (cs.map f) = cs.map (fun c => (c, f c))
  | [] => rfl
  | c :: cs => by rw [List.map_cons, List.zip_cons_cons, zip_self f cs, List.map_cons]
theorem pts_ok {cs : List Int} {e : Int} (hc : CE cs e) : chE cs e ((pts cs e).map rp) = 0 := by
  have hs := hc.ok.sum
  have he0 := hc.e0
  have he1 := hc.e1
  have hT : 0 < max 1 cs.sum := by omega
  have hTr := cast_pos hT
  refine chE_ok hc (E := max 1 cs.sum) (by omega) (by simp [pts]) (fun q hq => ?_) (fun z hz => ?_) ?_
  · obtain ⟨c, hcm, rfl⟩ := List.mem_map.1 hq
    exact ⟨div_den hT, div_ge0 hTr (cast_nonneg (Int.mul_nonneg (hc.ok.c c hcm).1 he0))⟩
  · unfold pts at hz
    rw [zip_self] at hz
    obtain ⟨c, hcm, rfl⟩ := List.mem_map.1 hz
    refine div_le hTr ?_
    rw [← Rat.intCast_mul]
    refine Rat.intCast_le_intCast.2 ?_
    exact Int.mul_le_mul_of_nonneg_left (by omega) (hc.ok.c c hcm).1
  · unfold pts
    rw [sum_map_div]
    by_cases h0 : cs.sum = 0
    · have : e = 0 := by omega
      subst this
      rw [Int.mul_zero, int0, Rat.div_def, Rat.zero_mul]
    · have : max 1 cs.sum = cs.sum := by omega
      rw [this, Rat.intCast_mul]
      have hne := cast_ne h0
      generalize (cs.sum : Rat) = T at *
      generalize (e : Rat) = e' at *
      rw [Rat.div_def, Rat.mul_comm T e', Rat.mul_assoc, Rat.mul_inv_cancel _ hne, Rat.mul_one]
section
variable {cs : List Int} {v : AV} {A : AHeap} {e : Int}
theorem s90 (hx : L1 A v cs) (hc : CE cs e) : ACalls Try.prog 90 [v, I e] A (outV 2 A ((pts cs e).map rp).length) (outH A (((pts cs e).map rp).flatMap e2) ((pts cs e).map rp).length) := by
  refine acalls hmix Try.func90 (by kernel_rfl) t90 2 rfl (by decide) ?_
  have hlen := pts_len cs e
  have hl8 := hc.ok.l8
  have hs := hc.ok.sum
  have he0 := hc.e0
  have he1 := hc.e1
  dsimp only [m90]
  simp (maxSteps := 4000000) -implicitDefEqProofs -dsimp (disch := omega) only [↓AW_ops, ↓AW_seq, ↓AW_block, ↓AOps_nil, ↓AOps_pu, on_some, ↓then_normal, pval, rd_S, rd_C, put_S, ↓AW_toLoop, List.replicate_succ, List.replicate_zero, List.set_cons_zero, List.set_cons_succ, List.getElem?_cons_zero, List.getElem?_cons_succ, Option.getD_some, Nat.reduceSub, List.cons_append, List.nil_append, hx.len]
  refine LoopK.by 26 (fun x : Nat × AV × AHeap => x.1 ≤ cs.length ∧ AccL 2 e2 A x.2.2 x.2.1 (((pts cs e).map rp).take x.1)) (fun x => [(0, v), (1, I e), (5, x.2.1), (8, v), (9, I cs.length), (10, I x.1)]) (fun x => x.2.2) (fun x => cs.length - x.1) (0, .nilS, A) ⟨by simp only; omega, AccL.nil (List.prefix_refl _)⟩ rfl (by simp [Has, rd_s]) rfl ?_
  rintro ⟨i, w, A1⟩ ⟨hi, hu⟩
  simp only at hi hu
  have hx1 := hx.mono hu.pre
  by_cases hlt : i < cs.length
  · obtain ⟨z, hz⟩ : ∃ z, cs[i]? = some z := ⟨_, List.getElem?_eq_getElem hlt⟩
    have hlt' : (i : Int) < cs.length := by omega
    have hzc := hc.ok.c z (List.mem_of_getElem? hz)
    have m1 := Int.mul_le_mul hzc.2 (show e ≤ 8000 by omega) he0 (by omega : (0 : Int) ≤ 1000)
    have m2 := Int.mul_nonneg hzc.1 he0
    obtain ⟨u3, A3, happ, hu3⟩ := hu.push e2_len (rp (((z * e : Int) : Rat) / ((max 1 cs.sum : Int) : Rat))) (by rw [List.length_take]; simp [lim]; omega)
    rw [← pts_take hz] at hu3
    simp only [e2_rp] at happ
    simp (maxSteps := 4000000) -implicitDefEqProofs -dsimp (disch := omega) only [↓AW_skip, ↓AW_ops, ↓AW_seq, ↓AW_cond, ↓AW_block, ↓AOps_nil, ↓AOps_pu, ↓AOps_ld, ↓AOps_call, on_some, condB_t, ↓then_normal, pval, lval, rd_S, put_S, partA, eq_self, mk, List.foldl_cons, List.foldl_nil, List.replicate_succ, List.replicate_zero, List.set_cons_zero, List.set_cons_succ, List.getElem?_cons_zero, List.getElem?_cons_succ, List.drop_zero, List.take_succ_cons, List.take_nil, Option.getD_some, map_c, map_n, List.length_cons, List.length_nil, Nat.reduceLeDiff, Nat.zero_add, bin_mul, bin_lss, w64, if_true, if_false, Bool.false_eq_true, decide_true, Go.Eng.e1, hlt', hx1.idx hlt, hx1.ld0 hz 1 false (by decide)]
    refine CallK.of (c_total hx1 (by omega) hc.ok.bd) ?_
    simp (maxSteps := 4000000) -implicitDefEqProofs -dsimp (disch := omega) only [↓AOps_pu, ↓AOps_call, on_some, extK_same, pval, rd_S, rd_C, put_S, mk, List.foldl_cons, List.foldl_nil, List.replicate_succ, List.replicate_zero, List.set_cons_zero, List.set_cons_succ, List.getElem?_cons_zero, List.getElem?_cons_succ, Option.getD_some, map_c, map_n, mm_max]
    refine CallK.of (s61 (a := z * e) (b := max 1 cs.sum) _ ⟨by omega, by omega⟩ (by omega) (by omega)) ?_
    simp (maxSteps := 4000000) -implicitDefEqProofs -dsimp (disch := omega) only [↓AW_ops, ↓AOps_nil, ↓AOps_pu, ↓AOps_ha, on_some, extK_false, extK_app, extK_same, ↓then_normal, ↓inBlock_normal, pval, hval, rd_S, rd_C, put_S, AV.cells?, splice, fillA, repl, eq_self, mk, List.foldl_cons, List.foldl_nil, List.replicate_succ, List.replicate_zero, List.set_cons_zero, List.set_cons_succ, List.getElem?_cons_zero, List.getElem?_cons_succ, List.drop_succ_cons, List.drop_nil, List.take_zero, Option.getD_some, map_c, map_n, List.length_cons, List.length_nil, Nat.reduceAdd, Nat.reduceLeDiff, Nat.zero_add, List.nil_append, List.append_nil, bin_add, w64, if_true, true_and, and_true, R, happ]
    exact ⟨(i + 1, u3, A3), ⟨hlt, hu3⟩, by simp [Has, rd_s], rfl, by simp only; omega⟩
  · have hlt' : ¬ ((i : Int) < cs.length) := by omega
    simp (maxSteps := 4000000) -implicitDefEqProofs -dsimp (disch := omega) only [↓AW_ops, ↓AW_seq, ↓AW_cond, ↓AW_exit, ↓AW_ret, ↓AOps_nil, ↓AOps_pu, on_some, condB_f, ↓then_normal, ↓then_exit, ↓inBlock_exit, ↓Fin_ret, pval, rd_S, put_S, resV, resL, eq_self, mk, List.foldl_cons, List.foldl_nil, List.replicate_succ, List.replicate_zero, List.set_cons_zero, List.set_cons_succ, List.getElem?_cons_zero, List.getElem?_cons_succ, Option.getD_some, bin_lss, if_true, decide_false, hlt']
    rw [List.take_of_length_le (by omega)] at hu
    exact hu.gc flat_e2
/-- The rules, as the program makes them. -/
def rulesV (n : Nat) : AV := .agg [.fn 90 [], .fn 87 [], .fn 89 [.ptr n 0], .fn 91 [.ptr n 0, .ptr (n + 1) 0]]
def rulesH (A : AHeap) : AHeap := A ++ [.cells true [.fn 87 []]] ++ [.cells true [.fn 89 [.ptr A.length 0]]]
theorem rules_pre (A : AHeap) : A <+: rulesH A := (pre_app A _).trans (pre_app _ _)
theorem rules_g1 (A : AHeap) : (rulesH A)[A.length]? = some (.cells true [.fn 87 []]) := by
  unfold rulesH
  rw [List.getElem?_append_left (by simp), List.getElem?_append_right (by omega)]
  simp
theorem rules_g2 (A : AHeap) : (rulesH A)[A.length + 1]? = some (.cells true [.fn 89 [.ptr A.length 0]]) := by
  unfold rulesH
  rw [List.getElem?_append_right (by simp)]
  simp
theorem rules_l1 (A : AHeap) : ldA 1 false (.ptr A.length 0) (rulesH A) = some (.fn 87 []) := by
  simp [ldA, rules_g1, partA]
theorem rules_l2 (A : AHeap) : ldA 1 false (.ptr (A.length + 1) 0) (rulesH A) = some (.fn 89 [.ptr A.length 0]) := by
  simp [ldA, rules_g2, partA]
theorem c4 : ((4 : Nat) : Int) = 4 := rfl
theorem tn0 : Int.toNat 0 = 0 := rfl
theorem tn1 : Int.toNat 1 = 1 := rfl
theorem tn2 : Int.toNat 2 = 2 := rfl
theorem tn3 : Int.toNat 3 = 3 := rfl
theorem s79 (A : AHeap) : ACalls Try.prog 79 [] A (rulesV A.length) (rulesH A) := by
  refine acalls hmix Try.func79 (by kernel_rfl) t79 0 rfl (by decide) ?_
  have h1 : stA 1 (.ptr A.length 0) (.fn 87 []) (A ++ [.cells true [.nilF]]) = some (A ++ [.cells true [.fn 87 []]]) := by simp [stA, cells_fn, splice]
  have h2 : stA 1 (.ptr (A.length + 1) 0) (.fn 89 [.ptr A.length 0]) (A ++ [.cells true [.fn 87 []]] ++ [.cells true [.nilF]]) = some (rulesH A) := by
    unfold rulesH
    simp [stA, cells_fn, splice]
  have hlA : (A ++ [AObj.cells true [AV.fn 87 []]]).length = A.length + 1 := by simp
  dsimp only [m79]
  simp (maxSteps := 4000000) -implicitDefEqProofs -dsimp (disch := omega) only [↓AW_ops, ↓AW_seq, ↓AW_ret, ↓AOps_nil, ↓AOps_pu, ↓AOps_ld, ↓AOps_ha, on_some, extK_false, extK_app, ↓then_normal, ↓Fin_ret, pval, lval, hval_st, hval_newv, rd_S, rd_C, put_S, putS_none, resV, resL, chkd, bput, bgot, cells_agg, cells_fn, cells_nilF, splice, partA, fillA, eq_self, List.replicate_succ, List.replicate_zero, List.set_cons_zero, List.set_cons_succ, List.getElem?_cons_zero, List.getElem?_cons_succ, List.drop_zero, List.drop_succ_cons, List.drop_nil, List.take_zero, List.take_succ_cons, List.take_nil, Option.getD_some, Option.map_some, map_c, map_n, List.length_cons, List.length_nil, Nat.reduceAdd, Nat.reduceSub, Nat.reduceLeDiff, Nat.reduceEqDiff, Nat.zero_add, List.cons_append, List.nil_append, List.append_nil, if_true, if_false, and_true, ne_eq, not_true_eq_false, h1, hlA, h2, rules_l1, rules_l2]
  exact gc_all
/-- What a rule gives. -/
def byO (cs : List Int) (e : Int) (qs : List Rat) : List (Int × Int) := if vE cs e = 0 then qs.map rp else []
theorem s55p (hx : L1 A v cs) (hl : cs.length ≤ 1000000) : ACalls Try.prog 55 [I 0, v, I e] A (.tuple [outV 2 A (byO cs e (pts cs e)).length, I (vE cs e)]) (outH A ((byO cs e (pts cs e)).flatMap e2) (byO cs e (pts cs e)).length) := by
  refine acalls hmix Try.func55 (by kernel_rfl) t55 3 rfl (by decide) ?_
  dsimp only [m55]
  simp (maxSteps := 4000000) -implicitDefEqProofs -dsimp (disch := omega) only [↓AW_ops, ↓AW_seq, ↓AOps_nil, ↓AOps_pu, ↓AOps_call, on_some, ↓then_normal, pval, rd_S, rd_C, put_S, List.replicate_succ, List.replicate_zero, List.set_cons_zero, List.set_cons_succ, List.getElem?_cons_zero, List.getElem?_cons_succ, Option.getD_some, map_c, map_n, Nat.reduceSub, List.cons_append, List.nil_append]
  refine CallK.of (s16 hx hl e) ?_
  by_cases h0 : vE cs e = 0
  · have hO : byO cs e (pts cs e) = (pts cs e).map rp := if_pos h0
    have hc := vE_0.1 h0
    rw [hO, h0]
    simp (maxSteps := 4000000) -implicitDefEqProofs -dsimp (disch := omega) only [↓AW_skip, ↓AW_ops, ↓AW_seq, ↓AW_cond, ↓AOps_nil, ↓AOps_pu, ↓AOps_call, on_some, extK_same, condB_f, ↓then_normal, pval, rd_S, rd_C, put_S, eq_self, List.replicate_succ, List.replicate_zero, List.set_cons_zero, List.set_cons_succ, List.getElem?_cons_zero, List.getElem?_cons_succ, Option.getD_some, map_n, Nat.reduceSub, List.cons_append, List.nil_append, bin_neq, decide_false, not_true_eq_false]
    refine CallK.of (s79 A) ?_
    simp (maxSteps := 4000000) -implicitDefEqProofs -dsimp (disch := omega) only [↓AOps_pu, ↓AOps_callv, on_some, extK_false, CallF_fn, pval, rd_S, put_S, partA, eq_self, List.replicate_succ, List.replicate_zero, List.set_cons_zero, List.set_cons_succ, List.getElem?_cons_zero, List.getElem?_cons_succ, List.drop_zero, List.take_zero, List.take_succ_cons, List.take_nil, Option.getD_some, map_c, map_n, List.length_cons, List.length_nil, Nat.reduceAdd, Nat.reduceSub, Nat.reduceLeDiff, Nat.zero_add, List.cons_append, List.nil_append, List.append_nil, if_true, if_false, Bool.false_eq_true, and_true, Int.reduceLT, Int.reduceLE, rulesV, c4, tn0, Nat.zero_mul]
    refine CallK.of (s90 (hx.mono (rules_pre A)) hc) ?_
    simp (maxSteps := 4000000) -implicitDefEqProofs -dsimp (disch := omega) only [↓AW_ret, ↓AOps_nil, ↓AOps_pu, on_some, extK_false, ↓then_normal, ↓Fin_ret, pval, rd_S, rd_C, put_S, resV, resL, List.replicate_succ, List.replicate_zero, List.set_cons_zero, List.set_cons_succ, List.getElem?_cons_zero, List.getElem?_cons_succ, Option.getD_some, Nat.reduceSub, List.cons_append, List.nil_append]
    exact (AccL_out (rules_pre A) e2_len _).gc2 flat_e2 (I 0) rfl
  · have hO : byO cs e (pts cs e) = [] := if_neg h0
    rw [hO]
    simp (maxSteps := 4000000) -implicitDefEqProofs -dsimp (disch := omega) only [↓AW_ops, ↓AW_seq, ↓AW_cond, ↓AW_ret, ↓AOps_nil, ↓AOps_pu, on_some, extK_same, condB_t, ↓then_normal, ↓then_ret, ↓Fin_ret, pval, rd_S, rd_C, put_S, resV, resL, List.replicate_succ, List.replicate_zero, List.set_cons_zero, List.set_cons_succ, List.getElem?_cons_zero, List.getElem?_cons_succ, Option.getD_some, List.length_nil, Nat.reduceSub, List.cons_append, List.nil_append, bin_neq, decide_true, not_false_eq_true, h0]
    exact gc_same_all rfl rfl
theorem s18 (hx : L1 A v cs) (hl : cs.length ≤ 1000000) : ACalls Try.prog 18 [v, I e] A (.tuple [outV 2 A (byO cs e (pts cs e)).length, I (vE cs e)]) (outH A ((byO cs e (pts cs e)).flatMap e2) (byO cs e (pts cs e)).length) := by
  refine acalls hmix Try.func18 (by kernel_rfl) t18 2 rfl (by decide) ?_
  dsimp only [m18]
  simp (maxSteps := 4000000) -implicitDefEqProofs -dsimp (disch := omega) only [↓AW_ops, ↓AW_seq, ↓AOps_nil, ↓AOps_pu, ↓AOps_call, on_some, ↓then_normal, pval, rd_S, rd_C, put_S, List.replicate_succ, List.replicate_zero, List.set_cons_zero, List.set_cons_succ, List.getElem?_cons_zero, List.getElem?_cons_succ, Option.getD_some, map_c, map_n, Nat.reduceSub, List.cons_append, List.nil_append]
  refine CallK.of (s55p hx hl) ?_
  simp (maxSteps := 4000000) -implicitDefEqProofs -dsimp (disch := omega) only [↓AW_ret, ↓AOps_nil, ↓AOps_pu, on_some, extK_false, ↓then_normal, ↓Fin_ret, pval, rd_S, put_S, resV, resL, List.replicate_succ, List.replicate_zero, List.set_cons_zero, List.set_cons_succ, List.getElem?_cons_zero, List.getElem?_cons_succ, Option.getD_some, Nat.reduceSub, List.cons_append, List.nil_append]
  exact gc_all
end
end Go.Proofs.Ytdcdjhhjlpegjaa

namespace Go.Proofs.Ytdcdjhhjlpegjaa
open Go Go.Eng
/-- Numbers in ascending order. -/
def srt (xs : List Int) : List Int := xs.mergeSort (fun a b => decide (a ≤ b))
theorem srt_perm (xs : List Int) : (srt xs).Perm xs := List.mergeSort_perm xs _
theorem srt_pw (xs : List Int) : (srt xs).Pairwise (· ≤ ·) := by
  have := List.pairwise_mergeSort (le := fun a b : Int => decide (a ≤ b)) (fun a b c h k => by simp at *; omega) (fun a b => by simp; omega) xs
  exact this.imp (fun h => by simpa using h)
theorem srt_len (xs : List Int) : (srt xs).length = xs.length := (srt_perm xs).length_eq
theorem srt_uniq {zs xs : List Int} (hp : zs.Perm xs) (h : zs.Pairwise (· ≤ ·)) : zs = srt xs :=
  List.Perm.eq_of_pairwise (le := fun a b : Int => a ≤ b) (fun a b _ _ h1 h2 => by omega) h (srt_pw xs) (hp.trans (srt_perm xs).symm)
/-- The first elements are in order. -/
def SU (zs : List Int) (i : Nat) : Prop := ∀ (p q : Nat) (a b : Int), p < q → q < i → zs[p]? = some a → zs[q]? = some b → a ≤ b
theorem SU.one (zs : List Int) : SU zs 1 := fun p q a b h k => by omega
theorem SU.zero (zs : List Int) : SU zs 0 := fun p q a b h k => by omega
theorem SU.all {zs : List Int} (h : SU zs zs.length) : zs.Pairwise (· ≤ ·) := by
  rw [List.pairwise_iff_getElem]
  intro i j hi hj hij
  exact h i j _ _ hij hj (List.getElem?_eq_getElem hi) (List.getElem?_eq_getElem hj)
theorem SU.srt {zs xs : List Int} (hp : zs.Perm xs) {i : Nat} (h : SU zs i) (hi : xs.length ≤ i) : zs = srt xs := by
  refine srt_uniq hp (SU.all (fun p q a b h1 h2 => h p q a b h1 ?_))
  have := hp.length_eq
  omega
/-- An element that goes down to its place. -/
structure IS (xs zs : List Int) (i j : Nat) : Prop where
  perm : zs.Perm xs
  a : ∀ (p q : Nat) (a b : Int), p < q → q ≤ i → p ≠ j → q ≠ j → zs[p]? = some a → zs[q]? = some b → a ≤ b
  b : ∀ (q : Nat) (x y : Int), j < q → q ≤ i → zs[j]? = some x → zs[q]? = some y → x ≤ y
theorem IS.start {xs zs : List Int} {i : Nat} (hp : zs.Perm xs) (h : SU zs i) : IS xs zs i i :=
  ⟨hp, fun p q a b h1 h2 _ h4 => h p q a b h1 (by omega), fun q x y h1 h2 => by omega⟩
theorem IS.zero {xs zs : List Int} {i : Nat} (h : IS xs zs i 0) : SU zs (i + 1) := by
  intro p q a b h1 h2 h3 h4
  by_cases hp : p = 0
  · subst hp
    exact h.b q a b h1 (by omega) h3 h4
  · exact h.a p q a b h1 (by omega) hp (by omega) h3 h4
theorem IS.stop {xs zs : List Int} {i j : Nat} {x y : Int} (h : IS xs zs i (j + 1)) (hx : zs[j + 1]? = some x) (hy : zs[j]? = some y) (hxy : ¬ x < y) : SU zs (i + 1) := by
  intro p q a b h1 h2 h3 h4
  by_cases hq : q = j + 1
  · subst hq
    have hbx : b = x := by rw [hx] at h4; exact (Option.some.inj h4).symm
    subst hbx
    by_cases hp : p = j
    · subst hp
      have : a = y := by rw [hy] at h3; exact (Option.some.inj h3).symm
      omega
    · have := h.a p j a y (by omega) (by omega) (by omega) (by omega) h3 hy
      omega
  · by_cases hp : p = j + 1
    · subst hp
      exact h.b q a b h1 (by omega) h3 h4
    · exact h.a p q a b h1 (by omega) hp hq h3 h4
theorem swap_get {zs : List Int} {j : Nat} {x y : Int} (hj : j + 1 < zs.length) (k : Nat) : ((zs.set (j + 1) y).set j x)[k]? = if k = j then some x else if k = j + 1 then some y else zs[k]? := by
  rw [List.getElem?_set, List.getElem?_set]
  by_cases h1 : k = j
  · subst h1
    rw [if_pos rfl, if_pos rfl, if_pos (by simp; omega)]
  · rw [if_neg (Ne.symm h1), if_neg h1]
    by_cases h2 : k = j + 1
    · subst h2
      rw [if_pos rfl, if_pos rfl, if_pos hj]
    · rw [if_neg (Ne.symm h2), if_neg h2]
theorem IS.swap {xs zs : List Int} {i j : Nat} {x y : Int} (h : IS xs zs i (j + 1)) (hi : j + 1 ≤ i) (hx : zs[j + 1]? = some x) (hy : zs[j]? = some y) (hxy : x < y) : IS xs ((zs.set (j + 1) y).set j x) i j := by
  obtain ⟨h1, rfl⟩ := List.getElem?_eq_some_iff.1 hx
  obtain ⟨h2, rfl⟩ := List.getElem?_eq_some_iff.1 hy
  refine ⟨(List.set_set_perm h1 h2).trans h.perm, fun p q a b hpq hqi hp hq ha hb => ?_, fun q a b hjq hqi ha hb => ?_⟩
  · rw [swap_get h1] at ha hb
    rw [if_neg hp] at ha
    rw [if_neg hq] at hb
    by_cases hq1 : q = j + 1
    · rw [if_pos hq1] at hb
      rw [if_neg (by omega)] at ha
      have := h.a p j a zs[j] (by omega) (by omega) (by omega) (by omega) ha hy
      have := Option.some.inj hb
      omega
    · rw [if_neg hq1] at hb
      by_cases hp1 : p = j + 1
      · rw [if_pos hp1] at ha
        have := h.a j q zs[j] b (by omega) hqi (by omega) hq1 hy hb
        have := Option.some.inj ha
        omega
      · rw [if_neg hp1] at ha
        exact h.a p q a b hpq hqi hp1 hq1 ha hb
  · rw [swap_get h1] at ha hb
    rw [if_pos rfl] at ha
    rw [if_neg (by omega)] at hb
    have ha := Option.some.inj ha
    by_cases hq1 : q = j + 1
    · rw [if_pos hq1] at hb
      have := Option.some.inj hb
      omega
    · rw [if_neg hq1] at hb
      have := h.b q _ b (by omega) hqi hx hb
      omega
theorem s109 (a : Int) (A : AHeap) : ACalls Try.prog 109 [I a] A (B false) A := by
  refine acalls hmix Try.func109 (by kernel_rfl) t109 1 rfl (by decide) ?_
  dsimp only [m109]
  simp (maxSteps := 4000000) -implicitDefEqProofs -dsimp (disch := omega) only [↓AW_ops, ↓AW_seq, ↓AW_ret, ↓AOps_nil, ↓AOps_pu, on_some, ↓then_normal, ↓Fin_ret, pval, rd_S, rd_C, put_S, resV, resL, eq_self, List.replicate_succ, List.replicate_zero, List.set_cons_zero, List.set_cons_succ, List.getElem?_cons_zero, List.getElem?_cons_succ, Option.getD_some, Nat.reduceSub, List.cons_append, List.nil_append, bin_neq, decide_false, not_true_eq_false]
  exact gc_same rfl
theorem s98 (a b : Int) (A : AHeap) : ACalls Try.prog 98 [I a, I b] A (B (decide (a < b))) A := by
  refine acalls hmix Try.func98 (by kernel_rfl) t98 2 rfl (by decide) ?_
  dsimp only [m98]
  simp (maxSteps := 4000000) -implicitDefEqProofs -dsimp (disch := omega) only [↓AW_ops, ↓AW_seq, ↓AOps_nil, ↓AOps_pu, ↓AOps_call, on_some, ↓then_normal, pval, rd_S, rd_C, put_S, List.replicate_succ, List.replicate_zero, List.set_cons_zero, List.set_cons_succ, List.getElem?_cons_zero, List.getElem?_cons_succ, Option.getD_some, map_c, map_n, Nat.reduceSub, List.cons_append, List.nil_append]
  refine CallK.of (s109 a A) ?_
  simp (maxSteps := 4000000) -implicitDefEqProofs -dsimp (disch := omega) only [↓AW_ret, ↓AOps_nil, ↓AOps_pu, ↓AOps_guard, on_some, extK_same, guardB_ft, guardB_ff, skipS_some, ↓then_normal, ↓Fin_ret, pval, rd_S, rd_C, put_S, resV, resL, List.replicate_succ, List.replicate_zero, List.set_cons_zero, List.set_cons_succ, List.getElem?_cons_zero, List.getElem?_cons_succ, Option.getD_some, Nat.reduceSub, List.cons_append, List.nil_append, bin_lss, if_false, Bool.false_eq_true]
  exact gc_same rfl
theorem c_ins {xs : List Int} {v : AV} {A H : AHeap} {n : Nat} (h : OL 1 e1 A H n v xs) (hl : xs.length ≤ 1000) : ACalls Try.prog 92 [v, I 0, I xs.length] H (.tuple []) (H.set n (.cells true ((srt xs).flatMap e1))) := by
  refine acalls hmix Try.func92 (by kernel_rfl) t92 3 rfl (by decide) ?_
  dsimp only [m92]
  simp (maxSteps := 4000000) -implicitDefEqProofs -dsimp (disch := omega) only [↓AW_ops, ↓AW_seq, ↓AW_block, ↓AOps_nil, ↓AOps_pu, on_some, ↓then_normal, pval, rd_S, rd_C, put_S, ↓AW_toLoop, List.replicate_succ, List.replicate_zero, List.set_cons_zero, List.set_cons_succ, List.getElem?_cons_zero, List.getElem?_cons_succ, Option.getD_some, Nat.reduceSub, List.cons_append, List.nil_append, bin_add, w64, Int.reduceAdd]
  refine LoopK.by 49 (fun x : Nat × List Int => (1 ≤ x.1 ∧ x.1 ≤ xs.length + 1) ∧ x.2.Perm xs ∧ SU x.2 x.1) (fun x => [(0, v), (1, I 0), (2, I xs.length), (6, I x.1)]) (fun x => H.set n (.cells true (x.2.flatMap e1))) (fun x => xs.length + 1 - x.1) (1, xs) ⟨by simp only; omega, List.Perm.refl _, SU.one _⟩ rfl (by simp [Has, rd_s]) (by simp only; rw [set_same h.ob]) ?_
  rintro ⟨i, zs⟩ ⟨hi, hpz, hz⟩
  simp only at hi hpz hz
  by_cases hlt : i < xs.length
  · have hlt' : (i : Int) < xs.length := by omega
    simp (maxSteps := 4000000) -implicitDefEqProofs -dsimp (disch := omega) only [↓AW_skip, ↓AW_ops, ↓AW_seq, ↓AW_cond, ↓AW_block, ↓AOps_nil, ↓AOps_pu, on_some, condB_t, ↓then_normal, pval, rd_S, put_S, ↓AW_toLoop, mk, List.foldl_cons, List.foldl_nil, List.replicate_succ, List.replicate_zero, List.set_cons_zero, List.set_cons_succ, List.getElem?_cons_zero, List.getElem?_cons_succ, Option.getD_some, bin_lss, decide_true, hlt']
    refine LoopK.by 49 (fun x : Nat × List Int => x.1 ≤ i ∧ IS xs x.2 i x.1) (fun x => [(0, v), (1, I 0), (2, I xs.length), (6, I i), (7, I x.1)]) (fun x => H.set n (.cells true (x.2.flatMap e1))) (fun x => x.1) (i, zs) ⟨by simp only; omega, IS.start hpz hz⟩ rfl (by simp [Has, rd_s]) rfl ?_
    rintro ⟨j, ws⟩ ⟨hj, hs⟩
    simp only at hj hs
    have hlen := hs.perm.length_eq
    have ho := OL_setAll h ws hlen
    cases j with
    | zero =>
      have hz0 : ¬ ((0 : Nat) : Int) > 0 := by omega
      simp (maxSteps := 4000000) -implicitDefEqProofs -dsimp (disch := omega) only [↓AW_ops, ↓AW_seq, ↓AW_cond, ↓AW_exit, ↓AOps_nil, ↓AOps_pu, ↓AOps_guard, on_some, guardB_ft, skipS_some, condB_f, ↓then_normal, ↓then_exit, ↓inBlock_normal, ↓inBlock_exit, ↓Fin_normal, pval, rd_S, rd_C, put_S, resV, resL, eq_self, mk, List.foldl_cons, List.foldl_nil, List.replicate_succ, List.replicate_zero, List.set_cons_zero, List.set_cons_succ, List.getElem?_cons_zero, List.getElem?_cons_succ, Option.getD_some, List.length_cons, List.length_nil, Nat.reduceAdd, Nat.reduceEqDiff, Nat.zero_add, bin_add, bin_gtr, w64, if_true, if_false, Bool.false_eq_true, decide_false, true_and, reduceCtorEq, Int.reduceLT, Int.ofNat_zero]
      exact ⟨(i + 1, ws), ⟨by simp only; omega, hs.perm, hs.zero⟩, by simp [Has, rd_s], rfl, by simp only; omega⟩
    | succ k =>
      have hk1 : k + 1 < ws.length := by omega
      have hk0 : k < ws.length := by omega
      have hjp : (0 : Int) < ((k + 1 : Nat) : Int) := by omega
      have hjm : ((k + 1 : Nat) : Int) - 1 = (k : Int) := by omega
      obtain ⟨x, hx⟩ : ∃ x, ws[k + 1]? = some x := ⟨_, List.getElem?_eq_getElem hk1⟩
      obtain ⟨y, hy⟩ : ∃ y, ws[k]? = some y := ⟨_, List.getElem?_eq_getElem hk0⟩
      have h1 := ho.st hk1 (I y) y rfl
      rw [List.set_set] at h1
      have ho2 := OL_setAll h (ws.set (k + 1) y) (by simp [hlen])
      have h2 := ho2.st (i := k) (by simp; omega) (I x) x rfl
      rw [List.set_set] at h2
      have hswap := hs.swap (x := x) (y := y) hj hx hy
      have hstop := hs.stop hx hy
      generalize hJ : ((k + 1 : Nat) : Int) = J at *
      have hidx1 : idxA 1 v (.int .i64 J) = some (.ptr (nm v) (of v + (k + 1) * 1)) := by rw [← hJ]; exact ho.ls.idx hk1
      simp (maxSteps := 4000000) -implicitDefEqProofs -dsimp (disch := omega) only [↓AW_ops, ↓AW_seq, ↓AOps_pu, ↓AOps_ld, ↓AOps_call, ↓AOps_guard, on_some, guardB_tt, pval, lval, rd_S, rd_C, put_S, partA, eq_self, mk, List.foldl_cons, List.foldl_nil, List.replicate_succ, List.replicate_zero, List.set_cons_zero, List.set_cons_succ, List.getElem?_cons_zero, List.getElem?_cons_succ, List.drop_zero, List.take_succ_cons, List.take_nil, Option.getD_some, map_c, map_n, List.length_cons, List.length_nil, Nat.reduceLeDiff, Nat.zero_add, bin_sub, bin_gtr, w64, if_true, if_false, Bool.false_eq_true, decide_true, Go.Eng.e1, hjp, hjm, hidx1, ho.ls.ld0 hx 1 false (by decide), ho.ls.idx hk0, ho.ls.ld0 hy 1 false (by decide)]
      refine CallK.of (s98 x y _) ?_
      by_cases hxy : x < y
      · simp (maxSteps := 4000000) -implicitDefEqProofs -dsimp (disch := omega) only [↓AW_skip, ↓AW_ops, ↓AW_seq, ↓AW_cond, ↓AW_block, ↓AOps_nil, ↓AOps_pu, ↓AOps_ld, ↓AOps_ha, on_some, extK_false, extK_same, condB_t, ↓then_normal, ↓inBlock_normal, pval, lval, hval_st, rd_S, rd_C, put_S, putS_none, partA, eq_self, mk, List.foldl_cons, List.foldl_nil, List.replicate_succ, List.replicate_zero, List.set_cons_zero, List.set_cons_succ, List.getElem?_cons_zero, List.getElem?_cons_succ, List.drop_zero, List.take_succ_cons, List.take_nil, Option.getD_some, Option.map_some, List.length_cons, List.length_nil, Nat.reduceAdd, Nat.reduceLeDiff, Nat.zero_add, bin_sub, w64, if_true, if_false, Bool.false_eq_true, decide_true, Go.Eng.e1, true_and, hxy, hjm, hidx1, ho.ls.ld0 hx 1 false (by decide), ho.ls.idx hk0, ho.ls.ld0 hy 1 false (by decide), h1, h2]
        exact ⟨(k, (ws.set (k + 1) y).set k x), ⟨by simp only; omega, hswap hxy⟩, by simp [Has, rd_s], rfl, by simp only; omega⟩
      · simp (maxSteps := 4000000) -implicitDefEqProofs -dsimp (disch := omega) only [↓AW_ops, ↓AW_cond, ↓AW_exit, ↓AOps_nil, ↓AOps_pu, on_some, extK_same, condB_f, ↓then_normal, ↓then_exit, ↓inBlock_normal, ↓inBlock_exit, ↓Fin_normal, pval, rd_S, rd_C, put_S, resV, resL, eq_self, mk, List.foldl_cons, List.foldl_nil, List.replicate_succ, List.replicate_zero, List.set_cons_zero, List.set_cons_succ, List.getElem?_cons_zero, List.getElem?_cons_succ, Option.getD_some, List.length_cons, List.length_nil, Nat.reduceAdd, Nat.reduceEqDiff, Nat.zero_add, bin_add, w64, if_true, if_false, decide_false, true_and, reduceCtorEq, hxy]
        exact ⟨(i + 1, ws), ⟨by simp only; omega, hs.perm, hstop hxy⟩, by simp [Has, rd_s], rfl, by simp only; omega⟩
  · have hlt' : ¬ (i : Int) < xs.length := by omega
    have he := SU.srt hpz hz (by omega)
    simp (maxSteps := 4000000) -implicitDefEqProofs -dsimp (disch := omega) only [↓AW_ops, ↓AW_seq, ↓AW_cond, ↓AW_exit, ↓AOps_nil, ↓AOps_pu, on_some, condB_f, ↓then_normal, ↓then_exit, ↓inBlock_exit, ↓Fin_normal, pval, rd_S, put_S, resV, resL, eq_self, mk, List.foldl_cons, List.foldl_nil, List.replicate_succ, List.replicate_zero, List.set_cons_zero, List.set_cons_succ, List.getElem?_cons_zero, List.getElem?_cons_succ, Option.getD_some, bin_lss, if_true, decide_false, hlt']
    rw [he]
    exact gc_same_all rfl rfl
theorem c_pdq {xs : List Int} {v : AV} {A H : AHeap} {n : Nat} (h : OL 1 e1 A H n v xs) (hl : xs.length ≤ 12) (k : Int) : ACalls Try.prog 83 [v, I 0, I xs.length, I k] H (.tuple []) (H.set n (.cells true ((srt xs).flatMap e1))) := by
  refine acalls hmix Try.func83 (by kernel_rfl) t83 4 rfl (by decide) ?_
  dsimp only [m83]
  simp (maxSteps := 4000000) -implicitDefEqProofs -dsimp (disch := omega) only [↓AW_ops, ↓AW_seq, ↓AW_block, ↓AOps_nil, ↓AOps_pu, on_some, ↓then_normal, pval, rd_C, put_S, ↓AW_toLoop, List.replicate_succ, List.replicate_zero, List.set_cons_zero, List.set_cons_succ, Nat.reduceSub, List.cons_append, List.nil_append]
  refine LoopK.by 134 (fun _ : Unit => True) (fun _ => [(0, v), (1, I 0), (2, I xs.length), (3, I k), (8, B true), (9, B true)]) (fun _ => H) (fun _ => 0) () trivial rfl (by simp [Has, rd_s]) rfl ?_
  rintro _ _
  have h12 : (xs.length : Int) ≤ 12 := by omega
  have h0 : (xs.length : Int) - 0 = xs.length := by omega
  simp (maxSteps := 4000000) -implicitDefEqProofs -dsimp (disch := omega) only [↓AW_ops, ↓AW_seq, ↓AW_cond, ↓AW_block, ↓AOps_nil, ↓AOps_pu, ↓AOps_call, on_some, condB_t, ↓then_normal, pval, rd_S, rd_C, put_S, mk, List.foldl_cons, List.foldl_nil, List.replicate_succ, List.replicate_zero, List.set_cons_zero, List.set_cons_succ, List.getElem?_cons_zero, List.getElem?_cons_succ, Option.getD_some, map_c, map_n, bin_sub, bin_leq, w64, decide_true, h0, h12]
  refine CallK.of (c_ins h (by omega)) ?_
  simp (maxSteps := 4000000) -implicitDefEqProofs -dsimp (disch := omega) only [↓AW_ret, ↓AOps_nil, on_some, extK_false, ↓then_normal, ↓then_ret, ↓inBlock_ret, ↓Fin_ret, resV, resL]
  exact gc_same_all rfl rfl
def isI : Option (AV × AHeap) → Bool
  | some (.int .i64 _, _) => true
  | _ => false
set_option maxRecDepth 100000 in
theorem len_run : (List.range 13).all (fun k => isI (runF tab 300 14 84 [.int .u64 (k : Int)] [])) = true := by kernel_rfl
theorem c_Len {k : Nat} (hk : k ≤ 12) (A : AHeap) : ∃ n : Int, ACalls Try.prog 84 [.int .u64 (k : Int)] A (I n) A := by
  have h := List.all_eq_true.1 len_run k (List.mem_range.2 (by omega))
  cases hr : runF tab 300 14 84 [.int .u64 (k : Int)] [] with
  | none => rw [hr] at h; cases h
  | some p =>
    obtain ⟨v, A'⟩ := p
    rw [hr] at h
    have h2 : ∃ n, v = I n := by
      unfold isI at h
      split at h
      · rename_i m _ e; cases e; exact ⟨m, rfl⟩
      · cases h
    obtain ⟨n, rfl⟩ := h2
    exact ⟨n, (runF_ok hmix tabOK 300 14 84 [.int .u64 (k : Int)] [] _ _ hr).lift (by simp [flat]) rfl A⟩
theorem wu64 {n : Int} (h0 : 0 ≤ n) (h1 : n < 18446744073709551616) : IntKind.u64.wrap n = n := by
  have : (2 : Int) ^ IntKind.u64.bits = 18446744073709551616 := by decide
  unfold IntKind.wrap
  simp only [this, IntKind.signed, Bool.false_and, Bool.false_eq_true, if_false]
  exact Int.emod_eq_of_lt h0 h1
theorem c_Sort {xs : List Int} {v : AV} {A H : AHeap} {n : Nat} (h : OL 1 e1 A H n v xs) (hl : xs.length ≤ 12) : ACalls Try.prog 72 [v] H (.tuple []) (H.set n (.cells true ((srt xs).flatMap e1))) := by
  refine acalls hmix Try.func72 (by kernel_rfl) t72 1 rfl (by decide) ?_
  obtain ⟨k, hk⟩ := c_Len hl H
  have hw := wu64 (n := (xs.length : Int)) (by omega) (by omega)
  dsimp only [m72]
  simp (maxSteps := 4000000) -implicitDefEqProofs -dsimp (disch := omega) only [↓AW_ops, ↓AW_seq, ↓AOps_nil, ↓AOps_pu, ↓AOps_call, on_some, ↓then_normal, pval, rd_S, put_S, List.replicate_succ, List.replicate_zero, List.set_cons_zero, List.set_cons_succ, List.getElem?_cons_zero, List.getElem?_cons_succ, Option.getD_some, map_c, map_n, Nat.reduceSub, List.cons_append, List.nil_append, h.ls.len, hw]
  refine CallK.of hk ?_
  simp (maxSteps := 4000000) -implicitDefEqProofs -dsimp (disch := omega) only [↓AOps_call, extK_same, rd_S, rd_C, put_S, List.replicate_succ, List.replicate_zero, List.set_cons_zero, List.set_cons_succ, List.getElem?_cons_zero, List.getElem?_cons_succ, Option.getD_some, map_c, map_n, Nat.reduceSub, List.cons_append, List.nil_append]
  refine CallK.of (c_pdq h hl k) ?_
  simp (maxSteps := 4000000) -implicitDefEqProofs -dsimp (disch := omega) only [↓AOps_nil, on_some, extK_false, ↓Fin_normal, resV, resL]
  exact gc_same_all rfl rfl
end Go.Proofs.Ytdcdjhhjlpegjaa

namespace Go.Proofs.Ytdcdjhhjlpegjaa
open Go Go.Eng
/-- The smaller one of a claim and a number. -/
def mnq (c : Int) (l : Rat) : Rat := if (c : Rat) < l then (c : Rat) else l
def lev : List Int → Int → Rat
  | [], _ => 0
  | c :: s, left => if left ≤ c * ((s.length : Int) + 1) then (left : Rat) / (((s.length : Int) + 1 : Int) : Rat) else lev s (left - c)
/-- The number for an estate. -/
def lv (cs : List Int) (e : Int) : Rat := lev (srt cs) e
def capL (cs : List Int) (l : Rat) : List Rat := cs.map (fun c => mnq c l)
theorem mnq_le (c : Int) (l : Rat) : mnq c l ≤ l ∧ mnq c l ≤ (c : Rat) := by
  unfold mnq
  split
  · rename_i h; exact ⟨Rat.le_of_lt h, Rat.le_refl⟩
  · rename_i h; exact ⟨Rat.le_refl, Rat.not_lt.1 h⟩
theorem mnq_ge {c : Int} {l m : Rat} (h1 : m ≤ l) (h2 : m ≤ (c : Rat)) : m ≤ mnq c l := by
  unfold mnq; split <;> assumption
theorem mnq_c {c : Int} {l : Rat} (h : (c : Rat) ≤ l) : mnq c l = (c : Rat) := by
  unfold mnq
  split
  · rfl
  · rename_i h2; exact Rat.le_antisymm (Rat.not_lt.1 h2) h
theorem mnq_l {c : Int} {l : Rat} (h : l ≤ (c : Rat)) : mnq c l = l := by
  unfold mnq
  rw [if_neg (Rat.not_lt.2 h)]
theorem mnq_monoc {c d : Int} (l : Rat) (h : c ≤ d) : mnq c l ≤ mnq d l := mnq_ge (mnq_le c l).1 (Rat.le_trans (mnq_le c l).2 (Rat.intCast_le_intCast.2 h))
theorem perm_sum {α : Type} (f : α → Rat) {xs ys : List α} (h : xs.Perm ys) : (xs.map f).sum = (ys.map f).sum := by
  induction h with
  | nil => rfl
  | cons x _ ih => rw [List.map_cons, List.map_cons, List.sum_cons, List.sum_cons, ih]
  | swap x y l =>
    simp only [List.map_cons, List.sum_cons]
    rw [← Rat.add_assoc, ← Rat.add_assoc, Rat.add_comm (f y)]
  | trans _ _ h1 h2 => exact h1.trans h2
theorem perm_isum {xs ys : List Int} (h : xs.Perm ys) : xs.sum = ys.sum := by
  induction h with
  | nil => rfl
  | cons x _ ih => rw [List.sum_cons, List.sum_cons, ih]
  | swap x y l => simp only [List.sum_cons]; omega
  | trans _ _ h1 h2 => exact h1.trans h2
theorem sum_le {α : Type} {f g : α → Rat} : ∀ {xs : List α}, (∀ x ∈ xs, f x ≤ g x) → (xs.map f).sum ≤ (xs.map g).sum
  | [], _ => Rat.le_refl
  | x :: xs, h => by
    rw [List.map_cons, List.map_cons, List.sum_cons, List.sum_cons]
    have h1 := h x (by simp)
    have h2 := sum_le (fun y hy => h y (by simp [hy])) (f := f) (g := g) (xs := xs)
    grind
theorem sum_const (l : Rat) : ∀ xs : List Int, (xs.map (fun _ => l)).sum = ((xs.length : Int) : Rat) * l
  | [] => by simp only [List.map_nil, List.sum_nil, List.length_nil]; show (0 : Rat) = ((0 : Int) : Rat) * l; rw [int0, Rat.zero_mul]
  | x :: xs => by
    rw [List.map_cons, List.sum_cons, sum_const l xs, List.length_cons]
    have : (((xs.length + 1 : Nat) : Int) : Rat) = ((xs.length : Int) : Rat) + 1 := by rw [Int.natCast_add, Rat.intCast_add]; rfl
    rw [this, Rat.add_mul, Rat.one_mul, Rat.add_comm]
theorem cap_sum_le (cs : List Int) (l : Rat) : (capL cs l).sum ≤ ((cs.length : Int) : Rat) * l := by
  rw [← sum_const l cs]
  exact sum_le (fun c _ => (mnq_le c l).1)
/-- What the number is. -/
structure LV (cs : List Int) (e : Int) (l : Rat) : Prop where
  l0 : 0 ≤ l
  lc : ∃ c ∈ cs, l ≤ (c : Rat)
  s : (capL cs l).sum = (e : Rat)
theorem div_mul_same {a : Rat} {n : Int} (h : 0 < n) : (n : Rat) * (a / (n : Rat)) = a := by
  rw [Rat.mul_comm]
  exact Rat.div_mul_cancel (Ne.symm (Rat.ne_of_lt (cast_pos h)))
theorem lev_char : ∀ (s : List Int) (left : Int), s.Pairwise (· ≤ ·) → (∀ c ∈ s, 0 ≤ c) → s ≠ [] → 0 ≤ left → left ≤ s.sum → LV s left (lev s left) ∧ ∃ k : Int, (1 ≤ k ∧ k ≤ s.length) ∧ ((lev s left).den : Int) ∣ k
  | [], _, _, _, h, _, _ => absurd rfl h
  | c :: s, left, hp, h0, _, hl0, hl1 => by
    have hc0 := h0 c (by simp)
    rw [List.pairwise_cons] at hp
    have hn : (0 : Int) < (s.length : Int) + 1 := by omega
    have hnr := cast_pos hn
    rw [lev]
    split
    · rename_i hle
      generalize hl : (left : Rat) / (((s.length : Int) + 1 : Int) : Rat) = l at *
      have hlc : l ≤ (c : Rat) := by
        rw [← hl]
        refine div_le hnr ?_
        rw [← Rat.intCast_mul]
        exact Rat.intCast_le_intCast.2 hle
      refine ⟨⟨?_, ⟨c, by simp, hlc⟩, ?_⟩, (s.length : Int) + 1, ⟨by omega, by simp⟩, ?_⟩
      · rw [← hl]; exact div_ge0 hnr (cast_nonneg hl0)
      · have e1 : capL (c :: s) l = (c :: s).map (fun _ => l) := by
          unfold capL
          refine List.map_congr_left (fun x hx => mnq_l ?_)
          rcases List.mem_cons.1 hx with rfl | hx
          · exact hlc
          · exact Rat.le_trans hlc (Rat.intCast_le_intCast.2 (hp.1 x hx))
        rw [e1, sum_const, ← hl, List.length_cons]
        have : ((s.length + 1 : Nat) : Int) = (s.length : Int) + 1 := by omega
        rw [this, div_mul_same hn]
      · rw [← hl]; exact div_den hn
    · rename_i hle
      have hs : s ≠ [] := by
        rintro rfl
        simp only [List.sum_cons, List.sum_nil, List.length_nil] at hl1 hle
        omega
      have hlen : 0 < s.length := List.length_pos_iff.2 hs
      have hsp : c * ((s.length : Int) + 1) = c * s.length + c := by rw [Int.mul_add, Int.mul_one]
      have hcs : 0 ≤ c * (s.length : Int) := Int.mul_nonneg hc0 (by omega)
      rw [List.sum_cons] at hl1
      obtain ⟨hL, k, hk, hd⟩ := lev_char s (left - c) hp.2 (fun x hx => h0 x (by simp [hx])) hs (by omega) (by omega)
      generalize lev s (left - c) = l at *
      have hcl : (c : Rat) ≤ l := by
        have h1 := cap_sum_le s l
        rw [hL.s] at h1
        have h2 : ((c * (s.length : Int) : Int) : Rat) ≤ ((left - c : Int) : Rat) := Rat.intCast_le_intCast.2 (by omega)
        have h3 := Rat.le_trans h2 h1
        rw [Rat.intCast_mul, Rat.mul_comm] at h3
        exact Rat.le_of_mul_le_mul_left h3 (cast_pos (by omega))
      obtain ⟨d, hdm, hdl⟩ := hL.lc
      refine ⟨⟨hL.l0, ⟨d, by simp [hdm], hdl⟩, ?_⟩, k, ⟨hk.1, by simp only [List.length_cons]; omega⟩, hd⟩
      show (mnq c l :: capL s l).sum = (left : Rat)
      rw [List.sum_cons, hL.s, mnq_c hcl, Rat.intCast_sub]
      grind
/-- The number, for a case. -/
theorem lv_char {cs : List Int} {e : Int} (h : CE cs e) : LV cs e (lv cs e) ∧ ∃ k : Int, (1 ≤ k ∧ k ≤ cs.length) ∧ ((lv cs e).den : Int) ∣ k := by
  have hp := srt_perm cs
  have hl1 := h.ok.l1
  obtain ⟨hL, k, hk, hd⟩ := lev_char (srt cs) e (srt_pw cs) (fun c hc => (h.ok.c c (hp.mem_iff.1 hc)).1) (by intro e2; have := srt_len cs; rw [e2] at this; simp at this; omega) h.e0 (by rw [perm_isum hp]; exact h.e1)
  refine ⟨⟨hL.l0, ?_, ?_⟩, k, ⟨hk.1, by have := srt_len cs; omega⟩, hd⟩
  · obtain ⟨c, hc, hcl⟩ := hL.lc
    exact ⟨c, hp.mem_iff.1 hc, hcl⟩
  · have := hL.s
    unfold capL at this ⊢
    rw [← perm_sum _ hp]
    exact this
theorem num_bd {q : Rat} {M : Int} (h0 : 0 ≤ q) (h1 : q ≤ (M : Rat)) : 0 ≤ q.num ∧ q.num ≤ M * (q.den : Int) := by
  have hdp := den_pos q
  have hne := cast_pos hdp
  have e := R_self q
  have hn : ((q.num : Int) : Rat) = q * ((q.den : Int) : Rat) := by
    conv => rhs; lhs; rw [e]
    exact (Rat.div_mul_cancel (Ne.symm (Rat.ne_of_lt hne))).symm
  constructor
  · refine Rat.intCast_le_intCast.1 ?_
    rw [hn, int0]
    exact Rat.mul_nonneg h0 (Rat.le_of_lt hne)
  · refine Rat.intCast_le_intCast.1 ?_
    rw [hn, Rat.intCast_mul]
    exact Rat.mul_le_mul_of_nonneg_right h1 (Rat.le_of_lt hne)
/-- Numbers from 0 to 1000 with a small denominator. -/
structure SQ (q : Rat) : Prop where
  q0 : 0 ≤ q
  q1 : q ≤ ((1000 : Int) : Rat)
  d : (q.den : Int) ≤ 1000
theorem SQ.num {q : Rat} (h : SQ q) : 0 ≤ q.num ∧ q.num ≤ 1000000 := by
  have := num_bd h.q0 h.q1
  have := h.d
  omega
theorem SQ.bd {q : Rat} (h : SQ q) : bdR (rp q) := by
  have h1 := h.num
  have h2 := h.d
  have h3 := den_pos q
  exact ⟨⟨by show 1 ≤ (q.den : Int); omega, by show (q.den : Int) ≤ 1000000; omega⟩, by show 0 ≤ q.num; omega, by show q.num ≤ 1000000000000; omega⟩
theorem SQ.int {c : Int} (h : 0 ≤ c ∧ c ≤ 1000) : SQ (c : Rat) := ⟨cast_nonneg h.1, Rat.intCast_le_intCast.2 h.2, by rw [Rat.den_intCast]; decide⟩
theorem SQ.mnq {c : Int} {l : Rat} (hc : 0 ≤ c ∧ c ≤ 1000) (hl : SQ l) : SQ (mnq c l) := by
  unfold Go.Proofs.Ytdcdjhhjlpegjaa.mnq
  split
  · exact SQ.int hc
  · exact hl
theorem lv_sq {cs : List Int} {e : Int} (h : CE cs e) : SQ (lv cs e) := by
  obtain ⟨hL, k, hk, hd⟩ := lv_char h
  have hl8 := h.ok.l8
  obtain ⟨c, hc, hcl⟩ := hL.lc
  have := Int.le_of_dvd (by omega) hd
  exact ⟨hL.l0, Rat.le_trans hcl (Rat.intCast_le_intCast.2 (h.ok.c c hc).2), by omega⟩
theorem mnq_iff {c : Int} {l : Rat} : c * (l.den : Int) < l.num ↔ (c : Rat) < l := by
  have hdp := den_pos l
  have hne := cast_pos hdp
  have e := R_self l
  have hn : ((l.num : Int) : Rat) = l * ((l.den : Int) : Rat) := by
    conv => rhs; lhs; rw [e]
    exact (Rat.div_mul_cancel (Ne.symm (Rat.ne_of_lt hne))).symm
  rw [← Rat.intCast_lt_intCast, hn, Rat.intCast_mul]
  constructor
  · intro h; exact Rat.lt_of_mul_lt_mul_right h (Rat.le_of_lt hne)
  · intro h; exact Rat.mul_lt_mul_of_pos_right h hne
end Go.Proofs.Ytdcdjhhjlpegjaa

