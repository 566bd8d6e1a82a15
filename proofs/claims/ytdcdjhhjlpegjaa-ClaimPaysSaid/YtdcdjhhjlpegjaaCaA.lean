/- What the law's proof rests on, part 3: for all that is said in each line. No conditions. -/
import Derived.Test.YtdcdjhhjlpegjaaRows
import Derived.Test.YtdcdjhhjlpegjaaEnB
namespace Go.Proofs.Ytdcdjhhjlpegjaa
open Go Go.Eng
/-- selion/claim.Validate [] -/
def m16 : MFun := ⟨18, [], [.mov (.s 4)],
 .seq (.ops [⟨(some 4), some undefA, none, false, .pu (.mov (.c (.int .i64 0)))⟩])
 (.seq (.seq (.ops [⟨(some 5), some undefA, none, false, .pu (.mov (.s 0))⟩,
   ⟨(some 6), some undefA, none, false, .call 53 [(.s 5)]⟩,
   ⟨(some 7), some undefA, none, false, .pu (.not (.s 6))⟩,
   ⟨(some 8), some undefA, none, false, .pu (.mov (.s 7))⟩,
   ⟨(some 9), some undefA, (some (8, false)), false, .pu (.mov (.s 1))⟩,
   ⟨(some 10), some undefA, (some (8, false)), false, .pu (.bin .lss (.s 9) (.c (.int .i64 0)))⟩,
   ⟨(some 11), some undefA, none, false, .pu (.pick (.s 8) (.c (.bool true)) (.s 10))⟩,
   ⟨(some 12), some undefA, none, false, .pu (.mov (.s 11))⟩,
   ⟨(some 13), some undefA, (some (12, false)), false, .pu (.mov (.s 1))⟩,
   ⟨(some 14), some undefA, (some (12, false)), false, .pu (.mov (.s 0))⟩,
   ⟨(some 15), some undefA, (some (12, false)), false, .call 54 [(.s 14)]⟩,
   ⟨(some 16), some undefA, (some (12, false)), false, .pu (.bin .gtr (.s 13) (.s 15))⟩,
   ⟨(some 17), some undefA, none, false, .pu (.pick (.s 12) (.c (.bool true)) (.s 16))⟩])
 (.cond (.s 17) (.seq (.ops [⟨(some 4), some undefA, none, false, .pu (.mov (.c (.int .i64 1)))⟩])
  (.ret))
 (.skip)))
 (.seq (.ops [⟨(some 4), some undefA, none, false, .pu (.mov (.c (.int .i64 0)))⟩])
 (.ret)))⟩
theorem t16 : trF Try.prog [] [] Try.f16 = some m16 := by kernel_rfl
/-- selion/selionlaw03.known [] -/
def m17 : MFun := ⟨34, [], [.mov (.s 0)],
 .seq (.ops [⟨(some 0), some undefA, none, false, .pu (.mov (.c (.bool false)))⟩])
 (.seq (.ops [⟨(some 6), some undefA, none, false, .ha (.blds 1 3 [.int .i64 0] [(0, 1, (.c (.int .i64 100))), (1, 1, (.c (.int .i64 200))), (2, 1, (.c (.int .i64 300)))])⟩,
   ⟨(some 7), some undefA, none, false, .call 21 [(.s 6), (.c (.int .i64 200))]⟩,
   ⟨(some 5), some undefA, none, false, .pu (.mov (.s 7))⟩,
   ⟨(some 8), some undefA, none, false, .pu (.extr 0 (.s 5))⟩,
   ⟨(some 9), some undefA, none, false, .pu (.extr 1 (.s 5))⟩,
   ⟨(some 1), some undefA, none, false, .pu (.mov (.s 8))⟩,
   ⟨(some 2), some undefA, none, false, .pu (.mov (.s 9))⟩])
 (.seq (.ops [⟨(some 11), some undefA, none, false, .ha (.blds 1 3 [.int .i64 0] [(0, 1, (.c (.int .i64 1))), (1, 1, (.c (.int .i64 1))), (2, 1, (.c (.int .i64 1)))])⟩,
   ⟨(some 12), some undefA, none, false, .call 31 [(.s 11), (.c (.int .i64 2))]⟩,
   ⟨(some 10), some undefA, none, false, .pu (.mov (.s 12))⟩,
   ⟨(some 13), some undefA, none, false, .pu (.extr 0 (.s 10))⟩,
   ⟨(some 14), some undefA, none, false, .pu (.extr 1 (.s 10))⟩,
   ⟨(some 3), some undefA, none, false, .pu (.mov (.s 13))⟩,
   ⟨(some 4), some undefA, none, false, .pu (.mov (.s 14))⟩])
 (.seq (.ops [⟨(some 15), some undefA, none, false, .pu (.mov (.s 2))⟩,
   ⟨(some 16), some undefA, none, false, .pu (.bin .eql (.s 15) (.c (.int .i64 0)))⟩,
   ⟨(some 17), some undefA, none, false, .pu (.mov (.s 16))⟩,
   ⟨(some 18), some undefA, (some (17, true)), false, .pu (.mov (.s 1))⟩,
   ⟨(some 19), some undefA, (some (17, true)), false, .pu (.build [.int .i64 0, .int .i64 0] [(0, 1, (.c (.int .i64 50))), (1, 1, (.c (.int .i64 1)))])⟩,
   ⟨(some 20), some undefA, (some (17, true)), false, .pu (.build [.int .i64 0, .int .i64 0] [(0, 1, (.c (.int .i64 75))), (1, 1, (.c (.int .i64 1)))])⟩,
   ⟨(some 21), some undefA, (some (17, true)), false, .pu (.build [.int .i64 0, .int .i64 0] [(0, 1, (.c (.int .i64 75))), (1, 1, (.c (.int .i64 1)))])⟩,
   ⟨(some 22), some undefA, (some (17, true)), false, .ha (.blds 2 3 [.int .i64 0, .int .i64 0] [(0, 2, (.s 19)), (2, 2, (.s 20)), (4, 2, (.s 21))])⟩,
   ⟨(some 23), some undefA, (some (17, true)), false, .call 30 [(.s 18), (.s 22)]⟩,
   ⟨(some 24), some undefA, none, false, .pu (.pick (.s 17) (.s 23) (.c (.bool false)))⟩,
   ⟨(some 25), some undefA, none, false, .pu (.mov (.s 24))⟩,
   ⟨(some 26), some undefA, (some (25, true)), false, .pu (.mov (.s 4))⟩,
   ⟨(some 27), some undefA, (some (25, true)), false, .pu (.bin .eql (.s 26) (.c (.int .i64 0)))⟩,
   ⟨(some 28), some undefA, none, false, .pu (.pick (.s 25) (.s 27) (.c (.bool false)))⟩,
   ⟨(some 29), some undefA, none, false, .pu (.mov (.s 28))⟩,
   ⟨(some 30), some undefA, (some (29, true)), false, .pu (.mov (.s 3))⟩,
   ⟨(some 31), some undefA, (some (29, true)), false, .ha (.blds 1 3 [.int .i64 0] [(0, 1, (.c (.int .i64 1))), (1, 1, (.c (.int .i64 1))), (2, 1, (.c (.int .i64 0)))])⟩,
   ⟨(some 32), some undefA, (some (29, true)), false, .call 26 [(.s 30), (.s 31)]⟩,
   ⟨(some 33), some undefA, none, false, .pu (.pick (.s 29) (.s 32) (.c (.bool false)))⟩,
   ⟨(some 0), some undefA, none, false, .pu (.mov (.s 33))⟩])
 (.ret))))⟩
theorem t17 : trF Try.prog [] [] Try.f17 = some m17 := by kernel_rfl
/-- selion/claim.ByCourt [] -/
def m21 : MFun := ⟨11, [], [.mov (.s 4), .mov (.s 5)],
 .seq (.ops [⟨(some 4), some undefA, none, false, .pu (.mov (.c (.nilS)))⟩,
   ⟨(some 5), some undefA, none, false, .pu (.mov (.c (.int .i64 0)))⟩])
 (.seq (.ops [⟨(some 6), some undefA, none, false, .pu (.mov (.s 0))⟩,
   ⟨(some 7), some undefA, none, false, .pu (.mov (.s 1))⟩,
   ⟨(some 8), some undefA, none, false, .call 55 [(.c (.int .i64 3)), (.s 6), (.s 7)]⟩,
   ⟨(some 9), some undefA, none, false, .pu (.extr 0 (.s 8))⟩,
   ⟨(some 10), some undefA, none, false, .pu (.extr 1 (.s 8))⟩,
   ⟨(some 4), some undefA, none, false, .pu (.mov (.s 9))⟩,
   ⟨(some 5), some undefA, none, false, .pu (.mov (.s 10))⟩])
 (.ret))⟩
theorem t21 : trF Try.prog [] [] Try.f21 = some m21 := by kernel_rfl
/-- selion/selionref01.SameInts [loop [0, 1, 5]] -/
def m26 : MFun := ⟨26, [], [.mov (.s 4)],
 .seq (.ops [⟨(some 4), some undefA, none, false, .pu (.mov (.c (.bool false)))⟩])
 (.seq (.seq (.ops [⟨(some 6), some undefA, none, false, .pu (.mov (.s 0))⟩,
   ⟨(some 7), some undefA, none, false, .pu (.len (.s 6))⟩,
   ⟨(some 8), some undefA, none, false, .pu (.mov (.s 1))⟩,
   ⟨(some 9), some undefA, none, false, .pu (.len (.s 8))⟩,
   ⟨(some 10), some undefA, none, false, .pu (.bin .neq (.s 7) (.s 9))⟩])
 (.cond (.s 10) (.seq (.ops [⟨(some 4), some undefA, none, false, .pu (.mov (.c (.bool false)))⟩])
  (.ret))
 (.skip)))
 (.seq (.seq (.ops [⟨(some 5), some undefA, none, false, .pu (.mov (.c (.int .i64 0)))⟩])
 (.block 0 (.loop (.seq (.seq (.ops [⟨(some 11), some undefA, none, false, .pu (.mov (.s 5))⟩,
     ⟨(some 12), some undefA, none, false, .pu (.mov (.s 0))⟩,
     ⟨(some 13), some undefA, none, false, .pu (.len (.s 12))⟩,
     ⟨(some 14), some undefA, none, false, .pu (.bin .lss (.s 11) (.s 13))⟩])
   (.cond (.s 14) (.skip)
   (.exit 0)))
   (.seq (.block 1 (.seq (.ops [⟨(some 17), some undefA, none, true, .pu (.mov (.s 0))⟩,
      ⟨(some 18), some undefA, none, true, .pu (.mov (.s 5))⟩,
      ⟨(some 19), some undefA, none, true, .pu (.idx 1 (.s 17) (.s 18))⟩,
      ⟨(some 20), some undefA, none, true, .ld (.ld 1 false (.s 19))⟩,
      ⟨(some 21), some undefA, none, true, .pu (.mov (.s 1))⟩,
      ⟨(some 22), some undefA, none, true, .pu (.mov (.s 5))⟩,
      ⟨(some 23), some undefA, none, true, .pu (.idx 1 (.s 21) (.s 22))⟩,
      ⟨(some 24), some undefA, none, true, .ld (.ld 1 false (.s 23))⟩,
      ⟨(some 25), some undefA, none, false, .pu (.bin .neq (.s 20) (.s 24))⟩])
    (.cond (.s 25) (.seq (.ops [⟨(some 4), some undefA, none, false, .pu (.mov (.c (.bool false)))⟩])
     (.ret))
    (.skip))))
   (.ops [⟨(some 15), some undefA, none, false, .pu (.mov (.s 5))⟩,
     ⟨(some 16), some undefA, none, false, .pu (.bin .add (.s 15) (.c (.int .i64 1)))⟩,
     ⟨(some 5), some undefA, none, false, .pu (.mov (.s 16))⟩]))))))
 (.seq (.ops [⟨(some 4), some undefA, none, false, .pu (.mov (.c (.bool true)))⟩])
 (.ret))))⟩
theorem t26 : trF Try.prog [] [] Try.f26 = some m26 := by kernel_rfl
/-- selion/selionref03.SameRats [loop [0, 1, 5]] -/
def m30 : MFun := ⟨26, [], [.mov (.s 4)],
 .seq (.ops [⟨(some 4), some undefA, none, false, .pu (.mov (.c (.bool false)))⟩])
 (.seq (.seq (.ops [⟨(some 6), some undefA, none, false, .pu (.mov (.s 0))⟩,
   ⟨(some 7), some undefA, none, false, .pu (.len (.s 6))⟩,
   ⟨(some 8), some undefA, none, false, .pu (.mov (.s 1))⟩,
   ⟨(some 9), some undefA, none, false, .pu (.len (.s 8))⟩,
   ⟨(some 10), some undefA, none, false, .pu (.bin .neq (.s 7) (.s 9))⟩])
 (.cond (.s 10) (.seq (.ops [⟨(some 4), some undefA, none, false, .pu (.mov (.c (.bool false)))⟩])
  (.ret))
 (.skip)))
 (.seq (.seq (.ops [⟨(some 5), some undefA, none, false, .pu (.mov (.c (.int .i64 0)))⟩])
 (.block 0 (.loop (.seq (.seq (.ops [⟨(some 11), some undefA, none, false, .pu (.mov (.s 5))⟩,
     ⟨(some 12), some undefA, none, false, .pu (.mov (.s 0))⟩,
     ⟨(some 13), some undefA, none, false, .pu (.len (.s 12))⟩,
     ⟨(some 14), some undefA, none, false, .pu (.bin .lss (.s 11) (.s 13))⟩])
   (.cond (.s 14) (.skip)
   (.exit 0)))
   (.seq (.block 1 (.seq (.ops [⟨(some 17), some undefA, none, true, .pu (.mov (.s 0))⟩,
      ⟨(some 18), some undefA, none, true, .pu (.mov (.s 5))⟩,
      ⟨(some 19), some undefA, none, true, .pu (.idx 2 (.s 17) (.s 18))⟩,
      ⟨(some 20), some undefA, none, true, .ld (.ld 2 true (.s 19))⟩,
      ⟨(some 21), some undefA, none, true, .pu (.mov (.s 1))⟩,
      ⟨(some 22), some undefA, none, true, .pu (.mov (.s 5))⟩,
      ⟨(some 23), some undefA, none, true, .pu (.idx 2 (.s 21) (.s 22))⟩,
      ⟨(some 24), some undefA, none, true, .ld (.ld 2 true (.s 23))⟩,
      ⟨(some 25), some undefA, none, false, .pu (.eqs true [true, true] (.s 20) (.s 24))⟩])
    (.cond (.s 25) (.seq (.ops [⟨(some 4), some undefA, none, false, .pu (.mov (.c (.bool false)))⟩])
     (.ret))
    (.skip))))
   (.ops [⟨(some 15), some undefA, none, false, .pu (.mov (.s 5))⟩,
     ⟨(some 16), some undefA, none, false, .pu (.bin .add (.s 15) (.c (.int .i64 1)))⟩,
     ⟨(some 5), some undefA, none, false, .pu (.mov (.s 16))⟩]))))))
 (.seq (.ops [⟨(some 4), some undefA, none, false, .pu (.mov (.c (.bool true)))⟩])
 (.ret))))⟩
theorem t30 : trF Try.prog [] [] Try.f30 = some m30 := by kernel_rfl
/-- selion/claim.Whole [loop [1, 7, 8, 9, 10, 30, 31, 32], loop [8, 9, 60, 61]] -/
def m31 : MFun := ⟨78, [], [.mov (.s 4), .mov (.s 5)],
 .seq (.ops [⟨(some 4), some undefA, none, false, .pu (.mov (.c (.nilS)))⟩,
   ⟨(some 5), some undefA, none, false, .pu (.mov (.c (.int .i64 0)))⟩])
 (.seq (.seq (.ops [⟨(some 14), some undefA, none, false, .pu (.mov (.s 0))⟩,
   ⟨(some 15), some undefA, none, false, .pu (.mov (.s 1))⟩,
   ⟨(some 16), some undefA, none, false, .call 16 [(.s 14), (.s 15)]⟩,
   ⟨(some 6), some undefA, none, false, .pu (.mov (.s 16))⟩])
 (.seq (.ops [⟨(some 17), some undefA, none, false, .pu (.mov (.s 6))⟩,
   ⟨(some 18), some undefA, none, false, .pu (.bin .neq (.s 17) (.c (.int .i64 0)))⟩])
 (.cond (.s 18) (.seq (.ops [⟨(some 19), some undefA, none, false, .pu (.mov (.s 6))⟩,
    ⟨(some 4), some undefA, none, false, .pu (.mov (.c (.nilS)))⟩,
    ⟨(some 5), some undefA, none, false, .pu (.mov (.s 19))⟩])
  (.ret))
 (.skip))))
 (.seq (.ops [⟨(some 20), some undefA, none, false, .pu (.mov (.s 0))⟩,
   ⟨(some 21), some undefA, none, false, .call 54 [(.s 20)]⟩,
   ⟨(some 22), some undefA, none, false, .pu (.mm true (.c (.int .i64 1)) [(.s 21)])⟩,
   ⟨(some 7), some undefA, none, false, .pu (.mov (.s 22))⟩])
 (.seq (.ops [⟨(some 23), some undefA, none, false, .pu (.mov (.s 0))⟩,
   ⟨(some 24), some undefA, none, false, .pu (.len (.s 23))⟩,
   ⟨(some 25), some undefA, none, false, .ha (.mks 1 [.int .i64 0] (.s 24) (.s 24))⟩,
   ⟨(some 8), some undefA, none, false, .pu (.mov (.s 25))⟩])
 (.seq (.ops [⟨(some 26), some undefA, none, false, .pu (.mov (.s 0))⟩,
   ⟨(some 27), some undefA, none, false, .pu (.len (.s 26))⟩,
   ⟨(some 28), some undefA, none, false, .ha (.mks 1 [.int .i64 0] (.s 27) (.s 27))⟩,
   ⟨(some 9), some undefA, none, false, .pu (.mov (.s 28))⟩])
 (.seq (.ops [⟨(some 29), some undefA, none, false, .pu (.mov (.s 1))⟩,
   ⟨(some 10), some undefA, none, false, .pu (.mov (.s 29))⟩])
 (.seq (.seq (.ops [⟨(some 30), some undefA, none, false, .pu (.mov (.s 0))⟩,
   ⟨(some 31), some undefA, none, false, .pu (.len (.s 30))⟩,
   ⟨(some 32), some undefA, none, false, .pu (.mov (.c (.int .i64 0)))⟩])
 (.block 0 (.loop (.seq (.ops [⟨(some 33), some undefA, none, false, .pu (.bin .lss (.s 32) (.s 31))⟩])
   (.seq (.cond (.s 33) (.skip)
   (.exit 0))
   (.seq (.block 1 (.seq (.ops [⟨(some 34), some undefA, none, false, .pu (.mov (.s 32))⟩,
      ⟨(some 35), some undefA, none, false, .pu (.idx 1 (.s 30) (.s 32))⟩,
      ⟨(some 36), some undefA, none, false, .ld (.ld 1 false (.s 35))⟩,
      ⟨(some 11), some undefA, none, false, .pu (.mov (.s 34))⟩,
      ⟨(some 12), some undefA, none, false, .pu (.mov (.s 36))⟩])
    (.seq (.ops [⟨(some 37), some undefA, none, false, .pu (.mov (.s 9))⟩,
      ⟨(some 38), some undefA, none, false, .pu (.mov (.s 11))⟩,
      ⟨(some 39), some undefA, none, false, .pu (.mov (.s 8))⟩,
      ⟨(some 40), some undefA, none, false, .pu (.mov (.s 11))⟩,
      ⟨(some 41), some undefA, none, false, .pu (.mov (.s 12))⟩,
      ⟨(some 42), some undefA, none, false, .pu (.mov (.s 1))⟩,
      ⟨(some 43), some undefA, none, false, .pu (.bin .mul (.s 41) (.s 42))⟩,
      ⟨(some 44), some undefA, none, false, .pu (.mov (.s 7))⟩,
      ⟨(some 45), some undefA, none, false, .pu (.bin .quo (.s 43) (.s 44))⟩,
      ⟨(some 46), some undefA, none, false, .pu (.mov (.s 12))⟩,
      ⟨(some 47), some undefA, none, false, .pu (.mov (.s 1))⟩,
      ⟨(some 48), some undefA, none, false, .pu (.bin .mul (.s 46) (.s 47))⟩,
      ⟨(some 49), some undefA, none, false, .pu (.mov (.s 7))⟩,
      ⟨(some 50), some undefA, none, false, .pu (.bin .rem (.s 48) (.s 49))⟩,
      ⟨(some 51), some undefA, none, false, .pu (.idx 1 (.s 37) (.s 38))⟩,
      ⟨none, some undefA, none, false, .ha (.st 1 (.s 51) (.s 45))⟩,
      ⟨(some 52), some undefA, none, false, .pu (.idx 1 (.s 39) (.s 40))⟩,
      ⟨none, some undefA, none, false, .ha (.st 1 (.s 52) (.s 50))⟩])
    (.ops [⟨(some 53), some undefA, none, false, .pu (.mov (.s 10))⟩,
      ⟨(some 54), some undefA, none, false, .pu (.mov (.s 9))⟩,
      ⟨(some 55), some undefA, none, false, .pu (.mov (.s 11))⟩,
      ⟨(some 56), some undefA, none, false, .pu (.idx 1 (.s 54) (.s 55))⟩,
      ⟨(some 57), some undefA, none, false, .ld (.ld 1 false (.s 56))⟩,
      ⟨(some 58), some undefA, none, false, .pu (.bin .sub (.s 53) (.s 57))⟩,
      ⟨(some 10), some undefA, none, false, .pu (.mov (.s 58))⟩]))))
   (.ops [⟨(some 59), some undefA, none, false, .pu (.bin .add (.s 32) (.c (.int .i64 1)))⟩,
     ⟨(some 32), some undefA, none, false, .pu (.mov (.s 59))⟩])))))))
 (.seq (.seq (.ops [⟨(some 60), some undefA, none, false, .pu (.mov (.s 10))⟩,
   ⟨(some 61), some undefA, none, false, .pu (.mov (.c (.int .i64 0)))⟩])
 (.block 2 (.loop (.seq (.ops [⟨(some 62), some undefA, none, false, .pu (.bin .lss (.s 61) (.s 60))⟩])
   (.seq (.cond (.s 62) (.skip)
   (.exit 2))
   (.seq (.block 3 (.seq (.ops [⟨(some 63), some undefA, none, false, .pu (.mov (.s 8))⟩,
      ⟨(some 64), some undefA, none, false, .pu (.mov (.s 8))⟩,
      ⟨(some 65), some undefA, none, false, .call 64 [(.s 64)]⟩,
      ⟨(some 66), some undefA, none, false, .call 63 [(.s 63), (.s 65)]⟩,
      ⟨(some 13), some undefA, none, false, .pu (.mov (.s 66))⟩])
    (.seq (.ops [⟨(some 67), some undefA, none, false, .pu (.mov (.s 9))⟩,
      ⟨(some 68), some undefA, none, false, .pu (.mov (.s 13))⟩,
      ⟨(some 69), some undefA, none, false, .pu (.idx 1 (.s 67) (.s 68))⟩,
      ⟨(some 70), some undefA, none, false, .ld (.ld 1 false (.s 69))⟩,
      ⟨(some 71), some undefA, none, false, .pu (.bin .add (.s 70) (.c (.int .i64 1)))⟩,
      ⟨(some 72), some undefA, none, false, .pu (.idx 1 (.s 67) (.s 68))⟩,
      ⟨none, some undefA, none, false, .ha (.st 1 (.s 72) (.s 71))⟩])
    (.ops [⟨(some 73), some undefA, none, false, .pu (.mov (.s 8))⟩,
      ⟨(some 74), some undefA, none, false, .pu (.mov (.s 13))⟩,
      ⟨(some 75), some undefA, none, false, .pu (.idx 1 (.s 73) (.s 74))⟩,
      ⟨none, some undefA, none, false, .ha (.st 1 (.s 75) (.c (.int .i64 (-1))))⟩]))))
   (.ops [⟨(some 76), some undefA, none, false, .pu (.bin .add (.s 61) (.c (.int .i64 1)))⟩,
     ⟨(some 61), some undefA, none, false, .pu (.mov (.s 76))⟩])))))))
 (.seq (.ops [⟨(some 77), some undefA, none, false, .pu (.mov (.s 9))⟩,
   ⟨(some 4), some undefA, none, false, .pu (.mov (.s 77))⟩,
   ⟨(some 5), some undefA, none, false, .pu (.mov (.c (.int .i64 0)))⟩])
 (.ret)))))))))⟩
theorem t31 : trF Try.prog [] [] Try.f31 = some m31 := by kernel_rfl
/-- selion/claim.isClaims [] -/
def m53 : MFun := ⟨16, [], [.mov (.s 2)],
 .seq (.ops [⟨(some 2), some undefA, none, false, .pu (.mov (.c (.bool false)))⟩])
 (.seq (.ops [⟨(some 3), some undefA, none, false, .pu (.mov (.s 0))⟩,
   ⟨(some 4), some undefA, none, false, .pu (.len (.s 3))⟩,
   ⟨(some 5), some undefA, none, false, .pu (.bin .geq (.s 4) (.c (.int .i64 1)))⟩,
   ⟨(some 6), some undefA, none, false, .pu (.mov (.s 5))⟩,
   ⟨(some 7), some undefA, (some (6, true)), false, .pu (.mov (.s 0))⟩,
   ⟨(some 8), some undefA, (some (6, true)), false, .pu (.len (.s 7))⟩,
   ⟨(some 9), some undefA, (some (6, true)), false, .pu (.bin .leq (.s 8) (.c (.int .i64 8)))⟩,
   ⟨(some 10), some undefA, none, false, .pu (.pick (.s 6) (.s 9) (.c (.bool false)))⟩,
   ⟨(some 11), some undefA, none, false, .pu (.mov (.s 10))⟩,
   ⟨(some 12), some undefA, (some (11, true)), false, .pu (.mov (.s 0))⟩,
   ⟨(some 13), some undefA, (some (11, true)), false, .call 57 [(.s 12), (.c (.fn 78 []))]⟩,
   ⟨(some 14), some undefA, (some (11, true)), false, .pu (.not (.s 13))⟩,
   ⟨(some 15), some undefA, none, false, .pu (.pick (.s 11) (.s 14) (.c (.bool false)))⟩,
   ⟨(some 2), some undefA, none, false, .pu (.mov (.s 15))⟩])
 (.ret))⟩
theorem t53 : trF Try.prog [] [] Try.f53 = some m53 := by kernel_rfl
/-- selion/claim.total [loop [3, 6, 7, 8]] -/
def m54 : MFun := ⟨17, [], [.mov (.s 2)],
 .seq (.ops [⟨(some 2), some undefA, none, false, .pu (.mov (.c (.int .i64 0)))⟩])
 (.seq (.ops [⟨(some 3), some undefA, none, false, .pu (.mov (.c (.int .i64 0)))⟩])
 (.seq (.seq (.ops [⟨(some 6), some undefA, none, false, .pu (.mov (.s 0))⟩,
   ⟨(some 7), some undefA, none, false, .pu (.len (.s 6))⟩,
   ⟨(some 8), some undefA, none, false, .pu (.mov (.c (.int .i64 0)))⟩])
 (.block 0 (.loop (.seq (.ops [⟨(some 9), some undefA, none, false, .pu (.bin .lss (.s 8) (.s 7))⟩])
   (.seq (.cond (.s 9) (.skip)
   (.exit 0))
   (.seq (.block 1 (.seq (.ops [⟨(some 10), some undefA, none, false, .pu (.idx 1 (.s 6) (.s 8))⟩,
      ⟨(some 11), some undefA, none, false, .ld (.ld 1 false (.s 10))⟩,
      ⟨(some 5), some undefA, none, false, .pu (.mov (.s 11))⟩])
    (.ops [⟨(some 12), some undefA, none, false, .pu (.mov (.s 3))⟩,
      ⟨(some 13), some undefA, none, false, .pu (.mov (.s 5))⟩,
      ⟨(some 14), some undefA, none, false, .pu (.bin .add (.s 12) (.s 13))⟩,
      ⟨(some 3), some undefA, none, false, .pu (.mov (.s 14))⟩])))
   (.ops [⟨(some 15), some undefA, none, false, .pu (.bin .add (.s 8) (.c (.int .i64 1)))⟩,
     ⟨(some 8), some undefA, none, false, .pu (.mov (.s 15))⟩])))))))
 (.seq (.ops [⟨(some 16), some undefA, none, false, .pu (.mov (.s 3))⟩,
   ⟨(some 2), some undefA, none, false, .pu (.mov (.s 16))⟩])
 (.ret))))⟩
theorem t54 : trF Try.prog [] [] Try.f54 = some m54 := by kernel_rfl
/-- selion/claim.by [] -/
def m55 : MFun := ⟨22, [], [.mov (.s 6), .mov (.s 7)],
 .seq (.ops [⟨(some 6), some undefA, none, false, .pu (.mov (.c (.nilS)))⟩,
   ⟨(some 7), some undefA, none, false, .pu (.mov (.c (.int .i64 0)))⟩])
 (.seq (.seq (.ops [⟨(some 9), some undefA, none, false, .pu (.mov (.s 1))⟩,
   ⟨(some 10), some undefA, none, false, .pu (.mov (.s 2))⟩,
   ⟨(some 11), some undefA, none, false, .call 16 [(.s 9), (.s 10)]⟩,
   ⟨(some 8), some undefA, none, false, .pu (.mov (.s 11))⟩])
 (.seq (.ops [⟨(some 12), some undefA, none, false, .pu (.mov (.s 8))⟩,
   ⟨(some 13), some undefA, none, false, .pu (.bin .neq (.s 12) (.c (.int .i64 0)))⟩])
 (.cond (.s 13) (.seq (.ops [⟨(some 14), some undefA, none, false, .pu (.mov (.s 8))⟩,
    ⟨(some 6), some undefA, none, false, .pu (.mov (.c (.nilS)))⟩,
    ⟨(some 7), some undefA, none, false, .pu (.mov (.s 14))⟩])
  (.ret))
 (.skip))))
 (.seq (.ops [⟨(some 15), some undefA, none, false, .call 79 []⟩,
   ⟨(some 16), some undefA, none, false, .pu (.mov (.s 0))⟩,
   ⟨(some 17), some undefA, none, false, .pu (.aidx 4 1 true (.s 15) (.s 16))⟩,
   ⟨(some 18), some undefA, none, false, .pu (.part 0 1 false (.s 17))⟩,
   ⟨(some 19), some undefA, none, false, .pu (.mov (.s 1))⟩,
   ⟨(some 20), some undefA, none, false, .pu (.mov (.s 2))⟩,
   ⟨(some 21), some undefA, none, false, .callv (.s 18) [(.s 19), (.s 20)]⟩,
   ⟨(some 6), some undefA, none, false, .pu (.mov (.s 21))⟩,
   ⟨(some 7), some undefA, none, false, .pu (.mov (.c (.int .i64 0)))⟩])
 (.ret)))⟩
theorem t55 : trF Try.prog [] [] Try.f55 = some m55 := by kernel_rfl
/-- slices.ContainsFunc[[]int,int] [] -/
def m57 : MFun := ⟨9, [], [.mov (.s 4)],
 .seq (.ops [⟨(some 4), some undefA, none, false, .pu (.mov (.c (.bool false)))⟩])
 (.seq (.ops [⟨(some 5), some undefA, none, false, .pu (.mov (.s 0))⟩,
   ⟨(some 6), some undefA, none, false, .pu (.mov (.s 1))⟩,
   ⟨(some 7), some undefA, none, false, .call 81 [(.s 5), (.s 6)]⟩,
   ⟨(some 8), some undefA, none, false, .pu (.bin .geq (.s 7) (.c (.int .i64 0)))⟩,
   ⟨(some 4), some undefA, none, false, .pu (.mov (.s 8))⟩])
 (.ret))⟩
theorem t57 : trF Try.prog [] [] Try.f57 = some m57 := by kernel_rfl
/-- selion/claim.ratio [] -/
def m61 : MFun := ⟨16, [4], [.bget none 4 0 2 true],
 .seq (.ops [⟨(some 4), some (.junk), none, false, .pu (.bnew (.c (.agg [.int .i64 0, .int .i64 0])))⟩])
 (.seq (.ops [⟨(some 6), some undefA, none, false, .pu (.mov (.s 0))⟩,
   ⟨(some 7), some undefA, none, false, .pu (.mov (.s 1))⟩,
   ⟨(some 8), some undefA, none, false, .call 82 [(.s 6), (.s 7)]⟩,
   ⟨(some 5), some undefA, none, false, .pu (.mov (.s 8))⟩])
 (.seq (.ops [⟨(some 9), some undefA, none, false, .pu (.mov (.s 0))⟩,
   ⟨(some 10), some undefA, none, false, .pu (.mov (.s 5))⟩,
   ⟨(some 11), some undefA, none, false, .pu (.bin .quo (.s 9) (.s 10))⟩,
   ⟨(some 12), some undefA, none, false, .pu (.mov (.s 1))⟩,
   ⟨(some 13), some undefA, none, false, .pu (.mov (.s 5))⟩,
   ⟨(some 14), some undefA, none, false, .pu (.bin .quo (.s 12) (.s 13))⟩,
   ⟨(some 15), some undefA, none, false, .pu (.build [.int .i64 0, .int .i64 0] [(0, 1, (.s 11)), (1, 1, (.s 14))])⟩,
   ⟨(some 4), none, none, false, .pu (.bset none 4 0 2 (.s 15))⟩])
 (.ret)))⟩
theorem t61 : trF Try.prog [4] [] Try.f61 = some m61 := by kernel_rfl
/-- slices.Index[[]int,int] [loop [0, 1, 7, 8]] -/
def m63 : MFun := ⟨19, [], [.mov (.s 4)],
 .seq (.ops [⟨(some 4), some undefA, none, false, .pu (.mov (.c (.int .i64 0)))⟩])
 (.seq (.seq (.ops [⟨(some 6), some undefA, none, false, .pu (.mov (.s 0))⟩,
   ⟨(some 7), some undefA, none, false, .pu (.len (.s 6))⟩,
   ⟨(some 8), some undefA, none, false, .pu (.mov (.c (.int .i64 0)))⟩])
 (.block 0 (.loop (.seq (.ops [⟨(some 9), some undefA, none, false, .pu (.bin .lss (.s 8) (.s 7))⟩])
   (.seq (.cond (.s 9) (.skip)
   (.exit 0))
   (.seq (.block 1 (.seq (.ops [⟨(some 10), some undefA, none, false, .pu (.mov (.s 8))⟩,
      ⟨(some 5), some undefA, none, false, .pu (.mov (.s 10))⟩])
    (.seq (.ops [⟨(some 11), some undefA, none, false, .pu (.mov (.s 1))⟩,
      ⟨(some 12), some undefA, none, false, .pu (.mov (.s 0))⟩,
      ⟨(some 13), some undefA, none, false, .pu (.mov (.s 5))⟩,
      ⟨(some 14), some undefA, none, false, .pu (.idx 1 (.s 12) (.s 13))⟩,
      ⟨(some 15), some undefA, none, false, .ld (.ld 1 false (.s 14))⟩,
      ⟨(some 16), some undefA, none, false, .pu (.bin .eql (.s 11) (.s 15))⟩])
    (.cond (.s 16) (.seq (.ops [⟨(some 17), some undefA, none, false, .pu (.mov (.s 5))⟩,
       ⟨(some 4), some undefA, none, false, .pu (.mov (.s 17))⟩])
     (.ret))
    (.skip)))))
   (.ops [⟨(some 18), some undefA, none, false, .pu (.bin .add (.s 8) (.c (.int .i64 1)))⟩,
     ⟨(some 8), some undefA, none, false, .pu (.mov (.s 18))⟩])))))))
 (.seq (.ops [⟨(some 4), some undefA, none, false, .pu (.mov (.c (.int .i64 (-1))))⟩])
 (.ret)))⟩
theorem t63 : trF Try.prog [] [] Try.f63 = some m63 := by kernel_rfl
/-- slices.Max[[]int,int] [loop [0, 3, 4]] -/
def m64 : MFun := ⟨25, [], [.mov (.s 2)],
 .seq (.ops [⟨(some 2), some undefA, none, false, .pu (.mov (.c (.int .i64 0)))⟩])
 (.seq (.seq (.ops [⟨(some 5), some undefA, none, false, .pu (.mov (.s 0))⟩,
   ⟨(some 6), some undefA, none, false, .pu (.len (.s 5))⟩,
   ⟨(some 7), some undefA, none, false, .pu (.bin .lss (.s 6) (.c (.int .i64 1)))⟩])
 (.cond (.s 7) (.ops [⟨(some 8), some undefA, none, false, .pu (.fail)⟩,
    ⟨none, some undefA, none, false, .pu (.fail)⟩])
 (.skip)))
 (.seq (.ops [⟨(some 9), some undefA, none, false, .pu (.mov (.s 0))⟩,
   ⟨(some 10), some undefA, none, false, .pu (.idx 1 (.s 9) (.c (.int .i64 0)))⟩,
   ⟨(some 11), some undefA, none, false, .ld (.ld 1 false (.s 10))⟩,
   ⟨(some 3), some undefA, none, false, .pu (.mov (.s 11))⟩])
 (.seq (.seq (.ops [⟨(some 4), some undefA, none, false, .pu (.mov (.c (.int .i64 1)))⟩])
 (.block 0 (.loop (.seq (.seq (.ops [⟨(some 12), some undefA, none, false, .pu (.mov (.s 4))⟩,
     ⟨(some 13), some undefA, none, false, .pu (.mov (.s 0))⟩,
     ⟨(some 14), some undefA, none, false, .pu (.len (.s 13))⟩,
     ⟨(some 15), some undefA, none, false, .pu (.bin .lss (.s 12) (.s 14))⟩])
   (.cond (.s 15) (.skip)
   (.exit 0)))
   (.seq (.block 1 (.ops [⟨(some 18), some undefA, none, false, .pu (.mov (.s 3))⟩,
      ⟨(some 19), some undefA, none, false, .pu (.mov (.s 0))⟩,
      ⟨(some 20), some undefA, none, false, .pu (.mov (.s 4))⟩,
      ⟨(some 21), some undefA, none, false, .pu (.idx 1 (.s 19) (.s 20))⟩,
      ⟨(some 22), some undefA, none, false, .ld (.ld 1 false (.s 21))⟩,
      ⟨(some 23), some undefA, none, false, .pu (.mm true (.s 18) [(.s 22)])⟩,
      ⟨(some 3), some undefA, none, false, .pu (.mov (.s 23))⟩]))
   (.ops [⟨(some 16), some undefA, none, false, .pu (.mov (.s 4))⟩,
     ⟨(some 17), some undefA, none, false, .pu (.bin .add (.s 16) (.c (.int .i64 1)))⟩,
     ⟨(some 4), some undefA, none, false, .pu (.mov (.s 17))⟩]))))))
 (.seq (.ops [⟨(some 24), some undefA, none, false, .pu (.mov (.s 3))⟩,
   ⟨(some 2), some undefA, none, false, .pu (.mov (.s 24))⟩])
 (.ret)))))⟩
theorem t64 : trF Try.prog [] [] Try.f64 = some m64 := by kernel_rfl
/-- slices.Sort[[]int,int] [] -/
def m72 : MFun := ⟨11, [], [],
 .seq (.ops [⟨(some 3), some undefA, none, false, .pu (.mov (.s 0))⟩,
   ⟨(some 4), some undefA, none, false, .pu (.len (.s 3))⟩,
   ⟨(some 2), some undefA, none, false, .pu (.mov (.s 4))⟩])
 (.ops [⟨(some 5), some undefA, none, false, .pu (.mov (.s 0))⟩,
   ⟨(some 6), some undefA, none, false, .pu (.mov (.s 2))⟩,
   ⟨(some 7), some undefA, none, false, .pu (.mov (.s 2))⟩,
   ⟨(some 8), some undefA, none, false, .pu (.conv .u64 (.s 7))⟩,
   ⟨(some 9), some undefA, none, false, .call 84 [(.s 8)]⟩,
   ⟨(some 10), some undefA, none, false, .call 83 [(.s 5), (.c (.int .i64 0)), (.s 6), (.s 9)]⟩])⟩
theorem t72 : trF Try.prog [] [] Try.f72 = some m72 := by kernel_rfl
/-- selion/claim.isClaims$1 [] -/
def m78 : MFun := ⟨9, [], [.mov (.s 2)],
 .seq (.ops [⟨(some 2), some undefA, none, false, .pu (.mov (.c (.bool false)))⟩])
 (.seq (.ops [⟨(some 3), some undefA, none, false, .pu (.mov (.s 0))⟩,
   ⟨(some 4), some undefA, none, false, .pu (.bin .lss (.s 3) (.c (.int .i64 0)))⟩,
   ⟨(some 5), some undefA, none, false, .pu (.mov (.s 4))⟩,
   ⟨(some 6), some undefA, (some (5, false)), false, .pu (.mov (.s 0))⟩,
   ⟨(some 7), some undefA, (some (5, false)), false, .pu (.bin .gtr (.s 6) (.c (.int .i64 1000)))⟩,
   ⟨(some 8), some undefA, none, false, .pu (.pick (.s 5) (.c (.bool true)) (.s 7))⟩,
   ⟨(some 2), some undefA, none, false, .pu (.mov (.s 8))⟩])
 (.ret))⟩
theorem t78 : trF Try.prog [] [] Try.f78 = some m78 := by kernel_rfl
/-- selion/claim.rules [] -/
def m79 : MFun := ⟨12, [0], [.bget none 0 0 4 true],
 .seq (.ops [⟨(some 0), some (.junk), none, false, .pu (.bnew (.c (.agg [.nilF, .nilF, .nilF, .nilF])))⟩])
 (.seq (.ops [⟨(some 1), some undefA, none, false, .ha (.newv (.c (.nilF)))⟩,
   ⟨none, some undefA, none, false, .ha (.st 1 (.s 1) (.c (.fn 87 [])))⟩])
 (.seq (.ops [⟨(some 3), some undefA, none, false, .pu (.mkf 89 [(.s 1)])⟩,
   ⟨(some 2), some undefA, none, false, .ha (.newv (.c (.nilF)))⟩,
   ⟨none, some undefA, none, false, .ha (.st 1 (.s 2) (.s 3))⟩])
 (.seq (.ops [⟨(some 4), some undefA, none, false, .pu (.build [.nilF] [(0, 1, (.c (.fn 90 [])))])⟩,
   ⟨(some 5), some undefA, none, false, .ld (.ld 1 false (.s 1))⟩,
   ⟨(some 6), some undefA, none, false, .pu (.build [.nilF] [(0, 1, (.s 5))])⟩,
   ⟨(some 7), some undefA, none, false, .ld (.ld 1 false (.s 2))⟩,
   ⟨(some 8), some undefA, none, false, .pu (.build [.nilF] [(0, 1, (.s 7))])⟩,
   ⟨(some 9), some undefA, none, false, .pu (.mkf 91 [(.s 1), (.s 2)])⟩,
   ⟨(some 10), some undefA, none, false, .pu (.build [.nilF] [(0, 1, (.s 9))])⟩,
   ⟨(some 11), some undefA, none, false, .pu (.build [.nilF, .nilF, .nilF, .nilF] [(0, 1, (.s 4)), (1, 1, (.s 6)), (2, 1, (.s 8)), (3, 1, (.s 10))])⟩,
   ⟨(some 0), none, none, false, .pu (.bset none 0 0 4 (.s 11))⟩])
 (.ret))))⟩
theorem t79 : trF Try.prog [0] [] Try.f79 = some m79 := by kernel_rfl
/-- slices.IndexFunc[[]int,int] [loop [0, 1, 7, 8]] -/
def m81 : MFun := ⟨19, [], [.mov (.s 4)],
 .seq (.ops [⟨(some 4), some undefA, none, false, .pu (.mov (.c (.int .i64 0)))⟩])
 (.seq (.seq (.ops [⟨(some 6), some undefA, none, false, .pu (.mov (.s 0))⟩,
   ⟨(some 7), some undefA, none, false, .pu (.len (.s 6))⟩,
   ⟨(some 8), some undefA, none, false, .pu (.mov (.c (.int .i64 0)))⟩])
 (.block 0 (.loop (.seq (.ops [⟨(some 9), some undefA, none, false, .pu (.bin .lss (.s 8) (.s 7))⟩])
   (.seq (.cond (.s 9) (.skip)
   (.exit 0))
   (.seq (.block 1 (.seq (.ops [⟨(some 10), some undefA, none, false, .pu (.mov (.s 8))⟩,
      ⟨(some 5), some undefA, none, false, .pu (.mov (.s 10))⟩])
    (.seq (.ops [⟨(some 11), some undefA, none, false, .pu (.mov (.s 1))⟩,
      ⟨(some 12), some undefA, none, false, .pu (.mov (.s 0))⟩,
      ⟨(some 13), some undefA, none, false, .pu (.mov (.s 5))⟩,
      ⟨(some 14), some undefA, none, false, .pu (.idx 1 (.s 12) (.s 13))⟩,
      ⟨(some 15), some undefA, none, false, .ld (.ld 1 false (.s 14))⟩,
      ⟨(some 16), some undefA, none, false, .callv (.s 11) [(.s 15)]⟩])
    (.cond (.s 16) (.seq (.ops [⟨(some 17), some undefA, none, false, .pu (.mov (.s 5))⟩,
       ⟨(some 4), some undefA, none, false, .pu (.mov (.s 17))⟩])
     (.ret))
    (.skip)))))
   (.ops [⟨(some 18), some undefA, none, false, .pu (.bin .add (.s 8) (.c (.int .i64 1)))⟩,
     ⟨(some 8), some undefA, none, false, .pu (.mov (.s 18))⟩])))))))
 (.seq (.ops [⟨(some 4), some undefA, none, false, .pu (.mov (.c (.int .i64 (-1))))⟩])
 (.ret)))⟩
theorem t81 : trF Try.prog [] [] Try.f81 = some m81 := by kernel_rfl
/-- selion/claim.gcd [loop [0, 1]] -/
def m82 : MFun := ⟨15, [], [.mov (.s 4)],
 .seq (.ops [⟨(some 4), some undefA, none, false, .pu (.mov (.c (.int .i64 0)))⟩])
 (.seq (.block 0 (.loop (.seq (.seq (.ops [⟨(some 5), some undefA, none, false, .pu (.mov (.s 1))⟩,
     ⟨(some 6), some undefA, none, false, .pu (.bin .neq (.s 5) (.c (.int .i64 0)))⟩])
   (.cond (.s 6) (.skip)
   (.exit 0)))
   (.block 1 (.ops [⟨(some 7), some undefA, none, false, .pu (.mov (.s 1))⟩,
      ⟨(some 8), some undefA, none, false, .pu (.mov (.s 0))⟩,
      ⟨(some 9), some undefA, none, false, .pu (.mov (.s 1))⟩,
      ⟨(some 10), some undefA, none, false, .pu (.bin .rem (.s 8) (.s 9))⟩,
      ⟨(some 0), some undefA, none, false, .pu (.mov (.s 7))⟩,
      ⟨(some 1), some undefA, none, false, .pu (.mov (.s 10))⟩])))))
 (.seq (.ops [⟨(some 11), some undefA, none, false, .pu (.mov (.s 0))⟩,
   ⟨(some 12), some undefA, none, false, .pu (.mov (.s 0))⟩,
   ⟨(some 13), some undefA, none, false, .pu (.neg (.s 12))⟩,
   ⟨(some 14), some undefA, none, false, .pu (.mm true (.s 11) [(.s 13)])⟩,
   ⟨(some 4), some undefA, none, false, .pu (.mov (.s 14))⟩])
 (.ret)))⟩
theorem t82 : trF Try.prog [] [] Try.f82 = some m82 := by kernel_rfl
/-- slices.pdqsortOrdered[int] [loop [0, 1, 2, 3, 8, 9]] -/
def m83 : MFun := ⟨134, [], [],
 .seq (.ops [⟨(some 8), some undefA, none, false, .pu (.mov (.c (.bool true)))⟩])
 (.seq (.ops [⟨(some 9), some undefA, none, false, .pu (.mov (.c (.bool true)))⟩])
 (.block 0 (.loop (.block 1 (.seq (.ops [⟨(some 19), some undefA, none, false, .pu (.mov (.s 2))⟩,
      ⟨(some 20), some undefA, none, false, .pu (.mov (.s 1))⟩,
      ⟨(some 21), some undefA, none, false, .pu (.bin .sub (.s 19) (.s 20))⟩,
      ⟨(some 10), some undefA, none, false, .pu (.mov (.s 21))⟩])
    (.seq (.seq (.ops [⟨(some 22), some undefA, none, false, .pu (.mov (.s 10))⟩,
      ⟨(some 23), some undefA, none, false, .pu (.bin .leq (.s 22) (.c (.int .i64 12)))⟩])
    (.cond (.s 23) (.seq (.ops [⟨(some 24), some undefA, none, false, .pu (.mov (.s 0))⟩,
       ⟨(some 25), some undefA, none, false, .pu (.mov (.s 1))⟩,
       ⟨(some 26), some undefA, none, false, .pu (.mov (.s 2))⟩,
       ⟨(some 27), some undefA, none, false, .call 92 [(.s 24), (.s 25), (.s 26)]⟩])
     (.ret))
    (.skip)))
    (.seq (.seq (.ops [⟨(some 28), some undefA, none, false, .pu (.mov (.s 3))⟩,
      ⟨(some 29), some undefA, none, false, .pu (.bin .eql (.s 28) (.c (.int .i64 0)))⟩])
    (.cond (.s 29) (.seq (.ops [⟨(some 30), some undefA, none, false, .pu (.mov (.s 0))⟩,
       ⟨(some 31), some undefA, none, false, .pu (.mov (.s 1))⟩,
       ⟨(some 32), some undefA, none, false, .pu (.mov (.s 2))⟩,
       ⟨(some 33), some undefA, none, false, .call 93 [(.s 30), (.s 31), (.s 32)]⟩])
     (.ret))
    (.skip)))
    (.seq (.seq (.ops [⟨(some 34), some undefA, none, false, .pu (.mov (.s 8))⟩,
      ⟨(some 35), some undefA, none, false, .pu (.not (.s 34))⟩])
    (.cond (.s 35) (.seq (.ops [⟨(some 36), some undefA, none, false, .pu (.mov (.s 0))⟩,
       ⟨(some 37), some undefA, none, false, .pu (.mov (.s 1))⟩,
       ⟨(some 38), some undefA, none, false, .pu (.mov (.s 2))⟩,
       ⟨(some 39), some undefA, none, false, .call 94 [(.s 36), (.s 37), (.s 38)]⟩])
     (.ops [⟨(some 40), some undefA, none, false, .pu (.mov (.s 3))⟩,
       ⟨(some 41), some undefA, none, false, .pu (.bin .sub (.s 40) (.c (.int .i64 1)))⟩,
       ⟨(some 3), some undefA, none, false, .pu (.mov (.s 41))⟩]))
    (.skip)))
    (.seq (.ops [⟨(some 43), some undefA, none, false, .pu (.mov (.s 0))⟩,
      ⟨(some 44), some undefA, none, false, .pu (.mov (.s 1))⟩,
      ⟨(some 45), some undefA, none, false, .pu (.mov (.s 2))⟩,
      ⟨(some 46), some undefA, none, false, .call 95 [(.s 43), (.s 44), (.s 45)]⟩,
      ⟨(some 42), some undefA, none, false, .pu (.mov (.s 46))⟩,
      ⟨(some 47), some undefA, none, false, .pu (.extr 0 (.s 42))⟩,
      ⟨(some 48), some undefA, none, false, .pu (.extr 1 (.s 42))⟩,
      ⟨(some 11), some undefA, none, false, .pu (.mov (.s 47))⟩,
      ⟨(some 12), some undefA, none, false, .pu (.mov (.s 48))⟩])
    (.seq (.seq (.ops [⟨(some 49), some undefA, none, false, .pu (.mov (.s 12))⟩,
      ⟨(some 50), some undefA, none, false, .pu (.bin .eql (.s 49) (.c (.int .i64 2)))⟩])
    (.cond (.s 50) (.seq (.ops [⟨(some 51), some undefA, none, false, .pu (.mov (.s 0))⟩,
       ⟨(some 52), some undefA, none, false, .pu (.mov (.s 1))⟩,
       ⟨(some 53), some undefA, none, false, .pu (.mov (.s 2))⟩,
       ⟨(some 54), some undefA, none, false, .call 96 [(.s 51), (.s 52), (.s 53)]⟩])
     (.seq (.ops [⟨(some 55), some undefA, none, false, .pu (.mov (.s 2))⟩,
       ⟨(some 56), some undefA, none, false, .pu (.bin .sub (.s 55) (.c (.int .i64 1)))⟩,
       ⟨(some 57), some undefA, none, false, .pu (.mov (.s 11))⟩,
       ⟨(some 58), some undefA, none, false, .pu (.mov (.s 1))⟩,
       ⟨(some 59), some undefA, none, false, .pu (.bin .sub (.s 57) (.s 58))⟩,
       ⟨(some 60), some undefA, none, false, .pu (.bin .sub (.s 56) (.s 59))⟩,
       ⟨(some 11), some undefA, none, false, .pu (.mov (.s 60))⟩])
     (.ops [⟨(some 12), some undefA, none, false, .pu (.mov (.c (.int .i64 1)))⟩])))
    (.skip)))
    (.seq (.seq (.ops [⟨(some 61), some undefA, none, false, .pu (.mov (.s 8))⟩,
      ⟨(some 62), some undefA, none, false, .pu (.mov (.s 61))⟩,
      ⟨(some 63), some undefA, (some (62, true)), false, .pu (.mov (.s 9))⟩,
      ⟨(some 64), some undefA, none, false, .pu (.pick (.s 62) (.s 63) (.c (.bool false)))⟩,
      ⟨(some 65), some undefA, none, false, .pu (.mov (.s 64))⟩,
      ⟨(some 66), some undefA, (some (65, true)), false, .pu (.mov (.s 12))⟩,
      ⟨(some 67), some undefA, (some (65, true)), false, .pu (.bin .eql (.s 66) (.c (.int .i64 1)))⟩,
      ⟨(some 68), some undefA, none, false, .pu (.pick (.s 65) (.s 67) (.c (.bool false)))⟩])
    (.cond (.s 68) (.seq (.ops [⟨(some 69), some undefA, none, false, .pu (.mov (.s 0))⟩,
       ⟨(some 70), some undefA, none, false, .pu (.mov (.s 1))⟩,
       ⟨(some 71), some undefA, none, false, .pu (.mov (.s 2))⟩,
       ⟨(some 72), some undefA, none, false, .call 97 [(.s 69), (.s 70), (.s 71)]⟩])
     (.cond (.s 72) (.ret)
     (.skip)))
    (.skip)))
    (.seq (.seq (.ops [⟨(some 73), some undefA, none, false, .pu (.mov (.s 1))⟩,
      ⟨(some 74), some undefA, none, false, .pu (.bin .gtr (.s 73) (.c (.int .i64 0)))⟩,
      ⟨(some 75), some undefA, none, false, .pu (.mov (.s 74))⟩,
      ⟨(some 76), some undefA, (some (75, true)), true, .pu (.mov (.s 0))⟩,
      ⟨(some 77), some undefA, (some (75, true)), true, .pu (.mov (.s 1))⟩,
      ⟨(some 78), some undefA, (some (75, true)), true, .pu (.bin .sub (.s 77) (.c (.int .i64 1)))⟩,
      ⟨(some 79), some undefA, (some (75, true)), true, .pu (.idx 1 (.s 76) (.s 78))⟩,
      ⟨(some 80), some undefA, (some (75, true)), true, .ld (.ld 1 false (.s 79))⟩,
      ⟨(some 81), some undefA, (some (75, true)), true, .pu (.mov (.s 0))⟩,
      ⟨(some 82), some undefA, (some (75, true)), true, .pu (.mov (.s 11))⟩,
      ⟨(some 83), some undefA, (some (75, true)), true, .pu (.idx 1 (.s 81) (.s 82))⟩,
      ⟨(some 84), some undefA, (some (75, true)), true, .ld (.ld 1 false (.s 83))⟩,
      ⟨(some 85), some undefA, (some (75, true)), false, .call 98 [(.s 80), (.s 84)]⟩,
      ⟨(some 86), some undefA, (some (75, true)), false, .pu (.not (.s 85))⟩,
      ⟨(some 87), some undefA, none, false, .pu (.pick (.s 75) (.s 86) (.c (.bool false)))⟩])
    (.cond (.s 87) (.seq (.ops [⟨(some 88), some undefA, none, false, .pu (.mov (.s 0))⟩,
       ⟨(some 89), some undefA, none, false, .pu (.mov (.s 1))⟩,
       ⟨(some 90), some undefA, none, false, .pu (.mov (.s 2))⟩,
       ⟨(some 91), some undefA, none, false, .pu (.mov (.s 11))⟩,
       ⟨(some 92), some undefA, none, false, .call 99 [(.s 88), (.s 89), (.s 90), (.s 91)]⟩,
       ⟨(some 13), some undefA, none, false, .pu (.mov (.s 92))⟩])
     (.seq (.ops [⟨(some 93), some undefA, none, false, .pu (.mov (.s 13))⟩,
       ⟨(some 1), some undefA, none, false, .pu (.mov (.s 93))⟩])
     (.exit 1)))
    (.skip)))
    (.seq (.ops [⟨(some 95), some undefA, none, false, .pu (.mov (.s 0))⟩,
      ⟨(some 96), some undefA, none, false, .pu (.mov (.s 1))⟩,
      ⟨(some 97), some undefA, none, false, .pu (.mov (.s 2))⟩,
      ⟨(some 98), some undefA, none, false, .pu (.mov (.s 11))⟩,
      ⟨(some 99), some undefA, none, false, .call 100 [(.s 95), (.s 96), (.s 97), (.s 98)]⟩,
      ⟨(some 94), some undefA, none, false, .pu (.mov (.s 99))⟩,
      ⟨(some 100), some undefA, none, false, .pu (.extr 0 (.s 94))⟩,
      ⟨(some 101), some undefA, none, false, .pu (.extr 1 (.s 94))⟩,
      ⟨(some 14), some undefA, none, false, .pu (.mov (.s 100))⟩,
      ⟨(some 15), some undefA, none, false, .pu (.mov (.s 101))⟩])
    (.seq (.ops [⟨(some 102), some undefA, none, false, .pu (.mov (.s 15))⟩,
      ⟨(some 9), some undefA, none, false, .pu (.mov (.s 102))⟩])
    (.seq (.ops [⟨(some 103), some undefA, none, false, .pu (.mov (.s 14))⟩,
      ⟨(some 104), some undefA, none, false, .pu (.mov (.s 1))⟩,
      ⟨(some 105), some undefA, none, false, .pu (.bin .sub (.s 103) (.s 104))⟩,
      ⟨(some 106), some undefA, none, false, .pu (.mov (.s 2))⟩,
      ⟨(some 107), some undefA, none, false, .pu (.mov (.s 14))⟩,
      ⟨(some 108), some undefA, none, false, .pu (.bin .sub (.s 106) (.s 107))⟩,
      ⟨(some 16), some undefA, none, false, .pu (.mov (.s 105))⟩,
      ⟨(some 17), some undefA, none, false, .pu (.mov (.s 108))⟩])
    (.seq (.ops [⟨(some 109), some undefA, none, false, .pu (.mov (.s 10))⟩,
      ⟨(some 110), some undefA, none, false, .pu (.bin .quo (.s 109) (.c (.int .i64 8)))⟩,
      ⟨(some 18), some undefA, none, false, .pu (.mov (.s 110))⟩])
    (.seq (.ops [⟨(some 111), some undefA, none, false, .pu (.mov (.s 16))⟩,
      ⟨(some 112), some undefA, none, false, .pu (.mov (.s 17))⟩,
      ⟨(some 113), some undefA, none, false, .pu (.bin .lss (.s 111) (.s 112))⟩])
    (.cond (.s 113) (.seq (.ops [⟨(some 114), some undefA, none, false, .pu (.mov (.s 16))⟩,
       ⟨(some 115), some undefA, none, false, .pu (.mov (.s 18))⟩,
       ⟨(some 116), some undefA, none, false, .pu (.bin .geq (.s 114) (.s 115))⟩,
       ⟨(some 8), some undefA, none, false, .pu (.mov (.s 116))⟩])
     (.seq (.ops [⟨(some 117), some undefA, none, false, .pu (.mov (.s 0))⟩,
       ⟨(some 118), some undefA, none, false, .pu (.mov (.s 1))⟩,
       ⟨(some 119), some undefA, none, false, .pu (.mov (.s 14))⟩,
       ⟨(some 120), some undefA, none, false, .pu (.mov (.s 3))⟩,
       ⟨(some 121), some undefA, none, false, .call 83 [(.s 117), (.s 118), (.s 119), (.s 120)]⟩])
     (.ops [⟨(some 122), some undefA, none, false, .pu (.mov (.s 14))⟩,
       ⟨(some 123), some undefA, none, false, .pu (.bin .add (.s 122) (.c (.int .i64 1)))⟩,
       ⟨(some 1), some undefA, none, false, .pu (.mov (.s 123))⟩])))
    (.seq (.ops [⟨(some 124), some undefA, none, false, .pu (.mov (.s 17))⟩,
       ⟨(some 125), some undefA, none, false, .pu (.mov (.s 18))⟩,
       ⟨(some 126), some undefA, none, false, .pu (.bin .geq (.s 124) (.s 125))⟩,
       ⟨(some 8), some undefA, none, false, .pu (.mov (.s 126))⟩])
     (.seq (.ops [⟨(some 127), some undefA, none, false, .pu (.mov (.s 0))⟩,
       ⟨(some 128), some undefA, none, false, .pu (.mov (.s 14))⟩,
       ⟨(some 129), some undefA, none, false, .pu (.bin .add (.s 128) (.c (.int .i64 1)))⟩,
       ⟨(some 130), some undefA, none, false, .pu (.mov (.s 2))⟩,
       ⟨(some 131), some undefA, none, false, .pu (.mov (.s 3))⟩,
       ⟨(some 132), some undefA, none, false, .call 83 [(.s 127), (.s 129), (.s 130), (.s 131)]⟩])
     (.ops [⟨(some 133), some undefA, none, false, .pu (.mov (.s 14))⟩,
       ⟨(some 2), some undefA, none, false, .pu (.mov (.s 133))⟩])))))))))))))))))))))⟩
theorem t83 : trF Try.prog [] [] Try.f83 = some m83 := by kernel_rfl
/-- math/bits.Len [] -/
def m84 : MFun := ⟨8, [], [.mov (.s 2)],
 .seq (.ops [⟨(some 2), some undefA, none, false, .pu (.mov (.c (.int .i64 0)))⟩])
 (.seq (.cond (.c (.bool false)) (.seq (.ops [⟨(some 3), some undefA, none, false, .pu (.mov (.s 0))⟩,
    ⟨(some 4), some undefA, none, false, .pu (.conv .u32 (.s 3))⟩,
    ⟨(some 5), some undefA, none, false, .call 101 [(.s 4)]⟩,
    ⟨(some 2), some undefA, none, false, .pu (.mov (.s 5))⟩])
  (.ret))
 (.skip))
 (.seq (.ops [⟨(some 6), some undefA, none, false, .pu (.mov (.s 0))⟩,
   ⟨(some 7), some undefA, none, false, .call 102 [(.s 6)]⟩,
   ⟨(some 2), some undefA, none, false, .pu (.mov (.s 7))⟩])
 (.ret)))⟩
theorem t84 : trF Try.prog [] [] Try.f84 = some m84 := by kernel_rfl
/-- selion/claim.level [loop [0, 4, 5, 6, 15, 16, 17]] -/
def m85 : MFun := ⟨41, [4], [.bget none 4 0 2 true],
 .seq (.ops [⟨(some 4), some (.junk), none, false, .pu (.bnew (.c (.agg [.int .i64 0, .int .i64 0])))⟩])
 (.seq (.ops [⟨(some 10), some undefA, none, false, .pu (.mov (.s 0))⟩,
   ⟨(some 11), some undefA, none, false, .call 103 [(.s 10)]⟩,
   ⟨(some 5), some undefA, none, false, .pu (.mov (.s 11))⟩])
 (.seq (.ops [⟨(some 12), some undefA, none, false, .pu (.mov (.s 5))⟩,
   ⟨(some 13), some undefA, none, false, .call 72 [(.s 12)]⟩])
 (.seq (.ops [⟨(some 14), some undefA, none, false, .pu (.mov (.s 1))⟩,
   ⟨(some 6), some undefA, none, false, .pu (.mov (.s 14))⟩])
 (.seq (.seq (.ops [⟨(some 15), some undefA, none, false, .pu (.mov (.s 5))⟩,
   ⟨(some 16), some undefA, none, false, .pu (.len (.s 15))⟩,
   ⟨(some 17), some undefA, none, false, .pu (.mov (.c (.int .i64 0)))⟩])
 (.block 0 (.loop (.seq (.ops [⟨(some 18), some undefA, none, false, .pu (.bin .lss (.s 17) (.s 16))⟩])
   (.seq (.cond (.s 18) (.skip)
   (.exit 0))
   (.seq (.block 1 (.seq (.ops [⟨(some 19), some undefA, none, false, .pu (.mov (.s 17))⟩,
      ⟨(some 20), some undefA, none, false, .pu (.idx 1 (.s 15) (.s 17))⟩,
      ⟨(some 21), some undefA, none, false, .ld (.ld 1 false (.s 20))⟩,
      ⟨(some 7), some undefA, none, false, .pu (.mov (.s 19))⟩,
      ⟨(some 8), some undefA, none, false, .pu (.mov (.s 21))⟩])
    (.seq (.seq (.ops [⟨(some 22), some undefA, none, false, .pu (.mov (.s 5))⟩,
      ⟨(some 23), some undefA, none, false, .pu (.len (.s 22))⟩,
      ⟨(some 24), some undefA, none, false, .pu (.mov (.s 7))⟩,
      ⟨(some 25), some undefA, none, false, .pu (.bin .sub (.s 23) (.s 24))⟩,
      ⟨(some 9), some undefA, none, false, .pu (.mov (.s 25))⟩])
    (.seq (.ops [⟨(some 26), some undefA, none, false, .pu (.mov (.s 8))⟩,
      ⟨(some 27), some undefA, none, false, .pu (.mov (.s 9))⟩,
      ⟨(some 28), some undefA, none, false, .pu (.bin .mul (.s 26) (.s 27))⟩,
      ⟨(some 29), some undefA, none, false, .pu (.mov (.s 6))⟩,
      ⟨(some 30), some undefA, none, false, .pu (.bin .geq (.s 28) (.s 29))⟩])
    (.cond (.s 30) (.seq (.ops [⟨(some 31), some undefA, none, false, .pu (.mov (.s 6))⟩,
       ⟨(some 32), some undefA, none, false, .pu (.mov (.s 9))⟩,
       ⟨(some 33), some undefA, none, false, .call 61 [(.s 31), (.s 32)]⟩,
       ⟨(some 4), none, none, false, .pu (.bset none 4 0 2 (.s 33))⟩])
     (.ret))
    (.skip))))
    (.ops [⟨(some 34), some undefA, none, false, .pu (.mov (.s 6))⟩,
      ⟨(some 35), some undefA, none, false, .pu (.mov (.s 8))⟩,
      ⟨(some 36), some undefA, none, false, .pu (.bin .sub (.s 34) (.s 35))⟩,
      ⟨(some 6), some undefA, none, false, .pu (.mov (.s 36))⟩]))))
   (.ops [⟨(some 37), some undefA, none, false, .pu (.bin .add (.s 17) (.c (.int .i64 1)))⟩,
     ⟨(some 17), some undefA, none, false, .pu (.mov (.s 37))⟩])))))))
 (.seq (.ops [⟨(some 38), some undefA, none, false, .pu (.mov (.s 0))⟩,
   ⟨(some 39), some undefA, none, false, .call 64 [(.s 38)]⟩,
   ⟨(some 40), some undefA, none, false, .call 61 [(.s 39), (.c (.int .i64 1))]⟩,
   ⟨(some 4), none, none, false, .pu (.bset none 4 0 2 (.s 40))⟩])
 (.ret))))))⟩
theorem t85 : trF Try.prog [4] [] Try.f85 = some m85 := by kernel_rfl
/-- selion/claim.rules$1 [] -/
def m87 : MFun := ⟨10, [], [.mov (.s 4)],
 .seq (.ops [⟨(some 4), some undefA, none, false, .pu (.mov (.c (.nilS)))⟩])
 (.seq (.ops [⟨(some 5), some undefA, none, false, .pu (.mov (.s 0))⟩,
   ⟨(some 6), some undefA, none, false, .pu (.mov (.s 0))⟩,
   ⟨(some 7), some undefA, none, false, .pu (.mov (.s 1))⟩,
   ⟨(some 8), some undefA, none, false, .call 85 [(.s 6), (.s 7)]⟩,
   ⟨(some 9), some undefA, none, false, .call 88 [(.s 5), (.s 8)]⟩,
   ⟨(some 4), some undefA, none, false, .pu (.mov (.s 9))⟩])
 (.ret))⟩
theorem t87 : trF Try.prog [] [] Try.f87 = some m87 := by kernel_rfl
/-- selion/claim.capped [loop [3, 5, 8, 9, 10]] -/
def m88 : MFun := ⟨32, [3], [.mov (.s 4)],
 .seq (.ops [⟨(some 3), some (.junk), none, false, .pu (.bnew (.s 1))⟩,
   ⟨(some 4), some undefA, none, false, .pu (.mov (.c (.nilS)))⟩])
 (.seq (.ops [⟨(some 5), some undefA, none, false, .pu (.mov (.c (.nilS)))⟩])
 (.seq (.seq (.ops [⟨(some 8), some undefA, none, false, .pu (.mov (.s 0))⟩,
   ⟨(some 9), some undefA, none, false, .pu (.len (.s 8))⟩,
   ⟨(some 10), some undefA, none, false, .pu (.mov (.c (.int .i64 0)))⟩])
 (.block 0 (.loop (.seq (.ops [⟨(some 11), some undefA, none, false, .pu (.bin .lss (.s 10) (.s 9))⟩])
   (.seq (.cond (.s 11) (.skip)
   (.exit 0))
   (.seq (.block 1 (.seq (.ops [⟨(some 12), some undefA, none, false, .pu (.idx 1 (.s 8) (.s 10))⟩,
      ⟨(some 13), some undefA, none, false, .ld (.ld 1 false (.s 12))⟩,
      ⟨(some 7), some undefA, none, false, .pu (.mov (.s 13))⟩])
    (.seq (.ops [⟨(some 14), some undefA, none, false, .pu (.mov (.s 7))⟩,
      ⟨(some 15), some undefA, none, false, .pu (.badr none 3)⟩,
      ⟨(some 16), some undefA, none, false, .pu (.bget (some 15) 3 1 1 false)⟩,
      ⟨(some 17), some undefA, none, false, .pu (.bin .mul (.s 14) (.s 16))⟩,
      ⟨(some 18), some undefA, none, false, .pu (.badr none 3)⟩,
      ⟨(some 19), some undefA, none, false, .pu (.bget (some 18) 3 0 1 false)⟩,
      ⟨(some 20), some undefA, none, false, .pu (.bin .lss (.s 17) (.s 19))⟩])
    (.cond (.s 20) (.ops [⟨(some 21), some undefA, none, false, .pu (.mov (.s 5))⟩,
       ⟨(some 22), some undefA, none, false, .pu (.mov (.s 7))⟩,
       ⟨(some 23), some undefA, none, false, .call 61 [(.s 22), (.c (.int .i64 1))]⟩,
       ⟨(some 24), some undefA, none, false, .ha (.blds 2 1 [.int .i64 0, .int .i64 0] [(0, 2, (.s 23))])⟩,
       ⟨(some 25), some undefA, none, false, .ha (.app 2 (.s 21) (.s 24))⟩,
       ⟨(some 5), some undefA, none, false, .pu (.mov (.s 25))⟩])
    (.ops [⟨(some 26), some undefA, none, false, .pu (.mov (.s 5))⟩,
       ⟨(some 27), some undefA, none, false, .pu (.bget none 3 0 2 true)⟩,
       ⟨(some 28), some undefA, none, false, .ha (.blds 2 1 [.int .i64 0, .int .i64 0] [(0, 2, (.s 27))])⟩,
       ⟨(some 29), some undefA, none, false, .ha (.app 2 (.s 26) (.s 28))⟩,
       ⟨(some 5), some undefA, none, false, .pu (.mov (.s 29))⟩])))))
   (.ops [⟨(some 30), some undefA, none, false, .pu (.bin .add (.s 10) (.c (.int .i64 1)))⟩,
     ⟨(some 10), some undefA, none, false, .pu (.mov (.s 30))⟩])))))))
 (.seq (.ops [⟨(some 31), some undefA, none, false, .pu (.mov (.s 5))⟩,
   ⟨(some 4), some undefA, none, false, .pu (.mov (.s 31))⟩])
 (.ret))))⟩
theorem t88 : trF Try.prog [3] [] Try.f88 = some m88 := by kernel_rfl
/-- selion/claim.rules$2 [] -/
def m89 : MFun := ⟨15, [], [.mov (.s 5)],
 .seq (.ops [⟨(some 5), some undefA, none, false, .pu (.mov (.c (.nilS)))⟩])
 (.seq (.ops [⟨(some 6), some undefA, none, true, .pu (.mov (.s 0))⟩,
   ⟨(some 7), some undefA, none, true, .ld (.ld 1 false (.s 2))⟩,
   ⟨(some 8), some undefA, none, true, .pu (.mov (.s 0))⟩,
   ⟨(some 9), some undefA, none, true, .pu (.mov (.s 0))⟩,
   ⟨(some 10), some undefA, none, true, .call 54 [(.s 9)]⟩,
   ⟨(some 11), some undefA, none, true, .pu (.mov (.s 1))⟩,
   ⟨(some 12), some undefA, none, true, .pu (.bin .sub (.s 10) (.s 11))⟩,
   ⟨(some 13), some undefA, none, false, .callv (.s 7) [(.s 8), (.s 12)]⟩,
   ⟨(some 14), some undefA, none, false, .call 75 [(.s 6), (.s 13)]⟩,
   ⟨(some 5), some undefA, none, false, .pu (.mov (.s 14))⟩])
 (.ret))⟩
theorem t89 : trF Try.prog [] [] Try.f89 = some m89 := by kernel_rfl
/-- selion/claim.rules$3 [loop [0, 1, 5, 8, 9, 10]] -/
def m90 : MFun := ⟨26, [], [.mov (.s 4)],
 .seq (.ops [⟨(some 4), some undefA, none, false, .pu (.mov (.c (.nilS)))⟩])
 (.seq (.ops [⟨(some 5), some undefA, none, false, .pu (.mov (.c (.nilS)))⟩])
 (.seq (.seq (.ops [⟨(some 8), some undefA, none, false, .pu (.mov (.s 0))⟩,
   ⟨(some 9), some undefA, none, false, .pu (.len (.s 8))⟩,
   ⟨(some 10), some undefA, none, false, .pu (.mov (.c (.int .i64 0)))⟩])
 (.block 0 (.loop (.seq (.ops [⟨(some 11), some undefA, none, false, .pu (.bin .lss (.s 10) (.s 9))⟩])
   (.seq (.cond (.s 11) (.skip)
   (.exit 0))
   (.seq (.block 1 (.seq (.ops [⟨(some 12), some undefA, none, false, .pu (.idx 1 (.s 8) (.s 10))⟩,
      ⟨(some 13), some undefA, none, false, .ld (.ld 1 false (.s 12))⟩,
      ⟨(some 7), some undefA, none, false, .pu (.mov (.s 13))⟩])
    (.ops [⟨(some 14), some undefA, none, false, .pu (.mov (.s 5))⟩,
      ⟨(some 15), some undefA, none, false, .pu (.mov (.s 7))⟩,
      ⟨(some 16), some undefA, none, false, .pu (.mov (.s 1))⟩,
      ⟨(some 17), some undefA, none, false, .pu (.bin .mul (.s 15) (.s 16))⟩,
      ⟨(some 18), some undefA, none, false, .pu (.mov (.s 0))⟩,
      ⟨(some 19), some undefA, none, false, .call 54 [(.s 18)]⟩,
      ⟨(some 20), some undefA, none, false, .pu (.mm true (.c (.int .i64 1)) [(.s 19)])⟩,
      ⟨(some 21), some undefA, none, false, .call 61 [(.s 17), (.s 20)]⟩,
      ⟨(some 22), some undefA, none, false, .ha (.blds 2 1 [.int .i64 0, .int .i64 0] [(0, 2, (.s 21))])⟩,
      ⟨(some 23), some undefA, none, false, .ha (.app 2 (.s 14) (.s 22))⟩,
      ⟨(some 5), some undefA, none, false, .pu (.mov (.s 23))⟩])))
   (.ops [⟨(some 24), some undefA, none, false, .pu (.bin .add (.s 10) (.c (.int .i64 1)))⟩,
     ⟨(some 10), some undefA, none, false, .pu (.mov (.s 24))⟩])))))))
 (.seq (.ops [⟨(some 25), some undefA, none, false, .pu (.mov (.s 5))⟩,
   ⟨(some 4), some undefA, none, false, .pu (.mov (.s 25))⟩])
 (.ret))))⟩
theorem t90 : trF Try.prog [] [] Try.f90 = some m90 := by kernel_rfl
/-- selion/claim.rules$4 [loop [8, 23, 24, 25], loop [0, 8, 46, 47, 48]] -/
def m91 : MFun := ⟨72, [10, 12], [.mov (.s 6)],
 .seq (.ops [⟨(some 6), some undefA, none, false, .pu (.mov (.c (.nilS)))⟩])
 (.seq (.ops [⟨(some 13), some undefA, none, false, .pu (.mov (.s 0))⟩,
   ⟨(some 14), some undefA, none, false, .call 54 [(.s 13)]⟩,
   ⟨(some 7), some undefA, none, false, .pu (.mov (.s 14))⟩])
 (.seq (.ops [⟨(some 8), some undefA, none, false, .pu (.mov (.c (.nilS)))⟩])
 (.seq (.seq (.ops [⟨(some 15), some undefA, none, false, .pu (.mov (.s 1))⟩,
   ⟨(some 16), some undefA, none, false, .pu (.bin .mul (.c (.int .i64 2)) (.s 15))⟩,
   ⟨(some 17), some undefA, none, false, .pu (.mov (.s 7))⟩,
   ⟨(some 18), some undefA, none, false, .pu (.bin .leq (.s 16) (.s 17))⟩])
 (.cond (.s 18) (.seq (.seq (.ops [⟨(some 19), some undefA, none, false, .ld (.ld 1 false (.s 2))⟩,
    ⟨(some 20), some undefA, none, false, .pu (.mov (.s 0))⟩,
    ⟨(some 21), some undefA, none, false, .pu (.mov (.s 1))⟩,
    ⟨(some 22), some undefA, none, false, .pu (.bin .mul (.c (.int .i64 2)) (.s 21))⟩,
    ⟨(some 23), some undefA, none, false, .callv (.s 19) [(.s 20), (.s 22)]⟩,
    ⟨(some 24), some undefA, none, false, .pu (.len (.s 23))⟩,
    ⟨(some 25), some undefA, none, false, .pu (.mov (.c (.int .i64 0)))⟩])
  (.block 0 (.loop (.seq (.ops [⟨(some 26), some undefA, none, false, .pu (.bin .lss (.s 25) (.s 24))⟩])
    (.seq (.cond (.s 26) (.skip)
    (.exit 0))
    (.seq (.block 1 (.seq (.ops [⟨(some 27), some undefA, none, false, .pu (.idx 2 (.s 23) (.s 25))⟩,
       ⟨(some 28), some undefA, none, false, .ld (.ld 2 true (.s 27))⟩,
       ⟨(some 10), some (.junk), none, false, .pu (.bnew (.c (.agg [.int .i64 0, .int .i64 0])))⟩,
       ⟨(some 10), none, none, false, .pu (.bset none 10 0 2 (.s 28))⟩])
     (.ops [⟨(some 29), some undefA, none, false, .pu (.mov (.s 8))⟩,
       ⟨(some 30), some undefA, none, false, .pu (.badr none 10)⟩,
       ⟨(some 31), some undefA, none, false, .pu (.bget (some 30) 10 0 1 false)⟩,
       ⟨(some 32), some undefA, none, false, .pu (.badr none 10)⟩,
       ⟨(some 33), some undefA, none, false, .pu (.bget (some 32) 10 1 1 false)⟩,
       ⟨(some 34), some undefA, none, false, .pu (.bin .mul (.c (.int .i64 2)) (.s 33))⟩,
       ⟨(some 35), some undefA, none, false, .call 61 [(.s 31), (.s 34)]⟩,
       ⟨(some 36), some undefA, none, false, .ha (.blds 2 1 [.int .i64 0, .int .i64 0] [(0, 2, (.s 35))])⟩,
       ⟨(some 37), some undefA, none, false, .ha (.app 2 (.s 29) (.s 36))⟩,
       ⟨(some 8), some undefA, none, false, .pu (.mov (.s 37))⟩])))
    (.ops [⟨(some 38), some undefA, none, false, .pu (.bin .add (.s 25) (.c (.int .i64 1)))⟩,
      ⟨(some 25), some undefA, none, false, .pu (.mov (.s 38))⟩])))))))
  (.seq (.ops [⟨(some 39), some undefA, none, false, .pu (.mov (.s 8))⟩,
    ⟨(some 6), some undefA, none, false, .pu (.mov (.s 39))⟩])
  (.ret)))
 (.skip)))
 (.seq (.seq (.ops [⟨(some 40), some undefA, none, false, .ld (.ld 1 false (.s 3))⟩,
   ⟨(some 41), some undefA, none, false, .pu (.mov (.s 0))⟩,
   ⟨(some 42), some undefA, none, false, .pu (.mov (.s 1))⟩,
   ⟨(some 43), some undefA, none, false, .pu (.bin .mul (.c (.int .i64 2)) (.s 42))⟩,
   ⟨(some 44), some undefA, none, false, .pu (.mov (.s 7))⟩,
   ⟨(some 45), some undefA, none, false, .pu (.bin .sub (.s 43) (.s 44))⟩,
   ⟨(some 46), some undefA, none, false, .callv (.s 40) [(.s 41), (.s 45)]⟩,
   ⟨(some 47), some undefA, none, false, .pu (.len (.s 46))⟩,
   ⟨(some 48), some undefA, none, false, .pu (.mov (.c (.int .i64 0)))⟩])
 (.block 2 (.loop (.seq (.ops [⟨(some 49), some undefA, none, false, .pu (.bin .lss (.s 48) (.s 47))⟩])
   (.seq (.cond (.s 49) (.skip)
   (.exit 2))
   (.seq (.block 3 (.seq (.ops [⟨(some 50), some undefA, none, false, .pu (.mov (.s 48))⟩,
      ⟨(some 51), some undefA, none, false, .pu (.idx 2 (.s 46) (.s 48))⟩,
      ⟨(some 52), some undefA, none, false, .ld (.ld 2 true (.s 51))⟩,
      ⟨(some 12), some (.junk), none, false, .pu (.bnew (.c (.agg [.int .i64 0, .int .i64 0])))⟩,
      ⟨(some 11), some undefA, none, false, .pu (.mov (.s 50))⟩,
      ⟨(some 12), none, none, false, .pu (.bset none 12 0 2 (.s 52))⟩])
    (.ops [⟨(some 53), some undefA, none, true, .pu (.mov (.s 8))⟩,
      ⟨(some 54), some undefA, none, true, .pu (.badr none 12)⟩,
      ⟨(some 55), some undefA, none, true, .pu (.bget (some 54) 12 0 1 false)⟩,
      ⟨(some 56), some undefA, none, false, .pu (.mov (.s 0))⟩,
      ⟨(some 57), some undefA, none, false, .pu (.mov (.s 11))⟩,
      ⟨(some 58), some undefA, none, false, .pu (.idx 1 (.s 56) (.s 57))⟩,
      ⟨(some 59), some undefA, none, true, .ld (.ld 1 false (.s 58))⟩,
      ⟨(some 60), some undefA, none, true, .pu (.badr none 12)⟩,
      ⟨(some 61), some undefA, none, true, .pu (.bget (some 60) 12 1 1 false)⟩,
      ⟨(some 62), some undefA, none, false, .pu (.bin .mul (.s 59) (.s 61))⟩,
      ⟨(some 63), some undefA, none, false, .pu (.bin .add (.s 55) (.s 62))⟩,
      ⟨(some 64), some undefA, none, true, .pu (.badr none 12)⟩,
      ⟨(some 65), some undefA, none, true, .pu (.bget (some 64) 12 1 1 false)⟩,
      ⟨(some 66), some undefA, none, true, .pu (.bin .mul (.c (.int .i64 2)) (.s 65))⟩,
      ⟨(some 67), some undefA, none, false, .call 61 [(.s 63), (.s 66)]⟩,
      ⟨(some 68), some undefA, none, false, .ha (.blds 2 1 [.int .i64 0, .int .i64 0] [(0, 2, (.s 67))])⟩,
      ⟨(some 69), some undefA, none, false, .ha (.app 2 (.s 53) (.s 68))⟩,
      ⟨(some 8), some undefA, none, false, .pu (.mov (.s 69))⟩])))
   (.ops [⟨(some 70), some undefA, none, false, .pu (.bin .add (.s 48) (.c (.int .i64 1)))⟩,
     ⟨(some 48), some undefA, none, false, .pu (.mov (.s 70))⟩])))))))
 (.seq (.ops [⟨(some 71), some undefA, none, false, .pu (.mov (.s 8))⟩,
   ⟨(some 6), some undefA, none, false, .pu (.mov (.s 71))⟩])
 (.ret))))))⟩
theorem t91 : trF Try.prog [10, 12] [] Try.f91 = some m91 := by kernel_rfl
/-- slices.insertionSortOrdered[int] [loop [0, 1, 2, 6], loop [0, 1, 2, 6, 7]] -/
def m92 : MFun := ⟨49, [], [],
 .seq (.ops [⟨(some 8), some undefA, none, false, .pu (.mov (.s 1))⟩,
   ⟨(some 9), some undefA, none, false, .pu (.bin .add (.s 8) (.c (.int .i64 1)))⟩,
   ⟨(some 6), some undefA, none, false, .pu (.mov (.s 9))⟩])
 (.block 0 (.loop (.seq (.seq (.ops [⟨(some 10), some undefA, none, false, .pu (.mov (.s 6))⟩,
     ⟨(some 11), some undefA, none, false, .pu (.mov (.s 2))⟩,
     ⟨(some 12), some undefA, none, false, .pu (.bin .lss (.s 10) (.s 11))⟩])
   (.cond (.s 12) (.skip)
   (.exit 0)))
   (.seq (.block 1 (.seq (.ops [⟨(some 15), some undefA, none, false, .pu (.mov (.s 6))⟩,
      ⟨(some 7), some undefA, none, false, .pu (.mov (.s 15))⟩])
    (.block 2 (.loop (.seq (.seq (.ops [⟨(some 16), some undefA, none, false, .pu (.mov (.s 7))⟩,
        ⟨(some 17), some undefA, none, false, .pu (.mov (.s 1))⟩,
        ⟨(some 18), some undefA, none, false, .pu (.bin .gtr (.s 16) (.s 17))⟩,
        ⟨(some 19), some undefA, none, false, .pu (.mov (.s 18))⟩,
        ⟨(some 20), some undefA, (some (19, true)), true, .pu (.mov (.s 0))⟩,
        ⟨(some 21), some undefA, (some (19, true)), true, .pu (.mov (.s 7))⟩,
        ⟨(some 22), some undefA, (some (19, true)), true, .pu (.idx 1 (.s 20) (.s 21))⟩,
        ⟨(some 23), some undefA, (some (19, true)), true, .ld (.ld 1 false (.s 22))⟩,
        ⟨(some 24), some undefA, (some (19, true)), true, .pu (.mov (.s 0))⟩,
        ⟨(some 25), some undefA, (some (19, true)), true, .pu (.mov (.s 7))⟩,
        ⟨(some 26), some undefA, (some (19, true)), true, .pu (.bin .sub (.s 25) (.c (.int .i64 1)))⟩,
        ⟨(some 27), some undefA, (some (19, true)), true, .pu (.idx 1 (.s 24) (.s 26))⟩,
        ⟨(some 28), some undefA, (some (19, true)), true, .ld (.ld 1 false (.s 27))⟩,
        ⟨(some 29), some undefA, (some (19, true)), false, .call 98 [(.s 23), (.s 28)]⟩,
        ⟨(some 30), some undefA, none, false, .pu (.pick (.s 19) (.s 29) (.c (.bool false)))⟩])
      (.cond (.s 30) (.skip)
      (.exit 2)))
      (.seq (.block 3 (.ops [⟨(some 33), some undefA, none, true, .pu (.mov (.s 0))⟩,
         ⟨(some 34), some undefA, none, true, .pu (.mov (.s 7))⟩,
         ⟨(some 35), some undefA, none, true, .pu (.mov (.s 0))⟩,
         ⟨(some 36), some undefA, none, true, .pu (.mov (.s 7))⟩,
         ⟨(some 37), some undefA, none, true, .pu (.bin .sub (.s 36) (.c (.int .i64 1)))⟩,
         ⟨(some 38), some undefA, none, true, .pu (.mov (.s 0))⟩,
         ⟨(some 39), some undefA, none, true, .pu (.mov (.s 7))⟩,
         ⟨(some 40), some undefA, none, true, .pu (.bin .sub (.s 39) (.c (.int .i64 1)))⟩,
         ⟨(some 41), some undefA, none, true, .pu (.idx 1 (.s 38) (.s 40))⟩,
         ⟨(some 42), some undefA, none, true, .ld (.ld 1 false (.s 41))⟩,
         ⟨(some 43), some undefA, none, true, .pu (.mov (.s 0))⟩,
         ⟨(some 44), some undefA, none, true, .pu (.mov (.s 7))⟩,
         ⟨(some 45), some undefA, none, true, .pu (.idx 1 (.s 43) (.s 44))⟩,
         ⟨(some 46), some undefA, none, true, .ld (.ld 1 false (.s 45))⟩,
         ⟨(some 47), some undefA, none, false, .pu (.idx 1 (.s 33) (.s 34))⟩,
         ⟨none, some undefA, none, false, .ha (.st 1 (.s 47) (.s 42))⟩,
         ⟨(some 48), some undefA, none, false, .pu (.idx 1 (.s 35) (.s 37))⟩,
         ⟨none, some undefA, none, false, .ha (.st 1 (.s 48) (.s 46))⟩]))
      (.ops [⟨(some 31), some undefA, none, false, .pu (.mov (.s 7))⟩,
        ⟨(some 32), some undefA, none, false, .pu (.bin .sub (.s 31) (.c (.int .i64 1)))⟩,
        ⟨(some 7), some undefA, none, false, .pu (.mov (.s 32))⟩])))))))
   (.ops [⟨(some 13), some undefA, none, false, .pu (.mov (.s 6))⟩,
     ⟨(some 14), some undefA, none, false, .pu (.bin .add (.s 13) (.c (.int .i64 1)))⟩,
     ⟨(some 6), some undefA, none, false, .pu (.mov (.s 14))⟩])))))⟩
theorem t92 : trF Try.prog [] [] Try.f92 = some m92 := by kernel_rfl
/-- cmp.Less[int] [] -/
def m98 : MFun := ⟨17, [], [.mov (.s 4)],
 .seq (.ops [⟨(some 4), some undefA, none, false, .pu (.mov (.c (.bool false)))⟩])
 (.seq (.ops [⟨(some 5), some undefA, none, false, .pu (.mov (.s 0))⟩,
   ⟨(some 6), some undefA, none, false, .call 109 [(.s 5)]⟩,
   ⟨(some 7), some undefA, none, false, .pu (.mov (.s 6))⟩,
   ⟨(some 8), some undefA, (some (7, true)), false, .pu (.mov (.s 1))⟩,
   ⟨(some 9), some undefA, (some (7, true)), false, .call 109 [(.s 8)]⟩,
   ⟨(some 10), some undefA, (some (7, true)), false, .pu (.not (.s 9))⟩,
   ⟨(some 11), some undefA, none, false, .pu (.pick (.s 7) (.s 10) (.c (.bool false)))⟩,
   ⟨(some 12), some undefA, none, false, .pu (.mov (.s 11))⟩,
   ⟨(some 13), some undefA, (some (12, false)), false, .pu (.mov (.s 0))⟩,
   ⟨(some 14), some undefA, (some (12, false)), false, .pu (.mov (.s 1))⟩,
   ⟨(some 15), some undefA, (some (12, false)), false, .pu (.bin .lss (.s 13) (.s 14))⟩,
   ⟨(some 16), some undefA, none, false, .pu (.pick (.s 12) (.c (.bool true)) (.s 15))⟩,
   ⟨(some 4), some undefA, none, false, .pu (.mov (.s 16))⟩])
 (.ret))⟩
theorem t98 : trF Try.prog [] [] Try.f98 = some m98 := by kernel_rfl
/-- math/bits.Len64 [] -/
def m102 : MFun := ⟨25, [], [.mov (.s 2)],
 .seq (.ops [⟨(some 2), some undefA, none, false, .pu (.mov (.c (.int .i64 0)))⟩])
 (.seq (.seq (.ops [⟨(some 3), some undefA, none, false, .pu (.mov (.s 0))⟩,
   ⟨(some 4), some undefA, none, false, .pu (.bin .geq (.s 3) (.c (.int .u64 4294967296)))⟩])
 (.cond (.s 4) (.seq (.ops [⟨(some 5), some undefA, none, false, .pu (.mov (.s 0))⟩,
    ⟨(some 6), some undefA, none, false, .pu (.bin .shr (.s 5) (.c (.int .u64 32)))⟩,
    ⟨(some 0), some undefA, none, false, .pu (.mov (.s 6))⟩])
  (.ops [⟨(some 2), some undefA, none, false, .pu (.mov (.c (.int .i64 32)))⟩]))
 (.skip)))
 (.seq (.seq (.ops [⟨(some 7), some undefA, none, false, .pu (.mov (.s 0))⟩,
   ⟨(some 8), some undefA, none, false, .pu (.bin .geq (.s 7) (.c (.int .u64 65536)))⟩])
 (.cond (.s 8) (.seq (.ops [⟨(some 9), some undefA, none, false, .pu (.mov (.s 0))⟩,
    ⟨(some 10), some undefA, none, false, .pu (.bin .shr (.s 9) (.c (.int .u64 16)))⟩,
    ⟨(some 0), some undefA, none, false, .pu (.mov (.s 10))⟩])
  (.ops [⟨(some 11), some undefA, none, false, .pu (.mov (.s 2))⟩,
    ⟨(some 12), some undefA, none, false, .pu (.bin .add (.s 11) (.c (.int .i64 16)))⟩,
    ⟨(some 2), some undefA, none, false, .pu (.mov (.s 12))⟩]))
 (.skip)))
 (.seq (.seq (.ops [⟨(some 13), some undefA, none, false, .pu (.mov (.s 0))⟩,
   ⟨(some 14), some undefA, none, false, .pu (.bin .geq (.s 13) (.c (.int .u64 256)))⟩])
 (.cond (.s 14) (.seq (.ops [⟨(some 15), some undefA, none, false, .pu (.mov (.s 0))⟩,
    ⟨(some 16), some undefA, none, false, .pu (.bin .shr (.s 15) (.c (.int .u64 8)))⟩,
    ⟨(some 0), some undefA, none, false, .pu (.mov (.s 16))⟩])
  (.ops [⟨(some 17), some undefA, none, false, .pu (.mov (.s 2))⟩,
    ⟨(some 18), some undefA, none, false, .pu (.bin .add (.s 17) (.c (.int .i64 8)))⟩,
    ⟨(some 2), some undefA, none, false, .pu (.mov (.s 18))⟩]))
 (.skip)))
 (.seq (.ops [⟨(some 19), some undefA, none, false, .pu (.mov (.s 2))⟩,
   ⟨(some 20), some undefA, none, false, .pu (.mov (.s 0))⟩,
   ⟨(some 21), some undefA, none, false, .pu (.conv .u8 (.s 20))⟩,
   ⟨(some 22), some undefA, none, false, .pu (.aidx 256 1 false (.c (.agg [.int .u8 0, .int .u8 1, .int .u8 2, .int .u8 2, .int .u8 3, .int .u8 3, .int .u8 3, .int .u8 3, .int .u8 4, .int .u8 4, .int .u8 4, .int .u8 4, .int .u8 4, .int .u8 4, .int .u8 4, .int .u8 4, .int .u8 5, .int .u8 5, .int .u8 5, .int .u8 5, .int .u8 5, .int .u8 5, .int .u8 5, .int .u8 5, .int .u8 5, .int .u8 5, .int .u8 5, .int .u8 5, .int .u8 5, .int .u8 5, .int .u8 5, .int .u8 5, .int .u8 6, .int .u8 6, .int .u8 6, .int .u8 6, .int .u8 6, .int .u8 6, .int .u8 6, .int .u8 6, .int .u8 6, .int .u8 6, .int .u8 6, .int .u8 6, .int .u8 6, .int .u8 6, .int .u8 6, .int .u8 6, .int .u8 6, .int .u8 6, .int .u8 6, .int .u8 6, .int .u8 6, .int .u8 6, .int .u8 6, .int .u8 6, .int .u8 6, .int .u8 6, .int .u8 6, .int .u8 6, .int .u8 6, .int .u8 6, .int .u8 6, .int .u8 6, .int .u8 7, .int .u8 7, .int .u8 7, .int .u8 7, .int .u8 7, .int .u8 7, .int .u8 7, .int .u8 7, .int .u8 7, .int .u8 7, .int .u8 7, .int .u8 7, .int .u8 7, .int .u8 7, .int .u8 7, .int .u8 7, .int .u8 7, .int .u8 7, .int .u8 7, .int .u8 7, .int .u8 7, .int .u8 7, .int .u8 7, .int .u8 7, .int .u8 7, .int .u8 7, .int .u8 7, .int .u8 7, .int .u8 7, .int .u8 7, .int .u8 7, .int .u8 7, .int .u8 7, .int .u8 7, .int .u8 7, .int .u8 7, .int .u8 7, .int .u8 7, .int .u8 7, .int .u8 7, .int .u8 7, .int .u8 7, .int .u8 7, .int .u8 7, .int .u8 7, .int .u8 7, .int .u8 7, .int .u8 7, .int .u8 7, .int .u8 7, .int .u8 7, .int .u8 7, .int .u8 7, .int .u8 7, .int .u8 7, .int .u8 7, .int .u8 7, .int .u8 7, .int .u8 7, .int .u8 7, .int .u8 7, .int .u8 7, .int .u8 7, .int .u8 7, .int .u8 8, .int .u8 8, .int .u8 8, .int .u8 8, .int .u8 8, .int .u8 8, .int .u8 8, .int .u8 8, .int .u8 8, .int .u8 8, .int .u8 8, .int .u8 8, .int .u8 8, .int .u8 8, .int .u8 8, .int .u8 8, .int .u8 8, .int .u8 8, .int .u8 8, .int .u8 8, .int .u8 8, .int .u8 8, .int .u8 8, .int .u8 8, .int .u8 8, .int .u8 8, .int .u8 8, .int .u8 8, .int .u8 8, .int .u8 8, .int .u8 8, .int .u8 8, .int .u8 8, .int .u8 8, .int .u8 8, .int .u8 8, .int .u8 8, .int .u8 8, .int .u8 8, .int .u8 8, .int .u8 8, .int .u8 8, .int .u8 8, .int .u8 8, .int .u8 8, .int .u8 8, .int .u8 8, .int .u8 8, .int .u8 8, .int .u8 8, .int .u8 8, .int .u8 8, .int .u8 8, .int .u8 8, .int .u8 8, .int .u8 8, .int .u8 8, .int .u8 8, .int .u8 8, .int .u8 8, .int .u8 8, .int .u8 8, .int .u8 8, .int .u8 8, .int .u8 8, .int .u8 8, .int .u8 8, .int .u8 8, .int .u8 8, .int .u8 8, .int .u8 8, .int .u8 8, .int .u8 8, .int .u8 8, .int .u8 8, .int .u8 8, .int .u8 8, .int .u8 8, .int .u8 8, .int .u8 8, .int .u8 8, .int .u8 8, .int .u8 8, .int .u8 8, .int .u8 8, .int .u8 8, .int .u8 8, .int .u8 8, .int .u8 8, .int .u8 8, .int .u8 8, .int .u8 8, .int .u8 8, .int .u8 8, .int .u8 8, .int .u8 8, .int .u8 8, .int .u8 8, .int .u8 8, .int .u8 8, .int .u8 8, .int .u8 8, .int .u8 8, .int .u8 8, .int .u8 8, .int .u8 8, .int .u8 8, .int .u8 8, .int .u8 8, .int .u8 8, .int .u8 8, .int .u8 8, .int .u8 8, .int .u8 8, .int .u8 8, .int .u8 8, .int .u8 8, .int .u8 8, .int .u8 8, .int .u8 8, .int .u8 8, .int .u8 8, .int .u8 8, .int .u8 8, .int .u8 8, .int .u8 8, .int .u8 8, .int .u8 8])) (.s 21))⟩,
   ⟨(some 23), some undefA, none, false, .pu (.conv .i64 (.s 22))⟩,
   ⟨(some 24), some undefA, none, false, .pu (.bin .add (.s 19) (.s 23))⟩,
   ⟨(some 2), some undefA, none, false, .pu (.mov (.s 24))⟩])
 (.ret)))))⟩
theorem t102 : trF Try.prog [] [] Try.f102 = some m102 := by kernel_rfl
/-- slices.Clone[[]int,int] [] -/
def m103 : MFun := ⟨8, [], [.mov (.s 2)],
 .seq (.ops [⟨(some 2), some undefA, none, false, .pu (.mov (.c (.nilS)))⟩])
 (.seq (.seq (.ops [⟨(some 3), some undefA, none, false, .pu (.mov (.s 0))⟩,
   ⟨(some 4), some undefA, none, false, .pu (.isnil false (.s 3))⟩])
 (.cond (.s 4) (.seq (.ops [⟨(some 2), some undefA, none, false, .pu (.mov (.c (.nilS)))⟩])
  (.ret))
 (.skip)))
 (.seq (.ops [⟨(some 5), some undefA, none, false, .ha (.blds 1 0 [.int .i64 0] [])⟩,
   ⟨(some 6), some undefA, none, false, .pu (.mov (.s 0))⟩,
   ⟨(some 7), some undefA, none, false, .ha (.app 1 (.s 5) (.s 6))⟩,
   ⟨(some 2), some undefA, none, false, .pu (.mov (.s 7))⟩])
 (.ret)))⟩
theorem t103 : trF Try.prog [] [] Try.f103 = some m103 := by kernel_rfl
/-- cmp.isNaN[int] [] -/
def m109 : MFun := ⟨6, [], [.mov (.s 2)],
 .seq (.ops [⟨(some 2), some undefA, none, false, .pu (.mov (.c (.bool false)))⟩])
 (.seq (.ops [⟨(some 3), some undefA, none, false, .pu (.mov (.s 0))⟩,
   ⟨(some 4), some undefA, none, false, .pu (.mov (.s 0))⟩,
   ⟨(some 5), some undefA, none, false, .pu (.bin .neq (.s 3) (.s 4))⟩,
   ⟨(some 2), some undefA, none, false, .pu (.mov (.s 5))⟩])
 (.ret))⟩
theorem t109 : trF Try.prog [] [] Try.f109 = some m109 := by kernel_rfl
end Go.Proofs.Ytdcdjhhjlpegjaa

namespace Go.Proofs.Ytdcdjhhjlpegjaa
open Go Go.Eng
theorem hmix : Try.prog.follows .mixedOrders = true := by kernel_rfl
def tab : List (Nat × MFun) := [(16, m16), (17, m17), (21, m21), (26, m26), (30, m30), (31, m31), (53, m53), (54, m54), (55, m55), (57, m57), (61, m61), (63, m63), (64, m64), (72, m72), (78, m78), (79, m79), (81, m81), (82, m82), (83, m83), (84, m84), (85, m85), (87, m87), (88, m88), (89, m89), (90, m90), (91, m91), (92, m92), (98, m98), (102, m102), (103, m103), (109, m109)]
theorem tabOK : TabOK Try.prog tab :=
  .cons Try.func16 (by kernel_rfl) t16 <| .cons Try.func17 (by kernel_rfl) t17 <| .cons Try.func21 (by kernel_rfl) t21 <| .cons Try.func26 (by kernel_rfl) t26 <| .cons Try.func30 (by kernel_rfl) t30 <| .cons Try.func31 (by kernel_rfl) t31 <| .cons Try.func53 (by kernel_rfl) t53 <| .cons Try.func54 (by kernel_rfl) t54 <| .cons Try.func55 (by kernel_rfl) t55 <| .cons Try.func57 (by kernel_rfl) t57 <| .cons Try.func61 (by kernel_rfl) t61 <| .cons Try.func63 (by kernel_rfl) t63 <| .cons Try.func64 (by kernel_rfl) t64 <| .cons Try.func72 (by kernel_rfl) t72 <| .cons Try.func78 (by kernel_rfl) t78 <| .cons Try.func79 (by kernel_rfl) t79 <| .cons Try.func81 (by kernel_rfl) t81 <| .cons Try.func82 (by kernel_rfl) t82 <| .cons Try.func83 (by kernel_rfl) t83 <| .cons Try.func84 (by kernel_rfl) t84 <| .cons Try.func85 (by kernel_rfl) t85 <| .cons Try.func87 (by kernel_rfl) t87 <| .cons Try.func88 (by kernel_rfl) t88 <| .cons Try.func89 (by kernel_rfl) t89 <| .cons Try.func90 (by kernel_rfl) t90 <| .cons Try.func91 (by kernel_rfl) t91 <| .cons Try.func92 (by kernel_rfl) t92 <| .cons Try.func98 (by kernel_rfl) t98 <| .cons Try.func102 (by kernel_rfl) t102 <| .cons Try.func103 (by kernel_rfl) t103 <| .cons Try.func109 (by kernel_rfl) t109 <| .nil
def isTrue : Option (AV × AHeap) → Bool
  | some (.bool true, _) => true
  | _ => false
set_option maxRecDepth 100000 in
theorem known_run : isTrue (runF tab 300 14 17 [] []) = true := by kernel_rfl
theorem known (A : AHeap) : ACalls Try.prog 17 [] A (B true) A := by
  cases h : runF tab 300 14 17 [] [] with
  | none => have := known_run; rw [h] at this; cases this
  | some p =>
    obtain ⟨v, A'⟩ := p
    have h1 := known_run
    rw [h] at h1
    have h2 : v = B true := by
      unfold isTrue at h1
      split at h1
      · rename_i e; cases e; rfl
      · cases h1
    subst h2
    exact (runF_ok hmix tabOK 300 14 17 [] [] _ _ h).lift (by simp) rfl A
end Go.Proofs.Ytdcdjhhjlpegjaa

namespace Go.Proofs.Ytdcdjhhjlpegjaa
open Go Go.Eng
/-- A store. -/
def stA (sz : Nat) (p x : AV) (H : AHeap) : Option AHeap :=
  match p, x.cells? with
  | .ptr n off, some c => match H[n]? with
    | some (.cells true l) => if c.length = sz ∧ off + sz ≤ l.length then some (H.set n (.cells true (splice l off c))) else none
    | _ => none
  | _, _ => none
theorem splice_flat {α : Type} {es : Nat} {e : α → List AV} (he : ∀ x, (e x).length = es) {xs : List α} {i : Nat} (hi : i < xs.length) (z : α) : splice (xs.flatMap e) (i * es) (e z) = (xs.set i z).flatMap e := by
  unfold splice
  have h1 := flatMap_length he (xs.take i)
  rw [List.length_take, Nat.min_eq_left (by omega)] at h1
  have h2 := flatMap_length he (xs.take (i + 1))
  rw [List.length_take, Nat.min_eq_left (by omega)] at h2
  have e1 : (xs.flatMap e).take (i * es) = (xs.take i).flatMap e := by
    conv => lhs; rw [← List.take_append_drop i xs, List.flatMap_append]
    rw [← h1, List.take_left]
  have e2 : (xs.flatMap e).drop (i * es + (e z).length) = (xs.drop (i + 1)).flatMap e := by
    conv => lhs; rw [← List.take_append_drop (i + 1) xs, List.flatMap_append]
    rw [he z, ← Nat.succ_mul, Nat.succ_eq_add_one, ← h2, List.drop_left]
  rw [e1, e2, List.set_eq_take_append_cons_drop, if_pos hi, List.flatMap_append, List.flatMap_cons, List.append_assoc]
/-- A list that the call itself has made and may write. -/
structure OL {α : Type} (es : Nat) (e : α → List AV) (A H : AHeap) (n : Nat) (v : AV) (xs : List α) : Prop where
  he : ∀ x, (e x).length = es
  pre : A <+: H
  new : A.length ≤ n
  ob : H[n]? = some (.cells true (xs.flatMap e))
  v : ∃ full, v = .sl es n 0 xs.length full
section
variable {α : Type} {es : Nat} {e : α → List AV} {A H : AHeap} {n : Nat} {v : AV} {xs : List α}
theorem OL.ls (h : OL es e A H n v xs) : Ls es e H v xs := by
  obtain ⟨he, h1, h2, h3, full, rfl⟩ := h
  refine ⟨he, ?_⟩
  have hl := flatMap_length he xs
  simp only [slCells, cellsAt, h3, if_true, Nat.zero_add]
  rw [if_pos (by omega)]
  simp only [List.drop_zero, Option.map_some, Option.some.injEq, Prod.mk.injEq, true_and]
  rw [← hl, List.take_length]
theorem OL.lt (h : OL es e A H n v xs) : n < H.length := (List.getElem?_eq_some_iff.1 h.ob).1
theorem OL.set (h : OL es e A H n v xs) (i : Nat) (z : α) : OL es e A (H.set n (.cells true ((xs.set i z).flatMap e))) n v (xs.set i z) := by
  have hn := h.lt
  obtain ⟨he, h1, h2, h3, full, rfl⟩ := h
  exact ⟨he, pre_set h1 h2 _, h2, by rw [List.getElem?_set_self hn], full, by simp⟩
theorem OL.st (h : OL es e A H n v xs) {i : Nat} (hi : i < xs.length) (x : AV) (z : α) (hx : x.cells? = some (e z)) : stA es (.ptr (nm v) (of v + i * es)) x H = some (H.set n (.cells true ((xs.set i z).flatMap e))) := by
  obtain ⟨he, h1, h2, h3, full, rfl⟩ := h
  have hl := flatMap_length he xs
  have hle : i * es + es ≤ xs.length * es := by
    rw [← Nat.succ_mul]; exact Nat.mul_le_mul_right _ hi
  simp only [stA, nm, of, hx, h3, Nat.zero_add]
  rw [if_pos ⟨he z, by omega⟩, splice_flat he hi z]
theorem OL.mono {H' : AHeap} (h : OL es e A H n v xs) (hp : H <+: H') : OL es e A H' n v xs := ⟨h.he, h.pre.trans hp, h.new, pre_get hp h.ob, h.v⟩
theorem gc_weak {v1 v1' v : AV} {H1 H' : AHeap} (h : ∀ ρ c, VR ρ v1 c → VR ρ v1' c) (g : GC A v1' H1 v H') : GC A v1 H1 v H' :=
  fun ρ w ρ1 w1 cv s0 s1 st hv => g ρ w ρ1 w1 cv s0 s1 st (h ρ1 cv hv)
theorem VR.unfull {ρ : Ren} {es n off len : Nat} {full : Bool} {c : Value} (h : VR ρ (.sl es n off len full) c) : VR ρ (.sl es n off len false) c := by
  cases h with
  | sl _ _ _ _ _ L a cap h1 h2 h3 h4 h5 => exact .sl es n off len false L a cap h1 h2 (fun e => by cases e) h4 h5
theorem OL.acc (h : OL es e A H n v xs) (h0 : 0 < xs.length) : AccL es e A H (.sl es n 0 xs.length false) xs :=
  ⟨h.pre, flatMap_length h.he xs, .inr ⟨h0, n, rfl, h.new, h.ob⟩⟩
theorem OL.gc2 (h : OL es e A H n v xs) (h0 : 0 < xs.length) (hf : ∀ x, ∀ y ∈ e x, flat y = true) (c : AV) (hc : flat c = true) : GC A (.tuple [v, c]) H (.tuple [outV es A xs.length, c]) (outH A (xs.flatMap e) xs.length) := by
  have h1 := (h.acc h0).gc2 hf c hc
  obtain ⟨_, _, _, _, full, rfl⟩ := h
  refine gc_weak (fun ρ cv hv => ?_) h1
  cases hv with
  | tuple _ vs hl hh =>
    refine .tuple _ _ hl (fun i x u hx hu => ?_)
    match i with
    | 0 =>
      simp at hx
      subst hx
      exact VR.unfull (hh 0 _ u rfl hu)
    | i + 1 => exact hh (i + 1) x u (by simpa using hx) hu
end
end Go.Proofs.Ytdcdjhhjlpegjaa

namespace Go.Proofs.Ytdcdjhhjlpegjaa
open Go Go.Eng
/-- A number that a machine word holds. -/
abbrev W (a : Int) : Prop := -9223372036854775808 ≤ a ∧ a ≤ 9223372036854775807
/-- The first element's place, or -1. -/
def fpos (g : Int → Bool) (xs : List Int) : Int := match xs.findIdx? g with | some i => i | none => -1
theorem fpos_some {g : Int → Bool} {xs : List Int} {i : Nat} {z : Int} (h : ∀ y ∈ xs.take i, g y = false) (hz : xs[i]? = some z) (hg : g z = true) : fpos g xs = i := by
  have hi : i < xs.length := (List.getElem?_eq_some_iff.1 hz).1
  have he : xs[i] = z := (List.getElem?_eq_some_iff.1 hz).2
  have : xs.findIdx? g = some i := by
    rw [List.findIdx?_eq_some_iff_getElem]
    refine ⟨hi, by rw [he]; exact hg, fun j hj => ?_⟩
    have : xs[j]'(by omega) ∈ xs.take i := by
      rw [List.mem_take_iff_getElem]
      exact ⟨j, by omega, rfl⟩
    simp [h _ this]
  unfold fpos
  rw [this]
theorem fpos_none {g : Int → Bool} {xs : List Int} (h : ∀ y ∈ xs, g y = false) : fpos g xs = -1 := by
  have : xs.findIdx? g = none := by
    rw [List.findIdx?_eq_none_iff]
    exact h
  unfold fpos
  rw [this]
theorem fpos_iff (g : Int → Bool) (xs : List Int) : 0 ≤ fpos g xs ↔ xs.any g = true := by
  unfold fpos
  cases h : xs.findIdx? g with
  | some i =>
    rw [List.findIdx?_eq_some_iff_getElem] at h
    obtain ⟨hi, hg, _⟩ := h
    simp only [Int.natCast_nonneg, true_iff, List.any_eq_true]
    exact ⟨_, List.getElem_mem hi, hg⟩
  | none =>
    rw [List.findIdx?_eq_none_iff] at h
    constructor
    · intro h1; simp at h1
    · intro h1
      rw [List.any_eq_true] at h1
      obtain ⟨x, hx, hg⟩ := h1
      rw [h x hx] at hg; cases hg
theorem take_false {g : Int → Bool} {xs : List Int} {i : Nat} {z : Int} (h : ∀ y ∈ xs.take i, g y = false) (hz : xs[i]? = some z) (hg : g z = false) : ∀ y ∈ xs.take (i + 1), g y = false := by
  intro y hy
  rw [List.take_add_one, hz] at hy
  rcases List.mem_append.1 hy with hy | hy
  · exact h y hy
  · have : y = z := by simpa using hy
    rw [this]; exact hg
theorem c_IndexFunc {xs : List Int} {v : AV} {A : AHeap} (hx : L1 A v xs) (hl : xs.length ≤ 1000000) (f : FuncId) (cap : List AV) (g : Int → Bool) (hg : ∀ x ∈ xs, ACalls Try.prog f ([I x] ++ cap) A (B (g x)) A) : ACalls Try.prog 81 [v, .fn f cap] A (I (fpos g xs)) A := by
  refine acalls hmix Try.func81 (by kernel_rfl) t81 2 rfl (by decide) ?_
  dsimp only [m81]
  simp (maxSteps := 4000000) -implicitDefEqProofs -dsimp (disch := omega) only [↓AW_ops, ↓AW_seq, ↓AW_block, ↓AOps_nil, ↓AOps_pu, on_some, ↓then_normal, pval, rd_S, rd_C, put_S, ↓AW_toLoop, List.replicate_succ, List.replicate_zero, List.set_cons_zero, List.set_cons_succ, List.getElem?_cons_zero, List.getElem?_cons_succ, Option.getD_some, Nat.reduceSub, List.cons_append, List.nil_append, hx.len]
  refine LoopK.by 19 (fun i : Nat => i ≤ xs.length ∧ ∀ y ∈ xs.take i, g y = false) (fun i => [(0, v), (1, .fn f cap), (7, I xs.length), (8, I i)]) (fun _ => A) (fun i => xs.length - i) 0 ⟨by omega, by simp⟩ rfl (by simp [Has, rd_s]) rfl ?_
  rintro i ⟨hi, he⟩
  by_cases hlt : i < xs.length
  · obtain ⟨z, hz⟩ : ∃ z, xs[i]? = some z := ⟨_, List.getElem?_eq_getElem hlt⟩
    have hlt' : (i : Int) < xs.length := by omega
    simp (maxSteps := 4000000) -implicitDefEqProofs -dsimp (disch := omega) only [↓AW_skip, ↓AW_ops, ↓AW_seq, ↓AW_cond, ↓AW_block, ↓AOps_nil, ↓AOps_pu, ↓AOps_ld, ↓AOps_callv, on_some, CallF_fn, condB_t, ↓then_normal, pval, lval, rd_S, put_S, partA, eq_self, mk, List.foldl_cons, List.foldl_nil, List.replicate_succ, List.replicate_zero, List.set_cons_zero, List.set_cons_succ, List.getElem?_cons_zero, List.getElem?_cons_succ, List.drop_zero, List.take_succ_cons, List.take_nil, Option.getD_some, map_c, map_n, List.length_cons, List.length_nil, Nat.reduceLeDiff, Nat.zero_add, List.cons_append, List.nil_append, bin_lss, if_true, if_false, Bool.false_eq_true, decide_true, Go.Eng.e1, hlt', hx.idx hlt, hx.ld0 hz 1 false (by decide)]
    refine CallK.of (hg z (List.mem_of_getElem? hz)) ?_
    by_cases h : g z = true
    · simp (maxSteps := 4000000) -implicitDefEqProofs -dsimp (disch := omega) only [↓AW_ops, ↓AW_seq, ↓AW_cond, ↓AW_ret, ↓AOps_nil, ↓AOps_pu, on_some, extK_same, condB_t, ↓then_normal, ↓then_ret, ↓inBlock_ret, ↓Fin_ret, pval, rd_S, put_S, resV, resL, mk, List.foldl_cons, List.foldl_nil, List.replicate_succ, List.replicate_zero, List.set_cons_zero, List.set_cons_succ, List.getElem?_cons_zero, List.getElem?_cons_succ, Option.getD_some, h]
      exact gc_same (by rw [fpos_some he hz h])
    · have h : g z = false := by simpa using h
      simp (maxSteps := 4000000) -implicitDefEqProofs -dsimp (disch := omega) only [↓AW_skip, ↓AW_ops, ↓AW_cond, ↓AOps_nil, ↓AOps_pu, on_some, extK_same, condB_f, ↓then_normal, ↓inBlock_normal, pval, rd_S, rd_C, put_S, eq_self, mk, List.foldl_cons, List.foldl_nil, List.replicate_succ, List.replicate_zero, List.set_cons_zero, List.set_cons_succ, List.getElem?_cons_zero, List.getElem?_cons_succ, Option.getD_some, List.length_cons, List.length_nil, Nat.reduceAdd, Nat.zero_add, bin_add, w64, true_and, h]
      exact ⟨i + 1, ⟨hlt, take_false he hz h⟩, by simp [Has, rd_s], by omega⟩
  · have hlt' : ¬ ((i : Int) < xs.length) := by omega
    simp (maxSteps := 4000000) -implicitDefEqProofs -dsimp (disch := omega) only [↓AW_ops, ↓AW_seq, ↓AW_cond, ↓AW_exit, ↓AW_ret, ↓AOps_nil, ↓AOps_pu, on_some, condB_f, ↓then_normal, ↓then_exit, ↓inBlock_exit, ↓Fin_ret, pval, rd_S, rd_C, put_S, resV, resL, eq_self, mk, List.foldl_cons, List.foldl_nil, List.replicate_succ, List.replicate_zero, List.set_cons_zero, List.set_cons_succ, List.getElem?_cons_zero, List.getElem?_cons_succ, Option.getD_some, bin_lss, if_true, decide_false, Int.reduceNeg, hlt']
    rw [List.take_of_length_le (by omega)] at he
    exact gc_same (by rw [fpos_none he])
theorem c_ContainsFunc {xs : List Int} {v : AV} {A : AHeap} (hx : L1 A v xs) (hl : xs.length ≤ 1000000) (f : FuncId) (cap : List AV) (g : Int → Bool) (hg : ∀ x ∈ xs, ACalls Try.prog f ([I x] ++ cap) A (B (g x)) A) : ACalls Try.prog 57 [v, .fn f cap] A (B (xs.any g)) A := by
  refine acalls hmix Try.func57 (by kernel_rfl) t57 2 rfl (by decide) ?_
  dsimp only [m57]
  simp (maxSteps := 4000000) -implicitDefEqProofs -dsimp (disch := omega) only [↓AW_ops, ↓AW_seq, ↓AOps_nil, ↓AOps_pu, ↓AOps_call, on_some, ↓then_normal, pval, rd_S, rd_C, put_S, List.replicate_succ, List.replicate_zero, List.set_cons_zero, List.set_cons_succ, List.getElem?_cons_zero, List.getElem?_cons_succ, Option.getD_some, map_c, map_n, Nat.reduceSub, List.cons_append, List.nil_append]
  refine CallK.of (c_IndexFunc hx hl f cap g hg) ?_
  simp (maxSteps := 4000000) -implicitDefEqProofs -dsimp (disch := omega) only [↓AW_ret, ↓AOps_nil, ↓AOps_pu, on_some, extK_same, ↓then_normal, ↓Fin_ret, pval, rd_S, rd_C, put_S, resV, resL, List.replicate_succ, List.replicate_zero, List.set_cons_zero, List.set_cons_succ, List.getElem?_cons_zero, List.getElem?_cons_succ, Option.getD_some, Nat.reduceSub, List.cons_append, List.nil_append, bin_geq]
  refine gc_same ?_
  congr 1
  rw [Bool.eq_iff_iff, decide_eq_true_iff, fpos_iff]
end Go.Proofs.Ytdcdjhhjlpegjaa

namespace Go.Proofs.Ytdcdjhhjlpegjaa
open Go Go.Eng
/-- selion/selionlaw03.many [] -/
def m23 : MFun := ⟨6, [], [.mov (.s 2)],
 .seq (.ops [⟨(some 2), some undefA, none, false, .pu (.mov (.c (.bool false)))⟩])
 (.seq (.ops [⟨(some 3), some undefA, none, false, .pu (.mov (.s 0))⟩,
   ⟨(some 4), some undefA, none, false, .pu (.len (.s 3))⟩,
   ⟨(some 5), some undefA, none, false, .pu (.bin .gtr (.s 4) (.c (.int .i64 40)))⟩,
   ⟨(some 2), some undefA, none, false, .pu (.mov (.s 5))⟩])
 (.ret))⟩
theorem t23 : trF Try.prog [] [] Try.f23 = some m23 := by kernel_rfl
/-- selion/claim.Pay [loop [1, 2, 8, 33, 34, 35]] -/
def m24 : MFun := ⟨53, [], [.mov (.s 6), .mov (.s 7)],
 .seq (.ops [⟨(some 6), some undefA, none, false, .pu (.mov (.c (.nilS)))⟩,
   ⟨(some 7), some undefA, none, false, .pu (.mov (.c (.int .i64 0)))⟩])
 (.seq (.seq (.ops [⟨(some 11), some undefA, none, false, .pu (.mov (.s 0))⟩,
   ⟨(some 12), some undefA, none, false, .call 53 [(.s 11)]⟩,
   ⟨(some 13), some undefA, none, false, .pu (.not (.s 12))⟩,
   ⟨(some 14), some undefA, none, false, .pu (.mov (.s 13))⟩,
   ⟨(some 15), some undefA, (some (14, false)), false, .pu (.mov (.s 1))⟩,
   ⟨(some 16), some undefA, (some (14, false)), false, .pu (.len (.s 15))⟩,
   ⟨(some 17), some undefA, (some (14, false)), false, .pu (.mov (.s 0))⟩,
   ⟨(some 18), some undefA, (some (14, false)), false, .pu (.len (.s 17))⟩,
   ⟨(some 19), some undefA, (some (14, false)), false, .pu (.bin .neq (.s 16) (.s 18))⟩,
   ⟨(some 20), some undefA, none, false, .pu (.pick (.s 14) (.c (.bool true)) (.s 19))⟩,
   ⟨(some 21), some undefA, none, false, .pu (.mov (.s 20))⟩,
   ⟨(some 22), some undefA, (some (21, false)), false, .pu (.mov (.s 1))⟩,
   ⟨(some 23), some undefA, (some (21, false)), false, .call 57 [(.s 22), (.c (.fn 58 []))]⟩,
   ⟨(some 24), some undefA, none, false, .pu (.pick (.s 21) (.c (.bool true)) (.s 23))⟩,
   ⟨(some 25), some undefA, none, false, .pu (.mov (.s 24))⟩,
   ⟨(some 26), some undefA, (some (25, false)), false, .pu (.mov (.s 2))⟩,
   ⟨(some 27), some undefA, (some (25, false)), false, .pu (.bin .lss (.s 26) (.c (.int .i64 0)))⟩,
   ⟨(some 28), some undefA, none, false, .pu (.pick (.s 25) (.c (.bool true)) (.s 27))⟩,
   ⟨(some 29), some undefA, none, false, .pu (.mov (.s 28))⟩,
   ⟨(some 30), some undefA, (some (29, false)), false, .pu (.mov (.s 2))⟩,
   ⟨(some 31), some undefA, (some (29, false)), false, .pu (.bin .gtr (.s 30) (.c (.int .i64 1000)))⟩,
   ⟨(some 32), some undefA, none, false, .pu (.pick (.s 29) (.c (.bool true)) (.s 31))⟩])
 (.cond (.s 32) (.seq (.ops [⟨(some 6), some undefA, none, false, .pu (.mov (.c (.nilS)))⟩,
    ⟨(some 7), some undefA, none, false, .pu (.mov (.c (.int .i64 1)))⟩])
  (.ret))
 (.skip)))
 (.seq (.ops [⟨(some 8), some undefA, none, false, .pu (.mov (.c (.nilS)))⟩])
 (.seq (.seq (.ops [⟨(some 33), some undefA, none, false, .pu (.mov (.s 0))⟩,
   ⟨(some 34), some undefA, none, false, .pu (.len (.s 33))⟩,
   ⟨(some 35), some undefA, none, false, .pu (.mov (.c (.int .i64 0)))⟩])
 (.block 0 (.loop (.seq (.ops [⟨(some 36), some undefA, none, false, .pu (.bin .lss (.s 35) (.s 34))⟩])
   (.seq (.cond (.s 36) (.skip)
   (.exit 0))
   (.seq (.block 1 (.seq (.ops [⟨(some 37), some undefA, none, false, .pu (.mov (.s 35))⟩,
      ⟨(some 38), some undefA, none, false, .pu (.idx 1 (.s 33) (.s 35))⟩,
      ⟨(some 39), some undefA, none, false, .ld (.ld 1 false (.s 38))⟩,
      ⟨(some 9), some undefA, none, false, .pu (.mov (.s 37))⟩,
      ⟨(some 10), some undefA, none, false, .pu (.mov (.s 39))⟩])
    (.ops [⟨(some 40), some undefA, none, false, .pu (.mov (.s 8))⟩,
      ⟨(some 41), some undefA, none, false, .pu (.mov (.s 10))⟩,
      ⟨(some 42), some undefA, none, false, .pu (.mov (.s 1))⟩,
      ⟨(some 43), some undefA, none, false, .pu (.mov (.s 9))⟩,
      ⟨(some 44), some undefA, none, false, .pu (.idx 1 (.s 42) (.s 43))⟩,
      ⟨(some 45), some undefA, none, false, .ld (.ld 1 false (.s 44))⟩,
      ⟨(some 46), some undefA, none, false, .pu (.bin .sub (.s 41) (.s 45))⟩,
      ⟨(some 47), some undefA, none, false, .pu (.mov (.s 2))⟩,
      ⟨(some 48), some undefA, none, false, .pu (.bin .mul (.s 46) (.s 47))⟩,
      ⟨(some 49), some undefA, none, false, .ha (.blds 1 1 [.int .i64 0] [(0, 1, (.s 48))])⟩,
      ⟨(some 50), some undefA, none, false, .ha (.app 1 (.s 40) (.s 49))⟩,
      ⟨(some 8), some undefA, none, false, .pu (.mov (.s 50))⟩])))
   (.ops [⟨(some 51), some undefA, none, false, .pu (.bin .add (.s 35) (.c (.int .i64 1)))⟩,
     ⟨(some 35), some undefA, none, false, .pu (.mov (.s 51))⟩])))))))
 (.seq (.ops [⟨(some 52), some undefA, none, false, .pu (.mov (.s 8))⟩,
   ⟨(some 6), some undefA, none, false, .pu (.mov (.s 52))⟩,
   ⟨(some 7), some undefA, none, false, .pu (.mov (.c (.int .i64 0)))⟩])
 (.ret)))))⟩
theorem t24 : trF Try.prog [] [] Try.f24 = some m24 := by kernel_rfl
/-- selion/selionref03.Pay [loop [0, 1, 2, 8, 9]] -/
def m25 : MFun := ⟨52, [], [.mov (.s 6), .mov (.s 7)],
 .seq (.ops [⟨(some 6), some undefA, none, false, .pu (.mov (.c (.nilS)))⟩,
   ⟨(some 7), some undefA, none, false, .pu (.mov (.c (.int .i64 0)))⟩])
 (.seq (.seq (.ops [⟨(some 10), some undefA, none, false, .pu (.mov (.s 0))⟩,
   ⟨(some 11), some undefA, none, false, .call 59 [(.s 10)]⟩,
   ⟨(some 12), some undefA, none, false, .pu (.not (.s 11))⟩,
   ⟨(some 13), some undefA, none, false, .pu (.mov (.s 12))⟩,
   ⟨(some 14), some undefA, (some (13, false)), false, .pu (.mov (.s 1))⟩,
   ⟨(some 15), some undefA, (some (13, false)), false, .pu (.len (.s 14))⟩,
   ⟨(some 16), some undefA, (some (13, false)), false, .pu (.mov (.s 0))⟩,
   ⟨(some 17), some undefA, (some (13, false)), false, .pu (.len (.s 16))⟩,
   ⟨(some 18), some undefA, (some (13, false)), false, .pu (.bin .neq (.s 15) (.s 17))⟩,
   ⟨(some 19), some undefA, none, false, .pu (.pick (.s 13) (.c (.bool true)) (.s 18))⟩,
   ⟨(some 20), some undefA, none, false, .pu (.mov (.s 19))⟩,
   ⟨(some 21), some undefA, (some (20, false)), false, .pu (.mov (.s 2))⟩,
   ⟨(some 22), some undefA, (some (20, false)), false, .call 60 [(.s 21), (.c (.int .i64 0)), (.c (.int .i64 1000))]⟩,
   ⟨(some 23), some undefA, (some (20, false)), false, .pu (.not (.s 22))⟩,
   ⟨(some 24), some undefA, none, false, .pu (.pick (.s 20) (.c (.bool true)) (.s 23))⟩])
 (.cond (.s 24) (.seq (.ops [⟨(some 6), some undefA, none, false, .pu (.mov (.c (.nilS)))⟩,
    ⟨(some 7), some undefA, none, false, .pu (.mov (.c (.int .i64 1)))⟩])
  (.ret))
 (.skip)))
 (.seq (.ops [⟨(some 8), some undefA, none, false, .pu (.mov (.c (.nilS)))⟩])
 (.seq (.seq (.ops [⟨(some 9), some undefA, none, false, .pu (.mov (.c (.int .i64 0)))⟩])
 (.block 0 (.loop (.seq (.seq (.ops [⟨(some 25), some undefA, none, false, .pu (.mov (.s 9))⟩,
     ⟨(some 26), some undefA, none, false, .pu (.mov (.s 0))⟩,
     ⟨(some 27), some undefA, none, false, .pu (.len (.s 26))⟩,
     ⟨(some 28), some undefA, none, false, .pu (.bin .lss (.s 25) (.s 27))⟩])
   (.cond (.s 28) (.skip)
   (.exit 0)))
   (.seq (.block 1 (.seq (.seq (.ops [⟨(some 31), some undefA, none, false, .pu (.mov (.s 1))⟩,
      ⟨(some 32), some undefA, none, false, .pu (.mov (.s 9))⟩,
      ⟨(some 33), some undefA, none, false, .pu (.idx 1 (.s 31) (.s 32))⟩,
      ⟨(some 34), some undefA, none, false, .ld (.ld 1 false (.s 33))⟩,
      ⟨(some 35), some undefA, none, false, .call 60 [(.s 34), (.c (.int .i64 0)), (.c (.int .i64 10000))]⟩,
      ⟨(some 36), some undefA, none, false, .pu (.not (.s 35))⟩])
    (.cond (.s 36) (.seq (.ops [⟨(some 6), some undefA, none, false, .pu (.mov (.c (.nilS)))⟩,
       ⟨(some 7), some undefA, none, false, .pu (.mov (.c (.int .i64 1)))⟩])
     (.ret))
    (.skip)))
    (.ops [⟨(some 37), some undefA, none, true, .pu (.mov (.s 8))⟩,
      ⟨(some 38), some undefA, none, true, .pu (.mov (.s 0))⟩,
      ⟨(some 39), some undefA, none, true, .pu (.mov (.s 9))⟩,
      ⟨(some 40), some undefA, none, true, .pu (.idx 1 (.s 38) (.s 39))⟩,
      ⟨(some 41), some undefA, none, true, .ld (.ld 1 false (.s 40))⟩,
      ⟨(some 42), some undefA, none, true, .pu (.mov (.s 1))⟩,
      ⟨(some 43), some undefA, none, true, .pu (.mov (.s 9))⟩,
      ⟨(some 44), some undefA, none, true, .pu (.idx 1 (.s 42) (.s 43))⟩,
      ⟨(some 45), some undefA, none, true, .ld (.ld 1 false (.s 44))⟩,
      ⟨(some 46), some undefA, none, false, .pu (.bin .sub (.s 41) (.s 45))⟩,
      ⟨(some 47), some undefA, none, true, .pu (.mov (.s 2))⟩,
      ⟨(some 48), some undefA, none, false, .pu (.bin .mul (.s 46) (.s 47))⟩,
      ⟨(some 49), some undefA, none, false, .ha (.blds 1 1 [.int .i64 0] [(0, 1, (.s 48))])⟩,
      ⟨(some 50), some undefA, none, false, .ha (.app 1 (.s 37) (.s 49))⟩,
      ⟨(some 8), some undefA, none, false, .pu (.mov (.s 50))⟩])))
   (.ops [⟨(some 29), some undefA, none, false, .pu (.mov (.s 9))⟩,
     ⟨(some 30), some undefA, none, false, .pu (.bin .add (.s 29) (.c (.int .i64 1)))⟩,
     ⟨(some 9), some undefA, none, false, .pu (.mov (.s 30))⟩]))))))
 (.seq (.ops [⟨(some 51), some undefA, none, false, .pu (.mov (.s 8))⟩,
   ⟨(some 6), some undefA, none, false, .pu (.mov (.s 51))⟩,
   ⟨(some 7), some undefA, none, false, .pu (.mov (.c (.int .i64 0)))⟩])
 (.ret)))))⟩
theorem t25 : trF Try.prog [] [] Try.f25 = some m25 := by kernel_rfl
/-- selion/selionref01.Sum [loop [0, 3, 4]] -/
def m27 : MFun := ⟨18, [], [.mov (.s 2)],
 .seq (.ops [⟨(some 2), some undefA, none, false, .pu (.mov (.c (.int .i64 0)))⟩])
 (.seq (.ops [⟨(some 3), some undefA, none, false, .pu (.mov (.c (.int .i64 0)))⟩])
 (.seq (.seq (.ops [⟨(some 4), some undefA, none, false, .pu (.mov (.c (.int .i64 0)))⟩])
 (.block 0 (.loop (.seq (.seq (.ops [⟨(some 5), some undefA, none, false, .pu (.mov (.s 4))⟩,
     ⟨(some 6), some undefA, none, false, .pu (.mov (.s 0))⟩,
     ⟨(some 7), some undefA, none, false, .pu (.len (.s 6))⟩,
     ⟨(some 8), some undefA, none, false, .pu (.bin .lss (.s 5) (.s 7))⟩])
   (.cond (.s 8) (.skip)
   (.exit 0)))
   (.seq (.block 1 (.ops [⟨(some 11), some undefA, none, false, .pu (.mov (.s 3))⟩,
      ⟨(some 12), some undefA, none, false, .pu (.mov (.s 0))⟩,
      ⟨(some 13), some undefA, none, false, .pu (.mov (.s 4))⟩,
      ⟨(some 14), some undefA, none, false, .pu (.idx 1 (.s 12) (.s 13))⟩,
      ⟨(some 15), some undefA, none, false, .ld (.ld 1 false (.s 14))⟩,
      ⟨(some 16), some undefA, none, false, .pu (.bin .add (.s 11) (.s 15))⟩,
      ⟨(some 3), some undefA, none, false, .pu (.mov (.s 16))⟩]))
   (.ops [⟨(some 9), some undefA, none, false, .pu (.mov (.s 4))⟩,
     ⟨(some 10), some undefA, none, false, .pu (.bin .add (.s 9) (.c (.int .i64 1)))⟩,
     ⟨(some 4), some undefA, none, false, .pu (.mov (.s 10))⟩]))))))
 (.seq (.ops [⟨(some 17), some undefA, none, false, .pu (.mov (.s 3))⟩,
   ⟨(some 2), some undefA, none, false, .pu (.mov (.s 17))⟩])
 (.ret))))⟩
theorem t27 : trF Try.prog [] [] Try.f27 = some m27 := by kernel_rfl
/-- selion/claim.Pay$1 [] -/
def m58 : MFun := ⟨9, [], [.mov (.s 2)],
 .seq (.ops [⟨(some 2), some undefA, none, false, .pu (.mov (.c (.bool false)))⟩])
 (.seq (.ops [⟨(some 3), some undefA, none, false, .pu (.mov (.s 0))⟩,
   ⟨(some 4), some undefA, none, false, .pu (.bin .lss (.s 3) (.c (.int .i64 0)))⟩,
   ⟨(some 5), some undefA, none, false, .pu (.mov (.s 4))⟩,
   ⟨(some 6), some undefA, (some (5, false)), false, .pu (.mov (.s 0))⟩,
   ⟨(some 7), some undefA, (some (5, false)), false, .pu (.bin .gtr (.s 6) (.c (.int .i64 10000)))⟩,
   ⟨(some 8), some undefA, none, false, .pu (.pick (.s 5) (.c (.bool true)) (.s 7))⟩,
   ⟨(some 2), some undefA, none, false, .pu (.mov (.s 8))⟩])
 (.ret))⟩
theorem t58 : trF Try.prog [] [] Try.f58 = some m58 := by kernel_rfl
/-- selion/selionref03.areClaims [loop [0, 3]] -/
def m59 : MFun := ⟨20, [], [.mov (.s 2)],
 .seq (.ops [⟨(some 2), some undefA, none, false, .pu (.mov (.c (.bool false)))⟩])
 (.seq (.seq (.ops [⟨(some 4), some undefA, none, false, .pu (.mov (.s 0))⟩,
   ⟨(some 5), some undefA, none, false, .pu (.len (.s 4))⟩,
   ⟨(some 6), some undefA, none, false, .call 60 [(.s 5), (.c (.int .i64 1)), (.c (.int .i64 8))]⟩,
   ⟨(some 7), some undefA, none, false, .pu (.not (.s 6))⟩])
 (.cond (.s 7) (.seq (.ops [⟨(some 2), some undefA, none, false, .pu (.mov (.c (.bool false)))⟩])
  (.ret))
 (.skip)))
 (.seq (.seq (.ops [⟨(some 3), some undefA, none, false, .pu (.mov (.c (.int .i64 0)))⟩])
 (.block 0 (.loop (.seq (.seq (.ops [⟨(some 8), some undefA, none, false, .pu (.mov (.s 3))⟩,
     ⟨(some 9), some undefA, none, false, .pu (.mov (.s 0))⟩,
     ⟨(some 10), some undefA, none, false, .pu (.len (.s 9))⟩,
     ⟨(some 11), some undefA, none, false, .pu (.bin .lss (.s 8) (.s 10))⟩])
   (.cond (.s 11) (.skip)
   (.exit 0)))
   (.seq (.block 1 (.seq (.ops [⟨(some 14), some undefA, none, false, .pu (.mov (.s 0))⟩,
      ⟨(some 15), some undefA, none, false, .pu (.mov (.s 3))⟩,
      ⟨(some 16), some undefA, none, false, .pu (.idx 1 (.s 14) (.s 15))⟩,
      ⟨(some 17), some undefA, none, false, .ld (.ld 1 false (.s 16))⟩,
      ⟨(some 18), some undefA, none, false, .call 60 [(.s 17), (.c (.int .i64 0)), (.c (.int .i64 1000))]⟩,
      ⟨(some 19), some undefA, none, false, .pu (.not (.s 18))⟩])
    (.cond (.s 19) (.seq (.ops [⟨(some 2), some undefA, none, false, .pu (.mov (.c (.bool false)))⟩])
     (.ret))
    (.skip))))
   (.ops [⟨(some 12), some undefA, none, false, .pu (.mov (.s 3))⟩,
     ⟨(some 13), some undefA, none, false, .pu (.bin .add (.s 12) (.c (.int .i64 1)))⟩,
     ⟨(some 3), some undefA, none, false, .pu (.mov (.s 13))⟩]))))))
 (.seq (.ops [⟨(some 2), some undefA, none, false, .pu (.mov (.c (.bool true)))⟩])
 (.ret))))⟩
theorem t59 : trF Try.prog [] [] Try.f59 = some m59 := by kernel_rfl
/-- selion/selionref01.Within [] -/
def m60 : MFun := ⟨15, [], [.mov (.s 6)],
 .seq (.ops [⟨(some 6), some undefA, none, false, .pu (.mov (.c (.bool false)))⟩])
 (.seq (.ops [⟨(some 7), some undefA, none, false, .pu (.mov (.s 0))⟩,
   ⟨(some 8), some undefA, none, false, .pu (.mov (.s 1))⟩,
   ⟨(some 9), some undefA, none, false, .pu (.bin .geq (.s 7) (.s 8))⟩,
   ⟨(some 10), some undefA, none, false, .pu (.mov (.s 9))⟩,
   ⟨(some 11), some undefA, (some (10, true)), false, .pu (.mov (.s 0))⟩,
   ⟨(some 12), some undefA, (some (10, true)), false, .pu (.mov (.s 2))⟩,
   ⟨(some 13), some undefA, (some (10, true)), false, .pu (.bin .leq (.s 11) (.s 12))⟩,
   ⟨(some 14), some undefA, none, false, .pu (.pick (.s 10) (.s 13) (.c (.bool false)))⟩,
   ⟨(some 6), some undefA, none, false, .pu (.mov (.s 14))⟩])
 (.ret))⟩
theorem t60 : trF Try.prog [] [] Try.f60 = some m60 := by kernel_rfl
end Go.Proofs.Ytdcdjhhjlpegjaa

namespace Go.Eng
open Go
section
variable {P : Program} {α : Type}
end
end Go.Eng

namespace Go.Proofs.Ytdcdjhhjlpegjaa
open Go Go.Eng
section
variable {α : Type} {es : Nat} {e : α → List AV} {A H : AHeap} {v : AV} {xs : List α}
end
end Go.Proofs.Ytdcdjhhjlpegjaa

namespace Go.Proofs.Ytdcdjhhjlpegjaa
open Go Go.Eng
theorem c_wi (n lo hi : Int) (A : AHeap) : ACalls Try.prog 60 [I n, I lo, I hi] A (B (decide (lo ≤ n ∧ n ≤ hi))) A := by
  refine acalls hmix Try.func60 (by kernel_rfl) t60 3 rfl (by decide) ?_
  by_cases h : lo ≤ n
  · dsimp only [m60]
    simp (maxSteps := 4000000) -implicitDefEqProofs -dsimp (disch := omega) only [↓AW_ops, ↓AW_seq, ↓AW_ret, ↓AOps_nil, ↓AOps_pu, ↓AOps_guard, on_some, guardB_tt, ↓then_normal, ↓Fin_ret, pval, rd_S, rd_C, put_S, resV, resL, eq_self, List.replicate_succ, List.replicate_zero, List.set_cons_zero, List.set_cons_succ, List.getElem?_cons_zero, List.getElem?_cons_succ, Option.getD_some, Nat.reduceSub, List.cons_append, List.nil_append, bin_leq, bin_geq, if_true, decide_true, true_and, h]
    exact gc_same rfl
  · dsimp only [m60]
    simp (maxSteps := 4000000) -implicitDefEqProofs -dsimp (disch := omega) only [↓AW_ops, ↓AW_seq, ↓AW_ret, ↓AOps_nil, ↓AOps_pu, ↓AOps_guard, on_some, guardB_ft, skipS_some, ↓then_normal, ↓Fin_ret, pval, rd_S, rd_C, put_S, resV, resL, List.replicate_succ, List.replicate_zero, List.set_cons_zero, List.set_cons_succ, List.getElem?_cons_zero, List.getElem?_cons_succ, Option.getD_some, Nat.reduceSub, List.cons_append, List.nil_append, bin_geq, if_false, Bool.false_eq_true, decide_false, h]
    exact gc_same rfl
theorem take_sum {us : List Int} {k : Nat} {u : Int} (h : us[k]? = some u) : (us.take (k + 1)).sum = (us.take k).sum + u := by
  rw [List.take_add_one, h]
  simp
theorem sum_bd {K : Int} : ∀ {l : List Int}, (∀ x ∈ l, -K ≤ x ∧ x ≤ K) → -(K * l.length) ≤ l.sum ∧ l.sum ≤ K * l.length
  | [], _ => by simp
  | x :: l, h => by
    have ih := sum_bd (fun y hy => h y (List.mem_cons_of_mem x hy))
    have hx := h x (by simp)
    simp only [List.sum_cons, List.length_cons, Int.natCast_add, Int.cast_ofNat_Int, Int.mul_add, Int.mul_one]
    omega
theorem sum_bd0 {K : Int} : ∀ {l : List Int}, (∀ x ∈ l, 0 ≤ x ∧ x ≤ K) → 0 ≤ l.sum ∧ l.sum ≤ K * l.length
  | [], _ => by simp
  | x :: l, h => by
    have ih := sum_bd0 (fun y hy => h y (List.mem_cons_of_mem x hy))
    have hx := h x (by simp)
    simp only [List.sum_cons, List.length_cons, Int.natCast_add, Int.cast_ofNat_Int, Int.mul_add, Int.mul_one]
    omega
theorem sum_w {l : List Int} (hl : l.length ≤ 1000000) (h : ∀ x ∈ l, -1000000000000 ≤ x ∧ x ≤ 1000000000000) (i : Nat) : -1000000000000000000 ≤ (l.take i).sum ∧ (l.take i).sum ≤ 1000000000000000000 := by
  have := sum_bd (K := 1000000000000) (l := l.take i) (fun x hx => h x (List.mem_of_mem_take hx))
  have h2 : (l.take i).length ≤ 1000000 := by rw [List.length_take]; omega
  omega
theorem c_Sum {xs : List Int} {v : AV} {A : AHeap} (hx : L1 A v xs) (hl : xs.length ≤ 1000000) (hb : ∀ x ∈ xs, -1000000000000 ≤ x ∧ x ≤ 1000000000000) : ACalls Try.prog 27 [v] A (I xs.sum) A := by
  refine acalls hmix Try.func27 (by kernel_rfl) t27 1 rfl (by decide) ?_
  dsimp only [m27]
  simp (maxSteps := 4000000) -implicitDefEqProofs -dsimp (disch := omega) only [↓AW_ops, ↓AW_seq, ↓AW_block, ↓AOps_nil, ↓AOps_pu, on_some, ↓then_normal, pval, rd_C, put_S, ↓AW_toLoop, List.replicate_succ, List.replicate_zero, List.set_cons_zero, List.set_cons_succ, Nat.reduceSub, List.cons_append, List.nil_append]
  refine LoopK.by 18 (fun i : Nat => i ≤ xs.length) (fun i => [(0, v), (3, I (xs.take i).sum), (4, I i)]) (fun _ => A) (fun i => xs.length - i) 0 (by omega) rfl (by simp [Has, rd_s]) rfl ?_
  intro i hi
  by_cases hlt : i < xs.length
  · obtain ⟨z, hz⟩ : ∃ z, xs[i]? = some z := ⟨_, List.getElem?_eq_getElem hlt⟩
    have hlt' : (i : Int) < xs.length := by omega
    have h1 := sum_w hl hb i
    have h2 := hb z (List.mem_of_getElem? hz)
    simp (maxSteps := 4000000) -implicitDefEqProofs -dsimp (disch := omega) only [↓AW_skip, ↓AW_ops, ↓AW_seq, ↓AW_cond, ↓AW_block, ↓AOps_nil, ↓AOps_pu, ↓AOps_ld, on_some, condB_t, ↓then_normal, ↓inBlock_normal, pval, lval, rd_S, rd_C, put_S, partA, eq_self, mk, List.foldl_cons, List.foldl_nil, List.replicate_succ, List.replicate_zero, List.set_cons_zero, List.set_cons_succ, List.getElem?_cons_zero, List.getElem?_cons_succ, List.drop_zero, List.take_succ_cons, List.take_nil, Option.getD_some, List.length_cons, List.length_nil, Nat.reduceAdd, Nat.reduceLeDiff, Nat.zero_add, bin_add, bin_lss, w64, if_true, if_false, Bool.false_eq_true, decide_true, Go.Eng.e1, true_and, hlt', hx.len, hx.idx hlt, hx.ld0 hz 1 false (by decide)]
    exact ⟨i + 1, hlt, by simp [Has, rd_s, take_sum hz], by omega⟩
  · have hlt' : ¬ ((i : Int) < xs.length) := by omega
    simp (maxSteps := 4000000) -implicitDefEqProofs -dsimp (disch := omega) only [↓AW_ops, ↓AW_seq, ↓AW_cond, ↓AW_exit, ↓AW_ret, ↓AOps_nil, ↓AOps_pu, on_some, condB_f, ↓then_normal, ↓then_exit, ↓inBlock_exit, ↓Fin_ret, pval, rd_S, put_S, resV, resL, eq_self, mk, List.foldl_cons, List.foldl_nil, List.replicate_succ, List.replicate_zero, List.set_cons_zero, List.set_cons_succ, List.getElem?_cons_zero, List.getElem?_cons_succ, Option.getD_some, bin_lss, if_true, decide_false, hlt', hx.len]
    rw [List.take_of_length_le (by omega)]
    exact gc_same rfl
/-- A claim. -/
def cK (c : Int) : Bool := decide (0 ≤ c ∧ c ≤ 1000)
/-- The claims of a case. -/
def okC (cs : List Int) : Bool := decide ((1 : Int) ≤ cs.length ∧ (cs.length : Int) ≤ 8) && cs.all cK
structure OK (cs : List Int) : Prop where
  l1 : 1 ≤ cs.length
  l8 : cs.length ≤ 8
  c : ∀ x ∈ cs, 0 ≤ x ∧ x ≤ 1000
theorem okC_iff {cs : List Int} : okC cs = true ↔ OK cs := by
  unfold okC
  rw [Bool.and_eq_true, decide_eq_true_iff, List.all_eq_true]
  constructor
  · rintro ⟨h1, h2⟩
    exact ⟨by omega, by omega, fun x hx => by simpa [cK] using h2 x hx⟩
  · rintro ⟨h1, h2, h3⟩
    exact ⟨by omega, fun x hx => by simpa [cK] using h3 x hx⟩
theorem OK.bd {cs : List Int} (h : OK cs) : ∀ x ∈ cs, -1000000000000 ≤ x ∧ x ≤ 1000000000000 := fun x hx => by have := h.c x hx; omega
theorem OK.sum {cs : List Int} (h : OK cs) : 0 ≤ cs.sum ∧ cs.sum ≤ 8000 := by
  have := sum_bd0 h.c
  have := h.l8
  omega
/-- A case. -/
structure CE (cs : List Int) (e : Int) : Prop where
  ok : OK cs
  e0 : 0 ≤ e
  e1 : e ≤ cs.sum
section
variable {cs : List Int} {v : AV} {A : AHeap}
theorem s78 (n : Int) (A : AHeap) : ACalls Try.prog 78 [I n] A (B (!cK n)) A := by
  refine acalls hmix Try.func78 (by kernel_rfl) t78 1 rfl (by decide) ?_
  by_cases h : n < 0
  · have : cK n = false := by simp [cK]; omega
    dsimp only [m78]
    simp (maxSteps := 4000000) -implicitDefEqProofs -dsimp (disch := omega) only [↓AW_ops, ↓AW_seq, ↓AW_ret, ↓AOps_nil, ↓AOps_pu, ↓AOps_guard, on_some, guardB_tf, skipS_some, ↓then_normal, ↓Fin_ret, pval, rd_S, rd_C, put_S, resV, resL, eq_self, List.replicate_succ, List.replicate_zero, List.set_cons_zero, List.set_cons_succ, List.getElem?_cons_zero, List.getElem?_cons_succ, Option.getD_some, Nat.reduceSub, List.cons_append, List.nil_append, bin_lss, if_true, decide_true, h]
    exact gc_same (by rw [this]; rfl)
  · by_cases h2 : 1000 < n
    · have : cK n = false := by simp [cK]; omega
      dsimp only [m78]
      simp (maxSteps := 4000000) -implicitDefEqProofs -dsimp (disch := omega) only [↓AW_ops, ↓AW_seq, ↓AW_ret, ↓AOps_nil, ↓AOps_pu, ↓AOps_guard, on_some, guardB_ff, ↓then_normal, ↓Fin_ret, pval, rd_S, rd_C, put_S, resV, resL, List.replicate_succ, List.replicate_zero, List.set_cons_zero, List.set_cons_succ, List.getElem?_cons_zero, List.getElem?_cons_succ, Option.getD_some, Nat.reduceSub, List.cons_append, List.nil_append, bin_lss, bin_gtr, if_false, Bool.false_eq_true, decide_true, decide_false, h, h2]
      exact gc_same (by rw [this]; rfl)
    · have : cK n = true := by simp [cK]; omega
      dsimp only [m78]
      simp (maxSteps := 4000000) -implicitDefEqProofs -dsimp (disch := omega) only [↓AW_ops, ↓AW_seq, ↓AW_ret, ↓AOps_nil, ↓AOps_pu, ↓AOps_guard, on_some, guardB_ff, ↓then_normal, ↓Fin_ret, pval, rd_S, rd_C, put_S, resV, resL, List.replicate_succ, List.replicate_zero, List.set_cons_zero, List.set_cons_succ, List.getElem?_cons_zero, List.getElem?_cons_succ, Option.getD_some, Nat.reduceSub, List.cons_append, List.nil_append, bin_lss, bin_gtr, if_false, Bool.false_eq_true, decide_false, h, h2]
      exact gc_same (by rw [this]; rfl)
theorem any_not {g : Int → Bool} (xs : List Int) : (!(xs.any (fun y => !g y))) = xs.all g := by
  induction xs with
  | nil => rfl
  | cons x xs ih => rw [List.any_cons, List.all_cons, ← ih, Bool.not_or, Bool.not_not]
theorem s53 (hx : L1 A v cs) (hl : cs.length ≤ 1000000) : ACalls Try.prog 53 [v] A (B (okC cs)) A := by
  refine acalls hmix Try.func53 (by kernel_rfl) t53 1 rfl (by decide) ?_
  by_cases h1 : (1 : Int) ≤ cs.length
  · by_cases h8 : (cs.length : Int) ≤ 8
    · dsimp only [m53]
      simp (maxSteps := 4000000) -implicitDefEqProofs -dsimp (disch := omega) only [↓AW_ops, ↓AW_seq, ↓AOps_nil, ↓AOps_pu, ↓AOps_call, ↓AOps_guard, on_some, guardB_tt, ↓then_normal, pval, rd_S, rd_C, put_S, eq_self, List.replicate_succ, List.replicate_zero, List.set_cons_zero, List.set_cons_succ, List.getElem?_cons_zero, List.getElem?_cons_succ, Option.getD_some, map_c, map_n, Nat.reduceSub, List.cons_append, List.nil_append, bin_leq, bin_geq, if_true, decide_true, hx.len, h1, h8]
      refine CallK.of (c_ContainsFunc hx hl 78 [] (fun c => !cK c) (fun x _ => s78 x A)) ?_
      simp (maxSteps := 4000000) -implicitDefEqProofs -dsimp (disch := omega) only [↓AW_ret, ↓AOps_nil, ↓AOps_pu, ↓AOps_guard, on_some, extK_same, guardB_tt, ↓then_normal, ↓Fin_ret, pval, rd_S, rd_C, put_S, resV, resL, eq_self, List.replicate_succ, List.replicate_zero, List.set_cons_zero, List.set_cons_succ, List.getElem?_cons_zero, List.getElem?_cons_succ, Option.getD_some, Nat.reduceSub, List.cons_append, List.nil_append, if_true]
      refine gc_same ?_
      unfold okC
      rw [← any_not (g := cK)]
      simp [h1, h8]
    · dsimp only [m53]
      simp (maxSteps := 4000000) -implicitDefEqProofs -dsimp (disch := omega) only [↓AW_ops, ↓AW_seq, ↓AW_ret, ↓AOps_nil, ↓AOps_pu, ↓AOps_guard, on_some, guardB_tt, guardB_ft, skipS_some, ↓then_normal, ↓Fin_ret, pval, rd_S, rd_C, put_S, resV, resL, eq_self, List.replicate_succ, List.replicate_zero, List.set_cons_zero, List.set_cons_succ, List.getElem?_cons_zero, List.getElem?_cons_succ, Option.getD_some, Nat.reduceSub, List.cons_append, List.nil_append, bin_leq, bin_geq, if_true, if_false, Bool.false_eq_true, decide_true, decide_false, hx.len, h1, h8]
      exact gc_same (by unfold okC; simp [h1, h8])
  · dsimp only [m53]
    simp (maxSteps := 4000000) -implicitDefEqProofs -dsimp (disch := omega) only [↓AW_ops, ↓AW_seq, ↓AW_ret, ↓AOps_nil, ↓AOps_pu, ↓AOps_guard, on_some, guardB_ft, skipS_some, ↓then_normal, ↓Fin_ret, pval, rd_S, rd_C, put_S, resV, resL, List.replicate_succ, List.replicate_zero, List.set_cons_zero, List.set_cons_succ, List.getElem?_cons_zero, List.getElem?_cons_succ, Option.getD_some, Nat.reduceSub, List.cons_append, List.nil_append, bin_geq, if_false, Bool.false_eq_true, decide_false, hx.len, h1]
    exact gc_same (by unfold okC; simp [h1])
theorem s59 (hx : L1 A v cs) (hl : cs.length ≤ 1000000) : ACalls Try.prog 59 [v] A (B (okC cs)) A := by
  refine acalls hmix Try.func59 (by kernel_rfl) t59 1 rfl (by decide) ?_
  dsimp only [m59]
  simp (maxSteps := 4000000) -implicitDefEqProofs -dsimp (disch := omega) only [↓AW_ops, ↓AW_seq, ↓AOps_nil, ↓AOps_pu, ↓AOps_call, on_some, ↓then_normal, pval, rd_S, rd_C, put_S, List.replicate_succ, List.replicate_zero, List.set_cons_zero, List.set_cons_succ, List.getElem?_cons_zero, List.getElem?_cons_succ, Option.getD_some, map_c, map_n, Nat.reduceSub, List.cons_append, List.nil_append, hx.len]
  refine CallK.of (c_wi _ _ _ _) ?_
  by_cases h1 : (1 : Int) ≤ cs.length ∧ (cs.length : Int) ≤ 8
  · simp (maxSteps := 4000000) -implicitDefEqProofs -dsimp (disch := omega) only [↓AW_skip, ↓AW_ops, ↓AW_seq, ↓AW_cond, ↓AW_block, ↓AOps_nil, ↓AOps_pu, on_some, extK_same, condB_f, ↓then_normal, pval, rd_S, rd_C, put_S, ↓AW_toLoop, List.replicate_succ, List.replicate_zero, List.set_cons_zero, List.set_cons_succ, List.getElem?_cons_zero, List.getElem?_cons_succ, Option.getD_some, Nat.reduceSub, List.cons_append, List.nil_append, Bool.not_true, decide_true, and_true, h1]
    refine LoopK.by 20 (fun i : Nat => i ≤ cs.length ∧ (cs.take i).all cK = true) (fun i => [(0, v), (3, I i)]) (fun _ => A) (fun i => cs.length - i) 0 ⟨by omega, rfl⟩ rfl (by simp [Has, rd_s]) rfl ?_
    rintro i ⟨hi, he⟩
    by_cases hlt : i < cs.length
    · obtain ⟨z, hz⟩ : ∃ z, cs[i]? = some z := ⟨_, List.getElem?_eq_getElem hlt⟩
      have hlt' : (i : Int) < cs.length := by omega
      simp (maxSteps := 4000000) -implicitDefEqProofs -dsimp (disch := omega) only [↓AW_skip, ↓AW_ops, ↓AW_seq, ↓AW_cond, ↓AW_block, ↓AOps_nil, ↓AOps_pu, ↓AOps_ld, ↓AOps_call, on_some, condB_t, ↓then_normal, pval, lval, rd_S, rd_C, put_S, partA, eq_self, mk, List.foldl_cons, List.foldl_nil, List.replicate_succ, List.replicate_zero, List.set_cons_zero, List.set_cons_succ, List.getElem?_cons_zero, List.getElem?_cons_succ, List.drop_zero, List.take_succ_cons, List.take_nil, Option.getD_some, map_c, map_n, List.length_cons, List.length_nil, Nat.reduceLeDiff, Nat.zero_add, bin_lss, if_true, if_false, Bool.false_eq_true, decide_true, Go.Eng.e1, hlt', hx.len, hx.idx hlt, hx.ld0 hz 1 false (by decide)]
      refine CallK.of (c_wi _ _ _ _) ?_
      by_cases h2 : 0 ≤ z ∧ z ≤ 1000
      · simp (maxSteps := 4000000) -implicitDefEqProofs -dsimp (disch := omega) only [↓AW_skip, ↓AW_ops, ↓AW_cond, ↓AOps_nil, ↓AOps_pu, on_some, extK_same, condB_f, ↓then_normal, ↓inBlock_normal, pval, rd_S, rd_C, put_S, eq_self, mk, List.foldl_cons, List.foldl_nil, List.replicate_succ, List.replicate_zero, List.set_cons_zero, List.set_cons_succ, List.getElem?_cons_zero, List.getElem?_cons_succ, Option.getD_some, List.length_cons, List.length_nil, Nat.reduceAdd, Nat.zero_add, bin_add, w64, Bool.not_true, decide_true, true_and, and_true, h2]
        refine ⟨i + 1, ⟨hlt, ?_⟩, by simp [Has, rd_s], by omega⟩
        rw [List.take_add_one, hz, List.all_append, he]
        simp [cK, h2]
      · simp (maxSteps := 4000000) -implicitDefEqProofs -dsimp (disch := omega) only [↓AW_ops, ↓AW_seq, ↓AW_cond, ↓AW_ret, ↓AOps_nil, ↓AOps_pu, on_some, extK_same, condB_t, ↓then_normal, ↓then_ret, ↓inBlock_ret, ↓Fin_ret, pval, rd_S, rd_C, put_S, resV, resL, mk, List.foldl_cons, List.foldl_nil, List.replicate_succ, List.replicate_zero, List.set_cons_zero, List.set_cons_succ, List.getElem?_cons_zero, List.getElem?_cons_succ, Option.getD_some, Bool.not_false, decide_false, h2]
        refine gc_same ?_
        have : okC cs = false := by
          unfold okC
          have hf : cs.all cK = false := by
            rw [← Bool.not_eq_true, List.all_eq_true]
            intro hh
            have := hh z (List.mem_of_getElem? hz)
            simp [cK] at this
            omega
          rw [hf, Bool.and_false]
        rw [this]
    · have hlt' : ¬ ((i : Int) < cs.length) := by omega
      rw [List.take_of_length_le (by omega)] at he
      simp (maxSteps := 4000000) -implicitDefEqProofs -dsimp (disch := omega) only [↓AW_ops, ↓AW_seq, ↓AW_cond, ↓AW_exit, ↓AW_ret, ↓AOps_nil, ↓AOps_pu, on_some, condB_f, ↓then_normal, ↓then_exit, ↓inBlock_exit, ↓Fin_ret, pval, rd_S, rd_C, put_S, resV, resL, eq_self, mk, List.foldl_cons, List.foldl_nil, List.replicate_succ, List.replicate_zero, List.set_cons_zero, List.set_cons_succ, List.getElem?_cons_zero, List.getElem?_cons_succ, Option.getD_some, bin_lss, if_true, decide_false, hlt', hx.len]
      exact gc_same (by unfold okC; rw [he]; simp [h1])
  · simp (maxSteps := 4000000) -implicitDefEqProofs -dsimp (disch := omega) only [↓AW_ops, ↓AW_seq, ↓AW_cond, ↓AW_ret, ↓AOps_nil, ↓AOps_pu, on_some, extK_same, condB_t, ↓then_normal, ↓then_ret, ↓Fin_ret, pval, rd_S, rd_C, put_S, resV, resL, List.replicate_succ, List.replicate_zero, List.set_cons_zero, List.set_cons_succ, List.getElem?_cons_zero, List.getElem?_cons_succ, Option.getD_some, Nat.reduceSub, List.cons_append, List.nil_append, Bool.not_false, decide_false, h1]
    exact gc_same (by unfold okC; simp [h1])
end
theorem take_succ_eq {α : Type} {xs ys : List α} {i : Nat} {z w : α} (hz : xs[i]? = some z) (hw : ys[i]? = some w) : xs.take (i + 1) = ys.take (i + 1) ↔ xs.take i = ys.take i ∧ z = w := by
  rw [List.take_add_one, List.take_add_one, hz, hw]
  constructor
  · intro h
    have := List.append_inj' h rfl
    exact ⟨this.1, by simpa using this.2⟩
  · rintro ⟨h, rfl⟩; rw [h]
theorem c_SameInts {xs ys : List Int} {v u : AV} {A : AHeap} (hx : L1 A v xs) (hy : L1 A u ys) (hl : xs.length ≤ 1000000) : ACalls Try.prog 26 [v, u] A (B (decide (xs = ys))) A := by
  refine acalls hmix Try.func26 (by kernel_rfl) t26 2 rfl (by decide) ?_
  by_cases hle : xs.length = ys.length
  · have hle' : (xs.length : Int) = ys.length := by omega
    dsimp only [m26]
    simp (maxSteps := 4000000) -implicitDefEqProofs -dsimp (disch := omega) only [↓AW_skip, ↓AW_ops, ↓AW_seq, ↓AW_cond, ↓AW_block, ↓AOps_nil, ↓AOps_pu, on_some, condB_f, ↓then_normal, pval, rd_S, rd_C, put_S, ↓AW_toLoop, eq_self, List.replicate_succ, List.replicate_zero, List.set_cons_zero, List.set_cons_succ, List.getElem?_cons_zero, List.getElem?_cons_succ, Option.getD_some, Nat.reduceSub, List.cons_append, List.nil_append, bin_neq, decide_false, not_true_eq_false, hx.len, hy.len, hle']
    refine LoopK.by 26 (fun i : Nat => i ≤ xs.length ∧ xs.take i = ys.take i) (fun i => [(0, v), (1, u), (5, I i)]) (fun _ => A) (fun i => xs.length - i) 0 ⟨by omega, rfl⟩ rfl (by simp [Has, rd_s]) rfl ?_
    rintro i ⟨hi, he⟩
    by_cases hlt : i < xs.length
    · obtain ⟨z, hz⟩ : ∃ z, xs[i]? = some z := ⟨_, List.getElem?_eq_getElem hlt⟩
      have hlt' : (i : Int) < xs.length := by omega
      have hlt2 : i < ys.length := by omega
      obtain ⟨w, hw⟩ : ∃ w, ys[i]? = some w := ⟨_, List.getElem?_eq_getElem hlt2⟩
      by_cases hzw : z = w
      · subst hzw
        simp (maxSteps := 4000000) -implicitDefEqProofs -dsimp (disch := omega) only [↓AW_skip, ↓AW_ops, ↓AW_seq, ↓AW_cond, ↓AW_block, ↓AOps_nil, ↓AOps_pu, ↓AOps_ld, on_some, condB_t, condB_f, ↓then_normal, ↓inBlock_normal, pval, lval, rd_S, rd_C, put_S, partA, eq_self, mk, List.foldl_cons, List.foldl_nil, List.replicate_succ, List.replicate_zero, List.set_cons_zero, List.set_cons_succ, List.getElem?_cons_zero, List.getElem?_cons_succ, List.drop_zero, List.take_succ_cons, List.take_nil, Option.getD_some, List.length_cons, List.length_nil, Nat.reduceAdd, Nat.reduceLeDiff, Nat.zero_add, bin_add, bin_neq, bin_lss, w64, if_true, if_false, Bool.false_eq_true, decide_true, decide_false, Go.Eng.e1, true_and, not_true_eq_false, hlt', hx.len, hx.idx hlt, hx.ld0 hz 1 false (by decide), hy.idx hlt2, hy.ld0 hw 1 false (by decide)]
        exact ⟨i + 1, ⟨hlt, (take_succ_eq hz hw).2 ⟨he, rfl⟩⟩, by simp [Has, rd_s], by omega⟩
      · simp (maxSteps := 4000000) -implicitDefEqProofs -dsimp (disch := omega) only [↓AW_skip, ↓AW_ops, ↓AW_seq, ↓AW_cond, ↓AW_block, ↓AW_ret, ↓AOps_nil, ↓AOps_pu, ↓AOps_ld, on_some, condB_t, ↓then_normal, ↓then_ret, ↓inBlock_ret, ↓Fin_ret, pval, lval, rd_S, rd_C, put_S, resV, resL, partA, eq_self, mk, List.foldl_cons, List.foldl_nil, List.replicate_succ, List.replicate_zero, List.set_cons_zero, List.set_cons_succ, List.getElem?_cons_zero, List.getElem?_cons_succ, List.drop_zero, List.take_succ_cons, List.take_nil, Option.getD_some, List.length_cons, List.length_nil, Nat.reduceLeDiff, Nat.zero_add, bin_neq, bin_lss, if_true, if_false, Bool.false_eq_true, decide_true, Go.Eng.e1, not_false_eq_true, hlt', hx.len, hx.idx hlt, hx.ld0 hz 1 false (by decide), hy.idx hlt2, hy.ld0 hw 1 false (by decide), hzw]
        refine gc_same ?_
        have : ¬ xs = ys := by rintro rfl; rw [hz] at hw; exact hzw (Option.some.inj hw)
        simp [this]
    · have hlt' : ¬ ((i : Int) < xs.length) := by omega
      simp (maxSteps := 4000000) -implicitDefEqProofs -dsimp (disch := omega) only [↓AW_ops, ↓AW_seq, ↓AW_cond, ↓AW_exit, ↓AW_ret, ↓AOps_nil, ↓AOps_pu, on_some, condB_f, ↓then_normal, ↓then_exit, ↓inBlock_exit, ↓Fin_ret, pval, rd_S, rd_C, put_S, resV, resL, eq_self, mk, List.foldl_cons, List.foldl_nil, List.replicate_succ, List.replicate_zero, List.set_cons_zero, List.set_cons_succ, List.getElem?_cons_zero, List.getElem?_cons_succ, Option.getD_some, bin_lss, if_true, decide_false, hlt', hx.len]
      rw [List.take_of_length_le (by omega), List.take_of_length_le (by omega)] at he
      exact gc_same (by simp [he])
  · have hle' : ¬ (xs.length : Int) = ys.length := by omega
    dsimp only [m26]
    simp (maxSteps := 4000000) -implicitDefEqProofs -dsimp (disch := omega) only [↓AW_ops, ↓AW_seq, ↓AW_cond, ↓AW_ret, ↓AOps_nil, ↓AOps_pu, on_some, condB_t, ↓then_normal, ↓then_ret, ↓Fin_ret, pval, rd_S, rd_C, put_S, resV, resL, List.replicate_succ, List.replicate_zero, List.set_cons_zero, List.set_cons_succ, List.getElem?_cons_zero, List.getElem?_cons_succ, Option.getD_some, Nat.reduceSub, List.cons_append, List.nil_append, bin_neq, decide_true, not_false_eq_true, hx.len, hy.len, hle']
    have : ¬ xs = ys := by rintro rfl; exact hle rfl
    exact gc_same (by simp [this])
theorem s23 {xs : List Int} {v : AV} {A : AHeap} (hx : L1 A v xs) : ACalls Try.prog 23 [v] A (B (decide ((40 : Int) < xs.length))) A := by
  refine acalls hmix Try.func23 (by kernel_rfl) t23 1 rfl (by decide) ?_
  dsimp only [m23]
  simp (maxSteps := 4000000) -implicitDefEqProofs -dsimp (disch := omega) only [↓AW_ops, ↓AW_seq, ↓AW_ret, ↓AOps_nil, ↓AOps_pu, on_some, ↓then_normal, ↓Fin_ret, pval, rd_S, rd_C, put_S, resV, resL, List.replicate_succ, List.replicate_zero, List.set_cons_zero, List.set_cons_succ, List.getElem?_cons_zero, List.getElem?_cons_succ, Option.getD_some, Nat.reduceSub, List.cons_append, List.nil_append, bin_gtr, hx.len]
  exact gc_same rfl
end Go.Proofs.Ytdcdjhhjlpegjaa

namespace Go.Proofs.Ytdcdjhhjlpegjaa
open Go Go.Eng
/-- selion/selionlaw03.ClaimOrders [] -/
def m3 : MFun := ⟨93, [1], [.mov (.s 2)],
 .seq (.ops [⟨(some 1), some (.junk), none, false, .pu (.bnew (.s 0))⟩,
   ⟨(some 2), some undefA, none, false, .pu (.mov (.c (.bool false)))⟩])
 (.seq (.seq (.ops [⟨(some 11), some undefA, none, false, .pu (.bget none 1 0 2 true)⟩,
   ⟨(some 12), some undefA, none, false, .call 15 [(.s 11)]⟩,
   ⟨(some 13), some undefA, none, false, .pu (.mov (.s 12))⟩,
   ⟨(some 14), some undefA, (some (13, false)), false, .pu (.badr none 1)⟩,
   ⟨(some 15), some undefA, (some (13, false)), false, .pu (.bget (some 14) 1 0 1 false)⟩,
   ⟨(some 16), some undefA, (some (13, false)), false, .pu (.badr none 1)⟩,
   ⟨(some 17), some undefA, (some (13, false)), false, .pu (.bget (some 16) 1 1 1 false)⟩,
   ⟨(some 18), some undefA, (some (13, false)), false, .call 16 [(.s 15), (.s 17)]⟩,
   ⟨(some 19), some undefA, (some (13, false)), false, .pu (.bin .neq (.s 18) (.c (.int .i64 0)))⟩,
   ⟨(some 20), some undefA, none, false, .pu (.pick (.s 13) (.c (.bool true)) (.s 19))⟩])
 (.cond (.s 20) (.seq (.ops [⟨(some 21), some undefA, none, false, .call 17 []⟩,
    ⟨(some 2), some undefA, none, false, .pu (.mov (.s 21))⟩])
  (.ret))
 (.skip)))
 (.seq (.ops [⟨(some 23), some undefA, none, false, .pu (.badr none 1)⟩,
   ⟨(some 24), some undefA, none, false, .pu (.bget (some 23) 1 0 1 false)⟩,
   ⟨(some 25), some undefA, none, false, .pu (.badr none 1)⟩,
   ⟨(some 26), some undefA, none, false, .pu (.bget (some 25) 1 1 1 false)⟩,
   ⟨(some 27), some undefA, none, false, .call 18 [(.s 24), (.s 26)]⟩,
   ⟨(some 22), some undefA, none, false, .pu (.mov (.s 27))⟩,
   ⟨(some 28), some undefA, none, false, .pu (.extr 0 (.s 22))⟩,
   ⟨(some 29), some undefA, none, false, .pu (.extr 1 (.s 22))⟩,
   ⟨(some 3), some undefA, none, false, .pu (.mov (.s 28))⟩,
   ⟨(some 4), some undefA, none, false, .pu (.mov (.s 29))⟩])
 (.seq (.ops [⟨(some 31), some undefA, none, false, .pu (.badr none 1)⟩,
   ⟨(some 32), some undefA, none, false, .pu (.bget (some 31) 1 0 1 false)⟩,
   ⟨(some 33), some undefA, none, false, .pu (.badr none 1)⟩,
   ⟨(some 34), some undefA, none, false, .pu (.bget (some 33) 1 1 1 false)⟩,
   ⟨(some 35), some undefA, none, false, .call 19 [(.s 32), (.s 34)]⟩,
   ⟨(some 30), some undefA, none, false, .pu (.mov (.s 35))⟩,
   ⟨(some 36), some undefA, none, false, .pu (.extr 0 (.s 30))⟩,
   ⟨(some 37), some undefA, none, false, .pu (.extr 1 (.s 30))⟩,
   ⟨(some 5), some undefA, none, false, .pu (.mov (.s 36))⟩,
   ⟨(some 6), some undefA, none, false, .pu (.mov (.s 37))⟩])
 (.seq (.ops [⟨(some 39), some undefA, none, false, .pu (.badr none 1)⟩,
   ⟨(some 40), some undefA, none, false, .pu (.bget (some 39) 1 0 1 false)⟩,
   ⟨(some 41), some undefA, none, false, .pu (.badr none 1)⟩,
   ⟨(some 42), some undefA, none, false, .pu (.bget (some 41) 1 1 1 false)⟩,
   ⟨(some 43), some undefA, none, false, .call 20 [(.s 40), (.s 42)]⟩,
   ⟨(some 38), some undefA, none, false, .pu (.mov (.s 43))⟩,
   ⟨(some 44), some undefA, none, false, .pu (.extr 0 (.s 38))⟩,
   ⟨(some 45), some undefA, none, false, .pu (.extr 1 (.s 38))⟩,
   ⟨(some 7), some undefA, none, false, .pu (.mov (.s 44))⟩,
   ⟨(some 8), some undefA, none, false, .pu (.mov (.s 45))⟩])
 (.seq (.ops [⟨(some 47), some undefA, none, false, .pu (.badr none 1)⟩,
   ⟨(some 48), some undefA, none, false, .pu (.bget (some 47) 1 0 1 false)⟩,
   ⟨(some 49), some undefA, none, false, .pu (.badr none 1)⟩,
   ⟨(some 50), some undefA, none, false, .pu (.bget (some 49) 1 1 1 false)⟩,
   ⟨(some 51), some undefA, none, false, .call 21 [(.s 48), (.s 50)]⟩,
   ⟨(some 46), some undefA, none, false, .pu (.mov (.s 51))⟩,
   ⟨(some 52), some undefA, none, false, .pu (.extr 0 (.s 46))⟩,
   ⟨(some 53), some undefA, none, false, .pu (.extr 1 (.s 46))⟩,
   ⟨(some 9), some undefA, none, false, .pu (.mov (.s 52))⟩,
   ⟨(some 10), some undefA, none, false, .pu (.mov (.s 53))⟩])
 (.seq (.seq (.ops [⟨(some 54), some undefA, none, false, .pu (.mov (.s 4))⟩,
   ⟨(some 55), some undefA, none, false, .pu (.bin .neq (.s 54) (.c (.int .i64 0)))⟩,
   ⟨(some 56), some undefA, none, false, .pu (.mov (.s 55))⟩,
   ⟨(some 57), some undefA, (some (56, false)), false, .pu (.mov (.s 6))⟩,
   ⟨(some 58), some undefA, (some (56, false)), false, .pu (.bin .neq (.s 57) (.c (.int .i64 0)))⟩,
   ⟨(some 59), some undefA, none, false, .pu (.pick (.s 56) (.c (.bool true)) (.s 58))⟩,
   ⟨(some 60), some undefA, none, false, .pu (.mov (.s 59))⟩,
   ⟨(some 61), some undefA, (some (60, false)), false, .pu (.mov (.s 8))⟩,
   ⟨(some 62), some undefA, (some (60, false)), false, .pu (.bin .neq (.s 61) (.c (.int .i64 0)))⟩,
   ⟨(some 63), some undefA, none, false, .pu (.pick (.s 60) (.c (.bool true)) (.s 62))⟩,
   ⟨(some 64), some undefA, none, false, .pu (.mov (.s 63))⟩,
   ⟨(some 65), some undefA, (some (64, false)), false, .pu (.mov (.s 10))⟩,
   ⟨(some 66), some undefA, (some (64, false)), false, .pu (.bin .neq (.s 65) (.c (.int .i64 0)))⟩,
   ⟨(some 67), some undefA, none, false, .pu (.pick (.s 64) (.c (.bool true)) (.s 66))⟩])
 (.cond (.s 67) (.seq (.ops [⟨(some 2), some undefA, none, false, .pu (.mov (.c (.bool false)))⟩])
  (.ret))
 (.skip)))
 (.seq (.ops [⟨(some 68), some undefA, none, false, .pu (.badr none 1)⟩,
   ⟨(some 69), some undefA, none, false, .pu (.bget (some 68) 1 0 1 false)⟩,
   ⟨(some 70), some undefA, none, false, .pu (.mov (.s 3))⟩,
   ⟨(some 71), some undefA, none, false, .call 22 [(.s 69), (.s 70)]⟩,
   ⟨(some 72), some undefA, none, false, .pu (.mov (.s 71))⟩,
   ⟨(some 73), some undefA, (some (72, true)), false, .pu (.badr none 1)⟩,
   ⟨(some 74), some undefA, (some (72, true)), false, .pu (.bget (some 73) 1 0 1 false)⟩,
   ⟨(some 75), some undefA, (some (72, true)), false, .pu (.mov (.s 5))⟩,
   ⟨(some 76), some undefA, (some (72, true)), false, .call 22 [(.s 74), (.s 75)]⟩,
   ⟨(some 77), some undefA, none, false, .pu (.pick (.s 72) (.s 76) (.c (.bool false)))⟩,
   ⟨(some 78), some undefA, none, false, .pu (.mov (.s 77))⟩,
   ⟨(some 79), some undefA, (some (78, true)), false, .pu (.badr none 1)⟩,
   ⟨(some 80), some undefA, (some (78, true)), false, .pu (.bget (some 79) 1 0 1 false)⟩,
   ⟨(some 81), some undefA, (some (78, true)), false, .pu (.mov (.s 7))⟩,
   ⟨(some 82), some undefA, (some (78, true)), false, .call 22 [(.s 80), (.s 81)]⟩,
   ⟨(some 83), some undefA, none, false, .pu (.pick (.s 78) (.s 82) (.c (.bool false)))⟩,
   ⟨(some 84), some undefA, none, false, .pu (.mov (.s 83))⟩,
   ⟨(some 85), some undefA, (some (84, true)), false, .pu (.badr none 1)⟩,
   ⟨(some 86), some undefA, (some (84, true)), false, .pu (.bget (some 85) 1 0 1 false)⟩,
   ⟨(some 87), some undefA, (some (84, true)), false, .pu (.mov (.s 9))⟩,
   ⟨(some 88), some undefA, (some (84, true)), false, .call 22 [(.s 86), (.s 87)]⟩,
   ⟨(some 89), some undefA, none, false, .pu (.pick (.s 84) (.s 88) (.c (.bool false)))⟩,
   ⟨(some 90), some undefA, none, false, .pu (.mov (.s 89))⟩,
   ⟨(some 91), some undefA, (some (90, true)), false, .call 17 []⟩,
   ⟨(some 92), some undefA, none, false, .pu (.pick (.s 90) (.s 91) (.c (.bool false)))⟩,
   ⟨(some 2), some undefA, none, false, .pu (.mov (.s 92))⟩])
 (.ret))))))))⟩
/-- selion/selionlaw03.ClaimPays [] -/
def m4 : MFun := ⟨58, [], [.mov (.s 6)],
 .seq (.ops [⟨(some 6), some undefA, none, false, .pu (.mov (.c (.bool false)))⟩])
 (.seq (.seq (.ops [⟨(some 11), some undefA, none, false, .pu (.mov (.s 0))⟩,
   ⟨(some 12), some undefA, none, false, .call 23 [(.s 11)]⟩,
   ⟨(some 13), some undefA, none, false, .pu (.mov (.s 12))⟩,
   ⟨(some 14), some undefA, (some (13, false)), false, .pu (.mov (.s 1))⟩,
   ⟨(some 15), some undefA, (some (13, false)), false, .call 23 [(.s 14)]⟩,
   ⟨(some 16), some undefA, none, false, .pu (.pick (.s 13) (.c (.bool true)) (.s 15))⟩])
 (.cond (.s 16) (.seq (.ops [⟨(some 17), some undefA, none, false, .call 17 []⟩,
    ⟨(some 6), some undefA, none, false, .pu (.mov (.s 17))⟩])
  (.ret))
 (.skip)))
 (.seq (.ops [⟨(some 19), some undefA, none, false, .pu (.mov (.s 0))⟩,
   ⟨(some 20), some undefA, none, false, .pu (.mov (.s 1))⟩,
   ⟨(some 21), some undefA, none, false, .pu (.mov (.s 2))⟩,
   ⟨(some 22), some undefA, none, false, .call 24 [(.s 19), (.s 20), (.s 21)]⟩,
   ⟨(some 18), some undefA, none, false, .pu (.mov (.s 22))⟩,
   ⟨(some 23), some undefA, none, false, .pu (.extr 0 (.s 18))⟩,
   ⟨(some 24), some undefA, none, false, .pu (.extr 1 (.s 18))⟩,
   ⟨(some 7), some undefA, none, false, .pu (.mov (.s 23))⟩,
   ⟨(some 8), some undefA, none, false, .pu (.mov (.s 24))⟩])
 (.seq (.ops [⟨(some 26), some undefA, none, false, .pu (.mov (.s 0))⟩,
   ⟨(some 27), some undefA, none, false, .pu (.mov (.s 1))⟩,
   ⟨(some 28), some undefA, none, false, .pu (.mov (.s 2))⟩,
   ⟨(some 29), some undefA, none, false, .call 25 [(.s 26), (.s 27), (.s 28)]⟩,
   ⟨(some 25), some undefA, none, false, .pu (.mov (.s 29))⟩,
   ⟨(some 30), some undefA, none, false, .pu (.extr 0 (.s 25))⟩,
   ⟨(some 31), some undefA, none, false, .pu (.extr 1 (.s 25))⟩,
   ⟨(some 9), some undefA, none, false, .pu (.mov (.s 30))⟩,
   ⟨(some 10), some undefA, none, false, .pu (.mov (.s 31))⟩])
 (.seq (.seq (.ops [⟨(some 32), some undefA, none, false, .pu (.mov (.s 7))⟩,
   ⟨(some 33), some undefA, none, false, .pu (.mov (.s 9))⟩,
   ⟨(some 34), some undefA, none, false, .call 26 [(.s 32), (.s 33)]⟩,
   ⟨(some 35), some undefA, none, false, .pu (.not (.s 34))⟩,
   ⟨(some 36), some undefA, none, false, .pu (.mov (.s 35))⟩,
   ⟨(some 37), some undefA, (some (36, false)), false, .pu (.mov (.s 8))⟩,
   ⟨(some 38), some undefA, (some (36, false)), false, .pu (.mov (.s 10))⟩,
   ⟨(some 39), some undefA, (some (36, false)), false, .pu (.bin .neq (.s 37) (.s 38))⟩,
   ⟨(some 40), some undefA, none, false, .pu (.pick (.s 36) (.c (.bool true)) (.s 39))⟩])
 (.cond (.s 40) (.seq (.ops [⟨(some 6), some undefA, none, false, .pu (.mov (.c (.bool false)))⟩])
  (.ret))
 (.skip)))
 (.seq (.ops [⟨(some 41), some undefA, none, false, .pu (.mov (.s 8))⟩,
   ⟨(some 42), some undefA, none, false, .pu (.bin .neq (.s 41) (.c (.int .i64 0)))⟩,
   ⟨(some 43), some undefA, none, false, .pu (.mov (.s 42))⟩,
   ⟨(some 44), some undefA, (some (43, false)), false, .pu (.mov (.s 7))⟩,
   ⟨(some 45), some undefA, (some (43, false)), false, .call 27 [(.s 44)]⟩,
   ⟨(some 46), some undefA, (some (43, false)), false, .pu (.mov (.s 0))⟩,
   ⟨(some 47), some undefA, (some (43, false)), false, .call 27 [(.s 46)]⟩,
   ⟨(some 48), some undefA, (some (43, false)), false, .pu (.mov (.s 1))⟩,
   ⟨(some 49), some undefA, (some (43, false)), false, .call 27 [(.s 48)]⟩,
   ⟨(some 50), some undefA, (some (43, false)), false, .pu (.bin .sub (.s 47) (.s 49))⟩,
   ⟨(some 51), some undefA, (some (43, false)), false, .pu (.mov (.s 2))⟩,
   ⟨(some 52), some undefA, (some (43, false)), false, .pu (.bin .mul (.s 50) (.s 51))⟩,
   ⟨(some 53), some undefA, (some (43, false)), false, .pu (.bin .eql (.s 45) (.s 52))⟩,
   ⟨(some 54), some undefA, none, false, .pu (.pick (.s 43) (.c (.bool true)) (.s 53))⟩,
   ⟨(some 55), some undefA, none, false, .pu (.mov (.s 54))⟩,
   ⟨(some 56), some undefA, (some (55, true)), false, .call 17 []⟩,
   ⟨(some 57), some undefA, none, false, .pu (.pick (.s 55) (.s 56) (.c (.bool false)))⟩,
   ⟨(some 6), some undefA, none, false, .pu (.mov (.s 57))⟩])
 (.ret))))))⟩
theorem t4 : trF Try.prog [] [] Try.f4 = some m4 := by kernel_rfl
end Go.Proofs.Ytdcdjhhjlpegjaa

namespace Go.Proofs.Ytdcdjhhjlpegjaa
open Go Go.Eng
def lK (c : Int) : Bool := decide (0 ≤ c ∧ c ≤ 10000)
def pE (cs ls : List Int) (p : Int) : Int := if okC cs = true ∧ ls.length = cs.length ∧ ls.all lK = true ∧ 0 ≤ p ∧ p ≤ 1000 then 0 else 1
def pay (cs ls : List Int) (p : Int) : List Int := (cs.zip ls).map (fun z => (z.1 - z.2) * p)
def pL (cs ls : List Int) (p : Int) : List Int := if pE cs ls p = 0 then pay cs ls p else []
theorem pE_0 {cs ls : List Int} {p : Int} : pE cs ls p = 0 ↔ okC cs = true ∧ ls.length = cs.length ∧ ls.all lK = true ∧ 0 ≤ p ∧ p ≤ 1000 := by
  unfold pE
  constructor
  · intro h
    split at h
    · rename_i g; exact g
    · cases h
  · intro h; rw [if_pos h]
theorem pE_1 {cs ls : List Int} {p : Int} (h : ¬ (okC cs = true ∧ ls.length = cs.length ∧ ls.all lK = true ∧ 0 ≤ p ∧ p ≤ 1000)) : pE cs ls p = 1 := if_neg h
theorem pL_1 {cs ls : List Int} {p : Int} (h : pE cs ls p = 1) : pL cs ls p = [] := if_neg (by omega)
theorem pay_take {cs ls : List Int} {p c l : Int} {i : Nat} (hc : cs[i]? = some c) (hl : ls[i]? = some l) : (pay cs ls p).take (i + 1) = (pay cs ls p).take i ++ [(c - l) * p] := by
  unfold pay
  rw [List.take_add_one, List.getElem?_map]
  have : (cs.zip ls)[i]? = some (c, l) := by rw [List.getElem?_zip_eq_some]; exact ⟨hc, hl⟩
  rw [this]
  rfl
theorem pay_len {cs ls : List Int} {p : Int} (h : ls.length = cs.length) : (pay cs ls p).length = cs.length := by
  unfold pay
  rw [List.length_map, List.length_zip, h, Nat.min_self]
theorem pay_bd {c l p : Int} (hc : 0 ≤ c ∧ c ≤ 1000) (hl : 0 ≤ l ∧ l ≤ 10000) (hp : 0 ≤ p ∧ p ≤ 1000) : -10000000 ≤ (c - l) * p ∧ (c - l) * p ≤ 1000000 := by
  have h1 : (c - l) * p = c * p - l * p := Int.sub_mul ..
  have h2 := Int.mul_le_mul hc.2 hp.2 hp.1 (by omega : (0 : Int) ≤ 1000)
  have h3 := Int.mul_le_mul hl.2 hp.2 hp.1 (by omega : (0 : Int) ≤ 10000)
  have h4 := Int.mul_nonneg hc.1 hp.1
  have h5 := Int.mul_nonneg hl.1 hp.1
  omega
theorem pay_sum (p : Int) : ∀ (cs ls : List Int), ls.length = cs.length → (pay cs ls p).sum = (cs.sum - ls.sum) * p
  | [], [], _ => by simp [pay]
  | [], _ :: _, h => by simp at h
  | _ :: _, [], h => by simp at h
  | c :: cs, l :: ls, h => by
    have ih := pay_sum p cs ls (by simpa using h)
    have e : pay (c :: cs) (l :: ls) p = (c - l) * p :: pay cs ls p := rfl
    rw [e, List.sum_cons, List.sum_cons, List.sum_cons, ih, ← Int.add_mul]
    congr 1
    omega
section
variable {cs ls : List Int} {v u : AV} {A : AHeap} {p : Int}
theorem s58 (n : Int) (A : AHeap) : ACalls Try.prog 58 [I n] A (B (!lK n)) A := by
  refine acalls hmix Try.func58 (by kernel_rfl) t58 1 rfl (by decide) ?_
  by_cases h : n < 0
  · have : lK n = false := by simp [lK]; omega
    dsimp only [m58]
    simp (maxSteps := 4000000) -implicitDefEqProofs -dsimp (disch := omega) only [↓AW_ops, ↓AW_seq, ↓AW_ret, ↓AOps_nil, ↓AOps_pu, ↓AOps_guard, on_some, guardB_tf, skipS_some, ↓then_normal, ↓Fin_ret, pval, rd_S, rd_C, put_S, resV, resL, eq_self, List.replicate_succ, List.replicate_zero, List.set_cons_zero, List.set_cons_succ, List.getElem?_cons_zero, List.getElem?_cons_succ, Option.getD_some, Nat.reduceSub, List.cons_append, List.nil_append, bin_lss, if_true, decide_true, h]
    exact gc_same (by rw [this]; rfl)
  · by_cases h2 : 10000 < n
    · have : lK n = false := by simp [lK]; omega
      dsimp only [m58]
      simp (maxSteps := 4000000) -implicitDefEqProofs -dsimp (disch := omega) only [↓AW_ops, ↓AW_seq, ↓AW_ret, ↓AOps_nil, ↓AOps_pu, ↓AOps_guard, on_some, guardB_ff, ↓then_normal, ↓Fin_ret, pval, rd_S, rd_C, put_S, resV, resL, List.replicate_succ, List.replicate_zero, List.set_cons_zero, List.set_cons_succ, List.getElem?_cons_zero, List.getElem?_cons_succ, Option.getD_some, Nat.reduceSub, List.cons_append, List.nil_append, bin_lss, bin_gtr, if_false, Bool.false_eq_true, decide_true, decide_false, h, h2]
      exact gc_same (by rw [this]; rfl)
    · have : lK n = true := by simp [lK]; omega
      dsimp only [m58]
      simp (maxSteps := 4000000) -implicitDefEqProofs -dsimp (disch := omega) only [↓AW_ops, ↓AW_seq, ↓AW_ret, ↓AOps_nil, ↓AOps_pu, ↓AOps_guard, on_some, guardB_ff, ↓then_normal, ↓Fin_ret, pval, rd_S, rd_C, put_S, resV, resL, List.replicate_succ, List.replicate_zero, List.set_cons_zero, List.set_cons_succ, List.getElem?_cons_zero, List.getElem?_cons_succ, Option.getD_some, Nat.reduceSub, List.cons_append, List.nil_append, bin_lss, bin_gtr, if_false, Bool.false_eq_true, decide_false, h, h2]
      exact gc_same (by rw [this]; rfl)
theorem lK_of (h : ls.all lK = true) : ∀ x ∈ ls, 0 ≤ x ∧ x ≤ 10000 := fun x hx => by simpa [lK] using List.all_eq_true.1 h x hx
theorem s24 (hx : L1 A v cs) (hy : L1 A u ls) (hl : cs.length ≤ 1000000) (hl2 : ls.length ≤ 1000000) :
    ACalls Try.prog 24 [v, u, I p] A (.tuple [outV 1 A (pL cs ls p).length, I (pE cs ls p)]) (outH A ((pL cs ls p).flatMap e1) (pL cs ls p).length) := by
  refine acalls hmix Try.func24 (by kernel_rfl) t24 3 rfl (by decide) ?_
  have bad : ∀ h : ¬ (okC cs = true ∧ ls.length = cs.length ∧ ls.all lK = true ∧ 0 ≤ p ∧ p ≤ 1000), GC A (.tuple [.nilS, I 1]) A (.tuple [outV 1 A (pL cs ls p).length, I (pE cs ls p)]) (outH A ((pL cs ls p).flatMap e1) (pL cs ls p).length) := by
    intro h
    rw [pL_1 (pE_1 h), pE_1 h]
    exact gc_same_all rfl rfl
  dsimp only [m24]
  simp (maxSteps := 4000000) -implicitDefEqProofs -dsimp (disch := omega) only [↓AW_ops, ↓AW_seq, ↓AOps_nil, ↓AOps_pu, ↓AOps_call, on_some, ↓then_normal, pval, rd_S, rd_C, put_S, List.replicate_succ, List.replicate_zero, List.set_cons_zero, List.set_cons_succ, List.getElem?_cons_zero, List.getElem?_cons_succ, Option.getD_some, map_c, map_n, Nat.reduceSub, List.cons_append, List.nil_append]
  refine CallK.of (s53 hx hl) ?_
  by_cases h1 : okC cs = true
  case neg =>
    have h1' : okC cs = false := by simpa using h1
    simp (maxSteps := 4000000) -implicitDefEqProofs -dsimp (disch := omega) only [↓AW_ops, ↓AW_seq, ↓AW_cond, ↓AW_ret, ↓AOps_nil, ↓AOps_pu, ↓AOps_guard, on_some, extK_same, guardB_tf, skipS_some, condB_t, ↓then_normal, ↓then_ret, ↓Fin_ret, pval, rd_S, rd_C, put_S, resV, resL, eq_self, List.replicate_succ, List.replicate_zero, List.set_cons_zero, List.set_cons_succ, List.getElem?_cons_zero, List.getElem?_cons_succ, Option.getD_some, Nat.reduceSub, List.cons_append, List.nil_append, if_true, Bool.not_false, h1']
    exact bad (fun hh => h1 hh.1)
  by_cases h2 : ls.length = cs.length
  case neg =>
    have h2' : ¬ (ls.length : Int) = cs.length := by omega
    simp (maxSteps := 4000000) -implicitDefEqProofs -dsimp (disch := omega) only [↓AW_ops, ↓AW_seq, ↓AW_cond, ↓AW_ret, ↓AOps_nil, ↓AOps_pu, ↓AOps_guard, on_some, extK_same, guardB_tf, guardB_ff, skipS_some, condB_t, ↓then_normal, ↓then_ret, ↓Fin_ret, pval, rd_S, rd_C, put_S, resV, resL, eq_self, List.replicate_succ, List.replicate_zero, List.set_cons_zero, List.set_cons_succ, List.getElem?_cons_zero, List.getElem?_cons_succ, Option.getD_some, Nat.reduceSub, List.cons_append, List.nil_append, bin_neq, if_true, if_false, Bool.false_eq_true, Bool.not_true, decide_true, not_false_eq_true, h1, hx.len, hy.len, h2']
    exact bad (fun hh => h2 hh.2.1)
  have h2' : (ls.length : Int) = cs.length := by omega
  simp (maxSteps := 4000000) -implicitDefEqProofs -dsimp (disch := omega) only [↓AOps_pu, ↓AOps_call, ↓AOps_guard, on_some, extK_same, guardB_ff, pval, rd_S, rd_C, put_S, eq_self, List.replicate_succ, List.replicate_zero, List.set_cons_zero, List.set_cons_succ, List.getElem?_cons_zero, List.getElem?_cons_succ, Option.getD_some, map_c, map_n, Nat.reduceSub, List.cons_append, List.nil_append, bin_neq, if_false, Bool.false_eq_true, Bool.not_true, decide_false, not_true_eq_false, h1, hx.len, hy.len, h2']
  refine CallK.of (c_ContainsFunc hy hl2 58 [] (fun c => !lK c) (fun x _ => s58 x A)) ?_
  have hnot := any_not (g := lK) ls
  by_cases h3 : ls.all lK = true
  case neg =>
    have h3' : ls.any (fun y => !lK y) = true := by
      rw [Bool.not_eq_true] at h3
      rw [h3] at hnot
      simpa using hnot
    simp (maxSteps := 4000000) -implicitDefEqProofs -dsimp (disch := omega) only [↓AW_ops, ↓AW_seq, ↓AW_cond, ↓AW_ret, ↓AOps_nil, ↓AOps_pu, ↓AOps_guard, on_some, extK_same, guardB_tf, skipS_some, condB_t, ↓then_normal, ↓then_ret, ↓Fin_ret, pval, rd_S, rd_C, put_S, resV, resL, eq_self, List.replicate_succ, List.replicate_zero, List.set_cons_zero, List.set_cons_succ, List.getElem?_cons_zero, List.getElem?_cons_succ, Option.getD_some, Nat.reduceSub, List.cons_append, List.nil_append, if_true, if_false, Bool.false_eq_true, h3']
    exact bad (fun hh => h3 hh.2.2.1)
  have h3' : ls.any (fun y => !lK y) = false := by rw [h3] at hnot; simpa using hnot
  by_cases h4 : p < 0
  · simp (maxSteps := 4000000) -implicitDefEqProofs -dsimp (disch := omega) only [↓AW_ops, ↓AW_seq, ↓AW_cond, ↓AW_ret, ↓AOps_nil, ↓AOps_pu, ↓AOps_guard, on_some, extK_same, guardB_tf, guardB_ff, skipS_some, condB_t, ↓then_normal, ↓then_ret, ↓Fin_ret, pval, rd_S, rd_C, put_S, resV, resL, eq_self, List.replicate_succ, List.replicate_zero, List.set_cons_zero, List.set_cons_succ, List.getElem?_cons_zero, List.getElem?_cons_succ, Option.getD_some, Nat.reduceSub, List.cons_append, List.nil_append, bin_lss, if_true, if_false, Bool.false_eq_true, decide_true, h3', h4]
    exact bad (fun hh => by omega)
  by_cases h5 : 1000 < p
  · simp (maxSteps := 4000000) -implicitDefEqProofs -dsimp (disch := omega) only [↓AW_ops, ↓AW_seq, ↓AW_cond, ↓AW_ret, ↓AOps_nil, ↓AOps_pu, ↓AOps_guard, on_some, extK_same, guardB_ff, condB_t, ↓then_normal, ↓then_ret, ↓Fin_ret, pval, rd_S, rd_C, put_S, resV, resL, List.replicate_succ, List.replicate_zero, List.set_cons_zero, List.set_cons_succ, List.getElem?_cons_zero, List.getElem?_cons_succ, Option.getD_some, Nat.reduceSub, List.cons_append, List.nil_append, bin_lss, bin_gtr, if_false, Bool.false_eq_true, decide_true, decide_false, h3', h4, h5]
    exact bad (fun hh => by omega)
  have hE : pE cs ls p = 0 := pE_0.2 ⟨h1, h2, h3, by omega, by omega⟩
  have hP : pL cs ls p = pay cs ls p := if_pos hE
  rw [hE, hP]
  have hok := okC_iff.1 h1
  have hlK := lK_of h3
  have hpl := pay_len (p := p) h2
  simp (maxSteps := 4000000) -implicitDefEqProofs -dsimp (disch := omega) only [↓AW_skip, ↓AW_ops, ↓AW_seq, ↓AW_cond, ↓AW_block, ↓AOps_nil, ↓AOps_pu, ↓AOps_guard, on_some, extK_same, guardB_ff, condB_f, ↓then_normal, pval, rd_S, rd_C, put_S, ↓AW_toLoop, List.replicate_succ, List.replicate_zero, List.set_cons_zero, List.set_cons_succ, List.getElem?_cons_zero, List.getElem?_cons_succ, Option.getD_some, Nat.reduceSub, List.cons_append, List.nil_append, bin_lss, bin_gtr, if_false, Bool.false_eq_true, decide_false, h3', h4, h5, hx.len]
  refine LoopK.by 53 (fun x : Nat × AV × AHeap => x.1 ≤ cs.length ∧ AccL 1 e1 A x.2.2 x.2.1 ((pay cs ls p).take x.1)) (fun x => [(1, u), (2, I p), (8, x.2.1), (33, v), (34, I cs.length), (35, I x.1)]) (fun x => x.2.2) (fun x => cs.length - x.1) (0, .nilS, A) ⟨by simp only; omega, AccL.nil (List.prefix_refl _)⟩ rfl (by simp [Has, rd_s]) rfl ?_
  rintro ⟨i, w, A1⟩ ⟨hi, hu⟩
  simp only at hi hu
  by_cases hlt : i < cs.length
  · obtain ⟨z, hz⟩ : ∃ z, cs[i]? = some z := ⟨_, List.getElem?_eq_getElem hlt⟩
    have hlt' : (i : Int) < cs.length := by omega
    have hlt2 : i < ls.length := by omega
    obtain ⟨l, hl1⟩ : ∃ l, ls[i]? = some l := ⟨_, List.getElem?_eq_getElem hlt2⟩
    have hb := pay_bd (hok.c z (List.mem_of_getElem? hz)) (hlK l (List.mem_of_getElem? hl1)) (p := p) ⟨by omega, by omega⟩
    have hzc := hok.c z (List.mem_of_getElem? hz)
    have hlc := hlK l (List.mem_of_getElem? hl1)
    obtain ⟨u3, A3, happ, hu3⟩ := hu.push e1_len ((z - l) * p) (by rw [List.length_take]; simp [lim]; omega)
    rw [← pay_take hz hl1] at hu3
    simp only [e1] at happ
    have hx1 := hx.mono hu.pre
    have hy1 := hy.mono hu.pre
    simp (maxSteps := 4000000) -implicitDefEqProofs -dsimp (disch := omega) only [↓AW_skip, ↓AW_ops, ↓AW_seq, ↓AW_cond, ↓AW_block, ↓AOps_nil, ↓AOps_pu, ↓AOps_ld, ↓AOps_ha, on_some, extK_false, extK_app, condB_t, ↓then_normal, ↓inBlock_normal, pval, lval, hval, rd_S, rd_C, put_S, AV.cells?, splice, partA, fillA, repl, eq_self, mk, List.foldl_cons, List.foldl_nil, List.replicate_succ, List.replicate_zero, List.set_cons_zero, List.set_cons_succ, List.getElem?_cons_zero, List.getElem?_cons_succ, List.drop_zero, List.drop_succ_cons, List.drop_nil, List.take_zero, List.take_succ_cons, List.take_nil, Option.getD_some, map_c, map_n, List.length_cons, List.length_nil, Nat.reduceAdd, Nat.reduceLeDiff, Nat.zero_add, List.nil_append, List.append_nil, bin_add, bin_sub, bin_mul, bin_lss, w64, if_true, if_false, Bool.false_eq_true, decide_true, Go.Eng.e1, true_and, and_true, hlt', hx1.idx hlt, hx1.ld0 hz 1 false (by decide), hy1.idx hlt2, hy1.ld0 hl1 1 false (by decide), happ]
    exact ⟨(i + 1, u3, A3), ⟨hlt, hu3⟩, by simp [Has, rd_s], rfl, by simp only; omega⟩
  · have hlt' : ¬ ((i : Int) < cs.length) := by omega
    simp (maxSteps := 4000000) -implicitDefEqProofs -dsimp (disch := omega) only [↓AW_ops, ↓AW_seq, ↓AW_cond, ↓AW_exit, ↓AW_ret, ↓AOps_nil, ↓AOps_pu, on_some, condB_f, ↓then_normal, ↓then_exit, ↓inBlock_exit, ↓Fin_ret, pval, rd_S, rd_C, put_S, resV, resL, eq_self, mk, List.foldl_cons, List.foldl_nil, List.replicate_succ, List.replicate_zero, List.set_cons_zero, List.set_cons_succ, List.getElem?_cons_zero, List.getElem?_cons_succ, Option.getD_some, bin_lss, if_true, decide_false, hlt']
    rw [List.take_of_length_le (by omega)] at hu
    exact hu.gc2 flat_e1 (I 0) rfl
theorem s25 (hx : L1 A v cs) (hy : L1 A u ls) (hl : cs.length ≤ 1000000) (hl2 : ls.length ≤ 1000000) :
    ACalls Try.prog 25 [v, u, I p] A (.tuple [outV 1 A (pL cs ls p).length, I (pE cs ls p)]) (outH A ((pL cs ls p).flatMap e1) (pL cs ls p).length) := by
  refine acalls hmix Try.func25 (by kernel_rfl) t25 3 rfl (by decide) ?_
  have bad : ∀ (H : AHeap), A <+: H → ∀ h : ¬ (okC cs = true ∧ ls.length = cs.length ∧ ls.all lK = true ∧ 0 ≤ p ∧ p ≤ 1000), GC A (.tuple [.nilS, I 1]) H (.tuple [outV 1 A (pL cs ls p).length, I (pE cs ls p)]) (outH A ((pL cs ls p).flatMap e1) (pL cs ls p).length) := by
    intro H hp h
    rw [pL_1 (pE_1 h), pE_1 h]
    exact gc_val hp rfl
  dsimp only [m25]
  simp (maxSteps := 4000000) -implicitDefEqProofs -dsimp (disch := omega) only [↓AW_ops, ↓AW_seq, ↓AOps_nil, ↓AOps_pu, ↓AOps_call, on_some, ↓then_normal, pval, rd_S, rd_C, put_S, List.replicate_succ, List.replicate_zero, List.set_cons_zero, List.set_cons_succ, List.getElem?_cons_zero, List.getElem?_cons_succ, Option.getD_some, map_c, map_n, Nat.reduceSub, List.cons_append, List.nil_append]
  refine CallK.of (s59 hx hl) ?_
  by_cases h1 : okC cs = true
  case neg =>
    have h1' : okC cs = false := by simpa using h1
    simp (maxSteps := 4000000) -implicitDefEqProofs -dsimp (disch := omega) only [↓AW_ops, ↓AW_seq, ↓AW_cond, ↓AW_ret, ↓AOps_nil, ↓AOps_pu, ↓AOps_guard, on_some, extK_same, guardB_tf, skipS_some, condB_t, ↓then_normal, ↓then_ret, ↓Fin_ret, pval, rd_S, rd_C, put_S, resV, resL, eq_self, List.replicate_succ, List.replicate_zero, List.set_cons_zero, List.set_cons_succ, List.getElem?_cons_zero, List.getElem?_cons_succ, Option.getD_some, Nat.reduceSub, List.cons_append, List.nil_append, if_true, Bool.not_false, h1']
    exact bad A (List.prefix_refl _) (fun hh => h1 hh.1)
  by_cases h2 : ls.length = cs.length
  case neg =>
    have h2' : ¬ (ls.length : Int) = cs.length := by omega
    simp (maxSteps := 4000000) -implicitDefEqProofs -dsimp (disch := omega) only [↓AW_ops, ↓AW_seq, ↓AW_cond, ↓AW_ret, ↓AOps_nil, ↓AOps_pu, ↓AOps_guard, on_some, extK_same, guardB_tf, guardB_ff, skipS_some, condB_t, ↓then_normal, ↓then_ret, ↓Fin_ret, pval, rd_S, rd_C, put_S, resV, resL, eq_self, List.replicate_succ, List.replicate_zero, List.set_cons_zero, List.set_cons_succ, List.getElem?_cons_zero, List.getElem?_cons_succ, Option.getD_some, Nat.reduceSub, List.cons_append, List.nil_append, bin_neq, if_true, if_false, Bool.false_eq_true, Bool.not_true, decide_true, not_false_eq_true, h1, hx.len, hy.len, h2']
    exact bad A (List.prefix_refl _) (fun hh => h2 hh.2.1)
  have h2' : (ls.length : Int) = cs.length := by omega
  simp (maxSteps := 4000000) -implicitDefEqProofs -dsimp (disch := omega) only [↓AOps_pu, ↓AOps_call, ↓AOps_guard, on_some, extK_same, guardB_ff, pval, rd_S, rd_C, put_S, eq_self, List.replicate_succ, List.replicate_zero, List.set_cons_zero, List.set_cons_succ, List.getElem?_cons_zero, List.getElem?_cons_succ, Option.getD_some, map_c, map_n, Nat.reduceSub, List.cons_append, List.nil_append, bin_neq, if_false, Bool.false_eq_true, Bool.not_true, decide_false, not_true_eq_false, h1, hx.len, hy.len, h2']
  refine CallK.of (c_wi _ _ _ _) ?_
  by_cases h4 : 0 ≤ p ∧ p ≤ 1000
  case neg =>
    simp (maxSteps := 4000000) -implicitDefEqProofs -dsimp (disch := omega) only [↓AW_ops, ↓AW_seq, ↓AW_cond, ↓AW_ret, ↓AOps_nil, ↓AOps_pu, ↓AOps_guard, on_some, extK_same, guardB_ff, condB_t, ↓then_normal, ↓then_ret, ↓Fin_ret, pval, rd_S, rd_C, put_S, resV, resL, List.replicate_succ, List.replicate_zero, List.set_cons_zero, List.set_cons_succ, List.getElem?_cons_zero, List.getElem?_cons_succ, Option.getD_some, Nat.reduceSub, List.cons_append, List.nil_append, if_false, Bool.false_eq_true, Bool.not_false, decide_false, h4]
    exact bad A (List.prefix_refl _) (fun hh => h4 hh.2.2.2)
  have hok := okC_iff.1 h1
  have hpl := pay_len (p := p) h2
  simp (maxSteps := 4000000) -implicitDefEqProofs -dsimp (disch := omega) only [↓AW_skip, ↓AW_ops, ↓AW_seq, ↓AW_cond, ↓AW_block, ↓AOps_nil, ↓AOps_pu, ↓AOps_guard, on_some, extK_same, guardB_ff, condB_f, ↓then_normal, pval, rd_S, rd_C, put_S, ↓AW_toLoop, List.replicate_succ, List.replicate_zero, List.set_cons_zero, List.set_cons_succ, List.getElem?_cons_zero, List.getElem?_cons_succ, Option.getD_some, Nat.reduceSub, List.cons_append, List.nil_append, if_false, Bool.false_eq_true, Bool.not_true, decide_true, and_true, h4]
  refine LoopK.by 52 (fun x : Nat × AV × AHeap => x.1 ≤ cs.length ∧ (ls.take x.1).all lK = true ∧ AccL 1 e1 A x.2.2 x.2.1 ((pay cs ls p).take x.1)) (fun x => [(0, v), (1, u), (2, I p), (8, x.2.1), (9, I x.1)]) (fun x => x.2.2) (fun x => cs.length - x.1) (0, .nilS, A) ⟨by simp only; omega, rfl, AccL.nil (List.prefix_refl _)⟩ rfl (by simp [Has, rd_s]) rfl ?_
  rintro ⟨i, w, A1⟩ ⟨hi, hla, hu⟩
  simp only at hi hla hu
  have hx1 := hx.mono hu.pre
  have hy1 := hy.mono hu.pre
  by_cases hlt : i < cs.length
  · obtain ⟨z, hz⟩ : ∃ z, cs[i]? = some z := ⟨_, List.getElem?_eq_getElem hlt⟩
    have hlt' : (i : Int) < cs.length := by omega
    have hlt2 : i < ls.length := by omega
    obtain ⟨l, hl1⟩ : ∃ l, ls[i]? = some l := ⟨_, List.getElem?_eq_getElem hlt2⟩
    have hzc := hok.c z (List.mem_of_getElem? hz)
    simp (maxSteps := 4000000) -implicitDefEqProofs -dsimp (disch := omega) only [↓AW_skip, ↓AW_ops, ↓AW_seq, ↓AW_cond, ↓AW_block, ↓AOps_nil, ↓AOps_pu, ↓AOps_ld, ↓AOps_call, on_some, condB_t, ↓then_normal, pval, lval, rd_S, rd_C, put_S, partA, eq_self, mk, List.foldl_cons, List.foldl_nil, List.replicate_succ, List.replicate_zero, List.set_cons_zero, List.set_cons_succ, List.getElem?_cons_zero, List.getElem?_cons_succ, List.drop_zero, List.take_succ_cons, List.take_nil, Option.getD_some, map_c, map_n, List.length_cons, List.length_nil, Nat.reduceLeDiff, Nat.zero_add, bin_lss, if_true, if_false, Bool.false_eq_true, decide_true, Go.Eng.e1, hlt', hx1.len, hy1.idx hlt2, hy1.ld0 hl1 1 false (by decide)]
    refine CallK.of (c_wi _ _ _ _) ?_
    by_cases h3 : 0 ≤ l ∧ l ≤ 10000
    · have hb := pay_bd hzc h3 h4
      obtain ⟨u3, A3, happ, hu3⟩ := hu.push e1_len ((z - l) * p) (by rw [List.length_take]; simp [lim]; omega)
      rw [← pay_take hz hl1] at hu3
      simp only [e1] at happ
      simp (maxSteps := 4000000) -implicitDefEqProofs -dsimp (disch := omega) only [↓AW_skip, ↓AW_ops, ↓AW_cond, ↓AOps_nil, ↓AOps_pu, ↓AOps_ld, ↓AOps_ha, on_some, extK_false, extK_app, extK_same, condB_f, ↓then_normal, ↓inBlock_normal, pval, lval, hval, rd_S, rd_C, put_S, AV.cells?, splice, partA, fillA, repl, eq_self, mk, List.foldl_cons, List.foldl_nil, List.replicate_succ, List.replicate_zero, List.set_cons_zero, List.set_cons_succ, List.getElem?_cons_zero, List.getElem?_cons_succ, List.drop_zero, List.drop_succ_cons, List.drop_nil, List.take_zero, List.take_succ_cons, List.take_nil, Option.getD_some, map_c, map_n, List.length_cons, List.length_nil, Nat.reduceAdd, Nat.reduceLeDiff, Nat.zero_add, List.nil_append, List.append_nil, bin_add, bin_sub, bin_mul, w64, if_true, if_false, Bool.false_eq_true, Bool.not_true, decide_true, Go.Eng.e1, true_and, and_true, h3, hx1.idx hlt, hx1.ld0 hz 1 false (by decide), hy1.idx hlt2, hy1.ld0 hl1 1 false (by decide), happ]
      refine ⟨(i + 1, u3, A3), ⟨hlt, ?_, hu3⟩, by simp [Has, rd_s], rfl, by simp only; omega⟩
      rw [List.take_add_one, hl1, List.all_append, hla]
      simp [lK, h3]
    · simp (maxSteps := 4000000) -implicitDefEqProofs -dsimp (disch := omega) only [↓AW_ops, ↓AW_seq, ↓AW_cond, ↓AW_ret, ↓AOps_nil, ↓AOps_pu, on_some, extK_same, condB_t, ↓then_normal, ↓then_ret, ↓inBlock_ret, ↓Fin_ret, pval, rd_S, rd_C, put_S, resV, resL, mk, List.foldl_cons, List.foldl_nil, List.replicate_succ, List.replicate_zero, List.set_cons_zero, List.set_cons_succ, List.getElem?_cons_zero, List.getElem?_cons_succ, Option.getD_some, Bool.not_false, decide_false, h3]
      refine bad A1 hu.pre (fun hh => h3 ?_)
      exact lK_of hh.2.2.1 l (List.mem_of_getElem? hl1)
  · have hlt' : ¬ ((i : Int) < cs.length) := by omega
    rw [List.take_of_length_le (by omega)] at hla
    have hE : pE cs ls p = 0 := pE_0.2 ⟨h1, h2, hla, h4⟩
    have hP : pL cs ls p = pay cs ls p := if_pos hE
    rw [hE, hP]
    simp (maxSteps := 4000000) -implicitDefEqProofs -dsimp (disch := omega) only [↓AW_ops, ↓AW_seq, ↓AW_cond, ↓AW_exit, ↓AW_ret, ↓AOps_nil, ↓AOps_pu, on_some, condB_f, ↓then_normal, ↓then_exit, ↓inBlock_exit, ↓Fin_ret, pval, rd_S, rd_C, put_S, resV, resL, eq_self, mk, List.foldl_cons, List.foldl_nil, List.replicate_succ, List.replicate_zero, List.set_cons_zero, List.set_cons_succ, List.getElem?_cons_zero, List.getElem?_cons_succ, Option.getD_some, bin_lss, if_true, decide_false, hlt', hx1.len]
    rw [List.take_of_length_le (by omega)] at hu
    exact hu.gc2 flat_e1 (I 0) rfl
theorem s4 (hx : L1 A v cs) (hy : L1 A u ls) : ACalls Try.prog 4 [v, u, I p] A (B true) A := by
  refine acalls hmix Try.func4 (by kernel_rfl) t4 3 rfl (by decide) ?_
  dsimp only [m4]
  simp (maxSteps := 4000000) -implicitDefEqProofs -dsimp (disch := omega) only [↓AW_ops, ↓AW_seq, ↓AOps_nil, ↓AOps_pu, ↓AOps_call, on_some, ↓then_normal, pval, rd_S, rd_C, put_S, List.replicate_succ, List.replicate_zero, List.set_cons_zero, List.set_cons_succ, List.getElem?_cons_zero, List.getElem?_cons_succ, Option.getD_some, map_c, map_n, Nat.reduceSub, List.cons_append, List.nil_append]
  refine CallK.of (s23 hx) ?_
  by_cases h1 : (40 : Int) < cs.length
  · simp (maxSteps := 4000000) -implicitDefEqProofs -dsimp (disch := omega) only [↓AW_ops, ↓AW_seq, ↓AW_cond, ↓AOps_nil, ↓AOps_pu, ↓AOps_call, ↓AOps_guard, on_some, extK_same, guardB_tf, skipS_some, condB_t, ↓then_normal, pval, rd_S, rd_C, put_S, eq_self, List.replicate_succ, List.replicate_zero, List.set_cons_zero, List.set_cons_succ, List.getElem?_cons_zero, List.getElem?_cons_succ, Option.getD_some, map_n, Nat.reduceSub, List.cons_append, List.nil_append, if_true, decide_true, h1]
    refine CallK.of (known A) ?_
    simp (maxSteps := 4000000) -implicitDefEqProofs -dsimp (disch := omega) only [↓AW_ret, ↓AOps_nil, ↓AOps_pu, on_some, extK_same, skipS_some, ↓then_normal, ↓then_ret, ↓Fin_ret, pval, rd_S, put_S, resV, resL, List.replicate_succ, List.replicate_zero, List.set_cons_zero, List.set_cons_succ, List.getElem?_cons_zero, List.getElem?_cons_succ, Option.getD_some, Nat.reduceSub, List.cons_append, List.nil_append]
    exact gc_same rfl
  simp (maxSteps := 4000000) -implicitDefEqProofs -dsimp (disch := omega) only [↓AOps_pu, ↓AOps_call, ↓AOps_guard, on_some, extK_same, guardB_ff, pval, rd_S, put_S, List.replicate_succ, List.replicate_zero, List.set_cons_zero, List.set_cons_succ, List.getElem?_cons_zero, List.getElem?_cons_succ, Option.getD_some, map_c, map_n, Nat.reduceSub, List.cons_append, List.nil_append, decide_false, h1]
  refine CallK.of (s23 hy) ?_
  by_cases h2 : (40 : Int) < ls.length
  · simp (maxSteps := 4000000) -implicitDefEqProofs -dsimp (disch := omega) only [↓AW_ops, ↓AW_seq, ↓AW_cond, ↓AOps_nil, ↓AOps_pu, ↓AOps_call, on_some, extK_same, condB_t, ↓then_normal, pval, rd_S, rd_C, put_S, List.replicate_succ, List.replicate_zero, List.set_cons_zero, List.set_cons_succ, List.getElem?_cons_zero, List.getElem?_cons_succ, Option.getD_some, map_n, Nat.reduceSub, List.cons_append, List.nil_append, if_false, Bool.false_eq_true, decide_true, h2]
    refine CallK.of (known A) ?_
    simp (maxSteps := 4000000) -implicitDefEqProofs -dsimp (disch := omega) only [↓AW_ret, ↓AOps_nil, ↓AOps_pu, on_some, extK_same, ↓then_normal, ↓then_ret, ↓Fin_ret, pval, rd_S, put_S, resV, resL, List.replicate_succ, List.replicate_zero, List.set_cons_zero, List.set_cons_succ, List.getElem?_cons_zero, List.getElem?_cons_succ, Option.getD_some, Nat.reduceSub, List.cons_append, List.nil_append]
    exact gc_same rfl
  simp (maxSteps := 4000000) -implicitDefEqProofs -dsimp (disch := omega) only [↓AW_skip, ↓AW_ops, ↓AW_seq, ↓AW_cond, ↓AOps_nil, ↓AOps_pu, ↓AOps_call, on_some, extK_same, condB_f, ↓then_normal, pval, rd_S, rd_C, put_S, List.replicate_succ, List.replicate_zero, List.set_cons_zero, List.set_cons_succ, List.getElem?_cons_zero, List.getElem?_cons_succ, Option.getD_some, map_c, map_n, Nat.reduceSub, List.cons_append, List.nil_append, if_false, Bool.false_eq_true, decide_false, h2]
  refine CallK.of (s24 hx hy (by omega) (by omega)) ?_
  have hp1 := pre_out A ((pL cs ls p).flatMap e1) (pL cs ls p).length
  have hq1 := Ls_out A e1_len (pL cs ls p)
  generalize outV 1 A (pL cs ls p).length = v1 at *
  generalize outH A ((pL cs ls p).flatMap e1) (pL cs ls p).length = A1 at *
  simp (maxSteps := 4000000) -implicitDefEqProofs -dsimp (disch := omega) only [↓AW_ops, ↓AW_seq, ↓AOps_nil, ↓AOps_pu, ↓AOps_call, on_some, extK_false, ↓then_normal, pval, rd_S, put_S, List.replicate_succ, List.replicate_zero, List.set_cons_zero, List.set_cons_succ, List.getElem?_cons_zero, List.getElem?_cons_succ, Option.getD_some, map_c, map_n, Nat.reduceSub, List.cons_append, List.nil_append]
  refine CallK.of (s25 (hx.mono hp1) (hy.mono hp1) (by omega) (by omega)) ?_
  have hp2 := pre_out A1 ((pL cs ls p).flatMap e1) (pL cs ls p).length
  have hq2 := Ls_out A1 e1_len (pL cs ls p)
  generalize outV 1 A1 (pL cs ls p).length = v2 at *
  generalize outH A1 ((pL cs ls p).flatMap e1) (pL cs ls p).length = A2 at *
  have hp := hp1.trans hp2
  have hq1 := hq1.mono hp2
  have hlen : (pL cs ls p).length ≤ 1000000 := by
    unfold pL
    split
    · unfold pay; rw [List.length_map, List.length_zip]; omega
    · simp
  simp (maxSteps := 4000000) -implicitDefEqProofs -dsimp (disch := omega) only [↓AW_ops, ↓AW_seq, ↓AOps_nil, ↓AOps_pu, ↓AOps_call, on_some, extK_false, ↓then_normal, pval, rd_S, put_S, List.replicate_succ, List.replicate_zero, List.set_cons_zero, List.set_cons_succ, List.getElem?_cons_zero, List.getElem?_cons_succ, Option.getD_some, map_c, map_n, Nat.reduceSub, List.cons_append, List.nil_append]
  refine CallK.of (c_SameInts hq1 hq2 hlen) ?_
  simp (maxSteps := 4000000) -implicitDefEqProofs -dsimp (disch := omega) only [↓AW_skip, ↓AW_ops, ↓AW_seq, ↓AW_cond, ↓AOps_nil, ↓AOps_pu, ↓AOps_guard, on_some, extK_same, guardB_ff, condB_f, ↓then_normal, pval, rd_S, rd_C, put_S, eq_self, List.replicate_succ, List.replicate_zero, List.set_cons_zero, List.set_cons_succ, List.getElem?_cons_zero, List.getElem?_cons_succ, Option.getD_some, Nat.reduceSub, List.cons_append, List.nil_append, bin_neq, if_false, Bool.false_eq_true, Bool.not_true, decide_true, decide_false, not_true_eq_false, decide_not]
  by_cases h0 : pE cs ls p = 0
  · obtain ⟨g1, g2, g3, g4, g5⟩ := pE_0.1 h0
    have hok := okC_iff.1 g1
    have hlK := lK_of g3
    have hP : pL cs ls p = pay cs ls p := if_pos h0
    have hb1 : ∀ x ∈ pL cs ls p, -1000000000000 ≤ x ∧ x ≤ 1000000000000 := by
      intro x hx
      rw [hP] at hx
      obtain ⟨z, hz, rfl⟩ := List.mem_map.1 hx
      have := pay_bd (hok.c z.1 (List.of_mem_zip hz).1) (hlK z.2 (List.of_mem_zip hz).2) (p := p) ⟨by omega, by omega⟩
      omega
    have hs : (pL cs ls p).sum = (cs.sum - ls.sum) * p := by rw [hP]; exact pay_sum p cs ls g2
    have hs1 := hok.sum
    have hs2 := sum_bd0 hlK
    have hl8 := hok.l8
    have hs3 : 0 ≤ ls.sum ∧ ls.sum ≤ 80000 := by omega
    have hs4 : -800000000 ≤ (cs.sum - ls.sum) * p ∧ (cs.sum - ls.sum) * p ≤ 800000000 := by
      rw [Int.sub_mul]
      have m1 := Int.mul_le_mul hs1.2 g5 g4 (by omega : (0 : Int) ≤ 8000)
      have m2 := Int.mul_le_mul hs3.2 g5 g4 (by omega : (0 : Int) ≤ 80000)
      have m3 := Int.mul_nonneg hs1.1 g4
      have m4 := Int.mul_nonneg hs3.1 g4
      omega
    simp (maxSteps := 4000000) -implicitDefEqProofs -dsimp (disch := omega) only [↓AOps_pu, ↓AOps_call, ↓AOps_guard, on_some, guardB_ff, pval, rd_S, put_S, eq_self, List.replicate_succ, List.replicate_zero, List.set_cons_zero, List.set_cons_succ, List.getElem?_cons_zero, List.getElem?_cons_succ, Option.getD_some, map_c, map_n, Nat.reduceSub, List.cons_append, List.nil_append, Bool.not_true, decide_true, h0]
    refine CallK.of (c_Sum hq1 hlen hb1) ?_
    simp (maxSteps := 4000000) -implicitDefEqProofs -dsimp (disch := omega) only [↓AOps_pu, ↓AOps_call, ↓AOps_guard, on_some, extK_same, guardB_ff, pval, rd_S, put_S, eq_self, List.replicate_succ, List.replicate_zero, List.set_cons_zero, List.set_cons_succ, List.getElem?_cons_zero, List.getElem?_cons_succ, Option.getD_some, map_c, map_n, Nat.reduceSub, List.cons_append, List.nil_append, Bool.not_true, decide_true, h0]
    refine CallK.of (c_Sum (hx.mono hp) (by omega) hok.bd) ?_
    simp (maxSteps := 4000000) -implicitDefEqProofs -dsimp (disch := omega) only [↓AOps_pu, ↓AOps_call, ↓AOps_guard, on_some, extK_same, guardB_ff, pval, rd_S, put_S, eq_self, List.replicate_succ, List.replicate_zero, List.set_cons_zero, List.set_cons_succ, List.getElem?_cons_zero, List.getElem?_cons_succ, Option.getD_some, map_c, map_n, Nat.reduceSub, List.cons_append, List.nil_append, Bool.not_true, decide_true, h0]
    refine CallK.of (c_Sum (hy.mono hp) (by omega) (fun x hx => by have := hlK x hx; omega)) ?_
    simp (maxSteps := 4000000) -implicitDefEqProofs -dsimp (disch := omega) only [↓AOps_pu, ↓AOps_call, ↓AOps_guard, on_some, extK_same, guardB_tt, guardB_ff, pval, rd_S, rd_C, put_S, eq_self, List.replicate_succ, List.replicate_zero, List.set_cons_zero, List.set_cons_succ, List.getElem?_cons_zero, List.getElem?_cons_succ, Option.getD_some, map_n, Nat.reduceSub, List.cons_append, List.nil_append, bin_sub, bin_mul, bin_eql, w64, if_false, Bool.false_eq_true, Bool.not_true, decide_true, hs, h0]
    refine CallK.of (known A2) ?_
    simp (maxSteps := 4000000) -implicitDefEqProofs -dsimp (disch := omega) only [↓AW_ret, ↓AOps_nil, ↓AOps_pu, on_some, extK_same, ↓then_normal, ↓Fin_ret, pval, rd_S, rd_C, put_S, resV, resL, eq_self, List.replicate_succ, List.replicate_zero, List.set_cons_zero, List.set_cons_succ, List.getElem?_cons_zero, List.getElem?_cons_succ, Option.getD_some, Nat.reduceSub, List.cons_append, List.nil_append, if_true, decide_true]
    exact gc_val hp rfl
  · simp (maxSteps := 4000000) -implicitDefEqProofs -dsimp (disch := omega) only [↓AOps_pu, ↓AOps_call, ↓AOps_guard, on_some, guardB_tt, guardB_tf, skipS_some, pval, rd_S, rd_C, put_S, eq_self, List.replicate_succ, List.replicate_zero, List.set_cons_zero, List.set_cons_succ, List.getElem?_cons_zero, List.getElem?_cons_succ, Option.getD_some, map_n, Nat.reduceSub, List.cons_append, List.nil_append, if_true, Bool.not_false, decide_true, decide_false, h0]
    refine CallK.of (known A2) ?_
    simp (maxSteps := 4000000) -implicitDefEqProofs -dsimp (disch := omega) only [↓AW_ret, ↓AOps_nil, ↓AOps_pu, on_some, extK_same, skipS_some, ↓then_normal, ↓Fin_ret, pval, rd_S, rd_C, put_S, resV, resL, eq_self, List.replicate_succ, List.replicate_zero, List.set_cons_zero, List.set_cons_succ, List.getElem?_cons_zero, List.getElem?_cons_succ, Option.getD_some, Nat.reduceSub, List.cons_append, List.nil_append, if_true, decide_true]
    exact gc_val hp rfl
end
end Go.Proofs.Ytdcdjhhjlpegjaa

