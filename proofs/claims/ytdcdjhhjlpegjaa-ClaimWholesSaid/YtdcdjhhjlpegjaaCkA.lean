/- What the law's proof rests on, part 3: for all that is said in each line. No conditions. -/
import Derived.Test.YtdcdjhhjlpegjaaRows
import Derived.Test.YtdcdjhhjlpegjaaEnB
namespace Go.Proofs.Ytdcdjhhjlpegjaa
open Go Go.Eng
/-- selion/claim.Validate [] -/
def m16 : MFun := ⟨18, [], [.mov (.s 4)],
 .seq (.ops [⟨(some 4), some undefA, none, false, .pu (.mov (.c (.int .i64 0)))⟩])
 (.seq (.seq (.ops [⟨(some 5), some undefA, none, false, .pu (.mov (.s 0))⟩,
   ⟨(some 6), some undefA, none, false, .call 53 [(.s 5)]⟩,
   ⟨(some 7), some undefA, none, false, .pu (.not (.s 6))⟩,
   ⟨(some 8), some undefA, none, false, .pu (.mov (.s 7))⟩,
   ⟨(some 9), some undefA, (some (8, false)), false, .pu (.mov (.s 1))⟩,
   ⟨(some 10), some undefA, (some (8, false)), false, .pu (.bin .lss (.s 9) (.c (.int .i64 0)))⟩,
   ⟨(some 11), some undefA, none, false, .pu (.pick (.s 8) (.c (.bool true)) (.s 10))⟩,
   ⟨(some 12), some undefA, none, false, .pu (.mov (.s 11))⟩,
   ⟨(some 13), some undefA, (some (12, false)), false, .pu (.mov (.s 1))⟩,
   ⟨(some 14), some undefA, (some (12, false)), false, .pu (.mov (.s 0))⟩,
   ⟨(some 15), some undefA, (some (12, false)), false, .call 54 [(.s 14)]⟩,
   ⟨(some 16), some undefA, (some (12, false)), false, .pu (.bin .gtr (.s 13) (.s 15))⟩,
   ⟨(some 17), some undefA, none, false, .pu (.pick (.s 12) (.c (.bool true)) (.s 16))⟩])
 (.cond (.s 17) (.seq (.ops [⟨(some 4), some undefA, none, false, .pu (.mov (.c (.int .i64 1)))⟩])
  (.ret))
 (.skip)))
 (.seq (.ops [⟨(some 4), some undefA, none, false, .pu (.mov (.c (.int .i64 0)))⟩])
 (.ret)))⟩
theorem t16 : trF Try.prog [] [] Try.f16 = some m16 := by kernel_rfl
/-- selion/selionlaw03.known [] -/
def m17 : MFun := ⟨34, [], [.mov (.s 0)],
 .seq (.ops [⟨(some 0), some undefA, none, false, .pu (.mov (.c (.bool false)))⟩])
 (.seq (.ops [⟨(some 6), some undefA, none, false, .ha (.blds 1 3 [.int .i64 0] [(0, 1, (.c (.int .i64 100))), (1, 1, (.c (.int .i64 200))), (2, 1, (.c (.int .i64 300)))])⟩,
   ⟨(some 7), some undefA, none, false, .call 21 [(.s 6), (.c (.int .i64 200))]⟩,
   ⟨(some 5), some undefA, none, false, .pu (.mov (.s 7))⟩,
   ⟨(some 8), some undefA, none, false, .pu (.extr 0 (.s 5))⟩,
   ⟨(some 9), some undefA, none, false, .pu (.extr 1 (.s 5))⟩,
   ⟨(some 1), some undefA, none, false, .pu (.mov (.s 8))⟩,
   ⟨(some 2), some undefA, none, false, .pu (.mov (.s 9))⟩])
 (.seq (.ops [⟨(some 11), some undefA, none, false, .ha (.blds 1 3 [.int .i64 0] [(0, 1, (.c (.int .i64 1))), (1, 1, (.c (.int .i64 1))), (2, 1, (.c (.int .i64 1)))])⟩,
   ⟨(some 12), some undefA, none, false, .call 31 [(.s 11), (.c (.int .i64 2))]⟩,
   ⟨(some 10), some undefA, none, false, .pu (.mov (.s 12))⟩,
   ⟨(some 13), some undefA, none, false, .pu (.extr 0 (.s 10))⟩,
   ⟨(some 14), some undefA, none, false, .pu (.extr 1 (.s 10))⟩,
   ⟨(some 3), some undefA, none, false, .pu (.mov (.s 13))⟩,
   ⟨(some 4), some undefA, none, false, .pu (.mov (.s 14))⟩])
 (.seq (.ops [⟨(some 15), some undefA, none, false, .pu (.mov (.s 2))⟩,
   ⟨(some 16), some undefA, none, false, .pu (.bin .eql (.s 15) (.c (.int .i64 0)))⟩,
   ⟨(some 17), some undefA, none, false, .pu (.mov (.s 16))⟩,
   ⟨(some 18), some undefA, (some (17, true)), false, .pu (.mov (.s 1))⟩,
   ⟨(some 19), some undefA, (some (17, true)), false, .pu (.build [.int .i64 0, .int .i64 0] [(0, 1, (.c (.int .i64 50))), (1, 1, (.c (.int .i64 1)))])⟩,
   ⟨(some 20), some undefA, (some (17, true)), false, .pu (.build [.int .i64 0, .int .i64 0] [(0, 1, (.c (.int .i64 75))), (1, 1, (.c (.int .i64 1)))])⟩,
   ⟨(some 21), some undefA, (some (17, true)), false, .pu (.build [.int .i64 0, .int .i64 0] [(0, 1, (.c (.int .i64 75))), (1, 1, (.c (.int .i64 1)))])⟩,
   ⟨(some 22), some undefA, (some (17, true)), false, .ha (.blds 2 3 [.int .i64 0, .int .i64 0] [(0, 2, (.s 19)), (2, 2, (.s 20)), (4, 2, (.s 21))])⟩,
   ⟨(some 23), some undefA, (some (17, true)), false, .call 30 [(.s 18), (.s 22)]⟩,
   ⟨(some 24), some undefA, none, false, .pu (.pick (.s 17) (.s 23) (.c (.bool false)))⟩,
   ⟨(some 25), some undefA, none, false, .pu (.mov (.s 24))⟩,
   ⟨(some 26), some undefA, (some (25, true)), false, .pu (.mov (.s 4))⟩,
   ⟨(some 27), some undefA, (some (25, true)), false, .pu (.bin .eql (.s 26) (.c (.int .i64 0)))⟩,
   ⟨(some 28), some undefA, none, false, .pu (.pick (.s 25) (.s 27) (.c (.bool false)))⟩,
   ⟨(some 29), some undefA, none, false, .pu (.mov (.s 28))⟩,
   ⟨(some 30), some undefA, (some (29, true)), false, .pu (.mov (.s 3))⟩,
   ⟨(some 31), some undefA, (some (29, true)), false, .ha (.blds 1 3 [.int .i64 0] [(0, 1, (.c (.int .i64 1))), (1, 1, (.c (.int .i64 1))), (2, 1, (.c (.int .i64 0)))])⟩,
   ⟨(some 32), some undefA, (some (29, true)), false, .call 26 [(.s 30), (.s 31)]⟩,
   ⟨(some 33), some undefA, none, false, .pu (.pick (.s 29) (.s 32) (.c (.bool false)))⟩,
   ⟨(some 0), some undefA, none, false, .pu (.mov (.s 33))⟩])
 (.ret))))⟩
theorem t17 : trF Try.prog [] [] Try.f17 = some m17 := by kernel_rfl
/-- selion/claim.ByCourt [] -/
def m21 : MFun := ⟨11, [], [.mov (.s 4), .mov (.s 5)],
 .seq (.ops [⟨(some 4), some undefA, none, false, .pu (.mov (.c (.nilS)))⟩,
   ⟨(some 5), some undefA, none, false, .pu (.mov (.c (.int .i64 0)))⟩])
 (.seq (.ops [⟨(some 6), some undefA, none, false, .pu (.mov (.s 0))⟩,
   ⟨(some 7), some undefA, none, false, .pu (.mov (.s 1))⟩,
   ⟨(some 8), some undefA, none, false, .call 55 [(.c (.int .i64 3)), (.s 6), (.s 7)]⟩,
   ⟨(some 9), some undefA, none, false, .pu (.extr 0 (.s 8))⟩,
   ⟨(some 10), some undefA, none, false, .pu (.extr 1 (.s 8))⟩,
   ⟨(some 4), some undefA, none, false, .pu (.mov (.s 9))⟩,
   ⟨(some 5), some undefA, none, false, .pu (.mov (.s 10))⟩])
 (.ret))⟩
theorem t21 : trF Try.prog [] [] Try.f21 = some m21 := by kernel_rfl
/-- selion/selionref01.SameInts [loop [0, 1, 5]] -/
def m26 : MFun := ⟨26, [], [.mov (.s 4)],
 .seq (.ops [⟨(some 4), some undefA, none, false, .pu (.mov (.c (.bool false)))⟩])
 (.seq (.seq (.ops [⟨(some 6), some undefA, none, false, .pu (.mov (.s 0))⟩,
   ⟨(some 7), some undefA, none, false, .pu (.len (.s 6))⟩,
   ⟨(some 8), some undefA, none, false, .pu (.mov (.s 1))⟩,
   ⟨(some 9), some undefA, none, false, .pu (.len (.s 8))⟩,
   ⟨(some 10), some undefA, none, false, .pu (.bin .neq (.s 7) (.s 9))⟩])
 (.cond (.s 10) (.seq (.ops [⟨(some 4), some undefA, none, false, .pu (.mov (.c (.bool false)))⟩])
  (.ret))
 (.skip)))
 (.seq (.seq (.ops [⟨(some 5), some undefA, none, false, .pu (.mov (.c (.int .i64 0)))⟩])
 (.block 0 (.loop (.seq (.seq (.ops [⟨(some 11), some undefA, none, false, .pu (.mov (.s 5))⟩,
     ⟨(some 12), some undefA, none, false, .pu (.mov (.s 0))⟩,
     ⟨(some 13), some undefA, none, false, .pu (.len (.s 12))⟩,
     ⟨(some 14), some undefA, none, false, .pu (.bin .lss (.s 11) (.s 13))⟩])
   (.cond (.s 14) (.skip)
   (.exit 0)))
   (.seq (.block 1 (.seq (.ops [⟨(some 17), some undefA, none, true, .pu (.mov (.s 0))⟩,
      ⟨(some 18), some undefA, none, true, .pu (.mov (.s 5))⟩,
      ⟨(some 19), some undefA, none, true, .pu (.idx 1 (.s 17) (.s 18))⟩,
      ⟨(some 20), some undefA, none, true, .ld (.ld 1 false (.s 19))⟩,
      ⟨(some 21), some undefA, none, true, .pu (.mov (.s 1))⟩,
      ⟨(some 22), some undefA, none, true, .pu (.mov (.s 5))⟩,
      ⟨(some 23), some undefA, none, true, .pu (.idx 1 (.s 21) (.s 22))⟩,
      ⟨(some 24), some undefA, none, true, .ld (.ld 1 false (.s 23))⟩,
      ⟨(some 25), some undefA, none, false, .pu (.bin .neq (.s 20) (.s 24))⟩])
    (.cond (.s 25) (.seq (.ops [⟨(some 4), some undefA, none, false, .pu (.mov (.c (.bool false)))⟩])
     (.ret))
    (.skip))))
   (.ops [⟨(some 15), some undefA, none, false, .pu (.mov (.s 5))⟩,
     ⟨(some 16), some undefA, none, false, .pu (.bin .add (.s 15) (.c (.int .i64 1)))⟩,
     ⟨(some 5), some undefA, none, false, .pu (.mov (.s 16))⟩]))))))
 (.seq (.ops [⟨(some 4), some undefA, none, false, .pu (.mov (.c (.bool true)))⟩])
 (.ret))))⟩
theorem t26 : trF Try.prog [] [] Try.f26 = some m26 := by kernel_rfl
/-- selion/selionref03.SameRats [loop [0, 1, 5]] -/
def m30 : MFun := ⟨26, [], [.mov (.s 4)],
 .seq (.ops [⟨(some 4), some undefA, none, false, .pu (.mov (.c (.bool false)))⟩])
 (.seq (.seq (.ops [⟨(some 6), some undefA, none, false, .pu (.mov (.s 0))⟩,
   ⟨(some 7), some undefA, none, false, .pu (.len (.s 6))⟩,
   ⟨(some 8), some undefA, none, false, .pu (.mov (.s 1))⟩,
   ⟨(some 9), some undefA, none, false, .pu (.len (.s 8))⟩,
   ⟨(some 10), some undefA, none, false, .pu (.bin .neq (.s 7) (.s 9))⟩])
 (.cond (.s 10) (.seq (.ops [⟨(some 4), some undefA, none, false, .pu (.mov (.c (.bool false)))⟩])
  (.ret))
 (.skip)))
 (.seq (.seq (.ops [⟨(some 5), some undefA, none, false, .pu (.mov (.c (.int .i64 0)))⟩])
 (.block 0 (.loop (.seq (.seq (.ops [⟨(some 11), some undefA, none, false, .pu (.mov (.s 5))⟩,
     ⟨(some 12), some undefA, none, false, .pu (.mov (.s 0))⟩,
     ⟨(some 13), some undefA, none, false, .pu (.len (.s 12))⟩,
     ⟨(some 14), some undefA, none, false, .pu (.bin .lss (.s 11) (.s 13))⟩])
   (.cond (.s 14) (.skip)
   (.exit 0)))
   (.seq (.block 1 (.seq (.ops [⟨(some 17), some undefA, none, true, .pu (.mov (.s 0))⟩,
      ⟨(some 18), some undefA, none, true, .pu (.mov (.s 5))⟩,
      ⟨(some 19), some undefA, none, true, .pu (.idx 2 (.s 17) (.s 18))⟩,
      ⟨(some 20), some undefA, none, true, .ld (.ld 2 true (.s 19))⟩,
      ⟨(some 21), some undefA, none, true, .pu (.mov (.s 1))⟩,
      ⟨(some 22), some undefA, none, true, .pu (.mov (.s 5))⟩,
      ⟨(some 23), some undefA, none, true, .pu (.idx 2 (.s 21) (.s 22))⟩,
      ⟨(some 24), some undefA, none, true, .ld (.ld 2 true (.s 23))⟩,
      ⟨(some 25), some undefA, none, false, .pu (.eqs true [true, true] (.s 20) (.s 24))⟩])
    (.cond (.s 25) (.seq (.ops [⟨(some 4), some undefA, none, false, .pu (.mov (.c (.bool false)))⟩])
     (.ret))
    (.skip))))
   (.ops [⟨(some 15), some undefA, none, false, .pu (.mov (.s 5))⟩,
     ⟨(some 16), some undefA, none, false, .pu (.bin .add (.s 15) (.c (.int .i64 1)))⟩,
     ⟨(some 5), some undefA, none, false, .pu (.mov (.s 16))⟩]))))))
 (.seq (.ops [⟨(some 4), some undefA, none, false, .pu (.mov (.c (.bool true)))⟩])
 (.ret))))⟩
theorem t30 : trF Try.prog [] [] Try.f30 = some m30 := by kernel_rfl
/-- selion/claim.Whole [loop [1, 7, 8, 9, 10, 30, 31, 32], loop [8, 9, 60, 61]] -/
def m31 : MFun := ⟨78, [], [.mov (.s 4), .mov (.s 5)],
 .seq (.ops [⟨(some 4), some undefA, none, false, .pu (.mov (.c (.nilS)))⟩,
   ⟨(some 5), some undefA, none, false, .pu (.mov (.c (.int .i64 0)))⟩])
 (.seq (.seq (.ops [⟨(some 14), some undefA, none, false, .pu (.mov (.s 0))⟩,
   ⟨(some 15), some undefA, none, false, .pu (.mov (.s 1))⟩,
   ⟨(some 16), some undefA, none, false, .call 16 [(.s 14), (.s 15)]⟩,
   ⟨(some 6), some undefA, none, false, .pu (.mov (.s 16))⟩])
 (.seq (.ops [⟨(some 17), some undefA, none, false, .pu (.mov (.s 6))⟩,
   ⟨(some 18), some undefA, none, false, .pu (.bin .neq (.s 17) (.c (.int .i64 0)))⟩])
 (.cond (.s 18) (.seq (.ops [⟨(some 19), some undefA, none, false, .pu (.mov (.s 6))⟩,
    ⟨(some 4), some undefA, none, false, .pu (.mov (.c (.nilS)))⟩,
    ⟨(some 5), some undefA, none, false, .pu (.mov (.s 19))⟩])
  (.ret))
 (.skip))))
 (.seq (.ops [⟨(some 20), some undefA, none, false, .pu (.mov (.s 0))⟩,
   ⟨(some 21), some undefA, none, false, .call 54 [(.s 20)]⟩,
   ⟨(some 22), some undefA, none, false, .pu (.mm true (.c (.int .i64 1)) [(.s 21)])⟩,
   ⟨(some 7), some undefA, none, false, .pu (.mov (.s 22))⟩])
 (.seq (.ops [⟨(some 23), some undefA, none, false, .pu (.mov (.s 0))⟩,
   ⟨(some 24), some undefA, none, false, .pu (.len (.s 23))⟩,
   ⟨(some 25), some undefA, none, false, .ha (.mks 1 [.int .i64 0] (.s 24) (.s 24))⟩,
   ⟨(some 8), some undefA, none, false, .pu (.mov (.s 25))⟩])
 (.seq (.ops [⟨(some 26), some undefA, none, false, .pu (.mov (.s 0))⟩,
   ⟨(some 27), some undefA, none, false, .pu (.len (.s 26))⟩,
   ⟨(some 28), some undefA, none, false, .ha (.mks 1 [.int .i64 0] (.s 27) (.s 27))⟩,
   ⟨(some 9), some undefA, none, false, .pu (.mov (.s 28))⟩])
 (.seq (.ops [⟨(some 29), some undefA, none, false, .pu (.mov (.s 1))⟩,
   ⟨(some 10), some undefA, none, false, .pu (.mov (.s 29))⟩])
 (.seq (.seq (.ops [⟨(some 30), some undefA, none, false, .pu (.mov (.s 0))⟩,
   ⟨(some 31), some undefA, none, false, .pu (.len (.s 30))⟩,
   ⟨(some 32), some undefA, none, false, .pu (.mov (.c (.int .i64 0)))⟩])
 (.block 0 (.loop (.seq (.ops [⟨(some 33), some undefA, none, false, .pu (.bin .lss (.s 32) (.s 31))⟩])
   (.seq (.cond (.s 33) (.skip)
   (.exit 0))
   (.seq (.block 1 (.seq (.ops [⟨(some 34), some undefA, none, false, .pu (.mov (.s 32))⟩,
      ⟨(some 35), some undefA, none, false, .pu (.idx 1 (.s 30) (.s 32))⟩,
      ⟨(some 36), some undefA, none, false, .ld (.ld 1 false (.s 35))⟩,
      ⟨(some 11), some undefA, none, false, .pu (.mov (.s 34))⟩,
      ⟨(some 12), some undefA, none, false, .pu (.mov (.s 36))⟩])
    (.seq (.ops [⟨(some 37), some undefA, none, false, .pu (.mov (.s 9))⟩,
      ⟨(some 38), some undefA, none, false, .pu (.mov (.s 11))⟩,
      ⟨(some 39), some undefA, none, false, .pu (.mov (.s 8))⟩,
      ⟨(some 40), some undefA, none, false, .pu (.mov (.s 11))⟩,
      ⟨(some 41), some undefA, none, false, .pu (.mov (.s 12))⟩,
      ⟨(some 42), some undefA, none, false, .pu (.mov (.s 1))⟩,
      ⟨(some 43), some undefA, none, false, .pu (.bin .mul (.s 41) (.s 42))⟩,
      ⟨(some 44), some undefA, none, false, .pu (.mov (.s 7))⟩,
      ⟨(some 45), some undefA, none, false, .pu (.bin .quo (.s 43) (.s 44))⟩,
      ⟨(some 46), some undefA, none, false, .pu (.mov (.s 12))⟩,
      ⟨(some 47), some undefA, none, false, .pu (.mov (.s 1))⟩,
      ⟨(some 48), some undefA, none, false, .pu (.bin .mul (.s 46) (.s 47))⟩,
      ⟨(some 49), some undefA, none, false, .pu (.mov (.s 7))⟩,
      ⟨(some 50), some undefA, none, false, .pu (.bin .rem (.s 48) (.s 49))⟩,
      ⟨(some 51), some undefA, none, false, .pu (.idx 1 (.s 37) (.s 38))⟩,
      ⟨none, some undefA, none, false, .ha (.st 1 (.s 51) (.s 45))⟩,
      ⟨(some 52), some undefA, none, false, .pu (.idx 1 (.s 39) (.s 40))⟩,
      ⟨none, some undefA, none, false, .ha (.st 1 (.s 52) (.s 50))⟩])
    (.ops [⟨(some 53), some undefA, none, false, .pu (.mov (.s 10))⟩,
      ⟨(some 54), some undefA, none, false, .pu (.mov (.s 9))⟩,
      ⟨(some 55), some undefA, none, false, .pu (.mov (.s 11))⟩,
      ⟨(some 56), some undefA, none, false, .pu (.idx 1 (.s 54) (.s 55))⟩,
      ⟨(some 57), some undefA, none, false, .ld (.ld 1 false (.s 56))⟩,
      ⟨(some 58), some undefA, none, false, .pu (.bin .sub (.s 53) (.s 57))⟩,
      ⟨(some 10), some undefA, none, false, .pu (.mov (.s 58))⟩]))))
   (.ops [⟨(some 59), some undefA, none, false, .pu (.bin .add (.s 32) (.c (.int .i64 1)))⟩,
     ⟨(some 32), some undefA, none, false, .pu (.mov (.s 59))⟩])))))))
 (.seq (.seq (.ops [⟨(some 60), some undefA, none, false, .pu (.mov (.s 10))⟩,
   ⟨(some 61), some undefA, none, false, .pu (.mov (.c (.int .i64 0)))⟩])
 (.block 2 (.loop (.seq (.ops [⟨(some 62), some undefA, none, false, .pu (.bin .lss (.s 61) (.s 60))⟩])
   (.seq (.cond (.s 62) (.skip)
   (.exit 2))
   (.seq (.block 3 (.seq (.ops [⟨(some 63), some undefA, none, false, .pu (.mov (.s 8))⟩,
      ⟨(some 64), some undefA, none, false, .pu (.mov (.s 8))⟩,
      ⟨(some 65), some undefA, none, false, .call 64 [(.s 64)]⟩,
      ⟨(some 66), some undefA, none, false, .call 63 [(.s 63), (.s 65)]⟩,
      ⟨(some 13), some undefA, none, false, .pu (.mov (.s 66))⟩])
    (.seq (.ops [⟨(some 67), some undefA, none, false, .pu (.mov (.s 9))⟩,
      ⟨(some 68), some undefA, none, false, .pu (.mov (.s 13))⟩,
      ⟨(some 69), some undefA, none, false, .pu (.idx 1 (.s 67) (.s 68))⟩,
      ⟨(some 70), some undefA, none, false, .ld (.ld 1 false (.s 69))⟩,
      ⟨(some 71), some undefA, none, false, .pu (.bin .add (.s 70) (.c (.int .i64 1)))⟩,
      ⟨(some 72), some undefA, none, false, .pu (.idx 1 (.s 67) (.s 68))⟩,
      ⟨none, some undefA, none, false, .ha (.st 1 (.s 72) (.s 71))⟩])
    (.ops [⟨(some 73), some undefA, none, false, .pu (.mov (.s 8))⟩,
      ⟨(some 74), some undefA, none, false, .pu (.mov (.s 13))⟩,
      ⟨(some 75), some undefA, none, false, .pu (.idx 1 (.s 73) (.s 74))⟩,
      ⟨none, some undefA, none, false, .ha (.st 1 (.s 75) (.c (.int .i64 (-1))))⟩]))))
   (.ops [⟨(some 76), some undefA, none, false, .pu (.bin .add (.s 61) (.c (.int .i64 1)))⟩,
     ⟨(some 61), some undefA, none, false, .pu (.mov (.s 76))⟩])))))))
 (.seq (.ops [⟨(some 77), some undefA, none, false, .pu (.mov (.s 9))⟩,
   ⟨(some 4), some undefA, none, false, .pu (.mov (.s 77))⟩,
   ⟨(some 5), some undefA, none, false, .pu (.mov (.c (.int .i64 0)))⟩])
 (.ret)))))))))⟩
theorem t31 : trF Try.prog [] [] Try.f31 = some m31 := by kernel_rfl
/-- selion/claim.isClaims [] -/
def m53 : MFun := ⟨16, [], [.mov (.s 2)],
 .seq (.ops [⟨(some 2), some undefA, none, false, .pu (.mov (.c (.bool false)))⟩])
 (.seq (.ops [⟨(some 3), some undefA, none, false, .pu (.mov (.s 0))⟩,
   ⟨(some 4), some undefA, none, false, .pu (.len (.s 3))⟩,
   ⟨(some 5), some undefA, none, false, .pu (.bin .geq (.s 4) (.c (.int .i64 1)))⟩,
   ⟨(some 6), some undefA, none, false, .pu (.mov (.s 5))⟩,
   ⟨(some 7), some undefA, (some (6, true)), false, .pu (.mov (.s 0))⟩,
   ⟨(some 8), some undefA, (some (6, true)), false, .pu (.len (.s 7))⟩,
   ⟨(some 9), some undefA, (some (6, true)), false, .pu (.bin .leq (.s 8) (.c (.int .i64 8)))⟩,
   ⟨(some 10), some undefA, none, false, .pu (.pick (.s 6) (.s 9) (.c (.bool false)))⟩,
   ⟨(some 11), some undefA, none, false, .pu (.mov (.s 10))⟩,
   ⟨(some 12), some undefA, (some (11, true)), false, .pu (.mov (.s 0))⟩,
   ⟨(some 13), some undefA, (some (11, true)), false, .call 57 [(.s 12), (.c (.fn 78 []))]⟩,
   ⟨(some 14), some undefA, (some (11, true)), false, .pu (.not (.s 13))⟩,
   ⟨(some 15), some undefA, none, false, .pu (.pick (.s 11) (.s 14) (.c (.bool false)))⟩,
   ⟨(some 2), some undefA, none, false, .pu (.mov (.s 15))⟩])
 (.ret))⟩
theorem t53 : trF Try.prog [] [] Try.f53 = some m53 := by kernel_rfl
/-- selion/claim.total [loop [3, 6, 7, 8]] -/
def m54 : MFun := ⟨17, [], [.mov (.s 2)],
 .seq (.ops [⟨(some 2), some undefA, none, false, .pu (.mov (.c (.int .i64 0)))⟩])
 (.seq (.ops [⟨(some 3), some undefA, none, false, .pu (.mov (.c (.int .i64 0)))⟩])
 (.seq (.seq (.ops [⟨(some 6), some undefA, none, false, .pu (.mov (.s 0))⟩,
   ⟨(some 7), some undefA, none, false, .pu (.len (.s 6))⟩,
   ⟨(some 8), some undefA, none, false, .pu (.mov (.c (.int .i64 0)))⟩])
 (.block 0 (.loop (.seq (.ops [⟨(some 9), some undefA, none, false, .pu (.bin .lss (.s 8) (.s 7))⟩])
   (.seq (.cond (.s 9) (.skip)
   (.exit 0))
   (.seq (.block 1 (.seq (.ops [⟨(some 10), some undefA, none, false, .pu (.idx 1 (.s 6) (.s 8))⟩,
      ⟨(some 11), some undefA, none, false, .ld (.ld 1 false (.s 10))⟩,
      ⟨(some 5), some undefA, none, false, .pu (.mov (.s 11))⟩])
    (.ops [⟨(some 12), some undefA, none, false, .pu (.mov (.s 3))⟩,
      ⟨(some 13), some undefA, none, false, .pu (.mov (.s 5))⟩,
      ⟨(some 14), some undefA, none, false, .pu (.bin .add (.s 12) (.s 13))⟩,
      ⟨(some 3), some undefA, none, false, .pu (.mov (.s 14))⟩])))
   (.ops [⟨(some 15), some undefA, none, false, .pu (.bin .add (.s 8) (.c (.int .i64 1)))⟩,
     ⟨(some 8), some undefA, none, false, .pu (.mov (.s 15))⟩])))))))
 (.seq (.ops [⟨(some 16), some undefA, none, false, .pu (.mov (.s 3))⟩,
   ⟨(some 2), some undefA, none, false, .pu (.mov (.s 16))⟩])
 (.ret))))⟩
theorem t54 : trF Try.prog [] [] Try.f54 = some m54 := by kernel_rfl
/-- selion/claim.by [] -/
def m55 : MFun := ⟨22, [], [.mov (.s 6), .mov (.s 7)],
 .seq (.ops [⟨(some 6), some undefA, none, false, .pu (.mov (.c (.nilS)))⟩,
   ⟨(some 7), some undefA, none, false, .pu (.mov (.c (.int .i64 0)))⟩])
 (.seq (.seq (.ops [⟨(some 9), some undefA, none, false, .pu (.mov (.s 1))⟩,
   ⟨(some 10), some undefA, none, false, .pu (.mov (.s 2))⟩,
   ⟨(some 11), some undefA, none, false, .call 16 [(.s 9), (.s 10)]⟩,
   ⟨(some 8), some undefA, none, false, .pu (.mov (.s 11))⟩])
 (.seq (.ops [⟨(some 12), some undefA, none, false, .pu (.mov (.s 8))⟩,
   ⟨(some 13), some undefA, none, false, .pu (.bin .neq (.s 12) (.c (.int .i64 0)))⟩])
 (.cond (.s 13) (.seq (.ops [⟨(some 14), some undefA, none, false, .pu (.mov (.s 8))⟩,
    ⟨(some 6), some undefA, none, false, .pu (.mov (.c (.nilS)))⟩,
    ⟨(some 7), some undefA, none, false, .pu (.mov (.s 14))⟩])
  (.ret))
 (.skip))))
 (.seq (.ops [⟨(some 15), some undefA, none, false, .call 79 []⟩,
   ⟨(some 16), some undefA, none, false, .pu (.mov (.s 0))⟩,
   ⟨(some 17), some undefA, none, false, .pu (.aidx 4 1 true (.s 15) (.s 16))⟩,
   ⟨(some 18), some undefA, none, false, .pu (.part 0 1 false (.s 17))⟩,
   ⟨(some 19), some undefA, none, false, .pu (.mov (.s 1))⟩,
   ⟨(some 20), some undefA, none, false, .pu (.mov (.s 2))⟩,
   ⟨(some 21), some undefA, none, false, .callv (.s 18) [(.s 19), (.s 20)]⟩,
   ⟨(some 6), some undefA, none, false, .pu (.mov (.s 21))⟩,
   ⟨(some 7), some undefA, none, false, .pu (.mov (.c (.int .i64 0)))⟩])
 (.ret)))⟩
theorem t55 : trF Try.prog [] [] Try.f55 = some m55 := by kernel_rfl
/-- slices.ContainsFunc[[]int,int] [] -/
def m57 : MFun := ⟨9, [], [.mov (.s 4)],
 .seq (.ops [⟨(some 4), some undefA, none, false, .pu (.mov (.c (.bool false)))⟩])
 (.seq (.ops [⟨(some 5), some undefA, none, false, .pu (.mov (.s 0))⟩,
   ⟨(some 6), some undefA, none, false, .pu (.mov (.s 1))⟩,
   ⟨(some 7), some undefA, none, false, .call 81 [(.s 5), (.s 6)]⟩,
   ⟨(some 8), some undefA, none, false, .pu (.bin .geq (.s 7) (.c (.int .i64 0)))⟩,
   ⟨(some 4), some undefA, none, false, .pu (.mov (.s 8))⟩])
 (.ret))⟩
theorem t57 : trF Try.prog [] [] Try.f57 = some m57 := by kernel_rfl
/-- selion/claim.ratio [] -/
def m61 : MFun := ⟨16, [4], [.bget none 4 0 2 true],
 .seq (.ops [⟨(some 4), some (.junk), none, false, .pu (.bnew (.c (.agg [.int .i64 0, .int .i64 0])))⟩])
 (.seq (.ops [⟨(some 6), some undefA, none, false, .pu (.mov (.s 0))⟩,
   ⟨(some 7), some undefA, none, false, .pu (.mov (.s 1))⟩,
   ⟨(some 8), some undefA, none, false, .call 82 [(.s 6), (.s 7)]⟩,
   ⟨(some 5), some undefA, none, false, .pu (.mov (.s 8))⟩])
 (.seq (.ops [⟨(some 9), some undefA, none, false, .pu (.mov (.s 0))⟩,
   ⟨(some 10), some undefA, none, false, .pu (.mov (.s 5))⟩,
   ⟨(some 11), some undefA, none, false, .pu (.bin .quo (.s 9) (.s 10))⟩,
   ⟨(some 12), some undefA, none, false, .pu (.mov (.s 1))⟩,
   ⟨(some 13), some undefA, none, false, .pu (.mov (.s 5))⟩,
   ⟨(some 14), some undefA, none, false, .pu (.bin .quo (.s 12) (.s 13))⟩,
   ⟨(some 15), some undefA, none, false, .pu (.build [.int .i64 0, .int .i64 0] [(0, 1, (.s 11)), (1, 1, (.s 14))])⟩,
   ⟨(some 4), none, none, false, .pu (.bset none 4 0 2 (.s 15))⟩])
 (.ret)))⟩
theorem t61 : trF Try.prog [4] [] Try.f61 = some m61 := by kernel_rfl
/-- slices.Index[[]int,int] [loop [0, 1, 7, 8]] -/
def m63 : MFun := ⟨19, [], [.mov (.s 4)],
 .seq (.ops [⟨(some 4), some undefA, none, false, .pu (.mov (.c (.int .i64 0)))⟩])
 (.seq (.seq (.ops [⟨(some 6), some undefA, none, false, .pu (.mov (.s 0))⟩,
   ⟨(some 7), some undefA, none, false, .pu (.len (.s 6))⟩,
   ⟨(some 8), some undefA, none, false, .pu (.mov (.c (.int .i64 0)))⟩])
 (.block 0 (.loop (.seq (.ops [⟨(some 9), some undefA, none, false, .pu (.bin .lss (.s 8) (.s 7))⟩])
   (.seq (.cond (.s 9) (.skip)
   (.exit 0))
   (.seq (.block 1 (.seq (.ops [⟨(some 10), some undefA, none, false, .pu (.mov (.s 8))⟩,
      ⟨(some 5), some undefA, none, false, .pu (.mov (.s 10))⟩])
    (.seq (.ops [⟨(some 11), some undefA, none, false, .pu (.mov (.s 1))⟩,
      ⟨(some 12), some undefA, none, false, .pu (.mov (.s 0))⟩,
      ⟨(some 13), some undefA, none, false, .pu (.mov (.s 5))⟩,
      ⟨(some 14), some undefA, none, false, .pu (.idx 1 (.s 12) (.s 13))⟩,
      ⟨(some 15), some undefA, none, false, .ld (.ld 1 false (.s 14))⟩,
      ⟨(some 16), some undefA, none, false, .pu (.bin .eql (.s 11) (.s 15))⟩])
    (.cond (.s 16) (.seq (.ops [⟨(some 17), some undefA, none, false, .pu (.mov (.s 5))⟩,
       ⟨(some 4), some undefA, none, false, .pu (.mov (.s 17))⟩])
     (.ret))
    (.skip)))))
   (.ops [⟨(some 18), some undefA, none, false, .pu (.bin .add (.s 8) (.c (.int .i64 1)))⟩,
     ⟨(some 8), some undefA, none, false, .pu (.mov (.s 18))⟩])))))))
 (.seq (.ops [⟨(some 4), some undefA, none, false, .pu (.mov (.c (.int .i64 (-1))))⟩])
 (.ret)))⟩
theorem t63 : trF Try.prog [] [] Try.f63 = some m63 := by kernel_rfl
/-- slices.Max[[]int,int] [loop [0, 3, 4]] -/
def m64 : MFun := ⟨25, [], [.mov (.s 2)],
 .seq (.ops [⟨(some 2), some undefA, none, false, .pu (.mov (.c (.int .i64 0)))⟩])
 (.seq (.seq (.ops [⟨(some 5), some undefA, none, false, .pu (.mov (.s 0))⟩,
   ⟨(some 6), some undefA, none, false, .pu (.len (.s 5))⟩,
   ⟨(some 7), some undefA, none, false, .pu (.bin .lss (.s 6) (.c (.int .i64 1)))⟩])
 (.cond (.s 7) (.ops [⟨(some 8), some undefA, none, false, .pu (.fail)⟩,
    ⟨none, some undefA, none, false, .pu (.fail)⟩])
 (.skip)))
 (.seq (.ops [⟨(some 9), some undefA, none, false, .pu (.mov (.s 0))⟩,
   ⟨(some 10), some undefA, none, false, .pu (.idx 1 (.s 9) (.c (.int .i64 0)))⟩,
   ⟨(some 11), some undefA, none, false, .ld (.ld 1 false (.s 10))⟩,
   ⟨(some 3), some undefA, none, false, .pu (.mov (.s 11))⟩])
 (.seq (.seq (.ops [⟨(some 4), some undefA, none, false, .pu (.mov (.c (.int .i64 1)))⟩])
 (.block 0 (.loop (.seq (.seq (.ops [⟨(some 12), some undefA, none, false, .pu (.mov (.s 4))⟩,
     ⟨(some 13), some undefA, none, false, .pu (.mov (.s 0))⟩,
     ⟨(some 14), some undefA, none, false, .pu (.len (.s 13))⟩,
     ⟨(some 15), some undefA, none, false, .pu (.bin .lss (.s 12) (.s 14))⟩])
   (.cond (.s 15) (.skip)
   (.exit 0)))
   (.seq (.block 1 (.ops [⟨(some 18), some undefA, none, false, .pu (.mov (.s 3))⟩,
      ⟨(some 19), some undefA, none, false, .pu (.mov (.s 0))⟩,
      ⟨(some 20), some undefA, none, false, .pu (.mov (.s 4))⟩,
      ⟨(some 21), some undefA, none, false, .pu (.idx 1 (.s 19) (.s 20))⟩,
      ⟨(some 22), some undefA, none, false, .ld (.ld 1 false (.s 21))⟩,
      ⟨(some 23), some undefA, none, false, .pu (.mm true (.s 18) [(.s 22)])⟩,
      ⟨(some 3), some undefA, none, false, .pu (.mov (.s 23))⟩]))
   (.ops [⟨(some 16), some undefA, none, false, .pu (.mov (.s 4))⟩,
     ⟨(some 17), some undefA, none, false, .pu (.bin .add (.s 16) (.c (.int .i64 1)))⟩,
     ⟨(some 4), some undefA, none, false, .pu (.mov (.s 17))⟩]))))))
 (.seq (.ops [⟨(some 24), some undefA, none, false, .pu (.mov (.s 3))⟩,
   ⟨(some 2), some undefA, none, false, .pu (.mov (.s 24))⟩])
 (.ret)))))⟩
theorem t64 : trF Try.prog [] [] Try.f64 = some m64 := by kernel_rfl
/-- slices.Sort[[]int,int] [] -/
def m72 : MFun := ⟨11, [], [],
 .seq (.ops [⟨(some 3), some undefA, none, false, .pu (.mov (.s 0))⟩,
   ⟨(some 4), some undefA, none, false, .pu (.len (.s 3))⟩,
   ⟨(some 2), some undefA, none, false, .pu (.mov (.s 4))⟩])
 (.ops [⟨(some 5), some undefA, none, false, .pu (.mov (.s 0))⟩,
   ⟨(some 6), some undefA, none, false, .pu (.mov (.s 2))⟩,
   ⟨(some 7), some undefA, none, false, .pu (.mov (.s 2))⟩,
   ⟨(some 8), some undefA, none, false, .pu (.conv .u64 (.s 7))⟩,
   ⟨(some 9), some undefA, none, false, .call 84 [(.s 8)]⟩,
   ⟨(some 10), some undefA, none, false, .call 83 [(.s 5), (.c (.int .i64 0)), (.s 6), (.s 9)]⟩])⟩
theorem t72 : trF Try.prog [] [] Try.f72 = some m72 := by kernel_rfl
/-- selion/claim.isClaims$1 [] -/
def m78 : MFun := ⟨9, [], [.mov (.s 2)],
 .seq (.ops [⟨(some 2), some undefA, none, false, .pu (.mov (.c (.bool false)))⟩])
 (.seq (.ops [⟨(some 3), some undefA, none, false, .pu (.mov (.s 0))⟩,
   ⟨(some 4), some undefA, none, false, .pu (.bin .lss (.s 3) (.c (.int .i64 0)))⟩,
   ⟨(some 5), some undefA, none, false, .pu (.mov (.s 4))⟩,
   ⟨(some 6), some undefA, (some (5, false)), false, .pu (.mov (.s 0))⟩,
   ⟨(some 7), some undefA, (some (5, false)), false, .pu (.bin .gtr (.s 6) (.c (.int .i64 1000)))⟩,
   ⟨(some 8), some undefA, none, false, .pu (.pick (.s 5) (.c (.bool true)) (.s 7))⟩,
   ⟨(some 2), some undefA, none, false, .pu (.mov (.s 8))⟩])
 (.ret))⟩
theorem t78 : trF Try.prog [] [] Try.f78 = some m78 := by kernel_rfl
/-- selion/claim.rules [] -/
def m79 : MFun := ⟨12, [0], [.bget none 0 0 4 true],
 .seq (.ops [⟨(some 0), some (.junk), none, false, .pu (.bnew (.c (.agg [.nilF, .nilF, .nilF, .nilF])))⟩])
 (.seq (.ops [⟨(some 1), some undefA, none, false, .ha (.newv (.c (.nilF)))⟩,
   ⟨none, some undefA, none, false, .ha (.st 1 (.s 1) (.c (.fn 87 [])))⟩])
 (.seq (.ops [⟨(some 3), some undefA, none, false, .pu (.mkf 89 [(.s 1)])⟩,
   ⟨(some 2), some undefA, none, false, .ha (.newv (.c (.nilF)))⟩,
   ⟨none, some undefA, none, false, .ha (.st 1 (.s 2) (.s 3))⟩])
 (.seq (.ops [⟨(some 4), some undefA, none, false, .pu (.build [.nilF] [(0, 1, (.c (.fn 90 [])))])⟩,
   ⟨(some 5), some undefA, none, false, .ld (.ld 1 false (.s 1))⟩,
   ⟨(some 6), some undefA, none, false, .pu (.build [.nilF] [(0, 1, (.s 5))])⟩,
   ⟨(some 7), some undefA, none, false, .ld (.ld 1 false (.s 2))⟩,
   ⟨(some 8), some undefA, none, false, .pu (.build [.nilF] [(0, 1, (.s 7))])⟩,
   ⟨(some 9), some undefA, none, false, .pu (.mkf 91 [(.s 1), (.s 2)])⟩,
   ⟨(some 10), some undefA, none, false, .pu (.build [.nilF] [(0, 1, (.s 9))])⟩,
   ⟨(some 11), some undefA, none, false, .pu (.build [.nilF, .nilF, .nilF, .nilF] [(0, 1, (.s 4)), (1, 1, (.s 6)), (2, 1, (.s 8)), (3, 1, (.s 10))])⟩,
   ⟨(some 0), none, none, false, .pu (.bset none 0 0 4 (.s 11))⟩])
 (.ret))))⟩
theorem t79 : trF Try.prog [0] [] Try.f79 = some m79 := by kernel_rfl
/-- slices.IndexFunc[[]int,int] [loop [0, 1, 7, 8]] -/
def m81 : MFun := ⟨19, [], [.mov (.s 4)],
 .seq (.ops [⟨(some 4), some undefA, none, false, .pu (.mov (.c (.int .i64 0)))⟩])
 (.seq (.seq (.ops [⟨(some 6), some undefA, none, false, .pu (.mov (.s 0))⟩,
   ⟨(some 7), some undefA, none, false, .pu (.len (.s 6))⟩,
   ⟨(some 8), some undefA, none, false, .pu (.mov (.c (.int .i64 0)))⟩])
 (.block 0 (.loop (.seq (.ops [⟨(some 9), some undefA, none, false, .pu (.bin .lss (.s 8) (.s 7))⟩])
   (.seq (.cond (.s 9) (.skip)
   (.exit 0))
   (.seq (.block 1 (.seq (.ops [⟨(some 10), some undefA, none, false, .pu (.mov (.s 8))⟩,
      ⟨(some 5), some undefA, none, false, .pu (.mov (.s 10))⟩])
    (.seq (.ops [⟨(some 11), some undefA, none, false, .pu (.mov (.s 1))⟩,
      ⟨(some 12), some undefA, none, false, .pu (.mov (.s 0))⟩,
      ⟨(some 13), some undefA, none, false, .pu (.mov (.s 5))⟩,
      ⟨(some 14), some undefA, none, false, .pu (.idx 1 (.s 12) (.s 13))⟩,
      ⟨(some 15), some undefA, none, false, .ld (.ld 1 false (.s 14))⟩,
      ⟨(some 16), some undefA, none, false, .callv (.s 11) [(.s 15)]⟩])
    (.cond (.s 16) (.seq (.ops [⟨(some 17), some undefA, none, false, .pu (.mov (.s 5))⟩,
       ⟨(some 4), some undefA, none, false, .pu (.mov (.s 17))⟩])
     (.ret))
    (.skip)))))
   (.ops [⟨(some 18), some undefA, none, false, .pu (.bin .add (.s 8) (.c (.int .i64 1)))⟩,
     ⟨(some 8), some undefA, none, false, .pu (.mov (.s 18))⟩])))))))
 (.seq (.ops [⟨(some 4), some undefA, none, false, .pu (.mov (.c (.int .i64 (-1))))⟩])
 (.ret)))⟩
theorem t81 : trF Try.prog [] [] Try.f81 = some m81 := by kernel_rfl
/-- selion/claim.gcd [loop [0, 1]] -/
def m82 : MFun := ⟨15, [], [.mov (.s 4)],
 .seq (.ops [⟨(some 4), some undefA, none, false, .pu (.mov (.c (.int .i64 0)))⟩])
 (.seq (.block 0 (.loop (.seq (.seq (.ops [⟨(some 5), some undefA, none, false, .pu (.mov (.s 1))⟩,
     ⟨(some 6), some undefA, none, false, .pu (.bin .neq (.s 5) (.c (.int .i64 0)))⟩])
   (.cond (.s 6) (.skip)
   (.exit 0)))
   (.block 1 (.ops [⟨(some 7), some undefA, none, false, .pu (.mov (.s 1))⟩,
      ⟨(some 8), some undefA, none, false, .pu (.mov (.s 0))⟩,
      ⟨(some 9), some undefA, none, false, .pu (.mov (.s 1))⟩,
      ⟨(some 10), some undefA, none, false, .pu (.bin .rem (.s 8) (.s 9))⟩,
      ⟨(some 0), some undefA, none, false, .pu (.mov (.s 7))⟩,
      ⟨(some 1), some undefA, none, false, .pu (.mov (.s 10))⟩])))))
 (.seq (.ops [⟨(some 11), some undefA, none, false, .pu (.mov (.s 0))⟩,
   ⟨(some 12), some undefA, none, false, .pu (.mov (.s 0))⟩,
   ⟨(some 13), some undefA, none, false, .pu (.neg (.s 12))⟩,
   ⟨(some 14), some undefA, none, false, .pu (.mm true (.s 11) [(.s 13)])⟩,
   ⟨(some 4), some undefA, none, false, .pu (.mov (.s 14))⟩])
 (.ret)))⟩
theorem t82 : trF Try.prog [] [] Try.f82 = some m82 := by kernel_rfl
/-- slices.pdqsortOrdered[int] [loop [0, 1, 2, 3, 8, 9]] -/
def m83 : MFun := ⟨134, [], [],
 .seq (.ops [⟨(some 8), some undefA, none, false, .pu (.mov (.c (.bool true)))⟩])
 (.seq (.ops [⟨(some 9), some undefA, none, false, .pu (.mov (.c (.bool true)))⟩])
 (.block 0 (.loop (.block 1 (.seq (.ops [⟨(some 19), some undefA, none, false, .pu (.mov (.s 2))⟩,
      ⟨(some 20), some undefA, none, false, .pu (.mov (.s 1))⟩,
      ⟨(some 21), some undefA, none, false, .pu (.bin .sub (.s 19) (.s 20))⟩,
      ⟨(some 10), some undefA, none, false, .pu (.mov (.s 21))⟩])
    (.seq (.seq (.ops [⟨(some 22), some undefA, none, false, .pu (.mov (.s 10))⟩,
      ⟨(some 23), some undefA, none, false, .pu (.bin .leq (.s 22) (.c (.int .i64 12)))⟩])
    (.cond (.s 23) (.seq (.ops [⟨(some 24), some undefA, none, false, .pu (.mov (.s 0))⟩,
       ⟨(some 25), some undefA, none, false, .pu (.mov (.s 1))⟩,
       ⟨(some 26), some undefA, none, false, .pu (.mov (.s 2))⟩,
       ⟨(some 27), some undefA, none, false, .call 92 [(.s 24), (.s 25), (.s 26)]⟩])
     (.ret))
    (.skip)))
    (.seq (.seq (.ops [⟨(some 28), some undefA, none, false, .pu (.mov (.s 3))⟩,
      ⟨(some 29), some undefA, none, false, .pu (.bin .eql (.s 28) (.c (.int .i64 0)))⟩])
    (.cond (.s 29) (.seq (.ops [⟨(some 30), some undefA, none, false, .pu (.mov (.s 0))⟩,
       ⟨(some 31), some undefA, none, false, .pu (.mov (.s 1))⟩,
       ⟨(some 32), some undefA, none, false, .pu (.mov (.s 2))⟩,
       ⟨(some 33), some undefA, none, false, .call 93 [(.s 30), (.s 31), (.s 32)]⟩])
     (.ret))
    (.skip)))
    (.seq (.seq (.ops [⟨(some 34), some undefA, none, false, .pu (.mov (.s 8))⟩,
      ⟨(some 35), some undefA, none, false, .pu (.not (.s 34))⟩])
    (.cond (.s 35) (.seq (.ops [⟨(some 36), some undefA, none, false, .pu (.mov (.s 0))⟩,
       ⟨(some 37), some undefA, none, false, .pu (.mov (.s 1))⟩,
       ⟨(some 38), some undefA, none, false, .pu (.mov (.s 2))⟩,
       ⟨(some 39), some undefA, none, false, .call 94 [(.s 36), (.s 37), (.s 38)]⟩])
     (.ops [⟨(some 40), some undefA, none, false, .pu (.mov (.s 3))⟩,
       ⟨(some 41), some undefA, none, false, .pu (.bin .sub (.s 40) (.c (.int .i64 1)))⟩,
       ⟨(some 3), some undefA, none, false, .pu (.mov (.s 41))⟩]))
    (.skip)))
    (.seq (.ops [⟨(some 43), some undefA, none, false, .pu (.mov (.s 0))⟩,
      ⟨(some 44), some undefA, none, false, .pu (.mov (.s 1))⟩,
      ⟨(some 45), some undefA, none, false, .pu (.mov (.s 2))⟩,
      ⟨(some 46), some undefA, none, false, .call 95 [(.s 43), (.s 44), (.s 45)]⟩,
      ⟨(some 42), some undefA, none, false, .pu (.mov (.s 46))⟩,
      ⟨(some 47), some undefA, none, false, .pu (.extr 0 (.s 42))⟩,
      ⟨(some 48), some undefA, none, false, .pu (.extr 1 (.s 42))⟩,
      ⟨(some 11), some undefA, none, false, .pu (.mov (.s 47))⟩,
      ⟨(some 12), some undefA, none, false, .pu (.mov (.s 48))⟩])
    (.seq (.seq (.ops [⟨(some 49), some undefA, none, false, .pu (.mov (.s 12))⟩,
      ⟨(some 50), some undefA, none, false, .pu (.bin .eql (.s 49) (.c (.int .i64 2)))⟩])
    (.cond (.s 50) (.seq (.ops [⟨(some 51), some undefA, none, false, .pu (.mov (.s 0))⟩,
       ⟨(some 52), some undefA, none, false, .pu (.mov (.s 1))⟩,
       ⟨(some 53), some undefA, none, false, .pu (.mov (.s 2))⟩,
       ⟨(some 54), some undefA, none, false, .call 96 [(.s 51), (.s 52), (.s 53)]⟩])
     (.seq (.ops [⟨(some 55), some undefA, none, false, .pu (.mov (.s 2))⟩,
       ⟨(some 56), some undefA, none, false, .pu (.bin .sub (.s 55) (.c (.int .i64 1)))⟩,
       ⟨(some 57), some undefA, none, false, .pu (.mov (.s 11))⟩,
       ⟨(some 58), some undefA, none, false, .pu (.mov (.s 1))⟩,
       ⟨(some 59), some undefA, none, false, .pu (.bin .sub (.s 57) (.s 58))⟩,
       ⟨(some 60), some undefA, none, false, .pu (.bin .sub (.s 56) (.s 59))⟩,
       ⟨(some 11), some undefA, none, false, .pu (.mov (.s 60))⟩])
     (.ops [⟨(some 12), some undefA, none, false, .pu (.mov (.c (.int .i64 1)))⟩])))
    (.skip)))
    (.seq (.seq (.ops [⟨(some 61), some undefA, none, false, .pu (.mov (.s 8))⟩,
      ⟨(some 62), some undefA, none, false, .pu (.mov (.s 61))⟩,
      ⟨(some 63), some undefA, (some (62, true)), false, .pu (.mov (.s 9))⟩,
      ⟨(some 64), some undefA, none, false, .pu (.pick (.s 62) (.s 63) (.c (.bool false)))⟩,
      ⟨(some 65), some undefA, none, false, .pu (.mov (.s 64))⟩,
      ⟨(some 66), some undefA, (some (65, true)), false, .pu (.mov (.s 12))⟩,
      ⟨(some 67), some undefA, (some (65, true)), false, .pu (.bin .eql (.s 66) (.c (.int .i64 1)))⟩,
      ⟨(some 68), some undefA, none, false, .pu (.pick (.s 65) (.s 67) (.c (.bool false)))⟩])
    (.cond (.s 68) (.seq (.ops [⟨(some 69), some undefA, none, false, .pu (.mov (.s 0))⟩,
       ⟨(some 70), some undefA, none, false, .pu (.mov (.s 1))⟩,
       ⟨(some 71), some undefA, none, false, .pu (.mov (.s 2))⟩,
       ⟨(some 72), some undefA, none, false, .call 97 [(.s 69), (.s 70), (.s 71)]⟩])
     (.cond (.s 72) (.ret)
     (.skip)))
    (.skip)))
    (.seq (.seq (.ops [⟨(some 73), some undefA, none, false, .pu (.mov (.s 1))⟩,
      ⟨(some 74), some undefA, none, false, .pu (.bin .gtr (.s 73) (.c (.int .i64 0)))⟩,
      ⟨(some 75), some undefA, none, false, .pu (.mov (.s 74))⟩,
      ⟨(some 76), some undefA, (some (75, true)), true, .pu (.mov (.s 0))⟩,
      ⟨(some 77), some undefA, (some (75, true)), true, .pu (.mov (.s 1))⟩,
      ⟨(some 78), some undefA, (some (75, true)), true, .pu (.bin .sub (.s 77) (.c (.int .i64 1)))⟩,
      ⟨(some 79), some undefA, (some (75, true)), true, .pu (.idx 1 (.s 76) (.s 78))⟩,
      ⟨(some 80), some undefA, (some (75, true)), true, .ld (.ld 1 false (.s 79))⟩,
      ⟨(some 81), some undefA, (some (75, true)), true, .pu (.mov (.s 0))⟩,
      ⟨(some 82), some undefA, (some (75, true)), true, .pu (.mov (.s 11))⟩,
      ⟨(some 83), some undefA, (some (75, true)), true, .pu (.idx 1 (.s 81) (.s 82))⟩,
      ⟨(some 84), some undefA, (some (75, true)), true, .ld (.ld 1 false (.s 83))⟩,
      ⟨(some 85), some undefA, (some (75, true)), false, .call 98 [(.s 80), (.s 84)]⟩,
      ⟨(some 86), some undefA, (some (75, true)), false, .pu (.not (.s 85))⟩,
      ⟨(some 87), some undefA, none, false, .pu (.pick (.s 75) (.s 86) (.c (.bool false)))⟩])
    (.cond (.s 87) (.seq (.ops [⟨(some 88), some undefA, none, false, .pu (.mov (.s 0))⟩,
       ⟨(some 89), some undefA, none, false, .pu (.mov (.s 1))⟩,
       ⟨(some 90), some undefA, none, false, .pu (.mov (.s 2))⟩,
       ⟨(some 91), some undefA, none, false, .pu (.mov (.s 11))⟩,
       ⟨(some 92), some undefA, none, false, .call 99 [(.s 88), (.s 89), (.s 90), (.s 91)]⟩,
       ⟨(some 13), some undefA, none, false, .pu (.mov (.s 92))⟩])
     (.seq (.ops [⟨(some 93), some undefA, none, false, .pu (.mov (.s 13))⟩,
       ⟨(some 1), some undefA, none, false, .pu (.mov (.s 93))⟩])
     (.exit 1)))
    (.skip)))
    (.seq (.ops [⟨(some 95), some undefA, none, false, .pu (.mov (.s 0))⟩,
      ⟨(some 96), some undefA, none, false, .pu (.mov (.s 1))⟩,
      ⟨(some 97), some undefA, none, false, .pu (.mov (.s 2))⟩,
      ⟨(some 98), some undefA, none, false, .pu (.mov (.s 11))⟩,
      ⟨(some 99), some undefA, none, false, .call 100 [(.s 95), (.s 96), (.s 97), (.s 98)]⟩,
      ⟨(some 94), some undefA, none, false, .pu (.mov (.s 99))⟩,
      ⟨(some 100), some undefA, none, false, .pu (.extr 0 (.s 94))⟩,
      ⟨(some 101), some undefA, none, false, .pu (.extr 1 (.s 94))⟩,
      ⟨(some 14), some undefA, none, false, .pu (.mov (.s 100))⟩,
      ⟨(some 15), some undefA, none, false, .pu (.mov (.s 101))⟩])
    (.seq (.ops [⟨(some 102), some undefA, none, false, .pu (.mov (.s 15))⟩,
      ⟨(some 9), some undefA, none, false, .pu (.mov (.s 102))⟩])
    (.seq (.ops [⟨(some 103), some undefA, none, false, .pu (.mov (.s 14))⟩,
      ⟨(some 104), some undefA, none, false, .pu (.mov (.s 1))⟩,
      ⟨(some 105), some undefA, none, false, .pu (.bin .sub (.s 103) (.s 104))⟩,
      ⟨(some 106), some undefA, none, false, .pu (.mov (.s 2))⟩,
      ⟨(some 107), some undefA, none, false, .pu (.mov (.s 14))⟩,
      ⟨(some 108), some undefA, none, false, .pu (.bin .sub (.s 106) (.s 107))⟩,
      ⟨(some 16), some undefA, none, false, .pu (.mov (.s 105))⟩,
      ⟨(some 17), some undefA, none, false, .pu (.mov (.s 108))⟩])
    (.seq (.ops [⟨(some 109), some undefA, none, false, .pu (.mov (.s 10))⟩,
      ⟨(some 110), some undefA, none, false, .pu (.bin .quo (.s 109) (.c (.int .i64 8)))⟩,
      ⟨(some 18), some undefA, none, false, .pu (.mov (.s 110))⟩])
    (.seq (.ops [⟨(some 111), some undefA, none, false, .pu (.mov (.s 16))⟩,
      ⟨(some 112), some undefA, none, false, .pu (.mov (.s 17))⟩,
      ⟨(some 113), some undefA, none, false, .pu (.bin .lss (.s 111) (.s 112))⟩])
    (.cond (.s 113) (.seq (.ops [⟨(some 114), some undefA, none, false, .pu (.mov (.s 16))⟩,
       ⟨(some 115), some undefA, none, false, .pu (.mov (.s 18))⟩,
       ⟨(some 116), some undefA, none, false, .pu (.bin .geq (.s 114) (.s 115))⟩,
       ⟨(some 8), some undefA, none, false, .pu (.mov (.s 116))⟩])
     (.seq (.ops [⟨(some 117), some undefA, none, false, .pu (.mov (.s 0))⟩,
       ⟨(some 118), some undefA, none, false, .pu (.mov (.s 1))⟩,
       ⟨(some 119), some undefA, none, false, .pu (.mov (.s 14))⟩,
       ⟨(some 120), some undefA, none, false, .pu (.mov (.s 3))⟩,
       ⟨(some 121), some undefA, none, false, .call 83 [(.s 117), (.s 118), (.s 119), (.s 120)]⟩])
     (.ops [⟨(some 122), some undefA, none, false, .pu (.mov (.s 14))⟩,
       ⟨(some 123), some undefA, none, false, .pu (.bin .add (.s 122) (.c (.int .i64 1)))⟩,
       ⟨(some 1), some undefA, none, false, .pu (.mov (.s 123))⟩])))
    (.seq (.ops [⟨(some 124), some undefA, none, false, .pu (.mov (.s 17))⟩,
       ⟨(some 125), some undefA, none, false, .pu (.mov (.s 18))⟩,
       ⟨(some 126), some undefA, none, false, .pu (.bin .geq (.s 124) (.s 125))⟩,
       ⟨(some 8), some undefA, none, false, .pu (.mov (.s 126))⟩])
     (.seq (.ops [⟨(some 127), some undefA, none, false, .pu (.mov (.s 0))⟩,
       ⟨(some 128), some undefA, none, false, .pu (.mov (.s 14))⟩,
       ⟨(some 129), some undefA, none, false, .pu (.bin .add (.s 128) (.c (.int .i64 1)))⟩,
       ⟨(some 130), some undefA, none, false, .pu (.mov (.s 2))⟩,
       ⟨(some 131), some undefA, none, false, .pu (.mov (.s 3))⟩,
       ⟨(some 132), some undefA, none, false, .call 83 [(.s 127), (.s 129), (.s 130), (.s 131)]⟩])
     (.ops [⟨(some 133), some undefA, none, false, .pu (.mov (.s 14))⟩,
       ⟨(some 2), some undefA, none, false, .pu (.mov (.s 133))⟩])))))))))))))))))))))⟩
theorem t83 : trF Try.prog [] [] Try.f83 = some m83 := by kernel_rfl
/-- math/bits.Len [] -/
def m84 : MFun := ⟨8, [], [.mov (.s 2)],
 .seq (.ops [⟨(some 2), some undefA, none, false, .pu (.mov (.c (.int .i64 0)))⟩])
 (.seq (.cond (.c (.bool false)) (.seq (.ops [⟨(some 3), some undefA, none, false, .pu (.mov (.s 0))⟩,
    ⟨(some 4), some undefA, none, false, .pu (.conv .u32 (.s 3))⟩,
    ⟨(some 5), some undefA, none, false, .call 101 [(.s 4)]⟩,
    ⟨(some 2), some undefA, none, false, .pu (.mov (.s 5))⟩])
  (.ret))
 (.skip))
 (.seq (.ops [⟨(some 6), some undefA, none, false, .pu (.mov (.s 0))⟩,
   ⟨(some 7), some undefA, none, false, .call 102 [(.s 6)]⟩,
   ⟨(some 2), some undefA, none, false, .pu (.mov (.s 7))⟩])
 (.ret)))⟩
theorem t84 : trF Try.prog [] [] Try.f84 = some m84 := by kernel_rfl
/-- selion/claim.level [loop [0, 4, 5, 6, 15, 16, 17]] -/
def m85 : MFun := ⟨41, [4], [.bget none 4 0 2 true],
 .seq (.ops [⟨(some 4), some (.junk), none, false, .pu (.bnew (.c (.agg [.int .i64 0, .int .i64 0])))⟩])
 (.seq (.ops [⟨(some 10), some undefA, none, false, .pu (.mov (.s 0))⟩,
   ⟨(some 11), some undefA, none, false, .call 103 [(.s 10)]⟩,
   ⟨(some 5), some undefA, none, false, .pu (.mov (.s 11))⟩])
 (.seq (.ops [⟨(some 12), some undefA, none, false, .pu (.mov (.s 5))⟩,
   ⟨(some 13), some undefA, none, false, .call 72 [(.s 12)]⟩])
 (.seq (.ops [⟨(some 14), some undefA, none, false, .pu (.mov (.s 1))⟩,
   ⟨(some 6), some undefA, none, false, .pu (.mov (.s 14))⟩])
 (.seq (.seq (.ops [⟨(some 15), some undefA, none, false, .pu (.mov (.s 5))⟩,
   ⟨(some 16), some undefA, none, false, .pu (.len (.s 15))⟩,
   ⟨(some 17), some undefA, none, false, .pu (.mov (.c (.int .i64 0)))⟩])
 (.block 0 (.loop (.seq (.ops [⟨(some 18), some undefA, none, false, .pu (.bin .lss (.s 17) (.s 16))⟩])
   (.seq (.cond (.s 18) (.skip)
   (.exit 0))
   (.seq (.block 1 (.seq (.ops [⟨(some 19), some undefA, none, false, .pu (.mov (.s 17))⟩,
      ⟨(some 20), some undefA, none, false, .pu (.idx 1 (.s 15) (.s 17))⟩,
      ⟨(some 21), some undefA, none, false, .ld (.ld 1 false (.s 20))⟩,
      ⟨(some 7), some undefA, none, false, .pu (.mov (.s 19))⟩,
      ⟨(some 8), some undefA, none, false, .pu (.mov (.s 21))⟩])
    (.seq (.seq (.ops [⟨(some 22), some undefA, none, false, .pu (.mov (.s 5))⟩,
      ⟨(some 23), some undefA, none, false, .pu (.len (.s 22))⟩,
      ⟨(some 24), some undefA, none, false, .pu (.mov (.s 7))⟩,
      ⟨(some 25), some undefA, none, false, .pu (.bin .sub (.s 23) (.s 24))⟩,
      ⟨(some 9), some undefA, none, false, .pu (.mov (.s 25))⟩])
    (.seq (.ops [⟨(some 26), some undefA, none, false, .pu (.mov (.s 8))⟩,
      ⟨(some 27), some undefA, none, false, .pu (.mov (.s 9))⟩,
      ⟨(some 28), some undefA, none, false, .pu (.bin .mul (.s 26) (.s 27))⟩,
      ⟨(some 29), some undefA, none, false, .pu (.mov (.s 6))⟩,
      ⟨(some 30), some undefA, none, false, .pu (.bin .geq (.s 28) (.s 29))⟩])
    (.cond (.s 30) (.seq (.ops [⟨(some 31), some undefA, none, false, .pu (.mov (.s 6))⟩,
       ⟨(some 32), some undefA, none, false, .pu (.mov (.s 9))⟩,
       ⟨(some 33), some undefA, none, false, .call 61 [(.s 31), (.s 32)]⟩,
       ⟨(some 4), none, none, false, .pu (.bset none 4 0 2 (.s 33))⟩])
     (.ret))
    (.skip))))
    (.ops [⟨(some 34), some undefA, none, false, .pu (.mov (.s 6))⟩,
      ⟨(some 35), some undefA, none, false, .pu (.mov (.s 8))⟩,
      ⟨(some 36), some undefA, none, false, .pu (.bin .sub (.s 34) (.s 35))⟩,
      ⟨(some 6), some undefA, none, false, .pu (.mov (.s 36))⟩]))))
   (.ops [⟨(some 37), some undefA, none, false, .pu (.bin .add (.s 17) (.c (.int .i64 1)))⟩,
     ⟨(some 17), some undefA, none, false, .pu (.mov (.s 37))⟩])))))))
 (.seq (.ops [⟨(some 38), some undefA, none, false, .pu (.mov (.s 0))⟩,
   ⟨(some 39), some undefA, none, false, .call 64 [(.s 38)]⟩,
   ⟨(some 40), some undefA, none, false, .call 61 [(.s 39), (.c (.int .i64 1))]⟩,
   ⟨(some 4), none, none, false, .pu (.bset none 4 0 2 (.s 40))⟩])
 (.ret))))))⟩
theorem t85 : trF Try.prog [4] [] Try.f85 = some m85 := by kernel_rfl
/-- selion/claim.rules$1 [] -/
def m87 : MFun := ⟨10, [], [.mov (.s 4)],
 .seq (.ops [⟨(some 4), some undefA, none, false, .pu (.mov (.c (.nilS)))⟩])
 (.seq (.ops [⟨(some 5), some undefA, none, false, .pu (.mov (.s 0))⟩,
   ⟨(some 6), some undefA, none, false, .pu (.mov (.s 0))⟩,
   ⟨(some 7), some undefA, none, false, .pu (.mov (.s 1))⟩,
   ⟨(some 8), some undefA, none, false, .call 85 [(.s 6), (.s 7)]⟩,
   ⟨(some 9), some undefA, none, false, .call 88 [(.s 5), (.s 8)]⟩,
   ⟨(some 4), some undefA, none, false, .pu (.mov (.s 9))⟩])
 (.ret))⟩
theorem t87 : trF Try.prog [] [] Try.f87 = some m87 := by kernel_rfl
/-- selion/claim.capped [loop [3, 5, 8, 9, 10]] -/
def m88 : MFun := ⟨32, [3], [.mov (.s 4)],
 .seq (.ops [⟨(some 3), some (.junk), none, false, .pu (.bnew (.s 1))⟩,
   ⟨(some 4), some undefA, none, false, .pu (.mov (.c (.nilS)))⟩])
 (.seq (.ops [⟨(some 5), some undefA, none, false, .pu (.mov (.c (.nilS)))⟩])
 (.seq (.seq (.ops [⟨(some 8), some undefA, none, false, .pu (.mov (.s 0))⟩,
   ⟨(some 9), some undefA, none, false, .pu (.len (.s 8))⟩,
   ⟨(some 10), some undefA, none, false, .pu (.mov (.c (.int .i64 0)))⟩])
 (.block 0 (.loop (.seq (.ops [⟨(some 11), some undefA, none, false, .pu (.bin .lss (.s 10) (.s 9))⟩])
   (.seq (.cond (.s 11) (.skip)
   (.exit 0))
   (.seq (.block 1 (.seq (.ops [⟨(some 12), some undefA, none, false, .pu (.idx 1 (.s 8) (.s 10))⟩,
      ⟨(some 13), some undefA, none, false, .ld (.ld 1 false (.s 12))⟩,
      ⟨(some 7), some undefA, none, false, .pu (.mov (.s 13))⟩])
    (.seq (.ops [⟨(some 14), some undefA, none, false, .pu (.mov (.s 7))⟩,
      ⟨(some 15), some undefA, none, false, .pu (.badr none 3)⟩,
      ⟨(some 16), some undefA, none, false, .pu (.bget (some 15) 3 1 1 false)⟩,
      ⟨(some 17), some undefA, none, false, .pu (.bin .mul (.s 14) (.s 16))⟩,
      ⟨(some 18), some undefA, none, false, .pu (.badr none 3)⟩,
      ⟨(some 19), some undefA, none, false, .pu (.bget (some 18) 3 0 1 false)⟩,
      ⟨(some 20), some undefA, none, false, .pu (.bin .lss (.s 17) (.s 19))⟩])
    (.cond (.s 20) (.ops [⟨(some 21), some undefA, none, false, .pu (.mov (.s 5))⟩,
       ⟨(some 22), some undefA, none, false, .pu (.mov (.s 7))⟩,
       ⟨(some 23), some undefA, none, false, .call 61 [(.s 22), (.c (.int .i64 1))]⟩,
       ⟨(some 24), some undefA, none, false, .ha (.blds 2 1 [.int .i64 0, .int .i64 0] [(0, 2, (.s 23))])⟩,
       ⟨(some 25), some undefA, none, false, .ha (.app 2 (.s 21) (.s 24))⟩,
       ⟨(some 5), some undefA, none, false, .pu (.mov (.s 25))⟩])
    (.ops [⟨(some 26), some undefA, none, false, .pu (.mov (.s 5))⟩,
       ⟨(some 27), some undefA, none, false, .pu (.bget none 3 0 2 true)⟩,
       ⟨(some 28), some undefA, none, false, .ha (.blds 2 1 [.int .i64 0, .int .i64 0] [(0, 2, (.s 27))])⟩,
       ⟨(some 29), some undefA, none, false, .ha (.app 2 (.s 26) (.s 28))⟩,
       ⟨(some 5), some undefA, none, false, .pu (.mov (.s 29))⟩])))))
   (.ops [⟨(some 30), some undefA, none, false, .pu (.bin .add (.s 10) (.c (.int .i64 1)))⟩,
     ⟨(some 10), some undefA, none, false, .pu (.mov (.s 30))⟩])))))))
 (.seq (.ops [⟨(some 31), some undefA, none, false, .pu (.mov (.s 5))⟩,
   ⟨(some 4), some undefA, none, false, .pu (.mov (.s 31))⟩])
 (.ret))))⟩
theorem t88 : trF Try.prog [3] [] Try.f88 = some m88 := by kernel_rfl
/-- selion/claim.rules$2 [] -/
def m89 : MFun := ⟨15, [], [.mov (.s 5)],
 .seq (.ops [⟨(some 5), some undefA, none, false, .pu (.mov (.c (.nilS)))⟩])
 (.seq (.ops [⟨(some 6), some undefA, none, true, .pu (.mov (.s 0))⟩,
   ⟨(some 7), some undefA, none, true, .ld (.ld 1 false (.s 2))⟩,
   ⟨(some 8), some undefA, none, true, .pu (.mov (.s 0))⟩,
   ⟨(some 9), some undefA, none, true, .pu (.mov (.s 0))⟩,
   ⟨(some 10), some undefA, none, true, .call 54 [(.s 9)]⟩,
   ⟨(some 11), some undefA, none, true, .pu (.mov (.s 1))⟩,
   ⟨(some 12), some undefA, none, true, .pu (.bin .sub (.s 10) (.s 11))⟩,
   ⟨(some 13), some undefA, none, false, .callv (.s 7) [(.s 8), (.s 12)]⟩,
   ⟨(some 14), some undefA, none, false, .call 75 [(.s 6), (.s 13)]⟩,
   ⟨(some 5), some undefA, none, false, .pu (.mov (.s 14))⟩])
 (.ret))⟩
theorem t89 : trF Try.prog [] [] Try.f89 = some m89 := by kernel_rfl
/-- selion/claim.rules$3 [loop [0, 1, 5, 8, 9, 10]] -/
def m90 : MFun := ⟨26, [], [.mov (.s 4)],
 .seq (.ops [⟨(some 4), some undefA, none, false, .pu (.mov (.c (.nilS)))⟩])
 (.seq (.ops [⟨(some 5), some undefA, none, false, .pu (.mov (.c (.nilS)))⟩])
 (.seq (.seq (.ops [⟨(some 8), some undefA, none, false, .pu (.mov (.s 0))⟩,
   ⟨(some 9), some undefA, none, false, .pu (.len (.s 8))⟩,
   ⟨(some 10), some undefA, none, false, .pu (.mov (.c (.int .i64 0)))⟩])
 (.block 0 (.loop (.seq (.ops [⟨(some 11), some undefA, none, false, .pu (.bin .lss (.s 10) (.s 9))⟩])
   (.seq (.cond (.s 11) (.skip)
   (.exit 0))
   (.seq (.block 1 (.seq (.ops [⟨(some 12), some undefA, none, false, .pu (.idx 1 (.s 8) (.s 10))⟩,
      ⟨(some 13), some undefA, none, false, .ld (.ld 1 false (.s 12))⟩,
      ⟨(some 7), some undefA, none, false, .pu (.mov (.s 13))⟩])
    (.ops [⟨(some 14), some undefA, none, false, .pu (.mov (.s 5))⟩,
      ⟨(some 15), some undefA, none, false, .pu (.mov (.s 7))⟩,
      ⟨(some 16), some undefA, none, false, .pu (.mov (.s 1))⟩,
      ⟨(some 17), some undefA, none, false, .pu (.bin .mul (.s 15) (.s 16))⟩,
      ⟨(some 18), some undefA, none, false, .pu (.mov (.s 0))⟩,
      ⟨(some 19), some undefA, none, false, .call 54 [(.s 18)]⟩,
      ⟨(some 20), some undefA, none, false, .pu (.mm true (.c (.int .i64 1)) [(.s 19)])⟩,
      ⟨(some 21), some undefA, none, false, .call 61 [(.s 17), (.s 20)]⟩,
      ⟨(some 22), some undefA, none, false, .ha (.blds 2 1 [.int .i64 0, .int .i64 0] [(0, 2, (.s 21))])⟩,
      ⟨(some 23), some undefA, none, false, .ha (.app 2 (.s 14) (.s 22))⟩,
      ⟨(some 5), some undefA, none, false, .pu (.mov (.s 23))⟩])))
   (.ops [⟨(some 24), some undefA, none, false, .pu (.bin .add (.s 10) (.c (.int .i64 1)))⟩,
     ⟨(some 10), some undefA, none, false, .pu (.mov (.s 24))⟩])))))))
 (.seq (.ops [⟨(some 25), some undefA, none, false, .pu (.mov (.s 5))⟩,
   ⟨(some 4), some undefA, none, false, .pu (.mov (.s 25))⟩])
 (.ret))))⟩
theorem t90 : trF Try.prog [] [] Try.f90 = some m90 := by kernel_rfl
/-- selion/claim.rules$4 [loop [8, 23, 24, 25], loop [0, 8, 46, 47, 48]] -/
def m91 : MFun := ⟨72, [10, 12], [.mov (.s 6)],
 .seq (.ops [⟨(some 6), some undefA, none, false, .pu (.mov (.c (.nilS)))⟩])
 (.seq (.ops [⟨(some 13), some undefA, none, false, .pu (.mov (.s 0))⟩,
   ⟨(some 14), some undefA, none, false, .call 54 [(.s 13)]⟩,
   ⟨(some 7), some undefA, none, false, .pu (.mov (.s 14))⟩])
 (.seq (.ops [⟨(some 8), some undefA, none, false, .pu (.mov (.c (.nilS)))⟩])
 (.seq (.seq (.ops [⟨(some 15), some undefA, none, false, .pu (.mov (.s 1))⟩,
   ⟨(some 16), some undefA, none, false, .pu (.bin .mul (.c (.int .i64 2)) (.s 15))⟩,
   ⟨(some 17), some undefA, none, false, .pu (.mov (.s 7))⟩,
   ⟨(some 18), some undefA, none, false, .pu (.bin .leq (.s 16) (.s 17))⟩])
 (.cond (.s 18) (.seq (.seq (.ops [⟨(some 19), some undefA, none, false, .ld (.ld 1 false (.s 2))⟩,
    ⟨(some 20), some undefA, none, false, .pu (.mov (.s 0))⟩,
    ⟨(some 21), some undefA, none, false, .pu (.mov (.s 1))⟩,
    ⟨(some 22), some undefA, none, false, .pu (.bin .mul (.c (.int .i64 2)) (.s 21))⟩,
    ⟨(some 23), some undefA, none, false, .callv (.s 19) [(.s 20), (.s 22)]⟩,
    ⟨(some 24), some undefA, none, false, .pu (.len (.s 23))⟩,
    ⟨(some 25), some undefA, none, false, .pu (.mov (.c (.int .i64 0)))⟩])
  (.block 0 (.loop (.seq (.ops [⟨(some 26), some undefA, none, false, .pu (.bin .lss (.s 25) (.s 24))⟩])
    (.seq (.cond (.s 26) (.skip)
    (.exit 0))
    (.seq (.block 1 (.seq (.ops [⟨(some 27), some undefA, none, false, .pu (.idx 2 (.s 23) (.s 25))⟩,
       ⟨(some 28), some undefA, none, false, .ld (.ld 2 true (.s 27))⟩,
       ⟨(some 10), some (.junk), none, false, .pu (.bnew (.c (.agg [.int .i64 0, .int .i64 0])))⟩,
       ⟨(some 10), none, none, false, .pu (.bset none 10 0 2 (.s 28))⟩])
     (.ops [⟨(some 29), some undefA, none, false, .pu (.mov (.s 8))⟩,
       ⟨(some 30), some undefA, none, false, .pu (.badr none 10)⟩,
       ⟨(some 31), some undefA, none, false, .pu (.bget (some 30) 10 0 1 false)⟩,
       ⟨(some 32), some undefA, none, false, .pu (.badr none 10)⟩,
       ⟨(some 33), some undefA, none, false, .pu (.bget (some 32) 10 1 1 false)⟩,
       ⟨(some 34), some undefA, none, false, .pu (.bin .mul (.c (.int .i64 2)) (.s 33))⟩,
       ⟨(some 35), some undefA, none, false, .call 61 [(.s 31), (.s 34)]⟩,
       ⟨(some 36), some undefA, none, false, .ha (.blds 2 1 [.int .i64 0, .int .i64 0] [(0, 2, (.s 35))])⟩,
       ⟨(some 37), some undefA, none, false, .ha (.app 2 (.s 29) (.s 36))⟩,
       ⟨(some 8), some undefA, none, false, .pu (.mov (.s 37))⟩])))
    (.ops [⟨(some 38), some undefA, none, false, .pu (.bin .add (.s 25) (.c (.int .i64 1)))⟩,
      ⟨(some 25), some undefA, none, false, .pu (.mov (.s 38))⟩])))))))
  (.seq (.ops [⟨(some 39), some undefA, none, false, .pu (.mov (.s 8))⟩,
    ⟨(some 6), some undefA, none, false, .pu (.mov (.s 39))⟩])
  (.ret)))
 (.skip)))
 (.seq (.seq (.ops [⟨(some 40), some undefA, none, false, .ld (.ld 1 false (.s 3))⟩,
   ⟨(some 41), some undefA, none, false, .pu (.mov (.s 0))⟩,
   ⟨(some 42), some undefA, none, false, .pu (.mov (.s 1))⟩,
   ⟨(some 43), some undefA, none, false, .pu (.bin .mul (.c (.int .i64 2)) (.s 42))⟩,
   ⟨(some 44), some undefA, none, false, .pu (.mov (.s 7))⟩,
   ⟨(some 45), some undefA, none, false, .pu (.bin .sub (.s 43) (.s 44))⟩,
   ⟨(some 46), some undefA, none, false, .callv (.s 40) [(.s 41), (.s 45)]⟩,
   ⟨(some 47), some undefA, none, false, .pu (.len (.s 46))⟩,
   ⟨(some 48), some undefA, none, false, .pu (.mov (.c (.int .i64 0)))⟩])
 (.block 2 (.loop (.seq (.ops [⟨(some 49), some undefA, none, false, .pu (.bin .lss (.s 48) (.s 47))⟩])
   (.seq (.cond (.s 49) (.skip)
   (.exit 2))
   (.seq (.block 3 (.seq (.ops [⟨(some 50), some undefA, none, false, .pu (.mov (.s 48))⟩,
      ⟨(some 51), some undefA, none, false, .pu (.idx 2 (.s 46) (.s 48))⟩,
      ⟨(some 52), some undefA, none, false, .ld (.ld 2 true (.s 51))⟩,
      ⟨(some 12), some (.junk), none, false, .pu (.bnew (.c (.agg [.int .i64 0, .int .i64 0])))⟩,
      ⟨(some 11), some undefA, none, false, .pu (.mov (.s 50))⟩,
      ⟨(some 12), none, none, false, .pu (.bset none 12 0 2 (.s 52))⟩])
    (.ops [⟨(some 53), some undefA, none, true, .pu (.mov (.s 8))⟩,
      ⟨(some 54), some undefA, none, true, .pu (.badr none 12)⟩,
      ⟨(some 55), some undefA, none, true, .pu (.bget (some 54) 12 0 1 false)⟩,
      ⟨(some 56), some undefA, none, false, .pu (.mov (.s 0))⟩,
      ⟨(some 57), some undefA, none, false, .pu (.mov (.s 11))⟩,
      ⟨(some 58), some undefA, none, false, .pu (.idx 1 (.s 56) (.s 57))⟩,
      ⟨(some 59), some undefA, none, true, .ld (.ld 1 false (.s 58))⟩,
      ⟨(some 60), some undefA, none, true, .pu (.badr none 12)⟩,
      ⟨(some 61), some undefA, none, true, .pu (.bget (some 60) 12 1 1 false)⟩,
      ⟨(some 62), some undefA, none, false, .pu (.bin .mul (.s 59) (.s 61))⟩,
      ⟨(some 63), some undefA, none, false, .pu (.bin .add (.s 55) (.s 62))⟩,
      ⟨(some 64), some undefA, none, true, .pu (.badr none 12)⟩,
      ⟨(some 65), some undefA, none, true, .pu (.bget (some 64) 12 1 1 false)⟩,
      ⟨(some 66), some undefA, none, true, .pu (.bin .mul (.c (.int .i64 2)) (.s 65))⟩,
      ⟨(some 67), some undefA, none, false, .call 61 [(.s 63), (.s 66)]⟩,
      ⟨(some 68), some undefA, none, false, .ha (.blds 2 1 [.int .i64 0, .int .i64 0] [(0, 2, (.s 67))])⟩,
      ⟨(some 69), some undefA, none, false, .ha (.app 2 (.s 53) (.s 68))⟩,
      ⟨(some 8), some undefA, none, false, .pu (.mov (.s 69))⟩])))
   (.ops [⟨(some 70), some undefA, none, false, .pu (.bin .add (.s 48) (.c (.int .i64 1)))⟩,
     ⟨(some 48), some undefA, none, false, .pu (.mov (.s 70))⟩])))))))
 (.seq (.ops [⟨(some 71), some undefA, none, false, .pu (.mov (.s 8))⟩,
   ⟨(some 6), some undefA, none, false, .pu (.mov (.s 71))⟩])
 (.ret))))))⟩
theorem t91 : trF Try.prog [10, 12] [] Try.f91 = some m91 := by kernel_rfl
/-- slices.insertionSortOrdered[int] [loop [0, 1, 2, 6], loop [0, 1, 2, 6, 7]] -/
def m92 : MFun := ⟨49, [], [],
 .seq (.ops [⟨(some 8), some undefA, none, false, .pu (.mov (.s 1))⟩,
   ⟨(some 9), some undefA, none, false, .pu (.bin .add (.s 8) (.c (.int .i64 1)))⟩,
   ⟨(some 6), some undefA, none, false, .pu (.mov (.s 9))⟩])
 (.block 0 (.loop (.seq (.seq (.ops [⟨(some 10), some undefA, none, false, .pu (.mov (.s 6))⟩,
     ⟨(some 11), some undefA, none, false, .pu (.mov (.s 2))⟩,
     ⟨(some 12), some undefA, none, false, .pu (.bin .lss (.s 10) (.s 11))⟩])
   (.cond (.s 12) (.skip)
   (.exit 0)))
   (.seq (.block 1 (.seq (.ops [⟨(some 15), some undefA, none, false, .pu (.mov (.s 6))⟩,
      ⟨(some 7), some undefA, none, false, .pu (.mov (.s 15))⟩])
    (.block 2 (.loop (.seq (.seq (.ops [⟨(some 16), some undefA, none, false, .pu (.mov (.s 7))⟩,
        ⟨(some 17), some undefA, none, false, .pu (.mov (.s 1))⟩,
        ⟨(some 18), some undefA, none, false, .pu (.bin .gtr (.s 16) (.s 17))⟩,
        ⟨(some 19), some undefA, none, false, .pu (.mov (.s 18))⟩,
        ⟨(some 20), some undefA, (some (19, true)), true, .pu (.mov (.s 0))⟩,
        ⟨(some 21), some undefA, (some (19, true)), true, .pu (.mov (.s 7))⟩,
        ⟨(some 22), some undefA, (some (19, true)), true, .pu (.idx 1 (.s 20) (.s 21))⟩,
        ⟨(some 23), some undefA, (some (19, true)), true, .ld (.ld 1 false (.s 22))⟩,
        ⟨(some 24), some undefA, (some (19, true)), true, .pu (.mov (.s 0))⟩,
        ⟨(some 25), some undefA, (some (19, true)), true, .pu (.mov (.s 7))⟩,
        ⟨(some 26), some undefA, (some (19, true)), true, .pu (.bin .sub (.s 25) (.c (.int .i64 1)))⟩,
        ⟨(some 27), some undefA, (some (19, true)), true, .pu (.idx 1 (.s 24) (.s 26))⟩,
        ⟨(some 28), some undefA, (some (19, true)), true, .ld (.ld 1 false (.s 27))⟩,
        ⟨(some 29), some undefA, (some (19, true)), false, .call 98 [(.s 23), (.s 28)]⟩,
        ⟨(some 30), some undefA, none, false, .pu (.pick (.s 19) (.s 29) (.c (.bool false)))⟩])
      (.cond (.s 30) (.skip)
      (.exit 2)))
      (.seq (.block 3 (.ops [⟨(some 33), some undefA, none, true, .pu (.mov (.s 0))⟩,
         ⟨(some 34), some undefA, none, true, .pu (.mov (.s 7))⟩,
         ⟨(some 35), some undefA, none, true, .pu (.mov (.s 0))⟩,
         ⟨(some 36), some undefA, none, true, .pu (.mov (.s 7))⟩,
         ⟨(some 37), some undefA, none, true, .pu (.bin .sub (.s 36) (.c (.int .i64 1)))⟩,
         ⟨(some 38), some undefA, none, true, .pu (.mov (.s 0))⟩,
         ⟨(some 39), some undefA, none, true, .pu (.mov (.s 7))⟩,
         ⟨(some 40), some undefA, none, true, .pu (.bin .sub (.s 39) (.c (.int .i64 1)))⟩,
         ⟨(some 41), some undefA, none, true, .pu (.idx 1 (.s 38) (.s 40))⟩,
         ⟨(some 42), some undefA, none, true, .ld (.ld 1 false (.s 41))⟩,
         ⟨(some 43), some undefA, none, true, .pu (.mov (.s 0))⟩,
         ⟨(some 44), some undefA, none, true, .pu (.mov (.s 7))⟩,
         ⟨(some 45), some undefA, none, true, .pu (.idx 1 (.s 43) (.s 44))⟩,
         ⟨(some 46), some undefA, none, true, .ld (.ld 1 false (.s 45))⟩,
         ⟨(some 47), some undefA, none, false, .pu (.idx 1 (.s 33) (.s 34))⟩,
         ⟨none, some undefA, none, false, .ha (.st 1 (.s 47) (.s 42))⟩,
         ⟨(some 48), some undefA, none, false, .pu (.idx 1 (.s 35) (.s 37))⟩,
         ⟨none, some undefA, none, false, .ha (.st 1 (.s 48) (.s 46))⟩]))
      (.ops [⟨(some 31), some undefA, none, false, .pu (.mov (.s 7))⟩,
        ⟨(some 32), some undefA, none, false, .pu (.bin .sub (.s 31) (.c (.int .i64 1)))⟩,
        ⟨(some 7), some undefA, none, false, .pu (.mov (.s 32))⟩])))))))
   (.ops [⟨(some 13), some undefA, none, false, .pu (.mov (.s 6))⟩,
     ⟨(some 14), some undefA, none, false, .pu (.bin .add (.s 13) (.c (.int .i64 1)))⟩,
     ⟨(some 6), some undefA, none, false, .pu (.mov (.s 14))⟩])))))⟩
theorem t92 : trF Try.prog [] [] Try.f92 = some m92 := by kernel_rfl
/-- cmp.Less[int] [] -/
def m98 : MFun := ⟨17, [], [.mov (.s 4)],
 .seq (.ops [⟨(some 4), some undefA, none, false, .pu (.mov (.c (.bool false)))⟩])
 (.seq (.ops [⟨(some 5), some undefA, none, false, .pu (.mov (.s 0))⟩,
   ⟨(some 6), some undefA, none, false, .call 109 [(.s 5)]⟩,
   ⟨(some 7), some undefA, none, false, .pu (.mov (.s 6))⟩,
   ⟨(some 8), some undefA, (some (7, true)), false, .pu (.mov (.s 1))⟩,
   ⟨(some 9), some undefA, (some (7, true)), false, .call 109 [(.s 8)]⟩,
   ⟨(some 10), some undefA, (some (7, true)), false, .pu (.not (.s 9))⟩,
   ⟨(some 11), some undefA, none, false, .pu (.pick (.s 7) (.s 10) (.c (.bool false)))⟩,
   ⟨(some 12), some undefA, none, false, .pu (.mov (.s 11))⟩,
   ⟨(some 13), some undefA, (some (12, false)), false, .pu (.mov (.s 0))⟩,
   ⟨(some 14), some undefA, (some (12, false)), false, .pu (.mov (.s 1))⟩,
   ⟨(some 15), some undefA, (some (12, false)), false, .pu (.bin .lss (.s 13) (.s 14))⟩,
   ⟨(some 16), some undefA, none, false, .pu (.pick (.s 12) (.c (.bool true)) (.s 15))⟩,
   ⟨(some 4), some undefA, none, false, .pu (.mov (.s 16))⟩])
 (.ret))⟩
theorem t98 : trF Try.prog [] [] Try.f98 = some m98 := by kernel_rfl
/-- math/bits.Len64 [] -/
def m102 : MFun := ⟨25, [], [.mov (.s 2)],
 .seq (.ops [⟨(some 2), some undefA, none, false, .pu (.mov (.c (.int .i64 0)))⟩])
 (.seq (.seq (.ops [⟨(some 3), some undefA, none, false, .pu (.mov (.s 0))⟩,
   ⟨(some 4), some undefA, none, false, .pu (.bin .geq (.s 3) (.c (.int .u64 4294967296)))⟩])
 (.cond (.s 4) (.seq (.ops [⟨(some 5), some undefA, none, false, .pu (.mov (.s 0))⟩,
    ⟨(some 6), some undefA, none, false, .pu (.bin .shr (.s 5) (.c (.int .u64 32)))⟩,
    ⟨(some 0), some undefA, none, false, .pu (.mov (.s 6))⟩])
  (.ops [⟨(some 2), some undefA, none, false, .pu (.mov (.c (.int .i64 32)))⟩]))
 (.skip)))
 (.seq (.seq (.ops [⟨(some 7), some undefA, none, false, .pu (.mov (.s 0))⟩,
   ⟨(some 8), some undefA, none, false, .pu (.bin .geq (.s 7) (.c (.int .u64 65536)))⟩])
 (.cond (.s 8) (.seq (.ops [⟨(some 9), some undefA, none, false, .pu (.mov (.s 0))⟩,
    ⟨(some 10), some undefA, none, false, .pu (.bin .shr (.s 9) (.c (.int .u64 16)))⟩,
    ⟨(some 0), some undefA, none, false, .pu (.mov (.s 10))⟩])
  (.ops [⟨(some 11), some undefA, none, false, .pu (.mov (.s 2))⟩,
    ⟨(some 12), some undefA, none, false, .pu (.bin .add (.s 11) (.c (.int .i64 16)))⟩,
    ⟨(some 2), some undefA, none, false, .pu (.mov (.s 12))⟩]))
 (.skip)))
 (.seq (.seq (.ops [⟨(some 13), some undefA, none, false, .pu (.mov (.s 0))⟩,
   ⟨(some 14), some undefA, none, false, .pu (.bin .geq (.s 13) (.c (.int .u64 256)))⟩])
 (.cond (.s 14) (.seq (.ops [⟨(some 15), some undefA, none, false, .pu (.mov (.s 0))⟩,
    ⟨(some 16), some undefA, none, false, .pu (.bin .shr (.s 15) (.c (.int .u64 8)))⟩,
    ⟨(some 0), some undefA, none, false, .pu (.mov (.s 16))⟩])
  (.ops [⟨(some 17), some undefA, none, false, .pu (.mov (.s 2))⟩,
    ⟨(some 18), some undefA, none, false, .pu (.bin .add (.s 17) (.c (.int .i64 8)))⟩,
    ⟨(some 2), some undefA, none, false, .pu (.mov (.s 18))⟩]))
 (.skip)))
 (.seq (.ops [⟨(some 19), some undefA, none, false, .pu (.mov (.s 2))⟩,
   ⟨(some 20), some undefA, none, false, .pu (.mov (.s 0))⟩,
   ⟨(some 21), some undefA, none, false, .pu (.conv .u8 (.s 20))⟩,
   ⟨(some 22), some undefA, none, false, .pu (.aidx 256 1 false (.c (.agg [.int .u8 0, .int .u8 1, .int .u8 2, .int .u8 2, .int .u8 3, .int .u8 3, .int .u8 3, .int .u8 3, .int .u8 4, .int .u8 4, .int .u8 4, .int .u8 4, .int .u8 4, .int .u8 4, .int .u8 4, .int .u8 4, .int .u8 5, .int .u8 5, .int .u8 5, .int .u8 5, .int .u8 5, .int .u8 5, .int .u8 5, .int .u8 5, .int .u8 5, .int .u8 5, .int .u8 5, .int .u8 5, .int .u8 5, .int .u8 5, .int .u8 5, .int .u8 5, .int .u8 6, .int .u8 6, .int .u8 6, .int .u8 6, .int .u8 6, .int .u8 6, .int .u8 6, .int .u8 6, .int .u8 6, .int .u8 6, .int .u8 6, .int .u8 6, .int .u8 6, .int .u8 6, .int .u8 6, .int .u8 6, .int .u8 6, .int .u8 6, .int .u8 6, .int .u8 6, .int .u8 6, .int .u8 6, .int .u8 6, .int .u8 6, .int .u8 6, .int .u8 6, .int .u8 6, .int .u8 6, .int .u8 6, .int .u8 6, .int .u8 6, .int .u8 6, .int .u8 7, .int .u8 7, .int .u8 7, .int .u8 7, .int .u8 7, .int .u8 7, .int .u8 7, .int .u8 7, .int .u8 7, .int .u8 7, .int .u8 7, .int .u8 7, .int .u8 7, .int .u8 7, .int .u8 7, .int .u8 7, .int .u8 7, .int .u8 7, .int .u8 7, .int .u8 7, .int .u8 7, .int .u8 7, .int .u8 7, .int .u8 7, .int .u8 7, .int .u8 7, .int .u8 7, .int .u8 7, .int .u8 7, .int .u8 7, .int .u8 7, .int .u8 7, .int .u8 7, .int .u8 7, .int .u8 7, .int .u8 7, .int .u8 7, .int .u8 7, .int .u8 7, .int .u8 7, .int .u8 7, .int .u8 7, .int .u8 7, .int .u8 7, .int .u8 7, .int .u8 7, .int .u8 7, .int .u8 7, .int .u8 7, .int .u8 7, .int .u8 7, .int .u8 7, .int .u8 7, .int .u8 7, .int .u8 7, .int .u8 7, .int .u8 7, .int .u8 7, .int .u8 7, .int .u8 7, .int .u8 7, .int .u8 7, .int .u8 7, .int .u8 7, .int .u8 8, .int .u8 8, .int .u8 8, .int .u8 8, .int .u8 8, .int .u8 8, .int .u8 8, .int .u8 8, .int .u8 8, .int .u8 8, .int .u8 8, .int .u8 8, .int .u8 8, .int .u8 8, .int .u8 8, .int .u8 8, .int .u8 8, .int .u8 8, .int .u8 8, .int .u8 8, .int .u8 8, .int .u8 8, .int .u8 8, .int .u8 8, .int .u8 8, .int .u8 8, .int .u8 8, .int .u8 8, .int .u8 8, .int .u8 8, .int .u8 8, .int .u8 8, .int .u8 8, .int .u8 8, .int .u8 8, .int .u8 8, .int .u8 8, .int .u8 8, .int .u8 8, .int .u8 8, .int .u8 8, .int .u8 8, .int .u8 8, .int .u8 8, .int .u8 8, .int .u8 8, .int .u8 8, .int .u8 8, .int .u8 8, .int .u8 8, .int .u8 8, .int .u8 8, .int .u8 8, .int .u8 8, .int .u8 8, .int .u8 8, .int .u8 8, .int .u8 8, .int .u8 8, .int .u8 8, .int .u8 8, .int .u8 8, .int .u8 8, .int .u8 8, .int .u8 8, .int .u8 8, .int .u8 8, .int .u8 8, .int .u8 8, .int .u8 8, .int .u8 8, .int .u8 8, .int .u8 8, .int .u8 8, .int .u8 8, .int .u8 8, .int .u8 8, .int .u8 8, .int .u8 8, .int .u8 8, .int .u8 8, .int .u8 8, .int .u8 8, .int .u8 8, .int .u8 8, .int .u8 8, .int .u8 8, .int .u8 8, .int .u8 8, .int .u8 8, .int .u8 8, .int .u8 8, .int .u8 8, .int .u8 8, .int .u8 8, .int .u8 8, .int .u8 8, .int .u8 8, .int .u8 8, .int .u8 8, .int .u8 8, .int .u8 8, .int .u8 8, .int .u8 8, .int .u8 8, .int .u8 8, .int .u8 8, .int .u8 8, .int .u8 8, .int .u8 8, .int .u8 8, .int .u8 8, .int .u8 8, .int .u8 8, .int .u8 8, .int .u8 8, .int .u8 8, .int .u8 8, .int .u8 8, .int .u8 8, .int .u8 8, .int .u8 8, .int .u8 8, .int .u8 8, .int .u8 8, .int .u8 8, .int .u8 8, .int .u8 8])) (.s 21))⟩,
   ⟨(some 23), some undefA, none, false, .pu (.conv .i64 (.s 22))⟩,
   ⟨(some 24), some undefA, none, false, .pu (.bin .add (.s 19) (.s 23))⟩,
   ⟨(some 2), some undefA, none, false, .pu (.mov (.s 24))⟩])
 (.ret)))))⟩
theorem t102 : trF Try.prog [] [] Try.f102 = some m102 := by kernel_rfl
/-- slices.Clone[[]int,int] [] -/
def m103 : MFun := ⟨8, [], [.mov (.s 2)],
 .seq (.ops [⟨(some 2), some undefA, none, false, .pu (.mov (.c (.nilS)))⟩])
 (.seq (.seq (.ops [⟨(some 3), some undefA, none, false, .pu (.mov (.s 0))⟩,
   ⟨(some 4), some undefA, none, false, .pu (.isnil false (.s 3))⟩])
 (.cond (.s 4) (.seq (.ops [⟨(some 2), some undefA, none, false, .pu (.mov (.c (.nilS)))⟩])
  (.ret))
 (.skip)))
 (.seq (.ops [⟨(some 5), some undefA, none, false, .ha (.blds 1 0 [.int .i64 0] [])⟩,
   ⟨(some 6), some undefA, none, false, .pu (.mov (.s 0))⟩,
   ⟨(some 7), some undefA, none, false, .ha (.app 1 (.s 5) (.s 6))⟩,
   ⟨(some 2), some undefA, none, false, .pu (.mov (.s 7))⟩])
 (.ret)))⟩
theorem t103 : trF Try.prog [] [] Try.f103 = some m103 := by kernel_rfl
/-- cmp.isNaN[int] [] -/
def m109 : MFun := ⟨6, [], [.mov (.s 2)],
 .seq (.ops [⟨(some 2), some undefA, none, false, .pu (.mov (.c (.bool false)))⟩])
 (.seq (.ops [⟨(some 3), some undefA, none, false, .pu (.mov (.s 0))⟩,
   ⟨(some 4), some undefA, none, false, .pu (.mov (.s 0))⟩,
   ⟨(some 5), some undefA, none, false, .pu (.bin .neq (.s 3) (.s 4))⟩,
   ⟨(some 2), some undefA, none, false, .pu (.mov (.s 5))⟩])
 (.ret))⟩
theorem t109 : trF Try.prog [] [] Try.f109 = some m109 := by kernel_rfl
end Go.Proofs.Ytdcdjhhjlpegjaa

namespace Go.Proofs.Ytdcdjhhjlpegjaa
open Go Go.Eng
theorem hmix : Try.prog.follows .mixedOrders = true := by kernel_rfl
def tab : List (Nat × MFun) := [(16, m16), (17, m17), (21, m21), (26, m26), (30, m30), (31, m31), (53, m53), (54, m54), (55, m55), (57, m57), (61, m61), (63, m63), (64, m64), (72, m72), (78, m78), (79, m79), (81, m81), (82, m82), (83, m83), (84, m84), (85, m85), (87, m87), (88, m88), (89, m89), (90, m90), (91, m91), (92, m92), (98, m98), (102, m102), (103, m103), (109, m109)]
theorem tabOK : TabOK Try.prog tab :=
  .cons Try.func16 (by kernel_rfl) t16 <| .cons Try.func17 (by kernel_rfl) t17 <| .cons Try.func21 (by kernel_rfl) t21 <| .cons Try.func26 (by kernel_rfl) t26 <| .cons Try.func30 (by kernel_rfl) t30 <| .cons Try.func31 (by kernel_rfl) t31 <| .cons Try.func53 (by kernel_rfl) t53 <| .cons Try.func54 (by kernel_rfl) t54 <| .cons Try.func55 (by kernel_rfl) t55 <| .cons Try.func57 (by kernel_rfl) t57 <| .cons Try.func61 (by kernel_rfl) t61 <| .cons Try.func63 (by kernel_rfl) t63 <| .cons Try.func64 (by kernel_rfl) t64 <| .cons Try.func72 (by kernel_rfl) t72 <| .cons Try.func78 (by kernel_rfl) t78 <| .cons Try.func79 (by kernel_rfl) t79 <| .cons Try.func81 (by kernel_rfl) t81 <| .cons Try.func82 (by kernel_rfl) t82 <| .cons Try.func83 (by kernel_rfl) t83 <| .cons Try.func84 (by kernel_rfl) t84 <| .cons Try.func85 (by kernel_rfl) t85 <| .cons Try.func87 (by kernel_rfl) t87 <| .cons Try.func88 (by kernel_rfl) t88 <| .cons Try.func89 (by kernel_rfl) t89 <| .cons Try.func90 (by kernel_rfl) t90 <| .cons Try.func91 (by kernel_rfl) t91 <| .cons Try.func92 (by kernel_rfl) t92 <| .cons Try.func98 (by kernel_rfl) t98 <| .cons Try.func102 (by kernel_rfl) t102 <| .cons Try.func103 (by kernel_rfl) t103 <| .cons Try.func109 (by kernel_rfl) t109 <| .nil
def isTrue : Option (AV × AHeap) → Bool
  | some (.bool true, _) => true
  | _ => false
set_option maxRecDepth 100000 in
theorem known_run : isTrue (runF tab 300 14 17 [] []) = true := by kernel_rfl
theorem known (A : AHeap) : ACalls Try.prog 17 [] A (B true) A := by
  cases h : runF tab 300 14 17 [] [] with
  | none => have := known_run; rw [h] at this; cases this
  | some p =>
    obtain ⟨v, A'⟩ := p
    have h1 := known_run
    rw [h] at h1
    have h2 : v = B true := by
      unfold isTrue at h1
      split at h1
      · rename_i e; cases e; rfl
      · cases h1
    subst h2
    exact (runF_ok hmix tabOK 300 14 17 [] [] _ _ h).lift (by simp) rfl A
end Go.Proofs.Ytdcdjhhjlpegjaa

namespace Go.Proofs.Ytdcdjhhjlpegjaa
open Go Go.Eng
theorem cells_int (k : IntKind) (n : Int) : (AV.int k n).cells? = some [.int k n] := rfl
/-- A store. -/
def stA (sz : Nat) (p x : AV) (H : AHeap) : Option AHeap :=
  match p, x.cells? with
  | .ptr n off, some c => match H[n]? with
    | some (.cells true l) => if c.length = sz ∧ off + sz ≤ l.length then some (H.set n (.cells true (splice l off c))) else none
    | _ => none
  | _, _ => none
theorem hval_st (sz : Nat) (p x : Opd) (S : List AV) (H : AHeap) : hval (.st sz p x) S H = (stA sz (rd S p) (rd S x) H).map (fun H' => (undefA, H')) := by
  simp only [hval, stA]
  cases rd S p with
  | ptr n off =>
    cases (rd S x).cells? with
    | none => rfl
    | some c =>
      simp only
      cases H[n]? with
      | none => rfl
      | some o =>
        cases o with
        | cells rw l =>
          cases rw
          · rfl
          · simp only
            split <;> rfl
        | _ => rfl
  | _ => rfl
theorem hval_mks (es : Nat) (zero : List AV) (len cap : Opd) (S : List AV) (H : AHeap) : hval (.mks es zero len cap) S H = match rd S len, rd S cap with | .int _ l, .int _ c => if 0 ≤ l ∧ l ≤ c ∧ c ≤ lim then some (.sl es H.length 0 l.toNat (l == c), H ++ [.cells true (repl zero c.toNat)]) else none | _, _ => none := rfl
theorem hval_blds (es n : Nat) (zero : List AV) (parts : List (Nat × Nat × Opd)) (S : List AV) (H : AHeap) : hval (.blds es n zero parts) S H = match fillA (parts.map fun p => (p.1, p.2.1, rd S p.2.2)) (repl zero n) with | some l => some (.sl es H.length 0 n true, H ++ [.cells true l]) | none => none := rfl
theorem hval_app (es : Nat) (x y : Opd) (S : List AV) (H : AHeap) : hval (.app es x y) S H = appA es H (rd S x) (rd S y) := rfl
theorem splice_flat {α : Type} {es : Nat} {e : α → List AV} (he : ∀ x, (e x).length = es) {xs : List α} {i : Nat} (hi : i < xs.length) (z : α) : splice (xs.flatMap e) (i * es) (e z) = (xs.set i z).flatMap e := by
  unfold splice
  have h1 := flatMap_length he (xs.take i)
  rw [List.length_take, Nat.min_eq_left (by omega)] at h1
  have h2 := flatMap_length he (xs.take (i + 1))
  rw [List.length_take, Nat.min_eq_left (by omega)] at h2
  have e1 : (xs.flatMap e).take (i * es) = (xs.take i).flatMap e := by
    conv => lhs; rw [← List.take_append_drop i xs, List.flatMap_append]
    rw [← h1, List.take_left]
  have e2 : (xs.flatMap e).drop (i * es + (e z).length) = (xs.drop (i + 1)).flatMap e := by
    conv => lhs; rw [← List.take_append_drop (i + 1) xs, List.flatMap_append]
    rw [he z, ← Nat.succ_mul, Nat.succ_eq_add_one, ← h2, List.drop_left]
  rw [e1, e2, List.set_eq_take_append_cons_drop, if_pos hi, List.flatMap_append, List.flatMap_cons, List.append_assoc]
/-- A list that the call itself has made and may write. -/
structure OL {α : Type} (es : Nat) (e : α → List AV) (A H : AHeap) (n : Nat) (v : AV) (xs : List α) : Prop where
  he : ∀ x, (e x).length = es
  pre : A <+: H
  new : A.length ≤ n
  ob : H[n]? = some (.cells true (xs.flatMap e))
  v : ∃ full, v = .sl es n 0 xs.length full
section
variable {α : Type} {es : Nat} {e : α → List AV} {A H : AHeap} {n : Nat} {v : AV} {xs : List α}
theorem OL.ls (h : OL es e A H n v xs) : Ls es e H v xs := by
  obtain ⟨he, h1, h2, h3, full, rfl⟩ := h
  refine ⟨he, ?_⟩
  have hl := flatMap_length he xs
  simp only [slCells, cellsAt, h3, if_true, Nat.zero_add]
  rw [if_pos (by omega)]
  simp only [List.drop_zero, Option.map_some, Option.some.injEq, Prod.mk.injEq, true_and]
  rw [← hl, List.take_length]
theorem OL.lt (h : OL es e A H n v xs) : n < H.length := (List.getElem?_eq_some_iff.1 h.ob).1
theorem OL.set (h : OL es e A H n v xs) (i : Nat) (z : α) : OL es e A (H.set n (.cells true ((xs.set i z).flatMap e))) n v (xs.set i z) := by
  have hn := h.lt
  obtain ⟨he, h1, h2, h3, full, rfl⟩ := h
  exact ⟨he, pre_set h1 h2 _, h2, by rw [List.getElem?_set_self hn], full, by simp⟩
theorem OL.st (h : OL es e A H n v xs) {i : Nat} (hi : i < xs.length) (x : AV) (z : α) (hx : x.cells? = some (e z)) : stA es (.ptr (nm v) (of v + i * es)) x H = some (H.set n (.cells true ((xs.set i z).flatMap e))) := by
  obtain ⟨he, h1, h2, h3, full, rfl⟩ := h
  have hl := flatMap_length he xs
  have hle : i * es + es ≤ xs.length * es := by
    rw [← Nat.succ_mul]; exact Nat.mul_le_mul_right _ hi
  simp only [stA, nm, of, hx, h3, Nat.zero_add]
  rw [if_pos ⟨he z, by omega⟩, splice_flat he hi z]
theorem OL.mono {H' : AHeap} (h : OL es e A H n v xs) (hp : H <+: H') : OL es e A H' n v xs := ⟨h.he, h.pre.trans hp, h.new, pre_get hp h.ob, h.v⟩
end
end Go.Proofs.Ytdcdjhhjlpegjaa

namespace Go.Proofs.Ytdcdjhhjlpegjaa
open Go Go.Eng
/-- A number that a machine word holds. -/
abbrev W (a : Int) : Prop := -9223372036854775808 ≤ a ∧ a ≤ 9223372036854775807
/-- The first element's place, or -1. -/
def fpos (g : Int → Bool) (xs : List Int) : Int := match xs.findIdx? g with | some i => i | none => -1
theorem fpos_some {g : Int → Bool} {xs : List Int} {i : Nat} {z : Int} (h : ∀ y ∈ xs.take i, g y = false) (hz : xs[i]? = some z) (hg : g z = true) : fpos g xs = i := by
  have hi : i < xs.length := (List.getElem?_eq_some_iff.1 hz).1
  have he : xs[i] = z := (List.getElem?_eq_some_iff.1 hz).2
  have : xs.findIdx? g = some i := by
    rw [List.findIdx?_eq_some_iff_getElem]
    refine ⟨hi, by rw [he]; exact hg, fun j hj => ?_⟩
    have : xs[j]'(by omega) ∈ xs.take i := by
      rw [List.mem_take_iff_getElem]
      exact ⟨j, by omega, rfl⟩
    simp [h _ this]
  unfold fpos
  rw [this]
theorem fpos_none {g : Int → Bool} {xs : List Int} (h : ∀ y ∈ xs, g y = false) : fpos g xs = -1 := by
  have : xs.findIdx? g = none := by
    rw [List.findIdx?_eq_none_iff]
    exact h
  unfold fpos
  rw [this]
theorem fpos_iff (g : Int → Bool) (xs : List Int) : 0 ≤ fpos g xs ↔ xs.any g = true := by
  unfold fpos
  cases h : xs.findIdx? g with
  | some i =>
    rw [List.findIdx?_eq_some_iff_getElem] at h
    obtain ⟨hi, hg, _⟩ := h
    simp only [Int.natCast_nonneg, true_iff, List.any_eq_true]
    exact ⟨_, List.getElem_mem hi, hg⟩
  | none =>
    rw [List.findIdx?_eq_none_iff] at h
    constructor
    · intro h1; simp at h1
    · intro h1
      rw [List.any_eq_true] at h1
      obtain ⟨x, hx, hg⟩ := h1
      rw [h x hx] at hg; cases hg
theorem take_false {g : Int → Bool} {xs : List Int} {i : Nat} {z : Int} (h : ∀ y ∈ xs.take i, g y = false) (hz : xs[i]? = some z) (hg : g z = false) : ∀ y ∈ xs.take (i + 1), g y = false := by
  intro y hy
  rw [List.take_add_one, hz] at hy
  rcases List.mem_append.1 hy with hy | hy
  · exact h y hy
  · have : y = z := by simpa using hy
    rw [this]; exact hg
theorem c_Index {xs : List Int} {v : AV} {A : AHeap} (hx : L1 A v xs) (hl : xs.length ≤ 1000000) (p : Int) : ACalls Try.prog 63 [v, I p] A (I (fpos (fun y => decide (p = y)) xs)) A := by
  refine acalls hmix Try.func63 (by kernel_rfl) t63 2 rfl (by decide) ?_
  dsimp only [m63]
  simp (maxSteps := 4000000) -implicitDefEqProofs -dsimp (disch := omega) only [↓AW_ops, ↓AW_seq, ↓AW_block, ↓AOps_nil, ↓AOps_pu, on_some, ↓then_normal, pval, rd_S, rd_C, put_S, ↓AW_toLoop, List.replicate_succ, List.replicate_zero, List.set_cons_zero, List.set_cons_succ, List.getElem?_cons_zero, List.getElem?_cons_succ, Option.getD_some, Nat.reduceSub, List.cons_append, List.nil_append, hx.len]
  refine LoopK.by 19 (fun i : Nat => i ≤ xs.length ∧ ∀ y ∈ xs.take i, decide (p = y) = false) (fun i => [(0, v), (1, I p), (7, I xs.length), (8, I i)]) (fun _ => A) (fun i => xs.length - i) 0 ⟨by omega, by simp⟩ rfl (by simp [Has, rd_s]) rfl ?_
  rintro i ⟨hi, he⟩
  by_cases hlt : i < xs.length
  · obtain ⟨z, hz⟩ : ∃ z, xs[i]? = some z := ⟨_, List.getElem?_eq_getElem hlt⟩
    have hlt' : (i : Int) < xs.length := by omega
    by_cases h : p = z
    · simp (maxSteps := 4000000) -implicitDefEqProofs -dsimp (disch := omega) only [↓AW_skip, ↓AW_ops, ↓AW_seq, ↓AW_cond, ↓AW_block, ↓AW_ret, ↓AOps_nil, ↓AOps_pu, ↓AOps_ld, on_some, condB_t, ↓then_normal, ↓then_ret, ↓inBlock_ret, ↓Fin_ret, pval, lval, rd_S, put_S, resV, resL, partA, eq_self, mk, List.foldl_cons, List.foldl_nil, List.replicate_succ, List.replicate_zero, List.set_cons_zero, List.set_cons_succ, List.getElem?_cons_zero, List.getElem?_cons_succ, List.drop_zero, List.take_succ_cons, List.take_nil, Option.getD_some, List.length_cons, List.length_nil, Nat.reduceLeDiff, Nat.zero_add, bin_eql, bin_lss, if_true, if_false, Bool.false_eq_true, decide_true, Go.Eng.e1, hlt', hx.idx hlt, hx.ld0 hz 1 false (by decide), h]
      exact gc_same (by rw [← h, fpos_some he hz (by simp [h])])
    · simp (maxSteps := 4000000) -implicitDefEqProofs -dsimp (disch := omega) only [↓AW_skip, ↓AW_ops, ↓AW_seq, ↓AW_cond, ↓AW_block, ↓AOps_nil, ↓AOps_pu, ↓AOps_ld, on_some, condB_t, condB_f, ↓then_normal, ↓inBlock_normal, pval, lval, rd_S, rd_C, put_S, partA, eq_self, mk, List.foldl_cons, List.foldl_nil, List.replicate_succ, List.replicate_zero, List.set_cons_zero, List.set_cons_succ, List.getElem?_cons_zero, List.getElem?_cons_succ, List.drop_zero, List.take_succ_cons, List.take_nil, Option.getD_some, List.length_cons, List.length_nil, Nat.reduceAdd, Nat.reduceLeDiff, Nat.zero_add, bin_add, bin_eql, bin_lss, w64, if_true, if_false, Bool.false_eq_true, decide_true, decide_false, decide_eq_false_iff_not, Go.Eng.e1, true_and, hlt', hx.idx hlt, hx.ld0 hz 1 false (by decide), h]
      exact ⟨i + 1, ⟨hlt, by simpa using take_false he hz (by simp [h])⟩, by simp [Has, rd_s], by omega⟩
  · have hlt' : ¬ ((i : Int) < xs.length) := by omega
    simp (maxSteps := 4000000) -implicitDefEqProofs -dsimp (disch := omega) only [↓AW_ops, ↓AW_seq, ↓AW_cond, ↓AW_exit, ↓AW_ret, ↓AOps_nil, ↓AOps_pu, on_some, condB_f, ↓then_normal, ↓then_exit, ↓inBlock_exit, ↓Fin_ret, pval, rd_S, rd_C, put_S, resV, resL, eq_self, mk, List.foldl_cons, List.foldl_nil, List.replicate_succ, List.replicate_zero, List.set_cons_zero, List.set_cons_succ, List.getElem?_cons_zero, List.getElem?_cons_succ, Option.getD_some, bin_lss, if_true, decide_false, Int.reduceNeg, hlt']
    rw [List.take_of_length_le (by omega)] at he
    exact gc_same (by rw [fpos_none he])
theorem c_IndexFunc {xs : List Int} {v : AV} {A : AHeap} (hx : L1 A v xs) (hl : xs.length ≤ 1000000) (f : FuncId) (cap : List AV) (g : Int → Bool) (hg : ∀ x ∈ xs, ACalls Try.prog f ([I x] ++ cap) A (B (g x)) A) : ACalls Try.prog 81 [v, .fn f cap] A (I (fpos g xs)) A := by
  refine acalls hmix Try.func81 (by kernel_rfl) t81 2 rfl (by decide) ?_
  dsimp only [m81]
  simp (maxSteps := 4000000) -implicitDefEqProofs -dsimp (disch := omega) only [↓AW_ops, ↓AW_seq, ↓AW_block, ↓AOps_nil, ↓AOps_pu, on_some, ↓then_normal, pval, rd_S, rd_C, put_S, ↓AW_toLoop, List.replicate_succ, List.replicate_zero, List.set_cons_zero, List.set_cons_succ, List.getElem?_cons_zero, List.getElem?_cons_succ, Option.getD_some, Nat.reduceSub, List.cons_append, List.nil_append, hx.len]
  refine LoopK.by 19 (fun i : Nat => i ≤ xs.length ∧ ∀ y ∈ xs.take i, g y = false) (fun i => [(0, v), (1, .fn f cap), (7, I xs.length), (8, I i)]) (fun _ => A) (fun i => xs.length - i) 0 ⟨by omega, by simp⟩ rfl (by simp [Has, rd_s]) rfl ?_
  rintro i ⟨hi, he⟩
  by_cases hlt : i < xs.length
  · obtain ⟨z, hz⟩ : ∃ z, xs[i]? = some z := ⟨_, List.getElem?_eq_getElem hlt⟩
    have hlt' : (i : Int) < xs.length := by omega
    simp (maxSteps := 4000000) -implicitDefEqProofs -dsimp (disch := omega) only [↓AW_skip, ↓AW_ops, ↓AW_seq, ↓AW_cond, ↓AW_block, ↓AOps_nil, ↓AOps_pu, ↓AOps_ld, ↓AOps_callv, on_some, CallF_fn, condB_t, ↓then_normal, pval, lval, rd_S, put_S, partA, eq_self, mk, List.foldl_cons, List.foldl_nil, List.replicate_succ, List.replicate_zero, List.set_cons_zero, List.set_cons_succ, List.getElem?_cons_zero, List.getElem?_cons_succ, List.drop_zero, List.take_succ_cons, List.take_nil, Option.getD_some, map_c, map_n, List.length_cons, List.length_nil, Nat.reduceLeDiff, Nat.zero_add, List.cons_append, List.nil_append, bin_lss, if_true, if_false, Bool.false_eq_true, decide_true, Go.Eng.e1, hlt', hx.idx hlt, hx.ld0 hz 1 false (by decide)]
    refine CallK.of (hg z (List.mem_of_getElem? hz)) ?_
    by_cases h : g z = true
    · simp (maxSteps := 4000000) -implicitDefEqProofs -dsimp (disch := omega) only [↓AW_ops, ↓AW_seq, ↓AW_cond, ↓AW_ret, ↓AOps_nil, ↓AOps_pu, on_some, extK_same, condB_t, ↓then_normal, ↓then_ret, ↓inBlock_ret, ↓Fin_ret, pval, rd_S, put_S, resV, resL, mk, List.foldl_cons, List.foldl_nil, List.replicate_succ, List.replicate_zero, List.set_cons_zero, List.set_cons_succ, List.getElem?_cons_zero, List.getElem?_cons_succ, Option.getD_some, h]
      exact gc_same (by rw [fpos_some he hz h])
    · have h : g z = false := by simpa using h
      simp (maxSteps := 4000000) -implicitDefEqProofs -dsimp (disch := omega) only [↓AW_skip, ↓AW_ops, ↓AW_cond, ↓AOps_nil, ↓AOps_pu, on_some, extK_same, condB_f, ↓then_normal, ↓inBlock_normal, pval, rd_S, rd_C, put_S, eq_self, mk, List.foldl_cons, List.foldl_nil, List.replicate_succ, List.replicate_zero, List.set_cons_zero, List.set_cons_succ, List.getElem?_cons_zero, List.getElem?_cons_succ, Option.getD_some, List.length_cons, List.length_nil, Nat.reduceAdd, Nat.zero_add, bin_add, w64, true_and, h]
      exact ⟨i + 1, ⟨hlt, take_false he hz h⟩, by simp [Has, rd_s], by omega⟩
  · have hlt' : ¬ ((i : Int) < xs.length) := by omega
    simp (maxSteps := 4000000) -implicitDefEqProofs -dsimp (disch := omega) only [↓AW_ops, ↓AW_seq, ↓AW_cond, ↓AW_exit, ↓AW_ret, ↓AOps_nil, ↓AOps_pu, on_some, condB_f, ↓then_normal, ↓then_exit, ↓inBlock_exit, ↓Fin_ret, pval, rd_S, rd_C, put_S, resV, resL, eq_self, mk, List.foldl_cons, List.foldl_nil, List.replicate_succ, List.replicate_zero, List.set_cons_zero, List.set_cons_succ, List.getElem?_cons_zero, List.getElem?_cons_succ, Option.getD_some, bin_lss, if_true, decide_false, Int.reduceNeg, hlt']
    rw [List.take_of_length_le (by omega)] at he
    exact gc_same (by rw [fpos_none he])
theorem c_ContainsFunc {xs : List Int} {v : AV} {A : AHeap} (hx : L1 A v xs) (hl : xs.length ≤ 1000000) (f : FuncId) (cap : List AV) (g : Int → Bool) (hg : ∀ x ∈ xs, ACalls Try.prog f ([I x] ++ cap) A (B (g x)) A) : ACalls Try.prog 57 [v, .fn f cap] A (B (xs.any g)) A := by
  refine acalls hmix Try.func57 (by kernel_rfl) t57 2 rfl (by decide) ?_
  dsimp only [m57]
  simp (maxSteps := 4000000) -implicitDefEqProofs -dsimp (disch := omega) only [↓AW_ops, ↓AW_seq, ↓AOps_nil, ↓AOps_pu, ↓AOps_call, on_some, ↓then_normal, pval, rd_S, rd_C, put_S, List.replicate_succ, List.replicate_zero, List.set_cons_zero, List.set_cons_succ, List.getElem?_cons_zero, List.getElem?_cons_succ, Option.getD_some, map_c, map_n, Nat.reduceSub, List.cons_append, List.nil_append]
  refine CallK.of (c_IndexFunc hx hl f cap g hg) ?_
  simp (maxSteps := 4000000) -implicitDefEqProofs -dsimp (disch := omega) only [↓AW_ret, ↓AOps_nil, ↓AOps_pu, on_some, extK_same, ↓then_normal, ↓Fin_ret, pval, rd_S, rd_C, put_S, resV, resL, List.replicate_succ, List.replicate_zero, List.set_cons_zero, List.set_cons_succ, List.getElem?_cons_zero, List.getElem?_cons_succ, Option.getD_some, Nat.reduceSub, List.cons_append, List.nil_append, bin_geq]
  refine gc_same ?_
  congr 1
  rw [Bool.eq_iff_iff, decide_eq_true_iff, fpos_iff]
theorem L1_nil (A : AHeap) : L1 A .nilS [] := ⟨e1_len, rfl⟩
end Go.Proofs.Ytdcdjhhjlpegjaa

namespace Go.Proofs.Ytdcdjhhjlpegjaa
open Go Go.Eng
/-- selion/selionlaw03.Long [] -/
def m15 : MFun := ⟨7, [1], [.mov (.s 2)],
 .seq (.ops [⟨(some 1), some (.junk), none, false, .pu (.bnew (.s 0))⟩,
   ⟨(some 2), some undefA, none, false, .pu (.mov (.c (.bool false)))⟩])
 (.seq (.ops [⟨(some 3), some undefA, none, false, .pu (.badr none 1)⟩,
   ⟨(some 4), some undefA, none, false, .pu (.bget (some 3) 1 0 1 false)⟩,
   ⟨(some 5), some undefA, none, false, .pu (.len (.s 4))⟩,
   ⟨(some 6), some undefA, none, false, .pu (.bin .gtr (.s 5) (.c (.int .i64 40)))⟩,
   ⟨(some 2), some undefA, none, false, .pu (.mov (.s 6))⟩])
 (.ret))⟩
theorem t15 : trF Try.prog [1] [] Try.f15 = some m15 := by kernel_rfl
/-- selion/selionlaw03.many [] -/
def m23 : MFun := ⟨6, [], [.mov (.s 2)],
 .seq (.ops [⟨(some 2), some undefA, none, false, .pu (.mov (.c (.bool false)))⟩])
 (.seq (.ops [⟨(some 3), some undefA, none, false, .pu (.mov (.s 0))⟩,
   ⟨(some 4), some undefA, none, false, .pu (.len (.s 3))⟩,
   ⟨(some 5), some undefA, none, false, .pu (.bin .gtr (.s 4) (.c (.int .i64 40)))⟩,
   ⟨(some 2), some undefA, none, false, .pu (.mov (.s 5))⟩])
 (.ret))⟩
theorem t23 : trF Try.prog [] [] Try.f23 = some m23 := by kernel_rfl
/-- selion/selionref01.Sum [loop [0, 3, 4]] -/
def m27 : MFun := ⟨18, [], [.mov (.s 2)],
 .seq (.ops [⟨(some 2), some undefA, none, false, .pu (.mov (.c (.int .i64 0)))⟩])
 (.seq (.ops [⟨(some 3), some undefA, none, false, .pu (.mov (.c (.int .i64 0)))⟩])
 (.seq (.seq (.ops [⟨(some 4), some undefA, none, false, .pu (.mov (.c (.int .i64 0)))⟩])
 (.block 0 (.loop (.seq (.seq (.ops [⟨(some 5), some undefA, none, false, .pu (.mov (.s 4))⟩,
     ⟨(some 6), some undefA, none, false, .pu (.mov (.s 0))⟩,
     ⟨(some 7), some undefA, none, false, .pu (.len (.s 6))⟩,
     ⟨(some 8), some undefA, none, false, .pu (.bin .lss (.s 5) (.s 7))⟩])
   (.cond (.s 8) (.skip)
   (.exit 0)))
   (.seq (.block 1 (.ops [⟨(some 11), some undefA, none, false, .pu (.mov (.s 3))⟩,
      ⟨(some 12), some undefA, none, false, .pu (.mov (.s 0))⟩,
      ⟨(some 13), some undefA, none, false, .pu (.mov (.s 4))⟩,
      ⟨(some 14), some undefA, none, false, .pu (.idx 1 (.s 12) (.s 13))⟩,
      ⟨(some 15), some undefA, none, false, .ld (.ld 1 false (.s 14))⟩,
      ⟨(some 16), some undefA, none, false, .pu (.bin .add (.s 11) (.s 15))⟩,
      ⟨(some 3), some undefA, none, false, .pu (.mov (.s 16))⟩]))
   (.ops [⟨(some 9), some undefA, none, false, .pu (.mov (.s 4))⟩,
     ⟨(some 10), some undefA, none, false, .pu (.bin .add (.s 9) (.c (.int .i64 1)))⟩,
     ⟨(some 4), some undefA, none, false, .pu (.mov (.s 10))⟩]))))))
 (.seq (.ops [⟨(some 17), some undefA, none, false, .pu (.mov (.s 3))⟩,
   ⟨(some 2), some undefA, none, false, .pu (.mov (.s 17))⟩])
 (.ret))))⟩
theorem t27 : trF Try.prog [] [] Try.f27 = some m27 := by kernel_rfl
/-- selion/selionref03.Whole [loop [0, 1, 7, 8, 9, 10], loop [1, 8, 9], loop [1, 8, 9, 11, 12]] -/
def m32 : MFun := ⟨80, [], [.mov (.s 4), .mov (.s 5)],
 .seq (.ops [⟨(some 4), some undefA, none, false, .pu (.mov (.c (.nilS)))⟩,
   ⟨(some 5), some undefA, none, false, .pu (.mov (.c (.int .i64 0)))⟩])
 (.seq (.seq (.ops [⟨(some 13), some undefA, none, false, .pu (.mov (.s 0))⟩,
   ⟨(some 14), some undefA, none, false, .pu (.mov (.s 1))⟩,
   ⟨(some 15), some undefA, none, false, .call 38 [(.s 13), (.s 14)]⟩,
   ⟨(some 6), some undefA, none, false, .pu (.mov (.s 15))⟩])
 (.seq (.ops [⟨(some 16), some undefA, none, false, .pu (.mov (.s 6))⟩,
   ⟨(some 17), some undefA, none, false, .pu (.bin .neq (.s 16) (.c (.int .i64 0)))⟩])
 (.cond (.s 17) (.seq (.ops [⟨(some 18), some undefA, none, false, .pu (.mov (.s 6))⟩,
    ⟨(some 4), some undefA, none, false, .pu (.mov (.c (.nilS)))⟩,
    ⟨(some 5), some undefA, none, false, .pu (.mov (.s 18))⟩])
  (.ret))
 (.skip))))
 (.seq (.ops [⟨(some 19), some undefA, none, false, .pu (.mov (.s 0))⟩,
   ⟨(some 20), some undefA, none, false, .call 27 [(.s 19)]⟩,
   ⟨(some 21), some undefA, none, false, .pu (.mm true (.c (.int .i64 1)) [(.s 20)])⟩,
   ⟨(some 7), some undefA, none, false, .pu (.mov (.s 21))⟩])
 (.seq (.ops [⟨(some 8), some undefA, none, false, .pu (.mov (.c (.nilS)))⟩,
   ⟨(some 9), some undefA, none, false, .pu (.mov (.c (.nilS)))⟩])
 (.seq (.seq (.ops [⟨(some 10), some undefA, none, false, .pu (.mov (.c (.int .i64 0)))⟩])
 (.block 0 (.loop (.seq (.seq (.ops [⟨(some 22), some undefA, none, false, .pu (.mov (.s 10))⟩,
     ⟨(some 23), some undefA, none, false, .pu (.mov (.s 0))⟩,
     ⟨(some 24), some undefA, none, false, .pu (.len (.s 23))⟩,
     ⟨(some 25), some undefA, none, false, .pu (.bin .lss (.s 22) (.s 24))⟩])
   (.cond (.s 25) (.skip)
   (.exit 0)))
   (.seq (.block 1 (.seq (.ops [⟨(some 28), some undefA, none, false, .pu (.mov (.s 8))⟩,
      ⟨(some 29), some undefA, none, false, .pu (.mov (.s 0))⟩,
      ⟨(some 30), some undefA, none, false, .pu (.mov (.s 10))⟩,
      ⟨(some 31), some undefA, none, false, .pu (.idx 1 (.s 29) (.s 30))⟩,
      ⟨(some 32), some undefA, none, false, .ld (.ld 1 false (.s 31))⟩,
      ⟨(some 33), some undefA, none, false, .pu (.mov (.s 1))⟩,
      ⟨(some 34), some undefA, none, false, .pu (.bin .mul (.s 32) (.s 33))⟩,
      ⟨(some 35), some undefA, none, false, .pu (.mov (.s 7))⟩,
      ⟨(some 36), some undefA, none, false, .pu (.bin .quo (.s 34) (.s 35))⟩,
      ⟨(some 37), some undefA, none, false, .ha (.blds 1 1 [.int .i64 0] [(0, 1, (.s 36))])⟩,
      ⟨(some 38), some undefA, none, false, .ha (.app 1 (.s 28) (.s 37))⟩,
      ⟨(some 8), some undefA, none, false, .pu (.mov (.s 38))⟩])
    (.ops [⟨(some 39), some undefA, none, false, .pu (.mov (.s 9))⟩,
      ⟨(some 40), some undefA, none, false, .pu (.mov (.s 0))⟩,
      ⟨(some 41), some undefA, none, false, .pu (.mov (.s 10))⟩,
      ⟨(some 42), some undefA, none, false, .pu (.idx 1 (.s 40) (.s 41))⟩,
      ⟨(some 43), some undefA, none, false, .ld (.ld 1 false (.s 42))⟩,
      ⟨(some 44), some undefA, none, false, .pu (.mov (.s 1))⟩,
      ⟨(some 45), some undefA, none, false, .pu (.bin .mul (.s 43) (.s 44))⟩,
      ⟨(some 46), some undefA, none, false, .pu (.mov (.s 7))⟩,
      ⟨(some 47), some undefA, none, false, .pu (.bin .rem (.s 45) (.s 46))⟩,
      ⟨(some 48), some undefA, none, false, .ha (.blds 1 1 [.int .i64 0] [(0, 1, (.s 47))])⟩,
      ⟨(some 49), some undefA, none, false, .ha (.app 1 (.s 39) (.s 48))⟩,
      ⟨(some 9), some undefA, none, false, .pu (.mov (.s 49))⟩])))
   (.ops [⟨(some 26), some undefA, none, false, .pu (.mov (.s 10))⟩,
     ⟨(some 27), some undefA, none, false, .pu (.bin .add (.s 26) (.c (.int .i64 1)))⟩,
     ⟨(some 10), some undefA, none, false, .pu (.mov (.s 27))⟩]))))))
 (.seq (.block 2 (.loop (.seq (.seq (.ops [⟨(some 50), some undefA, none, false, .pu (.mov (.s 8))⟩,
     ⟨(some 51), some undefA, none, false, .call 27 [(.s 50)]⟩,
     ⟨(some 52), some undefA, none, false, .pu (.mov (.s 1))⟩,
     ⟨(some 53), some undefA, none, false, .pu (.bin .lss (.s 51) (.s 52))⟩])
   (.cond (.s 53) (.skip)
   (.exit 2)))
   (.block 3 (.seq (.ops [⟨(some 11), some undefA, none, false, .pu (.mov (.c (.int .i64 0)))⟩])
    (.seq (.seq (.ops [⟨(some 12), some undefA, none, false, .pu (.mov (.c (.int .i64 1)))⟩])
    (.block 4 (.loop (.seq (.seq (.ops [⟨(some 54), some undefA, none, false, .pu (.mov (.s 12))⟩,
        ⟨(some 55), some undefA, none, false, .pu (.mov (.s 9))⟩,
        ⟨(some 56), some undefA, none, false, .pu (.len (.s 55))⟩,
        ⟨(some 57), some undefA, none, false, .pu (.bin .lss (.s 54) (.s 56))⟩])
      (.cond (.s 57) (.skip)
      (.exit 4)))
      (.seq (.block 5 (.seq (.ops [⟨(some 60), some undefA, none, true, .pu (.mov (.s 9))⟩,
         ⟨(some 61), some undefA, none, true, .pu (.mov (.s 12))⟩,
         ⟨(some 62), some undefA, none, true, .pu (.idx 1 (.s 60) (.s 61))⟩,
         ⟨(some 63), some undefA, none, true, .ld (.ld 1 false (.s 62))⟩,
         ⟨(some 64), some undefA, none, true, .pu (.mov (.s 9))⟩,
         ⟨(some 65), some undefA, none, true, .pu (.mov (.s 11))⟩,
         ⟨(some 66), some undefA, none, true, .pu (.idx 1 (.s 64) (.s 65))⟩,
         ⟨(some 67), some undefA, none, true, .ld (.ld 1 false (.s 66))⟩,
         ⟨(some 68), some undefA, none, false, .pu (.bin .gtr (.s 63) (.s 67))⟩])
       (.cond (.s 68) (.ops [⟨(some 69), some undefA, none, false, .pu (.mov (.s 12))⟩,
          ⟨(some 11), some undefA, none, false, .pu (.mov (.s 69))⟩])
       (.skip))))
      (.ops [⟨(some 58), some undefA, none, false, .pu (.mov (.s 12))⟩,
        ⟨(some 59), some undefA, none, false, .pu (.bin .add (.s 58) (.c (.int .i64 1)))⟩,
        ⟨(some 12), some undefA, none, false, .pu (.mov (.s 59))⟩]))))))
    (.seq (.ops [⟨(some 70), some undefA, none, false, .pu (.mov (.s 8))⟩,
      ⟨(some 71), some undefA, none, false, .pu (.mov (.s 11))⟩,
      ⟨(some 72), some undefA, none, false, .pu (.idx 1 (.s 70) (.s 71))⟩,
      ⟨(some 73), some undefA, none, false, .ld (.ld 1 false (.s 72))⟩,
      ⟨(some 74), some undefA, none, false, .pu (.bin .add (.s 73) (.c (.int .i64 1)))⟩,
      ⟨(some 75), some undefA, none, false, .pu (.idx 1 (.s 70) (.s 71))⟩,
      ⟨none, some undefA, none, false, .ha (.st 1 (.s 75) (.s 74))⟩])
    (.ops [⟨(some 76), some undefA, none, false, .pu (.mov (.s 9))⟩,
      ⟨(some 77), some undefA, none, false, .pu (.mov (.s 11))⟩,
      ⟨(some 78), some undefA, none, false, .pu (.idx 1 (.s 76) (.s 77))⟩,
      ⟨none, some undefA, none, false, .ha (.st 1 (.s 78) (.c (.int .i64 (-1))))⟩]))))))))
 (.seq (.ops [⟨(some 79), some undefA, none, false, .pu (.mov (.s 8))⟩,
   ⟨(some 4), some undefA, none, false, .pu (.mov (.s 79))⟩,
   ⟨(some 5), some undefA, none, false, .pu (.mov (.c (.int .i64 0)))⟩])
 (.ret)))))))⟩
theorem t32 : trF Try.prog [] [] Try.f32 = some m32 := by kernel_rfl
/-- selion/claim.CheckWhole [loop [0, 1, 2, 8, 30, 31, 32]] -/
def m33 : MFun := ⟨68, [], [.mov (.s 6)],
 .seq (.ops [⟨(some 6), some undefA, none, false, .pu (.mov (.c (.int .i64 0)))⟩])
 (.seq (.seq (.ops [⟨(some 12), some undefA, none, false, .pu (.mov (.s 0))⟩,
   ⟨(some 13), some undefA, none, false, .pu (.mov (.s 1))⟩,
   ⟨(some 14), some undefA, none, false, .call 16 [(.s 12), (.s 13)]⟩,
   ⟨(some 7), some undefA, none, false, .pu (.mov (.s 14))⟩])
 (.seq (.ops [⟨(some 15), some undefA, none, false, .pu (.mov (.s 7))⟩,
   ⟨(some 16), some undefA, none, false, .pu (.bin .neq (.s 15) (.c (.int .i64 0)))⟩])
 (.cond (.s 16) (.seq (.ops [⟨(some 17), some undefA, none, false, .pu (.mov (.s 7))⟩,
    ⟨(some 6), some undefA, none, false, .pu (.mov (.s 17))⟩])
  (.ret))
 (.skip))))
 (.seq (.seq (.ops [⟨(some 18), some undefA, none, false, .pu (.mov (.s 2))⟩,
   ⟨(some 19), some undefA, none, false, .pu (.len (.s 18))⟩,
   ⟨(some 20), some undefA, none, false, .pu (.mov (.s 0))⟩,
   ⟨(some 21), some undefA, none, false, .pu (.len (.s 20))⟩,
   ⟨(some 22), some undefA, none, false, .pu (.bin .neq (.s 19) (.s 21))⟩,
   ⟨(some 23), some undefA, none, false, .pu (.mov (.s 22))⟩,
   ⟨(some 24), some undefA, (some (23, false)), false, .pu (.mov (.s 2))⟩,
   ⟨(some 25), some undefA, (some (23, false)), false, .call 57 [(.s 24), (.c (.fn 65 []))]⟩,
   ⟨(some 26), some undefA, none, false, .pu (.pick (.s 23) (.c (.bool true)) (.s 25))⟩])
 (.cond (.s 26) (.seq (.ops [⟨(some 6), some undefA, none, false, .pu (.mov (.c (.int .i64 1)))⟩])
  (.ret))
 (.skip)))
 (.seq (.ops [⟨(some 27), some undefA, none, false, .pu (.mov (.s 0))⟩,
   ⟨(some 28), some undefA, none, false, .call 54 [(.s 27)]⟩,
   ⟨(some 29), some undefA, none, false, .pu (.mm true (.c (.int .i64 1)) [(.s 28)])⟩,
   ⟨(some 8), some undefA, none, false, .pu (.mov (.s 29))⟩])
 (.seq (.seq (.ops [⟨(some 30), some undefA, none, false, .pu (.mov (.s 2))⟩,
   ⟨(some 31), some undefA, none, false, .pu (.len (.s 30))⟩,
   ⟨(some 32), some undefA, none, false, .pu (.mov (.c (.int .i64 0)))⟩])
 (.block 0 (.loop (.seq (.ops [⟨(some 33), some undefA, none, false, .pu (.bin .lss (.s 32) (.s 31))⟩])
   (.seq (.cond (.s 33) (.skip)
   (.exit 0))
   (.seq (.block 1 (.seq (.ops [⟨(some 34), some undefA, none, false, .pu (.mov (.s 32))⟩,
      ⟨(some 35), some undefA, none, false, .pu (.idx 1 (.s 30) (.s 32))⟩,
      ⟨(some 36), some undefA, none, false, .ld (.ld 1 false (.s 35))⟩,
      ⟨(some 9), some undefA, none, false, .pu (.mov (.s 34))⟩,
      ⟨(some 10), some undefA, none, false, .pu (.mov (.s 36))⟩])
    (.seq (.ops [⟨(some 37), some undefA, none, false, .pu (.mov (.s 0))⟩,
      ⟨(some 38), some undefA, none, false, .pu (.mov (.s 9))⟩,
      ⟨(some 39), some undefA, none, false, .pu (.idx 1 (.s 37) (.s 38))⟩,
      ⟨(some 40), some undefA, none, false, .ld (.ld 1 false (.s 39))⟩,
      ⟨(some 41), some undefA, none, false, .pu (.mov (.s 1))⟩,
      ⟨(some 42), some undefA, none, false, .pu (.bin .mul (.s 40) (.s 41))⟩,
      ⟨(some 43), some undefA, none, false, .pu (.mov (.s 8))⟩,
      ⟨(some 44), some undefA, none, false, .pu (.bin .quo (.s 42) (.s 43))⟩,
      ⟨(some 11), some undefA, none, false, .pu (.mov (.s 44))⟩])
    (.seq (.ops [⟨(some 45), some undefA, none, false, .pu (.mov (.s 10))⟩,
      ⟨(some 46), some undefA, none, false, .pu (.mov (.s 11))⟩,
      ⟨(some 47), some undefA, none, false, .pu (.bin .lss (.s 45) (.s 46))⟩,
      ⟨(some 48), some undefA, none, false, .pu (.mov (.s 47))⟩,
      ⟨(some 49), some undefA, (some (48, false)), false, .pu (.mov (.s 10))⟩,
      ⟨(some 50), some undefA, (some (48, false)), false, .pu (.mov (.s 0))⟩,
      ⟨(some 51), some undefA, (some (48, false)), false, .pu (.mov (.s 9))⟩,
      ⟨(some 52), some undefA, (some (48, false)), false, .pu (.idx 1 (.s 50) (.s 51))⟩,
      ⟨(some 53), some undefA, (some (48, false)), false, .ld (.ld 1 false (.s 52))⟩,
      ⟨(some 54), some undefA, (some (48, false)), false, .pu (.mov (.s 1))⟩,
      ⟨(some 55), some undefA, (some (48, false)), false, .pu (.bin .mul (.s 53) (.s 54))⟩,
      ⟨(some 56), some undefA, (some (48, false)), false, .pu (.mov (.s 8))⟩,
      ⟨(some 57), some undefA, (some (48, false)), false, .pu (.bin .add (.s 55) (.s 56))⟩,
      ⟨(some 58), some undefA, (some (48, false)), false, .pu (.bin .sub (.s 57) (.c (.int .i64 1)))⟩,
      ⟨(some 59), some undefA, (some (48, false)), false, .pu (.mov (.s 8))⟩,
      ⟨(some 60), some undefA, (some (48, false)), false, .pu (.bin .quo (.s 58) (.s 59))⟩,
      ⟨(some 61), some undefA, (some (48, false)), false, .pu (.bin .gtr (.s 49) (.s 60))⟩,
      ⟨(some 62), some undefA, none, false, .pu (.pick (.s 48) (.c (.bool true)) (.s 61))⟩])
    (.cond (.s 62) (.seq (.ops [⟨(some 6), some undefA, none, false, .pu (.mov (.c (.int .i64 8)))⟩])
     (.ret))
    (.skip))))))
   (.ops [⟨(some 63), some undefA, none, false, .pu (.bin .add (.s 32) (.c (.int .i64 1)))⟩,
     ⟨(some 32), some undefA, none, false, .pu (.mov (.s 63))⟩])))))))
 (.seq (.seq (.ops [⟨(some 64), some undefA, none, false, .pu (.mov (.s 2))⟩,
   ⟨(some 65), some undefA, none, false, .call 54 [(.s 64)]⟩,
   ⟨(some 66), some undefA, none, false, .pu (.mov (.s 1))⟩,
   ⟨(some 67), some undefA, none, false, .pu (.bin .neq (.s 65) (.s 66))⟩])
 (.cond (.s 67) (.seq (.ops [⟨(some 6), some undefA, none, false, .pu (.mov (.c (.int .i64 7)))⟩])
  (.ret))
 (.skip)))
 (.seq (.ops [⟨(some 6), some undefA, none, false, .pu (.mov (.c (.int .i64 0)))⟩])
 (.ret)))))))⟩
theorem t33 : trF Try.prog [] [] Try.f33 = some m33 := by kernel_rfl
/-- selion/selionref03.CheckWhole [loop [0, 1, 2, 8], loop [0, 1, 2, 9, 10]] -/
def m34 : MFun := ⟨72, [], [.mov (.s 6)],
 .seq (.ops [⟨(some 6), some undefA, none, false, .pu (.mov (.c (.int .i64 0)))⟩])
 (.seq (.seq (.ops [⟨(some 11), some undefA, none, false, .pu (.mov (.s 0))⟩,
   ⟨(some 12), some undefA, none, false, .pu (.mov (.s 1))⟩,
   ⟨(some 13), some undefA, none, false, .call 38 [(.s 11), (.s 12)]⟩,
   ⟨(some 7), some undefA, none, false, .pu (.mov (.s 13))⟩])
 (.seq (.ops [⟨(some 14), some undefA, none, false, .pu (.mov (.s 7))⟩,
   ⟨(some 15), some undefA, none, false, .pu (.bin .neq (.s 14) (.c (.int .i64 0)))⟩])
 (.cond (.s 15) (.seq (.ops [⟨(some 16), some undefA, none, false, .pu (.mov (.s 7))⟩,
    ⟨(some 6), some undefA, none, false, .pu (.mov (.s 16))⟩])
  (.ret))
 (.skip))))
 (.seq (.seq (.ops [⟨(some 17), some undefA, none, false, .pu (.mov (.s 2))⟩,
   ⟨(some 18), some undefA, none, false, .pu (.len (.s 17))⟩,
   ⟨(some 19), some undefA, none, false, .pu (.mov (.s 0))⟩,
   ⟨(some 20), some undefA, none, false, .pu (.len (.s 19))⟩,
   ⟨(some 21), some undefA, none, false, .pu (.bin .neq (.s 18) (.s 20))⟩])
 (.cond (.s 21) (.seq (.ops [⟨(some 6), some undefA, none, false, .pu (.mov (.c (.int .i64 1)))⟩])
  (.ret))
 (.skip)))
 (.seq (.seq (.ops [⟨(some 8), some undefA, none, false, .pu (.mov (.c (.int .i64 0)))⟩])
 (.block 0 (.loop (.seq (.seq (.ops [⟨(some 22), some undefA, none, false, .pu (.mov (.s 8))⟩,
     ⟨(some 23), some undefA, none, false, .pu (.mov (.s 2))⟩,
     ⟨(some 24), some undefA, none, false, .pu (.len (.s 23))⟩,
     ⟨(some 25), some undefA, none, false, .pu (.bin .lss (.s 22) (.s 24))⟩])
   (.cond (.s 25) (.skip)
   (.exit 0)))
   (.seq (.block 1 (.seq (.ops [⟨(some 28), some undefA, none, false, .pu (.mov (.s 2))⟩,
      ⟨(some 29), some undefA, none, false, .pu (.mov (.s 8))⟩,
      ⟨(some 30), some undefA, none, false, .pu (.idx 1 (.s 28) (.s 29))⟩,
      ⟨(some 31), some undefA, none, false, .ld (.ld 1 false (.s 30))⟩,
      ⟨(some 32), some undefA, none, false, .call 60 [(.s 31), (.c (.int .i64 0)), (.c (.int .i64 1000))]⟩,
      ⟨(some 33), some undefA, none, false, .pu (.not (.s 32))⟩])
    (.cond (.s 33) (.seq (.ops [⟨(some 6), some undefA, none, false, .pu (.mov (.c (.int .i64 1)))⟩])
     (.ret))
    (.skip))))
   (.ops [⟨(some 26), some undefA, none, false, .pu (.mov (.s 8))⟩,
     ⟨(some 27), some undefA, none, false, .pu (.bin .add (.s 26) (.c (.int .i64 1)))⟩,
     ⟨(some 8), some undefA, none, false, .pu (.mov (.s 27))⟩]))))))
 (.seq (.ops [⟨(some 34), some undefA, none, false, .pu (.mov (.s 0))⟩,
   ⟨(some 35), some undefA, none, false, .call 27 [(.s 34)]⟩,
   ⟨(some 36), some undefA, none, false, .pu (.mm true (.c (.int .i64 1)) [(.s 35)])⟩,
   ⟨(some 9), some undefA, none, false, .pu (.mov (.s 36))⟩])
 (.seq (.seq (.ops [⟨(some 10), some undefA, none, false, .pu (.mov (.c (.int .i64 0)))⟩])
 (.block 2 (.loop (.seq (.seq (.ops [⟨(some 37), some undefA, none, false, .pu (.mov (.s 10))⟩,
     ⟨(some 38), some undefA, none, false, .pu (.mov (.s 2))⟩,
     ⟨(some 39), some undefA, none, false, .pu (.len (.s 38))⟩,
     ⟨(some 40), some undefA, none, false, .pu (.bin .lss (.s 37) (.s 39))⟩])
   (.cond (.s 40) (.skip)
   (.exit 2)))
   (.seq (.block 3 (.seq (.ops [⟨(some 43), some undefA, none, true, .pu (.mov (.s 2))⟩,
      ⟨(some 44), some undefA, none, true, .pu (.mov (.s 10))⟩,
      ⟨(some 45), some undefA, none, true, .pu (.idx 1 (.s 43) (.s 44))⟩,
      ⟨(some 46), some undefA, none, true, .ld (.ld 1 false (.s 45))⟩,
      ⟨(some 47), some undefA, none, true, .pu (.mov (.s 0))⟩,
      ⟨(some 48), some undefA, none, true, .pu (.mov (.s 10))⟩,
      ⟨(some 49), some undefA, none, true, .pu (.idx 1 (.s 47) (.s 48))⟩,
      ⟨(some 50), some undefA, none, true, .ld (.ld 1 false (.s 49))⟩,
      ⟨(some 51), some undefA, none, true, .pu (.mov (.s 1))⟩,
      ⟨(some 52), some undefA, none, true, .pu (.bin .mul (.s 50) (.s 51))⟩,
      ⟨(some 53), some undefA, none, true, .pu (.mov (.s 9))⟩,
      ⟨(some 54), some undefA, none, true, .pu (.bin .quo (.s 52) (.s 53))⟩,
      ⟨(some 55), some undefA, none, true, .pu (.mov (.s 0))⟩,
      ⟨(some 56), some undefA, none, true, .pu (.mov (.s 10))⟩,
      ⟨(some 57), some undefA, none, true, .pu (.idx 1 (.s 55) (.s 56))⟩,
      ⟨(some 58), some undefA, none, true, .ld (.ld 1 false (.s 57))⟩,
      ⟨(some 59), some undefA, none, true, .pu (.mov (.s 1))⟩,
      ⟨(some 60), some undefA, none, true, .pu (.bin .mul (.s 58) (.s 59))⟩,
      ⟨(some 61), some undefA, none, true, .pu (.mov (.s 9))⟩,
      ⟨(some 62), some undefA, none, true, .pu (.bin .add (.s 60) (.s 61))⟩,
      ⟨(some 63), some undefA, none, true, .pu (.bin .sub (.s 62) (.c (.int .i64 1)))⟩,
      ⟨(some 64), some undefA, none, true, .pu (.mov (.s 9))⟩,
      ⟨(some 65), some undefA, none, true, .pu (.bin .quo (.s 63) (.s 64))⟩,
      ⟨(some 66), some undefA, none, false, .call 60 [(.s 46), (.s 54), (.s 65)]⟩,
      ⟨(some 67), some undefA, none, false, .pu (.not (.s 66))⟩])
    (.cond (.s 67) (.seq (.ops [⟨(some 6), some undefA, none, false, .pu (.mov (.c (.int .i64 8)))⟩])
     (.ret))
    (.skip))))
   (.ops [⟨(some 41), some undefA, none, false, .pu (.mov (.s 10))⟩,
     ⟨(some 42), some undefA, none, false, .pu (.bin .add (.s 41) (.c (.int .i64 1)))⟩,
     ⟨(some 10), some undefA, none, false, .pu (.mov (.s 42))⟩]))))))
 (.seq (.seq (.ops [⟨(some 68), some undefA, none, false, .pu (.mov (.s 2))⟩,
   ⟨(some 69), some undefA, none, false, .call 27 [(.s 68)]⟩,
   ⟨(some 70), some undefA, none, false, .pu (.mov (.s 1))⟩,
   ⟨(some 71), some undefA, none, false, .pu (.bin .neq (.s 69) (.s 70))⟩])
 (.cond (.s 71) (.seq (.ops [⟨(some 6), some undefA, none, false, .pu (.mov (.c (.int .i64 7)))⟩])
  (.ret))
 (.skip)))
 (.seq (.ops [⟨(some 6), some undefA, none, false, .pu (.mov (.c (.int .i64 0)))⟩])
 (.ret))))))))⟩
theorem t34 : trF Try.prog [] [] Try.f34 = some m34 := by kernel_rfl
/-- selion/selionref03.Validate [] -/
def m38 : MFun := ⟨15, [], [.mov (.s 4)],
 .seq (.ops [⟨(some 4), some undefA, none, false, .pu (.mov (.c (.int .i64 0)))⟩])
 (.seq (.seq (.ops [⟨(some 5), some undefA, none, false, .pu (.mov (.s 0))⟩,
   ⟨(some 6), some undefA, none, false, .call 59 [(.s 5)]⟩,
   ⟨(some 7), some undefA, none, false, .pu (.not (.s 6))⟩,
   ⟨(some 8), some undefA, none, false, .pu (.mov (.s 7))⟩,
   ⟨(some 9), some undefA, (some (8, false)), false, .pu (.mov (.s 1))⟩,
   ⟨(some 10), some undefA, (some (8, false)), false, .pu (.mov (.s 0))⟩,
   ⟨(some 11), some undefA, (some (8, false)), false, .call 27 [(.s 10)]⟩,
   ⟨(some 12), some undefA, (some (8, false)), false, .call 60 [(.s 9), (.c (.int .i64 0)), (.s 11)]⟩,
   ⟨(some 13), some undefA, (some (8, false)), false, .pu (.not (.s 12))⟩,
   ⟨(some 14), some undefA, none, false, .pu (.pick (.s 8) (.c (.bool true)) (.s 13))⟩])
 (.cond (.s 14) (.seq (.ops [⟨(some 4), some undefA, none, false, .pu (.mov (.c (.int .i64 1)))⟩])
  (.ret))
 (.skip)))
 (.seq (.ops [⟨(some 4), some undefA, none, false, .pu (.mov (.c (.int .i64 0)))⟩])
 (.ret)))⟩
theorem t38 : trF Try.prog [] [] Try.f38 = some m38 := by kernel_rfl
/-- selion/selionref03.areClaims [loop [0, 3]] -/
def m59 : MFun := ⟨20, [], [.mov (.s 2)],
 .seq (.ops [⟨(some 2), some undefA, none, false, .pu (.mov (.c (.bool false)))⟩])
 (.seq (.seq (.ops [⟨(some 4), some undefA, none, false, .pu (.mov (.s 0))⟩,
   ⟨(some 5), some undefA, none, false, .pu (.len (.s 4))⟩,
   ⟨(some 6), some undefA, none, false, .call 60 [(.s 5), (.c (.int .i64 1)), (.c (.int .i64 8))]⟩,
   ⟨(some 7), some undefA, none, false, .pu (.not (.s 6))⟩])
 (.cond (.s 7) (.seq (.ops [⟨(some 2), some undefA, none, false, .pu (.mov (.c (.bool false)))⟩])
  (.ret))
 (.skip)))
 (.seq (.seq (.ops [⟨(some 3), some undefA, none, false, .pu (.mov (.c (.int .i64 0)))⟩])
 (.block 0 (.loop (.seq (.seq (.ops [⟨(some 8), some undefA, none, false, .pu (.mov (.s 3))⟩,
     ⟨(some 9), some undefA, none, false, .pu (.mov (.s 0))⟩,
     ⟨(some 10), some undefA, none, false, .pu (.len (.s 9))⟩,
     ⟨(some 11), some undefA, none, false, .pu (.bin .lss (.s 8) (.s 10))⟩])
   (.cond (.s 11) (.skip)
   (.exit 0)))
   (.seq (.block 1 (.seq (.ops [⟨(some 14), some undefA, none, false, .pu (.mov (.s 0))⟩,
      ⟨(some 15), some undefA, none, false, .pu (.mov (.s 3))⟩,
      ⟨(some 16), some undefA, none, false, .pu (.idx 1 (.s 14) (.s 15))⟩,
      ⟨(some 17), some undefA, none, false, .ld (.ld 1 false (.s 16))⟩,
      ⟨(some 18), some undefA, none, false, .call 60 [(.s 17), (.c (.int .i64 0)), (.c (.int .i64 1000))]⟩,
      ⟨(some 19), some undefA, none, false, .pu (.not (.s 18))⟩])
    (.cond (.s 19) (.seq (.ops [⟨(some 2), some undefA, none, false, .pu (.mov (.c (.bool false)))⟩])
     (.ret))
    (.skip))))
   (.ops [⟨(some 12), some undefA, none, false, .pu (.mov (.s 3))⟩,
     ⟨(some 13), some undefA, none, false, .pu (.bin .add (.s 12) (.c (.int .i64 1)))⟩,
     ⟨(some 3), some undefA, none, false, .pu (.mov (.s 13))⟩]))))))
 (.seq (.ops [⟨(some 2), some undefA, none, false, .pu (.mov (.c (.bool true)))⟩])
 (.ret))))⟩
theorem t59 : trF Try.prog [] [] Try.f59 = some m59 := by kernel_rfl
/-- selion/selionref01.Within [] -/
def m60 : MFun := ⟨15, [], [.mov (.s 6)],
 .seq (.ops [⟨(some 6), some undefA, none, false, .pu (.mov (.c (.bool false)))⟩])
 (.seq (.ops [⟨(some 7), some undefA, none, false, .pu (.mov (.s 0))⟩,
   ⟨(some 8), some undefA, none, false, .pu (.mov (.s 1))⟩,
   ⟨(some 9), some undefA, none, false, .pu (.bin .geq (.s 7) (.s 8))⟩,
   ⟨(some 10), some undefA, none, false, .pu (.mov (.s 9))⟩,
   ⟨(some 11), some undefA, (some (10, true)), false, .pu (.mov (.s 0))⟩,
   ⟨(some 12), some undefA, (some (10, true)), false, .pu (.mov (.s 2))⟩,
   ⟨(some 13), some undefA, (some (10, true)), false, .pu (.bin .leq (.s 11) (.s 12))⟩,
   ⟨(some 14), some undefA, none, false, .pu (.pick (.s 10) (.s 13) (.c (.bool false)))⟩,
   ⟨(some 6), some undefA, none, false, .pu (.mov (.s 14))⟩])
 (.ret))⟩
theorem t60 : trF Try.prog [] [] Try.f60 = some m60 := by kernel_rfl
/-- selion/claim.CheckWhole$1 [] -/
def m65 : MFun := ⟨9, [], [.mov (.s 2)],
 .seq (.ops [⟨(some 2), some undefA, none, false, .pu (.mov (.c (.bool false)))⟩])
 (.seq (.ops [⟨(some 3), some undefA, none, false, .pu (.mov (.s 0))⟩,
   ⟨(some 4), some undefA, none, false, .pu (.bin .lss (.s 3) (.c (.int .i64 0)))⟩,
   ⟨(some 5), some undefA, none, false, .pu (.mov (.s 4))⟩,
   ⟨(some 6), some undefA, (some (5, false)), false, .pu (.mov (.s 0))⟩,
   ⟨(some 7), some undefA, (some (5, false)), false, .pu (.bin .gtr (.s 6) (.c (.int .i64 1000)))⟩,
   ⟨(some 8), some undefA, none, false, .pu (.pick (.s 5) (.c (.bool true)) (.s 7))⟩,
   ⟨(some 2), some undefA, none, false, .pu (.mov (.s 8))⟩])
 (.ret))⟩
theorem t65 : trF Try.prog [] [] Try.f65 = some m65 := by kernel_rfl
end Go.Proofs.Ytdcdjhhjlpegjaa

namespace Go.Eng
open Go
section
variable {P : Program} {α : Type}
theorem AOps_ex : ∀ (l : List MOp) {Q : α → List AV → AHeap → Prop} {S : List AV} {H : AHeap}, AOps P l (fun S H => ∃ x, Q x S H) S H → ∃ x, AOps P l (Q x) S H := by
  intro l
  induction l with
  | nil => intro Q S H h; exact h
  | cons o r ih =>
    intro Q S H h
    simp only [AOps] at h ⊢
    split at h
    · exact h.elim
    · rename_i t _
      cases t with
      | true =>
        simp only [if_true] at h ⊢
        obtain ⟨v, H1, h1, h2, h3⟩ := h
        obtain ⟨x, hx⟩ := ih h3
        exact ⟨x, v, H1, h1, h2, hx⟩
      | false =>
        simp only [Bool.false_eq_true, if_false] at h ⊢
        exact ih h
/-- A loop with a rank. -/
def LoopR (P : Program) (a : MCode) (Q : Post) (k : Nat) (S : List AV) (H : AHeap) : Prop :=
  ∃ (J : Nat → List AV → AHeap → Prop), J k S H ∧ ∀ k S H, J k S H → AW P a (MX.then (fun S' H' => ∃ k' S'', k' < k ∧ Forget S' S'' ∧ J k' S'' H') Q) S H
/-- One round, and then loops of a smaller rank. -/
theorem LoopR_step {a : MCode} {Q : Post} {k : Nat} {S : List AV} {H : AHeap} (h : AW P a (MX.then (fun S' H' => ∃ k' S'', k' < k ∧ Forget S' S'' ∧ LoopR P a Q k' S'' H') Q) S H) : LoopR P a Q k S H := by
  refine ⟨fun j S1 H1 => (j = k ∧ S1 = S ∧ H1 = H) ∨ (j < k ∧ LoopR P a Q j S1 H1), .inl ⟨rfl, rfl, rfl⟩, ?_⟩
  rintro j S1 H1 (⟨rfl, rfl, rfl⟩ | ⟨hj, J, h1, h2⟩)
  · refine AW_mono (fun e S' H' h' => ?_) h
    cases e with
    | normal =>
      obtain ⟨k', S'', g1, g2, g3⟩ := h'
      exact ⟨k', S'', g1, g2, .inr ⟨g1, g3⟩⟩
    | exit id => exact h'
    | ret => exact h'
  · refine AW_mono (fun e S' H' h' => ?_) (h2 j S1 H1 h1)
    cases e with
    | normal =>
      obtain ⟨k', S'', g1, g2, g3⟩ := h'
      exact ⟨k', S'', g1, g2, .inr ⟨by omega, J, g3, h2⟩⟩
    | exit id => exact h'
    | ret => exact h'
theorem inScope_mono {g : Nat} {K K' : List AV → AHeap → Prop} {Q : Post} {e : MX} {S : List AV} {H : AHeap} (hk : ∀ S H, K S H → K' S H) (h : MX.inScope g K Q e S H) : MX.inScope g K' Q e S H := by
  cases e with
  | normal => exact h
  | exit id =>
    simp only [MX.inScope] at h ⊢
    split at h
    · rename_i hi; rw [if_pos hi]; exact hk _ _ h
    · rename_i hi; rw [if_neg hi]; exact h
  | ret => exact h
theorem inScope_ex {g : Nat} {K : α → List AV → AHeap → Prop} {Q : α → Post} {e : MX} {S : List AV} {H : AHeap} (h : MX.inScope g (fun S H => ∃ x, K x S H) (fun e S H => ∃ x, Q x e S H) e S H) : ∃ x, MX.inScope g (K x) (Q x) e S H := by
  cases e with
  | normal => exact h
  | exit id =>
    simp only [MX.inScope] at h ⊢
    split at h
    · rename_i hi
      obtain ⟨x, hx⟩ := h
      exact ⟨x, by rw [if_pos hi]; exact hx⟩
    · rename_i hi
      split at h
      · exact h.elim
      · rename_i hj
        obtain ⟨x, hx⟩ := h
        exact ⟨x, by rw [if_neg hi, if_neg hj]; exact hx⟩
  | ret => exact h
/-- What stands behind a label, with a rank. -/
def ScopeR (P : Program) (g : Nat) (r : MCode) (Q : Post) (k : Nat) (S : List AV) (H : AHeap) : Prop :=
  ∃ (J : Nat → List AV → AHeap → Prop), J k S H ∧ ∀ k S H, J k S H → AW P r (MX.inScope g (fun S' H' => ∃ k' S'', k' < k ∧ Forget S' S'' ∧ J k' S'' H') Q) S H
theorem ScopeR_step {g : Nat} {r : MCode} {Q : Post} {k : Nat} {S : List AV} {H : AHeap} (h : AW P r (MX.inScope g (fun S' H' => ∃ k' S'', k' < k ∧ Forget S' S'' ∧ ScopeR P g r Q k' S'' H') Q) S H) : ScopeR P g r Q k S H := by
  refine ⟨fun j S1 H1 => (j = k ∧ S1 = S ∧ H1 = H) ∨ (j < k ∧ ScopeR P g r Q j S1 H1), .inl ⟨rfl, rfl, rfl⟩, ?_⟩
  rintro j S1 H1 (⟨rfl, rfl, rfl⟩ | ⟨hj, J, h1, h2⟩)
  · refine AW_mono (fun e S' H' h' => inScope_mono (fun S' H' h3 => ?_) h') h
    obtain ⟨k', S'', g1, g2, g3⟩ := h3
    exact ⟨k', S'', g1, g2, .inr ⟨g1, g3⟩⟩
  · refine AW_mono (fun e S' H' h' => inScope_mono (fun S' H' h3 => ?_) h') (h2 j S1 H1 h1)
    obtain ⟨k', S'', g1, g2, g3⟩ := h3
    exact ⟨k', S'', g1, g2, .inr ⟨by omega, J, g3, h2⟩⟩
theorem AW_ex : ∀ {m : MCode} {Q : α → Post} {S : List AV} {H : AHeap}, AW P m (fun e S H => ∃ x, Q x e S H) S H → ∃ x, AW P m (Q x) S H := by
  intro m
  induction m with
  | skip => intro Q S H h; exact h
  | ops l => intro Q S H h; exact AOps_ex l h
  | seq a b iha ihb =>
    intro Q S H h
    refine iha (Q := fun x => MX.then (AW P b (Q x)) (Q x)) (AW_mono (fun e S H h => ?_) h)
    cases e with
    | normal => exact ihb h
    | exit id => exact h
    | ret => exact h
  | cond c a b iha ihb =>
    intro Q S H h
    simp only [AW] at h ⊢
    split at h
    · split at h
      · rename_i ht
        obtain ⟨x, hx⟩ := iha h
        exact ⟨x, by rw [if_pos ht]; exact hx⟩
      · rename_i ht
        obtain ⟨x, hx⟩ := ihb h
        exact ⟨x, by rw [if_neg ht]; exact hx⟩
    · exact h.elim
  | block id a iha =>
    intro Q S H h
    refine iha (Q := fun x => MX.inBlock id (Q x)) (AW_mono (fun e S H h => ?_) h)
    cases e with
    | normal => exact h
    | exit id' =>
      simp only [MX.inBlock] at h ⊢
      split at h
      · rename_i hi
        obtain ⟨x, hx⟩ := h
        exact ⟨x, by rw [if_pos hi]; exact hx⟩
      · rename_i hi
        obtain ⟨x, hx⟩ := h
        exact ⟨x, by rw [if_neg hi]; exact hx⟩
    | ret => exact h
  | loop a iha =>
    intro Q S H h
    obtain ⟨J, ⟨k0, S0, hf, hJ⟩, hstep⟩ := h
    have key : ∀ k S H, J k S H → ∃ x, LoopR P a (Q x) k S H := by
      intro k
      induction k using Nat.strongRecOn with
      | _ k ih =>
        intro S H hj
        have h1 := hstep k S H hj
        have h2 : ∃ x, AW P a (MX.then (fun S' H' => ∃ k' S'', k' < k ∧ Forget S' S'' ∧ LoopR P a (Q x) k' S'' H') (Q x)) S H := by
          refine iha (Q := fun x => MX.then (fun S' H' => ∃ k' S'', k' < k ∧ Forget S' S'' ∧ LoopR P a (Q x) k' S'' H') (Q x)) (AW_mono (fun e S' H' h' => ?_) h1)
          cases e with
          | normal =>
            obtain ⟨k', S'', g1, g2, g3⟩ := h'
            obtain ⟨x, hx⟩ := ih k' g1 S'' H' g3
            exact ⟨x, k', S'', g1, g2, hx⟩
          | exit id => exact h'
          | ret => exact h'
        obtain ⟨x, hx⟩ := h2
        exact ⟨x, LoopR_step hx⟩
    obtain ⟨x, J', h1, h2⟩ := key k0 S0 H hJ
    exact ⟨x, J', ⟨k0, S0, hf, h1⟩, h2⟩
  | exit id => intro Q S H h; exact h
  | cut a iha =>
    intro Q S H h
    obtain ⟨S0, h0, h1⟩ := h
    obtain ⟨x, hx⟩ := iha h1
    exact ⟨x, S0, h0, hx⟩
  | label l => intro Q S H h; exact h
  | scope g a r iha ihr =>
    intro Q S H h
    obtain ⟨J, h0, hstep⟩ := h
    have key : ∀ k S H, J k S H → ∃ x, ScopeR P g r (Q x) k S H := by
      intro k
      induction k using Nat.strongRecOn with
      | _ k ih =>
        intro S H hj
        have h1 := hstep k S H hj
        have h2 : ∃ x, AW P r (MX.inScope g (fun S' H' => ∃ k' S'', k' < k ∧ Forget S' S'' ∧ ScopeR P g r (Q x) k' S'' H') (Q x)) S H := by
          refine ihr (Q := fun x => MX.inScope g (fun S' H' => ∃ k' S'', k' < k ∧ Forget S' S'' ∧ ScopeR P g r (Q x) k' S'' H') (Q x)) (AW_mono (fun e S' H' h' => ?_) h1)
          refine inScope_ex (inScope_mono (fun S' H' h3 => ?_) h')
          obtain ⟨k', S'', g1, g2, g3⟩ := h3
          obtain ⟨x, hx⟩ := ih k' g1 S'' H' g3
          exact ⟨x, k', S'', g1, g2, hx⟩
        obtain ⟨x, hx⟩ := h2
        exact ⟨x, ScopeR_step hx⟩
    have h3 : ∃ x, AW P a (MX.inScope g (fun S' H' => ∃ k S'', Forget S' S'' ∧ ScopeR P g r (Q x) k S'' H') (Q x)) S H := by
      refine iha (Q := fun x => MX.inScope g (fun S' H' => ∃ k S'', Forget S' S'' ∧ ScopeR P g r (Q x) k S'' H') (Q x)) (AW_mono (fun e S' H' h' => ?_) h0)
      refine inScope_ex (inScope_mono (fun S' H' h3 => ?_) h')
      obtain ⟨k, S'', g2, g3⟩ := h3
      obtain ⟨x, hx⟩ := key k S'' H' g3
      exact ⟨x, k, S'', g2, hx⟩
    obtain ⟨x, hx⟩ := h3
    refine ⟨x, fun k S H => ScopeR P g r (Q x) k S H, hx, ?_⟩
    rintro k S H ⟨J', j1, j2⟩
    refine AW_mono (fun e S' H' h' => inScope_mono (fun S' H' h3 => ?_) h') (j2 k S H j1)
    obtain ⟨k', S'', g1, g2, g3⟩ := h3
    exact ⟨k', S'', g1, g2, J', g3, j2⟩
  | ret => intro Q S H h; exact h
  | fail => intro Q S H h; exact h.elim
theorem AW_false : ∀ {m : MCode} {S : List AV} {H : AHeap}, ¬ AW P m (fun _ _ _ => False) S H := by
  intro m S H h
  have h2 : AW P m (fun e S H => ∃ x : Empty, (fun (_ : Empty) (_ : MX) (_ : List AV) (_ : AHeap) => True) x e S H) S H := AW_mono (fun _ _ _ h => h.elim) h
  obtain ⟨x, _⟩ := AW_ex h2
  exact x.elim
/-- The end of a function, where what it hands back need not be known ahead. -/
def FinR (res : List PAct) (H : AHeap) (R : AV → AHeap → Prop) : Post := fun e S H1 => ∃ x : AV × AHeap, Fin res H x.1 x.2 e S H1 ∧ R x.1 x.2
theorem FinR_ret (res : List PAct) (H : AHeap) (R : AV → AHeap → Prop) (S : List AV) (H1 : AHeap) : FinR res H R .ret S H1 = on (resV res S) (fun v1 => ∃ v H', GC H v1 H1 v H' ∧ R v H') ⟨⟩ := by
  apply propext
  unfold FinR
  simp only [Fin_ret]
  unfold on
  cases resV res S with
  | none => simp
  | some v1 =>
    constructor
    · rintro ⟨x, h1, h2⟩; exact ⟨_, _, h1, h2⟩
    · rintro ⟨v, H', h1, h2⟩; exact ⟨(v, H'), h1, h2⟩
/-- A function's contract, where the result is told by what it is like. -/
theorem acallsR (hm : P.follows .mixedOrders = true) {f : FuncId} {fn : Func} (hf : P.funcs[f]? = some fn) (hn : (fn.name == "runtime.NumGoroutine") = false) {bx cs : List Nat} {m : MFun} (ht : trF P bx cs fn = some m) {args : List AV} {H : AHeap} (R : AV → AHeap → Prop) (n : Nat)
    (hl : args.length = n) (hb : m.bx.all (fun d => decide (n ≤ d)) = true) (hA : AW P m.body (FinR m.res H R) (args ++ List.replicate (m.nt - n) .junk) H) : ∃ v H', ACalls P f args H v H' ∧ R v H' := by
  obtain ⟨x, hx⟩ := AW_ex (Q := fun (x : AV × AHeap) e S H1 => Fin m.res H x.1 x.2 e S H1 ∧ R x.1 x.2) hA
  have hR : R x.1 x.2 := by
    refine Classical.byContradiction (fun hn => ?_)
    have : AW P m.body (fun _ _ _ => False) (args ++ List.replicate (m.nt - n) .junk) H := AW_mono (fun _ _ _ h => hn h.2) hx
    exact AW_false this
  exact ⟨x.1, x.2, acalls hm hf hn ht n hl hb (AW_mono (fun _ _ _ h => h.1) hx), hR⟩
end
end Go.Eng

namespace Go.Proofs.Ytdcdjhhjlpegjaa
open Go Go.Eng
section
variable {α : Type} {es : Nat} {e : α → List AV} {A H : AHeap} {v : AV} {xs : List α}
theorem AccL_ol (h : AccL es e A H v xs) (he : ∀ x, (e x).length = es) (h0 : 0 < xs.length) : ∃ n, OL es e A H n v xs ∧ v = .sl es n 0 xs.length false := by
  obtain ⟨h1, h2, h3⟩ := h
  rcases h3 with ⟨h4, _⟩ | ⟨_, n, rfl, h5, h6⟩
  · omega
  · exact ⟨n, ⟨he, h1, h5, h6, false, rfl⟩, rfl⟩
end
end Go.Proofs.Ytdcdjhhjlpegjaa

namespace Go.Proofs.Ytdcdjhhjlpegjaa
open Go Go.Eng
theorem c_wi (n lo hi : Int) (A : AHeap) : ACalls Try.prog 60 [I n, I lo, I hi] A (B (decide (lo ≤ n ∧ n ≤ hi))) A := by
  refine acalls hmix Try.func60 (by kernel_rfl) t60 3 rfl (by decide) ?_
  by_cases h : lo ≤ n
  · dsimp only [m60]
    simp (maxSteps := 4000000) -implicitDefEqProofs -dsimp (disch := omega) only [↓AW_ops, ↓AW_seq, ↓AW_ret, ↓AOps_nil, ↓AOps_pu, ↓AOps_guard, on_some, guardB_tt, ↓then_normal, ↓Fin_ret, pval, rd_S, rd_C, put_S, resV, resL, eq_self, List.replicate_succ, List.replicate_zero, List.set_cons_zero, List.set_cons_succ, List.getElem?_cons_zero, List.getElem?_cons_succ, Option.getD_some, Nat.reduceSub, List.cons_append, List.nil_append, bin_leq, bin_geq, if_true, decide_true, true_and, h]
    exact gc_same rfl
  · dsimp only [m60]
    simp (maxSteps := 4000000) -implicitDefEqProofs -dsimp (disch := omega) only [↓AW_ops, ↓AW_seq, ↓AW_ret, ↓AOps_nil, ↓AOps_pu, ↓AOps_guard, on_some, guardB_ft, skipS_some, ↓then_normal, ↓Fin_ret, pval, rd_S, rd_C, put_S, resV, resL, List.replicate_succ, List.replicate_zero, List.set_cons_zero, List.set_cons_succ, List.getElem?_cons_zero, List.getElem?_cons_succ, Option.getD_some, Nat.reduceSub, List.cons_append, List.nil_append, bin_geq, if_false, Bool.false_eq_true, decide_false, h]
    exact gc_same rfl
theorem take_sum {us : List Int} {k : Nat} {u : Int} (h : us[k]? = some u) : (us.take (k + 1)).sum = (us.take k).sum + u := by
  rw [List.take_add_one, h]
  simp
theorem sum_bd {K : Int} : ∀ {l : List Int}, (∀ x ∈ l, -K ≤ x ∧ x ≤ K) → -(K * l.length) ≤ l.sum ∧ l.sum ≤ K * l.length
  | [], _ => by simp
  | x :: l, h => by
    have ih := sum_bd (fun y hy => h y (List.mem_cons_of_mem x hy))
    have hx := h x (by simp)
    simp only [List.sum_cons, List.length_cons, Int.natCast_add, Int.cast_ofNat_Int, Int.mul_add, Int.mul_one]
    omega
theorem sum_bd0 {K : Int} : ∀ {l : List Int}, (∀ x ∈ l, 0 ≤ x ∧ x ≤ K) → 0 ≤ l.sum ∧ l.sum ≤ K * l.length
  | [], _ => by simp
  | x :: l, h => by
    have ih := sum_bd0 (fun y hy => h y (List.mem_cons_of_mem x hy))
    have hx := h x (by simp)
    simp only [List.sum_cons, List.length_cons, Int.natCast_add, Int.cast_ofNat_Int, Int.mul_add, Int.mul_one]
    omega
theorem sum_w {l : List Int} (hl : l.length ≤ 1000000) (h : ∀ x ∈ l, -1000000000000 ≤ x ∧ x ≤ 1000000000000) (i : Nat) : -1000000000000000000 ≤ (l.take i).sum ∧ (l.take i).sum ≤ 1000000000000000000 := by
  have := sum_bd (K := 1000000000000) (l := l.take i) (fun x hx => h x (List.mem_of_mem_take hx))
  have h2 : (l.take i).length ≤ 1000000 := by rw [List.length_take]; omega
  omega
theorem c_total {xs : List Int} {v : AV} {A : AHeap} (hx : L1 A v xs) (hl : xs.length ≤ 1000000) (hb : ∀ x ∈ xs, -1000000000000 ≤ x ∧ x ≤ 1000000000000) : ACalls Try.prog 54 [v] A (I xs.sum) A := by
  refine acalls hmix Try.func54 (by kernel_rfl) t54 1 rfl (by decide) ?_
  dsimp only [m54]
  simp (maxSteps := 4000000) -implicitDefEqProofs -dsimp (disch := omega) only [↓AW_ops, ↓AW_seq, ↓AW_block, ↓AOps_nil, ↓AOps_pu, on_some, ↓then_normal, pval, rd_S, rd_C, put_S, ↓AW_toLoop, List.replicate_succ, List.replicate_zero, List.set_cons_zero, List.set_cons_succ, List.getElem?_cons_zero, List.getElem?_cons_succ, Option.getD_some, Nat.reduceSub, List.cons_append, List.nil_append, hx.len]
  refine LoopK.by 17 (fun i : Nat => i ≤ xs.length) (fun i => [(3, I (xs.take i).sum), (6, v), (7, I xs.length), (8, I i)]) (fun _ => A) (fun i => xs.length - i) 0 (by omega) rfl (by simp [Has, rd_s]) rfl ?_
  intro i hi
  by_cases hlt : i < xs.length
  · obtain ⟨z, hz⟩ : ∃ z, xs[i]? = some z := ⟨_, List.getElem?_eq_getElem hlt⟩
    have hlt' : (i : Int) < xs.length := by omega
    have h1 := sum_w hl hb i
    have h2 := hb z (List.mem_of_getElem? hz)
    simp (maxSteps := 4000000) -implicitDefEqProofs -dsimp (disch := omega) only [↓AW_skip, ↓AW_ops, ↓AW_seq, ↓AW_cond, ↓AW_block, ↓AOps_nil, ↓AOps_pu, ↓AOps_ld, on_some, condB_t, ↓then_normal, ↓inBlock_normal, pval, lval, rd_S, rd_C, put_S, partA, eq_self, mk, List.foldl_cons, List.foldl_nil, List.replicate_succ, List.replicate_zero, List.set_cons_zero, List.set_cons_succ, List.getElem?_cons_zero, List.getElem?_cons_succ, List.drop_zero, List.take_succ_cons, List.take_nil, Option.getD_some, List.length_cons, List.length_nil, Nat.reduceAdd, Nat.reduceLeDiff, Nat.zero_add, bin_add, bin_lss, w64, if_true, if_false, Bool.false_eq_true, decide_true, Go.Eng.e1, true_and, hlt', hx.idx hlt, hx.ld0 hz 1 false (by decide)]
    exact ⟨i + 1, hlt, by simp [Has, rd_s, take_sum hz], by omega⟩
  · have hlt' : ¬ ((i : Int) < xs.length) := by omega
    simp (maxSteps := 4000000) -implicitDefEqProofs -dsimp (disch := omega) only [↓AW_ops, ↓AW_seq, ↓AW_cond, ↓AW_exit, ↓AW_ret, ↓AOps_nil, ↓AOps_pu, on_some, condB_f, ↓then_normal, ↓then_exit, ↓inBlock_exit, ↓Fin_ret, pval, rd_S, put_S, resV, resL, eq_self, mk, List.foldl_cons, List.foldl_nil, List.replicate_succ, List.replicate_zero, List.set_cons_zero, List.set_cons_succ, List.getElem?_cons_zero, List.getElem?_cons_succ, Option.getD_some, bin_lss, if_true, decide_false, hlt']
    rw [List.take_of_length_le (by omega)]
    exact gc_same rfl
theorem c_Sum {xs : List Int} {v : AV} {A : AHeap} (hx : L1 A v xs) (hl : xs.length ≤ 1000000) (hb : ∀ x ∈ xs, -1000000000000 ≤ x ∧ x ≤ 1000000000000) : ACalls Try.prog 27 [v] A (I xs.sum) A := by
  refine acalls hmix Try.func27 (by kernel_rfl) t27 1 rfl (by decide) ?_
  dsimp only [m27]
  simp (maxSteps := 4000000) -implicitDefEqProofs -dsimp (disch := omega) only [↓AW_ops, ↓AW_seq, ↓AW_block, ↓AOps_nil, ↓AOps_pu, on_some, ↓then_normal, pval, rd_C, put_S, ↓AW_toLoop, List.replicate_succ, List.replicate_zero, List.set_cons_zero, List.set_cons_succ, Nat.reduceSub, List.cons_append, List.nil_append]
  refine LoopK.by 18 (fun i : Nat => i ≤ xs.length) (fun i => [(0, v), (3, I (xs.take i).sum), (4, I i)]) (fun _ => A) (fun i => xs.length - i) 0 (by omega) rfl (by simp [Has, rd_s]) rfl ?_
  intro i hi
  by_cases hlt : i < xs.length
  · obtain ⟨z, hz⟩ : ∃ z, xs[i]? = some z := ⟨_, List.getElem?_eq_getElem hlt⟩
    have hlt' : (i : Int) < xs.length := by omega
    have h1 := sum_w hl hb i
    have h2 := hb z (List.mem_of_getElem? hz)
    simp (maxSteps := 4000000) -implicitDefEqProofs -dsimp (disch := omega) only [↓AW_skip, ↓AW_ops, ↓AW_seq, ↓AW_cond, ↓AW_block, ↓AOps_nil, ↓AOps_pu, ↓AOps_ld, on_some, condB_t, ↓then_normal, ↓inBlock_normal, pval, lval, rd_S, rd_C, put_S, partA, eq_self, mk, List.foldl_cons, List.foldl_nil, List.replicate_succ, List.replicate_zero, List.set_cons_zero, List.set_cons_succ, List.getElem?_cons_zero, List.getElem?_cons_succ, List.drop_zero, List.take_succ_cons, List.take_nil, Option.getD_some, List.length_cons, List.length_nil, Nat.reduceAdd, Nat.reduceLeDiff, Nat.zero_add, bin_add, bin_lss, w64, if_true, if_false, Bool.false_eq_true, decide_true, Go.Eng.e1, true_and, hlt', hx.len, hx.idx hlt, hx.ld0 hz 1 false (by decide)]
    exact ⟨i + 1, hlt, by simp [Has, rd_s, take_sum hz], by omega⟩
  · have hlt' : ¬ ((i : Int) < xs.length) := by omega
    simp (maxSteps := 4000000) -implicitDefEqProofs -dsimp (disch := omega) only [↓AW_ops, ↓AW_seq, ↓AW_cond, ↓AW_exit, ↓AW_ret, ↓AOps_nil, ↓AOps_pu, on_some, condB_f, ↓then_normal, ↓then_exit, ↓inBlock_exit, ↓Fin_ret, pval, rd_S, put_S, resV, resL, eq_self, mk, List.foldl_cons, List.foldl_nil, List.replicate_succ, List.replicate_zero, List.set_cons_zero, List.set_cons_succ, List.getElem?_cons_zero, List.getElem?_cons_succ, Option.getD_some, bin_lss, if_true, decide_false, hlt', hx.len]
    rw [List.take_of_length_le (by omega)]
    exact gc_same rfl
/-- A claim. -/
def cK (c : Int) : Bool := decide (0 ≤ c ∧ c ≤ 1000)
/-- The claims of a case. -/
def okC (cs : List Int) : Bool := decide ((1 : Int) ≤ cs.length ∧ (cs.length : Int) ≤ 8) && cs.all cK
/-- The first error of a case. -/
def vE (cs : List Int) (e : Int) : Int := if okC cs = true ∧ 0 ≤ e ∧ e ≤ cs.sum then 0 else 1
structure OK (cs : List Int) : Prop where
  l1 : 1 ≤ cs.length
  l8 : cs.length ≤ 8
  c : ∀ x ∈ cs, 0 ≤ x ∧ x ≤ 1000
theorem okC_iff {cs : List Int} : okC cs = true ↔ OK cs := by
  unfold okC
  rw [Bool.and_eq_true, decide_eq_true_iff, List.all_eq_true]
  constructor
  · rintro ⟨h1, h2⟩
    exact ⟨by omega, by omega, fun x hx => by simpa [cK] using h2 x hx⟩
  · rintro ⟨h1, h2, h3⟩
    exact ⟨by omega, fun x hx => by simpa [cK] using h3 x hx⟩
theorem OK.bd {cs : List Int} (h : OK cs) : ∀ x ∈ cs, -1000000000000 ≤ x ∧ x ≤ 1000000000000 := fun x hx => by have := h.c x hx; omega
theorem OK.sum {cs : List Int} (h : OK cs) : 0 ≤ cs.sum ∧ cs.sum ≤ 8000 := by
  have := sum_bd0 h.c
  have := h.l8
  omega
/-- A case. -/
structure CE (cs : List Int) (e : Int) : Prop where
  ok : OK cs
  e0 : 0 ≤ e
  e1 : e ≤ cs.sum
theorem vE_0 {cs : List Int} {e : Int} : vE cs e = 0 ↔ CE cs e := by
  unfold vE
  constructor
  · intro h
    split at h
    · rename_i g; exact ⟨okC_iff.1 g.1, g.2.1, g.2.2⟩
    · cases h
  · rintro ⟨h1, h2, h3⟩
    rw [if_pos ⟨okC_iff.2 h1, h2, h3⟩]
section
variable {cs : List Int} {v : AV} {A : AHeap}
theorem s78 (n : Int) (A : AHeap) : ACalls Try.prog 78 [I n] A (B (!cK n)) A := by
  refine acalls hmix Try.func78 (by kernel_rfl) t78 1 rfl (by decide) ?_
  by_cases h : n < 0
  · have : cK n = false := by simp [cK]; omega
    dsimp only [m78]
    simp (maxSteps := 4000000) -implicitDefEqProofs -dsimp (disch := omega) only [↓AW_ops, ↓AW_seq, ↓AW_ret, ↓AOps_nil, ↓AOps_pu, ↓AOps_guard, on_some, guardB_tf, skipS_some, ↓then_normal, ↓Fin_ret, pval, rd_S, rd_C, put_S, resV, resL, eq_self, List.replicate_succ, List.replicate_zero, List.set_cons_zero, List.set_cons_succ, List.getElem?_cons_zero, List.getElem?_cons_succ, Option.getD_some, Nat.reduceSub, List.cons_append, List.nil_append, bin_lss, if_true, decide_true, h]
    exact gc_same (by rw [this]; rfl)
  · by_cases h2 : 1000 < n
    · have : cK n = false := by simp [cK]; omega
      dsimp only [m78]
      simp (maxSteps := 4000000) -implicitDefEqProofs -dsimp (disch := omega) only [↓AW_ops, ↓AW_seq, ↓AW_ret, ↓AOps_nil, ↓AOps_pu, ↓AOps_guard, on_some, guardB_ff, ↓then_normal, ↓Fin_ret, pval, rd_S, rd_C, put_S, resV, resL, List.replicate_succ, List.replicate_zero, List.set_cons_zero, List.set_cons_succ, List.getElem?_cons_zero, List.getElem?_cons_succ, Option.getD_some, Nat.reduceSub, List.cons_append, List.nil_append, bin_lss, bin_gtr, if_false, Bool.false_eq_true, decide_true, decide_false, h, h2]
      exact gc_same (by rw [this]; rfl)
    · have : cK n = true := by simp [cK]; omega
      dsimp only [m78]
      simp (maxSteps := 4000000) -implicitDefEqProofs -dsimp (disch := omega) only [↓AW_ops, ↓AW_seq, ↓AW_ret, ↓AOps_nil, ↓AOps_pu, ↓AOps_guard, on_some, guardB_ff, ↓then_normal, ↓Fin_ret, pval, rd_S, rd_C, put_S, resV, resL, List.replicate_succ, List.replicate_zero, List.set_cons_zero, List.set_cons_succ, List.getElem?_cons_zero, List.getElem?_cons_succ, Option.getD_some, Nat.reduceSub, List.cons_append, List.nil_append, bin_lss, bin_gtr, if_false, Bool.false_eq_true, decide_false, h, h2]
      exact gc_same (by rw [this]; rfl)
theorem any_not {g : Int → Bool} (xs : List Int) : (!(xs.any (fun y => !g y))) = xs.all g := by
  induction xs with
  | nil => rfl
  | cons x xs ih => rw [List.any_cons, List.all_cons, ← ih, Bool.not_or, Bool.not_not]
theorem s53 (hx : L1 A v cs) (hl : cs.length ≤ 1000000) : ACalls Try.prog 53 [v] A (B (okC cs)) A := by
  refine acalls hmix Try.func53 (by kernel_rfl) t53 1 rfl (by decide) ?_
  by_cases h1 : (1 : Int) ≤ cs.length
  · by_cases h8 : (cs.length : Int) ≤ 8
    · dsimp only [m53]
      simp (maxSteps := 4000000) -implicitDefEqProofs -dsimp (disch := omega) only [↓AW_ops, ↓AW_seq, ↓AOps_nil, ↓AOps_pu, ↓AOps_call, ↓AOps_guard, on_some, guardB_tt, ↓then_normal, pval, rd_S, rd_C, put_S, eq_self, List.replicate_succ, List.replicate_zero, List.set_cons_zero, List.set_cons_succ, List.getElem?_cons_zero, List.getElem?_cons_succ, Option.getD_some, map_c, map_n, Nat.reduceSub, List.cons_append, List.nil_append, bin_leq, bin_geq, if_true, decide_true, hx.len, h1, h8]
      refine CallK.of (c_ContainsFunc hx hl 78 [] (fun c => !cK c) (fun x _ => s78 x A)) ?_
      simp (maxSteps := 4000000) -implicitDefEqProofs -dsimp (disch := omega) only [↓AW_ret, ↓AOps_nil, ↓AOps_pu, ↓AOps_guard, on_some, extK_same, guardB_tt, ↓then_normal, ↓Fin_ret, pval, rd_S, rd_C, put_S, resV, resL, eq_self, List.replicate_succ, List.replicate_zero, List.set_cons_zero, List.set_cons_succ, List.getElem?_cons_zero, List.getElem?_cons_succ, Option.getD_some, Nat.reduceSub, List.cons_append, List.nil_append, if_true]
      refine gc_same ?_
      unfold okC
      rw [← any_not (g := cK)]
      simp [h1, h8]
    · dsimp only [m53]
      simp (maxSteps := 4000000) -implicitDefEqProofs -dsimp (disch := omega) only [↓AW_ops, ↓AW_seq, ↓AW_ret, ↓AOps_nil, ↓AOps_pu, ↓AOps_guard, on_some, guardB_tt, guardB_ft, skipS_some, ↓then_normal, ↓Fin_ret, pval, rd_S, rd_C, put_S, resV, resL, eq_self, List.replicate_succ, List.replicate_zero, List.set_cons_zero, List.set_cons_succ, List.getElem?_cons_zero, List.getElem?_cons_succ, Option.getD_some, Nat.reduceSub, List.cons_append, List.nil_append, bin_leq, bin_geq, if_true, if_false, Bool.false_eq_true, decide_true, decide_false, hx.len, h1, h8]
      exact gc_same (by unfold okC; simp [h1, h8])
  · dsimp only [m53]
    simp (maxSteps := 4000000) -implicitDefEqProofs -dsimp (disch := omega) only [↓AW_ops, ↓AW_seq, ↓AW_ret, ↓AOps_nil, ↓AOps_pu, ↓AOps_guard, on_some, guardB_ft, skipS_some, ↓then_normal, ↓Fin_ret, pval, rd_S, rd_C, put_S, resV, resL, List.replicate_succ, List.replicate_zero, List.set_cons_zero, List.set_cons_succ, List.getElem?_cons_zero, List.getElem?_cons_succ, Option.getD_some, Nat.reduceSub, List.cons_append, List.nil_append, bin_geq, if_false, Bool.false_eq_true, decide_false, hx.len, h1]
    exact gc_same (by unfold okC; simp [h1])
theorem s59 (hx : L1 A v cs) (hl : cs.length ≤ 1000000) : ACalls Try.prog 59 [v] A (B (okC cs)) A := by
  refine acalls hmix Try.func59 (by kernel_rfl) t59 1 rfl (by decide) ?_
  dsimp only [m59]
  simp (maxSteps := 4000000) -implicitDefEqProofs -dsimp (disch := omega) only [↓AW_ops, ↓AW_seq, ↓AOps_nil, ↓AOps_pu, ↓AOps_call, on_some, ↓then_normal, pval, rd_S, rd_C, put_S, List.replicate_succ, List.replicate_zero, List.set_cons_zero, List.set_cons_succ, List.getElem?_cons_zero, List.getElem?_cons_succ, Option.getD_some, map_c, map_n, Nat.reduceSub, List.cons_append, List.nil_append, hx.len]
  refine CallK.of (c_wi _ _ _ _) ?_
  by_cases h1 : (1 : Int) ≤ cs.length ∧ (cs.length : Int) ≤ 8
  · simp (maxSteps := 4000000) -implicitDefEqProofs -dsimp (disch := omega) only [↓AW_skip, ↓AW_ops, ↓AW_seq, ↓AW_cond, ↓AW_block, ↓AOps_nil, ↓AOps_pu, on_some, extK_same, condB_f, ↓then_normal, pval, rd_S, rd_C, put_S, ↓AW_toLoop, List.replicate_succ, List.replicate_zero, List.set_cons_zero, List.set_cons_succ, List.getElem?_cons_zero, List.getElem?_cons_succ, Option.getD_some, Nat.reduceSub, List.cons_append, List.nil_append, Bool.not_true, decide_true, and_true, h1]
    refine LoopK.by 20 (fun i : Nat => i ≤ cs.length ∧ (cs.take i).all cK = true) (fun i => [(0, v), (3, I i)]) (fun _ => A) (fun i => cs.length - i) 0 ⟨by omega, rfl⟩ rfl (by simp [Has, rd_s]) rfl ?_
    rintro i ⟨hi, he⟩
    by_cases hlt : i < cs.length
    · obtain ⟨z, hz⟩ : ∃ z, cs[i]? = some z := ⟨_, List.getElem?_eq_getElem hlt⟩
      have hlt' : (i : Int) < cs.length := by omega
      simp (maxSteps := 4000000) -implicitDefEqProofs -dsimp (disch := omega) only [↓AW_skip, ↓AW_ops, ↓AW_seq, ↓AW_cond, ↓AW_block, ↓AOps_nil, ↓AOps_pu, ↓AOps_ld, ↓AOps_call, on_some, condB_t, ↓then_normal, pval, lval, rd_S, rd_C, put_S, partA, eq_self, mk, List.foldl_cons, List.foldl_nil, List.replicate_succ, List.replicate_zero, List.set_cons_zero, List.set_cons_succ, List.getElem?_cons_zero, List.getElem?_cons_succ, List.drop_zero, List.take_succ_cons, List.take_nil, Option.getD_some, map_c, map_n, List.length_cons, List.length_nil, Nat.reduceLeDiff, Nat.zero_add, bin_lss, if_true, if_false, Bool.false_eq_true, decide_true, Go.Eng.e1, hlt', hx.len, hx.idx hlt, hx.ld0 hz 1 false (by decide)]
      refine CallK.of (c_wi _ _ _ _) ?_
      by_cases h2 : 0 ≤ z ∧ z ≤ 1000
      · simp (maxSteps := 4000000) -implicitDefEqProofs -dsimp (disch := omega) only [↓AW_skip, ↓AW_ops, ↓AW_cond, ↓AOps_nil, ↓AOps_pu, on_some, extK_same, condB_f, ↓then_normal, ↓inBlock_normal, pval, rd_S, rd_C, put_S, eq_self, mk, List.foldl_cons, List.foldl_nil, List.replicate_succ, List.replicate_zero, List.set_cons_zero, List.set_cons_succ, List.getElem?_cons_zero, List.getElem?_cons_succ, Option.getD_some, List.length_cons, List.length_nil, Nat.reduceAdd, Nat.zero_add, bin_add, w64, Bool.not_true, decide_true, true_and, and_true, h2]
        refine ⟨i + 1, ⟨hlt, ?_⟩, by simp [Has, rd_s], by omega⟩
        rw [List.take_add_one, hz, List.all_append, he]
        simp [cK, h2]
      · simp (maxSteps := 4000000) -implicitDefEqProofs -dsimp (disch := omega) only [↓AW_ops, ↓AW_seq, ↓AW_cond, ↓AW_ret, ↓AOps_nil, ↓AOps_pu, on_some, extK_same, condB_t, ↓then_normal, ↓then_ret, ↓inBlock_ret, ↓Fin_ret, pval, rd_S, rd_C, put_S, resV, resL, mk, List.foldl_cons, List.foldl_nil, List.replicate_succ, List.replicate_zero, List.set_cons_zero, List.set_cons_succ, List.getElem?_cons_zero, List.getElem?_cons_succ, Option.getD_some, Bool.not_false, decide_false, h2]
        refine gc_same ?_
        have : okC cs = false := by
          unfold okC
          have hf : cs.all cK = false := by
            rw [← Bool.not_eq_true, List.all_eq_true]
            intro hh
            have := hh z (List.mem_of_getElem? hz)
            simp [cK] at this
            omega
          rw [hf, Bool.and_false]
        rw [this]
    · have hlt' : ¬ ((i : Int) < cs.length) := by omega
      rw [List.take_of_length_le (by omega)] at he
      simp (maxSteps := 4000000) -implicitDefEqProofs -dsimp (disch := omega) only [↓AW_ops, ↓AW_seq, ↓AW_cond, ↓AW_exit, ↓AW_ret, ↓AOps_nil, ↓AOps_pu, on_some, condB_f, ↓then_normal, ↓then_exit, ↓inBlock_exit, ↓Fin_ret, pval, rd_S, rd_C, put_S, resV, resL, eq_self, mk, List.foldl_cons, List.foldl_nil, List.replicate_succ, List.replicate_zero, List.set_cons_zero, List.set_cons_succ, List.getElem?_cons_zero, List.getElem?_cons_succ, Option.getD_some, bin_lss, if_true, decide_false, hlt', hx.len]
      exact gc_same (by unfold okC; rw [he]; simp [h1])
  · simp (maxSteps := 4000000) -implicitDefEqProofs -dsimp (disch := omega) only [↓AW_ops, ↓AW_seq, ↓AW_cond, ↓AW_ret, ↓AOps_nil, ↓AOps_pu, on_some, extK_same, condB_t, ↓then_normal, ↓then_ret, ↓Fin_ret, pval, rd_S, rd_C, put_S, resV, resL, List.replicate_succ, List.replicate_zero, List.set_cons_zero, List.set_cons_succ, List.getElem?_cons_zero, List.getElem?_cons_succ, Option.getD_some, Nat.reduceSub, List.cons_append, List.nil_append, Bool.not_false, decide_false, h1]
    exact gc_same (by unfold okC; simp [h1])
theorem s16 (hx : L1 A v cs) (hl : cs.length ≤ 1000000) (e : Int) : ACalls Try.prog 16 [v, I e] A (I (vE cs e)) A := by
  refine acalls hmix Try.func16 (by kernel_rfl) t16 2 rfl (by decide) ?_
  dsimp only [m16]
  simp (maxSteps := 4000000) -implicitDefEqProofs -dsimp (disch := omega) only [↓AW_ops, ↓AW_seq, ↓AOps_nil, ↓AOps_pu, ↓AOps_call, on_some, ↓then_normal, pval, rd_S, rd_C, put_S, List.replicate_succ, List.replicate_zero, List.set_cons_zero, List.set_cons_succ, List.getElem?_cons_zero, List.getElem?_cons_succ, Option.getD_some, map_c, map_n, Nat.reduceSub, List.cons_append, List.nil_append]
  refine CallK.of (s53 hx hl) ?_
  by_cases h1 : okC cs = true
  · by_cases h2 : e < 0
    · simp (maxSteps := 4000000) -implicitDefEqProofs -dsimp (disch := omega) only [↓AW_ops, ↓AW_seq, ↓AW_cond, ↓AW_ret, ↓AOps_nil, ↓AOps_pu, ↓AOps_guard, on_some, extK_same, guardB_tf, guardB_ff, skipS_some, condB_t, ↓then_normal, ↓then_ret, ↓Fin_ret, pval, rd_S, rd_C, put_S, resV, resL, eq_self, List.replicate_succ, List.replicate_zero, List.set_cons_zero, List.set_cons_succ, List.getElem?_cons_zero, List.getElem?_cons_succ, Option.getD_some, Nat.reduceSub, List.cons_append, List.nil_append, bin_lss, if_true, if_false, Bool.false_eq_true, Bool.not_true, decide_true, h1, h2]
      exact gc_same (by unfold vE; rw [if_neg (by omega)])
    · simp (maxSteps := 4000000) -implicitDefEqProofs -dsimp (disch := omega) only [↓AOps_pu, ↓AOps_call, ↓AOps_guard, on_some, extK_same, guardB_ff, pval, rd_S, rd_C, put_S, List.replicate_succ, List.replicate_zero, List.set_cons_zero, List.set_cons_succ, List.getElem?_cons_zero, List.getElem?_cons_succ, Option.getD_some, map_c, map_n, Nat.reduceSub, List.cons_append, List.nil_append, bin_lss, if_false, Bool.false_eq_true, Bool.not_true, decide_false, h1, h2]
      refine CallK.of (c_total hx hl (okC_iff.1 h1).bd) ?_
      by_cases h3 : cs.sum < e
      · simp (maxSteps := 4000000) -implicitDefEqProofs -dsimp (disch := omega) only [↓AW_ops, ↓AW_seq, ↓AW_cond, ↓AW_ret, ↓AOps_nil, ↓AOps_pu, ↓AOps_guard, on_some, extK_same, guardB_ff, condB_t, ↓then_normal, ↓then_ret, ↓Fin_ret, pval, rd_S, rd_C, put_S, resV, resL, List.replicate_succ, List.replicate_zero, List.set_cons_zero, List.set_cons_succ, List.getElem?_cons_zero, List.getElem?_cons_succ, Option.getD_some, Nat.reduceSub, List.cons_append, List.nil_append, bin_gtr, if_false, Bool.false_eq_true, decide_true, h3]
        exact gc_same (by unfold vE; rw [if_neg (by omega)])
      · simp (maxSteps := 4000000) -implicitDefEqProofs -dsimp (disch := omega) only [↓AW_skip, ↓AW_ops, ↓AW_seq, ↓AW_cond, ↓AW_ret, ↓AOps_nil, ↓AOps_pu, ↓AOps_guard, on_some, extK_same, guardB_ff, condB_f, ↓then_normal, ↓Fin_ret, pval, rd_S, rd_C, put_S, resV, resL, List.replicate_succ, List.replicate_zero, List.set_cons_zero, List.set_cons_succ, List.getElem?_cons_zero, List.getElem?_cons_succ, Option.getD_some, Nat.reduceSub, List.cons_append, List.nil_append, bin_gtr, if_false, Bool.false_eq_true, decide_false, h3]
        exact gc_same (by unfold vE; rw [if_pos ⟨h1, by omega, by omega⟩])
  · have h1' : okC cs = false := by simpa using h1
    simp (maxSteps := 4000000) -implicitDefEqProofs -dsimp (disch := omega) only [↓AW_ops, ↓AW_seq, ↓AW_cond, ↓AW_ret, ↓AOps_nil, ↓AOps_pu, ↓AOps_guard, on_some, extK_same, guardB_tf, skipS_some, condB_t, ↓then_normal, ↓then_ret, ↓Fin_ret, pval, rd_S, rd_C, put_S, resV, resL, eq_self, List.replicate_succ, List.replicate_zero, List.set_cons_zero, List.set_cons_succ, List.getElem?_cons_zero, List.getElem?_cons_succ, Option.getD_some, Nat.reduceSub, List.cons_append, List.nil_append, if_true, Bool.not_false, h1']
    exact gc_same (by unfold vE; rw [if_neg (fun hh => h1 hh.1)])
theorem s38 (hx : L1 A v cs) (hl : cs.length ≤ 1000000) (e : Int) : ACalls Try.prog 38 [v, I e] A (I (vE cs e)) A := by
  refine acalls hmix Try.func38 (by kernel_rfl) t38 2 rfl (by decide) ?_
  dsimp only [m38]
  simp (maxSteps := 4000000) -implicitDefEqProofs -dsimp (disch := omega) only [↓AW_ops, ↓AW_seq, ↓AOps_nil, ↓AOps_pu, ↓AOps_call, on_some, ↓then_normal, pval, rd_S, rd_C, put_S, List.replicate_succ, List.replicate_zero, List.set_cons_zero, List.set_cons_succ, List.getElem?_cons_zero, List.getElem?_cons_succ, Option.getD_some, map_c, map_n, Nat.reduceSub, List.cons_append, List.nil_append]
  refine CallK.of (s59 hx hl) ?_
  by_cases h1 : okC cs = true
  · simp (maxSteps := 4000000) -implicitDefEqProofs -dsimp (disch := omega) only [↓AOps_pu, ↓AOps_call, ↓AOps_guard, on_some, extK_same, guardB_ff, pval, rd_S, put_S, List.replicate_succ, List.replicate_zero, List.set_cons_zero, List.set_cons_succ, List.getElem?_cons_zero, List.getElem?_cons_succ, Option.getD_some, map_c, map_n, Nat.reduceSub, List.cons_append, List.nil_append, Bool.not_true, h1]
    refine CallK.of (c_Sum hx hl (okC_iff.1 h1).bd) ?_
    simp (maxSteps := 4000000) -implicitDefEqProofs -dsimp (disch := omega) only [↓AOps_call, ↓AOps_guard, extK_same, guardB_ff, rd_S, rd_C, put_S, List.replicate_succ, List.replicate_zero, List.set_cons_zero, List.set_cons_succ, List.getElem?_cons_zero, List.getElem?_cons_succ, Option.getD_some, map_c, map_n, Nat.reduceSub, List.cons_append, List.nil_append]
    refine CallK.of (c_wi _ _ _ _) ?_
    by_cases h2 : 0 ≤ e ∧ e ≤ cs.sum
    · simp (maxSteps := 4000000) -implicitDefEqProofs -dsimp (disch := omega) only [↓AW_skip, ↓AW_ops, ↓AW_seq, ↓AW_cond, ↓AW_ret, ↓AOps_nil, ↓AOps_pu, ↓AOps_guard, on_some, extK_same, guardB_ff, condB_f, ↓then_normal, ↓Fin_ret, pval, rd_S, rd_C, put_S, resV, resL, List.replicate_succ, List.replicate_zero, List.set_cons_zero, List.set_cons_succ, List.getElem?_cons_zero, List.getElem?_cons_succ, Option.getD_some, Nat.reduceSub, List.cons_append, List.nil_append, if_false, Bool.false_eq_true, Bool.not_true, decide_true, and_true, h2]
      exact gc_same (by unfold vE; rw [if_pos ⟨h1, h2⟩])
    · simp (maxSteps := 4000000) -implicitDefEqProofs -dsimp (disch := omega) only [↓AW_ops, ↓AW_seq, ↓AW_cond, ↓AW_ret, ↓AOps_nil, ↓AOps_pu, ↓AOps_guard, on_some, extK_same, guardB_ff, condB_t, ↓then_normal, ↓then_ret, ↓Fin_ret, pval, rd_S, rd_C, put_S, resV, resL, List.replicate_succ, List.replicate_zero, List.set_cons_zero, List.set_cons_succ, List.getElem?_cons_zero, List.getElem?_cons_succ, Option.getD_some, Nat.reduceSub, List.cons_append, List.nil_append, if_false, Bool.false_eq_true, Bool.not_false, decide_false, h2]
      exact gc_same (by unfold vE; rw [if_neg (fun hh => h2 hh.2)])
  · have h1' : okC cs = false := by simpa using h1
    simp (maxSteps := 4000000) -implicitDefEqProofs -dsimp (disch := omega) only [↓AW_ops, ↓AW_seq, ↓AW_cond, ↓AW_ret, ↓AOps_nil, ↓AOps_pu, ↓AOps_guard, on_some, extK_same, guardB_tf, skipS_some, condB_t, ↓then_normal, ↓then_ret, ↓Fin_ret, pval, rd_S, rd_C, put_S, resV, resL, eq_self, List.replicate_succ, List.replicate_zero, List.set_cons_zero, List.set_cons_succ, List.getElem?_cons_zero, List.getElem?_cons_succ, Option.getD_some, Nat.reduceSub, List.cons_append, List.nil_append, if_true, Bool.not_false, h1']
    exact gc_same (by unfold vE; rw [if_neg (fun hh => h1 hh.1)])
end
theorem take_succ_eq {α : Type} {xs ys : List α} {i : Nat} {z w : α} (hz : xs[i]? = some z) (hw : ys[i]? = some w) : xs.take (i + 1) = ys.take (i + 1) ↔ xs.take i = ys.take i ∧ z = w := by
  rw [List.take_add_one, List.take_add_one, hz, hw]
  constructor
  · intro h
    have := List.append_inj' h rfl
    exact ⟨this.1, by simpa using this.2⟩
  · rintro ⟨h, rfl⟩; rw [h]
theorem c_SameInts {xs ys : List Int} {v u : AV} {A : AHeap} (hx : L1 A v xs) (hy : L1 A u ys) (hl : xs.length ≤ 1000000) : ACalls Try.prog 26 [v, u] A (B (decide (xs = ys))) A := by
  refine acalls hmix Try.func26 (by kernel_rfl) t26 2 rfl (by decide) ?_
  by_cases hle : xs.length = ys.length
  · have hle' : (xs.length : Int) = ys.length := by omega
    dsimp only [m26]
    simp (maxSteps := 4000000) -implicitDefEqProofs -dsimp (disch := omega) only [↓AW_skip, ↓AW_ops, ↓AW_seq, ↓AW_cond, ↓AW_block, ↓AOps_nil, ↓AOps_pu, on_some, condB_f, ↓then_normal, pval, rd_S, rd_C, put_S, ↓AW_toLoop, eq_self, List.replicate_succ, List.replicate_zero, List.set_cons_zero, List.set_cons_succ, List.getElem?_cons_zero, List.getElem?_cons_succ, Option.getD_some, Nat.reduceSub, List.cons_append, List.nil_append, bin_neq, decide_false, not_true_eq_false, hx.len, hy.len, hle']
    refine LoopK.by 26 (fun i : Nat => i ≤ xs.length ∧ xs.take i = ys.take i) (fun i => [(0, v), (1, u), (5, I i)]) (fun _ => A) (fun i => xs.length - i) 0 ⟨by omega, rfl⟩ rfl (by simp [Has, rd_s]) rfl ?_
    rintro i ⟨hi, he⟩
    by_cases hlt : i < xs.length
    · obtain ⟨z, hz⟩ : ∃ z, xs[i]? = some z := ⟨_, List.getElem?_eq_getElem hlt⟩
      have hlt' : (i : Int) < xs.length := by omega
      have hlt2 : i < ys.length := by omega
      obtain ⟨w, hw⟩ : ∃ w, ys[i]? = some w := ⟨_, List.getElem?_eq_getElem hlt2⟩
      by_cases hzw : z = w
      · subst hzw
        simp (maxSteps := 4000000) -implicitDefEqProofs -dsimp (disch := omega) only [↓AW_skip, ↓AW_ops, ↓AW_seq, ↓AW_cond, ↓AW_block, ↓AOps_nil, ↓AOps_pu, ↓AOps_ld, on_some, condB_t, condB_f, ↓then_normal, ↓inBlock_normal, pval, lval, rd_S, rd_C, put_S, partA, eq_self, mk, List.foldl_cons, List.foldl_nil, List.replicate_succ, List.replicate_zero, List.set_cons_zero, List.set_cons_succ, List.getElem?_cons_zero, List.getElem?_cons_succ, List.drop_zero, List.take_succ_cons, List.take_nil, Option.getD_some, List.length_cons, List.length_nil, Nat.reduceAdd, Nat.reduceLeDiff, Nat.zero_add, bin_add, bin_neq, bin_lss, w64, if_true, if_false, Bool.false_eq_true, decide_true, decide_false, Go.Eng.e1, true_and, not_true_eq_false, hlt', hx.len, hx.idx hlt, hx.ld0 hz 1 false (by decide), hy.idx hlt2, hy.ld0 hw 1 false (by decide)]
        exact ⟨i + 1, ⟨hlt, (take_succ_eq hz hw).2 ⟨he, rfl⟩⟩, by simp [Has, rd_s], by omega⟩
      · simp (maxSteps := 4000000) -implicitDefEqProofs -dsimp (disch := omega) only [↓AW_skip, ↓AW_ops, ↓AW_seq, ↓AW_cond, ↓AW_block, ↓AW_ret, ↓AOps_nil, ↓AOps_pu, ↓AOps_ld, on_some, condB_t, ↓then_normal, ↓then_ret, ↓inBlock_ret, ↓Fin_ret, pval, lval, rd_S, rd_C, put_S, resV, resL, partA, eq_self, mk, List.foldl_cons, List.foldl_nil, List.replicate_succ, List.replicate_zero, List.set_cons_zero, List.set_cons_succ, List.getElem?_cons_zero, List.getElem?_cons_succ, List.drop_zero, List.take_succ_cons, List.take_nil, Option.getD_some, List.length_cons, List.length_nil, Nat.reduceLeDiff, Nat.zero_add, bin_neq, bin_lss, if_true, if_false, Bool.false_eq_true, decide_true, Go.Eng.e1, not_false_eq_true, hlt', hx.len, hx.idx hlt, hx.ld0 hz 1 false (by decide), hy.idx hlt2, hy.ld0 hw 1 false (by decide), hzw]
        refine gc_same ?_
        have : ¬ xs = ys := by rintro rfl; rw [hz] at hw; exact hzw (Option.some.inj hw)
        simp [this]
    · have hlt' : ¬ ((i : Int) < xs.length) := by omega
      simp (maxSteps := 4000000) -implicitDefEqProofs -dsimp (disch := omega) only [↓AW_ops, ↓AW_seq, ↓AW_cond, ↓AW_exit, ↓AW_ret, ↓AOps_nil, ↓AOps_pu, on_some, condB_f, ↓then_normal, ↓then_exit, ↓inBlock_exit, ↓Fin_ret, pval, rd_S, rd_C, put_S, resV, resL, eq_self, mk, List.foldl_cons, List.foldl_nil, List.replicate_succ, List.replicate_zero, List.set_cons_zero, List.set_cons_succ, List.getElem?_cons_zero, List.getElem?_cons_succ, Option.getD_some, bin_lss, if_true, decide_false, hlt', hx.len]
      rw [List.take_of_length_le (by omega), List.take_of_length_le (by omega)] at he
      exact gc_same (by simp [he])
  · have hle' : ¬ (xs.length : Int) = ys.length := by omega
    dsimp only [m26]
    simp (maxSteps := 4000000) -implicitDefEqProofs -dsimp (disch := omega) only [↓AW_ops, ↓AW_seq, ↓AW_cond, ↓AW_ret, ↓AOps_nil, ↓AOps_pu, on_some, condB_t, ↓then_normal, ↓then_ret, ↓Fin_ret, pval, rd_S, rd_C, put_S, resV, resL, List.replicate_succ, List.replicate_zero, List.set_cons_zero, List.set_cons_succ, List.getElem?_cons_zero, List.getElem?_cons_succ, Option.getD_some, Nat.reduceSub, List.cons_append, List.nil_append, bin_neq, decide_true, not_false_eq_true, hx.len, hy.len, hle']
    have : ¬ xs = ys := by rintro rfl; exact hle rfl
    exact gc_same (by simp [this])
theorem s23 {xs : List Int} {v : AV} {A : AHeap} (hx : L1 A v xs) : ACalls Try.prog 23 [v] A (B (decide ((40 : Int) < xs.length))) A := by
  refine acalls hmix Try.func23 (by kernel_rfl) t23 1 rfl (by decide) ?_
  dsimp only [m23]
  simp (maxSteps := 4000000) -implicitDefEqProofs -dsimp (disch := omega) only [↓AW_ops, ↓AW_seq, ↓AW_ret, ↓AOps_nil, ↓AOps_pu, on_some, ↓then_normal, ↓Fin_ret, pval, rd_S, rd_C, put_S, resV, resL, List.replicate_succ, List.replicate_zero, List.set_cons_zero, List.set_cons_succ, List.getElem?_cons_zero, List.getElem?_cons_succ, Option.getD_some, Nat.reduceSub, List.cons_append, List.nil_append, bin_gtr, hx.len]
  exact gc_same rfl
end Go.Proofs.Ytdcdjhhjlpegjaa

namespace Go.Proofs.Ytdcdjhhjlpegjaa
open Go Go.Eng
def nrm (a b : Int) : AV := .agg [I (a.tdiv (Int.gcd a b)), I (b.tdiv (Int.gcd a b))]
abbrev R (q : Rat) : AV := .agg [I q.num, I (q.den : Int)]
theorem tdiv_eq {n : Int} {g : Nat} (h : (g : Int) ∣ n) : n.tdiv g = n / g := by
  rw [Int.tdiv_eq_ediv_of_dvd h]
theorem den_pos (q : Rat) : 0 < (q.den : Int) := by have := q.den_pos; omega
theorem nrm_R (n d : Int) (hd : 0 < d) : nrm n d = R ((n : Rat) / (d : Rat)) := by
  have h0 : d.toNat ≠ 0 := by omega
  have hg : d.toNat.gcd n.natAbs = Int.gcd n d := by
    unfold Int.gcd
    rw [Nat.gcd_comm]; congr 1; omega
  have e : (n : Rat) / (d : Rat) = mkRat n d.toNat := by
    rw [Rat.mkRat_eq_div]
    have : ((d.toNat : Nat) : Rat) = ((d : Int) : Rat) := by
      rw [← Rat.intCast_natCast, Int.toNat_of_nonneg (by omega)]
    rw [this]
  rw [e]
  unfold nrm
  have h1 : (mkRat n d.toNat).num = n.tdiv (Int.gcd n d) := by
    rw [Rat.num_mkRat, if_neg h0, hg, tdiv_eq (Int.gcd_dvd_left n d)]
  have h2 : ((mkRat n d.toNat).den : Int) = d.tdiv (Int.gcd n d) := by
    rw [Rat.den_mkRat, if_neg h0, hg, tdiv_eq (Int.gcd_dvd_right n d), Int.natCast_ediv]
    congr 1; omega
  show _ = AV.agg [I (mkRat n d.toNat).num, I ((mkRat n d.toNat).den : Int)]
  rw [h1, h2]
theorem R_self (q : Rat) : q = (q.num : Rat) / ((q.den : Int) : Rat) := by
  have := Rat.mkRat_self q
  rw [Rat.mkRat_eq_div] at this
  rw [Rat.intCast_natCast]
  exact this.symm
/-- A fraction that a list may hold. -/
def fitR (r : Int × Int) : Prop := (1 ≤ r.2 ∧ r.2 ≤ 10000) ∧ (0 ≤ r.1 ∧ r.1 ≤ 10000000) ∧ Int.gcd r.1 r.2 = 1
instance (r : Int × Int) : Decidable (fitR r) := by unfold fitR; exact inferInstance
theorem drop_at {α : Type} {rs : List α} {i : Nat} {z : α} (hz : rs[i]? = some z) : rs.drop i = z :: rs.drop (i + 1) := by
  obtain ⟨hlt, h⟩ := List.getElem?_eq_some_iff.1 hz
  rw [← h]; exact List.drop_eq_getElem_cons hlt
section
variable {rs : List (Int × Int)} {v : AV} {A : AHeap}
end
end Go.Proofs.Ytdcdjhhjlpegjaa

namespace Go.Proofs.Ytdcdjhhjlpegjaa
open Go Go.Eng
/-- selion/selionlaw03.ClaimOrders [] -/
def m3 : MFun := ⟨93, [1], [.mov (.s 2)],
 .seq (.ops [⟨(some 1), some (.junk), none, false, .pu (.bnew (.s 0))⟩,
   ⟨(some 2), some undefA, none, false, .pu (.mov (.c (.bool false)))⟩])
 (.seq (.seq (.ops [⟨(some 11), some undefA, none, false, .pu (.bget none 1 0 2 true)⟩,
   ⟨(some 12), some undefA, none, false, .call 15 [(.s 11)]⟩,
   ⟨(some 13), some undefA, none, false, .pu (.mov (.s 12))⟩,
   ⟨(some 14), some undefA, (some (13, false)), false, .pu (.badr none 1)⟩,
   ⟨(some 15), some undefA, (some (13, false)), false, .pu (.bget (some 14) 1 0 1 false)⟩,
   ⟨(some 16), some undefA, (some (13, false)), false, .pu (.badr none 1)⟩,
   ⟨(some 17), some undefA, (some (13, false)), false, .pu (.bget (some 16) 1 1 1 false)⟩,
   ⟨(some 18), some undefA, (some (13, false)), false, .call 16 [(.s 15), (.s 17)]⟩,
   ⟨(some 19), some undefA, (some (13, false)), false, .pu (.bin .neq (.s 18) (.c (.int .i64 0)))⟩,
   ⟨(some 20), some undefA, none, false, .pu (.pick (.s 13) (.c (.bool true)) (.s 19))⟩])
 (.cond (.s 20) (.seq (.ops [⟨(some 21), some undefA, none, false, .call 17 []⟩,
    ⟨(some 2), some undefA, none, false, .pu (.mov (.s 21))⟩])
  (.ret))
 (.skip)))
 (.seq (.ops [⟨(some 23), some undefA, none, false, .pu (.badr none 1)⟩,
   ⟨(some 24), some undefA, none, false, .pu (.bget (some 23) 1 0 1 false)⟩,
   ⟨(some 25), some undefA, none, false, .pu (.badr none 1)⟩,
   ⟨(some 26), some undefA, none, false, .pu (.bget (some 25) 1 1 1 false)⟩,
   ⟨(some 27), some undefA, none, false, .call 18 [(.s 24), (.s 26)]⟩,
   ⟨(some 22), some undefA, none, false, .pu (.mov (.s 27))⟩,
   ⟨(some 28), some undefA, none, false, .pu (.extr 0 (.s 22))⟩,
   ⟨(some 29), some undefA, none, false, .pu (.extr 1 (.s 22))⟩,
   ⟨(some 3), some undefA, none, false, .pu (.mov (.s 28))⟩,
   ⟨(some 4), some undefA, none, false, .pu (.mov (.s 29))⟩])
 (.seq (.ops [⟨(some 31), some undefA, none, false, .pu (.badr none 1)⟩,
   ⟨(some 32), some undefA, none, false, .pu (.bget (some 31) 1 0 1 false)⟩,
   ⟨(some 33), some undefA, none, false, .pu (.badr none 1)⟩,
   ⟨(some 34), some undefA, none, false, .pu (.bget (some 33) 1 1 1 false)⟩,
   ⟨(some 35), some undefA, none, false, .call 19 [(.s 32), (.s 34)]⟩,
   ⟨(some 30), some undefA, none, false, .pu (.mov (.s 35))⟩,
   ⟨(some 36), some undefA, none, false, .pu (.extr 0 (.s 30))⟩,
   ⟨(some 37), some undefA, none, false, .pu (.extr 1 (.s 30))⟩,
   ⟨(some 5), some undefA, none, false, .pu (.mov (.s 36))⟩,
   ⟨(some 6), some undefA, none, false, .pu (.mov (.s 37))⟩])
 (.seq (.ops [⟨(some 39), some undefA, none, false, .pu (.badr none 1)⟩,
   ⟨(some 40), some undefA, none, false, .pu (.bget (some 39) 1 0 1 false)⟩,
   ⟨(some 41), some undefA, none, false, .pu (.badr none 1)⟩,
   ⟨(some 42), some undefA, none, false, .pu (.bget (some 41) 1 1 1 false)⟩,
   ⟨(some 43), some undefA, none, false, .call 20 [(.s 40), (.s 42)]⟩,
   ⟨(some 38), some undefA, none, false, .pu (.mov (.s 43))⟩,
   ⟨(some 44), some undefA, none, false, .pu (.extr 0 (.s 38))⟩,
   ⟨(some 45), some undefA, none, false, .pu (.extr 1 (.s 38))⟩,
   ⟨(some 7), some undefA, none, false, .pu (.mov (.s 44))⟩,
   ⟨(some 8), some undefA, none, false, .pu (.mov (.s 45))⟩])
 (.seq (.ops [⟨(some 47), some undefA, none, false, .pu (.badr none 1)⟩,
   ⟨(some 48), some undefA, none, false, .pu (.bget (some 47) 1 0 1 false)⟩,
   ⟨(some 49), some undefA, none, false, .pu (.badr none 1)⟩,
   ⟨(some 50), some undefA, none, false, .pu (.bget (some 49) 1 1 1 false)⟩,
   ⟨(some 51), some undefA, none, false, .call 21 [(.s 48), (.s 50)]⟩,
   ⟨(some 46), some undefA, none, false, .pu (.mov (.s 51))⟩,
   ⟨(some 52), some undefA, none, false, .pu (.extr 0 (.s 46))⟩,
   ⟨(some 53), some undefA, none, false, .pu (.extr 1 (.s 46))⟩,
   ⟨(some 9), some undefA, none, false, .pu (.mov (.s 52))⟩,
   ⟨(some 10), some undefA, none, false, .pu (.mov (.s 53))⟩])
 (.seq (.seq (.ops [⟨(some 54), some undefA, none, false, .pu (.mov (.s 4))⟩,
   ⟨(some 55), some undefA, none, false, .pu (.bin .neq (.s 54) (.c (.int .i64 0)))⟩,
   ⟨(some 56), some undefA, none, false, .pu (.mov (.s 55))⟩,
   ⟨(some 57), some undefA, (some (56, false)), false, .pu (.mov (.s 6))⟩,
   ⟨(some 58), some undefA, (some (56, false)), false, .pu (.bin .neq (.s 57) (.c (.int .i64 0)))⟩,
   ⟨(some 59), some undefA, none, false, .pu (.pick (.s 56) (.c (.bool true)) (.s 58))⟩,
   ⟨(some 60), some undefA, none, false, .pu (.mov (.s 59))⟩,
   ⟨(some 61), some undefA, (some (60, false)), false, .pu (.mov (.s 8))⟩,
   ⟨(some 62), some undefA, (some (60, false)), false, .pu (.bin .neq (.s 61) (.c (.int .i64 0)))⟩,
   ⟨(some 63), some undefA, none, false, .pu (.pick (.s 60) (.c (.bool true)) (.s 62))⟩,
   ⟨(some 64), some undefA, none, false, .pu (.mov (.s 63))⟩,
   ⟨(some 65), some undefA, (some (64, false)), false, .pu (.mov (.s 10))⟩,
   ⟨(some 66), some undefA, (some (64, false)), false, .pu (.bin .neq (.s 65) (.c (.int .i64 0)))⟩,
   ⟨(some 67), some undefA, none, false, .pu (.pick (.s 64) (.c (.bool true)) (.s 66))⟩])
 (.cond (.s 67) (.seq (.ops [⟨(some 2), some undefA, none, false, .pu (.mov (.c (.bool false)))⟩])
  (.ret))
 (.skip)))
 (.seq (.ops [⟨(some 68), some undefA, none, false, .pu (.badr none 1)⟩,
   ⟨(some 69), some undefA, none, false, .pu (.bget (some 68) 1 0 1 false)⟩,
   ⟨(some 70), some undefA, none, false, .pu (.mov (.s 3))⟩,
   ⟨(some 71), some undefA, none, false, .call 22 [(.s 69), (.s 70)]⟩,
   ⟨(some 72), some undefA, none, false, .pu (.mov (.s 71))⟩,
   ⟨(some 73), some undefA, (some (72, true)), false, .pu (.badr none 1)⟩,
   ⟨(some 74), some undefA, (some (72, true)), false, .pu (.bget (some 73) 1 0 1 false)⟩,
   ⟨(some 75), some undefA, (some (72, true)), false, .pu (.mov (.s 5))⟩,
   ⟨(some 76), some undefA, (some (72, true)), false, .call 22 [(.s 74), (.s 75)]⟩,
   ⟨(some 77), some undefA, none, false, .pu (.pick (.s 72) (.s 76) (.c (.bool false)))⟩,
   ⟨(some 78), some undefA, none, false, .pu (.mov (.s 77))⟩,
   ⟨(some 79), some undefA, (some (78, true)), false, .pu (.badr none 1)⟩,
   ⟨(some 80), some undefA, (some (78, true)), false, .pu (.bget (some 79) 1 0 1 false)⟩,
   ⟨(some 81), some undefA, (some (78, true)), false, .pu (.mov (.s 7))⟩,
   ⟨(some 82), some undefA, (some (78, true)), false, .call 22 [(.s 80), (.s 81)]⟩,
   ⟨(some 83), some undefA, none, false, .pu (.pick (.s 78) (.s 82) (.c (.bool false)))⟩,
   ⟨(some 84), some undefA, none, false, .pu (.mov (.s 83))⟩,
   ⟨(some 85), some undefA, (some (84, true)), false, .pu (.badr none 1)⟩,
   ⟨(some 86), some undefA, (some (84, true)), false, .pu (.bget (some 85) 1 0 1 false)⟩,
   ⟨(some 87), some undefA, (some (84, true)), false, .pu (.mov (.s 9))⟩,
   ⟨(some 88), some undefA, (some (84, true)), false, .call 22 [(.s 86), (.s 87)]⟩,
   ⟨(some 89), some undefA, none, false, .pu (.pick (.s 84) (.s 88) (.c (.bool false)))⟩,
   ⟨(some 90), some undefA, none, false, .pu (.mov (.s 89))⟩,
   ⟨(some 91), some undefA, (some (90, true)), false, .call 17 []⟩,
   ⟨(some 92), some undefA, none, false, .pu (.pick (.s 90) (.s 91) (.c (.bool false)))⟩,
   ⟨(some 2), some undefA, none, false, .pu (.mov (.s 92))⟩])
 (.ret))))))))⟩
theorem t3 : trF Try.prog [1] [] Try.f3 = some m3 := by kernel_rfl
/-- selion/selionlaw03.ClaimWholes [] -/
def m6 : MFun := ⟨67, [2], [.mov (.s 4)],
 .seq (.ops [⟨(some 2), some (.junk), none, false, .pu (.bnew (.s 0))⟩,
   ⟨(some 4), some undefA, none, false, .pu (.mov (.c (.bool false)))⟩])
 (.seq (.seq (.ops [⟨(some 9), some undefA, none, false, .pu (.bget none 2 0 2 true)⟩,
   ⟨(some 10), some undefA, none, false, .call 15 [(.s 9)]⟩,
   ⟨(some 11), some undefA, none, false, .pu (.mov (.s 10))⟩,
   ⟨(some 12), some undefA, (some (11, false)), false, .pu (.mov (.s 1))⟩,
   ⟨(some 13), some undefA, (some (11, false)), false, .call 23 [(.s 12)]⟩,
   ⟨(some 14), some undefA, none, false, .pu (.pick (.s 11) (.c (.bool true)) (.s 13))⟩])
 (.cond (.s 14) (.seq (.ops [⟨(some 15), some undefA, none, false, .call 17 []⟩,
    ⟨(some 4), some undefA, none, false, .pu (.mov (.s 15))⟩])
  (.ret))
 (.skip)))
 (.seq (.ops [⟨(some 17), some undefA, none, false, .pu (.badr none 2)⟩,
   ⟨(some 18), some undefA, none, false, .pu (.bget (some 17) 2 0 1 false)⟩,
   ⟨(some 19), some undefA, none, false, .pu (.badr none 2)⟩,
   ⟨(some 20), some undefA, none, false, .pu (.bget (some 19) 2 1 1 false)⟩,
   ⟨(some 21), some undefA, none, false, .call 31 [(.s 18), (.s 20)]⟩,
   ⟨(some 16), some undefA, none, false, .pu (.mov (.s 21))⟩,
   ⟨(some 22), some undefA, none, false, .pu (.extr 0 (.s 16))⟩,
   ⟨(some 23), some undefA, none, false, .pu (.extr 1 (.s 16))⟩,
   ⟨(some 5), some undefA, none, false, .pu (.mov (.s 22))⟩,
   ⟨(some 6), some undefA, none, false, .pu (.mov (.s 23))⟩])
 (.seq (.ops [⟨(some 25), some undefA, none, false, .pu (.badr none 2)⟩,
   ⟨(some 26), some undefA, none, false, .pu (.bget (some 25) 2 0 1 false)⟩,
   ⟨(some 27), some undefA, none, false, .pu (.badr none 2)⟩,
   ⟨(some 28), some undefA, none, false, .pu (.bget (some 27) 2 1 1 false)⟩,
   ⟨(some 29), some undefA, none, false, .call 32 [(.s 26), (.s 28)]⟩,
   ⟨(some 24), some undefA, none, false, .pu (.mov (.s 29))⟩,
   ⟨(some 30), some undefA, none, false, .pu (.extr 0 (.s 24))⟩,
   ⟨(some 31), some undefA, none, false, .pu (.extr 1 (.s 24))⟩,
   ⟨(some 7), some undefA, none, false, .pu (.mov (.s 30))⟩,
   ⟨(some 8), some undefA, none, false, .pu (.mov (.s 31))⟩])
 (.seq (.seq (.ops [⟨(some 32), some undefA, none, false, .pu (.mov (.s 5))⟩,
   ⟨(some 33), some undefA, none, false, .pu (.mov (.s 7))⟩,
   ⟨(some 34), some undefA, none, false, .call 26 [(.s 32), (.s 33)]⟩,
   ⟨(some 35), some undefA, none, false, .pu (.not (.s 34))⟩,
   ⟨(some 36), some undefA, none, false, .pu (.mov (.s 35))⟩,
   ⟨(some 37), some undefA, (some (36, false)), false, .pu (.mov (.s 6))⟩,
   ⟨(some 38), some undefA, (some (36, false)), false, .pu (.mov (.s 8))⟩,
   ⟨(some 39), some undefA, (some (36, false)), false, .pu (.bin .neq (.s 37) (.s 38))⟩,
   ⟨(some 40), some undefA, none, false, .pu (.pick (.s 36) (.c (.bool true)) (.s 39))⟩,
   ⟨(some 41), some undefA, none, false, .pu (.mov (.s 40))⟩,
   ⟨(some 42), some undefA, (some (41, false)), false, .pu (.badr none 2)⟩,
   ⟨(some 43), some undefA, (some (41, false)), false, .pu (.bget (some 42) 2 0 1 false)⟩,
   ⟨(some 44), some undefA, (some (41, false)), false, .pu (.badr none 2)⟩,
   ⟨(some 45), some undefA, (some (41, false)), false, .pu (.bget (some 44) 2 1 1 false)⟩,
   ⟨(some 46), some undefA, (some (41, false)), false, .pu (.mov (.s 1))⟩,
   ⟨(some 47), some undefA, (some (41, false)), false, .call 33 [(.s 43), (.s 45), (.s 46)]⟩,
   ⟨(some 48), some undefA, (some (41, false)), false, .pu (.badr none 2)⟩,
   ⟨(some 49), some undefA, (some (41, false)), false, .pu (.bget (some 48) 2 0 1 false)⟩,
   ⟨(some 50), some undefA, (some (41, false)), false, .pu (.badr none 2)⟩,
   ⟨(some 51), some undefA, (some (41, false)), false, .pu (.bget (some 50) 2 1 1 false)⟩,
   ⟨(some 52), some undefA, (some (41, false)), false, .pu (.mov (.s 1))⟩,
   ⟨(some 53), some undefA, (some (41, false)), false, .call 34 [(.s 49), (.s 51), (.s 52)]⟩,
   ⟨(some 54), some undefA, (some (41, false)), false, .pu (.bin .neq (.s 47) (.s 53))⟩,
   ⟨(some 55), some undefA, none, false, .pu (.pick (.s 41) (.c (.bool true)) (.s 54))⟩])
 (.cond (.s 55) (.seq (.ops [⟨(some 4), some undefA, none, false, .pu (.mov (.c (.bool false)))⟩])
  (.ret))
 (.skip)))
 (.seq (.ops [⟨(some 56), some undefA, none, false, .pu (.badr none 2)⟩,
   ⟨(some 57), some undefA, none, false, .pu (.bget (some 56) 2 0 1 false)⟩,
   ⟨(some 58), some undefA, none, false, .pu (.badr none 2)⟩,
   ⟨(some 59), some undefA, none, false, .pu (.bget (some 58) 2 1 1 false)⟩,
   ⟨(some 60), some undefA, none, false, .pu (.mov (.s 5))⟩,
   ⟨(some 61), some undefA, none, false, .call 33 [(.s 57), (.s 59), (.s 60)]⟩,
   ⟨(some 62), some undefA, none, false, .pu (.mov (.s 6))⟩,
   ⟨(some 63), some undefA, none, false, .pu (.bin .eql (.s 61) (.s 62))⟩,
   ⟨(some 64), some undefA, none, false, .pu (.mov (.s 63))⟩,
   ⟨(some 65), some undefA, (some (64, true)), false, .call 17 []⟩,
   ⟨(some 66), some undefA, none, false, .pu (.pick (.s 64) (.s 65) (.c (.bool false)))⟩,
   ⟨(some 4), some undefA, none, false, .pu (.mov (.s 66))⟩])
 (.ret))))))⟩
theorem t6 : trF Try.prog [2] [] Try.f6 = some m6 := by kernel_rfl
end Go.Proofs.Ytdcdjhhjlpegjaa

namespace Go.Proofs.Ytdcdjhhjlpegjaa
open Go Go.Eng
section
variable {cs : List Int} {rs : List (Int × Int)} {v u : AV} {A : AHeap} {e : Int}
def rp (q : Rat) : Int × Int := (q.num, q.den)
/-- What is lost of a claim. -/
def lsq (c : Int) (r : Int × Int) : Rat := ((c * r.2 - r.1 : Int) : Rat) / ((r.2 : Int) : Rat)
def lsL (cs : List Int) (rs : List (Int × Int)) : List Rat := (cs.zip rs).map (fun z => lsq z.1 z.2)
/-- Bounds with which nothing overflows. -/
def bdR (r : Int × Int) : Prop := (1 ≤ r.2 ∧ r.2 ≤ 1000000) ∧ (0 ≤ r.1 ∧ r.1 ≤ 1000000000000)
theorem s15 (hx : L1 A v cs) : ACalls Try.prog 15 [.agg [v, I e]] A (B (decide ((40 : Int) < cs.length))) A := by
  refine acalls hmix Try.func15 (by kernel_rfl) t15 1 rfl (by decide) ?_
  dsimp only [m15]
  simp (maxSteps := 4000000) -implicitDefEqProofs -dsimp (disch := omega) only [↓AW_ops, ↓AW_seq, ↓AW_ret, ↓AOps_nil, ↓AOps_pu, on_some, ↓then_normal, ↓Fin_ret, pval, rd_S, rd_C, put_S, resV, resL, chkd, isAdr, bgot, AV.cells?, partA, eq_self, List.replicate_succ, List.replicate_zero, List.set_cons_zero, List.set_cons_succ, List.getElem?_cons_zero, List.getElem?_cons_succ, List.drop_zero, List.take_zero, List.take_succ_cons, Option.getD_some, List.length_cons, List.length_nil, Nat.reduceAdd, Nat.reduceSub, Nat.reduceLeDiff, Nat.zero_add, List.cons_append, List.nil_append, bin_gtr, if_true, if_false, Bool.false_eq_true, hx.len]
  exact gc_same rfl
end
end Go.Proofs.Ytdcdjhhjlpegjaa

namespace Go.Proofs.Ytdcdjhhjlpegjaa
open Go Go.Eng
theorem int0 : ((0 : Int) : Rat) = 0 := rfl
theorem cast_nonneg {n : Int} (h : 0 ≤ n) : (0 : Rat) ≤ (n : Rat) := by rw [← int0]; exact Rat.intCast_le_intCast.2 h
theorem cast_pos {n : Int} (h : 0 < n) : (0 : Rat) < (n : Rat) := by rw [← int0]; exact Rat.intCast_lt_intCast.2 h
theorem div_den {n d : Int} (hd : 0 < d) : (((n : Rat) / (d : Rat)).den : Int) ∣ d := by
  have h := nrm_R n d hd
  unfold nrm at h
  have h2 : AV.agg [I (n.tdiv (Int.gcd n d)), I (d.tdiv (Int.gcd n d))] = R ((n : Rat) / (d : Rat)) := h
  injection h2 with h3
  injection h3 with h4 h5
  injection h5 with h6 h7
  injection h6 with _ h8
  rw [← h8, tdiv_eq (Int.gcd_dvd_right n d)]
  exact ⟨(Int.gcd n d : Int), (Int.ediv_mul_cancel (Int.gcd_dvd_right n d)).symm⟩
section
variable {cs : List Int} {v : AV} {A : AHeap} {e : Int}
end
end Go.Proofs.Ytdcdjhhjlpegjaa

namespace Go.Proofs.Ytdcdjhhjlpegjaa
open Go Go.Eng
/-- Numbers in ascending order. -/
def srt (xs : List Int) : List Int := xs.mergeSort (fun a b => decide (a ≤ b))
theorem srt_perm (xs : List Int) : (srt xs).Perm xs := List.mergeSort_perm xs _
theorem srt_pw (xs : List Int) : (srt xs).Pairwise (· ≤ ·) := by
  have := List.pairwise_mergeSort (le := fun a b : Int => decide (a ≤ b)) (fun a b c h k => by simp at *; omega) (fun a b => by simp; omega) xs
  exact this.imp (fun h => by simpa using h)
theorem srt_uniq {zs xs : List Int} (hp : zs.Perm xs) (h : zs.Pairwise (· ≤ ·)) : zs = srt xs :=
  List.Perm.eq_of_pairwise (le := fun a b : Int => a ≤ b) (fun a b _ _ h1 h2 => by omega) h (srt_pw xs) (hp.trans (srt_perm xs).symm)
/-- The first elements are in order. -/
def SU (zs : List Int) (i : Nat) : Prop := ∀ (p q : Nat) (a b : Int), p < q → q < i → zs[p]? = some a → zs[q]? = some b → a ≤ b
theorem SU.one (zs : List Int) : SU zs 1 := fun p q a b h k => by omega
theorem SU.zero (zs : List Int) : SU zs 0 := fun p q a b h k => by omega
theorem SU.all {zs : List Int} (h : SU zs zs.length) : zs.Pairwise (· ≤ ·) := by
  rw [List.pairwise_iff_getElem]
  intro i j hi hj hij
  exact h i j _ _ hij hj (List.getElem?_eq_getElem hi) (List.getElem?_eq_getElem hj)
theorem SU.srt {zs xs : List Int} (hp : zs.Perm xs) {i : Nat} (h : SU zs i) (hi : xs.length ≤ i) : zs = srt xs := by
  refine srt_uniq hp (SU.all (fun p q a b h1 h2 => h p q a b h1 ?_))
  have := hp.length_eq
  omega
/-- An element that goes down to its place. -/
structure IS (xs zs : List Int) (i j : Nat) : Prop where
  perm : zs.Perm xs
  a : ∀ (p q : Nat) (a b : Int), p < q → q ≤ i → p ≠ j → q ≠ j → zs[p]? = some a → zs[q]? = some b → a ≤ b
  b : ∀ (q : Nat) (x y : Int), j < q → q ≤ i → zs[j]? = some x → zs[q]? = some y → x ≤ y
theorem IS.start {xs zs : List Int} {i : Nat} (hp : zs.Perm xs) (h : SU zs i) : IS xs zs i i :=
  ⟨hp, fun p q a b h1 h2 _ h4 => h p q a b h1 (by omega), fun q x y h1 h2 => by omega⟩
theorem IS.zero {xs zs : List Int} {i : Nat} (h : IS xs zs i 0) : SU zs (i + 1) := by
  intro p q a b h1 h2 h3 h4
  by_cases hp : p = 0
  · subst hp
    exact h.b q a b h1 (by omega) h3 h4
  · exact h.a p q a b h1 (by omega) hp (by omega) h3 h4
end Go.Proofs.Ytdcdjhhjlpegjaa

namespace Go.Proofs.Ytdcdjhhjlpegjaa
open Go Go.Eng
/-- The smaller one of a claim and a number. -/
def mnq (c : Int) (l : Rat) : Rat := if (c : Rat) < l then (c : Rat) else l
def lev : List Int → Int → Rat
  | [], _ => 0
  | c :: s, left => if left ≤ c * ((s.length : Int) + 1) then (left : Rat) / (((s.length : Int) + 1 : Int) : Rat) else lev s (left - c)
/-- The number for an estate. -/
def lv (cs : List Int) (e : Int) : Rat := lev (srt cs) e
def capL (cs : List Int) (l : Rat) : List Rat := cs.map (fun c => mnq c l)
/-- What the number is. -/
structure LV (cs : List Int) (e : Int) (l : Rat) : Prop where
  l0 : 0 ≤ l
  lc : ∃ c ∈ cs, l ≤ (c : Rat)
  s : (capL cs l).sum = (e : Rat)
theorem num_bd {q : Rat} {M : Int} (h0 : 0 ≤ q) (h1 : q ≤ (M : Rat)) : 0 ≤ q.num ∧ q.num ≤ M * (q.den : Int) := by
  have hdp := den_pos q
  have hne := cast_pos hdp
  have e := R_self q
  have hn : ((q.num : Int) : Rat) = q * ((q.den : Int) : Rat) := by
    conv => rhs; lhs; rw [e]
    exact (Rat.div_mul_cancel (Ne.symm (Rat.ne_of_lt hne))).symm
  constructor
  · refine Rat.intCast_le_intCast.1 ?_
    rw [hn, int0]
    exact Rat.mul_nonneg h0 (Rat.le_of_lt hne)
  · refine Rat.intCast_le_intCast.1 ?_
    rw [hn, Rat.intCast_mul]
    exact Rat.mul_le_mul_of_nonneg_right h1 (Rat.le_of_lt hne)
/-- Numbers from 0 to 1000 with a small denominator. -/
structure SQ (q : Rat) : Prop where
  q0 : 0 ≤ q
  q1 : q ≤ ((1000 : Int) : Rat)
  d : (q.den : Int) ≤ 1000
theorem SQ.num {q : Rat} (h : SQ q) : 0 ≤ q.num ∧ q.num ≤ 1000000 := by
  have := num_bd h.q0 h.q1
  have := h.d
  omega
theorem SQ.bd {q : Rat} (h : SQ q) : bdR (rp q) := by
  have h1 := h.num
  have h2 := h.d
  have h3 := den_pos q
  exact ⟨⟨by show 1 ≤ (q.den : Int); omega, by show (q.den : Int) ≤ 1000000; omega⟩, by show 0 ≤ q.num; omega, by show q.num ≤ 1000000000000; omega⟩
theorem SQ.int {c : Int} (h : 0 ≤ c ∧ c ≤ 1000) : SQ (c : Rat) := ⟨cast_nonneg h.1, Rat.intCast_le_intCast.2 h.2, by rw [Rat.den_intCast]; decide⟩
theorem SQ.mnq {c : Int} {l : Rat} (hc : 0 ≤ c ∧ c ≤ 1000) (hl : SQ l) : SQ (mnq c l) := by
  unfold Go.Proofs.Ytdcdjhhjlpegjaa.mnq
  split
  · exact SQ.int hc
  · exact hl
end Go.Proofs.Ytdcdjhhjlpegjaa

namespace Go.Proofs.Ytdcdjhhjlpegjaa
open Go Go.Eng
section
variable {cs : List Int} {v : AV} {A : AHeap} {e : Int}
/-- Equal awards. -/
def aw (cs : List Int) (e : Int) : List Rat := capL cs (lv cs e)
/-- Equal losses. -/
def lo (cs : List Int) (e : Int) : List Rat := lsL cs ((aw cs (cs.sum - e)).map rp)
def hq (q : Rat) : Rat := (q.num : Rat) / ((2 * (q.den : Int) : Int) : Rat)
def hqc (c : Int) (q : Rat) : Rat := ((q.num + c * (q.den : Int) : Int) : Rat) / ((2 * (q.den : Int) : Int) : Rat)
theorem CE.sub (hc : CE cs e) : CE cs (cs.sum - e) := ⟨hc.ok, by have := hc.e1; omega, by have := hc.e0; omega⟩
theorem lsq_eq (c : Int) (q : Rat) : lsq c (rp q) = (c : Rat) - q := by
  unfold lsq rp
  simp only
  have hdp := den_pos q
  have hne := cast_pos hdp
  have e := R_self q
  have hq : q * ((q.den : Int) : Rat) = ((q.num : Int) : Rat) := by
    conv => lhs; lhs; rw [e]
    exact Rat.div_mul_cancel (Ne.symm (Rat.ne_of_lt hne))
  have h1 : ((c * (q.den : Int) - q.num : Int) : Rat) = ((c : Rat) - q) * ((q.den : Int) : Rat) := by
    rw [Rat.intCast_sub, Rat.intCast_mul, ← hq]
    grind
  rw [h1, Rat.div_def, Rat.mul_assoc, Rat.mul_inv_cancel _ (Ne.symm (Rat.ne_of_lt hne)), Rat.mul_one]
theorem SQ.sub {c : Int} {q : Rat} (hc : 0 ≤ c ∧ c ≤ 1000) (hq : SQ q) (h : q ≤ (c : Rat)) : SQ ((c : Rat) - q) := by
  have h1 : (c : Rat) ≤ ((1000 : Int) : Rat) := Rat.intCast_le_intCast.2 hc.2
  have h0 := hq.q0
  refine ⟨by grind, by grind, ?_⟩
  have hd : (((c : Rat) - q).den : Int) ∣ (q.den : Int) := by
    rw [← lsq_eq c q]
    exact div_den (den_pos q)
  have := Int.le_of_dvd (den_pos q) hd
  have := hq.d
  omega
end
end Go.Proofs.Ytdcdjhhjlpegjaa

namespace Go.Proofs.Ytdcdjhhjlpegjaa
open Go Go.Eng
/-- The greatest number below one, or 0. -/
structure SM (c : Int) (xs : List Int) (s : Int) : Prop where
  s0 : 0 ≤ s
  s1 : s ≤ 1000
  all : ∀ d ∈ xs, d < c → d ≤ s
  is : s = 0 ∨ (s ∈ xs ∧ s < c)
section
variable {cs : List Int} {v : AV} {A : AHeap} {e : Int}
end
end Go.Proofs.Ytdcdjhhjlpegjaa

namespace Go.Proofs.Ytdcdjhhjlpegjaa
open Go Go.Eng
end Go.Proofs.Ytdcdjhhjlpegjaa

namespace Go.Proofs.Ytdcdjhhjlpegjaa
open Go Go.Eng
/-- The greatest one of some numbers. -/
def mxL : List Int → Int
  | [] => 0
  | x :: xs => xs.foldl max x
theorem foldl_max (xs : List Int) : ∀ a : Int, a ≤ xs.foldl max a ∧ (∀ y ∈ xs, y ≤ xs.foldl max a) ∧ (xs.foldl max a = a ∨ xs.foldl max a ∈ xs) := by
  induction xs with
  | nil => intro a; simp
  | cons b xs ih =>
    intro a
    obtain ⟨h1, h2, h3⟩ := ih (max a b)
    rw [List.foldl_cons]
    refine ⟨by omega, fun y hy => ?_, ?_⟩
    · rcases List.mem_cons.1 hy with rfl | hy
      · omega
      · exact h2 y hy
    · rcases h3 with h | h
      · rw [h]
        by_cases hab : a ≤ b
        · right; rw [Int.max_eq_right hab]; simp
        · left; exact Int.max_eq_left (by omega)
      · exact .inr (by simp [h])
theorem mxL_mem {xs : List Int} (h : xs ≠ []) : mxL xs ∈ xs := by
  cases xs with
  | nil => exact absurd rfl h
  | cons x xs =>
    show xs.foldl max x ∈ x :: xs
    rcases (foldl_max xs x).2.2 with h | h
    · rw [h]; simp
    · exact List.mem_cons_of_mem _ h
theorem mxL_ge {xs : List Int} {y : Int} (h : y ∈ xs) : y ≤ mxL xs := by
  cases xs with
  | nil => simp at h
  | cons x xs =>
    show y ≤ xs.foldl max x
    rcases List.mem_cons.1 h with rfl | h
    · exact (foldl_max xs y).1
    · exact (foldl_max xs x).2.1 y h
theorem mxL_take {xs : List Int} {i : Nat} {z : Int} (hi : 1 ≤ i) (hz : xs[i]? = some z) : mxL (xs.take (i + 1)) = max (mxL (xs.take i)) z := by
  cases xs with
  | nil => simp at hz
  | cons x xs =>
    obtain ⟨j, rfl⟩ : ∃ j, i = j + 1 := ⟨i - 1, by omega⟩
    simp only [List.take_succ_cons, mxL]
    rw [List.getElem?_cons_succ] at hz
    rw [List.take_add_one, hz, Option.toList_some, List.foldl_append, List.foldl_cons, List.foldl_nil]
theorem c_Max {xs : List Int} {v : AV} {A : AHeap} (hx : L1 A v xs) (h0 : 1 ≤ xs.length) (hl : xs.length ≤ 1000000) : ACalls Try.prog 64 [v] A (I (mxL xs)) A := by
  refine acalls hmix Try.func64 (by kernel_rfl) t64 1 rfl (by decide) ?_
  obtain ⟨x, hx0⟩ : ∃ x, xs[0]? = some x := ⟨_, List.getElem?_eq_getElem (by omega)⟩
  have h0' : ¬ (xs.length : Int) < 1 := by omega
  have i0 := hx.idx (k := .i64) (i := 0) (by omega)
  have e0' : ((0 : Nat) : Int) = 0 := rfl
  have l0 := hx.ld0 hx0 1 false (by decide)
  rw [e0'] at i0
  rw [Nat.zero_mul, Nat.add_zero] at i0 l0
  dsimp only [m64]
  simp (maxSteps := 4000000) -implicitDefEqProofs -dsimp (disch := omega) only [↓AW_skip, ↓AW_ops, ↓AW_seq, ↓AW_cond, ↓AW_block, ↓AOps_nil, ↓AOps_pu, ↓AOps_ld, on_some, condB_f, ↓then_normal, pval, lval, rd_S, rd_C, put_S, ↓AW_toLoop, partA, eq_self, List.replicate_succ, List.replicate_zero, List.set_cons_zero, List.set_cons_succ, List.getElem?_cons_zero, List.getElem?_cons_succ, List.drop_zero, List.take_succ_cons, List.take_nil, Option.getD_some, List.length_cons, List.length_nil, Nat.reduceSub, Nat.reduceLeDiff, Nat.zero_add, List.cons_append, List.nil_append, bin_lss, if_true, if_false, Bool.false_eq_true, decide_false, Go.Eng.e1, hx.len, h0', i0, l0]
  have ht1 : mxL (xs.take 1) = x := by
    cases xs with
    | nil => simp at hx0
    | cons y ys => simp at hx0; subst hx0; rfl
  refine LoopK.by 25 (fun i : Nat => 1 ≤ i ∧ i ≤ xs.length) (fun i => [(0, v), (3, I (mxL (xs.take i))), (4, I i)]) (fun _ => A) (fun i => xs.length - i) 1 ⟨by omega, by omega⟩ rfl (by simp [Has, rd_s, ht1]) rfl ?_
  rintro i ⟨hi1, hi⟩
  by_cases hlt : i < xs.length
  · obtain ⟨z, hz⟩ : ∃ z, xs[i]? = some z := ⟨_, List.getElem?_eq_getElem hlt⟩
    have hlt' : (i : Int) < xs.length := by omega
    simp (maxSteps := 4000000) -implicitDefEqProofs -dsimp (disch := omega) only [↓AW_skip, ↓AW_ops, ↓AW_seq, ↓AW_cond, ↓AW_block, ↓AOps_nil, ↓AOps_pu, ↓AOps_ld, on_some, condB_t, ↓then_normal, ↓inBlock_normal, pval, lval, rd_S, rd_C, put_S, partA, eq_self, mk, List.foldl_cons, List.foldl_nil, List.replicate_succ, List.replicate_zero, List.set_cons_zero, List.set_cons_succ, List.getElem?_cons_zero, List.getElem?_cons_succ, List.drop_zero, List.take_succ_cons, List.take_nil, Option.getD_some, map_c, map_n, List.length_cons, List.length_nil, Nat.reduceAdd, Nat.reduceLeDiff, Nat.zero_add, bin_add, bin_lss, mm_max, w64, if_true, if_false, Bool.false_eq_true, decide_true, Go.Eng.e1, true_and, hlt', hx.len, hx.idx hlt, hx.ld0 hz 1 false (by decide)]
    exact ⟨i + 1, ⟨by omega, hlt⟩, by simp [Has, rd_s, mxL_take hi1 hz], by omega⟩
  · have hlt' : ¬ ((i : Int) < xs.length) := by omega
    simp (maxSteps := 4000000) -implicitDefEqProofs -dsimp (disch := omega) only [↓AW_ops, ↓AW_seq, ↓AW_cond, ↓AW_exit, ↓AW_ret, ↓AOps_nil, ↓AOps_pu, on_some, condB_f, ↓then_normal, ↓then_exit, ↓inBlock_exit, ↓Fin_ret, pval, rd_S, put_S, resV, resL, eq_self, mk, List.foldl_cons, List.foldl_nil, List.replicate_succ, List.replicate_zero, List.set_cons_zero, List.set_cons_succ, List.getElem?_cons_zero, List.getElem?_cons_succ, Option.getD_some, bin_lss, if_true, decide_false, hlt', hx.len]
    rw [List.take_of_length_le (by omega)]
    exact gc_same rfl
section
variable {cs : List Int} {v : AV} {A : AHeap} {e : Int}
/-- The first ones are changed. -/
def mid (f : Int → Int) (cs : List Int) (g : Int → Int) (i : Nat) : List Int := (cs.take i).map f ++ (cs.drop i).map g
theorem mid_len (f g : Int → Int) (cs : List Int) (i : Nat) : (mid f cs g i).length = cs.length := by
  unfold mid
  rw [List.length_append, List.length_map, List.length_map, ← List.length_append, List.take_append_drop]
theorem mid_set {f g : Int → Int} {cs : List Int} {i : Nat} {c : Int} (h : cs[i]? = some c) : (mid f cs g i).set i (f c) = mid f cs g (i + 1) := by
  have hi := (List.getElem?_eq_some_iff.1 h).1
  unfold mid
  rw [List.set_append_right _ _ (by simp; omega), drop_at h]
  simp only [List.length_map, List.length_take]
  rw [show i - min i cs.length = 0 by omega, List.map_cons, List.set_cons_zero, List.take_add_one, h, List.map_append]
  simp
theorem mid_0 (f g : Int → Int) (cs : List Int) : mid f cs g 0 = cs.map g := by simp [mid]
theorem mid_all (f g : Int → Int) (cs : List Int) : mid f cs g cs.length = cs.map f := by simp [mid]
end
end Go.Proofs.Ytdcdjhhjlpegjaa

namespace Go.Proofs.Ytdcdjhhjlpegjaa
open Go Go.Eng
section
variable {cs : List Int} {v : AV} {A : AHeap} {e : Int}
end
end Go.Proofs.Ytdcdjhhjlpegjaa

namespace Go.Proofs.Ytdcdjhhjlpegjaa
open Go Go.Eng
/-- Where the greatest rest stands first. -/
def mxi (r : List Int) : Nat := (r.findIdx? (fun y => decide (mxL r = y))).getD 0
theorem mxi_spec {r : List Int} (h : r ≠ []) : fpos (fun y => decide (mxL r = y)) r = mxi r ∧ r[mxi r]? = some (mxL r) ∧ ∀ j, j < mxi r → ∀ y, r[j]? = some y → y ≠ mxL r := by
  have hm := mxL_mem h
  cases hf : r.findIdx? (fun y => decide (mxL r = y)) with
  | none =>
    rw [List.findIdx?_eq_none_iff] at hf
    have := hf _ hm
    simp at this
  | some i =>
    have e1 : mxi r = i := by unfold mxi; rw [hf]; rfl
    have e2 : fpos (fun y => decide (mxL r = y)) r = i := by unfold fpos; rw [hf]
    rw [List.findIdx?_eq_some_iff_getElem] at hf
    obtain ⟨hi, hg, hb⟩ := hf
    refine ⟨by rw [e1]; exact e2, ?_, ?_⟩
    · rw [e1, List.getElem?_eq_getElem hi, ← of_decide_eq_true hg]
    · rw [e1]
      intro j hj y hy hyy
      have := hb j hj
      obtain ⟨h1, h2⟩ := List.getElem?_eq_some_iff.1 hy
      rw [h2, hyy] at this
      simp at this
/-- One more for the greatest rest. -/
def gst (p : List Int × List Int) : List Int × List Int := (p.1.set (mxi p.2) ((p.1[mxi p.2]?).getD 0 + 1), p.2.set (mxi p.2) (-1))
def wst (o r : List Int) : Nat → List Int × List Int
  | 0 => (o, r)
  | k + 1 => gst (wst o r k)
/-- The divisor. -/
def dv (cs : List Int) : Int := max 1 cs.sum
def fls (cs : List Int) (e : Int) : List Int := cs.map (fun c => c * e / dv cs)
def rts (cs : List Int) (e : Int) : List Int := cs.map (fun c => c * e % dv cs)
structure WI (cs : List Int) (e : Int) (o r : List Int) (k : Int) : Prop where
  lo : o.length = cs.length
  lr : r.length = cs.length
  s : o.sum = (fls cs e).sum + k
  pt : ∀ (i : Nat) (c a b : Int), cs[i]? = some c → o[i]? = some a → r[i]? = some b → (a = c * e / dv cs ∧ b = c * e % dv cs) ∨ (a = c * e / dv cs + 1 ∧ b = -1 ∧ 0 < c * e % dv cs)
theorem WI.start (cs : List Int) (e : Int) : WI cs e (fls cs e) (rts cs e) 0 := by
  refine ⟨by simp [fls], by simp [rts], by omega, fun i c a b hc ha hb => .inl ⟨?_, ?_⟩⟩
  · unfold fls at ha; rw [List.getElem?_map, hc] at ha; exact (Option.some.inj ha).symm
  · unfold rts at hb; rw [List.getElem?_map, hc] at hb; exact (Option.some.inj hb).symm
theorem sum3 {T e : Int} : ∀ {cs o r : List Int}, o.length = cs.length → r.length = cs.length → (∀ (i : Nat) (c a b : Int), cs[i]? = some c → o[i]? = some a → r[i]? = some b → c * e ≤ T * a + b) → cs.sum * e ≤ T * o.sum + r.sum
  | [], o, r, h1, h2, _ => by
    have e1 := List.eq_nil_of_length_eq_zero h1
    have e2 := List.eq_nil_of_length_eq_zero h2
    subst e1; subst e2
    simp
  | c :: cs, o, r, h1, h2, h => by
    match o, r, h1, h2 with
    | a :: o, b :: r, h1, h2 =>
      have ih := sum3 (T := T) (e := e) (cs := cs) (o := o) (r := r) (by simpa using h1) (by simpa using h2) (fun i c a b hc ha hb => h (i + 1) c a b (by simpa using hc) (by simpa using ha) (by simpa using hb))
      have h0 := h 0 c a b rfl rfl rfl
      simp only [List.sum_cons, Int.add_mul, Int.mul_add]
      omega
theorem set_sum : ∀ {o : List Int} {i : Nat} {a b : Int}, o[i]? = some a → (o.set i b).sum = o.sum - a + b
  | [], i, a, b, h => by simp at h
  | x :: o, 0, a, b, h => by
    have : x = a := by simpa using h
    subst this
    rw [List.set_cons_zero, List.sum_cons, List.sum_cons]
    omega
  | x :: o, i + 1, a, b, h => by
    rw [List.set_cons_succ, List.sum_cons, List.sum_cons, set_sum (by simpa using h)]
    omega
theorem sum_nonpos : ∀ {r : List Int}, (∀ x ∈ r, x ≤ 0) → r.sum ≤ 0
  | [], _ => by simp
  | x :: r, h => by
    have := sum_nonpos (fun y hy => h y (List.mem_cons_of_mem x hy))
    have := h x (by simp)
    rw [List.sum_cons]
    omega
theorem dv_pos (cs : List Int) : 0 < dv cs := by unfold dv; omega
theorem WI.le {cs o r : List Int} {e k : Int} (h : WI cs e o r k) (i : Nat) (c a b : Int) (hc : cs[i]? = some c) (ha : o[i]? = some a) (hb : r[i]? = some b) : c * e ≤ dv cs * a + b := by
  have hT := dv_pos cs
  have hdm := Int.mul_ediv_add_emod (c * e) (dv cs)
  have hlt := Int.emod_lt_of_pos (c * e) hT
  rcases h.pt i c a b hc ha hb with ⟨rfl, rfl⟩ | ⟨rfl, rfl, _⟩
  · omega
  · rw [Int.mul_add, Int.mul_one]; omega
theorem WI.step {cs o r : List Int} {e k : Int} (hc : CE cs e) (h : WI cs e o r k) (hk : (fls cs e).sum + k < e) : r ≠ [] ∧ WI cs e (gst (o, r)).1 (gst (o, r)).2 (k + 1) := by
  have hT := dv_pos cs
  have hl1 := hc.ok.l1
  have hne : r ≠ [] := by
    intro e1
    have := h.lr
    rw [e1] at this
    simp at this
    omega
  refine ⟨hne, ?_⟩
  obtain ⟨_, hg, _⟩ := mxi_spec hne
  have hpos : 0 < mxL r := by
    refine Classical.byContradiction (fun hn => ?_)
    have h1 := sum_nonpos (r := r) (fun x hx => by have := mxL_ge hx; omega)
    have h2 := sum3 h.lo h.lr h.le
    have h3 := h.s
    have hs := hc.ok.sum
    have he0 := hc.e0
    have he1 := hc.e1
    by_cases h0 : cs.sum = 0
    · have : e = 0 := by omega
      subst this
      have hz : ∀ cs' : List Int, (cs'.map (fun c => c * 0 / dv cs)).sum = 0 := by
        intro cs'
        induction cs' with
        | nil => rfl
        | cons c l ih => rw [List.map_cons, List.sum_cons, ih]; simp
      have hf : (fls cs 0).sum = 0 := hz cs
      rw [h0, Int.zero_mul] at h2
      have : 0 ≤ dv cs * o.sum := by omega
      have h5 : o.sum < 0 := by omega
      have h6 := Int.mul_neg_of_pos_of_neg hT h5
      omega
    · have hd : dv cs = cs.sum := by unfold dv; omega
      rw [hd] at h2
      have h5 : cs.sum * e ≤ cs.sum * o.sum := by omega
      have h6 := Int.le_of_mul_le_mul_left h5 (by omega)
      omega
  have hi : mxi r < r.length := (List.getElem?_eq_some_iff.1 hg).1
  have hlo := h.lo
  have hlr := h.lr
  obtain ⟨a, ha⟩ : ∃ a, o[mxi r]? = some a := ⟨_, List.getElem?_eq_getElem (by omega)⟩
  obtain ⟨c, hcc⟩ : ∃ c, cs[mxi r]? = some c := ⟨_, List.getElem?_eq_getElem (by omega)⟩
  have e1 : gst (o, r) = (o.set (mxi r) (a + 1), r.set (mxi r) (-1)) := by
    unfold gst
    simp only [ha, Option.getD_some]
  rw [e1]
  refine ⟨by simp [hlo], by simp [hlr], ?_, fun i c' a' b' hc' ha' hb' => ?_⟩
  · show (o.set (mxi r) (a + 1)).sum = _
    rw [set_sum ha, h.s]; omega
  · simp only at ha' hb'
    rw [List.getElem?_set] at ha' hb'
    by_cases him : mxi r = i
    · subst him
      rw [if_pos rfl, if_pos (by omega)] at ha' hb'
      rw [hcc] at hc'
      cases hc'
      have h7 := h.pt _ c a (mxL r) hcc ha hg
      have := Option.some.inj ha'
      have := Option.some.inj hb'
      right
      rcases h7 with ⟨g1, g2⟩ | ⟨g1, g2, g3⟩
      · refine ⟨by omega, by omega, by omega⟩
      · omega
    · rw [if_neg him] at ha' hb'
      exact h.pt i c' a' b' hc' ha' hb'
/-- The whole awards. -/
def whl (cs : List Int) (e : Int) : List Int := (wst (fls cs e) (rts cs e) (e - (fls cs e).sum).toNat).1
theorem fls_le {cs : List Int} {e : Int} (hc : CE cs e) : (fls cs e).sum ≤ e := by
  have hT := dv_pos cs
  have hs := hc.ok.sum
  have he0 := hc.e0
  have he1 := hc.e1
  have key : ∀ l : List Int, dv cs * (l.map (fun c => c * e / dv cs)).sum ≤ l.sum * e := by
    intro l
    induction l with
    | nil => simp
    | cons c l ih =>
      rw [List.map_cons, List.sum_cons, List.sum_cons, Int.mul_add, Int.add_mul]
      have := Int.mul_ediv_self_le (x := c * e) (k := dv cs) (by omega)
      omega
  have h1 := key cs
  by_cases h0 : cs.sum = 0
  · have : e = 0 := by omega
    subst this
    rw [Int.mul_zero] at h1
    refine Classical.byContradiction (fun hn => ?_)
    have := Int.mul_pos hT (show 0 < (fls cs 0).sum by omega)
    unfold fls at this
    omega
  · have hd : dv cs = cs.sum := by unfold dv; omega
    refine Int.le_of_mul_le_mul_left (a := cs.sum) ?_ (by omega)
    rw [← hd]
    have : dv cs * (fls cs e).sum ≤ cs.sum * e := h1
    rw [hd] at this ⊢
    exact this
theorem wst_WI {cs : List Int} {e : Int} (hc : CE cs e) : ∀ k : Nat, (fls cs e).sum + k ≤ e → WI cs e (wst (fls cs e) (rts cs e) k).1 (wst (fls cs e) (rts cs e) k).2 k
  | 0, _ => WI.start cs e
  | k + 1, h => by
    have ih := wst_WI hc k (by omega)
    have := (WI.step hc ih (by omega)).2
    have e1 : ((k + 1 : Nat) : Int) = (k : Int) + 1 := by omega
    rw [e1]
    exact this
theorem whl_WI {cs : List Int} {e : Int} (hc : CE cs e) : WI cs e (whl cs e) (wst (fls cs e) (rts cs e) (e - (fls cs e).sum).toNat).2 (e - (fls cs e).sum) := by
  have hle := fls_le hc
  have h := wst_WI hc (e - (fls cs e).sum).toNat (by omega)
  have e1 : (((e - (fls cs e).sum).toNat : Nat) : Int) = e - (fls cs e).sum := by omega
  rw [e1] at h
  exact h
/-- Whether awards in whole numbers are as near as they can be. -/
def nrW (cs : List Int) (e : Int) (ws : List Int) : Bool := (cs.zip ws).all (fun z => decide (z.1 * e / dv cs ≤ z.2 ∧ z.2 ≤ (z.1 * e + dv cs - 1) / dv cs))
def wE (cs : List Int) (e : Int) (ws : List Int) : Int :=
  if vE cs e = 0 then (if ws.length = cs.length ∧ ws.all cK = true then (if nrW cs e ws = true then (if ws.sum = e then 0 else 7) else 8) else 1) else vE cs e
theorem wE_v {cs ws : List Int} {e : Int} (h : ¬ vE cs e = 0) : wE cs e ws = vE cs e := by unfold wE; rw [if_neg h]
theorem wE_1 {cs ws : List Int} {e : Int} (h : vE cs e = 0) (h2 : ¬ (ws.length = cs.length ∧ ws.all cK = true)) : wE cs e ws = 1 := by unfold wE; rw [if_pos h, if_neg h2]
theorem wE_8 {cs ws : List Int} {e : Int} (h : vE cs e = 0) (h2 : ws.length = cs.length ∧ ws.all cK = true) (h3 : nrW cs e ws = false) : wE cs e ws = 8 := by unfold wE; rw [if_pos h, if_pos h2, if_neg (by rw [h3]; simp)]
theorem wE_e {cs ws : List Int} {e : Int} (h : vE cs e = 0) (h2 : ws.length = cs.length ∧ ws.all cK = true) (h3 : nrW cs e ws = true) : wE cs e ws = if ws.sum = e then 0 else 7 := by unfold wE; rw [if_pos h, if_pos h2, if_pos h3]
theorem whl_ok {cs : List Int} {e : Int} (hc : CE cs e) : wE cs e (whl cs e) = 0 := by
  have hW := whl_WI hc
  have hT := dv_pos cs
  have hs := hc.ok.sum
  have he0 := hc.e0
  have he1 := hc.e1
  generalize whl cs e = o at *
  generalize (wst (fls cs e) (rts cs e) (e - (fls cs e).sum).toNat).2 = r at *
  have hlo := hW.lo
  have hlr := hW.lr
  have pt : ∀ (i : Nat) (c a : Int), cs[i]? = some c → o[i]? = some a → (c * e / dv cs ≤ a ∧ a ≤ (c * e + dv cs - 1) / dv cs) ∧ 0 ≤ a ∧ a ≤ 1000 := by
    intro i c a hcc ha
    have hi := (List.getElem?_eq_some_iff.1 ha).1
    obtain ⟨b, hb⟩ : ∃ b, r[i]? = some b := ⟨_, List.getElem?_eq_getElem (by omega)⟩
    have hcb := hc.ok.c c (List.mem_of_getElem? hcc)
    have hdm := Int.mul_ediv_add_emod (c * e) (dv cs)
    have hlt := Int.emod_lt_of_pos (c * e) hT
    have hge := Int.emod_nonneg (c * e) (show dv cs ≠ 0 by omega)
    have hce := Int.mul_nonneg hcb.1 he0
    have hceT : c * e ≤ dv cs * c := by
      rw [Int.mul_comm (dv cs)]
      exact Int.mul_le_mul_of_nonneg_left (by unfold dv; omega) hcb.1
    have hq0 : 0 ≤ c * e / dv cs := Int.ediv_nonneg hce (by omega)
    rcases hW.pt i c a b hcc ha hb with ⟨rfl, _⟩ | ⟨rfl, _, h3⟩
    · refine ⟨⟨Int.le_refl _, (Int.le_ediv_iff_mul_le hT).2 ?_⟩, hq0, ?_⟩
      · rw [Int.mul_comm]; omega
      · have : c * e / dv cs ≤ c := by
          refine Int.le_of_mul_le_mul_left (a := dv cs) ?_ hT
          omega
        omega
    · have hqc : c * e / dv cs + 1 ≤ c := by
        have : dv cs * (c * e / dv cs) < dv cs * c := by omega
        have := Int.lt_of_mul_lt_mul_left this (by omega)
        omega
      refine ⟨⟨by omega, (Int.le_ediv_iff_mul_le hT).2 ?_⟩, by omega, by omega⟩
      rw [Int.mul_comm, Int.mul_add, Int.mul_one]
      omega
  have h2 : o.length = cs.length ∧ o.all cK = true := by
    refine ⟨hlo, List.all_eq_true.2 (fun a ha => ?_)⟩
    obtain ⟨i, hi⟩ := List.mem_iff_getElem?.1 ha
    have hil := (List.getElem?_eq_some_iff.1 hi).1
    obtain ⟨c, hcc⟩ : ∃ c, cs[i]? = some c := ⟨_, List.getElem?_eq_getElem (by omega)⟩
    exact decide_eq_true (pt i c a hcc hi).2
  have h3 : nrW cs e o = true := by
    refine List.all_eq_true.2 (fun z hz => ?_)
    obtain ⟨i, hi⟩ := List.mem_iff_getElem?.1 hz
    rw [List.getElem?_zip_eq_some] at hi
    exact decide_eq_true (pt i z.1 z.2 hi.1 hi.2).1
  rw [wE_e (vE_0.2 hc) h2 h3, if_pos (by have := hW.s; omega)]
end Go.Proofs.Ytdcdjhhjlpegjaa

namespace Go.Proofs.Ytdcdjhhjlpegjaa
open Go Go.Eng
section
variable {cs : List Int} {e : Int}
end
end Go.Proofs.Ytdcdjhhjlpegjaa

namespace Go.Proofs.Ytdcdjhhjlpegjaa
open Go Go.Eng
section
variable {cs : List Int} {rs : List (Int × Int)} {v u : AV} {A : AHeap} {e : Int}
end
end Go.Proofs.Ytdcdjhhjlpegjaa

namespace Go.Proofs.Ytdcdjhhjlpegjaa
open Go Go.Eng
theorem mulb {x y X Y : Int} (hx : 0 ≤ x ∧ x ≤ X) (hy : 0 ≤ y ∧ y ≤ Y) : 0 ≤ x * y ∧ x * y ≤ X * Y :=
  ⟨Int.mul_nonneg hx.1 hy.1, Int.le_trans (Int.mul_le_mul_of_nonneg_right hx.2 hy.1) (Int.mul_le_mul_of_nonneg_left hy.2 (by omega))⟩
section
variable {cs : List Int} {v u : AV} {A : AHeap} {e : Int}
end
end Go.Proofs.Ytdcdjhhjlpegjaa

namespace Go.Proofs.Ytdcdjhhjlpegjaa
open Go Go.Eng
abbrev C (xs : List Int) : AObj := .cells true (xs.flatMap e1)
theorem w_len (A : AHeap) (o : AObj) : (A ++ [o]).length = A.length + 1 := by simp
theorem repl0 (cs : List Int) : repl [.int .i64 0] cs.length = (cs.map (fun _ => (0 : Int))).flatMap e1 := by
  induction cs with
  | nil => rfl
  | cons c cs ih => rw [List.length_cons, repl, ih]; rfl
/-- Two lists that the call has made, at known places. -/
structure Two (A H : AHeap) (n m : Nat) (o r : List Int) : Prop where
  pre : A <+: H
  hn : A.length ≤ n
  hm : A.length ≤ m
  ne : n ≠ m
  o : H[n]? = some (C o)
  r : H[m]? = some (C r)
theorem Two.olO {A H : AHeap} {n m : Nat} {o r : List Int} (h : Two A H n m o r) (full : Bool) : OL 1 e1 A H n (.sl 1 n 0 o.length full) o := ⟨e1_len, h.pre, h.hn, h.o, ⟨full, rfl⟩⟩
theorem Two.olR {A H : AHeap} {n m : Nat} {o r : List Int} (h : Two A H n m o r) (full : Bool) : OL 1 e1 A H m (.sl 1 m 0 r.length full) r := ⟨e1_len, h.pre, h.hm, h.r, ⟨full, rfl⟩⟩
theorem Two.setO {A H : AHeap} {n m : Nat} {o r : List Int} (h : Two A H n m o r) (o' : List Int) : Two A (H.set n (C o')) n m o' r := by
  have hl : n < H.length := (List.getElem?_eq_some_iff.1 h.o).1
  refine ⟨pre_set h.pre h.hn _, h.hn, h.hm, h.ne, ?_, ?_⟩
  · rw [List.getElem?_set, if_pos rfl, if_pos hl]
  · rw [List.getElem?_set, if_neg h.ne]; exact h.r
theorem Two.setR {A H : AHeap} {n m : Nat} {o r : List Int} (h : Two A H n m o r) (r' : List Int) : Two A (H.set m (C r')) n m o r' := by
  have hl : m < H.length := (List.getElem?_eq_some_iff.1 h.r).1
  refine ⟨pre_set h.pre h.hm _, h.hn, h.hm, h.ne, ?_, ?_⟩
  · rw [List.getElem?_set, if_neg (Ne.symm h.ne)]; exact h.o
  · rw [List.getElem?_set, if_pos rfl, if_pos hl]
section
variable {cs ws : List Int} {v u : AV} {A : AHeap} {e : Int}
theorem dv_max (cs : List Int) : max 1 cs.sum = dv cs := rfl
theorem ce_b (hc : CE cs e) {c : Int} (h : c ∈ cs) : (0 ≤ c * e ∧ c * e ≤ 8000000) ∧ (c * e).tdiv (dv cs) = c * e / dv cs ∧ (c * e).tmod (dv cs) = c * e % dv cs ∧ ¬ dv cs = 0 ∧ (0 ≤ c * e / dv cs ∧ c * e / dv cs ≤ 8000000) ∧ 0 ≤ c * e % dv cs ∧ c * e % dv cs ≤ 8000 ∧ dv cs ≤ 8000 := by
  have hcb := hc.ok.c c h
  have hs := hc.ok.sum
  have he0 := hc.e0
  have he1 := hc.e1
  have hT := dv_pos cs
  have hm := mulb hcb (show 0 ≤ e ∧ e ≤ 8000 by omega)
  have hT2 : dv cs ≤ 8000 := by unfold dv; omega
  have h1 := Int.ediv_le_self (dv cs) hm.1
  have h2 := Int.ediv_nonneg hm.1 (show 0 ≤ dv cs by omega)
  have h3 := Int.emod_lt_of_pos (c * e) hT
  have h4 := Int.emod_nonneg (c * e) (show dv cs ≠ 0 by omega)
  refine ⟨by omega, Int.tdiv_eq_ediv_of_nonneg hm.1, Int.tmod_eq_emod_of_nonneg hm.1, by omega, by omega, h4, by omega, hT2⟩
theorem r_Whole_bad (hx : L1 A v cs) (hl : cs.length ≤ 1000000) (h0 : ¬ vE cs e = 0) : ACalls Try.prog 31 [v, I e] A (.tuple [.nilS, I (vE cs e)]) A := by
  refine acalls hmix Try.func31 (by kernel_rfl) t31 2 rfl (by decide) ?_
  dsimp only [m31]
  simp (maxSteps := 4000000) -implicitDefEqProofs -dsimp (disch := omega) only [↓AW_ops, ↓AW_seq, ↓AOps_nil, ↓AOps_pu, ↓AOps_call, on_some, ↓then_normal, pval, rd_S, rd_C, put_S, List.replicate_succ, List.replicate_zero, List.set_cons_zero, List.set_cons_succ, List.getElem?_cons_zero, List.getElem?_cons_succ, Option.getD_some, map_c, map_n, Nat.reduceSub, List.cons_append, List.nil_append]
  refine CallK.of (s16 hx hl e) ?_
  simp (maxSteps := 4000000) -implicitDefEqProofs -dsimp (disch := omega) only [↓AW_ops, ↓AW_seq, ↓AW_cond, ↓AW_ret, ↓AOps_nil, ↓AOps_pu, on_some, extK_same, condB_t, ↓then_normal, ↓then_ret, ↓Fin_ret, pval, rd_S, rd_C, put_S, resV, resL, List.replicate_succ, List.replicate_zero, List.set_cons_zero, List.set_cons_succ, List.getElem?_cons_zero, List.getElem?_cons_succ, Option.getD_some, Nat.reduceSub, List.cons_append, List.nil_append, bin_neq, decide_true, not_false_eq_true, h0]
  exact gc_same rfl
theorem s_sumfl {cs : List Int} {e : Int} (i : Nat) {c : Int} (h : cs[i]? = some c) : ((fls cs e).take (i + 1)).sum = ((fls cs e).take i).sum + c * e / dv cs := by
  refine take_sum ?_
  unfold fls
  rw [List.getElem?_map, h]
  rfl
theorem fl_bd (hc : CE cs e) (i : Nat) : 0 ≤ ((fls cs e).take i).sum ∧ ((fls cs e).take i).sum ≤ 64000000 := by
  have h1 := sum_bd0 (K := 8000000) (l := (fls cs e).take i) (fun x hx => by
    obtain ⟨c, hcm, rfl⟩ := List.mem_map.1 (List.mem_of_mem_take hx)
    exact (ce_b hc hcm).2.2.2.2.1)
  have h2 : ((fls cs e).take i).length ≤ 8 := by
    have := hc.ok.l8
    rw [List.length_take]
    simp only [fls, List.length_map]
    omega
  omega
set_option maxRecDepth 20000 in
set_option maxHeartbeats 8000000 in
theorem r_Whole (hx : L1 A v cs) (hl : cs.length ≤ 1000000) (hc : CE cs e) : ∃ t H, ACalls Try.prog 31 [v, I e] A t H ∧ ∃ r, t = .tuple [r, I 0] ∧ A <+: H ∧ L1 H r (whl cs e) := by
  refine acallsR hmix Try.func31 (by kernel_rfl) t31 _ 2 rfl (by decide) ?_
  have hl1 := hc.ok.l1
  have hl8 := hc.ok.l8
  have hs := hc.ok.sum
  have he0 := hc.e0
  have he1 := hc.e1
  have hv0 := vE_0.2 hc
  have hlim : (cs.length : Int) ≤ (lim : Nat) := by simp only [lim]; omega
  have hn0 : (0 : Int) ≤ cs.length := by omega
  dsimp only [m31]
  simp (maxSteps := 4000000) -implicitDefEqProofs -dsimp (disch := omega) only [↓AW_ops, ↓AW_seq, ↓AOps_nil, ↓AOps_pu, ↓AOps_call, on_some, ↓then_normal, pval, rd_S, rd_C, put_S, List.replicate_succ, List.replicate_zero, List.set_cons_zero, List.set_cons_succ, List.getElem?_cons_zero, List.getElem?_cons_succ, Option.getD_some, map_c, map_n, Nat.reduceSub, List.cons_append, List.nil_append]
  refine CallK.of (s16 hx hl e) ?_
  rw [hv0]
  simp (maxSteps := 4000000) -implicitDefEqProofs -dsimp (disch := omega) only [↓AW_skip, ↓AW_ops, ↓AW_seq, ↓AW_cond, ↓AOps_nil, ↓AOps_pu, ↓AOps_call, on_some, extK_same, condB_f, ↓then_normal, pval, rd_S, rd_C, put_S, eq_self, List.replicate_succ, List.replicate_zero, List.set_cons_zero, List.set_cons_succ, List.getElem?_cons_zero, List.getElem?_cons_succ, Option.getD_some, map_c, map_n, Nat.reduceSub, List.cons_append, List.nil_append, bin_neq, decide_false, not_true_eq_false]
  refine CallK.of (c_total hx hl hc.ok.bd) ?_
  simp (maxSteps := 4000000) -implicitDefEqProofs -dsimp (disch := omega) only [↓AW_ops, ↓AW_seq, ↓AW_block, ↓AOps_nil, ↓AOps_pu, ↓AOps_ha, on_some, extK_app, extK_same, ↓then_normal, pval, hval_mks, rd_S, rd_C, put_S, ↓AW_toLoop, beq_self_eq_true, List.replicate_succ, List.replicate_zero, List.set_cons_zero, List.set_cons_succ, List.getElem?_cons_zero, List.getElem?_cons_succ, Option.getD_some, map_c, map_n, Nat.reduceSub, List.cons_append, List.nil_append, mm_max, if_true, and_true, hx.len, dv_max, hlim, hn0, Int.le_refl, Int.toNat_natCast, repl0, w_len]
  refine LoopK.by 78 (fun i : Nat => i ≤ cs.length) (fun i => [(1, I e), (7, I (dv cs)), (8, .sl 1 A.length 0 cs.length true), (9, .sl 1 (A.length + 1) 0 cs.length true), (10, I (e - ((fls cs e).take i).sum)), (30, v), (31, I cs.length), (32, I i)])
    (fun i => A ++ [C (mid (fun c => c * e % dv cs) cs (fun _ => 0) i)] ++ [C (mid (fun c => c * e / dv cs) cs (fun _ => 0) i)]) (fun i => cs.length - i) 0 (by omega) rfl (by simp [Has, rd_s]) (by rw [mid_0, mid_0]) ?_
  intro i hi
  have hT2 : Two A (A ++ [C (mid (fun c => c * e % dv cs) cs (fun _ => 0) i)] ++ [C (mid (fun c => c * e / dv cs) cs (fun _ => 0) i)]) (A.length + 1) A.length (mid (fun c => c * e / dv cs) cs (fun _ => 0) i) (mid (fun c => c * e % dv cs) cs (fun _ => 0) i) :=
    ⟨(pre_app A _).trans (pre_app _ _), by omega, Nat.le_refl _, by omega, by rw [List.getElem?_append_right (by simp)]; simp, by rw [List.getElem?_append_left (by simp)]; simp⟩
  have hlo : (mid (fun c => c * e / dv cs) cs (fun _ => 0) i).length = cs.length := mid_len _ _ _ _
  have hlr : (mid (fun c => c * e % dv cs) cs (fun _ => 0) i).length = cs.length := mid_len _ _ _ _
  have oO := hT2.olO true
  have oR := hT2.olR true
  rw [hlo] at oO
  rw [hlr] at oR
  have hxm := hx.mono hT2.pre
  by_cases hlt : i < cs.length
  · obtain ⟨c, hz⟩ : ∃ z, cs[i]? = some z := ⟨_, List.getElem?_eq_getElem hlt⟩
    have hlt' : (i : Int) < cs.length := by omega
    obtain ⟨b1, b2, b3, b4, b5, b6, b7, b8⟩ := ce_b hc (List.mem_of_getElem? hz)
    have hfb := fl_bd hc i
    have hdT := dv_pos cs
    have st1 := oO.st (i := i) (by rw [hlo]; exact hlt) (I (c * e / dv cs)) (c * e / dv cs) rfl
    rw [mid_set hz] at st1
    have hT3 := hT2.setO (mid (fun c => c * e / dv cs) cs (fun _ => 0) (i + 1))
    have oR3 := hT3.olR true
    rw [hlr] at oR3
    have st2 := oR3.st (i := i) (by rw [hlr]; exact hlt) (I (c * e % dv cs)) (c * e % dv cs) rfl
    rw [mid_set hz] at st2
    have hT4 := hT3.setR (mid (fun c => c * e % dv cs) cs (fun _ => 0) (i + 1))
    have oO4 := hT4.olO true
    have hlo1 : (mid (fun c => c * e / dv cs) cs (fun _ => 0) (i + 1)).length = cs.length := mid_len _ _ _ _
    rw [hlo1] at oO4
    have hgo : (mid (fun c => c * e / dv cs) cs (fun _ => 0) (i + 1))[i]? = some (c * e / dv cs) := by
      rw [← mid_set hz, List.getElem?_set, if_pos rfl, if_pos (by rw [hlo]; exact hlt)]
    have ld4 := oO4.ls.ld0 hgo 1 false (by decide)
    have hHe : ((A ++ [C (mid (fun c => c * e % dv cs) cs (fun _ => 0) i)] ++ [C (mid (fun c => c * e / dv cs) cs (fun _ => 0) i)]).set (A.length + 1) (C (mid (fun c => c * e / dv cs) cs (fun _ => 0) (i + 1)))).set A.length (C (mid (fun c => c * e % dv cs) cs (fun _ => 0) (i + 1))) = A ++ [C (mid (fun c => c * e % dv cs) cs (fun _ => 0) (i + 1))] ++ [C (mid (fun c => c * e / dv cs) cs (fun _ => 0) (i + 1))] := by
      simp []
    have hsf := s_sumfl (e := e) i hz
    have ixO := oO.ls.idx (k := .i64) (i := i) (by rw [hlo]; exact hlt)
    have ixR := oR.ls.idx (k := .i64) (i := i) (by rw [hlr]; exact hlt)
    generalize ((A ++ [C (mid (fun c => c * e % dv cs) cs (fun _ => 0) i)] ++ [C (mid (fun c => c * e / dv cs) cs (fun _ => 0) i)]).set (A.length + 1) (C (mid (fun c => c * e / dv cs) cs (fun _ => 0) (i + 1)))).set A.length (C (mid (fun c => c * e % dv cs) cs (fun _ => 0) (i + 1))) = HH at *
    generalize (A ++ [C (mid (fun c => c * e % dv cs) cs (fun _ => 0) i)] ++ [C (mid (fun c => c * e / dv cs) cs (fun _ => 0) i)]).set (A.length + 1) (C (mid (fun c => c * e / dv cs) cs (fun _ => 0) (i + 1))) = HG at *
    generalize A ++ [C (mid (fun c => c * e % dv cs) cs (fun _ => 0) i)] ++ [C (mid (fun c => c * e / dv cs) cs (fun _ => 0) i)] = HF at *
    generalize hq : c * e = ce at *
    generalize hq2 : ce / dv cs = qq at *
    generalize hq3 : ce % dv cs = rr at *
    simp (maxSteps := 4000000) -implicitDefEqProofs -dsimp (disch := omega) only [↓AW_skip, ↓AW_ops, ↓AW_seq, ↓AW_cond, ↓AW_block, ↓AOps_nil, ↓AOps_pu, ↓AOps_ld, ↓AOps_ha, on_some, extK_false, condB_t, ↓then_normal, ↓inBlock_normal, pval, lval, hval_st, rd_S, rd_C, put_S, putS_none, partA, eq_self, mk, List.foldl_cons, List.foldl_nil, List.replicate_succ, List.replicate_zero, List.set_cons_zero, List.set_cons_succ, List.getElem?_cons_zero, List.getElem?_cons_succ, List.drop_zero, List.take_succ_cons, List.take_nil, Option.getD_some, Option.map_some, List.length_cons, List.length_nil, Nat.reduceAdd, Nat.reduceLeDiff, Nat.zero_add, bin_add, bin_sub, bin_mul, bin_quo, bin_rem, bin_lss, w64, if_true, if_false, Bool.false_eq_true, decide_true, Go.Eng.e1, true_and, hlt', hxm.idx hlt, hxm.ld0 hz 1 false (by decide), hq, b2, b3, b4, ixO, ixR, st1, st2, ld4]
    refine ⟨i + 1, hlt, by simp [Has, rd_s, hsf]; omega, hHe, by omega⟩
  · have hlt' : ¬ ((i : Int) < cs.length) := by omega
    have hie : i = cs.length := by omega
    subst hie
    have hmo : mid (fun c => c * e / dv cs) cs (fun _ => 0) cs.length = fls cs e := mid_all _ _ _
    have hmr : mid (fun c => c * e % dv cs) cs (fun _ => 0) cs.length = rts cs e := mid_all _ _ _
    rw [hmo, hmr] at hT2
    rw [hmo, hmr]
    have htk : (fls cs e).take cs.length = fls cs e := List.take_of_length_le (by simp [fls])
    rw [htk]
    have hle := fls_le hc
    have hf0 := (fl_bd hc cs.length).1
    rw [htk] at hf0
    generalize A ++ [C (rts cs e)] ++ [C (fls cs e)] = H0 at *
    obtain ⟨K, hK⟩ : ∃ K : Nat, e - (fls cs e).sum = K := ⟨(e - (fls cs e).sum).toNat, by omega⟩
    have hwl : whl cs e = (wst (fls cs e) (rts cs e) K).1 := by
      unfold whl
      rw [hK, Int.toNat_natCast]
    simp (maxSteps := 4000000) -implicitDefEqProofs -dsimp (disch := omega) only [↓AW_ops, ↓AW_seq, ↓AW_cond, ↓AW_block, ↓AW_exit, ↓AOps_nil, ↓AOps_pu, on_some, condB_f, ↓then_normal, ↓then_exit, ↓inBlock_exit, pval, rd_S, rd_C, put_S, ↓AW_toLoop, eq_self, mk, List.foldl_cons, List.foldl_nil, List.replicate_succ, List.replicate_zero, List.set_cons_zero, List.set_cons_succ, List.getElem?_cons_zero, List.getElem?_cons_succ, Option.getD_some, bin_lss, if_true, decide_false, hlt', hK]
    refine LoopK.by 78 (fun x : Nat × AHeap => x.1 ≤ K ∧ Two A x.2 (A.length + 1) A.length (wst (fls cs e) (rts cs e) x.1).1 (wst (fls cs e) (rts cs e) x.1).2) (fun x => [(8, .sl 1 A.length 0 cs.length true), (9, .sl 1 (A.length + 1) 0 cs.length true), (60, I K), (61, I x.1)]) (fun x => x.2) (fun x => K - x.1) (0, H0) ⟨by simp only; omega, hT2⟩ rfl (by simp [Has, rd_s]) rfl ?_
    rintro ⟨k, H⟩ ⟨hk, hT⟩
    simp only at hk hT
    have hWI := wst_WI hc k (by omega)
    by_cases hkl : k < K
    · have hkl' : (k : Int) < K := by omega
      obtain ⟨hne, hWn⟩ := hWI.step hc (by omega)
      have hstep : wst (fls cs e) (rts cs e) (k + 1) = gst (wst (fls cs e) (rts cs e) k) := rfl
      generalize wst (fls cs e) (rts cs e) k = p at *
      obtain ⟨o, r⟩ := p
      simp only at hT hWI hne hWn
      have hlo := hWI.lo
      have hlr := hWI.lr
      have oO := hT.olO true
      have oR := hT.olR true
      rw [hlo] at oO
      rw [hlr] at oR
      obtain ⟨g1, g2, _⟩ := mxi_spec hne
      have hi : mxi r < cs.length := by rw [← hlr]; exact (List.getElem?_eq_some_iff.1 g2).1
      obtain ⟨a, ha⟩ : ∃ a, o[mxi r]? = some a := ⟨_, List.getElem?_eq_getElem (by omega)⟩
      have hab : 0 ≤ a ∧ a ≤ 8000001 := by
        obtain ⟨c, hcc⟩ : ∃ c, cs[mxi r]? = some c := ⟨_, List.getElem?_eq_getElem hi⟩
        have hcb := ce_b hc (List.mem_of_getElem? hcc)
        rcases hWI.pt _ c a _ hcc ha g2 with ⟨rfl, _⟩ | ⟨rfl, _, _⟩ <;> omega
      simp (maxSteps := 4000000) -implicitDefEqProofs -dsimp (disch := omega) only [↓AW_skip, ↓AW_ops, ↓AW_seq, ↓AW_cond, ↓AW_block, ↓AOps_nil, ↓AOps_pu, ↓AOps_call, on_some, condB_t, ↓then_normal, pval, rd_S, put_S, mk, List.foldl_cons, List.foldl_nil, List.replicate_succ, List.replicate_zero, List.set_cons_zero, List.set_cons_succ, List.getElem?_cons_zero, List.getElem?_cons_succ, Option.getD_some, map_c, map_n, bin_lss, decide_true, hkl']
      refine CallK.of (c_Max oR.ls (by omega) (by omega)) ?_
      simp (maxSteps := 4000000) -implicitDefEqProofs -dsimp (disch := omega) only [↓AOps_call, extK_same, rd_S, put_S, mk, List.foldl_cons, List.foldl_nil, List.replicate_succ, List.replicate_zero, List.set_cons_zero, List.set_cons_succ, List.getElem?_cons_zero, List.getElem?_cons_succ, Option.getD_some, map_c, map_n]
      refine CallK.of (c_Index oR.ls (by omega) (mxL r)) ?_
      rw [g1]
      have ixO := oO.ls.idx (k := .i64) (i := mxi r) (by omega)
      have ixR := oR.ls.idx (k := .i64) (i := mxi r) (by omega)
      have ldO := oO.ls.ld0 ha 1 false (by decide)
      have st1 := oO.st (i := mxi r) (by omega) (I (a + 1)) (a + 1) rfl
      have hT3 := hT.setO (o.set (mxi r) (a + 1))
      have oR3 := hT3.olR true
      rw [hlr] at oR3
      have st2 := oR3.st (i := mxi r) (by omega) (I (-1)) (-1) rfl
      have hT4 := hT3.setR (r.set (mxi r) (-1))
      simp (maxSteps := 4000000) -implicitDefEqProofs -dsimp (disch := omega) only [↓AW_ops, ↓AW_seq, ↓AOps_nil, ↓AOps_pu, ↓AOps_ld, ↓AOps_ha, on_some, extK_false, extK_same, ↓then_normal, ↓inBlock_normal, pval, lval, hval_st, rd_S, rd_C, put_S, putS_none, partA, eq_self, mk, List.foldl_cons, List.foldl_nil, List.replicate_succ, List.replicate_zero, List.set_cons_zero, List.set_cons_succ, List.getElem?_cons_zero, List.getElem?_cons_succ, List.drop_zero, List.take_succ_cons, List.take_nil, Option.getD_some, Option.map_some, List.length_cons, List.length_nil, Nat.reduceAdd, Nat.reduceLeDiff, Nat.zero_add, bin_add, w64, if_true, if_false, Bool.false_eq_true, Go.Eng.e1, true_and, Int.reduceNeg, ixO, ixR, ldO, st1, st2]
      refine ⟨(k + 1, _), ⟨hkl, ?_⟩, by simp [Has, rd_s], rfl, by simp only; omega⟩
      rw [hstep]
      have hg : gst (o, r) = (o.set (mxi r) (a + 1), r.set (mxi r) (-1)) := by
        unfold gst
        simp only [ha, Option.getD_some]
      rw [hg]
      exact hT4
    · have hkl' : ¬ ((k : Int) < K) := by omega
      have hke : k = K := by omega
      subst hke
      simp (maxSteps := 4000000) -implicitDefEqProofs -dsimp (disch := omega) only [↓AW_ops, ↓AW_seq, ↓AW_cond, ↓AW_exit, ↓AW_ret, ↓AOps_nil, ↓AOps_pu, on_some, condB_f, ↓then_normal, ↓then_exit, ↓inBlock_exit, ↓FinR_ret, pval, rd_S, rd_C, put_S, resV, resL, eq_self, mk, List.foldl_cons, List.foldl_nil, List.replicate_succ, List.replicate_zero, List.set_cons_zero, List.set_cons_succ, List.getElem?_cons_zero, List.getElem?_cons_succ, Option.getD_some, bin_lss, if_true, decide_false, hkl']
      have oO := hT.olO true
      rw [hWI.lo] at oO
      rw [hwl]
      exact ⟨_, _, gc_all, _, rfl, hT.pre, oO.ls⟩
end
end Go.Proofs.Ytdcdjhhjlpegjaa

namespace Go.Eng
open Go
theorem AccL_push2 {α : Type} {es : Nat} {e : α → List AV} {H H1 : AHeap} {v : AV} {xs : List α} (h : AccL es e H H1 v xs) (he : ∀ x, (e x).length = es) (h0 : 0 < es) (x : α) (hl : xs.length + 1 ≤ lim) :
    ∃ v' H2, appA es (H1 ++ [.cells true (e x)]) v (.sl es H1.length 0 1 true) = some (v', H2) ∧ AccL es e H H2 v' (xs ++ [x]) ∧
      (∀ k o, H1[k]? = some o → (∀ n len, v = .sl es n 0 len false → k ≠ n) → H2[k]? = some o) ∧ ∃ n len, v' = .sl es n 0 len false ∧ H1.length ≤ n := by
  obtain ⟨v', H2, happ, hacc⟩ := h.push he x hl
  refine ⟨v', H2, happ, hacc, ?_⟩
  have hc := slCells_new (es := es) H1 (e x) (he x)
  rcases h.2.2 with ⟨h3, rfl⟩ | ⟨h3, n, rfl, h5, h6⟩
  · unfold appA at happ
    rw [hc] at happ
    simp [lim] at happ
    obtain ⟨rfl, rfl⟩ := happ
    refine ⟨fun k o hk _ => ?_, _, _, rfl, by simp⟩
    have hlt := (List.getElem?_eq_some_iff.1 hk).1
    first
      | (rw [List.getElem?_append_left hlt]; exact hk)
      | (rw [List.getElem?_append_left (by rw [List.length_append]; omega), List.getElem?_append_left hlt]; exact hk)
  · have hlt := (List.getElem?_eq_some_iff.1 h6).1
    have hget : (H1 ++ [AObj.cells true (e x)])[n]? = some (.cells true (xs.flatMap e)) := by rw [List.getElem?_append_left hlt]; exact h6
    have hfl := flatMap_length he xs
    unfold appA at happ
    rw [hc] at happ
    simp only [hget, Nat.one_ne_zero, if_false, if_true, true_and] at happ
    rw [if_pos hl, if_pos (by omega)] at happ
    simp only [Bool.false_eq_true, if_false, Option.some.injEq, Prod.mk.injEq] at happ
    obtain ⟨rfl, rfl⟩ := happ
    refine ⟨fun k o hk hne => ?_, _, _, rfl, by simp⟩
    have hk1 := (List.getElem?_eq_some_iff.1 hk).1
    have hkn := hne n xs.length rfl
    rw [List.getElem?_append_left (by simp; omega), List.getElem?_set_ne (Ne.symm hkn), List.getElem?_append_left hk1]
    exact hk
end Go.Eng

namespace Go.Proofs.Ytdcdjhhjlpegjaa
open Go Go.Eng
section
variable {cs ws : List Int} {v u : AV} {A : AHeap} {e : Int}
theorem r_Whole2_bad (hx : L1 A v cs) (hl : cs.length ≤ 1000000) (h0 : ¬ vE cs e = 0) : ACalls Try.prog 32 [v, I e] A (.tuple [.nilS, I (vE cs e)]) A := by
  refine acalls hmix Try.func32 (by kernel_rfl) t32 2 rfl (by decide) ?_
  dsimp only [m32]
  simp (maxSteps := 4000000) -implicitDefEqProofs -dsimp (disch := omega) only [↓AW_ops, ↓AW_seq, ↓AOps_nil, ↓AOps_pu, ↓AOps_call, on_some, ↓then_normal, pval, rd_S, rd_C, put_S, List.replicate_succ, List.replicate_zero, List.set_cons_zero, List.set_cons_succ, List.getElem?_cons_zero, List.getElem?_cons_succ, Option.getD_some, map_c, map_n, Nat.reduceSub, List.cons_append, List.nil_append]
  refine CallK.of (s38 hx hl e) ?_
  simp (maxSteps := 4000000) -implicitDefEqProofs -dsimp (disch := omega) only [↓AW_ops, ↓AW_seq, ↓AW_cond, ↓AW_ret, ↓AOps_nil, ↓AOps_pu, on_some, extK_same, condB_t, ↓then_normal, ↓then_ret, ↓Fin_ret, pval, rd_S, rd_C, put_S, resV, resL, List.replicate_succ, List.replicate_zero, List.set_cons_zero, List.set_cons_succ, List.getElem?_cons_zero, List.getElem?_cons_succ, Option.getD_some, Nat.reduceSub, List.cons_append, List.nil_append, bin_neq, decide_true, not_false_eq_true, h0]
  exact gc_same rfl
/-- Another list grows: this one stays. -/
theorem AccL_stay {A H H2 : AHeap} {z : AV} {ys : List Int} (h : AccL 1 e1 A H z ys) {y : AV} (hk : ∀ k o, H[k]? = some o → (∀ n len, y = .sl 1 n 0 len false → k ≠ n) → H2[k]? = some o) (hp : A <+: H2) (hne : ∀ n len m len', y = .sl 1 n 0 len false → z = .sl 1 m 0 len' false → n ≠ m) : AccL 1 e1 A H2 z ys := by
  refine ⟨hp, h.2.1, ?_⟩
  rcases h.2.2 with h3 | ⟨h3, m, h4, h5, h6⟩
  · exact .inl h3
  · refine .inr ⟨h3, m, h4, h5, hk m _ h6 (fun n len hy => Ne.symm (hne n len m _ hy h4))⟩
theorem mx_take {r : List Int} {i : Nat} {z : Int} (hi : 1 ≤ i) (hz : r[i]? = some z) : (mxL (r.take i) < z → mxi (r.take (i + 1)) = i ∧ mxL (r.take (i + 1)) = z) ∧ (¬ mxL (r.take i) < z → mxi (r.take (i + 1)) = mxi (r.take i) ∧ mxL (r.take (i + 1)) = mxL (r.take i)) := by
  have hil : i < r.length := (List.getElem?_eq_some_iff.1 hz).1
  have hm := mxL_take hi hz
  have hne : r.take i ≠ [] := by
    intro e1
    have := congrArg List.length e1
    rw [List.length_take, List.length_nil] at this
    omega
  have hne2 : r.take (i + 1) ≠ [] := by
    intro e1
    have := congrArg List.length e1
    rw [List.length_take, List.length_nil] at this
    omega
  obtain ⟨_, g2, g3⟩ := mxi_spec hne
  obtain ⟨_, k2, k3⟩ := mxi_spec hne2
  have hlt : mxi (r.take i) < i := by
    have := (List.getElem?_eq_some_iff.1 g2).1
    rw [List.length_take] at this
    omega
  have hlt2 : mxi (r.take (i + 1)) < i + 1 := by
    have := (List.getElem?_eq_some_iff.1 k2).1
    rw [List.length_take] at this
    omega
  have gt : ∀ j, j < i → (r.take (i + 1))[j]? = (r.take i)[j]? := fun j hj => by
    rw [List.getElem?_take, List.getElem?_take, if_pos hj, if_pos (by omega)]
  have gi : (r.take (i + 1))[i]? = some z := by rw [List.getElem?_take, if_pos (by omega)]; exact hz
  constructor
  · intro h
    have hm2 : mxL (r.take (i + 1)) = z := by omega
    refine ⟨?_, hm2⟩
    refine Classical.byContradiction (fun hn => ?_)
    have hj : mxi (r.take (i + 1)) < i := by omega
    rw [gt _ hj, hm2] at k2
    have := mxL_ge (List.mem_of_getElem? k2)
    omega
  · intro h
    have hm2 : mxL (r.take (i + 1)) = mxL (r.take i) := by omega
    refine ⟨?_, hm2⟩
    rcases Nat.lt_trichotomy (mxi (r.take (i + 1))) (mxi (r.take i)) with h1 | h1 | h1
    · rw [gt _ (by omega), hm2] at k2
      exact absurd rfl (g3 _ h1 _ k2)
    · exact h1
    · refine absurd ?_ (k3 _ h1 (mxL (r.take i)) (by rw [gt _ hlt]; exact g2))
      simp [hm2]
set_option maxRecDepth 20000 in
set_option maxHeartbeats 8000000 in
theorem r_Whole2 (hx : L1 A v cs) (hl : cs.length ≤ 1000000) (hc : CE cs e) : ∃ t H, ACalls Try.prog 32 [v, I e] A t H ∧ ∃ r, t = .tuple [r, I 0] ∧ A <+: H ∧ L1 H r (whl cs e) := by
  refine acallsR hmix Try.func32 (by kernel_rfl) t32 _ 2 rfl (by decide) ?_
  have hl1 := hc.ok.l1
  have hl8 := hc.ok.l8
  have hs := hc.ok.sum
  have he0 := hc.e0
  have he1 := hc.e1
  have hv0 := vE_0.2 hc
  have flg : ∀ (i : Nat) (c : Int), cs[i]? = some c → (fls cs e).take (i + 1) = (fls cs e).take i ++ [c * e / dv cs] ∧ (rts cs e).take (i + 1) = (rts cs e).take i ++ [c * e % dv cs] := by
    intro i c h
    constructor
    · rw [List.take_add_one]; unfold fls; rw [List.getElem?_map, h]; rfl
    · rw [List.take_add_one]; unfold rts; rw [List.getElem?_map, h]; rfl
  dsimp only [m32]
  simp (maxSteps := 4000000) -implicitDefEqProofs -dsimp (disch := omega) only [↓AW_ops, ↓AW_seq, ↓AOps_nil, ↓AOps_pu, ↓AOps_call, on_some, ↓then_normal, pval, rd_S, rd_C, put_S, List.replicate_succ, List.replicate_zero, List.set_cons_zero, List.set_cons_succ, List.getElem?_cons_zero, List.getElem?_cons_succ, Option.getD_some, map_c, map_n, Nat.reduceSub, List.cons_append, List.nil_append]
  refine CallK.of (s38 hx hl e) ?_
  rw [hv0]
  simp (maxSteps := 4000000) -implicitDefEqProofs -dsimp (disch := omega) only [↓AW_skip, ↓AW_ops, ↓AW_seq, ↓AW_cond, ↓AOps_nil, ↓AOps_pu, ↓AOps_call, on_some, extK_same, condB_f, ↓then_normal, pval, rd_S, rd_C, put_S, eq_self, List.replicate_succ, List.replicate_zero, List.set_cons_zero, List.set_cons_succ, List.getElem?_cons_zero, List.getElem?_cons_succ, Option.getD_some, map_c, map_n, Nat.reduceSub, List.cons_append, List.nil_append, bin_neq, decide_false, not_true_eq_false]
  refine CallK.of (c_Sum hx hl hc.ok.bd) ?_
  simp (maxSteps := 4000000) -implicitDefEqProofs -dsimp (disch := omega) only [↓AW_ops, ↓AW_seq, ↓AW_block, ↓AOps_nil, ↓AOps_pu, on_some, extK_same, ↓then_normal, pval, rd_S, rd_C, put_S, ↓AW_toLoop, List.replicate_succ, List.replicate_zero, List.set_cons_zero, List.set_cons_succ, List.getElem?_cons_zero, List.getElem?_cons_succ, Option.getD_some, map_c, map_n, Nat.reduceSub, List.cons_append, List.nil_append, mm_max, dv_max]
  refine LoopK.by 80 (fun x : Nat × AV × AV × AHeap => x.1 ≤ cs.length ∧ AccL 1 e1 A x.2.2.2 x.2.1 ((fls cs e).take x.1) ∧ AccL 1 e1 A x.2.2.2 x.2.2.1 ((rts cs e).take x.1) ∧ ∀ n len m len', x.2.1 = .sl 1 n 0 len false → x.2.2.1 = .sl 1 m 0 len' false → n ≠ m)
    (fun x => [(0, v), (1, I e), (7, I (dv cs)), (8, x.2.1), (9, x.2.2.1), (10, I x.1)]) (fun x => x.2.2.2) (fun x => cs.length - x.1) (0, .nilS, .nilS, A) ⟨by simp only; omega, AccL.nil (List.prefix_refl _), AccL.nil (List.prefix_refl _), fun n len m len' h => by simp at h⟩ rfl (by simp [Has, rd_s]) rfl ?_
  rintro ⟨i, y, z, H⟩ ⟨hi, hay, haz, hne⟩
  simp only at hi hay haz hne
  have hxm := hx.mono hay.1
  by_cases hlt : i < cs.length
  · obtain ⟨c, hz⟩ : ∃ z, cs[i]? = some z := ⟨_, List.getElem?_eq_getElem hlt⟩
    have hlt' : (i : Int) < cs.length := by omega
    obtain ⟨b1, b2, b3, b4, b5, b6, b7, b8⟩ := ce_b hc (List.mem_of_getElem? hz)
    obtain ⟨f1, f2⟩ := flg i c hz
    have htl : ((fls cs e).take i).length ≤ 8 ∧ ((rts cs e).take i).length ≤ 8 := by
      rw [List.length_take, List.length_take]; simp only [fls, rts, List.length_map]; omega
    obtain ⟨y', H2, happ, hacc, hkeep, n, len, rfl, hnH⟩ := AccL_push2 hay e1_len (by omega) (c * e / dv cs) (by simp only [lim]; omega)
    simp only [Go.Eng.e1] at happ
    have haz2 := AccL_stay haz hkeep hacc.1 hne
    have hxm2 := hx.mono hacc.1
    obtain ⟨z', H3, happ2, hacc2, hkeep2, n2, len2, rfl, hnH2⟩ := AccL_push2 haz2 e1_len (by omega) (c * e % dv cs) (by simp only [lim]; omega)
    simp only [Go.Eng.e1] at happ2
    have hzn : ∀ n1 len1 m len', z = .sl 1 n1 0 len1 false → AV.sl 1 n 0 len false = .sl 1 m 0 len' false → n1 ≠ m := by
      intro n1 len1 m len' h1 h2
      injection h2 with _ h3 _ _ _
      rcases haz.2.2 with ⟨_, h4⟩ | ⟨_, m2, h4, h5, h6⟩
      · rw [h4] at h1; cases h1
      · rw [h4] at h1
        injection h1 with _ h7 _ _ _
        have := (List.getElem?_eq_some_iff.1 h6).1
        omega
    have hay2 := AccL_stay hacc hkeep2 hacc2.1 hzn
    have hny : ∀ n1 len1 m len', AV.sl 1 n 0 len false = .sl 1 n1 0 len1 false → AV.sl 1 n2 0 len2 false = .sl 1 m 0 len' false → n1 ≠ m := by
      intro n1 len1 m len' h1 h2
      injection h1 with _ h3 _ _ _
      injection h2 with _ h4 _ _ _
      rcases hacc.2.2 with ⟨_, h5⟩ | ⟨_, m2, h5, h6, h7⟩
      · cases h5
      · injection h5 with _ h8 _ _ _
        have := (List.getElem?_eq_some_iff.1 h7).1
        omega
    generalize hq : c * e = ce at *
    generalize hq2 : ce / dv cs = qq at *
    generalize hq3 : ce % dv cs = rr at *
    simp (maxSteps := 4000000) -implicitDefEqProofs -dsimp (disch := omega) only [↓AW_skip, ↓AW_ops, ↓AW_seq, ↓AW_cond, ↓AW_block, ↓AOps_nil, ↓AOps_pu, ↓AOps_ld, ↓AOps_ha, on_some, extK_false, extK_app, condB_t, ↓then_normal, ↓inBlock_normal, pval, lval, hval_blds, hval_app, rd_S, rd_C, put_S, cells_int, splice, partA, fillA, repl, eq_self, mk, List.foldl_cons, List.foldl_nil, List.replicate_succ, List.replicate_zero, List.set_cons_zero, List.set_cons_succ, List.getElem?_cons_zero, List.getElem?_cons_succ, List.drop_zero, List.drop_succ_cons, List.drop_nil, List.take_zero, List.take_succ_cons, List.take_nil, Option.getD_some, map_c, map_n, List.length_cons, List.length_nil, Nat.reduceAdd, Nat.reduceLeDiff, Nat.zero_add, List.nil_append, List.append_nil, bin_add, bin_mul, bin_quo, bin_rem, bin_lss, w64, if_true, if_false, Bool.false_eq_true, decide_true, Go.Eng.e1, true_and, and_true, ne_eq, hlt', hxm.len, hxm.idx hlt, hxm.ld0 hz 1 false (by decide), hxm2.ld0 hz 1 false (by decide), hq, b2, b3, b4, happ, happ2, List.replicate_zero, repl]
    refine ⟨(i + 1, .sl 1 n 0 len false, .sl 1 n2 0 len2 false, H3), ⟨hlt, by simp only; rw [f1]; exact hay2, by simp only; rw [f2]; exact hacc2, hny⟩, by simp [Has, rd_s], rfl, by simp only; omega⟩
  · have hlt' : ¬ ((i : Int) < cs.length) := by omega
    have hfl : (fls cs e).length = cs.length := by simp [fls]
    have hrl : (rts cs e).length = cs.length := by simp [rts]
    rw [List.take_of_length_le (by omega)] at hay haz
    have hle := fls_le hc
    obtain ⟨K, hK⟩ : ∃ K : Nat, e - (fls cs e).sum = K := ⟨(e - (fls cs e).sum).toNat, by omega⟩
    have hwl : whl cs e = (wst (fls cs e) (rts cs e) K).1 := by
      unfold whl
      rw [hK, Int.toNat_natCast]
    obtain ⟨n, oy, hyv⟩ := AccL_ol hay e1_len (by omega)
    obtain ⟨m, oz, hzv⟩ := AccL_ol haz e1_len (by omega)
    have hT2 : Two A H n m (fls cs e) (rts cs e) := ⟨hay.1, oy.new, oz.new, hne n _ m _ hyv hzv, oy.ob, oz.ob⟩
    rw [hfl] at hyv
    rw [hrl] at hzv
    subst hyv
    subst hzv
    simp (maxSteps := 4000000) -implicitDefEqProofs -dsimp (disch := omega) only [↓AW_ops, ↓AW_seq, ↓AW_cond, ↓AW_block, ↓AW_exit, ↓AOps_nil, ↓AOps_pu, on_some, condB_f, ↓then_normal, ↓then_exit, ↓inBlock_exit, pval, rd_S, put_S, ↓AW_toLoop, eq_self, mk, List.foldl_cons, List.foldl_nil, List.replicate_succ, List.replicate_zero, List.set_cons_zero, List.set_cons_succ, List.getElem?_cons_zero, List.getElem?_cons_succ, Option.getD_some, bin_lss, if_true, decide_false, hlt', hxm.len]
    refine LoopK.by 80 (fun x : Nat × AHeap => x.1 ≤ K ∧ Two A x.2 n m (wst (fls cs e) (rts cs e) x.1).1 (wst (fls cs e) (rts cs e) x.1).2) (fun _ => [(1, I e), (8, .sl 1 n 0 cs.length false), (9, .sl 1 m 0 cs.length false)]) (fun x => x.2) (fun x => K - x.1) (0, H) ⟨by simp only; omega, hT2⟩ rfl (by simp [Has, rd_s]) rfl ?_
    rintro ⟨k, G⟩ ⟨hk, hT⟩
    simp only at hk hT
    have hWI := wst_WI hc k (by omega)
    have hsum := hWI.s
    have hlo := hWI.lo
    have hlr := hWI.lr
    have hstep : wst (fls cs e) (rts cs e) (k + 1) = gst (wst (fls cs e) (rts cs e) k) := rfl
    have hstepK : K = k → whl cs e = (wst (fls cs e) (rts cs e) k).1 := fun h => by rw [hwl, h]
    generalize wst (fls cs e) (rts cs e) k = p at *
    obtain ⟨o, r⟩ := p
    simp only at hT hWI hsum hlo hlr hstepK
    have oO := hT.olO false
    have oR := hT.olR false
    rw [hlo] at oO
    rw [hlr] at oR
    have obd : ∀ x ∈ o, -1000000000000 ≤ x ∧ x ≤ 1000000000000 := by
      intro x hxm
      obtain ⟨i, hi⟩ := List.mem_iff_getElem?.1 hxm
      have hil := (List.getElem?_eq_some_iff.1 hi).1
      obtain ⟨c, hcc⟩ : ∃ c, cs[i]? = some c := ⟨_, List.getElem?_eq_getElem (by omega)⟩
      obtain ⟨b, hb⟩ : ∃ b, r[i]? = some b := ⟨_, List.getElem?_eq_getElem (by omega)⟩
      have hcb := ce_b hc (List.mem_of_getElem? hcc)
      rcases hWI.pt _ c x b hcc hi hb with ⟨rfl, _⟩ | ⟨rfl, _, _⟩ <;> omega
    simp (maxSteps := 4000000) -implicitDefEqProofs -dsimp (disch := omega) only [↓AW_ops, ↓AW_seq, ↓AOps_pu, ↓AOps_call, on_some, pval, rd_S, put_S, mk, List.foldl_cons, List.foldl_nil, List.replicate_succ, List.replicate_zero, List.set_cons_zero, List.set_cons_succ, List.getElem?_cons_zero, List.getElem?_cons_succ, Option.getD_some, map_c, map_n]
    refine CallK.of (c_Sum oO.ls (by omega) obd) ?_
    by_cases hkl : k < K
    · have hkl' : o.sum < e := by omega
      obtain ⟨hner, hWn⟩ := hWI.step hc (by omega)
      simp (maxSteps := 4000000) -implicitDefEqProofs -dsimp (disch := omega) only [↓AW_skip, ↓AW_ops, ↓AW_seq, ↓AW_cond, ↓AW_block, ↓AOps_nil, ↓AOps_pu, on_some, extK_same, condB_t, ↓then_normal, pval, rd_S, rd_C, put_S, ↓AW_toLoop, mk, List.foldl_cons, List.foldl_nil, List.replicate_succ, List.replicate_zero, List.set_cons_zero, List.set_cons_succ, List.getElem?_cons_zero, List.getElem?_cons_succ, Option.getD_some, bin_lss, decide_true, hkl']
      refine LoopK.by 80 (fun i : Nat => 1 ≤ i ∧ i ≤ cs.length) (fun i => [(1, I e), (8, .sl 1 n 0 cs.length false), (9, .sl 1 m 0 cs.length false), (11, I (mxi (r.take i) : Nat)), (12, I i)]) (fun _ => G) (fun i => cs.length - i) 1 (by omega) rfl (by
        have h1 : mxi (r.take 1) = 0 := by
          have hn1 : r.take 1 ≠ [] := by
            intro e1
            have := congrArg List.length e1
            rw [List.length_take, List.length_nil] at this
            omega
          have := (List.getElem?_eq_some_iff.1 (mxi_spec hn1).2.1).1
          rw [List.length_take] at this
          omega
        simp [Has, rd_s, h1]) rfl ?_
      rintro i ⟨hi1, hi⟩
      have hlenR := oR.ls.len
      rw [hlr] at hlenR
      have hni : r.take i ≠ [] := by
        intro e1
        have := congrArg List.length e1
        rw [List.length_take, List.length_nil] at this
        omega
      obtain ⟨_, gm, _⟩ := mxi_spec hni
      have hmi : mxi (r.take i) < i := by
        have := (List.getElem?_eq_some_iff.1 gm).1
        rw [List.length_take] at this
        omega
      have gm' : r[mxi (r.take i)]? = some (mxL (r.take i)) := by
        rw [List.getElem?_take, if_pos hmi] at gm
        exact gm
      by_cases hil : i < cs.length
      · have hil' : (i : Int) < cs.length := by omega
        obtain ⟨w, hw⟩ : ∃ w, r[i]? = some w := ⟨_, List.getElem?_eq_getElem (by omega)⟩
        obtain ⟨t1, t2⟩ := mx_take hi1 hw
        by_cases hgt : mxL (r.take i) < w
        · obtain ⟨t3, _⟩ := t1 hgt
          simp (maxSteps := 4000000) -implicitDefEqProofs -dsimp (disch := omega) only [↓AW_skip, ↓AW_ops, ↓AW_seq, ↓AW_cond, ↓AW_block, ↓AOps_nil, ↓AOps_pu, ↓AOps_ld, on_some, condB_t, ↓then_normal, ↓inBlock_normal, pval, lval, rd_S, rd_C, put_S, partA, eq_self, mk, List.foldl_cons, List.foldl_nil, List.replicate_succ, List.replicate_zero, List.set_cons_zero, List.set_cons_succ, List.getElem?_cons_zero, List.getElem?_cons_succ, List.drop_zero, List.take_succ_cons, List.take_nil, Option.getD_some, List.length_cons, List.length_nil, Nat.reduceAdd, Nat.reduceLeDiff, Nat.zero_add, bin_add, bin_lss, bin_gtr, w64, if_true, if_false, Bool.false_eq_true, decide_true, Go.Eng.e1, true_and, hil', hlenR, oR.ls.idx (k := .i64) (i := i) (by omega), oR.ls.idx (k := .i64) (i := mxi (r.take i)) (by omega), oR.ls.ld0 hw 1 false (by decide), oR.ls.ld0 gm' 1 false (by decide), hgt]
          exact ⟨i + 1, by omega, by simp [Has, rd_s, t3], by omega⟩
        · obtain ⟨t3, _⟩ := t2 hgt
          simp (maxSteps := 4000000) -implicitDefEqProofs -dsimp (disch := omega) only [↓AW_skip, ↓AW_ops, ↓AW_seq, ↓AW_cond, ↓AW_block, ↓AOps_nil, ↓AOps_pu, ↓AOps_ld, on_some, condB_t, condB_f, ↓then_normal, ↓inBlock_normal, pval, lval, rd_S, rd_C, put_S, partA, eq_self, mk, List.foldl_cons, List.foldl_nil, List.replicate_succ, List.replicate_zero, List.set_cons_zero, List.set_cons_succ, List.getElem?_cons_zero, List.getElem?_cons_succ, List.drop_zero, List.take_succ_cons, List.take_nil, Option.getD_some, List.length_cons, List.length_nil, Nat.reduceAdd, Nat.reduceLeDiff, Nat.zero_add, bin_add, bin_lss, bin_gtr, w64, if_true, if_false, Bool.false_eq_true, decide_true, decide_false, Go.Eng.e1, true_and, hil', hlenR, oR.ls.idx (k := .i64) (i := i) (by omega), oR.ls.idx (k := .i64) (i := mxi (r.take i)) (by omega), oR.ls.ld0 hw 1 false (by decide), oR.ls.ld0 gm' 1 false (by decide), hgt]
          exact ⟨i + 1, by omega, by simp [Has, rd_s, t3], by omega⟩
      · have hil' : ¬ (i : Int) < cs.length := by omega
        have hrt : r.take i = r := List.take_of_length_le (by omega)
        rw [hrt] at gm gm' hmi
        obtain ⟨a, ha⟩ : ∃ a, o[mxi r]? = some a := ⟨_, List.getElem?_eq_getElem (by omega)⟩
        have hab := obd a (List.mem_of_getElem? ha)
        have ixO := oO.ls.idx (k := .i64) (i := mxi r) (by omega)
        have ixR := oR.ls.idx (k := .i64) (i := mxi r) (by omega)
        have ldO := oO.ls.ld0 ha 1 false (by decide)
        have st1 := oO.st (i := mxi r) (by omega) (I (a + 1)) (a + 1) rfl
        have hT3 := hT.setO (o.set (mxi r) (a + 1))
        have oR3 := hT3.olR false
        rw [hlr] at oR3
        have st2 := oR3.st (i := mxi r) (by omega) (I (-1)) (-1) rfl
        have hT4 := hT3.setR (r.set (mxi r) (-1))
        simp (maxSteps := 4000000) -implicitDefEqProofs -dsimp (disch := omega) only [↓AW_ops, ↓AW_seq, ↓AW_cond, ↓AW_exit, ↓AW_ret, ↓AOps_nil, ↓AOps_pu, ↓AOps_ld, ↓AOps_ha, on_some, extK_false, condB_f, ↓then_normal, ↓then_exit, ↓inBlock_normal, ↓inBlock_exit, ↓FinR_ret, pval, lval, hval_st, rd_S, rd_C, put_S, putS_none, resV, resL, partA, eq_self, mk, List.foldl_cons, List.foldl_nil, List.replicate_succ, List.replicate_zero, List.set_cons_zero, List.set_cons_succ, List.getElem?_cons_zero, List.getElem?_cons_succ, List.drop_zero, List.take_succ_cons, List.take_nil, Option.getD_some, Option.map_some, List.length_cons, List.length_nil, Nat.reduceAdd, Nat.reduceLeDiff, Nat.reduceEqDiff, Nat.zero_add, bin_add, bin_lss, w64, if_true, if_false, Bool.false_eq_true, decide_false, Go.Eng.e1, true_and, Int.reduceNeg, hil', hlenR, hrt, ixO, ixR, ldO, st1, st2]
        refine ⟨(k + 1, _), ⟨hkl, ?_⟩, by simp [Has, rd_s], rfl, by simp only; omega⟩
        rw [hstep]
        have hg : gst (o, r) = (o.set (mxi r) (a + 1), r.set (mxi r) (-1)) := by
          unfold gst
          simp only [ha, Option.getD_some]
        rw [hg]
        exact hT4
    · have hkl' : ¬ o.sum < e := by omega
      simp (maxSteps := 4000000) -implicitDefEqProofs -dsimp (disch := omega) only [↓AW_ops, ↓AW_seq, ↓AW_cond, ↓AW_exit, ↓AW_ret, ↓AOps_nil, ↓AOps_pu, on_some, extK_same, condB_f, ↓then_normal, ↓then_exit, ↓inBlock_exit, ↓FinR_ret, pval, rd_S, rd_C, put_S, resV, resL, eq_self, mk, List.foldl_cons, List.foldl_nil, List.replicate_succ, List.replicate_zero, List.set_cons_zero, List.set_cons_succ, List.getElem?_cons_zero, List.getElem?_cons_succ, Option.getD_some, bin_lss, if_true, decide_false, hkl']
      rw [hstepK (by omega)]
      exact ⟨_, _, gc_all, _, rfl, hT.pre, oO.ls⟩
end
end Go.Proofs.Ytdcdjhhjlpegjaa

