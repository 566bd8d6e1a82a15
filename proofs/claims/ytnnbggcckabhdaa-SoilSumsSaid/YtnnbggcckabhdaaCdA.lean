/- What the law's proof rests on, part 3: for all that is said in each line. No conditions. -/
import Derived.Test.YtnnbggcckabhdaaRows
import Derived.Test.YtnnbggcckabhdaaEnB
namespace Go.Proofs.Ytnnbggcckabhdaa
open Go Go.Eng
/-- selion/selionlaw02.Long [] -/
def m18 : MFun := ⟨13, [], [.mov (.s 4)],
 .seq (.ops [⟨(some 4), some undefA, none, false, .pu (.mov (.c (.bool false)))⟩])
 (.seq (.ops [⟨(some 5), some undefA, none, false, .pu (.mov (.s 0))⟩,
   ⟨(some 6), some undefA, none, false, .pu (.len (.s 5))⟩,
   ⟨(some 7), some undefA, none, false, .pu (.bin .gtr (.s 6) (.c (.int .i64 100)))⟩,
   ⟨(some 8), some undefA, none, false, .pu (.mov (.s 7))⟩,
   ⟨(some 9), some undefA, (some (8, false)), false, .pu (.mov (.s 1))⟩,
   ⟨(some 10), some undefA, (some (8, false)), false, .pu (.len (.s 9))⟩,
   ⟨(some 11), some undefA, (some (8, false)), false, .pu (.bin .gtr (.s 10) (.c (.int .i64 100)))⟩,
   ⟨(some 12), some undefA, none, false, .pu (.pick (.s 8) (.c (.bool true)) (.s 11))⟩,
   ⟨(some 4), some undefA, none, false, .pu (.mov (.s 12))⟩])
 (.ret))⟩
theorem t18 : trF Try.prog [] [] Try.f18 = some m18 := by kernel_rfl
/-- selion/selionlaw02.known [] -/
def m19 : MFun := ⟨44, [4, 5], [.mov (.s 0)],
 .seq (.ops [⟨(some 0), some undefA, none, false, .pu (.mov (.c (.bool false)))⟩])
 (.seq (.ops [⟨(some 7), some undefA, none, false, .pu (.build [.int .i64 0, .int .i64 0] [(0, 1, (.c (.int .i64 4))), (1, 1, (.c (.int .i64 3)))])⟩,
   ⟨(some 8), some undefA, none, false, .pu (.build [.int .i64 0, .int .i64 0] [(0, 1, (.c (.int .i64 2))), (1, 1, (.c (.int .i64 6)))])⟩,
   ⟨(some 9), some undefA, none, false, .ha (.blds 2 2 [.int .i64 0, .int .i64 0] [(0, 2, (.s 7)), (2, 2, (.s 8))])⟩,
   ⟨(some 1), some undefA, none, false, .pu (.mov (.s 9))⟩])
 (.seq (.ops [⟨(some 11), some undefA, none, false, .pu (.mov (.s 1))⟩,
   ⟨(some 12), some undefA, none, false, .call 20 [(.s 11), (.c (.int .i64 3))]⟩,
   ⟨(some 10), some undefA, none, false, .pu (.mov (.s 12))⟩,
   ⟨(some 13), some undefA, none, false, .pu (.extr 0 (.s 10))⟩,
   ⟨(some 14), some undefA, none, false, .pu (.extr 1 (.s 10))⟩,
   ⟨(some 2), some undefA, none, false, .pu (.mov (.s 13))⟩,
   ⟨(some 3), some undefA, none, false, .pu (.mov (.s 14))⟩])
 (.seq (.ops [⟨(some 16), some undefA, none, false, .pu (.mov (.s 1))⟩,
   ⟨(some 17), some undefA, none, false, .call 28 [(.s 16), (.c (.int .i64 3))]⟩,
   ⟨(some 15), some undefA, none, false, .pu (.mov (.s 17))⟩,
   ⟨(some 18), some undefA, none, false, .pu (.extr 0 (.s 15))⟩,
   ⟨(some 19), some undefA, none, false, .pu (.extr 1 (.s 15))⟩,
   ⟨(some 20), some undefA, none, false, .pu (.extr 2 (.s 15))⟩,
   ⟨(some 4), some (.junk), none, false, .pu (.bnew (.c (.agg [.int .i64 0, .int .i64 0])))⟩,
   ⟨(some 5), some (.junk), none, false, .pu (.bnew (.c (.agg [.int .i64 0, .int .i64 0])))⟩,
   ⟨(some 4), none, none, false, .pu (.bset none 4 0 2 (.s 18))⟩,
   ⟨(some 5), none, none, false, .pu (.bset none 5 0 2 (.s 19))⟩,
   ⟨(some 6), some undefA, none, false, .pu (.mov (.s 20))⟩])
 (.seq (.ops [⟨(some 21), some undefA, none, false, .pu (.mov (.s 3))⟩,
   ⟨(some 22), some undefA, none, false, .pu (.bin .eql (.s 21) (.c (.int .i64 0)))⟩,
   ⟨(some 23), some undefA, none, false, .pu (.mov (.s 22))⟩,
   ⟨(some 24), some undefA, (some (23, true)), false, .pu (.mov (.s 2))⟩,
   ⟨(some 25), some undefA, (some (23, true)), false, .pu (.build [.int .i64 0, .int .i64 0] [(0, 1, (.c (.int .i64 8))), (1, 1, (.c (.int .i64 3)))])⟩,
   ⟨(some 26), some undefA, (some (23, true)), false, .pu (.build [.int .i64 0, .int .i64 0] [(0, 1, (.c (.int .i64 14))), (1, 1, (.c (.int .i64 3)))])⟩,
   ⟨(some 27), some undefA, (some (23, true)), false, .ha (.blds 2 2 [.int .i64 0, .int .i64 0] [(0, 2, (.s 25)), (2, 2, (.s 26))])⟩,
   ⟨(some 28), some undefA, (some (23, true)), false, .call 22 [(.s 24), (.s 27)]⟩,
   ⟨(some 29), some undefA, none, false, .pu (.pick (.s 23) (.s 28) (.c (.bool false)))⟩,
   ⟨(some 30), some undefA, none, false, .pu (.mov (.s 29))⟩,
   ⟨(some 31), some undefA, (some (30, true)), false, .pu (.mov (.s 6))⟩,
   ⟨(some 32), some undefA, (some (30, true)), false, .pu (.bin .eql (.s 31) (.c (.int .i64 0)))⟩,
   ⟨(some 33), some undefA, none, false, .pu (.pick (.s 30) (.s 32) (.c (.bool false)))⟩,
   ⟨(some 34), some undefA, none, false, .pu (.mov (.s 33))⟩,
   ⟨(some 35), some undefA, (some (34, true)), false, .pu (.bget none 4 0 2 true)⟩,
   ⟨(some 36), some undefA, (some (34, true)), false, .pu (.build [.int .i64 0, .int .i64 0] [(0, 1, (.c (.int .i64 3))), (1, 1, (.c (.int .i64 1)))])⟩,
   ⟨(some 37), some undefA, (some (34, true)), false, .pu (.eqs false [true, true] (.s 35) (.s 36))⟩,
   ⟨(some 38), some undefA, none, false, .pu (.pick (.s 34) (.s 37) (.c (.bool false)))⟩,
   ⟨(some 39), some undefA, none, false, .pu (.mov (.s 38))⟩,
   ⟨(some 40), some undefA, (some (39, true)), false, .pu (.bget none 5 0 2 true)⟩,
   ⟨(some 41), some undefA, (some (39, true)), false, .pu (.build [.int .i64 0, .int .i64 0] [(0, 1, (.c (.int .i64 15))), (1, 1, (.c (.int .i64 1)))])⟩,
   ⟨(some 42), some undefA, (some (39, true)), false, .pu (.eqs false [true, true] (.s 40) (.s 41))⟩,
   ⟨(some 43), some undefA, none, false, .pu (.pick (.s 39) (.s 42) (.c (.bool false)))⟩,
   ⟨(some 0), some undefA, none, false, .pu (.mov (.s 43))⟩])
 (.ret)))))⟩
theorem t19 : trF Try.prog [4, 5] [] Try.f19 = some m19 := by kernel_rfl
/-- selion/soil.Equal [] -/
def m20 : MFun := ⟨25, [], [.mov (.s 4), .mov (.s 5)],
 .seq (.ops [⟨(some 4), some undefA, none, false, .pu (.mov (.c (.nilS)))⟩,
   ⟨(some 5), some undefA, none, false, .pu (.mov (.c (.int .i64 0)))⟩])
 (.seq (.seq (.ops [⟨(some 7), some undefA, none, false, .pu (.mov (.s 0))⟩,
   ⟨(some 8), some undefA, none, false, .call 37 [(.s 7)]⟩,
   ⟨(some 6), some undefA, none, false, .pu (.mov (.s 8))⟩])
 (.seq (.ops [⟨(some 9), some undefA, none, false, .pu (.mov (.s 6))⟩,
   ⟨(some 10), some undefA, none, false, .pu (.bin .neq (.s 9) (.c (.int .i64 0)))⟩])
 (.cond (.s 10) (.seq (.ops [⟨(some 11), some undefA, none, false, .pu (.mov (.s 6))⟩,
    ⟨(some 4), some undefA, none, false, .pu (.mov (.c (.nilS)))⟩,
    ⟨(some 5), some undefA, none, false, .pu (.mov (.s 11))⟩])
  (.ret))
 (.skip))))
 (.seq (.seq (.ops [⟨(some 12), some undefA, none, false, .pu (.mov (.s 1))⟩,
   ⟨(some 13), some undefA, none, false, .call 61 [(.s 12), (.c (.int .i64 1)), (.c (.int .i64 8))]⟩,
   ⟨(some 14), some undefA, none, false, .pu (.not (.s 13))⟩])
 (.cond (.s 14) (.seq (.ops [⟨(some 4), some undefA, none, false, .pu (.mov (.c (.nilS)))⟩,
    ⟨(some 5), some undefA, none, false, .pu (.mov (.c (.int .i64 3)))⟩])
  (.ret))
 (.skip)))
 (.seq (.ops [⟨(some 15), some undefA, none, false, .pu (.mov (.s 0))⟩,
   ⟨(some 16), some undefA, none, false, .pu (.mov (.s 0))⟩,
   ⟨(some 17), some undefA, none, false, .call 65 [(.s 16)]⟩,
   ⟨(some 18), some undefA, none, false, .pu (.mov (.s 1))⟩,
   ⟨(some 19), some undefA, none, false, .call 64 [(.s 17), (.s 18)]⟩,
   ⟨(some 20), some undefA, none, false, .ha (.blds 2 1 [.int .i64 0, .int .i64 0] [(0, 2, (.s 19))])⟩,
   ⟨(some 21), some undefA, none, false, .pu (.mov (.s 1))⟩,
   ⟨(some 22), some undefA, none, false, .pu (.bin .sub (.s 21) (.c (.int .i64 1)))⟩,
   ⟨(some 23), some undefA, none, false, .call 63 [(.s 20), (.s 22)]⟩,
   ⟨(some 24), some undefA, none, false, .call 62 [(.s 15), (.s 23)]⟩,
   ⟨(some 4), some undefA, none, false, .pu (.mov (.s 24))⟩,
   ⟨(some 5), some undefA, none, false, .pu (.mov (.c (.int .i64 0)))⟩])
 (.ret))))⟩
theorem t20 : trF Try.prog [] [] Try.f20 = some m20 := by kernel_rfl
/-- selion/selionref02.SameRats [loop [0, 1, 5]] -/
def m22 : MFun := ⟨26, [], [.mov (.s 4)],
 .seq (.ops [⟨(some 4), some undefA, none, false, .pu (.mov (.c (.bool false)))⟩])
 (.seq (.seq (.ops [⟨(some 6), some undefA, none, false, .pu (.mov (.s 0))⟩,
   ⟨(some 7), some undefA, none, false, .pu (.len (.s 6))⟩,
   ⟨(some 8), some undefA, none, false, .pu (.mov (.s 1))⟩,
   ⟨(some 9), some undefA, none, false, .pu (.len (.s 8))⟩,
   ⟨(some 10), some undefA, none, false, .pu (.bin .neq (.s 7) (.s 9))⟩])
 (.cond (.s 10) (.seq (.ops [⟨(some 4), some undefA, none, false, .pu (.mov (.c (.bool false)))⟩])
  (.ret))
 (.skip)))
 (.seq (.seq (.ops [⟨(some 5), some undefA, none, false, .pu (.mov (.c (.int .i64 0)))⟩])
 (.block 0 (.loop (.seq (.seq (.ops [⟨(some 11), some undefA, none, false, .pu (.mov (.s 5))⟩,
     ⟨(some 12), some undefA, none, false, .pu (.mov (.s 0))⟩,
     ⟨(some 13), some undefA, none, false, .pu (.len (.s 12))⟩,
     ⟨(some 14), some undefA, none, false, .pu (.bin .lss (.s 11) (.s 13))⟩])
   (.cond (.s 14) (.skip)
   (.exit 0)))
   (.seq (.block 1 (.seq (.ops [⟨(some 17), some undefA, none, true, .pu (.mov (.s 0))⟩,
      ⟨(some 18), some undefA, none, true, .pu (.mov (.s 5))⟩,
      ⟨(some 19), some undefA, none, true, .pu (.idx 2 (.s 17) (.s 18))⟩,
      ⟨(some 20), some undefA, none, true, .ld (.ld 2 true (.s 19))⟩,
      ⟨(some 21), some undefA, none, true, .pu (.mov (.s 1))⟩,
      ⟨(some 22), some undefA, none, true, .pu (.mov (.s 5))⟩,
      ⟨(some 23), some undefA, none, true, .pu (.idx 2 (.s 21) (.s 22))⟩,
      ⟨(some 24), some undefA, none, true, .ld (.ld 2 true (.s 23))⟩,
      ⟨(some 25), some undefA, none, false, .pu (.eqs true [true, true] (.s 20) (.s 24))⟩])
    (.cond (.s 25) (.seq (.ops [⟨(some 4), some undefA, none, false, .pu (.mov (.c (.bool false)))⟩])
     (.ret))
    (.skip))))
   (.ops [⟨(some 15), some undefA, none, false, .pu (.mov (.s 5))⟩,
     ⟨(some 16), some undefA, none, false, .pu (.bin .add (.s 15) (.c (.int .i64 1)))⟩,
     ⟨(some 5), some undefA, none, false, .pu (.mov (.s 16))⟩]))))))
 (.seq (.ops [⟨(some 4), some undefA, none, false, .pu (.mov (.c (.bool true)))⟩])
 (.ret))))⟩
theorem t22 : trF Try.prog [] [] Try.f22 = some m22 := by kernel_rfl
/-- selion/selionlaw02.fair [loop [0, 3]] -/
def m23 : MFun := ⟨40, [], [.mov (.s 2)],
 .seq (.ops [⟨(some 2), some undefA, none, false, .pu (.mov (.c (.bool false)))⟩])
 (.seq (.seq (.ops [⟨(some 3), some undefA, none, false, .pu (.mov (.c (.int .i64 0)))⟩])
 (.block 0 (.loop (.seq (.seq (.ops [⟨(some 4), some undefA, none, false, .pu (.mov (.s 3))⟩,
     ⟨(some 5), some undefA, none, false, .pu (.mov (.s 0))⟩,
     ⟨(some 6), some undefA, none, false, .pu (.len (.s 5))⟩,
     ⟨(some 7), some undefA, none, false, .pu (.bin .lss (.s 4) (.s 6))⟩])
   (.cond (.s 7) (.skip)
   (.exit 0)))
   (.seq (.block 1 (.seq (.ops [⟨(some 10), some undefA, none, false, .pu (.mov (.s 0))⟩,
      ⟨(some 11), some undefA, none, false, .pu (.mov (.s 3))⟩,
      ⟨(some 12), some undefA, none, false, .pu (.idx 2 (.s 10) (.s 11))⟩,
      ⟨(some 13), some undefA, none, false, .pu (.fad 1 (.s 12))⟩,
      ⟨(some 14), some undefA, none, false, .ld (.ld 1 false (.s 13))⟩,
      ⟨(some 15), some undefA, none, false, .pu (.bin .lss (.s 14) (.c (.int .i64 1)))⟩,
      ⟨(some 16), some undefA, none, false, .pu (.mov (.s 15))⟩,
      ⟨(some 17), some undefA, (some (16, false)), false, .pu (.mov (.s 0))⟩,
      ⟨(some 18), some undefA, (some (16, false)), false, .pu (.mov (.s 3))⟩,
      ⟨(some 19), some undefA, (some (16, false)), false, .pu (.idx 2 (.s 17) (.s 18))⟩,
      ⟨(some 20), some undefA, (some (16, false)), false, .pu (.fad 1 (.s 19))⟩,
      ⟨(some 21), some undefA, (some (16, false)), false, .ld (.ld 1 false (.s 20))⟩,
      ⟨(some 22), some undefA, (some (16, false)), false, .pu (.bin .gtr (.s 21) (.c (.int .i64 1073741824)))⟩,
      ⟨(some 23), some undefA, none, false, .pu (.pick (.s 16) (.c (.bool true)) (.s 22))⟩,
      ⟨(some 24), some undefA, none, false, .pu (.mov (.s 23))⟩,
      ⟨(some 25), some undefA, (some (24, false)), false, .pu (.mov (.s 0))⟩,
      ⟨(some 26), some undefA, (some (24, false)), false, .pu (.mov (.s 3))⟩,
      ⟨(some 27), some undefA, (some (24, false)), false, .pu (.idx 2 (.s 25) (.s 26))⟩,
      ⟨(some 28), some undefA, (some (24, false)), false, .pu (.fad 0 (.s 27))⟩,
      ⟨(some 29), some undefA, (some (24, false)), false, .ld (.ld 1 false (.s 28))⟩,
      ⟨(some 30), some undefA, (some (24, false)), false, .pu (.bin .gtr (.s 29) (.c (.int .i64 35184372088832)))⟩,
      ⟨(some 31), some undefA, none, false, .pu (.pick (.s 24) (.c (.bool true)) (.s 30))⟩,
      ⟨(some 32), some undefA, none, false, .pu (.mov (.s 31))⟩,
      ⟨(some 33), some undefA, (some (32, false)), false, .pu (.mov (.s 0))⟩,
      ⟨(some 34), some undefA, (some (32, false)), false, .pu (.mov (.s 3))⟩,
      ⟨(some 35), some undefA, (some (32, false)), false, .pu (.idx 2 (.s 33) (.s 34))⟩,
      ⟨(some 36), some undefA, (some (32, false)), false, .pu (.fad 0 (.s 35))⟩,
      ⟨(some 37), some undefA, (some (32, false)), false, .ld (.ld 1 false (.s 36))⟩,
      ⟨(some 38), some undefA, (some (32, false)), false, .pu (.bin .lss (.s 37) (.c (.int .i64 (-35184372088832))))⟩,
      ⟨(some 39), some undefA, none, false, .pu (.pick (.s 32) (.c (.bool true)) (.s 38))⟩])
    (.cond (.s 39) (.seq (.ops [⟨(some 2), some undefA, none, false, .pu (.mov (.c (.bool false)))⟩])
     (.ret))
    (.skip))))
   (.ops [⟨(some 8), some undefA, none, false, .pu (.mov (.s 3))⟩,
     ⟨(some 9), some undefA, none, false, .pu (.bin .add (.s 8) (.c (.int .i64 1)))⟩,
     ⟨(some 3), some undefA, none, false, .pu (.mov (.s 9))⟩]))))))
 (.seq (.ops [⟨(some 2), some undefA, none, false, .pu (.mov (.c (.bool true)))⟩])
 (.ret)))⟩
theorem t23 : trF Try.prog [] [] Try.f23 = some m23 := by kernel_rfl
/-- selion/soil.Worth [] -/
def m25 : MFun := ⟨36, [4, 5, 6], [.bget none 6 0 2 true, .mov (.s 7)],
 .seq (.ops [⟨(some 4), some (.junk), none, false, .pu (.bnew (.s 1))⟩,
   ⟨(some 5), some (.junk), none, false, .pu (.bnew (.s 2))⟩,
   ⟨(some 6), some (.junk), none, false, .pu (.bnew (.c (.agg [.int .i64 0, .int .i64 0])))⟩,
   ⟨(some 7), some undefA, none, false, .pu (.mov (.c (.int .i64 0)))⟩])
 (.seq (.seq (.ops [⟨(some 9), some undefA, none, false, .pu (.mov (.s 0))⟩,
   ⟨(some 10), some undefA, none, false, .call 37 [(.s 9)]⟩,
   ⟨(some 8), some undefA, none, false, .pu (.mov (.s 10))⟩])
 (.seq (.ops [⟨(some 11), some undefA, none, false, .pu (.mov (.s 8))⟩,
   ⟨(some 12), some undefA, none, false, .pu (.bin .neq (.s 11) (.c (.int .i64 0)))⟩])
 (.cond (.s 12) (.seq (.ops [⟨(some 13), some undefA, none, false, .pu (.build [.int .i64 0, .int .i64 0] [])⟩,
    ⟨(some 14), some undefA, none, false, .pu (.mov (.s 8))⟩,
    ⟨(some 6), none, none, false, .pu (.bset none 6 0 2 (.s 13))⟩,
    ⟨(some 7), some undefA, none, false, .pu (.mov (.s 14))⟩])
  (.ret))
 (.skip))))
 (.seq (.seq (.ops [⟨(some 15), some undefA, none, false, .pu (.mov (.s 0))⟩,
   ⟨(some 16), some undefA, none, false, .pu (.bget none 4 0 2 true)⟩,
   ⟨(some 17), some undefA, none, false, .call 71 [(.s 15), (.s 16), (.c (.int .i64 1000))]⟩,
   ⟨(some 18), some undefA, none, false, .pu (.not (.s 17))⟩,
   ⟨(some 19), some undefA, none, false, .pu (.mov (.s 18))⟩,
   ⟨(some 20), some undefA, (some (19, false)), false, .pu (.mov (.s 0))⟩,
   ⟨(some 21), some undefA, (some (19, false)), false, .pu (.bget none 5 0 2 true)⟩,
   ⟨(some 22), some undefA, (some (19, false)), false, .call 71 [(.s 20), (.s 21), (.c (.int .i64 1000))]⟩,
   ⟨(some 23), some undefA, (some (19, false)), false, .pu (.not (.s 22))⟩,
   ⟨(some 24), some undefA, none, false, .pu (.pick (.s 19) (.c (.bool true)) (.s 23))⟩,
   ⟨(some 25), some undefA, none, false, .pu (.mov (.s 24))⟩,
   ⟨(some 26), some undefA, (some (25, false)), false, .pu (.bget none 4 0 2 true)⟩,
   ⟨(some 27), some undefA, (some (25, false)), false, .pu (.bget none 5 0 2 true)⟩,
   ⟨(some 28), some undefA, (some (25, false)), false, .call 72 [(.s 26), (.s 27)]⟩,
   ⟨(some 29), some undefA, (some (25, false)), false, .pu (.bin .gtr (.s 28) (.c (.int .i64 0)))⟩,
   ⟨(some 30), some undefA, none, false, .pu (.pick (.s 25) (.c (.bool true)) (.s 29))⟩])
 (.cond (.s 30) (.seq (.ops [⟨(some 31), some undefA, none, false, .pu (.build [.int .i64 0, .int .i64 0] [])⟩,
    ⟨(some 6), none, none, false, .pu (.bset none 6 0 2 (.s 31))⟩,
    ⟨(some 7), some undefA, none, false, .pu (.mov (.c (.int .i64 1)))⟩])
  (.ret))
 (.skip)))
 (.seq (.ops [⟨(some 32), some undefA, none, false, .pu (.mov (.s 0))⟩,
   ⟨(some 33), some undefA, none, false, .pu (.bget none 4 0 2 true)⟩,
   ⟨(some 34), some undefA, none, false, .pu (.bget none 5 0 2 true)⟩,
   ⟨(some 35), some undefA, none, false, .call 73 [(.s 32), (.s 33), (.s 34)]⟩,
   ⟨(some 6), none, none, false, .pu (.bset none 6 0 2 (.s 35))⟩,
   ⟨(some 7), some undefA, none, false, .pu (.mov (.c (.int .i64 0)))⟩])
 (.ret))))⟩
theorem t25 : trF Try.prog [4, 5, 6] [] Try.f25 = some m25 := by kernel_rfl
/-- selion/selionref02.Add [] -/
def m27 : MFun := ⟨34, [2, 3, 4], [.bget none 4 0 2 true],
 .seq (.ops [⟨(some 2), some (.junk), none, false, .pu (.bnew (.s 0))⟩,
   ⟨(some 3), some (.junk), none, false, .pu (.bnew (.s 1))⟩,
   ⟨(some 4), some (.junk), none, false, .pu (.bnew (.c (.agg [.int .i64 0, .int .i64 0])))⟩])
 (.seq (.ops [⟨(some 6), some undefA, none, false, .pu (.badr none 2)⟩,
   ⟨(some 7), some undefA, none, false, .pu (.bget (some 6) 2 1 1 false)⟩,
   ⟨(some 8), some undefA, none, false, .pu (.badr none 3)⟩,
   ⟨(some 9), some undefA, none, false, .pu (.bget (some 8) 3 1 1 false)⟩,
   ⟨(some 10), some undefA, none, false, .call 76 [(.s 7), (.s 9)]⟩,
   ⟨(some 5), some undefA, none, false, .pu (.mov (.s 10))⟩])
 (.seq (.ops [⟨(some 11), some undefA, none, false, .pu (.badr none 2)⟩,
   ⟨(some 12), some undefA, none, false, .pu (.bget (some 11) 2 0 1 false)⟩,
   ⟨(some 13), some undefA, none, false, .pu (.badr none 3)⟩,
   ⟨(some 14), some undefA, none, false, .pu (.bget (some 13) 3 1 1 false)⟩,
   ⟨(some 15), some undefA, none, false, .pu (.mov (.s 5))⟩,
   ⟨(some 16), some undefA, none, false, .pu (.bin .quo (.s 14) (.s 15))⟩,
   ⟨(some 17), some undefA, none, false, .pu (.bin .mul (.s 12) (.s 16))⟩,
   ⟨(some 18), some undefA, none, false, .pu (.badr none 3)⟩,
   ⟨(some 19), some undefA, none, false, .pu (.bget (some 18) 3 0 1 false)⟩,
   ⟨(some 20), some undefA, none, false, .pu (.badr none 2)⟩,
   ⟨(some 21), some undefA, none, false, .pu (.bget (some 20) 2 1 1 false)⟩,
   ⟨(some 22), some undefA, none, false, .pu (.mov (.s 5))⟩,
   ⟨(some 23), some undefA, none, false, .pu (.bin .quo (.s 21) (.s 22))⟩,
   ⟨(some 24), some undefA, none, false, .pu (.bin .mul (.s 19) (.s 23))⟩,
   ⟨(some 25), some undefA, none, false, .pu (.bin .add (.s 17) (.s 24))⟩,
   ⟨(some 26), some undefA, none, false, .pu (.badr none 2)⟩,
   ⟨(some 27), some undefA, none, false, .pu (.bget (some 26) 2 1 1 false)⟩,
   ⟨(some 28), some undefA, none, false, .pu (.mov (.s 5))⟩,
   ⟨(some 29), some undefA, none, false, .pu (.bin .quo (.s 27) (.s 28))⟩,
   ⟨(some 30), some undefA, none, false, .pu (.badr none 3)⟩,
   ⟨(some 31), some undefA, none, false, .pu (.bget (some 30) 3 1 1 false)⟩,
   ⟨(some 32), some undefA, none, false, .pu (.bin .mul (.s 29) (.s 31))⟩,
   ⟨(some 33), some undefA, none, false, .call 69 [(.s 25), (.s 32)]⟩,
   ⟨(some 4), none, none, false, .pu (.bset none 4 0 2 (.s 33))⟩])
 (.ret)))⟩
theorem t27 : trF Try.prog [2, 3, 4] [] Try.f27 = some m27 := by kernel_rfl
/-- selion/soil.Dearest [loop [0, 1, 4, 5, 8, 9, 10]] -/
def m28 : MFun := ⟨57, [4, 5, 8, 9, 11], [.bget none 4 0 2 true, .bget none 5 0 2 true, .mov (.s 6)],
 .seq (.ops [⟨(some 4), some (.junk), none, false, .pu (.bnew (.c (.agg [.int .i64 0, .int .i64 0])))⟩,
   ⟨(some 5), some (.junk), none, false, .pu (.bnew (.c (.agg [.int .i64 0, .int .i64 0])))⟩,
   ⟨(some 6), some undefA, none, false, .pu (.mov (.c (.int .i64 0)))⟩])
 (.seq (.seq (.ops [⟨(some 12), some undefA, none, false, .pu (.mov (.s 0))⟩,
   ⟨(some 13), some undefA, none, false, .call 37 [(.s 12)]⟩,
   ⟨(some 7), some undefA, none, false, .pu (.mov (.s 13))⟩])
 (.seq (.ops [⟨(some 14), some undefA, none, false, .pu (.mov (.s 7))⟩,
   ⟨(some 15), some undefA, none, false, .pu (.bin .neq (.s 14) (.c (.int .i64 0)))⟩])
 (.cond (.s 15) (.seq (.ops [⟨(some 16), some undefA, none, false, .pu (.build [.int .i64 0, .int .i64 0] [])⟩,
    ⟨(some 17), some undefA, none, false, .pu (.build [.int .i64 0, .int .i64 0] [])⟩,
    ⟨(some 18), some undefA, none, false, .pu (.mov (.s 7))⟩,
    ⟨(some 4), none, none, false, .pu (.bset none 4 0 2 (.s 16))⟩,
    ⟨(some 5), none, none, false, .pu (.bset none 5 0 2 (.s 17))⟩,
    ⟨(some 6), some undefA, none, false, .pu (.mov (.s 18))⟩])
  (.ret))
 (.skip))))
 (.seq (.seq (.ops [⟨(some 19), some undefA, none, false, .pu (.mov (.s 1))⟩,
   ⟨(some 20), some undefA, none, false, .pu (.mov (.s 0))⟩,
   ⟨(some 21), some undefA, none, false, .call 77 [(.s 20)]⟩,
   ⟨(some 22), some undefA, none, false, .call 61 [(.s 19), (.c (.int .i64 0)), (.s 21)]⟩,
   ⟨(some 23), some undefA, none, false, .pu (.not (.s 22))⟩])
 (.cond (.s 23) (.seq (.ops [⟨(some 24), some undefA, none, false, .pu (.build [.int .i64 0, .int .i64 0] [])⟩,
    ⟨(some 25), some undefA, none, false, .pu (.build [.int .i64 0, .int .i64 0] [])⟩,
    ⟨(some 4), none, none, false, .pu (.bset none 4 0 2 (.s 24))⟩,
    ⟨(some 5), none, none, false, .pu (.bset none 5 0 2 (.s 25))⟩,
    ⟨(some 6), some undefA, none, false, .pu (.mov (.c (.int .i64 1)))⟩])
  (.ret))
 (.skip)))
 (.seq (.ops [⟨(some 26), some undefA, none, false, .call 78 [(.c (.int .i64 0))]⟩,
   ⟨(some 27), some undefA, none, false, .pu (.mov (.s 0))⟩,
   ⟨(some 28), some undefA, none, false, .call 78 [(.c (.int .i64 0))]⟩,
   ⟨(some 29), some undefA, none, false, .pu (.mov (.s 1))⟩,
   ⟨(some 30), some undefA, none, false, .call 78 [(.s 29)]⟩,
   ⟨(some 31), some undefA, none, false, .call 73 [(.s 27), (.s 28), (.s 30)]⟩,
   ⟨(some 8), some (.junk), none, false, .pu (.bnew (.c (.agg [.int .i64 0, .int .i64 0])))⟩,
   ⟨(some 9), some (.junk), none, false, .pu (.bnew (.c (.agg [.int .i64 0, .int .i64 0])))⟩,
   ⟨(some 8), none, none, false, .pu (.bset none 8 0 2 (.s 26))⟩,
   ⟨(some 9), none, none, false, .pu (.bset none 9 0 2 (.s 31))⟩])
 (.seq (.seq (.ops [⟨(some 10), some undefA, none, false, .pu (.mov (.c (.int .i64 1)))⟩])
 (.block 0 (.loop (.seq (.seq (.ops [⟨(some 32), some undefA, none, false, .pu (.mov (.s 10))⟩,
     ⟨(some 33), some undefA, none, false, .pu (.mov (.s 1))⟩,
     ⟨(some 34), some undefA, none, false, .pu (.bin .add (.s 32) (.s 33))⟩,
     ⟨(some 35), some undefA, none, false, .pu (.mov (.s 0))⟩,
     ⟨(some 36), some undefA, none, false, .call 77 [(.s 35)]⟩,
     ⟨(some 37), some undefA, none, false, .pu (.bin .leq (.s 34) (.s 36))⟩])
   (.cond (.s 37) (.skip)
   (.exit 0)))
   (.seq (.block 1 (.seq (.ops [⟨(some 40), some undefA, none, false, .pu (.mov (.s 0))⟩,
      ⟨(some 41), some undefA, none, false, .pu (.mov (.s 10))⟩,
      ⟨(some 42), some undefA, none, false, .call 78 [(.s 41)]⟩,
      ⟨(some 43), some undefA, none, false, .pu (.mov (.s 10))⟩,
      ⟨(some 44), some undefA, none, false, .pu (.mov (.s 1))⟩,
      ⟨(some 45), some undefA, none, false, .pu (.bin .add (.s 43) (.s 44))⟩,
      ⟨(some 46), some undefA, none, false, .call 78 [(.s 45)]⟩,
      ⟨(some 47), some undefA, none, false, .call 73 [(.s 40), (.s 42), (.s 46)]⟩,
      ⟨(some 11), some (.junk), none, false, .pu (.bnew (.c (.agg [.int .i64 0, .int .i64 0])))⟩,
      ⟨(some 11), none, none, false, .pu (.bset none 11 0 2 (.s 47))⟩])
    (.seq (.ops [⟨(some 48), some undefA, none, false, .pu (.bget none 11 0 2 true)⟩,
      ⟨(some 49), some undefA, none, false, .pu (.bget none 9 0 2 true)⟩,
      ⟨(some 50), some undefA, none, false, .call 72 [(.s 48), (.s 49)]⟩,
      ⟨(some 51), some undefA, none, false, .pu (.bin .gtr (.s 50) (.c (.int .i64 0)))⟩])
    (.cond (.s 51) (.ops [⟨(some 52), some undefA, none, false, .pu (.mov (.s 10))⟩,
       ⟨(some 53), some undefA, none, false, .call 78 [(.s 52)]⟩,
       ⟨(some 54), some undefA, none, false, .pu (.bget none 11 0 2 true)⟩,
       ⟨(some 8), none, none, false, .pu (.bset none 8 0 2 (.s 53))⟩,
       ⟨(some 9), none, none, false, .pu (.bset none 9 0 2 (.s 54))⟩])
    (.skip)))))
   (.ops [⟨(some 38), some undefA, none, false, .pu (.mov (.s 10))⟩,
     ⟨(some 39), some undefA, none, false, .pu (.bin .add (.s 38) (.c (.int .i64 1)))⟩,
     ⟨(some 10), some undefA, none, false, .pu (.mov (.s 39))⟩]))))))
 (.seq (.ops [⟨(some 55), some undefA, none, false, .pu (.bget none 8 0 2 true)⟩,
   ⟨(some 56), some undefA, none, false, .pu (.bget none 9 0 2 true)⟩,
   ⟨(some 4), none, none, false, .pu (.bset none 4 0 2 (.s 55))⟩,
   ⟨(some 5), none, none, false, .pu (.bset none 5 0 2 (.s 56))⟩,
   ⟨(some 6), some undefA, none, false, .pu (.mov (.c (.int .i64 0)))⟩])
 (.ret))))))⟩
theorem t28 : trF Try.prog [4, 5, 8, 9, 11] [] Try.f28 = some m28 := by kernel_rfl
/-- selion/soil.Validate [loop [9, 10, 11]] -/
def m37 : MFun := ⟨26, [4], [.mov (.s 2)],
 .seq (.ops [⟨(some 2), some undefA, none, false, .pu (.mov (.c (.int .i64 0)))⟩])
 (.seq (.seq (.ops [⟨(some 5), some undefA, none, false, .pu (.mov (.s 0))⟩,
   ⟨(some 6), some undefA, none, false, .pu (.len (.s 5))⟩,
   ⟨(some 7), some undefA, none, false, .call 61 [(.s 6), (.c (.int .i64 1)), (.c (.int .i64 6))]⟩,
   ⟨(some 8), some undefA, none, false, .pu (.not (.s 7))⟩])
 (.cond (.s 8) (.seq (.ops [⟨(some 2), some undefA, none, false, .pu (.mov (.c (.int .i64 3)))⟩])
  (.ret))
 (.skip)))
 (.seq (.seq (.ops [⟨(some 9), some undefA, none, false, .pu (.mov (.s 0))⟩,
   ⟨(some 10), some undefA, none, false, .pu (.len (.s 9))⟩,
   ⟨(some 11), some undefA, none, false, .pu (.mov (.c (.int .i64 0)))⟩])
 (.block 0 (.loop (.seq (.ops [⟨(some 12), some undefA, none, false, .pu (.bin .lss (.s 11) (.s 10))⟩])
   (.seq (.cond (.s 12) (.skip)
   (.exit 0))
   (.seq (.block 1 (.seq (.ops [⟨(some 13), some undefA, none, false, .pu (.idx 2 (.s 9) (.s 11))⟩,
      ⟨(some 14), some undefA, none, false, .ld (.ld 2 true (.s 13))⟩,
      ⟨(some 4), some (.junk), none, false, .pu (.bnew (.c (.agg [.int .i64 0, .int .i64 0])))⟩,
      ⟨(some 4), none, none, false, .pu (.bset none 4 0 2 (.s 14))⟩])
    (.seq (.ops [⟨(some 15), some undefA, none, false, .pu (.badr none 4)⟩,
      ⟨(some 16), some undefA, none, false, .pu (.bget (some 15) 4 0 1 false)⟩,
      ⟨(some 17), some undefA, none, false, .call 61 [(.s 16), (.c (.int .i64 1)), (.c (.int .i64 20))]⟩,
      ⟨(some 18), some undefA, none, false, .pu (.not (.s 17))⟩,
      ⟨(some 19), some undefA, none, false, .pu (.mov (.s 18))⟩,
      ⟨(some 20), some undefA, (some (19, false)), false, .pu (.badr none 4)⟩,
      ⟨(some 21), some undefA, (some (19, false)), false, .pu (.bget (some 20) 4 1 1 false)⟩,
      ⟨(some 22), some undefA, (some (19, false)), false, .call 61 [(.s 21), (.c (.int .i64 0)), (.c (.int .i64 20))]⟩,
      ⟨(some 23), some undefA, (some (19, false)), false, .pu (.not (.s 22))⟩,
      ⟨(some 24), some undefA, none, false, .pu (.pick (.s 19) (.c (.bool true)) (.s 23))⟩])
    (.cond (.s 24) (.seq (.ops [⟨(some 2), some undefA, none, false, .pu (.mov (.c (.int .i64 1)))⟩])
     (.ret))
    (.skip)))))
   (.ops [⟨(some 25), some undefA, none, false, .pu (.bin .add (.s 11) (.c (.int .i64 1)))⟩,
     ⟨(some 11), some undefA, none, false, .pu (.mov (.s 25))⟩])))))))
 (.seq (.ops [⟨(some 2), some undefA, none, false, .pu (.mov (.c (.int .i64 0)))⟩])
 (.ret))))⟩
theorem t37 : trF Try.prog [4] [] Try.f37 = some m37 := by kernel_rfl
/-- selion/selionref02.Validate [loop [0, 3]] -/
def m38 : MFun := ⟨30, [], [.mov (.s 2)],
 .seq (.ops [⟨(some 2), some undefA, none, false, .pu (.mov (.c (.int .i64 0)))⟩])
 (.seq (.seq (.ops [⟨(some 4), some undefA, none, false, .pu (.mov (.s 0))⟩,
   ⟨(some 5), some undefA, none, false, .pu (.len (.s 4))⟩,
   ⟨(some 6), some undefA, none, false, .call 66 [(.s 5), (.c (.int .i64 1)), (.c (.int .i64 6))]⟩,
   ⟨(some 7), some undefA, none, false, .pu (.not (.s 6))⟩])
 (.cond (.s 7) (.seq (.ops [⟨(some 2), some undefA, none, false, .pu (.mov (.c (.int .i64 3)))⟩])
  (.ret))
 (.skip)))
 (.seq (.seq (.ops [⟨(some 3), some undefA, none, false, .pu (.mov (.c (.int .i64 0)))⟩])
 (.block 0 (.loop (.seq (.seq (.ops [⟨(some 8), some undefA, none, false, .pu (.mov (.s 3))⟩,
     ⟨(some 9), some undefA, none, false, .pu (.mov (.s 0))⟩,
     ⟨(some 10), some undefA, none, false, .pu (.len (.s 9))⟩,
     ⟨(some 11), some undefA, none, false, .pu (.bin .lss (.s 8) (.s 10))⟩])
   (.cond (.s 11) (.skip)
   (.exit 0)))
   (.seq (.block 1 (.seq (.ops [⟨(some 14), some undefA, none, false, .pu (.mov (.s 0))⟩,
      ⟨(some 15), some undefA, none, false, .pu (.mov (.s 3))⟩,
      ⟨(some 16), some undefA, none, false, .pu (.idx 2 (.s 14) (.s 15))⟩,
      ⟨(some 17), some undefA, none, false, .pu (.fad 0 (.s 16))⟩,
      ⟨(some 18), some undefA, none, false, .ld (.ld 1 false (.s 17))⟩,
      ⟨(some 19), some undefA, none, false, .call 66 [(.s 18), (.c (.int .i64 1)), (.c (.int .i64 20))]⟩,
      ⟨(some 20), some undefA, none, false, .pu (.not (.s 19))⟩,
      ⟨(some 21), some undefA, none, false, .pu (.mov (.s 20))⟩,
      ⟨(some 22), some undefA, (some (21, false)), false, .pu (.mov (.s 0))⟩,
      ⟨(some 23), some undefA, (some (21, false)), false, .pu (.mov (.s 3))⟩,
      ⟨(some 24), some undefA, (some (21, false)), false, .pu (.idx 2 (.s 22) (.s 23))⟩,
      ⟨(some 25), some undefA, (some (21, false)), false, .pu (.fad 1 (.s 24))⟩,
      ⟨(some 26), some undefA, (some (21, false)), false, .ld (.ld 1 false (.s 25))⟩,
      ⟨(some 27), some undefA, (some (21, false)), false, .call 66 [(.s 26), (.c (.int .i64 0)), (.c (.int .i64 20))]⟩,
      ⟨(some 28), some undefA, (some (21, false)), false, .pu (.not (.s 27))⟩,
      ⟨(some 29), some undefA, none, false, .pu (.pick (.s 21) (.c (.bool true)) (.s 28))⟩])
    (.cond (.s 29) (.seq (.ops [⟨(some 2), some undefA, none, false, .pu (.mov (.c (.int .i64 1)))⟩])
     (.ret))
    (.skip))))
   (.ops [⟨(some 12), some undefA, none, false, .pu (.mov (.s 3))⟩,
     ⟨(some 13), some undefA, none, false, .pu (.bin .add (.s 12) (.c (.int .i64 1)))⟩,
     ⟨(some 3), some undefA, none, false, .pu (.mov (.s 13))⟩]))))))
 (.seq (.ops [⟨(some 2), some undefA, none, false, .pu (.mov (.c (.int .i64 0)))⟩])
 (.ret))))⟩
theorem t38 : trF Try.prog [] [] Try.f38 = some m38 := by kernel_rfl
/-- selion/soil.within [] -/
def m61 : MFun := ⟨15, [], [.mov (.s 6)],
 .seq (.ops [⟨(some 6), some undefA, none, false, .pu (.mov (.c (.bool false)))⟩])
 (.seq (.ops [⟨(some 7), some undefA, none, false, .pu (.mov (.s 0))⟩,
   ⟨(some 8), some undefA, none, false, .pu (.mov (.s 1))⟩,
   ⟨(some 9), some undefA, none, false, .pu (.bin .geq (.s 7) (.s 8))⟩,
   ⟨(some 10), some undefA, none, false, .pu (.mov (.s 9))⟩,
   ⟨(some 11), some undefA, (some (10, true)), false, .pu (.mov (.s 0))⟩,
   ⟨(some 12), some undefA, (some (10, true)), false, .pu (.mov (.s 2))⟩,
   ⟨(some 13), some undefA, (some (10, true)), false, .pu (.bin .leq (.s 11) (.s 12))⟩,
   ⟨(some 14), some undefA, none, false, .pu (.pick (.s 10) (.s 13) (.c (.bool false)))⟩,
   ⟨(some 6), some undefA, none, false, .pu (.mov (.s 14))⟩])
 (.ret))⟩
theorem t61 : trF Try.prog [] [] Try.f61 = some m61 := by kernel_rfl
/-- selion/soil.cut [loop [0, 5, 6, 10, 11, 12]] -/
def m62 : MFun := ⟨29, [6, 8], [.mov (.s 4)],
 .seq (.ops [⟨(some 4), some undefA, none, false, .pu (.mov (.c (.nilS)))⟩])
 (.seq (.ops [⟨(some 5), some undefA, none, false, .pu (.mov (.c (.nilS)))⟩])
 (.seq (.ops [⟨(some 9), some undefA, none, false, .call 78 [(.c (.int .i64 0))]⟩,
   ⟨(some 6), some (.junk), none, false, .pu (.bnew (.c (.agg [.int .i64 0, .int .i64 0])))⟩,
   ⟨(some 6), none, none, false, .pu (.bset none 6 0 2 (.s 9))⟩])
 (.seq (.seq (.ops [⟨(some 10), some undefA, none, false, .pu (.mov (.s 1))⟩,
   ⟨(some 11), some undefA, none, false, .pu (.len (.s 10))⟩,
   ⟨(some 12), some undefA, none, false, .pu (.mov (.c (.int .i64 0)))⟩])
 (.block 0 (.loop (.seq (.ops [⟨(some 13), some undefA, none, false, .pu (.bin .lss (.s 12) (.s 11))⟩])
   (.seq (.cond (.s 13) (.skip)
   (.exit 0))
   (.seq (.block 1 (.seq (.ops [⟨(some 14), some undefA, none, false, .pu (.idx 2 (.s 10) (.s 12))⟩,
      ⟨(some 15), some undefA, none, false, .ld (.ld 2 true (.s 14))⟩,
      ⟨(some 8), some (.junk), none, false, .pu (.bnew (.c (.agg [.int .i64 0, .int .i64 0])))⟩,
      ⟨(some 8), none, none, false, .pu (.bset none 8 0 2 (.s 15))⟩])
    (.seq (.ops [⟨(some 17), some undefA, none, false, .pu (.mov (.s 0))⟩,
      ⟨(some 18), some undefA, none, false, .pu (.bget none 6 0 2 true)⟩,
      ⟨(some 19), some undefA, none, false, .pu (.bget none 8 0 2 true)⟩,
      ⟨(some 20), some undefA, none, false, .call 80 [(.s 17), (.s 18), (.s 19)]⟩,
      ⟨(some 16), some undefA, none, false, .pu (.mov (.s 20))⟩,
      ⟨(some 21), some undefA, none, false, .pu (.extr 0 (.s 16))⟩,
      ⟨(some 22), some undefA, none, false, .pu (.extr 1 (.s 16))⟩,
      ⟨(some 6), none, none, false, .pu (.bset none 6 0 2 (.s 21))⟩])
    (.ops [⟨(some 23), some undefA, none, false, .pu (.mov (.s 5))⟩,
      ⟨(some 24), some undefA, none, false, .pu (.bget none 6 0 2 true)⟩,
      ⟨(some 25), some undefA, none, false, .ha (.blds 2 1 [.int .i64 0, .int .i64 0] [(0, 2, (.s 24))])⟩,
      ⟨(some 26), some undefA, none, false, .ha (.app 2 (.s 23) (.s 25))⟩,
      ⟨(some 5), some undefA, none, false, .pu (.mov (.s 26))⟩]))))
   (.ops [⟨(some 27), some undefA, none, false, .pu (.bin .add (.s 12) (.c (.int .i64 1)))⟩,
     ⟨(some 12), some undefA, none, false, .pu (.mov (.s 27))⟩])))))))
 (.seq (.ops [⟨(some 28), some undefA, none, false, .pu (.mov (.s 5))⟩,
   ⟨(some 4), some undefA, none, false, .pu (.mov (.s 28))⟩])
 (.ret)))))⟩
theorem t62 : trF Try.prog [6, 8] [] Try.f62 = some m62 := by kernel_rfl
/-- slices.Repeat[[]selion/api.Rat,selion/api.Rat] [loop [7, 8]] -/
def m63 : MFun := ⟨48, [], [.mov (.s 4)],
 .seq (.ops [⟨(some 4), some undefA, none, false, .pu (.mov (.c (.nilS)))⟩])
 (.seq (.seq (.ops [⟨(some 9), some undefA, none, false, .pu (.mov (.s 1))⟩,
   ⟨(some 10), some undefA, none, false, .pu (.bin .lss (.s 9) (.c (.int .i64 0)))⟩])
 (.cond (.s 10) (.ops [⟨(some 11), some undefA, none, false, .pu (.fail)⟩,
    ⟨none, some undefA, none, false, .pu (.fail)⟩])
 (.skip)))
 (.seq (.ops [⟨(some 13), some undefA, none, false, .pu (.mov (.s 0))⟩,
   ⟨(some 14), some undefA, none, false, .pu (.len (.s 13))⟩,
   ⟨(some 15), some undefA, none, false, .pu (.conv .u64 (.s 14))⟩,
   ⟨(some 16), some undefA, none, false, .pu (.mov (.s 1))⟩,
   ⟨(some 17), some undefA, none, false, .pu (.conv .u64 (.s 16))⟩,
   ⟨(some 18), some undefA, none, false, .call 100 [(.s 15), (.s 17)]⟩,
   ⟨(some 12), some undefA, none, false, .pu (.mov (.s 18))⟩,
   ⟨(some 19), some undefA, none, false, .pu (.extr 0 (.s 12))⟩,
   ⟨(some 20), some undefA, none, false, .pu (.extr 1 (.s 12))⟩,
   ⟨(some 5), some undefA, none, false, .pu (.mov (.s 19))⟩,
   ⟨(some 6), some undefA, none, false, .pu (.mov (.s 20))⟩])
 (.seq (.seq (.ops [⟨(some 21), some undefA, none, false, .pu (.mov (.s 5))⟩,
   ⟨(some 22), some undefA, none, false, .pu (.bin .gtr (.s 21) (.c (.int .u64 0)))⟩,
   ⟨(some 23), some undefA, none, false, .pu (.mov (.s 22))⟩,
   ⟨(some 24), some undefA, (some (23, false)), false, .pu (.mov (.s 6))⟩,
   ⟨(some 25), some undefA, (some (23, false)), false, .pu (.bin .gtr (.s 24) (.c (.int .u64 9223372036854775807)))⟩,
   ⟨(some 26), some undefA, none, false, .pu (.pick (.s 23) (.c (.bool true)) (.s 25))⟩])
 (.cond (.s 26) (.ops [⟨(some 27), some undefA, none, false, .pu (.fail)⟩,
    ⟨none, some undefA, none, false, .pu (.fail)⟩])
 (.skip)))
 (.seq (.ops [⟨(some 28), some undefA, none, false, .pu (.mov (.s 6))⟩,
   ⟨(some 29), some undefA, none, false, .pu (.conv .i64 (.s 28))⟩,
   ⟨(some 30), some undefA, none, false, .ha (.mks 2 [.int .i64 0, .int .i64 0] (.s 29) (.s 29))⟩,
   ⟨(some 7), some undefA, none, false, .pu (.mov (.s 30))⟩])
 (.seq (.ops [⟨(some 31), some undefA, none, false, .pu (.mov (.s 7))⟩,
   ⟨(some 32), some undefA, none, false, .pu (.mov (.s 0))⟩,
   ⟨(some 33), some undefA, none, false, .ha (.cpy 2 (.s 31) (.s 32))⟩,
   ⟨(some 8), some undefA, none, false, .pu (.mov (.s 33))⟩])
 (.seq (.block 0 (.loop (.seq (.seq (.ops [⟨(some 34), some undefA, none, false, .pu (.mov (.s 8))⟩,
     ⟨(some 35), some undefA, none, false, .pu (.mov (.s 7))⟩,
     ⟨(some 36), some undefA, none, false, .pu (.len (.s 35))⟩,
     ⟨(some 37), some undefA, none, false, .pu (.bin .lss (.s 34) (.s 36))⟩])
   (.cond (.s 37) (.skip)
   (.exit 0)))
   (.block 1 (.ops [⟨(some 38), some undefA, none, false, .pu (.mov (.s 8))⟩,
      ⟨(some 39), some undefA, none, false, .pu (.mov (.s 7))⟩,
      ⟨(some 40), some undefA, none, false, .pu (.mov (.s 8))⟩,
      ⟨(some 41), some undefA, none, false, .pu (.slc 2 (.s 39) (some (.s 40)) none none)⟩,
      ⟨(some 42), some undefA, none, false, .pu (.mov (.s 7))⟩,
      ⟨(some 43), some undefA, none, false, .pu (.mov (.s 8))⟩,
      ⟨(some 44), some undefA, none, false, .pu (.slc 2 (.s 42) none (some (.s 43)) none)⟩,
      ⟨(some 45), some undefA, none, false, .ha (.cpy 2 (.s 41) (.s 44))⟩,
      ⟨(some 46), some undefA, none, false, .pu (.bin .add (.s 38) (.s 45))⟩,
      ⟨(some 8), some undefA, none, false, .pu (.mov (.s 46))⟩])))))
 (.seq (.ops [⟨(some 47), some undefA, none, false, .pu (.mov (.s 7))⟩,
   ⟨(some 4), some undefA, none, false, .pu (.mov (.s 47))⟩])
 (.ret))))))))⟩
theorem t63 : trF Try.prog [] [] Try.f63 = some m63 := by kernel_rfl
/-- selion/frac.Of [] -/
def m64 : MFun := ⟨20, [4], [.bget none 4 0 2 true],
 .seq (.ops [⟨(some 4), some (.junk), none, false, .pu (.bnew (.c (.agg [.int .i64 0, .int .i64 0])))⟩])
 (.seq (.ops [⟨(some 6), some undefA, none, false, .pu (.mov (.s 0))⟩,
   ⟨(some 7), some undefA, none, false, .pu (.mov (.s 1))⟩,
   ⟨(some 8), some undefA, none, false, .call 101 [(.s 6), (.s 7)]⟩,
   ⟨(some 5), some undefA, none, false, .pu (.mov (.s 8))⟩])
 (.seq (.seq (.ops [⟨(some 9), some undefA, none, false, .pu (.mov (.s 1))⟩,
   ⟨(some 10), some undefA, none, false, .pu (.bin .lss (.s 9) (.c (.int .i64 0)))⟩])
 (.cond (.s 10) (.ops [⟨(some 11), some undefA, none, false, .pu (.mov (.s 5))⟩,
    ⟨(some 12), some undefA, none, false, .pu (.neg (.s 11))⟩,
    ⟨(some 5), some undefA, none, false, .pu (.mov (.s 12))⟩])
 (.skip)))
 (.seq (.ops [⟨(some 13), some undefA, none, false, .pu (.mov (.s 0))⟩,
   ⟨(some 14), some undefA, none, false, .pu (.mov (.s 5))⟩,
   ⟨(some 15), some undefA, none, false, .pu (.bin .quo (.s 13) (.s 14))⟩,
   ⟨(some 16), some undefA, none, false, .pu (.mov (.s 1))⟩,
   ⟨(some 17), some undefA, none, false, .pu (.mov (.s 5))⟩,
   ⟨(some 18), some undefA, none, false, .pu (.bin .quo (.s 16) (.s 17))⟩,
   ⟨(some 19), some undefA, none, false, .pu (.build [.int .i64 0, .int .i64 0] [(0, 1, (.s 15)), (1, 1, (.s 18))])⟩,
   ⟨(some 4), none, none, false, .pu (.bset none 4 0 2 (.s 19))⟩])
 (.ret))))⟩
theorem t64 : trF Try.prog [4] [] Try.f64 = some m64 := by kernel_rfl
/-- selion/soil.total [] -/
def m65 : MFun := ⟨5, [], [.mov (.s 2)],
 .seq (.ops [⟨(some 2), some undefA, none, false, .pu (.mov (.c (.int .i64 0)))⟩])
 (.seq (.ops [⟨(some 3), some undefA, none, false, .pu (.mov (.s 0))⟩,
   ⟨(some 4), some undefA, none, false, .call 102 [(.s 3), (.c (.fn 103 []))]⟩,
   ⟨(some 2), some undefA, none, false, .pu (.mov (.s 4))⟩])
 (.ret))⟩
theorem t65 : trF Try.prog [] [] Try.f65 = some m65 := by kernel_rfl
/-- selion/selionref02.within [] -/
def m66 : MFun := ⟨15, [], [.mov (.s 6)],
 .seq (.ops [⟨(some 6), some undefA, none, false, .pu (.mov (.c (.bool false)))⟩])
 (.seq (.ops [⟨(some 7), some undefA, none, false, .pu (.mov (.s 0))⟩,
   ⟨(some 8), some undefA, none, false, .pu (.mov (.s 1))⟩,
   ⟨(some 9), some undefA, none, false, .pu (.bin .geq (.s 7) (.s 8))⟩,
   ⟨(some 10), some undefA, none, false, .pu (.mov (.s 9))⟩,
   ⟨(some 11), some undefA, (some (10, true)), false, .pu (.mov (.s 0))⟩,
   ⟨(some 12), some undefA, (some (10, true)), false, .pu (.mov (.s 2))⟩,
   ⟨(some 13), some undefA, (some (10, true)), false, .pu (.bin .leq (.s 11) (.s 12))⟩,
   ⟨(some 14), some undefA, none, false, .pu (.pick (.s 10) (.s 13) (.c (.bool false)))⟩,
   ⟨(some 6), some undefA, none, false, .pu (.mov (.s 14))⟩])
 (.ret))⟩
theorem t66 : trF Try.prog [] [] Try.f66 = some m66 := by kernel_rfl
/-- selion/selionref02.Units [loop [0, 3, 4], loop [0, 3, 4, 5]] -/
def m68 : MFun := ⟨30, [], [.mov (.s 2)],
 .seq (.ops [⟨(some 2), some undefA, none, false, .pu (.mov (.c (.nilS)))⟩])
 (.seq (.ops [⟨(some 3), some undefA, none, false, .pu (.mov (.c (.nilS)))⟩])
 (.seq (.seq (.ops [⟨(some 4), some undefA, none, false, .pu (.mov (.c (.int .i64 0)))⟩])
 (.block 0 (.loop (.seq (.seq (.ops [⟨(some 6), some undefA, none, false, .pu (.mov (.s 4))⟩,
     ⟨(some 7), some undefA, none, false, .pu (.mov (.s 0))⟩,
     ⟨(some 8), some undefA, none, false, .pu (.len (.s 7))⟩,
     ⟨(some 9), some undefA, none, false, .pu (.bin .lss (.s 6) (.s 8))⟩])
   (.cond (.s 9) (.skip)
   (.exit 0)))
   (.seq (.block 1 (.seq (.ops [⟨(some 5), some undefA, none, false, .pu (.mov (.c (.int .i64 0)))⟩])
    (.block 2 (.loop (.seq (.seq (.ops [⟨(some 12), some undefA, none, false, .pu (.mov (.s 5))⟩,
        ⟨(some 13), some undefA, none, false, .pu (.mov (.s 0))⟩,
        ⟨(some 14), some undefA, none, false, .pu (.mov (.s 4))⟩,
        ⟨(some 15), some undefA, none, false, .pu (.idx 2 (.s 13) (.s 14))⟩,
        ⟨(some 16), some undefA, none, false, .pu (.fad 0 (.s 15))⟩,
        ⟨(some 17), some undefA, none, false, .ld (.ld 1 false (.s 16))⟩,
        ⟨(some 18), some undefA, none, false, .pu (.bin .lss (.s 12) (.s 17))⟩])
      (.cond (.s 18) (.skip)
      (.exit 2)))
      (.seq (.block 3 (.ops [⟨(some 21), some undefA, none, false, .pu (.mov (.s 3))⟩,
         ⟨(some 22), some undefA, none, false, .pu (.mov (.s 0))⟩,
         ⟨(some 23), some undefA, none, false, .pu (.mov (.s 4))⟩,
         ⟨(some 24), some undefA, none, false, .pu (.idx 2 (.s 22) (.s 23))⟩,
         ⟨(some 25), some undefA, none, false, .pu (.fad 1 (.s 24))⟩,
         ⟨(some 26), some undefA, none, false, .ld (.ld 1 false (.s 25))⟩,
         ⟨(some 27), some undefA, none, false, .ha (.blds 1 1 [.int .i64 0] [(0, 1, (.s 26))])⟩,
         ⟨(some 28), some undefA, none, false, .ha (.app 1 (.s 21) (.s 27))⟩,
         ⟨(some 3), some undefA, none, false, .pu (.mov (.s 28))⟩]))
      (.ops [⟨(some 19), some undefA, none, false, .pu (.mov (.s 5))⟩,
        ⟨(some 20), some undefA, none, false, .pu (.bin .add (.s 19) (.c (.int .i64 1)))⟩,
        ⟨(some 5), some undefA, none, false, .pu (.mov (.s 20))⟩])))))))
   (.ops [⟨(some 10), some undefA, none, false, .pu (.mov (.s 4))⟩,
     ⟨(some 11), some undefA, none, false, .pu (.bin .add (.s 10) (.c (.int .i64 1)))⟩,
     ⟨(some 4), some undefA, none, false, .pu (.mov (.s 11))⟩]))))))
 (.seq (.ops [⟨(some 29), some undefA, none, false, .pu (.mov (.s 3))⟩,
   ⟨(some 2), some undefA, none, false, .pu (.mov (.s 29))⟩])
 (.ret))))⟩
theorem t68 : trF Try.prog [] [] Try.f68 = some m68 := by kernel_rfl
/-- selion/selionref02.Ratio [] -/
def m69 : MFun := ⟨16, [4], [.bget none 4 0 2 true],
 .seq (.ops [⟨(some 4), some (.junk), none, false, .pu (.bnew (.c (.agg [.int .i64 0, .int .i64 0])))⟩])
 (.seq (.ops [⟨(some 6), some undefA, none, false, .pu (.mov (.s 0))⟩,
   ⟨(some 7), some undefA, none, false, .pu (.mov (.s 1))⟩,
   ⟨(some 8), some undefA, none, false, .call 76 [(.s 6), (.s 7)]⟩,
   ⟨(some 5), some undefA, none, false, .pu (.mov (.s 8))⟩])
 (.seq (.ops [⟨(some 9), some undefA, none, false, .pu (.mov (.s 0))⟩,
   ⟨(some 10), some undefA, none, false, .pu (.mov (.s 5))⟩,
   ⟨(some 11), some undefA, none, false, .pu (.bin .quo (.s 9) (.s 10))⟩,
   ⟨(some 12), some undefA, none, false, .pu (.mov (.s 1))⟩,
   ⟨(some 13), some undefA, none, false, .pu (.mov (.s 5))⟩,
   ⟨(some 14), some undefA, none, false, .pu (.bin .quo (.s 12) (.s 13))⟩,
   ⟨(some 15), some undefA, none, false, .pu (.build [.int .i64 0, .int .i64 0] [(0, 1, (.s 11)), (1, 1, (.s 14))])⟩,
   ⟨(some 4), none, none, false, .pu (.bset none 4 0 2 (.s 15))⟩])
 (.ret)))⟩
theorem t69 : trF Try.prog [4] [] Try.f69 = some m69 := by kernel_rfl
/-- selion/soil.isPlace [] -/
def m71 : MFun := ⟨20, [4], [.mov (.s 6)],
 .seq (.ops [⟨(some 4), some (.junk), none, false, .pu (.bnew (.s 1))⟩,
   ⟨(some 6), some undefA, none, false, .pu (.mov (.c (.bool false)))⟩])
 (.seq (.ops [⟨(some 7), some undefA, none, false, .pu (.bget none 4 0 2 true)⟩,
   ⟨(some 8), some undefA, none, false, .pu (.mov (.s 2))⟩,
   ⟨(some 9), some undefA, none, false, .call 79 [(.s 7), (.s 8)]⟩,
   ⟨(some 10), some undefA, none, false, .pu (.mov (.s 9))⟩,
   ⟨(some 11), some undefA, (some (10, true)), false, .pu (.badr none 4)⟩,
   ⟨(some 12), some undefA, (some (10, true)), false, .pu (.bget (some 11) 4 0 1 false)⟩,
   ⟨(some 13), some undefA, (some (10, true)), false, .pu (.mov (.s 0))⟩,
   ⟨(some 14), some undefA, (some (10, true)), false, .call 77 [(.s 13)]⟩,
   ⟨(some 15), some undefA, (some (10, true)), false, .pu (.badr none 4)⟩,
   ⟨(some 16), some undefA, (some (10, true)), false, .pu (.bget (some 15) 4 1 1 false)⟩,
   ⟨(some 17), some undefA, (some (10, true)), false, .pu (.bin .mul (.s 14) (.s 16))⟩,
   ⟨(some 18), some undefA, (some (10, true)), false, .call 61 [(.s 12), (.c (.int .i64 0)), (.s 17)]⟩,
   ⟨(some 19), some undefA, none, false, .pu (.pick (.s 10) (.s 18) (.c (.bool false)))⟩,
   ⟨(some 6), some undefA, none, false, .pu (.mov (.s 19))⟩])
 (.ret))⟩
theorem t71 : trF Try.prog [4] [] Try.f71 = some m71 := by kernel_rfl
/-- selion/frac.Cmp [] -/
def m72 : MFun := ⟨9, [2, 3], [.mov (.s 4)],
 .seq (.ops [⟨(some 2), some (.junk), none, false, .pu (.bnew (.s 0))⟩,
   ⟨(some 3), some (.junk), none, false, .pu (.bnew (.s 1))⟩,
   ⟨(some 4), some undefA, none, false, .pu (.mov (.c (.int .i64 0)))⟩])
 (.seq (.ops [⟨(some 5), some undefA, none, false, .pu (.bget none 2 0 2 true)⟩,
   ⟨(some 6), some undefA, none, false, .pu (.bget none 3 0 2 true)⟩,
   ⟨(some 7), some undefA, none, false, .call 106 [(.s 5), (.s 6)]⟩,
   ⟨(some 8), some undefA, none, false, .pu (.part 0 1 false (.s 7))⟩,
   ⟨(some 4), some undefA, none, false, .pu (.mov (.s 8))⟩])
 (.ret))⟩
theorem t72 : trF Try.prog [2, 3] [] Try.f72 = some m72 := by kernel_rfl
/-- selion/soil.worth [loop [4, 5, 6, 7, 8, 14, 15, 16]] -/
def m73 : MFun := ⟨49, [4, 5, 6, 7, 10, 11, 12], [.bget none 6 0 2 true],
 .seq (.ops [⟨(some 4), some (.junk), none, false, .pu (.bnew (.s 1))⟩,
   ⟨(some 5), some (.junk), none, false, .pu (.bnew (.s 2))⟩,
   ⟨(some 6), some (.junk), none, false, .pu (.bnew (.c (.agg [.int .i64 0, .int .i64 0])))⟩])
 (.seq (.ops [⟨(some 13), some undefA, none, false, .call 78 [(.c (.int .i64 0))]⟩,
   ⟨(some 7), some (.junk), none, false, .pu (.bnew (.c (.agg [.int .i64 0, .int .i64 0])))⟩,
   ⟨(some 7), none, none, false, .pu (.bset none 7 0 2 (.s 13))⟩])
 (.seq (.ops [⟨(some 8), some undefA, none, false, .pu (.mov (.c (.int .i64 0)))⟩])
 (.seq (.seq (.ops [⟨(some 14), some undefA, none, false, .pu (.mov (.s 0))⟩,
   ⟨(some 15), some undefA, none, false, .pu (.len (.s 14))⟩,
   ⟨(some 16), some undefA, none, false, .pu (.mov (.c (.int .i64 0)))⟩])
 (.block 0 (.loop (.seq (.ops [⟨(some 17), some undefA, none, false, .pu (.bin .lss (.s 16) (.s 15))⟩])
   (.seq (.cond (.s 17) (.skip)
   (.exit 0))
   (.seq (.block 1 (.seq (.ops [⟨(some 18), some undefA, none, false, .pu (.idx 2 (.s 14) (.s 16))⟩,
      ⟨(some 19), some undefA, none, false, .ld (.ld 2 true (.s 18))⟩,
      ⟨(some 10), some (.junk), none, false, .pu (.bnew (.c (.agg [.int .i64 0, .int .i64 0])))⟩,
      ⟨(some 10), none, none, false, .pu (.bset none 10 0 2 (.s 19))⟩])
    (.seq (.ops [⟨(some 20), some undefA, none, false, .pu (.bget none 4 0 2 true)⟩,
      ⟨(some 21), some undefA, none, false, .pu (.mov (.s 8))⟩,
      ⟨(some 22), some undefA, none, false, .call 78 [(.s 21)]⟩,
      ⟨(some 23), some undefA, none, false, .call 107 [(.s 20), (.s 22)]⟩,
      ⟨(some 24), some undefA, none, false, .pu (.bget none 5 0 2 true)⟩,
      ⟨(some 25), some undefA, none, false, .pu (.mov (.s 8))⟩,
      ⟨(some 26), some undefA, none, false, .pu (.badr none 10)⟩,
      ⟨(some 27), some undefA, none, false, .pu (.bget (some 26) 10 0 1 false)⟩,
      ⟨(some 28), some undefA, none, false, .pu (.bin .add (.s 25) (.s 27))⟩,
      ⟨(some 29), some undefA, none, false, .call 78 [(.s 28)]⟩,
      ⟨(some 30), some undefA, none, false, .call 108 [(.s 24), (.s 29)]⟩,
      ⟨(some 11), some (.junk), none, false, .pu (.bnew (.c (.agg [.int .i64 0, .int .i64 0])))⟩,
      ⟨(some 12), some (.junk), none, false, .pu (.bnew (.c (.agg [.int .i64 0, .int .i64 0])))⟩,
      ⟨(some 11), none, none, false, .pu (.bset none 11 0 2 (.s 23))⟩,
      ⟨(some 12), none, none, false, .pu (.bset none 12 0 2 (.s 30))⟩])
    (.seq (.seq (.ops [⟨(some 31), some undefA, none, false, .pu (.bget none 11 0 2 true)⟩,
      ⟨(some 32), some undefA, none, false, .pu (.bget none 12 0 2 true)⟩,
      ⟨(some 33), some undefA, none, false, .call 72 [(.s 31), (.s 32)]⟩,
      ⟨(some 34), some undefA, none, false, .pu (.bin .lss (.s 33) (.c (.int .i64 0)))⟩])
    (.cond (.s 34) (.ops [⟨(some 35), some undefA, none, false, .pu (.bget none 7 0 2 true)⟩,
       ⟨(some 36), some undefA, none, false, .pu (.bget none 12 0 2 true)⟩,
       ⟨(some 37), some undefA, none, false, .pu (.bget none 11 0 2 true)⟩,
       ⟨(some 38), some undefA, none, false, .call 106 [(.s 36), (.s 37)]⟩,
       ⟨(some 39), some undefA, none, false, .pu (.badr none 10)⟩,
       ⟨(some 40), some undefA, none, false, .pu (.bget (some 39) 10 1 1 false)⟩,
       ⟨(some 41), some undefA, none, false, .call 110 [(.s 38), (.s 40)]⟩,
       ⟨(some 42), some undefA, none, false, .call 109 [(.s 35), (.s 41)]⟩,
       ⟨(some 7), none, none, false, .pu (.bset none 7 0 2 (.s 42))⟩])
    (.skip)))
    (.ops [⟨(some 43), some undefA, none, false, .pu (.mov (.s 8))⟩,
      ⟨(some 44), some undefA, none, false, .pu (.badr none 10)⟩,
      ⟨(some 45), some undefA, none, false, .pu (.bget (some 44) 10 0 1 false)⟩,
      ⟨(some 46), some undefA, none, false, .pu (.bin .add (.s 43) (.s 45))⟩,
      ⟨(some 8), some undefA, none, false, .pu (.mov (.s 46))⟩])))))
   (.ops [⟨(some 47), some undefA, none, false, .pu (.bin .add (.s 16) (.c (.int .i64 1)))⟩,
     ⟨(some 16), some undefA, none, false, .pu (.mov (.s 47))⟩])))))))
 (.seq (.ops [⟨(some 48), some undefA, none, false, .pu (.bget none 7 0 2 true)⟩,
   ⟨(some 6), none, none, false, .pu (.bset none 6 0 2 (.s 48))⟩])
 (.ret)))))⟩
theorem t73 : trF Try.prog [4, 5, 6, 7, 10, 11, 12] [] Try.f73 = some m73 := by kernel_rfl
/-- selion/selionref02.gcd [loop [5, 6]] -/
def m76 : MFun := ⟨24, [], [.mov (.s 4)],
 .seq (.ops [⟨(some 4), some undefA, none, false, .pu (.mov (.c (.int .i64 0)))⟩])
 (.seq (.ops [⟨(some 8), some undefA, none, false, .pu (.mov (.s 0))⟩,
   ⟨(some 9), some undefA, none, false, .pu (.mov (.s 0))⟩,
   ⟨(some 10), some undefA, none, false, .pu (.neg (.s 9))⟩,
   ⟨(some 11), some undefA, none, false, .pu (.mm true (.s 8) [(.s 10)])⟩,
   ⟨(some 12), some undefA, none, false, .pu (.mov (.s 1))⟩,
   ⟨(some 13), some undefA, none, false, .pu (.mov (.s 1))⟩,
   ⟨(some 14), some undefA, none, false, .pu (.neg (.s 13))⟩,
   ⟨(some 15), some undefA, none, false, .pu (.mm true (.s 12) [(.s 14)])⟩,
   ⟨(some 5), some undefA, none, false, .pu (.mov (.s 11))⟩,
   ⟨(some 6), some undefA, none, false, .pu (.mov (.s 15))⟩])
 (.seq (.block 0 (.loop (.seq (.seq (.ops [⟨(some 16), some undefA, none, false, .pu (.mov (.s 6))⟩,
     ⟨(some 17), some undefA, none, false, .pu (.bin .gtr (.s 16) (.c (.int .i64 0)))⟩])
   (.cond (.s 17) (.skip)
   (.exit 0)))
   (.block 1 (.seq (.ops [⟨(some 18), some undefA, none, false, .pu (.mov (.s 5))⟩,
      ⟨(some 19), some undefA, none, false, .pu (.mov (.s 6))⟩,
      ⟨(some 20), some undefA, none, false, .pu (.bin .rem (.s 18) (.s 19))⟩,
      ⟨(some 7), some undefA, none, false, .pu (.mov (.s 20))⟩])
    (.seq (.ops [⟨(some 21), some undefA, none, false, .pu (.mov (.s 6))⟩,
      ⟨(some 5), some undefA, none, false, .pu (.mov (.s 21))⟩])
    (.ops [⟨(some 22), some undefA, none, false, .pu (.mov (.s 7))⟩,
      ⟨(some 6), some undefA, none, false, .pu (.mov (.s 22))⟩])))))))
 (.seq (.ops [⟨(some 23), some undefA, none, false, .pu (.mov (.s 5))⟩,
   ⟨(some 4), some undefA, none, false, .pu (.mov (.s 23))⟩])
 (.ret))))⟩
theorem t76 : trF Try.prog [] [] Try.f76 = some m76 := by kernel_rfl
/-- selion/soil.length [] -/
def m77 : MFun := ⟨5, [], [.mov (.s 2)],
 .seq (.ops [⟨(some 2), some undefA, none, false, .pu (.mov (.c (.int .i64 0)))⟩])
 (.seq (.ops [⟨(some 3), some undefA, none, false, .pu (.mov (.s 0))⟩,
   ⟨(some 4), some undefA, none, false, .call 102 [(.s 3), (.c (.fn 111 []))]⟩,
   ⟨(some 2), some undefA, none, false, .pu (.mov (.s 4))⟩])
 (.ret))⟩
theorem t77 : trF Try.prog [] [] Try.f77 = some m77 := by kernel_rfl
/-- selion/frac.Int [] -/
def m78 : MFun := ⟨5, [2], [.bget none 2 0 2 true],
 .seq (.ops [⟨(some 2), some (.junk), none, false, .pu (.bnew (.c (.agg [.int .i64 0, .int .i64 0])))⟩])
 (.seq (.ops [⟨(some 3), some undefA, none, false, .pu (.mov (.s 0))⟩,
   ⟨(some 4), some undefA, none, false, .pu (.build [.int .i64 0, .int .i64 0] [(0, 1, (.s 3)), (1, 1, (.c (.int .i64 1)))])⟩,
   ⟨(some 2), none, none, false, .pu (.bset none 2 0 2 (.s 4))⟩])
 (.ret))⟩
theorem t78 : trF Try.prog [2] [] Try.f78 = some m78 := by kernel_rfl
/-- selion/frac.Valid [] -/
def m79 : MFun := ⟨22, [2], [.mov (.s 4)],
 .seq (.ops [⟨(some 2), some (.junk), none, false, .pu (.bnew (.s 0))⟩,
   ⟨(some 4), some undefA, none, false, .pu (.mov (.c (.bool false)))⟩])
 (.seq (.ops [⟨(some 5), some undefA, none, false, .pu (.badr none 2)⟩,
   ⟨(some 6), some undefA, none, false, .pu (.bget (some 5) 2 1 1 false)⟩,
   ⟨(some 7), some undefA, none, false, .pu (.bin .geq (.s 6) (.c (.int .i64 1)))⟩,
   ⟨(some 8), some undefA, none, false, .pu (.mov (.s 7))⟩,
   ⟨(some 9), some undefA, (some (8, true)), false, .pu (.badr none 2)⟩,
   ⟨(some 10), some undefA, (some (8, true)), false, .pu (.bget (some 9) 2 1 1 false)⟩,
   ⟨(some 11), some undefA, (some (8, true)), false, .pu (.mov (.s 1))⟩,
   ⟨(some 12), some undefA, (some (8, true)), false, .pu (.bin .leq (.s 10) (.s 11))⟩,
   ⟨(some 13), some undefA, none, false, .pu (.pick (.s 8) (.s 12) (.c (.bool false)))⟩,
   ⟨(some 14), some undefA, none, false, .pu (.mov (.s 13))⟩,
   ⟨(some 15), some undefA, (some (14, true)), false, .pu (.badr none 2)⟩,
   ⟨(some 16), some undefA, (some (14, true)), false, .pu (.bget (some 15) 2 0 1 false)⟩,
   ⟨(some 17), some undefA, (some (14, true)), false, .pu (.badr none 2)⟩,
   ⟨(some 18), some undefA, (some (14, true)), false, .pu (.bget (some 17) 2 1 1 false)⟩,
   ⟨(some 19), some undefA, (some (14, true)), false, .call 101 [(.s 16), (.s 18)]⟩,
   ⟨(some 20), some undefA, (some (14, true)), false, .pu (.bin .eql (.s 19) (.c (.int .i64 1)))⟩,
   ⟨(some 21), some undefA, none, false, .pu (.pick (.s 14) (.s 20) (.c (.bool false)))⟩,
   ⟨(some 4), some undefA, none, false, .pu (.mov (.s 21))⟩])
 (.ret))⟩
theorem t79 : trF Try.prog [2] [] Try.f79 = some m79 := by kernel_rfl
/-- selion/soil.place [loop [4, 5, 6, 8, 18, 19, 20]] -/
def m80 : MFun := ⟨62, [4, 5, 6, 10, 11, 12, 13], [.bget none 6 0 2 true, .mov (.s 7)],
 .seq (.ops [⟨(some 4), some (.junk), none, false, .pu (.bnew (.s 1))⟩,
   ⟨(some 5), some (.junk), none, false, .pu (.bnew (.s 2))⟩,
   ⟨(some 6), some (.junk), none, false, .pu (.bnew (.c (.agg [.int .i64 0, .int .i64 0])))⟩,
   ⟨(some 7), some undefA, none, false, .pu (.mov (.c (.bool false)))⟩])
 (.seq (.seq (.ops [⟨(some 14), some undefA, none, false, .pu (.badr none 5)⟩,
   ⟨(some 15), some undefA, none, false, .pu (.bget (some 14) 5 0 1 false)⟩,
   ⟨(some 16), some undefA, none, false, .pu (.bin .eql (.s 15) (.c (.int .i64 0)))⟩])
 (.cond (.s 16) (.seq (.ops [⟨(some 17), some undefA, none, false, .pu (.bget none 4 0 2 true)⟩,
    ⟨(some 6), none, none, false, .pu (.bset none 6 0 2 (.s 17))⟩,
    ⟨(some 7), some undefA, none, false, .pu (.mov (.c (.bool true)))⟩])
  (.ret))
 (.skip)))
 (.seq (.ops [⟨(some 8), some undefA, none, false, .pu (.mov (.c (.int .i64 0)))⟩])
 (.seq (.seq (.ops [⟨(some 18), some undefA, none, false, .pu (.mov (.s 0))⟩,
   ⟨(some 19), some undefA, none, false, .pu (.len (.s 18))⟩,
   ⟨(some 20), some undefA, none, false, .pu (.mov (.c (.int .i64 0)))⟩])
 (.block 0 (.loop (.seq (.ops [⟨(some 21), some undefA, none, false, .pu (.bin .lss (.s 20) (.s 19))⟩])
   (.seq (.cond (.s 21) (.skip)
   (.exit 0))
   (.seq (.block 1 (.seq (.ops [⟨(some 22), some undefA, none, false, .pu (.idx 2 (.s 18) (.s 20))⟩,
      ⟨(some 23), some undefA, none, false, .ld (.ld 2 true (.s 22))⟩,
      ⟨(some 10), some (.junk), none, false, .pu (.bnew (.c (.agg [.int .i64 0, .int .i64 0])))⟩,
      ⟨(some 10), none, none, false, .pu (.bset none 10 0 2 (.s 23))⟩])
    (.seq (.ops [⟨(some 24), some undefA, none, false, .pu (.bget none 4 0 2 true)⟩,
      ⟨(some 25), some undefA, none, false, .pu (.mov (.s 8))⟩,
      ⟨(some 26), some undefA, none, false, .call 78 [(.s 25)]⟩,
      ⟨(some 27), some undefA, none, false, .call 107 [(.s 24), (.s 26)]⟩,
      ⟨(some 28), some undefA, none, false, .pu (.mov (.s 8))⟩,
      ⟨(some 29), some undefA, none, false, .pu (.badr none 10)⟩,
      ⟨(some 30), some undefA, none, false, .pu (.bget (some 29) 10 0 1 false)⟩,
      ⟨(some 31), some undefA, none, false, .pu (.bin .add (.s 28) (.s 30))⟩,
      ⟨(some 32), some undefA, none, false, .call 78 [(.s 31)]⟩,
      ⟨(some 11), some (.junk), none, false, .pu (.bnew (.c (.agg [.int .i64 0, .int .i64 0])))⟩,
      ⟨(some 12), some (.junk), none, false, .pu (.bnew (.c (.agg [.int .i64 0, .int .i64 0])))⟩,
      ⟨(some 11), none, none, false, .pu (.bset none 11 0 2 (.s 27))⟩,
      ⟨(some 12), none, none, false, .pu (.bset none 12 0 2 (.s 32))⟩])
    (.seq (.ops [⟨(some 33), some undefA, none, false, .pu (.mov (.s 8))⟩,
      ⟨(some 34), some undefA, none, false, .pu (.badr none 10)⟩,
      ⟨(some 35), some undefA, none, false, .pu (.bget (some 34) 10 0 1 false)⟩,
      ⟨(some 36), some undefA, none, false, .pu (.bin .add (.s 33) (.s 35))⟩,
      ⟨(some 8), some undefA, none, false, .pu (.mov (.s 36))⟩])
    (.seq (.seq (.ops [⟨(some 37), some undefA, none, false, .pu (.bget none 11 0 2 true)⟩,
      ⟨(some 38), some undefA, none, false, .pu (.bget none 12 0 2 true)⟩,
      ⟨(some 39), some undefA, none, false, .call 72 [(.s 37), (.s 38)]⟩,
      ⟨(some 40), some undefA, none, false, .pu (.bin .geq (.s 39) (.c (.int .i64 0)))⟩])
    (.cond (.s 40) (.exit 1)
    (.skip)))
    (.seq (.ops [⟨(some 41), some undefA, none, false, .pu (.bget none 12 0 2 true)⟩,
      ⟨(some 42), some undefA, none, false, .pu (.bget none 11 0 2 true)⟩,
      ⟨(some 43), some undefA, none, false, .call 106 [(.s 41), (.s 42)]⟩,
      ⟨(some 44), some undefA, none, false, .pu (.badr none 10)⟩,
      ⟨(some 45), some undefA, none, false, .pu (.bget (some 44) 10 1 1 false)⟩,
      ⟨(some 46), some undefA, none, false, .call 110 [(.s 43), (.s 45)]⟩,
      ⟨(some 13), some (.junk), none, false, .pu (.bnew (.c (.agg [.int .i64 0, .int .i64 0])))⟩,
      ⟨(some 13), none, none, false, .pu (.bset none 13 0 2 (.s 46))⟩])
    (.seq (.seq (.ops [⟨(some 47), some undefA, none, false, .pu (.bget none 13 0 2 true)⟩,
      ⟨(some 48), some undefA, none, false, .pu (.bget none 5 0 2 true)⟩,
      ⟨(some 49), some undefA, none, false, .call 72 [(.s 47), (.s 48)]⟩,
      ⟨(some 50), some undefA, none, false, .pu (.bin .geq (.s 49) (.c (.int .i64 0)))⟩])
    (.cond (.s 50) (.seq (.ops [⟨(some 51), some undefA, none, false, .pu (.bget none 11 0 2 true)⟩,
       ⟨(some 52), some undefA, none, false, .pu (.bget none 5 0 2 true)⟩,
       ⟨(some 53), some undefA, none, false, .pu (.badr none 10)⟩,
       ⟨(some 54), some undefA, none, false, .pu (.bget (some 53) 10 1 1 false)⟩,
       ⟨(some 55), some undefA, none, false, .call 112 [(.s 52), (.s 54)]⟩,
       ⟨(some 56), some undefA, none, false, .call 109 [(.s 51), (.s 55)]⟩,
       ⟨(some 6), none, none, false, .pu (.bset none 6 0 2 (.s 56))⟩,
       ⟨(some 7), some undefA, none, false, .pu (.mov (.c (.bool true)))⟩])
     (.ret))
    (.skip)))
    (.ops [⟨(some 57), some undefA, none, false, .pu (.bget none 5 0 2 true)⟩,
      ⟨(some 58), some undefA, none, false, .pu (.bget none 13 0 2 true)⟩,
      ⟨(some 59), some undefA, none, false, .call 106 [(.s 57), (.s 58)]⟩,
      ⟨(some 5), none, none, false, .pu (.bset none 5 0 2 (.s 59))⟩]))))))))
   (.ops [⟨(some 60), some undefA, none, false, .pu (.bin .add (.s 20) (.c (.int .i64 1)))⟩,
     ⟨(some 20), some undefA, none, false, .pu (.mov (.s 60))⟩])))))))
 (.seq (.ops [⟨(some 61), some undefA, none, false, .pu (.build [.int .i64 0, .int .i64 0] [])⟩,
   ⟨(some 6), none, none, false, .pu (.bset none 6 0 2 (.s 61))⟩,
   ⟨(some 7), some undefA, none, false, .pu (.mov (.c (.bool false)))⟩])
 (.ret)))))⟩
theorem t80 : trF Try.prog [4, 5, 6, 10, 11, 12, 13] [] Try.f80 = some m80 := by kernel_rfl
/-- math/bits.Mul [] -/
def m100 : MFun := ⟨30, [], [.mov (.s 4), .mov (.s 5)],
 .seq (.ops [⟨(some 4), some undefA, none, false, .pu (.mov (.c (.int .u64 0)))⟩,
   ⟨(some 5), some undefA, none, false, .pu (.mov (.c (.int .u64 0)))⟩])
 (.seq (.cond (.c (.bool false)) (.seq (.ops [⟨(some 11), some undefA, none, false, .pu (.mov (.s 0))⟩,
    ⟨(some 12), some undefA, none, false, .pu (.conv .u32 (.s 11))⟩,
    ⟨(some 13), some undefA, none, false, .pu (.mov (.s 1))⟩,
    ⟨(some 14), some undefA, none, false, .pu (.conv .u32 (.s 13))⟩,
    ⟨(some 15), some undefA, none, false, .call 118 [(.s 12), (.s 14)]⟩,
    ⟨(some 10), some undefA, none, false, .pu (.mov (.s 15))⟩,
    ⟨(some 16), some undefA, none, false, .pu (.extr 0 (.s 10))⟩,
    ⟨(some 17), some undefA, none, false, .pu (.extr 1 (.s 10))⟩,
    ⟨(some 6), some undefA, none, false, .pu (.mov (.s 16))⟩,
    ⟨(some 7), some undefA, none, false, .pu (.mov (.s 17))⟩])
  (.seq (.ops [⟨(some 18), some undefA, none, false, .pu (.mov (.s 6))⟩,
    ⟨(some 19), some undefA, none, false, .pu (.conv .u64 (.s 18))⟩,
    ⟨(some 20), some undefA, none, false, .pu (.mov (.s 7))⟩,
    ⟨(some 21), some undefA, none, false, .pu (.conv .u64 (.s 20))⟩,
    ⟨(some 4), some undefA, none, false, .pu (.mov (.s 19))⟩,
    ⟨(some 5), some undefA, none, false, .pu (.mov (.s 21))⟩])
  (.ret)))
 (.skip))
 (.seq (.ops [⟨(some 23), some undefA, none, false, .pu (.mov (.s 0))⟩,
   ⟨(some 24), some undefA, none, false, .pu (.mov (.s 1))⟩,
   ⟨(some 25), some undefA, none, false, .call 119 [(.s 23), (.s 24)]⟩,
   ⟨(some 22), some undefA, none, false, .pu (.mov (.s 25))⟩,
   ⟨(some 26), some undefA, none, false, .pu (.extr 0 (.s 22))⟩,
   ⟨(some 27), some undefA, none, false, .pu (.extr 1 (.s 22))⟩,
   ⟨(some 8), some undefA, none, false, .pu (.mov (.s 26))⟩,
   ⟨(some 9), some undefA, none, false, .pu (.mov (.s 27))⟩])
 (.seq (.ops [⟨(some 28), some undefA, none, false, .pu (.mov (.s 8))⟩,
   ⟨(some 29), some undefA, none, false, .pu (.mov (.s 9))⟩,
   ⟨(some 4), some undefA, none, false, .pu (.mov (.s 28))⟩,
   ⟨(some 5), some undefA, none, false, .pu (.mov (.s 29))⟩])
 (.ret))))⟩
theorem t100 : trF Try.prog [] [] Try.f100 = some m100 := by kernel_rfl
/-- selion/frac.divisor [loop [0, 1]] -/
def m101 : MFun := ⟨15, [], [.mov (.s 4)],
 .seq (.ops [⟨(some 4), some undefA, none, false, .pu (.mov (.c (.int .i64 0)))⟩])
 (.seq (.block 0 (.loop (.seq (.seq (.ops [⟨(some 5), some undefA, none, false, .pu (.mov (.s 1))⟩,
     ⟨(some 6), some undefA, none, false, .pu (.bin .neq (.s 5) (.c (.int .i64 0)))⟩])
   (.cond (.s 6) (.skip)
   (.exit 0)))
   (.block 1 (.ops [⟨(some 7), some undefA, none, false, .pu (.mov (.s 1))⟩,
      ⟨(some 8), some undefA, none, false, .pu (.mov (.s 0))⟩,
      ⟨(some 9), some undefA, none, false, .pu (.mov (.s 1))⟩,
      ⟨(some 10), some undefA, none, false, .pu (.bin .rem (.s 8) (.s 9))⟩,
      ⟨(some 0), some undefA, none, false, .pu (.mov (.s 7))⟩,
      ⟨(some 1), some undefA, none, false, .pu (.mov (.s 10))⟩])))))
 (.seq (.ops [⟨(some 11), some undefA, none, false, .pu (.mov (.s 0))⟩,
   ⟨(some 12), some undefA, none, false, .pu (.mov (.s 0))⟩,
   ⟨(some 13), some undefA, none, false, .pu (.neg (.s 12))⟩,
   ⟨(some 14), some undefA, none, false, .pu (.mm true (.s 11) [(.s 13)])⟩,
   ⟨(some 4), some undefA, none, false, .pu (.mov (.s 14))⟩])
 (.ret)))⟩
theorem t101 : trF Try.prog [] [] Try.f101 = some m101 := by kernel_rfl
/-- selion/soil.sum [loop [1, 5, 8, 9, 10]] -/
def m102 : MFun := ⟨21, [7], [.mov (.s 4)],
 .seq (.ops [⟨(some 4), some undefA, none, false, .pu (.mov (.c (.int .i64 0)))⟩])
 (.seq (.ops [⟨(some 5), some undefA, none, false, .pu (.mov (.c (.int .i64 0)))⟩])
 (.seq (.seq (.ops [⟨(some 8), some undefA, none, false, .pu (.mov (.s 0))⟩,
   ⟨(some 9), some undefA, none, false, .pu (.len (.s 8))⟩,
   ⟨(some 10), some undefA, none, false, .pu (.mov (.c (.int .i64 0)))⟩])
 (.block 0 (.loop (.seq (.ops [⟨(some 11), some undefA, none, false, .pu (.bin .lss (.s 10) (.s 9))⟩])
   (.seq (.cond (.s 11) (.skip)
   (.exit 0))
   (.seq (.block 1 (.seq (.ops [⟨(some 12), some undefA, none, false, .pu (.idx 2 (.s 8) (.s 10))⟩,
      ⟨(some 13), some undefA, none, false, .ld (.ld 2 true (.s 12))⟩,
      ⟨(some 7), some (.junk), none, false, .pu (.bnew (.c (.agg [.int .i64 0, .int .i64 0])))⟩,
      ⟨(some 7), none, none, false, .pu (.bset none 7 0 2 (.s 13))⟩])
    (.ops [⟨(some 14), some undefA, none, false, .pu (.mov (.s 5))⟩,
      ⟨(some 15), some undefA, none, false, .pu (.mov (.s 1))⟩,
      ⟨(some 16), some undefA, none, false, .pu (.bget none 7 0 2 true)⟩,
      ⟨(some 17), some undefA, none, false, .callv (.s 15) [(.s 16)]⟩,
      ⟨(some 18), some undefA, none, false, .pu (.bin .add (.s 14) (.s 17))⟩,
      ⟨(some 5), some undefA, none, false, .pu (.mov (.s 18))⟩])))
   (.ops [⟨(some 19), some undefA, none, false, .pu (.bin .add (.s 10) (.c (.int .i64 1)))⟩,
     ⟨(some 10), some undefA, none, false, .pu (.mov (.s 19))⟩])))))))
 (.seq (.ops [⟨(some 20), some undefA, none, false, .pu (.mov (.s 5))⟩,
   ⟨(some 4), some undefA, none, false, .pu (.mov (.s 20))⟩])
 (.ret))))⟩
theorem t102 : trF Try.prog [7] [] Try.f102 = some m102 := by kernel_rfl
/-- (selion/soil.zone).worth [] -/
def m103 : MFun := ⟨8, [1], [.mov (.s 2)],
 .seq (.ops [⟨(some 1), some (.junk), none, false, .pu (.bnew (.s 0))⟩,
   ⟨(some 2), some undefA, none, false, .pu (.mov (.c (.int .i64 0)))⟩])
 (.seq (.ops [⟨(some 3), some undefA, none, false, .pu (.badr none 1)⟩,
   ⟨(some 4), some undefA, none, false, .pu (.bget (some 3) 1 0 1 false)⟩,
   ⟨(some 5), some undefA, none, false, .pu (.badr none 1)⟩,
   ⟨(some 6), some undefA, none, false, .pu (.bget (some 5) 1 1 1 false)⟩,
   ⟨(some 7), some undefA, none, false, .pu (.bin .mul (.s 4) (.s 6))⟩,
   ⟨(some 2), some undefA, none, false, .pu (.mov (.s 7))⟩])
 (.ret))⟩
theorem t103 : trF Try.prog [1] [] Try.f103 = some m103 := by kernel_rfl
/-- selion/frac.Sub [] -/
def m106 : MFun := ⟨13, [2, 3, 4], [.bget none 4 0 2 true],
 .seq (.ops [⟨(some 2), some (.junk), none, false, .pu (.bnew (.s 0))⟩,
   ⟨(some 3), some (.junk), none, false, .pu (.bnew (.s 1))⟩,
   ⟨(some 4), some (.junk), none, false, .pu (.bnew (.c (.agg [.int .i64 0, .int .i64 0])))⟩])
 (.seq (.ops [⟨(some 5), some undefA, none, false, .pu (.bget none 2 0 2 true)⟩,
   ⟨(some 6), some undefA, none, false, .pu (.badr none 3)⟩,
   ⟨(some 7), some undefA, none, false, .pu (.bget (some 6) 3 0 1 false)⟩,
   ⟨(some 8), some undefA, none, false, .pu (.neg (.s 7))⟩,
   ⟨(some 9), some undefA, none, false, .pu (.badr none 3)⟩,
   ⟨(some 10), some undefA, none, false, .pu (.bget (some 9) 3 1 1 false)⟩,
   ⟨(some 11), some undefA, none, false, .pu (.build [.int .i64 0, .int .i64 0] [(0, 1, (.s 8)), (1, 1, (.s 10))])⟩,
   ⟨(some 12), some undefA, none, false, .call 109 [(.s 5), (.s 11)]⟩,
   ⟨(some 4), none, none, false, .pu (.bset none 4 0 2 (.s 12))⟩])
 (.ret))⟩
theorem t106 : trF Try.prog [2, 3, 4] [] Try.f106 = some m106 := by kernel_rfl
/-- selion/frac.Max [] -/
def m107 : MFun := ⟨11, [2, 3, 4], [.bget none 4 0 2 true],
 .seq (.ops [⟨(some 2), some (.junk), none, false, .pu (.bnew (.s 0))⟩,
   ⟨(some 3), some (.junk), none, false, .pu (.bnew (.s 1))⟩,
   ⟨(some 4), some (.junk), none, false, .pu (.bnew (.c (.agg [.int .i64 0, .int .i64 0])))⟩])
 (.seq (.seq (.ops [⟨(some 5), some undefA, none, false, .pu (.bget none 2 0 2 true)⟩,
   ⟨(some 6), some undefA, none, false, .pu (.bget none 3 0 2 true)⟩,
   ⟨(some 7), some undefA, none, false, .call 72 [(.s 5), (.s 6)]⟩,
   ⟨(some 8), some undefA, none, false, .pu (.bin .gtr (.s 7) (.c (.int .i64 0)))⟩])
 (.cond (.s 8) (.seq (.ops [⟨(some 9), some undefA, none, false, .pu (.bget none 2 0 2 true)⟩,
    ⟨(some 4), none, none, false, .pu (.bset none 4 0 2 (.s 9))⟩])
  (.ret))
 (.skip)))
 (.seq (.ops [⟨(some 10), some undefA, none, false, .pu (.bget none 3 0 2 true)⟩,
   ⟨(some 4), none, none, false, .pu (.bset none 4 0 2 (.s 10))⟩])
 (.ret)))⟩
theorem t107 : trF Try.prog [2, 3, 4] [] Try.f107 = some m107 := by kernel_rfl
/-- selion/frac.Min [] -/
def m108 : MFun := ⟨11, [2, 3, 4], [.bget none 4 0 2 true],
 .seq (.ops [⟨(some 2), some (.junk), none, false, .pu (.bnew (.s 0))⟩,
   ⟨(some 3), some (.junk), none, false, .pu (.bnew (.s 1))⟩,
   ⟨(some 4), some (.junk), none, false, .pu (.bnew (.c (.agg [.int .i64 0, .int .i64 0])))⟩])
 (.seq (.seq (.ops [⟨(some 5), some undefA, none, false, .pu (.bget none 2 0 2 true)⟩,
   ⟨(some 6), some undefA, none, false, .pu (.bget none 3 0 2 true)⟩,
   ⟨(some 7), some undefA, none, false, .call 72 [(.s 5), (.s 6)]⟩,
   ⟨(some 8), some undefA, none, false, .pu (.bin .lss (.s 7) (.c (.int .i64 0)))⟩])
 (.cond (.s 8) (.seq (.ops [⟨(some 9), some undefA, none, false, .pu (.bget none 2 0 2 true)⟩,
    ⟨(some 4), none, none, false, .pu (.bset none 4 0 2 (.s 9))⟩])
  (.ret))
 (.skip)))
 (.seq (.ops [⟨(some 10), some undefA, none, false, .pu (.bget none 3 0 2 true)⟩,
   ⟨(some 4), none, none, false, .pu (.bset none 4 0 2 (.s 10))⟩])
 (.ret)))⟩
theorem t108 : trF Try.prog [2, 3, 4] [] Try.f108 = some m108 := by kernel_rfl
/-- selion/frac.Add [] -/
def m109 : MFun := ⟨34, [2, 3, 4], [.bget none 4 0 2 true],
 .seq (.ops [⟨(some 2), some (.junk), none, false, .pu (.bnew (.s 0))⟩,
   ⟨(some 3), some (.junk), none, false, .pu (.bnew (.s 1))⟩,
   ⟨(some 4), some (.junk), none, false, .pu (.bnew (.c (.agg [.int .i64 0, .int .i64 0])))⟩])
 (.seq (.ops [⟨(some 6), some undefA, none, false, .pu (.badr none 2)⟩,
   ⟨(some 7), some undefA, none, false, .pu (.bget (some 6) 2 1 1 false)⟩,
   ⟨(some 8), some undefA, none, false, .pu (.badr none 3)⟩,
   ⟨(some 9), some undefA, none, false, .pu (.bget (some 8) 3 1 1 false)⟩,
   ⟨(some 10), some undefA, none, false, .call 101 [(.s 7), (.s 9)]⟩,
   ⟨(some 5), some undefA, none, false, .pu (.mov (.s 10))⟩])
 (.seq (.ops [⟨(some 11), some undefA, none, false, .pu (.badr none 2)⟩,
   ⟨(some 12), some undefA, none, false, .pu (.bget (some 11) 2 0 1 false)⟩,
   ⟨(some 13), some undefA, none, false, .pu (.badr none 3)⟩,
   ⟨(some 14), some undefA, none, false, .pu (.bget (some 13) 3 1 1 false)⟩,
   ⟨(some 15), some undefA, none, false, .pu (.mov (.s 5))⟩,
   ⟨(some 16), some undefA, none, false, .pu (.bin .quo (.s 14) (.s 15))⟩,
   ⟨(some 17), some undefA, none, false, .pu (.bin .mul (.s 12) (.s 16))⟩,
   ⟨(some 18), some undefA, none, false, .pu (.badr none 3)⟩,
   ⟨(some 19), some undefA, none, false, .pu (.bget (some 18) 3 0 1 false)⟩,
   ⟨(some 20), some undefA, none, false, .pu (.badr none 2)⟩,
   ⟨(some 21), some undefA, none, false, .pu (.bget (some 20) 2 1 1 false)⟩,
   ⟨(some 22), some undefA, none, false, .pu (.mov (.s 5))⟩,
   ⟨(some 23), some undefA, none, false, .pu (.bin .quo (.s 21) (.s 22))⟩,
   ⟨(some 24), some undefA, none, false, .pu (.bin .mul (.s 19) (.s 23))⟩,
   ⟨(some 25), some undefA, none, false, .pu (.bin .add (.s 17) (.s 24))⟩,
   ⟨(some 26), some undefA, none, false, .pu (.badr none 2)⟩,
   ⟨(some 27), some undefA, none, false, .pu (.bget (some 26) 2 1 1 false)⟩,
   ⟨(some 28), some undefA, none, false, .pu (.mov (.s 5))⟩,
   ⟨(some 29), some undefA, none, false, .pu (.bin .quo (.s 27) (.s 28))⟩,
   ⟨(some 30), some undefA, none, false, .pu (.badr none 3)⟩,
   ⟨(some 31), some undefA, none, false, .pu (.bget (some 30) 3 1 1 false)⟩,
   ⟨(some 32), some undefA, none, false, .pu (.bin .mul (.s 29) (.s 31))⟩,
   ⟨(some 33), some undefA, none, false, .call 64 [(.s 25), (.s 32)]⟩,
   ⟨(some 4), none, none, false, .pu (.bset none 4 0 2 (.s 33))⟩])
 (.ret)))⟩
theorem t109 : trF Try.prog [2, 3, 4] [] Try.f109 = some m109 := by kernel_rfl
/-- selion/frac.Mul [] -/
def m110 : MFun := ⟨18, [2, 4, 5], [.bget none 4 0 2 true],
 .seq (.ops [⟨(some 2), some (.junk), none, false, .pu (.bnew (.s 0))⟩,
   ⟨(some 4), some (.junk), none, false, .pu (.bnew (.c (.agg [.int .i64 0, .int .i64 0])))⟩])
 (.seq (.ops [⟨(some 6), some undefA, none, false, .pu (.mov (.s 1))⟩,
   ⟨(some 7), some undefA, none, false, .pu (.badr none 2)⟩,
   ⟨(some 8), some undefA, none, false, .pu (.bget (some 7) 2 1 1 false)⟩,
   ⟨(some 9), some undefA, none, false, .call 64 [(.s 6), (.s 8)]⟩,
   ⟨(some 5), some (.junk), none, false, .pu (.bnew (.c (.agg [.int .i64 0, .int .i64 0])))⟩,
   ⟨(some 5), none, none, false, .pu (.bset none 5 0 2 (.s 9))⟩])
 (.seq (.ops [⟨(some 10), some undefA, none, false, .pu (.badr none 2)⟩,
   ⟨(some 11), some undefA, none, false, .pu (.bget (some 10) 2 0 1 false)⟩,
   ⟨(some 12), some undefA, none, false, .pu (.badr none 5)⟩,
   ⟨(some 13), some undefA, none, false, .pu (.bget (some 12) 5 0 1 false)⟩,
   ⟨(some 14), some undefA, none, false, .pu (.bin .mul (.s 11) (.s 13))⟩,
   ⟨(some 15), some undefA, none, false, .pu (.badr none 5)⟩,
   ⟨(some 16), some undefA, none, false, .pu (.bget (some 15) 5 1 1 false)⟩,
   ⟨(some 17), some undefA, none, false, .call 64 [(.s 14), (.s 16)]⟩,
   ⟨(some 4), none, none, false, .pu (.bset none 4 0 2 (.s 17))⟩])
 (.ret)))⟩
theorem t110 : trF Try.prog [2, 4, 5] [] Try.f110 = some m110 := by kernel_rfl
/-- (selion/soil.zone).length [] -/
def m111 : MFun := ⟨5, [1], [.mov (.s 2)],
 .seq (.ops [⟨(some 1), some (.junk), none, false, .pu (.bnew (.s 0))⟩,
   ⟨(some 2), some undefA, none, false, .pu (.mov (.c (.int .i64 0)))⟩])
 (.seq (.ops [⟨(some 3), some undefA, none, false, .pu (.badr none 1)⟩,
   ⟨(some 4), some undefA, none, false, .pu (.bget (some 3) 1 0 1 false)⟩,
   ⟨(some 2), some undefA, none, false, .pu (.mov (.s 4))⟩])
 (.ret))⟩
theorem t111 : trF Try.prog [1] [] Try.f111 = some m111 := by kernel_rfl
/-- selion/frac.Div [] -/
def m112 : MFun := ⟨18, [2, 4, 5], [.bget none 4 0 2 true],
 .seq (.ops [⟨(some 2), some (.junk), none, false, .pu (.bnew (.s 0))⟩,
   ⟨(some 4), some (.junk), none, false, .pu (.bnew (.c (.agg [.int .i64 0, .int .i64 0])))⟩])
 (.seq (.ops [⟨(some 6), some undefA, none, false, .pu (.badr none 2)⟩,
   ⟨(some 7), some undefA, none, false, .pu (.bget (some 6) 2 0 1 false)⟩,
   ⟨(some 8), some undefA, none, false, .pu (.mov (.s 1))⟩,
   ⟨(some 9), some undefA, none, false, .call 64 [(.s 7), (.s 8)]⟩,
   ⟨(some 5), some (.junk), none, false, .pu (.bnew (.c (.agg [.int .i64 0, .int .i64 0])))⟩,
   ⟨(some 5), none, none, false, .pu (.bset none 5 0 2 (.s 9))⟩])
 (.seq (.ops [⟨(some 10), some undefA, none, false, .pu (.badr none 5)⟩,
   ⟨(some 11), some undefA, none, false, .pu (.bget (some 10) 5 0 1 false)⟩,
   ⟨(some 12), some undefA, none, false, .pu (.badr none 5)⟩,
   ⟨(some 13), some undefA, none, false, .pu (.bget (some 12) 5 1 1 false)⟩,
   ⟨(some 14), some undefA, none, false, .pu (.badr none 2)⟩,
   ⟨(some 15), some undefA, none, false, .pu (.bget (some 14) 2 1 1 false)⟩,
   ⟨(some 16), some undefA, none, false, .pu (.bin .mul (.s 13) (.s 15))⟩,
   ⟨(some 17), some undefA, none, false, .call 64 [(.s 11), (.s 16)]⟩,
   ⟨(some 4), none, none, false, .pu (.bset none 4 0 2 (.s 17))⟩])
 (.ret)))⟩
theorem t112 : trF Try.prog [2, 4, 5] [] Try.f112 = some m112 := by kernel_rfl
/-- cmp.Or[selion/api.Errno] [loop [3, 6, 7, 8]] -/
def m113 : MFun := ⟨18, [], [.mov (.s 2)],
 .seq (.ops [⟨(some 2), some undefA, none, false, .pu (.mov (.c (.int .i64 0)))⟩])
 (.seq (.ops [⟨(some 3), some undefA, none, false, .pu (.mov (.c (.int .i64 0)))⟩])
 (.seq (.seq (.ops [⟨(some 6), some undefA, none, false, .pu (.mov (.s 0))⟩,
   ⟨(some 7), some undefA, none, false, .pu (.len (.s 6))⟩,
   ⟨(some 8), some undefA, none, false, .pu (.mov (.c (.int .i64 0)))⟩])
 (.block 0 (.loop (.seq (.ops [⟨(some 9), some undefA, none, false, .pu (.bin .lss (.s 8) (.s 7))⟩])
   (.seq (.cond (.s 9) (.skip)
   (.exit 0))
   (.seq (.block 1 (.seq (.ops [⟨(some 10), some undefA, none, false, .pu (.idx 1 (.s 6) (.s 8))⟩,
      ⟨(some 11), some undefA, none, false, .ld (.ld 1 false (.s 10))⟩,
      ⟨(some 5), some undefA, none, false, .pu (.mov (.s 11))⟩])
    (.seq (.ops [⟨(some 12), some undefA, none, false, .pu (.mov (.s 5))⟩,
      ⟨(some 13), some undefA, none, false, .pu (.mov (.s 3))⟩,
      ⟨(some 14), some undefA, none, false, .pu (.bin .neq (.s 12) (.s 13))⟩])
    (.cond (.s 14) (.seq (.ops [⟨(some 15), some undefA, none, false, .pu (.mov (.s 5))⟩,
       ⟨(some 2), some undefA, none, false, .pu (.mov (.s 15))⟩])
     (.ret))
    (.skip)))))
   (.ops [⟨(some 16), some undefA, none, false, .pu (.bin .add (.s 8) (.c (.int .i64 1)))⟩,
     ⟨(some 8), some undefA, none, false, .pu (.mov (.s 16))⟩])))))))
 (.seq (.ops [⟨(some 17), some undefA, none, false, .pu (.mov (.s 3))⟩,
   ⟨(some 2), some undefA, none, false, .pu (.mov (.s 17))⟩])
 (.ret))))⟩
theorem t113 : trF Try.prog [] [] Try.f113 = some m113 := by kernel_rfl
/-- math/bits.Mul32 [] -/
def m118 : MFun := ⟨17, [], [.mov (.s 4), .mov (.s 5)],
 .seq (.ops [⟨(some 4), some undefA, none, false, .pu (.mov (.c (.int .u32 0)))⟩,
   ⟨(some 5), some undefA, none, false, .pu (.mov (.c (.int .u32 0)))⟩])
 (.seq (.ops [⟨(some 7), some undefA, none, false, .pu (.mov (.s 0))⟩,
   ⟨(some 8), some undefA, none, false, .pu (.conv .u64 (.s 7))⟩,
   ⟨(some 9), some undefA, none, false, .pu (.mov (.s 1))⟩,
   ⟨(some 10), some undefA, none, false, .pu (.conv .u64 (.s 9))⟩,
   ⟨(some 11), some undefA, none, false, .pu (.bin .mul (.s 8) (.s 10))⟩,
   ⟨(some 6), some undefA, none, false, .pu (.mov (.s 11))⟩])
 (.seq (.ops [⟨(some 12), some undefA, none, false, .pu (.mov (.s 6))⟩,
   ⟨(some 13), some undefA, none, false, .pu (.bin .shr (.s 12) (.c (.int .u64 32)))⟩,
   ⟨(some 14), some undefA, none, false, .pu (.conv .u32 (.s 13))⟩,
   ⟨(some 15), some undefA, none, false, .pu (.mov (.s 6))⟩,
   ⟨(some 16), some undefA, none, false, .pu (.conv .u32 (.s 15))⟩,
   ⟨(some 4), some undefA, none, false, .pu (.mov (.s 14))⟩,
   ⟨(some 5), some undefA, none, false, .pu (.mov (.s 16))⟩])
 (.ret)))⟩
theorem t118 : trF Try.prog [] [] Try.f118 = some m118 := by kernel_rfl
/-- math/bits.Mul64 [] -/
def m119 : MFun := ⟨51, [], [.mov (.s 4), .mov (.s 5)],
 .seq (.ops [⟨(some 4), some undefA, none, false, .pu (.mov (.c (.int .u64 0)))⟩,
   ⟨(some 5), some undefA, none, false, .pu (.mov (.c (.int .u64 0)))⟩])
 (.seq (.ops [⟨(some 14), some undefA, none, false, .pu (.mov (.s 0))⟩,
   ⟨(some 15), some undefA, none, false, .pu (.bin .and (.s 14) (.c (.int .u64 4294967295)))⟩,
   ⟨(some 6), some undefA, none, false, .pu (.mov (.s 15))⟩])
 (.seq (.ops [⟨(some 16), some undefA, none, false, .pu (.mov (.s 0))⟩,
   ⟨(some 17), some undefA, none, false, .pu (.bin .shr (.s 16) (.c (.int .u64 32)))⟩,
   ⟨(some 7), some undefA, none, false, .pu (.mov (.s 17))⟩])
 (.seq (.ops [⟨(some 18), some undefA, none, false, .pu (.mov (.s 1))⟩,
   ⟨(some 19), some undefA, none, false, .pu (.bin .and (.s 18) (.c (.int .u64 4294967295)))⟩,
   ⟨(some 8), some undefA, none, false, .pu (.mov (.s 19))⟩])
 (.seq (.ops [⟨(some 20), some undefA, none, false, .pu (.mov (.s 1))⟩,
   ⟨(some 21), some undefA, none, false, .pu (.bin .shr (.s 20) (.c (.int .u64 32)))⟩,
   ⟨(some 9), some undefA, none, false, .pu (.mov (.s 21))⟩])
 (.seq (.ops [⟨(some 22), some undefA, none, false, .pu (.mov (.s 6))⟩,
   ⟨(some 23), some undefA, none, false, .pu (.mov (.s 8))⟩,
   ⟨(some 24), some undefA, none, false, .pu (.bin .mul (.s 22) (.s 23))⟩,
   ⟨(some 10), some undefA, none, false, .pu (.mov (.s 24))⟩])
 (.seq (.ops [⟨(some 25), some undefA, none, false, .pu (.mov (.s 7))⟩,
   ⟨(some 26), some undefA, none, false, .pu (.mov (.s 8))⟩,
   ⟨(some 27), some undefA, none, false, .pu (.bin .mul (.s 25) (.s 26))⟩,
   ⟨(some 28), some undefA, none, false, .pu (.mov (.s 10))⟩,
   ⟨(some 29), some undefA, none, false, .pu (.bin .shr (.s 28) (.c (.int .u64 32)))⟩,
   ⟨(some 30), some undefA, none, false, .pu (.bin .add (.s 27) (.s 29))⟩,
   ⟨(some 11), some undefA, none, false, .pu (.mov (.s 30))⟩])
 (.seq (.ops [⟨(some 31), some undefA, none, false, .pu (.mov (.s 11))⟩,
   ⟨(some 32), some undefA, none, false, .pu (.bin .and (.s 31) (.c (.int .u64 4294967295)))⟩,
   ⟨(some 12), some undefA, none, false, .pu (.mov (.s 32))⟩])
 (.seq (.ops [⟨(some 33), some undefA, none, false, .pu (.mov (.s 11))⟩,
   ⟨(some 34), some undefA, none, false, .pu (.bin .shr (.s 33) (.c (.int .u64 32)))⟩,
   ⟨(some 13), some undefA, none, false, .pu (.mov (.s 34))⟩])
 (.seq (.ops [⟨(some 35), some undefA, none, false, .pu (.mov (.s 12))⟩,
   ⟨(some 36), some undefA, none, false, .pu (.mov (.s 6))⟩,
   ⟨(some 37), some undefA, none, false, .pu (.mov (.s 9))⟩,
   ⟨(some 38), some undefA, none, false, .pu (.bin .mul (.s 36) (.s 37))⟩,
   ⟨(some 39), some undefA, none, false, .pu (.bin .add (.s 35) (.s 38))⟩,
   ⟨(some 12), some undefA, none, false, .pu (.mov (.s 39))⟩])
 (.seq (.ops [⟨(some 40), some undefA, none, false, .pu (.mov (.s 7))⟩,
   ⟨(some 41), some undefA, none, false, .pu (.mov (.s 9))⟩,
   ⟨(some 42), some undefA, none, false, .pu (.bin .mul (.s 40) (.s 41))⟩,
   ⟨(some 43), some undefA, none, false, .pu (.mov (.s 13))⟩,
   ⟨(some 44), some undefA, none, false, .pu (.bin .add (.s 42) (.s 43))⟩,
   ⟨(some 45), some undefA, none, false, .pu (.mov (.s 12))⟩,
   ⟨(some 46), some undefA, none, false, .pu (.bin .shr (.s 45) (.c (.int .u64 32)))⟩,
   ⟨(some 47), some undefA, none, false, .pu (.bin .add (.s 44) (.s 46))⟩,
   ⟨(some 4), some undefA, none, false, .pu (.mov (.s 47))⟩])
 (.seq (.ops [⟨(some 48), some undefA, none, false, .pu (.mov (.s 0))⟩,
   ⟨(some 49), some undefA, none, false, .pu (.mov (.s 1))⟩,
   ⟨(some 50), some undefA, none, false, .pu (.bin .mul (.s 48) (.s 49))⟩,
   ⟨(some 5), some undefA, none, false, .pu (.mov (.s 50))⟩])
 (.ret))))))))))))⟩
theorem t119 : trF Try.prog [] [] Try.f119 = some m119 := by kernel_rfl
end Go.Proofs.Ytnnbggcckabhdaa

namespace Go.Proofs.Ytnnbggcckabhdaa
open Go Go.Eng
theorem hmix : Try.prog.follows .mixedOrders = true := by kernel_rfl
def tab : List (Nat × MFun) := [(19, m19), (20, m20), (22, m22), (28, m28), (37, m37), (61, m61), (62, m62), (63, m63), (64, m64), (65, m65), (73, m73), (78, m78), (80, m80), (101, m101), (102, m102), (103, m103), (106, m106), (107, m107), (108, m108), (109, m109), (110, m110), (112, m112), (72, m72), (77, m77), (100, m100), (111, m111), (118, m118), (119, m119)]
theorem tabOK : TabOK Try.prog tab :=
  .cons Try.func19 (by kernel_rfl) t19 <| .cons Try.func20 (by kernel_rfl) t20 <| .cons Try.func22 (by kernel_rfl) t22 <| .cons Try.func28 (by kernel_rfl) t28 <| .cons Try.func37 (by kernel_rfl) t37 <| .cons Try.func61 (by kernel_rfl) t61 <| .cons Try.func62 (by kernel_rfl) t62 <| .cons Try.func63 (by kernel_rfl) t63 <| .cons Try.func64 (by kernel_rfl) t64 <| .cons Try.func65 (by kernel_rfl) t65 <| .cons Try.func73 (by kernel_rfl) t73 <| .cons Try.func78 (by kernel_rfl) t78 <| .cons Try.func80 (by kernel_rfl) t80 <| .cons Try.func101 (by kernel_rfl) t101 <| .cons Try.func102 (by kernel_rfl) t102 <| .cons Try.func103 (by kernel_rfl) t103 <| .cons Try.func106 (by kernel_rfl) t106 <| .cons Try.func107 (by kernel_rfl) t107 <| .cons Try.func108 (by kernel_rfl) t108 <| .cons Try.func109 (by kernel_rfl) t109 <| .cons Try.func110 (by kernel_rfl) t110 <| .cons Try.func112 (by kernel_rfl) t112 <| .cons Try.func72 (by kernel_rfl) t72 <| .cons Try.func77 (by kernel_rfl) t77 <| .cons Try.func100 (by kernel_rfl) t100 <| .cons Try.func111 (by kernel_rfl) t111 <| .cons Try.func118 (by kernel_rfl) t118 <| .cons Try.func119 (by kernel_rfl) t119 <|  .nil
def isTrue : Option (AV × AHeap) → Bool
  | some (.bool true, _) => true
  | _ => false
set_option maxRecDepth 100000 in
theorem known_run : isTrue (runF tab 300 12 19 [] []) = true := by kernel_rfl
theorem known (A : AHeap) : ACalls Try.prog 19 [] A (B true) A := by
  cases h : runF tab 300 12 19 [] [] with
  | none => have := known_run; rw [h] at this; cases this
  | some p =>
    obtain ⟨v, A'⟩ := p
    have h1 := known_run
    rw [h] at h1
    have h2 : v = B true := by
      unfold isTrue at h1
      split at h1
      · rename_i e; cases e; rfl
      · cases h1
    subst h2
    exact (runF_ok hmix tabOK 300 12 19 [] [] _ _ h).lift (by simp) rfl A
end Go.Proofs.Ytnnbggcckabhdaa

namespace Go.Proofs.Ytnnbggcckabhdaa
open Go Go.Eng
theorem s61 (n lo hi : Int) (A : AHeap) : ACalls Try.prog 61 [I n, I lo, I hi] A (B (decide (lo ≤ n ∧ n ≤ hi))) A := by
  refine acalls hmix Try.func61 (by kernel_rfl) t61 3 rfl (by decide) ?_
  by_cases h : lo ≤ n
  · dsimp only [m61]
    simp -implicitDefEqProofs -dsimp (disch := omega) only [↓AW_ops, ↓AW_seq, ↓AW_ret, ↓AOps_nil, ↓AOps_pu, ↓AOps_guard, on_some, guardB_tt, ↓then_normal, ↓Fin_ret, pval, rd_S, rd_C, put_S, resV, resL, List.replicate_succ, List.replicate_zero, List.set_cons_zero, List.set_cons_succ, List.getElem?_cons_zero, List.getElem?_cons_succ, Option.getD_some, Nat.reduceSub, List.cons_append, List.nil_append, bin_leq, bin_geq, if_true, decide_true, true_and, h]
    exact gc_same rfl
  · dsimp only [m61]
    simp -implicitDefEqProofs -dsimp (disch := omega) only [↓AW_ops, ↓AW_seq, ↓AW_ret, ↓AOps_nil, ↓AOps_pu, ↓AOps_guard, on_some, guardB_ft, skipS_some, ↓then_normal, ↓Fin_ret, pval, rd_S, rd_C, put_S, resV, resL, List.replicate_succ, List.replicate_zero, List.set_cons_zero, List.set_cons_succ, List.getElem?_cons_zero, List.getElem?_cons_succ, Option.getD_some, Nat.reduceSub, List.cons_append, List.nil_append, bin_geq, if_false, Bool.false_eq_true, decide_false, h]
    exact gc_same rfl
theorem s66 (n lo hi : Int) (A : AHeap) : ACalls Try.prog 66 [I n, I lo, I hi] A (B (decide (lo ≤ n ∧ n ≤ hi))) A := by
  refine acalls hmix Try.func66 (by kernel_rfl) t66 3 rfl (by decide) ?_
  by_cases h : lo ≤ n
  · dsimp only [m66]
    simp -implicitDefEqProofs -dsimp (disch := omega) only [↓AW_ops, ↓AW_seq, ↓AW_ret, ↓AOps_nil, ↓AOps_pu, ↓AOps_guard, on_some, guardB_tt, ↓then_normal, ↓Fin_ret, pval, rd_S, rd_C, put_S, resV, resL, List.replicate_succ, List.replicate_zero, List.set_cons_zero, List.set_cons_succ, List.getElem?_cons_zero, List.getElem?_cons_succ, Option.getD_some, Nat.reduceSub, List.cons_append, List.nil_append, bin_leq, bin_geq, if_true, decide_true, true_and, h]
    exact gc_same rfl
  · dsimp only [m66]
    simp -implicitDefEqProofs -dsimp (disch := omega) only [↓AW_ops, ↓AW_seq, ↓AW_ret, ↓AOps_nil, ↓AOps_pu, ↓AOps_guard, on_some, guardB_ft, skipS_some, ↓then_normal, ↓Fin_ret, pval, rd_S, rd_C, put_S, resV, resL, List.replicate_succ, List.replicate_zero, List.set_cons_zero, List.set_cons_succ, List.getElem?_cons_zero, List.getElem?_cons_succ, Option.getD_some, Nat.reduceSub, List.cons_append, List.nil_append, bin_geq, if_false, Bool.false_eq_true, decide_false, h]
    exact gc_same rfl
def vz (z : Int × Int) : Bool := decide (1 ≤ z.1 ∧ z.1 ≤ 20) && decide (0 ≤ z.2 ∧ z.2 ≤ 20)
def vE (f : List (Int × Int)) : Int := if ¬ (1 ≤ f.length ∧ f.length ≤ 6) then 3 else if f.all vz then 0 else 1
theorem take_all {α : Type} {p : α → Bool} {f : List α} {i : Nat} {z : α} (hz : f[i]? = some z) : (f.take (i + 1)).all p = ((f.take i).all p && p z) := by
  rw [List.take_add_one, hz]
  simp
theorem all_get {α : Type} {p : α → Bool} {f : List α} (h : f.all p = true) {i : Nat} {z : α} (hz : f[i]? = some z) : p z = true := List.all_eq_true.1 h z (List.mem_of_getElem? hz)
theorem vE_small {f : List (Int × Int)} (h : ¬ ((1 : Int) ≤ f.length ∧ (f.length : Int) ≤ 6)) : vE f = 3 := by
  unfold vE; rw [if_pos]; omega
theorem vE_bad {f : List (Int × Int)} (h : (1 : Int) ≤ f.length ∧ (f.length : Int) ≤ 6) {i : Nat} {z : Int × Int} (hz : f[i]? = some z) (hb : vz z = false) : vE f = 1 := by
  unfold vE
  rw [if_neg (by omega), if_neg]
  intro ha
  rw [all_get ha hz] at hb; cases hb
theorem vE_good {f : List (Int × Int)} (h : (1 : Int) ≤ f.length ∧ (f.length : Int) ≤ 6) (ha : f.all vz = true) : vE f = 0 := by
  unfold vE
  rw [if_neg (by omega), if_pos ha]
theorem s37 {f : List (Int × Int)} {v : AV} {A : AHeap} (hf : L2 A v f) : ACalls Try.prog 37 [v] A (I (vE f)) A := by
  refine acalls hmix Try.func37 (by kernel_rfl) t37 1 rfl (by decide) ?_
  dsimp only [m37]
  simp -implicitDefEqProofs -dsimp (disch := omega) only [↓AW_ops, ↓AW_seq, ↓AOps_nil, ↓AOps_pu, ↓AOps_call, on_some, ↓then_normal, pval, rd_S, rd_C, put_S, List.replicate_succ, List.replicate_zero, List.set_cons_zero, List.set_cons_succ, List.getElem?_cons_zero, List.getElem?_cons_succ, Option.getD_some, map_c, map_n, Nat.reduceSub, List.cons_append, List.nil_append, hf.len]
  refine CallK.of (s61 _ _ _ _) ?_
  by_cases h : (1 : Int) ≤ f.length ∧ (f.length : Int) ≤ 6
  · simp -implicitDefEqProofs -dsimp (disch := omega) only [↓AW_skip, ↓AW_ops, ↓AW_seq, ↓AW_cond, ↓AW_block, ↓AOps_nil, ↓AOps_pu, on_some, extK_same, condB_f, ↓then_normal, pval, rd_S, rd_C, put_S, ↓AW_toLoop, List.replicate_succ, List.replicate_zero, List.set_cons_zero, List.set_cons_succ, List.getElem?_cons_zero, List.getElem?_cons_succ, Option.getD_some, Nat.reduceSub, List.cons_append, List.nil_append, Bool.not_true, decide_true, and_true, h, hf.len]
    refine LoopK.by 26 (fun i : Nat => i ≤ f.length ∧ (f.take i).all vz = true) (fun i => [(9, v), (10, I f.length), (11, I i)]) (fun _ => A) (fun i => f.length - i) 0 ⟨by omega, rfl⟩ rfl (by simp [Has, rd_s]) rfl ?_
    rintro i ⟨hi, hall⟩
    by_cases hlt : i < f.length
    · obtain ⟨z, hz⟩ : ∃ z, f[i]? = some z := ⟨_, List.getElem?_eq_getElem hlt⟩
      have hlt' : (i : Int) < f.length := by omega
      simp -implicitDefEqProofs -dsimp (disch := omega) only [↓AW_skip, ↓AW_ops, ↓AW_seq, ↓AW_cond, ↓AW_block, ↓AOps_nil, ↓AOps_pu, ↓AOps_ld, ↓AOps_call, on_some, condB_t, ↓then_normal, pval, lval, rd_S, rd_C, put_S, chkd, isAdr, bput, bgot, AV.cells?, splice, partA, mk, List.foldl_cons, List.foldl_nil, List.replicate_succ, List.replicate_zero, List.set_cons_zero, List.set_cons_succ, List.getElem?_cons_zero, List.getElem?_cons_succ, List.drop_zero, List.drop_succ_cons, List.drop_nil, List.take_zero, List.take_succ_cons, List.take_nil, Option.getD_some, map_c, map_n, List.length_cons, List.length_nil, Nat.reduceAdd, Nat.reduceLeDiff, Nat.reduceEqDiff, Nat.zero_add, List.nil_append, List.append_nil, bin_lss, if_true, if_false, Bool.false_eq_true, decide_true, e2, ne_eq, not_true_eq_false, hlt', hf.idx hlt, hf.ld0 hz 2 true (by decide)]
      refine CallK.of (s61 _ _ _ _) ?_
      by_cases h1 : (1 : Int) ≤ z.1 ∧ z.1 ≤ 20
      · simp -implicitDefEqProofs -dsimp (disch := omega) only [↓AOps_pu, ↓AOps_call, ↓AOps_guard, on_some, extK_same, guardB_ff, pval, rd_S, rd_C, put_S, chkd, isAdr, bgot, AV.cells?, partA, mk, List.foldl_cons, List.foldl_nil, List.replicate_succ, List.replicate_zero, List.set_cons_zero, List.set_cons_succ, List.getElem?_cons_zero, List.getElem?_cons_succ, List.drop_zero, List.drop_succ_cons, List.take_succ_cons, List.take_nil, Option.getD_some, map_c, map_n, List.length_cons, List.length_nil, Nat.reduceAdd, Nat.reduceLeDiff, Nat.zero_add, if_true, if_false, Bool.false_eq_true, Bool.not_true, decide_true, and_true, h1]
        refine CallK.of (s61 _ _ _ _) ?_
        by_cases h2 : (0 : Int) ≤ z.2 ∧ z.2 ≤ 20
        · simp -implicitDefEqProofs -dsimp (disch := omega) only [↓AW_skip, ↓AW_ops, ↓AW_cond, ↓AOps_nil, ↓AOps_pu, ↓AOps_guard, on_some, extK_same, guardB_ff, condB_f, ↓then_normal, ↓inBlock_normal, pval, rd_S, rd_C, put_S, mk, List.foldl_cons, List.foldl_nil, List.replicate_succ, List.replicate_zero, List.set_cons_zero, List.set_cons_succ, List.getElem?_cons_zero, List.getElem?_cons_succ, Option.getD_some, List.length_cons, List.length_nil, Nat.reduceAdd, Nat.zero_add, bin_add, w64, if_false, Bool.false_eq_true, Bool.not_true, decide_true, true_and, and_true, h2]
          refine ⟨i + 1, ⟨hlt, ?_⟩, by simp [Has, rd_s], by omega⟩
          rw [take_all hz, hall]
          simp [vz, h1, h2]
        · simp -implicitDefEqProofs -dsimp (disch := omega) only [↓AW_ops, ↓AW_seq, ↓AW_cond, ↓AW_ret, ↓AOps_nil, ↓AOps_pu, ↓AOps_guard, on_some, extK_same, guardB_ff, condB_t, ↓then_normal, ↓then_ret, ↓inBlock_ret, ↓Fin_ret, pval, rd_S, rd_C, put_S, resV, resL, mk, List.foldl_cons, List.foldl_nil, List.replicate_succ, List.replicate_zero, List.set_cons_zero, List.set_cons_succ, List.getElem?_cons_zero, List.getElem?_cons_succ, Option.getD_some, if_false, Bool.false_eq_true, Bool.not_false, decide_false, h2]
          exact gc_same (by rw [vE_bad h hz (by simp [vz]; omega)])
      · simp -implicitDefEqProofs -dsimp (disch := omega) only [↓AW_ops, ↓AW_seq, ↓AW_cond, ↓AW_ret, ↓AOps_nil, ↓AOps_pu, ↓AOps_guard, on_some, extK_same, guardB_tf, skipS_some, condB_t, ↓then_normal, ↓then_ret, ↓inBlock_ret, ↓Fin_ret, pval, rd_S, rd_C, put_S, resV, resL, mk, List.foldl_cons, List.foldl_nil, List.replicate_succ, List.replicate_zero, List.set_cons_zero, List.set_cons_succ, List.getElem?_cons_zero, List.getElem?_cons_succ, Option.getD_some, if_true, Bool.not_false, decide_false, h1]
        exact gc_same (by rw [vE_bad h hz (by simp [vz]; omega)])
    · have hlt' : ¬ ((i : Int) < f.length) := by omega
      simp -implicitDefEqProofs -dsimp (disch := omega) only [↓AW_ops, ↓AW_seq, ↓AW_cond, ↓AW_exit, ↓AW_ret, ↓AOps_nil, ↓AOps_pu, on_some, condB_f, ↓then_normal, ↓then_exit, ↓inBlock_exit, ↓Fin_ret, pval, rd_S, rd_C, put_S, resV, resL, mk, List.foldl_cons, List.foldl_nil, List.replicate_succ, List.replicate_zero, List.set_cons_zero, List.set_cons_succ, List.getElem?_cons_zero, List.getElem?_cons_succ, Option.getD_some, bin_lss, if_true, decide_false, hlt']
      have ha : f.all vz = true := by rw [← hall, List.take_of_length_le (by omega)]
      exact gc_same (by rw [vE_good h ha])
  · simp -implicitDefEqProofs -dsimp (disch := omega) only [↓AW_ops, ↓AW_seq, ↓AW_cond, ↓AW_ret, ↓AOps_nil, ↓AOps_pu, on_some, extK_same, condB_t, ↓then_normal, ↓then_ret, ↓Fin_ret, pval, rd_S, rd_C, put_S, resV, resL, List.replicate_succ, List.replicate_zero, List.set_cons_zero, List.set_cons_succ, List.getElem?_cons_zero, List.getElem?_cons_succ, Option.getD_some, Nat.reduceSub, List.cons_append, List.nil_append, Bool.not_false, decide_false, h]
    exact gc_same (by rw [vE_small h])
theorem s38 {f : List (Int × Int)} {v : AV} {A : AHeap} (hf : L2 A v f) : ACalls Try.prog 38 [v] A (I (vE f)) A := by
  refine acalls hmix Try.func38 (by kernel_rfl) t38 1 rfl (by decide) ?_
  dsimp only [m38]
  simp -implicitDefEqProofs -dsimp (disch := omega) only [↓AW_ops, ↓AW_seq, ↓AOps_nil, ↓AOps_pu, ↓AOps_call, on_some, ↓then_normal, pval, rd_S, rd_C, put_S, List.replicate_succ, List.replicate_zero, List.set_cons_zero, List.set_cons_succ, List.getElem?_cons_zero, List.getElem?_cons_succ, Option.getD_some, map_c, map_n, Nat.reduceSub, List.cons_append, List.nil_append, hf.len]
  refine CallK.of (s66 _ _ _ _) ?_
  by_cases h : (1 : Int) ≤ f.length ∧ (f.length : Int) ≤ 6
  · simp -implicitDefEqProofs -dsimp (disch := omega) only [↓AW_skip, ↓AW_ops, ↓AW_seq, ↓AW_cond, ↓AW_block, ↓AOps_nil, ↓AOps_pu, on_some, extK_same, condB_f, ↓then_normal, pval, rd_S, rd_C, put_S, ↓AW_toLoop, List.replicate_succ, List.replicate_zero, List.set_cons_zero, List.set_cons_succ, List.getElem?_cons_zero, List.getElem?_cons_succ, Option.getD_some, Nat.reduceSub, List.cons_append, List.nil_append, Bool.not_true, decide_true, and_true, h]
    refine LoopK.by 30 (fun i : Nat => i ≤ f.length ∧ (f.take i).all vz = true) (fun i => [(0, v), (3, I i)]) (fun _ => A) (fun i => f.length - i) 0 ⟨by omega, rfl⟩ rfl (by simp [Has, rd_s]) rfl ?_
    rintro i ⟨hi, hall⟩
    by_cases hlt : i < f.length
    · obtain ⟨z, hz⟩ : ∃ z, f[i]? = some z := ⟨_, List.getElem?_eq_getElem hlt⟩
      have hlt' : (i : Int) < f.length := by omega
      simp -implicitDefEqProofs -dsimp (disch := omega) only [↓AW_skip, ↓AW_ops, ↓AW_seq, ↓AW_cond, ↓AW_block, ↓AOps_nil, ↓AOps_pu, ↓AOps_ld, ↓AOps_call, on_some, condB_t, ↓then_normal, pval, lval, rd_S, rd_C, put_S, partA, mk, List.foldl_cons, List.foldl_nil, List.replicate_succ, List.replicate_zero, List.set_cons_zero, List.set_cons_succ, List.getElem?_cons_zero, List.getElem?_cons_succ, List.drop_zero, List.take_zero, List.take_succ_cons, Option.getD_some, map_c, map_n, List.length_cons, List.length_nil, Nat.reduceAdd, Nat.reduceLeDiff, Nat.zero_add, Nat.add_zero, bin_lss, if_true, if_false, Bool.false_eq_true, decide_true, e2, hlt', hf.len, hf.idx hlt, hf.ld0 hz 1 false (by decide)]
      refine CallK.of (s66 _ _ _ _) ?_
      by_cases h1 : (1 : Int) ≤ z.1 ∧ z.1 ≤ 20
      · simp -implicitDefEqProofs -dsimp (disch := omega) only [↓AOps_pu, ↓AOps_ld, ↓AOps_call, ↓AOps_guard, on_some, extK_same, guardB_ff, pval, lval, rd_S, rd_C, put_S, partA, mk, List.foldl_cons, List.foldl_nil, List.replicate_succ, List.replicate_zero, List.set_cons_zero, List.set_cons_succ, List.getElem?_cons_zero, List.getElem?_cons_succ, List.drop_zero, List.drop_succ_cons, List.take_succ_cons, List.take_nil, Option.getD_some, map_c, map_n, List.length_cons, List.length_nil, Nat.reduceAdd, Nat.reduceLeDiff, Nat.zero_add, if_true, if_false, Bool.false_eq_true, Bool.not_true, decide_true, e2, and_true, h1, hf.idx hlt, hf.ld hz 1 1 false (by decide)]
        refine CallK.of (s66 _ _ _ _) ?_
        by_cases h2 : (0 : Int) ≤ z.2 ∧ z.2 ≤ 20
        · simp -implicitDefEqProofs -dsimp (disch := omega) only [↓AW_skip, ↓AW_ops, ↓AW_cond, ↓AOps_nil, ↓AOps_pu, ↓AOps_guard, on_some, extK_same, guardB_ff, condB_f, ↓then_normal, ↓inBlock_normal, pval, rd_S, rd_C, put_S, mk, List.foldl_cons, List.foldl_nil, List.replicate_succ, List.replicate_zero, List.set_cons_zero, List.set_cons_succ, List.getElem?_cons_zero, List.getElem?_cons_succ, Option.getD_some, List.length_cons, List.length_nil, Nat.reduceAdd, Nat.zero_add, bin_add, w64, if_false, Bool.false_eq_true, Bool.not_true, decide_true, true_and, and_true, h2]
          refine ⟨i + 1, ⟨hlt, ?_⟩, by simp [Has, rd_s], by omega⟩
          rw [take_all hz, hall]
          simp [vz, h1, h2]
        · simp -implicitDefEqProofs -dsimp (disch := omega) only [↓AW_ops, ↓AW_seq, ↓AW_cond, ↓AW_ret, ↓AOps_nil, ↓AOps_pu, ↓AOps_guard, on_some, extK_same, guardB_ff, condB_t, ↓then_normal, ↓then_ret, ↓inBlock_ret, ↓Fin_ret, pval, rd_S, rd_C, put_S, resV, resL, mk, List.foldl_cons, List.foldl_nil, List.replicate_succ, List.replicate_zero, List.set_cons_zero, List.set_cons_succ, List.getElem?_cons_zero, List.getElem?_cons_succ, Option.getD_some, if_false, Bool.false_eq_true, Bool.not_false, decide_false, h2]
          exact gc_same (by rw [vE_bad h hz (by simp [vz]; omega)])
      · simp -implicitDefEqProofs -dsimp (disch := omega) only [↓AW_ops, ↓AW_seq, ↓AW_cond, ↓AW_ret, ↓AOps_nil, ↓AOps_pu, ↓AOps_guard, on_some, extK_same, guardB_tf, skipS_some, condB_t, ↓then_normal, ↓then_ret, ↓inBlock_ret, ↓Fin_ret, pval, rd_S, rd_C, put_S, resV, resL, mk, List.foldl_cons, List.foldl_nil, List.replicate_succ, List.replicate_zero, List.set_cons_zero, List.set_cons_succ, List.getElem?_cons_zero, List.getElem?_cons_succ, Option.getD_some, if_true, Bool.not_false, decide_false, h1]
        exact gc_same (by rw [vE_bad h hz (by simp [vz]; omega)])
    · have hlt' : ¬ ((i : Int) < f.length) := by omega
      simp -implicitDefEqProofs -dsimp (disch := omega) only [↓AW_ops, ↓AW_seq, ↓AW_cond, ↓AW_exit, ↓AW_ret, ↓AOps_nil, ↓AOps_pu, on_some, condB_f, ↓then_normal, ↓then_exit, ↓inBlock_exit, ↓Fin_ret, pval, rd_S, rd_C, put_S, resV, resL, mk, List.foldl_cons, List.foldl_nil, List.replicate_succ, List.replicate_zero, List.set_cons_zero, List.set_cons_succ, List.getElem?_cons_zero, List.getElem?_cons_succ, Option.getD_some, bin_lss, if_true, decide_false, hlt', hf.len]
      have ha : f.all vz = true := by rw [← hall, List.take_of_length_le (by omega)]
      exact gc_same (by rw [vE_good h ha])
  · simp -implicitDefEqProofs -dsimp (disch := omega) only [↓AW_ops, ↓AW_seq, ↓AW_cond, ↓AW_ret, ↓AOps_nil, ↓AOps_pu, on_some, extK_same, condB_t, ↓then_normal, ↓then_ret, ↓Fin_ret, pval, rd_S, rd_C, put_S, resV, resL, List.replicate_succ, List.replicate_zero, List.set_cons_zero, List.set_cons_succ, List.getElem?_cons_zero, List.getElem?_cons_succ, Option.getD_some, Nat.reduceSub, List.cons_append, List.nil_append, Bool.not_false, decide_false, h]
    exact gc_same (by rw [vE_small h])
theorem s18 {f g : List (Int × Int)} {v u : AV} {A : AHeap} (hf : L2 A v f) (hg : L2 A u g) : ACalls Try.prog 18 [v, u] A (B (decide ((100 : Int) < f.length ∨ (100 : Int) < g.length))) A := by
  refine acalls hmix Try.func18 (by kernel_rfl) t18 2 rfl (by decide) ?_
  by_cases h : (100 : Int) < f.length
  · dsimp only [m18]
    simp -implicitDefEqProofs -dsimp (disch := omega) only [↓AW_ops, ↓AW_seq, ↓AW_ret, ↓AOps_nil, ↓AOps_pu, ↓AOps_guard, on_some, guardB_tf, skipS_some, ↓then_normal, ↓Fin_ret, pval, rd_S, rd_C, put_S, resV, resL, List.replicate_succ, List.replicate_zero, List.set_cons_zero, List.set_cons_succ, List.getElem?_cons_zero, List.getElem?_cons_succ, Option.getD_some, Nat.reduceSub, List.cons_append, List.nil_append, bin_gtr, if_true, decide_true, h, hf.len]
    exact gc_same (by simp [])
  · dsimp only [m18]
    simp -implicitDefEqProofs -dsimp (disch := omega) only [↓AW_ops, ↓AW_seq, ↓AW_ret, ↓AOps_nil, ↓AOps_pu, ↓AOps_guard, on_some, guardB_ff, ↓then_normal, ↓Fin_ret, pval, rd_S, rd_C, put_S, resV, resL, List.replicate_succ, List.replicate_zero, List.set_cons_zero, List.set_cons_succ, List.getElem?_cons_zero, List.getElem?_cons_succ, Option.getD_some, Nat.reduceSub, List.cons_append, List.nil_append, bin_gtr, if_false, Bool.false_eq_true, decide_false, h, hf.len, hg.len]
    exact gc_same (by simp [])
end Go.Proofs.Ytnnbggcckabhdaa

namespace Go.Proofs.Ytnnbggcckabhdaa
open Go Go.Eng
theorem gcd_step (x y : Int) : Int.gcd y (x.tmod y) = Int.gcd x y := by
  unfold Int.gcd
  rw [Int.natAbs_tmod, Nat.gcd_comm y.natAbs, ← Nat.gcd_rec, Nat.gcd_comm]
theorem gcd_pos {a b : Int} (hb : 0 < b) : 0 < Int.gcd a b ∧ (Int.gcd a b : Int) ≤ b := by
  have h1 : 0 < Int.gcd a b := Int.gcd_pos_of_ne_zero_right a (by omega)
  have h2 : (Int.gcd a b : Int) ∣ b := Int.gcd_dvd_right a b
  exact ⟨h1, Int.le_of_dvd hb h2⟩
/-- A number that a machine word holds. -/
abbrev W (a : Int) : Prop := -9223372036854775808 ≤ a ∧ a ≤ 9223372036854775807
theorem s101 {a b : Int} (A : AHeap) (ha : W a) (hb0 : 0 < b) (hb : b ≤ 9223372036854775807) : ACalls Try.prog 101 [I a, I b] A (I (Int.gcd a b)) A := by
  refine acalls hmix Try.func101 (by kernel_rfl) t101 2 rfl (by decide) ?_
  dsimp only [m101]
  simp -implicitDefEqProofs -dsimp (disch := omega) only [↓AW_ops, ↓AW_seq, ↓AW_block, ↓AOps_nil, ↓AOps_pu, on_some, ↓then_normal, pval, rd_C, put_S, ↓AW_toLoop, List.replicate_succ, List.replicate_zero, List.set_cons_zero, List.set_cons_succ, Nat.reduceSub, List.cons_append, List.nil_append]
  obtain ⟨g1, g2⟩ := gcd_pos (a := a) hb0
  refine LoopK.by 15 (fun x : Int × Int => Int.gcd x.1 x.2 = Int.gcd a b ∧ W x.1 ∧ W x.2) (fun x => [(0, I x.1), (1, I x.2)]) (fun _ => A) (fun x => x.2.natAbs) (a, b) ⟨rfl, ha, by omega, hb⟩ rfl (by simp [Has, rd_s]) rfl ?_
  rintro ⟨x, y⟩ ⟨hxy, hx, hy⟩
  simp only at hxy hx hy
  by_cases hy0 : y = 0
  · subst hy0
    have hx1 : x.natAbs = Int.gcd a b := by rw [← hxy]; simp
    simp -implicitDefEqProofs -dsimp (disch := omega) only [↓AW_ops, ↓AW_seq, ↓AW_cond, ↓AW_exit, ↓AW_ret, ↓AOps_nil, ↓AOps_pu, on_some, condB_f, ↓then_normal, ↓then_exit, ↓inBlock_exit, ↓Fin_ret, pval, rd_S, rd_C, put_S, resV, resL, mk, List.foldl_cons, List.foldl_nil, List.replicate_succ, List.replicate_zero, List.set_cons_zero, List.set_cons_succ, List.getElem?_cons_zero, List.getElem?_cons_succ, Option.getD_some, map_c, map_n, bin_neq, mm_max, w64, if_true, decide_false, not_true_eq_false]
    exact gc_same (by congr 1; omega)
  · simp -implicitDefEqProofs -dsimp (disch := omega) only [↓AW_skip, ↓AW_ops, ↓AW_seq, ↓AW_cond, ↓AW_block, ↓AOps_nil, ↓AOps_pu, on_some, condB_t, ↓then_normal, ↓inBlock_normal, pval, rd_S, rd_C, put_S, mk, List.foldl_cons, List.foldl_nil, List.replicate_succ, List.replicate_zero, List.set_cons_zero, List.set_cons_succ, List.getElem?_cons_zero, List.getElem?_cons_succ, Option.getD_some, List.length_cons, List.length_nil, Nat.reduceAdd, Nat.zero_add, bin_rem, bin_neq, if_false, decide_true, true_and, not_false_eq_true, hy0]
    have hm : (x.tmod y).natAbs < y.natAbs := by rw [Int.natAbs_tmod]; exact Nat.mod_lt _ (by omega)
    exact ⟨(y, x.tmod y), ⟨by rw [gcd_step]; exact hxy, hy, by omega⟩, by simp [Has, rd_s], hm⟩
theorem s76 {a b : Int} (A : AHeap) (ha : W a) (ha' : a ≠ -9223372036854775808) (hb0 : 0 < b) (hb : b ≤ 9223372036854775807) : ACalls Try.prog 76 [I a, I b] A (I (Int.gcd a b)) A := by
  refine acalls hmix Try.func76 (by kernel_rfl) t76 2 rfl (by decide) ?_
  dsimp only [m76]
  simp -implicitDefEqProofs -dsimp (disch := omega) only [↓AW_ops, ↓AW_seq, ↓AW_block, ↓AOps_nil, ↓AOps_pu, on_some, ↓then_normal, pval, rd_S, rd_C, put_S, ↓AW_toLoop, List.replicate_succ, List.replicate_zero, List.set_cons_zero, List.set_cons_succ, List.getElem?_cons_zero, List.getElem?_cons_succ, Option.getD_some, map_c, map_n, Nat.reduceSub, List.cons_append, List.nil_append, mm_max, w64]
  obtain ⟨g1, g2⟩ := gcd_pos (a := a) hb0
  have key : Int.gcd (max a (0 - a)) (max b (0 - b)) = Int.gcd a b := by
    unfold Int.gcd
    congr 1 <;> omega
  refine LoopK.by 24 (fun x : Int × Int => Int.gcd x.1 x.2 = Int.gcd a b ∧ (0 ≤ x.1 ∧ W x.1) ∧ (0 ≤ x.2 ∧ W x.2)) (fun x => [(5, I x.1), (6, I x.2)]) (fun _ => A) (fun x => x.2.natAbs) (max a (0 - a), max b (0 - b)) ⟨key, by omega, by omega⟩ rfl (by simp [Has, rd_s]) rfl ?_
  rintro ⟨x, y⟩ ⟨hxy, hx, hy⟩
  simp only at hxy hx hy
  by_cases hy0 : 0 < y
  · have hne : ¬ y = 0 := by omega
    simp -implicitDefEqProofs -dsimp (disch := omega) only [↓AW_skip, ↓AW_ops, ↓AW_seq, ↓AW_cond, ↓AW_block, ↓AOps_nil, ↓AOps_pu, on_some, condB_t, ↓then_normal, ↓inBlock_normal, pval, rd_S, rd_C, put_S, mk, List.foldl_cons, List.foldl_nil, List.replicate_succ, List.replicate_zero, List.set_cons_zero, List.set_cons_succ, List.getElem?_cons_zero, List.getElem?_cons_succ, Option.getD_some, List.length_cons, List.length_nil, Nat.reduceAdd, Nat.zero_add, bin_rem, bin_gtr, if_false, decide_true, true_and, hy0, hne]
    have hm : (x.tmod y).natAbs < y.natAbs := by rw [Int.natAbs_tmod]; exact Nat.mod_lt _ (by omega)
    have hm0 : 0 ≤ x.tmod y := Int.tmod_nonneg y hx.1
    exact ⟨(y, x.tmod y), ⟨by rw [gcd_step]; exact hxy, hy, by omega⟩, by simp [Has, rd_s], hm⟩
  · have hy1 : y = 0 := by omega
    subst hy1
    have hx1 : x.natAbs = Int.gcd a b := by rw [← hxy]; simp
    simp -implicitDefEqProofs -dsimp (disch := omega) only [↓AW_ops, ↓AW_seq, ↓AW_cond, ↓AW_exit, ↓AW_ret, ↓AOps_nil, ↓AOps_pu, on_some, condB_f, ↓then_normal, ↓then_exit, ↓inBlock_exit, ↓Fin_ret, pval, rd_S, rd_C, put_S, resV, resL, mk, List.foldl_cons, List.foldl_nil, List.replicate_succ, List.replicate_zero, List.set_cons_zero, List.set_cons_succ, List.getElem?_cons_zero, List.getElem?_cons_succ, Option.getD_some, bin_gtr, if_true, decide_false, hy0]
    exact gc_same (by congr 1; omega)
theorem tdiv_W {a : Int} (ha : W a) {g : Int} (hg : 0 < g) : W (a.tdiv g) := by
  have h : (a.tdiv g).natAbs ≤ a.natAbs := by rw [Int.natAbs_tdiv]; exact Nat.div_le_self _ _
  rcases Int.le_total 0 a with h0 | h0
  · have := Int.tdiv_nonneg h0 (by omega : 0 ≤ g); omega
  · have := Int.tdiv_nonneg (a := -a) (b := g) (by omega) (by omega)
    rw [Int.neg_tdiv] at this; omega
theorem s64 {a b : Int} (A : AHeap) (ha : W a) (hb0 : 0 < b) (hb : b ≤ 9223372036854775807) : ACalls Try.prog 64 [I a, I b] A (.agg [I (a.tdiv (Int.gcd a b)), I (b.tdiv (Int.gcd a b))]) A := by
  refine acalls hmix Try.func64 (by kernel_rfl) t64 2 rfl (by decide) ?_
  dsimp only [m64]
  simp -implicitDefEqProofs -dsimp (disch := omega) only [↓AW_ops, ↓AW_seq, ↓AOps_nil, ↓AOps_pu, ↓AOps_call, on_some, ↓then_normal, pval, rd_S, rd_C, put_S, AV.cells?, List.replicate_succ, List.replicate_zero, List.set_cons_zero, List.set_cons_succ, List.getElem?_cons_zero, List.getElem?_cons_succ, Option.getD_some, map_c, map_n, Nat.reduceSub, List.cons_append, List.nil_append]
  refine CallK.of (s101 _ ha hb0 hb) ?_
  have hn : ¬ b < 0 := by omega
  obtain ⟨g1, g2⟩ := gcd_pos (a := a) hb0
  have hg : ¬ (Int.gcd a b : Int) = 0 := by omega
  have h1 := tdiv_W ha (g := Int.gcd a b) (by omega)
  have h2 := tdiv_W (a := b) ⟨by omega, hb⟩ (g := Int.gcd a b) (by omega)
  simp -implicitDefEqProofs -dsimp (disch := omega) only [↓AW_skip, ↓AW_ops, ↓AW_seq, ↓AW_cond, ↓AW_ret, ↓AOps_nil, ↓AOps_pu, on_some, extK_same, condB_f, ↓then_normal, ↓Fin_ret, pval, rd_S, rd_C, put_S, resV, resL, chkd, bput, bgot, AV.cells?, splice, partA, fillA, List.replicate_succ, List.replicate_zero, List.set_cons_zero, List.set_cons_succ, List.getElem?_cons_zero, List.getElem?_cons_succ, List.drop_zero, List.drop_succ_cons, List.drop_nil, List.take_zero, List.take_succ_cons, List.take_nil, Option.getD_some, Option.map_some, map_c, map_n, List.length_cons, List.length_nil, Nat.reduceAdd, Nat.reduceSub, Nat.reduceLeDiff, Nat.reduceEqDiff, Nat.zero_add, List.cons_append, List.nil_append, List.append_nil, bin_quo, bin_lss, w64, if_true, if_false, decide_false, and_true, ne_eq, not_true_eq_false, hn, hg]
  exact gc_same rfl
theorem s69 {a b : Int} (A : AHeap) (ha : W a) (ha' : a ≠ -9223372036854775808) (hb0 : 0 < b) (hb : b ≤ 9223372036854775807) : ACalls Try.prog 69 [I a, I b] A (.agg [I (a.tdiv (Int.gcd a b)), I (b.tdiv (Int.gcd a b))]) A := by
  refine acalls hmix Try.func69 (by kernel_rfl) t69 2 rfl (by decide) ?_
  dsimp only [m69]
  simp -implicitDefEqProofs -dsimp (disch := omega) only [↓AW_ops, ↓AW_seq, ↓AOps_nil, ↓AOps_pu, ↓AOps_call, on_some, ↓then_normal, pval, rd_S, rd_C, put_S, AV.cells?, List.replicate_succ, List.replicate_zero, List.set_cons_zero, List.set_cons_succ, List.getElem?_cons_zero, List.getElem?_cons_succ, Option.getD_some, map_c, map_n, Nat.reduceSub, List.cons_append, List.nil_append]
  refine CallK.of (s76 _ ha ha' hb0 hb) ?_
  obtain ⟨g1, g2⟩ := gcd_pos (a := a) hb0
  have hg : ¬ (Int.gcd a b : Int) = 0 := by omega
  have h1 := tdiv_W ha (g := Int.gcd a b) (by omega)
  have h2 := tdiv_W (a := b) ⟨by omega, hb⟩ (g := Int.gcd a b) (by omega)
  simp -implicitDefEqProofs -dsimp (disch := omega) only [↓AW_ops, ↓AW_seq, ↓AW_ret, ↓AOps_nil, ↓AOps_pu, on_some, extK_same, ↓then_normal, ↓Fin_ret, pval, rd_S, put_S, resV, resL, chkd, bput, bgot, AV.cells?, splice, partA, fillA, List.replicate_succ, List.replicate_zero, List.set_cons_zero, List.set_cons_succ, List.getElem?_cons_zero, List.getElem?_cons_succ, List.drop_zero, List.drop_succ_cons, List.drop_nil, List.take_zero, List.take_succ_cons, List.take_nil, Option.getD_some, Option.map_some, map_c, map_n, List.length_cons, List.length_nil, Nat.reduceAdd, Nat.reduceSub, Nat.reduceLeDiff, Nat.reduceEqDiff, Nat.zero_add, List.cons_append, List.nil_append, List.append_nil, bin_quo, w64, if_true, if_false, and_true, ne_eq, not_true_eq_false, hg]
  exact gc_same rfl
end Go.Proofs.Ytnnbggcckabhdaa

namespace Go.Proofs.Ytnnbggcckabhdaa
open Go Go.Eng
/-- selion/selionlaw02.SoilFields [] -/
def m7 : MFun := ⟨86, [11, 13], [.mov (.s 2)],
 .seq (.ops [⟨(some 2), some undefA, none, false, .pu (.mov (.c (.bool false)))⟩])
 (.seq (.seq (.ops [⟨(some 15), some undefA, none, false, .pu (.mov (.s 0))⟩,
   ⟨(some 16), some undefA, none, false, .call 18 [(.s 15), (.c (.nilS))]⟩])
 (.cond (.s 16) (.seq (.ops [⟨(some 17), some undefA, none, false, .call 19 []⟩,
    ⟨(some 2), some undefA, none, false, .pu (.mov (.s 17))⟩])
  (.ret))
 (.skip)))
 (.seq (.ops [⟨(some 19), some undefA, none, false, .pu (.mov (.s 0))⟩,
   ⟨(some 20), some undefA, none, false, .call 31 [(.s 19)]⟩,
   ⟨(some 18), some undefA, none, false, .pu (.mov (.s 20))⟩,
   ⟨(some 21), some undefA, none, false, .pu (.extr 0 (.s 18))⟩,
   ⟨(some 22), some undefA, none, false, .pu (.extr 1 (.s 18))⟩,
   ⟨(some 3), some undefA, none, false, .pu (.mov (.s 21))⟩,
   ⟨(some 4), some undefA, none, false, .pu (.mov (.s 22))⟩])
 (.seq (.ops [⟨(some 24), some undefA, none, false, .pu (.mov (.s 0))⟩,
   ⟨(some 25), some undefA, none, false, .call 32 [(.s 24)]⟩,
   ⟨(some 23), some undefA, none, false, .pu (.mov (.s 25))⟩,
   ⟨(some 26), some undefA, none, false, .pu (.extr 0 (.s 23))⟩,
   ⟨(some 27), some undefA, none, false, .pu (.extr 1 (.s 23))⟩,
   ⟨(some 5), some undefA, none, false, .pu (.mov (.s 26))⟩,
   ⟨(some 6), some undefA, none, false, .pu (.mov (.s 27))⟩])
 (.seq (.ops [⟨(some 29), some undefA, none, false, .pu (.mov (.s 0))⟩,
   ⟨(some 30), some undefA, none, false, .call 33 [(.s 29)]⟩,
   ⟨(some 28), some undefA, none, false, .pu (.mov (.s 30))⟩,
   ⟨(some 31), some undefA, none, false, .pu (.extr 0 (.s 28))⟩,
   ⟨(some 32), some undefA, none, false, .pu (.extr 1 (.s 28))⟩,
   ⟨(some 7), some undefA, none, false, .pu (.mov (.s 31))⟩,
   ⟨(some 8), some undefA, none, false, .pu (.mov (.s 32))⟩])
 (.seq (.ops [⟨(some 34), some undefA, none, false, .pu (.mov (.s 0))⟩,
   ⟨(some 35), some undefA, none, false, .call 34 [(.s 34)]⟩,
   ⟨(some 33), some undefA, none, false, .pu (.mov (.s 35))⟩,
   ⟨(some 36), some undefA, none, false, .pu (.extr 0 (.s 33))⟩,
   ⟨(some 37), some undefA, none, false, .pu (.extr 1 (.s 33))⟩,
   ⟨(some 9), some undefA, none, false, .pu (.mov (.s 36))⟩,
   ⟨(some 10), some undefA, none, false, .pu (.mov (.s 37))⟩])
 (.seq (.ops [⟨(some 39), some undefA, none, false, .pu (.mov (.s 0))⟩,
   ⟨(some 40), some undefA, none, false, .call 35 [(.s 39)]⟩,
   ⟨(some 38), some undefA, none, false, .pu (.mov (.s 40))⟩,
   ⟨(some 41), some undefA, none, false, .pu (.extr 0 (.s 38))⟩,
   ⟨(some 42), some undefA, none, false, .pu (.extr 1 (.s 38))⟩,
   ⟨(some 11), some (.junk), none, false, .pu (.bnew (.c (.agg [.int .i64 0, .int .i64 0])))⟩,
   ⟨(some 11), none, none, false, .pu (.bset none 11 0 2 (.s 41))⟩,
   ⟨(some 12), some undefA, none, false, .pu (.mov (.s 42))⟩])
 (.seq (.ops [⟨(some 44), some undefA, none, false, .pu (.mov (.s 0))⟩,
   ⟨(some 45), some undefA, none, false, .call 36 [(.s 44)]⟩,
   ⟨(some 43), some undefA, none, false, .pu (.mov (.s 45))⟩,
   ⟨(some 46), some undefA, none, false, .pu (.extr 0 (.s 43))⟩,
   ⟨(some 47), some undefA, none, false, .pu (.extr 1 (.s 43))⟩,
   ⟨(some 13), some (.junk), none, false, .pu (.bnew (.c (.agg [.int .i64 0, .int .i64 0])))⟩,
   ⟨(some 13), none, none, false, .pu (.bset none 13 0 2 (.s 46))⟩,
   ⟨(some 14), some undefA, none, false, .pu (.mov (.s 47))⟩])
 (.seq (.ops [⟨(some 48), some undefA, none, false, .pu (.mov (.s 0))⟩,
   ⟨(some 49), some undefA, none, false, .call 37 [(.s 48)]⟩,
   ⟨(some 50), some undefA, none, false, .pu (.mov (.s 0))⟩,
   ⟨(some 51), some undefA, none, false, .call 38 [(.s 50)]⟩,
   ⟨(some 52), some undefA, none, false, .pu (.bin .eql (.s 49) (.s 51))⟩,
   ⟨(some 53), some undefA, none, false, .pu (.mov (.s 52))⟩,
   ⟨(some 54), some undefA, (some (53, true)), false, .pu (.mov (.s 3))⟩,
   ⟨(some 55), some undefA, (some (53, true)), false, .pu (.mov (.s 5))⟩,
   ⟨(some 56), some undefA, (some (53, true)), false, .pu (.bin .eql (.s 54) (.s 55))⟩,
   ⟨(some 57), some undefA, none, false, .pu (.pick (.s 53) (.s 56) (.c (.bool false)))⟩,
   ⟨(some 58), some undefA, none, false, .pu (.mov (.s 57))⟩,
   ⟨(some 59), some undefA, (some (58, true)), false, .pu (.mov (.s 4))⟩,
   ⟨(some 60), some undefA, (some (58, true)), false, .pu (.mov (.s 6))⟩,
   ⟨(some 61), some undefA, (some (58, true)), false, .pu (.bin .eql (.s 59) (.s 60))⟩,
   ⟨(some 62), some undefA, none, false, .pu (.pick (.s 58) (.s 61) (.c (.bool false)))⟩,
   ⟨(some 63), some undefA, none, false, .pu (.mov (.s 62))⟩,
   ⟨(some 64), some undefA, (some (63, true)), false, .pu (.mov (.s 7))⟩,
   ⟨(some 65), some undefA, (some (63, true)), false, .pu (.mov (.s 9))⟩,
   ⟨(some 66), some undefA, (some (63, true)), false, .pu (.bin .eql (.s 64) (.s 65))⟩,
   ⟨(some 67), some undefA, none, false, .pu (.pick (.s 63) (.s 66) (.c (.bool false)))⟩,
   ⟨(some 68), some undefA, none, false, .pu (.mov (.s 67))⟩,
   ⟨(some 69), some undefA, (some (68, true)), false, .pu (.mov (.s 8))⟩,
   ⟨(some 70), some undefA, (some (68, true)), false, .pu (.mov (.s 10))⟩,
   ⟨(some 71), some undefA, (some (68, true)), false, .pu (.bin .eql (.s 69) (.s 70))⟩,
   ⟨(some 72), some undefA, none, false, .pu (.pick (.s 68) (.s 71) (.c (.bool false)))⟩,
   ⟨(some 73), some undefA, none, false, .pu (.mov (.s 72))⟩,
   ⟨(some 74), some undefA, (some (73, true)), false, .pu (.bget none 11 0 2 true)⟩,
   ⟨(some 75), some undefA, (some (73, true)), false, .pu (.bget none 13 0 2 true)⟩,
   ⟨(some 76), some undefA, (some (73, true)), false, .pu (.eqs false [true, true] (.s 74) (.s 75))⟩,
   ⟨(some 77), some undefA, none, false, .pu (.pick (.s 73) (.s 76) (.c (.bool false)))⟩,
   ⟨(some 78), some undefA, none, false, .pu (.mov (.s 77))⟩,
   ⟨(some 79), some undefA, (some (78, true)), false, .pu (.mov (.s 12))⟩,
   ⟨(some 80), some undefA, (some (78, true)), false, .pu (.mov (.s 14))⟩,
   ⟨(some 81), some undefA, (some (78, true)), false, .pu (.bin .eql (.s 79) (.s 80))⟩,
   ⟨(some 82), some undefA, none, false, .pu (.pick (.s 78) (.s 81) (.c (.bool false)))⟩,
   ⟨(some 83), some undefA, none, false, .pu (.mov (.s 82))⟩,
   ⟨(some 84), some undefA, (some (83, true)), false, .call 19 []⟩,
   ⟨(some 85), some undefA, none, false, .pu (.pick (.s 83) (.s 84) (.c (.bool false)))⟩,
   ⟨(some 2), some undefA, none, false, .pu (.mov (.s 85))⟩])
 (.ret)))))))))⟩
/-- selion/selionlaw02.SoilWorths [] -/
def m4 : MFun := ⟨41, [3, 5, 7], [.mov (.s 4)],
 .seq (.ops [⟨(some 3), some (.junk), none, false, .pu (.bnew (.s 1))⟩,
   ⟨(some 4), some undefA, none, false, .pu (.mov (.c (.bool false)))⟩])
 (.seq (.seq (.ops [⟨(some 9), some undefA, none, false, .pu (.mov (.s 0))⟩,
   ⟨(some 10), some undefA, none, false, .call 18 [(.s 9), (.c (.nilS))]⟩])
 (.cond (.s 10) (.seq (.ops [⟨(some 11), some undefA, none, false, .call 19 []⟩,
    ⟨(some 4), some undefA, none, false, .pu (.mov (.s 11))⟩])
  (.ret))
 (.skip)))
 (.seq (.ops [⟨(some 13), some undefA, none, false, .pu (.mov (.s 0))⟩,
   ⟨(some 14), some undefA, none, false, .pu (.badr none 3)⟩,
   ⟨(some 15), some undefA, none, false, .pu (.bget (some 14) 3 0 2 true)⟩,
   ⟨(some 16), some undefA, none, false, .pu (.badr none 3)⟩,
   ⟨(some 17), some undefA, none, false, .pu (.bget (some 16) 3 2 2 true)⟩,
   ⟨(some 18), some undefA, none, false, .call 25 [(.s 13), (.s 15), (.s 17)]⟩,
   ⟨(some 12), some undefA, none, false, .pu (.mov (.s 18))⟩,
   ⟨(some 19), some undefA, none, false, .pu (.extr 0 (.s 12))⟩,
   ⟨(some 20), some undefA, none, false, .pu (.extr 1 (.s 12))⟩,
   ⟨(some 5), some (.junk), none, false, .pu (.bnew (.c (.agg [.int .i64 0, .int .i64 0])))⟩,
   ⟨(some 5), none, none, false, .pu (.bset none 5 0 2 (.s 19))⟩,
   ⟨(some 6), some undefA, none, false, .pu (.mov (.s 20))⟩])
 (.seq (.ops [⟨(some 22), some undefA, none, false, .pu (.mov (.s 0))⟩,
   ⟨(some 23), some undefA, none, false, .pu (.badr none 3)⟩,
   ⟨(some 24), some undefA, none, false, .pu (.bget (some 23) 3 0 2 true)⟩,
   ⟨(some 25), some undefA, none, false, .pu (.badr none 3)⟩,
   ⟨(some 26), some undefA, none, false, .pu (.bget (some 25) 3 2 2 true)⟩,
   ⟨(some 27), some undefA, none, false, .call 26 [(.s 22), (.s 24), (.s 26)]⟩,
   ⟨(some 21), some undefA, none, false, .pu (.mov (.s 27))⟩,
   ⟨(some 28), some undefA, none, false, .pu (.extr 0 (.s 21))⟩,
   ⟨(some 29), some undefA, none, false, .pu (.extr 1 (.s 21))⟩,
   ⟨(some 7), some (.junk), none, false, .pu (.bnew (.c (.agg [.int .i64 0, .int .i64 0])))⟩,
   ⟨(some 7), none, none, false, .pu (.bset none 7 0 2 (.s 28))⟩,
   ⟨(some 8), some undefA, none, false, .pu (.mov (.s 29))⟩])
 (.seq (.ops [⟨(some 30), some undefA, none, false, .pu (.bget none 5 0 2 true)⟩,
   ⟨(some 31), some undefA, none, false, .pu (.bget none 7 0 2 true)⟩,
   ⟨(some 32), some undefA, none, false, .pu (.eqs false [true, true] (.s 30) (.s 31))⟩,
   ⟨(some 33), some undefA, none, false, .pu (.mov (.s 32))⟩,
   ⟨(some 34), some undefA, (some (33, true)), false, .pu (.mov (.s 6))⟩,
   ⟨(some 35), some undefA, (some (33, true)), false, .pu (.mov (.s 8))⟩,
   ⟨(some 36), some undefA, (some (33, true)), false, .pu (.bin .eql (.s 34) (.s 35))⟩,
   ⟨(some 37), some undefA, none, false, .pu (.pick (.s 33) (.s 36) (.c (.bool false)))⟩,
   ⟨(some 38), some undefA, none, false, .pu (.mov (.s 37))⟩,
   ⟨(some 39), some undefA, (some (38, true)), false, .call 19 []⟩,
   ⟨(some 40), some undefA, none, false, .pu (.pick (.s 38) (.s 39) (.c (.bool false)))⟩,
   ⟨(some 4), some undefA, none, false, .pu (.mov (.s 40))⟩])
 (.ret)))))⟩
end Go.Proofs.Ytnnbggcckabhdaa

namespace Go.Proofs.Ytnnbggcckabhdaa
open Go Go.Eng
def good (f : List (Int × Int)) : Prop := f.length ≤ 6 ∧ f.all vz = true
theorem good_of {f : List (Int × Int)} (h : vE f = 0) : good f ∧ 1 ≤ f.length := by
  unfold vE at h
  split at h
  · cases h
  · rename_i h1
    split at h
    · rename_i h2; exact ⟨⟨by omega, h2⟩, by omega⟩
    · cases h
theorem vz_iff (z : Int × Int) : vz z = true ↔ (1 ≤ z.1 ∧ z.1 ≤ 20) ∧ (0 ≤ z.2 ∧ z.2 ≤ 20) := by simp [vz]
def sumZ (g : Int × Int → Int) (f : List (Int × Int)) : Int := (f.map g).sum
theorem sumZ_take {g : Int × Int → Int} {f : List (Int × Int)} {i : Nat} {z : Int × Int} (hz : f[i]? = some z) : sumZ g (f.take (i + 1)) = sumZ g (f.take i) + g z := by
  rw [List.take_add_one, hz]; simp [sumZ]
theorem sumZ_bound {g : Int × Int → Int} {m : Int} (hm : 0 ≤ m) : ∀ {f : List (Int × Int)}, (∀ z ∈ f, 0 ≤ g z ∧ g z ≤ m) → 0 ≤ sumZ g f ∧ sumZ g f ≤ m * f.length
  | [], _ => by simp [sumZ]
  | z :: f, h => by
    have h1 := sumZ_bound hm (f := f) (fun y hy => h y (by simp [hy]))
    have h2 := h z (by simp)
    simp only [sumZ, List.map_cons, List.sum_cons, List.length_cons] at *
    rw [Int.natCast_add, Int.mul_add]
    omega
theorem s111 (z : Int × Int) (A : AHeap) : ACalls Try.prog 111 [.agg [I z.1, I z.2]] A (I z.1) A := by
  refine acalls hmix Try.func111 (by kernel_rfl) t111 1 rfl (by decide) ?_
  dsimp only [m111]
  simp -implicitDefEqProofs -dsimp (disch := omega) only [↓AW_ops, ↓AW_seq, ↓AW_ret, ↓AOps_nil, ↓AOps_pu, on_some, ↓then_normal, ↓Fin_ret, pval, rd_S, rd_C, put_S, resV, resL, chkd, isAdr, bgot, AV.cells?, partA, List.replicate_succ, List.replicate_zero, List.set_cons_zero, List.set_cons_succ, List.getElem?_cons_zero, List.getElem?_cons_succ, List.drop_zero, List.take_zero, List.take_succ_cons, Option.getD_some, List.length_cons, List.length_nil, Nat.reduceAdd, Nat.reduceSub, Nat.reduceLeDiff, Nat.zero_add, List.cons_append, List.nil_append, if_true, if_false, Bool.false_eq_true]
  exact gc_same rfl
theorem s102 {f : List (Int × Int)} {v : AV} {A : AHeap} (hf : L2 A v f) (k : Nat) (g : Int × Int → Int) (hg : ∀ z ∈ f, ACalls Try.prog k [.agg [I z.1, I z.2]] A (I (g z)) A) (hb : ∀ z ∈ f, 0 ≤ g z ∧ g z ≤ 400) (hl : f.length ≤ 6) :
    ACalls Try.prog 102 [v, .fn k []] A (I (sumZ g f)) A := by
  refine acalls hmix Try.func102 (by kernel_rfl) t102 2 rfl (by decide) ?_
  dsimp only [m102]
  simp -implicitDefEqProofs -dsimp (disch := omega) only [↓AW_ops, ↓AW_seq, ↓AW_block, ↓AOps_nil, ↓AOps_pu, on_some, ↓then_normal, pval, rd_S, rd_C, put_S, ↓AW_toLoop, List.replicate_succ, List.replicate_zero, List.set_cons_zero, List.set_cons_succ, List.getElem?_cons_zero, List.getElem?_cons_succ, Option.getD_some, Nat.reduceSub, List.cons_append, List.nil_append, hf.len]
  refine LoopK.by 21 (fun i : Nat => i ≤ f.length) (fun i => [(1, .fn k []), (5, I (sumZ g (f.take i))), (8, v), (9, I f.length), (10, I i)]) (fun _ => A) (fun i => f.length - i) 0 (by omega) rfl (by simp [Has, rd_s, sumZ]) rfl ?_
  intro i hi
  by_cases hlt : i < f.length
  · obtain ⟨z, hz⟩ : ∃ z, f[i]? = some z := ⟨_, List.getElem?_eq_getElem hlt⟩
    have hlt' : (i : Int) < f.length := by omega
    simp -implicitDefEqProofs -dsimp (disch := omega) only [↓AW_skip, ↓AW_ops, ↓AW_seq, ↓AW_cond, ↓AW_block, ↓AOps_nil, ↓AOps_pu, ↓AOps_ld, ↓AOps_callv, on_some, CallF_fn, condB_t, ↓then_normal, pval, lval, rd_S, rd_C, put_S, chkd, bput, bgot, AV.cells?, splice, partA, mk, List.foldl_cons, List.foldl_nil, List.replicate_succ, List.replicate_zero, List.set_cons_zero, List.set_cons_succ, List.getElem?_cons_zero, List.getElem?_cons_succ, List.drop_zero, List.drop_succ_cons, List.drop_nil, List.take_zero, List.take_succ_cons, List.take_nil, Option.getD_some, map_c, map_n, List.length_cons, List.length_nil, Nat.reduceAdd, Nat.reduceLeDiff, Nat.reduceEqDiff, Nat.zero_add, List.nil_append, List.append_nil, bin_lss, if_true, if_false, decide_true, e2, ne_eq, not_true_eq_false, hlt', hf.idx hlt, hf.ld0 hz 2 true (by decide)]
    refine CallK.of (hg z (List.mem_of_getElem? hz)) ?_
    have b1 := sumZ_bound (by omega) (f := f.take i) (fun y hy => hb y (List.mem_of_mem_take hy))
    have b2 := hb z (List.mem_of_getElem? hz)
    have b3 : ((f.take i).length : Int) ≤ 6 := by rw [List.length_take]; omega
    simp -implicitDefEqProofs -dsimp (disch := omega) only [↓AW_ops, ↓AOps_nil, ↓AOps_pu, on_some, extK_same, ↓then_normal, ↓inBlock_normal, pval, rd_S, rd_C, put_S, mk, List.foldl_cons, List.foldl_nil, List.replicate_succ, List.replicate_zero, List.set_cons_zero, List.set_cons_succ, List.getElem?_cons_zero, List.getElem?_cons_succ, Option.getD_some, List.length_cons, List.length_nil, Nat.reduceAdd, Nat.zero_add, bin_add, w64, true_and]
    exact ⟨i + 1, hlt, by simp [Has, rd_s, sumZ_take hz], by omega⟩
  · have hlt' : ¬ ((i : Int) < f.length) := by omega
    simp -implicitDefEqProofs -dsimp (disch := omega) only [↓AW_ops, ↓AW_seq, ↓AW_cond, ↓AW_exit, ↓AW_ret, ↓AOps_nil, ↓AOps_pu, on_some, condB_f, ↓then_normal, ↓then_exit, ↓inBlock_exit, ↓Fin_ret, pval, rd_S, put_S, resV, resL, mk, List.foldl_cons, List.foldl_nil, List.replicate_succ, List.replicate_zero, List.set_cons_zero, List.set_cons_succ, List.getElem?_cons_zero, List.getElem?_cons_succ, Option.getD_some, bin_lss, if_true, decide_false, hlt']
    exact gc_same (by rw [List.take_of_length_le (by omega)])
def tot (f : List (Int × Int)) : Int := sumZ (fun z => z.1 * z.2) f
def len (f : List (Int × Int)) : Int := sumZ (fun z => z.1) f
theorem s77 {f : List (Int × Int)} {v : AV} {A : AHeap} (hf : L2 A v f) (h : good f) : ACalls Try.prog 77 [v] A (I (len f)) A := by
  refine acalls hmix Try.func77 (by kernel_rfl) t77 1 rfl (by decide) ?_
  dsimp only [m77]
  simp -implicitDefEqProofs -dsimp (disch := omega) only [↓AW_ops, ↓AW_seq, ↓AOps_nil, ↓AOps_pu, ↓AOps_call, on_some, ↓then_normal, pval, rd_S, rd_C, put_S, List.replicate_succ, List.replicate_zero, List.set_cons_zero, List.set_cons_succ, List.getElem?_cons_zero, List.getElem?_cons_succ, Option.getD_some, map_c, map_n, Nat.reduceSub, List.cons_append, List.nil_append]
  refine CallK.of (s102 hf 111 (fun z => z.1) (fun z hz => s111 z A) (fun z hz => ?_) h.1) ?_
  · have := (vz_iff z).1 (List.all_eq_true.1 h.2 z hz)
    omega
  · simp -implicitDefEqProofs -dsimp (disch := omega) only [↓AW_ret, ↓AOps_nil, ↓AOps_pu, on_some, extK_same, ↓then_normal, ↓Fin_ret, pval, rd_S, put_S, resV, resL, List.replicate_succ, List.replicate_zero, List.set_cons_zero, List.set_cons_succ, List.getElem?_cons_zero, List.getElem?_cons_succ, Option.getD_some, Nat.reduceSub, List.cons_append, List.nil_append]
    exact gc_same rfl
def units (f : List (Int × Int)) : List Int := f.flatMap fun z => List.replicate z.1.toNat z.2
theorem units_take {f : List (Int × Int)} {i : Nat} {z : Int × Int} (hz : f[i]? = some z) : units (f.take (i + 1)) = units (f.take i) ++ List.replicate z.1.toNat z.2 := by
  rw [List.take_add_one, hz]; simp [units]
theorem len_units : ∀ {f : List (Int × Int)}, f.all vz = true → ((units f).length : Int) = len f
  | [], _ => by simp [units, len, sumZ]
  | z :: f, h => by
    simp only [List.all_cons, Bool.and_eq_true] at h
    have h1 := len_units h.2
    have h2 := (vz_iff z).1 h.1
    simp only [units, len, sumZ, List.flatMap_cons, List.length_append, List.length_replicate, List.map_cons, List.sum_cons] at *
    omega
theorem len_bound {f : List (Int × Int)} (h : good f) : 0 ≤ len f ∧ len f ≤ 120 := by
  have := sumZ_bound (g := fun z => z.1) (m := 20) (by omega) (f := f) (fun z hz => by have := (vz_iff z).1 (List.all_eq_true.1 h.2 z hz); omega)
  have := h.1
  unfold len
  omega
theorem good_take {f : List (Int × Int)} (h : good f) (i : Nat) : good (f.take i) := by
  refine ⟨?_, List.all_eq_true.2 fun z hz => List.all_eq_true.1 h.2 z (List.mem_of_mem_take hz)⟩
  rw [List.length_take]; have := h.1; omega
theorem s68 {f : List (Int × Int)} {v : AV} {A : AHeap} (hf : L2 A v f) (h : good f) : ACalls Try.prog 68 [v] A (outV 1 A (units f).length) (outH A ((units f).flatMap e1) (units f).length) := by
  refine acalls hmix Try.func68 (by kernel_rfl) t68 1 rfl (by decide) ?_
  dsimp only [m68]
  simp -implicitDefEqProofs -dsimp (disch := omega) only [↓AW_ops, ↓AW_seq, ↓AW_block, ↓AOps_nil, ↓AOps_pu, on_some, ↓then_normal, pval, rd_C, put_S, ↓AW_toLoop, List.replicate_succ, List.replicate_zero, List.set_cons_zero, List.set_cons_succ, Nat.reduceSub, List.cons_append, List.nil_append]
  refine LoopK.by 30 (fun x : Nat × AV × AHeap => x.1 ≤ f.length ∧ AccL 1 e1 A x.2.2 x.2.1 (units (f.take x.1))) (fun x => [(0, v), (3, x.2.1), (4, I x.1)]) (fun x => x.2.2) (fun x => f.length - x.1) (0, .nilS, A) ⟨by omega, AccL.nil (List.prefix_refl _)⟩ rfl (by simp [Has, rd_s]) rfl ?_
  rintro ⟨i, u, A1⟩ ⟨hi, hu⟩
  simp only at hi hu
  by_cases hlt : i < f.length
  · obtain ⟨z, hz⟩ : ∃ z, f[i]? = some z := ⟨_, List.getElem?_eq_getElem hlt⟩
    have hlt' : (i : Int) < f.length := by omega
    have hvz := (vz_iff z).1 (all_get h.2 hz)
    have hb := len_bound (good_take h i)
    have hb' := len_units (good_take h i).2
    have hl6 := h.1
    simp -implicitDefEqProofs -dsimp (disch := omega) only [↓AW_skip, ↓AW_ops, ↓AW_seq, ↓AW_cond, ↓AW_block, ↓AOps_nil, ↓AOps_pu, on_some, condB_t, ↓then_normal, pval, rd_S, rd_C, put_S, ↓AW_toLoop, mk, List.foldl_cons, List.foldl_nil, List.replicate_succ, List.replicate_zero, List.set_cons_zero, List.set_cons_succ, List.getElem?_cons_zero, List.getElem?_cons_succ, Option.getD_some, bin_lss, decide_true, hlt', hf.len]
    refine LoopK.by 30 (fun x : Nat × AV × AHeap => (x.1 : Int) ≤ z.1 ∧ AccL 1 e1 A x.2.2 x.2.1 (units (f.take i) ++ List.replicate x.1 z.2)) (fun x => [(0, v), (3, x.2.1), (4, I i), (5, I x.1)]) (fun x => x.2.2) (fun x => z.1.toNat - x.1) (0, u, A1) ⟨by simp; omega, by simpa using hu⟩ rfl (by simp [Has, rd_s]) rfl ?_
    rintro ⟨k, u2, A2⟩ ⟨hk, hu2⟩
    simp only at hk hu2
    have hf2 := hf.mono hu2.pre
    by_cases hkz : (k : Int) < z.1
    · obtain ⟨u3, A3, happ, hu3⟩ := hu2.push e1_len z.2 (by simp [lim]; omega)
      simp only [e1] at happ
      simp -implicitDefEqProofs -dsimp (disch := omega) only [↓AW_skip, ↓AW_ops, ↓AW_seq, ↓AW_cond, ↓AW_block, ↓AOps_nil, ↓AOps_pu, ↓AOps_ld, ↓AOps_ha, on_some, extK_false, extK_app, condB_t, ↓then_normal, ↓inBlock_normal, pval, lval, hval, rd_S, rd_C, put_S, AV.cells?, splice, partA, fillA, repl, mk, List.foldl_cons, List.foldl_nil, List.replicate_succ, List.replicate_zero, List.set_cons_zero, List.set_cons_succ, List.getElem?_cons_zero, List.getElem?_cons_succ, List.drop_zero, List.drop_succ_cons, List.drop_nil, List.take_zero, List.take_succ_cons, List.take_nil, Option.getD_some, map_c, map_n, List.length_cons, List.length_nil, Nat.reduceAdd, Nat.reduceLeDiff, Nat.zero_add, Nat.add_zero, List.nil_append, List.append_nil, bin_add, bin_lss, w64, if_true, if_false, Bool.false_eq_true, decide_true, e2, true_and, and_true, hkz, hf2.idx hlt, hf2.ld0 hz 1 false (by decide), hf2.ld hz 1 1 false (by decide), happ]
      exact ⟨(k + 1, u3, A3), ⟨by simp only; omega, by rw [List.replicate_succ', ← List.append_assoc]; exact hu3⟩, by simp [Has, rd_s], rfl, by simp only; omega⟩
    · simp -implicitDefEqProofs -dsimp (disch := omega) only [↓AW_ops, ↓AW_seq, ↓AW_cond, ↓AW_exit, ↓AW_ret, ↓AOps_nil, ↓AOps_pu, ↓AOps_ld, on_some, condB_f, ↓then_normal, ↓then_exit, ↓inBlock_normal, ↓inBlock_exit, ↓Fin_ret, pval, lval, rd_S, rd_C, put_S, resV, resL, partA, mk, List.foldl_cons, List.foldl_nil, List.replicate_succ, List.replicate_zero, List.set_cons_zero, List.set_cons_succ, List.getElem?_cons_zero, List.getElem?_cons_succ, List.drop_zero, List.take_zero, List.take_succ_cons, Option.getD_some, List.length_cons, List.length_nil, Nat.reduceAdd, Nat.reduceLeDiff, Nat.reduceEqDiff, Nat.zero_add, Nat.add_zero, bin_add, bin_lss, w64, if_true, if_false, Bool.false_eq_true, decide_false, e2, true_and, reduceCtorEq, hkz, hf2.idx hlt, hf2.ld0 hz 1 false (by decide)]
      have hkz' : k = z.1.toNat := by omega
      subst hkz'
      exact ⟨(i + 1, u2, A2), ⟨hlt, by rw [units_take hz]; exact hu2⟩, by simp [Has, rd_s], rfl, by simp only; omega⟩
  · have hlt' : ¬ ((i : Int) < f.length) := by omega
    simp -implicitDefEqProofs -dsimp (disch := omega) only [↓AW_ops, ↓AW_seq, ↓AW_cond, ↓AW_exit, ↓AW_ret, ↓AOps_nil, ↓AOps_pu, on_some, condB_f, ↓then_normal, ↓then_exit, ↓inBlock_exit, ↓Fin_ret, pval, rd_S, put_S, resV, resL, mk, List.foldl_cons, List.foldl_nil, List.replicate_succ, List.replicate_zero, List.set_cons_zero, List.set_cons_succ, List.getElem?_cons_zero, List.getElem?_cons_succ, Option.getD_some, bin_lss, if_true, decide_false, hlt', hf.len]
    rw [List.take_of_length_le (by omega)] at hu
    exact hu.gc flat_e1
end Go.Proofs.Ytnnbggcckabhdaa

namespace Go.Proofs.Ytnnbggcckabhdaa
open Go Go.Eng
def nrm (a b : Int) : AV := .agg [I (a.tdiv (Int.gcd a b)), I (b.tdiv (Int.gcd a b))]
def zeroR : AV := .agg [I 0, I 0]
end Go.Proofs.Ytnnbggcckabhdaa

namespace Go.Proofs.Ytnnbggcckabhdaa
open Go Go.Eng
abbrev R (q : Rat) : AV := .agg [I q.num, I (q.den : Int)]
/-- A fraction with which words do not overflow. -/
def Sm (q : Rat) : Prop := (-1099511627776 ≤ q.num ∧ q.num ≤ 1099511627776) ∧ (q.den : Int) ≤ 1048576
theorem tdiv_eq {n : Int} {g : Nat} (h : (g : Int) ∣ n) : n.tdiv g = n / g := by
  rw [Int.tdiv_eq_ediv_of_dvd h]
theorem den_pos (q : Rat) : 0 < (q.den : Int) := by have := q.den_pos; omega
theorem nrm_R (n d : Int) (hd : 0 < d) : nrm n d = R ((n : Rat) / (d : Rat)) := by
  have h0 : d.toNat ≠ 0 := by omega
  have hg : d.toNat.gcd n.natAbs = Int.gcd n d := by
    unfold Int.gcd
    rw [Nat.gcd_comm]; congr 1; omega
  have e : (n : Rat) / (d : Rat) = mkRat n d.toNat := by
    rw [Rat.mkRat_eq_div]
    have : ((d.toNat : Nat) : Rat) = ((d : Int) : Rat) := by
      rw [← Rat.intCast_natCast, Int.toNat_of_nonneg (by omega)]
    rw [this]
  rw [e]
  unfold nrm
  have h1 : (mkRat n d.toNat).num = n.tdiv (Int.gcd n d) := by
    rw [Rat.num_mkRat, if_neg h0, hg, tdiv_eq (Int.gcd_dvd_left n d)]
  have h2 : ((mkRat n d.toNat).den : Int) = d.tdiv (Int.gcd n d) := by
    rw [Rat.den_mkRat, if_neg h0, hg, tdiv_eq (Int.gcd_dvd_right n d), Int.natCast_ediv]
    congr 1; omega
  show _ = AV.agg [I (mkRat n d.toNat).num, I ((mkRat n d.toNat).den : Int)]
  rw [h1, h2]
theorem R_self (q : Rat) : q = (q.num : Rat) / ((q.den : Int) : Rat) := by
  have := Rat.mkRat_self q
  rw [Rat.mkRat_eq_div] at this
  rw [Rat.intCast_natCast]
  exact this.symm
theorem s64R {a b : Int} (A : AHeap) (ha : W a) (hb0 : 0 < b) (hb : b ≤ 9223372036854775807) : ACalls Try.prog 64 [I a, I b] A (R ((a : Rat) / (b : Rat))) A := by
  rw [← nrm_R a b hb0]; exact s64 A ha hb0 hb
theorem s69R {a b : Int} (A : AHeap) (ha : W a) (ha' : a ≠ -9223372036854775808) (hb0 : 0 < b) (hb : b ≤ 9223372036854775807) : ACalls Try.prog 69 [I a, I b] A (R ((a : Rat) / (b : Rat))) A := by
  rw [← nrm_R a b hb0]; exact s69 A ha ha' hb0 hb
theorem mul_bound {x y X Y : Int} (hx : -X ≤ x ∧ x ≤ X) (hy : 0 ≤ y ∧ y ≤ Y) : -(X * Y) ≤ x * y ∧ x * y ≤ X * Y := by
  have hX : 0 ≤ X := by omega
  have h1 : x * y ≤ X * y := Int.mul_le_mul_of_nonneg_right hx.2 hy.1
  have h2 : X * y ≤ X * Y := Int.mul_le_mul_of_nonneg_left hy.2 hX
  have h3 : -X * y ≤ x * y := Int.mul_le_mul_of_nonneg_right hx.1 hy.1
  rw [Int.neg_mul] at h3
  omega
/-- The parts of a sum. -/
theorem add_parts (p q : Rat) (hp : Sm p) (hq : Sm q) :
    ∃ d1 d2 : Int, (p.den : Int).tdiv (Int.gcd p.den q.den) = d1 ∧ (q.den : Int).tdiv (Int.gcd p.den q.den) = d2 ∧ (0 < d1 ∧ d1 ≤ 1048576) ∧ (0 < d2 ∧ d2 ≤ 1048576) ∧
      ((p.num * d2 + q.num * d1 : Int) : Rat) / ((d1 * q.den : Int) : Rat) = p + q := by
  have hp0 := den_pos p
  have hq0 := den_pos q
  have hg : 0 < Int.gcd p.den q.den := Int.gcd_pos_of_ne_zero_right _ (by omega)
  obtain ⟨d1, h1⟩ := Int.gcd_dvd_left (p.den : Int) (q.den : Int)
  obtain ⟨d2, h2⟩ := Int.gcd_dvd_right (p.den : Int) (q.den : Int)
  generalize (Int.gcd p.den q.den : Nat) = g at *
  have hg' : (0 : Int) < (g : Int) := by omega
  have p1 : 0 < d1 := by
    rcases Int.lt_or_le 0 d1 with h | h
    · exact h
    · have := Int.mul_nonpos_of_nonneg_of_nonpos (Int.le_of_lt hg') h; omega
  have p2 : 0 < d2 := by
    rcases Int.lt_or_le 0 d2 with h | h
    · exact h
    · have := Int.mul_nonpos_of_nonneg_of_nonpos (Int.le_of_lt hg') h; omega
  have b1 : d1 ≤ (g : Int) * d1 := by have := Int.mul_le_mul_of_nonneg_right (show (1 : Int) ≤ g by omega) (Int.le_of_lt p1); omega
  have b2 : d2 ≤ (g : Int) * d2 := by have := Int.mul_le_mul_of_nonneg_right (show (1 : Int) ≤ g by omega) (Int.le_of_lt p2); omega
  refine ⟨d1, d2, by rw [h1, Int.mul_tdiv_cancel_left _ (by omega)], by rw [h2, Int.mul_tdiv_cancel_left _ (by omega)], ⟨p1, by have := hp.2; omega⟩, ⟨p2, by have := hq.2; omega⟩, ?_⟩
  have e1 := R_self p
  have e2 := R_self q
  rw [h1, Rat.intCast_mul] at e1
  rw [h2, Rat.intCast_mul] at e2
  rw [h2]
  simp only [Rat.intCast_add, Rat.intCast_mul]
  have n1 : (d1 : Rat) ≠ 0 := by intro h; have : d1 = 0 := Rat.intCast_inj.1 (by simpa using h); omega
  have n2 : (d2 : Rat) ≠ 0 := by intro h; have : d2 = 0 := Rat.intCast_inj.1 (by simpa using h); omega
  have n3 : ((g : Int) : Rat) ≠ 0 := by intro h; have : (g : Int) = 0 := Rat.intCast_inj.1 (by simpa using h); omega
  generalize (p.num : Rat) = a at *
  generalize (q.num : Rat) = b at *
  generalize (d1 : Rat) = x at *
  generalize (d2 : Rat) = y at *
  generalize ((g : Int) : Rat) = z at *
  subst e1
  grind
theorem s109 (p q : Rat) (A : AHeap) (hp : Sm p) (hq : Sm q) : ACalls Try.prog 109 [R p, R q] A (R (p + q)) A := by
  refine acalls hmix Try.func109 (by kernel_rfl) t109 2 rfl (by decide) ?_
  have hp0 := den_pos p
  have hq0 := den_pos q
  obtain ⟨d1, d2, e1, e2, b1, b2, e3⟩ := add_parts p q hp hq
  obtain ⟨⟨l1, l2⟩, l3⟩ := hp
  obtain ⟨⟨l4, l5⟩, l6⟩ := hq
  have m1 := mul_bound (x := p.num) (y := d2) (X := 1099511627776) (Y := 1048576) ⟨l1, l2⟩ ⟨by omega, b2.2⟩
  have m2 := mul_bound (x := q.num) (y := d1) (X := 1099511627776) (Y := 1048576) ⟨l4, l5⟩ ⟨by omega, b1.2⟩
  have m3 := mul_bound (x := d1) (y := q.den) (X := 1048576) (Y := 1048576) ⟨by omega, b1.2⟩ ⟨by omega, l6⟩
  have m4 : 0 < d1 * q.den := Int.mul_pos b1.1 hq0
  have hg : 0 < Int.gcd p.den q.den := Int.gcd_pos_of_ne_zero_right _ (by omega)
  have hg0 : ¬ (Int.gcd p.den q.den : Int) = 0 := by omega
  dsimp only [m109]
  simp (maxSteps := 4000000) -implicitDefEqProofs -dsimp (disch := omega) only [↓AW_ops, ↓AW_seq, ↓AOps_nil, ↓AOps_pu, ↓AOps_call, on_some, ↓then_normal, pval, rd_S, rd_C, put_S, chkd, isAdr, bgot, AV.cells?, partA, eq_self, List.replicate_succ, List.replicate_zero, List.set_cons_zero, List.set_cons_succ, List.getElem?_cons_zero, List.getElem?_cons_succ, List.drop_zero, List.drop_succ_cons, List.take_succ_cons, List.take_nil, Option.getD_some, map_c, map_n, List.length_cons, List.length_nil, Nat.reduceAdd, Nat.reduceSub, Nat.reduceLeDiff, Nat.zero_add, List.cons_append, List.nil_append, if_true, if_false, Bool.false_eq_true]
  refine CallK.of (s101 _ ⟨by omega, by omega⟩ hq0 (by omega)) ?_
  simp (maxSteps := 4000000) -implicitDefEqProofs -dsimp (disch := omega) only [↓AW_ops, ↓AW_seq, ↓AOps_nil, ↓AOps_pu, ↓AOps_call, on_some, extK_same, ↓then_normal, pval, rd_S, put_S, chkd, isAdr, bgot, AV.cells?, partA, eq_self, List.replicate_succ, List.replicate_zero, List.set_cons_zero, List.set_cons_succ, List.getElem?_cons_zero, List.getElem?_cons_succ, List.drop_zero, List.drop_succ_cons, List.take_zero, List.take_succ_cons, List.take_nil, Option.getD_some, map_c, map_n, List.length_cons, List.length_nil, Nat.reduceAdd, Nat.reduceSub, Nat.reduceLeDiff, Nat.zero_add, List.cons_append, List.nil_append, bin_add, bin_mul, bin_quo, w64, if_true, if_false, Bool.false_eq_true, hg0, e1, e2]
  refine CallK.of (s64R _ ⟨by omega, by omega⟩ m4 (by omega)) ?_
  simp (maxSteps := 4000000) -implicitDefEqProofs -dsimp (disch := omega) only [↓AW_ret, ↓AOps_nil, ↓AOps_pu, on_some, extK_same, ↓then_normal, ↓Fin_ret, pval, rd_S, put_S, resV, resL, chkd, bput, bgot, AV.cells?, splice, partA, eq_self, List.replicate_succ, List.replicate_zero, List.set_cons_zero, List.set_cons_succ, List.getElem?_cons_zero, List.getElem?_cons_succ, List.drop_zero, List.drop_succ_cons, List.drop_nil, List.take_zero, List.take_succ_cons, List.take_nil, Option.getD_some, List.length_cons, List.length_nil, Nat.reduceAdd, Nat.reduceSub, Nat.reduceLeDiff, Nat.reduceEqDiff, Nat.zero_add, List.cons_append, List.nil_append, List.append_nil, if_true, if_false, ne_eq, not_true_eq_false]
  exact gc_same (by rw [e3])
theorem neg_num (q : Rat) : (-q).num = -q.num := rfl
theorem neg_den (q : Rat) : (-q).den = q.den := rfl
theorem Sm_neg {q : Rat} (h : Sm q) : Sm (-q) := by
  obtain ⟨⟨h1, h2⟩, h3⟩ := h
  exact ⟨by rw [neg_num]; omega, h3⟩
theorem R_neg (q : Rat) : R (-q) = .agg [.int .i64 (0 - q.num), I (q.den : Int)] := by
  show AV.agg [I (-q.num), I (q.den : Int)] = _
  rw [Int.zero_sub]
theorem s106 (p q : Rat) (A : AHeap) (hp : Sm p) (hq : Sm q) : ACalls Try.prog 106 [R p, R q] A (R (p - q)) A := by
  refine acalls hmix Try.func106 (by kernel_rfl) t106 2 rfl (by decide) ?_
  obtain ⟨⟨l4, l5⟩, l6⟩ := id hq
  dsimp only [m106]
  simp (maxSteps := 4000000) -implicitDefEqProofs -dsimp (disch := omega) only [↓AW_ops, ↓AW_seq, ↓AOps_nil, ↓AOps_pu, ↓AOps_call, on_some, ↓then_normal, pval, rd_S, rd_C, put_S, chkd, isAdr, bgot, AV.cells?, splice, partA, fillA, eq_self, List.replicate_succ, List.replicate_zero, List.set_cons_zero, List.set_cons_succ, List.getElem?_cons_zero, List.getElem?_cons_succ, List.drop_zero, List.drop_succ_cons, List.drop_nil, List.take_zero, List.take_succ_cons, List.take_nil, Option.getD_some, Option.map_some, map_c, map_n, List.length_cons, List.length_nil, Nat.reduceAdd, Nat.reduceSub, Nat.reduceLeDiff, Nat.reduceEqDiff, Nat.zero_add, List.cons_append, List.nil_append, List.append_nil, w64, if_true, if_false, Bool.false_eq_true, and_true]
  have h := s109 p (-q) A hp (Sm_neg hq)
  rw [R_neg] at h
  refine CallK.of h ?_
  simp (maxSteps := 4000000) -implicitDefEqProofs -dsimp (disch := omega) only [↓AW_ret, ↓AOps_nil, ↓AOps_pu, on_some, extK_same, ↓then_normal, ↓Fin_ret, pval, rd_S, put_S, resV, resL, chkd, bput, bgot, AV.cells?, splice, partA, eq_self, List.replicate_succ, List.replicate_zero, List.set_cons_zero, List.set_cons_succ, List.getElem?_cons_zero, List.getElem?_cons_succ, List.drop_zero, List.drop_succ_cons, List.drop_nil, List.take_zero, List.take_succ_cons, List.take_nil, Option.getD_some, List.length_cons, List.length_nil, Nat.reduceAdd, Nat.reduceSub, Nat.reduceLeDiff, Nat.reduceEqDiff, Nat.zero_add, List.cons_append, List.nil_append, List.append_nil, if_true, if_false, ne_eq, not_true_eq_false]
  exact gc_same (by rw [Rat.sub_eq_add_neg])
theorem num_neg_iff (q : Rat) : q.num < 0 ↔ q < 0 := by
  rw [Rat.lt_iff]; simp
theorem num_pos_iff (q : Rat) : 0 < q.num ↔ 0 < q := by
  rw [Rat.lt_iff]; simp
theorem s72 (p q : Rat) (A : AHeap) (hp : Sm p) (hq : Sm q) : ACalls Try.prog 72 [R p, R q] A (I (p - q).num) A := by
  refine acalls hmix Try.func72 (by kernel_rfl) t72 2 rfl (by decide) ?_
  dsimp only [m72]
  simp (maxSteps := 4000000) -implicitDefEqProofs -dsimp (disch := omega) only [↓AW_ops, ↓AW_seq, ↓AOps_nil, ↓AOps_pu, ↓AOps_call, on_some, ↓then_normal, pval, rd_S, rd_C, put_S, chkd, bgot, AV.cells?, partA, eq_self, List.replicate_succ, List.replicate_zero, List.set_cons_zero, List.set_cons_succ, List.getElem?_cons_zero, List.getElem?_cons_succ, List.drop_zero, List.take_succ_cons, List.take_nil, Option.getD_some, map_c, map_n, List.length_cons, List.length_nil, Nat.reduceAdd, Nat.reduceSub, Nat.reduceLeDiff, Nat.reduceEqDiff, Nat.zero_add, List.cons_append, List.nil_append, if_true, if_false]
  refine CallK.of (s106 p q A hp hq) ?_
  simp (maxSteps := 4000000) -implicitDefEqProofs -dsimp (disch := omega) only [↓AW_ret, ↓AOps_nil, ↓AOps_pu, on_some, extK_same, ↓then_normal, ↓Fin_ret, pval, rd_S, put_S, resV, resL, partA, eq_self, List.replicate_succ, List.replicate_zero, List.set_cons_zero, List.set_cons_succ, List.getElem?_cons_zero, List.getElem?_cons_succ, List.drop_zero, List.take_zero, List.take_succ_cons, Option.getD_some, List.length_cons, List.length_nil, Nat.reduceAdd, Nat.reduceSub, Nat.reduceLeDiff, Nat.zero_add, List.cons_append, List.nil_append, if_true, if_false, Bool.false_eq_true]
  exact gc_same rfl
theorem s107 (p q : Rat) (A : AHeap) (hp : Sm p) (hq : Sm q) : ACalls Try.prog 107 [R p, R q] A (R (if q < p then p else q)) A := by
  refine acalls hmix Try.func107 (by kernel_rfl) t107 2 rfl (by decide) ?_
  dsimp only [m107]
  simp (maxSteps := 4000000) -implicitDefEqProofs -dsimp (disch := omega) only [↓AW_ops, ↓AW_seq, ↓AOps_nil, ↓AOps_pu, ↓AOps_call, on_some, ↓then_normal, pval, rd_S, rd_C, put_S, chkd, bgot, AV.cells?, partA, eq_self, List.replicate_succ, List.replicate_zero, List.set_cons_zero, List.set_cons_succ, List.getElem?_cons_zero, List.getElem?_cons_succ, List.drop_zero, List.take_succ_cons, List.take_nil, Option.getD_some, map_c, map_n, List.length_cons, List.length_nil, Nat.reduceAdd, Nat.reduceSub, Nat.reduceLeDiff, Nat.reduceEqDiff, Nat.zero_add, List.cons_append, List.nil_append, if_true, if_false]
  refine CallK.of (s72 p q A hp hq) ?_
  have : 0 < (p - q).num ↔ q < p := by rw [num_pos_iff]; constructor <;> intro h <;> grind
  by_cases h : q < p
  · have h' := this.2 h
    simp (maxSteps := 4000000) -implicitDefEqProofs -dsimp (disch := omega) only [↓AW_ops, ↓AW_seq, ↓AW_cond, ↓AW_ret, ↓AOps_nil, ↓AOps_pu, on_some, extK_same, condB_t, ↓then_normal, ↓then_ret, ↓Fin_ret, pval, rd_S, rd_C, put_S, resV, resL, chkd, bput, bgot, AV.cells?, splice, partA, eq_self, List.replicate_succ, List.replicate_zero, List.set_cons_zero, List.set_cons_succ, List.getElem?_cons_zero, List.getElem?_cons_succ, List.drop_zero, List.drop_succ_cons, List.drop_nil, List.take_zero, List.take_succ_cons, List.take_nil, Option.getD_some, List.length_cons, List.length_nil, Nat.reduceAdd, Nat.reduceSub, Nat.reduceLeDiff, Nat.reduceEqDiff, Nat.zero_add, List.cons_append, List.nil_append, List.append_nil, bin_gtr, if_true, if_false, decide_true, ne_eq, not_true_eq_false, h', h]
    exact gc_same rfl
  · have h' : ¬ 0 < (p - q).num := fun x => h (this.1 x)
    simp (maxSteps := 4000000) -implicitDefEqProofs -dsimp (disch := omega) only [↓AW_skip, ↓AW_ops, ↓AW_seq, ↓AW_cond, ↓AW_ret, ↓AOps_nil, ↓AOps_pu, on_some, extK_same, condB_f, ↓then_normal, ↓Fin_ret, pval, rd_S, rd_C, put_S, resV, resL, chkd, bput, bgot, AV.cells?, splice, partA, eq_self, List.replicate_succ, List.replicate_zero, List.set_cons_zero, List.set_cons_succ, List.getElem?_cons_zero, List.getElem?_cons_succ, List.drop_zero, List.drop_succ_cons, List.drop_nil, List.take_zero, List.take_succ_cons, List.take_nil, Option.getD_some, List.length_cons, List.length_nil, Nat.reduceAdd, Nat.reduceSub, Nat.reduceLeDiff, Nat.reduceEqDiff, Nat.zero_add, List.cons_append, List.nil_append, List.append_nil, bin_gtr, if_true, if_false, decide_false, ne_eq, not_true_eq_false, h', h]
    exact gc_same rfl
theorem s108 (p q : Rat) (A : AHeap) (hp : Sm p) (hq : Sm q) : ACalls Try.prog 108 [R p, R q] A (R (if p < q then p else q)) A := by
  refine acalls hmix Try.func108 (by kernel_rfl) t108 2 rfl (by decide) ?_
  dsimp only [m108]
  simp (maxSteps := 4000000) -implicitDefEqProofs -dsimp (disch := omega) only [↓AW_ops, ↓AW_seq, ↓AOps_nil, ↓AOps_pu, ↓AOps_call, on_some, ↓then_normal, pval, rd_S, rd_C, put_S, chkd, bgot, AV.cells?, partA, eq_self, List.replicate_succ, List.replicate_zero, List.set_cons_zero, List.set_cons_succ, List.getElem?_cons_zero, List.getElem?_cons_succ, List.drop_zero, List.take_succ_cons, List.take_nil, Option.getD_some, map_c, map_n, List.length_cons, List.length_nil, Nat.reduceAdd, Nat.reduceSub, Nat.reduceLeDiff, Nat.reduceEqDiff, Nat.zero_add, List.cons_append, List.nil_append, if_true, if_false]
  refine CallK.of (s72 p q A hp hq) ?_
  have : (p - q).num < 0 ↔ p < q := by rw [num_neg_iff]; constructor <;> intro h <;> grind
  by_cases h : p < q
  · have h' := this.2 h
    simp (maxSteps := 4000000) -implicitDefEqProofs -dsimp (disch := omega) only [↓AW_ops, ↓AW_seq, ↓AW_cond, ↓AW_ret, ↓AOps_nil, ↓AOps_pu, on_some, extK_same, condB_t, ↓then_normal, ↓then_ret, ↓Fin_ret, pval, rd_S, rd_C, put_S, resV, resL, chkd, bput, bgot, AV.cells?, splice, partA, eq_self, List.replicate_succ, List.replicate_zero, List.set_cons_zero, List.set_cons_succ, List.getElem?_cons_zero, List.getElem?_cons_succ, List.drop_zero, List.drop_succ_cons, List.drop_nil, List.take_zero, List.take_succ_cons, List.take_nil, Option.getD_some, List.length_cons, List.length_nil, Nat.reduceAdd, Nat.reduceSub, Nat.reduceLeDiff, Nat.reduceEqDiff, Nat.zero_add, List.cons_append, List.nil_append, List.append_nil, bin_lss, if_true, if_false, decide_true, ne_eq, not_true_eq_false, h', h]
    exact gc_same rfl
  · have h' : ¬ (p - q).num < 0 := fun x => h (this.1 x)
    simp (maxSteps := 4000000) -implicitDefEqProofs -dsimp (disch := omega) only [↓AW_skip, ↓AW_ops, ↓AW_seq, ↓AW_cond, ↓AW_ret, ↓AOps_nil, ↓AOps_pu, on_some, extK_same, condB_f, ↓then_normal, ↓Fin_ret, pval, rd_S, rd_C, put_S, resV, resL, chkd, bput, bgot, AV.cells?, splice, partA, eq_self, List.replicate_succ, List.replicate_zero, List.set_cons_zero, List.set_cons_succ, List.getElem?_cons_zero, List.getElem?_cons_succ, List.drop_zero, List.drop_succ_cons, List.drop_nil, List.take_zero, List.take_succ_cons, List.take_nil, Option.getD_some, List.length_cons, List.length_nil, Nat.reduceAdd, Nat.reduceSub, Nat.reduceLeDiff, Nat.reduceEqDiff, Nat.zero_add, List.cons_append, List.nil_append, List.append_nil, bin_lss, if_true, if_false, decide_false, ne_eq, not_true_eq_false, h', h]
    exact gc_same rfl
theorem s78 (n : Int) (A : AHeap) : ACalls Try.prog 78 [I n] A (R (n : Rat)) A := by
  refine acalls hmix Try.func78 (by kernel_rfl) t78 1 rfl (by decide) ?_
  dsimp only [m78]
  simp (maxSteps := 4000000) -implicitDefEqProofs -dsimp (disch := omega) only [↓AW_ops, ↓AW_seq, ↓AW_ret, ↓AOps_nil, ↓AOps_pu, on_some, ↓then_normal, ↓Fin_ret, pval, rd_S, rd_C, put_S, resV, resL, chkd, bput, bgot, AV.cells?, splice, partA, fillA, eq_self, List.replicate_succ, List.replicate_zero, List.set_cons_zero, List.set_cons_succ, List.getElem?_cons_zero, List.getElem?_cons_succ, List.drop_zero, List.drop_succ_cons, List.drop_nil, List.take_zero, List.take_succ_cons, List.take_nil, Option.getD_some, Option.map_some, map_c, map_n, List.length_cons, List.length_nil, Nat.reduceAdd, Nat.reduceSub, Nat.reduceLeDiff, Nat.reduceEqDiff, Nat.zero_add, List.cons_append, List.nil_append, List.append_nil, if_true, if_false, and_true, ne_eq, not_true_eq_false]
  exact gc_same rfl
end Go.Proofs.Ytnnbggcckabhdaa

namespace Go.Proofs.Ytnnbggcckabhdaa
open Go Go.Eng
theorem R_inj {p : Rat} {a b : Int} (h : R p = .agg [I a, I b]) : p.num = a ∧ (p.den : Int) = b := by
  injection h with h
  injection h with h1 h2
  injection h2 with h2 _
  injection h1 with _ h1
  injection h2 with _ h2
  exact ⟨h1, h2⟩
theorem ratio_le (n d : Int) (hd : 0 < d) : ((n : Rat) / (d : Rat)).num.natAbs ≤ n.natAbs ∧ (((n : Rat) / (d : Rat)).den : Int) ≤ d := by
  have h := nrm_R n d hd
  obtain ⟨h1, h2⟩ := R_inj h.symm
  rw [h1, h2]
  refine ⟨by rw [Int.natAbs_tdiv]; exact Nat.div_le_self _ _, ?_⟩
  have h3 : (d.tdiv (Int.gcd n d)).natAbs ≤ d.natAbs := by rw [Int.natAbs_tdiv]; exact Nat.div_le_self _ _
  omega
theorem cast_ne {d : Int} (h : d ≠ 0) : (d : Rat) ≠ 0 := fun e => h (Rat.intCast_inj.1 (by simpa using e))
theorem mul_parts (a : Rat) (n : Int) : ((a.num * ((n : Rat) / ((a.den : Int) : Rat)).num : Int) : Rat) / ((((n : Rat) / ((a.den : Int) : Rat)).den : Int) : Rat) = a * n := by
  have h1 := R_self a
  have h2 := R_self ((n : Rat) / ((a.den : Int) : Rat))
  have h3 := cast_ne (show ((a.den : Int)) ≠ 0 by have := den_pos a; omega)
  generalize hf : ((n : Rat) / ((a.den : Int) : Rat)) = f at *
  have h4 := cast_ne (show ((f.den : Int)) ≠ 0 by have := den_pos f; omega)
  rw [Rat.intCast_mul]
  generalize ((f.num : Int) : Rat) = fn at *
  generalize ((f.den : Int) : Rat) = fd at *
  generalize ((a.num : Int) : Rat) = an at *
  generalize ((a.den : Int) : Rat) = ad at *
  grind
theorem s79 (r : Int × Int) (most : Int) (A : AHeap) (h : W r.1) (hm : most ≤ 1048576) : ACalls Try.prog 79 [.agg [I r.1, I r.2], I most] A (B (decide ((1 ≤ r.2 ∧ r.2 ≤ most) ∧ Int.gcd r.1 r.2 = 1))) A := by
  refine acalls hmix Try.func79 (by kernel_rfl) t79 2 rfl (by decide) ?_
  by_cases h1 : 1 ≤ r.2
  · by_cases h2 : r.2 ≤ most
    · dsimp only [m79]
      simp (maxSteps := 4000000) -implicitDefEqProofs -dsimp (disch := omega) only [↓AW_ops, ↓AW_seq, ↓AOps_nil, ↓AOps_pu, ↓AOps_call, ↓AOps_guard, on_some, guardB_tt, ↓then_normal, pval, rd_S, rd_C, put_S, chkd, isAdr, bgot, AV.cells?, partA, eq_self, List.replicate_succ, List.replicate_zero, List.set_cons_zero, List.set_cons_succ, List.getElem?_cons_zero, List.getElem?_cons_succ, List.drop_zero, List.drop_succ_cons, List.take_zero, List.take_succ_cons, List.take_nil, Option.getD_some, map_c, map_n, List.length_cons, List.length_nil, Nat.reduceAdd, Nat.reduceSub, Nat.reduceLeDiff, Nat.zero_add, List.cons_append, List.nil_append, bin_leq, bin_geq, if_true, if_false, Bool.false_eq_true, decide_true, h1, h2]
      refine CallK.of (s101 _ h (by omega) (by omega)) ?_
      simp (maxSteps := 4000000) -implicitDefEqProofs -dsimp (disch := omega) only [↓AW_ret, ↓AOps_nil, ↓AOps_pu, ↓AOps_guard, on_some, extK_same, guardB_tt, ↓then_normal, ↓Fin_ret, pval, rd_S, rd_C, put_S, resV, resL, eq_self, List.replicate_succ, List.replicate_zero, List.set_cons_zero, List.set_cons_succ, List.getElem?_cons_zero, List.getElem?_cons_succ, Option.getD_some, Nat.reduceSub, List.cons_append, List.nil_append, bin_eql, if_true, true_and, and_true, h1, h2]
      exact gc_same (by congr 1; simp; omega)
    · dsimp only [m79]
      simp (maxSteps := 4000000) -implicitDefEqProofs -dsimp (disch := omega) only [↓AW_ops, ↓AW_seq, ↓AW_ret, ↓AOps_nil, ↓AOps_pu, ↓AOps_guard, on_some, guardB_tt, guardB_ft, skipS_some, ↓then_normal, ↓Fin_ret, pval, rd_S, rd_C, put_S, resV, resL, chkd, isAdr, bgot, AV.cells?, partA, eq_self, List.replicate_succ, List.replicate_zero, List.set_cons_zero, List.set_cons_succ, List.getElem?_cons_zero, List.getElem?_cons_succ, List.drop_zero, List.drop_succ_cons, List.take_succ_cons, List.take_nil, Option.getD_some, List.length_cons, List.length_nil, Nat.reduceAdd, Nat.reduceSub, Nat.reduceLeDiff, Nat.zero_add, List.cons_append, List.nil_append, bin_leq, bin_geq, if_true, if_false, Bool.false_eq_true, decide_true, decide_false, true_and, h1, h2]
      exact gc_same (by simp)
  · dsimp only [m79]
    simp (maxSteps := 4000000) -implicitDefEqProofs -dsimp (disch := omega) only [↓AW_ops, ↓AW_seq, ↓AW_ret, ↓AOps_nil, ↓AOps_pu, ↓AOps_guard, on_some, guardB_ft, skipS_some, ↓then_normal, ↓Fin_ret, pval, rd_S, rd_C, put_S, resV, resL, chkd, isAdr, bgot, AV.cells?, partA, eq_self, List.replicate_succ, List.replicate_zero, List.set_cons_zero, List.set_cons_succ, List.getElem?_cons_zero, List.getElem?_cons_succ, List.drop_zero, List.drop_succ_cons, List.take_succ_cons, List.take_nil, Option.getD_some, List.length_cons, List.length_nil, Nat.reduceAdd, Nat.reduceSub, Nat.reduceLeDiff, Nat.zero_add, List.cons_append, List.nil_append, bin_geq, if_true, if_false, Bool.false_eq_true, decide_false, h1]
    exact gc_same (by simp)
end Go.Proofs.Ytnnbggcckabhdaa

namespace Go.Proofs.Ytnnbggcckabhdaa
open Go Go.Eng
theorem s71 {f : List (Int × Int)} {v : AV} {A : AHeap} (hf : L2 A v f) (hg : good f) (r : Int × Int) (most : Int) (h : W r.1) (hm : most ≤ 1048576) :
    ACalls Try.prog 71 [v, .agg [I r.1, I r.2], I most] A (B (decide (((1 ≤ r.2 ∧ r.2 ≤ most) ∧ Int.gcd r.1 r.2 = 1) ∧ (0 ≤ r.1 ∧ r.1 ≤ len f * r.2)))) A := by
  refine acalls hmix Try.func71 (by kernel_rfl) t71 3 rfl (by decide) ?_
  dsimp only [m71]
  simp (maxSteps := 4000000) -implicitDefEqProofs -dsimp (disch := omega) only [↓AW_ops, ↓AW_seq, ↓AOps_nil, ↓AOps_pu, ↓AOps_call, on_some, ↓then_normal, pval, rd_S, rd_C, put_S, chkd, bgot, AV.cells?, partA, eq_self, List.replicate_succ, List.replicate_zero, List.set_cons_zero, List.set_cons_succ, List.getElem?_cons_zero, List.getElem?_cons_succ, List.drop_zero, List.take_succ_cons, List.take_nil, Option.getD_some, map_c, map_n, List.length_cons, List.length_nil, Nat.reduceAdd, Nat.reduceSub, Nat.reduceLeDiff, Nat.reduceEqDiff, Nat.zero_add, List.cons_append, List.nil_append, if_true, if_false]
  refine CallK.of (s79 r most A h hm) ?_
  by_cases h1 : (1 ≤ r.2 ∧ r.2 ≤ most) ∧ Int.gcd r.1 r.2 = 1
  · have hb := len_bound hg
    have hm2 := mul_bound (x := len f) (y := r.2) (X := 120) (Y := 1048576) (by omega) (by omega)
    simp (maxSteps := 4000000) -implicitDefEqProofs -dsimp (disch := omega) only [↓AOps_pu, ↓AOps_call, ↓AOps_guard, on_some, extK_same, guardB_tt, pval, rd_S, put_S, chkd, isAdr, bgot, AV.cells?, partA, eq_self, List.replicate_succ, List.replicate_zero, List.set_cons_zero, List.set_cons_succ, List.getElem?_cons_zero, List.getElem?_cons_succ, List.drop_zero, List.take_zero, List.take_succ_cons, Option.getD_some, map_c, map_n, List.length_cons, List.length_nil, Nat.reduceAdd, Nat.reduceSub, Nat.reduceLeDiff, Nat.zero_add, List.cons_append, List.nil_append, if_true, if_false, Bool.false_eq_true, decide_true, and_true, h1]
    refine CallK.of (s77 hf hg) ?_
    simp (maxSteps := 4000000) -implicitDefEqProofs -dsimp (disch := omega) only [↓AOps_pu, ↓AOps_call, ↓AOps_guard, on_some, extK_same, guardB_tt, pval, rd_S, rd_C, put_S, chkd, isAdr, bgot, AV.cells?, partA, eq_self, List.replicate_succ, List.replicate_zero, List.set_cons_zero, List.set_cons_succ, List.getElem?_cons_zero, List.getElem?_cons_succ, List.drop_zero, List.drop_succ_cons, List.take_succ_cons, List.take_nil, Option.getD_some, map_c, map_n, List.length_cons, List.length_nil, Nat.reduceAdd, Nat.reduceSub, Nat.reduceLeDiff, Nat.zero_add, List.cons_append, List.nil_append, bin_mul, w64, if_true, if_false, Bool.false_eq_true]
    refine CallK.of (s61 _ _ _ _) ?_
    simp (maxSteps := 4000000) -implicitDefEqProofs -dsimp (disch := omega) only [↓AW_ret, ↓AOps_nil, ↓AOps_pu, on_some, extK_same, ↓then_normal, ↓Fin_ret, pval, rd_S, rd_C, put_S, resV, resL, eq_self, List.replicate_succ, List.replicate_zero, List.set_cons_zero, List.set_cons_succ, List.getElem?_cons_zero, List.getElem?_cons_succ, Option.getD_some, Nat.reduceSub, List.cons_append, List.nil_append, if_true, decide_true, true_and, and_true, h1]
    exact gc_same rfl
  · simp (maxSteps := 4000000) -implicitDefEqProofs -dsimp (disch := omega) only [↓AW_ret, ↓AOps_nil, ↓AOps_pu, ↓AOps_guard, on_some, extK_same, guardB_ft, skipS_some, ↓then_normal, ↓Fin_ret, pval, rd_S, rd_C, put_S, resV, resL, List.replicate_succ, List.replicate_zero, List.set_cons_zero, List.set_cons_succ, List.getElem?_cons_zero, List.getElem?_cons_succ, Option.getD_some, Nat.reduceSub, List.cons_append, List.nil_append, if_false, Bool.false_eq_true, decide_false, h1]
    exact gc_same (by simp)
/-- A fraction in lowest terms is what its parts say. -/
theorem R_of {a b : Int} (hb : 0 < b) (hg : Int.gcd a b = 1) : AV.agg [I a, I b] = R ((a : Rat) / (b : Rat)) := by
  rw [← nrm_R a b hb]
  unfold nrm
  rw [hg]
  simp
theorem Sm_int {n : Int} (h : -1099511627776 ≤ n ∧ n ≤ 1099511627776) : Sm (n : Rat) := by
  refine ⟨?_, ?_⟩
  · show -1099511627776 ≤ n ∧ n ≤ 1099511627776
    exact h
  · show (1 : Int) ≤ 1048576
    decide
end Go.Proofs.Ytnnbggcckabhdaa

namespace Go.Proofs.Ytnnbggcckabhdaa
open Go Go.Eng
/-- A place of a field, as it may be asked. -/
def isP (f : List (Int × Int)) (r : Int × Int) : Prop := ((1 ≤ r.2 ∧ r.2 ≤ 1000) ∧ Int.gcd r.1 r.2 = 1) ∧ (0 ≤ r.1 ∧ r.1 ≤ len f * r.2)
instance (f : List (Int × Int)) (r : Int × Int) : Decidable (isP f r) := by unfold isP; exact inferInstance
def aE (f : List (Int × Int)) (ps : List (Int × Int)) : Int := if vE f = 0 then (if ∀ r ∈ ps, isP f r then 0 else 1) else vE f
end Go.Proofs.Ytnnbggcckabhdaa

namespace Go.Proofs.Ytnnbggcckabhdaa
open Go Go.Eng
def clamp (x lo hi : Rat) : Rat := if x < lo then lo else if hi < x then hi else x
/-- What a field that begins at 'b' is worth up to 'x'. -/
def upTo : Int → List (Int × Int) → Rat → Rat
  | _, [], _ => 0
  | b, z :: f, x => (clamp x (b : Rat) ((b + z.1 : Int) : Rat) - (b : Rat)) * (z.2 : Rat) + upTo (b + z.1) f x
/-- One zone's part of what lies between two places. -/
theorem part_eq (p q lo hi v : Rat) (h : p ≤ q) (hb : lo ≤ hi) :
    (if (if lo < p then p else lo) < (if q < hi then q else hi) then ((if q < hi then q else hi) - (if lo < p then p else lo)) * v else 0) = (clamp q lo hi - lo) * v - (clamp p lo hi - lo) * v := by
  unfold clamp
  grind
def upToU : Int → List Int → Rat → Rat
  | _, [], _ => 0
  | b, u :: us, x => (clamp x (b : Rat) ((b + 1 : Int) : Rat) - (b : Rat)) * (u : Rat) + upToU (b + 1) us x
theorem clamp_join (x a b c : Rat) (h : a ≤ b) (k : b ≤ c) : (clamp x a b - a) + (clamp x b c - b) = clamp x a c - a := by
  unfold clamp
  grind
theorem upToU_rep (v : Int) (us : List Int) (x : Rat) : ∀ (n : Nat) (b : Int), upToU b (List.replicate n v ++ us) x = (clamp x (b : Rat) ((b + n : Int) : Rat) - (b : Rat)) * (v : Rat) + upToU (b + n) us x
  | 0, b => by
    have : clamp x (b : Rat) (b : Rat) = (b : Rat) := by unfold clamp; grind
    simp [this]
    grind
  | n + 1, b => by
    rw [List.replicate_succ, List.cons_append, upToU, upToU_rep v us x n (b + 1)]
    have e : b + 1 + (n : Int) = b + ((n + 1 : Nat) : Int) := by omega
    rw [e]
    have h1 : (b : Rat) ≤ ((b + 1 : Int) : Rat) := Rat.intCast_le_intCast.2 (by omega)
    have h2 : ((b + 1 : Int) : Rat) ≤ ((b + ((n + 1 : Nat) : Int) : Int) : Rat) := Rat.intCast_le_intCast.2 (by omega)
    have := clamp_join x _ _ _ h1 h2
    grind
theorem upTo_units (x : Rat) : ∀ (f : List (Int × Int)) (b : Int), f.all vz = true → upToU b (units f) x = upTo b f x
  | [], _, _ => rfl
  | z :: f, b, h => by
    simp only [List.all_cons, Bool.and_eq_true] at h
    have hz := (vz_iff z).1 h.1
    have e : ((z.1.toNat : Nat) : Int) = z.1 := Int.toNat_of_nonneg (by omega)
    have : units (z :: f) = List.replicate z.1.toNat z.2 ++ units f := rfl
    rw [this, upToU_rep, e, upTo_units x f _ h.2, upTo]
end Go.Proofs.Ytnnbggcckabhdaa

namespace Go.Proofs.Ytnnbggcckabhdaa
open Go Go.Eng
/-- The fraction times 'D' is a whole number. -/
def Dv (D : Int) (q : Rat) : Prop := ∃ k : Int, q * (D : Rat) = (k : Rat)
theorem Dv_self (q : Rat) : Dv q.den q := by
  refine ⟨q.num, ?_⟩
  have h := R_self q
  have h3 := cast_ne (show ((q.den : Int)) ≠ 0 by have := den_pos q; omega)
  generalize ((q.num : Int) : Rat) = n at *
  generalize ((q.den : Int) : Rat) = d at *
  grind
theorem Dv_int (D n : Int) : Dv D (n : Rat) := ⟨n * D, by rw [Rat.intCast_mul]⟩
theorem Dv.add {D : Int} {p q : Rat} (hp : Dv D p) (hq : Dv D q) : Dv D (p + q) := by
  obtain ⟨a, ha⟩ := hp
  obtain ⟨b, hb⟩ := hq
  exact ⟨a + b, by rw [Rat.intCast_add]; grind⟩
theorem Dv.sub {D : Int} {p q : Rat} (hp : Dv D p) (hq : Dv D q) : Dv D (p - q) := by
  obtain ⟨a, ha⟩ := hp
  obtain ⟨b, hb⟩ := hq
  exact ⟨a - b, by rw [Rat.intCast_sub]; grind⟩
theorem Dv.mul {D : Int} {p : Rat} (hp : Dv D p) (n : Int) : Dv D (p * n) := by
  obtain ⟨a, ha⟩ := hp
  exact ⟨a * n, by rw [Rat.intCast_mul]; grind⟩
theorem Dv.dvd {D E : Int} {p : Rat} (hp : Dv D p) (h : D ∣ E) : Dv E p := by
  obtain ⟨a, ha⟩ := hp
  obtain ⟨c, rfl⟩ := h
  exact ⟨a * c, by rw [Rat.intCast_mul, Rat.intCast_mul]; grind⟩
theorem rat_le_int {p : Rat} {D k n : Int} (hD : 0 < D) (hk : p * (D : Rat) = (k : Rat)) (h : p ≤ (n : Rat)) : k ≤ n * D := by
  have hD' : (0 : Rat) ≤ (D : Rat) := by rw [show (0 : Rat) = ((0 : Int) : Rat) from rfl]; exact Rat.intCast_le_intCast.2 (by omega)
  have := Rat.mul_le_mul_of_nonneg_right h hD'
  rw [hk, ← Rat.intCast_mul] at this
  exact Rat.intCast_le_intCast.1 this
theorem int_le_rat {p : Rat} {D k n : Int} (hD : 0 < D) (hk : p * (D : Rat) = (k : Rat)) (h : (n : Rat) ≤ p) : n * D ≤ k := by
  have hD' : (0 : Rat) ≤ (D : Rat) := by rw [show (0 : Rat) = ((0 : Int) : Rat) from rfl]; exact Rat.intCast_le_intCast.2 (by omega)
  have := Rat.mul_le_mul_of_nonneg_right h hD'
  rw [hk, ← Rat.intCast_mul] at this
  exact Rat.intCast_le_intCast.1 this
/-- With a denominator, and bounds, a fraction is small. -/
theorem num_le {D M : Int} {q : Rat} (hD : 0 < D) (h : Dv D q) (h0 : ((-M : Int) : Rat) ≤ q) (h1 : q ≤ (M : Rat)) : (q.num.natAbs : Int) ≤ M * D ∧ (q.den : Int) ≤ D := by
  obtain ⟨k, hk⟩ := h
  have e : q = (k : Rat) / (D : Rat) := by have := cast_ne (show D ≠ 0 by omega); grind
  have h2 := rat_le_int hD hk h1
  have h3 := int_le_rat hD hk h0
  have h4 := ratio_le k D hD
  rw [← e] at h4
  rw [Int.neg_mul] at h3
  omega
theorem int0 : ((0 : Int) : Rat) = 0 := rfl
/-- What lies before a place is not much. -/
theorem clamp_bounds (x a b : Rat) (h : a ≤ b) : a ≤ clamp x a b ∧ clamp x a b ≤ b := by
  unfold clamp
  grind
theorem upToU_bounds : ∀ (us : List Int) (b : Int) (x : Rat), (∀ y ∈ us, 0 ≤ y ∧ y ≤ 20) → 0 ≤ upToU b us x ∧ upToU b us x ≤ ((20 * us.length : Int) : Rat)
  | [], b, x, _ => by simp only [upToU, List.length_nil]; exact ⟨Rat.le_refl, Rat.le_refl⟩
  | u :: us, b, x, h => by
    have ih := upToU_bounds us (b + 1) x (fun y hy => h y (by simp [hy]))
    have hu := h u (by simp)
    have h1 : (b : Rat) ≤ ((b + 1 : Int) : Rat) := Rat.intCast_le_intCast.2 (by omega)
    have hc := clamp_bounds x _ _ h1
    have u0 : (0 : Rat) ≤ (u : Rat) := by rw [← int0]; exact Rat.intCast_le_intCast.2 hu.1
    have u1 : (u : Rat) ≤ ((20 : Int) : Rat) := Rat.intCast_le_intCast.2 hu.2
    have e1 : ((b + 1 : Int) : Rat) = (b : Rat) + 1 := by rw [Rat.intCast_add]; rfl
    have e2 : ((20 * ((u :: us).length : Int) : Int) : Rat) = ((20 : Int) : Rat) + ((20 * (us.length : Int) : Int) : Rat) := by
      rw [← Rat.intCast_add]; congr 1; simp; omega
    rw [e2, upToU]
    generalize clamp x (b : Rat) ((b + 1 : Int) : Rat) = c at *
    have d0 : 0 ≤ c - (b : Rat) := by grind
    have d1 : c - (b : Rat) ≤ 1 := by grind
    have p0 := Rat.mul_nonneg d0 u0
    have p1 := Rat.mul_le_mul_of_nonneg_right d1 u0
    rw [Rat.one_mul] at p1
    grind
theorem clamp_Dv {D : Int} {x : Rat} (hx : Dv D x) (a b : Int) : Dv D (clamp x a b) := by
  unfold clamp
  split
  · exact Dv_int _ _
  · split
    · exact Dv_int _ _
    · exact hx
theorem int_neg_le_zero {q : Rat} {M : Int} (hM : 0 ≤ M) (h : 0 ≤ q) : ((-M : Int) : Rat) ≤ q := Rat.le_trans (by rw [← int0]; exact Rat.intCast_le_intCast.2 (by omega)) h
end Go.Proofs.Ytnnbggcckabhdaa

namespace Go.Proofs.Ytnnbggcckabhdaa
open Go Go.Eng
/-- The parts of a sum. -/
theorem add_partsG (p q : Rat) :
    ∃ d1 d2 : Int, (p.den : Int).tdiv (Int.gcd p.den q.den) = d1 ∧ (q.den : Int).tdiv (Int.gcd p.den q.den) = d2 ∧ (0 < d1 ∧ d1 ≤ p.den) ∧ (0 < d2 ∧ d2 ≤ q.den) ∧
      ((p.num * d2 + q.num * d1 : Int) : Rat) / ((d1 * q.den : Int) : Rat) = p + q := by
  have hp0 := den_pos p
  have hq0 := den_pos q
  have hg : 0 < Int.gcd p.den q.den := Int.gcd_pos_of_ne_zero_right _ (by omega)
  obtain ⟨d1, h1⟩ := Int.gcd_dvd_left (p.den : Int) (q.den : Int)
  obtain ⟨d2, h2⟩ := Int.gcd_dvd_right (p.den : Int) (q.den : Int)
  generalize (Int.gcd p.den q.den : Nat) = g at *
  have hg' : (0 : Int) < (g : Int) := by omega
  have p1 : 0 < d1 := by
    rcases Int.lt_or_le 0 d1 with h | h
    · exact h
    · have := Int.mul_nonpos_of_nonneg_of_nonpos (Int.le_of_lt hg') h; omega
  have p2 : 0 < d2 := by
    rcases Int.lt_or_le 0 d2 with h | h
    · exact h
    · have := Int.mul_nonpos_of_nonneg_of_nonpos (Int.le_of_lt hg') h; omega
  have b1 : d1 ≤ (g : Int) * d1 := by have := Int.mul_le_mul_of_nonneg_right (show (1 : Int) ≤ g by omega) (Int.le_of_lt p1); omega
  have b2 : d2 ≤ (g : Int) * d2 := by have := Int.mul_le_mul_of_nonneg_right (show (1 : Int) ≤ g by omega) (Int.le_of_lt p2); omega
  refine ⟨d1, d2, by rw [h1, Int.mul_tdiv_cancel_left _ (by omega)], by rw [h2, Int.mul_tdiv_cancel_left _ (by omega)], ⟨p1, by omega⟩, ⟨p2, by omega⟩, ?_⟩
  have e1 := R_self p
  have e2 := R_self q
  rw [h1, Rat.intCast_mul] at e1
  rw [h2, Rat.intCast_mul] at e2
  rw [h2]
  simp only [Rat.intCast_add, Rat.intCast_mul]
  have n1 : (d1 : Rat) ≠ 0 := cast_ne (by omega)
  have n2 : (d2 : Rat) ≠ 0 := cast_ne (by omega)
  have n3 : ((g : Int) : Rat) ≠ 0 := cast_ne (by omega)
  generalize (p.num : Rat) = a at *
  generalize (q.num : Rat) = b at *
  generalize (d1 : Rat) = x at *
  generalize (d2 : Rat) = y at *
  generalize ((g : Int) : Rat) = z at *
  subst e1
  grind
/-- Two fractions that can be added. -/
def Fit (p q : Rat) : Prop := p.num.natAbs * q.den + q.num.natAbs * p.den ≤ 4611686018427387904 ∧ p.den * q.den ≤ 4611686018427387904
theorem Fit.facts {p q : Rat} (h : Fit p q) {d1 d2 : Int} (b1 : 0 < d1 ∧ d1 ≤ p.den) (b2 : 0 < d2 ∧ d2 ≤ q.den) :
    ((p.num * d2).natAbs + (q.num * d1).natAbs ≤ 4611686018427387904 ∧ 0 < d1 * q.den ∧ d1 * q.den ≤ 4611686018427387904) ∧ p.num.natAbs ≤ 4611686018427387904 ∧ q.num.natAbs ≤ 4611686018427387904 ∧ p.den ≤ 4611686018427387904 ∧ q.den ≤ 4611686018427387904 := by
  have hp0 := p.den_pos
  have hq0 := q.den_pos
  have m1 : (p.num * d2).natAbs ≤ p.num.natAbs * q.den := by rw [Int.natAbs_mul]; exact Nat.mul_le_mul_left _ (by omega)
  have m2 : (q.num * d1).natAbs ≤ q.num.natAbs * p.den := by rw [Int.natAbs_mul]; exact Nat.mul_le_mul_left _ (by omega)
  have m3 : 0 < d1 * q.den := Int.mul_pos b1.1 (by omega)
  have m4 : d1 * q.den ≤ (p.den : Int) * q.den := Int.mul_le_mul_of_nonneg_right b1.2 (by omega)
  have m5 : p.num.natAbs * 1 ≤ p.num.natAbs * q.den := Nat.mul_le_mul_left _ hq0
  have m6 : q.num.natAbs * 1 ≤ q.num.natAbs * p.den := Nat.mul_le_mul_left _ hp0
  have m7 : p.den * 1 ≤ p.den * q.den := Nat.mul_le_mul_left _ hq0
  have m8 : 1 * q.den ≤ p.den * q.den := Nat.mul_le_mul_right _ hp0
  have h1 := h.1
  have h2 := h.2
  have m9 : (p.den : Int) * q.den ≤ 4611686018427387904 := by rw [← Int.natCast_mul]; omega
  omega
theorem s109g (p q : Rat) (A : AHeap) (h : Fit p q) : ACalls Try.prog 109 [R p, R q] A (R (p + q)) A := by
  refine acalls hmix Try.func109 (by kernel_rfl) t109 2 rfl (by decide) ?_
  have hp0 := den_pos p
  have hq0 := den_pos q
  obtain ⟨d1, d2, e1, e2, b1, b2, e3⟩ := add_partsG p q
  obtain ⟨⟨l1, l2, l3⟩, l4, l5, l6, l7⟩ := h.facts b1 b2
  have hg : 0 < Int.gcd p.den q.den := Int.gcd_pos_of_ne_zero_right _ (by omega)
  have hg0 : ¬ (Int.gcd p.den q.den : Int) = 0 := by omega
  dsimp only [m109]
  simp (maxSteps := 4000000) -implicitDefEqProofs -dsimp (disch := omega) only [↓AW_ops, ↓AW_seq, ↓AOps_nil, ↓AOps_pu, ↓AOps_call, on_some, ↓then_normal, pval, rd_S, rd_C, put_S, chkd, isAdr, bgot, AV.cells?, partA, eq_self, List.replicate_succ, List.replicate_zero, List.set_cons_zero, List.set_cons_succ, List.getElem?_cons_zero, List.getElem?_cons_succ, List.drop_zero, List.drop_succ_cons, List.take_succ_cons, List.take_nil, Option.getD_some, map_c, map_n, List.length_cons, List.length_nil, Nat.reduceAdd, Nat.reduceSub, Nat.reduceLeDiff, Nat.zero_add, List.cons_append, List.nil_append, if_true, if_false, Bool.false_eq_true]
  refine CallK.of (s101 _ ⟨by omega, by omega⟩ hq0 (by omega)) ?_
  simp (maxSteps := 4000000) -implicitDefEqProofs -dsimp (disch := omega) only [↓AW_ops, ↓AW_seq, ↓AOps_nil, ↓AOps_pu, ↓AOps_call, on_some, extK_same, ↓then_normal, pval, rd_S, put_S, chkd, isAdr, bgot, AV.cells?, partA, eq_self, List.replicate_succ, List.replicate_zero, List.set_cons_zero, List.set_cons_succ, List.getElem?_cons_zero, List.getElem?_cons_succ, List.drop_zero, List.drop_succ_cons, List.take_zero, List.take_succ_cons, List.take_nil, Option.getD_some, map_c, map_n, List.length_cons, List.length_nil, Nat.reduceAdd, Nat.reduceSub, Nat.reduceLeDiff, Nat.zero_add, List.cons_append, List.nil_append, bin_add, bin_mul, bin_quo, w64, if_true, if_false, Bool.false_eq_true, hg0, e1, e2]
  refine CallK.of (s64R _ ⟨by omega, by omega⟩ l2 (by omega)) ?_
  simp (maxSteps := 4000000) -implicitDefEqProofs -dsimp (disch := omega) only [↓AW_ret, ↓AOps_nil, ↓AOps_pu, on_some, extK_same, ↓then_normal, ↓Fin_ret, pval, rd_S, put_S, resV, resL, chkd, bput, bgot, AV.cells?, splice, partA, eq_self, List.replicate_succ, List.replicate_zero, List.set_cons_zero, List.set_cons_succ, List.getElem?_cons_zero, List.getElem?_cons_succ, List.drop_zero, List.drop_succ_cons, List.drop_nil, List.take_zero, List.take_succ_cons, List.take_nil, Option.getD_some, List.length_cons, List.length_nil, Nat.reduceAdd, Nat.reduceSub, Nat.reduceLeDiff, Nat.reduceEqDiff, Nat.zero_add, List.cons_append, List.nil_append, List.append_nil, if_true, if_false, ne_eq, not_true_eq_false]
  exact gc_same (by rw [e3])
theorem s27g (p q : Rat) (A : AHeap) (h : Fit p q) : ACalls Try.prog 27 [R p, R q] A (R (p + q)) A := by
  refine acalls hmix Try.func27 (by kernel_rfl) t27 2 rfl (by decide) ?_
  have hp0 := den_pos p
  have hq0 := den_pos q
  obtain ⟨d1, d2, e1, e2, b1, b2, e3⟩ := add_partsG p q
  obtain ⟨⟨l1, l2, l3⟩, l4, l5, l6, l7⟩ := h.facts b1 b2
  have hg : 0 < Int.gcd p.den q.den := Int.gcd_pos_of_ne_zero_right _ (by omega)
  have hg0 : ¬ (Int.gcd p.den q.den : Int) = 0 := by omega
  dsimp only [m27]
  simp (maxSteps := 4000000) -implicitDefEqProofs -dsimp (disch := omega) only [↓AW_ops, ↓AW_seq, ↓AOps_nil, ↓AOps_pu, ↓AOps_call, on_some, ↓then_normal, pval, rd_S, rd_C, put_S, chkd, isAdr, bgot, AV.cells?, partA, eq_self, List.replicate_succ, List.replicate_zero, List.set_cons_zero, List.set_cons_succ, List.getElem?_cons_zero, List.getElem?_cons_succ, List.drop_zero, List.drop_succ_cons, List.take_succ_cons, List.take_nil, Option.getD_some, map_c, map_n, List.length_cons, List.length_nil, Nat.reduceAdd, Nat.reduceSub, Nat.reduceLeDiff, Nat.zero_add, List.cons_append, List.nil_append, if_true, if_false, Bool.false_eq_true]
  refine CallK.of (s76 _ ⟨by omega, by omega⟩ (by omega) hq0 (by omega)) ?_
  simp (maxSteps := 4000000) -implicitDefEqProofs -dsimp (disch := omega) only [↓AW_ops, ↓AW_seq, ↓AOps_nil, ↓AOps_pu, ↓AOps_call, on_some, extK_same, ↓then_normal, pval, rd_S, put_S, chkd, isAdr, bgot, AV.cells?, partA, eq_self, List.replicate_succ, List.replicate_zero, List.set_cons_zero, List.set_cons_succ, List.getElem?_cons_zero, List.getElem?_cons_succ, List.drop_zero, List.drop_succ_cons, List.take_zero, List.take_succ_cons, List.take_nil, Option.getD_some, map_c, map_n, List.length_cons, List.length_nil, Nat.reduceAdd, Nat.reduceSub, Nat.reduceLeDiff, Nat.zero_add, List.cons_append, List.nil_append, bin_add, bin_mul, bin_quo, w64, if_true, if_false, Bool.false_eq_true, hg0, e1, e2]
  refine CallK.of (s69R _ ⟨by omega, by omega⟩ (by omega) l2 (by omega)) ?_
  simp (maxSteps := 4000000) -implicitDefEqProofs -dsimp (disch := omega) only [↓AW_ret, ↓AOps_nil, ↓AOps_pu, on_some, extK_same, ↓then_normal, ↓Fin_ret, pval, rd_S, put_S, resV, resL, chkd, bput, bgot, AV.cells?, splice, partA, eq_self, List.replicate_succ, List.replicate_zero, List.set_cons_zero, List.set_cons_succ, List.getElem?_cons_zero, List.getElem?_cons_succ, List.drop_zero, List.drop_succ_cons, List.drop_nil, List.take_zero, List.take_succ_cons, List.take_nil, Option.getD_some, List.length_cons, List.length_nil, Nat.reduceAdd, Nat.reduceSub, Nat.reduceLeDiff, Nat.reduceEqDiff, Nat.zero_add, List.cons_append, List.nil_append, List.append_nil, if_true, if_false, ne_eq, not_true_eq_false]
  exact gc_same (by rw [e3])
theorem Fit.neg {p q : Rat} (h : Fit p q) : Fit p (-q) := by
  unfold Fit at *
  rw [neg_num, neg_den, Int.natAbs_neg]
  exact h
theorem Fit.small {p q : Rat} (h : Fit p q) : -4611686018427387904 ≤ q.num ∧ q.num ≤ 4611686018427387904 := by
  have m6 : q.num.natAbs * 1 ≤ q.num.natAbs * p.den := Nat.mul_le_mul_left _ p.den_pos
  have := h.1
  omega
theorem s106g (p q : Rat) (A : AHeap) (h : Fit p q) : ACalls Try.prog 106 [R p, R q] A (R (p - q)) A := by
  refine acalls hmix Try.func106 (by kernel_rfl) t106 2 rfl (by decide) ?_
  obtain ⟨l4, l5⟩ := h.small
  dsimp only [m106]
  simp (maxSteps := 4000000) -implicitDefEqProofs -dsimp (disch := omega) only [↓AW_ops, ↓AW_seq, ↓AOps_nil, ↓AOps_pu, ↓AOps_call, on_some, ↓then_normal, pval, rd_S, rd_C, put_S, chkd, isAdr, bgot, AV.cells?, splice, partA, fillA, eq_self, List.replicate_succ, List.replicate_zero, List.set_cons_zero, List.set_cons_succ, List.getElem?_cons_zero, List.getElem?_cons_succ, List.drop_zero, List.drop_succ_cons, List.drop_nil, List.take_zero, List.take_succ_cons, List.take_nil, Option.getD_some, Option.map_some, map_c, map_n, List.length_cons, List.length_nil, Nat.reduceAdd, Nat.reduceSub, Nat.reduceLeDiff, Nat.reduceEqDiff, Nat.zero_add, List.cons_append, List.nil_append, List.append_nil, w64, if_true, if_false, Bool.false_eq_true, and_true]
  have h := s109g p (-q) A h.neg
  rw [R_neg] at h
  refine CallK.of (h) ?_
  simp (maxSteps := 4000000) -implicitDefEqProofs -dsimp (disch := omega) only [↓AW_ret, ↓AOps_nil, ↓AOps_pu, on_some, extK_same, ↓then_normal, ↓Fin_ret, pval, rd_S, put_S, resV, resL, chkd, bput, bgot, AV.cells?, splice, partA, eq_self, List.replicate_succ, List.replicate_zero, List.set_cons_zero, List.set_cons_succ, List.getElem?_cons_zero, List.getElem?_cons_succ, List.drop_zero, List.drop_succ_cons, List.drop_nil, List.take_zero, List.take_succ_cons, List.take_nil, Option.getD_some, List.length_cons, List.length_nil, Nat.reduceAdd, Nat.reduceSub, Nat.reduceLeDiff, Nat.reduceEqDiff, Nat.zero_add, List.cons_append, List.nil_append, List.append_nil, if_true, if_false, ne_eq, not_true_eq_false]
  exact gc_same (by rw [Rat.sub_eq_add_neg])
theorem sub_neg_iff (p q : Rat) : (p - q).num < 0 ↔ p < q := by rw [num_neg_iff]; constructor <;> intro h <;> grind
theorem sub_pos_iff (p q : Rat) : 0 < (p - q).num ↔ q < p := by rw [num_pos_iff]; constructor <;> intro h <;> grind
theorem s110g (a : Rat) (n : Int) (A : AHeap) (ha : a.num.natAbs * n.natAbs ≤ 4611686018427387904) (hd : a.den ≤ 4611686018427387904) (hn : -4611686018427387904 ≤ n ∧ n ≤ 4611686018427387904) : ACalls Try.prog 110 [R a, I n] A (R (a * n)) A := by
  refine acalls hmix Try.func110 (by kernel_rfl) t110 2 rfl (by decide) ?_
  have h0 := den_pos a
  dsimp only [m110]
  simp (maxSteps := 4000000) -implicitDefEqProofs -dsimp (disch := omega) only [↓AW_ops, ↓AW_seq, ↓AOps_nil, ↓AOps_pu, ↓AOps_call, on_some, ↓then_normal, pval, rd_S, rd_C, put_S, chkd, isAdr, bgot, AV.cells?, partA, eq_self, List.replicate_succ, List.replicate_zero, List.set_cons_zero, List.set_cons_succ, List.getElem?_cons_zero, List.getElem?_cons_succ, List.drop_zero, List.drop_succ_cons, List.take_succ_cons, List.take_nil, Option.getD_some, map_c, map_n, List.length_cons, List.length_nil, Nat.reduceAdd, Nat.reduceSub, Nat.reduceLeDiff, Nat.zero_add, List.cons_append, List.nil_append, if_true, if_false, Bool.false_eq_true]
  refine CallK.of (s64R _ ⟨by omega, by omega⟩ h0 (by omega)) ?_
  have hm := mul_parts a n
  have hl := ratio_le n a.den h0
  have hp := den_pos ((n : Rat) / ((a.den : Int) : Rat))
  generalize ((n : Rat) / ((a.den : Int) : Rat)) = f at *
  have e : (a.num * f.num).natAbs ≤ a.num.natAbs * n.natAbs := by rw [Int.natAbs_mul]; exact Nat.mul_le_mul_left _ hl.1
  simp (maxSteps := 4000000) -implicitDefEqProofs -dsimp (disch := omega) only [↓AW_ops, ↓AW_seq, ↓AOps_nil, ↓AOps_pu, ↓AOps_call, on_some, extK_same, ↓then_normal, pval, rd_S, rd_C, put_S, chkd, isAdr, bput, bgot, AV.cells?, splice, partA, eq_self, List.replicate_succ, List.replicate_zero, List.set_cons_zero, List.set_cons_succ, List.getElem?_cons_zero, List.getElem?_cons_succ, List.drop_zero, List.drop_succ_cons, List.drop_nil, List.take_zero, List.take_succ_cons, List.take_nil, Option.getD_some, map_c, map_n, List.length_cons, List.length_nil, Nat.reduceAdd, Nat.reduceSub, Nat.reduceLeDiff, Nat.zero_add, List.cons_append, List.nil_append, List.append_nil, bin_mul, w64, if_true, if_false, Bool.false_eq_true, ne_eq, not_true_eq_false]
  refine CallK.of (s64R _ ⟨by omega, by omega⟩ hp (by omega)) ?_
  simp (maxSteps := 4000000) -implicitDefEqProofs -dsimp (disch := omega) only [↓AW_ret, ↓AOps_nil, ↓AOps_pu, on_some, extK_same, ↓then_normal, ↓Fin_ret, pval, rd_S, put_S, resV, resL, chkd, bput, bgot, AV.cells?, splice, partA, eq_self, List.replicate_succ, List.replicate_zero, List.set_cons_zero, List.set_cons_succ, List.getElem?_cons_zero, List.getElem?_cons_succ, List.drop_zero, List.drop_succ_cons, List.drop_nil, List.take_zero, List.take_succ_cons, List.take_nil, Option.getD_some, List.length_cons, List.length_nil, Nat.reduceAdd, Nat.reduceSub, Nat.reduceLeDiff, Nat.reduceEqDiff, Nat.zero_add, List.cons_append, List.nil_append, List.append_nil, if_true, if_false, ne_eq, not_true_eq_false]
  exact gc_same (by rw [hm])
theorem Fit_of {p q : Rat} (P Q D E : Nat) (h1 : p.num.natAbs ≤ P) (h2 : p.den ≤ D) (h3 : q.num.natAbs ≤ Q) (h4 : q.den ≤ E) (h : P * E + Q * D ≤ 4611686018427387904) (k : D * E ≤ 4611686018427387904) : Fit p q := by
  have m1 : p.num.natAbs * q.den ≤ P * E := Nat.mul_le_mul h1 h4
  have m2 : q.num.natAbs * p.den ≤ Q * D := Nat.mul_le_mul h3 h2
  have m3 : p.den * q.den ≤ D * E := Nat.mul_le_mul h2 h4
  exact ⟨by omega, by omega⟩
theorem Sm.fit {p q : Rat} (hp : Sm p) (hq : Sm q) : Fit p q := by
  obtain ⟨⟨h1, h2⟩, h3⟩ := hp
  obtain ⟨⟨h4, h5⟩, h6⟩ := hq
  exact Fit_of 1099511627776 1099511627776 1048576 1048576 (by omega) (by omega) (by omega) (by omega) (by decide) (by decide)
theorem upTo_append (x : Rat) : ∀ (f g : List (Int × Int)) (b : Int), upTo b (f ++ g) x = upTo b f x + upTo (b + len f) g x
  | [], g, b => by
    have : b + len [] = b := by simp [len, sumZ]
    rw [List.nil_append, this, upTo, Rat.zero_add]
  | z :: f, g, b => by
    have : b + len (z :: f) = b + z.1 + len f := by simp [len, sumZ]; omega
    rw [List.cons_append, upTo, upTo_append x f g (b + z.1), upTo, this, Rat.add_assoc]
theorem all_pos {f : List (Int × Int)} (h : f.all vz = true) : ∀ z ∈ f, 1 ≤ z.1 := fun z hz => ((vz_iff z).1 (List.all_eq_true.1 h z hz)).1.1
theorem len_nonneg {f : List (Int × Int)} (h : ∀ z ∈ f, 1 ≤ z.1) : 0 ≤ len f := by
  induction f with
  | nil => simp [len, sumZ]
  | cons z f ih =>
    have := ih (fun y hy => h y (by simp [hy]))
    have := h z (by simp)
    simp only [len, sumZ, List.map_cons, List.sum_cons] at *
    omega
theorem upTo_full (x : Rat) : ∀ (f : List (Int × Int)) (b : Int), (∀ z ∈ f, 1 ≤ z.1) → ((b + len f : Int) : Rat) ≤ x → upTo b f x = (tot f : Int)
  | [], b, _, _ => by simp [upTo, tot, sumZ]
  | z :: f, b, h, hx => by
    have hz := h z (by simp)
    have hn := len_nonneg (fun y hy => h y (List.mem_cons_of_mem z hy))
    have e : b + len (z :: f) = b + z.1 + len f := by simp [len, sumZ]; omega
    rw [e] at hx
    rw [upTo, upTo_full x f (b + z.1) (fun y hy => h y (by simp [hy])) hx]
    have h1 : (b : Rat) ≤ ((b + z.1 : Int) : Rat) := Rat.intCast_le_intCast.2 (by omega)
    have h2 : ((b + z.1 : Int) : Rat) ≤ ((b + z.1 + len f : Int) : Rat) := Rat.intCast_le_intCast.2 (by omega)
    have e2 : clamp x (b : Rat) ((b + z.1 : Int) : Rat) = ((b + z.1 : Int) : Rat) := by unfold clamp; grind
    have e3 : tot (z :: f) = z.1 * z.2 + tot f := by simp [tot, sumZ]
    rw [e2, e3, Rat.intCast_add, Rat.intCast_add, Rat.intCast_mul]
    grind
theorem units_le {f : List (Int × Int)} (h : f.all vz = true) : ∀ y ∈ units f, 0 ≤ y ∧ y ≤ 20 := by
  intro y hy
  obtain ⟨w, hw, hy⟩ := List.mem_flatMap.1 hy
  have := (vz_iff w).1 (List.all_eq_true.1 h w hw)
  have := (List.mem_replicate.1 hy).2
  omega
theorem upTo_bounds {f : List (Int × Int)} (h : good f) (b : Int) (x : Rat) : 0 ≤ upTo b f x ∧ upTo b f x ≤ ((2400 : Int) : Rat) := by
  rw [← upTo_units x f b h.2]
  have := upToU_bounds (units f) b x (units_le h.2)
  have hl := len_units h.2
  have hb := len_bound h
  exact ⟨this.1, Rat.le_trans this.2 (Rat.intCast_le_intCast.2 (by omega))⟩
theorem upTo_Dv {D : Int} {x : Rat} (hx : Dv D x) : ∀ (f : List (Int × Int)) (b : Int), Dv D (upTo b f x)
  | [], b => Dv_int D 0
  | z :: f, b => by
    rw [upTo]
    exact (((clamp_Dv hx _ _).sub (Dv_int _ _)).mul z.2).add (upTo_Dv hx f (b + z.1))
/-- A place of a field with which words do not overflow. -/
def Pl (f : List (Int × Int)) (q : Rat) : Prop := (0 ≤ q.num ∧ q.num ≤ len f * q.den) ∧ (q.den : Int) ≤ 1048576
theorem Pl.le {f : List (Int × Int)} {q : Rat} (h : Pl f q) : 0 ≤ q ∧ q ≤ ((len f : Int) : Rat) := by
  refine ⟨Rat.num_nonneg.1 h.1.1, ?_⟩
  rw [Rat.le_iff]
  show q.num * (1 : Int) ≤ len f * (q.den : Int)
  have := h.1.2
  omega
theorem Pl.of {f : List (Int × Int)} {q : Rat} (h0 : 0 ≤ q) (h1 : q ≤ ((len f : Int) : Rat)) (hd : (q.den : Int) ≤ 1048576) : Pl f q := by
  refine ⟨⟨Rat.num_nonneg.2 h0, ?_⟩, hd⟩
  rw [Rat.le_iff] at h1
  have h1 : q.num * (1 : Int) ≤ len f * (q.den : Int) := h1
  omega
theorem Pl.sm {f : List (Int × Int)} {q : Rat} (hg : good f) (h : Pl f q) : Sm q := by
  have hl := len_bound hg
  have hd := den_pos q
  obtain ⟨⟨h1, h2⟩, h3⟩ := h
  have : len f * q.den ≤ 120 * 1048576 := Int.mul_le_mul hl.2 h3 (by omega) (by omega)
  exact ⟨by omega, h3⟩
theorem num_zero {q : Rat} (h : q = 0) : q.num.natAbs = 0 ∧ q.den = 1 := by subst h; exact ⟨rfl, rfl⟩
theorem mul_Nat {a b X Y : Nat} (h : a ≤ X) (k : b ≤ Y) : a * b ≤ X * Y := Nat.mul_le_mul h k
/-- One zone's part, when it is not nothing. -/
theorem zone_part {f : List (Int × Int)} (hg : good f) {p q : Rat} (hp : Pl f p) (hq : Pl f q) (hpq : p ≤ q) (g : List (Int × Int)) (hgg : good g) (z : Int × Int) (hz : vz z = true) (lo hi : Rat) (hlo : lo = if ((len g : Int) : Rat) < p then p else ((len g : Int) : Rat)) (hhi : hi = if q < ((len g + z.1 : Int) : Rat) then q else ((len g + z.1 : Int) : Rat)) (h : lo < hi) :
    (Sm lo ∧ Sm hi) ∧ Fit hi lo ∧ ((hi - lo).num.natAbs * z.2.natAbs ≤ 4611686018427387904 ∧ (hi - lo).den ≤ 4611686018427387904) ∧ Fit (upTo 0 g q - upTo 0 g p) ((hi - lo) * z.2) := by
  have hz' := (vz_iff z).1 hz
  have hlb := len_bound hgg
  have hSp := hp.sm hg
  have hSq := hq.sm hg
  have hSb : Sm ((len g : Int) : Rat) := Sm_int (by omega)
  have hSe : Sm ((len g + z.1 : Int) : Rat) := Sm_int (by omega)
  have hSlo : Sm lo := by rw [hlo]; split <;> assumption
  have hShi : Sm hi := by rw [hhi]; split <;> assumption
  have hfit := hShi.fit hSlo
  have hL := len_bound hg
  have p0 := hp.le
  have q0 := hq.le
  have hL2 : ((len f : Int) : Rat) ≤ ((120 : Int) : Rat) := Rat.intCast_le_intCast.2 hL.2
  have hb0 : (0 : Rat) ≤ ((len g : Int) : Rat) := by rw [← int0]; exact Rat.intCast_le_intCast.2 hlb.1
  have lo0 : 0 ≤ lo := by grind
  have hi1 : hi ≤ ((120 : Int) : Rat) := by grind
  have dp := den_pos p
  have dq := den_pos q
  have hD : (0 : Int) < p.den * q.den := Int.mul_pos dp dq
  have hD2 : (p.den : Int) * q.den ≤ 1048576 * 1048576 := Int.mul_le_mul hp.2 hq.2 (by omega) (by omega)
  have Dlo : Dv p.den lo := by
    rw [hlo]; split
    · exact Dv_self p
    · exact Dv_int _ _
  have Dhi : Dv q.den hi := by
    rw [hhi]; split
    · exact Dv_self q
    · exact Dv_int _ _
  have Da : Dv (p.den * q.den) (hi - lo) := (Dhi.dvd (Int.dvd_mul_left _ _)).sub (Dlo.dvd (Int.dvd_mul_right _ _))
  have a0 : 0 ≤ hi - lo := by grind
  have a1 : hi - lo ≤ ((120 : Int) : Rat) := by grind
  have na := num_le hD Da (int_neg_le_zero (M := 120) (by omega) a0) a1
  have z0 : (0 : Rat) ≤ (z.2 : Rat) := by rw [← int0]; exact Rat.intCast_le_intCast.2 hz'.2.1
  have z1 : (z.2 : Rat) ≤ ((20 : Int) : Rat) := Rat.intCast_le_intCast.2 hz'.2.2
  have t0 : 0 ≤ (hi - lo) * (z.2 : Rat) := Rat.mul_nonneg a0 z0
  have t1 : (hi - lo) * (z.2 : Rat) ≤ ((2400 : Int) : Rat) := by
    have h1 := Rat.mul_le_mul_of_nonneg_right a1 z0
    have h2 := Rat.mul_le_mul_of_nonneg_left z1 (show (0 : Rat) ≤ ((120 : Int) : Rat) by rw [← int0]; exact Rat.intCast_le_intCast.2 (by omega))
    have h3 : ((120 : Int) : Rat) * ((20 : Int) : Rat) = ((2400 : Int) : Rat) := by rw [← Rat.intCast_mul]; rfl
    grind
  refine ⟨⟨hSlo, hShi⟩, hfit, ⟨?_, by omega⟩, ?_⟩
  · have := mul_Nat (X := 120 * 1048576 * 1048576) (Y := 20) (show (hi - lo).num.natAbs ≤ 120 * 1048576 * 1048576 by omega) (show z.2.natAbs ≤ 20 by omega)
    omega
  · by_cases hb : ((len g : Int) : Rat) ≤ p
    · -- all of what lies before is left out
      have e1 := upTo_full p g 0 (all_pos hgg.2) (by rw [Int.zero_add]; exact hb)
      have e2 := upTo_full q g 0 (all_pos hgg.2) (by rw [Int.zero_add]; exact Rat.le_trans hb hpq)
      have e3 : upTo 0 g q - upTo 0 g p = 0 := by rw [e1, e2]; grind
      have n0 := num_zero e3
      have nt := num_le hD (Da.mul z.2) (int_neg_le_zero (M := 2400) (by omega) t0) t1
      exact Fit_of 0 (2400 * 1048576 * 1048576) 1 (1048576 * 1048576) (by omega) (by omega) (by omega) (by omega) (by decide) (by decide)
    · have hlo' : lo = ((len g : Int) : Rat) := by grind
      have hq' : ((len g : Int) : Rat) ≤ q := by grind
      have e2 := upTo_full q g 0 (all_pos hgg.2) (by rw [Int.zero_add]; exact hq')
      have Do : Dv p.den (upTo 0 g q - upTo 0 g p) := by rw [e2]; exact (Dv_int _ _).sub (upTo_Dv (Dv_self p) g 0)
      have Dt : Dv q.den ((hi - lo) * z.2) := by rw [hlo']; exact (Dhi.sub (Dv_int _ _)).mul z.2
      have bq := upTo_bounds hgg 0 q
      have bp := upTo_bounds hgg 0 p
      have o1 : upTo 0 g q - upTo 0 g p ≤ ((2400 : Int) : Rat) := by grind
      have o0 : ((-2400 : Int) : Rat) ≤ upTo 0 g q - upTo 0 g p := by rw [Rat.intCast_neg]; grind
      have no := num_le dp Do o0 o1
      have nt := num_le dq Dt (int_neg_le_zero (M := 2400) (by omega) t0) t1
      have := hp.2
      have := hq.2
      exact Fit_of (2400 * 1048576) (2400 * 1048576) 1048576 1048576 (by omega) (by omega) (by omega) (by omega) (by decide) (by decide)
theorem upTo_take {f : List (Int × Int)} {i : Nat} {z : Int × Int} (hz : f[i]? = some z) (x : Rat) : upTo 0 (f.take (i + 1)) x = upTo 0 (f.take i) x + (clamp x ((len (f.take i) : Int) : Rat) ((len (f.take i) + z.1 : Int) : Rat) - ((len (f.take i) : Int) : Rat)) * (z.2 : Rat) := by
  rw [List.take_add_one, hz, Option.toList_some, upTo_append, Int.zero_add, upTo, upTo, Rat.add_zero]
theorem len_take {f : List (Int × Int)} {i : Nat} {z : Int × Int} (hz : f[i]? = some z) : len (f.take (i + 1)) = len (f.take i) + z.1 := sumZ_take hz
theorem s73 {f : List (Int × Int)} {v : AV} {A : AHeap} (hf : L2 A v f) (hg : good f) (p q : Rat) (hp : Pl f p) (hq : Pl f q) (hpq : p ≤ q) : ACalls Try.prog 73 [v, R p, R q] A (R (upTo 0 f q - upTo 0 f p)) A := by
  refine acalls hmix Try.func73 (by kernel_rfl) t73 3 rfl (by decide) ?_
  dsimp only [m73]
  simp (maxSteps := 4000000) -implicitDefEqProofs -dsimp (disch := omega) only [↓AW_ops, ↓AW_seq, ↓AOps_nil, ↓AOps_pu, ↓AOps_call, on_some, ↓then_normal, pval, rd_S, rd_C, put_S, AV.cells?, List.replicate_succ, List.replicate_zero, List.set_cons_zero, List.set_cons_succ, List.getElem?_cons_zero, List.getElem?_cons_succ, Option.getD_some, map_c, map_n, Nat.reduceSub, List.cons_append, List.nil_append]
  refine CallK.of (s78 0 _) ?_
  simp (maxSteps := 4000000) -implicitDefEqProofs -dsimp (disch := omega) only [↓AW_ops, ↓AW_seq, ↓AW_block, ↓AOps_nil, ↓AOps_pu, on_some, extK_same, ↓then_normal, pval, rd_S, rd_C, put_S, ↓AW_toLoop, chkd, bput, AV.cells?, splice, eq_self, List.replicate_succ, List.replicate_zero, List.set_cons_zero, List.set_cons_succ, List.getElem?_cons_zero, List.getElem?_cons_succ, List.drop_succ_cons, List.drop_nil, List.take_zero, Option.getD_some, List.length_cons, List.length_nil, Nat.reduceAdd, Nat.reduceSub, Nat.reduceLeDiff, Nat.zero_add, List.cons_append, List.nil_append, List.append_nil, if_true, if_false, ne_eq, not_true_eq_false, hf.len]
  refine LoopK.by 49 (fun x : Nat × Rat => x.1 ≤ f.length ∧ x.2 = upTo 0 (f.take x.1) q - upTo 0 (f.take x.1) p) (fun x => [(4, R p), (5, R q), (6, .agg [I 0, I 0]), (7, R x.2), (8, I (len (f.take x.1))), (14, v), (15, I f.length), (16, I x.1)]) (fun _ => A) (fun x => f.length - x.1) (0, ((0 : Int) : Rat)) ⟨by omega, by simp [upTo, Rat.sub_self]⟩ rfl (by simp [Has, rd_s, len, sumZ]) rfl ?_
  rintro ⟨i, o⟩ ⟨hi, ho⟩
  simp only at hi ho
  by_cases hlt : i < f.length
  · obtain ⟨z, hz⟩ : ∃ z, f[i]? = some z := ⟨_, List.getElem?_eq_getElem hlt⟩
    have hlt' : (i : Int) < f.length := by omega
    have hl6 := hg.1
    have hgt := good_take hg i
    have hvz := all_get hg.2 hz
    have hz' := (vz_iff z).1 hvz
    have hlb := len_bound hgt
    have hlt2 := len_take hz
    have hzp := zone_part hg hp hq hpq _ hgt z hvz _ _ rfl rfl
    have hpe := part_eq p q ((len (f.take i) : Int) : Rat) ((len (f.take i) + z.1 : Int) : Rat) (z.2 : Rat) hpq (Rat.intCast_le_intCast.2 (by omega))
    have hup := upTo_take hz p
    have huq := upTo_take hz q
    have hSb : Sm ((len (f.take i) : Int) : Rat) := Sm_int (by omega)
    have hSe : Sm ((len (f.take i) + z.1 : Int) : Rat) := Sm_int (by omega)
    simp (maxSteps := 4000000) -implicitDefEqProofs -dsimp (disch := omega) only [↓AW_skip, ↓AW_ops, ↓AW_seq, ↓AW_cond, ↓AW_block, ↓AOps_nil, ↓AOps_pu, ↓AOps_ld, ↓AOps_call, on_some, condB_t, ↓then_normal, pval, lval, rd_S, rd_C, put_S, chkd, bput, bgot, AV.cells?, splice, partA, eq_self, mk, List.foldl_cons, List.foldl_nil, List.replicate_succ, List.replicate_zero, List.set_cons_zero, List.set_cons_succ, List.getElem?_cons_zero, List.getElem?_cons_succ, List.drop_zero, List.drop_succ_cons, List.drop_nil, List.take_zero, List.take_succ_cons, List.take_nil, Option.getD_some, map_c, map_n, List.length_cons, List.length_nil, Nat.reduceAdd, Nat.reduceLeDiff, Nat.reduceEqDiff, Nat.zero_add, List.nil_append, List.append_nil, bin_lss, if_true, if_false, decide_true, e2, ne_eq, not_true_eq_false, hlt', hf.idx hlt, hf.ld0 hz 2 true (by decide)]
    refine CallK.of (s78 _ _) ?_
    simp (maxSteps := 4000000) -implicitDefEqProofs -dsimp (disch := omega) only [↓AOps_call, extK_same, rd_S, put_S, mk, List.foldl_cons, List.foldl_nil, List.replicate_succ, List.replicate_zero, List.set_cons_zero, List.set_cons_succ, List.getElem?_cons_zero, List.getElem?_cons_succ, Option.getD_some, map_c, map_n]
    refine CallK.of (s107 _ _ _ (hp.sm hg) hSb) ?_
    simp (maxSteps := 4000000) -implicitDefEqProofs -dsimp (disch := omega) only [↓AOps_pu, ↓AOps_call, on_some, extK_same, pval, rd_S, put_S, chkd, isAdr, bgot, AV.cells?, partA, eq_self, mk, List.foldl_cons, List.foldl_nil, List.replicate_succ, List.replicate_zero, List.set_cons_zero, List.set_cons_succ, List.getElem?_cons_zero, List.getElem?_cons_succ, List.drop_zero, List.take_zero, List.take_succ_cons, List.take_nil, Option.getD_some, map_c, map_n, List.length_cons, List.length_nil, Nat.reduceAdd, Nat.reduceLeDiff, Nat.reduceEqDiff, Nat.zero_add, bin_add, w64, if_true, if_false, Bool.false_eq_true]
    refine CallK.of (s78 _ _) ?_
    simp (maxSteps := 4000000) -implicitDefEqProofs -dsimp (disch := omega) only [↓AOps_call, extK_same, rd_S, put_S, mk, List.foldl_cons, List.foldl_nil, List.replicate_succ, List.replicate_zero, List.set_cons_zero, List.set_cons_succ, List.getElem?_cons_zero, List.getElem?_cons_succ, Option.getD_some, map_c, map_n]
    refine CallK.of (s108 _ _ _ (hq.sm hg) hSe) ?_
    simp (maxSteps := 4000000) -implicitDefEqProofs -dsimp (disch := omega) only [↓AW_ops, ↓AW_seq, ↓AOps_nil, ↓AOps_pu, ↓AOps_call, on_some, extK_same, ↓then_normal, pval, rd_S, rd_C, put_S, chkd, bput, bgot, AV.cells?, splice, partA, eq_self, mk, List.foldl_cons, List.foldl_nil, List.replicate_succ, List.replicate_zero, List.set_cons_zero, List.set_cons_succ, List.getElem?_cons_zero, List.getElem?_cons_succ, List.drop_zero, List.drop_succ_cons, List.drop_nil, List.take_zero, List.take_succ_cons, List.take_nil, Option.getD_some, map_c, map_n, List.length_cons, List.length_nil, Nat.reduceAdd, Nat.reduceLeDiff, Nat.reduceEqDiff, Nat.zero_add, List.nil_append, List.append_nil, if_true, if_false, ne_eq, not_true_eq_false]
    have hSlo : Sm (if ((len (f.take i) : Int) : Rat) < p then p else ((len (f.take i) : Int) : Rat)) := by
      split
      · exact hp.sm hg
      · exact hSb
    have hShi : Sm (if q < ((len (f.take i) + z.1 : Int) : Rat) then q else ((len (f.take i) + z.1 : Int) : Rat)) := by
      split
      · exact hq.sm hg
      · exact hSe
    generalize (if ((len (f.take i) : Int) : Rat) < p then p else ((len (f.take i) : Int) : Rat)) = lo at *
    generalize (if q < ((len (f.take i) + z.1 : Int) : Rat) then q else ((len (f.take i) + z.1 : Int) : Rat)) = hi' at *
    refine CallK.of (s72 lo hi' _ hSlo hShi) ?_
    by_cases h : lo < hi'
    · obtain ⟨_, f1, ⟨f2, f3⟩, f4⟩ := hzp h
      rw [← ho] at f4
      have hn := (sub_neg_iff lo hi').2 h
      simp (maxSteps := 4000000) -implicitDefEqProofs -dsimp (disch := omega) only [↓AW_ops, ↓AW_cond, ↓AOps_nil, ↓AOps_pu, ↓AOps_call, on_some, extK_same, condB_t, ↓then_normal, pval, rd_S, rd_C, put_S, chkd, bgot, partA, eq_self, mk, List.foldl_cons, List.foldl_nil, List.replicate_succ, List.replicate_zero, List.set_cons_zero, List.set_cons_succ, List.getElem?_cons_zero, List.getElem?_cons_succ, List.drop_zero, List.take_succ_cons, List.take_nil, Option.getD_some, map_c, map_n, List.length_cons, List.length_nil, Nat.reduceAdd, Nat.reduceLeDiff, Nat.reduceEqDiff, Nat.zero_add, bin_lss, if_true, if_false, decide_true, hn]
      refine CallK.of (s106g _ _ _ f1) ?_
      simp (maxSteps := 4000000) -implicitDefEqProofs -dsimp (disch := omega) only [↓AOps_pu, ↓AOps_call, on_some, extK_same, pval, rd_S, put_S, chkd, isAdr, bgot, AV.cells?, partA, eq_self, mk, List.foldl_cons, List.foldl_nil, List.replicate_succ, List.replicate_zero, List.set_cons_zero, List.set_cons_succ, List.getElem?_cons_zero, List.getElem?_cons_succ, List.drop_zero, List.drop_succ_cons, List.take_succ_cons, List.take_nil, Option.getD_some, map_c, map_n, List.length_cons, List.length_nil, Nat.reduceAdd, Nat.reduceLeDiff, Nat.zero_add, if_true, if_false, Bool.false_eq_true]
      refine CallK.of (s110g _ _ _ f2 f3 (by omega)) ?_
      simp (maxSteps := 4000000) -implicitDefEqProofs -dsimp (disch := omega) only [↓AOps_call, extK_same, rd_S, put_S, mk, List.foldl_cons, List.foldl_nil, List.replicate_succ, List.replicate_zero, List.set_cons_zero, List.set_cons_succ, List.getElem?_cons_zero, List.getElem?_cons_succ, Option.getD_some, map_c, map_n]
      refine CallK.of (s109g _ _ _ f4) ?_
      simp (maxSteps := 4000000) -implicitDefEqProofs -dsimp (disch := omega) only [↓AW_ops, ↓AOps_nil, ↓AOps_pu, on_some, extK_same, ↓then_normal, ↓inBlock_normal, pval, rd_S, rd_C, put_S, chkd, isAdr, bput, bgot, AV.cells?, splice, partA, eq_self, mk, List.foldl_cons, List.foldl_nil, List.replicate_succ, List.replicate_zero, List.set_cons_zero, List.set_cons_succ, List.getElem?_cons_zero, List.getElem?_cons_succ, List.drop_zero, List.drop_succ_cons, List.drop_nil, List.take_zero, List.take_succ_cons, Option.getD_some, List.length_cons, List.length_nil, Nat.reduceAdd, Nat.reduceLeDiff, Nat.zero_add, List.nil_append, List.append_nil, bin_add, w64, if_true, if_false, Bool.false_eq_true, true_and, ne_eq, not_true_eq_false]
      rw [if_pos h] at hpe
      refine ⟨(i + 1, o + (hi' - lo) * z.2), ⟨hlt, ?_⟩, by simp [Has, rd_s, hlt2], by simp only; omega⟩
      simp only
      rw [hup, huq, hpe, ho]
      grind
    · have hn : ¬ (lo - hi').num < 0 := fun x => h ((sub_neg_iff lo hi').1 x)
      simp (maxSteps := 4000000) -implicitDefEqProofs -dsimp (disch := omega) only [↓AW_skip, ↓AW_ops, ↓AW_cond, ↓AOps_nil, ↓AOps_pu, on_some, extK_same, condB_f, ↓then_normal, ↓inBlock_normal, pval, rd_S, rd_C, put_S, chkd, isAdr, bgot, AV.cells?, partA, eq_self, mk, List.foldl_cons, List.foldl_nil, List.replicate_succ, List.replicate_zero, List.set_cons_zero, List.set_cons_succ, List.getElem?_cons_zero, List.getElem?_cons_succ, List.drop_zero, List.take_zero, List.take_succ_cons, Option.getD_some, List.length_cons, List.length_nil, Nat.reduceAdd, Nat.reduceLeDiff, Nat.zero_add, bin_add, bin_lss, w64, if_true, if_false, Bool.false_eq_true, decide_false, true_and, hn]
      rw [if_neg h] at hpe
      refine ⟨(i + 1, o), ⟨hlt, ?_⟩, by simp [Has, rd_s, hlt2], by simp only; omega⟩
      simp only
      rw [hup, huq, ho]
      grind
  · have hlt' : ¬ ((i : Int) < f.length) := by omega
    simp (maxSteps := 4000000) -implicitDefEqProofs -dsimp (disch := omega) only [↓AW_ops, ↓AW_seq, ↓AW_cond, ↓AW_exit, ↓AW_ret, ↓AOps_nil, ↓AOps_pu, on_some, condB_f, ↓then_normal, ↓then_exit, ↓inBlock_exit, ↓Fin_ret, pval, rd_S, put_S, resV, resL, chkd, bput, bgot, AV.cells?, splice, partA, eq_self, mk, List.foldl_cons, List.foldl_nil, List.replicate_succ, List.replicate_zero, List.set_cons_zero, List.set_cons_succ, List.getElem?_cons_zero, List.getElem?_cons_succ, List.drop_zero, List.drop_succ_cons, List.drop_nil, List.take_zero, List.take_succ_cons, List.take_nil, Option.getD_some, List.length_cons, List.length_nil, Nat.reduceAdd, Nat.reduceLeDiff, Nat.reduceEqDiff, Nat.zero_add, List.nil_append, List.append_nil, bin_lss, if_true, if_false, decide_false, ne_eq, not_true_eq_false, hlt']
    rw [List.take_of_length_le (by omega)] at ho
    exact gc_same (by rw [ho])
end Go.Proofs.Ytnnbggcckabhdaa

namespace Go.Proofs.Ytnnbggcckabhdaa
open Go Go.Eng
abbrev qr (r : Int × Int) : Rat := (r.1 : Rat) / (r.2 : Rat)
theorem isP_R {f : List (Int × Int)} {r : Int × Int} (h : isP f r) : AV.agg [I r.1, I r.2] = R (qr r) ∧ Pl f (qr r) := by
  obtain ⟨⟨⟨h1, h2⟩, h3⟩, h4, h5⟩ := h
  have e := R_of (a := r.1) (b := r.2) (by omega) h3
  obtain ⟨e1, e2⟩ := R_inj e.symm
  exact ⟨e, ⟨by rw [e1]; exact h4, by rw [e1, e2]; exact h5⟩, by rw [e2]; omega⟩
theorem s71P {f : List (Int × Int)} {v : AV} {A : AHeap} (hf : L2 A v f) (hg : good f) (r : Int × Int) (h : W r.1) :
    ACalls Try.prog 71 [v, .agg [I r.1, I r.2], I 1000] A (B (decide (isP f r))) A := by
  have e := s71 hf hg r 1000 h (by omega)
  rw [show decide (isP f r) = decide (((1 ≤ r.2 ∧ r.2 ≤ 1000) ∧ Int.gcd r.1 r.2 = 1) ∧ (0 ≤ r.1 ∧ r.1 ≤ len f * r.2)) from decide_eq_decide.2 Iff.rfl]
  exact e
def wE (f : List (Int × Int)) (r s : Int × Int) : Int := if aE f [r, s] = 0 then (if qr s < qr r then 1 else 0) else aE f [r, s]
def wV (f : List (Int × Int)) (r s : Int × Int) : AV := if wE f r s = 0 then R (upTo 0 f (qr s) - upTo 0 f (qr r)) else zeroR
theorem wV_agg (f : List (Int × Int)) (r s : Int × Int) : ∃ a b, wV f r s = .agg [I a, I b] := by
  unfold wV zeroR R; split <;> exact ⟨_, _, rfl⟩
theorem aE2 {f : List (Int × Int)} {r s : Int × Int} (h0 : vE f = 0) : aE f [r, s] = if isP f r ∧ isP f s then 0 else 1 := by
  unfold aE
  rw [if_pos h0]
  congr 1
  simp
theorem wE_0 {f : List (Int × Int)} {r s : Int × Int} (h : wE f r s = 0) : vE f = 0 ∧ isP f r ∧ isP f s ∧ qr r ≤ qr s := by
  unfold wE at h
  split at h
  · rename_i h1
    split at h
    · cases h
    · rename_i h2
      have h0 : vE f = 0 := by
        unfold aE at h1
        split at h1
        · assumption
        · exact h1
      rw [aE2 h0] at h1
      split at h1
      · rename_i h3; exact ⟨h0, h3.1, h3.2, Rat.not_lt.1 h2⟩
      · cases h1
  · rename_i h1; exact absurd h h1
theorem wE_ok {f : List (Int × Int)} {r s : Int × Int} (h0 : vE f = 0) (h1 : isP f r) (h2 : isP f s) (h3 : qr r ≤ qr s) : wE f r s = 0 := by
  have := Rat.not_lt.2 h3
  simp [wE, aE2 h0, h1, h2, this]
theorem s25 {f : List (Int × Int)} {v : AV} {A : AHeap} (hf : L2 A v f) (r s : Int × Int) (hr : W r.1) (hs : W s.1) :
    ACalls Try.prog 25 [v, .agg [I r.1, I r.2], .agg [I s.1, I s.2]] A (.tuple [wV f r s, I (wE f r s)]) A := by
  refine acalls hmix Try.func25 (by kernel_rfl) t25 3 rfl (by decide) ?_
  dsimp only [m25]
  simp (maxSteps := 4000000) -implicitDefEqProofs -dsimp (disch := omega) only [↓AW_ops, ↓AW_seq, ↓AOps_nil, ↓AOps_pu, ↓AOps_call, on_some, ↓then_normal, pval, rd_S, rd_C, put_S, AV.cells?, List.replicate_succ, List.replicate_zero, List.set_cons_zero, List.set_cons_succ, List.getElem?_cons_zero, List.getElem?_cons_succ, Option.getD_some, map_c, map_n, Nat.reduceSub, List.cons_append, List.nil_append]
  refine CallK.of (s37 hf) ?_
  by_cases h0 : vE f = 0
  · have hg := (good_of h0).1
    simp (maxSteps := 4000000) -implicitDefEqProofs -dsimp (disch := omega) only [↓AW_skip, ↓AW_ops, ↓AW_seq, ↓AW_cond, ↓AOps_nil, ↓AOps_pu, ↓AOps_call, on_some, extK_same, condB_f, ↓then_normal, pval, rd_S, rd_C, put_S, chkd, bgot, partA, eq_self, List.replicate_succ, List.replicate_zero, List.set_cons_zero, List.set_cons_succ, List.getElem?_cons_zero, List.getElem?_cons_succ, List.drop_zero, List.take_succ_cons, List.take_nil, Option.getD_some, map_c, map_n, List.length_cons, List.length_nil, Nat.reduceAdd, Nat.reduceSub, Nat.reduceLeDiff, Nat.reduceEqDiff, Nat.zero_add, List.cons_append, List.nil_append, bin_neq, if_true, if_false, decide_false, not_true_eq_false, h0]
    refine CallK.of (s71P hf hg r hr) ?_
    by_cases h1 : isP f r
    · simp (maxSteps := 4000000) -implicitDefEqProofs -dsimp (disch := omega) only [↓AOps_pu, ↓AOps_call, ↓AOps_guard, on_some, extK_same, guardB_ff, pval, rd_S, rd_C, put_S, chkd, bgot, partA, eq_self, List.replicate_succ, List.replicate_zero, List.set_cons_zero, List.set_cons_succ, List.getElem?_cons_zero, List.getElem?_cons_succ, List.drop_zero, List.take_succ_cons, List.take_nil, Option.getD_some, map_c, map_n, List.length_cons, List.length_nil, Nat.reduceAdd, Nat.reduceSub, Nat.reduceLeDiff, Nat.reduceEqDiff, Nat.zero_add, List.cons_append, List.nil_append, if_true, if_false, Bool.not_true, decide_true, h1]
      refine CallK.of (s71P hf hg s hs) ?_
      by_cases h2 : isP f s
      · simp (maxSteps := 4000000) -implicitDefEqProofs -dsimp (disch := omega) only [↓AOps_pu, ↓AOps_call, ↓AOps_guard, on_some, extK_same, guardB_ff, pval, rd_S, rd_C, put_S, chkd, bgot, partA, eq_self, List.replicate_succ, List.replicate_zero, List.set_cons_zero, List.set_cons_succ, List.getElem?_cons_zero, List.getElem?_cons_succ, List.drop_zero, List.take_succ_cons, List.take_nil, Option.getD_some, map_c, map_n, List.length_cons, List.length_nil, Nat.reduceAdd, Nat.reduceSub, Nat.reduceLeDiff, Nat.reduceEqDiff, Nat.zero_add, List.cons_append, List.nil_append, if_true, if_false, Bool.false_eq_true, Bool.not_true, decide_true, h2]
        have wb : wE f r s = if qr s < qr r then 1 else 0 := by simp [wE, aE2 h0, h1, h2]
        have wv : wV f r s = if wE f r s = 0 then R (upTo 0 f (qr s) - upTo 0 f (qr r)) else zeroR := rfl
        obtain ⟨er, p1⟩ := isP_R h1
        obtain ⟨es, p2⟩ := isP_R h2
        rw [er, es]
        generalize qr r = p at *
        generalize qr s = q at *
        refine CallK.of (s72 p q _ (p1.sm hg) (p2.sm hg)) ?_
        by_cases h3 : q < p
        · have hn := (sub_pos_iff p q).2 h3
          simp (maxSteps := 4000000) -implicitDefEqProofs -dsimp (disch := omega) only [↓AW_ops, ↓AW_seq, ↓AW_cond, ↓AW_ret, ↓AOps_nil, ↓AOps_pu, ↓AOps_guard, on_some, extK_same, guardB_ff, condB_t, ↓then_normal, ↓then_ret, ↓Fin_ret, pval, rd_S, rd_C, put_S, resV, resL, chkd, bput, bgot, AV.cells?, splice, partA, fillA, eq_self, List.replicate_succ, List.replicate_zero, List.set_cons_zero, List.set_cons_succ, List.getElem?_cons_zero, List.getElem?_cons_succ, List.drop_zero, List.drop_succ_cons, List.drop_nil, List.take_zero, List.take_succ_cons, List.take_nil, Option.getD_some, Option.map_some, map_n, List.length_cons, List.length_nil, Nat.reduceAdd, Nat.reduceSub, Nat.reduceLeDiff, Nat.reduceEqDiff, Nat.zero_add, List.cons_append, List.nil_append, List.append_nil, bin_gtr, if_true, if_false, Bool.false_eq_true, decide_true, ne_eq, not_true_eq_false, hn]
          exact gc_same (by rw [wv, wb]; simp [h3, zeroR])
        · have hn : ¬ 0 < (p - q).num := fun x => h3 ((sub_pos_iff p q).1 x)
          simp (maxSteps := 4000000) -implicitDefEqProofs -dsimp (disch := omega) only [↓AW_skip, ↓AW_ops, ↓AW_seq, ↓AW_cond, ↓AOps_nil, ↓AOps_pu, ↓AOps_call, ↓AOps_guard, on_some, extK_same, guardB_ff, condB_f, ↓then_normal, pval, rd_S, rd_C, put_S, chkd, bgot, partA, eq_self, List.replicate_succ, List.replicate_zero, List.set_cons_zero, List.set_cons_succ, List.getElem?_cons_zero, List.getElem?_cons_succ, List.drop_zero, List.take_succ_cons, List.take_nil, Option.getD_some, map_c, map_n, List.length_cons, List.length_nil, Nat.reduceAdd, Nat.reduceSub, Nat.reduceLeDiff, Nat.reduceEqDiff, Nat.zero_add, List.cons_append, List.nil_append, bin_gtr, if_true, if_false, Bool.false_eq_true, decide_false, hn]
          refine CallK.of (s73 hf hg p q p1 p2 (Rat.not_lt.1 h3)) ?_
          simp (maxSteps := 4000000) -implicitDefEqProofs -dsimp (disch := omega) only [↓AW_ret, ↓AOps_nil, ↓AOps_pu, on_some, extK_same, ↓then_normal, ↓Fin_ret, pval, rd_S, rd_C, put_S, resV, resL, chkd, bput, bgot, AV.cells?, splice, partA, eq_self, List.replicate_succ, List.replicate_zero, List.set_cons_zero, List.set_cons_succ, List.getElem?_cons_zero, List.getElem?_cons_succ, List.drop_zero, List.drop_succ_cons, List.drop_nil, List.take_zero, List.take_succ_cons, List.take_nil, Option.getD_some, List.length_cons, List.length_nil, Nat.reduceAdd, Nat.reduceSub, Nat.reduceLeDiff, Nat.reduceEqDiff, Nat.zero_add, List.cons_append, List.nil_append, List.append_nil, if_true, if_false, ne_eq, not_true_eq_false]
          exact gc_same (by rw [wv, wb]; simp [h3])
      · simp (maxSteps := 4000000) -implicitDefEqProofs -dsimp (disch := omega) only [↓AW_ops, ↓AW_seq, ↓AW_cond, ↓AW_ret, ↓AOps_nil, ↓AOps_pu, ↓AOps_guard, on_some, extK_same, guardB_tf, guardB_ff, skipS_some, condB_t, ↓then_normal, ↓then_ret, ↓Fin_ret, pval, rd_S, rd_C, put_S, resV, resL, chkd, bput, bgot, AV.cells?, splice, partA, fillA, eq_self, List.replicate_succ, List.replicate_zero, List.set_cons_zero, List.set_cons_succ, List.getElem?_cons_zero, List.getElem?_cons_succ, List.drop_zero, List.drop_succ_cons, List.drop_nil, List.take_zero, List.take_succ_cons, List.take_nil, Option.getD_some, Option.map_some, map_n, List.length_cons, List.length_nil, Nat.reduceAdd, Nat.reduceSub, Nat.reduceLeDiff, Nat.reduceEqDiff, Nat.zero_add, List.cons_append, List.nil_append, List.append_nil, if_true, if_false, Bool.false_eq_true, Bool.not_false, decide_false, ne_eq, not_true_eq_false, h2]
        exact gc_same (by simp [wV, wE, aE2 h0, h2, zeroR])
    · simp (maxSteps := 4000000) -implicitDefEqProofs -dsimp (disch := omega) only [↓AW_ops, ↓AW_seq, ↓AW_cond, ↓AW_ret, ↓AOps_nil, ↓AOps_pu, ↓AOps_guard, on_some, extK_same, guardB_tf, skipS_some, condB_t, ↓then_normal, ↓then_ret, ↓Fin_ret, pval, rd_S, rd_C, put_S, resV, resL, chkd, bput, bgot, AV.cells?, splice, partA, fillA, eq_self, List.replicate_succ, List.replicate_zero, List.set_cons_zero, List.set_cons_succ, List.getElem?_cons_zero, List.getElem?_cons_succ, List.drop_zero, List.drop_succ_cons, List.drop_nil, List.take_zero, List.take_succ_cons, List.take_nil, Option.getD_some, Option.map_some, map_n, List.length_cons, List.length_nil, Nat.reduceAdd, Nat.reduceSub, Nat.reduceLeDiff, Nat.reduceEqDiff, Nat.zero_add, List.cons_append, List.nil_append, List.append_nil, if_true, if_false, Bool.not_false, decide_false, ne_eq, not_true_eq_false, h1]
      exact gc_same (by simp [wV, wE, aE2 h0, h1, zeroR])
  · simp (maxSteps := 4000000) -implicitDefEqProofs -dsimp (disch := omega) only [↓AW_ops, ↓AW_seq, ↓AW_cond, ↓AW_ret, ↓AOps_nil, ↓AOps_pu, on_some, extK_same, condB_t, ↓then_normal, ↓then_ret, ↓Fin_ret, pval, rd_S, rd_C, put_S, resV, resL, chkd, bput, bgot, AV.cells?, splice, partA, fillA, eq_self, List.replicate_succ, List.replicate_zero, List.set_cons_zero, List.set_cons_succ, List.getElem?_cons_zero, List.getElem?_cons_succ, List.drop_zero, List.drop_succ_cons, List.drop_nil, List.take_zero, List.take_succ_cons, List.take_nil, Option.getD_some, Option.map_some, map_n, List.length_cons, List.length_nil, Nat.reduceAdd, Nat.reduceSub, Nat.reduceLeDiff, Nat.reduceEqDiff, Nat.zero_add, List.cons_append, List.nil_append, List.append_nil, bin_neq, if_true, if_false, decide_true, ne_eq, not_true_eq_false, not_false_eq_true, h0]
    exact gc_same (by simp [wV, wE, aE, h0, zeroR])
end Go.Proofs.Ytnnbggcckabhdaa

namespace Go.Proofs.Ytnnbggcckabhdaa
open Go Go.Eng
/-- selion/selionlaw02.SoilEquals [loop [5, 9]] -/
def m3 : MFun := ⟨73, [], [.mov (.s 4)],
 .seq (.ops [⟨(some 4), some undefA, none, false, .pu (.mov (.c (.bool false)))⟩])
 (.seq (.seq (.ops [⟨(some 10), some undefA, none, false, .pu (.mov (.s 0))⟩,
   ⟨(some 11), some undefA, none, false, .call 18 [(.s 10), (.c (.nilS))]⟩])
 (.cond (.s 11) (.seq (.ops [⟨(some 12), some undefA, none, false, .call 19 []⟩,
    ⟨(some 4), some undefA, none, false, .pu (.mov (.s 12))⟩])
  (.ret))
 (.skip)))
 (.seq (.ops [⟨(some 14), some undefA, none, false, .pu (.mov (.s 0))⟩,
   ⟨(some 15), some undefA, none, false, .pu (.mov (.s 1))⟩,
   ⟨(some 16), some undefA, none, false, .call 20 [(.s 14), (.s 15)]⟩,
   ⟨(some 13), some undefA, none, false, .pu (.mov (.s 16))⟩,
   ⟨(some 17), some undefA, none, false, .pu (.extr 0 (.s 13))⟩,
   ⟨(some 18), some undefA, none, false, .pu (.extr 1 (.s 13))⟩,
   ⟨(some 5), some undefA, none, false, .pu (.mov (.s 17))⟩,
   ⟨(some 6), some undefA, none, false, .pu (.mov (.s 18))⟩])
 (.seq (.ops [⟨(some 20), some undefA, none, false, .pu (.mov (.s 0))⟩,
   ⟨(some 21), some undefA, none, false, .pu (.mov (.s 1))⟩,
   ⟨(some 22), some undefA, none, false, .call 21 [(.s 20), (.s 21)]⟩,
   ⟨(some 19), some undefA, none, false, .pu (.mov (.s 22))⟩,
   ⟨(some 23), some undefA, none, false, .pu (.extr 0 (.s 19))⟩,
   ⟨(some 24), some undefA, none, false, .pu (.extr 1 (.s 19))⟩,
   ⟨(some 7), some undefA, none, false, .pu (.mov (.s 23))⟩,
   ⟨(some 8), some undefA, none, false, .pu (.mov (.s 24))⟩])
 (.seq (.seq (.ops [⟨(some 25), some undefA, none, false, .pu (.mov (.s 6))⟩,
   ⟨(some 26), some undefA, none, false, .pu (.mov (.s 8))⟩,
   ⟨(some 27), some undefA, none, false, .pu (.bin .neq (.s 25) (.s 26))⟩,
   ⟨(some 28), some undefA, none, false, .pu (.mov (.s 27))⟩,
   ⟨(some 29), some undefA, (some (28, false)), false, .pu (.mov (.s 5))⟩,
   ⟨(some 30), some undefA, (some (28, false)), false, .pu (.mov (.s 7))⟩,
   ⟨(some 31), some undefA, (some (28, false)), false, .call 22 [(.s 29), (.s 30)]⟩,
   ⟨(some 32), some undefA, (some (28, false)), false, .pu (.not (.s 31))⟩,
   ⟨(some 33), some undefA, none, false, .pu (.pick (.s 28) (.c (.bool true)) (.s 32))⟩])
 (.cond (.s 33) (.seq (.ops [⟨(some 4), some undefA, none, false, .pu (.mov (.c (.bool false)))⟩])
  (.ret))
 (.skip)))
 (.seq (.seq (.ops [⟨(some 9), some undefA, none, false, .pu (.mov (.c (.int .i64 1)))⟩])
 (.block 0 (.loop (.seq (.seq (.ops [⟨(some 34), some undefA, none, false, .pu (.mov (.s 9))⟩,
     ⟨(some 35), some undefA, none, false, .pu (.mov (.s 5))⟩,
     ⟨(some 36), some undefA, none, false, .pu (.len (.s 35))⟩,
     ⟨(some 37), some undefA, none, false, .pu (.bin .lss (.s 34) (.s 36))⟩])
   (.cond (.s 37) (.skip)
   (.exit 0)))
   (.seq (.block 1 (.seq (.ops [⟨(some 40), some undefA, none, false, .pu (.mov (.s 5))⟩,
      ⟨(some 41), some undefA, none, false, .pu (.mov (.s 9))⟩,
      ⟨(some 42), some undefA, none, false, .pu (.idx 2 (.s 40) (.s 41))⟩,
      ⟨(some 43), some undefA, none, false, .pu (.fad 1 (.s 42))⟩,
      ⟨(some 44), some undefA, none, true, .ld (.ld 1 false (.s 43))⟩,
      ⟨(some 45), some undefA, none, false, .pu (.bin .lss (.s 44) (.c (.int .i64 1)))⟩,
      ⟨(some 46), some undefA, none, false, .pu (.mov (.s 45))⟩,
      ⟨(some 47), some undefA, (some (46, false)), false, .pu (.mov (.s 5))⟩,
      ⟨(some 48), some undefA, (some (46, false)), false, .pu (.mov (.s 9))⟩,
      ⟨(some 49), some undefA, (some (46, false)), false, .pu (.bin .sub (.s 48) (.c (.int .i64 1)))⟩,
      ⟨(some 50), some undefA, (some (46, false)), false, .pu (.idx 2 (.s 47) (.s 49))⟩,
      ⟨(some 51), some undefA, (some (46, false)), false, .pu (.fad 1 (.s 50))⟩,
      ⟨(some 52), some undefA, (some (46, false)), true, .ld (.ld 1 false (.s 51))⟩,
      ⟨(some 53), some undefA, (some (46, false)), false, .pu (.bin .lss (.s 52) (.c (.int .i64 1)))⟩,
      ⟨(some 54), some undefA, none, false, .pu (.pick (.s 46) (.c (.bool true)) (.s 53))⟩,
      ⟨(some 55), some undefA, none, false, .pu (.mov (.s 54))⟩,
      ⟨(some 56), some undefA, (some (55, false)), false, .pu (.mov (.s 5))⟩,
      ⟨(some 57), some undefA, (some (55, false)), false, .call 23 [(.s 56)]⟩,
      ⟨(some 58), some undefA, (some (55, false)), false, .pu (.not (.s 57))⟩,
      ⟨(some 59), some undefA, none, false, .pu (.pick (.s 55) (.c (.bool true)) (.s 58))⟩,
      ⟨(some 60), some undefA, none, false, .pu (.mov (.s 59))⟩,
      ⟨(some 61), some undefA, (some (60, false)), true, .pu (.mov (.s 5))⟩,
      ⟨(some 62), some undefA, (some (60, false)), true, .pu (.mov (.s 9))⟩,
      ⟨(some 63), some undefA, (some (60, false)), true, .pu (.idx 2 (.s 61) (.s 62))⟩,
      ⟨(some 64), some undefA, (some (60, false)), true, .ld (.ld 2 true (.s 63))⟩,
      ⟨(some 65), some undefA, (some (60, false)), true, .pu (.mov (.s 5))⟩,
      ⟨(some 66), some undefA, (some (60, false)), true, .pu (.mov (.s 9))⟩,
      ⟨(some 67), some undefA, (some (60, false)), true, .pu (.bin .sub (.s 66) (.c (.int .i64 1)))⟩,
      ⟨(some 68), some undefA, (some (60, false)), true, .pu (.idx 2 (.s 65) (.s 67))⟩,
      ⟨(some 69), some undefA, (some (60, false)), true, .ld (.ld 2 true (.s 68))⟩,
      ⟨(some 70), some undefA, (some (60, false)), false, .call 24 [(.s 64), (.s 69)]⟩,
      ⟨(some 71), some undefA, none, false, .pu (.pick (.s 60) (.c (.bool true)) (.s 70))⟩])
    (.cond (.s 71) (.seq (.ops [⟨(some 4), some undefA, none, false, .pu (.mov (.c (.bool false)))⟩])
     (.ret))
    (.skip))))
   (.ops [⟨(some 38), some undefA, none, false, .pu (.mov (.s 9))⟩,
     ⟨(some 39), some undefA, none, false, .pu (.bin .add (.s 38) (.c (.int .i64 1)))⟩,
     ⟨(some 9), some undefA, none, false, .pu (.mov (.s 39))⟩]))))))
 (.seq (.ops [⟨(some 72), some undefA, none, false, .call 19 []⟩,
   ⟨(some 4), some undefA, none, false, .pu (.mov (.s 72))⟩])
 (.ret)))))))⟩
/-- selion/selionlaw02.SoilAdds [] -/
def m5 : MFun := ⟨92, [4, 5, 7, 9, 11], [.mov (.s 6)],
 .seq (.ops [⟨(some 4), some (.junk), none, false, .pu (.bnew (.s 1))⟩,
   ⟨(some 5), some (.junk), none, false, .pu (.bnew (.s 2))⟩,
   ⟨(some 6), some undefA, none, false, .pu (.mov (.c (.bool false)))⟩])
 (.seq (.seq (.ops [⟨(some 13), some undefA, none, false, .pu (.mov (.s 0))⟩,
   ⟨(some 14), some undefA, none, false, .call 18 [(.s 13), (.c (.nilS))]⟩])
 (.cond (.s 14) (.seq (.ops [⟨(some 15), some undefA, none, false, .call 19 []⟩,
    ⟨(some 6), some undefA, none, false, .pu (.mov (.s 15))⟩])
  (.ret))
 (.skip)))
 (.seq (.ops [⟨(some 17), some undefA, none, false, .pu (.mov (.s 0))⟩,
   ⟨(some 18), some undefA, none, false, .pu (.badr none 4)⟩,
   ⟨(some 19), some undefA, none, false, .pu (.bget (some 18) 4 0 2 true)⟩,
   ⟨(some 20), some undefA, none, false, .pu (.bget none 5 0 2 true)⟩,
   ⟨(some 21), some undefA, none, false, .call 25 [(.s 17), (.s 19), (.s 20)]⟩,
   ⟨(some 16), some undefA, none, false, .pu (.mov (.s 21))⟩,
   ⟨(some 22), some undefA, none, false, .pu (.extr 0 (.s 16))⟩,
   ⟨(some 23), some undefA, none, false, .pu (.extr 1 (.s 16))⟩,
   ⟨(some 7), some (.junk), none, false, .pu (.bnew (.c (.agg [.int .i64 0, .int .i64 0])))⟩,
   ⟨(some 7), none, none, false, .pu (.bset none 7 0 2 (.s 22))⟩,
   ⟨(some 8), some undefA, none, false, .pu (.mov (.s 23))⟩])
 (.seq (.ops [⟨(some 25), some undefA, none, false, .pu (.mov (.s 0))⟩,
   ⟨(some 26), some undefA, none, false, .pu (.bget none 5 0 2 true)⟩,
   ⟨(some 27), some undefA, none, false, .pu (.badr none 4)⟩,
   ⟨(some 28), some undefA, none, false, .pu (.bget (some 27) 4 2 2 true)⟩,
   ⟨(some 29), some undefA, none, false, .call 25 [(.s 25), (.s 26), (.s 28)]⟩,
   ⟨(some 24), some undefA, none, false, .pu (.mov (.s 29))⟩,
   ⟨(some 30), some undefA, none, false, .pu (.extr 0 (.s 24))⟩,
   ⟨(some 31), some undefA, none, false, .pu (.extr 1 (.s 24))⟩,
   ⟨(some 9), some (.junk), none, false, .pu (.bnew (.c (.agg [.int .i64 0, .int .i64 0])))⟩,
   ⟨(some 9), none, none, false, .pu (.bset none 9 0 2 (.s 30))⟩,
   ⟨(some 10), some undefA, none, false, .pu (.mov (.s 31))⟩])
 (.seq (.seq (.ops [⟨(some 32), some undefA, none, false, .pu (.mov (.s 8))⟩,
   ⟨(some 33), some undefA, none, false, .pu (.bin .neq (.s 32) (.c (.int .i64 0)))⟩,
   ⟨(some 34), some undefA, none, false, .pu (.mov (.s 33))⟩,
   ⟨(some 35), some undefA, (some (34, false)), false, .pu (.mov (.s 10))⟩,
   ⟨(some 36), some undefA, (some (34, false)), false, .pu (.bin .neq (.s 35) (.c (.int .i64 0)))⟩,
   ⟨(some 37), some undefA, none, false, .pu (.pick (.s 34) (.c (.bool true)) (.s 36))⟩])
 (.cond (.s 37) (.seq (.ops [⟨(some 38), some undefA, none, false, .call 19 []⟩,
    ⟨(some 6), some undefA, none, false, .pu (.mov (.s 38))⟩])
  (.ret))
 (.skip)))
 (.seq (.ops [⟨(some 40), some undefA, none, false, .pu (.mov (.s 0))⟩,
   ⟨(some 41), some undefA, none, false, .pu (.badr none 4)⟩,
   ⟨(some 42), some undefA, none, false, .pu (.bget (some 41) 4 0 2 true)⟩,
   ⟨(some 43), some undefA, none, false, .pu (.badr none 4)⟩,
   ⟨(some 44), some undefA, none, false, .pu (.bget (some 43) 4 2 2 true)⟩,
   ⟨(some 45), some undefA, none, false, .call 25 [(.s 40), (.s 42), (.s 44)]⟩,
   ⟨(some 39), some undefA, none, false, .pu (.mov (.s 45))⟩,
   ⟨(some 46), some undefA, none, false, .pu (.extr 0 (.s 39))⟩,
   ⟨(some 47), some undefA, none, false, .pu (.extr 1 (.s 39))⟩,
   ⟨(some 11), some (.junk), none, false, .pu (.bnew (.c (.agg [.int .i64 0, .int .i64 0])))⟩,
   ⟨(some 11), none, none, false, .pu (.bset none 11 0 2 (.s 46))⟩,
   ⟨(some 12), some undefA, none, false, .pu (.mov (.s 47))⟩])
 (.seq (.ops [⟨(some 48), some undefA, none, false, .pu (.mov (.s 12))⟩,
   ⟨(some 49), some undefA, none, false, .pu (.bin .eql (.s 48) (.c (.int .i64 0)))⟩,
   ⟨(some 50), some undefA, none, false, .pu (.mov (.s 49))⟩,
   ⟨(some 51), some undefA, (some (50, true)), false, .pu (.badr none 7)⟩,
   ⟨(some 52), some undefA, (some (50, true)), false, .pu (.bget (some 51) 7 1 1 false)⟩,
   ⟨(some 53), some undefA, (some (50, true)), false, .pu (.bin .gtr (.s 52) (.c (.int .i64 0)))⟩,
   ⟨(some 54), some undefA, none, false, .pu (.pick (.s 50) (.s 53) (.c (.bool false)))⟩,
   ⟨(some 55), some undefA, none, false, .pu (.mov (.s 54))⟩,
   ⟨(some 56), some undefA, (some (55, true)), false, .pu (.badr none 9)⟩,
   ⟨(some 57), some undefA, (some (55, true)), false, .pu (.bget (some 56) 9 1 1 false)⟩,
   ⟨(some 58), some undefA, (some (55, true)), false, .pu (.bin .gtr (.s 57) (.c (.int .i64 0)))⟩,
   ⟨(some 59), some undefA, none, false, .pu (.pick (.s 55) (.s 58) (.c (.bool false)))⟩,
   ⟨(some 60), some undefA, none, false, .pu (.mov (.s 59))⟩,
   ⟨(some 61), some undefA, (some (60, true)), false, .pu (.badr none 11)⟩,
   ⟨(some 62), some undefA, (some (60, true)), false, .pu (.bget (some 61) 11 1 1 false)⟩,
   ⟨(some 63), some undefA, (some (60, true)), false, .pu (.bin .gtr (.s 62) (.c (.int .i64 0)))⟩,
   ⟨(some 64), some undefA, none, false, .pu (.pick (.s 60) (.s 63) (.c (.bool false)))⟩,
   ⟨(some 65), some undefA, none, false, .pu (.mov (.s 64))⟩,
   ⟨(some 66), some undefA, (some (65, true)), false, .pu (.bget none 7 0 2 true)⟩,
   ⟨(some 67), some undefA, (some (65, true)), false, .pu (.bget none 9 0 2 true)⟩,
   ⟨(some 68), some undefA, (some (65, true)), false, .pu (.bget none 11 0 2 true)⟩,
   ⟨(some 69), some undefA, (some (65, true)), false, .ha (.blds 2 3 [.int .i64 0, .int .i64 0] [(0, 2, (.s 66)), (2, 2, (.s 67)), (4, 2, (.s 68))])⟩,
   ⟨(some 70), some undefA, (some (65, true)), false, .call 23 [(.s 69)]⟩,
   ⟨(some 71), some undefA, none, false, .pu (.pick (.s 65) (.s 70) (.c (.bool false)))⟩,
   ⟨(some 72), some undefA, none, false, .pu (.mov (.s 71))⟩,
   ⟨(some 73), some undefA, (some (72, true)), false, .pu (.badr none 7)⟩,
   ⟨(some 74), some undefA, (some (72, true)), false, .pu (.bget (some 73) 7 0 1 false)⟩,
   ⟨(some 75), some undefA, (some (72, true)), false, .pu (.bin .geq (.s 74) (.c (.int .i64 0)))⟩,
   ⟨(some 76), some undefA, none, false, .pu (.pick (.s 72) (.s 75) (.c (.bool false)))⟩,
   ⟨(some 77), some undefA, none, false, .pu (.mov (.s 76))⟩,
   ⟨(some 78), some undefA, (some (77, true)), false, .pu (.badr none 9)⟩,
   ⟨(some 79), some undefA, (some (77, true)), false, .pu (.bget (some 78) 9 0 1 false)⟩,
   ⟨(some 80), some undefA, (some (77, true)), false, .pu (.bin .geq (.s 79) (.c (.int .i64 0)))⟩,
   ⟨(some 81), some undefA, none, false, .pu (.pick (.s 77) (.s 80) (.c (.bool false)))⟩,
   ⟨(some 82), some undefA, none, false, .pu (.mov (.s 81))⟩,
   ⟨(some 83), some undefA, (some (82, true)), false, .pu (.bget none 7 0 2 true)⟩,
   ⟨(some 84), some undefA, (some (82, true)), false, .pu (.bget none 9 0 2 true)⟩,
   ⟨(some 85), some undefA, (some (82, true)), false, .call 27 [(.s 83), (.s 84)]⟩,
   ⟨(some 86), some undefA, (some (82, true)), false, .pu (.bget none 11 0 2 true)⟩,
   ⟨(some 87), some undefA, (some (82, true)), false, .pu (.eqs false [true, true] (.s 85) (.s 86))⟩,
   ⟨(some 88), some undefA, none, false, .pu (.pick (.s 82) (.s 87) (.c (.bool false)))⟩,
   ⟨(some 89), some undefA, none, false, .pu (.mov (.s 88))⟩,
   ⟨(some 90), some undefA, (some (89, true)), false, .call 19 []⟩,
   ⟨(some 91), some undefA, none, false, .pu (.pick (.s 89) (.s 90) (.c (.bool false)))⟩,
   ⟨(some 6), some undefA, none, false, .pu (.mov (.s 91))⟩])
 (.ret)))))))⟩
/-- selion/selionlaw02.SoilDearest [] -/
def m6 : MFun := ⟨101, [5, 7, 8, 10, 11, 13], [.mov (.s 6)],
 .seq (.ops [⟨(some 5), some (.junk), none, false, .pu (.bnew (.s 2))⟩,
   ⟨(some 6), some undefA, none, false, .pu (.mov (.c (.bool false)))⟩])
 (.seq (.seq (.ops [⟨(some 15), some undefA, none, false, .pu (.mov (.s 0))⟩,
   ⟨(some 16), some undefA, none, false, .call 18 [(.s 15), (.c (.nilS))]⟩])
 (.cond (.s 16) (.seq (.ops [⟨(some 17), some undefA, none, false, .call 19 []⟩,
    ⟨(some 6), some undefA, none, false, .pu (.mov (.s 17))⟩])
  (.ret))
 (.skip)))
 (.seq (.ops [⟨(some 19), some undefA, none, false, .pu (.mov (.s 0))⟩,
   ⟨(some 20), some undefA, none, false, .pu (.mov (.s 1))⟩,
   ⟨(some 21), some undefA, none, false, .call 28 [(.s 19), (.s 20)]⟩,
   ⟨(some 18), some undefA, none, false, .pu (.mov (.s 21))⟩,
   ⟨(some 22), some undefA, none, false, .pu (.extr 0 (.s 18))⟩,
   ⟨(some 23), some undefA, none, false, .pu (.extr 1 (.s 18))⟩,
   ⟨(some 24), some undefA, none, false, .pu (.extr 2 (.s 18))⟩,
   ⟨(some 7), some (.junk), none, false, .pu (.bnew (.c (.agg [.int .i64 0, .int .i64 0])))⟩,
   ⟨(some 8), some (.junk), none, false, .pu (.bnew (.c (.agg [.int .i64 0, .int .i64 0])))⟩,
   ⟨(some 7), none, none, false, .pu (.bset none 7 0 2 (.s 22))⟩,
   ⟨(some 8), none, none, false, .pu (.bset none 8 0 2 (.s 23))⟩,
   ⟨(some 9), some undefA, none, false, .pu (.mov (.s 24))⟩])
 (.seq (.ops [⟨(some 26), some undefA, none, false, .pu (.mov (.s 0))⟩,
   ⟨(some 27), some undefA, none, false, .pu (.mov (.s 1))⟩,
   ⟨(some 28), some undefA, none, false, .call 29 [(.s 26), (.s 27)]⟩,
   ⟨(some 25), some undefA, none, false, .pu (.mov (.s 28))⟩,
   ⟨(some 29), some undefA, none, false, .pu (.extr 0 (.s 25))⟩,
   ⟨(some 30), some undefA, none, false, .pu (.extr 1 (.s 25))⟩,
   ⟨(some 31), some undefA, none, false, .pu (.extr 2 (.s 25))⟩,
   ⟨(some 10), some (.junk), none, false, .pu (.bnew (.c (.agg [.int .i64 0, .int .i64 0])))⟩,
   ⟨(some 11), some (.junk), none, false, .pu (.bnew (.c (.agg [.int .i64 0, .int .i64 0])))⟩,
   ⟨(some 10), none, none, false, .pu (.bset none 10 0 2 (.s 29))⟩,
   ⟨(some 11), none, none, false, .pu (.bset none 11 0 2 (.s 30))⟩,
   ⟨(some 12), some undefA, none, false, .pu (.mov (.s 31))⟩])
 (.seq (.seq (.ops [⟨(some 32), some undefA, none, false, .pu (.bget none 7 0 2 true)⟩,
   ⟨(some 33), some undefA, none, false, .pu (.bget none 10 0 2 true)⟩,
   ⟨(some 34), some undefA, none, false, .pu (.eqs true [true, true] (.s 32) (.s 33))⟩,
   ⟨(some 35), some undefA, none, false, .pu (.mov (.s 34))⟩,
   ⟨(some 36), some undefA, (some (35, false)), false, .pu (.bget none 8 0 2 true)⟩,
   ⟨(some 37), some undefA, (some (35, false)), false, .pu (.bget none 11 0 2 true)⟩,
   ⟨(some 38), some undefA, (some (35, false)), false, .pu (.eqs true [true, true] (.s 36) (.s 37))⟩,
   ⟨(some 39), some undefA, none, false, .pu (.pick (.s 35) (.c (.bool true)) (.s 38))⟩,
   ⟨(some 40), some undefA, none, false, .pu (.mov (.s 39))⟩,
   ⟨(some 41), some undefA, (some (40, false)), false, .pu (.mov (.s 9))⟩,
   ⟨(some 42), some undefA, (some (40, false)), false, .pu (.mov (.s 12))⟩,
   ⟨(some 43), some undefA, (some (40, false)), false, .pu (.bin .neq (.s 41) (.s 42))⟩,
   ⟨(some 44), some undefA, none, false, .pu (.pick (.s 40) (.c (.bool true)) (.s 43))⟩])
 (.cond (.s 44) (.seq (.ops [⟨(some 6), some undefA, none, false, .pu (.mov (.c (.bool false)))⟩])
  (.ret))
 (.skip)))
 (.seq (.seq (.ops [⟨(some 45), some undefA, none, false, .pu (.mov (.s 9))⟩,
   ⟨(some 46), some undefA, none, false, .pu (.bin .neq (.s 45) (.c (.int .i64 0)))⟩,
   ⟨(some 47), some undefA, none, false, .pu (.mov (.s 46))⟩,
   ⟨(some 48), some undefA, (some (47, false)), false, .pu (.badr none 8)⟩,
   ⟨(some 49), some undefA, (some (47, false)), false, .pu (.bget (some 48) 8 1 1 false)⟩,
   ⟨(some 50), some undefA, (some (47, false)), false, .pu (.bin .lss (.s 49) (.c (.int .i64 1)))⟩,
   ⟨(some 51), some undefA, none, false, .pu (.pick (.s 47) (.c (.bool true)) (.s 50))⟩,
   ⟨(some 52), some undefA, none, false, .pu (.mov (.s 51))⟩,
   ⟨(some 53), some undefA, (some (52, false)), false, .pu (.badr none 5)⟩,
   ⟨(some 54), some undefA, (some (52, false)), false, .pu (.bget (some 53) 5 1 1 false)⟩,
   ⟨(some 55), some undefA, (some (52, false)), false, .pu (.bin .lss (.s 54) (.c (.int .i64 1)))⟩,
   ⟨(some 56), some undefA, none, false, .pu (.pick (.s 52) (.c (.bool true)) (.s 55))⟩,
   ⟨(some 57), some undefA, none, false, .pu (.mov (.s 56))⟩,
   ⟨(some 58), some undefA, (some (57, false)), false, .pu (.bget none 5 0 2 true)⟩,
   ⟨(some 59), some undefA, (some (57, false)), false, .ha (.blds 2 1 [.int .i64 0, .int .i64 0] [(0, 2, (.s 58))])⟩,
   ⟨(some 60), some undefA, (some (57, false)), false, .call 23 [(.s 59)]⟩,
   ⟨(some 61), some undefA, (some (57, false)), false, .pu (.not (.s 60))⟩,
   ⟨(some 62), some undefA, none, false, .pu (.pick (.s 57) (.c (.bool true)) (.s 61))⟩])
 (.cond (.s 62) (.seq (.ops [⟨(some 63), some undefA, none, false, .call 19 []⟩,
    ⟨(some 6), some undefA, none, false, .pu (.mov (.s 63))⟩])
  (.ret))
 (.skip)))
 (.seq (.ops [⟨(some 65), some undefA, none, false, .pu (.mov (.s 0))⟩,
   ⟨(some 66), some undefA, none, false, .pu (.bget none 5 0 2 true)⟩,
   ⟨(some 67), some undefA, none, false, .pu (.bget none 5 0 2 true)⟩,
   ⟨(some 68), some undefA, none, false, .pu (.mov (.s 1))⟩,
   ⟨(some 69), some undefA, none, false, .call 30 [(.s 68)]⟩,
   ⟨(some 70), some undefA, none, false, .call 27 [(.s 67), (.s 69)]⟩,
   ⟨(some 71), some undefA, none, false, .call 25 [(.s 65), (.s 66), (.s 70)]⟩,
   ⟨(some 64), some undefA, none, false, .pu (.mov (.s 71))⟩,
   ⟨(some 72), some undefA, none, false, .pu (.extr 0 (.s 64))⟩,
   ⟨(some 73), some undefA, none, false, .pu (.extr 1 (.s 64))⟩,
   ⟨(some 13), some (.junk), none, false, .pu (.bnew (.c (.agg [.int .i64 0, .int .i64 0])))⟩,
   ⟨(some 13), none, none, false, .pu (.bset none 13 0 2 (.s 72))⟩,
   ⟨(some 14), some undefA, none, false, .pu (.mov (.s 73))⟩])
 (.seq (.ops [⟨(some 74), some undefA, none, false, .pu (.mov (.s 14))⟩,
   ⟨(some 75), some undefA, none, false, .pu (.bin .neq (.s 74) (.c (.int .i64 0)))⟩,
   ⟨(some 76), some undefA, none, false, .pu (.mov (.s 75))⟩,
   ⟨(some 77), some undefA, (some (76, false)), false, .pu (.badr none 13)⟩,
   ⟨(some 78), some undefA, (some (76, false)), false, .pu (.bget (some 77) 13 1 1 false)⟩,
   ⟨(some 79), some undefA, (some (76, false)), false, .pu (.bin .gtr (.s 78) (.c (.int .i64 0)))⟩,
   ⟨(some 80), some undefA, (some (76, false)), false, .pu (.mov (.s 79))⟩,
   ⟨(some 81), some undefA, (some (80, true)), false, .pu (.badr none 8)⟩,
   ⟨(some 82), some undefA, (some (80, true)), false, .pu (.bget (some 81) 8 1 1 false)⟩,
   ⟨(some 83), some undefA, (some (80, true)), false, .pu (.bin .gtr (.s 82) (.c (.int .i64 0)))⟩,
   ⟨(some 84), some undefA, (some (76, false)), false, .pu (.pick (.s 80) (.s 83) (.c (.bool false)))⟩,
   ⟨(some 85), some undefA, (some (76, false)), false, .pu (.mov (.s 84))⟩,
   ⟨(some 86), some undefA, (some (85, true)), false, .pu (.bget none 13 0 2 true)⟩,
   ⟨(some 87), some undefA, (some (85, true)), false, .pu (.bget none 8 0 2 true)⟩,
   ⟨(some 88), some undefA, (some (85, true)), false, .ha (.blds 2 2 [.int .i64 0, .int .i64 0] [(0, 2, (.s 86)), (2, 2, (.s 87))])⟩,
   ⟨(some 89), some undefA, (some (85, true)), false, .call 23 [(.s 88)]⟩,
   ⟨(some 90), some undefA, (some (76, false)), false, .pu (.pick (.s 85) (.s 89) (.c (.bool false)))⟩,
   ⟨(some 91), some undefA, (some (76, false)), false, .pu (.mov (.s 90))⟩,
   ⟨(some 92), some undefA, (some (91, true)), false, .pu (.bget none 8 0 2 true)⟩,
   ⟨(some 93), some undefA, (some (91, true)), false, .pu (.bget none 13 0 2 true)⟩,
   ⟨(some 94), some undefA, (some (91, true)), false, .call 24 [(.s 92), (.s 93)]⟩,
   ⟨(some 95), some undefA, (some (91, true)), false, .pu (.not (.s 94))⟩,
   ⟨(some 96), some undefA, (some (76, false)), false, .pu (.pick (.s 91) (.s 95) (.c (.bool false)))⟩,
   ⟨(some 97), some undefA, none, false, .pu (.pick (.s 76) (.c (.bool true)) (.s 96))⟩,
   ⟨(some 98), some undefA, none, false, .pu (.mov (.s 97))⟩,
   ⟨(some 99), some undefA, (some (98, true)), false, .call 19 []⟩,
   ⟨(some 100), some undefA, none, false, .pu (.pick (.s 98) (.s 99) (.c (.bool false)))⟩,
   ⟨(some 6), some undefA, none, false, .pu (.mov (.s 100))⟩])
 (.ret))))))))⟩
/-- selion/selionlaw02.SoilPlaces [] -/
def m8 : MFun := ⟨63, [4, 5, 7, 9, 11], [.mov (.s 6)],
 .seq (.ops [⟨(some 4), some (.junk), none, false, .pu (.bnew (.s 1))⟩,
   ⟨(some 5), some (.junk), none, false, .pu (.bnew (.s 2))⟩,
   ⟨(some 6), some undefA, none, false, .pu (.mov (.c (.bool false)))⟩])
 (.seq (.seq (.ops [⟨(some 13), some undefA, none, false, .pu (.mov (.s 0))⟩,
   ⟨(some 14), some undefA, none, false, .call 18 [(.s 13), (.c (.nilS))]⟩])
 (.cond (.s 14) (.seq (.ops [⟨(some 15), some undefA, none, false, .call 19 []⟩,
    ⟨(some 6), some undefA, none, false, .pu (.mov (.s 15))⟩])
  (.ret))
 (.skip)))
 (.seq (.ops [⟨(some 17), some undefA, none, false, .pu (.mov (.s 0))⟩,
   ⟨(some 18), some undefA, none, false, .pu (.bget none 4 0 2 true)⟩,
   ⟨(some 19), some undefA, none, false, .pu (.bget none 5 0 2 true)⟩,
   ⟨(some 20), some undefA, none, false, .call 39 [(.s 17), (.s 18), (.s 19)]⟩,
   ⟨(some 16), some undefA, none, false, .pu (.mov (.s 20))⟩,
   ⟨(some 21), some undefA, none, false, .pu (.extr 0 (.s 16))⟩,
   ⟨(some 22), some undefA, none, false, .pu (.extr 1 (.s 16))⟩,
   ⟨(some 7), some (.junk), none, false, .pu (.bnew (.c (.agg [.int .i64 0, .int .i64 0])))⟩,
   ⟨(some 7), none, none, false, .pu (.bset none 7 0 2 (.s 21))⟩,
   ⟨(some 8), some undefA, none, false, .pu (.mov (.s 22))⟩])
 (.seq (.ops [⟨(some 24), some undefA, none, false, .pu (.mov (.s 0))⟩,
   ⟨(some 25), some undefA, none, false, .pu (.bget none 4 0 2 true)⟩,
   ⟨(some 26), some undefA, none, false, .pu (.bget none 5 0 2 true)⟩,
   ⟨(some 27), some undefA, none, false, .call 40 [(.s 24), (.s 25), (.s 26)]⟩,
   ⟨(some 23), some undefA, none, false, .pu (.mov (.s 27))⟩,
   ⟨(some 28), some undefA, none, false, .pu (.extr 0 (.s 23))⟩,
   ⟨(some 29), some undefA, none, false, .pu (.extr 1 (.s 23))⟩,
   ⟨(some 9), some (.junk), none, false, .pu (.bnew (.c (.agg [.int .i64 0, .int .i64 0])))⟩,
   ⟨(some 9), none, none, false, .pu (.bset none 9 0 2 (.s 28))⟩,
   ⟨(some 10), some undefA, none, false, .pu (.mov (.s 29))⟩])
 (.seq (.seq (.ops [⟨(some 30), some undefA, none, false, .pu (.bget none 7 0 2 true)⟩,
   ⟨(some 31), some undefA, none, false, .pu (.bget none 9 0 2 true)⟩,
   ⟨(some 32), some undefA, none, false, .pu (.eqs true [true, true] (.s 30) (.s 31))⟩,
   ⟨(some 33), some undefA, none, false, .pu (.mov (.s 32))⟩,
   ⟨(some 34), some undefA, (some (33, false)), false, .pu (.mov (.s 8))⟩,
   ⟨(some 35), some undefA, (some (33, false)), false, .pu (.mov (.s 10))⟩,
   ⟨(some 36), some undefA, (some (33, false)), false, .pu (.bin .neq (.s 34) (.s 35))⟩,
   ⟨(some 37), some undefA, none, false, .pu (.pick (.s 33) (.c (.bool true)) (.s 36))⟩])
 (.cond (.s 37) (.seq (.ops [⟨(some 6), some undefA, none, false, .pu (.mov (.c (.bool false)))⟩])
  (.ret))
 (.skip)))
 (.seq (.seq (.ops [⟨(some 38), some undefA, none, false, .pu (.mov (.s 8))⟩,
   ⟨(some 39), some undefA, none, false, .pu (.bin .neq (.s 38) (.c (.int .i64 0)))⟩,
   ⟨(some 40), some undefA, none, false, .pu (.mov (.s 39))⟩,
   ⟨(some 41), some undefA, (some (40, false)), false, .pu (.badr none 7)⟩,
   ⟨(some 42), some undefA, (some (40, false)), false, .pu (.bget (some 41) 7 1 1 false)⟩,
   ⟨(some 43), some undefA, (some (40, false)), false, .pu (.bin .gtr (.s 42) (.c (.int .i64 1000)))⟩,
   ⟨(some 44), some undefA, none, false, .pu (.pick (.s 40) (.c (.bool true)) (.s 43))⟩])
 (.cond (.s 44) (.seq (.ops [⟨(some 45), some undefA, none, false, .call 19 []⟩,
    ⟨(some 6), some undefA, none, false, .pu (.mov (.s 45))⟩])
  (.ret))
 (.skip)))
 (.seq (.ops [⟨(some 47), some undefA, none, false, .pu (.mov (.s 0))⟩,
   ⟨(some 48), some undefA, none, false, .pu (.bget none 4 0 2 true)⟩,
   ⟨(some 49), some undefA, none, false, .pu (.bget none 7 0 2 true)⟩,
   ⟨(some 50), some undefA, none, false, .call 25 [(.s 47), (.s 48), (.s 49)]⟩,
   ⟨(some 46), some undefA, none, false, .pu (.mov (.s 50))⟩,
   ⟨(some 51), some undefA, none, false, .pu (.extr 0 (.s 46))⟩,
   ⟨(some 52), some undefA, none, false, .pu (.extr 1 (.s 46))⟩,
   ⟨(some 11), some (.junk), none, false, .pu (.bnew (.c (.agg [.int .i64 0, .int .i64 0])))⟩,
   ⟨(some 11), none, none, false, .pu (.bset none 11 0 2 (.s 51))⟩,
   ⟨(some 12), some undefA, none, false, .pu (.mov (.s 52))⟩])
 (.seq (.ops [⟨(some 53), some undefA, none, false, .pu (.mov (.s 12))⟩,
   ⟨(some 54), some undefA, none, false, .pu (.bin .eql (.s 53) (.c (.int .i64 0)))⟩,
   ⟨(some 55), some undefA, none, false, .pu (.mov (.s 54))⟩,
   ⟨(some 56), some undefA, (some (55, true)), false, .pu (.bget none 11 0 2 true)⟩,
   ⟨(some 57), some undefA, (some (55, true)), false, .pu (.bget none 5 0 2 true)⟩,
   ⟨(some 58), some undefA, (some (55, true)), false, .pu (.eqs false [true, true] (.s 56) (.s 57))⟩,
   ⟨(some 59), some undefA, none, false, .pu (.pick (.s 55) (.s 58) (.c (.bool false)))⟩,
   ⟨(some 60), some undefA, none, false, .pu (.mov (.s 59))⟩,
   ⟨(some 61), some undefA, (some (60, true)), false, .call 19 []⟩,
   ⟨(some 62), some undefA, none, false, .pu (.pick (.s 60) (.s 61) (.c (.bool false)))⟩,
   ⟨(some 6), some undefA, none, false, .pu (.mov (.s 62))⟩])
 (.ret))))))))⟩
/-- selion/selionlaw02.SoilParts [] -/
def m9 : MFun := ⟨91, [15], [.mov (.s 6)],
 .seq (.ops [⟨(some 6), some undefA, none, false, .pu (.mov (.c (.bool false)))⟩])
 (.seq (.seq (.ops [⟨(some 17), some undefA, none, false, .pu (.mov (.s 0))⟩,
   ⟨(some 18), some undefA, none, false, .call 18 [(.s 17), (.c (.nilS))]⟩])
 (.cond (.s 18) (.seq (.ops [⟨(some 19), some undefA, none, false, .call 19 []⟩,
    ⟨(some 6), some undefA, none, false, .pu (.mov (.s 19))⟩])
  (.ret))
 (.skip)))
 (.seq (.ops [⟨(some 21), some undefA, none, false, .pu (.mov (.s 0))⟩,
   ⟨(some 22), some undefA, none, false, .pu (.mov (.s 1))⟩,
   ⟨(some 23), some undefA, none, false, .pu (.mov (.s 2))⟩,
   ⟨(some 24), some undefA, none, false, .call 41 [(.s 21), (.s 22), (.s 23)]⟩,
   ⟨(some 20), some undefA, none, false, .pu (.mov (.s 24))⟩,
   ⟨(some 25), some undefA, none, false, .pu (.extr 0 (.s 20))⟩,
   ⟨(some 26), some undefA, none, false, .pu (.extr 1 (.s 20))⟩,
   ⟨(some 7), some undefA, none, false, .pu (.mov (.s 25))⟩,
   ⟨(some 8), some undefA, none, false, .pu (.mov (.s 26))⟩])
 (.seq (.ops [⟨(some 28), some undefA, none, false, .pu (.mov (.s 0))⟩,
   ⟨(some 29), some undefA, none, false, .pu (.mov (.s 1))⟩,
   ⟨(some 30), some undefA, none, false, .pu (.mov (.s 2))⟩,
   ⟨(some 31), some undefA, none, false, .call 42 [(.s 28), (.s 29), (.s 30)]⟩,
   ⟨(some 27), some undefA, none, false, .pu (.mov (.s 31))⟩,
   ⟨(some 32), some undefA, none, false, .pu (.extr 0 (.s 27))⟩,
   ⟨(some 33), some undefA, none, false, .pu (.extr 1 (.s 27))⟩,
   ⟨(some 9), some undefA, none, false, .pu (.mov (.s 32))⟩,
   ⟨(some 10), some undefA, none, false, .pu (.mov (.s 33))⟩])
 (.seq (.seq (.ops [⟨(some 34), some undefA, none, false, .pu (.mov (.s 8))⟩,
   ⟨(some 35), some undefA, none, false, .pu (.mov (.s 10))⟩,
   ⟨(some 36), some undefA, none, false, .pu (.bin .neq (.s 34) (.s 35))⟩,
   ⟨(some 37), some undefA, none, false, .pu (.mov (.s 36))⟩,
   ⟨(some 38), some undefA, (some (37, false)), false, .pu (.mov (.s 7))⟩,
   ⟨(some 39), some undefA, (some (37, false)), false, .pu (.mov (.s 9))⟩,
   ⟨(some 40), some undefA, (some (37, false)), false, .call 43 [(.s 38), (.s 39)]⟩,
   ⟨(some 41), some undefA, (some (37, false)), false, .pu (.not (.s 40))⟩,
   ⟨(some 42), some undefA, none, false, .pu (.pick (.s 37) (.c (.bool true)) (.s 41))⟩])
 (.cond (.s 42) (.seq (.ops [⟨(some 6), some undefA, none, false, .pu (.mov (.c (.bool false)))⟩])
  (.ret))
 (.skip)))
 (.seq (.seq (.ops [⟨(some 43), some undefA, none, false, .pu (.mov (.s 8))⟩,
   ⟨(some 44), some undefA, none, false, .pu (.bin .neq (.s 43) (.c (.int .i64 0)))⟩])
 (.cond (.s 44) (.seq (.ops [⟨(some 45), some undefA, none, false, .call 19 []⟩,
    ⟨(some 6), some undefA, none, false, .pu (.mov (.s 45))⟩])
  (.ret))
 (.skip)))
 (.seq (.ops [⟨(some 47), some undefA, none, false, .pu (.mov (.s 7))⟩,
   ⟨(some 48), some undefA, none, false, .call 33 [(.s 47)]⟩,
   ⟨(some 46), some undefA, none, false, .pu (.mov (.s 48))⟩,
   ⟨(some 49), some undefA, none, false, .pu (.extr 0 (.s 46))⟩,
   ⟨(some 50), some undefA, none, false, .pu (.extr 1 (.s 46))⟩,
   ⟨(some 11), some undefA, none, false, .pu (.mov (.s 49))⟩,
   ⟨(some 12), some undefA, none, false, .pu (.mov (.s 50))⟩])
 (.seq (.ops [⟨(some 52), some undefA, none, false, .pu (.mov (.s 7))⟩,
   ⟨(some 53), some undefA, none, false, .call 31 [(.s 52)]⟩,
   ⟨(some 51), some undefA, none, false, .pu (.mov (.s 53))⟩,
   ⟨(some 54), some undefA, none, false, .pu (.extr 0 (.s 51))⟩,
   ⟨(some 55), some undefA, none, false, .pu (.extr 1 (.s 51))⟩,
   ⟨(some 13), some undefA, none, false, .pu (.mov (.s 54))⟩,
   ⟨(some 14), some undefA, none, false, .pu (.mov (.s 55))⟩])
 (.seq (.ops [⟨(some 57), some undefA, none, false, .pu (.mov (.s 0))⟩,
   ⟨(some 58), some undefA, none, false, .pu (.mov (.s 1))⟩,
   ⟨(some 59), some undefA, none, false, .call 30 [(.s 58)]⟩,
   ⟨(some 60), some undefA, none, false, .pu (.mov (.s 2))⟩,
   ⟨(some 61), some undefA, none, false, .call 30 [(.s 60)]⟩,
   ⟨(some 62), some undefA, none, false, .call 25 [(.s 57), (.s 59), (.s 61)]⟩,
   ⟨(some 56), some undefA, none, false, .pu (.mov (.s 62))⟩,
   ⟨(some 63), some undefA, none, false, .pu (.extr 0 (.s 56))⟩,
   ⟨(some 64), some undefA, none, false, .pu (.extr 1 (.s 56))⟩,
   ⟨(some 15), some (.junk), none, false, .pu (.bnew (.c (.agg [.int .i64 0, .int .i64 0])))⟩,
   ⟨(some 15), none, none, false, .pu (.bset none 15 0 2 (.s 63))⟩,
   ⟨(some 16), some undefA, none, false, .pu (.mov (.s 64))⟩])
 (.seq (.ops [⟨(some 65), some undefA, none, false, .pu (.mov (.s 12))⟩,
   ⟨(some 66), some undefA, none, false, .pu (.bin .eql (.s 65) (.c (.int .i64 0)))⟩,
   ⟨(some 67), some undefA, none, false, .pu (.mov (.s 66))⟩,
   ⟨(some 68), some undefA, (some (67, true)), false, .pu (.mov (.s 14))⟩,
   ⟨(some 69), some undefA, (some (67, true)), false, .pu (.bin .eql (.s 68) (.c (.int .i64 0)))⟩,
   ⟨(some 70), some undefA, none, false, .pu (.pick (.s 67) (.s 69) (.c (.bool false)))⟩,
   ⟨(some 71), some undefA, none, false, .pu (.mov (.s 70))⟩,
   ⟨(some 72), some undefA, (some (71, true)), false, .pu (.mov (.s 16))⟩,
   ⟨(some 73), some undefA, (some (71, true)), false, .pu (.bin .eql (.s 72) (.c (.int .i64 0)))⟩,
   ⟨(some 74), some undefA, none, false, .pu (.pick (.s 71) (.s 73) (.c (.bool false)))⟩,
   ⟨(some 75), some undefA, none, false, .pu (.mov (.s 74))⟩,
   ⟨(some 76), some undefA, (some (75, true)), false, .pu (.mov (.s 13))⟩,
   ⟨(some 77), some undefA, (some (75, true)), false, .pu (.mov (.s 2))⟩,
   ⟨(some 78), some undefA, (some (75, true)), false, .pu (.mov (.s 1))⟩,
   ⟨(some 79), some undefA, (some (75, true)), false, .pu (.bin .sub (.s 77) (.s 78))⟩,
   ⟨(some 80), some undefA, (some (75, true)), false, .pu (.bin .eql (.s 76) (.s 79))⟩,
   ⟨(some 81), some undefA, none, false, .pu (.pick (.s 75) (.s 80) (.c (.bool false)))⟩,
   ⟨(some 82), some undefA, none, false, .pu (.mov (.s 81))⟩,
   ⟨(some 83), some undefA, (some (82, true)), false, .pu (.bget none 15 0 2 true)⟩,
   ⟨(some 84), some undefA, (some (82, true)), false, .pu (.mov (.s 11))⟩,
   ⟨(some 85), some undefA, (some (82, true)), false, .call 30 [(.s 84)]⟩,
   ⟨(some 86), some undefA, (some (82, true)), false, .pu (.eqs false [true, true] (.s 83) (.s 85))⟩,
   ⟨(some 87), some undefA, none, false, .pu (.pick (.s 82) (.s 86) (.c (.bool false)))⟩,
   ⟨(some 88), some undefA, none, false, .pu (.mov (.s 87))⟩,
   ⟨(some 89), some undefA, (some (88, true)), false, .call 19 []⟩,
   ⟨(some 90), some undefA, none, false, .pu (.pick (.s 88) (.s 89) (.c (.bool false)))⟩,
   ⟨(some 6), some undefA, none, false, .pu (.mov (.s 90))⟩])
 (.ret))))))))))⟩
end Go.Proofs.Ytnnbggcckabhdaa

