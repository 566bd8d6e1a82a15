import Derived.Test.YtnnbggcckabhdaaEng20
import Derived.Test.YtnnbggcckabhdaaRows
namespace Go.Proofs.Ytnnbggcckabhdaa
open Go Go.Eng
/-- selion/selionlaw02.Long [] -/
def m18 : MFun := ⟨13, [], [.mov (.s 4)],
 .seq (.ops [⟨(some 4), some undefA, none, false, .pu (.mov (.c (.bool false)))⟩])
 (.seq (.ops [⟨(some 5), some undefA, none, false, .pu (.mov (.s 0))⟩,
   ⟨(some 6), some undefA, none, false, .pu (.len (.s 5))⟩,
   ⟨(some 7), some undefA, none, false, .pu (.bin .gtr (.s 6) (.c (.int .i64 100)))⟩,
   ⟨(some 8), some undefA, none, false, .pu (.mov (.s 7))⟩,
   ⟨(some 9), some undefA, (some (8, false)), false, .pu (.mov (.s 1))⟩,
   ⟨(some 10), some undefA, (some (8, false)), false, .pu (.len (.s 9))⟩,
   ⟨(some 11), some undefA, (some (8, false)), false, .pu (.bin .gtr (.s 10) (.c (.int .i64 100)))⟩,
   ⟨(some 12), some undefA, none, false, .pu (.pick (.s 8) (.c (.bool true)) (.s 11))⟩,
   ⟨(some 4), some undefA, none, false, .pu (.mov (.s 12))⟩])
 (.ret))⟩
theorem t18 : trF Try.prog [] [] Try.f18 = some m18 := by kernel_rfl

/-- selion/selionlaw02.known [] -/
def m19 : MFun := ⟨44, [4, 5], [.mov (.s 0)],
 .seq (.ops [⟨(some 0), some undefA, none, false, .pu (.mov (.c (.bool false)))⟩])
 (.seq (.ops [⟨(some 7), some undefA, none, false, .pu (.build [.int .i64 0, .int .i64 0] [(0, 1, (.c (.int .i64 4))), (1, 1, (.c (.int .i64 3)))])⟩,
   ⟨(some 8), some undefA, none, false, .pu (.build [.int .i64 0, .int .i64 0] [(0, 1, (.c (.int .i64 2))), (1, 1, (.c (.int .i64 6)))])⟩,
   ⟨(some 9), some undefA, none, false, .ha (.blds 2 2 [.int .i64 0, .int .i64 0] [(0, 2, (.s 7)), (2, 2, (.s 8))])⟩,
   ⟨(some 1), some undefA, none, false, .pu (.mov (.s 9))⟩])
 (.seq (.ops [⟨(some 11), some undefA, none, false, .pu (.mov (.s 1))⟩,
   ⟨(some 12), some undefA, none, false, .call 20 [(.s 11), (.c (.int .i64 3))]⟩,
   ⟨(some 10), some undefA, none, false, .pu (.mov (.s 12))⟩,
   ⟨(some 13), some undefA, none, false, .pu (.extr 0 (.s 10))⟩,
   ⟨(some 14), some undefA, none, false, .pu (.extr 1 (.s 10))⟩,
   ⟨(some 2), some undefA, none, false, .pu (.mov (.s 13))⟩,
   ⟨(some 3), some undefA, none, false, .pu (.mov (.s 14))⟩])
 (.seq (.ops [⟨(some 16), some undefA, none, false, .pu (.mov (.s 1))⟩,
   ⟨(some 17), some undefA, none, false, .call 28 [(.s 16), (.c (.int .i64 3))]⟩,
   ⟨(some 15), some undefA, none, false, .pu (.mov (.s 17))⟩,
   ⟨(some 18), some undefA, none, false, .pu (.extr 0 (.s 15))⟩,
   ⟨(some 19), some undefA, none, false, .pu (.extr 1 (.s 15))⟩,
   ⟨(some 20), some undefA, none, false, .pu (.extr 2 (.s 15))⟩,
   ⟨(some 4), some (.junk), none, false, .pu (.bnew (.c (.agg [.int .i64 0, .int .i64 0])))⟩,
   ⟨(some 5), some (.junk), none, false, .pu (.bnew (.c (.agg [.int .i64 0, .int .i64 0])))⟩,
   ⟨(some 4), none, none, false, .pu (.bset none 4 0 2 (.s 18))⟩,
   ⟨(some 5), none, none, false, .pu (.bset none 5 0 2 (.s 19))⟩,
   ⟨(some 6), some undefA, none, false, .pu (.mov (.s 20))⟩])
 (.seq (.ops [⟨(some 21), some undefA, none, false, .pu (.mov (.s 3))⟩,
   ⟨(some 22), some undefA, none, false, .pu (.bin .eql (.s 21) (.c (.int .i64 0)))⟩,
   ⟨(some 23), some undefA, none, false, .pu (.mov (.s 22))⟩,
   ⟨(some 24), some undefA, (some (23, true)), false, .pu (.mov (.s 2))⟩,
   ⟨(some 25), some undefA, (some (23, true)), false, .pu (.build [.int .i64 0, .int .i64 0] [(0, 1, (.c (.int .i64 8))), (1, 1, (.c (.int .i64 3)))])⟩,
   ⟨(some 26), some undefA, (some (23, true)), false, .pu (.build [.int .i64 0, .int .i64 0] [(0, 1, (.c (.int .i64 14))), (1, 1, (.c (.int .i64 3)))])⟩,
   ⟨(some 27), some undefA, (some (23, true)), false, .ha (.blds 2 2 [.int .i64 0, .int .i64 0] [(0, 2, (.s 25)), (2, 2, (.s 26))])⟩,
   ⟨(some 28), some undefA, (some (23, true)), false, .call 22 [(.s 24), (.s 27)]⟩,
   ⟨(some 29), some undefA, none, false, .pu (.pick (.s 23) (.s 28) (.c (.bool false)))⟩,
   ⟨(some 30), some undefA, none, false, .pu (.mov (.s 29))⟩,
   ⟨(some 31), some undefA, (some (30, true)), false, .pu (.mov (.s 6))⟩,
   ⟨(some 32), some undefA, (some (30, true)), false, .pu (.bin .eql (.s 31) (.c (.int .i64 0)))⟩,
   ⟨(some 33), some undefA, none, false, .pu (.pick (.s 30) (.s 32) (.c (.bool false)))⟩,
   ⟨(some 34), some undefA, none, false, .pu (.mov (.s 33))⟩,
   ⟨(some 35), some undefA, (some (34, true)), false, .pu (.bget none 4 0 2 true)⟩,
   ⟨(some 36), some undefA, (some (34, true)), false, .pu (.build [.int .i64 0, .int .i64 0] [(0, 1, (.c (.int .i64 3))), (1, 1, (.c (.int .i64 1)))])⟩,
   ⟨(some 37), some undefA, (some (34, true)), false, .pu (.eqs false [true, true] (.s 35) (.s 36))⟩,
   ⟨(some 38), some undefA, none, false, .pu (.pick (.s 34) (.s 37) (.c (.bool false)))⟩,
   ⟨(some 39), some undefA, none, false, .pu (.mov (.s 38))⟩,
   ⟨(some 40), some undefA, (some (39, true)), false, .pu (.bget none 5 0 2 true)⟩,
   ⟨(some 41), some undefA, (some (39, true)), false, .pu (.build [.int .i64 0, .int .i64 0] [(0, 1, (.c (.int .i64 15))), (1, 1, (.c (.int .i64 1)))])⟩,
   ⟨(some 42), some undefA, (some (39, true)), false, .pu (.eqs false [true, true] (.s 40) (.s 41))⟩,
   ⟨(some 43), some undefA, none, false, .pu (.pick (.s 39) (.s 42) (.c (.bool false)))⟩,
   ⟨(some 0), some undefA, none, false, .pu (.mov (.s 43))⟩])
 (.ret)))))⟩
theorem t19 : trF Try.prog [4, 5] [] Try.f19 = some m19 := by kernel_rfl

/-- selion/soil.Equal [] -/
def m20 : MFun := ⟨25, [], [.mov (.s 4), .mov (.s 5)],
 .seq (.ops [⟨(some 4), some undefA, none, false, .pu (.mov (.c (.nilS)))⟩,
   ⟨(some 5), some undefA, none, false, .pu (.mov (.c (.int .i64 0)))⟩])
 (.seq (.seq (.ops [⟨(some 7), some undefA, none, false, .pu (.mov (.s 0))⟩,
   ⟨(some 8), some undefA, none, false, .call 37 [(.s 7)]⟩,
   ⟨(some 6), some undefA, none, false, .pu (.mov (.s 8))⟩])
 (.seq (.ops [⟨(some 9), some undefA, none, false, .pu (.mov (.s 6))⟩,
   ⟨(some 10), some undefA, none, false, .pu (.bin .neq (.s 9) (.c (.int .i64 0)))⟩])
 (.cond (.s 10) (.seq (.ops [⟨(some 11), some undefA, none, false, .pu (.mov (.s 6))⟩,
    ⟨(some 4), some undefA, none, false, .pu (.mov (.c (.nilS)))⟩,
    ⟨(some 5), some undefA, none, false, .pu (.mov (.s 11))⟩])
  (.ret))
 (.skip))))
 (.seq (.seq (.ops [⟨(some 12), some undefA, none, false, .pu (.mov (.s 1))⟩,
   ⟨(some 13), some undefA, none, false, .call 61 [(.s 12), (.c (.int .i64 1)), (.c (.int .i64 8))]⟩,
   ⟨(some 14), some undefA, none, false, .pu (.not (.s 13))⟩])
 (.cond (.s 14) (.seq (.ops [⟨(some 4), some undefA, none, false, .pu (.mov (.c (.nilS)))⟩,
    ⟨(some 5), some undefA, none, false, .pu (.mov (.c (.int .i64 3)))⟩])
  (.ret))
 (.skip)))
 (.seq (.ops [⟨(some 15), some undefA, none, false, .pu (.mov (.s 0))⟩,
   ⟨(some 16), some undefA, none, false, .pu (.mov (.s 0))⟩,
   ⟨(some 17), some undefA, none, false, .call 65 [(.s 16)]⟩,
   ⟨(some 18), some undefA, none, false, .pu (.mov (.s 1))⟩,
   ⟨(some 19), some undefA, none, false, .call 64 [(.s 17), (.s 18)]⟩,
   ⟨(some 20), some undefA, none, false, .ha (.blds 2 1 [.int .i64 0, .int .i64 0] [(0, 2, (.s 19))])⟩,
   ⟨(some 21), some undefA, none, false, .pu (.mov (.s 1))⟩,
   ⟨(some 22), some undefA, none, false, .pu (.bin .sub (.s 21) (.c (.int .i64 1)))⟩,
   ⟨(some 23), some undefA, none, false, .call 63 [(.s 20), (.s 22)]⟩,
   ⟨(some 24), some undefA, none, false, .call 62 [(.s 15), (.s 23)]⟩,
   ⟨(some 4), some undefA, none, false, .pu (.mov (.s 24))⟩,
   ⟨(some 5), some undefA, none, false, .pu (.mov (.c (.int .i64 0)))⟩])
 (.ret))))⟩
theorem t20 : trF Try.prog [] [] Try.f20 = some m20 := by kernel_rfl

/-- selion/selionref02.Equal [loop [0, 1, 7, 8]] -/
def m21 : MFun := ⟨42, [9], [.mov (.s 4), .mov (.s 5)],
 .seq (.ops [⟨(some 4), some undefA, none, false, .pu (.mov (.c (.nilS)))⟩,
   ⟨(some 5), some undefA, none, false, .pu (.mov (.c (.int .i64 0)))⟩])
 (.seq (.ops [⟨(some 11), some undefA, none, false, .pu (.mov (.s 0))⟩,
   ⟨(some 12), some undefA, none, false, .call 38 [(.s 11)]⟩,
   ⟨(some 6), some undefA, none, false, .pu (.mov (.s 12))⟩])
 (.seq (.seq (.ops [⟨(some 13), some undefA, none, false, .pu (.mov (.s 6))⟩,
   ⟨(some 14), some undefA, none, false, .pu (.bin .neq (.s 13) (.c (.int .i64 0)))⟩])
 (.cond (.s 14) (.seq (.ops [⟨(some 15), some undefA, none, false, .pu (.mov (.s 6))⟩,
    ⟨(some 4), some undefA, none, false, .pu (.mov (.c (.nilS)))⟩,
    ⟨(some 5), some undefA, none, false, .pu (.mov (.s 15))⟩])
  (.ret))
 (.skip)))
 (.seq (.seq (.ops [⟨(some 16), some undefA, none, false, .pu (.mov (.s 1))⟩,
   ⟨(some 17), some undefA, none, false, .call 66 [(.s 16), (.c (.int .i64 1)), (.c (.int .i64 8))]⟩,
   ⟨(some 18), some undefA, none, false, .pu (.not (.s 17))⟩])
 (.cond (.s 18) (.seq (.ops [⟨(some 4), some undefA, none, false, .pu (.mov (.c (.nilS)))⟩,
    ⟨(some 5), some undefA, none, false, .pu (.mov (.c (.int .i64 3)))⟩])
  (.ret))
 (.skip)))
 (.seq (.ops [⟨(some 7), some undefA, none, false, .pu (.mov (.c (.nilS)))⟩])
 (.seq (.seq (.ops [⟨(some 8), some undefA, none, false, .pu (.mov (.c (.int .i64 1)))⟩])
 (.block 0 (.loop (.seq (.seq (.ops [⟨(some 19), some undefA, none, false, .pu (.mov (.s 8))⟩,
     ⟨(some 20), some undefA, none, false, .pu (.mov (.s 1))⟩,
     ⟨(some 21), some undefA, none, false, .pu (.bin .lss (.s 19) (.s 20))⟩])
   (.cond (.s 21) (.skip)
   (.exit 0)))
   (.seq (.block 1 (.seq (.ops [⟨(some 25), some undefA, none, false, .pu (.mov (.s 0))⟩,
      ⟨(some 26), some undefA, none, false, .call 68 [(.s 25)]⟩,
      ⟨(some 27), some undefA, none, false, .call 30 [(.c (.int .i64 0))]⟩,
      ⟨(some 28), some undefA, none, false, .pu (.mov (.s 8))⟩,
      ⟨(some 29), some undefA, none, false, .pu (.mov (.s 0))⟩,
      ⟨(some 30), some undefA, none, false, .call 70 [(.s 29)]⟩,
      ⟨(some 31), some undefA, none, false, .pu (.bin .mul (.s 28) (.s 30))⟩,
      ⟨(some 32), some undefA, none, false, .pu (.mov (.s 1))⟩,
      ⟨(some 33), some undefA, none, false, .call 69 [(.s 31), (.s 32)]⟩,
      ⟨(some 34), some undefA, none, false, .call 67 [(.s 26), (.s 27), (.s 33)]⟩,
      ⟨(some 24), some undefA, none, false, .pu (.mov (.s 34))⟩,
      ⟨(some 35), some undefA, none, false, .pu (.extr 0 (.s 24))⟩,
      ⟨(some 36), some undefA, none, false, .pu (.extr 1 (.s 24))⟩,
      ⟨(some 9), some (.junk), none, false, .pu (.bnew (.c (.agg [.int .i64 0, .int .i64 0])))⟩,
      ⟨(some 9), none, none, false, .pu (.bset none 9 0 2 (.s 35))⟩,
      ⟨(some 10), some undefA, none, false, .pu (.mov (.s 36))⟩])
    (.ops [⟨(some 37), some undefA, none, false, .pu (.mov (.s 7))⟩,
      ⟨(some 38), some undefA, none, false, .pu (.bget none 9 0 2 true)⟩,
      ⟨(some 39), some undefA, none, false, .ha (.blds 2 1 [.int .i64 0, .int .i64 0] [(0, 2, (.s 38))])⟩,
      ⟨(some 40), some undefA, none, false, .ha (.app 2 (.s 37) (.s 39))⟩,
      ⟨(some 7), some undefA, none, false, .pu (.mov (.s 40))⟩])))
   (.ops [⟨(some 22), some undefA, none, false, .pu (.mov (.s 8))⟩,
     ⟨(some 23), some undefA, none, false, .pu (.bin .add (.s 22) (.c (.int .i64 1)))⟩,
     ⟨(some 8), some undefA, none, false, .pu (.mov (.s 23))⟩]))))))
 (.seq (.ops [⟨(some 41), some undefA, none, false, .pu (.mov (.s 7))⟩,
   ⟨(some 4), some undefA, none, false, .pu (.mov (.s 41))⟩,
   ⟨(some 5), some undefA, none, false, .pu (.mov (.c (.int .i64 0)))⟩])
 (.ret)))))))⟩
theorem t21 : trF Try.prog [9] [] Try.f21 = some m21 := by kernel_rfl

/-- selion/selionref02.SameRats [loop [0, 1, 5]] -/
def m22 : MFun := ⟨26, [], [.mov (.s 4)],
 .seq (.ops [⟨(some 4), some undefA, none, false, .pu (.mov (.c (.bool false)))⟩])
 (.seq (.seq (.ops [⟨(some 6), some undefA, none, false, .pu (.mov (.s 0))⟩,
   ⟨(some 7), some undefA, none, false, .pu (.len (.s 6))⟩,
   ⟨(some 8), some undefA, none, false, .pu (.mov (.s 1))⟩,
   ⟨(some 9), some undefA, none, false, .pu (.len (.s 8))⟩,
   ⟨(some 10), some undefA, none, false, .pu (.bin .neq (.s 7) (.s 9))⟩])
 (.cond (.s 10) (.seq (.ops [⟨(some 4), some undefA, none, false, .pu (.mov (.c (.bool false)))⟩])
  (.ret))
 (.skip)))
 (.seq (.seq (.ops [⟨(some 5), some undefA, none, false, .pu (.mov (.c (.int .i64 0)))⟩])
 (.block 0 (.loop (.seq (.seq (.ops [⟨(some 11), some undefA, none, false, .pu (.mov (.s 5))⟩,
     ⟨(some 12), some undefA, none, false, .pu (.mov (.s 0))⟩,
     ⟨(some 13), some undefA, none, false, .pu (.len (.s 12))⟩,
     ⟨(some 14), some undefA, none, false, .pu (.bin .lss (.s 11) (.s 13))⟩])
   (.cond (.s 14) (.skip)
   (.exit 0)))
   (.seq (.block 1 (.seq (.ops [⟨(some 17), some undefA, none, true, .pu (.mov (.s 0))⟩,
      ⟨(some 18), some undefA, none, true, .pu (.mov (.s 5))⟩,
      ⟨(some 19), some undefA, none, true, .pu (.idx 2 (.s 17) (.s 18))⟩,
      ⟨(some 20), some undefA, none, true, .ld (.ld 2 true (.s 19))⟩,
      ⟨(some 21), some undefA, none, true, .pu (.mov (.s 1))⟩,
      ⟨(some 22), some undefA, none, true, .pu (.mov (.s 5))⟩,
      ⟨(some 23), some undefA, none, true, .pu (.idx 2 (.s 21) (.s 22))⟩,
      ⟨(some 24), some undefA, none, true, .ld (.ld 2 true (.s 23))⟩,
      ⟨(some 25), some undefA, none, false, .pu (.eqs true [true, true] (.s 20) (.s 24))⟩])
    (.cond (.s 25) (.seq (.ops [⟨(some 4), some undefA, none, false, .pu (.mov (.c (.bool false)))⟩])
     (.ret))
    (.skip))))
   (.ops [⟨(some 15), some undefA, none, false, .pu (.mov (.s 5))⟩,
     ⟨(some 16), some undefA, none, false, .pu (.bin .add (.s 15) (.c (.int .i64 1)))⟩,
     ⟨(some 5), some undefA, none, false, .pu (.mov (.s 16))⟩]))))))
 (.seq (.ops [⟨(some 4), some undefA, none, false, .pu (.mov (.c (.bool true)))⟩])
 (.ret))))⟩
theorem t22 : trF Try.prog [] [] Try.f22 = some m22 := by kernel_rfl

/-- selion/selionlaw02.fair [loop [0, 3]] -/
def m23 : MFun := ⟨40, [], [.mov (.s 2)],
 .seq (.ops [⟨(some 2), some undefA, none, false, .pu (.mov (.c (.bool false)))⟩])
 (.seq (.seq (.ops [⟨(some 3), some undefA, none, false, .pu (.mov (.c (.int .i64 0)))⟩])
 (.block 0 (.loop (.seq (.seq (.ops [⟨(some 4), some undefA, none, false, .pu (.mov (.s 3))⟩,
     ⟨(some 5), some undefA, none, false, .pu (.mov (.s 0))⟩,
     ⟨(some 6), some undefA, none, false, .pu (.len (.s 5))⟩,
     ⟨(some 7), some undefA, none, false, .pu (.bin .lss (.s 4) (.s 6))⟩])
   (.cond (.s 7) (.skip)
   (.exit 0)))
   (.seq (.block 1 (.seq (.ops [⟨(some 10), some undefA, none, false, .pu (.mov (.s 0))⟩,
      ⟨(some 11), some undefA, none, false, .pu (.mov (.s 3))⟩,
      ⟨(some 12), some undefA, none, false, .pu (.idx 2 (.s 10) (.s 11))⟩,
      ⟨(some 13), some undefA, none, false, .pu (.fad 1 (.s 12))⟩,
      ⟨(some 14), some undefA, none, false, .ld (.ld 1 false (.s 13))⟩,
      ⟨(some 15), some undefA, none, false, .pu (.bin .lss (.s 14) (.c (.int .i64 1)))⟩,
      ⟨(some 16), some undefA, none, false, .pu (.mov (.s 15))⟩,
      ⟨(some 17), some undefA, (some (16, false)), false, .pu (.mov (.s 0))⟩,
      ⟨(some 18), some undefA, (some (16, false)), false, .pu (.mov (.s 3))⟩,
      ⟨(some 19), some undefA, (some (16, false)), false, .pu (.idx 2 (.s 17) (.s 18))⟩,
      ⟨(some 20), some undefA, (some (16, false)), false, .pu (.fad 1 (.s 19))⟩,
      ⟨(some 21), some undefA, (some (16, false)), false, .ld (.ld 1 false (.s 20))⟩,
      ⟨(some 22), some undefA, (some (16, false)), false, .pu (.bin .gtr (.s 21) (.c (.int .i64 1073741824)))⟩,
      ⟨(some 23), some undefA, none, false, .pu (.pick (.s 16) (.c (.bool true)) (.s 22))⟩,
      ⟨(some 24), some undefA, none, false, .pu (.mov (.s 23))⟩,
      ⟨(some 25), some undefA, (some (24, false)), false, .pu (.mov (.s 0))⟩,
      ⟨(some 26), some undefA, (some (24, false)), false, .pu (.mov (.s 3))⟩,
      ⟨(some 27), some undefA, (some (24, false)), false, .pu (.idx 2 (.s 25) (.s 26))⟩,
      ⟨(some 28), some undefA, (some (24, false)), false, .pu (.fad 0 (.s 27))⟩,
      ⟨(some 29), some undefA, (some (24, false)), false, .ld (.ld 1 false (.s 28))⟩,
      ⟨(some 30), some undefA, (some (24, false)), false, .pu (.bin .gtr (.s 29) (.c (.int .i64 35184372088832)))⟩,
      ⟨(some 31), some undefA, none, false, .pu (.pick (.s 24) (.c (.bool true)) (.s 30))⟩,
      ⟨(some 32), some undefA, none, false, .pu (.mov (.s 31))⟩,
      ⟨(some 33), some undefA, (some (32, false)), false, .pu (.mov (.s 0))⟩,
      ⟨(some 34), some undefA, (some (32, false)), false, .pu (.mov (.s 3))⟩,
      ⟨(some 35), some undefA, (some (32, false)), false, .pu (.idx 2 (.s 33) (.s 34))⟩,
      ⟨(some 36), some undefA, (some (32, false)), false, .pu (.fad 0 (.s 35))⟩,
      ⟨(some 37), some undefA, (some (32, false)), false, .ld (.ld 1 false (.s 36))⟩,
      ⟨(some 38), some undefA, (some (32, false)), false, .pu (.bin .lss (.s 37) (.c (.int .i64 (-35184372088832))))⟩,
      ⟨(some 39), some undefA, none, false, .pu (.pick (.s 32) (.c (.bool true)) (.s 38))⟩])
    (.cond (.s 39) (.seq (.ops [⟨(some 2), some undefA, none, false, .pu (.mov (.c (.bool false)))⟩])
     (.ret))
    (.skip))))
   (.ops [⟨(some 8), some undefA, none, false, .pu (.mov (.s 3))⟩,
     ⟨(some 9), some undefA, none, false, .pu (.bin .add (.s 8) (.c (.int .i64 1)))⟩,
     ⟨(some 3), some undefA, none, false, .pu (.mov (.s 9))⟩]))))))
 (.seq (.ops [⟨(some 2), some undefA, none, false, .pu (.mov (.c (.bool true)))⟩])
 (.ret)))⟩
theorem t23 : trF Try.prog [] [] Try.f23 = some m23 := by kernel_rfl

/-- selion/selionref02.Less [] -/
def m24 : MFun := ⟨10, [2, 3], [.mov (.s 4)],
 .seq (.ops [⟨(some 2), some (.junk), none, false, .pu (.bnew (.s 0))⟩,
   ⟨(some 3), some (.junk), none, false, .pu (.bnew (.s 1))⟩,
   ⟨(some 4), some undefA, none, false, .pu (.mov (.c (.bool false)))⟩])
 (.seq (.ops [⟨(some 5), some undefA, none, false, .pu (.bget none 2 0 2 true)⟩,
   ⟨(some 6), some undefA, none, false, .pu (.bget none 3 0 2 true)⟩,
   ⟨(some 7), some undefA, none, false, .call 53 [(.s 5), (.s 6)]⟩,
   ⟨(some 8), some undefA, none, false, .pu (.part 0 1 false (.s 7))⟩,
   ⟨(some 9), some undefA, none, false, .pu (.bin .lss (.s 8) (.c (.int .i64 0)))⟩,
   ⟨(some 4), some undefA, none, false, .pu (.mov (.s 9))⟩])
 (.ret))⟩
theorem t24 : trF Try.prog [2, 3] [] Try.f24 = some m24 := by kernel_rfl

/-- selion/soil.Worth [] -/
def m25 : MFun := ⟨36, [4, 5, 6], [.bget none 6 0 2 true, .mov (.s 7)],
 .seq (.ops [⟨(some 4), some (.junk), none, false, .pu (.bnew (.s 1))⟩,
   ⟨(some 5), some (.junk), none, false, .pu (.bnew (.s 2))⟩,
   ⟨(some 6), some (.junk), none, false, .pu (.bnew (.c (.agg [.int .i64 0, .int .i64 0])))⟩,
   ⟨(some 7), some undefA, none, false, .pu (.mov (.c (.int .i64 0)))⟩])
 (.seq (.seq (.ops [⟨(some 9), some undefA, none, false, .pu (.mov (.s 0))⟩,
   ⟨(some 10), some undefA, none, false, .call 37 [(.s 9)]⟩,
   ⟨(some 8), some undefA, none, false, .pu (.mov (.s 10))⟩])
 (.seq (.ops [⟨(some 11), some undefA, none, false, .pu (.mov (.s 8))⟩,
   ⟨(some 12), some undefA, none, false, .pu (.bin .neq (.s 11) (.c (.int .i64 0)))⟩])
 (.cond (.s 12) (.seq (.ops [⟨(some 13), some undefA, none, false, .pu (.build [.int .i64 0, .int .i64 0] [])⟩,
    ⟨(some 14), some undefA, none, false, .pu (.mov (.s 8))⟩,
    ⟨(some 6), none, none, false, .pu (.bset none 6 0 2 (.s 13))⟩,
    ⟨(some 7), some undefA, none, false, .pu (.mov (.s 14))⟩])
  (.ret))
 (.skip))))
 (.seq (.seq (.ops [⟨(some 15), some undefA, none, false, .pu (.mov (.s 0))⟩,
   ⟨(some 16), some undefA, none, false, .pu (.bget none 4 0 2 true)⟩,
   ⟨(some 17), some undefA, none, false, .call 71 [(.s 15), (.s 16), (.c (.int .i64 1000))]⟩,
   ⟨(some 18), some undefA, none, false, .pu (.not (.s 17))⟩,
   ⟨(some 19), some undefA, none, false, .pu (.mov (.s 18))⟩,
   ⟨(some 20), some undefA, (some (19, false)), false, .pu (.mov (.s 0))⟩,
   ⟨(some 21), some undefA, (some (19, false)), false, .pu (.bget none 5 0 2 true)⟩,
   ⟨(some 22), some undefA, (some (19, false)), false, .call 71 [(.s 20), (.s 21), (.c (.int .i64 1000))]⟩,
   ⟨(some 23), some undefA, (some (19, false)), false, .pu (.not (.s 22))⟩,
   ⟨(some 24), some undefA, none, false, .pu (.pick (.s 19) (.c (.bool true)) (.s 23))⟩,
   ⟨(some 25), some undefA, none, false, .pu (.mov (.s 24))⟩,
   ⟨(some 26), some undefA, (some (25, false)), false, .pu (.bget none 4 0 2 true)⟩,
   ⟨(some 27), some undefA, (some (25, false)), false, .pu (.bget none 5 0 2 true)⟩,
   ⟨(some 28), some undefA, (some (25, false)), false, .call 72 [(.s 26), (.s 27)]⟩,
   ⟨(some 29), some undefA, (some (25, false)), false, .pu (.bin .gtr (.s 28) (.c (.int .i64 0)))⟩,
   ⟨(some 30), some undefA, none, false, .pu (.pick (.s 25) (.c (.bool true)) (.s 29))⟩])
 (.cond (.s 30) (.seq (.ops [⟨(some 31), some undefA, none, false, .pu (.build [.int .i64 0, .int .i64 0] [])⟩,
    ⟨(some 6), none, none, false, .pu (.bset none 6 0 2 (.s 31))⟩,
    ⟨(some 7), some undefA, none, false, .pu (.mov (.c (.int .i64 1)))⟩])
  (.ret))
 (.skip)))
 (.seq (.ops [⟨(some 32), some undefA, none, false, .pu (.mov (.s 0))⟩,
   ⟨(some 33), some undefA, none, false, .pu (.bget none 4 0 2 true)⟩,
   ⟨(some 34), some undefA, none, false, .pu (.bget none 5 0 2 true)⟩,
   ⟨(some 35), some undefA, none, false, .call 73 [(.s 32), (.s 33), (.s 34)]⟩,
   ⟨(some 6), none, none, false, .pu (.bset none 6 0 2 (.s 35))⟩,
   ⟨(some 7), some undefA, none, false, .pu (.mov (.c (.int .i64 0)))⟩])
 (.ret))))⟩
theorem t25 : trF Try.prog [4, 5, 6] [] Try.f25 = some m25 := by kernel_rfl

/-- selion/selionref02.Worth [] -/
def m26 : MFun := ⟨27, [4, 5, 6], [.bget none 6 0 2 true, .mov (.s 7)],
 .seq (.ops [⟨(some 4), some (.junk), none, false, .pu (.bnew (.s 1))⟩,
   ⟨(some 5), some (.junk), none, false, .pu (.bnew (.s 2))⟩,
   ⟨(some 6), some (.junk), none, false, .pu (.bnew (.c (.agg [.int .i64 0, .int .i64 0])))⟩,
   ⟨(some 7), some undefA, none, false, .pu (.mov (.c (.int .i64 0)))⟩])
 (.seq (.ops [⟨(some 9), some undefA, none, false, .pu (.mov (.s 0))⟩,
   ⟨(some 10), some undefA, none, false, .pu (.bget none 4 0 2 true)⟩,
   ⟨(some 11), some undefA, none, false, .pu (.bget none 5 0 2 true)⟩,
   ⟨(some 12), some undefA, none, false, .ha (.blds 2 2 [.int .i64 0, .int .i64 0] [(0, 2, (.s 10)), (2, 2, (.s 11))])⟩,
   ⟨(some 13), some undefA, none, false, .call 74 [(.s 9), (.s 12)]⟩,
   ⟨(some 8), some undefA, none, false, .pu (.mov (.s 13))⟩])
 (.seq (.seq (.ops [⟨(some 14), some undefA, none, false, .pu (.mov (.s 8))⟩,
   ⟨(some 15), some undefA, none, false, .pu (.bin .neq (.s 14) (.c (.int .i64 0)))⟩])
 (.cond (.s 15) (.seq (.ops [⟨(some 16), some undefA, none, false, .pu (.build [.int .i64 0, .int .i64 0] [])⟩,
    ⟨(some 17), some undefA, none, false, .pu (.mov (.s 8))⟩,
    ⟨(some 6), none, none, false, .pu (.bset none 6 0 2 (.s 16))⟩,
    ⟨(some 7), some undefA, none, false, .pu (.mov (.s 17))⟩])
  (.ret))
 (.skip)))
 (.seq (.seq (.ops [⟨(some 18), some undefA, none, false, .pu (.bget none 5 0 2 true)⟩,
   ⟨(some 19), some undefA, none, false, .pu (.bget none 4 0 2 true)⟩,
   ⟨(some 20), some undefA, none, false, .call 24 [(.s 18), (.s 19)]⟩])
 (.cond (.s 20) (.seq (.ops [⟨(some 21), some undefA, none, false, .pu (.build [.int .i64 0, .int .i64 0] [])⟩,
    ⟨(some 6), none, none, false, .pu (.bset none 6 0 2 (.s 21))⟩,
    ⟨(some 7), some undefA, none, false, .pu (.mov (.c (.int .i64 1)))⟩])
  (.ret))
 (.skip)))
 (.seq (.ops [⟨(some 22), some undefA, none, false, .pu (.mov (.s 0))⟩,
   ⟨(some 23), some undefA, none, false, .call 68 [(.s 22)]⟩,
   ⟨(some 24), some undefA, none, false, .pu (.bget none 4 0 2 true)⟩,
   ⟨(some 25), some undefA, none, false, .pu (.bget none 5 0 2 true)⟩,
   ⟨(some 26), some undefA, none, false, .call 75 [(.s 23), (.s 24), (.s 25)]⟩,
   ⟨(some 6), none, none, false, .pu (.bset none 6 0 2 (.s 26))⟩,
   ⟨(some 7), some undefA, none, false, .pu (.mov (.c (.int .i64 0)))⟩])
 (.ret)))))⟩
theorem t26 : trF Try.prog [4, 5, 6] [] Try.f26 = some m26 := by kernel_rfl

/-- selion/selionref02.Add [] -/
def m27 : MFun := ⟨34, [2, 3, 4], [.bget none 4 0 2 true],
 .seq (.ops [⟨(some 2), some (.junk), none, false, .pu (.bnew (.s 0))⟩,
   ⟨(some 3), some (.junk), none, false, .pu (.bnew (.s 1))⟩,
   ⟨(some 4), some (.junk), none, false, .pu (.bnew (.c (.agg [.int .i64 0, .int .i64 0])))⟩])
 (.seq (.ops [⟨(some 6), some undefA, none, false, .pu (.badr none 2)⟩,
   ⟨(some 7), some undefA, none, false, .pu (.bget (some 6) 2 1 1 false)⟩,
   ⟨(some 8), some undefA, none, false, .pu (.badr none 3)⟩,
   ⟨(some 9), some undefA, none, false, .pu (.bget (some 8) 3 1 1 false)⟩,
   ⟨(some 10), some undefA, none, false, .call 76 [(.s 7), (.s 9)]⟩,
   ⟨(some 5), some undefA, none, false, .pu (.mov (.s 10))⟩])
 (.seq (.ops [⟨(some 11), some undefA, none, false, .pu (.badr none 2)⟩,
   ⟨(some 12), some undefA, none, false, .pu (.bget (some 11) 2 0 1 false)⟩,
   ⟨(some 13), some undefA, none, false, .pu (.badr none 3)⟩,
   ⟨(some 14), some undefA, none, false, .pu (.bget (some 13) 3 1 1 false)⟩,
   ⟨(some 15), some undefA, none, false, .pu (.mov (.s 5))⟩,
   ⟨(some 16), some undefA, none, false, .pu (.bin .quo (.s 14) (.s 15))⟩,
   ⟨(some 17), some undefA, none, false, .pu (.bin .mul (.s 12) (.s 16))⟩,
   ⟨(some 18), some undefA, none, false, .pu (.badr none 3)⟩,
   ⟨(some 19), some undefA, none, false, .pu (.bget (some 18) 3 0 1 false)⟩,
   ⟨(some 20), some undefA, none, false, .pu (.badr none 2)⟩,
   ⟨(some 21), some undefA, none, false, .pu (.bget (some 20) 2 1 1 false)⟩,
   ⟨(some 22), some undefA, none, false, .pu (.mov (.s 5))⟩,
   ⟨(some 23), some undefA, none, false, .pu (.bin .quo (.s 21) (.s 22))⟩,
   ⟨(some 24), some undefA, none, false, .pu (.bin .mul (.s 19) (.s 23))⟩,
   ⟨(some 25), some undefA, none, false, .pu (.bin .add (.s 17) (.s 24))⟩,
   ⟨(some 26), some undefA, none, false, .pu (.badr none 2)⟩,
   ⟨(some 27), some undefA, none, false, .pu (.bget (some 26) 2 1 1 false)⟩,
   ⟨(some 28), some undefA, none, false, .pu (.mov (.s 5))⟩,
   ⟨(some 29), some undefA, none, false, .pu (.bin .quo (.s 27) (.s 28))⟩,
   ⟨(some 30), some undefA, none, false, .pu (.badr none 3)⟩,
   ⟨(some 31), some undefA, none, false, .pu (.bget (some 30) 3 1 1 false)⟩,
   ⟨(some 32), some undefA, none, false, .pu (.bin .mul (.s 29) (.s 31))⟩,
   ⟨(some 33), some undefA, none, false, .call 69 [(.s 25), (.s 32)]⟩,
   ⟨(some 4), none, none, false, .pu (.bset none 4 0 2 (.s 33))⟩])
 (.ret)))⟩
theorem t27 : trF Try.prog [2, 3, 4] [] Try.f27 = some m27 := by kernel_rfl

/-- selion/soil.Dearest [loop [0, 1, 4, 5, 8, 9, 10]] -/
def m28 : MFun := ⟨57, [4, 5, 8, 9, 11], [.bget none 4 0 2 true, .bget none 5 0 2 true, .mov (.s 6)],
 .seq (.ops [⟨(some 4), some (.junk), none, false, .pu (.bnew (.c (.agg [.int .i64 0, .int .i64 0])))⟩,
   ⟨(some 5), some (.junk), none, false, .pu (.bnew (.c (.agg [.int .i64 0, .int .i64 0])))⟩,
   ⟨(some 6), some undefA, none, false, .pu (.mov (.c (.int .i64 0)))⟩])
 (.seq (.seq (.ops [⟨(some 12), some undefA, none, false, .pu (.mov (.s 0))⟩,
   ⟨(some 13), some undefA, none, false, .call 37 [(.s 12)]⟩,
   ⟨(some 7), some undefA, none, false, .pu (.mov (.s 13))⟩])
 (.seq (.ops [⟨(some 14), some undefA, none, false, .pu (.mov (.s 7))⟩,
   ⟨(some 15), some undefA, none, false, .pu (.bin .neq (.s 14) (.c (.int .i64 0)))⟩])
 (.cond (.s 15) (.seq (.ops [⟨(some 16), some undefA, none, false, .pu (.build [.int .i64 0, .int .i64 0] [])⟩,
    ⟨(some 17), some undefA, none, false, .pu (.build [.int .i64 0, .int .i64 0] [])⟩,
    ⟨(some 18), some undefA, none, false, .pu (.mov (.s 7))⟩,
    ⟨(some 4), none, none, false, .pu (.bset none 4 0 2 (.s 16))⟩,
    ⟨(some 5), none, none, false, .pu (.bset none 5 0 2 (.s 17))⟩,
    ⟨(some 6), some undefA, none, false, .pu (.mov (.s 18))⟩])
  (.ret))
 (.skip))))
 (.seq (.seq (.ops [⟨(some 19), some undefA, none, false, .pu (.mov (.s 1))⟩,
   ⟨(some 20), some undefA, none, false, .pu (.mov (.s 0))⟩,
   ⟨(some 21), some undefA, none, false, .call 77 [(.s 20)]⟩,
   ⟨(some 22), some undefA, none, false, .call 61 [(.s 19), (.c (.int .i64 0)), (.s 21)]⟩,
   ⟨(some 23), some undefA, none, false, .pu (.not (.s 22))⟩])
 (.cond (.s 23) (.seq (.ops [⟨(some 24), some undefA, none, false, .pu (.build [.int .i64 0, .int .i64 0] [])⟩,
    ⟨(some 25), some undefA, none, false, .pu (.build [.int .i64 0, .int .i64 0] [])⟩,
    ⟨(some 4), none, none, false, .pu (.bset none 4 0 2 (.s 24))⟩,
    ⟨(some 5), none, none, false, .pu (.bset none 5 0 2 (.s 25))⟩,
    ⟨(some 6), some undefA, none, false, .pu (.mov (.c (.int .i64 1)))⟩])
  (.ret))
 (.skip)))
 (.seq (.ops [⟨(some 26), some undefA, none, false, .call 78 [(.c (.int .i64 0))]⟩,
   ⟨(some 27), some undefA, none, false, .pu (.mov (.s 0))⟩,
   ⟨(some 28), some undefA, none, false, .call 78 [(.c (.int .i64 0))]⟩,
   ⟨(some 29), some undefA, none, false, .pu (.mov (.s 1))⟩,
   ⟨(some 30), some undefA, none, false, .call 78 [(.s 29)]⟩,
   ⟨(some 31), some undefA, none, false, .call 73 [(.s 27), (.s 28), (.s 30)]⟩,
   ⟨(some 8), some (.junk), none, false, .pu (.bnew (.c (.agg [.int .i64 0, .int .i64 0])))⟩,
   ⟨(some 9), some (.junk), none, false, .pu (.bnew (.c (.agg [.int .i64 0, .int .i64 0])))⟩,
   ⟨(some 8), none, none, false, .pu (.bset none 8 0 2 (.s 26))⟩,
   ⟨(some 9), none, none, false, .pu (.bset none 9 0 2 (.s 31))⟩])
 (.seq (.seq (.ops [⟨(some 10), some undefA, none, false, .pu (.mov (.c (.int .i64 1)))⟩])
 (.block 0 (.loop (.seq (.seq (.ops [⟨(some 32), some undefA, none, false, .pu (.mov (.s 10))⟩,
     ⟨(some 33), some undefA, none, false, .pu (.mov (.s 1))⟩,
     ⟨(some 34), some undefA, none, false, .pu (.bin .add (.s 32) (.s 33))⟩,
     ⟨(some 35), some undefA, none, false, .pu (.mov (.s 0))⟩,
     ⟨(some 36), some undefA, none, false, .call 77 [(.s 35)]⟩,
     ⟨(some 37), some undefA, none, false, .pu (.bin .leq (.s 34) (.s 36))⟩])
   (.cond (.s 37) (.skip)
   (.exit 0)))
   (.seq (.block 1 (.seq (.ops [⟨(some 40), some undefA, none, false, .pu (.mov (.s 0))⟩,
      ⟨(some 41), some undefA, none, false, .pu (.mov (.s 10))⟩,
      ⟨(some 42), some undefA, none, false, .call 78 [(.s 41)]⟩,
      ⟨(some 43), some undefA, none, false, .pu (.mov (.s 10))⟩,
      ⟨(some 44), some undefA, none, false, .pu (.mov (.s 1))⟩,
      ⟨(some 45), some undefA, none, false, .pu (.bin .add (.s 43) (.s 44))⟩,
      ⟨(some 46), some undefA, none, false, .call 78 [(.s 45)]⟩,
      ⟨(some 47), some undefA, none, false, .call 73 [(.s 40), (.s 42), (.s 46)]⟩,
      ⟨(some 11), some (.junk), none, false, .pu (.bnew (.c (.agg [.int .i64 0, .int .i64 0])))⟩,
      ⟨(some 11), none, none, false, .pu (.bset none 11 0 2 (.s 47))⟩])
    (.seq (.ops [⟨(some 48), some undefA, none, false, .pu (.bget none 11 0 2 true)⟩,
      ⟨(some 49), some undefA, none, false, .pu (.bget none 9 0 2 true)⟩,
      ⟨(some 50), some undefA, none, false, .call 72 [(.s 48), (.s 49)]⟩,
      ⟨(some 51), some undefA, none, false, .pu (.bin .gtr (.s 50) (.c (.int .i64 0)))⟩])
    (.cond (.s 51) (.ops [⟨(some 52), some undefA, none, false, .pu (.mov (.s 10))⟩,
       ⟨(some 53), some undefA, none, false, .call 78 [(.s 52)]⟩,
       ⟨(some 54), some undefA, none, false, .pu (.bget none 11 0 2 true)⟩,
       ⟨(some 8), none, none, false, .pu (.bset none 8 0 2 (.s 53))⟩,
       ⟨(some 9), none, none, false, .pu (.bset none 9 0 2 (.s 54))⟩])
    (.skip)))))
   (.ops [⟨(some 38), some undefA, none, false, .pu (.mov (.s 10))⟩,
     ⟨(some 39), some undefA, none, false, .pu (.bin .add (.s 38) (.c (.int .i64 1)))⟩,
     ⟨(some 10), some undefA, none, false, .pu (.mov (.s 39))⟩]))))))
 (.seq (.ops [⟨(some 55), some undefA, none, false, .pu (.bget none 8 0 2 true)⟩,
   ⟨(some 56), some undefA, none, false, .pu (.bget none 9 0 2 true)⟩,
   ⟨(some 4), none, none, false, .pu (.bset none 4 0 2 (.s 55))⟩,
   ⟨(some 5), none, none, false, .pu (.bset none 5 0 2 (.s 56))⟩,
   ⟨(some 6), some undefA, none, false, .pu (.mov (.c (.int .i64 0)))⟩])
 (.ret))))))⟩
theorem t28 : trF Try.prog [4, 5, 8, 9, 11] [] Try.f28 = some m28 := by kernel_rfl

/-- selion/selionref02.Dearest [loop [1, 4, 5, 8, 9, 10, 11], loop [1, 4, 5, 8, 9, 10, 11, 12, 13]] -/
def m29 : MFun := ⟨61, [4, 5], [.bget none 4 0 2 true, .bget none 5 0 2 true, .mov (.s 6)],
 .seq (.ops [⟨(some 4), some (.junk), none, false, .pu (.bnew (.c (.agg [.int .i64 0, .int .i64 0])))⟩,
   ⟨(some 5), some (.junk), none, false, .pu (.bnew (.c (.agg [.int .i64 0, .int .i64 0])))⟩,
   ⟨(some 6), some undefA, none, false, .pu (.mov (.c (.int .i64 0)))⟩])
 (.seq (.ops [⟨(some 14), some undefA, none, false, .pu (.mov (.s 0))⟩,
   ⟨(some 15), some undefA, none, false, .call 38 [(.s 14)]⟩,
   ⟨(some 7), some undefA, none, false, .pu (.mov (.s 15))⟩])
 (.seq (.seq (.ops [⟨(some 16), some undefA, none, false, .pu (.mov (.s 7))⟩,
   ⟨(some 17), some undefA, none, false, .pu (.bin .neq (.s 16) (.c (.int .i64 0)))⟩])
 (.cond (.s 17) (.seq (.ops [⟨(some 18), some undefA, none, false, .pu (.build [.int .i64 0, .int .i64 0] [])⟩,
    ⟨(some 19), some undefA, none, false, .pu (.build [.int .i64 0, .int .i64 0] [])⟩,
    ⟨(some 20), some undefA, none, false, .pu (.mov (.s 7))⟩,
    ⟨(some 4), none, none, false, .pu (.bset none 4 0 2 (.s 18))⟩,
    ⟨(some 5), none, none, false, .pu (.bset none 5 0 2 (.s 19))⟩,
    ⟨(some 6), some undefA, none, false, .pu (.mov (.s 20))⟩])
  (.ret))
 (.skip)))
 (.seq (.ops [⟨(some 21), some undefA, none, false, .pu (.mov (.s 0))⟩,
   ⟨(some 22), some undefA, none, false, .call 68 [(.s 21)]⟩,
   ⟨(some 8), some undefA, none, false, .pu (.mov (.s 22))⟩])
 (.seq (.seq (.ops [⟨(some 23), some undefA, none, false, .pu (.mov (.s 1))⟩,
   ⟨(some 24), some undefA, none, false, .pu (.mov (.s 8))⟩,
   ⟨(some 25), some undefA, none, false, .pu (.len (.s 24))⟩,
   ⟨(some 26), some undefA, none, false, .call 66 [(.s 23), (.c (.int .i64 0)), (.s 25)]⟩,
   ⟨(some 27), some undefA, none, false, .pu (.not (.s 26))⟩])
 (.cond (.s 27) (.seq (.ops [⟨(some 28), some undefA, none, false, .pu (.build [.int .i64 0, .int .i64 0] [])⟩,
    ⟨(some 29), some undefA, none, false, .pu (.build [.int .i64 0, .int .i64 0] [])⟩,
    ⟨(some 4), none, none, false, .pu (.bset none 4 0 2 (.s 28))⟩,
    ⟨(some 5), none, none, false, .pu (.bset none 5 0 2 (.s 29))⟩,
    ⟨(some 6), some undefA, none, false, .pu (.mov (.c (.int .i64 1)))⟩])
  (.ret))
 (.skip)))
 (.seq (.ops [⟨(some 9), some undefA, none, false, .pu (.mov (.c (.int .i64 0)))⟩,
   ⟨(some 10), some undefA, none, false, .pu (.mov (.c (.int .i64 (-1))))⟩])
 (.seq (.seq (.ops [⟨(some 11), some undefA, none, false, .pu (.mov (.c (.int .i64 0)))⟩])
 (.block 0 (.loop (.seq (.seq (.ops [⟨(some 30), some undefA, none, false, .pu (.mov (.s 11))⟩,
     ⟨(some 31), some undefA, none, false, .pu (.mov (.s 1))⟩,
     ⟨(some 32), some undefA, none, false, .pu (.bin .add (.s 30) (.s 31))⟩,
     ⟨(some 33), some undefA, none, false, .pu (.mov (.s 8))⟩,
     ⟨(some 34), some undefA, none, false, .pu (.len (.s 33))⟩,
     ⟨(some 35), some undefA, none, false, .pu (.bin .leq (.s 32) (.s 34))⟩])
   (.cond (.s 35) (.skip)
   (.exit 0)))
   (.seq (.block 1 (.seq (.ops [⟨(some 12), some undefA, none, false, .pu (.mov (.c (.int .i64 0)))⟩])
    (.seq (.seq (.ops [⟨(some 38), some undefA, none, false, .pu (.mov (.s 11))⟩,
      ⟨(some 13), some undefA, none, false, .pu (.mov (.s 38))⟩])
    (.block 2 (.loop (.seq (.seq (.ops [⟨(some 39), some undefA, none, false, .pu (.mov (.s 13))⟩,
        ⟨(some 40), some undefA, none, false, .pu (.mov (.s 11))⟩,
        ⟨(some 41), some undefA, none, false, .pu (.mov (.s 1))⟩,
        ⟨(some 42), some undefA, none, false, .pu (.bin .add (.s 40) (.s 41))⟩,
        ⟨(some 43), some undefA, none, false, .pu (.bin .lss (.s 39) (.s 42))⟩])
      (.cond (.s 43) (.skip)
      (.exit 2)))
      (.seq (.block 3 (.ops [⟨(some 46), some undefA, none, false, .pu (.mov (.s 12))⟩,
         ⟨(some 47), some undefA, none, false, .pu (.mov (.s 8))⟩,
         ⟨(some 48), some undefA, none, false, .pu (.mov (.s 13))⟩,
         ⟨(some 49), some undefA, none, false, .pu (.idx 1 (.s 47) (.s 48))⟩,
         ⟨(some 50), some undefA, none, false, .ld (.ld 1 false (.s 49))⟩,
         ⟨(some 51), some undefA, none, false, .pu (.bin .add (.s 46) (.s 50))⟩,
         ⟨(some 12), some undefA, none, false, .pu (.mov (.s 51))⟩]))
      (.ops [⟨(some 44), some undefA, none, false, .pu (.mov (.s 13))⟩,
        ⟨(some 45), some undefA, none, false, .pu (.bin .add (.s 44) (.c (.int .i64 1)))⟩,
        ⟨(some 13), some undefA, none, false, .pu (.mov (.s 45))⟩]))))))
    (.seq (.ops [⟨(some 52), some undefA, none, false, .pu (.mov (.s 12))⟩,
      ⟨(some 53), some undefA, none, false, .pu (.mov (.s 10))⟩,
      ⟨(some 54), some undefA, none, false, .pu (.bin .gtr (.s 52) (.s 53))⟩])
    (.cond (.s 54) (.seq (.ops [⟨(some 55), some undefA, none, false, .pu (.mov (.s 11))⟩,
       ⟨(some 9), some undefA, none, false, .pu (.mov (.s 55))⟩])
     (.ops [⟨(some 56), some undefA, none, false, .pu (.mov (.s 12))⟩,
       ⟨(some 10), some undefA, none, false, .pu (.mov (.s 56))⟩]))
    (.skip))))))
   (.ops [⟨(some 36), some undefA, none, false, .pu (.mov (.s 11))⟩,
     ⟨(some 37), some undefA, none, false, .pu (.bin .add (.s 36) (.c (.int .i64 1)))⟩,
     ⟨(some 11), some undefA, none, false, .pu (.mov (.s 37))⟩]))))))
 (.seq (.ops [⟨(some 57), some undefA, none, false, .pu (.mov (.s 9))⟩,
   ⟨(some 58), some undefA, none, false, .call 30 [(.s 57)]⟩,
   ⟨(some 59), some undefA, none, false, .pu (.mov (.s 10))⟩,
   ⟨(some 60), some undefA, none, false, .call 30 [(.s 59)]⟩,
   ⟨(some 4), none, none, false, .pu (.bset none 4 0 2 (.s 58))⟩,
   ⟨(some 5), none, none, false, .pu (.bset none 5 0 2 (.s 60))⟩,
   ⟨(some 6), some undefA, none, false, .pu (.mov (.c (.int .i64 0)))⟩])
 (.ret))))))))⟩
theorem t29 : trF Try.prog [4, 5] [] Try.f29 = some m29 := by kernel_rfl

/-- selion/selionref02.Whole [] -/
def m30 : MFun := ⟨5, [2], [.bget none 2 0 2 true],
 .seq (.ops [⟨(some 2), some (.junk), none, false, .pu (.bnew (.c (.agg [.int .i64 0, .int .i64 0])))⟩])
 (.seq (.ops [⟨(some 3), some undefA, none, false, .pu (.mov (.s 0))⟩,
   ⟨(some 4), some undefA, none, false, .pu (.build [.int .i64 0, .int .i64 0] [(0, 1, (.s 3)), (1, 1, (.c (.int .i64 1)))])⟩,
   ⟨(some 2), none, none, false, .pu (.bset none 2 0 2 (.s 4))⟩])
 (.ret))⟩
theorem t30 : trF Try.prog [2] [] Try.f30 = some m30 := by kernel_rfl

/-- selion/soil.Validate [loop [9, 10, 11]] -/
def m37 : MFun := ⟨26, [4], [.mov (.s 2)],
 .seq (.ops [⟨(some 2), some undefA, none, false, .pu (.mov (.c (.int .i64 0)))⟩])
 (.seq (.seq (.ops [⟨(some 5), some undefA, none, false, .pu (.mov (.s 0))⟩,
   ⟨(some 6), some undefA, none, false, .pu (.len (.s 5))⟩,
   ⟨(some 7), some undefA, none, false, .call 61 [(.s 6), (.c (.int .i64 1)), (.c (.int .i64 6))]⟩,
   ⟨(some 8), some undefA, none, false, .pu (.not (.s 7))⟩])
 (.cond (.s 8) (.seq (.ops [⟨(some 2), some undefA, none, false, .pu (.mov (.c (.int .i64 3)))⟩])
  (.ret))
 (.skip)))
 (.seq (.seq (.ops [⟨(some 9), some undefA, none, false, .pu (.mov (.s 0))⟩,
   ⟨(some 10), some undefA, none, false, .pu (.len (.s 9))⟩,
   ⟨(some 11), some undefA, none, false, .pu (.mov (.c (.int .i64 0)))⟩])
 (.block 0 (.loop (.seq (.ops [⟨(some 12), some undefA, none, false, .pu (.bin .lss (.s 11) (.s 10))⟩])
   (.seq (.cond (.s 12) (.skip)
   (.exit 0))
   (.seq (.block 1 (.seq (.ops [⟨(some 13), some undefA, none, false, .pu (.idx 2 (.s 9) (.s 11))⟩,
      ⟨(some 14), some undefA, none, false, .ld (.ld 2 true (.s 13))⟩,
      ⟨(some 4), some (.junk), none, false, .pu (.bnew (.c (.agg [.int .i64 0, .int .i64 0])))⟩,
      ⟨(some 4), none, none, false, .pu (.bset none 4 0 2 (.s 14))⟩])
    (.seq (.ops [⟨(some 15), some undefA, none, false, .pu (.badr none 4)⟩,
      ⟨(some 16), some undefA, none, false, .pu (.bget (some 15) 4 0 1 false)⟩,
      ⟨(some 17), some undefA, none, false, .call 61 [(.s 16), (.c (.int .i64 1)), (.c (.int .i64 20))]⟩,
      ⟨(some 18), some undefA, none, false, .pu (.not (.s 17))⟩,
      ⟨(some 19), some undefA, none, false, .pu (.mov (.s 18))⟩,
      ⟨(some 20), some undefA, (some (19, false)), false, .pu (.badr none 4)⟩,
      ⟨(some 21), some undefA, (some (19, false)), false, .pu (.bget (some 20) 4 1 1 false)⟩,
      ⟨(some 22), some undefA, (some (19, false)), false, .call 61 [(.s 21), (.c (.int .i64 0)), (.c (.int .i64 20))]⟩,
      ⟨(some 23), some undefA, (some (19, false)), false, .pu (.not (.s 22))⟩,
      ⟨(some 24), some undefA, none, false, .pu (.pick (.s 19) (.c (.bool true)) (.s 23))⟩])
    (.cond (.s 24) (.seq (.ops [⟨(some 2), some undefA, none, false, .pu (.mov (.c (.int .i64 1)))⟩])
     (.ret))
    (.skip)))))
   (.ops [⟨(some 25), some undefA, none, false, .pu (.bin .add (.s 11) (.c (.int .i64 1)))⟩,
     ⟨(some 11), some undefA, none, false, .pu (.mov (.s 25))⟩])))))))
 (.seq (.ops [⟨(some 2), some undefA, none, false, .pu (.mov (.c (.int .i64 0)))⟩])
 (.ret))))⟩
theorem t37 : trF Try.prog [4] [] Try.f37 = some m37 := by kernel_rfl

/-- selion/selionref02.Validate [loop [0, 3]] -/
def m38 : MFun := ⟨30, [], [.mov (.s 2)],
 .seq (.ops [⟨(some 2), some undefA, none, false, .pu (.mov (.c (.int .i64 0)))⟩])
 (.seq (.seq (.ops [⟨(some 4), some undefA, none, false, .pu (.mov (.s 0))⟩,
   ⟨(some 5), some undefA, none, false, .pu (.len (.s 4))⟩,
   ⟨(some 6), some undefA, none, false, .call 66 [(.s 5), (.c (.int .i64 1)), (.c (.int .i64 6))]⟩,
   ⟨(some 7), some undefA, none, false, .pu (.not (.s 6))⟩])
 (.cond (.s 7) (.seq (.ops [⟨(some 2), some undefA, none, false, .pu (.mov (.c (.int .i64 3)))⟩])
  (.ret))
 (.skip)))
 (.seq (.seq (.ops [⟨(some 3), some undefA, none, false, .pu (.mov (.c (.int .i64 0)))⟩])
 (.block 0 (.loop (.seq (.seq (.ops [⟨(some 8), some undefA, none, false, .pu (.mov (.s 3))⟩,
     ⟨(some 9), some undefA, none, false, .pu (.mov (.s 0))⟩,
     ⟨(some 10), some undefA, none, false, .pu (.len (.s 9))⟩,
     ⟨(some 11), some undefA, none, false, .pu (.bin .lss (.s 8) (.s 10))⟩])
   (.cond (.s 11) (.skip)
   (.exit 0)))
   (.seq (.block 1 (.seq (.ops [⟨(some 14), some undefA, none, false, .pu (.mov (.s 0))⟩,
      ⟨(some 15), some undefA, none, false, .pu (.mov (.s 3))⟩,
      ⟨(some 16), some undefA, none, false, .pu (.idx 2 (.s 14) (.s 15))⟩,
      ⟨(some 17), some undefA, none, false, .pu (.fad 0 (.s 16))⟩,
      ⟨(some 18), some undefA, none, false, .ld (.ld 1 false (.s 17))⟩,
      ⟨(some 19), some undefA, none, false, .call 66 [(.s 18), (.c (.int .i64 1)), (.c (.int .i64 20))]⟩,
      ⟨(some 20), some undefA, none, false, .pu (.not (.s 19))⟩,
      ⟨(some 21), some undefA, none, false, .pu (.mov (.s 20))⟩,
      ⟨(some 22), some undefA, (some (21, false)), false, .pu (.mov (.s 0))⟩,
      ⟨(some 23), some undefA, (some (21, false)), false, .pu (.mov (.s 3))⟩,
      ⟨(some 24), some undefA, (some (21, false)), false, .pu (.idx 2 (.s 22) (.s 23))⟩,
      ⟨(some 25), some undefA, (some (21, false)), false, .pu (.fad 1 (.s 24))⟩,
      ⟨(some 26), some undefA, (some (21, false)), false, .ld (.ld 1 false (.s 25))⟩,
      ⟨(some 27), some undefA, (some (21, false)), false, .call 66 [(.s 26), (.c (.int .i64 0)), (.c (.int .i64 20))]⟩,
      ⟨(some 28), some undefA, (some (21, false)), false, .pu (.not (.s 27))⟩,
      ⟨(some 29), some undefA, none, false, .pu (.pick (.s 21) (.c (.bool true)) (.s 28))⟩])
    (.cond (.s 29) (.seq (.ops [⟨(some 2), some undefA, none, false, .pu (.mov (.c (.int .i64 1)))⟩])
     (.ret))
    (.skip))))
   (.ops [⟨(some 12), some undefA, none, false, .pu (.mov (.s 3))⟩,
     ⟨(some 13), some undefA, none, false, .pu (.bin .add (.s 12) (.c (.int .i64 1)))⟩,
     ⟨(some 3), some undefA, none, false, .pu (.mov (.s 13))⟩]))))))
 (.seq (.ops [⟨(some 2), some undefA, none, false, .pu (.mov (.c (.int .i64 0)))⟩])
 (.ret))))⟩
theorem t38 : trF Try.prog [] [] Try.f38 = some m38 := by kernel_rfl

/-- selion/selionref02.Sub [] -/
def m53 : MFun := ⟨13, [2, 3, 4], [.bget none 4 0 2 true],
 .seq (.ops [⟨(some 2), some (.junk), none, false, .pu (.bnew (.s 0))⟩,
   ⟨(some 3), some (.junk), none, false, .pu (.bnew (.s 1))⟩,
   ⟨(some 4), some (.junk), none, false, .pu (.bnew (.c (.agg [.int .i64 0, .int .i64 0])))⟩])
 (.seq (.ops [⟨(some 5), some undefA, none, false, .pu (.bget none 2 0 2 true)⟩,
   ⟨(some 6), some undefA, none, false, .pu (.badr none 3)⟩,
   ⟨(some 7), some undefA, none, false, .pu (.bget (some 6) 3 0 1 false)⟩,
   ⟨(some 8), some undefA, none, false, .pu (.neg (.s 7))⟩,
   ⟨(some 9), some undefA, none, false, .pu (.badr none 3)⟩,
   ⟨(some 10), some undefA, none, false, .pu (.bget (some 9) 3 1 1 false)⟩,
   ⟨(some 11), some undefA, none, false, .pu (.build [.int .i64 0, .int .i64 0] [(0, 1, (.s 8)), (1, 1, (.s 10))])⟩,
   ⟨(some 12), some undefA, none, false, .call 27 [(.s 5), (.s 11)]⟩,
   ⟨(some 4), none, none, false, .pu (.bset none 4 0 2 (.s 12))⟩])
 (.ret))⟩
theorem t53 : trF Try.prog [2, 3, 4] [] Try.f53 = some m53 := by kernel_rfl

/-- selion/soil.within [] -/
def m61 : MFun := ⟨15, [], [.mov (.s 6)],
 .seq (.ops [⟨(some 6), some undefA, none, false, .pu (.mov (.c (.bool false)))⟩])
 (.seq (.ops [⟨(some 7), some undefA, none, false, .pu (.mov (.s 0))⟩,
   ⟨(some 8), some undefA, none, false, .pu (.mov (.s 1))⟩,
   ⟨(some 9), some undefA, none, false, .pu (.bin .geq (.s 7) (.s 8))⟩,
   ⟨(some 10), some undefA, none, false, .pu (.mov (.s 9))⟩,
   ⟨(some 11), some undefA, (some (10, true)), false, .pu (.mov (.s 0))⟩,
   ⟨(some 12), some undefA, (some (10, true)), false, .pu (.mov (.s 2))⟩,
   ⟨(some 13), some undefA, (some (10, true)), false, .pu (.bin .leq (.s 11) (.s 12))⟩,
   ⟨(some 14), some undefA, none, false, .pu (.pick (.s 10) (.s 13) (.c (.bool false)))⟩,
   ⟨(some 6), some undefA, none, false, .pu (.mov (.s 14))⟩])
 (.ret))⟩
theorem t61 : trF Try.prog [] [] Try.f61 = some m61 := by kernel_rfl

/-- selion/soil.cut [loop [0, 5, 6, 10, 11, 12]] -/
def m62 : MFun := ⟨29, [6, 8], [.mov (.s 4)],
 .seq (.ops [⟨(some 4), some undefA, none, false, .pu (.mov (.c (.nilS)))⟩])
 (.seq (.ops [⟨(some 5), some undefA, none, false, .pu (.mov (.c (.nilS)))⟩])
 (.seq (.ops [⟨(some 9), some undefA, none, false, .call 78 [(.c (.int .i64 0))]⟩,
   ⟨(some 6), some (.junk), none, false, .pu (.bnew (.c (.agg [.int .i64 0, .int .i64 0])))⟩,
   ⟨(some 6), none, none, false, .pu (.bset none 6 0 2 (.s 9))⟩])
 (.seq (.seq (.ops [⟨(some 10), some undefA, none, false, .pu (.mov (.s 1))⟩,
   ⟨(some 11), some undefA, none, false, .pu (.len (.s 10))⟩,
   ⟨(some 12), some undefA, none, false, .pu (.mov (.c (.int .i64 0)))⟩])
 (.block 0 (.loop (.seq (.ops [⟨(some 13), some undefA, none, false, .pu (.bin .lss (.s 12) (.s 11))⟩])
   (.seq (.cond (.s 13) (.skip)
   (.exit 0))
   (.seq (.block 1 (.seq (.ops [⟨(some 14), some undefA, none, false, .pu (.idx 2 (.s 10) (.s 12))⟩,
      ⟨(some 15), some undefA, none, false, .ld (.ld 2 true (.s 14))⟩,
      ⟨(some 8), some (.junk), none, false, .pu (.bnew (.c (.agg [.int .i64 0, .int .i64 0])))⟩,
      ⟨(some 8), none, none, false, .pu (.bset none 8 0 2 (.s 15))⟩])
    (.seq (.ops [⟨(some 17), some undefA, none, false, .pu (.mov (.s 0))⟩,
      ⟨(some 18), some undefA, none, false, .pu (.bget none 6 0 2 true)⟩,
      ⟨(some 19), some undefA, none, false, .pu (.bget none 8 0 2 true)⟩,
      ⟨(some 20), some undefA, none, false, .call 80 [(.s 17), (.s 18), (.s 19)]⟩,
      ⟨(some 16), some undefA, none, false, .pu (.mov (.s 20))⟩,
      ⟨(some 21), some undefA, none, false, .pu (.extr 0 (.s 16))⟩,
      ⟨(some 22), some undefA, none, false, .pu (.extr 1 (.s 16))⟩,
      ⟨(some 6), none, none, false, .pu (.bset none 6 0 2 (.s 21))⟩])
    (.ops [⟨(some 23), some undefA, none, false, .pu (.mov (.s 5))⟩,
      ⟨(some 24), some undefA, none, false, .pu (.bget none 6 0 2 true)⟩,
      ⟨(some 25), some undefA, none, false, .ha (.blds 2 1 [.int .i64 0, .int .i64 0] [(0, 2, (.s 24))])⟩,
      ⟨(some 26), some undefA, none, false, .ha (.app 2 (.s 23) (.s 25))⟩,
      ⟨(some 5), some undefA, none, false, .pu (.mov (.s 26))⟩]))))
   (.ops [⟨(some 27), some undefA, none, false, .pu (.bin .add (.s 12) (.c (.int .i64 1)))⟩,
     ⟨(some 12), some undefA, none, false, .pu (.mov (.s 27))⟩])))))))
 (.seq (.ops [⟨(some 28), some undefA, none, false, .pu (.mov (.s 5))⟩,
   ⟨(some 4), some undefA, none, false, .pu (.mov (.s 28))⟩])
 (.ret)))))⟩
theorem t62 : trF Try.prog [6, 8] [] Try.f62 = some m62 := by kernel_rfl

/-- slices.Repeat[[]selion/api.Rat,selion/api.Rat] [loop [7, 8]] -/
def m63 : MFun := ⟨48, [], [.mov (.s 4)],
 .seq (.ops [⟨(some 4), some undefA, none, false, .pu (.mov (.c (.nilS)))⟩])
 (.seq (.seq (.ops [⟨(some 9), some undefA, none, false, .pu (.mov (.s 1))⟩,
   ⟨(some 10), some undefA, none, false, .pu (.bin .lss (.s 9) (.c (.int .i64 0)))⟩])
 (.cond (.s 10) (.ops [⟨(some 11), some undefA, none, false, .pu (.fail)⟩,
    ⟨none, some undefA, none, false, .pu (.fail)⟩])
 (.skip)))
 (.seq (.ops [⟨(some 13), some undefA, none, false, .pu (.mov (.s 0))⟩,
   ⟨(some 14), some undefA, none, false, .pu (.len (.s 13))⟩,
   ⟨(some 15), some undefA, none, false, .pu (.conv .u64 (.s 14))⟩,
   ⟨(some 16), some undefA, none, false, .pu (.mov (.s 1))⟩,
   ⟨(some 17), some undefA, none, false, .pu (.conv .u64 (.s 16))⟩,
   ⟨(some 18), some undefA, none, false, .call 100 [(.s 15), (.s 17)]⟩,
   ⟨(some 12), some undefA, none, false, .pu (.mov (.s 18))⟩,
   ⟨(some 19), some undefA, none, false, .pu (.extr 0 (.s 12))⟩,
   ⟨(some 20), some undefA, none, false, .pu (.extr 1 (.s 12))⟩,
   ⟨(some 5), some undefA, none, false, .pu (.mov (.s 19))⟩,
   ⟨(some 6), some undefA, none, false, .pu (.mov (.s 20))⟩])
 (.seq (.seq (.ops [⟨(some 21), some undefA, none, false, .pu (.mov (.s 5))⟩,
   ⟨(some 22), some undefA, none, false, .pu (.bin .gtr (.s 21) (.c (.int .u64 0)))⟩,
   ⟨(some 23), some undefA, none, false, .pu (.mov (.s 22))⟩,
   ⟨(some 24), some undefA, (some (23, false)), false, .pu (.mov (.s 6))⟩,
   ⟨(some 25), some undefA, (some (23, false)), false, .pu (.bin .gtr (.s 24) (.c (.int .u64 9223372036854775807)))⟩,
   ⟨(some 26), some undefA, none, false, .pu (.pick (.s 23) (.c (.bool true)) (.s 25))⟩])
 (.cond (.s 26) (.ops [⟨(some 27), some undefA, none, false, .pu (.fail)⟩,
    ⟨none, some undefA, none, false, .pu (.fail)⟩])
 (.skip)))
 (.seq (.ops [⟨(some 28), some undefA, none, false, .pu (.mov (.s 6))⟩,
   ⟨(some 29), some undefA, none, false, .pu (.conv .i64 (.s 28))⟩,
   ⟨(some 30), some undefA, none, false, .ha (.mks 2 [.int .i64 0, .int .i64 0] (.s 29) (.s 29))⟩,
   ⟨(some 7), some undefA, none, false, .pu (.mov (.s 30))⟩])
 (.seq (.ops [⟨(some 31), some undefA, none, false, .pu (.mov (.s 7))⟩,
   ⟨(some 32), some undefA, none, false, .pu (.mov (.s 0))⟩,
   ⟨(some 33), some undefA, none, false, .ha (.cpy 2 (.s 31) (.s 32))⟩,
   ⟨(some 8), some undefA, none, false, .pu (.mov (.s 33))⟩])
 (.seq (.block 0 (.loop (.seq (.seq (.ops [⟨(some 34), some undefA, none, false, .pu (.mov (.s 8))⟩,
     ⟨(some 35), some undefA, none, false, .pu (.mov (.s 7))⟩,
     ⟨(some 36), some undefA, none, false, .pu (.len (.s 35))⟩,
     ⟨(some 37), some undefA, none, false, .pu (.bin .lss (.s 34) (.s 36))⟩])
   (.cond (.s 37) (.skip)
   (.exit 0)))
   (.block 1 (.ops [⟨(some 38), some undefA, none, false, .pu (.mov (.s 8))⟩,
      ⟨(some 39), some undefA, none, false, .pu (.mov (.s 7))⟩,
      ⟨(some 40), some undefA, none, false, .pu (.mov (.s 8))⟩,
      ⟨(some 41), some undefA, none, false, .pu (.slc 2 (.s 39) (some (.s 40)) none none)⟩,
      ⟨(some 42), some undefA, none, false, .pu (.mov (.s 7))⟩,
      ⟨(some 43), some undefA, none, false, .pu (.mov (.s 8))⟩,
      ⟨(some 44), some undefA, none, false, .pu (.slc 2 (.s 42) none (some (.s 43)) none)⟩,
      ⟨(some 45), some undefA, none, false, .ha (.cpy 2 (.s 41) (.s 44))⟩,
      ⟨(some 46), some undefA, none, false, .pu (.bin .add (.s 38) (.s 45))⟩,
      ⟨(some 8), some undefA, none, false, .pu (.mov (.s 46))⟩])))))
 (.seq (.ops [⟨(some 47), some undefA, none, false, .pu (.mov (.s 7))⟩,
   ⟨(some 4), some undefA, none, false, .pu (.mov (.s 47))⟩])
 (.ret))))))))⟩
theorem t63 : trF Try.prog [] [] Try.f63 = some m63 := by kernel_rfl

/-- selion/frac.Of [] -/
def m64 : MFun := ⟨20, [4], [.bget none 4 0 2 true],
 .seq (.ops [⟨(some 4), some (.junk), none, false, .pu (.bnew (.c (.agg [.int .i64 0, .int .i64 0])))⟩])
 (.seq (.ops [⟨(some 6), some undefA, none, false, .pu (.mov (.s 0))⟩,
   ⟨(some 7), some undefA, none, false, .pu (.mov (.s 1))⟩,
   ⟨(some 8), some undefA, none, false, .call 101 [(.s 6), (.s 7)]⟩,
   ⟨(some 5), some undefA, none, false, .pu (.mov (.s 8))⟩])
 (.seq (.seq (.ops [⟨(some 9), some undefA, none, false, .pu (.mov (.s 1))⟩,
   ⟨(some 10), some undefA, none, false, .pu (.bin .lss (.s 9) (.c (.int .i64 0)))⟩])
 (.cond (.s 10) (.ops [⟨(some 11), some undefA, none, false, .pu (.mov (.s 5))⟩,
    ⟨(some 12), some undefA, none, false, .pu (.neg (.s 11))⟩,
    ⟨(some 5), some undefA, none, false, .pu (.mov (.s 12))⟩])
 (.skip)))
 (.seq (.ops [⟨(some 13), some undefA, none, false, .pu (.mov (.s 0))⟩,
   ⟨(some 14), some undefA, none, false, .pu (.mov (.s 5))⟩,
   ⟨(some 15), some undefA, none, false, .pu (.bin .quo (.s 13) (.s 14))⟩,
   ⟨(some 16), some undefA, none, false, .pu (.mov (.s 1))⟩,
   ⟨(some 17), some undefA, none, false, .pu (.mov (.s 5))⟩,
   ⟨(some 18), some undefA, none, false, .pu (.bin .quo (.s 16) (.s 17))⟩,
   ⟨(some 19), some undefA, none, false, .pu (.build [.int .i64 0, .int .i64 0] [(0, 1, (.s 15)), (1, 1, (.s 18))])⟩,
   ⟨(some 4), none, none, false, .pu (.bset none 4 0 2 (.s 19))⟩])
 (.ret))))⟩
theorem t64 : trF Try.prog [4] [] Try.f64 = some m64 := by kernel_rfl

/-- selion/soil.total [] -/
def m65 : MFun := ⟨5, [], [.mov (.s 2)],
 .seq (.ops [⟨(some 2), some undefA, none, false, .pu (.mov (.c (.int .i64 0)))⟩])
 (.seq (.ops [⟨(some 3), some undefA, none, false, .pu (.mov (.s 0))⟩,
   ⟨(some 4), some undefA, none, false, .call 102 [(.s 3), (.c (.fn 103 []))]⟩,
   ⟨(some 2), some undefA, none, false, .pu (.mov (.s 4))⟩])
 (.ret))⟩
theorem t65 : trF Try.prog [] [] Try.f65 = some m65 := by kernel_rfl

/-- selion/selionref02.within [] -/
def m66 : MFun := ⟨15, [], [.mov (.s 6)],
 .seq (.ops [⟨(some 6), some undefA, none, false, .pu (.mov (.c (.bool false)))⟩])
 (.seq (.ops [⟨(some 7), some undefA, none, false, .pu (.mov (.s 0))⟩,
   ⟨(some 8), some undefA, none, false, .pu (.mov (.s 1))⟩,
   ⟨(some 9), some undefA, none, false, .pu (.bin .geq (.s 7) (.s 8))⟩,
   ⟨(some 10), some undefA, none, false, .pu (.mov (.s 9))⟩,
   ⟨(some 11), some undefA, (some (10, true)), false, .pu (.mov (.s 0))⟩,
   ⟨(some 12), some undefA, (some (10, true)), false, .pu (.mov (.s 2))⟩,
   ⟨(some 13), some undefA, (some (10, true)), false, .pu (.bin .leq (.s 11) (.s 12))⟩,
   ⟨(some 14), some undefA, none, false, .pu (.pick (.s 10) (.s 13) (.c (.bool false)))⟩,
   ⟨(some 6), some undefA, none, false, .pu (.mov (.s 14))⟩])
 (.ret))⟩
theorem t66 : trF Try.prog [] [] Try.f66 = some m66 := by kernel_rfl

/-- selion/selionref02.Reach [loop [0, 6, 8, 9, 10]] -/
def m67 : MFun := ⟨55, [4, 5, 6, 8], [.bget none 6 0 2 true, .mov (.s 7)],
 .seq (.ops [⟨(some 4), some (.junk), none, false, .pu (.bnew (.s 1))⟩,
   ⟨(some 5), some (.junk), none, false, .pu (.bnew (.s 2))⟩,
   ⟨(some 6), some (.junk), none, false, .pu (.bnew (.c (.agg [.int .i64 0, .int .i64 0])))⟩,
   ⟨(some 7), some undefA, none, false, .pu (.mov (.c (.bool false)))⟩])
 (.seq (.seq (.ops [⟨(some 11), some undefA, none, false, .pu (.badr none 5)⟩,
   ⟨(some 12), some undefA, none, false, .pu (.bget (some 11) 5 0 1 false)⟩,
   ⟨(some 13), some undefA, none, false, .pu (.bin .leq (.s 12) (.c (.int .i64 0)))⟩])
 (.cond (.s 13) (.seq (.ops [⟨(some 14), some undefA, none, false, .pu (.bget none 4 0 2 true)⟩,
    ⟨(some 6), none, none, false, .pu (.bset none 6 0 2 (.s 14))⟩,
    ⟨(some 7), some undefA, none, false, .pu (.mov (.c (.bool true)))⟩])
  (.ret))
 (.skip)))
 (.seq (.ops [⟨(some 15), some undefA, none, false, .pu (.mov (.s 0))⟩,
   ⟨(some 16), some undefA, none, false, .pu (.bget none 4 0 2 true)⟩,
   ⟨(some 17), some undefA, none, false, .call 104 [(.s 15), (.s 16)]⟩,
   ⟨(some 18), some undefA, none, false, .pu (.bget none 5 0 2 true)⟩,
   ⟨(some 19), some undefA, none, false, .call 27 [(.s 17), (.s 18)]⟩,
   ⟨(some 8), some (.junk), none, false, .pu (.bnew (.c (.agg [.int .i64 0, .int .i64 0])))⟩,
   ⟨(some 8), none, none, false, .pu (.bset none 8 0 2 (.s 19))⟩])
 (.seq (.ops [⟨(some 9), some undefA, none, false, .pu (.mov (.c (.int .i64 0)))⟩])
 (.seq (.seq (.ops [⟨(some 10), some undefA, none, false, .pu (.mov (.c (.int .i64 0)))⟩])
 (.block 0 (.loop (.seq (.seq (.ops [⟨(some 20), some undefA, none, false, .pu (.mov (.s 10))⟩,
     ⟨(some 21), some undefA, none, false, .pu (.mov (.s 0))⟩,
     ⟨(some 22), some undefA, none, false, .pu (.len (.s 21))⟩,
     ⟨(some 23), some undefA, none, false, .pu (.bin .lss (.s 20) (.s 22))⟩])
   (.cond (.s 23) (.skip)
   (.exit 0)))
   (.seq (.block 1 (.seq (.seq (.ops [⟨(some 26), some undefA, none, true, .pu (.mov (.s 9))⟩,
      ⟨(some 27), some undefA, none, false, .pu (.mov (.s 0))⟩,
      ⟨(some 28), some undefA, none, false, .pu (.mov (.s 10))⟩,
      ⟨(some 29), some undefA, none, false, .pu (.idx 1 (.s 27) (.s 28))⟩,
      ⟨(some 30), some undefA, none, true, .ld (.ld 1 false (.s 29))⟩,
      ⟨(some 31), some undefA, none, false, .pu (.bin .add (.s 26) (.s 30))⟩,
      ⟨(some 32), some undefA, none, false, .call 30 [(.s 31)]⟩,
      ⟨(some 33), some undefA, none, true, .pu (.bget none 8 0 2 true)⟩,
      ⟨(some 34), some undefA, none, false, .call 24 [(.s 32), (.s 33)]⟩,
      ⟨(some 35), some undefA, none, false, .pu (.not (.s 34))⟩])
    (.cond (.s 35) (.seq (.ops [⟨(some 36), some undefA, none, true, .pu (.mov (.s 10))⟩,
       ⟨(some 37), some undefA, none, true, .call 30 [(.s 36)]⟩,
       ⟨(some 38), some undefA, none, true, .pu (.bget none 8 0 2 true)⟩,
       ⟨(some 39), some undefA, none, true, .pu (.mov (.s 9))⟩,
       ⟨(some 40), some undefA, none, true, .call 30 [(.s 39)]⟩,
       ⟨(some 41), some undefA, none, true, .call 53 [(.s 38), (.s 40)]⟩,
       ⟨(some 42), some undefA, none, false, .pu (.mov (.s 0))⟩,
       ⟨(some 43), some undefA, none, false, .pu (.mov (.s 10))⟩,
       ⟨(some 44), some undefA, none, false, .pu (.idx 1 (.s 42) (.s 43))⟩,
       ⟨(some 45), some undefA, none, true, .ld (.ld 1 false (.s 44))⟩,
       ⟨(some 46), some undefA, none, false, .call 105 [(.s 41), (.s 45)]⟩,
       ⟨(some 47), some undefA, none, false, .call 27 [(.s 37), (.s 46)]⟩,
       ⟨(some 6), none, none, false, .pu (.bset none 6 0 2 (.s 47))⟩,
       ⟨(some 7), some undefA, none, false, .pu (.mov (.c (.bool true)))⟩])
     (.ret))
    (.skip)))
    (.ops [⟨(some 48), some undefA, none, false, .pu (.mov (.s 9))⟩,
      ⟨(some 49), some undefA, none, false, .pu (.mov (.s 0))⟩,
      ⟨(some 50), some undefA, none, false, .pu (.mov (.s 10))⟩,
      ⟨(some 51), some undefA, none, false, .pu (.idx 1 (.s 49) (.s 50))⟩,
      ⟨(some 52), some undefA, none, false, .ld (.ld 1 false (.s 51))⟩,
      ⟨(some 53), some undefA, none, false, .pu (.bin .add (.s 48) (.s 52))⟩,
      ⟨(some 9), some undefA, none, false, .pu (.mov (.s 53))⟩])))
   (.ops [⟨(some 24), some undefA, none, false, .pu (.mov (.s 10))⟩,
     ⟨(some 25), some undefA, none, false, .pu (.bin .add (.s 24) (.c (.int .i64 1)))⟩,
     ⟨(some 10), some undefA, none, false, .pu (.mov (.s 25))⟩]))))))
 (.seq (.ops [⟨(some 54), some undefA, none, false, .pu (.build [.int .i64 0, .int .i64 0] [])⟩,
   ⟨(some 6), none, none, false, .pu (.bset none 6 0 2 (.s 54))⟩,
   ⟨(some 7), some undefA, none, false, .pu (.mov (.c (.bool false)))⟩])
 (.ret))))))⟩
theorem t67 : trF Try.prog [4, 5, 6, 8] [] Try.f67 = some m67 := by kernel_rfl

/-- selion/selionref02.Units [loop [0, 3, 4], loop [0, 3, 4, 5]] -/
def m68 : MFun := ⟨30, [], [.mov (.s 2)],
 .seq (.ops [⟨(some 2), some undefA, none, false, .pu (.mov (.c (.nilS)))⟩])
 (.seq (.ops [⟨(some 3), some undefA, none, false, .pu (.mov (.c (.nilS)))⟩])
 (.seq (.seq (.ops [⟨(some 4), some undefA, none, false, .pu (.mov (.c (.int .i64 0)))⟩])
 (.block 0 (.loop (.seq (.seq (.ops [⟨(some 6), some undefA, none, false, .pu (.mov (.s 4))⟩,
     ⟨(some 7), some undefA, none, false, .pu (.mov (.s 0))⟩,
     ⟨(some 8), some undefA, none, false, .pu (.len (.s 7))⟩,
     ⟨(some 9), some undefA, none, false, .pu (.bin .lss (.s 6) (.s 8))⟩])
   (.cond (.s 9) (.skip)
   (.exit 0)))
   (.seq (.block 1 (.seq (.ops [⟨(some 5), some undefA, none, false, .pu (.mov (.c (.int .i64 0)))⟩])
    (.block 2 (.loop (.seq (.seq (.ops [⟨(some 12), some undefA, none, false, .pu (.mov (.s 5))⟩,
        ⟨(some 13), some undefA, none, false, .pu (.mov (.s 0))⟩,
        ⟨(some 14), some undefA, none, false, .pu (.mov (.s 4))⟩,
        ⟨(some 15), some undefA, none, false, .pu (.idx 2 (.s 13) (.s 14))⟩,
        ⟨(some 16), some undefA, none, false, .pu (.fad 0 (.s 15))⟩,
        ⟨(some 17), some undefA, none, false, .ld (.ld 1 false (.s 16))⟩,
        ⟨(some 18), some undefA, none, false, .pu (.bin .lss (.s 12) (.s 17))⟩])
      (.cond (.s 18) (.skip)
      (.exit 2)))
      (.seq (.block 3 (.ops [⟨(some 21), some undefA, none, false, .pu (.mov (.s 3))⟩,
         ⟨(some 22), some undefA, none, false, .pu (.mov (.s 0))⟩,
         ⟨(some 23), some undefA, none, false, .pu (.mov (.s 4))⟩,
         ⟨(some 24), some undefA, none, false, .pu (.idx 2 (.s 22) (.s 23))⟩,
         ⟨(some 25), some undefA, none, false, .pu (.fad 1 (.s 24))⟩,
         ⟨(some 26), some undefA, none, false, .ld (.ld 1 false (.s 25))⟩,
         ⟨(some 27), some undefA, none, false, .ha (.blds 1 1 [.int .i64 0] [(0, 1, (.s 26))])⟩,
         ⟨(some 28), some undefA, none, false, .ha (.app 1 (.s 21) (.s 27))⟩,
         ⟨(some 3), some undefA, none, false, .pu (.mov (.s 28))⟩]))
      (.ops [⟨(some 19), some undefA, none, false, .pu (.mov (.s 5))⟩,
        ⟨(some 20), some undefA, none, false, .pu (.bin .add (.s 19) (.c (.int .i64 1)))⟩,
        ⟨(some 5), some undefA, none, false, .pu (.mov (.s 20))⟩])))))))
   (.ops [⟨(some 10), some undefA, none, false, .pu (.mov (.s 4))⟩,
     ⟨(some 11), some undefA, none, false, .pu (.bin .add (.s 10) (.c (.int .i64 1)))⟩,
     ⟨(some 4), some undefA, none, false, .pu (.mov (.s 11))⟩]))))))
 (.seq (.ops [⟨(some 29), some undefA, none, false, .pu (.mov (.s 3))⟩,
   ⟨(some 2), some undefA, none, false, .pu (.mov (.s 29))⟩])
 (.ret))))⟩
theorem t68 : trF Try.prog [] [] Try.f68 = some m68 := by kernel_rfl

/-- selion/selionref02.Ratio [] -/
def m69 : MFun := ⟨16, [4], [.bget none 4 0 2 true],
 .seq (.ops [⟨(some 4), some (.junk), none, false, .pu (.bnew (.c (.agg [.int .i64 0, .int .i64 0])))⟩])
 (.seq (.ops [⟨(some 6), some undefA, none, false, .pu (.mov (.s 0))⟩,
   ⟨(some 7), some undefA, none, false, .pu (.mov (.s 1))⟩,
   ⟨(some 8), some undefA, none, false, .call 76 [(.s 6), (.s 7)]⟩,
   ⟨(some 5), some undefA, none, false, .pu (.mov (.s 8))⟩])
 (.seq (.ops [⟨(some 9), some undefA, none, false, .pu (.mov (.s 0))⟩,
   ⟨(some 10), some undefA, none, false, .pu (.mov (.s 5))⟩,
   ⟨(some 11), some undefA, none, false, .pu (.bin .quo (.s 9) (.s 10))⟩,
   ⟨(some 12), some undefA, none, false, .pu (.mov (.s 1))⟩,
   ⟨(some 13), some undefA, none, false, .pu (.mov (.s 5))⟩,
   ⟨(some 14), some undefA, none, false, .pu (.bin .quo (.s 12) (.s 13))⟩,
   ⟨(some 15), some undefA, none, false, .pu (.build [.int .i64 0, .int .i64 0] [(0, 1, (.s 11)), (1, 1, (.s 14))])⟩,
   ⟨(some 4), none, none, false, .pu (.bset none 4 0 2 (.s 15))⟩])
 (.ret)))⟩
theorem t69 : trF Try.prog [4] [] Try.f69 = some m69 := by kernel_rfl

/-- selion/selionref02.total [loop [3, 4, 5]] -/
def m70 : MFun := ⟨21, [], [.mov (.s 2)],
 .seq (.ops [⟨(some 2), some undefA, none, false, .pu (.mov (.c (.int .i64 0)))⟩])
 (.seq (.ops [⟨(some 3), some undefA, none, false, .pu (.mov (.c (.int .i64 0)))⟩])
 (.seq (.ops [⟨(some 6), some undefA, none, false, .pu (.mov (.s 0))⟩,
   ⟨(some 7), some undefA, none, false, .call 68 [(.s 6)]⟩,
   ⟨(some 4), some undefA, none, false, .pu (.mov (.s 7))⟩])
 (.seq (.seq (.ops [⟨(some 5), some undefA, none, false, .pu (.mov (.c (.int .i64 0)))⟩])
 (.block 0 (.loop (.seq (.seq (.ops [⟨(some 8), some undefA, none, false, .pu (.mov (.s 5))⟩,
     ⟨(some 9), some undefA, none, false, .pu (.mov (.s 4))⟩,
     ⟨(some 10), some undefA, none, false, .pu (.len (.s 9))⟩,
     ⟨(some 11), some undefA, none, false, .pu (.bin .lss (.s 8) (.s 10))⟩])
   (.cond (.s 11) (.skip)
   (.exit 0)))
   (.seq (.block 1 (.ops [⟨(some 14), some undefA, none, false, .pu (.mov (.s 3))⟩,
      ⟨(some 15), some undefA, none, false, .pu (.mov (.s 4))⟩,
      ⟨(some 16), some undefA, none, false, .pu (.mov (.s 5))⟩,
      ⟨(some 17), some undefA, none, false, .pu (.idx 1 (.s 15) (.s 16))⟩,
      ⟨(some 18), some undefA, none, false, .ld (.ld 1 false (.s 17))⟩,
      ⟨(some 19), some undefA, none, false, .pu (.bin .add (.s 14) (.s 18))⟩,
      ⟨(some 3), some undefA, none, false, .pu (.mov (.s 19))⟩]))
   (.ops [⟨(some 12), some undefA, none, false, .pu (.mov (.s 5))⟩,
     ⟨(some 13), some undefA, none, false, .pu (.bin .add (.s 12) (.c (.int .i64 1)))⟩,
     ⟨(some 5), some undefA, none, false, .pu (.mov (.s 13))⟩]))))))
 (.seq (.ops [⟨(some 20), some undefA, none, false, .pu (.mov (.s 3))⟩,
   ⟨(some 2), some undefA, none, false, .pu (.mov (.s 20))⟩])
 (.ret)))))⟩
theorem t70 : trF Try.prog [] [] Try.f70 = some m70 := by kernel_rfl

/-- selion/soil.isPlace [] -/
def m71 : MFun := ⟨20, [4], [.mov (.s 6)],
 .seq (.ops [⟨(some 4), some (.junk), none, false, .pu (.bnew (.s 1))⟩,
   ⟨(some 6), some undefA, none, false, .pu (.mov (.c (.bool false)))⟩])
 (.seq (.ops [⟨(some 7), some undefA, none, false, .pu (.bget none 4 0 2 true)⟩,
   ⟨(some 8), some undefA, none, false, .pu (.mov (.s 2))⟩,
   ⟨(some 9), some undefA, none, false, .call 79 [(.s 7), (.s 8)]⟩,
   ⟨(some 10), some undefA, none, false, .pu (.mov (.s 9))⟩,
   ⟨(some 11), some undefA, (some (10, true)), false, .pu (.badr none 4)⟩,
   ⟨(some 12), some undefA, (some (10, true)), false, .pu (.bget (some 11) 4 0 1 false)⟩,
   ⟨(some 13), some undefA, (some (10, true)), false, .pu (.mov (.s 0))⟩,
   ⟨(some 14), some undefA, (some (10, true)), false, .call 77 [(.s 13)]⟩,
   ⟨(some 15), some undefA, (some (10, true)), false, .pu (.badr none 4)⟩,
   ⟨(some 16), some undefA, (some (10, true)), false, .pu (.bget (some 15) 4 1 1 false)⟩,
   ⟨(some 17), some undefA, (some (10, true)), false, .pu (.bin .mul (.s 14) (.s 16))⟩,
   ⟨(some 18), some undefA, (some (10, true)), false, .call 61 [(.s 12), (.c (.int .i64 0)), (.s 17)]⟩,
   ⟨(some 19), some undefA, none, false, .pu (.pick (.s 10) (.s 18) (.c (.bool false)))⟩,
   ⟨(some 6), some undefA, none, false, .pu (.mov (.s 19))⟩])
 (.ret))⟩
theorem t71 : trF Try.prog [4] [] Try.f71 = some m71 := by kernel_rfl

/-- selion/frac.Cmp [] -/
def m72 : MFun := ⟨9, [2, 3], [.mov (.s 4)],
 .seq (.ops [⟨(some 2), some (.junk), none, false, .pu (.bnew (.s 0))⟩,
   ⟨(some 3), some (.junk), none, false, .pu (.bnew (.s 1))⟩,
   ⟨(some 4), some undefA, none, false, .pu (.mov (.c (.int .i64 0)))⟩])
 (.seq (.ops [⟨(some 5), some undefA, none, false, .pu (.bget none 2 0 2 true)⟩,
   ⟨(some 6), some undefA, none, false, .pu (.bget none 3 0 2 true)⟩,
   ⟨(some 7), some undefA, none, false, .call 106 [(.s 5), (.s 6)]⟩,
   ⟨(some 8), some undefA, none, false, .pu (.part 0 1 false (.s 7))⟩,
   ⟨(some 4), some undefA, none, false, .pu (.mov (.s 8))⟩])
 (.ret))⟩
theorem t72 : trF Try.prog [2, 3] [] Try.f72 = some m72 := by kernel_rfl

/-- selion/soil.worth [loop [4, 5, 6, 7, 8, 14, 15, 16]] -/
def m73 : MFun := ⟨49, [4, 5, 6, 7, 10, 11, 12], [.bget none 6 0 2 true],
 .seq (.ops [⟨(some 4), some (.junk), none, false, .pu (.bnew (.s 1))⟩,
   ⟨(some 5), some (.junk), none, false, .pu (.bnew (.s 2))⟩,
   ⟨(some 6), some (.junk), none, false, .pu (.bnew (.c (.agg [.int .i64 0, .int .i64 0])))⟩])
 (.seq (.ops [⟨(some 13), some undefA, none, false, .call 78 [(.c (.int .i64 0))]⟩,
   ⟨(some 7), some (.junk), none, false, .pu (.bnew (.c (.agg [.int .i64 0, .int .i64 0])))⟩,
   ⟨(some 7), none, none, false, .pu (.bset none 7 0 2 (.s 13))⟩])
 (.seq (.ops [⟨(some 8), some undefA, none, false, .pu (.mov (.c (.int .i64 0)))⟩])
 (.seq (.seq (.ops [⟨(some 14), some undefA, none, false, .pu (.mov (.s 0))⟩,
   ⟨(some 15), some undefA, none, false, .pu (.len (.s 14))⟩,
   ⟨(some 16), some undefA, none, false, .pu (.mov (.c (.int .i64 0)))⟩])
 (.block 0 (.loop (.seq (.ops [⟨(some 17), some undefA, none, false, .pu (.bin .lss (.s 16) (.s 15))⟩])
   (.seq (.cond (.s 17) (.skip)
   (.exit 0))
   (.seq (.block 1 (.seq (.ops [⟨(some 18), some undefA, none, false, .pu (.idx 2 (.s 14) (.s 16))⟩,
      ⟨(some 19), some undefA, none, false, .ld (.ld 2 true (.s 18))⟩,
      ⟨(some 10), some (.junk), none, false, .pu (.bnew (.c (.agg [.int .i64 0, .int .i64 0])))⟩,
      ⟨(some 10), none, none, false, .pu (.bset none 10 0 2 (.s 19))⟩])
    (.seq (.ops [⟨(some 20), some undefA, none, false, .pu (.bget none 4 0 2 true)⟩,
      ⟨(some 21), some undefA, none, false, .pu (.mov (.s 8))⟩,
      ⟨(some 22), some undefA, none, false, .call 78 [(.s 21)]⟩,
      ⟨(some 23), some undefA, none, false, .call 107 [(.s 20), (.s 22)]⟩,
      ⟨(some 24), some undefA, none, false, .pu (.bget none 5 0 2 true)⟩,
      ⟨(some 25), some undefA, none, false, .pu (.mov (.s 8))⟩,
      ⟨(some 26), some undefA, none, false, .pu (.badr none 10)⟩,
      ⟨(some 27), some undefA, none, false, .pu (.bget (some 26) 10 0 1 false)⟩,
      ⟨(some 28), some undefA, none, false, .pu (.bin .add (.s 25) (.s 27))⟩,
      ⟨(some 29), some undefA, none, false, .call 78 [(.s 28)]⟩,
      ⟨(some 30), some undefA, none, false, .call 108 [(.s 24), (.s 29)]⟩,
      ⟨(some 11), some (.junk), none, false, .pu (.bnew (.c (.agg [.int .i64 0, .int .i64 0])))⟩,
      ⟨(some 12), some (.junk), none, false, .pu (.bnew (.c (.agg [.int .i64 0, .int .i64 0])))⟩,
      ⟨(some 11), none, none, false, .pu (.bset none 11 0 2 (.s 23))⟩,
      ⟨(some 12), none, none, false, .pu (.bset none 12 0 2 (.s 30))⟩])
    (.seq (.seq (.ops [⟨(some 31), some undefA, none, false, .pu (.bget none 11 0 2 true)⟩,
      ⟨(some 32), some undefA, none, false, .pu (.bget none 12 0 2 true)⟩,
      ⟨(some 33), some undefA, none, false, .call 72 [(.s 31), (.s 32)]⟩,
      ⟨(some 34), some undefA, none, false, .pu (.bin .lss (.s 33) (.c (.int .i64 0)))⟩])
    (.cond (.s 34) (.ops [⟨(some 35), some undefA, none, false, .pu (.bget none 7 0 2 true)⟩,
       ⟨(some 36), some undefA, none, false, .pu (.bget none 12 0 2 true)⟩,
       ⟨(some 37), some undefA, none, false, .pu (.bget none 11 0 2 true)⟩,
       ⟨(some 38), some undefA, none, false, .call 106 [(.s 36), (.s 37)]⟩,
       ⟨(some 39), some undefA, none, false, .pu (.badr none 10)⟩,
       ⟨(some 40), some undefA, none, false, .pu (.bget (some 39) 10 1 1 false)⟩,
       ⟨(some 41), some undefA, none, false, .call 110 [(.s 38), (.s 40)]⟩,
       ⟨(some 42), some undefA, none, false, .call 109 [(.s 35), (.s 41)]⟩,
       ⟨(some 7), none, none, false, .pu (.bset none 7 0 2 (.s 42))⟩])
    (.skip)))
    (.ops [⟨(some 43), some undefA, none, false, .pu (.mov (.s 8))⟩,
      ⟨(some 44), some undefA, none, false, .pu (.badr none 10)⟩,
      ⟨(some 45), some undefA, none, false, .pu (.bget (some 44) 10 0 1 false)⟩,
      ⟨(some 46), some undefA, none, false, .pu (.bin .add (.s 43) (.s 45))⟩,
      ⟨(some 8), some undefA, none, false, .pu (.mov (.s 46))⟩])))))
   (.ops [⟨(some 47), some undefA, none, false, .pu (.bin .add (.s 16) (.c (.int .i64 1)))⟩,
     ⟨(some 16), some undefA, none, false, .pu (.mov (.s 47))⟩])))))))
 (.seq (.ops [⟨(some 48), some undefA, none, false, .pu (.bget none 7 0 2 true)⟩,
   ⟨(some 6), none, none, false, .pu (.bset none 6 0 2 (.s 48))⟩])
 (.ret)))))⟩
theorem t73 : trF Try.prog [4, 5, 6, 7, 10, 11, 12] [] Try.f73 = some m73 := by kernel_rfl

/-- selion/selionref02.asked [loop [0, 1, 6]] -/
def m74 : MFun := ⟨34, [], [.mov (.s 4)],
 .seq (.ops [⟨(some 4), some undefA, none, false, .pu (.mov (.c (.int .i64 0)))⟩])
 (.seq (.ops [⟨(some 7), some undefA, none, false, .pu (.mov (.s 0))⟩,
   ⟨(some 8), some undefA, none, false, .call 38 [(.s 7)]⟩,
   ⟨(some 5), some undefA, none, false, .pu (.mov (.s 8))⟩])
 (.seq (.seq (.ops [⟨(some 9), some undefA, none, false, .pu (.mov (.s 5))⟩,
   ⟨(some 10), some undefA, none, false, .pu (.bin .neq (.s 9) (.c (.int .i64 0)))⟩])
 (.cond (.s 10) (.seq (.ops [⟨(some 11), some undefA, none, false, .pu (.mov (.s 5))⟩,
    ⟨(some 4), some undefA, none, false, .pu (.mov (.s 11))⟩])
  (.ret))
 (.skip)))
 (.seq (.seq (.ops [⟨(some 6), some undefA, none, false, .pu (.mov (.c (.int .i64 0)))⟩])
 (.block 0 (.loop (.seq (.seq (.ops [⟨(some 12), some undefA, none, false, .pu (.mov (.s 6))⟩,
     ⟨(some 13), some undefA, none, false, .pu (.mov (.s 1))⟩,
     ⟨(some 14), some undefA, none, false, .pu (.len (.s 13))⟩,
     ⟨(some 15), some undefA, none, false, .pu (.bin .lss (.s 12) (.s 14))⟩])
   (.cond (.s 15) (.skip)
   (.exit 0)))
   (.seq (.block 1 (.seq (.ops [⟨(some 18), some undefA, none, false, .pu (.mov (.s 1))⟩,
      ⟨(some 19), some undefA, none, false, .pu (.mov (.s 6))⟩,
      ⟨(some 20), some undefA, none, false, .pu (.idx 2 (.s 18) (.s 19))⟩,
      ⟨(some 21), some undefA, none, true, .ld (.ld 2 true (.s 20))⟩,
      ⟨(some 22), some undefA, none, false, .call 81 [(.s 21), (.c (.int .i64 1000))]⟩,
      ⟨(some 23), some undefA, none, false, .pu (.not (.s 22))⟩,
      ⟨(some 24), some undefA, none, false, .pu (.mov (.s 23))⟩,
      ⟨(some 25), some undefA, (some (24, false)), true, .pu (.mov (.s 0))⟩,
      ⟨(some 26), some undefA, (some (24, false)), true, .call 68 [(.s 25)]⟩,
      ⟨(some 27), some undefA, (some (24, false)), false, .pu (.mov (.s 1))⟩,
      ⟨(some 28), some undefA, (some (24, false)), false, .pu (.mov (.s 6))⟩,
      ⟨(some 29), some undefA, (some (24, false)), false, .pu (.idx 2 (.s 27) (.s 28))⟩,
      ⟨(some 30), some undefA, (some (24, false)), true, .ld (.ld 2 true (.s 29))⟩,
      ⟨(some 31), some undefA, (some (24, false)), false, .call 99 [(.s 26), (.s 30)]⟩,
      ⟨(some 32), some undefA, (some (24, false)), false, .pu (.not (.s 31))⟩,
      ⟨(some 33), some undefA, none, false, .pu (.pick (.s 24) (.c (.bool true)) (.s 32))⟩])
    (.cond (.s 33) (.seq (.ops [⟨(some 4), some undefA, none, false, .pu (.mov (.c (.int .i64 1)))⟩])
     (.ret))
    (.skip))))
   (.ops [⟨(some 16), some undefA, none, false, .pu (.mov (.s 6))⟩,
     ⟨(some 17), some undefA, none, false, .pu (.bin .add (.s 16) (.c (.int .i64 1)))⟩,
     ⟨(some 6), some undefA, none, false, .pu (.mov (.s 17))⟩]))))))
 (.seq (.ops [⟨(some 4), some undefA, none, false, .pu (.mov (.c (.int .i64 0)))⟩])
 (.ret)))))⟩
theorem t74 : trF Try.prog [] [] Try.f74 = some m74 := by kernel_rfl

/-- selion/selionref02.Between [] -/
def m75 : MFun := ⟨14, [4, 5, 6], [.bget none 6 0 2 true],
 .seq (.ops [⟨(some 4), some (.junk), none, false, .pu (.bnew (.s 1))⟩,
   ⟨(some 5), some (.junk), none, false, .pu (.bnew (.s 2))⟩,
   ⟨(some 6), some (.junk), none, false, .pu (.bnew (.c (.agg [.int .i64 0, .int .i64 0])))⟩])
 (.seq (.ops [⟨(some 7), some undefA, none, false, .pu (.mov (.s 0))⟩,
   ⟨(some 8), some undefA, none, false, .pu (.bget none 5 0 2 true)⟩,
   ⟨(some 9), some undefA, none, false, .call 104 [(.s 7), (.s 8)]⟩,
   ⟨(some 10), some undefA, none, false, .pu (.mov (.s 0))⟩,
   ⟨(some 11), some undefA, none, false, .pu (.bget none 4 0 2 true)⟩,
   ⟨(some 12), some undefA, none, false, .call 104 [(.s 10), (.s 11)]⟩,
   ⟨(some 13), some undefA, none, false, .call 53 [(.s 9), (.s 12)]⟩,
   ⟨(some 6), none, none, false, .pu (.bset none 6 0 2 (.s 13))⟩])
 (.ret))⟩
theorem t75 : trF Try.prog [4, 5, 6] [] Try.f75 = some m75 := by kernel_rfl

/-- selion/selionref02.gcd [loop [5, 6]] -/
def m76 : MFun := ⟨24, [], [.mov (.s 4)],
 .seq (.ops [⟨(some 4), some undefA, none, false, .pu (.mov (.c (.int .i64 0)))⟩])
 (.seq (.ops [⟨(some 8), some undefA, none, false, .pu (.mov (.s 0))⟩,
   ⟨(some 9), some undefA, none, false, .pu (.mov (.s 0))⟩,
   ⟨(some 10), some undefA, none, false, .pu (.neg (.s 9))⟩,
   ⟨(some 11), some undefA, none, false, .pu (.mm true (.s 8) [(.s 10)])⟩,
   ⟨(some 12), some undefA, none, false, .pu (.mov (.s 1))⟩,
   ⟨(some 13), some undefA, none, false, .pu (.mov (.s 1))⟩,
   ⟨(some 14), some undefA, none, false, .pu (.neg (.s 13))⟩,
   ⟨(some 15), some undefA, none, false, .pu (.mm true (.s 12) [(.s 14)])⟩,
   ⟨(some 5), some undefA, none, false, .pu (.mov (.s 11))⟩,
   ⟨(some 6), some undefA, none, false, .pu (.mov (.s 15))⟩])
 (.seq (.block 0 (.loop (.seq (.seq (.ops [⟨(some 16), some undefA, none, false, .pu (.mov (.s 6))⟩,
     ⟨(some 17), some undefA, none, false, .pu (.bin .gtr (.s 16) (.c (.int .i64 0)))⟩])
   (.cond (.s 17) (.skip)
   (.exit 0)))
   (.block 1 (.seq (.ops [⟨(some 18), some undefA, none, false, .pu (.mov (.s 5))⟩,
      ⟨(some 19), some undefA, none, false, .pu (.mov (.s 6))⟩,
      ⟨(some 20), some undefA, none, false, .pu (.bin .rem (.s 18) (.s 19))⟩,
      ⟨(some 7), some undefA, none, false, .pu (.mov (.s 20))⟩])
    (.seq (.ops [⟨(some 21), some undefA, none, false, .pu (.mov (.s 6))⟩,
      ⟨(some 5), some undefA, none, false, .pu (.mov (.s 21))⟩])
    (.ops [⟨(some 22), some undefA, none, false, .pu (.mov (.s 7))⟩,
      ⟨(some 6), some undefA, none, false, .pu (.mov (.s 22))⟩])))))))
 (.seq (.ops [⟨(some 23), some undefA, none, false, .pu (.mov (.s 5))⟩,
   ⟨(some 4), some undefA, none, false, .pu (.mov (.s 23))⟩])
 (.ret))))⟩
theorem t76 : trF Try.prog [] [] Try.f76 = some m76 := by kernel_rfl

/-- selion/soil.length [] -/
def m77 : MFun := ⟨5, [], [.mov (.s 2)],
 .seq (.ops [⟨(some 2), some undefA, none, false, .pu (.mov (.c (.int .i64 0)))⟩])
 (.seq (.ops [⟨(some 3), some undefA, none, false, .pu (.mov (.s 0))⟩,
   ⟨(some 4), some undefA, none, false, .call 102 [(.s 3), (.c (.fn 111 []))]⟩,
   ⟨(some 2), some undefA, none, false, .pu (.mov (.s 4))⟩])
 (.ret))⟩
theorem t77 : trF Try.prog [] [] Try.f77 = some m77 := by kernel_rfl

/-- selion/frac.Int [] -/
def m78 : MFun := ⟨5, [2], [.bget none 2 0 2 true],
 .seq (.ops [⟨(some 2), some (.junk), none, false, .pu (.bnew (.c (.agg [.int .i64 0, .int .i64 0])))⟩])
 (.seq (.ops [⟨(some 3), some undefA, none, false, .pu (.mov (.s 0))⟩,
   ⟨(some 4), some undefA, none, false, .pu (.build [.int .i64 0, .int .i64 0] [(0, 1, (.s 3)), (1, 1, (.c (.int .i64 1)))])⟩,
   ⟨(some 2), none, none, false, .pu (.bset none 2 0 2 (.s 4))⟩])
 (.ret))⟩
theorem t78 : trF Try.prog [2] [] Try.f78 = some m78 := by kernel_rfl

/-- selion/frac.Valid [] -/
def m79 : MFun := ⟨22, [2], [.mov (.s 4)],
 .seq (.ops [⟨(some 2), some (.junk), none, false, .pu (.bnew (.s 0))⟩,
   ⟨(some 4), some undefA, none, false, .pu (.mov (.c (.bool false)))⟩])
 (.seq (.ops [⟨(some 5), some undefA, none, false, .pu (.badr none 2)⟩,
   ⟨(some 6), some undefA, none, false, .pu (.bget (some 5) 2 1 1 false)⟩,
   ⟨(some 7), some undefA, none, false, .pu (.bin .geq (.s 6) (.c (.int .i64 1)))⟩,
   ⟨(some 8), some undefA, none, false, .pu (.mov (.s 7))⟩,
   ⟨(some 9), some undefA, (some (8, true)), false, .pu (.badr none 2)⟩,
   ⟨(some 10), some undefA, (some (8, true)), false, .pu (.bget (some 9) 2 1 1 false)⟩,
   ⟨(some 11), some undefA, (some (8, true)), false, .pu (.mov (.s 1))⟩,
   ⟨(some 12), some undefA, (some (8, true)), false, .pu (.bin .leq (.s 10) (.s 11))⟩,
   ⟨(some 13), some undefA, none, false, .pu (.pick (.s 8) (.s 12) (.c (.bool false)))⟩,
   ⟨(some 14), some undefA, none, false, .pu (.mov (.s 13))⟩,
   ⟨(some 15), some undefA, (some (14, true)), false, .pu (.badr none 2)⟩,
   ⟨(some 16), some undefA, (some (14, true)), false, .pu (.bget (some 15) 2 0 1 false)⟩,
   ⟨(some 17), some undefA, (some (14, true)), false, .pu (.badr none 2)⟩,
   ⟨(some 18), some undefA, (some (14, true)), false, .pu (.bget (some 17) 2 1 1 false)⟩,
   ⟨(some 19), some undefA, (some (14, true)), false, .call 101 [(.s 16), (.s 18)]⟩,
   ⟨(some 20), some undefA, (some (14, true)), false, .pu (.bin .eql (.s 19) (.c (.int .i64 1)))⟩,
   ⟨(some 21), some undefA, none, false, .pu (.pick (.s 14) (.s 20) (.c (.bool false)))⟩,
   ⟨(some 4), some undefA, none, false, .pu (.mov (.s 21))⟩])
 (.ret))⟩
theorem t79 : trF Try.prog [2] [] Try.f79 = some m79 := by kernel_rfl

/-- selion/soil.place [loop [4, 5, 6, 8, 18, 19, 20]] -/
def m80 : MFun := ⟨62, [4, 5, 6, 10, 11, 12, 13], [.bget none 6 0 2 true, .mov (.s 7)],
 .seq (.ops [⟨(some 4), some (.junk), none, false, .pu (.bnew (.s 1))⟩,
   ⟨(some 5), some (.junk), none, false, .pu (.bnew (.s 2))⟩,
   ⟨(some 6), some (.junk), none, false, .pu (.bnew (.c (.agg [.int .i64 0, .int .i64 0])))⟩,
   ⟨(some 7), some undefA, none, false, .pu (.mov (.c (.bool false)))⟩])
 (.seq (.seq (.ops [⟨(some 14), some undefA, none, false, .pu (.badr none 5)⟩,
   ⟨(some 15), some undefA, none, false, .pu (.bget (some 14) 5 0 1 false)⟩,
   ⟨(some 16), some undefA, none, false, .pu (.bin .eql (.s 15) (.c (.int .i64 0)))⟩])
 (.cond (.s 16) (.seq (.ops [⟨(some 17), some undefA, none, false, .pu (.bget none 4 0 2 true)⟩,
    ⟨(some 6), none, none, false, .pu (.bset none 6 0 2 (.s 17))⟩,
    ⟨(some 7), some undefA, none, false, .pu (.mov (.c (.bool true)))⟩])
  (.ret))
 (.skip)))
 (.seq (.ops [⟨(some 8), some undefA, none, false, .pu (.mov (.c (.int .i64 0)))⟩])
 (.seq (.seq (.ops [⟨(some 18), some undefA, none, false, .pu (.mov (.s 0))⟩,
   ⟨(some 19), some undefA, none, false, .pu (.len (.s 18))⟩,
   ⟨(some 20), some undefA, none, false, .pu (.mov (.c (.int .i64 0)))⟩])
 (.block 0 (.loop (.seq (.ops [⟨(some 21), some undefA, none, false, .pu (.bin .lss (.s 20) (.s 19))⟩])
   (.seq (.cond (.s 21) (.skip)
   (.exit 0))
   (.seq (.block 1 (.seq (.ops [⟨(some 22), some undefA, none, false, .pu (.idx 2 (.s 18) (.s 20))⟩,
      ⟨(some 23), some undefA, none, false, .ld (.ld 2 true (.s 22))⟩,
      ⟨(some 10), some (.junk), none, false, .pu (.bnew (.c (.agg [.int .i64 0, .int .i64 0])))⟩,
      ⟨(some 10), none, none, false, .pu (.bset none 10 0 2 (.s 23))⟩])
    (.seq (.ops [⟨(some 24), some undefA, none, false, .pu (.bget none 4 0 2 true)⟩,
      ⟨(some 25), some undefA, none, false, .pu (.mov (.s 8))⟩,
      ⟨(some 26), some undefA, none, false, .call 78 [(.s 25)]⟩,
      ⟨(some 27), some undefA, none, false, .call 107 [(.s 24), (.s 26)]⟩,
      ⟨(some 28), some undefA, none, false, .pu (.mov (.s 8))⟩,
      ⟨(some 29), some undefA, none, false, .pu (.badr none 10)⟩,
      ⟨(some 30), some undefA, none, false, .pu (.bget (some 29) 10 0 1 false)⟩,
      ⟨(some 31), some undefA, none, false, .pu (.bin .add (.s 28) (.s 30))⟩,
      ⟨(some 32), some undefA, none, false, .call 78 [(.s 31)]⟩,
      ⟨(some 11), some (.junk), none, false, .pu (.bnew (.c (.agg [.int .i64 0, .int .i64 0])))⟩,
      ⟨(some 12), some (.junk), none, false, .pu (.bnew (.c (.agg [.int .i64 0, .int .i64 0])))⟩,
      ⟨(some 11), none, none, false, .pu (.bset none 11 0 2 (.s 27))⟩,
      ⟨(some 12), none, none, false, .pu (.bset none 12 0 2 (.s 32))⟩])
    (.seq (.ops [⟨(some 33), some undefA, none, false, .pu (.mov (.s 8))⟩,
      ⟨(some 34), some undefA, none, false, .pu (.badr none 10)⟩,
      ⟨(some 35), some undefA, none, false, .pu (.bget (some 34) 10 0 1 false)⟩,
      ⟨(some 36), some undefA, none, false, .pu (.bin .add (.s 33) (.s 35))⟩,
      ⟨(some 8), some undefA, none, false, .pu (.mov (.s 36))⟩])
    (.seq (.seq (.ops [⟨(some 37), some undefA, none, false, .pu (.bget none 11 0 2 true)⟩,
      ⟨(some 38), some undefA, none, false, .pu (.bget none 12 0 2 true)⟩,
      ⟨(some 39), some undefA, none, false, .call 72 [(.s 37), (.s 38)]⟩,
      ⟨(some 40), some undefA, none, false, .pu (.bin .geq (.s 39) (.c (.int .i64 0)))⟩])
    (.cond (.s 40) (.exit 1)
    (.skip)))
    (.seq (.ops [⟨(some 41), some undefA, none, false, .pu (.bget none 12 0 2 true)⟩,
      ⟨(some 42), some undefA, none, false, .pu (.bget none 11 0 2 true)⟩,
      ⟨(some 43), some undefA, none, false, .call 106 [(.s 41), (.s 42)]⟩,
      ⟨(some 44), some undefA, none, false, .pu (.badr none 10)⟩,
      ⟨(some 45), some undefA, none, false, .pu (.bget (some 44) 10 1 1 false)⟩,
      ⟨(some 46), some undefA, none, false, .call 110 [(.s 43), (.s 45)]⟩,
      ⟨(some 13), some (.junk), none, false, .pu (.bnew (.c (.agg [.int .i64 0, .int .i64 0])))⟩,
      ⟨(some 13), none, none, false, .pu (.bset none 13 0 2 (.s 46))⟩])
    (.seq (.seq (.ops [⟨(some 47), some undefA, none, false, .pu (.bget none 13 0 2 true)⟩,
      ⟨(some 48), some undefA, none, false, .pu (.bget none 5 0 2 true)⟩,
      ⟨(some 49), some undefA, none, false, .call 72 [(.s 47), (.s 48)]⟩,
      ⟨(some 50), some undefA, none, false, .pu (.bin .geq (.s 49) (.c (.int .i64 0)))⟩])
    (.cond (.s 50) (.seq (.ops [⟨(some 51), some undefA, none, false, .pu (.bget none 11 0 2 true)⟩,
       ⟨(some 52), some undefA, none, false, .pu (.bget none 5 0 2 true)⟩,
       ⟨(some 53), some undefA, none, false, .pu (.badr none 10)⟩,
       ⟨(some 54), some undefA, none, false, .pu (.bget (some 53) 10 1 1 false)⟩,
       ⟨(some 55), some undefA, none, false, .call 112 [(.s 52), (.s 54)]⟩,
       ⟨(some 56), some undefA, none, false, .call 109 [(.s 51), (.s 55)]⟩,
       ⟨(some 6), none, none, false, .pu (.bset none 6 0 2 (.s 56))⟩,
       ⟨(some 7), some undefA, none, false, .pu (.mov (.c (.bool true)))⟩])
     (.ret))
    (.skip)))
    (.ops [⟨(some 57), some undefA, none, false, .pu (.bget none 5 0 2 true)⟩,
      ⟨(some 58), some undefA, none, false, .pu (.bget none 13 0 2 true)⟩,
      ⟨(some 59), some undefA, none, false, .call 106 [(.s 57), (.s 58)]⟩,
      ⟨(some 5), none, none, false, .pu (.bset none 5 0 2 (.s 59))⟩]))))))))
   (.ops [⟨(some 60), some undefA, none, false, .pu (.bin .add (.s 20) (.c (.int .i64 1)))⟩,
     ⟨(some 20), some undefA, none, false, .pu (.mov (.s 60))⟩])))))))
 (.seq (.ops [⟨(some 61), some undefA, none, false, .pu (.build [.int .i64 0, .int .i64 0] [])⟩,
   ⟨(some 6), none, none, false, .pu (.bset none 6 0 2 (.s 61))⟩,
   ⟨(some 7), some undefA, none, false, .pu (.mov (.c (.bool false)))⟩])
 (.ret)))))⟩
theorem t80 : trF Try.prog [4, 5, 6, 10, 11, 12, 13] [] Try.f80 = some m80 := by kernel_rfl

/-- selion/selionref02.IsValid [] -/
def m81 : MFun := ⟨17, [2], [.mov (.s 4)],
 .seq (.ops [⟨(some 2), some (.junk), none, false, .pu (.bnew (.s 0))⟩,
   ⟨(some 4), some undefA, none, false, .pu (.mov (.c (.bool false)))⟩])
 (.seq (.ops [⟨(some 5), some undefA, none, false, .pu (.badr none 2)⟩,
   ⟨(some 6), some undefA, none, false, .pu (.bget (some 5) 2 1 1 false)⟩,
   ⟨(some 7), some undefA, none, false, .pu (.mov (.s 1))⟩,
   ⟨(some 8), some undefA, none, false, .call 66 [(.s 6), (.c (.int .i64 1)), (.s 7)]⟩,
   ⟨(some 9), some undefA, none, false, .pu (.mov (.s 8))⟩,
   ⟨(some 10), some undefA, (some (9, true)), false, .pu (.badr none 2)⟩,
   ⟨(some 11), some undefA, (some (9, true)), false, .pu (.bget (some 10) 2 0 1 false)⟩,
   ⟨(some 12), some undefA, (some (9, true)), false, .pu (.badr none 2)⟩,
   ⟨(some 13), some undefA, (some (9, true)), false, .pu (.bget (some 12) 2 1 1 false)⟩,
   ⟨(some 14), some undefA, (some (9, true)), false, .call 76 [(.s 11), (.s 13)]⟩,
   ⟨(some 15), some undefA, (some (9, true)), false, .pu (.bin .eql (.s 14) (.c (.int .i64 1)))⟩,
   ⟨(some 16), some undefA, none, false, .pu (.pick (.s 9) (.s 15) (.c (.bool false)))⟩,
   ⟨(some 4), some undefA, none, false, .pu (.mov (.s 16))⟩])
 (.ret))⟩
theorem t81 : trF Try.prog [2] [] Try.f81 = some m81 := by kernel_rfl

/-- selion/soil.values [loop [3, 6, 7, 8]] -/
def m83 : MFun := ⟨22, [5], [.mov (.s 2)],
 .seq (.ops [⟨(some 2), some undefA, none, false, .pu (.mov (.c (.nilS)))⟩])
 (.seq (.ops [⟨(some 3), some undefA, none, false, .pu (.mov (.c (.nilS)))⟩])
 (.seq (.seq (.ops [⟨(some 6), some undefA, none, false, .pu (.mov (.s 0))⟩,
   ⟨(some 7), some undefA, none, false, .pu (.len (.s 6))⟩,
   ⟨(some 8), some undefA, none, false, .pu (.mov (.c (.int .i64 0)))⟩])
 (.block 0 (.loop (.seq (.ops [⟨(some 9), some undefA, none, false, .pu (.bin .lss (.s 8) (.s 7))⟩])
   (.seq (.cond (.s 9) (.skip)
   (.exit 0))
   (.seq (.block 1 (.seq (.ops [⟨(some 10), some undefA, none, false, .pu (.idx 2 (.s 6) (.s 8))⟩,
      ⟨(some 11), some undefA, none, false, .ld (.ld 2 true (.s 10))⟩,
      ⟨(some 5), some (.junk), none, false, .pu (.bnew (.c (.agg [.int .i64 0, .int .i64 0])))⟩,
      ⟨(some 5), none, none, false, .pu (.bset none 5 0 2 (.s 11))⟩])
    (.ops [⟨(some 12), some undefA, none, false, .pu (.mov (.s 3))⟩,
      ⟨(some 13), some undefA, none, false, .pu (.badr none 5)⟩,
      ⟨(some 14), some undefA, none, false, .pu (.bget (some 13) 5 1 1 false)⟩,
      ⟨(some 15), some undefA, none, false, .ha (.blds 1 1 [.int .i64 0] [(0, 1, (.s 14))])⟩,
      ⟨(some 16), some undefA, none, false, .pu (.badr none 5)⟩,
      ⟨(some 17), some undefA, none, false, .pu (.bget (some 16) 5 0 1 false)⟩,
      ⟨(some 18), some undefA, none, false, .call 114 [(.s 15), (.s 17)]⟩,
      ⟨(some 19), some undefA, none, false, .ha (.app 1 (.s 12) (.s 18))⟩,
      ⟨(some 3), some undefA, none, false, .pu (.mov (.s 19))⟩])))
   (.ops [⟨(some 20), some undefA, none, false, .pu (.bin .add (.s 8) (.c (.int .i64 1)))⟩,
     ⟨(some 8), some undefA, none, false, .pu (.mov (.s 20))⟩])))))))
 (.seq (.ops [⟨(some 21), some undefA, none, false, .pu (.mov (.s 3))⟩,
   ⟨(some 2), some undefA, none, false, .pu (.mov (.s 21))⟩])
 (.ret))))⟩
theorem t83 : trF Try.prog [5] [] Try.f83 = some m83 := by kernel_rfl

/-- selion/selionref02.IsPlace [] -/
def m99 : MFun := ⟨26, [3], [.mov (.s 4)],
 .seq (.ops [⟨(some 3), some (.junk), none, false, .pu (.bnew (.s 1))⟩,
   ⟨(some 4), some undefA, none, false, .pu (.mov (.c (.bool false)))⟩])
 (.seq (.ops [⟨(some 5), some undefA, none, false, .pu (.badr none 3)⟩,
   ⟨(some 6), some undefA, none, false, .pu (.bget (some 5) 3 0 1 false)⟩,
   ⟨(some 7), some undefA, none, false, .pu (.bin .geq (.s 6) (.c (.int .i64 0)))⟩,
   ⟨(some 8), some undefA, none, false, .pu (.mov (.s 7))⟩,
   ⟨(some 9), some undefA, (some (8, true)), false, .pu (.badr none 3)⟩,
   ⟨(some 10), some undefA, (some (8, true)), false, .pu (.bget (some 9) 3 0 1 false)⟩,
   ⟨(some 11), some undefA, (some (8, true)), false, .pu (.badr none 3)⟩,
   ⟨(some 12), some undefA, (some (8, true)), false, .pu (.bget (some 11) 3 1 1 false)⟩,
   ⟨(some 13), some undefA, (some (8, true)), false, .pu (.bin .quo (.s 10) (.s 12))⟩,
   ⟨(some 14), some undefA, (some (8, true)), false, .pu (.mov (.s 0))⟩,
   ⟨(some 15), some undefA, (some (8, true)), false, .pu (.len (.s 14))⟩,
   ⟨(some 16), some undefA, (some (8, true)), false, .pu (.bin .leq (.s 13) (.s 15))⟩,
   ⟨(some 17), some undefA, none, false, .pu (.pick (.s 8) (.s 16) (.c (.bool false)))⟩,
   ⟨(some 18), some undefA, none, false, .pu (.mov (.s 17))⟩,
   ⟨(some 19), some undefA, (some (18, true)), false, .pu (.mov (.s 0))⟩,
   ⟨(some 20), some undefA, (some (18, true)), false, .pu (.len (.s 19))⟩,
   ⟨(some 21), some undefA, (some (18, true)), false, .call 30 [(.s 20)]⟩,
   ⟨(some 22), some undefA, (some (18, true)), false, .pu (.bget none 3 0 2 true)⟩,
   ⟨(some 23), some undefA, (some (18, true)), false, .call 24 [(.s 21), (.s 22)]⟩,
   ⟨(some 24), some undefA, (some (18, true)), false, .pu (.not (.s 23))⟩,
   ⟨(some 25), some undefA, none, false, .pu (.pick (.s 18) (.s 24) (.c (.bool false)))⟩,
   ⟨(some 4), some undefA, none, false, .pu (.mov (.s 25))⟩])
 (.ret))⟩
theorem t99 : trF Try.prog [3] [] Try.f99 = some m99 := by kernel_rfl

/-- math/bits.Mul [] -/
def m100 : MFun := ⟨30, [], [.mov (.s 4), .mov (.s 5)],
 .seq (.ops [⟨(some 4), some undefA, none, false, .pu (.mov (.c (.int .u64 0)))⟩,
   ⟨(some 5), some undefA, none, false, .pu (.mov (.c (.int .u64 0)))⟩])
 (.seq (.cond (.c (.bool false)) (.seq (.ops [⟨(some 11), some undefA, none, false, .pu (.mov (.s 0))⟩,
    ⟨(some 12), some undefA, none, false, .pu (.conv .u32 (.s 11))⟩,
    ⟨(some 13), some undefA, none, false, .pu (.mov (.s 1))⟩,
    ⟨(some 14), some undefA, none, false, .pu (.conv .u32 (.s 13))⟩,
    ⟨(some 15), some undefA, none, false, .call 118 [(.s 12), (.s 14)]⟩,
    ⟨(some 10), some undefA, none, false, .pu (.mov (.s 15))⟩,
    ⟨(some 16), some undefA, none, false, .pu (.extr 0 (.s 10))⟩,
    ⟨(some 17), some undefA, none, false, .pu (.extr 1 (.s 10))⟩,
    ⟨(some 6), some undefA, none, false, .pu (.mov (.s 16))⟩,
    ⟨(some 7), some undefA, none, false, .pu (.mov (.s 17))⟩])
  (.seq (.ops [⟨(some 18), some undefA, none, false, .pu (.mov (.s 6))⟩,
    ⟨(some 19), some undefA, none, false, .pu (.conv .u64 (.s 18))⟩,
    ⟨(some 20), some undefA, none, false, .pu (.mov (.s 7))⟩,
    ⟨(some 21), some undefA, none, false, .pu (.conv .u64 (.s 20))⟩,
    ⟨(some 4), some undefA, none, false, .pu (.mov (.s 19))⟩,
    ⟨(some 5), some undefA, none, false, .pu (.mov (.s 21))⟩])
  (.ret)))
 (.skip))
 (.seq (.ops [⟨(some 23), some undefA, none, false, .pu (.mov (.s 0))⟩,
   ⟨(some 24), some undefA, none, false, .pu (.mov (.s 1))⟩,
   ⟨(some 25), some undefA, none, false, .call 119 [(.s 23), (.s 24)]⟩,
   ⟨(some 22), some undefA, none, false, .pu (.mov (.s 25))⟩,
   ⟨(some 26), some undefA, none, false, .pu (.extr 0 (.s 22))⟩,
   ⟨(some 27), some undefA, none, false, .pu (.extr 1 (.s 22))⟩,
   ⟨(some 8), some undefA, none, false, .pu (.mov (.s 26))⟩,
   ⟨(some 9), some undefA, none, false, .pu (.mov (.s 27))⟩])
 (.seq (.ops [⟨(some 28), some undefA, none, false, .pu (.mov (.s 8))⟩,
   ⟨(some 29), some undefA, none, false, .pu (.mov (.s 9))⟩,
   ⟨(some 4), some undefA, none, false, .pu (.mov (.s 28))⟩,
   ⟨(some 5), some undefA, none, false, .pu (.mov (.s 29))⟩])
 (.ret))))⟩
theorem t100 : trF Try.prog [] [] Try.f100 = some m100 := by kernel_rfl

/-- selion/frac.divisor [loop [0, 1]] -/
def m101 : MFun := ⟨15, [], [.mov (.s 4)],
 .seq (.ops [⟨(some 4), some undefA, none, false, .pu (.mov (.c (.int .i64 0)))⟩])
 (.seq (.block 0 (.loop (.seq (.seq (.ops [⟨(some 5), some undefA, none, false, .pu (.mov (.s 1))⟩,
     ⟨(some 6), some undefA, none, false, .pu (.bin .neq (.s 5) (.c (.int .i64 0)))⟩])
   (.cond (.s 6) (.skip)
   (.exit 0)))
   (.block 1 (.ops [⟨(some 7), some undefA, none, false, .pu (.mov (.s 1))⟩,
      ⟨(some 8), some undefA, none, false, .pu (.mov (.s 0))⟩,
      ⟨(some 9), some undefA, none, false, .pu (.mov (.s 1))⟩,
      ⟨(some 10), some undefA, none, false, .pu (.bin .rem (.s 8) (.s 9))⟩,
      ⟨(some 0), some undefA, none, false, .pu (.mov (.s 7))⟩,
      ⟨(some 1), some undefA, none, false, .pu (.mov (.s 10))⟩])))))
 (.seq (.ops [⟨(some 11), some undefA, none, false, .pu (.mov (.s 0))⟩,
   ⟨(some 12), some undefA, none, false, .pu (.mov (.s 0))⟩,
   ⟨(some 13), some undefA, none, false, .pu (.neg (.s 12))⟩,
   ⟨(some 14), some undefA, none, false, .pu (.mm true (.s 11) [(.s 13)])⟩,
   ⟨(some 4), some undefA, none, false, .pu (.mov (.s 14))⟩])
 (.ret)))⟩
theorem t101 : trF Try.prog [] [] Try.f101 = some m101 := by kernel_rfl

/-- selion/soil.sum [loop [1, 5, 8, 9, 10]] -/
def m102 : MFun := ⟨21, [7], [.mov (.s 4)],
 .seq (.ops [⟨(some 4), some undefA, none, false, .pu (.mov (.c (.int .i64 0)))⟩])
 (.seq (.ops [⟨(some 5), some undefA, none, false, .pu (.mov (.c (.int .i64 0)))⟩])
 (.seq (.seq (.ops [⟨(some 8), some undefA, none, false, .pu (.mov (.s 0))⟩,
   ⟨(some 9), some undefA, none, false, .pu (.len (.s 8))⟩,
   ⟨(some 10), some undefA, none, false, .pu (.mov (.c (.int .i64 0)))⟩])
 (.block 0 (.loop (.seq (.ops [⟨(some 11), some undefA, none, false, .pu (.bin .lss (.s 10) (.s 9))⟩])
   (.seq (.cond (.s 11) (.skip)
   (.exit 0))
   (.seq (.block 1 (.seq (.ops [⟨(some 12), some undefA, none, false, .pu (.idx 2 (.s 8) (.s 10))⟩,
      ⟨(some 13), some undefA, none, false, .ld (.ld 2 true (.s 12))⟩,
      ⟨(some 7), some (.junk), none, false, .pu (.bnew (.c (.agg [.int .i64 0, .int .i64 0])))⟩,
      ⟨(some 7), none, none, false, .pu (.bset none 7 0 2 (.s 13))⟩])
    (.ops [⟨(some 14), some undefA, none, false, .pu (.mov (.s 5))⟩,
      ⟨(some 15), some undefA, none, false, .pu (.mov (.s 1))⟩,
      ⟨(some 16), some undefA, none, false, .pu (.bget none 7 0 2 true)⟩,
      ⟨(some 17), some undefA, none, false, .callv (.s 15) [(.s 16)]⟩,
      ⟨(some 18), some undefA, none, false, .pu (.bin .add (.s 14) (.s 17))⟩,
      ⟨(some 5), some undefA, none, false, .pu (.mov (.s 18))⟩])))
   (.ops [⟨(some 19), some undefA, none, false, .pu (.bin .add (.s 10) (.c (.int .i64 1)))⟩,
     ⟨(some 10), some undefA, none, false, .pu (.mov (.s 19))⟩])))))))
 (.seq (.ops [⟨(some 20), some undefA, none, false, .pu (.mov (.s 5))⟩,
   ⟨(some 4), some undefA, none, false, .pu (.mov (.s 20))⟩])
 (.ret))))⟩
theorem t102 : trF Try.prog [7] [] Try.f102 = some m102 := by kernel_rfl

/-- (selion/soil.zone).worth [] -/
def m103 : MFun := ⟨8, [1], [.mov (.s 2)],
 .seq (.ops [⟨(some 1), some (.junk), none, false, .pu (.bnew (.s 0))⟩,
   ⟨(some 2), some undefA, none, false, .pu (.mov (.c (.int .i64 0)))⟩])
 (.seq (.ops [⟨(some 3), some undefA, none, false, .pu (.badr none 1)⟩,
   ⟨(some 4), some undefA, none, false, .pu (.bget (some 3) 1 0 1 false)⟩,
   ⟨(some 5), some undefA, none, false, .pu (.badr none 1)⟩,
   ⟨(some 6), some undefA, none, false, .pu (.bget (some 5) 1 1 1 false)⟩,
   ⟨(some 7), some undefA, none, false, .pu (.bin .mul (.s 4) (.s 6))⟩,
   ⟨(some 2), some undefA, none, false, .pu (.mov (.s 7))⟩])
 (.ret))⟩
theorem t103 : trF Try.prog [1] [] Try.f103 = some m103 := by kernel_rfl

/-- selion/selionref02.Before [loop [0, 3, 4, 5, 6, 7]] -/
def m104 : MFun := ⟨46, [3, 4], [.bget none 4 0 2 true],
 .seq (.ops [⟨(some 3), some (.junk), none, false, .pu (.bnew (.s 1))⟩,
   ⟨(some 4), some (.junk), none, false, .pu (.bnew (.c (.agg [.int .i64 0, .int .i64 0])))⟩])
 (.seq (.ops [⟨(some 8), some undefA, none, false, .pu (.badr none 3)⟩,
   ⟨(some 9), some undefA, none, false, .pu (.bget (some 8) 3 0 1 false)⟩,
   ⟨(some 10), some undefA, none, false, .pu (.badr none 3)⟩,
   ⟨(some 11), some undefA, none, false, .pu (.bget (some 10) 3 1 1 false)⟩,
   ⟨(some 12), some undefA, none, false, .pu (.bin .quo (.s 9) (.s 11))⟩,
   ⟨(some 5), some undefA, none, false, .pu (.mov (.s 12))⟩])
 (.seq (.ops [⟨(some 6), some undefA, none, false, .pu (.mov (.c (.int .i64 0)))⟩])
 (.seq (.seq (.ops [⟨(some 7), some undefA, none, false, .pu (.mov (.c (.int .i64 0)))⟩])
 (.block 0 (.loop (.seq (.seq (.ops [⟨(some 13), some undefA, none, false, .pu (.mov (.s 7))⟩,
     ⟨(some 14), some undefA, none, false, .pu (.mov (.s 5))⟩,
     ⟨(some 15), some undefA, none, false, .pu (.bin .lss (.s 13) (.s 14))⟩])
   (.cond (.s 15) (.skip)
   (.exit 0)))
   (.seq (.block 1 (.ops [⟨(some 18), some undefA, none, false, .pu (.mov (.s 6))⟩,
      ⟨(some 19), some undefA, none, false, .pu (.mov (.s 0))⟩,
      ⟨(some 20), some undefA, none, false, .pu (.mov (.s 7))⟩,
      ⟨(some 21), some undefA, none, false, .pu (.idx 1 (.s 19) (.s 20))⟩,
      ⟨(some 22), some undefA, none, false, .ld (.ld 1 false (.s 21))⟩,
      ⟨(some 23), some undefA, none, false, .pu (.bin .add (.s 18) (.s 22))⟩,
      ⟨(some 6), some undefA, none, false, .pu (.mov (.s 23))⟩]))
   (.ops [⟨(some 16), some undefA, none, false, .pu (.mov (.s 7))⟩,
     ⟨(some 17), some undefA, none, false, .pu (.bin .add (.s 16) (.c (.int .i64 1)))⟩,
     ⟨(some 7), some undefA, none, false, .pu (.mov (.s 17))⟩]))))))
 (.seq (.seq (.ops [⟨(some 24), some undefA, none, false, .pu (.mov (.s 5))⟩,
   ⟨(some 25), some undefA, none, false, .pu (.mov (.s 0))⟩,
   ⟨(some 26), some undefA, none, false, .pu (.len (.s 25))⟩,
   ⟨(some 27), some undefA, none, false, .pu (.bin .eql (.s 24) (.s 26))⟩])
 (.cond (.s 27) (.seq (.ops [⟨(some 28), some undefA, none, false, .pu (.mov (.s 6))⟩,
    ⟨(some 29), some undefA, none, false, .call 30 [(.s 28)]⟩,
    ⟨(some 4), none, none, false, .pu (.bset none 4 0 2 (.s 29))⟩])
  (.ret))
 (.skip)))
 (.seq (.ops [⟨(some 30), some undefA, none, true, .pu (.mov (.s 6))⟩,
   ⟨(some 31), some undefA, none, true, .call 30 [(.s 30)]⟩,
   ⟨(some 32), some undefA, none, false, .pu (.mov (.s 0))⟩,
   ⟨(some 33), some undefA, none, false, .pu (.mov (.s 5))⟩,
   ⟨(some 34), some undefA, none, false, .pu (.idx 1 (.s 32) (.s 33))⟩,
   ⟨(some 35), some undefA, none, true, .ld (.ld 1 false (.s 34))⟩,
   ⟨(some 36), some undefA, none, true, .pu (.badr none 3)⟩,
   ⟨(some 37), some undefA, none, true, .pu (.bget (some 36) 3 0 1 false)⟩,
   ⟨(some 38), some undefA, none, true, .pu (.badr none 3)⟩,
   ⟨(some 39), some undefA, none, true, .pu (.bget (some 38) 3 1 1 false)⟩,
   ⟨(some 40), some undefA, none, true, .pu (.bin .rem (.s 37) (.s 39))⟩,
   ⟨(some 41), some undefA, none, true, .pu (.badr none 3)⟩,
   ⟨(some 42), some undefA, none, true, .pu (.bget (some 41) 3 1 1 false)⟩,
   ⟨(some 43), some undefA, none, true, .call 69 [(.s 40), (.s 42)]⟩,
   ⟨(some 44), some undefA, none, false, .call 120 [(.s 35), (.s 43)]⟩,
   ⟨(some 45), some undefA, none, false, .call 27 [(.s 31), (.s 44)]⟩,
   ⟨(some 4), none, none, false, .pu (.bset none 4 0 2 (.s 45))⟩])
 (.ret))))))⟩
theorem t104 : trF Try.prog [3, 4] [] Try.f104 = some m104 := by kernel_rfl

/-- selion/selionref02.Over [] -/
def m105 : MFun := ⟨24, [2, 4], [.bget none 4 0 2 true],
 .seq (.ops [⟨(some 2), some (.junk), none, false, .pu (.bnew (.s 0))⟩,
   ⟨(some 4), some (.junk), none, false, .pu (.bnew (.c (.agg [.int .i64 0, .int .i64 0])))⟩])
 (.seq (.ops [⟨(some 6), some undefA, none, false, .pu (.badr none 2)⟩,
   ⟨(some 7), some undefA, none, false, .pu (.bget (some 6) 2 0 1 false)⟩,
   ⟨(some 8), some undefA, none, false, .pu (.mov (.s 1))⟩,
   ⟨(some 9), some undefA, none, false, .call 76 [(.s 7), (.s 8)]⟩,
   ⟨(some 5), some undefA, none, false, .pu (.mov (.s 9))⟩])
 (.seq (.seq (.ops [⟨(some 10), some undefA, none, false, .pu (.mov (.s 5))⟩,
   ⟨(some 11), some undefA, none, false, .pu (.bin .eql (.s 10) (.c (.int .i64 0)))⟩])
 (.cond (.s 11) (.seq (.ops [⟨(some 12), some undefA, none, false, .pu (.bget none 2 0 2 true)⟩,
    ⟨(some 4), none, none, false, .pu (.bset none 4 0 2 (.s 12))⟩])
  (.ret))
 (.skip)))
 (.seq (.ops [⟨(some 13), some undefA, none, false, .pu (.badr none 2)⟩,
   ⟨(some 14), some undefA, none, false, .pu (.bget (some 13) 2 0 1 false)⟩,
   ⟨(some 15), some undefA, none, false, .pu (.mov (.s 5))⟩,
   ⟨(some 16), some undefA, none, false, .pu (.bin .quo (.s 14) (.s 15))⟩,
   ⟨(some 17), some undefA, none, false, .pu (.badr none 2)⟩,
   ⟨(some 18), some undefA, none, false, .pu (.bget (some 17) 2 1 1 false)⟩,
   ⟨(some 19), some undefA, none, false, .pu (.mov (.s 1))⟩,
   ⟨(some 20), some undefA, none, false, .pu (.mov (.s 5))⟩,
   ⟨(some 21), some undefA, none, false, .pu (.bin .quo (.s 19) (.s 20))⟩,
   ⟨(some 22), some undefA, none, false, .pu (.bin .mul (.s 18) (.s 21))⟩,
   ⟨(some 23), some undefA, none, false, .call 69 [(.s 16), (.s 22)]⟩,
   ⟨(some 4), none, none, false, .pu (.bset none 4 0 2 (.s 23))⟩])
 (.ret))))⟩
theorem t105 : trF Try.prog [2, 4] [] Try.f105 = some m105 := by kernel_rfl

/-- selion/frac.Sub [] -/
def m106 : MFun := ⟨13, [2, 3, 4], [.bget none 4 0 2 true],
 .seq (.ops [⟨(some 2), some (.junk), none, false, .pu (.bnew (.s 0))⟩,
   ⟨(some 3), some (.junk), none, false, .pu (.bnew (.s 1))⟩,
   ⟨(some 4), some (.junk), none, false, .pu (.bnew (.c (.agg [.int .i64 0, .int .i64 0])))⟩])
 (.seq (.ops [⟨(some 5), some undefA, none, false, .pu (.bget none 2 0 2 true)⟩,
   ⟨(some 6), some undefA, none, false, .pu (.badr none 3)⟩,
   ⟨(some 7), some undefA, none, false, .pu (.bget (some 6) 3 0 1 false)⟩,
   ⟨(some 8), some undefA, none, false, .pu (.neg (.s 7))⟩,
   ⟨(some 9), some undefA, none, false, .pu (.badr none 3)⟩,
   ⟨(some 10), some undefA, none, false, .pu (.bget (some 9) 3 1 1 false)⟩,
   ⟨(some 11), some undefA, none, false, .pu (.build [.int .i64 0, .int .i64 0] [(0, 1, (.s 8)), (1, 1, (.s 10))])⟩,
   ⟨(some 12), some undefA, none, false, .call 109 [(.s 5), (.s 11)]⟩,
   ⟨(some 4), none, none, false, .pu (.bset none 4 0 2 (.s 12))⟩])
 (.ret))⟩
theorem t106 : trF Try.prog [2, 3, 4] [] Try.f106 = some m106 := by kernel_rfl

/-- selion/frac.Max [] -/
def m107 : MFun := ⟨11, [2, 3, 4], [.bget none 4 0 2 true],
 .seq (.ops [⟨(some 2), some (.junk), none, false, .pu (.bnew (.s 0))⟩,
   ⟨(some 3), some (.junk), none, false, .pu (.bnew (.s 1))⟩,
   ⟨(some 4), some (.junk), none, false, .pu (.bnew (.c (.agg [.int .i64 0, .int .i64 0])))⟩])
 (.seq (.seq (.ops [⟨(some 5), some undefA, none, false, .pu (.bget none 2 0 2 true)⟩,
   ⟨(some 6), some undefA, none, false, .pu (.bget none 3 0 2 true)⟩,
   ⟨(some 7), some undefA, none, false, .call 72 [(.s 5), (.s 6)]⟩,
   ⟨(some 8), some undefA, none, false, .pu (.bin .gtr (.s 7) (.c (.int .i64 0)))⟩])
 (.cond (.s 8) (.seq (.ops [⟨(some 9), some undefA, none, false, .pu (.bget none 2 0 2 true)⟩,
    ⟨(some 4), none, none, false, .pu (.bset none 4 0 2 (.s 9))⟩])
  (.ret))
 (.skip)))
 (.seq (.ops [⟨(some 10), some undefA, none, false, .pu (.bget none 3 0 2 true)⟩,
   ⟨(some 4), none, none, false, .pu (.bset none 4 0 2 (.s 10))⟩])
 (.ret)))⟩
theorem t107 : trF Try.prog [2, 3, 4] [] Try.f107 = some m107 := by kernel_rfl

/-- selion/frac.Min [] -/
def m108 : MFun := ⟨11, [2, 3, 4], [.bget none 4 0 2 true],
 .seq (.ops [⟨(some 2), some (.junk), none, false, .pu (.bnew (.s 0))⟩,
   ⟨(some 3), some (.junk), none, false, .pu (.bnew (.s 1))⟩,
   ⟨(some 4), some (.junk), none, false, .pu (.bnew (.c (.agg [.int .i64 0, .int .i64 0])))⟩])
 (.seq (.seq (.ops [⟨(some 5), some undefA, none, false, .pu (.bget none 2 0 2 true)⟩,
   ⟨(some 6), some undefA, none, false, .pu (.bget none 3 0 2 true)⟩,
   ⟨(some 7), some undefA, none, false, .call 72 [(.s 5), (.s 6)]⟩,
   ⟨(some 8), some undefA, none, false, .pu (.bin .lss (.s 7) (.c (.int .i64 0)))⟩])
 (.cond (.s 8) (.seq (.ops [⟨(some 9), some undefA, none, false, .pu (.bget none 2 0 2 true)⟩,
    ⟨(some 4), none, none, false, .pu (.bset none 4 0 2 (.s 9))⟩])
  (.ret))
 (.skip)))
 (.seq (.ops [⟨(some 10), some undefA, none, false, .pu (.bget none 3 0 2 true)⟩,
   ⟨(some 4), none, none, false, .pu (.bset none 4 0 2 (.s 10))⟩])
 (.ret)))⟩
theorem t108 : trF Try.prog [2, 3, 4] [] Try.f108 = some m108 := by kernel_rfl

/-- selion/frac.Add [] -/
def m109 : MFun := ⟨34, [2, 3, 4], [.bget none 4 0 2 true],
 .seq (.ops [⟨(some 2), some (.junk), none, false, .pu (.bnew (.s 0))⟩,
   ⟨(some 3), some (.junk), none, false, .pu (.bnew (.s 1))⟩,
   ⟨(some 4), some (.junk), none, false, .pu (.bnew (.c (.agg [.int .i64 0, .int .i64 0])))⟩])
 (.seq (.ops [⟨(some 6), some undefA, none, false, .pu (.badr none 2)⟩,
   ⟨(some 7), some undefA, none, false, .pu (.bget (some 6) 2 1 1 false)⟩,
   ⟨(some 8), some undefA, none, false, .pu (.badr none 3)⟩,
   ⟨(some 9), some undefA, none, false, .pu (.bget (some 8) 3 1 1 false)⟩,
   ⟨(some 10), some undefA, none, false, .call 101 [(.s 7), (.s 9)]⟩,
   ⟨(some 5), some undefA, none, false, .pu (.mov (.s 10))⟩])
 (.seq (.ops [⟨(some 11), some undefA, none, false, .pu (.badr none 2)⟩,
   ⟨(some 12), some undefA, none, false, .pu (.bget (some 11) 2 0 1 false)⟩,
   ⟨(some 13), some undefA, none, false, .pu (.badr none 3)⟩,
   ⟨(some 14), some undefA, none, false, .pu (.bget (some 13) 3 1 1 false)⟩,
   ⟨(some 15), some undefA, none, false, .pu (.mov (.s 5))⟩,
   ⟨(some 16), some undefA, none, false, .pu (.bin .quo (.s 14) (.s 15))⟩,
   ⟨(some 17), some undefA, none, false, .pu (.bin .mul (.s 12) (.s 16))⟩,
   ⟨(some 18), some undefA, none, false, .pu (.badr none 3)⟩,
   ⟨(some 19), some undefA, none, false, .pu (.bget (some 18) 3 0 1 false)⟩,
   ⟨(some 20), some undefA, none, false, .pu (.badr none 2)⟩,
   ⟨(some 21), some undefA, none, false, .pu (.bget (some 20) 2 1 1 false)⟩,
   ⟨(some 22), some undefA, none, false, .pu (.mov (.s 5))⟩,
   ⟨(some 23), some undefA, none, false, .pu (.bin .quo (.s 21) (.s 22))⟩,
   ⟨(some 24), some undefA, none, false, .pu (.bin .mul (.s 19) (.s 23))⟩,
   ⟨(some 25), some undefA, none, false, .pu (.bin .add (.s 17) (.s 24))⟩,
   ⟨(some 26), some undefA, none, false, .pu (.badr none 2)⟩,
   ⟨(some 27), some undefA, none, false, .pu (.bget (some 26) 2 1 1 false)⟩,
   ⟨(some 28), some undefA, none, false, .pu (.mov (.s 5))⟩,
   ⟨(some 29), some undefA, none, false, .pu (.bin .quo (.s 27) (.s 28))⟩,
   ⟨(some 30), some undefA, none, false, .pu (.badr none 3)⟩,
   ⟨(some 31), some undefA, none, false, .pu (.bget (some 30) 3 1 1 false)⟩,
   ⟨(some 32), some undefA, none, false, .pu (.bin .mul (.s 29) (.s 31))⟩,
   ⟨(some 33), some undefA, none, false, .call 64 [(.s 25), (.s 32)]⟩,
   ⟨(some 4), none, none, false, .pu (.bset none 4 0 2 (.s 33))⟩])
 (.ret)))⟩
theorem t109 : trF Try.prog [2, 3, 4] [] Try.f109 = some m109 := by kernel_rfl

/-- selion/frac.Mul [] -/
def m110 : MFun := ⟨18, [2, 4, 5], [.bget none 4 0 2 true],
 .seq (.ops [⟨(some 2), some (.junk), none, false, .pu (.bnew (.s 0))⟩,
   ⟨(some 4), some (.junk), none, false, .pu (.bnew (.c (.agg [.int .i64 0, .int .i64 0])))⟩])
 (.seq (.ops [⟨(some 6), some undefA, none, false, .pu (.mov (.s 1))⟩,
   ⟨(some 7), some undefA, none, false, .pu (.badr none 2)⟩,
   ⟨(some 8), some undefA, none, false, .pu (.bget (some 7) 2 1 1 false)⟩,
   ⟨(some 9), some undefA, none, false, .call 64 [(.s 6), (.s 8)]⟩,
   ⟨(some 5), some (.junk), none, false, .pu (.bnew (.c (.agg [.int .i64 0, .int .i64 0])))⟩,
   ⟨(some 5), none, none, false, .pu (.bset none 5 0 2 (.s 9))⟩])
 (.seq (.ops [⟨(some 10), some undefA, none, false, .pu (.badr none 2)⟩,
   ⟨(some 11), some undefA, none, false, .pu (.bget (some 10) 2 0 1 false)⟩,
   ⟨(some 12), some undefA, none, false, .pu (.badr none 5)⟩,
   ⟨(some 13), some undefA, none, false, .pu (.bget (some 12) 5 0 1 false)⟩,
   ⟨(some 14), some undefA, none, false, .pu (.bin .mul (.s 11) (.s 13))⟩,
   ⟨(some 15), some undefA, none, false, .pu (.badr none 5)⟩,
   ⟨(some 16), some undefA, none, false, .pu (.bget (some 15) 5 1 1 false)⟩,
   ⟨(some 17), some undefA, none, false, .call 64 [(.s 14), (.s 16)]⟩,
   ⟨(some 4), none, none, false, .pu (.bset none 4 0 2 (.s 17))⟩])
 (.ret)))⟩
theorem t110 : trF Try.prog [2, 4, 5] [] Try.f110 = some m110 := by kernel_rfl

/-- (selion/soil.zone).length [] -/
def m111 : MFun := ⟨5, [1], [.mov (.s 2)],
 .seq (.ops [⟨(some 1), some (.junk), none, false, .pu (.bnew (.s 0))⟩,
   ⟨(some 2), some undefA, none, false, .pu (.mov (.c (.int .i64 0)))⟩])
 (.seq (.ops [⟨(some 3), some undefA, none, false, .pu (.badr none 1)⟩,
   ⟨(some 4), some undefA, none, false, .pu (.bget (some 3) 1 0 1 false)⟩,
   ⟨(some 2), some undefA, none, false, .pu (.mov (.s 4))⟩])
 (.ret))⟩
theorem t111 : trF Try.prog [1] [] Try.f111 = some m111 := by kernel_rfl

/-- selion/frac.Div [] -/
def m112 : MFun := ⟨18, [2, 4, 5], [.bget none 4 0 2 true],
 .seq (.ops [⟨(some 2), some (.junk), none, false, .pu (.bnew (.s 0))⟩,
   ⟨(some 4), some (.junk), none, false, .pu (.bnew (.c (.agg [.int .i64 0, .int .i64 0])))⟩])
 (.seq (.ops [⟨(some 6), some undefA, none, false, .pu (.badr none 2)⟩,
   ⟨(some 7), some undefA, none, false, .pu (.bget (some 6) 2 0 1 false)⟩,
   ⟨(some 8), some undefA, none, false, .pu (.mov (.s 1))⟩,
   ⟨(some 9), some undefA, none, false, .call 64 [(.s 7), (.s 8)]⟩,
   ⟨(some 5), some (.junk), none, false, .pu (.bnew (.c (.agg [.int .i64 0, .int .i64 0])))⟩,
   ⟨(some 5), none, none, false, .pu (.bset none 5 0 2 (.s 9))⟩])
 (.seq (.ops [⟨(some 10), some undefA, none, false, .pu (.badr none 5)⟩,
   ⟨(some 11), some undefA, none, false, .pu (.bget (some 10) 5 0 1 false)⟩,
   ⟨(some 12), some undefA, none, false, .pu (.badr none 5)⟩,
   ⟨(some 13), some undefA, none, false, .pu (.bget (some 12) 5 1 1 false)⟩,
   ⟨(some 14), some undefA, none, false, .pu (.badr none 2)⟩,
   ⟨(some 15), some undefA, none, false, .pu (.bget (some 14) 2 1 1 false)⟩,
   ⟨(some 16), some undefA, none, false, .pu (.bin .mul (.s 13) (.s 15))⟩,
   ⟨(some 17), some undefA, none, false, .call 64 [(.s 11), (.s 16)]⟩,
   ⟨(some 4), none, none, false, .pu (.bset none 4 0 2 (.s 17))⟩])
 (.ret)))⟩
theorem t112 : trF Try.prog [2, 4, 5] [] Try.f112 = some m112 := by kernel_rfl

/-- cmp.Or[selion/api.Errno] [loop [3, 6, 7, 8]] -/
def m113 : MFun := ⟨18, [], [.mov (.s 2)],
 .seq (.ops [⟨(some 2), some undefA, none, false, .pu (.mov (.c (.int .i64 0)))⟩])
 (.seq (.ops [⟨(some 3), some undefA, none, false, .pu (.mov (.c (.int .i64 0)))⟩])
 (.seq (.seq (.ops [⟨(some 6), some undefA, none, false, .pu (.mov (.s 0))⟩,
   ⟨(some 7), some undefA, none, false, .pu (.len (.s 6))⟩,
   ⟨(some 8), some undefA, none, false, .pu (.mov (.c (.int .i64 0)))⟩])
 (.block 0 (.loop (.seq (.ops [⟨(some 9), some undefA, none, false, .pu (.bin .lss (.s 8) (.s 7))⟩])
   (.seq (.cond (.s 9) (.skip)
   (.exit 0))
   (.seq (.block 1 (.seq (.ops [⟨(some 10), some undefA, none, false, .pu (.idx 1 (.s 6) (.s 8))⟩,
      ⟨(some 11), some undefA, none, false, .ld (.ld 1 false (.s 10))⟩,
      ⟨(some 5), some undefA, none, false, .pu (.mov (.s 11))⟩])
    (.seq (.ops [⟨(some 12), some undefA, none, false, .pu (.mov (.s 5))⟩,
      ⟨(some 13), some undefA, none, false, .pu (.mov (.s 3))⟩,
      ⟨(some 14), some undefA, none, false, .pu (.bin .neq (.s 12) (.s 13))⟩])
    (.cond (.s 14) (.seq (.ops [⟨(some 15), some undefA, none, false, .pu (.mov (.s 5))⟩,
       ⟨(some 2), some undefA, none, false, .pu (.mov (.s 15))⟩])
     (.ret))
    (.skip)))))
   (.ops [⟨(some 16), some undefA, none, false, .pu (.bin .add (.s 8) (.c (.int .i64 1)))⟩,
     ⟨(some 8), some undefA, none, false, .pu (.mov (.s 16))⟩])))))))
 (.seq (.ops [⟨(some 17), some undefA, none, false, .pu (.mov (.s 3))⟩,
   ⟨(some 2), some undefA, none, false, .pu (.mov (.s 17))⟩])
 (.ret))))⟩
theorem t113 : trF Try.prog [] [] Try.f113 = some m113 := by kernel_rfl

/-- slices.Repeat[[]int,int] [loop [7, 8]] -/
def m114 : MFun := ⟨48, [], [.mov (.s 4)],
 .seq (.ops [⟨(some 4), some undefA, none, false, .pu (.mov (.c (.nilS)))⟩])
 (.seq (.seq (.ops [⟨(some 9), some undefA, none, false, .pu (.mov (.s 1))⟩,
   ⟨(some 10), some undefA, none, false, .pu (.bin .lss (.s 9) (.c (.int .i64 0)))⟩])
 (.cond (.s 10) (.ops [⟨(some 11), some undefA, none, false, .pu (.fail)⟩,
    ⟨none, some undefA, none, false, .pu (.fail)⟩])
 (.skip)))
 (.seq (.ops [⟨(some 13), some undefA, none, false, .pu (.mov (.s 0))⟩,
   ⟨(some 14), some undefA, none, false, .pu (.len (.s 13))⟩,
   ⟨(some 15), some undefA, none, false, .pu (.conv .u64 (.s 14))⟩,
   ⟨(some 16), some undefA, none, false, .pu (.mov (.s 1))⟩,
   ⟨(some 17), some undefA, none, false, .pu (.conv .u64 (.s 16))⟩,
   ⟨(some 18), some undefA, none, false, .call 100 [(.s 15), (.s 17)]⟩,
   ⟨(some 12), some undefA, none, false, .pu (.mov (.s 18))⟩,
   ⟨(some 19), some undefA, none, false, .pu (.extr 0 (.s 12))⟩,
   ⟨(some 20), some undefA, none, false, .pu (.extr 1 (.s 12))⟩,
   ⟨(some 5), some undefA, none, false, .pu (.mov (.s 19))⟩,
   ⟨(some 6), some undefA, none, false, .pu (.mov (.s 20))⟩])
 (.seq (.seq (.ops [⟨(some 21), some undefA, none, false, .pu (.mov (.s 5))⟩,
   ⟨(some 22), some undefA, none, false, .pu (.bin .gtr (.s 21) (.c (.int .u64 0)))⟩,
   ⟨(some 23), some undefA, none, false, .pu (.mov (.s 22))⟩,
   ⟨(some 24), some undefA, (some (23, false)), false, .pu (.mov (.s 6))⟩,
   ⟨(some 25), some undefA, (some (23, false)), false, .pu (.bin .gtr (.s 24) (.c (.int .u64 9223372036854775807)))⟩,
   ⟨(some 26), some undefA, none, false, .pu (.pick (.s 23) (.c (.bool true)) (.s 25))⟩])
 (.cond (.s 26) (.ops [⟨(some 27), some undefA, none, false, .pu (.fail)⟩,
    ⟨none, some undefA, none, false, .pu (.fail)⟩])
 (.skip)))
 (.seq (.ops [⟨(some 28), some undefA, none, false, .pu (.mov (.s 6))⟩,
   ⟨(some 29), some undefA, none, false, .pu (.conv .i64 (.s 28))⟩,
   ⟨(some 30), some undefA, none, false, .ha (.mks 1 [.int .i64 0] (.s 29) (.s 29))⟩,
   ⟨(some 7), some undefA, none, false, .pu (.mov (.s 30))⟩])
 (.seq (.ops [⟨(some 31), some undefA, none, false, .pu (.mov (.s 7))⟩,
   ⟨(some 32), some undefA, none, false, .pu (.mov (.s 0))⟩,
   ⟨(some 33), some undefA, none, false, .ha (.cpy 1 (.s 31) (.s 32))⟩,
   ⟨(some 8), some undefA, none, false, .pu (.mov (.s 33))⟩])
 (.seq (.block 0 (.loop (.seq (.seq (.ops [⟨(some 34), some undefA, none, false, .pu (.mov (.s 8))⟩,
     ⟨(some 35), some undefA, none, false, .pu (.mov (.s 7))⟩,
     ⟨(some 36), some undefA, none, false, .pu (.len (.s 35))⟩,
     ⟨(some 37), some undefA, none, false, .pu (.bin .lss (.s 34) (.s 36))⟩])
   (.cond (.s 37) (.skip)
   (.exit 0)))
   (.block 1 (.ops [⟨(some 38), some undefA, none, false, .pu (.mov (.s 8))⟩,
      ⟨(some 39), some undefA, none, false, .pu (.mov (.s 7))⟩,
      ⟨(some 40), some undefA, none, false, .pu (.mov (.s 8))⟩,
      ⟨(some 41), some undefA, none, false, .pu (.slc 1 (.s 39) (some (.s 40)) none none)⟩,
      ⟨(some 42), some undefA, none, false, .pu (.mov (.s 7))⟩,
      ⟨(some 43), some undefA, none, false, .pu (.mov (.s 8))⟩,
      ⟨(some 44), some undefA, none, false, .pu (.slc 1 (.s 42) none (some (.s 43)) none)⟩,
      ⟨(some 45), some undefA, none, false, .ha (.cpy 1 (.s 41) (.s 44))⟩,
      ⟨(some 46), some undefA, none, false, .pu (.bin .add (.s 38) (.s 45))⟩,
      ⟨(some 8), some undefA, none, false, .pu (.mov (.s 46))⟩])))))
 (.seq (.ops [⟨(some 47), some undefA, none, false, .pu (.mov (.s 7))⟩,
   ⟨(some 4), some undefA, none, false, .pu (.mov (.s 47))⟩])
 (.ret))))))))⟩
theorem t114 : trF Try.prog [] [] Try.f114 = some m114 := by kernel_rfl

/-- math/bits.Mul32 [] -/
def m118 : MFun := ⟨17, [], [.mov (.s 4), .mov (.s 5)],
 .seq (.ops [⟨(some 4), some undefA, none, false, .pu (.mov (.c (.int .u32 0)))⟩,
   ⟨(some 5), some undefA, none, false, .pu (.mov (.c (.int .u32 0)))⟩])
 (.seq (.ops [⟨(some 7), some undefA, none, false, .pu (.mov (.s 0))⟩,
   ⟨(some 8), some undefA, none, false, .pu (.conv .u64 (.s 7))⟩,
   ⟨(some 9), some undefA, none, false, .pu (.mov (.s 1))⟩,
   ⟨(some 10), some undefA, none, false, .pu (.conv .u64 (.s 9))⟩,
   ⟨(some 11), some undefA, none, false, .pu (.bin .mul (.s 8) (.s 10))⟩,
   ⟨(some 6), some undefA, none, false, .pu (.mov (.s 11))⟩])
 (.seq (.ops [⟨(some 12), some undefA, none, false, .pu (.mov (.s 6))⟩,
   ⟨(some 13), some undefA, none, false, .pu (.bin .shr (.s 12) (.c (.int .u64 32)))⟩,
   ⟨(some 14), some undefA, none, false, .pu (.conv .u32 (.s 13))⟩,
   ⟨(some 15), some undefA, none, false, .pu (.mov (.s 6))⟩,
   ⟨(some 16), some undefA, none, false, .pu (.conv .u32 (.s 15))⟩,
   ⟨(some 4), some undefA, none, false, .pu (.mov (.s 14))⟩,
   ⟨(some 5), some undefA, none, false, .pu (.mov (.s 16))⟩])
 (.ret)))⟩
theorem t118 : trF Try.prog [] [] Try.f118 = some m118 := by kernel_rfl

/-- math/bits.Mul64 [] -/
def m119 : MFun := ⟨51, [], [.mov (.s 4), .mov (.s 5)],
 .seq (.ops [⟨(some 4), some undefA, none, false, .pu (.mov (.c (.int .u64 0)))⟩,
   ⟨(some 5), some undefA, none, false, .pu (.mov (.c (.int .u64 0)))⟩])
 (.seq (.ops [⟨(some 14), some undefA, none, false, .pu (.mov (.s 0))⟩,
   ⟨(some 15), some undefA, none, false, .pu (.bin .and (.s 14) (.c (.int .u64 4294967295)))⟩,
   ⟨(some 6), some undefA, none, false, .pu (.mov (.s 15))⟩])
 (.seq (.ops [⟨(some 16), some undefA, none, false, .pu (.mov (.s 0))⟩,
   ⟨(some 17), some undefA, none, false, .pu (.bin .shr (.s 16) (.c (.int .u64 32)))⟩,
   ⟨(some 7), some undefA, none, false, .pu (.mov (.s 17))⟩])
 (.seq (.ops [⟨(some 18), some undefA, none, false, .pu (.mov (.s 1))⟩,
   ⟨(some 19), some undefA, none, false, .pu (.bin .and (.s 18) (.c (.int .u64 4294967295)))⟩,
   ⟨(some 8), some undefA, none, false, .pu (.mov (.s 19))⟩])
 (.seq (.ops [⟨(some 20), some undefA, none, false, .pu (.mov (.s 1))⟩,
   ⟨(some 21), some undefA, none, false, .pu (.bin .shr (.s 20) (.c (.int .u64 32)))⟩,
   ⟨(some 9), some undefA, none, false, .pu (.mov (.s 21))⟩])
 (.seq (.ops [⟨(some 22), some undefA, none, false, .pu (.mov (.s 6))⟩,
   ⟨(some 23), some undefA, none, false, .pu (.mov (.s 8))⟩,
   ⟨(some 24), some undefA, none, false, .pu (.bin .mul (.s 22) (.s 23))⟩,
   ⟨(some 10), some undefA, none, false, .pu (.mov (.s 24))⟩])
 (.seq (.ops [⟨(some 25), some undefA, none, false, .pu (.mov (.s 7))⟩,
   ⟨(some 26), some undefA, none, false, .pu (.mov (.s 8))⟩,
   ⟨(some 27), some undefA, none, false, .pu (.bin .mul (.s 25) (.s 26))⟩,
   ⟨(some 28), some undefA, none, false, .pu (.mov (.s 10))⟩,
   ⟨(some 29), some undefA, none, false, .pu (.bin .shr (.s 28) (.c (.int .u64 32)))⟩,
   ⟨(some 30), some undefA, none, false, .pu (.bin .add (.s 27) (.s 29))⟩,
   ⟨(some 11), some undefA, none, false, .pu (.mov (.s 30))⟩])
 (.seq (.ops [⟨(some 31), some undefA, none, false, .pu (.mov (.s 11))⟩,
   ⟨(some 32), some undefA, none, false, .pu (.bin .and (.s 31) (.c (.int .u64 4294967295)))⟩,
   ⟨(some 12), some undefA, none, false, .pu (.mov (.s 32))⟩])
 (.seq (.ops [⟨(some 33), some undefA, none, false, .pu (.mov (.s 11))⟩,
   ⟨(some 34), some undefA, none, false, .pu (.bin .shr (.s 33) (.c (.int .u64 32)))⟩,
   ⟨(some 13), some undefA, none, false, .pu (.mov (.s 34))⟩])
 (.seq (.ops [⟨(some 35), some undefA, none, false, .pu (.mov (.s 12))⟩,
   ⟨(some 36), some undefA, none, false, .pu (.mov (.s 6))⟩,
   ⟨(some 37), some undefA, none, false, .pu (.mov (.s 9))⟩,
   ⟨(some 38), some undefA, none, false, .pu (.bin .mul (.s 36) (.s 37))⟩,
   ⟨(some 39), some undefA, none, false, .pu (.bin .add (.s 35) (.s 38))⟩,
   ⟨(some 12), some undefA, none, false, .pu (.mov (.s 39))⟩])
 (.seq (.ops [⟨(some 40), some undefA, none, false, .pu (.mov (.s 7))⟩,
   ⟨(some 41), some undefA, none, false, .pu (.mov (.s 9))⟩,
   ⟨(some 42), some undefA, none, false, .pu (.bin .mul (.s 40) (.s 41))⟩,
   ⟨(some 43), some undefA, none, false, .pu (.mov (.s 13))⟩,
   ⟨(some 44), some undefA, none, false, .pu (.bin .add (.s 42) (.s 43))⟩,
   ⟨(some 45), some undefA, none, false, .pu (.mov (.s 12))⟩,
   ⟨(some 46), some undefA, none, false, .pu (.bin .shr (.s 45) (.c (.int .u64 32)))⟩,
   ⟨(some 47), some undefA, none, false, .pu (.bin .add (.s 44) (.s 46))⟩,
   ⟨(some 4), some undefA, none, false, .pu (.mov (.s 47))⟩])
 (.seq (.ops [⟨(some 48), some undefA, none, false, .pu (.mov (.s 0))⟩,
   ⟨(some 49), some undefA, none, false, .pu (.mov (.s 1))⟩,
   ⟨(some 50), some undefA, none, false, .pu (.bin .mul (.s 48) (.s 49))⟩,
   ⟨(some 5), some undefA, none, false, .pu (.mov (.s 50))⟩])
 (.ret))))))))))))⟩
theorem t119 : trF Try.prog [] [] Try.f119 = some m119 := by kernel_rfl

/-- selion/selionref02.Times [] -/
def m120 : MFun := ⟨18, [3, 4, 5], [.bget none 4 0 2 true],
 .seq (.ops [⟨(some 3), some (.junk), none, false, .pu (.bnew (.s 1))⟩,
   ⟨(some 4), some (.junk), none, false, .pu (.bnew (.c (.agg [.int .i64 0, .int .i64 0])))⟩])
 (.seq (.ops [⟨(some 6), some undefA, none, false, .pu (.mov (.s 0))⟩,
   ⟨(some 7), some undefA, none, false, .pu (.badr none 3)⟩,
   ⟨(some 8), some undefA, none, false, .pu (.bget (some 7) 3 1 1 false)⟩,
   ⟨(some 9), some undefA, none, false, .call 69 [(.s 6), (.s 8)]⟩,
   ⟨(some 5), some (.junk), none, false, .pu (.bnew (.c (.agg [.int .i64 0, .int .i64 0])))⟩,
   ⟨(some 5), none, none, false, .pu (.bset none 5 0 2 (.s 9))⟩])
 (.seq (.ops [⟨(some 10), some undefA, none, false, .pu (.badr none 5)⟩,
   ⟨(some 11), some undefA, none, false, .pu (.bget (some 10) 5 0 1 false)⟩,
   ⟨(some 12), some undefA, none, false, .pu (.badr none 3)⟩,
   ⟨(some 13), some undefA, none, false, .pu (.bget (some 12) 3 0 1 false)⟩,
   ⟨(some 14), some undefA, none, false, .pu (.bin .mul (.s 11) (.s 13))⟩,
   ⟨(some 15), some undefA, none, false, .pu (.badr none 5)⟩,
   ⟨(some 16), some undefA, none, false, .pu (.bget (some 15) 5 1 1 false)⟩,
   ⟨(some 17), some undefA, none, false, .call 69 [(.s 14), (.s 16)]⟩,
   ⟨(some 4), none, none, false, .pu (.bset none 4 0 2 (.s 17))⟩])
 (.ret)))⟩
theorem t120 : trF Try.prog [3, 4, 5] [] Try.f120 = some m120 := by kernel_rfl

end Go.Proofs.Ytnnbggcckabhdaa
