/- What the law's proof rests on, part 3: for all that is said in each line. No conditions. -/
import Derived.Test.YtnnbggcckabhdaaRows
import Derived.Test.YtnnbggcckabhdaaEnB
namespace Go.Proofs.Ytnnbggcckabhdaa
open Go Go.Eng
/-- selion/selionlaw02.Long [] -/
def m18 : MFun := ⟨13, [], [.mov (.s 4)],
 .seq (.ops [⟨(some 4), some undefA, none, false, .pu (.mov (.c (.bool false)))⟩])
 (.seq (.ops [⟨(some 5), some undefA, none, false, .pu (.mov (.s 0))⟩,
   ⟨(some 6), some undefA, none, false, .pu (.len (.s 5))⟩,
   ⟨(some 7), some undefA, none, false, .pu (.bin .gtr (.s 6) (.c (.int .i64 100)))⟩,
   ⟨(some 8), some undefA, none, false, .pu (.mov (.s 7))⟩,
   ⟨(some 9), some undefA, (some (8, false)), false, .pu (.mov (.s 1))⟩,
   ⟨(some 10), some undefA, (some (8, false)), false, .pu (.len (.s 9))⟩,
   ⟨(some 11), some undefA, (some (8, false)), false, .pu (.bin .gtr (.s 10) (.c (.int .i64 100)))⟩,
   ⟨(some 12), some undefA, none, false, .pu (.pick (.s 8) (.c (.bool true)) (.s 11))⟩,
   ⟨(some 4), some undefA, none, false, .pu (.mov (.s 12))⟩])
 (.ret))⟩
theorem t18 : trF Try.prog [] [] Try.f18 = some m18 := by kernel_rfl
/-- selion/selionlaw02.known [] -/
def m19 : MFun := ⟨44, [4, 5], [.mov (.s 0)],
 .seq (.ops [⟨(some 0), some undefA, none, false, .pu (.mov (.c (.bool false)))⟩])
 (.seq (.ops [⟨(some 7), some undefA, none, false, .pu (.build [.int .i64 0, .int .i64 0] [(0, 1, (.c (.int .i64 4))), (1, 1, (.c (.int .i64 3)))])⟩,
   ⟨(some 8), some undefA, none, false, .pu (.build [.int .i64 0, .int .i64 0] [(0, 1, (.c (.int .i64 2))), (1, 1, (.c (.int .i64 6)))])⟩,
   ⟨(some 9), some undefA, none, false, .ha (.blds 2 2 [.int .i64 0, .int .i64 0] [(0, 2, (.s 7)), (2, 2, (.s 8))])⟩,
   ⟨(some 1), some undefA, none, false, .pu (.mov (.s 9))⟩])
 (.seq (.ops [⟨(some 11), some undefA, none, false, .pu (.mov (.s 1))⟩,
   ⟨(some 12), some undefA, none, false, .call 20 [(.s 11), (.c (.int .i64 3))]⟩,
   ⟨(some 10), some undefA, none, false, .pu (.mov (.s 12))⟩,
   ⟨(some 13), some undefA, none, false, .pu (.extr 0 (.s 10))⟩,
   ⟨(some 14), some undefA, none, false, .pu (.extr 1 (.s 10))⟩,
   ⟨(some 2), some undefA, none, false, .pu (.mov (.s 13))⟩,
   ⟨(some 3), some undefA, none, false, .pu (.mov (.s 14))⟩])
 (.seq (.ops [⟨(some 16), some undefA, none, false, .pu (.mov (.s 1))⟩,
   ⟨(some 17), some undefA, none, false, .call 28 [(.s 16), (.c (.int .i64 3))]⟩,
   ⟨(some 15), some undefA, none, false, .pu (.mov (.s 17))⟩,
   ⟨(some 18), some undefA, none, false, .pu (.extr 0 (.s 15))⟩,
   ⟨(some 19), some undefA, none, false, .pu (.extr 1 (.s 15))⟩,
   ⟨(some 20), some undefA, none, false, .pu (.extr 2 (.s 15))⟩,
   ⟨(some 4), some (.junk), none, false, .pu (.bnew (.c (.agg [.int .i64 0, .int .i64 0])))⟩,
   ⟨(some 5), some (.junk), none, false, .pu (.bnew (.c (.agg [.int .i64 0, .int .i64 0])))⟩,
   ⟨(some 4), none, none, false, .pu (.bset none 4 0 2 (.s 18))⟩,
   ⟨(some 5), none, none, false, .pu (.bset none 5 0 2 (.s 19))⟩,
   ⟨(some 6), some undefA, none, false, .pu (.mov (.s 20))⟩])
 (.seq (.ops [⟨(some 21), some undefA, none, false, .pu (.mov (.s 3))⟩,
   ⟨(some 22), some undefA, none, false, .pu (.bin .eql (.s 21) (.c (.int .i64 0)))⟩,
   ⟨(some 23), some undefA, none, false, .pu (.mov (.s 22))⟩,
   ⟨(some 24), some undefA, (some (23, true)), false, .pu (.mov (.s 2))⟩,
   ⟨(some 25), some undefA, (some (23, true)), false, .pu (.build [.int .i64 0, .int .i64 0] [(0, 1, (.c (.int .i64 8))), (1, 1, (.c (.int .i64 3)))])⟩,
   ⟨(some 26), some undefA, (some (23, true)), false, .pu (.build [.int .i64 0, .int .i64 0] [(0, 1, (.c (.int .i64 14))), (1, 1, (.c (.int .i64 3)))])⟩,
   ⟨(some 27), some undefA, (some (23, true)), false, .ha (.blds 2 2 [.int .i64 0, .int .i64 0] [(0, 2, (.s 25)), (2, 2, (.s 26))])⟩,
   ⟨(some 28), some undefA, (some (23, true)), false, .call 22 [(.s 24), (.s 27)]⟩,
   ⟨(some 29), some undefA, none, false, .pu (.pick (.s 23) (.s 28) (.c (.bool false)))⟩,
   ⟨(some 30), some undefA, none, false, .pu (.mov (.s 29))⟩,
   ⟨(some 31), some undefA, (some (30, true)), false, .pu (.mov (.s 6))⟩,
   ⟨(some 32), some undefA, (some (30, true)), false, .pu (.bin .eql (.s 31) (.c (.int .i64 0)))⟩,
   ⟨(some 33), some undefA, none, false, .pu (.pick (.s 30) (.s 32) (.c (.bool false)))⟩,
   ⟨(some 34), some undefA, none, false, .pu (.mov (.s 33))⟩,
   ⟨(some 35), some undefA, (some (34, true)), false, .pu (.bget none 4 0 2 true)⟩,
   ⟨(some 36), some undefA, (some (34, true)), false, .pu (.build [.int .i64 0, .int .i64 0] [(0, 1, (.c (.int .i64 3))), (1, 1, (.c (.int .i64 1)))])⟩,
   ⟨(some 37), some undefA, (some (34, true)), false, .pu (.eqs false [true, true] (.s 35) (.s 36))⟩,
   ⟨(some 38), some undefA, none, false, .pu (.pick (.s 34) (.s 37) (.c (.bool false)))⟩,
   ⟨(some 39), some undefA, none, false, .pu (.mov (.s 38))⟩,
   ⟨(some 40), some undefA, (some (39, true)), false, .pu (.bget none 5 0 2 true)⟩,
   ⟨(some 41), some undefA, (some (39, true)), false, .pu (.build [.int .i64 0, .int .i64 0] [(0, 1, (.c (.int .i64 15))), (1, 1, (.c (.int .i64 1)))])⟩,
   ⟨(some 42), some undefA, (some (39, true)), false, .pu (.eqs false [true, true] (.s 40) (.s 41))⟩,
   ⟨(some 43), some undefA, none, false, .pu (.pick (.s 39) (.s 42) (.c (.bool false)))⟩,
   ⟨(some 0), some undefA, none, false, .pu (.mov (.s 43))⟩])
 (.ret)))))⟩
theorem t19 : trF Try.prog [4, 5] [] Try.f19 = some m19 := by kernel_rfl
/-- selion/soil.Equal [] -/
def m20 : MFun := ⟨25, [], [.mov (.s 4), .mov (.s 5)],
 .seq (.ops [⟨(some 4), some undefA, none, false, .pu (.mov (.c (.nilS)))⟩,
   ⟨(some 5), some undefA, none, false, .pu (.mov (.c (.int .i64 0)))⟩])
 (.seq (.seq (.ops [⟨(some 7), some undefA, none, false, .pu (.mov (.s 0))⟩,
   ⟨(some 8), some undefA, none, false, .call 37 [(.s 7)]⟩,
   ⟨(some 6), some undefA, none, false, .pu (.mov (.s 8))⟩])
 (.seq (.ops [⟨(some 9), some undefA, none, false, .pu (.mov (.s 6))⟩,
   ⟨(some 10), some undefA, none, false, .pu (.bin .neq (.s 9) (.c (.int .i64 0)))⟩])
 (.cond (.s 10) (.seq (.ops [⟨(some 11), some undefA, none, false, .pu (.mov (.s 6))⟩,
    ⟨(some 4), some undefA, none, false, .pu (.mov (.c (.nilS)))⟩,
    ⟨(some 5), some undefA, none, false, .pu (.mov (.s 11))⟩])
  (.ret))
 (.skip))))
 (.seq (.seq (.ops [⟨(some 12), some undefA, none, false, .pu (.mov (.s 1))⟩,
   ⟨(some 13), some undefA, none, false, .call 61 [(.s 12), (.c (.int .i64 1)), (.c (.int .i64 8))]⟩,
   ⟨(some 14), some undefA, none, false, .pu (.not (.s 13))⟩])
 (.cond (.s 14) (.seq (.ops [⟨(some 4), some undefA, none, false, .pu (.mov (.c (.nilS)))⟩,
    ⟨(some 5), some undefA, none, false, .pu (.mov (.c (.int .i64 3)))⟩])
  (.ret))
 (.skip)))
 (.seq (.ops [⟨(some 15), some undefA, none, false, .pu (.mov (.s 0))⟩,
   ⟨(some 16), some undefA, none, false, .pu (.mov (.s 0))⟩,
   ⟨(some 17), some undefA, none, false, .call 65 [(.s 16)]⟩,
   ⟨(some 18), some undefA, none, false, .pu (.mov (.s 1))⟩,
   ⟨(some 19), some undefA, none, false, .call 64 [(.s 17), (.s 18)]⟩,
   ⟨(some 20), some undefA, none, false, .ha (.blds 2 1 [.int .i64 0, .int .i64 0] [(0, 2, (.s 19))])⟩,
   ⟨(some 21), some undefA, none, false, .pu (.mov (.s 1))⟩,
   ⟨(some 22), some undefA, none, false, .pu (.bin .sub (.s 21) (.c (.int .i64 1)))⟩,
   ⟨(some 23), some undefA, none, false, .call 63 [(.s 20), (.s 22)]⟩,
   ⟨(some 24), some undefA, none, false, .call 62 [(.s 15), (.s 23)]⟩,
   ⟨(some 4), some undefA, none, false, .pu (.mov (.s 24))⟩,
   ⟨(some 5), some undefA, none, false, .pu (.mov (.c (.int .i64 0)))⟩])
 (.ret))))⟩
theorem t20 : trF Try.prog [] [] Try.f20 = some m20 := by kernel_rfl
/-- selion/selionref02.SameRats [loop [0, 1, 5]] -/
def m22 : MFun := ⟨26, [], [.mov (.s 4)],
 .seq (.ops [⟨(some 4), some undefA, none, false, .pu (.mov (.c (.bool false)))⟩])
 (.seq (.seq (.ops [⟨(some 6), some undefA, none, false, .pu (.mov (.s 0))⟩,
   ⟨(some 7), some undefA, none, false, .pu (.len (.s 6))⟩,
   ⟨(some 8), some undefA, none, false, .pu (.mov (.s 1))⟩,
   ⟨(some 9), some undefA, none, false, .pu (.len (.s 8))⟩,
   ⟨(some 10), some undefA, none, false, .pu (.bin .neq (.s 7) (.s 9))⟩])
 (.cond (.s 10) (.seq (.ops [⟨(some 4), some undefA, none, false, .pu (.mov (.c (.bool false)))⟩])
  (.ret))
 (.skip)))
 (.seq (.seq (.ops [⟨(some 5), some undefA, none, false, .pu (.mov (.c (.int .i64 0)))⟩])
 (.block 0 (.loop (.seq (.seq (.ops [⟨(some 11), some undefA, none, false, .pu (.mov (.s 5))⟩,
     ⟨(some 12), some undefA, none, false, .pu (.mov (.s 0))⟩,
     ⟨(some 13), some undefA, none, false, .pu (.len (.s 12))⟩,
     ⟨(some 14), some undefA, none, false, .pu (.bin .lss (.s 11) (.s 13))⟩])
   (.cond (.s 14) (.skip)
   (.exit 0)))
   (.seq (.block 1 (.seq (.ops [⟨(some 17), some undefA, none, true, .pu (.mov (.s 0))⟩,
      ⟨(some 18), some undefA, none, true, .pu (.mov (.s 5))⟩,
      ⟨(some 19), some undefA, none, true, .pu (.idx 2 (.s 17) (.s 18))⟩,
      ⟨(some 20), some undefA, none, true, .ld (.ld 2 true (.s 19))⟩,
      ⟨(some 21), some undefA, none, true, .pu (.mov (.s 1))⟩,
      ⟨(some 22), some undefA, none, true, .pu (.mov (.s 5))⟩,
      ⟨(some 23), some undefA, none, true, .pu (.idx 2 (.s 21) (.s 22))⟩,
      ⟨(some 24), some undefA, none, true, .ld (.ld 2 true (.s 23))⟩,
      ⟨(some 25), some undefA, none, false, .pu (.eqs true [true, true] (.s 20) (.s 24))⟩])
    (.cond (.s 25) (.seq (.ops [⟨(some 4), some undefA, none, false, .pu (.mov (.c (.bool false)))⟩])
     (.ret))
    (.skip))))
   (.ops [⟨(some 15), some undefA, none, false, .pu (.mov (.s 5))⟩,
     ⟨(some 16), some undefA, none, false, .pu (.bin .add (.s 15) (.c (.int .i64 1)))⟩,
     ⟨(some 5), some undefA, none, false, .pu (.mov (.s 16))⟩]))))))
 (.seq (.ops [⟨(some 4), some undefA, none, false, .pu (.mov (.c (.bool true)))⟩])
 (.ret))))⟩
theorem t22 : trF Try.prog [] [] Try.f22 = some m22 := by kernel_rfl
/-- selion/soil.Dearest [loop [0, 1, 4, 5, 8, 9, 10]] -/
def m28 : MFun := ⟨57, [4, 5, 8, 9, 11], [.bget none 4 0 2 true, .bget none 5 0 2 true, .mov (.s 6)],
 .seq (.ops [⟨(some 4), some (.junk), none, false, .pu (.bnew (.c (.agg [.int .i64 0, .int .i64 0])))⟩,
   ⟨(some 5), some (.junk), none, false, .pu (.bnew (.c (.agg [.int .i64 0, .int .i64 0])))⟩,
   ⟨(some 6), some undefA, none, false, .pu (.mov (.c (.int .i64 0)))⟩])
 (.seq (.seq (.ops [⟨(some 12), some undefA, none, false, .pu (.mov (.s 0))⟩,
   ⟨(some 13), some undefA, none, false, .call 37 [(.s 12)]⟩,
   ⟨(some 7), some undefA, none, false, .pu (.mov (.s 13))⟩])
 (.seq (.ops [⟨(some 14), some undefA, none, false, .pu (.mov (.s 7))⟩,
   ⟨(some 15), some undefA, none, false, .pu (.bin .neq (.s 14) (.c (.int .i64 0)))⟩])
 (.cond (.s 15) (.seq (.ops [⟨(some 16), some undefA, none, false, .pu (.build [.int .i64 0, .int .i64 0] [])⟩,
    ⟨(some 17), some undefA, none, false, .pu (.build [.int .i64 0, .int .i64 0] [])⟩,
    ⟨(some 18), some undefA, none, false, .pu (.mov (.s 7))⟩,
    ⟨(some 4), none, none, false, .pu (.bset none 4 0 2 (.s 16))⟩,
    ⟨(some 5), none, none, false, .pu (.bset none 5 0 2 (.s 17))⟩,
    ⟨(some 6), some undefA, none, false, .pu (.mov (.s 18))⟩])
  (.ret))
 (.skip))))
 (.seq (.seq (.ops [⟨(some 19), some undefA, none, false, .pu (.mov (.s 1))⟩,
   ⟨(some 20), some undefA, none, false, .pu (.mov (.s 0))⟩,
   ⟨(some 21), some undefA, none, false, .call 77 [(.s 20)]⟩,
   ⟨(some 22), some undefA, none, false, .call 61 [(.s 19), (.c (.int .i64 0)), (.s 21)]⟩,
   ⟨(some 23), some undefA, none, false, .pu (.not (.s 22))⟩])
 (.cond (.s 23) (.seq (.ops [⟨(some 24), some undefA, none, false, .pu (.build [.int .i64 0, .int .i64 0] [])⟩,
    ⟨(some 25), some undefA, none, false, .pu (.build [.int .i64 0, .int .i64 0] [])⟩,
    ⟨(some 4), none, none, false, .pu (.bset none 4 0 2 (.s 24))⟩,
    ⟨(some 5), none, none, false, .pu (.bset none 5 0 2 (.s 25))⟩,
    ⟨(some 6), some undefA, none, false, .pu (.mov (.c (.int .i64 1)))⟩])
  (.ret))
 (.skip)))
 (.seq (.ops [⟨(some 26), some undefA, none, false, .call 78 [(.c (.int .i64 0))]⟩,
   ⟨(some 27), some undefA, none, false, .pu (.mov (.s 0))⟩,
   ⟨(some 28), some undefA, none, false, .call 78 [(.c (.int .i64 0))]⟩,
   ⟨(some 29), some undefA, none, false, .pu (.mov (.s 1))⟩,
   ⟨(some 30), some undefA, none, false, .call 78 [(.s 29)]⟩,
   ⟨(some 31), some undefA, none, false, .call 73 [(.s 27), (.s 28), (.s 30)]⟩,
   ⟨(some 8), some (.junk), none, false, .pu (.bnew (.c (.agg [.int .i64 0, .int .i64 0])))⟩,
   ⟨(some 9), some (.junk), none, false, .pu (.bnew (.c (.agg [.int .i64 0, .int .i64 0])))⟩,
   ⟨(some 8), none, none, false, .pu (.bset none 8 0 2 (.s 26))⟩,
   ⟨(some 9), none, none, false, .pu (.bset none 9 0 2 (.s 31))⟩])
 (.seq (.seq (.ops [⟨(some 10), some undefA, none, false, .pu (.mov (.c (.int .i64 1)))⟩])
 (.block 0 (.loop (.seq (.seq (.ops [⟨(some 32), some undefA, none, false, .pu (.mov (.s 10))⟩,
     ⟨(some 33), some undefA, none, false, .pu (.mov (.s 1))⟩,
     ⟨(some 34), some undefA, none, false, .pu (.bin .add (.s 32) (.s 33))⟩,
     ⟨(some 35), some undefA, none, false, .pu (.mov (.s 0))⟩,
     ⟨(some 36), some undefA, none, false, .call 77 [(.s 35)]⟩,
     ⟨(some 37), some undefA, none, false, .pu (.bin .leq (.s 34) (.s 36))⟩])
   (.cond (.s 37) (.skip)
   (.exit 0)))
   (.seq (.block 1 (.seq (.ops [⟨(some 40), some undefA, none, false, .pu (.mov (.s 0))⟩,
      ⟨(some 41), some undefA, none, false, .pu (.mov (.s 10))⟩,
      ⟨(some 42), some undefA, none, false, .call 78 [(.s 41)]⟩,
      ⟨(some 43), some undefA, none, false, .pu (.mov (.s 10))⟩,
      ⟨(some 44), some undefA, none, false, .pu (.mov (.s 1))⟩,
      ⟨(some 45), some undefA, none, false, .pu (.bin .add (.s 43) (.s 44))⟩,
      ⟨(some 46), some undefA, none, false, .call 78 [(.s 45)]⟩,
      ⟨(some 47), some undefA, none, false, .call 73 [(.s 40), (.s 42), (.s 46)]⟩,
      ⟨(some 11), some (.junk), none, false, .pu (.bnew (.c (.agg [.int .i64 0, .int .i64 0])))⟩,
      ⟨(some 11), none, none, false, .pu (.bset none 11 0 2 (.s 47))⟩])
    (.seq (.ops [⟨(some 48), some undefA, none, false, .pu (.bget none 11 0 2 true)⟩,
      ⟨(some 49), some undefA, none, false, .pu (.bget none 9 0 2 true)⟩,
      ⟨(some 50), some undefA, none, false, .call 72 [(.s 48), (.s 49)]⟩,
      ⟨(some 51), some undefA, none, false, .pu (.bin .gtr (.s 50) (.c (.int .i64 0)))⟩])
    (.cond (.s 51) (.ops [⟨(some 52), some undefA, none, false, .pu (.mov (.s 10))⟩,
       ⟨(some 53), some undefA, none, false, .call 78 [(.s 52)]⟩,
       ⟨(some 54), some undefA, none, false, .pu (.bget none 11 0 2 true)⟩,
       ⟨(some 8), none, none, false, .pu (.bset none 8 0 2 (.s 53))⟩,
       ⟨(some 9), none, none, false, .pu (.bset none 9 0 2 (.s 54))⟩])
    (.skip)))))
   (.ops [⟨(some 38), some undefA, none, false, .pu (.mov (.s 10))⟩,
     ⟨(some 39), some undefA, none, false, .pu (.bin .add (.s 38) (.c (.int .i64 1)))⟩,
     ⟨(some 10), some undefA, none, false, .pu (.mov (.s 39))⟩]))))))
 (.seq (.ops [⟨(some 55), some undefA, none, false, .pu (.bget none 8 0 2 true)⟩,
   ⟨(some 56), some undefA, none, false, .pu (.bget none 9 0 2 true)⟩,
   ⟨(some 4), none, none, false, .pu (.bset none 4 0 2 (.s 55))⟩,
   ⟨(some 5), none, none, false, .pu (.bset none 5 0 2 (.s 56))⟩,
   ⟨(some 6), some undefA, none, false, .pu (.mov (.c (.int .i64 0)))⟩])
 (.ret))))))⟩
theorem t28 : trF Try.prog [4, 5, 8, 9, 11] [] Try.f28 = some m28 := by kernel_rfl
/-- selion/soil.Validate [loop [9, 10, 11]] -/
def m37 : MFun := ⟨26, [4], [.mov (.s 2)],
 .seq (.ops [⟨(some 2), some undefA, none, false, .pu (.mov (.c (.int .i64 0)))⟩])
 (.seq (.seq (.ops [⟨(some 5), some undefA, none, false, .pu (.mov (.s 0))⟩,
   ⟨(some 6), some undefA, none, false, .pu (.len (.s 5))⟩,
   ⟨(some 7), some undefA, none, false, .call 61 [(.s 6), (.c (.int .i64 1)), (.c (.int .i64 6))]⟩,
   ⟨(some 8), some undefA, none, false, .pu (.not (.s 7))⟩])
 (.cond (.s 8) (.seq (.ops [⟨(some 2), some undefA, none, false, .pu (.mov (.c (.int .i64 3)))⟩])
  (.ret))
 (.skip)))
 (.seq (.seq (.ops [⟨(some 9), some undefA, none, false, .pu (.mov (.s 0))⟩,
   ⟨(some 10), some undefA, none, false, .pu (.len (.s 9))⟩,
   ⟨(some 11), some undefA, none, false, .pu (.mov (.c (.int .i64 0)))⟩])
 (.block 0 (.loop (.seq (.ops [⟨(some 12), some undefA, none, false, .pu (.bin .lss (.s 11) (.s 10))⟩])
   (.seq (.cond (.s 12) (.skip)
   (.exit 0))
   (.seq (.block 1 (.seq (.ops [⟨(some 13), some undefA, none, false, .pu (.idx 2 (.s 9) (.s 11))⟩,
      ⟨(some 14), some undefA, none, false, .ld (.ld 2 true (.s 13))⟩,
      ⟨(some 4), some (.junk), none, false, .pu (.bnew (.c (.agg [.int .i64 0, .int .i64 0])))⟩,
      ⟨(some 4), none, none, false, .pu (.bset none 4 0 2 (.s 14))⟩])
    (.seq (.ops [⟨(some 15), some undefA, none, false, .pu (.badr none 4)⟩,
      ⟨(some 16), some undefA, none, false, .pu (.bget (some 15) 4 0 1 false)⟩,
      ⟨(some 17), some undefA, none, false, .call 61 [(.s 16), (.c (.int .i64 1)), (.c (.int .i64 20))]⟩,
      ⟨(some 18), some undefA, none, false, .pu (.not (.s 17))⟩,
      ⟨(some 19), some undefA, none, false, .pu (.mov (.s 18))⟩,
      ⟨(some 20), some undefA, (some (19, false)), false, .pu (.badr none 4)⟩,
      ⟨(some 21), some undefA, (some (19, false)), false, .pu (.bget (some 20) 4 1 1 false)⟩,
      ⟨(some 22), some undefA, (some (19, false)), false, .call 61 [(.s 21), (.c (.int .i64 0)), (.c (.int .i64 20))]⟩,
      ⟨(some 23), some undefA, (some (19, false)), false, .pu (.not (.s 22))⟩,
      ⟨(some 24), some undefA, none, false, .pu (.pick (.s 19) (.c (.bool true)) (.s 23))⟩])
    (.cond (.s 24) (.seq (.ops [⟨(some 2), some undefA, none, false, .pu (.mov (.c (.int .i64 1)))⟩])
     (.ret))
    (.skip)))))
   (.ops [⟨(some 25), some undefA, none, false, .pu (.bin .add (.s 11) (.c (.int .i64 1)))⟩,
     ⟨(some 11), some undefA, none, false, .pu (.mov (.s 25))⟩])))))))
 (.seq (.ops [⟨(some 2), some undefA, none, false, .pu (.mov (.c (.int .i64 0)))⟩])
 (.ret))))⟩
theorem t37 : trF Try.prog [4] [] Try.f37 = some m37 := by kernel_rfl
/-- selion/selionref02.Validate [loop [0, 3]] -/
def m38 : MFun := ⟨30, [], [.mov (.s 2)],
 .seq (.ops [⟨(some 2), some undefA, none, false, .pu (.mov (.c (.int .i64 0)))⟩])
 (.seq (.seq (.ops [⟨(some 4), some undefA, none, false, .pu (.mov (.s 0))⟩,
   ⟨(some 5), some undefA, none, false, .pu (.len (.s 4))⟩,
   ⟨(some 6), some undefA, none, false, .call 66 [(.s 5), (.c (.int .i64 1)), (.c (.int .i64 6))]⟩,
   ⟨(some 7), some undefA, none, false, .pu (.not (.s 6))⟩])
 (.cond (.s 7) (.seq (.ops [⟨(some 2), some undefA, none, false, .pu (.mov (.c (.int .i64 3)))⟩])
  (.ret))
 (.skip)))
 (.seq (.seq (.ops [⟨(some 3), some undefA, none, false, .pu (.mov (.c (.int .i64 0)))⟩])
 (.block 0 (.loop (.seq (.seq (.ops [⟨(some 8), some undefA, none, false, .pu (.mov (.s 3))⟩,
     ⟨(some 9), some undefA, none, false, .pu (.mov (.s 0))⟩,
     ⟨(some 10), some undefA, none, false, .pu (.len (.s 9))⟩,
     ⟨(some 11), some undefA, none, false, .pu (.bin .lss (.s 8) (.s 10))⟩])
   (.cond (.s 11) (.skip)
   (.exit 0)))
   (.seq (.block 1 (.seq (.ops [⟨(some 14), some undefA, none, false, .pu (.mov (.s 0))⟩,
      ⟨(some 15), some undefA, none, false, .pu (.mov (.s 3))⟩,
      ⟨(some 16), some undefA, none, false, .pu (.idx 2 (.s 14) (.s 15))⟩,
      ⟨(some 17), some undefA, none, false, .pu (.fad 0 (.s 16))⟩,
      ⟨(some 18), some undefA, none, false, .ld (.ld 1 false (.s 17))⟩,
      ⟨(some 19), some undefA, none, false, .call 66 [(.s 18), (.c (.int .i64 1)), (.c (.int .i64 20))]⟩,
      ⟨(some 20), some undefA, none, false, .pu (.not (.s 19))⟩,
      ⟨(some 21), some undefA, none, false, .pu (.mov (.s 20))⟩,
      ⟨(some 22), some undefA, (some (21, false)), false, .pu (.mov (.s 0))⟩,
      ⟨(some 23), some undefA, (some (21, false)), false, .pu (.mov (.s 3))⟩,
      ⟨(some 24), some undefA, (some (21, false)), false, .pu (.idx 2 (.s 22) (.s 23))⟩,
      ⟨(some 25), some undefA, (some (21, false)), false, .pu (.fad 1 (.s 24))⟩,
      ⟨(some 26), some undefA, (some (21, false)), false, .ld (.ld 1 false (.s 25))⟩,
      ⟨(some 27), some undefA, (some (21, false)), false, .call 66 [(.s 26), (.c (.int .i64 0)), (.c (.int .i64 20))]⟩,
      ⟨(some 28), some undefA, (some (21, false)), false, .pu (.not (.s 27))⟩,
      ⟨(some 29), some undefA, none, false, .pu (.pick (.s 21) (.c (.bool true)) (.s 28))⟩])
    (.cond (.s 29) (.seq (.ops [⟨(some 2), some undefA, none, false, .pu (.mov (.c (.int .i64 1)))⟩])
     (.ret))
    (.skip))))
   (.ops [⟨(some 12), some undefA, none, false, .pu (.mov (.s 3))⟩,
     ⟨(some 13), some undefA, none, false, .pu (.bin .add (.s 12) (.c (.int .i64 1)))⟩,
     ⟨(some 3), some undefA, none, false, .pu (.mov (.s 13))⟩]))))))
 (.seq (.ops [⟨(some 2), some undefA, none, false, .pu (.mov (.c (.int .i64 0)))⟩])
 (.ret))))⟩
theorem t38 : trF Try.prog [] [] Try.f38 = some m38 := by kernel_rfl
/-- selion/soil.within [] -/
def m61 : MFun := ⟨15, [], [.mov (.s 6)],
 .seq (.ops [⟨(some 6), some undefA, none, false, .pu (.mov (.c (.bool false)))⟩])
 (.seq (.ops [⟨(some 7), some undefA, none, false, .pu (.mov (.s 0))⟩,
   ⟨(some 8), some undefA, none, false, .pu (.mov (.s 1))⟩,
   ⟨(some 9), some undefA, none, false, .pu (.bin .geq (.s 7) (.s 8))⟩,
   ⟨(some 10), some undefA, none, false, .pu (.mov (.s 9))⟩,
   ⟨(some 11), some undefA, (some (10, true)), false, .pu (.mov (.s 0))⟩,
   ⟨(some 12), some undefA, (some (10, true)), false, .pu (.mov (.s 2))⟩,
   ⟨(some 13), some undefA, (some (10, true)), false, .pu (.bin .leq (.s 11) (.s 12))⟩,
   ⟨(some 14), some undefA, none, false, .pu (.pick (.s 10) (.s 13) (.c (.bool false)))⟩,
   ⟨(some 6), some undefA, none, false, .pu (.mov (.s 14))⟩])
 (.ret))⟩
theorem t61 : trF Try.prog [] [] Try.f61 = some m61 := by kernel_rfl
/-- selion/soil.cut [loop [0, 5, 6, 10, 11, 12]] -/
def m62 : MFun := ⟨29, [6, 8], [.mov (.s 4)],
 .seq (.ops [⟨(some 4), some undefA, none, false, .pu (.mov (.c (.nilS)))⟩])
 (.seq (.ops [⟨(some 5), some undefA, none, false, .pu (.mov (.c (.nilS)))⟩])
 (.seq (.ops [⟨(some 9), some undefA, none, false, .call 78 [(.c (.int .i64 0))]⟩,
   ⟨(some 6), some (.junk), none, false, .pu (.bnew (.c (.agg [.int .i64 0, .int .i64 0])))⟩,
   ⟨(some 6), none, none, false, .pu (.bset none 6 0 2 (.s 9))⟩])
 (.seq (.seq (.ops [⟨(some 10), some undefA, none, false, .pu (.mov (.s 1))⟩,
   ⟨(some 11), some undefA, none, false, .pu (.len (.s 10))⟩,
   ⟨(some 12), some undefA, none, false, .pu (.mov (.c (.int .i64 0)))⟩])
 (.block 0 (.loop (.seq (.ops [⟨(some 13), some undefA, none, false, .pu (.bin .lss (.s 12) (.s 11))⟩])
   (.seq (.cond (.s 13) (.skip)
   (.exit 0))
   (.seq (.block 1 (.seq (.ops [⟨(some 14), some undefA, none, false, .pu (.idx 2 (.s 10) (.s 12))⟩,
      ⟨(some 15), some undefA, none, false, .ld (.ld 2 true (.s 14))⟩,
      ⟨(some 8), some (.junk), none, false, .pu (.bnew (.c (.agg [.int .i64 0, .int .i64 0])))⟩,
      ⟨(some 8), none, none, false, .pu (.bset none 8 0 2 (.s 15))⟩])
    (.seq (.ops [⟨(some 17), some undefA, none, false, .pu (.mov (.s 0))⟩,
      ⟨(some 18), some undefA, none, false, .pu (.bget none 6 0 2 true)⟩,
      ⟨(some 19), some undefA, none, false, .pu (.bget none 8 0 2 true)⟩,
      ⟨(some 20), some undefA, none, false, .call 80 [(.s 17), (.s 18), (.s 19)]⟩,
      ⟨(some 16), some undefA, none, false, .pu (.mov (.s 20))⟩,
      ⟨(some 21), some undefA, none, false, .pu (.extr 0 (.s 16))⟩,
      ⟨(some 22), some undefA, none, false, .pu (.extr 1 (.s 16))⟩,
      ⟨(some 6), none, none, false, .pu (.bset none 6 0 2 (.s 21))⟩])
    (.ops [⟨(some 23), some undefA, none, false, .pu (.mov (.s 5))⟩,
      ⟨(some 24), some undefA, none, false, .pu (.bget none 6 0 2 true)⟩,
      ⟨(some 25), some undefA, none, false, .ha (.blds 2 1 [.int .i64 0, .int .i64 0] [(0, 2, (.s 24))])⟩,
      ⟨(some 26), some undefA, none, false, .ha (.app 2 (.s 23) (.s 25))⟩,
      ⟨(some 5), some undefA, none, false, .pu (.mov (.s 26))⟩]))))
   (.ops [⟨(some 27), some undefA, none, false, .pu (.bin .add (.s 12) (.c (.int .i64 1)))⟩,
     ⟨(some 12), some undefA, none, false, .pu (.mov (.s 27))⟩])))))))
 (.seq (.ops [⟨(some 28), some undefA, none, false, .pu (.mov (.s 5))⟩,
   ⟨(some 4), some undefA, none, false, .pu (.mov (.s 28))⟩])
 (.ret)))))⟩
theorem t62 : trF Try.prog [6, 8] [] Try.f62 = some m62 := by kernel_rfl
/-- slices.Repeat[[]selion/api.Rat,selion/api.Rat] [loop [7, 8]] -/
def m63 : MFun := ⟨48, [], [.mov (.s 4)],
 .seq (.ops [⟨(some 4), some undefA, none, false, .pu (.mov (.c (.nilS)))⟩])
 (.seq (.seq (.ops [⟨(some 9), some undefA, none, false, .pu (.mov (.s 1))⟩,
   ⟨(some 10), some undefA, none, false, .pu (.bin .lss (.s 9) (.c (.int .i64 0)))⟩])
 (.cond (.s 10) (.ops [⟨(some 11), some undefA, none, false, .pu (.fail)⟩,
    ⟨none, some undefA, none, false, .pu (.fail)⟩])
 (.skip)))
 (.seq (.ops [⟨(some 13), some undefA, none, false, .pu (.mov (.s 0))⟩,
   ⟨(some 14), some undefA, none, false, .pu (.len (.s 13))⟩,
   ⟨(some 15), some undefA, none, false, .pu (.conv .u64 (.s 14))⟩,
   ⟨(some 16), some undefA, none, false, .pu (.mov (.s 1))⟩,
   ⟨(some 17), some undefA, none, false, .pu (.conv .u64 (.s 16))⟩,
   ⟨(some 18), some undefA, none, false, .call 100 [(.s 15), (.s 17)]⟩,
   ⟨(some 12), some undefA, none, false, .pu (.mov (.s 18))⟩,
   ⟨(some 19), some undefA, none, false, .pu (.extr 0 (.s 12))⟩,
   ⟨(some 20), some undefA, none, false, .pu (.extr 1 (.s 12))⟩,
   ⟨(some 5), some undefA, none, false, .pu (.mov (.s 19))⟩,
   ⟨(some 6), some undefA, none, false, .pu (.mov (.s 20))⟩])
 (.seq (.seq (.ops [⟨(some 21), some undefA, none, false, .pu (.mov (.s 5))⟩,
   ⟨(some 22), some undefA, none, false, .pu (.bin .gtr (.s 21) (.c (.int .u64 0)))⟩,
   ⟨(some 23), some undefA, none, false, .pu (.mov (.s 22))⟩,
   ⟨(some 24), some undefA, (some (23, false)), false, .pu (.mov (.s 6))⟩,
   ⟨(some 25), some undefA, (some (23, false)), false, .pu (.bin .gtr (.s 24) (.c (.int .u64 9223372036854775807)))⟩,
   ⟨(some 26), some undefA, none, false, .pu (.pick (.s 23) (.c (.bool true)) (.s 25))⟩])
 (.cond (.s 26) (.ops [⟨(some 27), some undefA, none, false, .pu (.fail)⟩,
    ⟨none, some undefA, none, false, .pu (.fail)⟩])
 (.skip)))
 (.seq (.ops [⟨(some 28), some undefA, none, false, .pu (.mov (.s 6))⟩,
   ⟨(some 29), some undefA, none, false, .pu (.conv .i64 (.s 28))⟩,
   ⟨(some 30), some undefA, none, false, .ha (.mks 2 [.int .i64 0, .int .i64 0] (.s 29) (.s 29))⟩,
   ⟨(some 7), some undefA, none, false, .pu (.mov (.s 30))⟩])
 (.seq (.ops [⟨(some 31), some undefA, none, false, .pu (.mov (.s 7))⟩,
   ⟨(some 32), some undefA, none, false, .pu (.mov (.s 0))⟩,
   ⟨(some 33), some undefA, none, false, .ha (.cpy 2 (.s 31) (.s 32))⟩,
   ⟨(some 8), some undefA, none, false, .pu (.mov (.s 33))⟩])
 (.seq (.block 0 (.loop (.seq (.seq (.ops [⟨(some 34), some undefA, none, false, .pu (.mov (.s 8))⟩,
     ⟨(some 35), some undefA, none, false, .pu (.mov (.s 7))⟩,
     ⟨(some 36), some undefA, none, false, .pu (.len (.s 35))⟩,
     ⟨(some 37), some undefA, none, false, .pu (.bin .lss (.s 34) (.s 36))⟩])
   (.cond (.s 37) (.skip)
   (.exit 0)))
   (.block 1 (.ops [⟨(some 38), some undefA, none, false, .pu (.mov (.s 8))⟩,
      ⟨(some 39), some undefA, none, false, .pu (.mov (.s 7))⟩,
      ⟨(some 40), some undefA, none, false, .pu (.mov (.s 8))⟩,
      ⟨(some 41), some undefA, none, false, .pu (.slc 2 (.s 39) (some (.s 40)) none none)⟩,
      ⟨(some 42), some undefA, none, false, .pu (.mov (.s 7))⟩,
      ⟨(some 43), some undefA, none, false, .pu (.mov (.s 8))⟩,
      ⟨(some 44), some undefA, none, false, .pu (.slc 2 (.s 42) none (some (.s 43)) none)⟩,
      ⟨(some 45), some undefA, none, false, .ha (.cpy 2 (.s 41) (.s 44))⟩,
      ⟨(some 46), some undefA, none, false, .pu (.bin .add (.s 38) (.s 45))⟩,
      ⟨(some 8), some undefA, none, false, .pu (.mov (.s 46))⟩])))))
 (.seq (.ops [⟨(some 47), some undefA, none, false, .pu (.mov (.s 7))⟩,
   ⟨(some 4), some undefA, none, false, .pu (.mov (.s 47))⟩])
 (.ret))))))))⟩
theorem t63 : trF Try.prog [] [] Try.f63 = some m63 := by kernel_rfl
/-- selion/frac.Of [] -/
def m64 : MFun := ⟨20, [4], [.bget none 4 0 2 true],
 .seq (.ops [⟨(some 4), some (.junk), none, false, .pu (.bnew (.c (.agg [.int .i64 0, .int .i64 0])))⟩])
 (.seq (.ops [⟨(some 6), some undefA, none, false, .pu (.mov (.s 0))⟩,
   ⟨(some 7), some undefA, none, false, .pu (.mov (.s 1))⟩,
   ⟨(some 8), some undefA, none, false, .call 101 [(.s 6), (.s 7)]⟩,
   ⟨(some 5), some undefA, none, false, .pu (.mov (.s 8))⟩])
 (.seq (.seq (.ops [⟨(some 9), some undefA, none, false, .pu (.mov (.s 1))⟩,
   ⟨(some 10), some undefA, none, false, .pu (.bin .lss (.s 9) (.c (.int .i64 0)))⟩])
 (.cond (.s 10) (.ops [⟨(some 11), some undefA, none, false, .pu (.mov (.s 5))⟩,
    ⟨(some 12), some undefA, none, false, .pu (.neg (.s 11))⟩,
    ⟨(some 5), some undefA, none, false, .pu (.mov (.s 12))⟩])
 (.skip)))
 (.seq (.ops [⟨(some 13), some undefA, none, false, .pu (.mov (.s 0))⟩,
   ⟨(some 14), some undefA, none, false, .pu (.mov (.s 5))⟩,
   ⟨(some 15), some undefA, none, false, .pu (.bin .quo (.s 13) (.s 14))⟩,
   ⟨(some 16), some undefA, none, false, .pu (.mov (.s 1))⟩,
   ⟨(some 17), some undefA, none, false, .pu (.mov (.s 5))⟩,
   ⟨(some 18), some undefA, none, false, .pu (.bin .quo (.s 16) (.s 17))⟩,
   ⟨(some 19), some undefA, none, false, .pu (.build [.int .i64 0, .int .i64 0] [(0, 1, (.s 15)), (1, 1, (.s 18))])⟩,
   ⟨(some 4), none, none, false, .pu (.bset none 4 0 2 (.s 19))⟩])
 (.ret))))⟩
theorem t64 : trF Try.prog [4] [] Try.f64 = some m64 := by kernel_rfl
/-- selion/soil.total [] -/
def m65 : MFun := ⟨5, [], [.mov (.s 2)],
 .seq (.ops [⟨(some 2), some undefA, none, false, .pu (.mov (.c (.int .i64 0)))⟩])
 (.seq (.ops [⟨(some 3), some undefA, none, false, .pu (.mov (.s 0))⟩,
   ⟨(some 4), some undefA, none, false, .call 102 [(.s 3), (.c (.fn 103 []))]⟩,
   ⟨(some 2), some undefA, none, false, .pu (.mov (.s 4))⟩])
 (.ret))⟩
theorem t65 : trF Try.prog [] [] Try.f65 = some m65 := by kernel_rfl
/-- selion/selionref02.within [] -/
def m66 : MFun := ⟨15, [], [.mov (.s 6)],
 .seq (.ops [⟨(some 6), some undefA, none, false, .pu (.mov (.c (.bool false)))⟩])
 (.seq (.ops [⟨(some 7), some undefA, none, false, .pu (.mov (.s 0))⟩,
   ⟨(some 8), some undefA, none, false, .pu (.mov (.s 1))⟩,
   ⟨(some 9), some undefA, none, false, .pu (.bin .geq (.s 7) (.s 8))⟩,
   ⟨(some 10), some undefA, none, false, .pu (.mov (.s 9))⟩,
   ⟨(some 11), some undefA, (some (10, true)), false, .pu (.mov (.s 0))⟩,
   ⟨(some 12), some undefA, (some (10, true)), false, .pu (.mov (.s 2))⟩,
   ⟨(some 13), some undefA, (some (10, true)), false, .pu (.bin .leq (.s 11) (.s 12))⟩,
   ⟨(some 14), some undefA, none, false, .pu (.pick (.s 10) (.s 13) (.c (.bool false)))⟩,
   ⟨(some 6), some undefA, none, false, .pu (.mov (.s 14))⟩])
 (.ret))⟩
theorem t66 : trF Try.prog [] [] Try.f66 = some m66 := by kernel_rfl
/-- selion/frac.Cmp [] -/
def m72 : MFun := ⟨9, [2, 3], [.mov (.s 4)],
 .seq (.ops [⟨(some 2), some (.junk), none, false, .pu (.bnew (.s 0))⟩,
   ⟨(some 3), some (.junk), none, false, .pu (.bnew (.s 1))⟩,
   ⟨(some 4), some undefA, none, false, .pu (.mov (.c (.int .i64 0)))⟩])
 (.seq (.ops [⟨(some 5), some undefA, none, false, .pu (.bget none 2 0 2 true)⟩,
   ⟨(some 6), some undefA, none, false, .pu (.bget none 3 0 2 true)⟩,
   ⟨(some 7), some undefA, none, false, .call 106 [(.s 5), (.s 6)]⟩,
   ⟨(some 8), some undefA, none, false, .pu (.part 0 1 false (.s 7))⟩,
   ⟨(some 4), some undefA, none, false, .pu (.mov (.s 8))⟩])
 (.ret))⟩
theorem t72 : trF Try.prog [2, 3] [] Try.f72 = some m72 := by kernel_rfl
/-- selion/soil.worth [loop [4, 5, 6, 7, 8, 14, 15, 16]] -/
def m73 : MFun := ⟨49, [4, 5, 6, 7, 10, 11, 12], [.bget none 6 0 2 true],
 .seq (.ops [⟨(some 4), some (.junk), none, false, .pu (.bnew (.s 1))⟩,
   ⟨(some 5), some (.junk), none, false, .pu (.bnew (.s 2))⟩,
   ⟨(some 6), some (.junk), none, false, .pu (.bnew (.c (.agg [.int .i64 0, .int .i64 0])))⟩])
 (.seq (.ops [⟨(some 13), some undefA, none, false, .call 78 [(.c (.int .i64 0))]⟩,
   ⟨(some 7), some (.junk), none, false, .pu (.bnew (.c (.agg [.int .i64 0, .int .i64 0])))⟩,
   ⟨(some 7), none, none, false, .pu (.bset none 7 0 2 (.s 13))⟩])
 (.seq (.ops [⟨(some 8), some undefA, none, false, .pu (.mov (.c (.int .i64 0)))⟩])
 (.seq (.seq (.ops [⟨(some 14), some undefA, none, false, .pu (.mov (.s 0))⟩,
   ⟨(some 15), some undefA, none, false, .pu (.len (.s 14))⟩,
   ⟨(some 16), some undefA, none, false, .pu (.mov (.c (.int .i64 0)))⟩])
 (.block 0 (.loop (.seq (.ops [⟨(some 17), some undefA, none, false, .pu (.bin .lss (.s 16) (.s 15))⟩])
   (.seq (.cond (.s 17) (.skip)
   (.exit 0))
   (.seq (.block 1 (.seq (.ops [⟨(some 18), some undefA, none, false, .pu (.idx 2 (.s 14) (.s 16))⟩,
      ⟨(some 19), some undefA, none, false, .ld (.ld 2 true (.s 18))⟩,
      ⟨(some 10), some (.junk), none, false, .pu (.bnew (.c (.agg [.int .i64 0, .int .i64 0])))⟩,
      ⟨(some 10), none, none, false, .pu (.bset none 10 0 2 (.s 19))⟩])
    (.seq (.ops [⟨(some 20), some undefA, none, false, .pu (.bget none 4 0 2 true)⟩,
      ⟨(some 21), some undefA, none, false, .pu (.mov (.s 8))⟩,
      ⟨(some 22), some undefA, none, false, .call 78 [(.s 21)]⟩,
      ⟨(some 23), some undefA, none, false, .call 107 [(.s 20), (.s 22)]⟩,
      ⟨(some 24), some undefA, none, false, .pu (.bget none 5 0 2 true)⟩,
      ⟨(some 25), some undefA, none, false, .pu (.mov (.s 8))⟩,
      ⟨(some 26), some undefA, none, false, .pu (.badr none 10)⟩,
      ⟨(some 27), some undefA, none, false, .pu (.bget (some 26) 10 0 1 false)⟩,
      ⟨(some 28), some undefA, none, false, .pu (.bin .add (.s 25) (.s 27))⟩,
      ⟨(some 29), some undefA, none, false, .call 78 [(.s 28)]⟩,
      ⟨(some 30), some undefA, none, false, .call 108 [(.s 24), (.s 29)]⟩,
      ⟨(some 11), some (.junk), none, false, .pu (.bnew (.c (.agg [.int .i64 0, .int .i64 0])))⟩,
      ⟨(some 12), some (.junk), none, false, .pu (.bnew (.c (.agg [.int .i64 0, .int .i64 0])))⟩,
      ⟨(some 11), none, none, false, .pu (.bset none 11 0 2 (.s 23))⟩,
      ⟨(some 12), none, none, false, .pu (.bset none 12 0 2 (.s 30))⟩])
    (.seq (.seq (.ops [⟨(some 31), some undefA, none, false, .pu (.bget none 11 0 2 true)⟩,
      ⟨(some 32), some undefA, none, false, .pu (.bget none 12 0 2 true)⟩,
      ⟨(some 33), some undefA, none, false, .call 72 [(.s 31), (.s 32)]⟩,
      ⟨(some 34), some undefA, none, false, .pu (.bin .lss (.s 33) (.c (.int .i64 0)))⟩])
    (.cond (.s 34) (.ops [⟨(some 35), some undefA, none, false, .pu (.bget none 7 0 2 true)⟩,
       ⟨(some 36), some undefA, none, false, .pu (.bget none 12 0 2 true)⟩,
       ⟨(some 37), some undefA, none, false, .pu (.bget none 11 0 2 true)⟩,
       ⟨(some 38), some undefA, none, false, .call 106 [(.s 36), (.s 37)]⟩,
       ⟨(some 39), some undefA, none, false, .pu (.badr none 10)⟩,
       ⟨(some 40), some undefA, none, false, .pu (.bget (some 39) 10 1 1 false)⟩,
       ⟨(some 41), some undefA, none, false, .call 110 [(.s 38), (.s 40)]⟩,
       ⟨(some 42), some undefA, none, false, .call 109 [(.s 35), (.s 41)]⟩,
       ⟨(some 7), none, none, false, .pu (.bset none 7 0 2 (.s 42))⟩])
    (.skip)))
    (.ops [⟨(some 43), some undefA, none, false, .pu (.mov (.s 8))⟩,
      ⟨(some 44), some undefA, none, false, .pu (.badr none 10)⟩,
      ⟨(some 45), some undefA, none, false, .pu (.bget (some 44) 10 0 1 false)⟩,
      ⟨(some 46), some undefA, none, false, .pu (.bin .add (.s 43) (.s 45))⟩,
      ⟨(some 8), some undefA, none, false, .pu (.mov (.s 46))⟩])))))
   (.ops [⟨(some 47), some undefA, none, false, .pu (.bin .add (.s 16) (.c (.int .i64 1)))⟩,
     ⟨(some 16), some undefA, none, false, .pu (.mov (.s 47))⟩])))))))
 (.seq (.ops [⟨(some 48), some undefA, none, false, .pu (.bget none 7 0 2 true)⟩,
   ⟨(some 6), none, none, false, .pu (.bset none 6 0 2 (.s 48))⟩])
 (.ret)))))⟩
theorem t73 : trF Try.prog [4, 5, 6, 7, 10, 11, 12] [] Try.f73 = some m73 := by kernel_rfl
/-- selion/soil.length [] -/
def m77 : MFun := ⟨5, [], [.mov (.s 2)],
 .seq (.ops [⟨(some 2), some undefA, none, false, .pu (.mov (.c (.int .i64 0)))⟩])
 (.seq (.ops [⟨(some 3), some undefA, none, false, .pu (.mov (.s 0))⟩,
   ⟨(some 4), some undefA, none, false, .call 102 [(.s 3), (.c (.fn 111 []))]⟩,
   ⟨(some 2), some undefA, none, false, .pu (.mov (.s 4))⟩])
 (.ret))⟩
theorem t77 : trF Try.prog [] [] Try.f77 = some m77 := by kernel_rfl
/-- selion/frac.Int [] -/
def m78 : MFun := ⟨5, [2], [.bget none 2 0 2 true],
 .seq (.ops [⟨(some 2), some (.junk), none, false, .pu (.bnew (.c (.agg [.int .i64 0, .int .i64 0])))⟩])
 (.seq (.ops [⟨(some 3), some undefA, none, false, .pu (.mov (.s 0))⟩,
   ⟨(some 4), some undefA, none, false, .pu (.build [.int .i64 0, .int .i64 0] [(0, 1, (.s 3)), (1, 1, (.c (.int .i64 1)))])⟩,
   ⟨(some 2), none, none, false, .pu (.bset none 2 0 2 (.s 4))⟩])
 (.ret))⟩
theorem t78 : trF Try.prog [2] [] Try.f78 = some m78 := by kernel_rfl
/-- selion/soil.place [loop [4, 5, 6, 8, 18, 19, 20]] -/
def m80 : MFun := ⟨62, [4, 5, 6, 10, 11, 12, 13], [.bget none 6 0 2 true, .mov (.s 7)],
 .seq (.ops [⟨(some 4), some (.junk), none, false, .pu (.bnew (.s 1))⟩,
   ⟨(some 5), some (.junk), none, false, .pu (.bnew (.s 2))⟩,
   ⟨(some 6), some (.junk), none, false, .pu (.bnew (.c (.agg [.int .i64 0, .int .i64 0])))⟩,
   ⟨(some 7), some undefA, none, false, .pu (.mov (.c (.bool false)))⟩])
 (.seq (.seq (.ops [⟨(some 14), some undefA, none, false, .pu (.badr none 5)⟩,
   ⟨(some 15), some undefA, none, false, .pu (.bget (some 14) 5 0 1 false)⟩,
   ⟨(some 16), some undefA, none, false, .pu (.bin .eql (.s 15) (.c (.int .i64 0)))⟩])
 (.cond (.s 16) (.seq (.ops [⟨(some 17), some undefA, none, false, .pu (.bget none 4 0 2 true)⟩,
    ⟨(some 6), none, none, false, .pu (.bset none 6 0 2 (.s 17))⟩,
    ⟨(some 7), some undefA, none, false, .pu (.mov (.c (.bool true)))⟩])
  (.ret))
 (.skip)))
 (.seq (.ops [⟨(some 8), some undefA, none, false, .pu (.mov (.c (.int .i64 0)))⟩])
 (.seq (.seq (.ops [⟨(some 18), some undefA, none, false, .pu (.mov (.s 0))⟩,
   ⟨(some 19), some undefA, none, false, .pu (.len (.s 18))⟩,
   ⟨(some 20), some undefA, none, false, .pu (.mov (.c (.int .i64 0)))⟩])
 (.block 0 (.loop (.seq (.ops [⟨(some 21), some undefA, none, false, .pu (.bin .lss (.s 20) (.s 19))⟩])
   (.seq (.cond (.s 21) (.skip)
   (.exit 0))
   (.seq (.block 1 (.seq (.ops [⟨(some 22), some undefA, none, false, .pu (.idx 2 (.s 18) (.s 20))⟩,
      ⟨(some 23), some undefA, none, false, .ld (.ld 2 true (.s 22))⟩,
      ⟨(some 10), some (.junk), none, false, .pu (.bnew (.c (.agg [.int .i64 0, .int .i64 0])))⟩,
      ⟨(some 10), none, none, false, .pu (.bset none 10 0 2 (.s 23))⟩])
    (.seq (.ops [⟨(some 24), some undefA, none, false, .pu (.bget none 4 0 2 true)⟩,
      ⟨(some 25), some undefA, none, false, .pu (.mov (.s 8))⟩,
      ⟨(some 26), some undefA, none, false, .call 78 [(.s 25)]⟩,
      ⟨(some 27), some undefA, none, false, .call 107 [(.s 24), (.s 26)]⟩,
      ⟨(some 28), some undefA, none, false, .pu (.mov (.s 8))⟩,
      ⟨(some 29), some undefA, none, false, .pu (.badr none 10)⟩,
      ⟨(some 30), some undefA, none, false, .pu (.bget (some 29) 10 0 1 false)⟩,
      ⟨(some 31), some undefA, none, false, .pu (.bin .add (.s 28) (.s 30))⟩,
      ⟨(some 32), some undefA, none, false, .call 78 [(.s 31)]⟩,
      ⟨(some 11), some (.junk), none, false, .pu (.bnew (.c (.agg [.int .i64 0, .int .i64 0])))⟩,
      ⟨(some 12), some (.junk), none, false, .pu (.bnew (.c (.agg [.int .i64 0, .int .i64 0])))⟩,
      ⟨(some 11), none, none, false, .pu (.bset none 11 0 2 (.s 27))⟩,
      ⟨(some 12), none, none, false, .pu (.bset none 12 0 2 (.s 32))⟩])
    (.seq (.ops [⟨(some 33), some undefA, none, false, .pu (.mov (.s 8))⟩,
      ⟨(some 34), some undefA, none, false, .pu (.badr none 10)⟩,
      ⟨(some 35), some undefA, none, false, .pu (.bget (some 34) 10 0 1 false)⟩,
      ⟨(some 36), some undefA, none, false, .pu (.bin .add (.s 33) (.s 35))⟩,
      ⟨(some 8), some undefA, none, false, .pu (.mov (.s 36))⟩])
    (.seq (.seq (.ops [⟨(some 37), some undefA, none, false, .pu (.bget none 11 0 2 true)⟩,
      ⟨(some 38), some undefA, none, false, .pu (.bget none 12 0 2 true)⟩,
      ⟨(some 39), some undefA, none, false, .call 72 [(.s 37), (.s 38)]⟩,
      ⟨(some 40), some undefA, none, false, .pu (.bin .geq (.s 39) (.c (.int .i64 0)))⟩])
    (.cond (.s 40) (.exit 1)
    (.skip)))
    (.seq (.ops [⟨(some 41), some undefA, none, false, .pu (.bget none 12 0 2 true)⟩,
      ⟨(some 42), some undefA, none, false, .pu (.bget none 11 0 2 true)⟩,
      ⟨(some 43), some undefA, none, false, .call 106 [(.s 41), (.s 42)]⟩,
      ⟨(some 44), some undefA, none, false, .pu (.badr none 10)⟩,
      ⟨(some 45), some undefA, none, false, .pu (.bget (some 44) 10 1 1 false)⟩,
      ⟨(some 46), some undefA, none, false, .call 110 [(.s 43), (.s 45)]⟩,
      ⟨(some 13), some (.junk), none, false, .pu (.bnew (.c (.agg [.int .i64 0, .int .i64 0])))⟩,
      ⟨(some 13), none, none, false, .pu (.bset none 13 0 2 (.s 46))⟩])
    (.seq (.seq (.ops [⟨(some 47), some undefA, none, false, .pu (.bget none 13 0 2 true)⟩,
      ⟨(some 48), some undefA, none, false, .pu (.bget none 5 0 2 true)⟩,
      ⟨(some 49), some undefA, none, false, .call 72 [(.s 47), (.s 48)]⟩,
      ⟨(some 50), some undefA, none, false, .pu (.bin .geq (.s 49) (.c (.int .i64 0)))⟩])
    (.cond (.s 50) (.seq (.ops [⟨(some 51), some undefA, none, false, .pu (.bget none 11 0 2 true)⟩,
       ⟨(some 52), some undefA, none, false, .pu (.bget none 5 0 2 true)⟩,
       ⟨(some 53), some undefA, none, false, .pu (.badr none 10)⟩,
       ⟨(some 54), some undefA, none, false, .pu (.bget (some 53) 10 1 1 false)⟩,
       ⟨(some 55), some undefA, none, false, .call 112 [(.s 52), (.s 54)]⟩,
       ⟨(some 56), some undefA, none, false, .call 109 [(.s 51), (.s 55)]⟩,
       ⟨(some 6), none, none, false, .pu (.bset none 6 0 2 (.s 56))⟩,
       ⟨(some 7), some undefA, none, false, .pu (.mov (.c (.bool true)))⟩])
     (.ret))
    (.skip)))
    (.ops [⟨(some 57), some undefA, none, false, .pu (.bget none 5 0 2 true)⟩,
      ⟨(some 58), some undefA, none, false, .pu (.bget none 13 0 2 true)⟩,
      ⟨(some 59), some undefA, none, false, .call 106 [(.s 57), (.s 58)]⟩,
      ⟨(some 5), none, none, false, .pu (.bset none 5 0 2 (.s 59))⟩]))))))))
   (.ops [⟨(some 60), some undefA, none, false, .pu (.bin .add (.s 20) (.c (.int .i64 1)))⟩,
     ⟨(some 20), some undefA, none, false, .pu (.mov (.s 60))⟩])))))))
 (.seq (.ops [⟨(some 61), some undefA, none, false, .pu (.build [.int .i64 0, .int .i64 0] [])⟩,
   ⟨(some 6), none, none, false, .pu (.bset none 6 0 2 (.s 61))⟩,
   ⟨(some 7), some undefA, none, false, .pu (.mov (.c (.bool false)))⟩])
 (.ret)))))⟩
theorem t80 : trF Try.prog [4, 5, 6, 10, 11, 12, 13] [] Try.f80 = some m80 := by kernel_rfl
/-- math/bits.Mul [] -/
def m100 : MFun := ⟨30, [], [.mov (.s 4), .mov (.s 5)],
 .seq (.ops [⟨(some 4), some undefA, none, false, .pu (.mov (.c (.int .u64 0)))⟩,
   ⟨(some 5), some undefA, none, false, .pu (.mov (.c (.int .u64 0)))⟩])
 (.seq (.cond (.c (.bool false)) (.seq (.ops [⟨(some 11), some undefA, none, false, .pu (.mov (.s 0))⟩,
    ⟨(some 12), some undefA, none, false, .pu (.conv .u32 (.s 11))⟩,
    ⟨(some 13), some undefA, none, false, .pu (.mov (.s 1))⟩,
    ⟨(some 14), some undefA, none, false, .pu (.conv .u32 (.s 13))⟩,
    ⟨(some 15), some undefA, none, false, .call 118 [(.s 12), (.s 14)]⟩,
    ⟨(some 10), some undefA, none, false, .pu (.mov (.s 15))⟩,
    ⟨(some 16), some undefA, none, false, .pu (.extr 0 (.s 10))⟩,
    ⟨(some 17), some undefA, none, false, .pu (.extr 1 (.s 10))⟩,
    ⟨(some 6), some undefA, none, false, .pu (.mov (.s 16))⟩,
    ⟨(some 7), some undefA, none, false, .pu (.mov (.s 17))⟩])
  (.seq (.ops [⟨(some 18), some undefA, none, false, .pu (.mov (.s 6))⟩,
    ⟨(some 19), some undefA, none, false, .pu (.conv .u64 (.s 18))⟩,
    ⟨(some 20), some undefA, none, false, .pu (.mov (.s 7))⟩,
    ⟨(some 21), some undefA, none, false, .pu (.conv .u64 (.s 20))⟩,
    ⟨(some 4), some undefA, none, false, .pu (.mov (.s 19))⟩,
    ⟨(some 5), some undefA, none, false, .pu (.mov (.s 21))⟩])
  (.ret)))
 (.skip))
 (.seq (.ops [⟨(some 23), some undefA, none, false, .pu (.mov (.s 0))⟩,
   ⟨(some 24), some undefA, none, false, .pu (.mov (.s 1))⟩,
   ⟨(some 25), some undefA, none, false, .call 119 [(.s 23), (.s 24)]⟩,
   ⟨(some 22), some undefA, none, false, .pu (.mov (.s 25))⟩,
   ⟨(some 26), some undefA, none, false, .pu (.extr 0 (.s 22))⟩,
   ⟨(some 27), some undefA, none, false, .pu (.extr 1 (.s 22))⟩,
   ⟨(some 8), some undefA, none, false, .pu (.mov (.s 26))⟩,
   ⟨(some 9), some undefA, none, false, .pu (.mov (.s 27))⟩])
 (.seq (.ops [⟨(some 28), some undefA, none, false, .pu (.mov (.s 8))⟩,
   ⟨(some 29), some undefA, none, false, .pu (.mov (.s 9))⟩,
   ⟨(some 4), some undefA, none, false, .pu (.mov (.s 28))⟩,
   ⟨(some 5), some undefA, none, false, .pu (.mov (.s 29))⟩])
 (.ret))))⟩
theorem t100 : trF Try.prog [] [] Try.f100 = some m100 := by kernel_rfl
/-- selion/frac.divisor [loop [0, 1]] -/
def m101 : MFun := ⟨15, [], [.mov (.s 4)],
 .seq (.ops [⟨(some 4), some undefA, none, false, .pu (.mov (.c (.int .i64 0)))⟩])
 (.seq (.block 0 (.loop (.seq (.seq (.ops [⟨(some 5), some undefA, none, false, .pu (.mov (.s 1))⟩,
     ⟨(some 6), some undefA, none, false, .pu (.bin .neq (.s 5) (.c (.int .i64 0)))⟩])
   (.cond (.s 6) (.skip)
   (.exit 0)))
   (.block 1 (.ops [⟨(some 7), some undefA, none, false, .pu (.mov (.s 1))⟩,
      ⟨(some 8), some undefA, none, false, .pu (.mov (.s 0))⟩,
      ⟨(some 9), some undefA, none, false, .pu (.mov (.s 1))⟩,
      ⟨(some 10), some undefA, none, false, .pu (.bin .rem (.s 8) (.s 9))⟩,
      ⟨(some 0), some undefA, none, false, .pu (.mov (.s 7))⟩,
      ⟨(some 1), some undefA, none, false, .pu (.mov (.s 10))⟩])))))
 (.seq (.ops [⟨(some 11), some undefA, none, false, .pu (.mov (.s 0))⟩,
   ⟨(some 12), some undefA, none, false, .pu (.mov (.s 0))⟩,
   ⟨(some 13), some undefA, none, false, .pu (.neg (.s 12))⟩,
   ⟨(some 14), some undefA, none, false, .pu (.mm true (.s 11) [(.s 13)])⟩,
   ⟨(some 4), some undefA, none, false, .pu (.mov (.s 14))⟩])
 (.ret)))⟩
theorem t101 : trF Try.prog [] [] Try.f101 = some m101 := by kernel_rfl
/-- selion/soil.sum [loop [1, 5, 8, 9, 10]] -/
def m102 : MFun := ⟨21, [7], [.mov (.s 4)],
 .seq (.ops [⟨(some 4), some undefA, none, false, .pu (.mov (.c (.int .i64 0)))⟩])
 (.seq (.ops [⟨(some 5), some undefA, none, false, .pu (.mov (.c (.int .i64 0)))⟩])
 (.seq (.seq (.ops [⟨(some 8), some undefA, none, false, .pu (.mov (.s 0))⟩,
   ⟨(some 9), some undefA, none, false, .pu (.len (.s 8))⟩,
   ⟨(some 10), some undefA, none, false, .pu (.mov (.c (.int .i64 0)))⟩])
 (.block 0 (.loop (.seq (.ops [⟨(some 11), some undefA, none, false, .pu (.bin .lss (.s 10) (.s 9))⟩])
   (.seq (.cond (.s 11) (.skip)
   (.exit 0))
   (.seq (.block 1 (.seq (.ops [⟨(some 12), some undefA, none, false, .pu (.idx 2 (.s 8) (.s 10))⟩,
      ⟨(some 13), some undefA, none, false, .ld (.ld 2 true (.s 12))⟩,
      ⟨(some 7), some (.junk), none, false, .pu (.bnew (.c (.agg [.int .i64 0, .int .i64 0])))⟩,
      ⟨(some 7), none, none, false, .pu (.bset none 7 0 2 (.s 13))⟩])
    (.ops [⟨(some 14), some undefA, none, false, .pu (.mov (.s 5))⟩,
      ⟨(some 15), some undefA, none, false, .pu (.mov (.s 1))⟩,
      ⟨(some 16), some undefA, none, false, .pu (.bget none 7 0 2 true)⟩,
      ⟨(some 17), some undefA, none, false, .callv (.s 15) [(.s 16)]⟩,
      ⟨(some 18), some undefA, none, false, .pu (.bin .add (.s 14) (.s 17))⟩,
      ⟨(some 5), some undefA, none, false, .pu (.mov (.s 18))⟩])))
   (.ops [⟨(some 19), some undefA, none, false, .pu (.bin .add (.s 10) (.c (.int .i64 1)))⟩,
     ⟨(some 10), some undefA, none, false, .pu (.mov (.s 19))⟩])))))))
 (.seq (.ops [⟨(some 20), some undefA, none, false, .pu (.mov (.s 5))⟩,
   ⟨(some 4), some undefA, none, false, .pu (.mov (.s 20))⟩])
 (.ret))))⟩
theorem t102 : trF Try.prog [7] [] Try.f102 = some m102 := by kernel_rfl
/-- (selion/soil.zone).worth [] -/
def m103 : MFun := ⟨8, [1], [.mov (.s 2)],
 .seq (.ops [⟨(some 1), some (.junk), none, false, .pu (.bnew (.s 0))⟩,
   ⟨(some 2), some undefA, none, false, .pu (.mov (.c (.int .i64 0)))⟩])
 (.seq (.ops [⟨(some 3), some undefA, none, false, .pu (.badr none 1)⟩,
   ⟨(some 4), some undefA, none, false, .pu (.bget (some 3) 1 0 1 false)⟩,
   ⟨(some 5), some undefA, none, false, .pu (.badr none 1)⟩,
   ⟨(some 6), some undefA, none, false, .pu (.bget (some 5) 1 1 1 false)⟩,
   ⟨(some 7), some undefA, none, false, .pu (.bin .mul (.s 4) (.s 6))⟩,
   ⟨(some 2), some undefA, none, false, .pu (.mov (.s 7))⟩])
 (.ret))⟩
theorem t103 : trF Try.prog [1] [] Try.f103 = some m103 := by kernel_rfl
/-- selion/frac.Sub [] -/
def m106 : MFun := ⟨13, [2, 3, 4], [.bget none 4 0 2 true],
 .seq (.ops [⟨(some 2), some (.junk), none, false, .pu (.bnew (.s 0))⟩,
   ⟨(some 3), some (.junk), none, false, .pu (.bnew (.s 1))⟩,
   ⟨(some 4), some (.junk), none, false, .pu (.bnew (.c (.agg [.int .i64 0, .int .i64 0])))⟩])
 (.seq (.ops [⟨(some 5), some undefA, none, false, .pu (.bget none 2 0 2 true)⟩,
   ⟨(some 6), some undefA, none, false, .pu (.badr none 3)⟩,
   ⟨(some 7), some undefA, none, false, .pu (.bget (some 6) 3 0 1 false)⟩,
   ⟨(some 8), some undefA, none, false, .pu (.neg (.s 7))⟩,
   ⟨(some 9), some undefA, none, false, .pu (.badr none 3)⟩,
   ⟨(some 10), some undefA, none, false, .pu (.bget (some 9) 3 1 1 false)⟩,
   ⟨(some 11), some undefA, none, false, .pu (.build [.int .i64 0, .int .i64 0] [(0, 1, (.s 8)), (1, 1, (.s 10))])⟩,
   ⟨(some 12), some undefA, none, false, .call 109 [(.s 5), (.s 11)]⟩,
   ⟨(some 4), none, none, false, .pu (.bset none 4 0 2 (.s 12))⟩])
 (.ret))⟩
theorem t106 : trF Try.prog [2, 3, 4] [] Try.f106 = some m106 := by kernel_rfl
/-- selion/frac.Max [] -/
def m107 : MFun := ⟨11, [2, 3, 4], [.bget none 4 0 2 true],
 .seq (.ops [⟨(some 2), some (.junk), none, false, .pu (.bnew (.s 0))⟩,
   ⟨(some 3), some (.junk), none, false, .pu (.bnew (.s 1))⟩,
   ⟨(some 4), some (.junk), none, false, .pu (.bnew (.c (.agg [.int .i64 0, .int .i64 0])))⟩])
 (.seq (.seq (.ops [⟨(some 5), some undefA, none, false, .pu (.bget none 2 0 2 true)⟩,
   ⟨(some 6), some undefA, none, false, .pu (.bget none 3 0 2 true)⟩,
   ⟨(some 7), some undefA, none, false, .call 72 [(.s 5), (.s 6)]⟩,
   ⟨(some 8), some undefA, none, false, .pu (.bin .gtr (.s 7) (.c (.int .i64 0)))⟩])
 (.cond (.s 8) (.seq (.ops [⟨(some 9), some undefA, none, false, .pu (.bget none 2 0 2 true)⟩,
    ⟨(some 4), none, none, false, .pu (.bset none 4 0 2 (.s 9))⟩])
  (.ret))
 (.skip)))
 (.seq (.ops [⟨(some 10), some undefA, none, false, .pu (.bget none 3 0 2 true)⟩,
   ⟨(some 4), none, none, false, .pu (.bset none 4 0 2 (.s 10))⟩])
 (.ret)))⟩
theorem t107 : trF Try.prog [2, 3, 4] [] Try.f107 = some m107 := by kernel_rfl
/-- selion/frac.Min [] -/
def m108 : MFun := ⟨11, [2, 3, 4], [.bget none 4 0 2 true],
 .seq (.ops [⟨(some 2), some (.junk), none, false, .pu (.bnew (.s 0))⟩,
   ⟨(some 3), some (.junk), none, false, .pu (.bnew (.s 1))⟩,
   ⟨(some 4), some (.junk), none, false, .pu (.bnew (.c (.agg [.int .i64 0, .int .i64 0])))⟩])
 (.seq (.seq (.ops [⟨(some 5), some undefA, none, false, .pu (.bget none 2 0 2 true)⟩,
   ⟨(some 6), some undefA, none, false, .pu (.bget none 3 0 2 true)⟩,
   ⟨(some 7), some undefA, none, false, .call 72 [(.s 5), (.s 6)]⟩,
   ⟨(some 8), some undefA, none, false, .pu (.bin .lss (.s 7) (.c (.int .i64 0)))⟩])
 (.cond (.s 8) (.seq (.ops [⟨(some 9), some undefA, none, false, .pu (.bget none 2 0 2 true)⟩,
    ⟨(some 4), none, none, false, .pu (.bset none 4 0 2 (.s 9))⟩])
  (.ret))
 (.skip)))
 (.seq (.ops [⟨(some 10), some undefA, none, false, .pu (.bget none 3 0 2 true)⟩,
   ⟨(some 4), none, none, false, .pu (.bset none 4 0 2 (.s 10))⟩])
 (.ret)))⟩
theorem t108 : trF Try.prog [2, 3, 4] [] Try.f108 = some m108 := by kernel_rfl
/-- selion/frac.Add [] -/
def m109 : MFun := ⟨34, [2, 3, 4], [.bget none 4 0 2 true],
 .seq (.ops [⟨(some 2), some (.junk), none, false, .pu (.bnew (.s 0))⟩,
   ⟨(some 3), some (.junk), none, false, .pu (.bnew (.s 1))⟩,
   ⟨(some 4), some (.junk), none, false, .pu (.bnew (.c (.agg [.int .i64 0, .int .i64 0])))⟩])
 (.seq (.ops [⟨(some 6), some undefA, none, false, .pu (.badr none 2)⟩,
   ⟨(some 7), some undefA, none, false, .pu (.bget (some 6) 2 1 1 false)⟩,
   ⟨(some 8), some undefA, none, false, .pu (.badr none 3)⟩,
   ⟨(some 9), some undefA, none, false, .pu (.bget (some 8) 3 1 1 false)⟩,
   ⟨(some 10), some undefA, none, false, .call 101 [(.s 7), (.s 9)]⟩,
   ⟨(some 5), some undefA, none, false, .pu (.mov (.s 10))⟩])
 (.seq (.ops [⟨(some 11), some undefA, none, false, .pu (.badr none 2)⟩,
   ⟨(some 12), some undefA, none, false, .pu (.bget (some 11) 2 0 1 false)⟩,
   ⟨(some 13), some undefA, none, false, .pu (.badr none 3)⟩,
   ⟨(some 14), some undefA, none, false, .pu (.bget (some 13) 3 1 1 false)⟩,
   ⟨(some 15), some undefA, none, false, .pu (.mov (.s 5))⟩,
   ⟨(some 16), some undefA, none, false, .pu (.bin .quo (.s 14) (.s 15))⟩,
   ⟨(some 17), some undefA, none, false, .pu (.bin .mul (.s 12) (.s 16))⟩,
   ⟨(some 18), some undefA, none, false, .pu (.badr none 3)⟩,
   ⟨(some 19), some undefA, none, false, .pu (.bget (some 18) 3 0 1 false)⟩,
   ⟨(some 20), some undefA, none, false, .pu (.badr none 2)⟩,
   ⟨(some 21), some undefA, none, false, .pu (.bget (some 20) 2 1 1 false)⟩,
   ⟨(some 22), some undefA, none, false, .pu (.mov (.s 5))⟩,
   ⟨(some 23), some undefA, none, false, .pu (.bin .quo (.s 21) (.s 22))⟩,
   ⟨(some 24), some undefA, none, false, .pu (.bin .mul (.s 19) (.s 23))⟩,
   ⟨(some 25), some undefA, none, false, .pu (.bin .add (.s 17) (.s 24))⟩,
   ⟨(some 26), some undefA, none, false, .pu (.badr none 2)⟩,
   ⟨(some 27), some undefA, none, false, .pu (.bget (some 26) 2 1 1 false)⟩,
   ⟨(some 28), some undefA, none, false, .pu (.mov (.s 5))⟩,
   ⟨(some 29), some undefA, none, false, .pu (.bin .quo (.s 27) (.s 28))⟩,
   ⟨(some 30), some undefA, none, false, .pu (.badr none 3)⟩,
   ⟨(some 31), some undefA, none, false, .pu (.bget (some 30) 3 1 1 false)⟩,
   ⟨(some 32), some undefA, none, false, .pu (.bin .mul (.s 29) (.s 31))⟩,
   ⟨(some 33), some undefA, none, false, .call 64 [(.s 25), (.s 32)]⟩,
   ⟨(some 4), none, none, false, .pu (.bset none 4 0 2 (.s 33))⟩])
 (.ret)))⟩
theorem t109 : trF Try.prog [2, 3, 4] [] Try.f109 = some m109 := by kernel_rfl
/-- selion/frac.Mul [] -/
def m110 : MFun := ⟨18, [2, 4, 5], [.bget none 4 0 2 true],
 .seq (.ops [⟨(some 2), some (.junk), none, false, .pu (.bnew (.s 0))⟩,
   ⟨(some 4), some (.junk), none, false, .pu (.bnew (.c (.agg [.int .i64 0, .int .i64 0])))⟩])
 (.seq (.ops [⟨(some 6), some undefA, none, false, .pu (.mov (.s 1))⟩,
   ⟨(some 7), some undefA, none, false, .pu (.badr none 2)⟩,
   ⟨(some 8), some undefA, none, false, .pu (.bget (some 7) 2 1 1 false)⟩,
   ⟨(some 9), some undefA, none, false, .call 64 [(.s 6), (.s 8)]⟩,
   ⟨(some 5), some (.junk), none, false, .pu (.bnew (.c (.agg [.int .i64 0, .int .i64 0])))⟩,
   ⟨(some 5), none, none, false, .pu (.bset none 5 0 2 (.s 9))⟩])
 (.seq (.ops [⟨(some 10), some undefA, none, false, .pu (.badr none 2)⟩,
   ⟨(some 11), some undefA, none, false, .pu (.bget (some 10) 2 0 1 false)⟩,
   ⟨(some 12), some undefA, none, false, .pu (.badr none 5)⟩,
   ⟨(some 13), some undefA, none, false, .pu (.bget (some 12) 5 0 1 false)⟩,
   ⟨(some 14), some undefA, none, false, .pu (.bin .mul (.s 11) (.s 13))⟩,
   ⟨(some 15), some undefA, none, false, .pu (.badr none 5)⟩,
   ⟨(some 16), some undefA, none, false, .pu (.bget (some 15) 5 1 1 false)⟩,
   ⟨(some 17), some undefA, none, false, .call 64 [(.s 14), (.s 16)]⟩,
   ⟨(some 4), none, none, false, .pu (.bset none 4 0 2 (.s 17))⟩])
 (.ret)))⟩
theorem t110 : trF Try.prog [2, 4, 5] [] Try.f110 = some m110 := by kernel_rfl
/-- (selion/soil.zone).length [] -/
def m111 : MFun := ⟨5, [1], [.mov (.s 2)],
 .seq (.ops [⟨(some 1), some (.junk), none, false, .pu (.bnew (.s 0))⟩,
   ⟨(some 2), some undefA, none, false, .pu (.mov (.c (.int .i64 0)))⟩])
 (.seq (.ops [⟨(some 3), some undefA, none, false, .pu (.badr none 1)⟩,
   ⟨(some 4), some undefA, none, false, .pu (.bget (some 3) 1 0 1 false)⟩,
   ⟨(some 2), some undefA, none, false, .pu (.mov (.s 4))⟩])
 (.ret))⟩
theorem t111 : trF Try.prog [1] [] Try.f111 = some m111 := by kernel_rfl
/-- selion/frac.Div [] -/
def m112 : MFun := ⟨18, [2, 4, 5], [.bget none 4 0 2 true],
 .seq (.ops [⟨(some 2), some (.junk), none, false, .pu (.bnew (.s 0))⟩,
   ⟨(some 4), some (.junk), none, false, .pu (.bnew (.c (.agg [.int .i64 0, .int .i64 0])))⟩])
 (.seq (.ops [⟨(some 6), some undefA, none, false, .pu (.badr none 2)⟩,
   ⟨(some 7), some undefA, none, false, .pu (.bget (some 6) 2 0 1 false)⟩,
   ⟨(some 8), some undefA, none, false, .pu (.mov (.s 1))⟩,
   ⟨(some 9), some undefA, none, false, .call 64 [(.s 7), (.s 8)]⟩,
   ⟨(some 5), some (.junk), none, false, .pu (.bnew (.c (.agg [.int .i64 0, .int .i64 0])))⟩,
   ⟨(some 5), none, none, false, .pu (.bset none 5 0 2 (.s 9))⟩])
 (.seq (.ops [⟨(some 10), some undefA, none, false, .pu (.badr none 5)⟩,
   ⟨(some 11), some undefA, none, false, .pu (.bget (some 10) 5 0 1 false)⟩,
   ⟨(some 12), some undefA, none, false, .pu (.badr none 5)⟩,
   ⟨(some 13), some undefA, none, false, .pu (.bget (some 12) 5 1 1 false)⟩,
   ⟨(some 14), some undefA, none, false, .pu (.badr none 2)⟩,
   ⟨(some 15), some undefA, none, false, .pu (.bget (some 14) 2 1 1 false)⟩,
   ⟨(some 16), some undefA, none, false, .pu (.bin .mul (.s 13) (.s 15))⟩,
   ⟨(some 17), some undefA, none, false, .call 64 [(.s 11), (.s 16)]⟩,
   ⟨(some 4), none, none, false, .pu (.bset none 4 0 2 (.s 17))⟩])
 (.ret)))⟩
theorem t112 : trF Try.prog [2, 4, 5] [] Try.f112 = some m112 := by kernel_rfl
/-- cmp.Or[selion/api.Errno] [loop [3, 6, 7, 8]] -/
def m113 : MFun := ⟨18, [], [.mov (.s 2)],
 .seq (.ops [⟨(some 2), some undefA, none, false, .pu (.mov (.c (.int .i64 0)))⟩])
 (.seq (.ops [⟨(some 3), some undefA, none, false, .pu (.mov (.c (.int .i64 0)))⟩])
 (.seq (.seq (.ops [⟨(some 6), some undefA, none, false, .pu (.mov (.s 0))⟩,
   ⟨(some 7), some undefA, none, false, .pu (.len (.s 6))⟩,
   ⟨(some 8), some undefA, none, false, .pu (.mov (.c (.int .i64 0)))⟩])
 (.block 0 (.loop (.seq (.ops [⟨(some 9), some undefA, none, false, .pu (.bin .lss (.s 8) (.s 7))⟩])
   (.seq (.cond (.s 9) (.skip)
   (.exit 0))
   (.seq (.block 1 (.seq (.ops [⟨(some 10), some undefA, none, false, .pu (.idx 1 (.s 6) (.s 8))⟩,
      ⟨(some 11), some undefA, none, false, .ld (.ld 1 false (.s 10))⟩,
      ⟨(some 5), some undefA, none, false, .pu (.mov (.s 11))⟩])
    (.seq (.ops [⟨(some 12), some undefA, none, false, .pu (.mov (.s 5))⟩,
      ⟨(some 13), some undefA, none, false, .pu (.mov (.s 3))⟩,
      ⟨(some 14), some undefA, none, false, .pu (.bin .neq (.s 12) (.s 13))⟩])
    (.cond (.s 14) (.seq (.ops [⟨(some 15), some undefA, none, false, .pu (.mov (.s 5))⟩,
       ⟨(some 2), some undefA, none, false, .pu (.mov (.s 15))⟩])
     (.ret))
    (.skip)))))
   (.ops [⟨(some 16), some undefA, none, false, .pu (.bin .add (.s 8) (.c (.int .i64 1)))⟩,
     ⟨(some 8), some undefA, none, false, .pu (.mov (.s 16))⟩])))))))
 (.seq (.ops [⟨(some 17), some undefA, none, false, .pu (.mov (.s 3))⟩,
   ⟨(some 2), some undefA, none, false, .pu (.mov (.s 17))⟩])
 (.ret))))⟩
theorem t113 : trF Try.prog [] [] Try.f113 = some m113 := by kernel_rfl
/-- math/bits.Mul32 [] -/
def m118 : MFun := ⟨17, [], [.mov (.s 4), .mov (.s 5)],
 .seq (.ops [⟨(some 4), some undefA, none, false, .pu (.mov (.c (.int .u32 0)))⟩,
   ⟨(some 5), some undefA, none, false, .pu (.mov (.c (.int .u32 0)))⟩])
 (.seq (.ops [⟨(some 7), some undefA, none, false, .pu (.mov (.s 0))⟩,
   ⟨(some 8), some undefA, none, false, .pu (.conv .u64 (.s 7))⟩,
   ⟨(some 9), some undefA, none, false, .pu (.mov (.s 1))⟩,
   ⟨(some 10), some undefA, none, false, .pu (.conv .u64 (.s 9))⟩,
   ⟨(some 11), some undefA, none, false, .pu (.bin .mul (.s 8) (.s 10))⟩,
   ⟨(some 6), some undefA, none, false, .pu (.mov (.s 11))⟩])
 (.seq (.ops [⟨(some 12), some undefA, none, false, .pu (.mov (.s 6))⟩,
   ⟨(some 13), some undefA, none, false, .pu (.bin .shr (.s 12) (.c (.int .u64 32)))⟩,
   ⟨(some 14), some undefA, none, false, .pu (.conv .u32 (.s 13))⟩,
   ⟨(some 15), some undefA, none, false, .pu (.mov (.s 6))⟩,
   ⟨(some 16), some undefA, none, false, .pu (.conv .u32 (.s 15))⟩,
   ⟨(some 4), some undefA, none, false, .pu (.mov (.s 14))⟩,
   ⟨(some 5), some undefA, none, false, .pu (.mov (.s 16))⟩])
 (.ret)))⟩
theorem t118 : trF Try.prog [] [] Try.f118 = some m118 := by kernel_rfl
/-- math/bits.Mul64 [] -/
def m119 : MFun := ⟨51, [], [.mov (.s 4), .mov (.s 5)],
 .seq (.ops [⟨(some 4), some undefA, none, false, .pu (.mov (.c (.int .u64 0)))⟩,
   ⟨(some 5), some undefA, none, false, .pu (.mov (.c (.int .u64 0)))⟩])
 (.seq (.ops [⟨(some 14), some undefA, none, false, .pu (.mov (.s 0))⟩,
   ⟨(some 15), some undefA, none, false, .pu (.bin .and (.s 14) (.c (.int .u64 4294967295)))⟩,
   ⟨(some 6), some undefA, none, false, .pu (.mov (.s 15))⟩])
 (.seq (.ops [⟨(some 16), some undefA, none, false, .pu (.mov (.s 0))⟩,
   ⟨(some 17), some undefA, none, false, .pu (.bin .shr (.s 16) (.c (.int .u64 32)))⟩,
   ⟨(some 7), some undefA, none, false, .pu (.mov (.s 17))⟩])
 (.seq (.ops [⟨(some 18), some undefA, none, false, .pu (.mov (.s 1))⟩,
   ⟨(some 19), some undefA, none, false, .pu (.bin .and (.s 18) (.c (.int .u64 4294967295)))⟩,
   ⟨(some 8), some undefA, none, false, .pu (.mov (.s 19))⟩])
 (.seq (.ops [⟨(some 20), some undefA, none, false, .pu (.mov (.s 1))⟩,
   ⟨(some 21), some undefA, none, false, .pu (.bin .shr (.s 20) (.c (.int .u64 32)))⟩,
   ⟨(some 9), some undefA, none, false, .pu (.mov (.s 21))⟩])
 (.seq (.ops [⟨(some 22), some undefA, none, false, .pu (.mov (.s 6))⟩,
   ⟨(some 23), some undefA, none, false, .pu (.mov (.s 8))⟩,
   ⟨(some 24), some undefA, none, false, .pu (.bin .mul (.s 22) (.s 23))⟩,
   ⟨(some 10), some undefA, none, false, .pu (.mov (.s 24))⟩])
 (.seq (.ops [⟨(some 25), some undefA, none, false, .pu (.mov (.s 7))⟩,
   ⟨(some 26), some undefA, none, false, .pu (.mov (.s 8))⟩,
   ⟨(some 27), some undefA, none, false, .pu (.bin .mul (.s 25) (.s 26))⟩,
   ⟨(some 28), some undefA, none, false, .pu (.mov (.s 10))⟩,
   ⟨(some 29), some undefA, none, false, .pu (.bin .shr (.s 28) (.c (.int .u64 32)))⟩,
   ⟨(some 30), some undefA, none, false, .pu (.bin .add (.s 27) (.s 29))⟩,
   ⟨(some 11), some undefA, none, false, .pu (.mov (.s 30))⟩])
 (.seq (.ops [⟨(some 31), some undefA, none, false, .pu (.mov (.s 11))⟩,
   ⟨(some 32), some undefA, none, false, .pu (.bin .and (.s 31) (.c (.int .u64 4294967295)))⟩,
   ⟨(some 12), some undefA, none, false, .pu (.mov (.s 32))⟩])
 (.seq (.ops [⟨(some 33), some undefA, none, false, .pu (.mov (.s 11))⟩,
   ⟨(some 34), some undefA, none, false, .pu (.bin .shr (.s 33) (.c (.int .u64 32)))⟩,
   ⟨(some 13), some undefA, none, false, .pu (.mov (.s 34))⟩])
 (.seq (.ops [⟨(some 35), some undefA, none, false, .pu (.mov (.s 12))⟩,
   ⟨(some 36), some undefA, none, false, .pu (.mov (.s 6))⟩,
   ⟨(some 37), some undefA, none, false, .pu (.mov (.s 9))⟩,
   ⟨(some 38), some undefA, none, false, .pu (.bin .mul (.s 36) (.s 37))⟩,
   ⟨(some 39), some undefA, none, false, .pu (.bin .add (.s 35) (.s 38))⟩,
   ⟨(some 12), some undefA, none, false, .pu (.mov (.s 39))⟩])
 (.seq (.ops [⟨(some 40), some undefA, none, false, .pu (.mov (.s 7))⟩,
   ⟨(some 41), some undefA, none, false, .pu (.mov (.s 9))⟩,
   ⟨(some 42), some undefA, none, false, .pu (.bin .mul (.s 40) (.s 41))⟩,
   ⟨(some 43), some undefA, none, false, .pu (.mov (.s 13))⟩,
   ⟨(some 44), some undefA, none, false, .pu (.bin .add (.s 42) (.s 43))⟩,
   ⟨(some 45), some undefA, none, false, .pu (.mov (.s 12))⟩,
   ⟨(some 46), some undefA, none, false, .pu (.bin .shr (.s 45) (.c (.int .u64 32)))⟩,
   ⟨(some 47), some undefA, none, false, .pu (.bin .add (.s 44) (.s 46))⟩,
   ⟨(some 4), some undefA, none, false, .pu (.mov (.s 47))⟩])
 (.seq (.ops [⟨(some 48), some undefA, none, false, .pu (.mov (.s 0))⟩,
   ⟨(some 49), some undefA, none, false, .pu (.mov (.s 1))⟩,
   ⟨(some 50), some undefA, none, false, .pu (.bin .mul (.s 48) (.s 49))⟩,
   ⟨(some 5), some undefA, none, false, .pu (.mov (.s 50))⟩])
 (.ret))))))))))))⟩
theorem t119 : trF Try.prog [] [] Try.f119 = some m119 := by kernel_rfl
end Go.Proofs.Ytnnbggcckabhdaa

namespace Go.Proofs.Ytnnbggcckabhdaa
open Go Go.Eng
theorem hmix : Try.prog.follows .mixedOrders = true := by kernel_rfl
def tab : List (Nat × MFun) := [(19, m19), (20, m20), (22, m22), (28, m28), (37, m37), (61, m61), (62, m62), (63, m63), (64, m64), (65, m65), (73, m73), (78, m78), (80, m80), (101, m101), (102, m102), (103, m103), (106, m106), (107, m107), (108, m108), (109, m109), (110, m110), (112, m112), (72, m72), (77, m77), (100, m100), (111, m111), (118, m118), (119, m119)]
theorem tabOK : TabOK Try.prog tab :=
  .cons Try.func19 (by kernel_rfl) t19 <| .cons Try.func20 (by kernel_rfl) t20 <| .cons Try.func22 (by kernel_rfl) t22 <| .cons Try.func28 (by kernel_rfl) t28 <| .cons Try.func37 (by kernel_rfl) t37 <| .cons Try.func61 (by kernel_rfl) t61 <| .cons Try.func62 (by kernel_rfl) t62 <| .cons Try.func63 (by kernel_rfl) t63 <| .cons Try.func64 (by kernel_rfl) t64 <| .cons Try.func65 (by kernel_rfl) t65 <| .cons Try.func73 (by kernel_rfl) t73 <| .cons Try.func78 (by kernel_rfl) t78 <| .cons Try.func80 (by kernel_rfl) t80 <| .cons Try.func101 (by kernel_rfl) t101 <| .cons Try.func102 (by kernel_rfl) t102 <| .cons Try.func103 (by kernel_rfl) t103 <| .cons Try.func106 (by kernel_rfl) t106 <| .cons Try.func107 (by kernel_rfl) t107 <| .cons Try.func108 (by kernel_rfl) t108 <| .cons Try.func109 (by kernel_rfl) t109 <| .cons Try.func110 (by kernel_rfl) t110 <| .cons Try.func112 (by kernel_rfl) t112 <| .cons Try.func72 (by kernel_rfl) t72 <| .cons Try.func77 (by kernel_rfl) t77 <| .cons Try.func100 (by kernel_rfl) t100 <| .cons Try.func111 (by kernel_rfl) t111 <| .cons Try.func118 (by kernel_rfl) t118 <| .cons Try.func119 (by kernel_rfl) t119 <|  .nil
def isTrue : Option (AV × AHeap) → Bool
  | some (.bool true, _) => true
  | _ => false
set_option maxRecDepth 100000 in
theorem known_run : isTrue (runF tab 300 12 19 [] []) = true := by kernel_rfl
theorem known (A : AHeap) : ACalls Try.prog 19 [] A (B true) A := by
  cases h : runF tab 300 12 19 [] [] with
  | none => have := known_run; rw [h] at this; cases this
  | some p =>
    obtain ⟨v, A'⟩ := p
    have h1 := known_run
    rw [h] at h1
    have h2 : v = B true := by
      unfold isTrue at h1
      split at h1
      · rename_i e; cases e; rfl
      · cases h1
    subst h2
    exact (runF_ok hmix tabOK 300 12 19 [] [] _ _ h).lift (by simp) rfl A
end Go.Proofs.Ytnnbggcckabhdaa

namespace Go.Proofs.Ytnnbggcckabhdaa
open Go Go.Eng
theorem s61 (n lo hi : Int) (A : AHeap) : ACalls Try.prog 61 [I n, I lo, I hi] A (B (decide (lo ≤ n ∧ n ≤ hi))) A := by
  refine acalls hmix Try.func61 (by kernel_rfl) t61 3 rfl (by decide) ?_
  by_cases h : lo ≤ n
  · dsimp only [m61]
    simp -implicitDefEqProofs -dsimp (disch := omega) only [↓AW_ops, ↓AW_seq, ↓AW_ret, ↓AOps_nil, ↓AOps_pu, ↓AOps_guard, on_some, guardB_tt, ↓then_normal, ↓Fin_ret, pval, rd_S, rd_C, put_S, resV, resL, List.replicate_succ, List.replicate_zero, List.set_cons_zero, List.set_cons_succ, List.getElem?_cons_zero, List.getElem?_cons_succ, Option.getD_some, Nat.reduceSub, List.cons_append, List.nil_append, bin_leq, bin_geq, if_true, decide_true, true_and, h]
    exact gc_same rfl
  · dsimp only [m61]
    simp -implicitDefEqProofs -dsimp (disch := omega) only [↓AW_ops, ↓AW_seq, ↓AW_ret, ↓AOps_nil, ↓AOps_pu, ↓AOps_guard, on_some, guardB_ft, skipS_some, ↓then_normal, ↓Fin_ret, pval, rd_S, rd_C, put_S, resV, resL, List.replicate_succ, List.replicate_zero, List.set_cons_zero, List.set_cons_succ, List.getElem?_cons_zero, List.getElem?_cons_succ, Option.getD_some, Nat.reduceSub, List.cons_append, List.nil_append, bin_geq, if_false, Bool.false_eq_true, decide_false, h]
    exact gc_same rfl
theorem s66 (n lo hi : Int) (A : AHeap) : ACalls Try.prog 66 [I n, I lo, I hi] A (B (decide (lo ≤ n ∧ n ≤ hi))) A := by
  refine acalls hmix Try.func66 (by kernel_rfl) t66 3 rfl (by decide) ?_
  by_cases h : lo ≤ n
  · dsimp only [m66]
    simp -implicitDefEqProofs -dsimp (disch := omega) only [↓AW_ops, ↓AW_seq, ↓AW_ret, ↓AOps_nil, ↓AOps_pu, ↓AOps_guard, on_some, guardB_tt, ↓then_normal, ↓Fin_ret, pval, rd_S, rd_C, put_S, resV, resL, List.replicate_succ, List.replicate_zero, List.set_cons_zero, List.set_cons_succ, List.getElem?_cons_zero, List.getElem?_cons_succ, Option.getD_some, Nat.reduceSub, List.cons_append, List.nil_append, bin_leq, bin_geq, if_true, decide_true, true_and, h]
    exact gc_same rfl
  · dsimp only [m66]
    simp -implicitDefEqProofs -dsimp (disch := omega) only [↓AW_ops, ↓AW_seq, ↓AW_ret, ↓AOps_nil, ↓AOps_pu, ↓AOps_guard, on_some, guardB_ft, skipS_some, ↓then_normal, ↓Fin_ret, pval, rd_S, rd_C, put_S, resV, resL, List.replicate_succ, List.replicate_zero, List.set_cons_zero, List.set_cons_succ, List.getElem?_cons_zero, List.getElem?_cons_succ, Option.getD_some, Nat.reduceSub, List.cons_append, List.nil_append, bin_geq, if_false, Bool.false_eq_true, decide_false, h]
    exact gc_same rfl
def vz (z : Int × Int) : Bool := decide (1 ≤ z.1 ∧ z.1 ≤ 20) && decide (0 ≤ z.2 ∧ z.2 ≤ 20)
def vE (f : List (Int × Int)) : Int := if ¬ (1 ≤ f.length ∧ f.length ≤ 6) then 3 else if f.all vz then 0 else 1
theorem take_all {α : Type} {p : α → Bool} {f : List α} {i : Nat} {z : α} (hz : f[i]? = some z) : (f.take (i + 1)).all p = ((f.take i).all p && p z) := by
  rw [List.take_add_one, hz]
  simp
theorem all_get {α : Type} {p : α → Bool} {f : List α} (h : f.all p = true) {i : Nat} {z : α} (hz : f[i]? = some z) : p z = true := List.all_eq_true.1 h z (List.mem_of_getElem? hz)
theorem vE_small {f : List (Int × Int)} (h : ¬ ((1 : Int) ≤ f.length ∧ (f.length : Int) ≤ 6)) : vE f = 3 := by
  unfold vE; rw [if_pos]; omega
theorem vE_bad {f : List (Int × Int)} (h : (1 : Int) ≤ f.length ∧ (f.length : Int) ≤ 6) {i : Nat} {z : Int × Int} (hz : f[i]? = some z) (hb : vz z = false) : vE f = 1 := by
  unfold vE
  rw [if_neg (by omega), if_neg]
  intro ha
  rw [all_get ha hz] at hb; cases hb
theorem vE_good {f : List (Int × Int)} (h : (1 : Int) ≤ f.length ∧ (f.length : Int) ≤ 6) (ha : f.all vz = true) : vE f = 0 := by
  unfold vE
  rw [if_neg (by omega), if_pos ha]
theorem s37 {f : List (Int × Int)} {v : AV} {A : AHeap} (hf : L2 A v f) : ACalls Try.prog 37 [v] A (I (vE f)) A := by
  refine acalls hmix Try.func37 (by kernel_rfl) t37 1 rfl (by decide) ?_
  dsimp only [m37]
  simp -implicitDefEqProofs -dsimp (disch := omega) only [↓AW_ops, ↓AW_seq, ↓AOps_nil, ↓AOps_pu, ↓AOps_call, on_some, ↓then_normal, pval, rd_S, rd_C, put_S, List.replicate_succ, List.replicate_zero, List.set_cons_zero, List.set_cons_succ, List.getElem?_cons_zero, List.getElem?_cons_succ, Option.getD_some, map_c, map_n, Nat.reduceSub, List.cons_append, List.nil_append, hf.len]
  refine CallK.of (s61 _ _ _ _) ?_
  by_cases h : (1 : Int) ≤ f.length ∧ (f.length : Int) ≤ 6
  · simp -implicitDefEqProofs -dsimp (disch := omega) only [↓AW_skip, ↓AW_ops, ↓AW_seq, ↓AW_cond, ↓AW_block, ↓AOps_nil, ↓AOps_pu, on_some, extK_same, condB_f, ↓then_normal, pval, rd_S, rd_C, put_S, ↓AW_toLoop, List.replicate_succ, List.replicate_zero, List.set_cons_zero, List.set_cons_succ, List.getElem?_cons_zero, List.getElem?_cons_succ, Option.getD_some, Nat.reduceSub, List.cons_append, List.nil_append, Bool.not_true, decide_true, and_true, h, hf.len]
    refine LoopK.by 26 (fun i : Nat => i ≤ f.length ∧ (f.take i).all vz = true) (fun i => [(9, v), (10, I f.length), (11, I i)]) (fun _ => A) (fun i => f.length - i) 0 ⟨by omega, rfl⟩ rfl (by simp [Has, rd_s]) rfl ?_
    rintro i ⟨hi, hall⟩
    by_cases hlt : i < f.length
    · obtain ⟨z, hz⟩ : ∃ z, f[i]? = some z := ⟨_, List.getElem?_eq_getElem hlt⟩
      have hlt' : (i : Int) < f.length := by omega
      simp -implicitDefEqProofs -dsimp (disch := omega) only [↓AW_skip, ↓AW_ops, ↓AW_seq, ↓AW_cond, ↓AW_block, ↓AOps_nil, ↓AOps_pu, ↓AOps_ld, ↓AOps_call, on_some, condB_t, ↓then_normal, pval, lval, rd_S, rd_C, put_S, chkd, isAdr, bput, bgot, AV.cells?, splice, partA, mk, List.foldl_cons, List.foldl_nil, List.replicate_succ, List.replicate_zero, List.set_cons_zero, List.set_cons_succ, List.getElem?_cons_zero, List.getElem?_cons_succ, List.drop_zero, List.drop_succ_cons, List.drop_nil, List.take_zero, List.take_succ_cons, List.take_nil, Option.getD_some, map_c, map_n, List.length_cons, List.length_nil, Nat.reduceAdd, Nat.reduceLeDiff, Nat.reduceEqDiff, Nat.zero_add, List.nil_append, List.append_nil, bin_lss, if_true, if_false, Bool.false_eq_true, decide_true, e2, ne_eq, not_true_eq_false, hlt', hf.idx hlt, hf.ld0 hz 2 true (by decide)]
      refine CallK.of (s61 _ _ _ _) ?_
      by_cases h1 : (1 : Int) ≤ z.1 ∧ z.1 ≤ 20
      · simp -implicitDefEqProofs -dsimp (disch := omega) only [↓AOps_pu, ↓AOps_call, ↓AOps_guard, on_some, extK_same, guardB_ff, pval, rd_S, rd_C, put_S, chkd, isAdr, bgot, AV.cells?, partA, mk, List.foldl_cons, List.foldl_nil, List.replicate_succ, List.replicate_zero, List.set_cons_zero, List.set_cons_succ, List.getElem?_cons_zero, List.getElem?_cons_succ, List.drop_zero, List.drop_succ_cons, List.take_succ_cons, List.take_nil, Option.getD_some, map_c, map_n, List.length_cons, List.length_nil, Nat.reduceAdd, Nat.reduceLeDiff, Nat.zero_add, if_true, if_false, Bool.false_eq_true, Bool.not_true, decide_true, and_true, h1]
        refine CallK.of (s61 _ _ _ _) ?_
        by_cases h2 : (0 : Int) ≤ z.2 ∧ z.2 ≤ 20
        · simp -implicitDefEqProofs -dsimp (disch := omega) only [↓AW_skip, ↓AW_ops, ↓AW_cond, ↓AOps_nil, ↓AOps_pu, ↓AOps_guard, on_some, extK_same, guardB_ff, condB_f, ↓then_normal, ↓inBlock_normal, pval, rd_S, rd_C, put_S, mk, List.foldl_cons, List.foldl_nil, List.replicate_succ, List.replicate_zero, List.set_cons_zero, List.set_cons_succ, List.getElem?_cons_zero, List.getElem?_cons_succ, Option.getD_some, List.length_cons, List.length_nil, Nat.reduceAdd, Nat.zero_add, bin_add, w64, if_false, Bool.false_eq_true, Bool.not_true, decide_true, true_and, and_true, h2]
          refine ⟨i + 1, ⟨hlt, ?_⟩, by simp [Has, rd_s], by omega⟩
          rw [take_all hz, hall]
          simp [vz, h1, h2]
        · simp -implicitDefEqProofs -dsimp (disch := omega) only [↓AW_ops, ↓AW_seq, ↓AW_cond, ↓AW_ret, ↓AOps_nil, ↓AOps_pu, ↓AOps_guard, on_some, extK_same, guardB_ff, condB_t, ↓then_normal, ↓then_ret, ↓inBlock_ret, ↓Fin_ret, pval, rd_S, rd_C, put_S, resV, resL, mk, List.foldl_cons, List.foldl_nil, List.replicate_succ, List.replicate_zero, List.set_cons_zero, List.set_cons_succ, List.getElem?_cons_zero, List.getElem?_cons_succ, Option.getD_some, if_false, Bool.false_eq_true, Bool.not_false, decide_false, h2]
          exact gc_same (by rw [vE_bad h hz (by simp [vz]; omega)])
      · simp -implicitDefEqProofs -dsimp (disch := omega) only [↓AW_ops, ↓AW_seq, ↓AW_cond, ↓AW_ret, ↓AOps_nil, ↓AOps_pu, ↓AOps_guard, on_some, extK_same, guardB_tf, skipS_some, condB_t, ↓then_normal, ↓then_ret, ↓inBlock_ret, ↓Fin_ret, pval, rd_S, rd_C, put_S, resV, resL, mk, List.foldl_cons, List.foldl_nil, List.replicate_succ, List.replicate_zero, List.set_cons_zero, List.set_cons_succ, List.getElem?_cons_zero, List.getElem?_cons_succ, Option.getD_some, if_true, Bool.not_false, decide_false, h1]
        exact gc_same (by rw [vE_bad h hz (by simp [vz]; omega)])
    · have hlt' : ¬ ((i : Int) < f.length) := by omega
      simp -implicitDefEqProofs -dsimp (disch := omega) only [↓AW_ops, ↓AW_seq, ↓AW_cond, ↓AW_exit, ↓AW_ret, ↓AOps_nil, ↓AOps_pu, on_some, condB_f, ↓then_normal, ↓then_exit, ↓inBlock_exit, ↓Fin_ret, pval, rd_S, rd_C, put_S, resV, resL, mk, List.foldl_cons, List.foldl_nil, List.replicate_succ, List.replicate_zero, List.set_cons_zero, List.set_cons_succ, List.getElem?_cons_zero, List.getElem?_cons_succ, Option.getD_some, bin_lss, if_true, decide_false, hlt']
      have ha : f.all vz = true := by rw [← hall, List.take_of_length_le (by omega)]
      exact gc_same (by rw [vE_good h ha])
  · simp -implicitDefEqProofs -dsimp (disch := omega) only [↓AW_ops, ↓AW_seq, ↓AW_cond, ↓AW_ret, ↓AOps_nil, ↓AOps_pu, on_some, extK_same, condB_t, ↓then_normal, ↓then_ret, ↓Fin_ret, pval, rd_S, rd_C, put_S, resV, resL, List.replicate_succ, List.replicate_zero, List.set_cons_zero, List.set_cons_succ, List.getElem?_cons_zero, List.getElem?_cons_succ, Option.getD_some, Nat.reduceSub, List.cons_append, List.nil_append, Bool.not_false, decide_false, h]
    exact gc_same (by rw [vE_small h])
theorem s38 {f : List (Int × Int)} {v : AV} {A : AHeap} (hf : L2 A v f) : ACalls Try.prog 38 [v] A (I (vE f)) A := by
  refine acalls hmix Try.func38 (by kernel_rfl) t38 1 rfl (by decide) ?_
  dsimp only [m38]
  simp -implicitDefEqProofs -dsimp (disch := omega) only [↓AW_ops, ↓AW_seq, ↓AOps_nil, ↓AOps_pu, ↓AOps_call, on_some, ↓then_normal, pval, rd_S, rd_C, put_S, List.replicate_succ, List.replicate_zero, List.set_cons_zero, List.set_cons_succ, List.getElem?_cons_zero, List.getElem?_cons_succ, Option.getD_some, map_c, map_n, Nat.reduceSub, List.cons_append, List.nil_append, hf.len]
  refine CallK.of (s66 _ _ _ _) ?_
  by_cases h : (1 : Int) ≤ f.length ∧ (f.length : Int) ≤ 6
  · simp -implicitDefEqProofs -dsimp (disch := omega) only [↓AW_skip, ↓AW_ops, ↓AW_seq, ↓AW_cond, ↓AW_block, ↓AOps_nil, ↓AOps_pu, on_some, extK_same, condB_f, ↓then_normal, pval, rd_S, rd_C, put_S, ↓AW_toLoop, List.replicate_succ, List.replicate_zero, List.set_cons_zero, List.set_cons_succ, List.getElem?_cons_zero, List.getElem?_cons_succ, Option.getD_some, Nat.reduceSub, List.cons_append, List.nil_append, Bool.not_true, decide_true, and_true, h]
    refine LoopK.by 30 (fun i : Nat => i ≤ f.length ∧ (f.take i).all vz = true) (fun i => [(0, v), (3, I i)]) (fun _ => A) (fun i => f.length - i) 0 ⟨by omega, rfl⟩ rfl (by simp [Has, rd_s]) rfl ?_
    rintro i ⟨hi, hall⟩
    by_cases hlt : i < f.length
    · obtain ⟨z, hz⟩ : ∃ z, f[i]? = some z := ⟨_, List.getElem?_eq_getElem hlt⟩
      have hlt' : (i : Int) < f.length := by omega
      simp -implicitDefEqProofs -dsimp (disch := omega) only [↓AW_skip, ↓AW_ops, ↓AW_seq, ↓AW_cond, ↓AW_block, ↓AOps_nil, ↓AOps_pu, ↓AOps_ld, ↓AOps_call, on_some, condB_t, ↓then_normal, pval, lval, rd_S, rd_C, put_S, partA, mk, List.foldl_cons, List.foldl_nil, List.replicate_succ, List.replicate_zero, List.set_cons_zero, List.set_cons_succ, List.getElem?_cons_zero, List.getElem?_cons_succ, List.drop_zero, List.take_zero, List.take_succ_cons, Option.getD_some, map_c, map_n, List.length_cons, List.length_nil, Nat.reduceAdd, Nat.reduceLeDiff, Nat.zero_add, Nat.add_zero, bin_lss, if_true, if_false, Bool.false_eq_true, decide_true, e2, hlt', hf.len, hf.idx hlt, hf.ld0 hz 1 false (by decide)]
      refine CallK.of (s66 _ _ _ _) ?_
      by_cases h1 : (1 : Int) ≤ z.1 ∧ z.1 ≤ 20
      · simp -implicitDefEqProofs -dsimp (disch := omega) only [↓AOps_pu, ↓AOps_ld, ↓AOps_call, ↓AOps_guard, on_some, extK_same, guardB_ff, pval, lval, rd_S, rd_C, put_S, partA, mk, List.foldl_cons, List.foldl_nil, List.replicate_succ, List.replicate_zero, List.set_cons_zero, List.set_cons_succ, List.getElem?_cons_zero, List.getElem?_cons_succ, List.drop_zero, List.drop_succ_cons, List.take_succ_cons, List.take_nil, Option.getD_some, map_c, map_n, List.length_cons, List.length_nil, Nat.reduceAdd, Nat.reduceLeDiff, Nat.zero_add, if_true, if_false, Bool.false_eq_true, Bool.not_true, decide_true, e2, and_true, h1, hf.idx hlt, hf.ld hz 1 1 false (by decide)]
        refine CallK.of (s66 _ _ _ _) ?_
        by_cases h2 : (0 : Int) ≤ z.2 ∧ z.2 ≤ 20
        · simp -implicitDefEqProofs -dsimp (disch := omega) only [↓AW_skip, ↓AW_ops, ↓AW_cond, ↓AOps_nil, ↓AOps_pu, ↓AOps_guard, on_some, extK_same, guardB_ff, condB_f, ↓then_normal, ↓inBlock_normal, pval, rd_S, rd_C, put_S, mk, List.foldl_cons, List.foldl_nil, List.replicate_succ, List.replicate_zero, List.set_cons_zero, List.set_cons_succ, List.getElem?_cons_zero, List.getElem?_cons_succ, Option.getD_some, List.length_cons, List.length_nil, Nat.reduceAdd, Nat.zero_add, bin_add, w64, if_false, Bool.false_eq_true, Bool.not_true, decide_true, true_and, and_true, h2]
          refine ⟨i + 1, ⟨hlt, ?_⟩, by simp [Has, rd_s], by omega⟩
          rw [take_all hz, hall]
          simp [vz, h1, h2]
        · simp -implicitDefEqProofs -dsimp (disch := omega) only [↓AW_ops, ↓AW_seq, ↓AW_cond, ↓AW_ret, ↓AOps_nil, ↓AOps_pu, ↓AOps_guard, on_some, extK_same, guardB_ff, condB_t, ↓then_normal, ↓then_ret, ↓inBlock_ret, ↓Fin_ret, pval, rd_S, rd_C, put_S, resV, resL, mk, List.foldl_cons, List.foldl_nil, List.replicate_succ, List.replicate_zero, List.set_cons_zero, List.set_cons_succ, List.getElem?_cons_zero, List.getElem?_cons_succ, Option.getD_some, if_false, Bool.false_eq_true, Bool.not_false, decide_false, h2]
          exact gc_same (by rw [vE_bad h hz (by simp [vz]; omega)])
      · simp -implicitDefEqProofs -dsimp (disch := omega) only [↓AW_ops, ↓AW_seq, ↓AW_cond, ↓AW_ret, ↓AOps_nil, ↓AOps_pu, ↓AOps_guard, on_some, extK_same, guardB_tf, skipS_some, condB_t, ↓then_normal, ↓then_ret, ↓inBlock_ret, ↓Fin_ret, pval, rd_S, rd_C, put_S, resV, resL, mk, List.foldl_cons, List.foldl_nil, List.replicate_succ, List.replicate_zero, List.set_cons_zero, List.set_cons_succ, List.getElem?_cons_zero, List.getElem?_cons_succ, Option.getD_some, if_true, Bool.not_false, decide_false, h1]
        exact gc_same (by rw [vE_bad h hz (by simp [vz]; omega)])
    · have hlt' : ¬ ((i : Int) < f.length) := by omega
      simp -implicitDefEqProofs -dsimp (disch := omega) only [↓AW_ops, ↓AW_seq, ↓AW_cond, ↓AW_exit, ↓AW_ret, ↓AOps_nil, ↓AOps_pu, on_some, condB_f, ↓then_normal, ↓then_exit, ↓inBlock_exit, ↓Fin_ret, pval, rd_S, rd_C, put_S, resV, resL, mk, List.foldl_cons, List.foldl_nil, List.replicate_succ, List.replicate_zero, List.set_cons_zero, List.set_cons_succ, List.getElem?_cons_zero, List.getElem?_cons_succ, Option.getD_some, bin_lss, if_true, decide_false, hlt', hf.len]
      have ha : f.all vz = true := by rw [← hall, List.take_of_length_le (by omega)]
      exact gc_same (by rw [vE_good h ha])
  · simp -implicitDefEqProofs -dsimp (disch := omega) only [↓AW_ops, ↓AW_seq, ↓AW_cond, ↓AW_ret, ↓AOps_nil, ↓AOps_pu, on_some, extK_same, condB_t, ↓then_normal, ↓then_ret, ↓Fin_ret, pval, rd_S, rd_C, put_S, resV, resL, List.replicate_succ, List.replicate_zero, List.set_cons_zero, List.set_cons_succ, List.getElem?_cons_zero, List.getElem?_cons_succ, Option.getD_some, Nat.reduceSub, List.cons_append, List.nil_append, Bool.not_false, decide_false, h]
    exact gc_same (by rw [vE_small h])
theorem s18 {f g : List (Int × Int)} {v u : AV} {A : AHeap} (hf : L2 A v f) (hg : L2 A u g) : ACalls Try.prog 18 [v, u] A (B (decide ((100 : Int) < f.length ∨ (100 : Int) < g.length))) A := by
  refine acalls hmix Try.func18 (by kernel_rfl) t18 2 rfl (by decide) ?_
  by_cases h : (100 : Int) < f.length
  · dsimp only [m18]
    simp -implicitDefEqProofs -dsimp (disch := omega) only [↓AW_ops, ↓AW_seq, ↓AW_ret, ↓AOps_nil, ↓AOps_pu, ↓AOps_guard, on_some, guardB_tf, skipS_some, ↓then_normal, ↓Fin_ret, pval, rd_S, rd_C, put_S, resV, resL, List.replicate_succ, List.replicate_zero, List.set_cons_zero, List.set_cons_succ, List.getElem?_cons_zero, List.getElem?_cons_succ, Option.getD_some, Nat.reduceSub, List.cons_append, List.nil_append, bin_gtr, if_true, decide_true, h, hf.len]
    exact gc_same (by simp [])
  · dsimp only [m18]
    simp -implicitDefEqProofs -dsimp (disch := omega) only [↓AW_ops, ↓AW_seq, ↓AW_ret, ↓AOps_nil, ↓AOps_pu, ↓AOps_guard, on_some, guardB_ff, ↓then_normal, ↓Fin_ret, pval, rd_S, rd_C, put_S, resV, resL, List.replicate_succ, List.replicate_zero, List.set_cons_zero, List.set_cons_succ, List.getElem?_cons_zero, List.getElem?_cons_succ, Option.getD_some, Nat.reduceSub, List.cons_append, List.nil_append, bin_gtr, if_false, Bool.false_eq_true, decide_false, h, hf.len, hg.len]
    exact gc_same (by simp [])
end Go.Proofs.Ytnnbggcckabhdaa

namespace Go.Proofs.Ytnnbggcckabhdaa
open Go Go.Eng
/-- A number that a machine word holds. -/
abbrev W (a : Int) : Prop := -9223372036854775808 ≤ a ∧ a ≤ 9223372036854775807
end Go.Proofs.Ytnnbggcckabhdaa

namespace Go.Proofs.Ytnnbggcckabhdaa
open Go Go.Eng
/-- selion/soil.Total [] -/
def m33 : MFun := ⟨12, [], [.mov (.s 2), .mov (.s 3)],
 .seq (.ops [⟨(some 2), some undefA, none, false, .pu (.mov (.c (.int .i64 0)))⟩,
   ⟨(some 3), some undefA, none, false, .pu (.mov (.c (.int .i64 0)))⟩])
 (.seq (.seq (.ops [⟨(some 5), some undefA, none, false, .pu (.mov (.s 0))⟩,
   ⟨(some 6), some undefA, none, false, .call 37 [(.s 5)]⟩,
   ⟨(some 4), some undefA, none, false, .pu (.mov (.s 6))⟩])
 (.seq (.ops [⟨(some 7), some undefA, none, false, .pu (.mov (.s 4))⟩,
   ⟨(some 8), some undefA, none, false, .pu (.bin .neq (.s 7) (.c (.int .i64 0)))⟩])
 (.cond (.s 8) (.seq (.ops [⟨(some 9), some undefA, none, false, .pu (.mov (.s 4))⟩,
    ⟨(some 2), some undefA, none, false, .pu (.mov (.c (.int .i64 0)))⟩,
    ⟨(some 3), some undefA, none, false, .pu (.mov (.s 9))⟩])
  (.ret))
 (.skip))))
 (.seq (.ops [⟨(some 10), some undefA, none, false, .pu (.mov (.s 0))⟩,
   ⟨(some 11), some undefA, none, false, .call 65 [(.s 10)]⟩,
   ⟨(some 2), some undefA, none, false, .pu (.mov (.s 11))⟩,
   ⟨(some 3), some undefA, none, false, .pu (.mov (.c (.int .i64 0)))⟩])
 (.ret)))⟩
theorem t33 : trF Try.prog [] [] Try.f33 = some m33 := by kernel_rfl
end Go.Proofs.Ytnnbggcckabhdaa

namespace Go.Proofs.Ytnnbggcckabhdaa
open Go Go.Eng
def good (f : List (Int × Int)) : Prop := f.length ≤ 6 ∧ f.all vz = true
theorem good_of {f : List (Int × Int)} (h : vE f = 0) : good f ∧ 1 ≤ f.length := by
  unfold vE at h
  split at h
  · cases h
  · rename_i h1
    split at h
    · rename_i h2; exact ⟨⟨by omega, h2⟩, by omega⟩
    · cases h
theorem vz_iff (z : Int × Int) : vz z = true ↔ (1 ≤ z.1 ∧ z.1 ≤ 20) ∧ (0 ≤ z.2 ∧ z.2 ≤ 20) := by simp [vz]
def sumZ (g : Int × Int → Int) (f : List (Int × Int)) : Int := (f.map g).sum
theorem sumZ_take {g : Int × Int → Int} {f : List (Int × Int)} {i : Nat} {z : Int × Int} (hz : f[i]? = some z) : sumZ g (f.take (i + 1)) = sumZ g (f.take i) + g z := by
  rw [List.take_add_one, hz]; simp [sumZ]
theorem sumZ_bound {g : Int × Int → Int} {m : Int} (hm : 0 ≤ m) : ∀ {f : List (Int × Int)}, (∀ z ∈ f, 0 ≤ g z ∧ g z ≤ m) → 0 ≤ sumZ g f ∧ sumZ g f ≤ m * f.length
  | [], _ => by simp [sumZ]
  | z :: f, h => by
    have h1 := sumZ_bound hm (f := f) (fun y hy => h y (by simp [hy]))
    have h2 := h z (by simp)
    simp only [sumZ, List.map_cons, List.sum_cons, List.length_cons] at *
    rw [Int.natCast_add, Int.mul_add]
    omega
theorem s103 (z : Int × Int) (A : AHeap) (h : vz z = true) : ACalls Try.prog 103 [.agg [I z.1, I z.2]] A (I (z.1 * z.2)) A := by
  refine acalls hmix Try.func103 (by kernel_rfl) t103 1 rfl (by decide) ?_
  rw [vz_iff] at h
  have h1 : 0 ≤ z.1 * z.2 := Int.mul_nonneg (by omega) (by omega)
  have h2 : z.1 * z.2 ≤ 20 * 20 := Int.mul_le_mul (by omega) (by omega) (by omega) (by omega)
  dsimp only [m103]
  simp -implicitDefEqProofs -dsimp (disch := omega) only [↓AW_ops, ↓AW_seq, ↓AW_ret, ↓AOps_nil, ↓AOps_pu, on_some, ↓then_normal, ↓Fin_ret, pval, rd_S, rd_C, put_S, resV, resL, chkd, isAdr, bgot, AV.cells?, partA, List.replicate_succ, List.replicate_zero, List.set_cons_zero, List.set_cons_succ, List.getElem?_cons_zero, List.getElem?_cons_succ, List.drop_zero, List.drop_succ_cons, List.take_zero, List.take_succ_cons, List.take_nil, Option.getD_some, List.length_cons, List.length_nil, Nat.reduceAdd, Nat.reduceSub, Nat.reduceLeDiff, Nat.zero_add, List.cons_append, List.nil_append, bin_mul, w64, if_true, if_false, Bool.false_eq_true]
  exact gc_same rfl
theorem s102 {f : List (Int × Int)} {v : AV} {A : AHeap} (hf : L2 A v f) (k : Nat) (g : Int × Int → Int) (hg : ∀ z ∈ f, ACalls Try.prog k [.agg [I z.1, I z.2]] A (I (g z)) A) (hb : ∀ z ∈ f, 0 ≤ g z ∧ g z ≤ 400) (hl : f.length ≤ 6) :
    ACalls Try.prog 102 [v, .fn k []] A (I (sumZ g f)) A := by
  refine acalls hmix Try.func102 (by kernel_rfl) t102 2 rfl (by decide) ?_
  dsimp only [m102]
  simp -implicitDefEqProofs -dsimp (disch := omega) only [↓AW_ops, ↓AW_seq, ↓AW_block, ↓AOps_nil, ↓AOps_pu, on_some, ↓then_normal, pval, rd_S, rd_C, put_S, ↓AW_toLoop, List.replicate_succ, List.replicate_zero, List.set_cons_zero, List.set_cons_succ, List.getElem?_cons_zero, List.getElem?_cons_succ, Option.getD_some, Nat.reduceSub, List.cons_append, List.nil_append, hf.len]
  refine LoopK.by 21 (fun i : Nat => i ≤ f.length) (fun i => [(1, .fn k []), (5, I (sumZ g (f.take i))), (8, v), (9, I f.length), (10, I i)]) (fun _ => A) (fun i => f.length - i) 0 (by omega) rfl (by simp [Has, rd_s, sumZ]) rfl ?_
  intro i hi
  by_cases hlt : i < f.length
  · obtain ⟨z, hz⟩ : ∃ z, f[i]? = some z := ⟨_, List.getElem?_eq_getElem hlt⟩
    have hlt' : (i : Int) < f.length := by omega
    simp -implicitDefEqProofs -dsimp (disch := omega) only [↓AW_skip, ↓AW_ops, ↓AW_seq, ↓AW_cond, ↓AW_block, ↓AOps_nil, ↓AOps_pu, ↓AOps_ld, ↓AOps_callv, on_some, CallF_fn, condB_t, ↓then_normal, pval, lval, rd_S, rd_C, put_S, chkd, bput, bgot, AV.cells?, splice, partA, mk, List.foldl_cons, List.foldl_nil, List.replicate_succ, List.replicate_zero, List.set_cons_zero, List.set_cons_succ, List.getElem?_cons_zero, List.getElem?_cons_succ, List.drop_zero, List.drop_succ_cons, List.drop_nil, List.take_zero, List.take_succ_cons, List.take_nil, Option.getD_some, map_c, map_n, List.length_cons, List.length_nil, Nat.reduceAdd, Nat.reduceLeDiff, Nat.reduceEqDiff, Nat.zero_add, List.nil_append, List.append_nil, bin_lss, if_true, if_false, decide_true, e2, ne_eq, not_true_eq_false, hlt', hf.idx hlt, hf.ld0 hz 2 true (by decide)]
    refine CallK.of (hg z (List.mem_of_getElem? hz)) ?_
    have b1 := sumZ_bound (by omega) (f := f.take i) (fun y hy => hb y (List.mem_of_mem_take hy))
    have b2 := hb z (List.mem_of_getElem? hz)
    have b3 : ((f.take i).length : Int) ≤ 6 := by rw [List.length_take]; omega
    simp -implicitDefEqProofs -dsimp (disch := omega) only [↓AW_ops, ↓AOps_nil, ↓AOps_pu, on_some, extK_same, ↓then_normal, ↓inBlock_normal, pval, rd_S, rd_C, put_S, mk, List.foldl_cons, List.foldl_nil, List.replicate_succ, List.replicate_zero, List.set_cons_zero, List.set_cons_succ, List.getElem?_cons_zero, List.getElem?_cons_succ, Option.getD_some, List.length_cons, List.length_nil, Nat.reduceAdd, Nat.zero_add, bin_add, w64, true_and]
    exact ⟨i + 1, hlt, by simp [Has, rd_s, sumZ_take hz], by omega⟩
  · have hlt' : ¬ ((i : Int) < f.length) := by omega
    simp -implicitDefEqProofs -dsimp (disch := omega) only [↓AW_ops, ↓AW_seq, ↓AW_cond, ↓AW_exit, ↓AW_ret, ↓AOps_nil, ↓AOps_pu, on_some, condB_f, ↓then_normal, ↓then_exit, ↓inBlock_exit, ↓Fin_ret, pval, rd_S, put_S, resV, resL, mk, List.foldl_cons, List.foldl_nil, List.replicate_succ, List.replicate_zero, List.set_cons_zero, List.set_cons_succ, List.getElem?_cons_zero, List.getElem?_cons_succ, Option.getD_some, bin_lss, if_true, decide_false, hlt']
    exact gc_same (by rw [List.take_of_length_le (by omega)])
def tot (f : List (Int × Int)) : Int := sumZ (fun z => z.1 * z.2) f
def len (f : List (Int × Int)) : Int := sumZ (fun z => z.1) f
theorem s65 {f : List (Int × Int)} {v : AV} {A : AHeap} (hf : L2 A v f) (h : good f) : ACalls Try.prog 65 [v] A (I (tot f)) A := by
  refine acalls hmix Try.func65 (by kernel_rfl) t65 1 rfl (by decide) ?_
  dsimp only [m65]
  simp -implicitDefEqProofs -dsimp (disch := omega) only [↓AW_ops, ↓AW_seq, ↓AOps_nil, ↓AOps_pu, ↓AOps_call, on_some, ↓then_normal, pval, rd_S, rd_C, put_S, List.replicate_succ, List.replicate_zero, List.set_cons_zero, List.set_cons_succ, List.getElem?_cons_zero, List.getElem?_cons_succ, Option.getD_some, map_c, map_n, Nat.reduceSub, List.cons_append, List.nil_append]
  refine CallK.of (s102 hf 103 (fun z => z.1 * z.2) (fun z hz => s103 z A (List.all_eq_true.1 h.2 z hz)) (fun z hz => ?_) h.1) ?_
  · have := (vz_iff z).1 (List.all_eq_true.1 h.2 z hz)
    have h1 : 0 ≤ z.1 * z.2 := Int.mul_nonneg (by omega) (by omega)
    have h2 : z.1 * z.2 ≤ 20 * 20 := Int.mul_le_mul (by omega) (by omega) (by omega) (by omega)
    omega
  · simp -implicitDefEqProofs -dsimp (disch := omega) only [↓AW_ret, ↓AOps_nil, ↓AOps_pu, on_some, extK_same, ↓then_normal, ↓Fin_ret, pval, rd_S, put_S, resV, resL, List.replicate_succ, List.replicate_zero, List.set_cons_zero, List.set_cons_succ, List.getElem?_cons_zero, List.getElem?_cons_succ, Option.getD_some, Nat.reduceSub, List.cons_append, List.nil_append]
    exact gc_same rfl
theorem tot_bound {f : List (Int × Int)} (h : good f) : 0 ≤ tot f ∧ tot f ≤ 2400 := by
  have := sumZ_bound (g := fun z => z.1 * z.2) (m := 400) (by omega) (f := f) (fun z hz => by
    have := (vz_iff z).1 (List.all_eq_true.1 h.2 z hz)
    have h1 : 0 ≤ z.1 * z.2 := Int.mul_nonneg (by omega) (by omega)
    have h2 : z.1 * z.2 ≤ 20 * 20 := Int.mul_le_mul (by omega) (by omega) (by omega) (by omega)
    omega)
  have := h.1
  unfold tot
  omega
end Go.Proofs.Ytnnbggcckabhdaa

namespace Go.Proofs.Ytnnbggcckabhdaa
open Go Go.Eng
theorem s33 {f : List (Int × Int)} {v : AV} {A : AHeap} (hf : L2 A v f) : ACalls Try.prog 33 [v] A (.tuple [I (if vE f = 0 then tot f else 0), I (vE f)]) A := by
  refine acalls hmix Try.func33 (by kernel_rfl) t33 1 rfl (by decide) ?_
  dsimp only [m33]
  simp (maxSteps := 4000000) -implicitDefEqProofs -dsimp (disch := omega) only [↓AW_ops, ↓AW_seq, ↓AOps_nil, ↓AOps_pu, ↓AOps_call, on_some, ↓then_normal, pval, rd_S, rd_C, put_S, List.replicate_succ, List.replicate_zero, List.set_cons_zero, List.set_cons_succ, List.getElem?_cons_zero, List.getElem?_cons_succ, Option.getD_some, map_c, map_n, Nat.reduceSub, List.cons_append, List.nil_append]
  refine CallK.of (s37 hf) ?_
  by_cases h0 : vE f = 0
  · simp (maxSteps := 4000000) -implicitDefEqProofs -dsimp (disch := omega) only [↓AW_skip, ↓AW_ops, ↓AW_seq, ↓AW_cond, ↓AOps_nil, ↓AOps_pu, ↓AOps_call, on_some, extK_same, condB_f, ↓then_normal, pval, rd_S, rd_C, put_S, eq_self, List.replicate_succ, List.replicate_zero, List.set_cons_zero, List.set_cons_succ, List.getElem?_cons_zero, List.getElem?_cons_succ, Option.getD_some, map_c, map_n, Nat.reduceSub, List.cons_append, List.nil_append, bin_neq, decide_false, not_true_eq_false, h0]
    refine CallK.of (s65 hf (good_of h0).1) ?_
    simp (maxSteps := 4000000) -implicitDefEqProofs -dsimp (disch := omega) only [↓AW_ret, ↓AOps_nil, ↓AOps_pu, on_some, extK_same, ↓then_normal, ↓Fin_ret, pval, rd_S, rd_C, put_S, resV, resL, List.replicate_succ, List.replicate_zero, List.set_cons_zero, List.set_cons_succ, List.getElem?_cons_zero, List.getElem?_cons_succ, Option.getD_some, Nat.reduceSub, List.cons_append, List.nil_append]
    exact gc_same (by simp [h0])
  · simp (maxSteps := 4000000) -implicitDefEqProofs -dsimp (disch := omega) only [↓AW_ops, ↓AW_seq, ↓AW_cond, ↓AW_ret, ↓AOps_nil, ↓AOps_pu, on_some, extK_same, condB_t, ↓then_normal, ↓then_ret, ↓Fin_ret, pval, rd_S, rd_C, put_S, resV, resL, List.replicate_succ, List.replicate_zero, List.set_cons_zero, List.set_cons_succ, List.getElem?_cons_zero, List.getElem?_cons_succ, Option.getD_some, Nat.reduceSub, List.cons_append, List.nil_append, bin_neq, if_false, decide_true, not_false_eq_true, h0]
    exact gc_same (by simp [])
end Go.Proofs.Ytnnbggcckabhdaa

namespace Go.Proofs.Ytnnbggcckabhdaa
open Go Go.Eng
theorem neg_num (q : Rat) : (-q).num = -q.num := rfl
theorem neg_den (q : Rat) : (-q).den = q.den := rfl
end Go.Proofs.Ytnnbggcckabhdaa

namespace Go.Proofs.Ytnnbggcckabhdaa
open Go Go.Eng
end Go.Proofs.Ytnnbggcckabhdaa

namespace Go.Proofs.Ytnnbggcckabhdaa
open Go Go.Eng
end Go.Proofs.Ytnnbggcckabhdaa

namespace Go.Proofs.Ytnnbggcckabhdaa
open Go Go.Eng
end Go.Proofs.Ytnnbggcckabhdaa

namespace Go.Proofs.Ytnnbggcckabhdaa
open Go Go.Eng
end Go.Proofs.Ytnnbggcckabhdaa

namespace Go.Proofs.Ytnnbggcckabhdaa
open Go Go.Eng
/-- The fraction times 'D' is a whole number. -/
def Dv (D : Int) (q : Rat) : Prop := ∃ k : Int, q * (D : Rat) = (k : Rat)
theorem Dv.add {D : Int} {p q : Rat} (hp : Dv D p) (hq : Dv D q) : Dv D (p + q) := by
  obtain ⟨a, ha⟩ := hp
  obtain ⟨b, hb⟩ := hq
  exact ⟨a + b, by rw [Rat.intCast_add]; grind⟩
theorem Dv.sub {D : Int} {p q : Rat} (hp : Dv D p) (hq : Dv D q) : Dv D (p - q) := by
  obtain ⟨a, ha⟩ := hp
  obtain ⟨b, hb⟩ := hq
  exact ⟨a - b, by rw [Rat.intCast_sub]; grind⟩
theorem Dv.mul {D : Int} {p : Rat} (hp : Dv D p) (n : Int) : Dv D (p * n) := by
  obtain ⟨a, ha⟩ := hp
  exact ⟨a * n, by rw [Rat.intCast_mul]; grind⟩
end Go.Proofs.Ytnnbggcckabhdaa

namespace Go.Proofs.Ytnnbggcckabhdaa
open Go Go.Eng
/-- Two fractions that can be added. -/
def Fit (p q : Rat) : Prop := p.num.natAbs * q.den + q.num.natAbs * p.den ≤ 4611686018427387904 ∧ p.den * q.den ≤ 4611686018427387904
theorem Fit.neg {p q : Rat} (h : Fit p q) : Fit p (-q) := by
  unfold Fit at *
  rw [neg_num, neg_den, Int.natAbs_neg]
  exact h
/-- A place of a field with which words do not overflow. -/
def Pl (f : List (Int × Int)) (q : Rat) : Prop := (0 ≤ q.num ∧ q.num ≤ len f * q.den) ∧ (q.den : Int) ≤ 1048576
theorem Pl.of {f : List (Int × Int)} {q : Rat} (h0 : 0 ≤ q) (h1 : q ≤ ((len f : Int) : Rat)) (hd : (q.den : Int) ≤ 1048576) : Pl f q := by
  refine ⟨⟨Rat.num_nonneg.2 h0, ?_⟩, hd⟩
  rw [Rat.le_iff] at h1
  have h1 : q.num * (1 : Int) ≤ len f * (q.den : Int) := h1
  omega
end Go.Proofs.Ytnnbggcckabhdaa

namespace Go.Proofs.Ytnnbggcckabhdaa
open Go Go.Eng
end Go.Proofs.Ytnnbggcckabhdaa

namespace Go.Proofs.Ytnnbggcckabhdaa
open Go Go.Eng
end Go.Proofs.Ytnnbggcckabhdaa

namespace Go.Proofs.Ytnnbggcckabhdaa
open Go Go.Eng
/-- selion/selionref02.SameField [loop [0, 1, 5]] -/
def m43 : MFun := ⟨26, [], [.mov (.s 4)],
 .seq (.ops [⟨(some 4), some undefA, none, false, .pu (.mov (.c (.bool false)))⟩])
 (.seq (.seq (.ops [⟨(some 6), some undefA, none, false, .pu (.mov (.s 0))⟩,
   ⟨(some 7), some undefA, none, false, .pu (.len (.s 6))⟩,
   ⟨(some 8), some undefA, none, false, .pu (.mov (.s 1))⟩,
   ⟨(some 9), some undefA, none, false, .pu (.len (.s 8))⟩,
   ⟨(some 10), some undefA, none, false, .pu (.bin .neq (.s 7) (.s 9))⟩])
 (.cond (.s 10) (.seq (.ops [⟨(some 4), some undefA, none, false, .pu (.mov (.c (.bool false)))⟩])
  (.ret))
 (.skip)))
 (.seq (.seq (.ops [⟨(some 5), some undefA, none, false, .pu (.mov (.c (.int .i64 0)))⟩])
 (.block 0 (.loop (.seq (.seq (.ops [⟨(some 11), some undefA, none, false, .pu (.mov (.s 5))⟩,
     ⟨(some 12), some undefA, none, false, .pu (.mov (.s 0))⟩,
     ⟨(some 13), some undefA, none, false, .pu (.len (.s 12))⟩,
     ⟨(some 14), some undefA, none, false, .pu (.bin .lss (.s 11) (.s 13))⟩])
   (.cond (.s 14) (.skip)
   (.exit 0)))
   (.seq (.block 1 (.seq (.ops [⟨(some 17), some undefA, none, true, .pu (.mov (.s 0))⟩,
      ⟨(some 18), some undefA, none, true, .pu (.mov (.s 5))⟩,
      ⟨(some 19), some undefA, none, true, .pu (.idx 2 (.s 17) (.s 18))⟩,
      ⟨(some 20), some undefA, none, true, .ld (.ld 2 true (.s 19))⟩,
      ⟨(some 21), some undefA, none, true, .pu (.mov (.s 1))⟩,
      ⟨(some 22), some undefA, none, true, .pu (.mov (.s 5))⟩,
      ⟨(some 23), some undefA, none, true, .pu (.idx 2 (.s 21) (.s 22))⟩,
      ⟨(some 24), some undefA, none, true, .ld (.ld 2 true (.s 23))⟩,
      ⟨(some 25), some undefA, none, false, .pu (.eqs true [true, true] (.s 20) (.s 24))⟩])
    (.cond (.s 25) (.seq (.ops [⟨(some 4), some undefA, none, false, .pu (.mov (.c (.bool false)))⟩])
     (.ret))
    (.skip))))
   (.ops [⟨(some 15), some undefA, none, false, .pu (.mov (.s 5))⟩,
     ⟨(some 16), some undefA, none, false, .pu (.bin .add (.s 15) (.c (.int .i64 1)))⟩,
     ⟨(some 5), some undefA, none, false, .pu (.mov (.s 16))⟩]))))))
 (.seq (.ops [⟨(some 4), some undefA, none, false, .pu (.mov (.c (.bool true)))⟩])
 (.ret))))⟩
theorem t43 : trF Try.prog [] [] Try.f43 = some m43 := by kernel_rfl
/-- selion/soil.Turn [] -/
def m52 : MFun := ⟨16, [], [.mov (.s 2), .mov (.s 3)],
 .seq (.ops [⟨(some 2), some undefA, none, false, .pu (.mov (.c (.nilS)))⟩,
   ⟨(some 3), some undefA, none, false, .pu (.mov (.c (.int .i64 0)))⟩])
 (.seq (.seq (.ops [⟨(some 6), some undefA, none, false, .pu (.mov (.s 0))⟩,
   ⟨(some 7), some undefA, none, false, .call 37 [(.s 6)]⟩,
   ⟨(some 4), some undefA, none, false, .pu (.mov (.s 7))⟩])
 (.seq (.ops [⟨(some 8), some undefA, none, false, .pu (.mov (.s 4))⟩,
   ⟨(some 9), some undefA, none, false, .pu (.bin .neq (.s 8) (.c (.int .i64 0)))⟩])
 (.cond (.s 9) (.seq (.ops [⟨(some 10), some undefA, none, false, .pu (.mov (.s 4))⟩,
    ⟨(some 2), some undefA, none, false, .pu (.mov (.c (.nilS)))⟩,
    ⟨(some 3), some undefA, none, false, .pu (.mov (.s 10))⟩])
  (.ret))
 (.skip))))
 (.seq (.ops [⟨(some 11), some undefA, none, false, .pu (.mov (.s 0))⟩,
   ⟨(some 12), some undefA, none, false, .call 92 [(.s 11)]⟩,
   ⟨(some 5), some undefA, none, false, .pu (.mov (.s 12))⟩])
 (.seq (.ops [⟨(some 13), some undefA, none, false, .pu (.mov (.s 5))⟩,
   ⟨(some 14), some undefA, none, false, .call 93 [(.s 13)]⟩])
 (.seq (.ops [⟨(some 15), some undefA, none, false, .pu (.mov (.s 5))⟩,
   ⟨(some 2), some undefA, none, false, .pu (.mov (.s 15))⟩,
   ⟨(some 3), some undefA, none, false, .pu (.mov (.c (.int .i64 0)))⟩])
 (.ret)))))⟩
theorem t52 : trF Try.prog [] [] Try.f52 = some m52 := by kernel_rfl
/-- selion/soil.Join [] -/
def m54 : MFun := ⟨23, [], [.mov (.s 4), .mov (.s 5)],
 .seq (.ops [⟨(some 4), some undefA, none, false, .pu (.mov (.c (.nilS)))⟩,
   ⟨(some 5), some undefA, none, false, .pu (.mov (.c (.int .i64 0)))⟩])
 (.seq (.seq (.ops [⟨(some 7), some undefA, none, false, .pu (.mov (.s 0))⟩,
   ⟨(some 8), some undefA, none, false, .pu (.mov (.s 1))⟩,
   ⟨(some 9), some undefA, none, false, .call 82 [(.s 7), (.s 8)]⟩,
   ⟨(some 6), some undefA, none, false, .pu (.mov (.s 9))⟩])
 (.seq (.ops [⟨(some 10), some undefA, none, false, .pu (.mov (.s 6))⟩,
   ⟨(some 11), some undefA, none, false, .pu (.bin .neq (.s 10) (.c (.int .i64 0)))⟩])
 (.cond (.s 11) (.seq (.ops [⟨(some 12), some undefA, none, false, .pu (.mov (.s 6))⟩,
    ⟨(some 4), some undefA, none, false, .pu (.mov (.c (.nilS)))⟩,
    ⟨(some 5), some undefA, none, false, .pu (.mov (.s 12))⟩])
  (.ret))
 (.skip))))
 (.seq (.seq (.ops [⟨(some 13), some undefA, none, false, .pu (.mov (.s 0))⟩,
   ⟨(some 14), some undefA, none, false, .pu (.len (.s 13))⟩,
   ⟨(some 15), some undefA, none, false, .pu (.mov (.s 1))⟩,
   ⟨(some 16), some undefA, none, false, .pu (.len (.s 15))⟩,
   ⟨(some 17), some undefA, none, false, .pu (.bin .add (.s 14) (.s 16))⟩,
   ⟨(some 18), some undefA, none, false, .pu (.bin .gtr (.s 17) (.c (.int .i64 6)))⟩])
 (.cond (.s 18) (.seq (.ops [⟨(some 4), some undefA, none, false, .pu (.mov (.c (.nilS)))⟩,
    ⟨(some 5), some undefA, none, false, .pu (.mov (.c (.int .i64 3)))⟩])
  (.ret))
 (.skip)))
 (.seq (.ops [⟨(some 19), some undefA, none, false, .pu (.mov (.s 0))⟩,
   ⟨(some 20), some undefA, none, false, .pu (.mov (.s 1))⟩,
   ⟨(some 21), some undefA, none, false, .ha (.blds 1 2 [.nilS] [(0, 1, (.s 19)), (1, 1, (.s 20))])⟩,
   ⟨(some 22), some undefA, none, false, .call 94 [(.s 21)]⟩,
   ⟨(some 4), some undefA, none, false, .pu (.mov (.s 22))⟩,
   ⟨(some 5), some undefA, none, false, .pu (.mov (.c (.int .i64 0)))⟩])
 (.ret))))⟩
theorem t54 : trF Try.prog [] [] Try.f54 = some m54 := by kernel_rfl
/-- selion/selionref02.Join [] -/
def m55 : MFun := ⟨23, [], [.mov (.s 4), .mov (.s 5)],
 .seq (.ops [⟨(some 4), some undefA, none, false, .pu (.mov (.c (.nilS)))⟩,
   ⟨(some 5), some undefA, none, false, .pu (.mov (.c (.int .i64 0)))⟩])
 (.seq (.ops [⟨(some 8), some undefA, none, false, .pu (.mov (.s 0))⟩,
   ⟨(some 9), some undefA, none, false, .pu (.mov (.s 1))⟩,
   ⟨(some 10), some undefA, none, false, .call 84 [(.s 8), (.s 9)]⟩,
   ⟨(some 6), some undefA, none, false, .pu (.mov (.s 10))⟩])
 (.seq (.seq (.ops [⟨(some 11), some undefA, none, false, .pu (.mov (.s 6))⟩,
   ⟨(some 12), some undefA, none, false, .pu (.bin .neq (.s 11) (.c (.int .i64 0)))⟩])
 (.cond (.s 12) (.seq (.ops [⟨(some 13), some undefA, none, false, .pu (.mov (.s 6))⟩,
    ⟨(some 4), some undefA, none, false, .pu (.mov (.c (.nilS)))⟩,
    ⟨(some 5), some undefA, none, false, .pu (.mov (.s 13))⟩])
  (.ret))
 (.skip)))
 (.seq (.ops [⟨(some 14), some undefA, none, false, .ha (.blds 2 0 [.int .i64 0, .int .i64 0] [])⟩,
   ⟨(some 15), some undefA, none, false, .pu (.mov (.s 0))⟩,
   ⟨(some 16), some undefA, none, false, .ha (.app 2 (.s 14) (.s 15))⟩,
   ⟨(some 17), some undefA, none, false, .pu (.mov (.s 1))⟩,
   ⟨(some 18), some undefA, none, false, .ha (.app 2 (.s 16) (.s 17))⟩,
   ⟨(some 7), some undefA, none, false, .pu (.mov (.s 18))⟩])
 (.seq (.seq (.ops [⟨(some 19), some undefA, none, false, .pu (.mov (.s 7))⟩,
   ⟨(some 20), some undefA, none, false, .pu (.len (.s 19))⟩,
   ⟨(some 21), some undefA, none, false, .pu (.bin .gtr (.s 20) (.c (.int .i64 6)))⟩])
 (.cond (.s 21) (.seq (.ops [⟨(some 4), some undefA, none, false, .pu (.mov (.c (.nilS)))⟩,
    ⟨(some 5), some undefA, none, false, .pu (.mov (.c (.int .i64 3)))⟩])
  (.ret))
 (.skip)))
 (.seq (.ops [⟨(some 22), some undefA, none, false, .pu (.mov (.s 7))⟩,
   ⟨(some 4), some undefA, none, false, .pu (.mov (.s 22))⟩,
   ⟨(some 5), some undefA, none, false, .pu (.mov (.c (.int .i64 0)))⟩])
 (.ret))))))⟩
theorem t55 : trF Try.prog [] [] Try.f55 = some m55 := by kernel_rfl
/-- selion/selionref02.Turn [loop [0, 5, 6]] -/
def m56 : MFun := ⟨27, [], [.mov (.s 2), .mov (.s 3)],
 .seq (.ops [⟨(some 2), some undefA, none, false, .pu (.mov (.c (.nilS)))⟩,
   ⟨(some 3), some undefA, none, false, .pu (.mov (.c (.int .i64 0)))⟩])
 (.seq (.ops [⟨(some 7), some undefA, none, false, .pu (.mov (.s 0))⟩,
   ⟨(some 8), some undefA, none, false, .call 38 [(.s 7)]⟩,
   ⟨(some 4), some undefA, none, false, .pu (.mov (.s 8))⟩])
 (.seq (.seq (.ops [⟨(some 9), some undefA, none, false, .pu (.mov (.s 4))⟩,
   ⟨(some 10), some undefA, none, false, .pu (.bin .neq (.s 9) (.c (.int .i64 0)))⟩])
 (.cond (.s 10) (.seq (.ops [⟨(some 11), some undefA, none, false, .pu (.mov (.s 4))⟩,
    ⟨(some 2), some undefA, none, false, .pu (.mov (.c (.nilS)))⟩,
    ⟨(some 3), some undefA, none, false, .pu (.mov (.s 11))⟩])
  (.ret))
 (.skip)))
 (.seq (.ops [⟨(some 5), some undefA, none, false, .pu (.mov (.c (.nilS)))⟩])
 (.seq (.seq (.ops [⟨(some 12), some undefA, none, false, .pu (.mov (.s 0))⟩,
   ⟨(some 13), some undefA, none, false, .pu (.len (.s 12))⟩,
   ⟨(some 14), some undefA, none, false, .pu (.bin .sub (.s 13) (.c (.int .i64 1)))⟩,
   ⟨(some 6), some undefA, none, false, .pu (.mov (.s 14))⟩])
 (.block 0 (.loop (.seq (.seq (.ops [⟨(some 15), some undefA, none, false, .pu (.mov (.s 6))⟩,
     ⟨(some 16), some undefA, none, false, .pu (.bin .geq (.s 15) (.c (.int .i64 0)))⟩])
   (.cond (.s 16) (.skip)
   (.exit 0)))
   (.seq (.block 1 (.ops [⟨(some 19), some undefA, none, false, .pu (.mov (.s 5))⟩,
      ⟨(some 20), some undefA, none, false, .pu (.mov (.s 0))⟩,
      ⟨(some 21), some undefA, none, false, .pu (.mov (.s 6))⟩,
      ⟨(some 22), some undefA, none, false, .pu (.idx 2 (.s 20) (.s 21))⟩,
      ⟨(some 23), some undefA, none, false, .ld (.ld 2 true (.s 22))⟩,
      ⟨(some 24), some undefA, none, false, .ha (.blds 2 1 [.int .i64 0, .int .i64 0] [(0, 2, (.s 23))])⟩,
      ⟨(some 25), some undefA, none, false, .ha (.app 2 (.s 19) (.s 24))⟩,
      ⟨(some 5), some undefA, none, false, .pu (.mov (.s 25))⟩]))
   (.ops [⟨(some 17), some undefA, none, false, .pu (.mov (.s 6))⟩,
     ⟨(some 18), some undefA, none, false, .pu (.bin .sub (.s 17) (.c (.int .i64 1)))⟩,
     ⟨(some 6), some undefA, none, false, .pu (.mov (.s 18))⟩]))))))
 (.seq (.ops [⟨(some 26), some undefA, none, false, .pu (.mov (.s 5))⟩,
   ⟨(some 2), some undefA, none, false, .pu (.mov (.s 26))⟩,
   ⟨(some 3), some undefA, none, false, .pu (.mov (.c (.int .i64 0)))⟩])
 (.ret))))))⟩
theorem t56 : trF Try.prog [] [] Try.f56 = some m56 := by kernel_rfl
/-- selion/soil.both [] -/
def m82 : MFun := ⟨11, [], [.mov (.s 4)],
 .seq (.ops [⟨(some 4), some undefA, none, false, .pu (.mov (.c (.int .i64 0)))⟩])
 (.seq (.ops [⟨(some 5), some undefA, none, false, .pu (.mov (.s 0))⟩,
   ⟨(some 6), some undefA, none, false, .call 37 [(.s 5)]⟩,
   ⟨(some 7), some undefA, none, false, .pu (.mov (.s 1))⟩,
   ⟨(some 8), some undefA, none, false, .call 37 [(.s 7)]⟩,
   ⟨(some 9), some undefA, none, false, .ha (.blds 1 2 [.int .i64 0] [(0, 1, (.s 6)), (1, 1, (.s 8))])⟩,
   ⟨(some 10), some undefA, none, false, .call 113 [(.s 9)]⟩,
   ⟨(some 4), some undefA, none, false, .pu (.mov (.s 10))⟩])
 (.ret))⟩
theorem t82 : trF Try.prog [] [] Try.f82 = some m82 := by kernel_rfl
/-- selion/selionref02.two [] -/
def m84 : MFun := ⟨13, [], [.mov (.s 4)],
 .seq (.ops [⟨(some 4), some undefA, none, false, .pu (.mov (.c (.int .i64 0)))⟩])
 (.seq (.ops [⟨(some 6), some undefA, none, false, .pu (.mov (.s 0))⟩,
   ⟨(some 7), some undefA, none, false, .call 38 [(.s 6)]⟩,
   ⟨(some 5), some undefA, none, false, .pu (.mov (.s 7))⟩])
 (.seq (.seq (.ops [⟨(some 8), some undefA, none, false, .pu (.mov (.s 5))⟩,
   ⟨(some 9), some undefA, none, false, .pu (.bin .neq (.s 8) (.c (.int .i64 0)))⟩])
 (.cond (.s 9) (.seq (.ops [⟨(some 10), some undefA, none, false, .pu (.mov (.s 5))⟩,
    ⟨(some 4), some undefA, none, false, .pu (.mov (.s 10))⟩])
  (.ret))
 (.skip)))
 (.seq (.ops [⟨(some 11), some undefA, none, false, .pu (.mov (.s 1))⟩,
   ⟨(some 12), some undefA, none, false, .call 38 [(.s 11)]⟩,
   ⟨(some 4), some undefA, none, false, .pu (.mov (.s 12))⟩])
 (.ret))))⟩
theorem t84 : trF Try.prog [] [] Try.f84 = some m84 := by kernel_rfl
/-- slices.Clone[[]selion/api.Zone,selion/api.Zone] [] -/
def m92 : MFun := ⟨8, [], [.mov (.s 2)],
 .seq (.ops [⟨(some 2), some undefA, none, false, .pu (.mov (.c (.nilS)))⟩])
 (.seq (.seq (.ops [⟨(some 3), some undefA, none, false, .pu (.mov (.s 0))⟩,
   ⟨(some 4), some undefA, none, false, .pu (.isnil false (.s 3))⟩])
 (.cond (.s 4) (.seq (.ops [⟨(some 2), some undefA, none, false, .pu (.mov (.c (.nilS)))⟩])
  (.ret))
 (.skip)))
 (.seq (.ops [⟨(some 5), some undefA, none, false, .ha (.blds 2 0 [.int .i64 0, .int .i64 0] [])⟩,
   ⟨(some 6), some undefA, none, false, .pu (.mov (.s 0))⟩,
   ⟨(some 7), some undefA, none, false, .ha (.app 2 (.s 5) (.s 6))⟩,
   ⟨(some 2), some undefA, none, false, .pu (.mov (.s 7))⟩])
 (.ret)))⟩
theorem t92 : trF Try.prog [] [] Try.f92 = some m92 := by kernel_rfl
/-- slices.Reverse[[]selion/api.Zone,selion/api.Zone] [loop [0, 2, 3]] -/
def m93 : MFun := ⟨28, [], [],
 .seq (.ops [⟨(some 4), some undefA, none, false, .pu (.mov (.s 0))⟩,
   ⟨(some 5), some undefA, none, false, .pu (.len (.s 4))⟩,
   ⟨(some 6), some undefA, none, false, .pu (.bin .sub (.s 5) (.c (.int .i64 1)))⟩,
   ⟨(some 2), some undefA, none, false, .pu (.mov (.c (.int .i64 0)))⟩,
   ⟨(some 3), some undefA, none, false, .pu (.mov (.s 6))⟩])
 (.block 0 (.loop (.seq (.seq (.ops [⟨(some 7), some undefA, none, false, .pu (.mov (.s 2))⟩,
     ⟨(some 8), some undefA, none, false, .pu (.mov (.s 3))⟩,
     ⟨(some 9), some undefA, none, false, .pu (.bin .lss (.s 7) (.s 8))⟩])
   (.cond (.s 9) (.skip)
   (.exit 0)))
   (.seq (.block 1 (.ops [⟨(some 14), some undefA, none, true, .pu (.mov (.s 0))⟩,
      ⟨(some 15), some undefA, none, true, .pu (.mov (.s 2))⟩,
      ⟨(some 16), some undefA, none, true, .pu (.mov (.s 0))⟩,
      ⟨(some 17), some undefA, none, true, .pu (.mov (.s 3))⟩,
      ⟨(some 18), some undefA, none, true, .pu (.mov (.s 0))⟩,
      ⟨(some 19), some undefA, none, true, .pu (.mov (.s 3))⟩,
      ⟨(some 20), some undefA, none, true, .pu (.idx 2 (.s 18) (.s 19))⟩,
      ⟨(some 21), some undefA, none, true, .ld (.ld 2 true (.s 20))⟩,
      ⟨(some 22), some undefA, none, true, .pu (.mov (.s 0))⟩,
      ⟨(some 23), some undefA, none, true, .pu (.mov (.s 2))⟩,
      ⟨(some 24), some undefA, none, true, .pu (.idx 2 (.s 22) (.s 23))⟩,
      ⟨(some 25), some undefA, none, true, .ld (.ld 2 true (.s 24))⟩,
      ⟨(some 26), some undefA, none, false, .pu (.idx 2 (.s 14) (.s 15))⟩,
      ⟨none, some undefA, none, false, .ha (.st 2 (.s 26) (.s 21))⟩,
      ⟨(some 27), some undefA, none, false, .pu (.idx 2 (.s 16) (.s 17))⟩,
      ⟨none, some undefA, none, false, .ha (.st 2 (.s 27) (.s 25))⟩]))
   (.ops [⟨(some 10), some undefA, none, false, .pu (.mov (.s 2))⟩,
     ⟨(some 11), some undefA, none, false, .pu (.bin .add (.s 10) (.c (.int .i64 1)))⟩,
     ⟨(some 12), some undefA, none, false, .pu (.mov (.s 3))⟩,
     ⟨(some 13), some undefA, none, false, .pu (.bin .sub (.s 12) (.c (.int .i64 1)))⟩,
     ⟨(some 2), some undefA, none, false, .pu (.mov (.s 11))⟩,
     ⟨(some 3), some undefA, none, false, .pu (.mov (.s 13))⟩])))))⟩
theorem t93 : trF Try.prog [] [] Try.f93 = some m93 := by kernel_rfl
/-- slices.Concat[[]selion/api.Zone,selion/api.Zone] [loop [0, 3, 9, 10, 11], loop [6, 25, 26, 27]] -/
def m94 : MFun := ⟨36, [], [.mov (.s 2)],
 .seq (.ops [⟨(some 2), some undefA, none, false, .pu (.mov (.c (.nilS)))⟩])
 (.seq (.ops [⟨(some 3), some undefA, none, false, .pu (.mov (.c (.int .i64 0)))⟩])
 (.seq (.seq (.ops [⟨(some 9), some undefA, none, false, .pu (.mov (.s 0))⟩,
   ⟨(some 10), some undefA, none, false, .pu (.len (.s 9))⟩,
   ⟨(some 11), some undefA, none, false, .pu (.mov (.c (.int .i64 0)))⟩])
 (.block 0 (.loop (.seq (.ops [⟨(some 12), some undefA, none, false, .pu (.bin .lss (.s 11) (.s 10))⟩])
   (.seq (.cond (.s 12) (.skip)
   (.exit 0))
   (.seq (.block 1 (.seq (.ops [⟨(some 13), some undefA, none, false, .pu (.idx 1 (.s 9) (.s 11))⟩,
      ⟨(some 14), some undefA, none, false, .ld (.ld 1 false (.s 13))⟩,
      ⟨(some 5), some undefA, none, false, .pu (.mov (.s 14))⟩])
    (.seq (.ops [⟨(some 15), some undefA, none, false, .pu (.mov (.s 3))⟩,
      ⟨(some 16), some undefA, none, false, .pu (.mov (.s 5))⟩,
      ⟨(some 17), some undefA, none, false, .pu (.len (.s 16))⟩,
      ⟨(some 18), some undefA, none, false, .pu (.bin .add (.s 15) (.s 17))⟩,
      ⟨(some 3), some undefA, none, false, .pu (.mov (.s 18))⟩])
    (.seq (.ops [⟨(some 19), some undefA, none, false, .pu (.mov (.s 3))⟩,
      ⟨(some 20), some undefA, none, false, .pu (.bin .lss (.s 19) (.c (.int .i64 0)))⟩])
    (.cond (.s 20) (.ops [⟨(some 21), some undefA, none, false, .pu (.fail)⟩,
       ⟨none, some undefA, none, false, .pu (.fail)⟩])
    (.skip))))))
   (.ops [⟨(some 22), some undefA, none, false, .pu (.bin .add (.s 11) (.c (.int .i64 1)))⟩,
     ⟨(some 11), some undefA, none, false, .pu (.mov (.s 22))⟩])))))))
 (.seq (.ops [⟨(some 23), some undefA, none, false, .pu (.mov (.s 3))⟩,
   ⟨(some 24), some undefA, none, false, .call 116 [(.c (.nilS)), (.s 23)]⟩,
   ⟨(some 6), some undefA, none, false, .pu (.mov (.s 24))⟩])
 (.seq (.seq (.ops [⟨(some 25), some undefA, none, false, .pu (.mov (.s 0))⟩,
   ⟨(some 26), some undefA, none, false, .pu (.len (.s 25))⟩,
   ⟨(some 27), some undefA, none, false, .pu (.mov (.c (.int .i64 0)))⟩])
 (.block 2 (.loop (.seq (.ops [⟨(some 28), some undefA, none, false, .pu (.bin .lss (.s 27) (.s 26))⟩])
   (.seq (.cond (.s 28) (.skip)
   (.exit 2))
   (.seq (.block 3 (.seq (.ops [⟨(some 29), some undefA, none, false, .pu (.idx 1 (.s 25) (.s 27))⟩,
      ⟨(some 30), some undefA, none, false, .ld (.ld 1 false (.s 29))⟩,
      ⟨(some 8), some undefA, none, false, .pu (.mov (.s 30))⟩])
    (.ops [⟨(some 31), some undefA, none, false, .pu (.mov (.s 6))⟩,
      ⟨(some 32), some undefA, none, false, .pu (.mov (.s 8))⟩,
      ⟨(some 33), some undefA, none, false, .ha (.app 2 (.s 31) (.s 32))⟩,
      ⟨(some 6), some undefA, none, false, .pu (.mov (.s 33))⟩])))
   (.ops [⟨(some 34), some undefA, none, false, .pu (.bin .add (.s 27) (.c (.int .i64 1)))⟩,
     ⟨(some 27), some undefA, none, false, .pu (.mov (.s 34))⟩])))))))
 (.seq (.ops [⟨(some 35), some undefA, none, false, .pu (.mov (.s 6))⟩,
   ⟨(some 2), some undefA, none, false, .pu (.mov (.s 35))⟩])
 (.ret))))))⟩
theorem t94 : trF Try.prog [] [] Try.f94 = some m94 := by kernel_rfl
/-- slices.Grow[[]selion/api.Zone,selion/api.Zone] [] -/
def m116 : MFun := ⟨27, [], [.mov (.s 4)],
 .seq (.ops [⟨(some 4), some undefA, none, false, .pu (.mov (.c (.nilS)))⟩])
 (.seq (.seq (.ops [⟨(some 5), some undefA, none, false, .pu (.mov (.s 1))⟩,
   ⟨(some 6), some undefA, none, false, .pu (.bin .lss (.s 5) (.c (.int .i64 0)))⟩])
 (.cond (.s 6) (.ops [⟨(some 7), some undefA, none, false, .pu (.fail)⟩,
    ⟨none, some undefA, none, false, .pu (.fail)⟩])
 (.skip)))
 (.seq (.seq (.ops [⟨(some 8), some undefA, none, false, .pu (.mov (.s 1))⟩,
   ⟨(some 9), some undefA, none, false, .pu (.mov (.s 0))⟩,
   ⟨(some 10), some undefA, none, false, .pu (.cap (.s 9))⟩,
   ⟨(some 11), some undefA, none, false, .pu (.mov (.s 0))⟩,
   ⟨(some 12), some undefA, none, false, .pu (.len (.s 11))⟩,
   ⟨(some 13), some undefA, none, false, .pu (.bin .sub (.s 10) (.s 12))⟩,
   ⟨(some 14), some undefA, none, false, .pu (.bin .sub (.s 8) (.s 13))⟩,
   ⟨(some 1), some undefA, none, false, .pu (.mov (.s 14))⟩])
 (.seq (.ops [⟨(some 15), some undefA, none, false, .pu (.mov (.s 1))⟩,
   ⟨(some 16), some undefA, none, false, .pu (.bin .gtr (.s 15) (.c (.int .i64 0)))⟩])
 (.cond (.s 16) (.ops [⟨(some 17), some undefA, none, false, .pu (.mov (.s 0))⟩,
    ⟨(some 18), some undefA, none, false, .pu (.mov (.s 0))⟩,
    ⟨(some 19), some undefA, none, false, .pu (.cap (.s 18))⟩,
    ⟨(some 20), some undefA, none, false, .pu (.slc 2 (.s 17) none (some (.s 19)) none)⟩,
    ⟨(some 21), some undefA, none, false, .pu (.mov (.s 1))⟩,
    ⟨(some 22), some undefA, none, false, .ha (.appz 2 [.int .i64 0, .int .i64 0] (.s 20) (.s 21))⟩,
    ⟨(some 23), some undefA, none, false, .pu (.mov (.s 0))⟩,
    ⟨(some 24), some undefA, none, false, .pu (.len (.s 23))⟩,
    ⟨(some 25), some undefA, none, false, .pu (.slc 2 (.s 22) none (some (.s 24)) none)⟩,
    ⟨(some 0), some undefA, none, false, .pu (.mov (.s 25))⟩])
 (.skip))))
 (.seq (.ops [⟨(some 26), some undefA, none, false, .pu (.mov (.s 0))⟩,
   ⟨(some 4), some undefA, none, false, .pu (.mov (.s 26))⟩])
 (.ret))))⟩
theorem t116 : trF Try.prog [] [] Try.f116 = some m116 := by kernel_rfl
end Go.Proofs.Ytnnbggcckabhdaa

namespace Go.Proofs.Ytnnbggcckabhdaa
open Go Go.Eng
theorem take_succ_eq {α : Type} {xs ys : List α} {i : Nat} {z w : α} (hz : xs[i]? = some z) (hw : ys[i]? = some w) : xs.take (i + 1) = ys.take (i + 1) ↔ xs.take i = ys.take i ∧ z = w := by
  rw [List.take_add_one, List.take_add_one, hz, hw]
  have hi : i < xs.length := (List.getElem?_eq_some_iff.1 hz).1
  have hj : i < ys.length := (List.getElem?_eq_some_iff.1 hw).1
  constructor
  · intro h
    have := List.append_inj h (by simp; omega)
    exact ⟨this.1, by simpa using this.2⟩
  · rintro ⟨h1, rfl⟩
    rw [h1]
theorem pair_beq {z w : Int × Int} (h : z ≠ w) : (z.1 == w.1 && z.2 == w.2) = false := by
  cases hb : (z.1 == w.1 && z.2 == w.2) with
  | false => rfl
  | true => simp at hb; exact absurd (Prod.ext hb.1 hb.2) h
theorem s43 {xs ys : List (Int × Int)} {v u : AV} {A : AHeap} (hx : L2 A v xs) (hy : L2 A u ys) (hl : xs.length ≤ 1000000) : ACalls Try.prog 43 [v, u] A (B (decide (xs = ys))) A := by
  refine acalls hmix Try.func43 (by kernel_rfl) t43 2 rfl (by decide) ?_
  by_cases hle : xs.length = ys.length
  · have hle' : (xs.length : Int) = ys.length := by omega
    dsimp only [m43]
    simp (maxSteps := 4000000) -implicitDefEqProofs -dsimp (disch := omega) only [↓AW_skip, ↓AW_ops, ↓AW_seq, ↓AW_cond, ↓AW_block, ↓AOps_nil, ↓AOps_pu, on_some, condB_f, ↓then_normal, pval, rd_S, rd_C, put_S, ↓AW_toLoop, eq_self, List.replicate_succ, List.replicate_zero, List.set_cons_zero, List.set_cons_succ, List.getElem?_cons_zero, List.getElem?_cons_succ, Option.getD_some, Nat.reduceSub, List.cons_append, List.nil_append, bin_neq, decide_false, not_true_eq_false, hx.len, hy.len, hle']
    refine LoopK.by 26 (fun i : Nat => i ≤ xs.length ∧ xs.take i = ys.take i) (fun i => [(0, v), (1, u), (5, I i)]) (fun _ => A) (fun i => xs.length - i) 0 ⟨by omega, rfl⟩ rfl (by simp [Has, rd_s]) rfl ?_
    rintro i ⟨hi, he⟩
    by_cases hlt : i < xs.length
    · obtain ⟨z, hz⟩ : ∃ z, xs[i]? = some z := ⟨_, List.getElem?_eq_getElem hlt⟩
      have hlt' : (i : Int) < xs.length := by omega
      have hlt2 : i < ys.length := by omega
      obtain ⟨w, hw⟩ : ∃ w, ys[i]? = some w := ⟨_, List.getElem?_eq_getElem hlt2⟩
      by_cases hzw : z = w
      · subst hzw
        simp (maxSteps := 4000000) -implicitDefEqProofs -dsimp (disch := omega) only [↓AW_skip, ↓AW_ops, ↓AW_seq, ↓AW_cond, ↓AW_block, ↓AOps_nil, ↓AOps_pu, ↓AOps_ld, on_some, condB_t, condB_f, ↓then_normal, ↓inBlock_normal, pval, lval, rd_S, rd_C, put_S, partA, eqc, beq_self_eq_true, eq_self, mk, List.foldl_cons, List.foldl_nil, List.replicate_succ, List.replicate_zero, List.set_cons_zero, List.set_cons_succ, List.getElem?_cons_zero, List.getElem?_cons_succ, List.drop_zero, List.take_succ_cons, List.take_nil, Option.getD_some, Option.map_some, List.length_cons, List.length_nil, Nat.reduceAdd, Nat.reduceLeDiff, Nat.reduceEqDiff, Nat.zero_add, bin_add, bin_lss, w64, if_true, if_false, Bool.not_true, Bool.true_and, decide_true, Go.Eng.e2, true_and, hlt', hx.len, hx.idx hlt, hx.ld0 hz 2 true (by decide), hy.idx hlt2, hy.ld0 hw 2 true (by decide)]
        exact ⟨i + 1, ⟨hlt, (take_succ_eq hz hw).2 ⟨he, rfl⟩⟩, by simp [Has, rd_s], by omega⟩
      · have hb := pair_beq hzw
        simp (maxSteps := 4000000) -implicitDefEqProofs -dsimp (disch := omega) only [↓AW_skip, ↓AW_ops, ↓AW_seq, ↓AW_cond, ↓AW_block, ↓AW_ret, ↓AOps_nil, ↓AOps_pu, ↓AOps_ld, on_some, condB_t, ↓then_normal, ↓then_ret, ↓inBlock_ret, ↓Fin_ret, pval, lval, rd_S, rd_C, put_S, resV, resL, partA, eqc, Bool.and_true, eq_self, mk, List.foldl_cons, List.foldl_nil, List.replicate_succ, List.replicate_zero, List.set_cons_zero, List.set_cons_succ, List.getElem?_cons_zero, List.getElem?_cons_succ, List.drop_zero, List.take_succ_cons, List.take_nil, Option.getD_some, Option.map_some, List.length_cons, List.length_nil, Nat.reduceAdd, Nat.reduceLeDiff, Nat.reduceEqDiff, Nat.zero_add, bin_lss, if_true, if_false, Bool.not_false, decide_true, Go.Eng.e2, hlt', hx.len, hx.idx hlt, hx.ld0 hz 2 true (by decide), hy.idx hlt2, hy.ld0 hw 2 true (by decide), hb]
        refine gc_same ?_
        have : ¬ xs = ys := by rintro rfl; rw [hz] at hw; exact hzw (Option.some.inj hw)
        simp [this]
    · have hlt' : ¬ ((i : Int) < xs.length) := by omega
      simp (maxSteps := 4000000) -implicitDefEqProofs -dsimp (disch := omega) only [↓AW_ops, ↓AW_seq, ↓AW_cond, ↓AW_exit, ↓AW_ret, ↓AOps_nil, ↓AOps_pu, on_some, condB_f, ↓then_normal, ↓then_exit, ↓inBlock_exit, ↓Fin_ret, pval, rd_S, rd_C, put_S, resV, resL, eq_self, mk, List.foldl_cons, List.foldl_nil, List.replicate_succ, List.replicate_zero, List.set_cons_zero, List.set_cons_succ, List.getElem?_cons_zero, List.getElem?_cons_succ, Option.getD_some, bin_lss, if_true, decide_false, hlt', hx.len]
      rw [List.take_of_length_le (by omega), List.take_of_length_le (by omega)] at he
      exact gc_same (by simp [he])
  · have hle' : ¬ (xs.length : Int) = ys.length := by omega
    dsimp only [m43]
    simp (maxSteps := 4000000) -implicitDefEqProofs -dsimp (disch := omega) only [↓AW_ops, ↓AW_seq, ↓AW_cond, ↓AW_ret, ↓AOps_nil, ↓AOps_pu, on_some, condB_t, ↓then_normal, ↓then_ret, ↓Fin_ret, pval, rd_S, rd_C, put_S, resV, resL, List.replicate_succ, List.replicate_zero, List.set_cons_zero, List.set_cons_succ, List.getElem?_cons_zero, List.getElem?_cons_succ, Option.getD_some, Nat.reduceSub, List.cons_append, List.nil_append, bin_neq, decide_true, not_false_eq_true, hx.len, hy.len, hle']
    have : ¬ xs = ys := by rintro rfl; exact hle rfl
    exact gc_same (by simp [this])
end Go.Proofs.Ytnnbggcckabhdaa

namespace Go.Proofs.Ytnnbggcckabhdaa
open Go Go.Eng
end Go.Proofs.Ytnnbggcckabhdaa

namespace Go.Proofs.Ytnnbggcckabhdaa
open Go Go.Eng
theorem set_new (A : AHeap) (o o' : AObj) : (A ++ [o]).set A.length o' = A ++ [o'] := by simp
theorem AccL_ls {α : Type} {es : Nat} {e : α → List AV} {H H1 : AHeap} {v : AV} {xs : List α} (h : AccL es e H H1 v xs) (he : ∀ x, (e x).length = es) : Ls es e H1 v xs := by
  obtain ⟨h1, h2, h3⟩ := h
  refine ⟨he, ?_⟩
  rcases h3 with ⟨h4, rfl⟩ | ⟨h0, n, rfl, h5, h6⟩
  · have : xs = [] := List.eq_nil_of_length_eq_zero h4
    subst this; rfl
  · simp only [slCells, cellsAt, h6, if_true, Nat.zero_add]
    rw [if_pos (by omega)]
    simp only [List.drop_zero, Option.map_some, Option.some.injEq, Prod.mk.injEq, true_and]
    rw [← h2, List.take_length]
/-- A store. -/
def stA (sz : Nat) (p x : AV) (H : AHeap) : Option AHeap :=
  match p, x.cells? with
  | .ptr n off, some c => match H[n]? with
    | some (.cells true l) => if c.length = sz ∧ off + sz ≤ l.length then some (H.set n (.cells true (splice l off c))) else none
    | _ => none
  | _, _ => none
theorem hval_st (sz : Nat) (p x : Opd) (S : List AV) (H : AHeap) : hval (.st sz p x) S H = (stA sz (rd S p) (rd S x) H).map (fun H' => (undefA, H')) := by
  simp only [hval, stA]
  cases rd S p with
  | ptr n off =>
    cases (rd S x).cells? with
    | none => rfl
    | some c =>
      simp only
      cases H[n]? with
      | none => rfl
      | some o =>
        cases o with
        | cells rw l =>
          cases rw
          · rfl
          · simp only
            split <;> rfl
        | _ => rfl
  | _ => rfl
theorem hval_blds (es n : Nat) (zero : List AV) (parts : List (Nat × Nat × Opd)) (S : List AV) (H : AHeap) : hval (.blds es n zero parts) S H = match fillA (parts.map fun p => (p.1, p.2.1, rd S p.2.2)) (repl zero n) with | some l => some (.sl es H.length 0 n true, H ++ [.cells true l]) | none => none := rfl
theorem hval_app (es : Nat) (x y : Opd) (S : List AV) (H : AHeap) : hval (.app es x y) S H = appA es H (rd S x) (rd S y) := rfl
theorem splice_flat {α : Type} {es : Nat} {e : α → List AV} (he : ∀ x, (e x).length = es) {xs : List α} {i : Nat} (hi : i < xs.length) (z : α) : splice (xs.flatMap e) (i * es) (e z) = (xs.set i z).flatMap e := by
  unfold splice
  have h1 := flatMap_length he (xs.take i)
  rw [List.length_take, Nat.min_eq_left (by omega)] at h1
  have h2 := flatMap_length he (xs.take (i + 1))
  rw [List.length_take, Nat.min_eq_left (by omega)] at h2
  have e1 : (xs.flatMap e).take (i * es) = (xs.take i).flatMap e := by
    conv => lhs; rw [← List.take_append_drop i xs, List.flatMap_append]
    rw [← h1, List.take_left]
  have e2 : (xs.flatMap e).drop (i * es + (e z).length) = (xs.drop (i + 1)).flatMap e := by
    conv => lhs; rw [← List.take_append_drop (i + 1) xs, List.flatMap_append]
    rw [he z, ← Nat.succ_mul, Nat.succ_eq_add_one, ← h2, List.drop_left]
  rw [e1, e2, List.set_eq_take_append_cons_drop, if_pos hi, List.flatMap_append, List.flatMap_cons, List.append_assoc]
/-- A list that the call itself has made and may write. -/
structure OL {α : Type} (es : Nat) (e : α → List AV) (A H : AHeap) (n : Nat) (v : AV) (xs : List α) : Prop where
  he : ∀ x, (e x).length = es
  pre : A <+: H
  new : A.length ≤ n
  ob : H[n]? = some (.cells true (xs.flatMap e))
  v : ∃ full, v = .sl es n 0 xs.length full
section
variable {α : Type} {es : Nat} {e : α → List AV} {A H : AHeap} {n : Nat} {v : AV} {xs : List α}
theorem OL.ls (h : OL es e A H n v xs) : Ls es e H v xs := by
  obtain ⟨he, h1, h2, h3, full, rfl⟩ := h
  refine ⟨he, ?_⟩
  have hl := flatMap_length he xs
  simp only [slCells, cellsAt, h3, if_true, Nat.zero_add]
  rw [if_pos (by omega)]
  simp only [List.drop_zero, Option.map_some, Option.some.injEq, Prod.mk.injEq, true_and]
  rw [← hl, List.take_length]
theorem OL.lt (h : OL es e A H n v xs) : n < H.length := (List.getElem?_eq_some_iff.1 h.ob).1
theorem OL.set (h : OL es e A H n v xs) (i : Nat) (z : α) : OL es e A (H.set n (.cells true ((xs.set i z).flatMap e))) n v (xs.set i z) := by
  have hn := h.lt
  obtain ⟨he, h1, h2, h3, full, rfl⟩ := h
  exact ⟨he, pre_set h1 h2 _, h2, by rw [List.getElem?_set_self hn], full, by simp⟩
theorem OL.st (h : OL es e A H n v xs) {i : Nat} (hi : i < xs.length) (x : AV) (z : α) (hx : x.cells? = some (e z)) : stA es (.ptr (nm v) (of v + i * es)) x H = some (H.set n (.cells true ((xs.set i z).flatMap e))) := by
  obtain ⟨he, h1, h2, h3, full, rfl⟩ := h
  have hl := flatMap_length he xs
  have hle : i * es + es ≤ xs.length * es := by
    rw [← Nat.succ_mul]; exact Nat.mul_le_mul_right _ hi
  simp only [stA, nm, of, hx, h3, Nat.zero_add]
  rw [if_pos ⟨he z, by omega⟩, splice_flat he hi z]
theorem OL.mono {H' : AHeap} (h : OL es e A H n v xs) (hp : H <+: H') : OL es e A H' n v xs := ⟨h.he, h.pre.trans hp, h.new, pre_get hp h.ob, h.v⟩
theorem OL.new_mk (he : ∀ x, (e x).length = es) (A : AHeap) (xs : List α) (full : Bool) : OL es e A (A ++ [.cells true (xs.flatMap e)]) A.length (.sl es A.length 0 xs.length full) xs :=
  ⟨he, pre_app _ _, Nat.le_refl _, by simp, full, rfl⟩
theorem gc_weak {v1 v1' v : AV} {H1 H' : AHeap} (h : ∀ ρ c, VR ρ v1 c → VR ρ v1' c) (g : GC A v1' H1 v H') : GC A v1 H1 v H' :=
  fun ρ w ρ1 w1 cv s0 s1 st hv => g ρ w ρ1 w1 cv s0 s1 st (h ρ1 cv hv)
theorem VR.unfull {ρ : Ren} {es n off len : Nat} {full : Bool} {c : Value} (h : VR ρ (.sl es n off len full) c) : VR ρ (.sl es n off len false) c := by
  cases h with
  | sl _ _ _ _ _ L a cap h1 h2 h3 h4 h5 => exact .sl es n off len false L a cap h1 h2 (fun e => by cases e) h4 h5
theorem OL.acc (h : OL es e A H n v xs) (h0 : 0 < xs.length) : AccL es e A H (.sl es n 0 xs.length false) xs :=
  ⟨h.pre, flatMap_length h.he xs, .inr ⟨h0, n, rfl, h.new, h.ob⟩⟩
theorem OL.gc (h : OL es e A H n v xs) (h0 : 0 < xs.length) (hf : ∀ x, ∀ y ∈ e x, flat y = true) : GC A v H (outV es A xs.length) (outH A (xs.flatMap e) xs.length) := by
  have h1 := (h.acc h0).gc hf
  obtain ⟨_, _, _, _, full, rfl⟩ := h
  exact gc_weak (fun ρ c => VR.unfull) h1
theorem OL.gc2 (h : OL es e A H n v xs) (h0 : 0 < xs.length) (hf : ∀ x, ∀ y ∈ e x, flat y = true) (c : AV) (hc : flat c = true) : GC A (.tuple [v, c]) H (.tuple [outV es A xs.length, c]) (outH A (xs.flatMap e) xs.length) := by
  have h1 := (h.acc h0).gc2 hf c hc
  obtain ⟨_, _, _, _, full, rfl⟩ := h
  refine gc_weak (fun ρ cv hv => ?_) h1
  cases hv with
  | tuple _ vs hl hh =>
    refine .tuple _ _ hl (fun i x u hx hu => ?_)
    match i with
    | 0 =>
      simp at hx
      subst hx
      exact VR.unfull (hh 0 _ u rfl hu)
    | i + 1 => exact hh (i + 1) x u (by simpa using hx) hu
end
theorem OL_setAll {α : Type} {es : Nat} {e : α → List AV} {A H : AHeap} {n : Nat} {v : AV} {xs : List α} (h : OL es e A H n v xs) (xs' : List α) (hl : xs'.length = xs.length) : OL es e A (H.set n (.cells true (xs'.flatMap e))) n v xs' := by
  have hn := h.lt
  obtain ⟨he, h1, h2, h3, full, rfl⟩ := h
  exact ⟨he, pre_set h1 h2 _, h2, by rw [List.getElem?_set_self hn], full, by rw [hl]⟩
end Go.Proofs.Ytnnbggcckabhdaa

namespace Go.Proofs.Ytnnbggcckabhdaa
open Go Go.Eng
section
variable {α : Type} {es : Nat} {e : α → List AV} {A H : AHeap} {v : AV} {xs : List α}
end
/-- What is appended to an empty list that has just been made. -/
theorem app_new {α : Type} {es : Nat} {e : α → List AV} {A : AHeap} {y : AV} {ys : List α} (hy : Ls es e A y ys) (hl : ys.length ≤ lim) :
    ∃ v' n H2, appA es (A ++ [.cells true []]) (.sl es A.length 0 0 true) y = some (v', H2) ∧ OL es e A H2 n v' ys := by
  have hc := (hy.mono (pre_app A [.cells true []])).hc
  by_cases h0 : ys.length = 0
  · have : ys = [] := List.eq_nil_of_length_eq_zero h0
    subst this
    refine ⟨.sl es A.length 0 0 true, A.length, A ++ [.cells true []], ?_, hy.he, pre_app _ _, Nat.le_refl _, by simp, true, rfl⟩
    unfold appA
    rw [hc]
    simp
  · refine ⟨.sl es (A ++ [AObj.cells true []]).length 0 ys.length false, (A ++ [AObj.cells true []]).length, A ++ [AObj.cells true []] ++ [.cells true (ys.flatMap e)], ?_, hy.he, (pre_app A _).trans (pre_app _ _), by simp, by simp, false, rfl⟩
    unfold appA
    rw [hc]
    simp [h0, hl]
/-- A list that a call has returned may be written. -/
theorem OL_out {α : Type} {es : Nat} {e : α → List AV} (he : ∀ x, (e x).length = es) (A : AHeap) (xs : List α) (h0 : 0 < xs.length) : OL es e A (outH A (xs.flatMap e) xs.length) A.length (outV es A xs.length) xs := by
  unfold outV outH
  rw [if_neg (by omega), if_neg (by omega)]
  exact OL.new_mk he A xs false
theorem Ls_nn {α : Type} {es : Nat} {e : α → List AV} {A : AHeap} {v : AV} {xs : List α} (h : Ls es e A v xs) (h0 : 0 < xs.length) : v ≠ .nilS := by
  rintro rfl
  have := h.hc
  simp [slCells] at this
  omega
theorem set_same {α : Type} {l : List α} {n : Nat} {x : α} (h : l[n]? = some x) : l.set n x = l := by
  have hlt := (List.getElem?_eq_some_iff.1 h).1
  have hx := (List.getElem?_eq_some_iff.1 h).2
  rw [← hx]
  exact List.set_getElem_self hlt
end Go.Proofs.Ytnnbggcckabhdaa

namespace Go.Proofs.Ytnnbggcckabhdaa
open Go Go.Eng
end Go.Proofs.Ytnnbggcckabhdaa

namespace Go.Proofs.Ytnnbggcckabhdaa
open Go Go.Eng
end Go.Proofs.Ytnnbggcckabhdaa

namespace Go.Proofs.Ytnnbggcckabhdaa
open Go Go.Eng
end Go.Proofs.Ytnnbggcckabhdaa

namespace Go.Proofs.Ytnnbggcckabhdaa
open Go Go.Eng
end Go.Proofs.Ytnnbggcckabhdaa

namespace Go.Proofs.Ytnnbggcckabhdaa
open Go Go.Eng
theorem OL_gcS {α : Type} {es : Nat} {e : α → List AV} {A H : AHeap} {n : Nat} {v : AV} {xs : List α} (h : OL es e A H n v xs) (hf : ∀ x, ∀ y ∈ e x, flat y = true) : GC A v H (.sl es A.length 0 xs.length false) (A ++ [.cells true (xs.flatMap e)]) := by
  obtain ⟨he, h1, h2, h3, full, rfl⟩ := h
  have hfl : ∀ y ∈ xs.flatMap e, flat y = true := fun y hy => by
    obtain ⟨x, _, hx⟩ := List.mem_flatMap.1 hy
    exact hf x y hx
  refine gc_weak (fun ρ c => VR.unfull) ?_
  have hk := Keep.add (keep_old h1) (n := n) (o := .cells true (xs.flatMap e)) h2 (by simp; omega) h3
  simp only [renO, ren_flats _ 3 _ hfl] at hk
  exact gc_keep hk (by simp [ren])
end Go.Proofs.Ytnnbggcckabhdaa

namespace Go.Proofs.Ytnnbggcckabhdaa
open Go Go.Eng
end Go.Proofs.Ytnnbggcckabhdaa

namespace Go.Proofs.Ytnnbggcckabhdaa
open Go Go.Eng
theorem L1_two (A : AHeap) (x y : Int) : L1 (A ++ [.cells true [I x, I y]]) (.sl 1 A.length 0 2 true) [x, y] := ⟨e1_len, by simp [slCells, cellsAt, e1]⟩
theorem take_all2 {α : Type} {p : α → Prop} {l : List α} {i : Nat} {z : α} (h : ∀ y ∈ l.take i, p y) (hz : l[i]? = some z) (hp : p z) : ∀ y ∈ l.take (i + 1), p y := by
  intro y hy
  rw [List.take_add_one, hz] at hy
  rcases List.mem_append.1 hy with hy | hy
  · exact h y hy
  · have : y = z := by simpa using hy
    rw [this]; exact hp
def v2E (f g : List (Int × Int)) : Int := if vE f = 0 then vE g else vE f
def orL : List Int → Int
  | [] => 0
  | x :: r => if x = 0 then orL r else x
theorem orL_at : ∀ (xs : List Int) (i : Nat) (z : Int), (∀ y ∈ xs.take i, y = 0) → xs[i]? = some z → z ≠ 0 → orL xs = z
  | [], _, _, _, h, _ => by simp at h
  | x :: r, 0, z, _, h, hz => by
    have : x = z := by simpa using h
    rw [orL, if_neg (by rw [this]; exact hz), this]
  | x :: r, i + 1, z, ha, h, hz => by
    have hx : x = 0 := ha x (by simp)
    rw [orL, if_pos hx]
    exact orL_at r i z (fun y hy => ha y (by simp [hy])) (by simpa using h) hz
theorem orL_none : ∀ (xs : List Int), (∀ y ∈ xs, y = 0) → orL xs = 0
  | [], _ => rfl
  | x :: r, h => by
    rw [orL, if_pos (h x (by simp))]
    exact orL_none r (fun y hy => h y (by simp [hy]))
theorem s113 {xs : List Int} {v : AV} {A : AHeap} (hx : L1 A v xs) (hl : xs.length ≤ 1000) : ACalls Try.prog 113 [v] A (I (orL xs)) A := by
  refine acalls hmix Try.func113 (by kernel_rfl) t113 1 rfl (by decide) ?_
  dsimp only [m113]
  simp (maxSteps := 4000000) -implicitDefEqProofs -dsimp (disch := omega) only [↓AW_ops, ↓AW_seq, ↓AW_block, ↓AOps_nil, ↓AOps_pu, on_some, ↓then_normal, pval, rd_S, rd_C, put_S, ↓AW_toLoop, List.replicate_succ, List.replicate_zero, List.set_cons_zero, List.set_cons_succ, List.getElem?_cons_zero, List.getElem?_cons_succ, Option.getD_some, Nat.reduceSub, List.cons_append, List.nil_append, hx.len]
  refine LoopK.by 18 (fun i : Nat => i ≤ xs.length ∧ ∀ y ∈ xs.take i, y = 0) (fun i => [(3, I 0), (6, v), (7, I xs.length), (8, I i)]) (fun _ => A) (fun i => xs.length - i) 0 ⟨by omega, by simp⟩ rfl (by simp [Has, rd_s]) rfl ?_
  rintro i ⟨hi, h1⟩
  by_cases hlt : i < xs.length
  · obtain ⟨z, hz⟩ : ∃ z, xs[i]? = some z := ⟨_, List.getElem?_eq_getElem hlt⟩
    have hlt' : (i : Int) < xs.length := by omega
    by_cases h : z = 0
    · have h1' := take_all2 h1 hz h
      subst h
      simp (maxSteps := 4000000) -implicitDefEqProofs -dsimp (disch := omega) only [↓AW_skip, ↓AW_ops, ↓AW_seq, ↓AW_cond, ↓AW_block, ↓AOps_nil, ↓AOps_pu, ↓AOps_ld, on_some, condB_t, condB_f, ↓then_normal, ↓inBlock_normal, pval, lval, rd_S, rd_C, put_S, partA, eq_self, mk, List.foldl_cons, List.foldl_nil, List.replicate_succ, List.replicate_zero, List.set_cons_zero, List.set_cons_succ, List.getElem?_cons_zero, List.getElem?_cons_succ, List.drop_zero, List.take_succ_cons, List.take_nil, Option.getD_some, List.length_cons, List.length_nil, Nat.reduceAdd, Nat.reduceLeDiff, Nat.zero_add, bin_add, bin_neq, bin_lss, w64, if_true, if_false, Bool.false_eq_true, decide_true, decide_false, Go.Eng.e1, true_and, not_true_eq_false, hlt', hx.idx hlt, hx.ld0 hz 1 false (by decide)]
      exact ⟨i + 1, ⟨hlt, h1'⟩, by simp [Has, rd_s], by omega⟩
    · simp (maxSteps := 4000000) -implicitDefEqProofs -dsimp (disch := omega) only [↓AW_skip, ↓AW_ops, ↓AW_seq, ↓AW_cond, ↓AW_block, ↓AW_ret, ↓AOps_nil, ↓AOps_pu, ↓AOps_ld, on_some, condB_t, ↓then_normal, ↓then_ret, ↓inBlock_ret, ↓Fin_ret, pval, lval, rd_S, put_S, resV, resL, partA, eq_self, mk, List.foldl_cons, List.foldl_nil, List.replicate_succ, List.replicate_zero, List.set_cons_zero, List.set_cons_succ, List.getElem?_cons_zero, List.getElem?_cons_succ, List.drop_zero, List.take_succ_cons, List.take_nil, Option.getD_some, List.length_cons, List.length_nil, Nat.reduceLeDiff, Nat.zero_add, bin_neq, bin_lss, if_true, if_false, Bool.false_eq_true, decide_true, Go.Eng.e1, not_false_eq_true, hlt', hx.idx hlt, hx.ld0 hz 1 false (by decide), h]
      exact gc_same (by rw [orL_at xs i z h1 hz h])
  · have hlt' : ¬ ((i : Int) < xs.length) := by omega
    simp (maxSteps := 4000000) -implicitDefEqProofs -dsimp (disch := omega) only [↓AW_ops, ↓AW_seq, ↓AW_cond, ↓AW_exit, ↓AW_ret, ↓AOps_nil, ↓AOps_pu, on_some, condB_f, ↓then_normal, ↓then_exit, ↓inBlock_exit, ↓Fin_ret, pval, rd_S, put_S, resV, resL, eq_self, mk, List.foldl_cons, List.foldl_nil, List.replicate_succ, List.replicate_zero, List.set_cons_zero, List.set_cons_succ, List.getElem?_cons_zero, List.getElem?_cons_succ, Option.getD_some, bin_lss, if_true, decide_false, hlt']
    rw [List.take_of_length_le (by omega)] at h1
    exact gc_same (by rw [orL_none xs h1])
theorem s82 {f g : List (Int × Int)} {v u : AV} {A : AHeap} (hf : L2 A v f) (hg : L2 A u g) : ACalls Try.prog 82 [v, u] A (I (v2E f g)) A := by
  refine acalls hmix Try.func82 (by kernel_rfl) t82 2 rfl (by decide) ?_
  dsimp only [m82]
  simp (maxSteps := 4000000) -implicitDefEqProofs -dsimp (disch := omega) only [↓AW_ops, ↓AW_seq, ↓AOps_nil, ↓AOps_pu, ↓AOps_call, on_some, ↓then_normal, pval, rd_S, rd_C, put_S, List.replicate_succ, List.replicate_zero, List.set_cons_zero, List.set_cons_succ, List.getElem?_cons_zero, List.getElem?_cons_succ, Option.getD_some, map_c, map_n, Nat.reduceSub, List.cons_append, List.nil_append]
  refine CallK.of (s37 hf) ?_
  simp (maxSteps := 4000000) -implicitDefEqProofs -dsimp (disch := omega) only [↓AOps_pu, ↓AOps_call, on_some, extK_same, pval, rd_S, put_S, List.replicate_succ, List.replicate_zero, List.set_cons_zero, List.set_cons_succ, List.getElem?_cons_zero, List.getElem?_cons_succ, Option.getD_some, map_c, map_n, Nat.reduceSub, List.cons_append, List.nil_append]
  refine CallK.of (s37 hg) ?_
  simp (maxSteps := 4000000) -implicitDefEqProofs -dsimp (disch := omega) only [↓AOps_ha, ↓AOps_call, on_some, extK_app, extK_same, hval, rd_S, put_S, AV.cells?, splice, fillA, repl, eq_self, List.replicate_succ, List.replicate_zero, List.set_cons_zero, List.set_cons_succ, List.getElem?_cons_zero, List.getElem?_cons_succ, List.drop_zero, List.drop_succ_cons, List.drop_nil, List.take_zero, List.take_succ_cons, Option.getD_some, map_c, map_n, List.length_cons, List.length_nil, Nat.reduceAdd, Nat.reduceSub, Nat.reduceLeDiff, Nat.zero_add, List.cons_append, List.nil_append, List.append_nil, if_true, and_true]
  refine CallK.of (s113 (L1_two A (vE f) (vE g)) (by simp)) ?_
  simp (maxSteps := 4000000) -implicitDefEqProofs -dsimp (disch := omega) only [↓AW_ret, ↓AOps_nil, ↓AOps_pu, on_some, extK_same, ↓then_normal, ↓Fin_ret, pval, rd_S, put_S, resV, resL, List.replicate_succ, List.replicate_zero, List.set_cons_zero, List.set_cons_succ, List.getElem?_cons_zero, List.getElem?_cons_succ, Option.getD_some, Nat.reduceSub, List.cons_append, List.nil_append]
  refine gc_val (pre_app A _) ?_
  by_cases h0 : vE f = 0
  · by_cases h1 : vE g = 0 <;> simp [orL, v2E, h0, h1, ren]
  · simp [orL, v2E, h0, ren]
theorem s84 {f g : List (Int × Int)} {v u : AV} {A : AHeap} (hf : L2 A v f) (hg : L2 A u g) : ACalls Try.prog 84 [v, u] A (I (v2E f g)) A := by
  refine acalls hmix Try.func84 (by kernel_rfl) t84 2 rfl (by decide) ?_
  dsimp only [m84]
  simp (maxSteps := 4000000) -implicitDefEqProofs -dsimp (disch := omega) only [↓AW_ops, ↓AW_seq, ↓AOps_nil, ↓AOps_pu, ↓AOps_call, on_some, ↓then_normal, pval, rd_S, rd_C, put_S, List.replicate_succ, List.replicate_zero, List.set_cons_zero, List.set_cons_succ, List.getElem?_cons_zero, List.getElem?_cons_succ, Option.getD_some, map_c, map_n, Nat.reduceSub, List.cons_append, List.nil_append]
  refine CallK.of (s38 hf) ?_
  by_cases h0 : vE f = 0
  · simp (maxSteps := 4000000) -implicitDefEqProofs -dsimp (disch := omega) only [↓AW_skip, ↓AW_ops, ↓AW_seq, ↓AW_cond, ↓AOps_nil, ↓AOps_pu, ↓AOps_call, on_some, extK_same, condB_f, ↓then_normal, pval, rd_S, rd_C, put_S, eq_self, List.replicate_succ, List.replicate_zero, List.set_cons_zero, List.set_cons_succ, List.getElem?_cons_zero, List.getElem?_cons_succ, Option.getD_some, map_c, map_n, Nat.reduceSub, List.cons_append, List.nil_append, bin_neq, decide_false, not_true_eq_false, h0]
    refine CallK.of (s38 hg) ?_
    simp (maxSteps := 4000000) -implicitDefEqProofs -dsimp (disch := omega) only [↓AW_ret, ↓AOps_nil, ↓AOps_pu, on_some, extK_same, ↓then_normal, ↓Fin_ret, pval, rd_S, put_S, resV, resL, List.replicate_succ, List.replicate_zero, List.set_cons_zero, List.set_cons_succ, List.getElem?_cons_zero, List.getElem?_cons_succ, Option.getD_some, Nat.reduceSub, List.cons_append, List.nil_append]
    exact gc_same (by simp [v2E, h0])
  · simp (maxSteps := 4000000) -implicitDefEqProofs -dsimp (disch := omega) only [↓AW_ops, ↓AW_seq, ↓AW_cond, ↓AW_ret, ↓AOps_nil, ↓AOps_pu, on_some, extK_same, condB_t, ↓then_normal, ↓then_ret, ↓Fin_ret, pval, rd_S, rd_C, put_S, resV, resL, List.replicate_succ, List.replicate_zero, List.set_cons_zero, List.set_cons_succ, List.getElem?_cons_zero, List.getElem?_cons_succ, Option.getD_some, Nat.reduceSub, List.cons_append, List.nil_append, bin_neq, decide_true, not_false_eq_true, h0]
    exact gc_same (by simp [v2E, h0])
theorem v2E_0 {f g : List (Int × Int)} (h : v2E f g = 0) : vE f = 0 ∧ vE g = 0 := by
  unfold v2E at h
  split at h
  · exact ⟨by assumption, h⟩
  · rename_i h1; exact absurd h h1
end Go.Proofs.Ytnnbggcckabhdaa

namespace Go.Proofs.Ytnnbggcckabhdaa
open Go Go.Eng
end Go.Proofs.Ytnnbggcckabhdaa

namespace Go.Proofs.Ytnnbggcckabhdaa
open Go Go.Eng
end Go.Proofs.Ytnnbggcckabhdaa

namespace Go.Proofs.Ytnnbggcckabhdaa
open Go Go.Eng
end Go.Proofs.Ytnnbggcckabhdaa

namespace Go.Proofs.Ytnnbggcckabhdaa
open Go Go.Eng
theorem c_CloneZ {xs : List (Int × Int)} {v : AV} {A : AHeap} (hx : L2 A v xs) (hn : v ≠ .nilS) (hl : xs.length ≤ 1000000) : ACalls Try.prog 92 [v] A (.sl 2 A.length 0 xs.length false) (A ++ [.cells true (xs.flatMap e2)]) := by
  refine acalls hmix Try.func92 (by kernel_rfl) t92 1 rfl (by decide) ?_
  obtain ⟨v', n, H2, happ, ho⟩ := app_new hx (by simp [lim]; omega)
  rcases hx.inv with ⟨rfl, _⟩ | ⟨n', off, full, rw, l, rfl, _⟩
  · exact absurd rfl hn
  · dsimp only [m92]
    simp (maxSteps := 4000000) -implicitDefEqProofs -dsimp (disch := omega) only [↓AW_skip, ↓AW_ops, ↓AW_seq, ↓AW_cond, ↓AW_ret, ↓AOps_nil, ↓AOps_pu, ↓AOps_ha, on_some, extK_false, extK_app, condB_f, ↓then_normal, ↓Fin_ret, pval, hval_blds, hval_app, rd_S, rd_C, put_S, resV, resL, fillA, repl, List.replicate_succ, List.replicate_zero, List.set_cons_zero, List.set_cons_succ, List.getElem?_cons_zero, List.getElem?_cons_succ, Option.getD_some, map_n, Nat.reduceSub, List.cons_append, List.nil_append, List.replicate_zero, repl, happ]
    exact OL_gcS ho flat_e2
/-- What stands at a place of a list that is half turned. -/
def hrev {α : Type} (xs zs : List α) (i : Nat) : Prop := zs.length = xs.length ∧ ∀ k, k < xs.length → zs[k]? = if k < i ∨ xs.length - 1 - i < k then xs[xs.length - 1 - k]? else xs[k]?
theorem hrev_0 {α : Type} (xs : List α) : hrev xs xs 0 := ⟨rfl, fun k hk => by rw [if_neg (by omega)]⟩
theorem hrev_end {α : Type} {xs zs : List α} {i : Nat} (h : hrev xs zs i) (hi : xs.length ≤ 2 * i + 1) : zs = xs.reverse := by
  refine List.ext_getElem? (fun k => ?_)
  by_cases hk : k < xs.length
  · rw [h.2 k hk, List.getElem?_reverse hk]
    split
    · rfl
    · have : xs.length - 1 - k = k := by omega
      rw [this]
  · rw [List.getElem?_eq_none (by rw [h.1]; omega), List.getElem?_eq_none (by simp; omega)]
theorem hrev_step {α : Type} {xs zs : List α} {i : Nat} (h : hrev xs zs i) (hi : 2 * i + 1 < xs.length) {a b : α} (ha : zs[i]? = some a) (hb : zs[xs.length - 1 - i]? = some b) :
    hrev xs ((zs.set i b).set (xs.length - 1 - i) a) (i + 1) := by
  refine ⟨by simp [h.1], fun k hk => ?_⟩
  have h1 := h.2 i (by omega)
  rw [if_neg (by omega), ha] at h1
  have h2 := h.2 (xs.length - 1 - i) (by omega)
  rw [if_neg (by omega), hb] at h2
  by_cases hk1 : k = xs.length - 1 - i
  · subst hk1
    rw [List.getElem?_set_self (by simp [h.1]; omega), if_pos (by omega), h1]
    congr 1
    omega
  · rw [List.getElem?_set_ne (Ne.symm hk1)]
    by_cases hk2 : k = i
    · subst hk2
      rw [List.getElem?_set_self (by rw [h.1]; omega), if_pos (by omega), h2]
    · rw [List.getElem?_set_ne (Ne.symm hk2), h.2 k hk]
      by_cases h3 : k < i ∨ xs.length - 1 - i < k
      · rw [if_pos h3, if_pos (by omega)]
      · rw [if_neg h3, if_neg (by omega)]
theorem c_ReverseZ {xs : List (Int × Int)} {v : AV} {A H : AHeap} {n : Nat} (h : OL 2 e2 A H n v xs) (hl : xs.length ≤ 1000000) : ACalls Try.prog 93 [v] H (.tuple []) (H.set n (.cells true (xs.reverse.flatMap e2))) := by
  refine acalls hmix Try.func93 (by kernel_rfl) t93 1 rfl (by decide) ?_
  dsimp only [m93]
  simp (maxSteps := 4000000) -implicitDefEqProofs -dsimp (disch := omega) only [↓AW_ops, ↓AW_seq, ↓AW_block, ↓AOps_nil, ↓AOps_pu, on_some, ↓then_normal, pval, rd_S, rd_C, put_S, ↓AW_toLoop, List.replicate_succ, List.replicate_zero, List.set_cons_zero, List.set_cons_succ, List.getElem?_cons_zero, List.getElem?_cons_succ, Option.getD_some, Nat.reduceSub, List.cons_append, List.nil_append, bin_sub, w64, h.ls.len]
  refine LoopK.by 28 (fun x : Nat × List (Int × Int) => (2 * x.1 ≤ xs.length + 1 ∧ hrev xs x.2 x.1)) (fun x => [(0, v), (2, I x.1), (3, I ((xs.length : Int) - 1 - x.1))]) (fun x => H.set n (.cells true (x.2.flatMap e2))) (fun x => xs.length - x.1) (0, xs) ⟨by simp only; omega, hrev_0 xs⟩ rfl (by simp [Has, rd_s]) (by simp only; rw [set_same h.ob]) ?_
  rintro ⟨i, zs⟩ ⟨hi, hz⟩
  simp only at hi hz
  have ho := OL_setAll h zs hz.1
  by_cases hlt : (i : Int) < (xs.length : Int) - 1 - i
  · have hin : i < xs.length := by omega
    have hjl : xs.length - 1 - i < zs.length := by rw [hz.1]; omega
    have hil : i < zs.length := by rw [hz.1]; omega
    have hj : (xs.length : Int) - 1 - i = ((xs.length - 1 - i : Nat) : Int) := by omega
    obtain ⟨a, ha⟩ : ∃ a, zs[i]? = some a := ⟨_, List.getElem?_eq_getElem hil⟩
    obtain ⟨b, hb⟩ : ∃ b, zs[xs.length - 1 - i]? = some b := ⟨_, List.getElem?_eq_getElem hjl⟩
    have hlt' := hlt
    rw [hj] at hlt'
    have h1 := ho.st hil (.agg [I b.1, I b.2]) b rfl
    rw [List.set_set] at h1
    have ho2 := OL_setAll h (zs.set i b) (by simp [hz.1])
    have hjl2 : xs.length - 1 - i < (zs.set i b).length := by simpa using hjl
    have h2 := ho2.st hjl2 (.agg [I a.1, I a.2]) a rfl
    rw [List.set_set] at h2
    have hst := hrev_step hz (by omega) ha hb
    generalize hJ : xs.length - 1 - i = j at *
    simp (maxSteps := 4000000) -implicitDefEqProofs -dsimp (disch := omega) only [↓AW_skip, ↓AW_ops, ↓AW_seq, ↓AW_cond, ↓AW_block, ↓AOps_nil, ↓AOps_pu, ↓AOps_ld, ↓AOps_ha, on_some, extK_false, condB_t, ↓then_normal, ↓inBlock_normal, pval, lval, hval_st, rd_S, rd_C, put_S, putS_none, partA, eq_self, mk, List.foldl_cons, List.foldl_nil, List.replicate_succ, List.replicate_zero, List.set_cons_zero, List.set_cons_succ, List.getElem?_cons_zero, List.getElem?_cons_succ, List.drop_zero, List.take_succ_cons, List.take_nil, Option.getD_some, Option.map_some, List.length_cons, List.length_nil, Nat.reduceAdd, Nat.reduceLeDiff, Nat.reduceEqDiff, Nat.zero_add, bin_add, bin_sub, bin_lss, w64, if_true, if_false, decide_true, Go.Eng.e2, true_and, hj, hlt', ho.ls.idx hil, ho.ls.idx hjl, ho.ls.ld0 ha 2 true (by decide), ho.ls.ld0 hb 2 true (by decide), h1, h2]
    refine ⟨(i + 1, _), ⟨by simp only; omega, hst⟩, by simp [Has, rd_s]; omega, rfl, by simp only; omega⟩
  · have he := hrev_end hz (by omega)
    simp (maxSteps := 4000000) -implicitDefEqProofs -dsimp (disch := omega) only [↓AW_ops, ↓AW_seq, ↓AW_cond, ↓AW_exit, ↓AOps_nil, ↓AOps_pu, on_some, condB_f, ↓then_normal, ↓then_exit, ↓inBlock_exit, ↓Fin_normal, pval, rd_S, put_S, resV, resL, eq_self, mk, List.foldl_cons, List.foldl_nil, List.replicate_succ, List.replicate_zero, List.set_cons_zero, List.set_cons_succ, List.getElem?_cons_zero, List.getElem?_cons_succ, Option.getD_some, bin_lss, if_true, decide_false, hlt]
    rw [he] at ho ⊢
    exact gc_same_all rfl rfl
def tuL (f : List (Int × Int)) : List (Int × Int) := if vE f = 0 then f.reverse else []
theorem s52 {f : List (Int × Int)} {v : AV} {A : AHeap} (hf : L2 A v f) : ACalls Try.prog 52 [v] A (.tuple [outV 2 A (tuL f).length, I (vE f)]) (outH A ((tuL f).flatMap e2) (tuL f).length) := by
  refine acalls hmix Try.func52 (by kernel_rfl) t52 1 rfl (by decide) ?_
  dsimp only [m52]
  simp (maxSteps := 4000000) -implicitDefEqProofs -dsimp (disch := omega) only [↓AW_ops, ↓AW_seq, ↓AOps_nil, ↓AOps_pu, ↓AOps_call, on_some, ↓then_normal, pval, rd_S, rd_C, put_S, List.replicate_succ, List.replicate_zero, List.set_cons_zero, List.set_cons_succ, List.getElem?_cons_zero, List.getElem?_cons_succ, Option.getD_some, map_c, map_n, Nat.reduceSub, List.cons_append, List.nil_append]
  refine CallK.of (s37 hf) ?_
  by_cases h0 : vE f = 0
  · obtain ⟨hg, h1⟩ := good_of h0
    have hl6 := hg.1
    have hL : tuL f = f.reverse := by unfold tuL; rw [if_pos h0]
    rw [hL, h0]
    simp (maxSteps := 4000000) -implicitDefEqProofs -dsimp (disch := omega) only [↓AW_skip, ↓AW_ops, ↓AW_seq, ↓AW_cond, ↓AOps_nil, ↓AOps_pu, ↓AOps_call, on_some, extK_same, condB_f, ↓then_normal, pval, rd_S, rd_C, put_S, eq_self, List.replicate_succ, List.replicate_zero, List.set_cons_zero, List.set_cons_succ, List.getElem?_cons_zero, List.getElem?_cons_succ, Option.getD_some, map_c, map_n, Nat.reduceSub, List.cons_append, List.nil_append, bin_neq, decide_false, not_true_eq_false]
    refine CallK.of (c_CloneZ hf (Ls_nn hf h1) (by omega)) ?_
    have ho := OL.new_mk e2_len A f false
    generalize hvv : AV.sl 2 A.length 0 f.length false = vv at *
    have hr := c_ReverseZ ho (by omega)
    rw [set_new] at hr
    simp (maxSteps := 4000000) -implicitDefEqProofs -dsimp (disch := omega) only [↓AW_ops, ↓AW_seq, ↓AOps_nil, ↓AOps_pu, ↓AOps_call, on_some, extK_app, ↓then_normal, pval, rd_S, put_S, List.replicate_succ, List.replicate_zero, List.set_cons_zero, List.set_cons_succ, List.getElem?_cons_zero, List.getElem?_cons_succ, Option.getD_some, map_c, map_n, Nat.reduceSub, List.cons_append, List.nil_append]
    refine CallK.of hr ?_
    simp (maxSteps := 4000000) -implicitDefEqProofs -dsimp (disch := omega) only [↓AW_ops, ↓AW_seq, ↓AW_ret, ↓AOps_nil, ↓AOps_pu, on_some, extK_false, ↓then_normal, ↓Fin_ret, pval, rd_S, rd_C, put_S, resV, resL, List.replicate_succ, List.replicate_zero, List.set_cons_zero, List.set_cons_succ, List.getElem?_cons_zero, List.getElem?_cons_succ, Option.getD_some, Nat.reduceSub, List.cons_append, List.nil_append]
    have ho2 := OL_setAll ho f.reverse (by simp)
    rw [set_new] at ho2
    exact ho2.gc2 (by simp; omega) flat_e2 (I 0) rfl
  · have hL : tuL f = [] := by simp [tuL, h0]
    rw [hL]
    simp (maxSteps := 4000000) -implicitDefEqProofs -dsimp (disch := omega) only [↓AW_ops, ↓AW_seq, ↓AW_cond, ↓AW_ret, ↓AOps_nil, ↓AOps_pu, on_some, extK_same, condB_t, ↓then_normal, ↓then_ret, ↓Fin_ret, pval, rd_S, rd_C, put_S, resV, resL, List.replicate_succ, List.replicate_zero, List.set_cons_zero, List.set_cons_succ, List.getElem?_cons_zero, List.getElem?_cons_succ, Option.getD_some, List.length_nil, Nat.reduceSub, List.cons_append, List.nil_append, bin_neq, decide_true, not_false_eq_true, h0]
    exact gc_same_all rfl rfl
theorem s56 {f : List (Int × Int)} {v : AV} {A : AHeap} (hf : L2 A v f) : ACalls Try.prog 56 [v] A (.tuple [outV 2 A (tuL f).length, I (vE f)]) (outH A ((tuL f).flatMap e2) (tuL f).length) := by
  refine acalls hmix Try.func56 (by kernel_rfl) t56 1 rfl (by decide) ?_
  dsimp only [m56]
  simp (maxSteps := 4000000) -implicitDefEqProofs -dsimp (disch := omega) only [↓AW_ops, ↓AW_seq, ↓AOps_nil, ↓AOps_pu, ↓AOps_call, on_some, ↓then_normal, pval, rd_S, rd_C, put_S, List.replicate_succ, List.replicate_zero, List.set_cons_zero, List.set_cons_succ, List.getElem?_cons_zero, List.getElem?_cons_succ, Option.getD_some, map_c, map_n, Nat.reduceSub, List.cons_append, List.nil_append]
  refine CallK.of (s38 hf) ?_
  by_cases h0 : vE f = 0
  · obtain ⟨hg, h1⟩ := good_of h0
    have hl6 := hg.1
    have hL : tuL f = f.reverse := by unfold tuL; rw [if_pos h0]
    rw [hL, h0]
    simp (maxSteps := 4000000) -implicitDefEqProofs -dsimp (disch := omega) only [↓AW_skip, ↓AW_ops, ↓AW_seq, ↓AW_cond, ↓AW_block, ↓AOps_nil, ↓AOps_pu, on_some, extK_same, condB_f, ↓then_normal, pval, rd_S, rd_C, put_S, ↓AW_toLoop, eq_self, List.replicate_succ, List.replicate_zero, List.set_cons_zero, List.set_cons_succ, List.getElem?_cons_zero, List.getElem?_cons_succ, Option.getD_some, Nat.reduceSub, List.cons_append, List.nil_append, bin_sub, bin_neq, w64, decide_false, not_true_eq_false, hf.len]
    refine LoopK.by 27 (fun x : Nat × AV × AHeap => x.1 ≤ f.length ∧ AccL 2 e2 A x.2.2 x.2.1 (f.reverse.take x.1)) (fun x => [(0, v), (5, x.2.1), (6, I ((f.length : Int) - 1 - x.1))]) (fun x => x.2.2) (fun x => f.length - x.1) (0, .nilS, A) ⟨by simp only; omega, AccL.nil (List.prefix_refl _)⟩ rfl (by simp [Has, rd_s]) rfl ?_
    rintro ⟨i, u, A1⟩ ⟨hi, hu⟩
    simp only at hi hu
    have hf1 := hf.mono hu.pre
    by_cases hlt : i < f.length
    · have hj : (f.length : Int) - 1 - i = ((f.length - 1 - i : Nat) : Int) := by omega
      have hjl : f.length - 1 - i < f.length := by omega
      obtain ⟨z, hz⟩ : ∃ z, f[f.length - 1 - i]? = some z := ⟨_, List.getElem?_eq_getElem hjl⟩
      have hrz : f.reverse[i]? = some z := by rw [List.getElem?_reverse hlt, hz]
      have hc0 : (0 : Int) ≤ ((f.length - 1 - i : Nat) : Int) := by omega
      obtain ⟨v3, A3, happ, h3⟩ := hu.push e2_len z (by simp [lim]; omega)
      simp only [Go.Eng.e2] at happ
      generalize hJ : f.length - 1 - i = j at *
      simp (maxSteps := 4000000) -implicitDefEqProofs -dsimp (disch := omega) only [↓AW_skip, ↓AW_ops, ↓AW_seq, ↓AW_cond, ↓AW_block, ↓AOps_nil, ↓AOps_pu, ↓AOps_ld, ↓AOps_ha, on_some, extK_false, extK_app, condB_t, ↓then_normal, ↓inBlock_normal, pval, lval, hval, rd_S, rd_C, put_S, AV.cells?, splice, partA, fillA, repl, eq_self, mk, List.foldl_cons, List.foldl_nil, List.replicate_succ, List.replicate_zero, List.set_cons_zero, List.set_cons_succ, List.getElem?_cons_zero, List.getElem?_cons_succ, List.drop_zero, List.drop_succ_cons, List.drop_nil, List.take_zero, List.take_succ_cons, List.take_nil, Option.getD_some, map_c, map_n, List.length_cons, List.length_nil, Nat.reduceAdd, Nat.reduceLeDiff, Nat.reduceEqDiff, Nat.zero_add, List.nil_append, List.append_nil, bin_sub, bin_geq, w64, if_true, if_false, decide_true, Go.Eng.e2, true_and, and_true, hj, hc0, hf1.idx hjl, hf1.ld0 hz 2 true (by decide), happ]
      refine ⟨(i + 1, v3, A3), ⟨hlt, ?_⟩, by simp [Has, rd_s]; omega, rfl, by simp only; omega⟩
      simp only
      rw [List.take_add_one, hrz]
      exact h3
    · have hneg : ¬ (0 : Int) ≤ (f.length : Int) - 1 - i := by omega
      rw [List.take_of_length_le (by simp; omega)] at hu
      simp (maxSteps := 4000000) -implicitDefEqProofs -dsimp (disch := omega) only [↓AW_ops, ↓AW_seq, ↓AW_cond, ↓AW_exit, ↓AW_ret, ↓AOps_nil, ↓AOps_pu, on_some, condB_f, ↓then_normal, ↓then_exit, ↓inBlock_exit, ↓Fin_ret, pval, rd_S, rd_C, put_S, resV, resL, eq_self, mk, List.foldl_cons, List.foldl_nil, List.replicate_succ, List.replicate_zero, List.set_cons_zero, List.set_cons_succ, List.getElem?_cons_zero, List.getElem?_cons_succ, Option.getD_some, bin_geq, if_true, decide_false, hneg]
      exact hu.gc2 flat_e2 (I 0) rfl
  · have hL : tuL f = [] := by simp [tuL, h0]
    rw [hL]
    simp (maxSteps := 4000000) -implicitDefEqProofs -dsimp (disch := omega) only [↓AW_ops, ↓AW_seq, ↓AW_cond, ↓AW_ret, ↓AOps_nil, ↓AOps_pu, on_some, extK_same, condB_t, ↓then_normal, ↓then_ret, ↓Fin_ret, pval, rd_S, rd_C, put_S, resV, resL, List.replicate_succ, List.replicate_zero, List.set_cons_zero, List.set_cons_succ, List.getElem?_cons_zero, List.getElem?_cons_succ, Option.getD_some, List.length_nil, Nat.reduceSub, List.cons_append, List.nil_append, bin_neq, decide_true, not_false_eq_true, h0]
    exact gc_same_all rfl rfl
end Go.Proofs.Ytnnbggcckabhdaa

namespace Go.Proofs.Ytnnbggcckabhdaa
open Go Go.Eng
/-- selion/selionlaw02.SoilJoins [] -/
def m14 : MFun := ⟨122, [], [.mov (.s 4)],
 .seq (.ops [⟨(some 4), some undefA, none, false, .pu (.mov (.c (.bool false)))⟩])
 (.seq (.seq (.ops [⟨(some 21), some undefA, none, false, .pu (.mov (.s 0))⟩,
   ⟨(some 22), some undefA, none, false, .pu (.mov (.s 1))⟩,
   ⟨(some 23), some undefA, none, false, .call 18 [(.s 21), (.s 22)]⟩])
 (.cond (.s 23) (.seq (.ops [⟨(some 24), some undefA, none, false, .call 19 []⟩,
    ⟨(some 4), some undefA, none, false, .pu (.mov (.s 24))⟩])
  (.ret))
 (.skip)))
 (.seq (.ops [⟨(some 26), some undefA, none, false, .pu (.mov (.s 0))⟩,
   ⟨(some 27), some undefA, none, false, .pu (.mov (.s 1))⟩,
   ⟨(some 28), some undefA, none, false, .call 54 [(.s 26), (.s 27)]⟩,
   ⟨(some 25), some undefA, none, false, .pu (.mov (.s 28))⟩,
   ⟨(some 29), some undefA, none, false, .pu (.extr 0 (.s 25))⟩,
   ⟨(some 30), some undefA, none, false, .pu (.extr 1 (.s 25))⟩,
   ⟨(some 5), some undefA, none, false, .pu (.mov (.s 29))⟩,
   ⟨(some 6), some undefA, none, false, .pu (.mov (.s 30))⟩])
 (.seq (.ops [⟨(some 32), some undefA, none, false, .pu (.mov (.s 0))⟩,
   ⟨(some 33), some undefA, none, false, .pu (.mov (.s 1))⟩,
   ⟨(some 34), some undefA, none, false, .call 55 [(.s 32), (.s 33)]⟩,
   ⟨(some 31), some undefA, none, false, .pu (.mov (.s 34))⟩,
   ⟨(some 35), some undefA, none, false, .pu (.extr 0 (.s 31))⟩,
   ⟨(some 36), some undefA, none, false, .pu (.extr 1 (.s 31))⟩,
   ⟨(some 7), some undefA, none, false, .pu (.mov (.s 35))⟩,
   ⟨(some 8), some undefA, none, false, .pu (.mov (.s 36))⟩])
 (.seq (.ops [⟨(some 38), some undefA, none, false, .pu (.mov (.s 0))⟩,
   ⟨(some 39), some undefA, none, false, .call 52 [(.s 38)]⟩,
   ⟨(some 37), some undefA, none, false, .pu (.mov (.s 39))⟩,
   ⟨(some 40), some undefA, none, false, .pu (.extr 0 (.s 37))⟩,
   ⟨(some 41), some undefA, none, false, .pu (.extr 1 (.s 37))⟩,
   ⟨(some 9), some undefA, none, false, .pu (.mov (.s 40))⟩,
   ⟨(some 10), some undefA, none, false, .pu (.mov (.s 41))⟩])
 (.seq (.ops [⟨(some 43), some undefA, none, false, .pu (.mov (.s 0))⟩,
   ⟨(some 44), some undefA, none, false, .call 56 [(.s 43)]⟩,
   ⟨(some 42), some undefA, none, false, .pu (.mov (.s 44))⟩,
   ⟨(some 45), some undefA, none, false, .pu (.extr 0 (.s 42))⟩,
   ⟨(some 46), some undefA, none, false, .pu (.extr 1 (.s 42))⟩,
   ⟨(some 11), some undefA, none, false, .pu (.mov (.s 45))⟩,
   ⟨(some 12), some undefA, none, false, .pu (.mov (.s 46))⟩])
 (.seq (.seq (.ops [⟨(some 47), some undefA, none, false, .pu (.mov (.s 6))⟩,
   ⟨(some 48), some undefA, none, false, .pu (.mov (.s 8))⟩,
   ⟨(some 49), some undefA, none, false, .pu (.bin .neq (.s 47) (.s 48))⟩,
   ⟨(some 50), some undefA, none, false, .pu (.mov (.s 49))⟩,
   ⟨(some 51), some undefA, (some (50, false)), false, .pu (.mov (.s 5))⟩,
   ⟨(some 52), some undefA, (some (50, false)), false, .pu (.mov (.s 7))⟩,
   ⟨(some 53), some undefA, (some (50, false)), false, .call 43 [(.s 51), (.s 52)]⟩,
   ⟨(some 54), some undefA, (some (50, false)), false, .pu (.not (.s 53))⟩,
   ⟨(some 55), some undefA, none, false, .pu (.pick (.s 50) (.c (.bool true)) (.s 54))⟩,
   ⟨(some 56), some undefA, none, false, .pu (.mov (.s 55))⟩,
   ⟨(some 57), some undefA, (some (56, false)), false, .pu (.mov (.s 10))⟩,
   ⟨(some 58), some undefA, (some (56, false)), false, .pu (.mov (.s 12))⟩,
   ⟨(some 59), some undefA, (some (56, false)), false, .pu (.bin .neq (.s 57) (.s 58))⟩,
   ⟨(some 60), some undefA, none, false, .pu (.pick (.s 56) (.c (.bool true)) (.s 59))⟩,
   ⟨(some 61), some undefA, none, false, .pu (.mov (.s 60))⟩,
   ⟨(some 62), some undefA, (some (61, false)), false, .pu (.mov (.s 9))⟩,
   ⟨(some 63), some undefA, (some (61, false)), false, .pu (.mov (.s 11))⟩,
   ⟨(some 64), some undefA, (some (61, false)), false, .call 43 [(.s 62), (.s 63)]⟩,
   ⟨(some 65), some undefA, (some (61, false)), false, .pu (.not (.s 64))⟩,
   ⟨(some 66), some undefA, none, false, .pu (.pick (.s 61) (.c (.bool true)) (.s 65))⟩])
 (.cond (.s 66) (.seq (.ops [⟨(some 4), some undefA, none, false, .pu (.mov (.c (.bool false)))⟩])
  (.ret))
 (.skip)))
 (.seq (.ops [⟨(some 68), some undefA, none, false, .pu (.mov (.s 0))⟩,
   ⟨(some 69), some undefA, none, false, .call 33 [(.s 68)]⟩,
   ⟨(some 67), some undefA, none, false, .pu (.mov (.s 69))⟩,
   ⟨(some 70), some undefA, none, false, .pu (.extr 0 (.s 67))⟩,
   ⟨(some 71), some undefA, none, false, .pu (.extr 1 (.s 67))⟩,
   ⟨(some 13), some undefA, none, false, .pu (.mov (.s 70))⟩,
   ⟨(some 14), some undefA, none, false, .pu (.mov (.s 71))⟩])
 (.seq (.ops [⟨(some 73), some undefA, none, false, .pu (.mov (.s 9))⟩,
   ⟨(some 74), some undefA, none, false, .call 33 [(.s 73)]⟩,
   ⟨(some 72), some undefA, none, false, .pu (.mov (.s 74))⟩,
   ⟨(some 75), some undefA, none, false, .pu (.extr 0 (.s 72))⟩,
   ⟨(some 76), some undefA, none, false, .pu (.extr 1 (.s 72))⟩,
   ⟨(some 15), some undefA, none, false, .pu (.mov (.s 75))⟩,
   ⟨(some 16), some undefA, none, false, .pu (.mov (.s 76))⟩])
 (.seq (.seq (.ops [⟨(some 77), some undefA, none, false, .pu (.mov (.s 10))⟩,
   ⟨(some 78), some undefA, none, false, .pu (.bin .eql (.s 77) (.c (.int .i64 0)))⟩,
   ⟨(some 79), some undefA, none, false, .pu (.mov (.s 78))⟩,
   ⟨(some 80), some undefA, (some (79, true)), false, .pu (.mov (.s 14))⟩,
   ⟨(some 81), some undefA, (some (79, true)), false, .pu (.bin .neq (.s 80) (.c (.int .i64 0)))⟩,
   ⟨(some 82), some undefA, (some (79, true)), false, .pu (.mov (.s 81))⟩,
   ⟨(some 83), some undefA, (some (82, false)), false, .pu (.mov (.s 16))⟩,
   ⟨(some 84), some undefA, (some (82, false)), false, .pu (.bin .neq (.s 83) (.c (.int .i64 0)))⟩,
   ⟨(some 85), some undefA, (some (79, true)), false, .pu (.pick (.s 82) (.c (.bool true)) (.s 84))⟩,
   ⟨(some 86), some undefA, (some (79, true)), false, .pu (.mov (.s 85))⟩,
   ⟨(some 87), some undefA, (some (86, false)), false, .pu (.mov (.s 13))⟩,
   ⟨(some 88), some undefA, (some (86, false)), false, .pu (.mov (.s 15))⟩,
   ⟨(some 89), some undefA, (some (86, false)), false, .pu (.bin .neq (.s 87) (.s 88))⟩,
   ⟨(some 90), some undefA, (some (79, true)), false, .pu (.pick (.s 86) (.c (.bool true)) (.s 89))⟩,
   ⟨(some 91), some undefA, none, false, .pu (.pick (.s 79) (.s 90) (.c (.bool false)))⟩])
 (.cond (.s 91) (.seq (.ops [⟨(some 4), some undefA, none, false, .pu (.mov (.c (.bool false)))⟩])
  (.ret))
 (.skip)))
 (.seq (.ops [⟨(some 93), some undefA, none, false, .pu (.mov (.s 1))⟩,
   ⟨(some 94), some undefA, none, false, .call 33 [(.s 93)]⟩,
   ⟨(some 92), some undefA, none, false, .pu (.mov (.s 94))⟩,
   ⟨(some 95), some undefA, none, false, .pu (.extr 0 (.s 92))⟩,
   ⟨(some 96), some undefA, none, false, .pu (.extr 1 (.s 92))⟩,
   ⟨(some 17), some undefA, none, false, .pu (.mov (.s 95))⟩,
   ⟨(some 18), some undefA, none, false, .pu (.mov (.s 96))⟩])
 (.seq (.ops [⟨(some 98), some undefA, none, false, .pu (.mov (.s 5))⟩,
   ⟨(some 99), some undefA, none, false, .call 33 [(.s 98)]⟩,
   ⟨(some 97), some undefA, none, false, .pu (.mov (.s 99))⟩,
   ⟨(some 100), some undefA, none, false, .pu (.extr 0 (.s 97))⟩,
   ⟨(some 101), some undefA, none, false, .pu (.extr 1 (.s 97))⟩,
   ⟨(some 19), some undefA, none, false, .pu (.mov (.s 100))⟩,
   ⟨(some 20), some undefA, none, false, .pu (.mov (.s 101))⟩])
 (.seq (.ops [⟨(some 102), some undefA, none, false, .pu (.mov (.s 6))⟩,
   ⟨(some 103), some undefA, none, false, .pu (.bin .neq (.s 102) (.c (.int .i64 0)))⟩,
   ⟨(some 104), some undefA, none, false, .pu (.mov (.s 103))⟩,
   ⟨(some 105), some undefA, (some (104, false)), false, .pu (.mov (.s 18))⟩,
   ⟨(some 106), some undefA, (some (104, false)), false, .pu (.bin .eql (.s 105) (.c (.int .i64 0)))⟩,
   ⟨(some 107), some undefA, (some (104, false)), false, .pu (.mov (.s 106))⟩,
   ⟨(some 108), some undefA, (some (107, true)), false, .pu (.mov (.s 20))⟩,
   ⟨(some 109), some undefA, (some (107, true)), false, .pu (.bin .eql (.s 108) (.c (.int .i64 0)))⟩,
   ⟨(some 110), some undefA, (some (104, false)), false, .pu (.pick (.s 107) (.s 109) (.c (.bool false)))⟩,
   ⟨(some 111), some undefA, (some (104, false)), false, .pu (.mov (.s 110))⟩,
   ⟨(some 112), some undefA, (some (111, true)), false, .pu (.mov (.s 19))⟩,
   ⟨(some 113), some undefA, (some (111, true)), false, .pu (.mov (.s 13))⟩,
   ⟨(some 114), some undefA, (some (111, true)), false, .pu (.mov (.s 17))⟩,
   ⟨(some 115), some undefA, (some (111, true)), false, .pu (.bin .add (.s 113) (.s 114))⟩,
   ⟨(some 116), some undefA, (some (111, true)), false, .pu (.bin .eql (.s 112) (.s 115))⟩,
   ⟨(some 117), some undefA, (some (104, false)), false, .pu (.pick (.s 111) (.s 116) (.c (.bool false)))⟩,
   ⟨(some 118), some undefA, none, false, .pu (.pick (.s 104) (.c (.bool true)) (.s 117))⟩,
   ⟨(some 119), some undefA, none, false, .pu (.mov (.s 118))⟩,
   ⟨(some 120), some undefA, (some (119, true)), false, .call 19 []⟩,
   ⟨(some 121), some undefA, none, false, .pu (.pick (.s 119) (.s 120) (.c (.bool false)))⟩,
   ⟨(some 4), some undefA, none, false, .pu (.mov (.s 121))⟩])
 (.ret)))))))))))))⟩
theorem t14 : trF Try.prog [] [] Try.f14 = some m14 := by kernel_rfl
end Go.Proofs.Ytnnbggcckabhdaa

namespace Go.Proofs.Ytnnbggcckabhdaa
open Go Go.Eng
def e0z (x : AV × List (Int × Int)) : List AV := [x.1]
theorem e0z_len (x : AV × List (Int × Int)) : (e0z x).length = 1 := rfl
/-- A list that grows, or that has room and no element yet. -/
def NS (A H : AHeap) (v : AV) (xs : List (Int × Int)) : Prop :=
  AccL 2 e2 A H v xs ∨ (xs = [] ∧ A <+: H ∧ ∃ n l, v = .sl 2 n 0 0 false ∧ A.length ≤ n ∧ H[n]? = some (.cells true l))
theorem NS.pre {A H : AHeap} {v : AV} {xs : List (Int × Int)} (h : NS A H v xs) : A <+: H := by
  rcases h with h | h
  · exact AccL.pre h
  · exact h.2.1
theorem NS.push {A H : AHeap} {v y : AV} {xs ys : List (Int × Int)} (h : NS A H v xs) (hy : L2 H y ys) (hl : xs.length + ys.length ≤ lim) : ∃ v' H', appA 2 H v y = some (v', H') ∧ NS A H' v' (xs ++ ys) := by
  rcases h with h | ⟨rfl, hp, n, l, rfl, hn, hg⟩
  · obtain ⟨v', H', h1, h2⟩ := h.pushes hy hl
    exact ⟨v', H', h1, .inl h2⟩
  · have hc := hy.hc
    by_cases h0 : ys.length = 0
    · have : ys = [] := List.eq_nil_of_length_eq_zero h0
      subst this
      refine ⟨.sl 2 n 0 0 false, H, ?_, .inr ⟨rfl, hp, n, l, rfl, hn, hg⟩⟩
      unfold appA
      rw [hc]
      simp
    · have hlim : ys.length ≤ lim := by simpa using hl
      refine ⟨.sl 2 H.length 0 ys.length false, H.set n .dead ++ [.cells true (ys.flatMap e2)], ?_, .inl ⟨(pre_set hp hn _).trans (pre_app _ _), ?_, .inr ⟨by simpa using (by omega : 0 < ys.length), H.length, by simp, hp.length_le, by simp⟩⟩⟩
      · unfold appA
        rw [hc]
        simp [h0, hlim, hg]
      · simpa using flatMap_length e2_len ys
theorem c_Grow (n : Nat) (hn : n ≤ 1000) (A : AHeap) : ∃ v H, ACalls Try.prog 116 [.nilS, I n] A v H ∧ NS A H v [] := by
  by_cases h0 : n = 0
  · subst h0
    refine ⟨.nilS, A, ?_, .inl (AccL.nil (List.prefix_refl _))⟩
    refine acalls hmix Try.func116 (by kernel_rfl) t116 2 rfl (by decide) ?_
    dsimp only [m116]
    simp (maxSteps := 4000000) -implicitDefEqProofs -dsimp (disch := omega) only [↓AW_skip, ↓AW_ops, ↓AW_seq, ↓AW_cond, ↓AW_ret, ↓AOps_nil, ↓AOps_pu, on_some, condB_f, ↓then_normal, ↓Fin_ret, pval, rd_S, rd_C, put_S, resV, resL, List.replicate_succ, List.replicate_zero, List.set_cons_zero, List.set_cons_succ, List.getElem?_cons_zero, List.getElem?_cons_succ, Option.getD_some, Nat.reduceSub, List.cons_append, List.nil_append, bin_sub, bin_lss, bin_gtr, w64, decide_false, Int.reduceLT, Int.reduceSub, capA, lenA, show ((0 : Nat) : Int) = 0 from rfl]
    exact gc_same rfl
  · refine ⟨.sl 2 A.length 0 0 false, A ++ [.cells true (repl [I 0, I 0] n)], ?_, .inr ⟨rfl, pre_app _ _, A.length, repl [I 0, I 0] n, rfl, Nat.le_refl _, by simp⟩⟩
    refine acalls hmix Try.func116 (by kernel_rfl) t116 2 rfl (by decide) ?_
    have h1 : ¬ (n : Int) < 0 := by omega
    have h2 : (0 : Int) < n := by omega
    have h3 : (0 : Int) < n ∧ (n : Int) ≤ ((lim : Nat) : Int) := by unfold lim; omega
    have h4 : slcA 2 .nilS none (some (.int .i64 0)) none = some .nilS := rfl
    have h5 : slcA 2 (.sl 2 A.length 0 n false) none (some (.int .i64 0)) none = some (.sl 2 A.length 0 0 false) := by simp [slcA, bnd]
    dsimp only [m116]
    simp (maxSteps := 4000000) -implicitDefEqProofs -dsimp (disch := omega) only [↓AW_skip, ↓AW_ops, ↓AW_seq, ↓AW_cond, ↓AW_ret, ↓AOps_nil, ↓AOps_pu, ↓AOps_ha, on_some, extK_app, condB_t, condB_f, ↓then_normal, ↓Fin_ret, pval, hval, rd_S, rd_C, put_S, resV, resL, List.replicate_succ, List.replicate_zero, List.set_cons_zero, List.set_cons_succ, List.getElem?_cons_zero, List.getElem?_cons_succ, Option.getD_some, Option.map_some, Option.map_none, Nat.reduceSub, List.cons_append, List.nil_append, bin_sub, bin_lss, bin_gtr, w64, if_true, decide_true, decide_false, and_true, capA, appzA, lenA, h1, Int.sub_zero, Int.sub_self, h2, h4, appzA, h3, Int.toNat_natCast, h5]
    exact gc_all
def catZ (zs : List (AV × List (Int × Int))) : List (Int × Int) := zs.flatMap Prod.snd
def lenZ (zs : List (AV × List (Int × Int))) : Int := (zs.map fun z => (z.2.length : Int)).sum
theorem catZ_take {zs : List (AV × List (Int × Int))} {i : Nat} {z : AV × List (Int × Int)} (hz : zs[i]? = some z) : catZ (zs.take (i + 1)) = catZ (zs.take i) ++ z.2 := by
  rw [List.take_add_one, hz]; simp [catZ]
theorem lenZ_take {zs : List (AV × List (Int × Int))} {i : Nat} {z : AV × List (Int × Int)} (hz : zs[i]? = some z) : lenZ (zs.take (i + 1)) = lenZ (zs.take i) + z.2.length := by
  rw [List.take_add_one, hz]; simp [lenZ]
theorem lenZ_bound : ∀ {zs : List (AV × List (Int × Int))}, (∀ z ∈ zs, z.2.length ≤ 100) → 0 ≤ lenZ zs ∧ lenZ zs ≤ 100 * zs.length ∧ ((catZ zs).length : Int) = lenZ zs
  | [], _ => by simp [lenZ, catZ]
  | z :: zs, h => by
    have ih := lenZ_bound (zs := zs) (fun y hy => h y (by simp [hy]))
    have hz := h z (by simp)
    have e1 : lenZ (z :: zs) = z.2.length + lenZ zs := by simp [lenZ]
    have e2 : (catZ (z :: zs)).length = z.2.length + (catZ zs).length := by simp [catZ]
    rw [e1, e2, List.length_cons]
    omega
theorem c_Concat {zs : List (AV × List (Int × Int))} {u : AV} {A : AHeap} (hz0 : Ls 1 e0z A u zs) (hin : ∀ z ∈ zs, L2 A z.1 z.2) (hl : zs.length ≤ 8) (hb : ∀ z ∈ zs, z.2.length ≤ 100) (hne : 0 < (catZ zs).length) :
    ACalls Try.prog 94 [u] A (outV 2 A (catZ zs).length) (outH A ((catZ zs).flatMap e2) (catZ zs).length) := by
  refine acalls hmix Try.func94 (by kernel_rfl) t94 1 rfl (by decide) ?_
  have hbt : ∀ i, 0 ≤ lenZ (zs.take i) ∧ lenZ (zs.take i) ≤ 800 := fun i => by
    have := lenZ_bound (zs := zs.take i) (fun z hz => hb z (List.mem_of_mem_take hz))
    rw [List.length_take] at this
    omega
  dsimp only [m94]
  simp (maxSteps := 4000000) -implicitDefEqProofs -dsimp (disch := omega) only [↓AW_ops, ↓AW_seq, ↓AW_block, ↓AOps_nil, ↓AOps_pu, on_some, ↓then_normal, pval, rd_S, rd_C, put_S, ↓AW_toLoop, List.replicate_succ, List.replicate_zero, List.set_cons_zero, List.set_cons_succ, List.getElem?_cons_zero, List.getElem?_cons_succ, Option.getD_some, Nat.reduceSub, List.cons_append, List.nil_append, hz0.len]
  refine LoopK.by 36 (fun i : Nat => i ≤ zs.length) (fun i => [(0, u), (3, I (lenZ (zs.take i))), (9, u), (10, I zs.length), (11, I i)]) (fun _ => A) (fun i => zs.length - i) 0 (by omega) rfl (by simp [Has, rd_s, lenZ]) rfl ?_
  intro i hi
  by_cases hlt : i < zs.length
  · obtain ⟨z, hz⟩ : ∃ z, zs[i]? = some z := ⟨_, List.getElem?_eq_getElem hlt⟩
    have hlt' : (i : Int) < zs.length := by omega
    have h1 := hbt i
    have h2 := hbt (i + 1)
    have ht := lenZ_take hz
    have h3 : ¬ lenZ (zs.take i) + z.2.length < 0 := by omega
    simp (maxSteps := 4000000) -implicitDefEqProofs -dsimp (disch := omega) only [↓AW_skip, ↓AW_ops, ↓AW_seq, ↓AW_cond, ↓AW_block, ↓AOps_nil, ↓AOps_pu, ↓AOps_ld, on_some, condB_t, condB_f, ↓then_normal, ↓inBlock_normal, pval, lval, rd_S, rd_C, put_S, partA, eq_self, mk, List.foldl_cons, List.foldl_nil, List.replicate_succ, List.replicate_zero, List.set_cons_zero, List.set_cons_succ, List.getElem?_cons_zero, List.getElem?_cons_succ, List.drop_zero, List.take_succ_cons, List.take_nil, Option.getD_some, List.length_cons, List.length_nil, Nat.reduceAdd, Nat.reduceLeDiff, Nat.zero_add, bin_add, bin_lss, w64, if_true, if_false, Bool.false_eq_true, decide_true, decide_false, true_and, hlt', hz0.idx hlt, hz0.ld0 hz 1 false (by decide), e0z, (hin z (List.mem_of_getElem? hz)).len, h3]
    exact ⟨i + 1, hlt, by simp [Has, rd_s, ht], by omega⟩
  have hlt' : ¬ ((i : Int) < zs.length) := by omega
  have h1 := hbt zs.length
  rw [List.take_length] at h1
  rw [List.take_of_length_le (by omega)]
  obtain ⟨N, hN⟩ : ∃ N : Nat, lenZ zs = N := ⟨(lenZ zs).toNat, by omega⟩
  rw [hN] at h1 ⊢
  obtain ⟨v, H, hc, hns⟩ := c_Grow N (by omega) A
  simp (maxSteps := 4000000) -implicitDefEqProofs -dsimp (disch := omega) only [↓AW_ops, ↓AW_seq, ↓AW_cond, ↓AW_exit, ↓AOps_nil, ↓AOps_pu, ↓AOps_call, on_some, condB_f, ↓then_normal, ↓then_exit, ↓inBlock_exit, pval, rd_S, rd_C, put_S, eq_self, mk, List.foldl_cons, List.foldl_nil, List.replicate_succ, List.replicate_zero, List.set_cons_zero, List.set_cons_succ, List.getElem?_cons_zero, List.getElem?_cons_succ, Option.getD_some, map_c, map_n, bin_lss, if_true, decide_false, hlt']
  refine CallK.of (hc) ?_
  simp (maxSteps := 4000000) -implicitDefEqProofs -dsimp (disch := omega) only [↓AW_ops, ↓AW_seq, ↓AW_block, ↓AOps_nil, ↓AOps_pu, on_some, extK_false, ↓then_normal, pval, rd_S, rd_C, put_S, ↓AW_toLoop, mk, List.foldl_cons, List.foldl_nil, List.replicate_succ, List.replicate_zero, List.set_cons_zero, List.set_cons_succ, List.getElem?_cons_zero, List.getElem?_cons_succ, Option.getD_some, hz0.len]
  have hcl : ∀ i, ((catZ (zs.take i)).length : Int) ≤ 800 := fun i => by
    have := lenZ_bound (zs := zs.take i) (fun z hz => hb z (List.mem_of_mem_take hz))
    rw [List.length_take] at this
    omega
  refine LoopK.by 36 (fun x : Nat × AV × AHeap => x.1 ≤ zs.length ∧ NS A x.2.2 x.2.1 (catZ (zs.take x.1))) (fun x => [(6, x.2.1), (25, u), (26, I zs.length), (27, I x.1)]) (fun x => x.2.2) (fun x => zs.length - x.1) (0, v, H) ⟨by simp only; omega, hns⟩ rfl (by simp [Has, rd_s]) rfl ?_
  rintro ⟨j, w, H1⟩ ⟨hj, hw⟩
  simp only at hj hw
  by_cases hlt2 : j < zs.length
  · obtain ⟨z, hz⟩ : ∃ z, zs[j]? = some z := ⟨_, List.getElem?_eq_getElem hlt2⟩
    have hlt2' : (j : Int) < zs.length := by omega
    have hz1 := hz0.mono hw.pre
    have hzl := hb z (List.mem_of_getElem? hz)
    have hc2 := hcl j
    obtain ⟨w', H2, happ, hw'⟩ := hw.push ((hin z (List.mem_of_getElem? hz)).mono hw.pre) (by simp [lim]; omega)
    simp (maxSteps := 4000000) -implicitDefEqProofs -dsimp (disch := omega) only [↓AW_skip, ↓AW_ops, ↓AW_seq, ↓AW_cond, ↓AW_block, ↓AOps_nil, ↓AOps_pu, ↓AOps_ld, ↓AOps_ha, on_some, extK_false, condB_t, ↓then_normal, ↓inBlock_normal, pval, lval, hval_app, rd_S, rd_C, put_S, partA, eq_self, mk, List.foldl_cons, List.foldl_nil, List.replicate_succ, List.replicate_zero, List.set_cons_zero, List.set_cons_succ, List.getElem?_cons_zero, List.getElem?_cons_succ, List.drop_zero, List.take_succ_cons, List.take_nil, Option.getD_some, List.length_cons, List.length_nil, Nat.reduceAdd, Nat.reduceLeDiff, Nat.zero_add, bin_add, bin_lss, w64, if_true, if_false, Bool.false_eq_true, decide_true, true_and, hlt2', hz1.idx hlt2, hz1.ld0 hz 1 false (by decide), e0z, happ]
    exact ⟨(j + 1, w', H2), ⟨hlt2, by rw [catZ_take hz]; exact hw'⟩, by simp [Has, rd_s], rfl, by simp only; omega⟩
  · have hlt2' : ¬ ((j : Int) < zs.length) := by omega
    rw [List.take_of_length_le (by omega)] at hw
    simp (maxSteps := 4000000) -implicitDefEqProofs -dsimp (disch := omega) only [↓AW_ops, ↓AW_seq, ↓AW_cond, ↓AW_exit, ↓AW_ret, ↓AOps_nil, ↓AOps_pu, on_some, condB_f, ↓then_normal, ↓then_exit, ↓inBlock_exit, ↓Fin_ret, pval, rd_S, put_S, resV, resL, eq_self, mk, List.foldl_cons, List.foldl_nil, List.replicate_succ, List.replicate_zero, List.set_cons_zero, List.set_cons_succ, List.getElem?_cons_zero, List.getElem?_cons_succ, Option.getD_some, bin_lss, if_true, decide_false, hlt2']
    rcases hw with hw | ⟨he, _⟩
    · exact hw.gc flat_e2
    · rw [he] at hne; simp at hne
/-- One field behind the other one. -/
def joE (f g : List (Int × Int)) : Int := if v2E f g = 0 then (if (6 : Int) < f.length + g.length then 3 else 0) else v2E f g
def joL (f g : List (Int × Int)) : List (Int × Int) := if joE f g = 0 then f ++ g else []
theorem joE_0 {f g : List (Int × Int)} (h : joE f g = 0) : vE f = 0 ∧ vE g = 0 ∧ f.length + g.length ≤ 6 := by
  unfold joE at h
  split at h
  · rename_i h0
    split at h
    · cases h
    · exact ⟨(v2E_0 h0).1, (v2E_0 h0).2, by omega⟩
  · rename_i h0; exact absurd h h0
theorem s54 {f g : List (Int × Int)} {v u : AV} {A : AHeap} (hf : L2 A v f) (hg : L2 A u g) (hlf : f.length ≤ 100) (hlg : g.length ≤ 100) : ACalls Try.prog 54 [v, u] A (.tuple [outV 2 A (joL f g).length, I (joE f g)]) (outH A ((joL f g).flatMap e2) (joL f g).length) := by
  refine acalls hmix Try.func54 (by kernel_rfl) t54 2 rfl (by decide) ?_
  dsimp only [m54]
  simp (maxSteps := 4000000) -implicitDefEqProofs -dsimp (disch := omega) only [↓AW_ops, ↓AW_seq, ↓AOps_nil, ↓AOps_pu, ↓AOps_call, on_some, ↓then_normal, pval, rd_S, rd_C, put_S, List.replicate_succ, List.replicate_zero, List.set_cons_zero, List.set_cons_succ, List.getElem?_cons_zero, List.getElem?_cons_succ, Option.getD_some, map_c, map_n, Nat.reduceSub, List.cons_append, List.nil_append]
  refine CallK.of (s82 hf hg) ?_
  by_cases h0 : v2E f g = 0
  · by_cases h1 : (6 : Int) < f.length + g.length
    · have hE : joE f g = 3 := by rw [joE, if_pos h0, if_pos h1]
      have hL : joL f g = [] := by rw [joL, hE]; rfl
      rw [hL, hE]
      simp (maxSteps := 4000000) -implicitDefEqProofs -dsimp (disch := omega) only [↓AW_skip, ↓AW_ops, ↓AW_seq, ↓AW_cond, ↓AW_ret, ↓AOps_nil, ↓AOps_pu, on_some, extK_same, condB_t, condB_f, ↓then_normal, ↓then_ret, ↓Fin_ret, pval, rd_S, rd_C, put_S, resV, resL, eq_self, List.replicate_succ, List.replicate_zero, List.set_cons_zero, List.set_cons_succ, List.getElem?_cons_zero, List.getElem?_cons_succ, Option.getD_some, List.length_nil, Nat.reduceSub, List.cons_append, List.nil_append, bin_add, bin_neq, bin_gtr, w64, decide_true, decide_false, not_true_eq_false, h0, hf.len, hg.len, h1]
      exact gc_same_all rfl rfl
    · have hE : joE f g = 0 := by rw [joE, if_pos h0, if_neg h1]
      have hL : joL f g = f ++ g := by rw [joL, if_pos hE]
      obtain ⟨hvf, hvg, hle⟩ := joE_0 hE
      obtain ⟨hgf, hf1⟩ := good_of hvf
      rw [hL, hE]
      have hp1 := pre_app A [.cells true [v, u]]
      have hls : Ls 1 e0z (A ++ [.cells true [v, u]]) (.sl 1 A.length 0 2 true) [(v, f), (u, g)] := ⟨e0z_len, by simp [slCells, cellsAt, e0z]⟩
      have hcat : catZ [(v, f), (u, g)] = f ++ g := by simp [catZ]
      have hcc := c_Concat hls (fun z hz => by
        simp only [List.mem_cons, List.not_mem_nil, or_false] at hz
        rcases hz with rfl | rfl
        · exact hf.mono hp1
        · exact hg.mono hp1) (by simp) (fun z hz => by
        simp only [List.mem_cons, List.not_mem_nil, or_false] at hz
        rcases hz with rfl | rfl
        · exact hlf
        · exact hlg) (by rw [hcat, List.length_append]; omega)
      rw [hcat] at hcc
      have hvc : ∀ w xs, L2 A w xs → w.cells? = some [w] := fun w xs h => by
        rcases h.inv with ⟨rfl, _⟩ | ⟨n, off, full, rw, l, rfl, _⟩ <;> rfl
      simp (maxSteps := 4000000) -implicitDefEqProofs -dsimp (disch := omega) only [↓AW_skip, ↓AW_ops, ↓AW_seq, ↓AW_cond, ↓AOps_nil, ↓AOps_pu, ↓AOps_ha, ↓AOps_call, on_some, extK_app, extK_same, condB_f, ↓then_normal, pval, hval_blds, rd_S, rd_C, put_S, splice, fillA, repl, eq_self, List.replicate_succ, List.replicate_zero, List.set_cons_zero, List.set_cons_succ, List.getElem?_cons_zero, List.getElem?_cons_succ, List.drop_zero, List.drop_succ_cons, List.drop_nil, List.take_zero, List.take_succ_cons, Option.getD_some, map_c, map_n, List.length_cons, List.length_nil, Nat.reduceAdd, Nat.reduceSub, Nat.reduceLeDiff, Nat.zero_add, List.cons_append, List.nil_append, List.append_nil, bin_add, bin_neq, bin_gtr, w64, if_true, decide_false, and_true, not_true_eq_false, h0, hf.len, hg.len, h1, hvc v f hf, hvc u g hg]
      refine CallK.of hcc ?_
      have ho := OL_out (es := 2) (e := e2) e2_len (A ++ [AObj.cells true [v, u]]) (f ++ g) (by rw [List.length_append]; omega)
      generalize outV 2 (A ++ [AObj.cells true [v, u]]) (f ++ g).length = r at *
      generalize outH (A ++ [AObj.cells true [v, u]]) ((f ++ g).flatMap e2) (f ++ g).length = H1 at *
      have ho2 : OL 2 e2 A H1 (A ++ [AObj.cells true [v, u]]).length r (f ++ g) := ⟨ho.he, hp1.trans ho.pre, hp1.length_le, ho.ob, ho.v⟩
      simp (maxSteps := 4000000) -implicitDefEqProofs -dsimp (disch := omega) only [↓AW_ret, ↓AOps_nil, ↓AOps_pu, on_some, extK_false, ↓then_normal, ↓Fin_ret, pval, rd_S, rd_C, put_S, resV, resL, List.replicate_succ, List.replicate_zero, List.set_cons_zero, List.set_cons_succ, List.getElem?_cons_zero, List.getElem?_cons_succ, Option.getD_some, Nat.reduceSub, List.cons_append, List.nil_append]
      exact ho2.gc2 (by rw [List.length_append]; omega) flat_e2 _ rfl
  · have hE : joE f g = v2E f g := by rw [joE, if_neg h0]
    have hL : joL f g = [] := by rw [joL, hE, if_neg h0]
    rw [hL, hE]
    simp (maxSteps := 4000000) -implicitDefEqProofs -dsimp (disch := omega) only [↓AW_ops, ↓AW_seq, ↓AW_cond, ↓AW_ret, ↓AOps_nil, ↓AOps_pu, on_some, extK_same, condB_t, ↓then_normal, ↓then_ret, ↓Fin_ret, pval, rd_S, rd_C, put_S, resV, resL, List.replicate_succ, List.replicate_zero, List.set_cons_zero, List.set_cons_succ, List.getElem?_cons_zero, List.getElem?_cons_succ, Option.getD_some, List.length_nil, Nat.reduceSub, List.cons_append, List.nil_append, bin_neq, decide_true, not_false_eq_true, h0]
    exact gc_same_all rfl rfl
/-- What is appended to an empty list that has just been made, if it is something. -/
theorem app_newP {α : Type} {es : Nat} {e : α → List AV} {A : AHeap} {y : AV} {ys : List α} (hy : Ls es e A y ys) (h0 : 0 < ys.length) (hl : ys.length ≤ lim) :
    ∃ v' H2, appA es (A ++ [.cells true []]) (.sl es A.length 0 0 true) y = some (v', H2) ∧ AccL es e A H2 v' ys := by
  have hc := (hy.mono (pre_app A [.cells true []])).hc
  refine ⟨.sl es (A ++ [AObj.cells true []]).length 0 ys.length false, A ++ [AObj.cells true []] ++ [.cells true (ys.flatMap e)], ?_, (pre_app A _).trans (pre_app _ _), flatMap_length hy.he ys, .inr ⟨h0, _, rfl, by simp, by simp⟩⟩
  unfold appA
  rw [hc]
  simp [show ¬ ys.length = 0 by omega, hl]
theorem s55 {f g : List (Int × Int)} {v u : AV} {A : AHeap} (hf : L2 A v f) (hg : L2 A u g) (hlf : f.length ≤ 100) (hlg : g.length ≤ 100) : ACalls Try.prog 55 [v, u] A (.tuple [outV 2 A (joL f g).length, I (joE f g)]) (outH A ((joL f g).flatMap e2) (joL f g).length) := by
  refine acalls hmix Try.func55 (by kernel_rfl) t55 2 rfl (by decide) ?_
  dsimp only [m55]
  simp (maxSteps := 4000000) -implicitDefEqProofs -dsimp (disch := omega) only [↓AW_ops, ↓AW_seq, ↓AOps_nil, ↓AOps_pu, ↓AOps_call, on_some, ↓then_normal, pval, rd_S, rd_C, put_S, List.replicate_succ, List.replicate_zero, List.set_cons_zero, List.set_cons_succ, List.getElem?_cons_zero, List.getElem?_cons_succ, Option.getD_some, map_c, map_n, Nat.reduceSub, List.cons_append, List.nil_append]
  refine CallK.of (s84 hf hg) ?_
  by_cases h0 : v2E f g = 0
  · obtain ⟨hvf, hvg⟩ := v2E_0 h0
    obtain ⟨hgf, hf1⟩ := good_of hvf
    obtain ⟨v1, H1, happ1, hA1⟩ := app_newP hf hf1 (by simp [lim]; omega)
    obtain ⟨v2, H2, happ2, hA2⟩ := hA1.pushes (hg.mono hA1.pre) (by simp [lim]; omega)
    have hlen := (AccL_ls hA2 e2_len).len
    rw [List.length_append] at hlen
    have hlc : ((f.length + g.length : Nat) : Int) = f.length + g.length := by omega
    rw [hlc] at hlen
    by_cases h1 : (6 : Int) < f.length + g.length
    · have hE : joE f g = 3 := by rw [joE, if_pos h0, if_pos h1]
      have hL : joL f g = [] := by rw [joL, hE]; rfl
      rw [hL, hE]
      simp (maxSteps := 4000000) -implicitDefEqProofs -dsimp (disch := omega) only [↓AW_skip, ↓AW_ops, ↓AW_seq, ↓AW_cond, ↓AW_ret, ↓AOps_nil, ↓AOps_pu, ↓AOps_ha, on_some, extK_false, extK_app, extK_same, condB_t, condB_f, ↓then_normal, ↓then_ret, ↓Fin_ret, pval, hval_blds, hval_app, rd_S, rd_C, put_S, resV, resL, fillA, repl, eq_self, List.replicate_succ, List.replicate_zero, List.set_cons_zero, List.set_cons_succ, List.getElem?_cons_zero, List.getElem?_cons_succ, Option.getD_some, map_n, List.length_nil, Nat.reduceSub, List.cons_append, List.nil_append, bin_neq, bin_gtr, decide_true, decide_false, not_true_eq_false, h0, repl, happ1, happ2, hlen, h1]
      exact gc_val hA2.pre rfl
    · have hE : joE f g = 0 := by rw [joE, if_pos h0, if_neg h1]
      have hL : joL f g = f ++ g := by rw [joL, if_pos hE]
      rw [hL, hE]
      simp (maxSteps := 4000000) -implicitDefEqProofs -dsimp (disch := omega) only [↓AW_skip, ↓AW_ops, ↓AW_seq, ↓AW_cond, ↓AW_ret, ↓AOps_nil, ↓AOps_pu, ↓AOps_ha, on_some, extK_false, extK_app, extK_same, condB_f, ↓then_normal, ↓Fin_ret, pval, hval_blds, hval_app, rd_S, rd_C, put_S, resV, resL, fillA, repl, eq_self, List.replicate_succ, List.replicate_zero, List.set_cons_zero, List.set_cons_succ, List.getElem?_cons_zero, List.getElem?_cons_succ, Option.getD_some, map_n, Nat.reduceSub, List.cons_append, List.nil_append, bin_neq, bin_gtr, decide_false, not_true_eq_false, h0, repl, happ1, happ2, hlen, h1]
      exact hA2.gc2 flat_e2 _ rfl
  · have hE : joE f g = v2E f g := by rw [joE, if_neg h0]
    have hL : joL f g = [] := by rw [joL, hE, if_neg h0]
    rw [hL, hE]
    simp (maxSteps := 4000000) -implicitDefEqProofs -dsimp (disch := omega) only [↓AW_ops, ↓AW_seq, ↓AW_cond, ↓AW_ret, ↓AOps_nil, ↓AOps_pu, on_some, extK_same, condB_t, ↓then_normal, ↓then_ret, ↓Fin_ret, pval, rd_S, rd_C, put_S, resV, resL, List.replicate_succ, List.replicate_zero, List.set_cons_zero, List.set_cons_succ, List.getElem?_cons_zero, List.getElem?_cons_succ, Option.getD_some, List.length_nil, Nat.reduceSub, List.cons_append, List.nil_append, bin_neq, decide_true, not_false_eq_true, h0]
    exact gc_same_all rfl rfl
theorem sumZ_appJ (g : Int × Int → Int) (a b : List (Int × Int)) : sumZ g (a ++ b) = sumZ g a + sumZ g b := by simp [sumZ]
theorem tot_appJ (a b : List (Int × Int)) : tot (a ++ b) = tot a + tot b := sumZ_appJ _ a b
theorem tot_revJ : ∀ a : List (Int × Int), tot a.reverse = tot a
  | [] => rfl
  | z :: a => by
    have e1 : tot (z :: a) = tot [z] + tot a := tot_appJ [z] a
    rw [List.reverse_cons, tot_appJ, tot_revJ a, e1]
    omega
theorem vE_rev {f : List (Int × Int)} (h : vE f = 0) : vE f.reverse = 0 := by
  obtain ⟨⟨h6, ha⟩, h1⟩ := good_of h
  refine vE_good (by rw [List.length_reverse]; omega) (List.all_eq_true.2 fun z hz => List.all_eq_true.1 ha z (by simpa using hz))
theorem vE_app {f g : List (Int × Int)} (hf : vE f = 0) (hg : vE g = 0) (hl : f.length + g.length ≤ 6) : vE (f ++ g) = 0 := by
  obtain ⟨⟨_, ha⟩, h1⟩ := good_of hf
  obtain ⟨⟨_, hb⟩, h2⟩ := good_of hg
  exact vE_good (by rw [List.length_append]; omega) (by rw [List.all_append, ha, hb]; rfl)
set_option maxRecDepth 100000 in
set_option maxHeartbeats 4000000 in
theorem s14 {f g : List (Int × Int)} {v u : AV} {A : AHeap} (hf : L2 A v f) (hg : L2 A u g) : ACalls Try.prog 14 [v, u] A (B true) A := by
  refine acalls hmix Try.func14 (by kernel_rfl) t14 2 rfl (by decide) ?_
  dsimp only [m14]
  simp (maxSteps := 4000000) -implicitDefEqProofs -dsimp (disch := omega) only [↓AW_ops, ↓AW_seq, ↓AOps_nil, ↓AOps_pu, ↓AOps_call, on_some, ↓then_normal, pval, rd_S, rd_C, put_S, List.replicate_succ, List.replicate_zero, List.set_cons_zero, List.set_cons_succ, List.getElem?_cons_zero, List.getElem?_cons_succ, Option.getD_some, map_c, map_n, Nat.reduceSub, List.cons_append, List.nil_append]
  refine CallK.of (s18 hf hg) ?_
  by_cases h : (100 : Int) < f.length ∨ (100 : Int) < g.length
  · simp (maxSteps := 4000000) -implicitDefEqProofs -dsimp (disch := omega) only [↓AW_ops, ↓AW_seq, ↓AW_cond, ↓AOps_nil, ↓AOps_call, extK_same, condB_t, ↓then_normal, rd_S, put_S, List.replicate_succ, List.replicate_zero, List.set_cons_zero, List.set_cons_succ, List.getElem?_cons_zero, List.getElem?_cons_succ, Option.getD_some, map_n, Nat.reduceSub, List.cons_append, List.nil_append, decide_true, h]
    refine CallK.of (known A) ?_
    simp (maxSteps := 4000000) -implicitDefEqProofs -dsimp (disch := omega) only [↓AW_ret, ↓AOps_nil, ↓AOps_pu, on_some, extK_same, ↓then_normal, ↓then_ret, ↓Fin_ret, pval, rd_S, put_S, resV, resL, List.replicate_succ, List.replicate_zero, List.set_cons_zero, List.set_cons_succ, List.getElem?_cons_zero, List.getElem?_cons_succ, Option.getD_some, Nat.reduceSub, List.cons_append, List.nil_append]
    exact gc_same rfl
  have hlf : f.length ≤ 100 := by omega
  have hlg : g.length ≤ 100 := by omega
  have hjl : (joL f g).length ≤ 200 := by
    unfold joL
    split
    · rw [List.length_append]; omega
    · simp
  have htl : (tuL f).length ≤ 100 := by
    unfold tuL
    split
    · simpa using hlf
    · simp
  simp (maxSteps := 4000000) -implicitDefEqProofs -dsimp (disch := omega) only [↓AW_skip, ↓AW_ops, ↓AW_seq, ↓AW_cond, ↓AOps_nil, ↓AOps_pu, ↓AOps_call, on_some, extK_same, condB_f, ↓then_normal, pval, rd_S, put_S, List.replicate_succ, List.replicate_zero, List.set_cons_zero, List.set_cons_succ, List.getElem?_cons_zero, List.getElem?_cons_succ, Option.getD_some, map_c, map_n, Nat.reduceSub, List.cons_append, List.nil_append, decide_false, h]
  refine CallK.of (s54 hf hg hlf hlg) ?_
  have p1 := pre_out A ((joL f g).flatMap Go.Eng.e2) (joL f g).length
  have hL1 := Ls_out A e2_len (joL f g)
  generalize outH A ((joL f g).flatMap Go.Eng.e2) (joL f g).length = A1 at *
  generalize outV 2 A (joL f g).length = y1 at *
  simp (maxSteps := 4000000) -implicitDefEqProofs -dsimp (disch := omega) only [↓AW_ops, ↓AW_seq, ↓AOps_nil, ↓AOps_pu, ↓AOps_call, on_some, extK_false, ↓then_normal, pval, rd_S, put_S, List.replicate_succ, List.replicate_zero, List.set_cons_zero, List.set_cons_succ, List.getElem?_cons_zero, List.getElem?_cons_succ, Option.getD_some, map_c, map_n, Nat.reduceSub, List.cons_append, List.nil_append]
  refine CallK.of (s55 (hf.mono p1) (hg.mono p1) hlf hlg) ?_
  have p2 := pre_out A1 ((joL f g).flatMap Go.Eng.e2) (joL f g).length
  have hL2 := Ls_out A1 e2_len (joL f g)
  generalize outH A1 ((joL f g).flatMap Go.Eng.e2) (joL f g).length = A2 at *
  generalize outV 2 A1 (joL f g).length = y2 at *
  have q2 := p1.trans p2
  simp (maxSteps := 4000000) -implicitDefEqProofs -dsimp (disch := omega) only [↓AW_ops, ↓AW_seq, ↓AOps_nil, ↓AOps_pu, ↓AOps_call, on_some, extK_false, ↓then_normal, pval, rd_S, put_S, List.replicate_succ, List.replicate_zero, List.set_cons_zero, List.set_cons_succ, List.getElem?_cons_zero, List.getElem?_cons_succ, Option.getD_some, map_c, map_n, Nat.reduceSub, List.cons_append, List.nil_append]
  refine CallK.of (s52 (hf.mono q2)) ?_
  have p3 := pre_out A2 ((tuL f).flatMap Go.Eng.e2) (tuL f).length
  have hL3 := Ls_out A2 e2_len (tuL f)
  generalize outH A2 ((tuL f).flatMap Go.Eng.e2) (tuL f).length = A3 at *
  generalize outV 2 A2 (tuL f).length = y3 at *
  have q3 := q2.trans p3
  simp (maxSteps := 4000000) -implicitDefEqProofs -dsimp (disch := omega) only [↓AW_ops, ↓AW_seq, ↓AOps_nil, ↓AOps_pu, ↓AOps_call, on_some, extK_false, ↓then_normal, pval, rd_S, put_S, List.replicate_succ, List.replicate_zero, List.set_cons_zero, List.set_cons_succ, List.getElem?_cons_zero, List.getElem?_cons_succ, Option.getD_some, map_c, map_n, Nat.reduceSub, List.cons_append, List.nil_append]
  refine CallK.of (s56 (hf.mono q3)) ?_
  have p4 := pre_out A3 ((tuL f).flatMap Go.Eng.e2) (tuL f).length
  have hL4 := Ls_out A3 e2_len (tuL f)
  generalize outH A3 ((tuL f).flatMap Go.Eng.e2) (tuL f).length = A4 at *
  generalize outV 2 A3 (tuL f).length = y4 at *
  have q4 := q3.trans p4
  have hL1 := ((hL1.mono p2).mono p3).mono p4
  have hL2 := (hL2.mono p3).mono p4
  have hL3 := hL3.mono p4
  have hf4 := hf.mono q4
  have hg4 := hg.mono q4
  have t1 : vE f = 0 → vE (tuL f) = 0 ∧ tot (tuL f) = tot f := fun h0 => by
    have : tuL f = f.reverse := by rw [tuL, if_pos h0]
    rw [this]
    exact ⟨vE_rev h0, tot_revJ f⟩
  have t2 : joE f g = 0 → vE (joL f g) = 0 ∧ tot (joL f g) = tot f + tot g := fun h0 => by
    obtain ⟨a, b, c⟩ := joE_0 h0
    have : joL f g = f ++ g := by rw [joL, if_pos h0]
    rw [this]
    exact ⟨vE_app a b c, tot_appJ f g⟩
  have tb : ∀ f : List (Int × Int), (vE f = 0 → 0 ≤ tot f ∧ tot f ≤ 2400) := fun f h0 => tot_bound (good_of h0).1
  simp (maxSteps := 4000000) -implicitDefEqProofs -dsimp (disch := omega) only [↓AW_ops, ↓AW_seq, ↓AOps_nil, ↓AOps_pu, ↓AOps_call, ↓AOps_guard, on_some, extK_false, guardB_ff, ↓then_normal, pval, rd_S, put_S, eq_self, List.replicate_succ, List.replicate_zero, List.set_cons_zero, List.set_cons_succ, List.getElem?_cons_zero, List.getElem?_cons_succ, Option.getD_some, map_c, map_n, Nat.reduceSub, List.cons_append, List.nil_append, bin_neq, decide_false, not_true_eq_false]
  refine CallK.of (s43 hL1 hL2 (by omega)) ?_
  simp (maxSteps := 4000000) -implicitDefEqProofs -dsimp (disch := omega) only [↓AOps_pu, ↓AOps_call, ↓AOps_guard, on_some, extK_same, guardB_ff, pval, rd_S, rd_C, put_S, eq_self, List.replicate_succ, List.replicate_zero, List.set_cons_zero, List.set_cons_succ, List.getElem?_cons_zero, List.getElem?_cons_succ, Option.getD_some, map_c, map_n, Nat.reduceSub, List.cons_append, List.nil_append, bin_neq, if_false, Bool.false_eq_true, Bool.not_true, decide_true, decide_false, not_true_eq_false]
  refine CallK.of (s43 hL3 hL4 (by omega)) ?_
  simp (maxSteps := 4000000) -implicitDefEqProofs -dsimp (disch := omega) only [↓AW_skip, ↓AW_ops, ↓AW_seq, ↓AW_cond, ↓AOps_nil, ↓AOps_pu, ↓AOps_call, ↓AOps_guard, on_some, extK_same, guardB_ff, condB_f, ↓then_normal, pval, rd_S, rd_C, put_S, eq_self, List.replicate_succ, List.replicate_zero, List.set_cons_zero, List.set_cons_succ, List.getElem?_cons_zero, List.getElem?_cons_succ, Option.getD_some, map_c, map_n, Nat.reduceSub, List.cons_append, List.nil_append, if_false, Bool.false_eq_true, Bool.not_true, decide_true]
  refine CallK.of (s33 hf4) ?_
  by_cases hv : vE f = 0
  · obtain ⟨a1, a2⟩ := t1 hv
    simp (maxSteps := 4000000) -implicitDefEqProofs -dsimp (disch := omega) only [↓AW_ops, ↓AW_seq, ↓AOps_nil, ↓AOps_pu, ↓AOps_call, on_some, extK_same, ↓then_normal, pval, rd_S, put_S, eq_self, List.replicate_succ, List.replicate_zero, List.set_cons_zero, List.set_cons_succ, List.getElem?_cons_zero, List.getElem?_cons_succ, Option.getD_some, map_c, map_n, Nat.reduceSub, List.cons_append, List.nil_append, if_true, decide_true, hv]
    refine CallK.of (s33 hL3) ?_
    rw [a1, a2]
    simp (maxSteps := 4000000) -implicitDefEqProofs -dsimp (disch := omega) only [↓AW_skip, ↓AW_ops, ↓AW_seq, ↓AW_cond, ↓AOps_nil, ↓AOps_pu, ↓AOps_call, ↓AOps_guard, on_some, extK_same, guardB_tt, guardB_ff, condB_f, ↓then_normal, pval, rd_S, rd_C, put_S, eq_self, List.replicate_succ, List.replicate_zero, List.set_cons_zero, List.set_cons_succ, List.getElem?_cons_zero, List.getElem?_cons_succ, Option.getD_some, map_c, map_n, Nat.reduceSub, List.cons_append, List.nil_append, bin_eql, bin_neq, if_true, if_false, Bool.false_eq_true, decide_true, decide_false, not_true_eq_false, hv]
    refine CallK.of (s33 hg4) ?_
    by_cases hj : joE f g = 0
    · obtain ⟨b1, b2⟩ := t2 hj
      obtain ⟨_, hvg, _⟩ := joE_0 hj
      have c1 := tb f hv
      have c2 := tb g hvg
      simp (maxSteps := 4000000) -implicitDefEqProofs -dsimp (disch := omega) only [↓AW_ops, ↓AW_seq, ↓AOps_nil, ↓AOps_pu, ↓AOps_call, on_some, extK_same, ↓then_normal, pval, rd_S, put_S, eq_self, List.replicate_succ, List.replicate_zero, List.set_cons_zero, List.set_cons_succ, List.getElem?_cons_zero, List.getElem?_cons_succ, Option.getD_some, map_c, map_n, Nat.reduceSub, List.cons_append, List.nil_append, if_true, decide_true, hj, hvg]
      refine CallK.of (s33 hL1) ?_
      rw [b1, b2]
      simp (maxSteps := 4000000) -implicitDefEqProofs -dsimp (disch := omega) only [↓AW_ops, ↓AW_seq, ↓AOps_nil, ↓AOps_pu, ↓AOps_call, ↓AOps_guard, on_some, extK_same, guardB_tt, guardB_ff, ↓then_normal, pval, rd_S, rd_C, put_S, eq_self, List.replicate_succ, List.replicate_zero, List.set_cons_zero, List.set_cons_succ, List.getElem?_cons_zero, List.getElem?_cons_succ, Option.getD_some, map_n, Nat.reduceSub, List.cons_append, List.nil_append, bin_add, bin_eql, bin_neq, w64, if_true, if_false, Bool.false_eq_true, decide_true, decide_false, not_true_eq_false, hj, hvg, hv]
      refine CallK.of (known _) ?_
      simp (maxSteps := 4000000) -implicitDefEqProofs -dsimp (disch := omega) only [↓AW_ret, ↓AOps_nil, ↓AOps_pu, on_some, extK_same, ↓then_normal, ↓Fin_ret, pval, rd_S, rd_C, put_S, resV, resL, eq_self, List.replicate_succ, List.replicate_zero, List.set_cons_zero, List.set_cons_succ, List.getElem?_cons_zero, List.getElem?_cons_succ, Option.getD_some, Nat.reduceSub, List.cons_append, List.nil_append, if_true, decide_true]
      exact gc_val q4 rfl
    · simp (maxSteps := 4000000) -implicitDefEqProofs -dsimp (disch := omega) only [↓AW_ops, ↓AW_seq, ↓AOps_nil, ↓AOps_pu, ↓AOps_call, on_some, extK_same, ↓then_normal, pval, rd_S, put_S, eq_self, List.replicate_succ, List.replicate_zero, List.set_cons_zero, List.set_cons_succ, List.getElem?_cons_zero, List.getElem?_cons_succ, Option.getD_some, map_c, map_n, Nat.reduceSub, List.cons_append, List.nil_append, if_true, decide_true]
      refine CallK.of (s33 hL1) ?_
      simp (maxSteps := 4000000) -implicitDefEqProofs -dsimp (disch := omega) only [↓AW_ops, ↓AW_seq, ↓AOps_nil, ↓AOps_pu, ↓AOps_call, ↓AOps_guard, on_some, extK_same, guardB_tt, guardB_tf, guardB_undef, skipS_some, ↓then_normal, pval, rd_S, rd_C, put_S, eq_self, List.replicate_succ, List.replicate_zero, List.set_cons_zero, List.set_cons_succ, List.getElem?_cons_zero, List.getElem?_cons_succ, Option.getD_some, map_n, Nat.reduceSub, List.cons_append, List.nil_append, bin_neq, if_true, decide_true, not_false_eq_true, hj]
      refine CallK.of (known _) ?_
      simp (maxSteps := 4000000) -implicitDefEqProofs -dsimp (disch := omega) only [↓AW_ret, ↓AOps_nil, ↓AOps_pu, on_some, extK_same, skipS_some, ↓then_normal, ↓Fin_ret, pval, rd_S, rd_C, put_S, resV, resL, eq_self, List.replicate_succ, List.replicate_zero, List.set_cons_zero, List.set_cons_succ, List.getElem?_cons_zero, List.getElem?_cons_succ, Option.getD_some, Nat.reduceSub, List.cons_append, List.nil_append, if_true, decide_true]
      exact gc_val q4 rfl
  · have hj : ¬ joE f g = 0 := fun hj => hv (joE_0 hj).1
    simp (maxSteps := 4000000) -implicitDefEqProofs -dsimp (disch := omega) only [↓AW_ops, ↓AW_seq, ↓AOps_nil, ↓AOps_pu, ↓AOps_call, on_some, extK_same, ↓then_normal, pval, rd_S, put_S, eq_self, List.replicate_succ, List.replicate_zero, List.set_cons_zero, List.set_cons_succ, List.getElem?_cons_zero, List.getElem?_cons_succ, Option.getD_some, map_c, map_n, Nat.reduceSub, List.cons_append, List.nil_append, if_false, decide_true, hv]
    refine CallK.of (s33 hL3) ?_
    simp (maxSteps := 4000000) -implicitDefEqProofs -dsimp (disch := omega) only [↓AW_skip, ↓AW_ops, ↓AW_seq, ↓AW_cond, ↓AOps_nil, ↓AOps_pu, ↓AOps_call, ↓AOps_guard, on_some, extK_same, guardB_ft, guardB_undef, skipS_some, condB_f, ↓then_normal, pval, rd_S, rd_C, put_S, eq_self, List.replicate_succ, List.replicate_zero, List.set_cons_zero, List.set_cons_succ, List.getElem?_cons_zero, List.getElem?_cons_succ, Option.getD_some, map_c, map_n, Nat.reduceSub, List.cons_append, List.nil_append, bin_eql, if_false, Bool.false_eq_true, decide_true, decide_false, hv]
    refine CallK.of (s33 hg4) ?_
    simp (maxSteps := 4000000) -implicitDefEqProofs -dsimp (disch := omega) only [↓AW_ops, ↓AW_seq, ↓AOps_nil, ↓AOps_pu, ↓AOps_call, on_some, extK_same, skipS_some, ↓then_normal, pval, rd_S, put_S, eq_self, List.replicate_succ, List.replicate_zero, List.set_cons_zero, List.set_cons_succ, List.getElem?_cons_zero, List.getElem?_cons_succ, Option.getD_some, map_c, map_n, Nat.reduceSub, List.cons_append, List.nil_append, decide_true]
    refine CallK.of (s33 hL1) ?_
    simp (maxSteps := 4000000) -implicitDefEqProofs -dsimp (disch := omega) only [↓AW_ops, ↓AW_seq, ↓AOps_nil, ↓AOps_pu, ↓AOps_call, ↓AOps_guard, on_some, extK_same, guardB_tt, guardB_tf, guardB_undef, skipS_some, ↓then_normal, pval, rd_S, rd_C, put_S, eq_self, List.replicate_succ, List.replicate_zero, List.set_cons_zero, List.set_cons_succ, List.getElem?_cons_zero, List.getElem?_cons_succ, Option.getD_some, map_n, Nat.reduceSub, List.cons_append, List.nil_append, bin_neq, if_true, decide_true, not_false_eq_true, hj]
    refine CallK.of (known _) ?_
    simp (maxSteps := 4000000) -implicitDefEqProofs -dsimp (disch := omega) only [↓AW_ret, ↓AOps_nil, ↓AOps_pu, on_some, extK_same, skipS_some, ↓then_normal, ↓Fin_ret, pval, rd_S, rd_C, put_S, resV, resL, eq_self, List.replicate_succ, List.replicate_zero, List.set_cons_zero, List.set_cons_succ, List.getElem?_cons_zero, List.getElem?_cons_succ, Option.getD_some, Nat.reduceSub, List.cons_append, List.nil_append, if_true, decide_true]
    exact gc_val q4 rfl
end Go.Proofs.Ytnnbggcckabhdaa

