import Derived.Test.YtlmbobbefgcolaaEng20
import Derived.Test.YtlmbobbefgcolaaRows
namespace Go.Proofs.Ytlmbobbefgcolaa
open Go Go.Eng
/-- selion/selionlaw07.Long [loop [1, 3]] -/
def m17 : MFun := ⟨21, [1], [.mov (.s 2)],
 .seq (.ops [⟨(some 1), some (.junk), none, false, .pu (.bnew (.s 0))⟩,
   ⟨(some 2), some undefA, none, false, .pu (.mov (.c (.bool false)))⟩])
 (.seq (.seq (.ops [⟨(some 3), some undefA, none, false, .pu (.mov (.c (.int .i64 0)))⟩])
 (.block 0 (.loop (.seq (.seq (.ops [⟨(some 4), some undefA, none, false, .pu (.mov (.s 3))⟩,
     ⟨(some 5), some undefA, none, false, .pu (.badr none 1)⟩,
     ⟨(some 6), some undefA, none, false, .pu (.bget (some 5) 1 1 1 false)⟩,
     ⟨(some 7), some undefA, none, false, .pu (.len (.s 6))⟩,
     ⟨(some 8), some undefA, none, false, .pu (.bin .lss (.s 4) (.s 7))⟩])
   (.cond (.s 8) (.skip)
   (.exit 0)))
   (.seq (.block 1 (.seq (.ops [⟨(some 11), some undefA, none, false, .pu (.badr none 1)⟩,
      ⟨(some 12), some undefA, none, false, .pu (.bget (some 11) 1 1 1 false)⟩,
      ⟨(some 13), some undefA, none, false, .pu (.mov (.s 3))⟩,
      ⟨(some 14), some undefA, none, false, .pu (.idx 1 (.s 12) (.s 13))⟩,
      ⟨(some 15), some undefA, none, false, .ld (.ld 1 false (.s 14))⟩,
      ⟨(some 16), some undefA, none, false, .call 32 [(.s 15)]⟩])
    (.cond (.s 16) (.seq (.ops [⟨(some 2), some undefA, none, false, .pu (.mov (.c (.bool true)))⟩])
     (.ret))
    (.skip))))
   (.ops [⟨(some 9), some undefA, none, false, .pu (.mov (.s 3))⟩,
     ⟨(some 10), some undefA, none, false, .pu (.bin .add (.s 9) (.c (.int .i64 1)))⟩,
     ⟨(some 3), some undefA, none, false, .pu (.mov (.s 10))⟩]))))))
 (.seq (.ops [⟨(some 17), some undefA, none, false, .pu (.badr none 1)⟩,
   ⟨(some 18), some undefA, none, false, .pu (.bget (some 17) 1 1 1 false)⟩,
   ⟨(some 19), some undefA, none, false, .pu (.len (.s 18))⟩,
   ⟨(some 20), some undefA, none, false, .pu (.bin .gtr (.s 19) (.c (.int .i64 40)))⟩,
   ⟨(some 2), some undefA, none, false, .pu (.mov (.s 20))⟩])
 (.ret)))⟩
theorem t17 : trF Try.prog [1] [] Try.f17 = some m17 := by kernel_rfl

/-- selion/selionlaw07.known [] -/
def m18 : MFun := ⟨46, [], [.mov (.s 0)],
 .seq (.ops [⟨(some 0), some undefA, none, false, .pu (.mov (.c (.bool false)))⟩])
 (.seq (.ops [⟨(some 8), some undefA, none, false, .call 54 []⟩,
   ⟨(some 9), some undefA, none, false, .call 24 [(.s 8)]⟩,
   ⟨(some 7), some undefA, none, false, .pu (.mov (.s 9))⟩,
   ⟨(some 10), some undefA, none, false, .pu (.extr 0 (.s 7))⟩,
   ⟨(some 11), some undefA, none, false, .pu (.extr 1 (.s 7))⟩,
   ⟨(some 1), some undefA, none, false, .pu (.mov (.s 10))⟩,
   ⟨(some 2), some undefA, none, false, .pu (.mov (.s 11))⟩])
 (.seq (.ops [⟨(some 13), some undefA, none, false, .call 54 []⟩,
   ⟨(some 14), some undefA, none, false, .call 19 [(.s 13)]⟩,
   ⟨(some 12), some undefA, none, false, .pu (.mov (.s 14))⟩,
   ⟨(some 15), some undefA, none, false, .pu (.extr 0 (.s 12))⟩,
   ⟨(some 16), some undefA, none, false, .pu (.extr 1 (.s 12))⟩,
   ⟨(some 3), some undefA, none, false, .pu (.mov (.s 15))⟩,
   ⟨(some 4), some undefA, none, false, .pu (.mov (.s 16))⟩])
 (.seq (.ops [⟨(some 18), some undefA, none, false, .call 54 []⟩,
   ⟨(some 19), some undefA, none, false, .call 21 [(.s 18)]⟩,
   ⟨(some 17), some undefA, none, false, .pu (.mov (.s 19))⟩,
   ⟨(some 20), some undefA, none, false, .pu (.extr 0 (.s 17))⟩,
   ⟨(some 21), some undefA, none, false, .pu (.extr 1 (.s 17))⟩,
   ⟨(some 5), some undefA, none, false, .pu (.mov (.s 20))⟩,
   ⟨(some 6), some undefA, none, false, .pu (.mov (.s 21))⟩])
 (.seq (.ops [⟨(some 22), some undefA, none, false, .pu (.mov (.s 2))⟩,
   ⟨(some 23), some undefA, none, false, .pu (.bin .eql (.s 22) (.c (.int .i64 0)))⟩,
   ⟨(some 24), some undefA, none, false, .pu (.mov (.s 23))⟩,
   ⟨(some 25), some undefA, (some (24, true)), false, .pu (.mov (.s 1))⟩,
   ⟨(some 26), some undefA, (some (24, true)), false, .pu (.bin .eql (.s 25) (.c (.int .i64 2)))⟩,
   ⟨(some 27), some undefA, none, false, .pu (.pick (.s 24) (.s 26) (.c (.bool false)))⟩,
   ⟨(some 28), some undefA, none, false, .pu (.mov (.s 27))⟩,
   ⟨(some 29), some undefA, (some (28, true)), false, .pu (.mov (.s 4))⟩,
   ⟨(some 30), some undefA, (some (28, true)), false, .pu (.bin .eql (.s 29) (.c (.int .i64 0)))⟩,
   ⟨(some 31), some undefA, none, false, .pu (.pick (.s 28) (.s 30) (.c (.bool false)))⟩,
   ⟨(some 32), some undefA, none, false, .pu (.mov (.s 31))⟩,
   ⟨(some 33), some undefA, (some (32, true)), false, .pu (.mov (.s 3))⟩,
   ⟨(some 34), some undefA, (some (32, true)), false, .ha (.blds 1 1 [.int .i64 0] [(0, 1, (.c (.int .i64 0)))])⟩,
   ⟨(some 35), some undefA, (some (32, true)), false, .call 23 [(.s 33), (.s 34)]⟩,
   ⟨(some 36), some undefA, none, false, .pu (.pick (.s 32) (.s 35) (.c (.bool false)))⟩,
   ⟨(some 37), some undefA, none, false, .pu (.mov (.s 36))⟩,
   ⟨(some 38), some undefA, (some (37, true)), false, .pu (.mov (.s 6))⟩,
   ⟨(some 39), some undefA, (some (37, true)), false, .pu (.bin .eql (.s 38) (.c (.int .i64 0)))⟩,
   ⟨(some 40), some undefA, none, false, .pu (.pick (.s 37) (.s 39) (.c (.bool false)))⟩,
   ⟨(some 41), some undefA, none, false, .pu (.mov (.s 40))⟩,
   ⟨(some 42), some undefA, (some (41, true)), false, .pu (.mov (.s 5))⟩,
   ⟨(some 43), some undefA, (some (41, true)), false, .ha (.blds 1 2 [.int .i64 0] [(0, 1, (.c (.int .i64 0))), (1, 1, (.c (.int .i64 1)))])⟩,
   ⟨(some 44), some undefA, (some (41, true)), false, .call 23 [(.s 42), (.s 43)]⟩,
   ⟨(some 45), some undefA, none, false, .pu (.pick (.s 41) (.s 44) (.c (.bool false)))⟩,
   ⟨(some 0), some undefA, none, false, .pu (.mov (.s 45))⟩])
 (.ret)))))⟩
theorem t18 : trF Try.prog [] [] Try.f18 = some m18 := by kernel_rfl

/-- selion/wish.Sure [loop [1, 5, 15, 16]] -/
def m19 : MFun := ⟨40, [1, 7], [.mov (.s 2), .mov (.s 3)],
 .seq (.ops [⟨(some 1), some (.junk), none, false, .pu (.bnew (.s 0))⟩,
   ⟨(some 2), some undefA, none, false, .pu (.mov (.c (.nilS)))⟩,
   ⟨(some 3), some undefA, none, false, .pu (.mov (.c (.int .i64 0)))⟩])
 (.seq (.seq (.ops [⟨(some 8), some undefA, none, false, .pu (.bget none 1 0 2 true)⟩,
   ⟨(some 9), some undefA, none, false, .call 39 [(.s 8)]⟩,
   ⟨(some 4), some undefA, none, false, .pu (.mov (.s 9))⟩])
 (.seq (.ops [⟨(some 10), some undefA, none, false, .pu (.mov (.s 4))⟩,
   ⟨(some 11), some undefA, none, false, .pu (.bin .neq (.s 10) (.c (.int .i64 0)))⟩])
 (.cond (.s 11) (.seq (.ops [⟨(some 12), some undefA, none, false, .pu (.mov (.s 4))⟩,
    ⟨(some 2), some undefA, none, false, .pu (.mov (.c (.nilS)))⟩,
    ⟨(some 3), some undefA, none, false, .pu (.mov (.s 12))⟩])
  (.ret))
 (.skip))))
 (.seq (.ops [⟨(some 5), some undefA, none, false, .pu (.mov (.c (.nilS)))⟩])
 (.seq (.seq (.ops [⟨(some 13), some undefA, none, false, .pu (.badr none 1)⟩,
   ⟨(some 14), some undefA, none, false, .pu (.bget (some 13) 1 1 1 false)⟩,
   ⟨(some 15), some undefA, none, false, .pu (.len (.s 14))⟩,
   ⟨(some 16), some undefA, none, false, .pu (.mov (.c (.int .i64 0)))⟩])
 (.block 0 (.loop (.seq (.ops [⟨(some 17), some undefA, none, false, .pu (.bin .lss (.s 16) (.s 15))⟩])
   (.seq (.cond (.s 17) (.skip)
   (.exit 0))
   (.seq (.block 1 (.seq (.ops [⟨(some 18), some undefA, none, false, .pu (.mov (.s 16))⟩,
      ⟨(some 6), some undefA, none, false, .pu (.mov (.s 18))⟩])
    (.seq (.ops [⟨(some 19), some undefA, none, false, .pu (.badr none 1)⟩,
      ⟨(some 20), some undefA, none, false, .pu (.bget (some 19) 1 0 1 false)⟩,
      ⟨(some 21), some undefA, none, false, .pu (.badr none 1)⟩,
      ⟨(some 22), some undefA, none, false, .pu (.bget (some 21) 1 1 1 false)⟩,
      ⟨(some 23), some undefA, none, false, .call 55 [(.s 22)]⟩,
      ⟨(some 24), some undefA, none, false, .pu (.build [.int .i64 0, .nilS] [(0, 1, (.s 20)), (1, 1, (.s 23))])⟩,
      ⟨(some 7), some (.junk), none, false, .pu (.bnew (.c (.agg [.int .i64 0, .nilS])))⟩,
      ⟨(some 7), none, none, false, .pu (.bset none 7 0 2 (.s 24))⟩])
    (.seq (.ops [⟨(some 25), some undefA, none, false, .pu (.badr none 7)⟩,
      ⟨(some 26), some undefA, none, false, .pu (.bget (some 25) 7 1 1 false)⟩,
      ⟨(some 27), some undefA, none, false, .pu (.mov (.s 6))⟩,
      ⟨(some 28), some undefA, none, false, .pu (.idx 1 (.s 26) (.s 27))⟩,
      ⟨none, some undefA, none, false, .ha (.st 1 (.s 28) (.c (.nilS)))⟩])
    (.seq (.ops [⟨(some 29), some undefA, none, false, .pu (.bget none 7 0 2 true)⟩,
      ⟨(some 30), some undefA, none, false, .call 56 [(.s 29)]⟩,
      ⟨(some 31), some undefA, none, false, .pu (.bget none 1 0 2 true)⟩,
      ⟨(some 32), some undefA, none, false, .call 56 [(.s 31)]⟩,
      ⟨(some 33), some undefA, none, false, .pu (.bin .lss (.s 30) (.s 32))⟩])
    (.cond (.s 33) (.ops [⟨(some 34), some undefA, none, false, .pu (.mov (.s 5))⟩,
       ⟨(some 35), some undefA, none, false, .pu (.mov (.s 6))⟩,
       ⟨(some 36), some undefA, none, false, .ha (.blds 1 1 [.int .i64 0] [(0, 1, (.s 35))])⟩,
       ⟨(some 37), some undefA, none, false, .ha (.app 1 (.s 34) (.s 36))⟩,
       ⟨(some 5), some undefA, none, false, .pu (.mov (.s 37))⟩])
    (.skip)))))))
   (.ops [⟨(some 38), some undefA, none, false, .pu (.bin .add (.s 16) (.c (.int .i64 1)))⟩,
     ⟨(some 16), some undefA, none, false, .pu (.mov (.s 38))⟩])))))))
 (.seq (.ops [⟨(some 39), some undefA, none, false, .pu (.mov (.s 5))⟩,
   ⟨(some 2), some undefA, none, false, .pu (.mov (.s 39))⟩,
   ⟨(some 3), some undefA, none, false, .pu (.mov (.c (.int .i64 0)))⟩])
 (.ret)))))⟩
theorem t19 : trF Try.prog [1, 7] [] Try.f19 = some m19 := by kernel_rfl

/-- selion/selionref07.Sure [loop [1, 5, 6]] -/
def m20 : MFun := ⟨32, [1], [.mov (.s 2), .mov (.s 3)],
 .seq (.ops [⟨(some 1), some (.junk), none, false, .pu (.bnew (.s 0))⟩,
   ⟨(some 2), some undefA, none, false, .pu (.mov (.c (.nilS)))⟩,
   ⟨(some 3), some undefA, none, false, .pu (.mov (.c (.int .i64 0)))⟩])
 (.seq (.seq (.ops [⟨(some 7), some undefA, none, false, .pu (.bget none 1 0 2 true)⟩,
   ⟨(some 8), some undefA, none, false, .call 40 [(.s 7)]⟩,
   ⟨(some 4), some undefA, none, false, .pu (.mov (.s 8))⟩])
 (.seq (.ops [⟨(some 9), some undefA, none, false, .pu (.mov (.s 4))⟩,
   ⟨(some 10), some undefA, none, false, .pu (.bin .neq (.s 9) (.c (.int .i64 0)))⟩])
 (.cond (.s 10) (.seq (.ops [⟨(some 11), some undefA, none, false, .pu (.mov (.s 4))⟩,
    ⟨(some 2), some undefA, none, false, .pu (.mov (.c (.nilS)))⟩,
    ⟨(some 3), some undefA, none, false, .pu (.mov (.s 11))⟩])
  (.ret))
 (.skip))))
 (.seq (.ops [⟨(some 5), some undefA, none, false, .pu (.mov (.c (.nilS)))⟩])
 (.seq (.seq (.ops [⟨(some 6), some undefA, none, false, .pu (.mov (.c (.int .i64 0)))⟩])
 (.block 0 (.loop (.seq (.seq (.ops [⟨(some 12), some undefA, none, false, .pu (.mov (.s 6))⟩,
     ⟨(some 13), some undefA, none, false, .pu (.badr none 1)⟩,
     ⟨(some 14), some undefA, none, false, .pu (.bget (some 13) 1 1 1 false)⟩,
     ⟨(some 15), some undefA, none, false, .pu (.len (.s 14))⟩,
     ⟨(some 16), some undefA, none, false, .pu (.bin .lss (.s 12) (.s 15))⟩])
   (.cond (.s 16) (.skip)
   (.exit 0)))
   (.seq (.block 1 (.seq (.ops [⟨(some 19), some undefA, none, false, .pu (.bget none 1 0 2 true)⟩,
      ⟨(some 20), some undefA, none, false, .pu (.mov (.s 6))⟩,
      ⟨(some 21), some undefA, none, false, .call 58 [(.s 19), (.s 20)]⟩,
      ⟨(some 22), some undefA, none, false, .call 57 [(.s 21)]⟩,
      ⟨(some 23), some undefA, none, false, .pu (.bget none 1 0 2 true)⟩,
      ⟨(some 24), some undefA, none, false, .call 58 [(.s 23), (.c (.int .i64 (-1)))]⟩,
      ⟨(some 25), some undefA, none, false, .call 57 [(.s 24)]⟩,
      ⟨(some 26), some undefA, none, false, .pu (.bin .lss (.s 22) (.s 25))⟩])
    (.cond (.s 26) (.ops [⟨(some 27), some undefA, none, false, .pu (.mov (.s 5))⟩,
       ⟨(some 28), some undefA, none, false, .pu (.mov (.s 6))⟩,
       ⟨(some 29), some undefA, none, false, .ha (.blds 1 1 [.int .i64 0] [(0, 1, (.s 28))])⟩,
       ⟨(some 30), some undefA, none, false, .ha (.app 1 (.s 27) (.s 29))⟩,
       ⟨(some 5), some undefA, none, false, .pu (.mov (.s 30))⟩])
    (.skip))))
   (.ops [⟨(some 17), some undefA, none, false, .pu (.mov (.s 6))⟩,
     ⟨(some 18), some undefA, none, false, .pu (.bin .add (.s 17) (.c (.int .i64 1)))⟩,
     ⟨(some 6), some undefA, none, false, .pu (.mov (.s 18))⟩]))))))
 (.seq (.ops [⟨(some 31), some undefA, none, false, .pu (.mov (.s 5))⟩,
   ⟨(some 2), some undefA, none, false, .pu (.mov (.s 31))⟩,
   ⟨(some 3), some undefA, none, false, .pu (.mov (.c (.int .i64 0)))⟩])
 (.ret)))))⟩
theorem t20 : trF Try.prog [1] [] Try.f20 = some m20 := by kernel_rfl

/-- selion/wish.Needed [loop [1, 5, 13, 14]] -/
def m21 : MFun := ⟨30, [1], [.mov (.s 2), .mov (.s 3)],
 .seq (.ops [⟨(some 1), some (.junk), none, false, .pu (.bnew (.s 0))⟩,
   ⟨(some 2), some undefA, none, false, .pu (.mov (.c (.nilS)))⟩,
   ⟨(some 3), some undefA, none, false, .pu (.mov (.c (.int .i64 0)))⟩])
 (.seq (.seq (.ops [⟨(some 7), some undefA, none, false, .pu (.bget none 1 0 2 true)⟩,
   ⟨(some 8), some undefA, none, false, .call 39 [(.s 7)]⟩,
   ⟨(some 4), some undefA, none, false, .pu (.mov (.s 8))⟩])
 (.seq (.ops [⟨(some 9), some undefA, none, false, .pu (.mov (.s 4))⟩,
   ⟨(some 10), some undefA, none, false, .pu (.bin .neq (.s 9) (.c (.int .i64 0)))⟩])
 (.cond (.s 10) (.seq (.ops [⟨(some 11), some undefA, none, false, .pu (.mov (.s 4))⟩,
    ⟨(some 2), some undefA, none, false, .pu (.mov (.c (.nilS)))⟩,
    ⟨(some 3), some undefA, none, false, .pu (.mov (.s 11))⟩])
  (.ret))
 (.skip))))
 (.seq (.ops [⟨(some 5), some undefA, none, false, .pu (.mov (.c (.nilS)))⟩])
 (.seq (.seq (.ops [⟨(some 12), some undefA, none, false, .pu (.badr none 1)⟩,
   ⟨(some 13), some undefA, none, false, .pu (.bget (some 12) 1 0 1 false)⟩,
   ⟨(some 14), some undefA, none, false, .pu (.mov (.c (.int .i64 0)))⟩])
 (.block 0 (.loop (.seq (.ops [⟨(some 15), some undefA, none, false, .pu (.bin .lss (.s 14) (.s 13))⟩])
   (.seq (.cond (.s 15) (.skip)
   (.exit 0))
   (.seq (.block 1 (.seq (.ops [⟨(some 16), some undefA, none, false, .pu (.mov (.s 14))⟩,
      ⟨(some 6), some undefA, none, false, .pu (.mov (.s 16))⟩])
    (.seq (.ops [⟨(some 17), some undefA, none, false, .pu (.bget none 1 0 2 true)⟩,
      ⟨(some 18), some undefA, none, false, .pu (.mov (.s 6))⟩,
      ⟨(some 19), some undefA, none, false, .call 59 [(.s 17), (.s 18)]⟩,
      ⟨(some 20), some undefA, none, false, .call 56 [(.s 19)]⟩,
      ⟨(some 21), some undefA, none, false, .pu (.bget none 1 0 2 true)⟩,
      ⟨(some 22), some undefA, none, false, .call 56 [(.s 21)]⟩,
      ⟨(some 23), some undefA, none, false, .pu (.bin .lss (.s 20) (.s 22))⟩])
    (.cond (.s 23) (.ops [⟨(some 24), some undefA, none, false, .pu (.mov (.s 5))⟩,
       ⟨(some 25), some undefA, none, false, .pu (.mov (.s 6))⟩,
       ⟨(some 26), some undefA, none, false, .ha (.blds 1 1 [.int .i64 0] [(0, 1, (.s 25))])⟩,
       ⟨(some 27), some undefA, none, false, .ha (.app 1 (.s 24) (.s 26))⟩,
       ⟨(some 5), some undefA, none, false, .pu (.mov (.s 27))⟩])
    (.skip)))))
   (.ops [⟨(some 28), some undefA, none, false, .pu (.bin .add (.s 14) (.c (.int .i64 1)))⟩,
     ⟨(some 14), some undefA, none, false, .pu (.mov (.s 28))⟩])))))))
 (.seq (.ops [⟨(some 29), some undefA, none, false, .pu (.mov (.s 5))⟩,
   ⟨(some 2), some undefA, none, false, .pu (.mov (.s 29))⟩,
   ⟨(some 3), some undefA, none, false, .pu (.mov (.c (.int .i64 0)))⟩])
 (.ret)))))⟩
theorem t21 : trF Try.prog [1] [] Try.f21 = some m21 := by kernel_rfl

/-- selion/selionref07.Needed [loop [1, 5, 6, 7], loop [1, 5, 6, 7, 8, 9]] -/
def m22 : MFun := ⟨54, [1], [.mov (.s 2), .mov (.s 3)],
 .seq (.ops [⟨(some 1), some (.junk), none, false, .pu (.bnew (.s 0))⟩,
   ⟨(some 2), some undefA, none, false, .pu (.mov (.c (.nilS)))⟩,
   ⟨(some 3), some undefA, none, false, .pu (.mov (.c (.int .i64 0)))⟩])
 (.seq (.seq (.ops [⟨(some 10), some undefA, none, false, .pu (.bget none 1 0 2 true)⟩,
   ⟨(some 11), some undefA, none, false, .call 40 [(.s 10)]⟩,
   ⟨(some 4), some undefA, none, false, .pu (.mov (.s 11))⟩])
 (.seq (.ops [⟨(some 12), some undefA, none, false, .pu (.mov (.s 4))⟩,
   ⟨(some 13), some undefA, none, false, .pu (.bin .neq (.s 12) (.c (.int .i64 0)))⟩])
 (.cond (.s 13) (.seq (.ops [⟨(some 14), some undefA, none, false, .pu (.mov (.s 4))⟩,
    ⟨(some 2), some undefA, none, false, .pu (.mov (.c (.nilS)))⟩,
    ⟨(some 3), some undefA, none, false, .pu (.mov (.s 14))⟩])
  (.ret))
 (.skip))))
 (.seq (.ops [⟨(some 15), some undefA, none, false, .pu (.bget none 1 0 2 true)⟩,
   ⟨(some 16), some undefA, none, false, .call 58 [(.s 15), (.c (.int .i64 (-1)))]⟩,
   ⟨(some 5), some undefA, none, false, .pu (.mov (.s 16))⟩])
 (.seq (.ops [⟨(some 6), some undefA, none, false, .pu (.mov (.c (.nilS)))⟩])
 (.seq (.seq (.ops [⟨(some 7), some undefA, none, false, .pu (.mov (.c (.int .i64 0)))⟩])
 (.block 0 (.loop (.seq (.seq (.ops [⟨(some 17), some undefA, none, false, .pu (.mov (.s 7))⟩,
     ⟨(some 18), some undefA, none, false, .pu (.badr none 1)⟩,
     ⟨(some 19), some undefA, none, false, .pu (.bget (some 18) 1 0 1 false)⟩,
     ⟨(some 20), some undefA, none, false, .pu (.bin .lss (.s 17) (.s 19))⟩])
   (.cond (.s 20) (.skip)
   (.exit 0)))
   (.seq (.block 1 (.seq (.ops [⟨(some 8), some undefA, none, false, .pu (.mov (.c (.bool true)))⟩])
    (.seq (.seq (.ops [⟨(some 9), some undefA, none, false, .pu (.mov (.c (.int .i64 0)))⟩])
    (.block 2 (.loop (.seq (.seq (.ops [⟨(some 23), some undefA, none, false, .pu (.mov (.s 9))⟩,
        ⟨(some 24), some undefA, none, false, .pu (.mov (.s 5))⟩,
        ⟨(some 25), some undefA, none, false, .pu (.len (.s 24))⟩,
        ⟨(some 26), some undefA, none, false, .pu (.bin .lss (.s 23) (.s 25))⟩])
      (.cond (.s 26) (.skip)
      (.exit 2)))
      (.seq (.block 3 (.seq (.ops [⟨(some 29), some undefA, none, false, .pu (.mov (.s 5))⟩,
         ⟨(some 30), some undefA, none, false, .pu (.mov (.s 9))⟩,
         ⟨(some 31), some undefA, none, false, .pu (.idx 1 (.s 29) (.s 30))⟩,
         ⟨(some 32), some undefA, none, false, .ld (.ld 1 false (.s 31))⟩,
         ⟨(some 33), some undefA, none, false, .pu (.mov (.s 32))⟩,
         ⟨(some 34), some undefA, (some (33, true)), false, .pu (.mov (.s 9))⟩,
         ⟨(some 35), some undefA, (some (33, true)), false, .call 60 [(.s 34)]⟩,
         ⟨(some 36), some undefA, (some (33, true)), false, .pu (.mov (.s 5))⟩,
         ⟨(some 37), some undefA, (some (33, true)), false, .call 57 [(.s 36)]⟩,
         ⟨(some 38), some undefA, (some (33, true)), false, .pu (.bin .eql (.s 35) (.s 37))⟩,
         ⟨(some 39), some undefA, none, false, .pu (.pick (.s 33) (.s 38) (.c (.bool false)))⟩,
         ⟨(some 40), some undefA, none, false, .pu (.mov (.s 39))⟩,
         ⟨(some 41), some undefA, (some (40, true)), false, .pu (.mov (.s 9))⟩,
         ⟨(some 42), some undefA, (some (40, true)), false, .pu (.mov (.s 7))⟩,
         ⟨(some 43), some undefA, (some (40, true)), false, .pu (.conv .u64 (.s 42))⟩,
         ⟨(some 44), some undefA, (some (40, true)), false, .pu (.bin .shr (.s 41) (.s 43))⟩,
         ⟨(some 45), some undefA, (some (40, true)), false, .pu (.bin .and (.s 44) (.c (.int .i64 1)))⟩,
         ⟨(some 46), some undefA, (some (40, true)), false, .pu (.bin .eql (.s 45) (.c (.int .i64 0)))⟩,
         ⟨(some 47), some undefA, none, false, .pu (.pick (.s 40) (.s 46) (.c (.bool false)))⟩])
       (.cond (.s 47) (.ops [⟨(some 8), some undefA, none, false, .pu (.mov (.c (.bool false)))⟩])
       (.skip))))
      (.ops [⟨(some 27), some undefA, none, false, .pu (.mov (.s 9))⟩,
        ⟨(some 28), some undefA, none, false, .pu (.bin .add (.s 27) (.c (.int .i64 1)))⟩,
        ⟨(some 9), some undefA, none, false, .pu (.mov (.s 28))⟩]))))))
    (.seq (.ops [⟨(some 48), some undefA, none, false, .pu (.mov (.s 8))⟩])
    (.cond (.s 48) (.ops [⟨(some 49), some undefA, none, false, .pu (.mov (.s 6))⟩,
       ⟨(some 50), some undefA, none, false, .pu (.mov (.s 7))⟩,
       ⟨(some 51), some undefA, none, false, .ha (.blds 1 1 [.int .i64 0] [(0, 1, (.s 50))])⟩,
       ⟨(some 52), some undefA, none, false, .ha (.app 1 (.s 49) (.s 51))⟩,
       ⟨(some 6), some undefA, none, false, .pu (.mov (.s 52))⟩])
    (.skip))))))
   (.ops [⟨(some 21), some undefA, none, false, .pu (.mov (.s 7))⟩,
     ⟨(some 22), some undefA, none, false, .pu (.bin .add (.s 21) (.c (.int .i64 1)))⟩,
     ⟨(some 7), some undefA, none, false, .pu (.mov (.s 22))⟩]))))))
 (.seq (.ops [⟨(some 53), some undefA, none, false, .pu (.mov (.s 6))⟩,
   ⟨(some 2), some undefA, none, false, .pu (.mov (.s 53))⟩,
   ⟨(some 3), some undefA, none, false, .pu (.mov (.c (.int .i64 0)))⟩])
 (.ret))))))⟩
theorem t22 : trF Try.prog [1] [] Try.f22 = some m22 := by kernel_rfl

/-- selion/selionref01.SameInts [loop [0, 1, 5]] -/
def m23 : MFun := ⟨26, [], [.mov (.s 4)],
 .seq (.ops [⟨(some 4), some undefA, none, false, .pu (.mov (.c (.bool false)))⟩])
 (.seq (.seq (.ops [⟨(some 6), some undefA, none, false, .pu (.mov (.s 0))⟩,
   ⟨(some 7), some undefA, none, false, .pu (.len (.s 6))⟩,
   ⟨(some 8), some undefA, none, false, .pu (.mov (.s 1))⟩,
   ⟨(some 9), some undefA, none, false, .pu (.len (.s 8))⟩,
   ⟨(some 10), some undefA, none, false, .pu (.bin .neq (.s 7) (.s 9))⟩])
 (.cond (.s 10) (.seq (.ops [⟨(some 4), some undefA, none, false, .pu (.mov (.c (.bool false)))⟩])
  (.ret))
 (.skip)))
 (.seq (.seq (.ops [⟨(some 5), some undefA, none, false, .pu (.mov (.c (.int .i64 0)))⟩])
 (.block 0 (.loop (.seq (.seq (.ops [⟨(some 11), some undefA, none, false, .pu (.mov (.s 5))⟩,
     ⟨(some 12), some undefA, none, false, .pu (.mov (.s 0))⟩,
     ⟨(some 13), some undefA, none, false, .pu (.len (.s 12))⟩,
     ⟨(some 14), some undefA, none, false, .pu (.bin .lss (.s 11) (.s 13))⟩])
   (.cond (.s 14) (.skip)
   (.exit 0)))
   (.seq (.block 1 (.seq (.ops [⟨(some 17), some undefA, none, true, .pu (.mov (.s 0))⟩,
      ⟨(some 18), some undefA, none, true, .pu (.mov (.s 5))⟩,
      ⟨(some 19), some undefA, none, true, .pu (.idx 1 (.s 17) (.s 18))⟩,
      ⟨(some 20), some undefA, none, true, .ld (.ld 1 false (.s 19))⟩,
      ⟨(some 21), some undefA, none, true, .pu (.mov (.s 1))⟩,
      ⟨(some 22), some undefA, none, true, .pu (.mov (.s 5))⟩,
      ⟨(some 23), some undefA, none, true, .pu (.idx 1 (.s 21) (.s 22))⟩,
      ⟨(some 24), some undefA, none, true, .ld (.ld 1 false (.s 23))⟩,
      ⟨(some 25), some undefA, none, false, .pu (.bin .neq (.s 20) (.s 24))⟩])
    (.cond (.s 25) (.seq (.ops [⟨(some 4), some undefA, none, false, .pu (.mov (.c (.bool false)))⟩])
     (.ret))
    (.skip))))
   (.ops [⟨(some 15), some undefA, none, false, .pu (.mov (.s 5))⟩,
     ⟨(some 16), some undefA, none, false, .pu (.bin .add (.s 15) (.c (.int .i64 1)))⟩,
     ⟨(some 5), some undefA, none, false, .pu (.mov (.s 16))⟩]))))))
 (.seq (.ops [⟨(some 4), some undefA, none, false, .pu (.mov (.c (.bool true)))⟩])
 (.ret))))⟩
theorem t23 : trF Try.prog [] [] Try.f23 = some m23 := by kernel_rfl

/-- selion/wish.Most [] -/
def m24 : MFun := ⟨15, [1], [.mov (.s 2), .mov (.s 3)],
 .seq (.ops [⟨(some 1), some (.junk), none, false, .pu (.bnew (.s 0))⟩,
   ⟨(some 2), some undefA, none, false, .pu (.mov (.c (.int .i64 0)))⟩,
   ⟨(some 3), some undefA, none, false, .pu (.mov (.c (.int .i64 0)))⟩])
 (.seq (.seq (.ops [⟨(some 5), some undefA, none, false, .pu (.bget none 1 0 2 true)⟩,
   ⟨(some 6), some undefA, none, false, .call 39 [(.s 5)]⟩,
   ⟨(some 4), some undefA, none, false, .pu (.mov (.s 6))⟩])
 (.seq (.ops [⟨(some 7), some undefA, none, false, .pu (.mov (.s 4))⟩,
   ⟨(some 8), some undefA, none, false, .pu (.bin .neq (.s 7) (.c (.int .i64 0)))⟩])
 (.cond (.s 8) (.seq (.ops [⟨(some 9), some undefA, none, false, .pu (.mov (.s 4))⟩,
    ⟨(some 2), some undefA, none, false, .pu (.mov (.c (.int .i64 0)))⟩,
    ⟨(some 3), some undefA, none, false, .pu (.mov (.s 9))⟩])
  (.ret))
 (.skip))))
 (.seq (.ops [⟨(some 10), some undefA, none, false, .pu (.bget none 1 0 2 true)⟩,
   ⟨(some 11), some undefA, none, false, .call 63 [(.s 10)]⟩,
   ⟨(some 12), some undefA, none, false, .call 62 [(.s 11)]⟩,
   ⟨(some 13), some undefA, none, false, .pu (.part 2 1 false (.s 12))⟩,
   ⟨(some 14), some undefA, none, false, .call 61 [(.s 13)]⟩,
   ⟨(some 2), some undefA, none, false, .pu (.mov (.s 14))⟩,
   ⟨(some 3), some undefA, none, false, .pu (.mov (.c (.int .i64 0)))⟩])
 (.ret)))⟩
theorem t24 : trF Try.prog [1] [] Try.f24 = some m24 := by kernel_rfl

/-- selion/selionref07.Most [] -/
def m25 : MFun := ⟨13, [1], [.mov (.s 2), .mov (.s 3)],
 .seq (.ops [⟨(some 1), some (.junk), none, false, .pu (.bnew (.s 0))⟩,
   ⟨(some 2), some undefA, none, false, .pu (.mov (.c (.int .i64 0)))⟩,
   ⟨(some 3), some undefA, none, false, .pu (.mov (.c (.int .i64 0)))⟩])
 (.seq (.seq (.ops [⟨(some 5), some undefA, none, false, .pu (.bget none 1 0 2 true)⟩,
   ⟨(some 6), some undefA, none, false, .call 40 [(.s 5)]⟩,
   ⟨(some 4), some undefA, none, false, .pu (.mov (.s 6))⟩])
 (.seq (.ops [⟨(some 7), some undefA, none, false, .pu (.mov (.s 4))⟩,
   ⟨(some 8), some undefA, none, false, .pu (.bin .neq (.s 7) (.c (.int .i64 0)))⟩])
 (.cond (.s 8) (.seq (.ops [⟨(some 9), some undefA, none, false, .pu (.mov (.s 4))⟩,
    ⟨(some 2), some undefA, none, false, .pu (.mov (.c (.int .i64 0)))⟩,
    ⟨(some 3), some undefA, none, false, .pu (.mov (.s 9))⟩])
  (.ret))
 (.skip))))
 (.seq (.ops [⟨(some 10), some undefA, none, false, .pu (.bget none 1 0 2 true)⟩,
   ⟨(some 11), some undefA, none, false, .call 58 [(.s 10), (.c (.int .i64 (-1)))]⟩,
   ⟨(some 12), some undefA, none, false, .call 57 [(.s 11)]⟩,
   ⟨(some 2), some undefA, none, false, .pu (.mov (.s 12))⟩,
   ⟨(some 3), some undefA, none, false, .pu (.mov (.c (.int .i64 0)))⟩])
 (.ret)))⟩
theorem t25 : trF Try.prog [1] [] Try.f25 = some m25 := by kernel_rfl

/-- selion/wish.Give [] -/
def m26 : MFun := ⟨14, [1], [.mov (.s 2), .mov (.s 3)],
 .seq (.ops [⟨(some 1), some (.junk), none, false, .pu (.bnew (.s 0))⟩,
   ⟨(some 2), some undefA, none, false, .pu (.mov (.c (.nilS)))⟩,
   ⟨(some 3), some undefA, none, false, .pu (.mov (.c (.int .i64 0)))⟩])
 (.seq (.seq (.ops [⟨(some 5), some undefA, none, false, .pu (.bget none 1 0 2 true)⟩,
   ⟨(some 6), some undefA, none, false, .call 39 [(.s 5)]⟩,
   ⟨(some 4), some undefA, none, false, .pu (.mov (.s 6))⟩])
 (.seq (.ops [⟨(some 7), some undefA, none, false, .pu (.mov (.s 4))⟩,
   ⟨(some 8), some undefA, none, false, .pu (.bin .neq (.s 7) (.c (.int .i64 0)))⟩])
 (.cond (.s 8) (.seq (.ops [⟨(some 9), some undefA, none, false, .pu (.mov (.s 4))⟩,
    ⟨(some 2), some undefA, none, false, .pu (.mov (.c (.nilS)))⟩,
    ⟨(some 3), some undefA, none, false, .pu (.mov (.s 9))⟩])
  (.ret))
 (.skip))))
 (.seq (.ops [⟨(some 10), some undefA, none, false, .pu (.bget none 1 0 2 true)⟩,
   ⟨(some 11), some undefA, none, false, .call 63 [(.s 10)]⟩,
   ⟨(some 12), some undefA, none, false, .call 62 [(.s 11)]⟩,
   ⟨(some 13), some undefA, none, false, .pu (.part 2 1 false (.s 12))⟩,
   ⟨(some 2), some undefA, none, false, .pu (.mov (.s 13))⟩,
   ⟨(some 3), some undefA, none, false, .pu (.mov (.c (.int .i64 0)))⟩])
 (.ret)))⟩
theorem t26 : trF Try.prog [1] [] Try.f26 = some m26 := by kernel_rfl

/-- selion/selionref07.CheckGiving [loop [1, 2, 7], loop [1, 2, 8], loop [1, 9]] -/
def m27 : MFun := ⟨83, [2], [.mov (.s 4), .mov (.s 5)],
 .seq (.ops [⟨(some 2), some (.junk), none, false, .pu (.bnew (.s 0))⟩,
   ⟨(some 4), some undefA, none, false, .pu (.mov (.c (.int .i64 0)))⟩,
   ⟨(some 5), some undefA, none, false, .pu (.mov (.c (.int .i64 0)))⟩])
 (.seq (.seq (.ops [⟨(some 10), some undefA, none, false, .pu (.bget none 2 0 2 true)⟩,
   ⟨(some 11), some undefA, none, false, .call 40 [(.s 10)]⟩,
   ⟨(some 6), some undefA, none, false, .pu (.mov (.s 11))⟩])
 (.seq (.ops [⟨(some 12), some undefA, none, false, .pu (.mov (.s 6))⟩,
   ⟨(some 13), some undefA, none, false, .pu (.bin .neq (.s 12) (.c (.int .i64 0)))⟩])
 (.cond (.s 13) (.seq (.ops [⟨(some 14), some undefA, none, false, .pu (.mov (.s 6))⟩,
    ⟨(some 4), some undefA, none, false, .pu (.mov (.c (.int .i64 0)))⟩,
    ⟨(some 5), some undefA, none, false, .pu (.mov (.s 14))⟩])
  (.ret))
 (.skip))))
 (.seq (.seq (.ops [⟨(some 15), some undefA, none, false, .pu (.mov (.s 1))⟩,
   ⟨(some 16), some undefA, none, false, .pu (.len (.s 15))⟩,
   ⟨(some 17), some undefA, none, false, .pu (.badr none 2)⟩,
   ⟨(some 18), some undefA, none, false, .pu (.bget (some 17) 2 1 1 false)⟩,
   ⟨(some 19), some undefA, none, false, .pu (.len (.s 18))⟩,
   ⟨(some 20), some undefA, none, false, .pu (.bin .neq (.s 16) (.s 19))⟩])
 (.cond (.s 20) (.seq (.ops [⟨(some 4), some undefA, none, false, .pu (.mov (.c (.int .i64 0)))⟩,
    ⟨(some 5), some undefA, none, false, .pu (.mov (.c (.int .i64 1)))⟩])
  (.ret))
 (.skip)))
 (.seq (.seq (.ops [⟨(some 7), some undefA, none, false, .pu (.mov (.c (.int .i64 0)))⟩])
 (.block 0 (.loop (.seq (.seq (.ops [⟨(some 21), some undefA, none, false, .pu (.mov (.s 7))⟩,
     ⟨(some 22), some undefA, none, false, .pu (.mov (.s 1))⟩,
     ⟨(some 23), some undefA, none, false, .pu (.len (.s 22))⟩,
     ⟨(some 24), some undefA, none, false, .pu (.bin .lss (.s 21) (.s 23))⟩])
   (.cond (.s 24) (.skip)
   (.exit 0)))
   (.seq (.block 1 (.seq (.ops [⟨(some 27), some undefA, none, false, .pu (.mov (.s 1))⟩,
      ⟨(some 28), some undefA, none, false, .pu (.mov (.s 7))⟩,
      ⟨(some 29), some undefA, none, false, .pu (.idx 1 (.s 27) (.s 28))⟩,
      ⟨(some 30), some undefA, none, true, .ld (.ld 1 false (.s 29))⟩,
      ⟨(some 31), some undefA, none, true, .pu (.badr none 2)⟩,
      ⟨(some 32), some undefA, none, true, .pu (.bget (some 31) 2 0 1 false)⟩,
      ⟨(some 33), some undefA, none, true, .pu (.bin .sub (.s 32) (.c (.int .i64 1)))⟩,
      ⟨(some 34), some undefA, none, false, .call 64 [(.s 30), (.c (.int .i64 (-1))), (.s 33)]⟩,
      ⟨(some 35), some undefA, none, false, .pu (.not (.s 34))⟩])
    (.cond (.s 35) (.seq (.ops [⟨(some 4), some undefA, none, false, .pu (.mov (.c (.int .i64 0)))⟩,
       ⟨(some 5), some undefA, none, false, .pu (.mov (.c (.int .i64 1)))⟩])
     (.ret))
    (.skip))))
   (.ops [⟨(some 25), some undefA, none, false, .pu (.mov (.s 7))⟩,
     ⟨(some 26), some undefA, none, false, .pu (.bin .add (.s 25) (.c (.int .i64 1)))⟩,
     ⟨(some 7), some undefA, none, false, .pu (.mov (.s 26))⟩]))))))
 (.seq (.seq (.ops [⟨(some 8), some undefA, none, false, .pu (.mov (.c (.int .i64 0)))⟩])
 (.block 2 (.loop (.seq (.seq (.ops [⟨(some 36), some undefA, none, false, .pu (.mov (.s 8))⟩,
     ⟨(some 37), some undefA, none, false, .pu (.mov (.s 1))⟩,
     ⟨(some 38), some undefA, none, false, .pu (.len (.s 37))⟩,
     ⟨(some 39), some undefA, none, false, .pu (.bin .lss (.s 36) (.s 38))⟩])
   (.cond (.s 39) (.skip)
   (.exit 2)))
   (.seq (.block 3 (.seq (.ops [⟨(some 42), some undefA, none, false, .pu (.mov (.s 1))⟩,
      ⟨(some 43), some undefA, none, false, .pu (.mov (.s 8))⟩,
      ⟨(some 44), some undefA, none, false, .pu (.idx 1 (.s 42) (.s 43))⟩,
      ⟨(some 45), some undefA, none, true, .ld (.ld 1 false (.s 44))⟩,
      ⟨(some 46), some undefA, none, false, .pu (.bin .geq (.s 45) (.c (.int .i64 0)))⟩,
      ⟨(some 47), some undefA, none, false, .pu (.mov (.s 46))⟩,
      ⟨(some 48), some undefA, (some (47, true)), true, .pu (.badr none 2)⟩,
      ⟨(some 49), some undefA, (some (47, true)), true, .pu (.bget (some 48) 2 1 1 false)⟩,
      ⟨(some 50), some undefA, (some (47, true)), true, .pu (.mov (.s 8))⟩,
      ⟨(some 51), some undefA, (some (47, true)), true, .pu (.idx 1 (.s 49) (.s 50))⟩,
      ⟨(some 52), some undefA, (some (47, true)), true, .ld (.ld 1 false (.s 51))⟩,
      ⟨(some 53), some undefA, (some (47, true)), true, .pu (.mov (.s 1))⟩,
      ⟨(some 54), some undefA, (some (47, true)), true, .pu (.mov (.s 8))⟩,
      ⟨(some 55), some undefA, (some (47, true)), true, .pu (.idx 1 (.s 53) (.s 54))⟩,
      ⟨(some 56), some undefA, (some (47, true)), true, .ld (.ld 1 false (.s 55))⟩,
      ⟨(some 57), some undefA, (some (47, true)), false, .call 65 [(.s 52), (.s 56)]⟩,
      ⟨(some 58), some undefA, (some (47, true)), false, .pu (.not (.s 57))⟩,
      ⟨(some 59), some undefA, none, false, .pu (.pick (.s 47) (.s 58) (.c (.bool false)))⟩])
    (.cond (.s 59) (.seq (.ops [⟨(some 4), some undefA, none, false, .pu (.mov (.c (.int .i64 0)))⟩,
       ⟨(some 5), some undefA, none, false, .pu (.mov (.c (.int .i64 8)))⟩])
     (.ret))
    (.skip))))
   (.ops [⟨(some 40), some undefA, none, false, .pu (.mov (.s 8))⟩,
     ⟨(some 41), some undefA, none, false, .pu (.bin .add (.s 40) (.c (.int .i64 1)))⟩,
     ⟨(some 8), some undefA, none, false, .pu (.mov (.s 41))⟩]))))))
 (.seq (.seq (.ops [⟨(some 9), some undefA, none, false, .pu (.mov (.c (.int .i64 0)))⟩])
 (.block 4 (.loop (.seq (.seq (.ops [⟨(some 60), some undefA, none, false, .pu (.mov (.s 9))⟩,
     ⟨(some 61), some undefA, none, false, .pu (.mov (.s 1))⟩,
     ⟨(some 62), some undefA, none, false, .pu (.len (.s 61))⟩,
     ⟨(some 63), some undefA, none, false, .pu (.bin .lss (.s 60) (.s 62))⟩])
   (.cond (.s 63) (.skip)
   (.exit 4)))
   (.seq (.block 5 (.seq (.ops [⟨(some 66), some undefA, none, false, .pu (.mov (.s 1))⟩,
      ⟨(some 67), some undefA, none, false, .pu (.mov (.s 9))⟩,
      ⟨(some 68), some undefA, none, false, .pu (.idx 1 (.s 66) (.s 67))⟩,
      ⟨(some 69), some undefA, none, true, .ld (.ld 1 false (.s 68))⟩,
      ⟨(some 70), some undefA, none, false, .pu (.bin .geq (.s 69) (.c (.int .i64 0)))⟩,
      ⟨(some 71), some undefA, none, false, .pu (.mov (.s 70))⟩,
      ⟨(some 72), some undefA, (some (71, true)), true, .pu (.mov (.s 1))⟩,
      ⟨(some 73), some undefA, (some (71, true)), true, .pu (.mov (.s 9))⟩,
      ⟨(some 74), some undefA, (some (71, true)), true, .pu (.slc 1 (.s 72) none (some (.s 73)) none)⟩,
      ⟨(some 75), some undefA, (some (71, true)), false, .pu (.mov (.s 1))⟩,
      ⟨(some 76), some undefA, (some (71, true)), false, .pu (.mov (.s 9))⟩,
      ⟨(some 77), some undefA, (some (71, true)), false, .pu (.idx 1 (.s 75) (.s 76))⟩,
      ⟨(some 78), some undefA, (some (71, true)), true, .ld (.ld 1 false (.s 77))⟩,
      ⟨(some 79), some undefA, (some (71, true)), false, .call 65 [(.s 74), (.s 78)]⟩,
      ⟨(some 80), some undefA, none, false, .pu (.pick (.s 71) (.s 79) (.c (.bool false)))⟩])
    (.cond (.s 80) (.seq (.ops [⟨(some 4), some undefA, none, false, .pu (.mov (.c (.int .i64 0)))⟩,
       ⟨(some 5), some undefA, none, false, .pu (.mov (.c (.int .i64 6)))⟩])
     (.ret))
    (.skip))))
   (.ops [⟨(some 64), some undefA, none, false, .pu (.mov (.s 9))⟩,
     ⟨(some 65), some undefA, none, false, .pu (.bin .add (.s 64) (.c (.int .i64 1)))⟩,
     ⟨(some 9), some undefA, none, false, .pu (.mov (.s 65))⟩]))))))
 (.seq (.ops [⟨(some 81), some undefA, none, false, .pu (.mov (.s 1))⟩,
   ⟨(some 82), some undefA, none, false, .call 66 [(.s 81)]⟩,
   ⟨(some 4), some undefA, none, false, .pu (.mov (.s 82))⟩,
   ⟨(some 5), some undefA, none, false, .pu (.mov (.c (.int .i64 0)))⟩])
 (.ret)))))))⟩
theorem t27 : trF Try.prog [2] [] Try.f27 = some m27 := by kernel_rfl

/-- selion/selionref07.Copy [] -/
def m28 : MFun := ⟨9, [1, 2], [.bget none 2 0 2 true],
 .seq (.ops [⟨(some 1), some (.junk), none, false, .pu (.bnew (.s 0))⟩,
   ⟨(some 2), some (.junk), none, false, .pu (.bnew (.c (.agg [.int .i64 0, .nilS])))⟩])
 (.seq (.ops [⟨(some 3), some undefA, none, false, .pu (.badr none 1)⟩,
   ⟨(some 4), some undefA, none, false, .pu (.bget (some 3) 1 0 1 false)⟩,
   ⟨(some 5), some undefA, none, false, .pu (.badr none 1)⟩,
   ⟨(some 6), some undefA, none, false, .pu (.bget (some 5) 1 1 1 false)⟩,
   ⟨(some 7), some undefA, none, false, .call 67 [(.s 6)]⟩,
   ⟨(some 8), some undefA, none, false, .pu (.build [.int .i64 0, .nilS] [(0, 1, (.s 4)), (1, 1, (.s 7))])⟩,
   ⟨(some 2), none, none, false, .pu (.bset none 2 0 2 (.s 8))⟩])
 (.ret))⟩
theorem t28 : trF Try.prog [1, 2] [] Try.f28 = some m28 := by kernel_rfl

/-- selion/wish.Turn [loop [2, 5, 29, 30, 31], loop [2, 5, 6, 29, 30, 31, 36, 37, 38]] -/
def m29 : MFun := ⟨57, [1, 2, 5], [.bget none 2 0 2 true, .mov (.s 3)],
 .seq (.ops [⟨(some 1), some (.junk), none, false, .pu (.bnew (.s 0))⟩,
   ⟨(some 2), some (.junk), none, false, .pu (.bnew (.c (.agg [.int .i64 0, .nilS])))⟩,
   ⟨(some 3), some undefA, none, false, .pu (.mov (.c (.int .i64 0)))⟩])
 (.seq (.seq (.ops [⟨(some 10), some undefA, none, false, .pu (.bget none 1 0 2 true)⟩,
   ⟨(some 11), some undefA, none, false, .call 39 [(.s 10)]⟩,
   ⟨(some 4), some undefA, none, false, .pu (.mov (.s 11))⟩])
 (.seq (.ops [⟨(some 12), some undefA, none, false, .pu (.mov (.s 4))⟩,
   ⟨(some 13), some undefA, none, false, .pu (.bin .neq (.s 12) (.c (.int .i64 0)))⟩])
 (.cond (.s 13) (.seq (.ops [⟨(some 14), some undefA, none, false, .pu (.build [.int .i64 0, .nilS] [])⟩,
    ⟨(some 15), some undefA, none, false, .pu (.mov (.s 4))⟩,
    ⟨(some 2), none, none, false, .pu (.bset none 2 0 2 (.s 14))⟩,
    ⟨(some 3), some undefA, none, false, .pu (.mov (.s 15))⟩])
  (.ret))
 (.skip))))
 (.seq (.seq (.ops [⟨(some 16), some undefA, none, false, .pu (.badr none 1)⟩,
   ⟨(some 17), some undefA, none, false, .pu (.bget (some 16) 1 1 1 false)⟩,
   ⟨(some 18), some undefA, none, false, .pu (.len (.s 17))⟩,
   ⟨(some 19), some undefA, none, false, .pu (.bin .eql (.s 18) (.c (.int .i64 0)))⟩])
 (.cond (.s 19) (.seq (.ops [⟨(some 20), some undefA, none, false, .pu (.build [.int .i64 0, .nilS] [])⟩,
    ⟨(some 2), none, none, false, .pu (.bset none 2 0 2 (.s 20))⟩,
    ⟨(some 3), some undefA, none, false, .pu (.mov (.c (.int .i64 1)))⟩])
  (.ret))
 (.skip)))
 (.seq (.ops [⟨(some 21), some undefA, none, false, .pu (.badr none 1)⟩,
   ⟨(some 22), some undefA, none, false, .pu (.bget (some 21) 1 1 1 false)⟩,
   ⟨(some 23), some undefA, none, false, .pu (.len (.s 22))⟩,
   ⟨(some 24), some undefA, none, false, .pu (.badr none 1)⟩,
   ⟨(some 25), some undefA, none, false, .pu (.bget (some 24) 1 0 1 false)⟩,
   ⟨(some 26), some undefA, none, false, .ha (.mks 1 [.nilS] (.s 25) (.s 25))⟩,
   ⟨(some 27), some undefA, none, false, .pu (.build [.int .i64 0, .nilS] [(0, 1, (.s 23)), (1, 1, (.s 26))])⟩,
   ⟨(some 5), some (.junk), none, false, .pu (.bnew (.c (.agg [.int .i64 0, .nilS])))⟩,
   ⟨(some 5), none, none, false, .pu (.bset none 5 0 2 (.s 27))⟩])
 (.seq (.seq (.ops [⟨(some 28), some undefA, none, false, .pu (.badr none 1)⟩,
   ⟨(some 29), some undefA, none, false, .pu (.bget (some 28) 1 1 1 false)⟩,
   ⟨(some 30), some undefA, none, false, .pu (.len (.s 29))⟩,
   ⟨(some 31), some undefA, none, false, .pu (.mov (.c (.int .i64 0)))⟩])
 (.block 0 (.loop (.seq (.ops [⟨(some 32), some undefA, none, false, .pu (.bin .lss (.s 31) (.s 30))⟩])
   (.seq (.cond (.s 32) (.skip)
   (.exit 0))
   (.seq (.block 1 (.seq (.ops [⟨(some 33), some undefA, none, false, .pu (.mov (.s 31))⟩,
      ⟨(some 34), some undefA, none, false, .pu (.idx 1 (.s 29) (.s 31))⟩,
      ⟨(some 35), some undefA, none, false, .ld (.ld 1 false (.s 34))⟩,
      ⟨(some 6), some undefA, none, false, .pu (.mov (.s 33))⟩,
      ⟨(some 7), some undefA, none, false, .pu (.mov (.s 35))⟩])
    (.seq (.ops [⟨(some 36), some undefA, none, false, .pu (.mov (.s 7))⟩,
      ⟨(some 37), some undefA, none, false, .pu (.len (.s 36))⟩,
      ⟨(some 38), some undefA, none, false, .pu (.mov (.c (.int .i64 0)))⟩])
    (.block 2 (.loop (.seq (.ops [⟨(some 39), some undefA, none, false, .pu (.bin .lss (.s 38) (.s 37))⟩])
      (.seq (.cond (.s 39) (.skip)
      (.exit 2))
      (.seq (.block 3 (.seq (.ops [⟨(some 40), some undefA, none, false, .pu (.idx 1 (.s 36) (.s 38))⟩,
         ⟨(some 41), some undefA, none, false, .ld (.ld 1 false (.s 40))⟩,
         ⟨(some 9), some undefA, none, false, .pu (.mov (.s 41))⟩])
       (.ops [⟨(some 42), some undefA, none, true, .pu (.badr none 5)⟩,
         ⟨(some 43), some undefA, none, true, .pu (.bget (some 42) 5 1 1 false)⟩,
         ⟨(some 44), some undefA, none, true, .pu (.mov (.s 9))⟩,
         ⟨(some 45), some undefA, none, false, .pu (.badr none 5)⟩,
         ⟨(some 46), some undefA, none, false, .pu (.bget (some 45) 5 1 1 false)⟩,
         ⟨(some 47), some undefA, none, false, .pu (.mov (.s 9))⟩,
         ⟨(some 48), some undefA, none, false, .pu (.idx 1 (.s 46) (.s 47))⟩,
         ⟨(some 49), some undefA, none, true, .ld (.ld 1 false (.s 48))⟩,
         ⟨(some 50), some undefA, none, true, .pu (.mov (.s 6))⟩,
         ⟨(some 51), some undefA, none, true, .ha (.blds 1 1 [.int .i64 0] [(0, 1, (.s 50))])⟩,
         ⟨(some 52), some undefA, none, false, .ha (.app 1 (.s 49) (.s 51))⟩,
         ⟨(some 53), some undefA, none, false, .pu (.idx 1 (.s 43) (.s 44))⟩,
         ⟨none, some undefA, none, false, .ha (.st 1 (.s 53) (.s 52))⟩])))
      (.ops [⟨(some 54), some undefA, none, false, .pu (.bin .add (.s 38) (.c (.int .i64 1)))⟩,
        ⟨(some 38), some undefA, none, false, .pu (.mov (.s 54))⟩])))))))))
   (.ops [⟨(some 55), some undefA, none, false, .pu (.bin .add (.s 31) (.c (.int .i64 1)))⟩,
     ⟨(some 31), some undefA, none, false, .pu (.mov (.s 55))⟩])))))))
 (.seq (.ops [⟨(some 56), some undefA, none, false, .pu (.bget none 5 0 2 true)⟩,
   ⟨(some 2), none, none, false, .pu (.bset none 2 0 2 (.s 56))⟩,
   ⟨(some 3), some undefA, none, false, .pu (.mov (.c (.int .i64 0)))⟩])
 (.ret))))))⟩
theorem t29 : trF Try.prog [1, 2, 5] [] Try.f29 = some m29 := by kernel_rfl

/-- selion/selionref07.Turn [loop [1, 2, 5, 6], loop [1, 2, 5, 6, 7, 8]] -/
def m30 : MFun := ⟨55, [1, 2, 5], [.bget none 2 0 2 true, .mov (.s 3)],
 .seq (.ops [⟨(some 1), some (.junk), none, false, .pu (.bnew (.s 0))⟩,
   ⟨(some 2), some (.junk), none, false, .pu (.bnew (.c (.agg [.int .i64 0, .nilS])))⟩,
   ⟨(some 3), some undefA, none, false, .pu (.mov (.c (.int .i64 0)))⟩])
 (.seq (.seq (.ops [⟨(some 9), some undefA, none, false, .pu (.bget none 1 0 2 true)⟩,
   ⟨(some 10), some undefA, none, false, .call 40 [(.s 9)]⟩,
   ⟨(some 4), some undefA, none, false, .pu (.mov (.s 10))⟩])
 (.seq (.ops [⟨(some 11), some undefA, none, false, .pu (.mov (.s 4))⟩,
   ⟨(some 12), some undefA, none, false, .pu (.bin .neq (.s 11) (.c (.int .i64 0)))⟩])
 (.cond (.s 12) (.seq (.ops [⟨(some 13), some undefA, none, false, .pu (.build [.int .i64 0, .nilS] [])⟩,
    ⟨(some 14), some undefA, none, false, .pu (.mov (.s 4))⟩,
    ⟨(some 2), none, none, false, .pu (.bset none 2 0 2 (.s 13))⟩,
    ⟨(some 3), some undefA, none, false, .pu (.mov (.s 14))⟩])
  (.ret))
 (.skip))))
 (.seq (.seq (.ops [⟨(some 15), some undefA, none, false, .pu (.badr none 1)⟩,
   ⟨(some 16), some undefA, none, false, .pu (.bget (some 15) 1 1 1 false)⟩,
   ⟨(some 17), some undefA, none, false, .pu (.len (.s 16))⟩,
   ⟨(some 18), some undefA, none, false, .pu (.bin .eql (.s 17) (.c (.int .i64 0)))⟩])
 (.cond (.s 18) (.seq (.ops [⟨(some 19), some undefA, none, false, .pu (.build [.int .i64 0, .nilS] [])⟩,
    ⟨(some 2), none, none, false, .pu (.bset none 2 0 2 (.s 19))⟩,
    ⟨(some 3), some undefA, none, false, .pu (.mov (.c (.int .i64 1)))⟩])
  (.ret))
 (.skip)))
 (.seq (.ops [⟨(some 20), some undefA, none, false, .pu (.badr none 1)⟩,
   ⟨(some 21), some undefA, none, false, .pu (.bget (some 20) 1 1 1 false)⟩,
   ⟨(some 22), some undefA, none, false, .pu (.len (.s 21))⟩,
   ⟨(some 23), some undefA, none, false, .pu (.build [.int .i64 0, .nilS] [(0, 1, (.s 22))])⟩,
   ⟨(some 5), some (.junk), none, false, .pu (.bnew (.c (.agg [.int .i64 0, .nilS])))⟩,
   ⟨(some 5), none, none, false, .pu (.bset none 5 0 2 (.s 23))⟩])
 (.seq (.seq (.ops [⟨(some 6), some undefA, none, false, .pu (.mov (.c (.int .i64 0)))⟩])
 (.block 0 (.loop (.seq (.seq (.ops [⟨(some 24), some undefA, none, false, .pu (.mov (.s 6))⟩,
     ⟨(some 25), some undefA, none, false, .pu (.badr none 1)⟩,
     ⟨(some 26), some undefA, none, false, .pu (.bget (some 25) 1 0 1 false)⟩,
     ⟨(some 27), some undefA, none, false, .pu (.bin .lss (.s 24) (.s 26))⟩])
   (.cond (.s 27) (.skip)
   (.exit 0)))
   (.seq (.block 1 (.seq (.ops [⟨(some 7), some undefA, none, false, .pu (.mov (.c (.nilS)))⟩])
    (.seq (.seq (.ops [⟨(some 8), some undefA, none, false, .pu (.mov (.c (.int .i64 0)))⟩])
    (.block 2 (.loop (.seq (.seq (.ops [⟨(some 30), some undefA, none, false, .pu (.mov (.s 8))⟩,
        ⟨(some 31), some undefA, none, false, .pu (.badr none 1)⟩,
        ⟨(some 32), some undefA, none, false, .pu (.bget (some 31) 1 1 1 false)⟩,
        ⟨(some 33), some undefA, none, false, .pu (.len (.s 32))⟩,
        ⟨(some 34), some undefA, none, false, .pu (.bin .lss (.s 30) (.s 33))⟩])
      (.cond (.s 34) (.skip)
      (.exit 2)))
      (.seq (.block 3 (.seq (.ops [⟨(some 37), some undefA, none, false, .pu (.badr none 1)⟩,
         ⟨(some 38), some undefA, none, false, .pu (.bget (some 37) 1 1 1 false)⟩,
         ⟨(some 39), some undefA, none, false, .pu (.mov (.s 8))⟩,
         ⟨(some 40), some undefA, none, false, .pu (.idx 1 (.s 38) (.s 39))⟩,
         ⟨(some 41), some undefA, none, false, .ld (.ld 1 false (.s 40))⟩,
         ⟨(some 42), some undefA, none, false, .pu (.mov (.s 6))⟩,
         ⟨(some 43), some undefA, none, false, .call 65 [(.s 41), (.s 42)]⟩])
       (.cond (.s 43) (.ops [⟨(some 44), some undefA, none, false, .pu (.mov (.s 7))⟩,
          ⟨(some 45), some undefA, none, false, .pu (.mov (.s 8))⟩,
          ⟨(some 46), some undefA, none, false, .ha (.blds 1 1 [.int .i64 0] [(0, 1, (.s 45))])⟩,
          ⟨(some 47), some undefA, none, false, .ha (.app 1 (.s 44) (.s 46))⟩,
          ⟨(some 7), some undefA, none, false, .pu (.mov (.s 47))⟩])
       (.skip))))
      (.ops [⟨(some 35), some undefA, none, false, .pu (.mov (.s 8))⟩,
        ⟨(some 36), some undefA, none, false, .pu (.bin .add (.s 35) (.c (.int .i64 1)))⟩,
        ⟨(some 8), some undefA, none, false, .pu (.mov (.s 36))⟩]))))))
    (.ops [⟨(some 48), some undefA, none, false, .pu (.badr none 5)⟩,
      ⟨(some 49), some undefA, none, false, .pu (.bget (some 48) 5 1 1 false)⟩,
      ⟨(some 50), some undefA, none, false, .pu (.mov (.s 7))⟩,
      ⟨(some 51), some undefA, none, false, .ha (.blds 1 1 [.nilS] [(0, 1, (.s 50))])⟩,
      ⟨(some 52), some undefA, none, false, .ha (.app 1 (.s 49) (.s 51))⟩,
      ⟨(some 53), some undefA, none, false, .pu (.badr none 5)⟩,
      ⟨(some 5), none, none, false, .pu (.bset (some 53) 5 1 1 (.s 52))⟩]))))
   (.ops [⟨(some 28), some undefA, none, false, .pu (.mov (.s 6))⟩,
     ⟨(some 29), some undefA, none, false, .pu (.bin .add (.s 28) (.c (.int .i64 1)))⟩,
     ⟨(some 6), some undefA, none, false, .pu (.mov (.s 29))⟩]))))))
 (.seq (.ops [⟨(some 54), some undefA, none, false, .pu (.bget none 5 0 2 true)⟩,
   ⟨(some 2), none, none, false, .pu (.bset none 2 0 2 (.s 54))⟩,
   ⟨(some 3), some undefA, none, false, .pu (.mov (.c (.int .i64 0)))⟩])
 (.ret))))))⟩
theorem t30 : trF Try.prog [1, 2, 5] [] Try.f30 = some m30 := by kernel_rfl

/-- selion/selionref07.Same [] -/
def m31 : MFun := ⟨17, [2, 3], [.mov (.s 4)],
 .seq (.ops [⟨(some 2), some (.junk), none, false, .pu (.bnew (.s 0))⟩,
   ⟨(some 3), some (.junk), none, false, .pu (.bnew (.s 1))⟩,
   ⟨(some 4), some undefA, none, false, .pu (.mov (.c (.bool false)))⟩])
 (.seq (.ops [⟨(some 5), some undefA, none, false, .pu (.badr none 2)⟩,
   ⟨(some 6), some undefA, none, false, .pu (.bget (some 5) 2 0 1 false)⟩,
   ⟨(some 7), some undefA, none, false, .pu (.badr none 3)⟩,
   ⟨(some 8), some undefA, none, false, .pu (.bget (some 7) 3 0 1 false)⟩,
   ⟨(some 9), some undefA, none, false, .pu (.bin .eql (.s 6) (.s 8))⟩,
   ⟨(some 10), some undefA, none, false, .pu (.mov (.s 9))⟩,
   ⟨(some 11), some undefA, (some (10, true)), false, .pu (.badr none 2)⟩,
   ⟨(some 12), some undefA, (some (10, true)), false, .pu (.bget (some 11) 2 1 1 false)⟩,
   ⟨(some 13), some undefA, (some (10, true)), false, .pu (.badr none 3)⟩,
   ⟨(some 14), some undefA, (some (10, true)), false, .pu (.bget (some 13) 3 1 1 false)⟩,
   ⟨(some 15), some undefA, (some (10, true)), false, .call 68 [(.s 12), (.s 14)]⟩,
   ⟨(some 16), some undefA, none, false, .pu (.pick (.s 10) (.s 15) (.c (.bool false)))⟩,
   ⟨(some 4), some undefA, none, false, .pu (.mov (.s 16))⟩])
 (.ret))⟩
theorem t31 : trF Try.prog [2, 3] [] Try.f31 = some m31 := by kernel_rfl

/-- selion/selionlaw07.many [] -/
def m32 : MFun := ⟨6, [], [.mov (.s 2)],
 .seq (.ops [⟨(some 2), some undefA, none, false, .pu (.mov (.c (.bool false)))⟩])
 (.seq (.ops [⟨(some 3), some undefA, none, false, .pu (.mov (.s 0))⟩,
   ⟨(some 4), some undefA, none, false, .pu (.len (.s 3))⟩,
   ⟨(some 5), some undefA, none, false, .pu (.bin .gtr (.s 4) (.c (.int .i64 40)))⟩,
   ⟨(some 2), some undefA, none, false, .pu (.mov (.s 5))⟩])
 (.ret))⟩
theorem t32 : trF Try.prog [] [] Try.f32 = some m32 := by kernel_rfl

/-- selion/wish.CheckGiving [loop [1, 2, 27, 28, 29], loop [1, 47, 48, 49]] -/
def m33 : MFun := ⟨66, [], [.mov (.s 4), .mov (.s 5)],
 .seq (.ops [⟨(some 2), some undefA, none, false, .ha (.newv (.s 0))⟩,
   ⟨(some 4), some undefA, none, false, .pu (.mov (.c (.int .i64 0)))⟩,
   ⟨(some 5), some undefA, none, false, .pu (.mov (.c (.int .i64 0)))⟩])
 (.seq (.seq (.ops [⟨(some 11), some undefA, none, false, .ld (.ld 2 true (.s 2))⟩,
   ⟨(some 12), some undefA, none, false, .call 39 [(.s 11)]⟩,
   ⟨(some 6), some undefA, none, false, .pu (.mov (.s 12))⟩])
 (.seq (.ops [⟨(some 13), some undefA, none, false, .pu (.mov (.s 6))⟩,
   ⟨(some 14), some undefA, none, false, .pu (.bin .neq (.s 13) (.c (.int .i64 0)))⟩])
 (.cond (.s 14) (.seq (.ops [⟨(some 15), some undefA, none, false, .pu (.mov (.s 6))⟩,
    ⟨(some 4), some undefA, none, false, .pu (.mov (.c (.int .i64 0)))⟩,
    ⟨(some 5), some undefA, none, false, .pu (.mov (.s 15))⟩])
  (.ret))
 (.skip))))
 (.seq (.seq (.ops [⟨(some 16), some undefA, none, false, .pu (.mov (.s 1))⟩,
   ⟨(some 17), some undefA, none, false, .pu (.len (.s 16))⟩,
   ⟨(some 18), some undefA, none, false, .pu (.fad 1 (.s 2))⟩,
   ⟨(some 19), some undefA, none, false, .ld (.ld 1 false (.s 18))⟩,
   ⟨(some 20), some undefA, none, false, .pu (.len (.s 19))⟩,
   ⟨(some 21), some undefA, none, false, .pu (.bin .neq (.s 17) (.s 20))⟩,
   ⟨(some 22), some undefA, none, false, .pu (.mov (.s 21))⟩,
   ⟨(some 23), some undefA, (some (22, false)), false, .pu (.mov (.s 1))⟩,
   ⟨(some 24), some undefA, (some (22, false)), false, .pu (.mkf 70 [(.s 2)])⟩,
   ⟨(some 25), some undefA, (some (22, false)), false, .call 69 [(.s 23), (.s 24)]⟩,
   ⟨(some 26), some undefA, none, false, .pu (.pick (.s 22) (.c (.bool true)) (.s 25))⟩])
 (.cond (.s 26) (.seq (.ops [⟨(some 4), some undefA, none, false, .pu (.mov (.c (.int .i64 0)))⟩,
    ⟨(some 5), some undefA, none, false, .pu (.mov (.c (.int .i64 1)))⟩])
  (.ret))
 (.skip)))
 (.seq (.seq (.ops [⟨(some 27), some undefA, none, false, .pu (.mov (.s 1))⟩,
   ⟨(some 28), some undefA, none, false, .pu (.len (.s 27))⟩,
   ⟨(some 29), some undefA, none, false, .pu (.mov (.c (.int .i64 0)))⟩])
 (.block 0 (.loop (.seq (.ops [⟨(some 30), some undefA, none, false, .pu (.bin .lss (.s 29) (.s 28))⟩])
   (.seq (.cond (.s 30) (.skip)
   (.exit 0))
   (.seq (.block 1 (.seq (.ops [⟨(some 31), some undefA, none, false, .pu (.mov (.s 29))⟩,
      ⟨(some 32), some undefA, none, false, .pu (.idx 1 (.s 27) (.s 29))⟩,
      ⟨(some 33), some undefA, none, false, .ld (.ld 1 false (.s 32))⟩,
      ⟨(some 7), some undefA, none, false, .pu (.mov (.s 31))⟩,
      ⟨(some 8), some undefA, none, false, .pu (.mov (.s 33))⟩])
    (.seq (.ops [⟨(some 34), some undefA, none, false, .pu (.mov (.s 8))⟩,
      ⟨(some 35), some undefA, none, false, .pu (.bin .geq (.s 34) (.c (.int .i64 0)))⟩,
      ⟨(some 36), some undefA, none, false, .pu (.mov (.s 35))⟩,
      ⟨(some 37), some undefA, (some (36, true)), false, .pu (.fad 1 (.s 2))⟩,
      ⟨(some 38), some undefA, (some (36, true)), false, .ld (.ld 1 false (.s 37))⟩,
      ⟨(some 39), some undefA, (some (36, true)), false, .pu (.mov (.s 7))⟩,
      ⟨(some 40), some undefA, (some (36, true)), false, .pu (.idx 1 (.s 38) (.s 39))⟩,
      ⟨(some 41), some undefA, (some (36, true)), false, .ld (.ld 1 false (.s 40))⟩,
      ⟨(some 42), some undefA, (some (36, true)), false, .pu (.mov (.s 8))⟩,
      ⟨(some 43), some undefA, (some (36, true)), false, .call 71 [(.s 41), (.s 42)]⟩,
      ⟨(some 44), some undefA, (some (36, true)), false, .pu (.not (.s 43))⟩,
      ⟨(some 45), some undefA, none, false, .pu (.pick (.s 36) (.s 44) (.c (.bool false)))⟩])
    (.cond (.s 45) (.seq (.ops [⟨(some 4), some undefA, none, false, .pu (.mov (.c (.int .i64 0)))⟩,
       ⟨(some 5), some undefA, none, false, .pu (.mov (.c (.int .i64 8)))⟩])
     (.ret))
    (.skip)))))
   (.ops [⟨(some 46), some undefA, none, false, .pu (.bin .add (.s 29) (.c (.int .i64 1)))⟩,
     ⟨(some 29), some undefA, none, false, .pu (.mov (.s 46))⟩])))))))
 (.seq (.seq (.ops [⟨(some 47), some undefA, none, false, .pu (.mov (.s 1))⟩,
   ⟨(some 48), some undefA, none, false, .pu (.len (.s 47))⟩,
   ⟨(some 49), some undefA, none, false, .pu (.mov (.c (.int .i64 0)))⟩])
 (.block 2 (.loop (.seq (.ops [⟨(some 50), some undefA, none, false, .pu (.bin .lss (.s 49) (.s 48))⟩])
   (.seq (.cond (.s 50) (.skip)
   (.exit 2))
   (.seq (.block 3 (.seq (.ops [⟨(some 51), some undefA, none, false, .pu (.mov (.s 49))⟩,
      ⟨(some 52), some undefA, none, false, .pu (.idx 1 (.s 47) (.s 49))⟩,
      ⟨(some 53), some undefA, none, false, .ld (.ld 1 false (.s 52))⟩,
      ⟨(some 9), some undefA, none, false, .pu (.mov (.s 51))⟩,
      ⟨(some 10), some undefA, none, false, .pu (.mov (.s 53))⟩])
    (.seq (.ops [⟨(some 54), some undefA, none, false, .pu (.mov (.s 10))⟩,
      ⟨(some 55), some undefA, none, false, .pu (.bin .geq (.s 54) (.c (.int .i64 0)))⟩,
      ⟨(some 56), some undefA, none, false, .pu (.mov (.s 55))⟩,
      ⟨(some 57), some undefA, (some (56, true)), false, .pu (.mov (.s 1))⟩,
      ⟨(some 58), some undefA, (some (56, true)), false, .pu (.mov (.s 9))⟩,
      ⟨(some 59), some undefA, (some (56, true)), false, .pu (.slc 1 (.s 57) none (some (.s 58)) none)⟩,
      ⟨(some 60), some undefA, (some (56, true)), false, .pu (.mov (.s 10))⟩,
      ⟨(some 61), some undefA, (some (56, true)), false, .call 71 [(.s 59), (.s 60)]⟩,
      ⟨(some 62), some undefA, none, false, .pu (.pick (.s 56) (.s 61) (.c (.bool false)))⟩])
    (.cond (.s 62) (.seq (.ops [⟨(some 4), some undefA, none, false, .pu (.mov (.c (.int .i64 0)))⟩,
       ⟨(some 5), some undefA, none, false, .pu (.mov (.c (.int .i64 6)))⟩])
     (.ret))
    (.skip)))))
   (.ops [⟨(some 63), some undefA, none, false, .pu (.bin .add (.s 49) (.c (.int .i64 1)))⟩,
     ⟨(some 49), some undefA, none, false, .pu (.mov (.s 63))⟩])))))))
 (.seq (.ops [⟨(some 64), some undefA, none, false, .pu (.mov (.s 1))⟩,
   ⟨(some 65), some undefA, none, false, .call 61 [(.s 64)]⟩,
   ⟨(some 4), some undefA, none, false, .pu (.mov (.s 65))⟩,
   ⟨(some 5), some undefA, none, false, .pu (.mov (.c (.int .i64 0)))⟩])
 (.ret))))))⟩
theorem t33 : trF Try.prog [] [] Try.f33 = some m33 := by kernel_rfl

/-- selion/wish.Without [loop [1, 4, 7, 39, 40, 41], loop [1, 4, 7, 9, 39, 40, 41, 45, 46, 47]] -/
def m34 : MFun := ⟨64, [2, 4, 7], [.bget none 4 0 2 true, .mov (.s 5)],
 .seq (.ops [⟨(some 2), some (.junk), none, false, .pu (.bnew (.s 0))⟩,
   ⟨(some 4), some (.junk), none, false, .pu (.bnew (.c (.agg [.int .i64 0, .nilS])))⟩,
   ⟨(some 5), some undefA, none, false, .pu (.mov (.c (.int .i64 0)))⟩])
 (.seq (.seq (.ops [⟨(some 12), some undefA, none, false, .pu (.bget none 2 0 2 true)⟩,
   ⟨(some 13), some undefA, none, false, .call 39 [(.s 12)]⟩,
   ⟨(some 6), some undefA, none, false, .pu (.mov (.s 13))⟩])
 (.seq (.ops [⟨(some 14), some undefA, none, false, .pu (.mov (.s 6))⟩,
   ⟨(some 15), some undefA, none, false, .pu (.bin .neq (.s 14) (.c (.int .i64 0)))⟩])
 (.cond (.s 15) (.seq (.ops [⟨(some 16), some undefA, none, false, .pu (.build [.int .i64 0, .nilS] [])⟩,
    ⟨(some 17), some undefA, none, false, .pu (.mov (.s 6))⟩,
    ⟨(some 4), none, none, false, .pu (.bset none 4 0 2 (.s 16))⟩,
    ⟨(some 5), some undefA, none, false, .pu (.mov (.s 17))⟩])
  (.ret))
 (.skip))))
 (.seq (.seq (.ops [⟨(some 18), some undefA, none, false, .pu (.mov (.s 1))⟩,
   ⟨(some 19), some undefA, none, false, .pu (.bin .lss (.s 18) (.c (.int .i64 0)))⟩,
   ⟨(some 20), some undefA, none, false, .pu (.mov (.s 19))⟩,
   ⟨(some 21), some undefA, (some (20, false)), false, .pu (.mov (.s 1))⟩,
   ⟨(some 22), some undefA, (some (20, false)), false, .pu (.badr none 2)⟩,
   ⟨(some 23), some undefA, (some (20, false)), false, .pu (.bget (some 22) 2 0 1 false)⟩,
   ⟨(some 24), some undefA, (some (20, false)), false, .pu (.bin .geq (.s 21) (.s 23))⟩,
   ⟨(some 25), some undefA, none, false, .pu (.pick (.s 20) (.c (.bool true)) (.s 24))⟩])
 (.cond (.s 25) (.seq (.ops [⟨(some 26), some undefA, none, false, .pu (.build [.int .i64 0, .nilS] [])⟩,
    ⟨(some 4), none, none, false, .pu (.bset none 4 0 2 (.s 26))⟩,
    ⟨(some 5), some undefA, none, false, .pu (.mov (.c (.int .i64 4)))⟩])
  (.ret))
 (.skip)))
 (.seq (.seq (.ops [⟨(some 27), some undefA, none, false, .pu (.badr none 2)⟩,
   ⟨(some 28), some undefA, none, false, .pu (.bget (some 27) 2 0 1 false)⟩,
   ⟨(some 29), some undefA, none, false, .pu (.bin .eql (.s 28) (.c (.int .i64 1)))⟩])
 (.cond (.s 29) (.seq (.ops [⟨(some 30), some undefA, none, false, .pu (.build [.int .i64 0, .nilS] [])⟩,
    ⟨(some 4), none, none, false, .pu (.bset none 4 0 2 (.s 30))⟩,
    ⟨(some 5), some undefA, none, false, .pu (.mov (.c (.int .i64 1)))⟩])
  (.ret))
 (.skip)))
 (.seq (.ops [⟨(some 31), some undefA, none, false, .pu (.bget none 2 0 2 true)⟩,
   ⟨(some 32), some undefA, none, false, .pu (.mov (.s 1))⟩,
   ⟨(some 33), some undefA, none, false, .call 59 [(.s 31), (.s 32)]⟩,
   ⟨(some 7), some (.junk), none, false, .pu (.bnew (.c (.agg [.int .i64 0, .nilS])))⟩,
   ⟨(some 7), none, none, false, .pu (.bset none 7 0 2 (.s 33))⟩])
 (.seq (.ops [⟨(some 34), some undefA, none, false, .pu (.badr none 7)⟩,
   ⟨(some 35), some undefA, none, false, .pu (.bget (some 34) 7 0 1 false)⟩,
   ⟨(some 36), some undefA, none, false, .pu (.bin .sub (.s 35) (.c (.int .i64 1)))⟩,
   ⟨(some 37), some undefA, none, false, .pu (.badr none 7)⟩,
   ⟨(some 7), none, none, false, .pu (.bset (some 37) 7 0 1 (.s 36))⟩])
 (.seq (.seq (.ops [⟨(some 38), some undefA, none, false, .pu (.badr none 7)⟩,
   ⟨(some 39), some undefA, none, false, .pu (.bget (some 38) 7 1 1 false)⟩,
   ⟨(some 40), some undefA, none, false, .pu (.len (.s 39))⟩,
   ⟨(some 41), some undefA, none, false, .pu (.mov (.c (.int .i64 0)))⟩])
 (.block 0 (.loop (.seq (.ops [⟨(some 42), some undefA, none, false, .pu (.bin .lss (.s 41) (.s 40))⟩])
   (.seq (.cond (.s 42) (.skip)
   (.exit 0))
   (.seq (.block 1 (.seq (.ops [⟨(some 43), some undefA, none, false, .pu (.idx 1 (.s 39) (.s 41))⟩,
      ⟨(some 44), some undefA, none, false, .ld (.ld 1 false (.s 43))⟩,
      ⟨(some 9), some undefA, none, false, .pu (.mov (.s 44))⟩])
    (.seq (.ops [⟨(some 45), some undefA, none, false, .pu (.mov (.s 9))⟩,
      ⟨(some 46), some undefA, none, false, .pu (.len (.s 45))⟩,
      ⟨(some 47), some undefA, none, false, .pu (.mov (.c (.int .i64 0)))⟩])
    (.block 2 (.loop (.seq (.ops [⟨(some 48), some undefA, none, false, .pu (.bin .lss (.s 47) (.s 46))⟩])
      (.seq (.cond (.s 48) (.skip)
      (.exit 2))
      (.seq (.block 3 (.seq (.ops [⟨(some 49), some undefA, none, false, .pu (.mov (.s 47))⟩,
         ⟨(some 50), some undefA, none, false, .pu (.idx 1 (.s 45) (.s 47))⟩,
         ⟨(some 51), some undefA, none, false, .ld (.ld 1 false (.s 50))⟩,
         ⟨(some 10), some undefA, none, false, .pu (.mov (.s 49))⟩,
         ⟨(some 11), some undefA, none, false, .pu (.mov (.s 51))⟩])
       (.seq (.ops [⟨(some 52), some undefA, none, false, .pu (.mov (.s 11))⟩,
         ⟨(some 53), some undefA, none, false, .pu (.mov (.s 1))⟩,
         ⟨(some 54), some undefA, none, false, .pu (.bin .gtr (.s 52) (.s 53))⟩])
       (.cond (.s 54) (.ops [⟨(some 55), some undefA, none, false, .pu (.mov (.s 9))⟩,
          ⟨(some 56), some undefA, none, false, .pu (.mov (.s 10))⟩,
          ⟨(some 57), some undefA, none, false, .pu (.idx 1 (.s 55) (.s 56))⟩,
          ⟨(some 58), some undefA, none, false, .ld (.ld 1 false (.s 57))⟩,
          ⟨(some 59), some undefA, none, false, .pu (.bin .sub (.s 58) (.c (.int .i64 1)))⟩,
          ⟨(some 60), some undefA, none, false, .pu (.idx 1 (.s 55) (.s 56))⟩,
          ⟨none, some undefA, none, false, .ha (.st 1 (.s 60) (.s 59))⟩])
       (.skip)))))
      (.ops [⟨(some 61), some undefA, none, false, .pu (.bin .add (.s 47) (.c (.int .i64 1)))⟩,
        ⟨(some 47), some undefA, none, false, .pu (.mov (.s 61))⟩])))))))))
   (.ops [⟨(some 62), some undefA, none, false, .pu (.bin .add (.s 41) (.c (.int .i64 1)))⟩,
     ⟨(some 41), some undefA, none, false, .pu (.mov (.s 62))⟩])))))))
 (.seq (.ops [⟨(some 63), some undefA, none, false, .pu (.bget none 7 0 2 true)⟩,
   ⟨(some 4), none, none, false, .pu (.bset none 4 0 2 (.s 63))⟩,
   ⟨(some 5), some undefA, none, false, .pu (.mov (.c (.int .i64 0)))⟩])
 (.ret))))))))⟩
theorem t34 : trF Try.prog [2, 4, 7] [] Try.f34 = some m34 := by kernel_rfl

/-- selion/selionref07.Without [loop [1, 2, 4, 7, 8], loop [1, 2, 4, 7, 8, 9, 10]] -/
def m35 : MFun := ⟨99, [2, 4, 7], [.bget none 4 0 2 true, .mov (.s 5)],
 .seq (.ops [⟨(some 2), some (.junk), none, false, .pu (.bnew (.s 0))⟩,
   ⟨(some 4), some (.junk), none, false, .pu (.bnew (.c (.agg [.int .i64 0, .nilS])))⟩,
   ⟨(some 5), some undefA, none, false, .pu (.mov (.c (.int .i64 0)))⟩])
 (.seq (.seq (.ops [⟨(some 11), some undefA, none, false, .pu (.bget none 2 0 2 true)⟩,
   ⟨(some 12), some undefA, none, false, .call 40 [(.s 11)]⟩,
   ⟨(some 6), some undefA, none, false, .pu (.mov (.s 12))⟩])
 (.seq (.ops [⟨(some 13), some undefA, none, false, .pu (.mov (.s 6))⟩,
   ⟨(some 14), some undefA, none, false, .pu (.bin .neq (.s 13) (.c (.int .i64 0)))⟩])
 (.cond (.s 14) (.seq (.ops [⟨(some 15), some undefA, none, false, .pu (.build [.int .i64 0, .nilS] [])⟩,
    ⟨(some 16), some undefA, none, false, .pu (.mov (.s 6))⟩,
    ⟨(some 4), none, none, false, .pu (.bset none 4 0 2 (.s 15))⟩,
    ⟨(some 5), some undefA, none, false, .pu (.mov (.s 16))⟩])
  (.ret))
 (.skip))))
 (.seq (.seq (.ops [⟨(some 17), some undefA, none, false, .pu (.mov (.s 1))⟩,
   ⟨(some 18), some undefA, none, false, .pu (.badr none 2)⟩,
   ⟨(some 19), some undefA, none, false, .pu (.bget (some 18) 2 0 1 false)⟩,
   ⟨(some 20), some undefA, none, false, .pu (.bin .sub (.s 19) (.c (.int .i64 1)))⟩,
   ⟨(some 21), some undefA, none, false, .call 64 [(.s 17), (.c (.int .i64 0)), (.s 20)]⟩,
   ⟨(some 22), some undefA, none, false, .pu (.not (.s 21))⟩])
 (.cond (.s 22) (.seq (.ops [⟨(some 23), some undefA, none, false, .pu (.build [.int .i64 0, .nilS] [])⟩,
    ⟨(some 4), none, none, false, .pu (.bset none 4 0 2 (.s 23))⟩,
    ⟨(some 5), some undefA, none, false, .pu (.mov (.c (.int .i64 4)))⟩])
  (.ret))
 (.skip)))
 (.seq (.seq (.ops [⟨(some 24), some undefA, none, false, .pu (.badr none 2)⟩,
   ⟨(some 25), some undefA, none, false, .pu (.bget (some 24) 2 0 1 false)⟩,
   ⟨(some 26), some undefA, none, false, .pu (.bin .eql (.s 25) (.c (.int .i64 1)))⟩])
 (.cond (.s 26) (.seq (.ops [⟨(some 27), some undefA, none, false, .pu (.build [.int .i64 0, .nilS] [])⟩,
    ⟨(some 4), none, none, false, .pu (.bset none 4 0 2 (.s 27))⟩,
    ⟨(some 5), some undefA, none, false, .pu (.mov (.c (.int .i64 1)))⟩])
  (.ret))
 (.skip)))
 (.seq (.ops [⟨(some 28), some undefA, none, false, .pu (.badr none 2)⟩,
   ⟨(some 29), some undefA, none, false, .pu (.bget (some 28) 2 0 1 false)⟩,
   ⟨(some 30), some undefA, none, false, .pu (.bin .sub (.s 29) (.c (.int .i64 1)))⟩,
   ⟨(some 31), some undefA, none, false, .pu (.build [.int .i64 0, .nilS] [(0, 1, (.s 30))])⟩,
   ⟨(some 7), some (.junk), none, false, .pu (.bnew (.c (.agg [.int .i64 0, .nilS])))⟩,
   ⟨(some 7), none, none, false, .pu (.bset none 7 0 2 (.s 31))⟩])
 (.seq (.seq (.ops [⟨(some 8), some undefA, none, false, .pu (.mov (.c (.int .i64 0)))⟩])
 (.block 0 (.loop (.seq (.seq (.ops [⟨(some 32), some undefA, none, false, .pu (.mov (.s 8))⟩,
     ⟨(some 33), some undefA, none, false, .pu (.badr none 2)⟩,
     ⟨(some 34), some undefA, none, false, .pu (.bget (some 33) 2 1 1 false)⟩,
     ⟨(some 35), some undefA, none, false, .pu (.len (.s 34))⟩,
     ⟨(some 36), some undefA, none, false, .pu (.bin .lss (.s 32) (.s 35))⟩])
   (.cond (.s 36) (.skip)
   (.exit 0)))
   (.seq (.block 1 (.seq (.ops [⟨(some 9), some undefA, none, false, .pu (.mov (.c (.nilS)))⟩])
    (.seq (.seq (.ops [⟨(some 10), some undefA, none, false, .pu (.mov (.c (.int .i64 0)))⟩])
    (.block 2 (.loop (.seq (.seq (.ops [⟨(some 39), some undefA, none, false, .pu (.mov (.s 10))⟩,
        ⟨(some 40), some undefA, none, false, .pu (.badr none 2)⟩,
        ⟨(some 41), some undefA, none, false, .pu (.bget (some 40) 2 1 1 false)⟩,
        ⟨(some 42), some undefA, none, false, .pu (.mov (.s 8))⟩,
        ⟨(some 43), some undefA, none, false, .pu (.idx 1 (.s 41) (.s 42))⟩,
        ⟨(some 44), some undefA, none, false, .ld (.ld 1 false (.s 43))⟩,
        ⟨(some 45), some undefA, none, false, .pu (.len (.s 44))⟩,
        ⟨(some 46), some undefA, none, false, .pu (.bin .lss (.s 39) (.s 45))⟩])
      (.cond (.s 46) (.skip)
      (.exit 2)))
      (.seq (.block 3 (.seq (.seq (.ops [⟨(some 49), some undefA, none, false, .pu (.badr none 2)⟩,
         ⟨(some 50), some undefA, none, false, .pu (.bget (some 49) 2 1 1 false)⟩,
         ⟨(some 51), some undefA, none, false, .pu (.mov (.s 8))⟩,
         ⟨(some 52), some undefA, none, false, .pu (.idx 1 (.s 50) (.s 51))⟩,
         ⟨(some 53), some undefA, none, false, .ld (.ld 1 false (.s 52))⟩,
         ⟨(some 54), some undefA, none, false, .pu (.mov (.s 10))⟩,
         ⟨(some 55), some undefA, none, false, .pu (.idx 1 (.s 53) (.s 54))⟩,
         ⟨(some 56), some undefA, none, false, .ld (.ld 1 false (.s 55))⟩,
         ⟨(some 57), some undefA, none, false, .pu (.mov (.s 1))⟩,
         ⟨(some 58), some undefA, none, false, .pu (.bin .lss (.s 56) (.s 57))⟩])
       (.cond (.s 58) (.ops [⟨(some 59), some undefA, none, false, .pu (.mov (.s 9))⟩,
          ⟨(some 60), some undefA, none, false, .pu (.badr none 2)⟩,
          ⟨(some 61), some undefA, none, false, .pu (.bget (some 60) 2 1 1 false)⟩,
          ⟨(some 62), some undefA, none, false, .pu (.mov (.s 8))⟩,
          ⟨(some 63), some undefA, none, false, .pu (.idx 1 (.s 61) (.s 62))⟩,
          ⟨(some 64), some undefA, none, false, .ld (.ld 1 false (.s 63))⟩,
          ⟨(some 65), some undefA, none, false, .pu (.mov (.s 10))⟩,
          ⟨(some 66), some undefA, none, false, .pu (.idx 1 (.s 64) (.s 65))⟩,
          ⟨(some 67), some undefA, none, false, .ld (.ld 1 false (.s 66))⟩,
          ⟨(some 68), some undefA, none, false, .ha (.blds 1 1 [.int .i64 0] [(0, 1, (.s 67))])⟩,
          ⟨(some 69), some undefA, none, false, .ha (.app 1 (.s 59) (.s 68))⟩,
          ⟨(some 9), some undefA, none, false, .pu (.mov (.s 69))⟩])
       (.skip)))
       (.seq (.ops [⟨(some 70), some undefA, none, false, .pu (.badr none 2)⟩,
         ⟨(some 71), some undefA, none, false, .pu (.bget (some 70) 2 1 1 false)⟩,
         ⟨(some 72), some undefA, none, false, .pu (.mov (.s 8))⟩,
         ⟨(some 73), some undefA, none, false, .pu (.idx 1 (.s 71) (.s 72))⟩,
         ⟨(some 74), some undefA, none, false, .ld (.ld 1 false (.s 73))⟩,
         ⟨(some 75), some undefA, none, false, .pu (.mov (.s 10))⟩,
         ⟨(some 76), some undefA, none, false, .pu (.idx 1 (.s 74) (.s 75))⟩,
         ⟨(some 77), some undefA, none, false, .ld (.ld 1 false (.s 76))⟩,
         ⟨(some 78), some undefA, none, false, .pu (.mov (.s 1))⟩,
         ⟨(some 79), some undefA, none, false, .pu (.bin .gtr (.s 77) (.s 78))⟩])
       (.cond (.s 79) (.ops [⟨(some 80), some undefA, none, false, .pu (.mov (.s 9))⟩,
          ⟨(some 81), some undefA, none, false, .pu (.badr none 2)⟩,
          ⟨(some 82), some undefA, none, false, .pu (.bget (some 81) 2 1 1 false)⟩,
          ⟨(some 83), some undefA, none, false, .pu (.mov (.s 8))⟩,
          ⟨(some 84), some undefA, none, false, .pu (.idx 1 (.s 82) (.s 83))⟩,
          ⟨(some 85), some undefA, none, false, .ld (.ld 1 false (.s 84))⟩,
          ⟨(some 86), some undefA, none, false, .pu (.mov (.s 10))⟩,
          ⟨(some 87), some undefA, none, false, .pu (.idx 1 (.s 85) (.s 86))⟩,
          ⟨(some 88), some undefA, none, false, .ld (.ld 1 false (.s 87))⟩,
          ⟨(some 89), some undefA, none, false, .pu (.bin .sub (.s 88) (.c (.int .i64 1)))⟩,
          ⟨(some 90), some undefA, none, false, .ha (.blds 1 1 [.int .i64 0] [(0, 1, (.s 89))])⟩,
          ⟨(some 91), some undefA, none, false, .ha (.app 1 (.s 80) (.s 90))⟩,
          ⟨(some 9), some undefA, none, false, .pu (.mov (.s 91))⟩])
       (.skip)))))
      (.ops [⟨(some 47), some undefA, none, false, .pu (.mov (.s 10))⟩,
        ⟨(some 48), some undefA, none, false, .pu (.bin .add (.s 47) (.c (.int .i64 1)))⟩,
        ⟨(some 10), some undefA, none, false, .pu (.mov (.s 48))⟩]))))))
    (.ops [⟨(some 92), some undefA, none, false, .pu (.badr none 7)⟩,
      ⟨(some 93), some undefA, none, false, .pu (.bget (some 92) 7 1 1 false)⟩,
      ⟨(some 94), some undefA, none, false, .pu (.mov (.s 9))⟩,
      ⟨(some 95), some undefA, none, false, .ha (.blds 1 1 [.nilS] [(0, 1, (.s 94))])⟩,
      ⟨(some 96), some undefA, none, false, .ha (.app 1 (.s 93) (.s 95))⟩,
      ⟨(some 97), some undefA, none, false, .pu (.badr none 7)⟩,
      ⟨(some 7), none, none, false, .pu (.bset (some 97) 7 1 1 (.s 96))⟩]))))
   (.ops [⟨(some 37), some undefA, none, false, .pu (.mov (.s 8))⟩,
     ⟨(some 38), some undefA, none, false, .pu (.bin .add (.s 37) (.c (.int .i64 1)))⟩,
     ⟨(some 8), some undefA, none, false, .pu (.mov (.s 38))⟩]))))))
 (.seq (.ops [⟨(some 98), some undefA, none, false, .pu (.bget none 7 0 2 true)⟩,
   ⟨(some 4), none, none, false, .pu (.bset none 4 0 2 (.s 98))⟩,
   ⟨(some 5), some undefA, none, false, .pu (.mov (.c (.int .i64 0)))⟩])
 (.ret)))))))⟩
theorem t35 : trF Try.prog [2, 4, 7] [] Try.f35 = some m35 := by kernel_rfl

/-- selion/wish.Better [] -/
def m36 : MFun := ⟨29, [2], [.mov (.s 4), .mov (.s 5), .mov (.s 6)],
 .seq (.ops [⟨(some 2), some (.junk), none, false, .pu (.bnew (.s 0))⟩,
   ⟨(some 4), some undefA, none, false, .pu (.mov (.c (.nilS)))⟩,
   ⟨(some 5), some undefA, none, false, .pu (.mov (.c (.bool false)))⟩,
   ⟨(some 6), some undefA, none, false, .pu (.mov (.c (.int .i64 0)))⟩])
 (.seq (.ops [⟨(some 11), some undefA, none, false, .pu (.bget none 2 0 2 true)⟩,
   ⟨(some 12), some undefA, none, false, .pu (.mov (.s 1))⟩,
   ⟨(some 13), some undefA, none, false, .call 33 [(.s 11), (.s 12)]⟩,
   ⟨(some 10), some undefA, none, false, .pu (.mov (.s 13))⟩,
   ⟨(some 14), some undefA, none, false, .pu (.extr 0 (.s 10))⟩,
   ⟨(some 15), some undefA, none, false, .pu (.extr 1 (.s 10))⟩,
   ⟨(some 7), some undefA, none, false, .pu (.mov (.s 14))⟩,
   ⟨(some 8), some undefA, none, false, .pu (.mov (.s 15))⟩])
 (.seq (.seq (.ops [⟨(some 16), some undefA, none, false, .pu (.mov (.s 8))⟩,
   ⟨(some 17), some undefA, none, false, .pu (.bin .neq (.s 16) (.c (.int .i64 0)))⟩])
 (.cond (.s 17) (.seq (.ops [⟨(some 18), some undefA, none, false, .pu (.mov (.s 8))⟩,
    ⟨(some 4), some undefA, none, false, .pu (.mov (.c (.nilS)))⟩,
    ⟨(some 5), some undefA, none, false, .pu (.mov (.c (.bool false)))⟩,
    ⟨(some 6), some undefA, none, false, .pu (.mov (.s 18))⟩])
  (.ret))
 (.skip)))
 (.seq (.ops [⟨(some 19), some undefA, none, false, .pu (.bget none 2 0 2 true)⟩,
   ⟨(some 20), some undefA, none, false, .pu (.mov (.s 1))⟩,
   ⟨(some 21), some undefA, none, false, .pu (.build [.int .i64 0, .nilS, .nilS] [(0, 2, (.s 19)), (2, 1, (.s 20))])⟩,
   ⟨(some 22), some undefA, none, false, .call 62 [(.s 21)]⟩,
   ⟨(some 23), some undefA, none, false, .pu (.part 2 1 false (.s 22))⟩,
   ⟨(some 9), some undefA, none, false, .pu (.mov (.s 23))⟩])
 (.seq (.seq (.ops [⟨(some 24), some undefA, none, false, .pu (.mov (.s 9))⟩,
   ⟨(some 25), some undefA, none, false, .call 61 [(.s 24)]⟩,
   ⟨(some 26), some undefA, none, false, .pu (.mov (.s 7))⟩,
   ⟨(some 27), some undefA, none, false, .pu (.bin .eql (.s 25) (.s 26))⟩])
 (.cond (.s 27) (.seq (.ops [⟨(some 4), some undefA, none, false, .pu (.mov (.c (.nilS)))⟩,
    ⟨(some 5), some undefA, none, false, .pu (.mov (.c (.bool false)))⟩,
    ⟨(some 6), some undefA, none, false, .pu (.mov (.c (.int .i64 0)))⟩])
  (.ret))
 (.skip)))
 (.seq (.ops [⟨(some 28), some undefA, none, false, .pu (.mov (.s 9))⟩,
   ⟨(some 4), some undefA, none, false, .pu (.mov (.s 28))⟩,
   ⟨(some 5), some undefA, none, false, .pu (.mov (.c (.bool true)))⟩,
   ⟨(some 6), some undefA, none, false, .pu (.mov (.c (.int .i64 0)))⟩])
 (.ret))))))⟩
theorem t36 : trF Try.prog [2] [] Try.f36 = some m36 := by kernel_rfl

/-- selion/wish.Count [] -/
def m37 : MFun := ⟨20, [2], [.mov (.s 4), .mov (.s 5)],
 .seq (.ops [⟨(some 2), some (.junk), none, false, .pu (.bnew (.s 0))⟩,
   ⟨(some 4), some undefA, none, false, .pu (.mov (.c (.nilS)))⟩,
   ⟨(some 5), some undefA, none, false, .pu (.mov (.c (.int .i64 0)))⟩])
 (.seq (.seq (.ops [⟨(some 9), some undefA, none, false, .pu (.bget none 2 0 2 true)⟩,
   ⟨(some 10), some undefA, none, false, .pu (.mov (.s 1))⟩,
   ⟨(some 11), some undefA, none, false, .call 33 [(.s 9), (.s 10)]⟩,
   ⟨(some 8), some undefA, none, false, .pu (.mov (.s 11))⟩,
   ⟨(some 12), some undefA, none, false, .pu (.extr 0 (.s 8))⟩,
   ⟨(some 13), some undefA, none, false, .pu (.extr 1 (.s 8))⟩,
   ⟨(some 6), some undefA, none, false, .pu (.mov (.s 12))⟩,
   ⟨(some 7), some undefA, none, false, .pu (.mov (.s 13))⟩])
 (.seq (.ops [⟨(some 14), some undefA, none, false, .pu (.mov (.s 7))⟩,
   ⟨(some 15), some undefA, none, false, .pu (.bin .neq (.s 14) (.c (.int .i64 0)))⟩])
 (.cond (.s 15) (.seq (.ops [⟨(some 16), some undefA, none, false, .pu (.mov (.s 7))⟩,
    ⟨(some 4), some undefA, none, false, .pu (.mov (.c (.nilS)))⟩,
    ⟨(some 5), some undefA, none, false, .pu (.mov (.s 16))⟩])
  (.ret))
 (.skip))))
 (.seq (.ops [⟨(some 17), some undefA, none, false, .pu (.bget none 2 0 2 true)⟩,
   ⟨(some 18), some undefA, none, false, .pu (.mov (.s 1))⟩,
   ⟨(some 19), some undefA, none, false, .call 72 [(.s 17), (.s 18)]⟩,
   ⟨(some 4), some undefA, none, false, .pu (.mov (.s 19))⟩,
   ⟨(some 5), some undefA, none, false, .pu (.mov (.c (.int .i64 0)))⟩])
 (.ret)))⟩
theorem t37 : trF Try.prog [2] [] Try.f37 = some m37 := by kernel_rfl

/-- selion/selionref07.Count [loop [1, 2, 8, 9], loop [1, 2, 8, 9, 10]] -/
def m38 : MFun := ⟨59, [2], [.mov (.s 4), .mov (.s 5)],
 .seq (.ops [⟨(some 2), some (.junk), none, false, .pu (.bnew (.s 0))⟩,
   ⟨(some 4), some undefA, none, false, .pu (.mov (.c (.nilS)))⟩,
   ⟨(some 5), some undefA, none, false, .pu (.mov (.c (.int .i64 0)))⟩])
 (.seq (.seq (.ops [⟨(some 12), some undefA, none, false, .pu (.bget none 2 0 2 true)⟩,
   ⟨(some 13), some undefA, none, false, .pu (.mov (.s 1))⟩,
   ⟨(some 14), some undefA, none, false, .call 27 [(.s 12), (.s 13)]⟩,
   ⟨(some 11), some undefA, none, false, .pu (.mov (.s 14))⟩,
   ⟨(some 15), some undefA, none, false, .pu (.extr 0 (.s 11))⟩,
   ⟨(some 16), some undefA, none, false, .pu (.extr 1 (.s 11))⟩,
   ⟨(some 6), some undefA, none, false, .pu (.mov (.s 15))⟩,
   ⟨(some 7), some undefA, none, false, .pu (.mov (.s 16))⟩])
 (.seq (.ops [⟨(some 17), some undefA, none, false, .pu (.mov (.s 7))⟩,
   ⟨(some 18), some undefA, none, false, .pu (.bin .neq (.s 17) (.c (.int .i64 0)))⟩])
 (.cond (.s 18) (.seq (.ops [⟨(some 19), some undefA, none, false, .pu (.mov (.s 7))⟩,
    ⟨(some 4), some undefA, none, false, .pu (.mov (.c (.nilS)))⟩,
    ⟨(some 5), some undefA, none, false, .pu (.mov (.s 19))⟩])
  (.ret))
 (.skip))))
 (.seq (.ops [⟨(some 20), some undefA, none, false, .pu (.badr none 2)⟩,
   ⟨(some 21), some undefA, none, false, .pu (.bget (some 20) 2 0 1 false)⟩,
   ⟨(some 22), some undefA, none, false, .ha (.mks 1 [.int .i64 0] (.s 21) (.s 21))⟩,
   ⟨(some 8), some undefA, none, false, .pu (.mov (.s 22))⟩])
 (.seq (.seq (.ops [⟨(some 9), some undefA, none, false, .pu (.mov (.c (.int .i64 0)))⟩])
 (.block 0 (.loop (.seq (.seq (.ops [⟨(some 23), some undefA, none, false, .pu (.mov (.s 9))⟩,
     ⟨(some 24), some undefA, none, false, .pu (.mov (.s 1))⟩,
     ⟨(some 25), some undefA, none, false, .pu (.len (.s 24))⟩,
     ⟨(some 26), some undefA, none, false, .pu (.bin .lss (.s 23) (.s 25))⟩])
   (.cond (.s 26) (.skip)
   (.exit 0)))
   (.seq (.block 1 (.seq (.ops [⟨(some 10), some undefA, none, false, .pu (.mov (.c (.int .i64 0)))⟩])
    (.block 2 (.loop (.seq (.seq (.ops [⟨(some 29), some undefA, none, false, .pu (.mov (.s 10))⟩,
        ⟨(some 30), some undefA, none, false, .pu (.badr none 2)⟩,
        ⟨(some 31), some undefA, none, false, .pu (.bget (some 30) 2 1 1 false)⟩,
        ⟨(some 32), some undefA, none, false, .pu (.mov (.s 9))⟩,
        ⟨(some 33), some undefA, none, false, .pu (.idx 1 (.s 31) (.s 32))⟩,
        ⟨(some 34), some undefA, none, false, .ld (.ld 1 false (.s 33))⟩,
        ⟨(some 35), some undefA, none, false, .pu (.len (.s 34))⟩,
        ⟨(some 36), some undefA, none, false, .pu (.bin .lss (.s 29) (.s 35))⟩])
      (.cond (.s 36) (.skip)
      (.exit 2)))
      (.seq (.block 3 (.seq (.ops [⟨(some 39), some undefA, none, true, .pu (.badr none 2)⟩,
         ⟨(some 40), some undefA, none, true, .pu (.bget (some 39) 2 1 1 false)⟩,
         ⟨(some 41), some undefA, none, true, .pu (.mov (.s 9))⟩,
         ⟨(some 42), some undefA, none, true, .pu (.idx 1 (.s 40) (.s 41))⟩,
         ⟨(some 43), some undefA, none, true, .ld (.ld 1 false (.s 42))⟩,
         ⟨(some 44), some undefA, none, true, .pu (.mov (.s 10))⟩,
         ⟨(some 45), some undefA, none, true, .pu (.idx 1 (.s 43) (.s 44))⟩,
         ⟨(some 46), some undefA, none, true, .ld (.ld 1 false (.s 45))⟩,
         ⟨(some 47), some undefA, none, true, .pu (.mov (.s 1))⟩,
         ⟨(some 48), some undefA, none, true, .pu (.mov (.s 9))⟩,
         ⟨(some 49), some undefA, none, true, .pu (.idx 1 (.s 47) (.s 48))⟩,
         ⟨(some 50), some undefA, none, true, .ld (.ld 1 false (.s 49))⟩,
         ⟨(some 51), some undefA, none, false, .pu (.bin .eql (.s 46) (.s 50))⟩])
       (.cond (.s 51) (.ops [⟨(some 52), some undefA, none, false, .pu (.mov (.s 8))⟩,
          ⟨(some 53), some undefA, none, false, .pu (.mov (.s 10))⟩,
          ⟨(some 54), some undefA, none, false, .pu (.idx 1 (.s 52) (.s 53))⟩,
          ⟨(some 55), some undefA, none, false, .ld (.ld 1 false (.s 54))⟩,
          ⟨(some 56), some undefA, none, false, .pu (.bin .add (.s 55) (.c (.int .i64 1)))⟩,
          ⟨(some 57), some undefA, none, false, .pu (.idx 1 (.s 52) (.s 53))⟩,
          ⟨none, some undefA, none, false, .ha (.st 1 (.s 57) (.s 56))⟩])
       (.skip))))
      (.ops [⟨(some 37), some undefA, none, false, .pu (.mov (.s 10))⟩,
        ⟨(some 38), some undefA, none, false, .pu (.bin .add (.s 37) (.c (.int .i64 1)))⟩,
        ⟨(some 10), some undefA, none, false, .pu (.mov (.s 38))⟩])))))))
   (.ops [⟨(some 27), some undefA, none, false, .pu (.mov (.s 9))⟩,
     ⟨(some 28), some undefA, none, false, .pu (.bin .add (.s 27) (.c (.int .i64 1)))⟩,
     ⟨(some 9), some undefA, none, false, .pu (.mov (.s 28))⟩]))))))
 (.seq (.ops [⟨(some 58), some undefA, none, false, .pu (.mov (.s 8))⟩,
   ⟨(some 4), some undefA, none, false, .pu (.mov (.s 58))⟩,
   ⟨(some 5), some undefA, none, false, .pu (.mov (.c (.int .i64 0)))⟩])
 (.ret)))))⟩
theorem t38 : trF Try.prog [2] [] Try.f38 = some m38 := by kernel_rfl

/-- selion/wish.Validate [loop [1, 20, 21, 22], loop [1, 4, 20, 21, 22, 31, 32, 33]] -/
def m39 : MFun := ⟨45, [1], [.mov (.s 2)],
 .seq (.ops [⟨(some 1), some (.junk), none, false, .pu (.bnew (.s 0))⟩,
   ⟨(some 2), some undefA, none, false, .pu (.mov (.c (.int .i64 0)))⟩])
 (.seq (.seq (.ops [⟨(some 7), some undefA, none, false, .pu (.badr none 1)⟩,
   ⟨(some 8), some undefA, none, false, .pu (.bget (some 7) 1 0 1 false)⟩,
   ⟨(some 9), some undefA, none, false, .pu (.bin .lss (.s 8) (.c (.int .i64 1)))⟩,
   ⟨(some 10), some undefA, none, false, .pu (.mov (.s 9))⟩,
   ⟨(some 11), some undefA, (some (10, false)), false, .pu (.badr none 1)⟩,
   ⟨(some 12), some undefA, (some (10, false)), false, .pu (.bget (some 11) 1 0 1 false)⟩,
   ⟨(some 13), some undefA, (some (10, false)), false, .pu (.bin .gtr (.s 12) (.c (.int .i64 7)))⟩,
   ⟨(some 14), some undefA, none, false, .pu (.pick (.s 10) (.c (.bool true)) (.s 13))⟩])
 (.cond (.s 14) (.seq (.ops [⟨(some 2), some undefA, none, false, .pu (.mov (.c (.int .i64 1)))⟩])
  (.ret))
 (.skip)))
 (.seq (.seq (.ops [⟨(some 15), some undefA, none, false, .pu (.badr none 1)⟩,
   ⟨(some 16), some undefA, none, false, .pu (.bget (some 15) 1 1 1 false)⟩,
   ⟨(some 17), some undefA, none, false, .pu (.len (.s 16))⟩,
   ⟨(some 18), some undefA, none, false, .pu (.bin .gtr (.s 17) (.c (.int .i64 7)))⟩])
 (.cond (.s 18) (.seq (.ops [⟨(some 2), some undefA, none, false, .pu (.mov (.c (.int .i64 3)))⟩])
  (.ret))
 (.skip)))
 (.seq (.seq (.ops [⟨(some 19), some undefA, none, false, .pu (.badr none 1)⟩,
   ⟨(some 20), some undefA, none, false, .pu (.bget (some 19) 1 1 1 false)⟩,
   ⟨(some 21), some undefA, none, false, .pu (.len (.s 20))⟩,
   ⟨(some 22), some undefA, none, false, .pu (.mov (.c (.int .i64 0)))⟩])
 (.block 0 (.loop (.seq (.ops [⟨(some 23), some undefA, none, false, .pu (.bin .lss (.s 22) (.s 21))⟩])
   (.seq (.cond (.s 23) (.skip)
   (.exit 0))
   (.seq (.block 1 (.seq (.ops [⟨(some 24), some undefA, none, false, .pu (.idx 1 (.s 20) (.s 22))⟩,
      ⟨(some 25), some undefA, none, false, .ld (.ld 1 false (.s 24))⟩,
      ⟨(some 4), some undefA, none, false, .pu (.mov (.s 25))⟩])
    (.seq (.seq (.ops [⟨(some 26), some undefA, none, false, .pu (.mov (.s 4))⟩,
      ⟨(some 27), some undefA, none, false, .pu (.badr none 1)⟩,
      ⟨(some 28), some undefA, none, false, .pu (.bget (some 27) 1 0 1 false)⟩,
      ⟨(some 29), some undefA, none, false, .call 73 [(.s 26), (.s 28)]⟩,
      ⟨(some 30), some undefA, none, false, .pu (.not (.s 29))⟩])
    (.cond (.s 30) (.seq (.ops [⟨(some 2), some undefA, none, false, .pu (.mov (.c (.int .i64 1)))⟩])
     (.ret))
    (.skip)))
    (.seq (.ops [⟨(some 31), some undefA, none, false, .pu (.mov (.s 4))⟩,
      ⟨(some 32), some undefA, none, false, .pu (.len (.s 31))⟩,
      ⟨(some 33), some undefA, none, false, .pu (.mov (.c (.int .i64 0)))⟩])
    (.block 2 (.loop (.seq (.ops [⟨(some 34), some undefA, none, false, .pu (.bin .lss (.s 33) (.s 32))⟩])
      (.seq (.cond (.s 34) (.skip)
      (.exit 2))
      (.seq (.block 3 (.seq (.ops [⟨(some 35), some undefA, none, false, .pu (.mov (.s 33))⟩,
         ⟨(some 36), some undefA, none, false, .pu (.idx 1 (.s 31) (.s 33))⟩,
         ⟨(some 37), some undefA, none, false, .ld (.ld 1 false (.s 36))⟩,
         ⟨(some 5), some undefA, none, false, .pu (.mov (.s 35))⟩,
         ⟨(some 6), some undefA, none, false, .pu (.mov (.s 37))⟩])
       (.seq (.ops [⟨(some 38), some undefA, none, false, .pu (.mov (.s 4))⟩,
         ⟨(some 39), some undefA, none, false, .pu (.mov (.s 5))⟩,
         ⟨(some 40), some undefA, none, false, .pu (.slc 1 (.s 38) none (some (.s 39)) none)⟩,
         ⟨(some 41), some undefA, none, false, .pu (.mov (.s 6))⟩,
         ⟨(some 42), some undefA, none, false, .call 71 [(.s 40), (.s 41)]⟩])
       (.cond (.s 42) (.seq (.ops [⟨(some 2), some undefA, none, false, .pu (.mov (.c (.int .i64 6)))⟩])
        (.ret))
       (.skip)))))
      (.ops [⟨(some 43), some undefA, none, false, .pu (.bin .add (.s 33) (.c (.int .i64 1)))⟩,
        ⟨(some 33), some undefA, none, false, .pu (.mov (.s 43))⟩]))))))))))
   (.ops [⟨(some 44), some undefA, none, false, .pu (.bin .add (.s 22) (.c (.int .i64 1)))⟩,
     ⟨(some 22), some undefA, none, false, .pu (.mov (.s 44))⟩])))))))
 (.seq (.ops [⟨(some 2), some undefA, none, false, .pu (.mov (.c (.int .i64 0)))⟩])
 (.ret)))))⟩
theorem t39 : trF Try.prog [1] [] Try.f39 = some m39 := by kernel_rfl

/-- selion/selionref07.Validate [loop [1, 3], loop [1, 3, 4], loop [1, 3, 5]] -/
def m40 : MFun := ⟨70, [1], [.mov (.s 2)],
 .seq (.ops [⟨(some 1), some (.junk), none, false, .pu (.bnew (.s 0))⟩,
   ⟨(some 2), some undefA, none, false, .pu (.mov (.c (.int .i64 0)))⟩])
 (.seq (.seq (.ops [⟨(some 6), some undefA, none, false, .pu (.badr none 1)⟩,
   ⟨(some 7), some undefA, none, false, .pu (.bget (some 6) 1 0 1 false)⟩,
   ⟨(some 8), some undefA, none, false, .call 64 [(.s 7), (.c (.int .i64 1)), (.c (.int .i64 7))]⟩,
   ⟨(some 9), some undefA, none, false, .pu (.not (.s 8))⟩])
 (.cond (.s 9) (.seq (.ops [⟨(some 2), some undefA, none, false, .pu (.mov (.c (.int .i64 1)))⟩])
  (.ret))
 (.skip)))
 (.seq (.seq (.ops [⟨(some 10), some undefA, none, false, .pu (.badr none 1)⟩,
   ⟨(some 11), some undefA, none, false, .pu (.bget (some 10) 1 1 1 false)⟩,
   ⟨(some 12), some undefA, none, false, .pu (.len (.s 11))⟩,
   ⟨(some 13), some undefA, none, false, .pu (.bin .gtr (.s 12) (.c (.int .i64 7)))⟩])
 (.cond (.s 13) (.seq (.ops [⟨(some 2), some undefA, none, false, .pu (.mov (.c (.int .i64 3)))⟩])
  (.ret))
 (.skip)))
 (.seq (.seq (.ops [⟨(some 3), some undefA, none, false, .pu (.mov (.c (.int .i64 0)))⟩])
 (.block 0 (.loop (.seq (.seq (.ops [⟨(some 14), some undefA, none, false, .pu (.mov (.s 3))⟩,
     ⟨(some 15), some undefA, none, false, .pu (.badr none 1)⟩,
     ⟨(some 16), some undefA, none, false, .pu (.bget (some 15) 1 1 1 false)⟩,
     ⟨(some 17), some undefA, none, false, .pu (.len (.s 16))⟩,
     ⟨(some 18), some undefA, none, false, .pu (.bin .lss (.s 14) (.s 17))⟩])
   (.cond (.s 18) (.skip)
   (.exit 0)))
   (.seq (.block 1 (.seq (.seq (.ops [⟨(some 4), some undefA, none, false, .pu (.mov (.c (.int .i64 0)))⟩])
    (.block 2 (.loop (.seq (.seq (.ops [⟨(some 21), some undefA, none, false, .pu (.mov (.s 4))⟩,
        ⟨(some 22), some undefA, none, false, .pu (.badr none 1)⟩,
        ⟨(some 23), some undefA, none, false, .pu (.bget (some 22) 1 1 1 false)⟩,
        ⟨(some 24), some undefA, none, false, .pu (.mov (.s 3))⟩,
        ⟨(some 25), some undefA, none, false, .pu (.idx 1 (.s 23) (.s 24))⟩,
        ⟨(some 26), some undefA, none, false, .ld (.ld 1 false (.s 25))⟩,
        ⟨(some 27), some undefA, none, false, .pu (.len (.s 26))⟩,
        ⟨(some 28), some undefA, none, false, .pu (.bin .lss (.s 21) (.s 27))⟩])
      (.cond (.s 28) (.skip)
      (.exit 2)))
      (.seq (.block 3 (.seq (.ops [⟨(some 31), some undefA, none, false, .pu (.badr none 1)⟩,
         ⟨(some 32), some undefA, none, false, .pu (.bget (some 31) 1 1 1 false)⟩,
         ⟨(some 33), some undefA, none, false, .pu (.mov (.s 3))⟩,
         ⟨(some 34), some undefA, none, false, .pu (.idx 1 (.s 32) (.s 33))⟩,
         ⟨(some 35), some undefA, none, true, .ld (.ld 1 false (.s 34))⟩,
         ⟨(some 36), some undefA, none, true, .pu (.mov (.s 4))⟩,
         ⟨(some 37), some undefA, none, false, .pu (.idx 1 (.s 35) (.s 36))⟩,
         ⟨(some 38), some undefA, none, true, .ld (.ld 1 false (.s 37))⟩,
         ⟨(some 39), some undefA, none, true, .pu (.badr none 1)⟩,
         ⟨(some 40), some undefA, none, true, .pu (.bget (some 39) 1 0 1 false)⟩,
         ⟨(some 41), some undefA, none, true, .pu (.bin .sub (.s 40) (.c (.int .i64 1)))⟩,
         ⟨(some 42), some undefA, none, false, .call 64 [(.s 38), (.c (.int .i64 0)), (.s 41)]⟩,
         ⟨(some 43), some undefA, none, false, .pu (.not (.s 42))⟩])
       (.cond (.s 43) (.seq (.ops [⟨(some 2), some undefA, none, false, .pu (.mov (.c (.int .i64 1)))⟩])
        (.ret))
       (.skip))))
      (.ops [⟨(some 29), some undefA, none, false, .pu (.mov (.s 4))⟩,
        ⟨(some 30), some undefA, none, false, .pu (.bin .add (.s 29) (.c (.int .i64 1)))⟩,
        ⟨(some 4), some undefA, none, false, .pu (.mov (.s 30))⟩]))))))
    (.seq (.ops [⟨(some 5), some undefA, none, false, .pu (.mov (.c (.int .i64 0)))⟩])
    (.block 4 (.loop (.seq (.seq (.ops [⟨(some 44), some undefA, none, false, .pu (.mov (.s 5))⟩,
        ⟨(some 45), some undefA, none, false, .pu (.badr none 1)⟩,
        ⟨(some 46), some undefA, none, false, .pu (.bget (some 45) 1 1 1 false)⟩,
        ⟨(some 47), some undefA, none, false, .pu (.mov (.s 3))⟩,
        ⟨(some 48), some undefA, none, false, .pu (.idx 1 (.s 46) (.s 47))⟩,
        ⟨(some 49), some undefA, none, false, .ld (.ld 1 false (.s 48))⟩,
        ⟨(some 50), some undefA, none, false, .pu (.len (.s 49))⟩,
        ⟨(some 51), some undefA, none, false, .pu (.bin .lss (.s 44) (.s 50))⟩])
      (.cond (.s 51) (.skip)
      (.exit 4)))
      (.seq (.block 5 (.seq (.ops [⟨(some 54), some undefA, none, true, .pu (.badr none 1)⟩,
         ⟨(some 55), some undefA, none, true, .pu (.bget (some 54) 1 1 1 false)⟩,
         ⟨(some 56), some undefA, none, true, .pu (.mov (.s 3))⟩,
         ⟨(some 57), some undefA, none, true, .pu (.idx 1 (.s 55) (.s 56))⟩,
         ⟨(some 58), some undefA, none, true, .ld (.ld 1 false (.s 57))⟩,
         ⟨(some 59), some undefA, none, true, .pu (.mov (.s 5))⟩,
         ⟨(some 60), some undefA, none, true, .pu (.slc 1 (.s 58) none (some (.s 59)) none)⟩,
         ⟨(some 61), some undefA, none, true, .pu (.badr none 1)⟩,
         ⟨(some 62), some undefA, none, true, .pu (.bget (some 61) 1 1 1 false)⟩,
         ⟨(some 63), some undefA, none, true, .pu (.mov (.s 3))⟩,
         ⟨(some 64), some undefA, none, true, .pu (.idx 1 (.s 62) (.s 63))⟩,
         ⟨(some 65), some undefA, none, true, .ld (.ld 1 false (.s 64))⟩,
         ⟨(some 66), some undefA, none, true, .pu (.mov (.s 5))⟩,
         ⟨(some 67), some undefA, none, true, .pu (.idx 1 (.s 65) (.s 66))⟩,
         ⟨(some 68), some undefA, none, true, .ld (.ld 1 false (.s 67))⟩,
         ⟨(some 69), some undefA, none, false, .call 65 [(.s 60), (.s 68)]⟩])
       (.cond (.s 69) (.seq (.ops [⟨(some 2), some undefA, none, false, .pu (.mov (.c (.int .i64 6)))⟩])
        (.ret))
       (.skip))))
      (.ops [⟨(some 52), some undefA, none, false, .pu (.mov (.s 5))⟩,
        ⟨(some 53), some undefA, none, false, .pu (.bin .add (.s 52) (.c (.int .i64 1)))⟩,
        ⟨(some 5), some undefA, none, false, .pu (.mov (.s 53))⟩]))))))))
   (.ops [⟨(some 19), some undefA, none, false, .pu (.mov (.s 3))⟩,
     ⟨(some 20), some undefA, none, false, .pu (.bin .add (.s 19) (.c (.int .i64 1)))⟩,
     ⟨(some 3), some undefA, none, false, .pu (.mov (.s 20))⟩]))))))
 (.seq (.ops [⟨(some 2), some undefA, none, false, .pu (.mov (.c (.int .i64 0)))⟩])
 (.ret)))))⟩
theorem t40 : trF Try.prog [1] [] Try.f40 = some m40 := by kernel_rfl

/-- selion/selionref01.Sum [loop [0, 3, 4]] -/
def m41 : MFun := ⟨18, [], [.mov (.s 2)],
 .seq (.ops [⟨(some 2), some undefA, none, false, .pu (.mov (.c (.int .i64 0)))⟩])
 (.seq (.ops [⟨(some 3), some undefA, none, false, .pu (.mov (.c (.int .i64 0)))⟩])
 (.seq (.seq (.ops [⟨(some 4), some undefA, none, false, .pu (.mov (.c (.int .i64 0)))⟩])
 (.block 0 (.loop (.seq (.seq (.ops [⟨(some 5), some undefA, none, false, .pu (.mov (.s 4))⟩,
     ⟨(some 6), some undefA, none, false, .pu (.mov (.s 0))⟩,
     ⟨(some 7), some undefA, none, false, .pu (.len (.s 6))⟩,
     ⟨(some 8), some undefA, none, false, .pu (.bin .lss (.s 5) (.s 7))⟩])
   (.cond (.s 8) (.skip)
   (.exit 0)))
   (.seq (.block 1 (.ops [⟨(some 11), some undefA, none, false, .pu (.mov (.s 3))⟩,
      ⟨(some 12), some undefA, none, false, .pu (.mov (.s 0))⟩,
      ⟨(some 13), some undefA, none, false, .pu (.mov (.s 4))⟩,
      ⟨(some 14), some undefA, none, false, .pu (.idx 1 (.s 12) (.s 13))⟩,
      ⟨(some 15), some undefA, none, false, .ld (.ld 1 false (.s 14))⟩,
      ⟨(some 16), some undefA, none, false, .pu (.bin .add (.s 11) (.s 15))⟩,
      ⟨(some 3), some undefA, none, false, .pu (.mov (.s 16))⟩]))
   (.ops [⟨(some 9), some undefA, none, false, .pu (.mov (.s 4))⟩,
     ⟨(some 10), some undefA, none, false, .pu (.bin .add (.s 9) (.c (.int .i64 1)))⟩,
     ⟨(some 4), some undefA, none, false, .pu (.mov (.s 10))⟩]))))))
 (.seq (.ops [⟨(some 17), some undefA, none, false, .pu (.mov (.s 3))⟩,
   ⟨(some 2), some undefA, none, false, .pu (.mov (.s 17))⟩])
 (.ret))))⟩
theorem t41 : trF Try.prog [] [] Try.f41 = some m41 := by kernel_rfl

/-- selion/wish.Wished [] -/
def m42 : MFun := ⟨16, [2], [.mov (.s 4), .mov (.s 5)],
 .seq (.ops [⟨(some 2), some (.junk), none, false, .pu (.bnew (.s 0))⟩,
   ⟨(some 4), some undefA, none, false, .pu (.mov (.c (.nilS)))⟩,
   ⟨(some 5), some undefA, none, false, .pu (.mov (.c (.int .i64 0)))⟩])
 (.seq (.seq (.ops [⟨(some 7), some undefA, none, false, .pu (.bget none 2 0 2 true)⟩,
   ⟨(some 8), some undefA, none, false, .pu (.mov (.s 1))⟩,
   ⟨(some 9), some undefA, none, false, .call 74 [(.s 7), (.s 8)]⟩,
   ⟨(some 6), some undefA, none, false, .pu (.mov (.s 9))⟩])
 (.seq (.ops [⟨(some 10), some undefA, none, false, .pu (.mov (.s 6))⟩,
   ⟨(some 11), some undefA, none, false, .pu (.bin .neq (.s 10) (.c (.int .i64 0)))⟩])
 (.cond (.s 11) (.seq (.ops [⟨(some 12), some undefA, none, false, .pu (.mov (.s 6))⟩,
    ⟨(some 4), some undefA, none, false, .pu (.mov (.c (.nilS)))⟩,
    ⟨(some 5), some undefA, none, false, .pu (.mov (.s 12))⟩])
  (.ret))
 (.skip))))
 (.seq (.ops [⟨(some 13), some undefA, none, false, .pu (.bget none 2 0 2 true)⟩,
   ⟨(some 14), some undefA, none, false, .pu (.mov (.s 1))⟩,
   ⟨(some 15), some undefA, none, false, .call 75 [(.s 13), (.s 14)]⟩,
   ⟨(some 4), some undefA, none, false, .pu (.mov (.s 15))⟩,
   ⟨(some 5), some undefA, none, false, .pu (.mov (.c (.int .i64 0)))⟩])
 (.ret)))⟩
theorem t42 : trF Try.prog [2] [] Try.f42 = some m42 := by kernel_rfl

/-- selion/selionref07.Wished [] -/
def m43 : MFun := ⟨21, [2], [.mov (.s 4), .mov (.s 5)],
 .seq (.ops [⟨(some 2), some (.junk), none, false, .pu (.bnew (.s 0))⟩,
   ⟨(some 4), some undefA, none, false, .pu (.mov (.c (.nilS)))⟩,
   ⟨(some 5), some undefA, none, false, .pu (.mov (.c (.int .i64 0)))⟩])
 (.seq (.seq (.ops [⟨(some 7), some undefA, none, false, .pu (.bget none 2 0 2 true)⟩,
   ⟨(some 8), some undefA, none, false, .call 40 [(.s 7)]⟩,
   ⟨(some 6), some undefA, none, false, .pu (.mov (.s 8))⟩])
 (.seq (.ops [⟨(some 9), some undefA, none, false, .pu (.mov (.s 6))⟩,
   ⟨(some 10), some undefA, none, false, .pu (.bin .neq (.s 9) (.c (.int .i64 0)))⟩])
 (.cond (.s 10) (.seq (.ops [⟨(some 11), some undefA, none, false, .pu (.mov (.s 6))⟩,
    ⟨(some 4), some undefA, none, false, .pu (.mov (.c (.nilS)))⟩,
    ⟨(some 5), some undefA, none, false, .pu (.mov (.s 11))⟩])
  (.ret))
 (.skip))))
 (.seq (.seq (.ops [⟨(some 12), some undefA, none, false, .pu (.mov (.s 1))⟩,
   ⟨(some 13), some undefA, none, false, .pu (.badr none 2)⟩,
   ⟨(some 14), some undefA, none, false, .pu (.bget (some 13) 2 1 1 false)⟩,
   ⟨(some 15), some undefA, none, false, .pu (.len (.s 14))⟩,
   ⟨(some 16), some undefA, none, false, .call 76 [(.s 12), (.s 15)]⟩,
   ⟨(some 17), some undefA, none, false, .pu (.not (.s 16))⟩])
 (.cond (.s 17) (.seq (.ops [⟨(some 4), some undefA, none, false, .pu (.mov (.c (.nilS)))⟩,
    ⟨(some 5), some undefA, none, false, .pu (.mov (.c (.int .i64 1)))⟩])
  (.ret))
 (.skip)))
 (.seq (.ops [⟨(some 18), some undefA, none, false, .pu (.bget none 2 0 2 true)⟩,
   ⟨(some 19), some undefA, none, false, .pu (.mov (.s 1))⟩,
   ⟨(some 20), some undefA, none, false, .call 77 [(.s 18), (.s 19)]⟩,
   ⟨(some 4), some undefA, none, false, .pu (.mov (.s 20))⟩,
   ⟨(some 5), some undefA, none, false, .pu (.mov (.c (.int .i64 0)))⟩])
 (.ret))))⟩
theorem t43 : trF Try.prog [2] [] Try.f43 = some m43 := by kernel_rfl

/-- selion/wish.Lack [] -/
def m44 : MFun := ⟨20, [2], [.mov (.s 4), .mov (.s 5)],
 .seq (.ops [⟨(some 2), some (.junk), none, false, .pu (.bnew (.s 0))⟩,
   ⟨(some 4), some undefA, none, false, .pu (.mov (.c (.int .i64 0)))⟩,
   ⟨(some 5), some undefA, none, false, .pu (.mov (.c (.int .i64 0)))⟩])
 (.seq (.seq (.ops [⟨(some 7), some undefA, none, false, .pu (.bget none 2 0 2 true)⟩,
   ⟨(some 8), some undefA, none, false, .pu (.mov (.s 1))⟩,
   ⟨(some 9), some undefA, none, false, .call 74 [(.s 7), (.s 8)]⟩,
   ⟨(some 6), some undefA, none, false, .pu (.mov (.s 9))⟩])
 (.seq (.ops [⟨(some 10), some undefA, none, false, .pu (.mov (.s 6))⟩,
   ⟨(some 11), some undefA, none, false, .pu (.bin .neq (.s 10) (.c (.int .i64 0)))⟩])
 (.cond (.s 11) (.seq (.ops [⟨(some 12), some undefA, none, false, .pu (.mov (.s 6))⟩,
    ⟨(some 4), some undefA, none, false, .pu (.mov (.c (.int .i64 0)))⟩,
    ⟨(some 5), some undefA, none, false, .pu (.mov (.s 12))⟩])
  (.ret))
 (.skip))))
 (.seq (.ops [⟨(some 13), some undefA, none, false, .pu (.mov (.s 1))⟩,
   ⟨(some 14), some undefA, none, false, .pu (.len (.s 13))⟩,
   ⟨(some 15), some undefA, none, false, .pu (.bget none 2 0 2 true)⟩,
   ⟨(some 16), some undefA, none, false, .pu (.mov (.s 1))⟩,
   ⟨(some 17), some undefA, none, false, .call 75 [(.s 15), (.s 16)]⟩,
   ⟨(some 18), some undefA, none, false, .pu (.len (.s 17))⟩,
   ⟨(some 19), some undefA, none, false, .pu (.bin .sub (.s 14) (.s 18))⟩,
   ⟨(some 4), some undefA, none, false, .pu (.mov (.s 19))⟩,
   ⟨(some 5), some undefA, none, false, .pu (.mov (.c (.int .i64 0)))⟩])
 (.ret)))⟩
theorem t44 : trF Try.prog [2] [] Try.f44 = some m44 := by kernel_rfl

/-- selion/selionref07.Lack [] -/
def m45 : MFun := ⟨22, [2], [.mov (.s 4), .mov (.s 5)],
 .seq (.ops [⟨(some 2), some (.junk), none, false, .pu (.bnew (.s 0))⟩,
   ⟨(some 4), some undefA, none, false, .pu (.mov (.c (.int .i64 0)))⟩,
   ⟨(some 5), some undefA, none, false, .pu (.mov (.c (.int .i64 0)))⟩])
 (.seq (.ops [⟨(some 9), some undefA, none, false, .pu (.bget none 2 0 2 true)⟩,
   ⟨(some 10), some undefA, none, false, .pu (.mov (.s 1))⟩,
   ⟨(some 11), some undefA, none, false, .call 43 [(.s 9), (.s 10)]⟩,
   ⟨(some 8), some undefA, none, false, .pu (.mov (.s 11))⟩,
   ⟨(some 12), some undefA, none, false, .pu (.extr 0 (.s 8))⟩,
   ⟨(some 13), some undefA, none, false, .pu (.extr 1 (.s 8))⟩,
   ⟨(some 6), some undefA, none, false, .pu (.mov (.s 12))⟩,
   ⟨(some 7), some undefA, none, false, .pu (.mov (.s 13))⟩])
 (.seq (.seq (.ops [⟨(some 14), some undefA, none, false, .pu (.mov (.s 7))⟩,
   ⟨(some 15), some undefA, none, false, .pu (.bin .neq (.s 14) (.c (.int .i64 0)))⟩])
 (.cond (.s 15) (.seq (.ops [⟨(some 16), some undefA, none, false, .pu (.mov (.s 7))⟩,
    ⟨(some 4), some undefA, none, false, .pu (.mov (.c (.int .i64 0)))⟩,
    ⟨(some 5), some undefA, none, false, .pu (.mov (.s 16))⟩])
  (.ret))
 (.skip)))
 (.seq (.ops [⟨(some 17), some undefA, none, false, .pu (.mov (.s 1))⟩,
   ⟨(some 18), some undefA, none, false, .pu (.len (.s 17))⟩,
   ⟨(some 19), some undefA, none, false, .pu (.mov (.s 6))⟩,
   ⟨(some 20), some undefA, none, false, .pu (.len (.s 19))⟩,
   ⟨(some 21), some undefA, none, false, .pu (.bin .sub (.s 18) (.s 20))⟩,
   ⟨(some 4), some undefA, none, false, .pu (.mov (.s 21))⟩,
   ⟨(some 5), some undefA, none, false, .pu (.mov (.c (.int .i64 0)))⟩])
 (.ret))))⟩
theorem t45 : trF Try.prog [2] [] Try.f45 = some m45 := by kernel_rfl

/-- selion/wish.CheckCover [loop [1, 5, 23, 24, 25]] -/
def m46 : MFun := ⟨45, [3], [.mov (.s 6), .mov (.s 7)],
 .seq (.ops [⟨(some 3), some (.junk), none, false, .pu (.bnew (.s 0))⟩,
   ⟨(some 5), some undefA, none, false, .ha (.newv (.s 2))⟩,
   ⟨(some 6), some undefA, none, false, .pu (.mov (.c (.int .i64 0)))⟩,
   ⟨(some 7), some undefA, none, false, .pu (.mov (.c (.int .i64 0)))⟩])
 (.seq (.seq (.ops [⟨(some 11), some undefA, none, false, .pu (.bget none 3 0 2 true)⟩,
   ⟨(some 12), some undefA, none, false, .pu (.mov (.s 1))⟩,
   ⟨(some 13), some undefA, none, false, .call 74 [(.s 11), (.s 12)]⟩,
   ⟨(some 8), some undefA, none, false, .pu (.mov (.s 13))⟩])
 (.seq (.ops [⟨(some 14), some undefA, none, false, .pu (.mov (.s 8))⟩,
   ⟨(some 15), some undefA, none, false, .pu (.bin .neq (.s 14) (.c (.int .i64 0)))⟩])
 (.cond (.s 15) (.seq (.ops [⟨(some 16), some undefA, none, false, .pu (.mov (.s 8))⟩,
    ⟨(some 6), some undefA, none, false, .pu (.mov (.c (.int .i64 0)))⟩,
    ⟨(some 7), some undefA, none, false, .pu (.mov (.s 16))⟩])
  (.ret))
 (.skip))))
 (.seq (.seq (.ops [⟨(some 17), some undefA, none, false, .ld (.ld 1 false (.s 5))⟩,
   ⟨(some 18), some undefA, none, false, .pu (.badr none 3)⟩,
   ⟨(some 19), some undefA, none, false, .pu (.bget (some 18) 3 0 1 false)⟩,
   ⟨(some 20), some undefA, none, false, .call 78 [(.s 17), (.s 19)]⟩,
   ⟨(some 21), some undefA, none, false, .pu (.not (.s 20))⟩])
 (.cond (.s 21) (.seq (.ops [⟨(some 6), some undefA, none, false, .pu (.mov (.c (.int .i64 0)))⟩,
    ⟨(some 7), some undefA, none, false, .pu (.mov (.c (.int .i64 1)))⟩])
  (.ret))
 (.skip)))
 (.seq (.seq (.ops [⟨(some 22), some undefA, none, false, .pu (.badr none 3)⟩,
   ⟨(some 23), some undefA, none, false, .pu (.bget (some 22) 3 1 1 false)⟩,
   ⟨(some 24), some undefA, none, false, .pu (.len (.s 23))⟩,
   ⟨(some 25), some undefA, none, false, .pu (.mov (.c (.int .i64 0)))⟩])
 (.block 0 (.loop (.seq (.ops [⟨(some 26), some undefA, none, false, .pu (.bin .lss (.s 25) (.s 24))⟩])
   (.seq (.cond (.s 26) (.skip)
   (.exit 0))
   (.seq (.block 1 (.seq (.ops [⟨(some 27), some undefA, none, false, .pu (.mov (.s 25))⟩,
      ⟨(some 28), some undefA, none, false, .pu (.idx 1 (.s 23) (.s 25))⟩,
      ⟨(some 29), some undefA, none, false, .ld (.ld 1 false (.s 28))⟩,
      ⟨(some 9), some undefA, none, false, .pu (.mov (.s 27))⟩,
      ⟨(some 10), some undefA, none, false, .pu (.mov (.s 29))⟩])
    (.seq (.ops [⟨(some 30), some undefA, none, false, .pu (.mov (.s 1))⟩,
      ⟨(some 31), some undefA, none, false, .pu (.mov (.s 9))⟩,
      ⟨(some 32), some undefA, none, false, .call 71 [(.s 30), (.s 31)]⟩,
      ⟨(some 33), some undefA, none, false, .pu (.not (.s 32))⟩,
      ⟨(some 34), some undefA, none, false, .pu (.mov (.s 33))⟩,
      ⟨(some 35), some undefA, (some (34, true)), false, .pu (.mov (.s 10))⟩,
      ⟨(some 36), some undefA, (some (34, true)), false, .pu (.mkf 79 [(.s 5)])⟩,
      ⟨(some 37), some undefA, (some (34, true)), false, .call 69 [(.s 35), (.s 36)]⟩,
      ⟨(some 38), some undefA, none, false, .pu (.pick (.s 34) (.s 37) (.c (.bool false)))⟩])
    (.cond (.s 38) (.seq (.ops [⟨(some 6), some undefA, none, false, .pu (.mov (.c (.int .i64 0)))⟩,
       ⟨(some 7), some undefA, none, false, .pu (.mov (.c (.int .i64 7)))⟩])
     (.ret))
    (.skip)))))
   (.ops [⟨(some 39), some undefA, none, false, .pu (.bin .add (.s 25) (.c (.int .i64 1)))⟩,
     ⟨(some 25), some undefA, none, false, .pu (.mov (.s 39))⟩])))))))
 (.seq (.ops [⟨(some 40), some undefA, none, false, .pu (.mov (.s 1))⟩,
   ⟨(some 41), some undefA, none, false, .pu (.len (.s 40))⟩,
   ⟨(some 42), some undefA, none, false, .ld (.ld 1 false (.s 5))⟩,
   ⟨(some 43), some undefA, none, false, .pu (.len (.s 42))⟩,
   ⟨(some 44), some undefA, none, false, .pu (.bin .add (.s 41) (.s 43))⟩,
   ⟨(some 6), some undefA, none, false, .pu (.mov (.s 44))⟩,
   ⟨(some 7), some undefA, none, false, .pu (.mov (.c (.int .i64 0)))⟩])
 (.ret)))))⟩
theorem t46 : trF Try.prog [3] [] Try.f46 = some m46 := by kernel_rfl

/-- selion/wish.Short [] -/
def m47 : MFun := ⟨12, [1], [.mov (.s 2), .mov (.s 3)],
 .seq (.ops [⟨(some 1), some (.junk), none, false, .pu (.bnew (.s 0))⟩,
   ⟨(some 2), some undefA, none, false, .pu (.mov (.c (.nilS)))⟩,
   ⟨(some 3), some undefA, none, false, .pu (.mov (.c (.int .i64 0)))⟩])
 (.seq (.seq (.ops [⟨(some 5), some undefA, none, false, .pu (.bget none 1 0 2 true)⟩,
   ⟨(some 6), some undefA, none, false, .call 39 [(.s 5)]⟩,
   ⟨(some 4), some undefA, none, false, .pu (.mov (.s 6))⟩])
 (.seq (.ops [⟨(some 7), some undefA, none, false, .pu (.mov (.s 4))⟩,
   ⟨(some 8), some undefA, none, false, .pu (.bin .neq (.s 7) (.c (.int .i64 0)))⟩])
 (.cond (.s 8) (.seq (.ops [⟨(some 9), some undefA, none, false, .pu (.mov (.s 4))⟩,
    ⟨(some 2), some undefA, none, false, .pu (.mov (.c (.nilS)))⟩,
    ⟨(some 3), some undefA, none, false, .pu (.mov (.s 9))⟩])
  (.ret))
 (.skip))))
 (.seq (.ops [⟨(some 10), some undefA, none, false, .pu (.bget none 1 0 2 true)⟩,
   ⟨(some 11), some undefA, none, false, .call 80 [(.s 10)]⟩,
   ⟨(some 2), some undefA, none, false, .pu (.mov (.s 11))⟩,
   ⟨(some 3), some undefA, none, false, .pu (.mov (.c (.int .i64 0)))⟩])
 (.ret)))⟩
theorem t47 : trF Try.prog [1] [] Try.f47 = some m47 := by kernel_rfl

/-- selion/wish.Happiest [] -/
def m48 : MFun := ⟨27, [], [.mov (.s 2), .mov (.s 3)],
 .seq (.ops [⟨(some 1), some undefA, none, false, .ha (.newv (.s 0))⟩,
   ⟨(some 2), some undefA, none, false, .pu (.mov (.c (.nilS)))⟩,
   ⟨(some 3), some undefA, none, false, .pu (.mov (.c (.int .i64 0)))⟩])
 (.seq (.seq (.ops [⟨(some 9), some undefA, none, false, .ld (.ld 2 true (.s 1))⟩,
   ⟨(some 10), some undefA, none, false, .call 39 [(.s 9)]⟩,
   ⟨(some 4), some undefA, none, false, .pu (.mov (.s 10))⟩])
 (.seq (.ops [⟨(some 11), some undefA, none, false, .pu (.mov (.s 4))⟩,
   ⟨(some 12), some undefA, none, false, .pu (.bin .neq (.s 11) (.c (.int .i64 0)))⟩])
 (.cond (.s 12) (.seq (.ops [⟨(some 13), some undefA, none, false, .pu (.mov (.s 4))⟩,
    ⟨(some 2), some undefA, none, false, .pu (.mov (.c (.nilS)))⟩,
    ⟨(some 3), some undefA, none, false, .pu (.mov (.s 13))⟩])
  (.ret))
 (.skip))))
 (.seq (.ops [⟨(some 14), some undefA, none, false, .ld (.ld 2 true (.s 1))⟩,
   ⟨(some 15), some undefA, none, false, .call 56 [(.s 14)]⟩,
   ⟨(some 5), some undefA, none, false, .pu (.mov (.s 15))⟩])
 (.seq (.ops [⟨(some 6), some undefA, none, false, .ha (.newv (.c (.nilS)))⟩])
 (.seq (.ops [⟨(some 16), some undefA, none, false, .ld (.ld 2 true (.s 1))⟩,
   ⟨(some 17), some undefA, none, false, .call 63 [(.s 16)]⟩,
   ⟨(some 18), some undefA, none, false, .pu (.part 2 1 false (.s 17))⟩,
   ⟨(some 7), some undefA, none, false, .ha (.newv (.c (.nilS)))⟩,
   ⟨none, some undefA, none, false, .ha (.st 1 (.s 7) (.s 18))⟩])
 (.seq (.ops [⟨(some 8), some undefA, none, false, .ha (.newv (.c (.nilF)))⟩])
 (.seq (.ops [⟨(some 19), some undefA, none, false, .pu (.mkf 81 [(.s 7), (.s 6), (.s 1), (.s 8)])⟩,
   ⟨none, some undefA, none, false, .ha (.st 1 (.s 8) (.s 19))⟩])
 (.seq (.ops [⟨(some 20), some undefA, none, false, .ld (.ld 1 false (.s 8))⟩,
   ⟨(some 21), some undefA, none, false, .ld (.ld 1 false (.s 7))⟩,
   ⟨(some 22), some undefA, none, false, .pu (.len (.s 21))⟩,
   ⟨(some 23), some undefA, none, false, .pu (.mov (.s 5))⟩,
   ⟨(some 24), some undefA, none, false, .pu (.bin .sub (.s 22) (.s 23))⟩,
   ⟨(some 25), some undefA, none, false, .callv (.s 20) [(.c (.int .i64 0)), (.s 24)]⟩])
 (.seq (.ops [⟨(some 26), some undefA, none, false, .ld (.ld 1 false (.s 6))⟩,
   ⟨(some 2), some undefA, none, false, .pu (.mov (.s 26))⟩,
   ⟨(some 3), some undefA, none, false, .pu (.mov (.c (.int .i64 0)))⟩])
 (.ret)))))))))⟩
theorem t48 : trF Try.prog [] [] Try.f48 = some m48 := by kernel_rfl

/-- selion/selionref07.BestCount [loop [1, 5, 6], loop [1, 5, 6, 7, 8], loop [1, 5, 6, 7, 8, 9], loop [1, 5, 12, 13], loop [5, 12, 14, 15]] -/
def m49 : MFun := ⟨166, [1], [.mov (.s 2), .mov (.s 3)],
 .seq (.ops [⟨(some 1), some (.junk), none, false, .pu (.bnew (.s 0))⟩,
   ⟨(some 2), some undefA, none, false, .pu (.mov (.c (.nilS)))⟩,
   ⟨(some 3), some undefA, none, false, .pu (.mov (.c (.int .i64 0)))⟩])
 (.seq (.seq (.ops [⟨(some 16), some undefA, none, false, .pu (.bget none 1 0 2 true)⟩,
   ⟨(some 17), some undefA, none, false, .call 40 [(.s 16)]⟩,
   ⟨(some 4), some undefA, none, false, .pu (.mov (.s 17))⟩])
 (.seq (.ops [⟨(some 18), some undefA, none, false, .pu (.mov (.s 4))⟩,
   ⟨(some 19), some undefA, none, false, .pu (.bin .neq (.s 18) (.c (.int .i64 0)))⟩])
 (.cond (.s 19) (.seq (.ops [⟨(some 20), some undefA, none, false, .pu (.mov (.s 4))⟩,
    ⟨(some 2), some undefA, none, false, .pu (.mov (.c (.nilS)))⟩,
    ⟨(some 3), some undefA, none, false, .pu (.mov (.s 20))⟩])
  (.ret))
 (.skip))))
 (.seq (.ops [⟨(some 21), some undefA, none, false, .pu (.badr none 1)⟩,
   ⟨(some 22), some undefA, none, false, .pu (.bget (some 21) 1 0 1 false)⟩,
   ⟨(some 23), some undefA, none, false, .pu (.conv .u64 (.s 22))⟩,
   ⟨(some 24), some undefA, none, false, .pu (.bin .shl (.c (.int .i64 1)) (.s 23))⟩,
   ⟨(some 25), some undefA, none, false, .ha (.mks 1 [.nilS] (.s 24) (.s 24))⟩,
   ⟨(some 5), some undefA, none, false, .pu (.mov (.s 25))⟩])
 (.seq (.ops [⟨(some 26), some undefA, none, false, .pu (.mov (.s 5))⟩,
   ⟨(some 27), some undefA, none, false, .pu (.badr none 1)⟩,
   ⟨(some 28), some undefA, none, false, .pu (.bget (some 27) 1 0 1 false)⟩,
   ⟨(some 29), some undefA, none, false, .ha (.mks 1 [.int .i64 0] (.s 28) (.s 28))⟩,
   ⟨(some 30), some undefA, none, false, .pu (.idx 1 (.s 26) (.c (.int .i64 0)))⟩,
   ⟨none, some undefA, none, false, .ha (.st 1 (.s 30) (.s 29))⟩])
 (.seq (.seq (.ops [⟨(some 6), some undefA, none, false, .pu (.mov (.c (.int .i64 0)))⟩])
 (.block 0 (.loop (.seq (.seq (.ops [⟨(some 31), some undefA, none, false, .pu (.mov (.s 6))⟩,
     ⟨(some 32), some undefA, none, false, .pu (.badr none 1)⟩,
     ⟨(some 33), some undefA, none, false, .pu (.bget (some 32) 1 1 1 false)⟩,
     ⟨(some 34), some undefA, none, false, .pu (.len (.s 33))⟩,
     ⟨(some 35), some undefA, none, false, .pu (.bin .lss (.s 31) (.s 34))⟩])
   (.cond (.s 35) (.skip)
   (.exit 0)))
   (.seq (.block 1 (.seq (.ops [⟨(some 38), some undefA, none, false, .ha (.blds 1 0 [.nilS] [])⟩,
      ⟨(some 39), some undefA, none, false, .pu (.mov (.s 5))⟩,
      ⟨(some 40), some undefA, none, false, .ha (.app 1 (.s 38) (.s 39))⟩,
      ⟨(some 7), some undefA, none, false, .pu (.mov (.s 40))⟩])
    (.seq (.seq (.ops [⟨(some 8), some undefA, none, false, .pu (.mov (.c (.int .i64 0)))⟩])
    (.block 2 (.loop (.seq (.seq (.ops [⟨(some 41), some undefA, none, false, .pu (.mov (.s 8))⟩,
        ⟨(some 42), some undefA, none, false, .pu (.mov (.s 5))⟩,
        ⟨(some 43), some undefA, none, false, .pu (.len (.s 42))⟩,
        ⟨(some 44), some undefA, none, false, .pu (.bin .lss (.s 41) (.s 43))⟩])
      (.cond (.s 44) (.skip)
      (.exit 2)))
      (.seq (.block 3 (.seq (.ops [⟨(some 9), some undefA, none, false, .pu (.mov (.c (.int .i64 0)))⟩])
       (.block 4 (.loop (.seq (.seq (.ops [⟨(some 47), some undefA, none, false, .pu (.mov (.s 9))⟩,
           ⟨(some 48), some undefA, none, false, .pu (.badr none 1)⟩,
           ⟨(some 49), some undefA, none, false, .pu (.bget (some 48) 1 1 1 false)⟩,
           ⟨(some 50), some undefA, none, false, .pu (.mov (.s 6))⟩,
           ⟨(some 51), some undefA, none, false, .pu (.idx 1 (.s 49) (.s 50))⟩,
           ⟨(some 52), some undefA, none, false, .ld (.ld 1 false (.s 51))⟩,
           ⟨(some 53), some undefA, none, false, .pu (.len (.s 52))⟩,
           ⟨(some 54), some undefA, none, false, .pu (.bin .lss (.s 47) (.s 53))⟩,
           ⟨(some 55), some undefA, none, false, .pu (.mov (.s 54))⟩,
           ⟨(some 56), some undefA, (some (55, true)), false, .pu (.mov (.s 5))⟩,
           ⟨(some 57), some undefA, (some (55, true)), false, .pu (.mov (.s 8))⟩,
           ⟨(some 58), some undefA, (some (55, true)), false, .pu (.idx 1 (.s 56) (.s 57))⟩,
           ⟨(some 59), some undefA, (some (55, true)), false, .ld (.ld 1 false (.s 58))⟩,
           ⟨(some 60), some undefA, (some (55, true)), false, .pu (.len (.s 59))⟩,
           ⟨(some 61), some undefA, (some (55, true)), false, .pu (.bin .gtr (.s 60) (.c (.int .i64 0)))⟩,
           ⟨(some 62), some undefA, none, false, .pu (.pick (.s 55) (.s 61) (.c (.bool false)))⟩])
         (.cond (.s 62) (.skip)
         (.exit 4)))
         (.seq (.block 5 (.seq (.ops [⟨(some 65), some undefA, none, false, .pu (.badr none 1)⟩,
            ⟨(some 66), some undefA, none, false, .pu (.bget (some 65) 1 1 1 false)⟩,
            ⟨(some 67), some undefA, none, false, .pu (.mov (.s 6))⟩,
            ⟨(some 68), some undefA, none, false, .pu (.idx 1 (.s 66) (.s 67))⟩,
            ⟨(some 69), some undefA, none, false, .ld (.ld 1 false (.s 68))⟩,
            ⟨(some 70), some undefA, none, false, .pu (.mov (.s 9))⟩,
            ⟨(some 71), some undefA, none, false, .pu (.idx 1 (.s 69) (.s 70))⟩,
            ⟨(some 72), some undefA, none, false, .ld (.ld 1 false (.s 71))⟩,
            ⟨(some 73), some undefA, none, false, .pu (.conv .u64 (.s 72))⟩,
            ⟨(some 74), some undefA, none, false, .pu (.bin .shl (.c (.int .i64 1)) (.s 73))⟩,
            ⟨(some 10), some undefA, none, false, .pu (.mov (.s 74))⟩])
          (.seq (.seq (.ops [⟨(some 75), some undefA, none, false, .pu (.mov (.s 8))⟩,
            ⟨(some 76), some undefA, none, false, .pu (.mov (.s 10))⟩,
            ⟨(some 77), some undefA, none, false, .pu (.bin .and (.s 75) (.s 76))⟩,
            ⟨(some 78), some undefA, none, false, .pu (.bin .neq (.s 77) (.c (.int .i64 0)))⟩])
          (.cond (.s 78) (.exit 5)
          (.skip)))
          (.seq (.ops [⟨(some 79), some undefA, none, false, .ha (.blds 1 0 [.int .i64 0] [])⟩,
            ⟨(some 80), some undefA, none, false, .pu (.mov (.s 5))⟩,
            ⟨(some 81), some undefA, none, false, .pu (.mov (.s 8))⟩,
            ⟨(some 82), some undefA, none, false, .pu (.idx 1 (.s 80) (.s 81))⟩,
            ⟨(some 83), some undefA, none, false, .ld (.ld 1 false (.s 82))⟩,
            ⟨(some 84), some undefA, none, false, .ha (.app 1 (.s 79) (.s 83))⟩,
            ⟨(some 11), some undefA, none, false, .pu (.mov (.s 84))⟩])
          (.seq (.ops [⟨(some 85), some undefA, none, false, .pu (.mov (.s 11))⟩,
            ⟨(some 86), some undefA, none, false, .pu (.mov (.s 9))⟩,
            ⟨(some 87), some undefA, none, false, .pu (.idx 1 (.s 85) (.s 86))⟩,
            ⟨(some 88), some undefA, none, false, .ld (.ld 1 false (.s 87))⟩,
            ⟨(some 89), some undefA, none, false, .pu (.bin .add (.s 88) (.c (.int .i64 1)))⟩,
            ⟨(some 90), some undefA, none, false, .pu (.idx 1 (.s 85) (.s 86))⟩,
            ⟨none, some undefA, none, false, .ha (.st 1 (.s 90) (.s 89))⟩])
          (.seq (.ops [⟨(some 91), some undefA, none, false, .pu (.mov (.s 7))⟩,
            ⟨(some 92), some undefA, none, false, .pu (.mov (.s 8))⟩,
            ⟨(some 93), some undefA, none, false, .pu (.mov (.s 10))⟩,
            ⟨(some 94), some undefA, none, false, .pu (.bin .or (.s 92) (.s 93))⟩,
            ⟨(some 95), some undefA, none, false, .pu (.idx 1 (.s 91) (.s 94))⟩,
            ⟨(some 96), some undefA, none, false, .ld (.ld 1 false (.s 95))⟩,
            ⟨(some 97), some undefA, none, false, .pu (.len (.s 96))⟩,
            ⟨(some 98), some undefA, none, false, .pu (.bin .eql (.s 97) (.c (.int .i64 0)))⟩,
            ⟨(some 99), some undefA, none, false, .pu (.mov (.s 98))⟩,
            ⟨(some 100), some undefA, (some (99, false)), false, .pu (.mov (.s 11))⟩,
            ⟨(some 101), some undefA, (some (99, false)), false, .pu (.mov (.s 7))⟩,
            ⟨(some 102), some undefA, (some (99, false)), false, .pu (.mov (.s 8))⟩,
            ⟨(some 103), some undefA, (some (99, false)), false, .pu (.mov (.s 10))⟩,
            ⟨(some 104), some undefA, (some (99, false)), false, .pu (.bin .or (.s 102) (.s 103))⟩,
            ⟨(some 105), some undefA, (some (99, false)), false, .pu (.idx 1 (.s 101) (.s 104))⟩,
            ⟨(some 106), some undefA, (some (99, false)), false, .ld (.ld 1 false (.s 105))⟩,
            ⟨(some 107), some undefA, (some (99, false)), false, .call 84 [(.s 100), (.s 106)]⟩,
            ⟨(some 108), some undefA, none, false, .pu (.pick (.s 99) (.c (.bool true)) (.s 107))⟩])
          (.cond (.s 108) (.ops [⟨(some 109), some undefA, none, false, .pu (.mov (.s 7))⟩,
             ⟨(some 110), some undefA, none, false, .pu (.mov (.s 8))⟩,
             ⟨(some 111), some undefA, none, false, .pu (.mov (.s 10))⟩,
             ⟨(some 112), some undefA, none, false, .pu (.bin .or (.s 110) (.s 111))⟩,
             ⟨(some 113), some undefA, none, false, .pu (.mov (.s 11))⟩,
             ⟨(some 114), some undefA, none, false, .pu (.idx 1 (.s 109) (.s 112))⟩,
             ⟨none, some undefA, none, false, .ha (.st 1 (.s 114) (.s 113))⟩])
          (.skip))))))))
         (.ops [⟨(some 63), some undefA, none, false, .pu (.mov (.s 9))⟩,
           ⟨(some 64), some undefA, none, false, .pu (.bin .add (.s 63) (.c (.int .i64 1)))⟩,
           ⟨(some 9), some undefA, none, false, .pu (.mov (.s 64))⟩])))))))
      (.ops [⟨(some 45), some undefA, none, false, .pu (.mov (.s 8))⟩,
        ⟨(some 46), some undefA, none, false, .pu (.bin .add (.s 45) (.c (.int .i64 1)))⟩,
        ⟨(some 8), some undefA, none, false, .pu (.mov (.s 46))⟩]))))))
    (.ops [⟨(some 115), some undefA, none, false, .pu (.mov (.s 7))⟩,
      ⟨(some 5), some undefA, none, false, .pu (.mov (.s 115))⟩]))))
   (.ops [⟨(some 36), some undefA, none, false, .pu (.mov (.s 6))⟩,
     ⟨(some 37), some undefA, none, false, .pu (.bin .add (.s 36) (.c (.int .i64 1)))⟩,
     ⟨(some 6), some undefA, none, false, .pu (.mov (.s 37))⟩]))))))
 (.seq (.ops [⟨(some 12), some undefA, none, false, .pu (.mov (.c (.int .i64 0)))⟩])
 (.seq (.seq (.ops [⟨(some 13), some undefA, none, false, .pu (.mov (.c (.int .i64 0)))⟩])
 (.block 6 (.loop (.seq (.seq (.ops [⟨(some 116), some undefA, none, false, .pu (.mov (.s 13))⟩,
     ⟨(some 117), some undefA, none, false, .pu (.mov (.s 5))⟩,
     ⟨(some 118), some undefA, none, false, .pu (.len (.s 117))⟩,
     ⟨(some 119), some undefA, none, false, .pu (.bin .lss (.s 116) (.s 118))⟩])
   (.cond (.s 119) (.skip)
   (.exit 6)))
   (.seq (.block 7 (.seq (.ops [⟨(some 122), some undefA, none, false, .pu (.mov (.s 5))⟩,
      ⟨(some 123), some undefA, none, false, .pu (.mov (.s 13))⟩,
      ⟨(some 124), some undefA, none, false, .pu (.idx 1 (.s 122) (.s 123))⟩,
      ⟨(some 125), some undefA, none, false, .ld (.ld 1 false (.s 124))⟩,
      ⟨(some 126), some undefA, none, false, .pu (.len (.s 125))⟩,
      ⟨(some 127), some undefA, none, false, .pu (.bin .gtr (.s 126) (.c (.int .i64 0)))⟩])
    (.cond (.s 127) (.ops [⟨(some 128), some undefA, none, false, .pu (.mov (.s 12))⟩,
       ⟨(some 129), some undefA, none, false, .pu (.mov (.s 13))⟩,
       ⟨(some 130), some undefA, none, false, .call 60 [(.s 129)]⟩,
       ⟨(some 131), some undefA, none, false, .pu (.mm true (.s 128) [(.s 130)])⟩,
       ⟨(some 12), some undefA, none, false, .pu (.mov (.s 131))⟩])
    (.skip))))
   (.ops [⟨(some 120), some undefA, none, false, .pu (.mov (.s 13))⟩,
     ⟨(some 121), some undefA, none, false, .pu (.bin .add (.s 120) (.c (.int .i64 1)))⟩,
     ⟨(some 13), some undefA, none, false, .pu (.mov (.s 121))⟩]))))))
 (.seq (.ops [⟨(some 132), some undefA, none, false, .pu (.badr none 1)⟩,
   ⟨(some 133), some undefA, none, false, .pu (.bget (some 132) 1 0 1 false)⟩,
   ⟨(some 134), some undefA, none, false, .ha (.mks 1 [.int .i64 0] (.s 133) (.s 133))⟩,
   ⟨(some 14), some undefA, none, false, .pu (.mov (.s 134))⟩])
 (.seq (.seq (.ops [⟨(some 15), some undefA, none, false, .pu (.mov (.c (.int .i64 0)))⟩])
 (.block 8 (.loop (.seq (.seq (.ops [⟨(some 135), some undefA, none, false, .pu (.mov (.s 15))⟩,
     ⟨(some 136), some undefA, none, false, .pu (.mov (.s 5))⟩,
     ⟨(some 137), some undefA, none, false, .pu (.len (.s 136))⟩,
     ⟨(some 138), some undefA, none, false, .pu (.bin .lss (.s 135) (.s 137))⟩])
   (.cond (.s 138) (.skip)
   (.exit 8)))
   (.seq (.block 9 (.seq (.ops [⟨(some 141), some undefA, none, false, .pu (.mov (.s 5))⟩,
      ⟨(some 142), some undefA, none, false, .pu (.mov (.s 15))⟩,
      ⟨(some 143), some undefA, none, false, .pu (.idx 1 (.s 141) (.s 142))⟩,
      ⟨(some 144), some undefA, none, false, .ld (.ld 1 false (.s 143))⟩,
      ⟨(some 145), some undefA, none, false, .pu (.len (.s 144))⟩,
      ⟨(some 146), some undefA, none, false, .pu (.bin .gtr (.s 145) (.c (.int .i64 0)))⟩,
      ⟨(some 147), some undefA, none, false, .pu (.mov (.s 146))⟩,
      ⟨(some 148), some undefA, (some (147, true)), false, .pu (.mov (.s 15))⟩,
      ⟨(some 149), some undefA, (some (147, true)), false, .call 60 [(.s 148)]⟩,
      ⟨(some 150), some undefA, (some (147, true)), false, .pu (.mov (.s 12))⟩,
      ⟨(some 151), some undefA, (some (147, true)), false, .pu (.bin .eql (.s 149) (.s 150))⟩,
      ⟨(some 152), some undefA, none, false, .pu (.pick (.s 147) (.s 151) (.c (.bool false)))⟩,
      ⟨(some 153), some undefA, none, false, .pu (.mov (.s 152))⟩,
      ⟨(some 154), some undefA, (some (153, true)), false, .pu (.mov (.s 5))⟩,
      ⟨(some 155), some undefA, (some (153, true)), false, .pu (.mov (.s 15))⟩,
      ⟨(some 156), some undefA, (some (153, true)), false, .pu (.idx 1 (.s 154) (.s 155))⟩,
      ⟨(some 157), some undefA, (some (153, true)), false, .ld (.ld 1 false (.s 156))⟩,
      ⟨(some 158), some undefA, (some (153, true)), false, .pu (.mov (.s 14))⟩,
      ⟨(some 159), some undefA, (some (153, true)), false, .call 84 [(.s 157), (.s 158)]⟩,
      ⟨(some 160), some undefA, none, false, .pu (.pick (.s 153) (.s 159) (.c (.bool false)))⟩])
    (.cond (.s 160) (.ops [⟨(some 161), some undefA, none, false, .pu (.mov (.s 5))⟩,
       ⟨(some 162), some undefA, none, false, .pu (.mov (.s 15))⟩,
       ⟨(some 163), some undefA, none, false, .pu (.idx 1 (.s 161) (.s 162))⟩,
       ⟨(some 164), some undefA, none, false, .ld (.ld 1 false (.s 163))⟩,
       ⟨(some 14), some undefA, none, false, .pu (.mov (.s 164))⟩])
    (.skip))))
   (.ops [⟨(some 139), some undefA, none, false, .pu (.mov (.s 15))⟩,
     ⟨(some 140), some undefA, none, false, .pu (.bin .add (.s 139) (.c (.int .i64 1)))⟩,
     ⟨(some 15), some undefA, none, false, .pu (.mov (.s 140))⟩]))))))
 (.seq (.ops [⟨(some 165), some undefA, none, false, .pu (.mov (.s 14))⟩,
   ⟨(some 2), some undefA, none, false, .pu (.mov (.s 165))⟩,
   ⟨(some 3), some undefA, none, false, .pu (.mov (.c (.int .i64 0)))⟩])
 (.ret))))))))))⟩
theorem t49 : trF Try.prog [1] [] Try.f49 = some m49 := by kernel_rfl

/-- selion/selionref07.CheckCover [loop [1, 2, 3, 9], loop [1, 2, 3, 9, 10]] -/
def m50 : MFun := ⟨68, [3], [.mov (.s 6), .mov (.s 7)],
 .seq (.ops [⟨(some 3), some (.junk), none, false, .pu (.bnew (.s 0))⟩,
   ⟨(some 6), some undefA, none, false, .pu (.mov (.c (.int .i64 0)))⟩,
   ⟨(some 7), some undefA, none, false, .pu (.mov (.c (.int .i64 0)))⟩])
 (.seq (.seq (.ops [⟨(some 11), some undefA, none, false, .pu (.bget none 3 0 2 true)⟩,
   ⟨(some 12), some undefA, none, false, .call 40 [(.s 11)]⟩,
   ⟨(some 8), some undefA, none, false, .pu (.mov (.s 12))⟩])
 (.seq (.ops [⟨(some 13), some undefA, none, false, .pu (.mov (.s 8))⟩,
   ⟨(some 14), some undefA, none, false, .pu (.bin .neq (.s 13) (.c (.int .i64 0)))⟩])
 (.cond (.s 14) (.seq (.ops [⟨(some 15), some undefA, none, false, .pu (.mov (.s 8))⟩,
    ⟨(some 6), some undefA, none, false, .pu (.mov (.c (.int .i64 0)))⟩,
    ⟨(some 7), some undefA, none, false, .pu (.mov (.s 15))⟩])
  (.ret))
 (.skip))))
 (.seq (.seq (.ops [⟨(some 16), some undefA, none, false, .pu (.mov (.s 1))⟩,
   ⟨(some 17), some undefA, none, false, .pu (.badr none 3)⟩,
   ⟨(some 18), some undefA, none, false, .pu (.bget (some 17) 3 1 1 false)⟩,
   ⟨(some 19), some undefA, none, false, .pu (.len (.s 18))⟩,
   ⟨(some 20), some undefA, none, false, .call 76 [(.s 16), (.s 19)]⟩,
   ⟨(some 21), some undefA, none, false, .pu (.not (.s 20))⟩,
   ⟨(some 22), some undefA, none, false, .pu (.mov (.s 21))⟩,
   ⟨(some 23), some undefA, (some (22, false)), false, .pu (.mov (.s 2))⟩,
   ⟨(some 24), some undefA, (some (22, false)), false, .pu (.badr none 3)⟩,
   ⟨(some 25), some undefA, (some (22, false)), false, .pu (.bget (some 24) 3 0 1 false)⟩,
   ⟨(some 26), some undefA, (some (22, false)), false, .call 76 [(.s 23), (.s 25)]⟩,
   ⟨(some 27), some undefA, (some (22, false)), false, .pu (.not (.s 26))⟩,
   ⟨(some 28), some undefA, none, false, .pu (.pick (.s 22) (.c (.bool true)) (.s 27))⟩])
 (.cond (.s 28) (.seq (.ops [⟨(some 6), some undefA, none, false, .pu (.mov (.c (.int .i64 0)))⟩,
    ⟨(some 7), some undefA, none, false, .pu (.mov (.c (.int .i64 1)))⟩])
  (.ret))
 (.skip)))
 (.seq (.seq (.ops [⟨(some 9), some undefA, none, false, .pu (.mov (.c (.int .i64 0)))⟩])
 (.block 0 (.loop (.seq (.seq (.ops [⟨(some 29), some undefA, none, false, .pu (.mov (.s 9))⟩,
     ⟨(some 30), some undefA, none, false, .pu (.badr none 3)⟩,
     ⟨(some 31), some undefA, none, false, .pu (.bget (some 30) 3 1 1 false)⟩,
     ⟨(some 32), some undefA, none, false, .pu (.len (.s 31))⟩,
     ⟨(some 33), some undefA, none, false, .pu (.bin .lss (.s 29) (.s 32))⟩])
   (.cond (.s 33) (.skip)
   (.exit 0)))
   (.seq (.block 1 (.seq (.ops [⟨(some 10), some undefA, none, false, .pu (.mov (.c (.int .i64 0)))⟩])
    (.block 2 (.loop (.seq (.seq (.ops [⟨(some 36), some undefA, none, false, .pu (.mov (.s 10))⟩,
        ⟨(some 37), some undefA, none, false, .pu (.badr none 3)⟩,
        ⟨(some 38), some undefA, none, false, .pu (.bget (some 37) 3 1 1 false)⟩,
        ⟨(some 39), some undefA, none, false, .pu (.mov (.s 9))⟩,
        ⟨(some 40), some undefA, none, false, .pu (.idx 1 (.s 38) (.s 39))⟩,
        ⟨(some 41), some undefA, none, false, .ld (.ld 1 false (.s 40))⟩,
        ⟨(some 42), some undefA, none, false, .pu (.len (.s 41))⟩,
        ⟨(some 43), some undefA, none, false, .pu (.bin .lss (.s 36) (.s 42))⟩])
      (.cond (.s 43) (.skip)
      (.exit 2)))
      (.seq (.block 3 (.seq (.ops [⟨(some 46), some undefA, none, false, .pu (.mov (.s 1))⟩,
         ⟨(some 47), some undefA, none, false, .pu (.mov (.s 9))⟩,
         ⟨(some 48), some undefA, none, false, .call 65 [(.s 46), (.s 47)]⟩,
         ⟨(some 49), some undefA, none, false, .pu (.not (.s 48))⟩,
         ⟨(some 50), some undefA, none, false, .pu (.mov (.s 49))⟩,
         ⟨(some 51), some undefA, (some (50, true)), false, .pu (.mov (.s 2))⟩,
         ⟨(some 52), some undefA, (some (50, true)), false, .pu (.badr none 3)⟩,
         ⟨(some 53), some undefA, (some (50, true)), false, .pu (.bget (some 52) 3 1 1 false)⟩,
         ⟨(some 54), some undefA, (some (50, true)), false, .pu (.mov (.s 9))⟩,
         ⟨(some 55), some undefA, (some (50, true)), false, .pu (.idx 1 (.s 53) (.s 54))⟩,
         ⟨(some 56), some undefA, (some (50, true)), false, .ld (.ld 1 false (.s 55))⟩,
         ⟨(some 57), some undefA, (some (50, true)), false, .pu (.mov (.s 10))⟩,
         ⟨(some 58), some undefA, (some (50, true)), false, .pu (.idx 1 (.s 56) (.s 57))⟩,
         ⟨(some 59), some undefA, (some (50, true)), false, .ld (.ld 1 false (.s 58))⟩,
         ⟨(some 60), some undefA, (some (50, true)), false, .call 65 [(.s 51), (.s 59)]⟩,
         ⟨(some 61), some undefA, (some (50, true)), false, .pu (.not (.s 60))⟩,
         ⟨(some 62), some undefA, none, false, .pu (.pick (.s 50) (.s 61) (.c (.bool false)))⟩])
       (.cond (.s 62) (.seq (.ops [⟨(some 6), some undefA, none, false, .pu (.mov (.c (.int .i64 0)))⟩,
          ⟨(some 7), some undefA, none, false, .pu (.mov (.c (.int .i64 7)))⟩])
        (.ret))
       (.skip))))
      (.ops [⟨(some 44), some undefA, none, false, .pu (.mov (.s 10))⟩,
        ⟨(some 45), some undefA, none, false, .pu (.bin .add (.s 44) (.c (.int .i64 1)))⟩,
        ⟨(some 10), some undefA, none, false, .pu (.mov (.s 45))⟩])))))))
   (.ops [⟨(some 34), some undefA, none, false, .pu (.mov (.s 9))⟩,
     ⟨(some 35), some undefA, none, false, .pu (.bin .add (.s 34) (.c (.int .i64 1)))⟩,
     ⟨(some 9), some undefA, none, false, .pu (.mov (.s 35))⟩]))))))
 (.seq (.ops [⟨(some 63), some undefA, none, false, .pu (.mov (.s 1))⟩,
   ⟨(some 64), some undefA, none, false, .pu (.len (.s 63))⟩,
   ⟨(some 65), some undefA, none, false, .pu (.mov (.s 2))⟩,
   ⟨(some 66), some undefA, none, false, .pu (.len (.s 65))⟩,
   ⟨(some 67), some undefA, none, false, .pu (.bin .add (.s 64) (.s 66))⟩,
   ⟨(some 6), some undefA, none, false, .pu (.mov (.s 67))⟩,
   ⟨(some 7), some undefA, none, false, .pu (.mov (.c (.int .i64 0)))⟩])
 (.ret)))))⟩
theorem t50 : trF Try.prog [3] [] Try.f50 = some m50 := by kernel_rfl

/-- selion/wish.Cover [loop [1, 6, 7, 18, 19]] -/
def m51 : MFun := ⟨35, [1], [.mov (.s 2), .mov (.s 3), .mov (.s 4)],
 .seq (.ops [⟨(some 1), some (.junk), none, false, .pu (.bnew (.s 0))⟩,
   ⟨(some 2), some undefA, none, false, .pu (.mov (.c (.nilS)))⟩,
   ⟨(some 3), some undefA, none, false, .pu (.mov (.c (.nilS)))⟩,
   ⟨(some 4), some undefA, none, false, .pu (.mov (.c (.int .i64 0)))⟩])
 (.seq (.seq (.ops [⟨(some 9), some undefA, none, false, .pu (.bget none 1 0 2 true)⟩,
   ⟨(some 10), some undefA, none, false, .call 39 [(.s 9)]⟩,
   ⟨(some 5), some undefA, none, false, .pu (.mov (.s 10))⟩])
 (.seq (.ops [⟨(some 11), some undefA, none, false, .pu (.mov (.s 5))⟩,
   ⟨(some 12), some undefA, none, false, .pu (.bin .neq (.s 11) (.c (.int .i64 0)))⟩])
 (.cond (.s 12) (.seq (.ops [⟨(some 13), some undefA, none, false, .pu (.mov (.s 5))⟩,
    ⟨(some 2), some undefA, none, false, .pu (.mov (.c (.nilS)))⟩,
    ⟨(some 3), some undefA, none, false, .pu (.mov (.c (.nilS)))⟩,
    ⟨(some 4), some undefA, none, false, .pu (.mov (.s 13))⟩])
  (.ret))
 (.skip))))
 (.seq (.ops [⟨(some 14), some undefA, none, false, .pu (.bget none 1 0 2 true)⟩,
   ⟨(some 15), some undefA, none, false, .call 80 [(.s 14)]⟩,
   ⟨(some 6), some undefA, none, false, .pu (.mov (.s 15))⟩])
 (.seq (.ops [⟨(some 7), some undefA, none, false, .pu (.mov (.c (.nilS)))⟩])
 (.seq (.seq (.ops [⟨(some 16), some undefA, none, false, .pu (.badr none 1)⟩,
   ⟨(some 17), some undefA, none, false, .pu (.bget (some 16) 1 1 1 false)⟩,
   ⟨(some 18), some undefA, none, false, .pu (.len (.s 17))⟩,
   ⟨(some 19), some undefA, none, false, .pu (.mov (.c (.int .i64 0)))⟩])
 (.block 0 (.loop (.seq (.ops [⟨(some 20), some undefA, none, false, .pu (.bin .lss (.s 19) (.s 18))⟩])
   (.seq (.cond (.s 20) (.skip)
   (.exit 0))
   (.seq (.block 1 (.seq (.ops [⟨(some 21), some undefA, none, false, .pu (.mov (.s 19))⟩,
      ⟨(some 8), some undefA, none, false, .pu (.mov (.s 21))⟩])
    (.seq (.ops [⟨(some 22), some undefA, none, false, .pu (.mov (.s 6))⟩,
      ⟨(some 23), some undefA, none, false, .pu (.mov (.s 8))⟩,
      ⟨(some 24), some undefA, none, false, .call 71 [(.s 22), (.s 23)]⟩,
      ⟨(some 25), some undefA, none, false, .pu (.not (.s 24))⟩])
    (.cond (.s 25) (.ops [⟨(some 26), some undefA, none, false, .pu (.mov (.s 7))⟩,
       ⟨(some 27), some undefA, none, false, .pu (.mov (.s 8))⟩,
       ⟨(some 28), some undefA, none, false, .ha (.blds 1 1 [.int .i64 0] [(0, 1, (.s 27))])⟩,
       ⟨(some 29), some undefA, none, false, .ha (.app 1 (.s 26) (.s 28))⟩,
       ⟨(some 7), some undefA, none, false, .pu (.mov (.s 29))⟩])
    (.skip)))))
   (.ops [⟨(some 30), some undefA, none, false, .pu (.bin .add (.s 19) (.c (.int .i64 1)))⟩,
     ⟨(some 19), some undefA, none, false, .pu (.mov (.s 30))⟩])))))))
 (.seq (.ops [⟨(some 31), some undefA, none, false, .pu (.mov (.s 7))⟩,
   ⟨(some 32), some undefA, none, false, .pu (.bget none 1 0 2 true)⟩,
   ⟨(some 33), some undefA, none, false, .pu (.mov (.s 6))⟩,
   ⟨(some 34), some undefA, none, false, .call 75 [(.s 32), (.s 33)]⟩,
   ⟨(some 2), some undefA, none, false, .pu (.mov (.s 31))⟩,
   ⟨(some 3), some undefA, none, false, .pu (.mov (.s 34))⟩,
   ⟨(some 4), some undefA, none, false, .pu (.mov (.c (.int .i64 0)))⟩])
 (.ret))))))⟩
theorem t51 : trF Try.prog [1] [] Try.f51 = some m51 := by kernel_rfl

/-- selion/wish.Line [loop [2, 8, 36, 37, 38]] -/
def m52 : MFun := ⟨66, [2], [.mov (.s 4), .mov (.s 5)],
 .seq (.ops [⟨(some 2), some (.junk), none, false, .pu (.bnew (.s 0))⟩,
   ⟨(some 4), some undefA, none, false, .pu (.mov (.c (.nilS)))⟩,
   ⟨(some 5), some undefA, none, false, .pu (.mov (.c (.int .i64 0)))⟩])
 (.seq (.seq (.ops [⟨(some 12), some undefA, none, false, .pu (.bget none 2 0 2 true)⟩,
   ⟨(some 13), some undefA, none, false, .call 39 [(.s 12)]⟩,
   ⟨(some 6), some undefA, none, false, .pu (.mov (.s 13))⟩])
 (.seq (.ops [⟨(some 14), some undefA, none, false, .pu (.mov (.s 6))⟩,
   ⟨(some 15), some undefA, none, false, .pu (.bin .neq (.s 14) (.c (.int .i64 0)))⟩])
 (.cond (.s 15) (.seq (.ops [⟨(some 16), some undefA, none, false, .pu (.mov (.s 6))⟩,
    ⟨(some 4), some undefA, none, false, .pu (.mov (.c (.nilS)))⟩,
    ⟨(some 5), some undefA, none, false, .pu (.mov (.s 16))⟩])
  (.ret))
 (.skip))))
 (.seq (.seq (.ops [⟨(some 17), some undefA, none, false, .pu (.mov (.s 1))⟩,
   ⟨(some 18), some undefA, none, false, .call 86 [(.s 17)]⟩,
   ⟨(some 19), some undefA, none, false, .call 85 [(.s 18)]⟩,
   ⟨(some 7), some undefA, none, false, .pu (.mov (.s 19))⟩])
 (.seq (.ops [⟨(some 20), some undefA, none, false, .pu (.mov (.s 1))⟩,
   ⟨(some 21), some undefA, none, false, .pu (.len (.s 20))⟩,
   ⟨(some 22), some undefA, none, false, .pu (.badr none 2)⟩,
   ⟨(some 23), some undefA, none, false, .pu (.bget (some 22) 2 1 1 false)⟩,
   ⟨(some 24), some undefA, none, false, .pu (.len (.s 23))⟩,
   ⟨(some 25), some undefA, none, false, .pu (.bin .neq (.s 21) (.s 24))⟩,
   ⟨(some 26), some undefA, none, false, .pu (.mov (.s 25))⟩,
   ⟨(some 27), some undefA, (some (26, false)), false, .pu (.mov (.s 7))⟩,
   ⟨(some 28), some undefA, (some (26, false)), false, .pu (.badr none 2)⟩,
   ⟨(some 29), some undefA, (some (26, false)), false, .pu (.bget (some 28) 2 1 1 false)⟩,
   ⟨(some 30), some undefA, (some (26, false)), false, .pu (.len (.s 29))⟩,
   ⟨(some 31), some undefA, (some (26, false)), false, .call 78 [(.s 27), (.s 30)]⟩,
   ⟨(some 32), some undefA, (some (26, false)), false, .pu (.not (.s 31))⟩,
   ⟨(some 33), some undefA, none, false, .pu (.pick (.s 26) (.c (.bool true)) (.s 32))⟩])
 (.cond (.s 33) (.seq (.ops [⟨(some 4), some undefA, none, false, .pu (.mov (.c (.nilS)))⟩,
    ⟨(some 5), some undefA, none, false, .pu (.mov (.c (.int .i64 1)))⟩])
  (.ret))
 (.skip))))
 (.seq (.ops [⟨(some 34), some undefA, none, false, .pu (.bget none 2 0 2 true)⟩,
   ⟨(some 35), some undefA, none, false, .call 63 [(.s 34)]⟩,
   ⟨(some 8), some undefA, none, false, .ha (.newv (.c (.agg [.int .i64 0, .nilS, .nilS])))⟩,
   ⟨none, some undefA, none, false, .ha (.st 3 (.s 8) (.s 35))⟩])
 (.seq (.seq (.ops [⟨(some 36), some undefA, none, false, .pu (.mov (.s 1))⟩,
   ⟨(some 37), some undefA, none, false, .pu (.len (.s 36))⟩,
   ⟨(some 38), some undefA, none, false, .pu (.mov (.c (.int .i64 0)))⟩])
 (.block 0 (.loop (.seq (.ops [⟨(some 39), some undefA, none, false, .pu (.bin .lss (.s 38) (.s 37))⟩])
   (.seq (.cond (.s 39) (.skip)
   (.exit 0))
   (.seq (.block 1 (.seq (.ops [⟨(some 40), some undefA, none, false, .pu (.idx 1 (.s 36) (.s 38))⟩,
      ⟨(some 41), some undefA, none, false, .ld (.ld 1 false (.s 40))⟩,
      ⟨(some 10), some undefA, none, false, .pu (.mov (.s 41))⟩])
    (.seq (.ops [⟨(some 42), some undefA, none, false, .pu (.badr none 2)⟩,
      ⟨(some 43), some undefA, none, false, .pu (.bget (some 42) 2 1 1 false)⟩,
      ⟨(some 44), some undefA, none, false, .pu (.mov (.s 10))⟩,
      ⟨(some 45), some undefA, none, false, .pu (.idx 1 (.s 43) (.s 44))⟩,
      ⟨(some 46), some undefA, none, false, .ld (.ld 1 false (.s 45))⟩,
      ⟨(some 47), some undefA, none, false, .pu (.mkf 88 [(.s 8)])⟩,
      ⟨(some 48), some undefA, none, false, .call 87 [(.s 46), (.s 47)]⟩,
      ⟨(some 11), some undefA, none, false, .pu (.mov (.s 48))⟩])
    (.seq (.ops [⟨(some 49), some undefA, none, false, .pu (.mov (.s 11))⟩,
      ⟨(some 50), some undefA, none, false, .pu (.bin .geq (.s 49) (.c (.int .i64 0)))⟩])
    (.cond (.s 50) (.ops [⟨(some 51), some undefA, none, true, .pu (.fad 2 (.s 8))⟩,
       ⟨(some 52), some undefA, none, true, .ld (.ld 1 false (.s 51))⟩,
       ⟨(some 53), some undefA, none, true, .pu (.mov (.s 10))⟩,
       ⟨(some 54), some undefA, none, true, .pu (.badr none 2)⟩,
       ⟨(some 55), some undefA, none, true, .pu (.bget (some 54) 2 1 1 false)⟩,
       ⟨(some 56), some undefA, none, true, .pu (.mov (.s 10))⟩,
       ⟨(some 57), some undefA, none, true, .pu (.idx 1 (.s 55) (.s 56))⟩,
       ⟨(some 58), some undefA, none, true, .ld (.ld 1 false (.s 57))⟩,
       ⟨(some 59), some undefA, none, true, .pu (.mov (.s 11))⟩,
       ⟨(some 60), some undefA, none, true, .pu (.idx 1 (.s 58) (.s 59))⟩,
       ⟨(some 61), some undefA, none, true, .ld (.ld 1 false (.s 60))⟩,
       ⟨(some 62), some undefA, none, false, .pu (.idx 1 (.s 52) (.s 53))⟩,
       ⟨none, some undefA, none, false, .ha (.st 1 (.s 62) (.s 61))⟩])
    (.skip))))))
   (.ops [⟨(some 63), some undefA, none, false, .pu (.bin .add (.s 38) (.c (.int .i64 1)))⟩,
     ⟨(some 38), some undefA, none, false, .pu (.mov (.s 63))⟩])))))))
 (.seq (.ops [⟨(some 64), some undefA, none, false, .pu (.fad 2 (.s 8))⟩,
   ⟨(some 65), some undefA, none, false, .ld (.ld 1 false (.s 64))⟩,
   ⟨(some 4), some undefA, none, false, .pu (.mov (.s 65))⟩,
   ⟨(some 5), some undefA, none, false, .pu (.mov (.c (.int .i64 0)))⟩])
 (.ret))))))⟩
theorem t52 : trF Try.prog [2] [] Try.f52 = some m52 := by kernel_rfl

/-- selion/selionref07.Line [loop [1, 2, 7], loop [1, 2, 8, 9, 10], loop [1, 2, 8, 9, 10, 11, 12]] -/
def m53 : MFun := ⟨110, [2], [.mov (.s 4), .mov (.s 5)],
 .seq (.ops [⟨(some 2), some (.junk), none, false, .pu (.bnew (.s 0))⟩,
   ⟨(some 4), some undefA, none, false, .pu (.mov (.c (.nilS)))⟩,
   ⟨(some 5), some undefA, none, false, .pu (.mov (.c (.int .i64 0)))⟩])
 (.seq (.seq (.ops [⟨(some 13), some undefA, none, false, .pu (.bget none 2 0 2 true)⟩,
   ⟨(some 14), some undefA, none, false, .call 40 [(.s 13)]⟩,
   ⟨(some 6), some undefA, none, false, .pu (.mov (.s 14))⟩])
 (.seq (.ops [⟨(some 15), some undefA, none, false, .pu (.mov (.s 6))⟩,
   ⟨(some 16), some undefA, none, false, .pu (.bin .neq (.s 15) (.c (.int .i64 0)))⟩])
 (.cond (.s 16) (.seq (.ops [⟨(some 17), some undefA, none, false, .pu (.mov (.s 6))⟩,
    ⟨(some 4), some undefA, none, false, .pu (.mov (.c (.nilS)))⟩,
    ⟨(some 5), some undefA, none, false, .pu (.mov (.s 17))⟩])
  (.ret))
 (.skip))))
 (.seq (.seq (.ops [⟨(some 18), some undefA, none, false, .pu (.mov (.s 1))⟩,
   ⟨(some 19), some undefA, none, false, .pu (.len (.s 18))⟩,
   ⟨(some 20), some undefA, none, false, .pu (.badr none 2)⟩,
   ⟨(some 21), some undefA, none, false, .pu (.bget (some 20) 2 1 1 false)⟩,
   ⟨(some 22), some undefA, none, false, .pu (.len (.s 21))⟩,
   ⟨(some 23), some undefA, none, false, .pu (.bin .neq (.s 19) (.s 22))⟩])
 (.cond (.s 23) (.seq (.ops [⟨(some 4), some undefA, none, false, .pu (.mov (.c (.nilS)))⟩,
    ⟨(some 5), some undefA, none, false, .pu (.mov (.c (.int .i64 1)))⟩])
  (.ret))
 (.skip)))
 (.seq (.seq (.ops [⟨(some 7), some undefA, none, false, .pu (.mov (.c (.int .i64 0)))⟩])
 (.block 0 (.loop (.seq (.seq (.ops [⟨(some 24), some undefA, none, false, .pu (.mov (.s 7))⟩,
     ⟨(some 25), some undefA, none, false, .pu (.mov (.s 1))⟩,
     ⟨(some 26), some undefA, none, false, .pu (.len (.s 25))⟩,
     ⟨(some 27), some undefA, none, false, .pu (.bin .lss (.s 24) (.s 26))⟩])
   (.cond (.s 27) (.skip)
   (.exit 0)))
   (.seq (.block 1 (.seq (.ops [⟨(some 30), some undefA, none, false, .pu (.mov (.s 1))⟩,
      ⟨(some 31), some undefA, none, false, .pu (.mov (.s 7))⟩,
      ⟨(some 32), some undefA, none, false, .pu (.idx 1 (.s 30) (.s 31))⟩,
      ⟨(some 33), some undefA, none, true, .ld (.ld 1 false (.s 32))⟩,
      ⟨(some 34), some undefA, none, true, .pu (.badr none 2)⟩,
      ⟨(some 35), some undefA, none, true, .pu (.bget (some 34) 2 1 1 false)⟩,
      ⟨(some 36), some undefA, none, true, .pu (.len (.s 35))⟩,
      ⟨(some 37), some undefA, none, true, .pu (.bin .sub (.s 36) (.c (.int .i64 1)))⟩,
      ⟨(some 38), some undefA, none, false, .call 64 [(.s 33), (.c (.int .i64 0)), (.s 37)]⟩,
      ⟨(some 39), some undefA, none, false, .pu (.not (.s 38))⟩,
      ⟨(some 40), some undefA, none, false, .pu (.mov (.s 39))⟩,
      ⟨(some 41), some undefA, (some (40, false)), true, .pu (.mov (.s 1))⟩,
      ⟨(some 42), some undefA, (some (40, false)), true, .pu (.mov (.s 7))⟩,
      ⟨(some 43), some undefA, (some (40, false)), true, .pu (.slc 1 (.s 41) none (some (.s 42)) none)⟩,
      ⟨(some 44), some undefA, (some (40, false)), false, .pu (.mov (.s 1))⟩,
      ⟨(some 45), some undefA, (some (40, false)), false, .pu (.mov (.s 7))⟩,
      ⟨(some 46), some undefA, (some (40, false)), false, .pu (.idx 1 (.s 44) (.s 45))⟩,
      ⟨(some 47), some undefA, (some (40, false)), true, .ld (.ld 1 false (.s 46))⟩,
      ⟨(some 48), some undefA, (some (40, false)), false, .call 65 [(.s 43), (.s 47)]⟩,
      ⟨(some 49), some undefA, none, false, .pu (.pick (.s 40) (.c (.bool true)) (.s 48))⟩])
    (.cond (.s 49) (.seq (.ops [⟨(some 4), some undefA, none, false, .pu (.mov (.c (.nilS)))⟩,
       ⟨(some 5), some undefA, none, false, .pu (.mov (.c (.int .i64 1)))⟩])
     (.ret))
    (.skip))))
   (.ops [⟨(some 28), some undefA, none, false, .pu (.mov (.s 7))⟩,
     ⟨(some 29), some undefA, none, false, .pu (.bin .add (.s 28) (.c (.int .i64 1)))⟩,
     ⟨(some 7), some undefA, none, false, .pu (.mov (.s 29))⟩]))))))
 (.seq (.ops [⟨(some 50), some undefA, none, false, .pu (.badr none 2)⟩,
   ⟨(some 51), some undefA, none, false, .pu (.bget (some 50) 2 1 1 false)⟩,
   ⟨(some 52), some undefA, none, false, .pu (.len (.s 51))⟩,
   ⟨(some 53), some undefA, none, false, .ha (.mks 1 [.int .i64 0] (.s 52) (.s 52))⟩,
   ⟨(some 8), some undefA, none, false, .pu (.mov (.s 53))⟩])
 (.seq (.ops [⟨(some 9), some undefA, none, false, .pu (.mov (.c (.nilS)))⟩])
 (.seq (.seq (.ops [⟨(some 10), some undefA, none, false, .pu (.mov (.c (.int .i64 0)))⟩])
 (.block 2 (.loop (.seq (.seq (.ops [⟨(some 54), some undefA, none, false, .pu (.mov (.s 10))⟩,
     ⟨(some 55), some undefA, none, false, .pu (.mov (.s 1))⟩,
     ⟨(some 56), some undefA, none, false, .pu (.len (.s 55))⟩,
     ⟨(some 57), some undefA, none, false, .pu (.bin .lss (.s 54) (.s 56))⟩])
   (.cond (.s 57) (.skip)
   (.exit 2)))
   (.seq (.block 3 (.seq (.ops [⟨(some 60), some undefA, none, true, .pu (.badr none 2)⟩,
      ⟨(some 61), some undefA, none, true, .pu (.bget (some 60) 2 1 1 false)⟩,
      ⟨(some 62), some undefA, none, false, .pu (.mov (.s 1))⟩,
      ⟨(some 63), some undefA, none, false, .pu (.mov (.s 10))⟩,
      ⟨(some 64), some undefA, none, false, .pu (.idx 1 (.s 62) (.s 63))⟩,
      ⟨(some 65), some undefA, none, true, .ld (.ld 1 false (.s 64))⟩,
      ⟨(some 66), some undefA, none, false, .pu (.idx 1 (.s 61) (.s 65))⟩,
      ⟨(some 67), some undefA, none, true, .ld (.ld 1 false (.s 66))⟩,
      ⟨(some 11), some undefA, none, false, .pu (.mov (.s 67))⟩])
    (.seq (.ops [⟨(some 12), some undefA, none, false, .pu (.mov (.c (.int .i64 0)))⟩])
    (.seq (.block 4 (.loop (.seq (.seq (.ops [⟨(some 68), some undefA, none, false, .pu (.mov (.s 12))⟩,
        ⟨(some 69), some undefA, none, false, .pu (.mov (.s 11))⟩,
        ⟨(some 70), some undefA, none, false, .pu (.len (.s 69))⟩,
        ⟨(some 71), some undefA, none, false, .pu (.bin .lss (.s 68) (.s 70))⟩,
        ⟨(some 72), some undefA, none, false, .pu (.mov (.s 71))⟩,
        ⟨(some 73), some undefA, (some (72, true)), false, .pu (.mov (.s 9))⟩,
        ⟨(some 74), some undefA, (some (72, true)), false, .pu (.mov (.s 11))⟩,
        ⟨(some 75), some undefA, (some (72, true)), false, .pu (.mov (.s 12))⟩,
        ⟨(some 76), some undefA, (some (72, true)), false, .pu (.idx 1 (.s 74) (.s 75))⟩,
        ⟨(some 77), some undefA, (some (72, true)), false, .ld (.ld 1 false (.s 76))⟩,
        ⟨(some 78), some undefA, (some (72, true)), false, .call 65 [(.s 73), (.s 77)]⟩,
        ⟨(some 79), some undefA, none, false, .pu (.pick (.s 72) (.s 78) (.c (.bool false)))⟩])
      (.cond (.s 79) (.skip)
      (.exit 4)))
      (.block 5 (.ops [⟨(some 80), some undefA, none, false, .pu (.mov (.s 12))⟩,
         ⟨(some 81), some undefA, none, false, .pu (.bin .add (.s 80) (.c (.int .i64 1)))⟩,
         ⟨(some 12), some undefA, none, false, .pu (.mov (.s 81))⟩])))))
    (.seq (.ops [⟨(some 82), some undefA, none, false, .pu (.mov (.s 8))⟩,
      ⟨(some 83), some undefA, none, false, .pu (.mov (.s 1))⟩,
      ⟨(some 84), some undefA, none, false, .pu (.mov (.s 10))⟩,
      ⟨(some 85), some undefA, none, false, .pu (.idx 1 (.s 83) (.s 84))⟩,
      ⟨(some 86), some undefA, none, false, .ld (.ld 1 false (.s 85))⟩,
      ⟨(some 87), some undefA, none, false, .pu (.idx 1 (.s 82) (.s 86))⟩,
      ⟨none, some undefA, none, false, .ha (.st 1 (.s 87) (.c (.int .i64 (-1))))⟩])
    (.seq (.ops [⟨(some 88), some undefA, none, false, .pu (.mov (.s 12))⟩,
      ⟨(some 89), some undefA, none, false, .pu (.mov (.s 11))⟩,
      ⟨(some 90), some undefA, none, false, .pu (.len (.s 89))⟩,
      ⟨(some 91), some undefA, none, false, .pu (.bin .lss (.s 88) (.s 90))⟩])
    (.cond (.s 91) (.seq (.ops [⟨(some 92), some undefA, none, true, .pu (.mov (.s 8))⟩,
       ⟨(some 93), some undefA, none, true, .pu (.mov (.s 1))⟩,
       ⟨(some 94), some undefA, none, true, .pu (.mov (.s 10))⟩,
       ⟨(some 95), some undefA, none, true, .pu (.idx 1 (.s 93) (.s 94))⟩,
       ⟨(some 96), some undefA, none, true, .ld (.ld 1 false (.s 95))⟩,
       ⟨(some 97), some undefA, none, true, .pu (.mov (.s 11))⟩,
       ⟨(some 98), some undefA, none, true, .pu (.mov (.s 12))⟩,
       ⟨(some 99), some undefA, none, true, .pu (.idx 1 (.s 97) (.s 98))⟩,
       ⟨(some 100), some undefA, none, true, .ld (.ld 1 false (.s 99))⟩,
       ⟨(some 101), some undefA, none, false, .pu (.idx 1 (.s 92) (.s 96))⟩,
       ⟨none, some undefA, none, false, .ha (.st 1 (.s 101) (.s 100))⟩])
     (.ops [⟨(some 102), some undefA, none, false, .pu (.mov (.s 9))⟩,
       ⟨(some 103), some undefA, none, false, .pu (.mov (.s 11))⟩,
       ⟨(some 104), some undefA, none, false, .pu (.mov (.s 12))⟩,
       ⟨(some 105), some undefA, none, false, .pu (.idx 1 (.s 103) (.s 104))⟩,
       ⟨(some 106), some undefA, none, false, .ld (.ld 1 false (.s 105))⟩,
       ⟨(some 107), some undefA, none, false, .ha (.blds 1 1 [.int .i64 0] [(0, 1, (.s 106))])⟩,
       ⟨(some 108), some undefA, none, false, .ha (.app 1 (.s 102) (.s 107))⟩,
       ⟨(some 9), some undefA, none, false, .pu (.mov (.s 108))⟩]))
    (.skip))))))))
   (.ops [⟨(some 58), some undefA, none, false, .pu (.mov (.s 10))⟩,
     ⟨(some 59), some undefA, none, false, .pu (.bin .add (.s 58) (.c (.int .i64 1)))⟩,
     ⟨(some 10), some undefA, none, false, .pu (.mov (.s 59))⟩]))))))
 (.seq (.ops [⟨(some 109), some undefA, none, false, .pu (.mov (.s 8))⟩,
   ⟨(some 4), some undefA, none, false, .pu (.mov (.s 109))⟩,
   ⟨(some 5), some undefA, none, false, .pu (.mov (.c (.int .i64 0)))⟩])
 (.ret))))))))⟩
theorem t53 : trF Try.prog [2] [] Try.f53 = some m53 := by kernel_rfl

/-- selion/selionlaw07.first [] -/
def m54 : MFun := ⟨6, [0], [.bget none 0 0 2 true],
 .seq (.ops [⟨(some 0), some (.junk), none, false, .pu (.bnew (.c (.agg [.int .i64 0, .nilS])))⟩])
 (.seq (.ops [⟨(some 1), some undefA, none, false, .ha (.blds 1 2 [.int .i64 0] [(0, 1, (.c (.int .i64 0))), (1, 1, (.c (.int .i64 1)))])⟩,
   ⟨(some 2), some undefA, none, false, .ha (.blds 1 1 [.int .i64 0] [(0, 1, (.c (.int .i64 0)))])⟩,
   ⟨(some 3), some undefA, none, false, .ha (.blds 1 1 [.int .i64 0] [(0, 1, (.c (.int .i64 0)))])⟩,
   ⟨(some 4), some undefA, none, false, .ha (.blds 1 3 [.nilS] [(0, 1, (.s 1)), (1, 1, (.s 2)), (2, 1, (.s 3))])⟩,
   ⟨(some 5), some undefA, none, false, .pu (.build [.int .i64 0, .nilS] [(0, 1, (.c (.int .i64 3))), (1, 1, (.s 4))])⟩,
   ⟨(some 0), none, none, false, .pu (.bset none 0 0 2 (.s 5))⟩])
 (.ret))⟩
theorem t54 : trF Try.prog [0] [] Try.f54 = some m54 := by kernel_rfl

/-- slices.Clone[[][]int,[]int] [] -/
def m55 : MFun := ⟨8, [], [.mov (.s 2)],
 .seq (.ops [⟨(some 2), some undefA, none, false, .pu (.mov (.c (.nilS)))⟩])
 (.seq (.seq (.ops [⟨(some 3), some undefA, none, false, .pu (.mov (.s 0))⟩,
   ⟨(some 4), some undefA, none, false, .pu (.isnil false (.s 3))⟩])
 (.cond (.s 4) (.seq (.ops [⟨(some 2), some undefA, none, false, .pu (.mov (.c (.nilS)))⟩])
  (.ret))
 (.skip)))
 (.seq (.ops [⟨(some 5), some undefA, none, false, .ha (.blds 1 0 [.nilS] [])⟩,
   ⟨(some 6), some undefA, none, false, .pu (.mov (.s 0))⟩,
   ⟨(some 7), some undefA, none, false, .ha (.app 1 (.s 5) (.s 6))⟩,
   ⟨(some 2), some undefA, none, false, .pu (.mov (.s 7))⟩])
 (.ret)))⟩
theorem t55 : trF Try.prog [] [] Try.f55 = some m55 := by kernel_rfl

/-- selion/wish.most [] -/
def m56 : MFun := ⟨8, [1], [.mov (.s 2)],
 .seq (.ops [⟨(some 1), some (.junk), none, false, .pu (.bnew (.s 0))⟩,
   ⟨(some 2), some undefA, none, false, .pu (.mov (.c (.int .i64 0)))⟩])
 (.seq (.ops [⟨(some 3), some undefA, none, false, .pu (.bget none 1 0 2 true)⟩,
   ⟨(some 4), some undefA, none, false, .call 63 [(.s 3)]⟩,
   ⟨(some 5), some undefA, none, false, .call 62 [(.s 4)]⟩,
   ⟨(some 6), some undefA, none, false, .pu (.part 2 1 false (.s 5))⟩,
   ⟨(some 7), some undefA, none, false, .call 61 [(.s 6)]⟩,
   ⟨(some 2), some undefA, none, false, .pu (.mov (.s 7))⟩])
 (.ret))⟩
theorem t56 : trF Try.prog [1] [] Try.f56 = some m56 := by kernel_rfl

/-- selion/selionref07.most [loop [0, 3, 4]] -/
def m57 : MFun := ⟨20, [], [.mov (.s 2)],
 .seq (.ops [⟨(some 2), some undefA, none, false, .pu (.mov (.c (.int .i64 0)))⟩])
 (.seq (.ops [⟨(some 3), some undefA, none, false, .pu (.mov (.c (.int .i64 0)))⟩])
 (.seq (.seq (.ops [⟨(some 4), some undefA, none, false, .pu (.mov (.c (.int .i64 0)))⟩])
 (.block 0 (.loop (.seq (.seq (.ops [⟨(some 5), some undefA, none, false, .pu (.mov (.s 4))⟩,
     ⟨(some 6), some undefA, none, false, .pu (.mov (.s 0))⟩,
     ⟨(some 7), some undefA, none, false, .pu (.len (.s 6))⟩,
     ⟨(some 8), some undefA, none, false, .pu (.bin .lss (.s 5) (.s 7))⟩])
   (.cond (.s 8) (.skip)
   (.exit 0)))
   (.seq (.block 1 (.seq (.ops [⟨(some 11), some undefA, none, false, .pu (.mov (.s 0))⟩,
      ⟨(some 12), some undefA, none, false, .pu (.mov (.s 4))⟩,
      ⟨(some 13), some undefA, none, false, .pu (.idx 1 (.s 11) (.s 12))⟩,
      ⟨(some 14), some undefA, none, false, .ld (.ld 1 false (.s 13))⟩])
    (.cond (.s 14) (.ops [⟨(some 15), some undefA, none, false, .pu (.mov (.s 3))⟩,
       ⟨(some 16), some undefA, none, false, .pu (.mov (.s 4))⟩,
       ⟨(some 17), some undefA, none, false, .call 60 [(.s 16)]⟩,
       ⟨(some 18), some undefA, none, false, .pu (.mm true (.s 15) [(.s 17)])⟩,
       ⟨(some 3), some undefA, none, false, .pu (.mov (.s 18))⟩])
    (.skip))))
   (.ops [⟨(some 9), some undefA, none, false, .pu (.mov (.s 4))⟩,
     ⟨(some 10), some undefA, none, false, .pu (.bin .add (.s 9) (.c (.int .i64 1)))⟩,
     ⟨(some 4), some undefA, none, false, .pu (.mov (.s 10))⟩]))))))
 (.seq (.ops [⟨(some 19), some undefA, none, false, .pu (.mov (.s 3))⟩,
   ⟨(some 2), some undefA, none, false, .pu (.mov (.s 19))⟩])
 (.ret))))⟩
theorem t57 : trF Try.prog [] [] Try.f57 = some m57 := by kernel_rfl

/-- selion/selionref07.sets [loop [1, 2, 5, 6], loop [1, 2, 5, 6, 7, 8], loop [1, 2, 5, 6, 7, 8, 9]] -/
def m58 : MFun := ⟨74, [2], [.mov (.s 4)],
 .seq (.ops [⟨(some 2), some (.junk), none, false, .pu (.bnew (.s 0))⟩,
   ⟨(some 4), some undefA, none, false, .pu (.mov (.c (.nilS)))⟩])
 (.seq (.ops [⟨(some 11), some undefA, none, false, .pu (.badr none 2)⟩,
   ⟨(some 12), some undefA, none, false, .pu (.bget (some 11) 2 0 1 false)⟩,
   ⟨(some 13), some undefA, none, false, .pu (.conv .u64 (.s 12))⟩,
   ⟨(some 14), some undefA, none, false, .pu (.bin .shl (.c (.int .i64 1)) (.s 13))⟩,
   ⟨(some 15), some undefA, none, false, .ha (.mks 1 [.bool false] (.s 14) (.s 14))⟩,
   ⟨(some 5), some undefA, none, false, .pu (.mov (.s 15))⟩])
 (.seq (.ops [⟨(some 16), some undefA, none, false, .pu (.mov (.s 5))⟩,
   ⟨(some 17), some undefA, none, false, .pu (.idx 1 (.s 16) (.c (.int .i64 0)))⟩,
   ⟨none, some undefA, none, false, .ha (.st 1 (.s 17) (.c (.bool true)))⟩])
 (.seq (.seq (.ops [⟨(some 6), some undefA, none, false, .pu (.mov (.c (.int .i64 0)))⟩])
 (.block 0 (.loop (.seq (.seq (.ops [⟨(some 18), some undefA, none, false, .pu (.mov (.s 6))⟩,
     ⟨(some 19), some undefA, none, false, .pu (.badr none 2)⟩,
     ⟨(some 20), some undefA, none, false, .pu (.bget (some 19) 2 1 1 false)⟩,
     ⟨(some 21), some undefA, none, false, .pu (.len (.s 20))⟩,
     ⟨(some 22), some undefA, none, false, .pu (.bin .lss (.s 18) (.s 21))⟩])
   (.cond (.s 22) (.skip)
   (.exit 0)))
   (.seq (.block 1 (.seq (.seq (.ops [⟨(some 25), some undefA, none, false, .pu (.mov (.s 6))⟩,
      ⟨(some 26), some undefA, none, false, .pu (.mov (.s 1))⟩,
      ⟨(some 27), some undefA, none, false, .pu (.bin .eql (.s 25) (.s 26))⟩])
    (.cond (.s 27) (.exit 1)
    (.skip)))
    (.seq (.ops [⟨(some 28), some undefA, none, false, .ha (.blds 1 0 [.bool false] [])⟩,
      ⟨(some 29), some undefA, none, false, .pu (.mov (.s 5))⟩,
      ⟨(some 30), some undefA, none, false, .ha (.app 1 (.s 28) (.s 29))⟩,
      ⟨(some 7), some undefA, none, false, .pu (.mov (.s 30))⟩])
    (.seq (.seq (.ops [⟨(some 8), some undefA, none, false, .pu (.mov (.c (.int .i64 0)))⟩])
    (.block 2 (.loop (.seq (.seq (.ops [⟨(some 31), some undefA, none, false, .pu (.mov (.s 8))⟩,
        ⟨(some 32), some undefA, none, false, .pu (.mov (.s 5))⟩,
        ⟨(some 33), some undefA, none, false, .pu (.len (.s 32))⟩,
        ⟨(some 34), some undefA, none, false, .pu (.bin .lss (.s 31) (.s 33))⟩])
      (.cond (.s 34) (.skip)
      (.exit 2)))
      (.seq (.block 3 (.seq (.ops [⟨(some 9), some undefA, none, false, .pu (.mov (.c (.int .i64 0)))⟩])
       (.block 4 (.loop (.seq (.seq (.ops [⟨(some 37), some undefA, none, false, .pu (.mov (.s 9))⟩,
           ⟨(some 38), some undefA, none, false, .pu (.badr none 2)⟩,
           ⟨(some 39), some undefA, none, false, .pu (.bget (some 38) 2 1 1 false)⟩,
           ⟨(some 40), some undefA, none, false, .pu (.mov (.s 6))⟩,
           ⟨(some 41), some undefA, none, false, .pu (.idx 1 (.s 39) (.s 40))⟩,
           ⟨(some 42), some undefA, none, false, .ld (.ld 1 false (.s 41))⟩,
           ⟨(some 43), some undefA, none, false, .pu (.len (.s 42))⟩,
           ⟨(some 44), some undefA, none, false, .pu (.bin .lss (.s 37) (.s 43))⟩,
           ⟨(some 45), some undefA, none, false, .pu (.mov (.s 44))⟩,
           ⟨(some 46), some undefA, (some (45, true)), false, .pu (.mov (.s 5))⟩,
           ⟨(some 47), some undefA, (some (45, true)), false, .pu (.mov (.s 8))⟩,
           ⟨(some 48), some undefA, (some (45, true)), false, .pu (.idx 1 (.s 46) (.s 47))⟩,
           ⟨(some 49), some undefA, (some (45, true)), false, .ld (.ld 1 false (.s 48))⟩,
           ⟨(some 50), some undefA, none, false, .pu (.pick (.s 45) (.s 49) (.c (.bool false)))⟩])
         (.cond (.s 50) (.skip)
         (.exit 4)))
         (.seq (.block 5 (.seq (.ops [⟨(some 53), some undefA, none, false, .pu (.badr none 2)⟩,
            ⟨(some 54), some undefA, none, false, .pu (.bget (some 53) 2 1 1 false)⟩,
            ⟨(some 55), some undefA, none, false, .pu (.mov (.s 6))⟩,
            ⟨(some 56), some undefA, none, false, .pu (.idx 1 (.s 54) (.s 55))⟩,
            ⟨(some 57), some undefA, none, false, .ld (.ld 1 false (.s 56))⟩,
            ⟨(some 58), some undefA, none, false, .pu (.mov (.s 9))⟩,
            ⟨(some 59), some undefA, none, false, .pu (.idx 1 (.s 57) (.s 58))⟩,
            ⟨(some 60), some undefA, none, false, .ld (.ld 1 false (.s 59))⟩,
            ⟨(some 61), some undefA, none, false, .pu (.conv .u64 (.s 60))⟩,
            ⟨(some 62), some undefA, none, false, .pu (.bin .shl (.c (.int .i64 1)) (.s 61))⟩,
            ⟨(some 10), some undefA, none, false, .pu (.mov (.s 62))⟩])
          (.seq (.ops [⟨(some 63), some undefA, none, false, .pu (.mov (.s 8))⟩,
            ⟨(some 64), some undefA, none, false, .pu (.mov (.s 10))⟩,
            ⟨(some 65), some undefA, none, false, .pu (.bin .and (.s 63) (.s 64))⟩,
            ⟨(some 66), some undefA, none, false, .pu (.bin .eql (.s 65) (.c (.int .i64 0)))⟩])
          (.cond (.s 66) (.ops [⟨(some 67), some undefA, none, false, .pu (.mov (.s 7))⟩,
             ⟨(some 68), some undefA, none, false, .pu (.mov (.s 8))⟩,
             ⟨(some 69), some undefA, none, false, .pu (.mov (.s 10))⟩,
             ⟨(some 70), some undefA, none, false, .pu (.bin .or (.s 68) (.s 69))⟩,
             ⟨(some 71), some undefA, none, false, .pu (.idx 1 (.s 67) (.s 70))⟩,
             ⟨none, some undefA, none, false, .ha (.st 1 (.s 71) (.c (.bool true)))⟩])
          (.skip)))))
         (.ops [⟨(some 51), some undefA, none, false, .pu (.mov (.s 9))⟩,
           ⟨(some 52), some undefA, none, false, .pu (.bin .add (.s 51) (.c (.int .i64 1)))⟩,
           ⟨(some 9), some undefA, none, false, .pu (.mov (.s 52))⟩])))))))
      (.ops [⟨(some 35), some undefA, none, false, .pu (.mov (.s 8))⟩,
        ⟨(some 36), some undefA, none, false, .pu (.bin .add (.s 35) (.c (.int .i64 1)))⟩,
        ⟨(some 8), some undefA, none, false, .pu (.mov (.s 36))⟩]))))))
    (.ops [⟨(some 72), some undefA, none, false, .pu (.mov (.s 7))⟩,
      ⟨(some 5), some undefA, none, false, .pu (.mov (.s 72))⟩])))))
   (.ops [⟨(some 23), some undefA, none, false, .pu (.mov (.s 6))⟩,
     ⟨(some 24), some undefA, none, false, .pu (.bin .add (.s 23) (.c (.int .i64 1)))⟩,
     ⟨(some 6), some undefA, none, false, .pu (.mov (.s 24))⟩]))))))
 (.seq (.ops [⟨(some 73), some undefA, none, false, .pu (.mov (.s 5))⟩,
   ⟨(some 4), some undefA, none, false, .pu (.mov (.s 73))⟩])
 (.ret)))))⟩
theorem t58 : trF Try.prog [2] [] Try.f58 = some m58 := by kernel_rfl

/-- selion/wish.without [loop [3, 4, 5, 12, 13, 14]] -/
def m59 : MFun := ⟨29, [2, 4, 5], [.bget none 4 0 2 true],
 .seq (.ops [⟨(some 2), some (.junk), none, false, .pu (.bnew (.s 0))⟩,
   ⟨(some 3), some undefA, none, false, .ha (.newv (.s 1))⟩,
   ⟨(some 4), some (.junk), none, false, .pu (.bnew (.c (.agg [.int .i64 0, .nilS])))⟩])
 (.seq (.ops [⟨(some 8), some undefA, none, false, .pu (.badr none 2)⟩,
   ⟨(some 9), some undefA, none, false, .pu (.bget (some 8) 2 0 1 false)⟩,
   ⟨(some 10), some undefA, none, false, .pu (.build [.int .i64 0, .nilS] [(0, 1, (.s 9))])⟩,
   ⟨(some 5), some (.junk), none, false, .pu (.bnew (.c (.agg [.int .i64 0, .nilS])))⟩,
   ⟨(some 5), none, none, false, .pu (.bset none 5 0 2 (.s 10))⟩])
 (.seq (.seq (.ops [⟨(some 11), some undefA, none, false, .pu (.badr none 2)⟩,
   ⟨(some 12), some undefA, none, false, .pu (.bget (some 11) 2 1 1 false)⟩,
   ⟨(some 13), some undefA, none, false, .pu (.len (.s 12))⟩,
   ⟨(some 14), some undefA, none, false, .pu (.mov (.c (.int .i64 0)))⟩])
 (.block 0 (.loop (.seq (.ops [⟨(some 15), some undefA, none, false, .pu (.bin .lss (.s 14) (.s 13))⟩])
   (.seq (.cond (.s 15) (.skip)
   (.exit 0))
   (.seq (.block 1 (.seq (.ops [⟨(some 16), some undefA, none, false, .pu (.idx 1 (.s 12) (.s 14))⟩,
      ⟨(some 17), some undefA, none, false, .ld (.ld 1 false (.s 16))⟩,
      ⟨(some 7), some undefA, none, false, .pu (.mov (.s 17))⟩])
    (.ops [⟨(some 18), some undefA, none, false, .pu (.badr none 5)⟩,
      ⟨(some 19), some undefA, none, false, .pu (.bget (some 18) 5 1 1 false)⟩,
      ⟨(some 20), some undefA, none, false, .pu (.mov (.s 7))⟩,
      ⟨(some 21), some undefA, none, false, .call 83 [(.s 20)]⟩,
      ⟨(some 22), some undefA, none, false, .pu (.mkf 91 [(.s 3)])⟩,
      ⟨(some 23), some undefA, none, false, .call 90 [(.s 21), (.s 22)]⟩,
      ⟨(some 24), some undefA, none, false, .ha (.blds 1 1 [.nilS] [(0, 1, (.s 23))])⟩,
      ⟨(some 25), some undefA, none, false, .ha (.app 1 (.s 19) (.s 24))⟩,
      ⟨(some 26), some undefA, none, false, .pu (.badr none 5)⟩,
      ⟨(some 5), none, none, false, .pu (.bset (some 26) 5 1 1 (.s 25))⟩])))
   (.ops [⟨(some 27), some undefA, none, false, .pu (.bin .add (.s 14) (.c (.int .i64 1)))⟩,
     ⟨(some 14), some undefA, none, false, .pu (.mov (.s 27))⟩])))))))
 (.seq (.ops [⟨(some 28), some undefA, none, false, .pu (.bget none 5 0 2 true)⟩,
   ⟨(some 4), none, none, false, .pu (.bset none 4 0 2 (.s 28))⟩])
 (.ret))))⟩
theorem t59 : trF Try.prog [2, 4, 5] [] Try.f59 = some m59 := by kernel_rfl

/-- selion/selionref07.size [loop [0, 3]] -/
def m60 : MFun := ⟨13, [], [.mov (.s 2)],
 .seq (.ops [⟨(some 2), some undefA, none, false, .pu (.mov (.c (.int .i64 0)))⟩])
 (.seq (.ops [⟨(some 3), some undefA, none, false, .pu (.mov (.c (.int .i64 0)))⟩])
 (.seq (.block 0 (.loop (.seq (.seq (.ops [⟨(some 4), some undefA, none, false, .pu (.mov (.s 0))⟩,
     ⟨(some 5), some undefA, none, false, .pu (.bin .gtr (.s 4) (.c (.int .i64 0)))⟩])
   (.cond (.s 5) (.skip)
   (.exit 0)))
   (.seq (.block 1 (.ops [⟨(some 8), some undefA, none, false, .pu (.mov (.s 3))⟩,
      ⟨(some 9), some undefA, none, false, .pu (.mov (.s 0))⟩,
      ⟨(some 10), some undefA, none, false, .pu (.bin .rem (.s 9) (.c (.int .i64 2)))⟩,
      ⟨(some 11), some undefA, none, false, .pu (.bin .add (.s 8) (.s 10))⟩,
      ⟨(some 3), some undefA, none, false, .pu (.mov (.s 11))⟩]))
   (.ops [⟨(some 6), some undefA, none, false, .pu (.mov (.s 0))⟩,
     ⟨(some 7), some undefA, none, false, .pu (.bin .quo (.s 6) (.c (.int .i64 2)))⟩,
     ⟨(some 0), some undefA, none, false, .pu (.mov (.s 7))⟩])))))
 (.seq (.ops [⟨(some 12), some undefA, none, false, .pu (.mov (.s 3))⟩,
   ⟨(some 2), some undefA, none, false, .pu (.mov (.s 12))⟩])
 (.ret))))⟩
theorem t60 : trF Try.prog [] [] Try.f60 = some m60 := by kernel_rfl

/-- selion/wish.served [loop [3, 6, 7, 8]] -/
def m61 : MFun := ⟨18, [], [.mov (.s 2)],
 .seq (.ops [⟨(some 2), some undefA, none, false, .pu (.mov (.c (.int .i64 0)))⟩])
 (.seq (.ops [⟨(some 3), some undefA, none, false, .pu (.mov (.c (.int .i64 0)))⟩])
 (.seq (.seq (.ops [⟨(some 6), some undefA, none, false, .pu (.mov (.s 0))⟩,
   ⟨(some 7), some undefA, none, false, .pu (.len (.s 6))⟩,
   ⟨(some 8), some undefA, none, false, .pu (.mov (.c (.int .i64 0)))⟩])
 (.block 0 (.loop (.seq (.ops [⟨(some 9), some undefA, none, false, .pu (.bin .lss (.s 8) (.s 7))⟩])
   (.seq (.cond (.s 9) (.skip)
   (.exit 0))
   (.seq (.block 1 (.seq (.ops [⟨(some 10), some undefA, none, false, .pu (.idx 1 (.s 6) (.s 8))⟩,
      ⟨(some 11), some undefA, none, false, .ld (.ld 1 false (.s 10))⟩,
      ⟨(some 5), some undefA, none, false, .pu (.mov (.s 11))⟩])
    (.seq (.ops [⟨(some 12), some undefA, none, false, .pu (.mov (.s 5))⟩,
      ⟨(some 13), some undefA, none, false, .pu (.bin .geq (.s 12) (.c (.int .i64 0)))⟩])
    (.cond (.s 13) (.ops [⟨(some 14), some undefA, none, false, .pu (.mov (.s 3))⟩,
       ⟨(some 15), some undefA, none, false, .pu (.bin .add (.s 14) (.c (.int .i64 1)))⟩,
       ⟨(some 3), some undefA, none, false, .pu (.mov (.s 15))⟩])
    (.skip)))))
   (.ops [⟨(some 16), some undefA, none, false, .pu (.bin .add (.s 8) (.c (.int .i64 1)))⟩,
     ⟨(some 8), some undefA, none, false, .pu (.mov (.s 16))⟩])))))))
 (.seq (.ops [⟨(some 17), some undefA, none, false, .pu (.mov (.s 3))⟩,
   ⟨(some 2), some undefA, none, false, .pu (.mov (.s 17))⟩])
 (.ret))))⟩
theorem t61 : trF Try.prog [] [] Try.f61 = some m61 := by kernel_rfl

/-- selion/wish.filled [loop [1, 2, 10, 11]] -/
def m62 : MFun := ⟨25, [1, 2], [.bget none 2 0 3 true],
 .seq (.ops [⟨(some 1), some (.junk), none, false, .pu (.bnew (.s 0))⟩,
   ⟨(some 2), some (.junk), none, false, .pu (.bnew (.c (.agg [.int .i64 0, .nilS, .nilS])))⟩])
 (.seq (.ops [⟨(some 4), some undefA, none, false, .pu (.badr none 1)⟩,
   ⟨(some 5), some undefA, none, false, .pu (.bget (some 4) 1 2 1 false)⟩,
   ⟨(some 6), some undefA, none, false, .call 83 [(.s 5)]⟩,
   ⟨(some 7), some undefA, none, false, .pu (.badr none 1)⟩,
   ⟨(some 1), none, none, false, .pu (.bset (some 7) 1 2 1 (.s 6))⟩])
 (.seq (.seq (.ops [⟨(some 8), some undefA, none, false, .pu (.badr none 1)⟩,
   ⟨(some 9), some undefA, none, false, .pu (.bget (some 8) 1 2 1 false)⟩,
   ⟨(some 10), some undefA, none, false, .pu (.len (.s 9))⟩,
   ⟨(some 11), some undefA, none, false, .pu (.mov (.c (.int .i64 0)))⟩])
 (.block 0 (.loop (.seq (.ops [⟨(some 12), some undefA, none, false, .pu (.bin .lss (.s 11) (.s 10))⟩])
   (.seq (.cond (.s 12) (.skip)
   (.exit 0))
   (.seq (.block 1 (.seq (.ops [⟨(some 13), some undefA, none, false, .pu (.mov (.s 11))⟩,
      ⟨(some 3), some undefA, none, false, .pu (.mov (.s 13))⟩])
    (.seq (.ops [⟨(some 14), some undefA, none, false, .pu (.badr none 1)⟩,
      ⟨(some 15), some undefA, none, false, .pu (.bget (some 14) 1 2 1 false)⟩,
      ⟨(some 16), some undefA, none, false, .pu (.mov (.s 3))⟩,
      ⟨(some 17), some undefA, none, false, .pu (.idx 1 (.s 15) (.s 16))⟩,
      ⟨(some 18), some undefA, none, false, .ld (.ld 1 false (.s 17))⟩,
      ⟨(some 19), some undefA, none, false, .pu (.bin .lss (.s 18) (.c (.int .i64 0)))⟩])
    (.cond (.s 19) (.ops [⟨(some 20), some undefA, none, false, .pu (.bget none 1 0 3 true)⟩,
       ⟨(some 21), some undefA, none, false, .pu (.mov (.s 3))⟩,
       ⟨(some 22), some undefA, none, false, .call 92 [(.s 20), (.s 21)]⟩])
    (.skip)))))
   (.ops [⟨(some 23), some undefA, none, false, .pu (.bin .add (.s 11) (.c (.int .i64 1)))⟩,
     ⟨(some 11), some undefA, none, false, .pu (.mov (.s 23))⟩])))))))
 (.seq (.ops [⟨(some 24), some undefA, none, false, .pu (.bget none 1 0 3 true)⟩,
   ⟨(some 2), none, none, false, .pu (.bset none 2 0 3 (.s 24))⟩])
 (.ret))))⟩
theorem t62 : trF Try.prog [1, 2] [] Try.f62 = some m62 := by kernel_rfl

/-- selion/wish.none [] -/
def m63 : MFun := ⟨10, [1, 2], [.bget none 2 0 3 true],
 .seq (.ops [⟨(some 1), some (.junk), none, false, .pu (.bnew (.s 0))⟩,
   ⟨(some 2), some (.junk), none, false, .pu (.bnew (.c (.agg [.int .i64 0, .nilS, .nilS])))⟩])
 (.seq (.ops [⟨(some 3), some undefA, none, false, .pu (.bget none 1 0 2 true)⟩,
   ⟨(some 4), some undefA, none, false, .ha (.blds 1 1 [.int .i64 0] [(0, 1, (.c (.int .i64 (-1))))])⟩,
   ⟨(some 5), some undefA, none, false, .pu (.badr none 1)⟩,
   ⟨(some 6), some undefA, none, false, .pu (.bget (some 5) 1 1 1 false)⟩,
   ⟨(some 7), some undefA, none, false, .pu (.len (.s 6))⟩,
   ⟨(some 8), some undefA, none, false, .call 93 [(.s 4), (.s 7)]⟩,
   ⟨(some 9), some undefA, none, false, .pu (.build [.int .i64 0, .nilS, .nilS] [(0, 2, (.s 3)), (2, 1, (.s 8))])⟩,
   ⟨(some 2), none, none, false, .pu (.bset none 2 0 3 (.s 9))⟩])
 (.ret))⟩
theorem t63 : trF Try.prog [1, 2] [] Try.f63 = some m63 := by kernel_rfl

/-- selion/selionref01.Within [] -/
def m64 : MFun := ⟨15, [], [.mov (.s 6)],
 .seq (.ops [⟨(some 6), some undefA, none, false, .pu (.mov (.c (.bool false)))⟩])
 (.seq (.ops [⟨(some 7), some undefA, none, false, .pu (.mov (.s 0))⟩,
   ⟨(some 8), some undefA, none, false, .pu (.mov (.s 1))⟩,
   ⟨(some 9), some undefA, none, false, .pu (.bin .geq (.s 7) (.s 8))⟩,
   ⟨(some 10), some undefA, none, false, .pu (.mov (.s 9))⟩,
   ⟨(some 11), some undefA, (some (10, true)), false, .pu (.mov (.s 0))⟩,
   ⟨(some 12), some undefA, (some (10, true)), false, .pu (.mov (.s 2))⟩,
   ⟨(some 13), some undefA, (some (10, true)), false, .pu (.bin .leq (.s 11) (.s 12))⟩,
   ⟨(some 14), some undefA, none, false, .pu (.pick (.s 10) (.s 13) (.c (.bool false)))⟩,
   ⟨(some 6), some undefA, none, false, .pu (.mov (.s 14))⟩])
 (.ret))⟩
theorem t64 : trF Try.prog [] [] Try.f64 = some m64 := by kernel_rfl

/-- selion/selionref07.has [loop [0, 1, 5]] -/
def m65 : MFun := ⟨18, [], [.mov (.s 4)],
 .seq (.ops [⟨(some 4), some undefA, none, false, .pu (.mov (.c (.bool false)))⟩])
 (.seq (.seq (.ops [⟨(some 5), some undefA, none, false, .pu (.mov (.c (.int .i64 0)))⟩])
 (.block 0 (.loop (.seq (.seq (.ops [⟨(some 6), some undefA, none, false, .pu (.mov (.s 5))⟩,
     ⟨(some 7), some undefA, none, false, .pu (.mov (.s 0))⟩,
     ⟨(some 8), some undefA, none, false, .pu (.len (.s 7))⟩,
     ⟨(some 9), some undefA, none, false, .pu (.bin .lss (.s 6) (.s 8))⟩])
   (.cond (.s 9) (.skip)
   (.exit 0)))
   (.seq (.block 1 (.seq (.ops [⟨(some 12), some undefA, none, false, .pu (.mov (.s 0))⟩,
      ⟨(some 13), some undefA, none, false, .pu (.mov (.s 5))⟩,
      ⟨(some 14), some undefA, none, false, .pu (.idx 1 (.s 12) (.s 13))⟩,
      ⟨(some 15), some undefA, none, false, .ld (.ld 1 false (.s 14))⟩,
      ⟨(some 16), some undefA, none, false, .pu (.mov (.s 1))⟩,
      ⟨(some 17), some undefA, none, false, .pu (.bin .eql (.s 15) (.s 16))⟩])
    (.cond (.s 17) (.seq (.ops [⟨(some 4), some undefA, none, false, .pu (.mov (.c (.bool true)))⟩])
     (.ret))
    (.skip))))
   (.ops [⟨(some 10), some undefA, none, false, .pu (.mov (.s 5))⟩,
     ⟨(some 11), some undefA, none, false, .pu (.bin .add (.s 10) (.c (.int .i64 1)))⟩,
     ⟨(some 5), some undefA, none, false, .pu (.mov (.s 11))⟩]))))))
 (.seq (.ops [⟨(some 4), some undefA, none, false, .pu (.mov (.c (.bool false)))⟩])
 (.ret)))⟩
theorem t65 : trF Try.prog [] [] Try.f65 = some m65 := by kernel_rfl

/-- selion/selionref07.served [loop [0, 3, 4]] -/
def m66 : MFun := ⟨19, [], [.mov (.s 2)],
 .seq (.ops [⟨(some 2), some undefA, none, false, .pu (.mov (.c (.int .i64 0)))⟩])
 (.seq (.ops [⟨(some 3), some undefA, none, false, .pu (.mov (.c (.int .i64 0)))⟩])
 (.seq (.seq (.ops [⟨(some 4), some undefA, none, false, .pu (.mov (.c (.int .i64 0)))⟩])
 (.block 0 (.loop (.seq (.seq (.ops [⟨(some 5), some undefA, none, false, .pu (.mov (.s 4))⟩,
     ⟨(some 6), some undefA, none, false, .pu (.mov (.s 0))⟩,
     ⟨(some 7), some undefA, none, false, .pu (.len (.s 6))⟩,
     ⟨(some 8), some undefA, none, false, .pu (.bin .lss (.s 5) (.s 7))⟩])
   (.cond (.s 8) (.skip)
   (.exit 0)))
   (.seq (.block 1 (.seq (.ops [⟨(some 11), some undefA, none, false, .pu (.mov (.s 0))⟩,
      ⟨(some 12), some undefA, none, false, .pu (.mov (.s 4))⟩,
      ⟨(some 13), some undefA, none, false, .pu (.idx 1 (.s 11) (.s 12))⟩,
      ⟨(some 14), some undefA, none, false, .ld (.ld 1 false (.s 13))⟩,
      ⟨(some 15), some undefA, none, false, .pu (.bin .geq (.s 14) (.c (.int .i64 0)))⟩])
    (.cond (.s 15) (.ops [⟨(some 16), some undefA, none, false, .pu (.mov (.s 3))⟩,
       ⟨(some 17), some undefA, none, false, .pu (.bin .add (.s 16) (.c (.int .i64 1)))⟩,
       ⟨(some 3), some undefA, none, false, .pu (.mov (.s 17))⟩])
    (.skip))))
   (.ops [⟨(some 9), some undefA, none, false, .pu (.mov (.s 4))⟩,
     ⟨(some 10), some undefA, none, false, .pu (.bin .add (.s 9) (.c (.int .i64 1)))⟩,
     ⟨(some 4), some undefA, none, false, .pu (.mov (.s 10))⟩]))))))
 (.seq (.ops [⟨(some 18), some undefA, none, false, .pu (.mov (.s 3))⟩,
   ⟨(some 2), some undefA, none, false, .pu (.mov (.s 18))⟩])
 (.ret))))⟩
theorem t66 : trF Try.prog [] [] Try.f66 = some m66 := by kernel_rfl

/-- selion/selionref01.CopyTable [loop [0, 3, 4]] -/
def m67 : MFun := ⟨21, [], [.mov (.s 2)],
 .seq (.ops [⟨(some 2), some undefA, none, false, .pu (.mov (.c (.nilS)))⟩])
 (.seq (.ops [⟨(some 3), some undefA, none, false, .pu (.mov (.c (.nilS)))⟩])
 (.seq (.seq (.ops [⟨(some 4), some undefA, none, false, .pu (.mov (.c (.int .i64 0)))⟩])
 (.block 0 (.loop (.seq (.seq (.ops [⟨(some 5), some undefA, none, false, .pu (.mov (.s 4))⟩,
     ⟨(some 6), some undefA, none, false, .pu (.mov (.s 0))⟩,
     ⟨(some 7), some undefA, none, false, .pu (.len (.s 6))⟩,
     ⟨(some 8), some undefA, none, false, .pu (.bin .lss (.s 5) (.s 7))⟩])
   (.cond (.s 8) (.skip)
   (.exit 0)))
   (.seq (.block 1 (.ops [⟨(some 11), some undefA, none, false, .pu (.mov (.s 3))⟩,
      ⟨(some 12), some undefA, none, false, .ha (.blds 1 0 [.int .i64 0] [])⟩,
      ⟨(some 13), some undefA, none, false, .pu (.mov (.s 0))⟩,
      ⟨(some 14), some undefA, none, false, .pu (.mov (.s 4))⟩,
      ⟨(some 15), some undefA, none, false, .pu (.idx 1 (.s 13) (.s 14))⟩,
      ⟨(some 16), some undefA, none, false, .ld (.ld 1 false (.s 15))⟩,
      ⟨(some 17), some undefA, none, false, .ha (.app 1 (.s 12) (.s 16))⟩,
      ⟨(some 18), some undefA, none, false, .ha (.blds 1 1 [.nilS] [(0, 1, (.s 17))])⟩,
      ⟨(some 19), some undefA, none, false, .ha (.app 1 (.s 11) (.s 18))⟩,
      ⟨(some 3), some undefA, none, false, .pu (.mov (.s 19))⟩]))
   (.ops [⟨(some 9), some undefA, none, false, .pu (.mov (.s 4))⟩,
     ⟨(some 10), some undefA, none, false, .pu (.bin .add (.s 9) (.c (.int .i64 1)))⟩,
     ⟨(some 4), some undefA, none, false, .pu (.mov (.s 10))⟩]))))))
 (.seq (.ops [⟨(some 20), some undefA, none, false, .pu (.mov (.s 3))⟩,
   ⟨(some 2), some undefA, none, false, .pu (.mov (.s 20))⟩])
 (.ret))))⟩
theorem t67 : trF Try.prog [] [] Try.f67 = some m67 := by kernel_rfl

/-- selion/selionref01.SameTables [loop [0, 1, 5]] -/
def m68 : MFun := ⟨27, [], [.mov (.s 4)],
 .seq (.ops [⟨(some 4), some undefA, none, false, .pu (.mov (.c (.bool false)))⟩])
 (.seq (.seq (.ops [⟨(some 6), some undefA, none, false, .pu (.mov (.s 0))⟩,
   ⟨(some 7), some undefA, none, false, .pu (.len (.s 6))⟩,
   ⟨(some 8), some undefA, none, false, .pu (.mov (.s 1))⟩,
   ⟨(some 9), some undefA, none, false, .pu (.len (.s 8))⟩,
   ⟨(some 10), some undefA, none, false, .pu (.bin .neq (.s 7) (.s 9))⟩])
 (.cond (.s 10) (.seq (.ops [⟨(some 4), some undefA, none, false, .pu (.mov (.c (.bool false)))⟩])
  (.ret))
 (.skip)))
 (.seq (.seq (.ops [⟨(some 5), some undefA, none, false, .pu (.mov (.c (.int .i64 0)))⟩])
 (.block 0 (.loop (.seq (.seq (.ops [⟨(some 11), some undefA, none, false, .pu (.mov (.s 5))⟩,
     ⟨(some 12), some undefA, none, false, .pu (.mov (.s 0))⟩,
     ⟨(some 13), some undefA, none, false, .pu (.len (.s 12))⟩,
     ⟨(some 14), some undefA, none, false, .pu (.bin .lss (.s 11) (.s 13))⟩])
   (.cond (.s 14) (.skip)
   (.exit 0)))
   (.seq (.block 1 (.seq (.ops [⟨(some 17), some undefA, none, true, .pu (.mov (.s 0))⟩,
      ⟨(some 18), some undefA, none, true, .pu (.mov (.s 5))⟩,
      ⟨(some 19), some undefA, none, true, .pu (.idx 1 (.s 17) (.s 18))⟩,
      ⟨(some 20), some undefA, none, true, .ld (.ld 1 false (.s 19))⟩,
      ⟨(some 21), some undefA, none, true, .pu (.mov (.s 1))⟩,
      ⟨(some 22), some undefA, none, true, .pu (.mov (.s 5))⟩,
      ⟨(some 23), some undefA, none, true, .pu (.idx 1 (.s 21) (.s 22))⟩,
      ⟨(some 24), some undefA, none, true, .ld (.ld 1 false (.s 23))⟩,
      ⟨(some 25), some undefA, none, false, .call 23 [(.s 20), (.s 24)]⟩,
      ⟨(some 26), some undefA, none, false, .pu (.not (.s 25))⟩])
    (.cond (.s 26) (.seq (.ops [⟨(some 4), some undefA, none, false, .pu (.mov (.c (.bool false)))⟩])
     (.ret))
    (.skip))))
   (.ops [⟨(some 15), some undefA, none, false, .pu (.mov (.s 5))⟩,
     ⟨(some 16), some undefA, none, false, .pu (.bin .add (.s 15) (.c (.int .i64 1)))⟩,
     ⟨(some 5), some undefA, none, false, .pu (.mov (.s 16))⟩]))))))
 (.seq (.ops [⟨(some 4), some undefA, none, false, .pu (.mov (.c (.bool true)))⟩])
 (.ret))))⟩
theorem t68 : trF Try.prog [] [] Try.f68 = some m68 := by kernel_rfl

/-- slices.ContainsFunc[[]int,int] [] -/
def m69 : MFun := ⟨9, [], [.mov (.s 4)],
 .seq (.ops [⟨(some 4), some undefA, none, false, .pu (.mov (.c (.bool false)))⟩])
 (.seq (.ops [⟨(some 5), some undefA, none, false, .pu (.mov (.s 0))⟩,
   ⟨(some 6), some undefA, none, false, .pu (.mov (.s 1))⟩,
   ⟨(some 7), some undefA, none, false, .call 87 [(.s 5), (.s 6)]⟩,
   ⟨(some 8), some undefA, none, false, .pu (.bin .geq (.s 7) (.c (.int .i64 0)))⟩,
   ⟨(some 4), some undefA, none, false, .pu (.mov (.s 8))⟩])
 (.ret))⟩
theorem t69 : trF Try.prog [] [] Try.f69 = some m69 := by kernel_rfl

/-- selion/wish.CheckGiving$1 [] -/
def m70 : MFun := ⟨12, [], [.mov (.s 3)],
 .seq (.ops [⟨(some 3), some undefA, none, false, .pu (.mov (.c (.bool false)))⟩])
 (.seq (.ops [⟨(some 4), some undefA, none, false, .pu (.mov (.s 0))⟩,
   ⟨(some 5), some undefA, none, false, .pu (.bin .lss (.s 4) (.c (.int .i64 (-1))))⟩,
   ⟨(some 6), some undefA, none, false, .pu (.mov (.s 5))⟩,
   ⟨(some 7), some undefA, (some (6, false)), false, .pu (.mov (.s 0))⟩,
   ⟨(some 8), some undefA, (some (6, false)), false, .pu (.fad 0 (.s 1))⟩,
   ⟨(some 9), some undefA, (some (6, false)), false, .ld (.ld 1 false (.s 8))⟩,
   ⟨(some 10), some undefA, (some (6, false)), false, .pu (.bin .geq (.s 7) (.s 9))⟩,
   ⟨(some 11), some undefA, none, false, .pu (.pick (.s 6) (.c (.bool true)) (.s 10))⟩,
   ⟨(some 3), some undefA, none, false, .pu (.mov (.s 11))⟩])
 (.ret))⟩
theorem t70 : trF Try.prog [] [] Try.f70 = some m70 := by kernel_rfl

/-- slices.Contains[[]int,int] [] -/
def m71 : MFun := ⟨9, [], [.mov (.s 4)],
 .seq (.ops [⟨(some 4), some undefA, none, false, .pu (.mov (.c (.bool false)))⟩])
 (.seq (.ops [⟨(some 5), some undefA, none, false, .pu (.mov (.s 0))⟩,
   ⟨(some 6), some undefA, none, false, .pu (.mov (.s 1))⟩,
   ⟨(some 7), some undefA, none, false, .call 94 [(.s 5), (.s 6)]⟩,
   ⟨(some 8), some undefA, none, false, .pu (.bin .geq (.s 7) (.c (.int .i64 0)))⟩,
   ⟨(some 4), some undefA, none, false, .pu (.mov (.s 8))⟩])
 (.ret))⟩
theorem t71 : trF Try.prog [] [] Try.f71 = some m71 := by kernel_rfl

/-- selion/wish.count [loop [2, 5, 11, 12, 13]] -/
def m72 : MFun := ⟨34, [2], [.mov (.s 4)],
 .seq (.ops [⟨(some 2), some (.junk), none, false, .pu (.bnew (.s 0))⟩,
   ⟨(some 4), some undefA, none, false, .pu (.mov (.c (.nilS)))⟩])
 (.seq (.ops [⟨(some 8), some undefA, none, false, .pu (.badr none 2)⟩,
   ⟨(some 9), some undefA, none, false, .pu (.bget (some 8) 2 0 1 false)⟩,
   ⟨(some 10), some undefA, none, false, .ha (.mks 1 [.int .i64 0] (.s 9) (.s 9))⟩,
   ⟨(some 5), some undefA, none, false, .pu (.mov (.s 10))⟩])
 (.seq (.seq (.ops [⟨(some 11), some undefA, none, false, .pu (.mov (.s 1))⟩,
   ⟨(some 12), some undefA, none, false, .pu (.len (.s 11))⟩,
   ⟨(some 13), some undefA, none, false, .pu (.mov (.c (.int .i64 0)))⟩])
 (.block 0 (.loop (.seq (.ops [⟨(some 14), some undefA, none, false, .pu (.bin .lss (.s 13) (.s 12))⟩])
   (.seq (.cond (.s 14) (.skip)
   (.exit 0))
   (.seq (.block 1 (.seq (.ops [⟨(some 15), some undefA, none, false, .pu (.mov (.s 13))⟩,
      ⟨(some 16), some undefA, none, false, .pu (.idx 1 (.s 11) (.s 13))⟩,
      ⟨(some 17), some undefA, none, false, .ld (.ld 1 false (.s 16))⟩,
      ⟨(some 6), some undefA, none, false, .pu (.mov (.s 15))⟩,
      ⟨(some 7), some undefA, none, false, .pu (.mov (.s 17))⟩])
    (.seq (.ops [⟨(some 18), some undefA, none, false, .pu (.mov (.s 7))⟩,
      ⟨(some 19), some undefA, none, false, .pu (.bin .geq (.s 18) (.c (.int .i64 0)))⟩])
    (.cond (.s 19) (.ops [⟨(some 20), some undefA, none, false, .pu (.mov (.s 5))⟩,
       ⟨(some 21), some undefA, none, false, .pu (.badr none 2)⟩,
       ⟨(some 22), some undefA, none, false, .pu (.bget (some 21) 2 1 1 false)⟩,
       ⟨(some 23), some undefA, none, false, .pu (.mov (.s 6))⟩,
       ⟨(some 24), some undefA, none, false, .pu (.idx 1 (.s 22) (.s 23))⟩,
       ⟨(some 25), some undefA, none, false, .ld (.ld 1 false (.s 24))⟩,
       ⟨(some 26), some undefA, none, false, .pu (.mov (.s 7))⟩,
       ⟨(some 27), some undefA, none, false, .call 94 [(.s 25), (.s 26)]⟩,
       ⟨(some 28), some undefA, none, false, .pu (.idx 1 (.s 20) (.s 27))⟩,
       ⟨(some 29), some undefA, none, false, .ld (.ld 1 false (.s 28))⟩,
       ⟨(some 30), some undefA, none, false, .pu (.bin .add (.s 29) (.c (.int .i64 1)))⟩,
       ⟨(some 31), some undefA, none, false, .pu (.idx 1 (.s 20) (.s 27))⟩,
       ⟨none, some undefA, none, false, .ha (.st 1 (.s 31) (.s 30))⟩])
    (.skip)))))
   (.ops [⟨(some 32), some undefA, none, false, .pu (.bin .add (.s 13) (.c (.int .i64 1)))⟩,
     ⟨(some 13), some undefA, none, false, .pu (.mov (.s 32))⟩])))))))
 (.seq (.ops [⟨(some 33), some undefA, none, false, .pu (.mov (.s 5))⟩,
   ⟨(some 4), some undefA, none, false, .pu (.mov (.s 33))⟩])
 (.ret))))⟩
theorem t72 : trF Try.prog [2] [] Try.f72 = some m72 := by kernel_rfl

/-- selion/wish.isPlaces [] -/
def m73 : MFun := ⟨9, [], [.mov (.s 4)],
 .seq (.ops [⟨(some 3), some undefA, none, false, .ha (.newv (.s 1))⟩,
   ⟨(some 4), some undefA, none, false, .pu (.mov (.c (.bool false)))⟩])
 (.seq (.ops [⟨(some 5), some undefA, none, false, .pu (.mov (.s 0))⟩,
   ⟨(some 6), some undefA, none, false, .pu (.mkf 95 [(.s 3)])⟩,
   ⟨(some 7), some undefA, none, false, .call 69 [(.s 5), (.s 6)]⟩,
   ⟨(some 8), some undefA, none, false, .pu (.not (.s 7))⟩,
   ⟨(some 4), some undefA, none, false, .pu (.mov (.s 8))⟩])
 (.ret))⟩
theorem t73 : trF Try.prog [] [] Try.f73 = some m73 := by kernel_rfl

/-- selion/wish.chosen [] -/
def m74 : MFun := ⟨17, [2], [.mov (.s 4)],
 .seq (.ops [⟨(some 2), some (.junk), none, false, .pu (.bnew (.s 0))⟩,
   ⟨(some 4), some undefA, none, false, .pu (.mov (.c (.int .i64 0)))⟩])
 (.seq (.seq (.ops [⟨(some 6), some undefA, none, false, .pu (.bget none 2 0 2 true)⟩,
   ⟨(some 7), some undefA, none, false, .call 39 [(.s 6)]⟩,
   ⟨(some 5), some undefA, none, false, .pu (.mov (.s 7))⟩])
 (.seq (.ops [⟨(some 8), some undefA, none, false, .pu (.mov (.s 5))⟩,
   ⟨(some 9), some undefA, none, false, .pu (.bin .neq (.s 8) (.c (.int .i64 0)))⟩])
 (.cond (.s 9) (.seq (.ops [⟨(some 10), some undefA, none, false, .pu (.mov (.s 5))⟩,
    ⟨(some 4), some undefA, none, false, .pu (.mov (.s 10))⟩])
  (.ret))
 (.skip))))
 (.seq (.seq (.ops [⟨(some 11), some undefA, none, false, .pu (.mov (.s 1))⟩,
   ⟨(some 12), some undefA, none, false, .pu (.badr none 2)⟩,
   ⟨(some 13), some undefA, none, false, .pu (.bget (some 12) 2 1 1 false)⟩,
   ⟨(some 14), some undefA, none, false, .pu (.len (.s 13))⟩,
   ⟨(some 15), some undefA, none, false, .call 78 [(.s 11), (.s 14)]⟩,
   ⟨(some 16), some undefA, none, false, .pu (.not (.s 15))⟩])
 (.cond (.s 16) (.seq (.ops [⟨(some 4), some undefA, none, false, .pu (.mov (.c (.int .i64 1)))⟩])
  (.ret))
 (.skip)))
 (.seq (.ops [⟨(some 4), some undefA, none, false, .pu (.mov (.c (.int .i64 0)))⟩])
 (.ret))))⟩
theorem t74 : trF Try.prog [2] [] Try.f74 = some m74 := by kernel_rfl

/-- selion/wish.union [loop [1, 2, 5, 8, 9]] -/
def m75 : MFun := ⟨21, [], [.mov (.s 4)],
 .seq (.ops [⟨(some 2), some undefA, none, false, .ha (.newv (.s 0))⟩,
   ⟨(some 4), some undefA, none, false, .pu (.mov (.c (.nilS)))⟩])
 (.seq (.ops [⟨(some 5), some undefA, none, false, .pu (.mov (.c (.nilS)))⟩])
 (.seq (.seq (.ops [⟨(some 7), some undefA, none, false, .pu (.fad 0 (.s 2))⟩,
   ⟨(some 8), some undefA, none, false, .ld (.ld 1 false (.s 7))⟩,
   ⟨(some 9), some undefA, none, false, .pu (.mov (.c (.int .i64 0)))⟩])
 (.block 0 (.loop (.seq (.ops [⟨(some 10), some undefA, none, false, .pu (.bin .lss (.s 9) (.s 8))⟩])
   (.seq (.cond (.s 10) (.skip)
   (.exit 0))
   (.seq (.block 1 (.seq (.ops [⟨(some 11), some undefA, none, false, .pu (.mov (.s 9))⟩,
      ⟨(some 6), some undefA, none, false, .ha (.newv (.c (.int .i64 0)))⟩,
      ⟨none, some undefA, none, false, .ha (.st 1 (.s 6) (.s 11))⟩])
    (.seq (.ops [⟨(some 12), some undefA, none, false, .pu (.mov (.s 1))⟩,
      ⟨(some 13), some undefA, none, false, .pu (.mkf 96 [(.s 2), (.s 6)])⟩,
      ⟨(some 14), some undefA, none, false, .call 69 [(.s 12), (.s 13)]⟩])
    (.cond (.s 14) (.ops [⟨(some 15), some undefA, none, false, .pu (.mov (.s 5))⟩,
       ⟨(some 16), some undefA, none, false, .ld (.ld 1 false (.s 6))⟩,
       ⟨(some 17), some undefA, none, false, .ha (.blds 1 1 [.int .i64 0] [(0, 1, (.s 16))])⟩,
       ⟨(some 18), some undefA, none, false, .ha (.app 1 (.s 15) (.s 17))⟩,
       ⟨(some 5), some undefA, none, false, .pu (.mov (.s 18))⟩])
    (.skip)))))
   (.ops [⟨(some 19), some undefA, none, false, .pu (.bin .add (.s 9) (.c (.int .i64 1)))⟩,
     ⟨(some 9), some undefA, none, false, .pu (.mov (.s 19))⟩])))))))
 (.seq (.ops [⟨(some 20), some undefA, none, false, .pu (.mov (.s 5))⟩,
   ⟨(some 4), some undefA, none, false, .pu (.mov (.s 20))⟩])
 (.ret))))⟩
theorem t75 : trF Try.prog [] [] Try.f75 = some m75 := by kernel_rfl

/-- selion/selionref07.isSet [loop [0, 1, 5]] -/
def m76 : MFun := ⟨36, [], [.mov (.s 4)],
 .seq (.ops [⟨(some 4), some undefA, none, false, .pu (.mov (.c (.bool false)))⟩])
 (.seq (.seq (.ops [⟨(some 5), some undefA, none, false, .pu (.mov (.c (.int .i64 0)))⟩])
 (.block 0 (.loop (.seq (.seq (.ops [⟨(some 6), some undefA, none, false, .pu (.mov (.s 5))⟩,
     ⟨(some 7), some undefA, none, false, .pu (.mov (.s 0))⟩,
     ⟨(some 8), some undefA, none, false, .pu (.len (.s 7))⟩,
     ⟨(some 9), some undefA, none, false, .pu (.bin .lss (.s 6) (.s 8))⟩])
   (.cond (.s 9) (.skip)
   (.exit 0)))
   (.seq (.block 1 (.seq (.ops [⟨(some 12), some undefA, none, false, .pu (.mov (.s 0))⟩,
      ⟨(some 13), some undefA, none, false, .pu (.mov (.s 5))⟩,
      ⟨(some 14), some undefA, none, false, .pu (.idx 1 (.s 12) (.s 13))⟩,
      ⟨(some 15), some undefA, none, true, .ld (.ld 1 false (.s 14))⟩,
      ⟨(some 16), some undefA, none, true, .pu (.mov (.s 1))⟩,
      ⟨(some 17), some undefA, none, true, .pu (.bin .sub (.s 16) (.c (.int .i64 1)))⟩,
      ⟨(some 18), some undefA, none, false, .call 64 [(.s 15), (.c (.int .i64 0)), (.s 17)]⟩,
      ⟨(some 19), some undefA, none, false, .pu (.not (.s 18))⟩,
      ⟨(some 20), some undefA, none, false, .pu (.mov (.s 19))⟩,
      ⟨(some 21), some undefA, (some (20, false)), false, .pu (.mov (.s 5))⟩,
      ⟨(some 22), some undefA, (some (20, false)), false, .pu (.bin .gtr (.s 21) (.c (.int .i64 0)))⟩,
      ⟨(some 23), some undefA, (some (20, false)), false, .pu (.mov (.s 22))⟩,
      ⟨(some 24), some undefA, (some (23, true)), true, .pu (.mov (.s 0))⟩,
      ⟨(some 25), some undefA, (some (23, true)), true, .pu (.mov (.s 5))⟩,
      ⟨(some 26), some undefA, (some (23, true)), true, .pu (.idx 1 (.s 24) (.s 25))⟩,
      ⟨(some 27), some undefA, (some (23, true)), true, .ld (.ld 1 false (.s 26))⟩,
      ⟨(some 28), some undefA, (some (23, true)), true, .pu (.mov (.s 0))⟩,
      ⟨(some 29), some undefA, (some (23, true)), true, .pu (.mov (.s 5))⟩,
      ⟨(some 30), some undefA, (some (23, true)), true, .pu (.bin .sub (.s 29) (.c (.int .i64 1)))⟩,
      ⟨(some 31), some undefA, (some (23, true)), true, .pu (.idx 1 (.s 28) (.s 30))⟩,
      ⟨(some 32), some undefA, (some (23, true)), true, .ld (.ld 1 false (.s 31))⟩,
      ⟨(some 33), some undefA, (some (23, true)), false, .pu (.bin .leq (.s 27) (.s 32))⟩,
      ⟨(some 34), some undefA, (some (20, false)), false, .pu (.pick (.s 23) (.s 33) (.c (.bool false)))⟩,
      ⟨(some 35), some undefA, none, false, .pu (.pick (.s 20) (.c (.bool true)) (.s 34))⟩])
    (.cond (.s 35) (.seq (.ops [⟨(some 4), some undefA, none, false, .pu (.mov (.c (.bool false)))⟩])
     (.ret))
    (.skip))))
   (.ops [⟨(some 10), some undefA, none, false, .pu (.mov (.s 5))⟩,
     ⟨(some 11), some undefA, none, false, .pu (.bin .add (.s 10) (.c (.int .i64 1)))⟩,
     ⟨(some 5), some undefA, none, false, .pu (.mov (.s 11))⟩]))))))
 (.seq (.ops [⟨(some 4), some undefA, none, false, .pu (.mov (.c (.bool true)))⟩])
 (.ret)))⟩
theorem t76 : trF Try.prog [] [] Try.f76 = some m76 := by kernel_rfl

/-- selion/selionref07.wished [loop [1, 2, 5, 6], loop [1, 2, 5, 6, 7]] -/
def m77 : MFun := ⟨41, [2], [.mov (.s 4)],
 .seq (.ops [⟨(some 2), some (.junk), none, false, .pu (.bnew (.s 0))⟩,
   ⟨(some 4), some undefA, none, false, .pu (.mov (.c (.nilS)))⟩])
 (.seq (.ops [⟨(some 5), some undefA, none, false, .pu (.mov (.c (.nilS)))⟩])
 (.seq (.seq (.ops [⟨(some 6), some undefA, none, false, .pu (.mov (.c (.int .i64 0)))⟩])
 (.block 0 (.loop (.seq (.seq (.ops [⟨(some 8), some undefA, none, false, .pu (.mov (.s 6))⟩,
     ⟨(some 9), some undefA, none, false, .pu (.badr none 2)⟩,
     ⟨(some 10), some undefA, none, false, .pu (.bget (some 9) 2 0 1 false)⟩,
     ⟨(some 11), some undefA, none, false, .pu (.bin .lss (.s 8) (.s 10))⟩])
   (.cond (.s 11) (.skip)
   (.exit 0)))
   (.seq (.block 1 (.seq (.ops [⟨(some 7), some undefA, none, false, .pu (.mov (.c (.int .i64 0)))⟩])
    (.block 2 (.loop (.seq (.seq (.ops [⟨(some 14), some undefA, none, false, .pu (.mov (.s 7))⟩,
        ⟨(some 15), some undefA, none, false, .pu (.mov (.s 1))⟩,
        ⟨(some 16), some undefA, none, false, .pu (.len (.s 15))⟩,
        ⟨(some 17), some undefA, none, false, .pu (.bin .lss (.s 14) (.s 16))⟩])
      (.cond (.s 17) (.skip)
      (.exit 2)))
      (.seq (.block 3 (.seq (.ops [⟨(some 20), some undefA, none, true, .pu (.badr none 2)⟩,
         ⟨(some 21), some undefA, none, true, .pu (.bget (some 20) 2 1 1 false)⟩,
         ⟨(some 22), some undefA, none, false, .pu (.mov (.s 1))⟩,
         ⟨(some 23), some undefA, none, false, .pu (.mov (.s 7))⟩,
         ⟨(some 24), some undefA, none, false, .pu (.idx 1 (.s 22) (.s 23))⟩,
         ⟨(some 25), some undefA, none, true, .ld (.ld 1 false (.s 24))⟩,
         ⟨(some 26), some undefA, none, false, .pu (.idx 1 (.s 21) (.s 25))⟩,
         ⟨(some 27), some undefA, none, true, .ld (.ld 1 false (.s 26))⟩,
         ⟨(some 28), some undefA, none, true, .pu (.mov (.s 6))⟩,
         ⟨(some 29), some undefA, none, false, .call 65 [(.s 27), (.s 28)]⟩,
         ⟨(some 30), some undefA, none, false, .pu (.mov (.s 29))⟩,
         ⟨(some 31), some undefA, (some (30, true)), false, .pu (.mov (.s 5))⟩,
         ⟨(some 32), some undefA, (some (30, true)), false, .pu (.mov (.s 6))⟩,
         ⟨(some 33), some undefA, (some (30, true)), false, .call 65 [(.s 31), (.s 32)]⟩,
         ⟨(some 34), some undefA, (some (30, true)), false, .pu (.not (.s 33))⟩,
         ⟨(some 35), some undefA, none, false, .pu (.pick (.s 30) (.s 34) (.c (.bool false)))⟩])
       (.cond (.s 35) (.ops [⟨(some 36), some undefA, none, false, .pu (.mov (.s 5))⟩,
          ⟨(some 37), some undefA, none, false, .pu (.mov (.s 6))⟩,
          ⟨(some 38), some undefA, none, false, .ha (.blds 1 1 [.int .i64 0] [(0, 1, (.s 37))])⟩,
          ⟨(some 39), some undefA, none, false, .ha (.app 1 (.s 36) (.s 38))⟩,
          ⟨(some 5), some undefA, none, false, .pu (.mov (.s 39))⟩])
       (.skip))))
      (.ops [⟨(some 18), some undefA, none, false, .pu (.mov (.s 7))⟩,
        ⟨(some 19), some undefA, none, false, .pu (.bin .add (.s 18) (.c (.int .i64 1)))⟩,
        ⟨(some 7), some undefA, none, false, .pu (.mov (.s 19))⟩])))))))
   (.ops [⟨(some 12), some undefA, none, false, .pu (.mov (.s 6))⟩,
     ⟨(some 13), some undefA, none, false, .pu (.bin .add (.s 12) (.c (.int .i64 1)))⟩,
     ⟨(some 6), some undefA, none, false, .pu (.mov (.s 13))⟩]))))))
 (.seq (.ops [⟨(some 40), some undefA, none, false, .pu (.mov (.s 5))⟩,
   ⟨(some 4), some undefA, none, false, .pu (.mov (.s 40))⟩])
 (.ret))))⟩
theorem t77 : trF Try.prog [2] [] Try.f77 = some m77 := by kernel_rfl

/-- selion/wish.isSet [loop [0, 1, 5]] -/
def m78 : MFun := ⟨25, [], [.mov (.s 4)],
 .seq (.ops [⟨(some 4), some undefA, none, false, .pu (.mov (.c (.bool false)))⟩])
 (.seq (.seq (.ops [⟨(some 5), some undefA, none, false, .pu (.mov (.c (.int .i64 1)))⟩])
 (.block 0 (.loop (.seq (.seq (.ops [⟨(some 6), some undefA, none, false, .pu (.mov (.s 5))⟩,
     ⟨(some 7), some undefA, none, false, .pu (.mov (.s 0))⟩,
     ⟨(some 8), some undefA, none, false, .pu (.len (.s 7))⟩,
     ⟨(some 9), some undefA, none, false, .pu (.bin .lss (.s 6) (.s 8))⟩])
   (.cond (.s 9) (.skip)
   (.exit 0)))
   (.seq (.block 1 (.seq (.ops [⟨(some 12), some undefA, none, true, .pu (.mov (.s 0))⟩,
      ⟨(some 13), some undefA, none, true, .pu (.mov (.s 5))⟩,
      ⟨(some 14), some undefA, none, true, .pu (.bin .sub (.s 13) (.c (.int .i64 1)))⟩,
      ⟨(some 15), some undefA, none, true, .pu (.idx 1 (.s 12) (.s 14))⟩,
      ⟨(some 16), some undefA, none, true, .ld (.ld 1 false (.s 15))⟩,
      ⟨(some 17), some undefA, none, true, .pu (.mov (.s 0))⟩,
      ⟨(some 18), some undefA, none, true, .pu (.mov (.s 5))⟩,
      ⟨(some 19), some undefA, none, true, .pu (.idx 1 (.s 17) (.s 18))⟩,
      ⟨(some 20), some undefA, none, true, .ld (.ld 1 false (.s 19))⟩,
      ⟨(some 21), some undefA, none, false, .pu (.bin .geq (.s 16) (.s 20))⟩])
    (.cond (.s 21) (.seq (.ops [⟨(some 4), some undefA, none, false, .pu (.mov (.c (.bool false)))⟩])
     (.ret))
    (.skip))))
   (.ops [⟨(some 10), some undefA, none, false, .pu (.mov (.s 5))⟩,
     ⟨(some 11), some undefA, none, false, .pu (.bin .add (.s 10) (.c (.int .i64 1)))⟩,
     ⟨(some 5), some undefA, none, false, .pu (.mov (.s 11))⟩]))))))
 (.seq (.ops [⟨(some 22), some undefA, none, false, .pu (.mov (.s 0))⟩,
   ⟨(some 23), some undefA, none, false, .pu (.mov (.s 1))⟩,
   ⟨(some 24), some undefA, none, false, .call 73 [(.s 22), (.s 23)]⟩,
   ⟨(some 4), some undefA, none, false, .pu (.mov (.s 24))⟩])
 (.ret)))⟩
theorem t78 : trF Try.prog [] [] Try.f78 = some m78 := by kernel_rfl

/-- selion/wish.CheckCover$1 [] -/
def m79 : MFun := ⟨8, [], [.mov (.s 3)],
 .seq (.ops [⟨(some 3), some undefA, none, false, .pu (.mov (.c (.bool false)))⟩])
 (.seq (.ops [⟨(some 4), some undefA, none, false, .ld (.ld 1 false (.s 1))⟩,
   ⟨(some 5), some undefA, none, false, .pu (.mov (.s 0))⟩,
   ⟨(some 6), some undefA, none, false, .call 71 [(.s 4), (.s 5)]⟩,
   ⟨(some 7), some undefA, none, false, .pu (.not (.s 6))⟩,
   ⟨(some 3), some undefA, none, false, .pu (.mov (.s 7))⟩])
 (.ret))⟩
theorem t79 : trF Try.prog [] [] Try.f79 = some m79 := by kernel_rfl

/-- selion/wish.stuck [loop [1, 3, 4, 23, 24, 25], loop [1, 3, 4, 7], loop [1, 3, 4, 7, 38, 39, 40], loop [1, 3, 4, 7, 8, 38, 39, 40, 45, 46, 47], loop [4, 13, 75, 76]] -/
def m80 : MFun := ⟨89, [1, 3], [.mov (.s 2)],
 .seq (.ops [⟨(some 1), some (.junk), none, false, .pu (.bnew (.s 0))⟩,
   ⟨(some 2), some undefA, none, false, .pu (.mov (.c (.nilS)))⟩])
 (.seq (.ops [⟨(some 15), some undefA, none, false, .pu (.bget none 1 0 2 true)⟩,
   ⟨(some 16), some undefA, none, false, .call 63 [(.s 15)]⟩,
   ⟨(some 17), some undefA, none, false, .call 62 [(.s 16)]⟩,
   ⟨(some 3), some (.junk), none, false, .pu (.bnew (.c (.agg [.int .i64 0, .nilS, .nilS])))⟩,
   ⟨(some 3), none, none, false, .pu (.bset none 3 0 3 (.s 17))⟩])
 (.seq (.ops [⟨(some 18), some undefA, none, false, .pu (.badr none 1)⟩,
   ⟨(some 19), some undefA, none, false, .pu (.bget (some 18) 1 1 1 false)⟩,
   ⟨(some 20), some undefA, none, false, .pu (.len (.s 19))⟩,
   ⟨(some 21), some undefA, none, false, .ha (.mks 1 [.bool false] (.s 20) (.s 20))⟩,
   ⟨(some 4), some undefA, none, false, .pu (.mov (.s 21))⟩])
 (.seq (.seq (.ops [⟨(some 22), some undefA, none, false, .pu (.badr none 3)⟩,
   ⟨(some 23), some undefA, none, false, .pu (.bget (some 22) 3 2 1 false)⟩,
   ⟨(some 24), some undefA, none, false, .pu (.len (.s 23))⟩,
   ⟨(some 25), some undefA, none, false, .pu (.mov (.c (.int .i64 0)))⟩])
 (.block 0 (.loop (.seq (.ops [⟨(some 26), some undefA, none, false, .pu (.bin .lss (.s 25) (.s 24))⟩])
   (.seq (.cond (.s 26) (.skip)
   (.exit 0))
   (.seq (.block 1 (.seq (.ops [⟨(some 27), some undefA, none, false, .pu (.mov (.s 25))⟩,
      ⟨(some 28), some undefA, none, false, .pu (.idx 1 (.s 23) (.s 25))⟩,
      ⟨(some 29), some undefA, none, false, .ld (.ld 1 false (.s 28))⟩,
      ⟨(some 5), some undefA, none, false, .pu (.mov (.s 27))⟩,
      ⟨(some 6), some undefA, none, false, .pu (.mov (.s 29))⟩])
    (.ops [⟨(some 30), some undefA, none, false, .pu (.mov (.s 4))⟩,
      ⟨(some 31), some undefA, none, false, .pu (.mov (.s 5))⟩,
      ⟨(some 32), some undefA, none, false, .pu (.mov (.s 6))⟩,
      ⟨(some 33), some undefA, none, false, .pu (.bin .lss (.s 32) (.c (.int .i64 0)))⟩,
      ⟨(some 34), some undefA, none, false, .pu (.idx 1 (.s 30) (.s 31))⟩,
      ⟨none, some undefA, none, false, .ha (.st 1 (.s 34) (.s 33))⟩])))
   (.ops [⟨(some 35), some undefA, none, false, .pu (.bin .add (.s 25) (.c (.int .i64 1)))⟩,
     ⟨(some 25), some undefA, none, false, .pu (.mov (.s 35))⟩])))))))
 (.seq (.seq (.ops [⟨(some 7), some undefA, none, false, .pu (.mov (.c (.bool true)))⟩])
 (.block 2 (.loop (.seq (.seq (.ops [⟨(some 36), some undefA, none, false, .pu (.mov (.s 7))⟩])
   (.cond (.s 36) (.skip)
   (.exit 2)))
   (.block 3 (.seq (.ops [⟨(some 7), some undefA, none, false, .pu (.mov (.c (.bool false)))⟩])
    (.seq (.ops [⟨(some 37), some undefA, none, false, .pu (.badr none 1)⟩,
      ⟨(some 38), some undefA, none, false, .pu (.bget (some 37) 1 1 1 false)⟩,
      ⟨(some 39), some undefA, none, false, .pu (.len (.s 38))⟩,
      ⟨(some 40), some undefA, none, false, .pu (.mov (.c (.int .i64 0)))⟩])
    (.block 4 (.loop (.seq (.ops [⟨(some 41), some undefA, none, false, .pu (.bin .lss (.s 40) (.s 39))⟩])
      (.seq (.cond (.s 41) (.skip)
      (.exit 4))
      (.seq (.block 5 (.seq (.ops [⟨(some 42), some undefA, none, false, .pu (.mov (.s 40))⟩,
         ⟨(some 43), some undefA, none, false, .pu (.idx 1 (.s 38) (.s 40))⟩,
         ⟨(some 44), some undefA, none, false, .ld (.ld 1 false (.s 43))⟩,
         ⟨(some 8), some undefA, none, false, .pu (.mov (.s 42))⟩,
         ⟨(some 9), some undefA, none, false, .pu (.mov (.s 44))⟩])
       (.seq (.ops [⟨(some 45), some undefA, none, false, .pu (.mov (.s 9))⟩,
         ⟨(some 46), some undefA, none, false, .pu (.len (.s 45))⟩,
         ⟨(some 47), some undefA, none, false, .pu (.mov (.c (.int .i64 0)))⟩])
       (.block 6 (.loop (.seq (.ops [⟨(some 48), some undefA, none, false, .pu (.bin .lss (.s 47) (.s 46))⟩])
         (.seq (.cond (.s 48) (.skip)
         (.exit 6))
         (.seq (.block 7 (.seq (.ops [⟨(some 49), some undefA, none, false, .pu (.idx 1 (.s 45) (.s 47))⟩,
            ⟨(some 50), some undefA, none, false, .ld (.ld 1 false (.s 49))⟩,
            ⟨(some 11), some undefA, none, false, .pu (.mov (.s 50))⟩])
          (.seq (.ops [⟨(some 51), some undefA, none, false, .pu (.bget none 3 0 3 true)⟩,
            ⟨(some 52), some undefA, none, false, .pu (.mov (.s 11))⟩,
            ⟨(some 53), some undefA, none, false, .call 89 [(.s 51), (.s 52)]⟩,
            ⟨(some 12), some undefA, none, false, .pu (.mov (.s 53))⟩])
          (.seq (.ops [⟨(some 54), some undefA, none, false, .pu (.mov (.s 4))⟩,
            ⟨(some 55), some undefA, none, false, .pu (.mov (.s 8))⟩,
            ⟨(some 56), some undefA, none, false, .pu (.idx 1 (.s 54) (.s 55))⟩,
            ⟨(some 57), some undefA, none, false, .ld (.ld 1 false (.s 56))⟩,
            ⟨(some 58), some undefA, none, false, .pu (.mov (.s 57))⟩,
            ⟨(some 59), some undefA, (some (58, true)), false, .pu (.mov (.s 12))⟩,
            ⟨(some 60), some undefA, (some (58, true)), false, .pu (.bin .geq (.s 59) (.c (.int .i64 0)))⟩,
            ⟨(some 61), some undefA, none, false, .pu (.pick (.s 58) (.s 60) (.c (.bool false)))⟩,
            ⟨(some 62), some undefA, none, false, .pu (.mov (.s 61))⟩,
            ⟨(some 63), some undefA, (some (62, true)), false, .pu (.mov (.s 4))⟩,
            ⟨(some 64), some undefA, (some (62, true)), false, .pu (.mov (.s 12))⟩,
            ⟨(some 65), some undefA, (some (62, true)), false, .pu (.idx 1 (.s 63) (.s 64))⟩,
            ⟨(some 66), some undefA, (some (62, true)), false, .ld (.ld 1 false (.s 65))⟩,
            ⟨(some 67), some undefA, (some (62, true)), false, .pu (.not (.s 66))⟩,
            ⟨(some 68), some undefA, none, false, .pu (.pick (.s 62) (.s 67) (.c (.bool false)))⟩])
          (.cond (.s 68) (.seq (.ops [⟨(some 69), some undefA, none, false, .pu (.mov (.s 4))⟩,
             ⟨(some 70), some undefA, none, false, .pu (.mov (.s 12))⟩,
             ⟨(some 71), some undefA, none, false, .pu (.idx 1 (.s 69) (.s 70))⟩,
             ⟨none, some undefA, none, false, .ha (.st 1 (.s 71) (.c (.bool true)))⟩])
           (.ops [⟨(some 7), some undefA, none, false, .pu (.mov (.c (.bool true)))⟩]))
          (.skip))))))
         (.ops [⟨(some 72), some undefA, none, false, .pu (.bin .add (.s 47) (.c (.int .i64 1)))⟩,
           ⟨(some 47), some undefA, none, false, .pu (.mov (.s 72))⟩])))))))))
      (.ops [⟨(some 73), some undefA, none, false, .pu (.bin .add (.s 40) (.c (.int .i64 1)))⟩,
        ⟨(some 40), some undefA, none, false, .pu (.mov (.s 73))⟩])))))))))))))
 (.seq (.ops [⟨(some 13), some undefA, none, false, .pu (.mov (.c (.nilS)))⟩])
 (.seq (.seq (.ops [⟨(some 74), some undefA, none, false, .pu (.mov (.s 4))⟩,
   ⟨(some 75), some undefA, none, false, .pu (.len (.s 74))⟩,
   ⟨(some 76), some undefA, none, false, .pu (.mov (.c (.int .i64 0)))⟩])
 (.block 8 (.loop (.seq (.ops [⟨(some 77), some undefA, none, false, .pu (.bin .lss (.s 76) (.s 75))⟩])
   (.seq (.cond (.s 77) (.skip)
   (.exit 8))
   (.seq (.block 9 (.seq (.ops [⟨(some 78), some undefA, none, false, .pu (.mov (.s 76))⟩,
      ⟨(some 14), some undefA, none, false, .pu (.mov (.s 78))⟩])
    (.seq (.ops [⟨(some 79), some undefA, none, false, .pu (.mov (.s 4))⟩,
      ⟨(some 80), some undefA, none, false, .pu (.mov (.s 14))⟩,
      ⟨(some 81), some undefA, none, false, .pu (.idx 1 (.s 79) (.s 80))⟩,
      ⟨(some 82), some undefA, none, false, .ld (.ld 1 false (.s 81))⟩])
    (.cond (.s 82) (.ops [⟨(some 83), some undefA, none, false, .pu (.mov (.s 13))⟩,
       ⟨(some 84), some undefA, none, false, .pu (.mov (.s 14))⟩,
       ⟨(some 85), some undefA, none, false, .ha (.blds 1 1 [.int .i64 0] [(0, 1, (.s 84))])⟩,
       ⟨(some 86), some undefA, none, false, .ha (.app 1 (.s 83) (.s 85))⟩,
       ⟨(some 13), some undefA, none, false, .pu (.mov (.s 86))⟩])
    (.skip)))))
   (.ops [⟨(some 87), some undefA, none, false, .pu (.bin .add (.s 76) (.c (.int .i64 1)))⟩,
     ⟨(some 76), some undefA, none, false, .pu (.mov (.s 87))⟩])))))))
 (.seq (.ops [⟨(some 88), some undefA, none, false, .pu (.mov (.s 13))⟩,
   ⟨(some 2), some undefA, none, false, .pu (.mov (.s 88))⟩])
 (.ret))))))))⟩
theorem t80 : trF Try.prog [1, 3] [] Try.f80 = some m80 := by kernel_rfl

/-- selion/wish.Happiest$1 [loop [0, 1, 2, 5, 32, 33, 34]] -/
def m81 : MFun := ⟨65, [], [],
 .seq (.seq (.ops [⟨(some 10), some undefA, none, false, .pu (.mov (.s 0))⟩,
   ⟨(some 11), some undefA, none, false, .ld (.ld 1 false (.s 2))⟩,
   ⟨(some 12), some undefA, none, false, .pu (.len (.s 11))⟩,
   ⟨(some 13), some undefA, none, false, .pu (.bin .eql (.s 10) (.s 12))⟩])
 (.cond (.s 13) (.seq (.seq (.ops [⟨(some 14), some undefA, none, true, .ld (.ld 1 false (.s 3))⟩,
    ⟨(some 15), some undefA, none, false, .pu (.isnil false (.s 14))⟩,
    ⟨(some 16), some undefA, none, false, .pu (.mov (.s 15))⟩,
    ⟨(some 17), some undefA, (some (16, false)), true, .ld (.ld 2 true (.s 4))⟩,
    ⟨(some 18), some undefA, (some (16, false)), true, .ld (.ld 1 false (.s 2))⟩,
    ⟨(some 19), some undefA, (some (16, false)), true, .call 72 [(.s 17), (.s 18)]⟩,
    ⟨(some 20), some undefA, (some (16, false)), true, .ld (.ld 2 true (.s 4))⟩,
    ⟨(some 21), some undefA, (some (16, false)), true, .ld (.ld 1 false (.s 3))⟩,
    ⟨(some 22), some undefA, (some (16, false)), false, .call 72 [(.s 20), (.s 21)]⟩,
    ⟨(some 23), some undefA, (some (16, false)), false, .call 82 [(.s 19), (.s 22)]⟩,
    ⟨(some 24), some undefA, (some (16, false)), false, .pu (.bin .gtr (.s 23) (.c (.int .i64 0)))⟩,
    ⟨(some 25), some undefA, none, false, .pu (.pick (.s 16) (.c (.bool true)) (.s 24))⟩])
  (.cond (.s 25) (.ops [⟨(some 26), some undefA, none, false, .ld (.ld 1 false (.s 2))⟩,
     ⟨(some 27), some undefA, none, false, .call 83 [(.s 26)]⟩,
     ⟨none, some undefA, none, false, .ha (.st 1 (.s 3) (.s 27))⟩])
  (.skip)))
  (.ret))
 (.skip)))
 (.seq (.seq (.ops [⟨(some 28), some undefA, none, false, .pu (.fad 1 (.s 4))⟩,
   ⟨(some 29), some undefA, none, false, .ld (.ld 1 false (.s 28))⟩,
   ⟨(some 30), some undefA, none, false, .pu (.mov (.s 0))⟩,
   ⟨(some 31), some undefA, none, false, .pu (.idx 1 (.s 29) (.s 30))⟩,
   ⟨(some 32), some undefA, none, false, .ld (.ld 1 false (.s 31))⟩,
   ⟨(some 33), some undefA, none, false, .pu (.len (.s 32))⟩,
   ⟨(some 34), some undefA, none, false, .pu (.mov (.c (.int .i64 0)))⟩])
 (.block 0 (.loop (.seq (.ops [⟨(some 35), some undefA, none, false, .pu (.bin .lss (.s 34) (.s 33))⟩])
   (.seq (.cond (.s 35) (.skip)
   (.exit 0))
   (.seq (.block 1 (.seq (.ops [⟨(some 36), some undefA, none, false, .pu (.idx 1 (.s 32) (.s 34))⟩,
      ⟨(some 37), some undefA, none, false, .ld (.ld 1 false (.s 36))⟩,
      ⟨(some 9), some undefA, none, false, .pu (.mov (.s 37))⟩])
    (.seq (.ops [⟨(some 38), some undefA, none, false, .ld (.ld 1 false (.s 2))⟩,
      ⟨(some 39), some undefA, none, false, .pu (.mov (.s 0))⟩,
      ⟨(some 40), some undefA, none, false, .pu (.slc 1 (.s 38) none (some (.s 39)) none)⟩,
      ⟨(some 41), some undefA, none, false, .pu (.mov (.s 9))⟩,
      ⟨(some 42), some undefA, none, false, .call 71 [(.s 40), (.s 41)]⟩,
      ⟨(some 43), some undefA, none, false, .pu (.not (.s 42))⟩])
    (.cond (.s 43) (.seq (.ops [⟨(some 44), some undefA, none, false, .ld (.ld 1 false (.s 2))⟩,
       ⟨(some 45), some undefA, none, false, .pu (.mov (.s 0))⟩,
       ⟨(some 46), some undefA, none, false, .pu (.mov (.s 9))⟩,
       ⟨(some 47), some undefA, none, false, .pu (.idx 1 (.s 44) (.s 45))⟩,
       ⟨none, some undefA, none, false, .ha (.st 1 (.s 47) (.s 46))⟩])
     (.ops [⟨(some 48), some undefA, none, false, .ld (.ld 1 false (.s 5))⟩,
       ⟨(some 49), some undefA, none, false, .pu (.mov (.s 0))⟩,
       ⟨(some 50), some undefA, none, false, .pu (.bin .add (.s 49) (.c (.int .i64 1)))⟩,
       ⟨(some 51), some undefA, none, false, .pu (.mov (.s 1))⟩,
       ⟨(some 52), some undefA, none, false, .callv (.s 48) [(.s 50), (.s 51)]⟩]))
    (.skip)))))
   (.ops [⟨(some 53), some undefA, none, false, .pu (.bin .add (.s 34) (.c (.int .i64 1)))⟩,
     ⟨(some 34), some undefA, none, false, .pu (.mov (.s 53))⟩])))))))
 (.seq (.ops [⟨(some 54), some undefA, none, false, .ld (.ld 1 false (.s 2))⟩,
   ⟨(some 55), some undefA, none, false, .pu (.mov (.s 0))⟩,
   ⟨(some 56), some undefA, none, false, .pu (.idx 1 (.s 54) (.s 55))⟩,
   ⟨none, some undefA, none, false, .ha (.st 1 (.s 56) (.c (.int .i64 (-1))))⟩])
 (.seq (.ops [⟨(some 57), some undefA, none, false, .pu (.mov (.s 1))⟩,
   ⟨(some 58), some undefA, none, false, .pu (.bin .gtr (.s 57) (.c (.int .i64 0)))⟩])
 (.cond (.s 58) (.ops [⟨(some 59), some undefA, none, false, .ld (.ld 1 false (.s 5))⟩,
    ⟨(some 60), some undefA, none, false, .pu (.mov (.s 0))⟩,
    ⟨(some 61), some undefA, none, false, .pu (.bin .add (.s 60) (.c (.int .i64 1)))⟩,
    ⟨(some 62), some undefA, none, false, .pu (.mov (.s 1))⟩,
    ⟨(some 63), some undefA, none, false, .pu (.bin .sub (.s 62) (.c (.int .i64 1)))⟩,
    ⟨(some 64), some undefA, none, false, .callv (.s 59) [(.s 61), (.s 63)]⟩])
 (.skip)))))⟩
theorem t81 : trF Try.prog [] [] Try.f81 = some m81 := by kernel_rfl

/-- slices.Compare[[]int,int] [loop [0, 1, 9, 10, 11]] -/
def m82 : MFun := ⟨36, [], [.mov (.s 4)],
 .seq (.ops [⟨(some 4), some undefA, none, false, .pu (.mov (.c (.int .i64 0)))⟩])
 (.seq (.seq (.ops [⟨(some 9), some undefA, none, false, .pu (.mov (.s 0))⟩,
   ⟨(some 10), some undefA, none, false, .pu (.len (.s 9))⟩,
   ⟨(some 11), some undefA, none, false, .pu (.mov (.c (.int .i64 0)))⟩])
 (.block 0 (.loop (.seq (.ops [⟨(some 12), some undefA, none, false, .pu (.bin .lss (.s 11) (.s 10))⟩])
   (.seq (.cond (.s 12) (.skip)
   (.exit 0))
   (.seq (.block 1 (.seq (.ops [⟨(some 13), some undefA, none, false, .pu (.mov (.s 11))⟩,
      ⟨(some 14), some undefA, none, false, .pu (.idx 1 (.s 9) (.s 11))⟩,
      ⟨(some 15), some undefA, none, false, .ld (.ld 1 false (.s 14))⟩,
      ⟨(some 5), some undefA, none, false, .pu (.mov (.s 13))⟩,
      ⟨(some 6), some undefA, none, false, .pu (.mov (.s 15))⟩])
    (.seq (.seq (.ops [⟨(some 16), some undefA, none, false, .pu (.mov (.s 5))⟩,
      ⟨(some 17), some undefA, none, false, .pu (.mov (.s 1))⟩,
      ⟨(some 18), some undefA, none, false, .pu (.len (.s 17))⟩,
      ⟨(some 19), some undefA, none, false, .pu (.bin .geq (.s 16) (.s 18))⟩])
    (.cond (.s 19) (.seq (.ops [⟨(some 4), some undefA, none, false, .pu (.mov (.c (.int .i64 1)))⟩])
     (.ret))
    (.skip)))
    (.seq (.ops [⟨(some 20), some undefA, none, false, .pu (.mov (.s 1))⟩,
      ⟨(some 21), some undefA, none, false, .pu (.mov (.s 5))⟩,
      ⟨(some 22), some undefA, none, false, .pu (.idx 1 (.s 20) (.s 21))⟩,
      ⟨(some 23), some undefA, none, false, .ld (.ld 1 false (.s 22))⟩,
      ⟨(some 7), some undefA, none, false, .pu (.mov (.s 23))⟩])
    (.seq (.ops [⟨(some 24), some undefA, none, false, .pu (.mov (.s 6))⟩,
      ⟨(some 25), some undefA, none, false, .pu (.mov (.s 7))⟩,
      ⟨(some 26), some undefA, none, false, .call 97 [(.s 24), (.s 25)]⟩,
      ⟨(some 8), some undefA, none, false, .pu (.mov (.s 26))⟩])
    (.seq (.ops [⟨(some 27), some undefA, none, false, .pu (.mov (.s 8))⟩,
      ⟨(some 28), some undefA, none, false, .pu (.bin .neq (.s 27) (.c (.int .i64 0)))⟩])
    (.cond (.s 28) (.seq (.ops [⟨(some 29), some undefA, none, false, .pu (.mov (.s 8))⟩,
       ⟨(some 4), some undefA, none, false, .pu (.mov (.s 29))⟩])
     (.ret))
    (.skip))))))))
   (.ops [⟨(some 30), some undefA, none, false, .pu (.bin .add (.s 11) (.c (.int .i64 1)))⟩,
     ⟨(some 11), some undefA, none, false, .pu (.mov (.s 30))⟩])))))))
 (.seq (.seq (.ops [⟨(some 31), some undefA, none, false, .pu (.mov (.s 0))⟩,
   ⟨(some 32), some undefA, none, false, .pu (.len (.s 31))⟩,
   ⟨(some 33), some undefA, none, false, .pu (.mov (.s 1))⟩,
   ⟨(some 34), some undefA, none, false, .pu (.len (.s 33))⟩,
   ⟨(some 35), some undefA, none, false, .pu (.bin .lss (.s 32) (.s 34))⟩])
 (.cond (.s 35) (.seq (.ops [⟨(some 4), some undefA, none, false, .pu (.mov (.c (.int .i64 (-1))))⟩])
  (.ret))
 (.skip)))
 (.seq (.ops [⟨(some 4), some undefA, none, false, .pu (.mov (.c (.int .i64 0)))⟩])
 (.ret))))⟩
theorem t82 : trF Try.prog [] [] Try.f82 = some m82 := by kernel_rfl

/-- slices.Clone[[]int,int] [] -/
def m83 : MFun := ⟨8, [], [.mov (.s 2)],
 .seq (.ops [⟨(some 2), some undefA, none, false, .pu (.mov (.c (.nilS)))⟩])
 (.seq (.seq (.ops [⟨(some 3), some undefA, none, false, .pu (.mov (.s 0))⟩,
   ⟨(some 4), some undefA, none, false, .pu (.isnil false (.s 3))⟩])
 (.cond (.s 4) (.seq (.ops [⟨(some 2), some undefA, none, false, .pu (.mov (.c (.nilS)))⟩])
  (.ret))
 (.skip)))
 (.seq (.ops [⟨(some 5), some undefA, none, false, .ha (.blds 1 0 [.int .i64 0] [])⟩,
   ⟨(some 6), some undefA, none, false, .pu (.mov (.s 0))⟩,
   ⟨(some 7), some undefA, none, false, .ha (.app 1 (.s 5) (.s 6))⟩,
   ⟨(some 2), some undefA, none, false, .pu (.mov (.s 7))⟩])
 (.ret)))⟩
theorem t83 : trF Try.prog [] [] Try.f83 = some m83 := by kernel_rfl

/-- selion/selionref07.greater [loop [0, 1, 5]] -/
def m84 : MFun := ⟨30, [], [.mov (.s 4)],
 .seq (.ops [⟨(some 4), some undefA, none, false, .pu (.mov (.c (.bool false)))⟩])
 (.seq (.seq (.ops [⟨(some 5), some undefA, none, false, .pu (.mov (.c (.int .i64 0)))⟩])
 (.block 0 (.loop (.seq (.seq (.ops [⟨(some 6), some undefA, none, false, .pu (.mov (.s 5))⟩,
     ⟨(some 7), some undefA, none, false, .pu (.mov (.s 0))⟩,
     ⟨(some 8), some undefA, none, false, .pu (.len (.s 7))⟩,
     ⟨(some 9), some undefA, none, false, .pu (.bin .lss (.s 6) (.s 8))⟩])
   (.cond (.s 9) (.skip)
   (.exit 0)))
   (.seq (.block 1 (.seq (.ops [⟨(some 12), some undefA, none, true, .pu (.mov (.s 0))⟩,
      ⟨(some 13), some undefA, none, true, .pu (.mov (.s 5))⟩,
      ⟨(some 14), some undefA, none, true, .pu (.idx 1 (.s 12) (.s 13))⟩,
      ⟨(some 15), some undefA, none, true, .ld (.ld 1 false (.s 14))⟩,
      ⟨(some 16), some undefA, none, true, .pu (.mov (.s 1))⟩,
      ⟨(some 17), some undefA, none, true, .pu (.mov (.s 5))⟩,
      ⟨(some 18), some undefA, none, true, .pu (.idx 1 (.s 16) (.s 17))⟩,
      ⟨(some 19), some undefA, none, true, .ld (.ld 1 false (.s 18))⟩,
      ⟨(some 20), some undefA, none, false, .pu (.bin .neq (.s 15) (.s 19))⟩])
    (.cond (.s 20) (.seq (.ops [⟨(some 21), some undefA, none, true, .pu (.mov (.s 0))⟩,
       ⟨(some 22), some undefA, none, true, .pu (.mov (.s 5))⟩,
       ⟨(some 23), some undefA, none, true, .pu (.idx 1 (.s 21) (.s 22))⟩,
       ⟨(some 24), some undefA, none, true, .ld (.ld 1 false (.s 23))⟩,
       ⟨(some 25), some undefA, none, true, .pu (.mov (.s 1))⟩,
       ⟨(some 26), some undefA, none, true, .pu (.mov (.s 5))⟩,
       ⟨(some 27), some undefA, none, true, .pu (.idx 1 (.s 25) (.s 26))⟩,
       ⟨(some 28), some undefA, none, true, .ld (.ld 1 false (.s 27))⟩,
       ⟨(some 29), some undefA, none, false, .pu (.bin .gtr (.s 24) (.s 28))⟩,
       ⟨(some 4), some undefA, none, false, .pu (.mov (.s 29))⟩])
     (.ret))
    (.skip))))
   (.ops [⟨(some 10), some undefA, none, false, .pu (.mov (.s 5))⟩,
     ⟨(some 11), some undefA, none, false, .pu (.bin .add (.s 10) (.c (.int .i64 1)))⟩,
     ⟨(some 5), some undefA, none, false, .pu (.mov (.s 11))⟩]))))))
 (.seq (.ops [⟨(some 4), some undefA, none, false, .pu (.mov (.c (.bool false)))⟩])
 (.ret)))⟩
theorem t84 : trF Try.prog [] [] Try.f84 = some m84 := by kernel_rfl

/-- slices.Values[[]int,int] [] -/
def m86 : MFun := ⟨4, [], [.mov (.s 2)],
 .seq (.ops [⟨(some 1), some undefA, none, false, .ha (.newv (.s 0))⟩,
   ⟨(some 2), some undefA, none, false, .pu (.mov (.c (.nilF)))⟩])
 (.seq (.ops [⟨(some 3), some undefA, none, false, .pu (.mkf 100 [(.s 1)])⟩,
   ⟨(some 2), some undefA, none, false, .pu (.mov (.s 3))⟩])
 (.ret))⟩
theorem t86 : trF Try.prog [] [] Try.f86 = some m86 := by kernel_rfl

/-- slices.IndexFunc[[]int,int] [loop [0, 1, 7, 8]] -/
def m87 : MFun := ⟨19, [], [.mov (.s 4)],
 .seq (.ops [⟨(some 4), some undefA, none, false, .pu (.mov (.c (.int .i64 0)))⟩])
 (.seq (.seq (.ops [⟨(some 6), some undefA, none, false, .pu (.mov (.s 0))⟩,
   ⟨(some 7), some undefA, none, false, .pu (.len (.s 6))⟩,
   ⟨(some 8), some undefA, none, false, .pu (.mov (.c (.int .i64 0)))⟩])
 (.block 0 (.loop (.seq (.ops [⟨(some 9), some undefA, none, false, .pu (.bin .lss (.s 8) (.s 7))⟩])
   (.seq (.cond (.s 9) (.skip)
   (.exit 0))
   (.seq (.block 1 (.seq (.ops [⟨(some 10), some undefA, none, false, .pu (.mov (.s 8))⟩,
      ⟨(some 5), some undefA, none, false, .pu (.mov (.s 10))⟩])
    (.seq (.ops [⟨(some 11), some undefA, none, false, .pu (.mov (.s 1))⟩,
      ⟨(some 12), some undefA, none, false, .pu (.mov (.s 0))⟩,
      ⟨(some 13), some undefA, none, false, .pu (.mov (.s 5))⟩,
      ⟨(some 14), some undefA, none, false, .pu (.idx 1 (.s 12) (.s 13))⟩,
      ⟨(some 15), some undefA, none, false, .ld (.ld 1 false (.s 14))⟩,
      ⟨(some 16), some undefA, none, false, .callv (.s 11) [(.s 15)]⟩])
    (.cond (.s 16) (.seq (.ops [⟨(some 17), some undefA, none, false, .pu (.mov (.s 5))⟩,
       ⟨(some 4), some undefA, none, false, .pu (.mov (.s 17))⟩])
     (.ret))
    (.skip)))))
   (.ops [⟨(some 18), some undefA, none, false, .pu (.bin .add (.s 8) (.c (.int .i64 1)))⟩,
     ⟨(some 8), some undefA, none, false, .pu (.mov (.s 18))⟩])))))))
 (.seq (.ops [⟨(some 4), some undefA, none, false, .pu (.mov (.c (.int .i64 (-1))))⟩])
 (.ret)))⟩
theorem t87 : trF Try.prog [] [] Try.f87 = some m87 := by kernel_rfl

/-- selion/wish.Line$1 [] -/
def m88 : MFun := ⟨8, [], [.mov (.s 3)],
 .seq (.ops [⟨(some 3), some undefA, none, false, .pu (.mov (.c (.bool false)))⟩])
 (.seq (.ops [⟨(some 4), some undefA, none, false, .ld (.ld 3 true (.s 1))⟩,
   ⟨(some 5), some undefA, none, false, .pu (.mov (.s 0))⟩,
   ⟨(some 6), some undefA, none, false, .call 89 [(.s 4), (.s 5)]⟩,
   ⟨(some 7), some undefA, none, false, .pu (.bin .lss (.s 6) (.c (.int .i64 0)))⟩,
   ⟨(some 3), some undefA, none, false, .pu (.mov (.s 7))⟩])
 (.ret))⟩
theorem t88 : trF Try.prog [] [] Try.f88 = some m88 := by kernel_rfl

/-- (selion/wish.wished).holder [] -/
def m89 : MFun := ⟨9, [2], [.mov (.s 4)],
 .seq (.ops [⟨(some 2), some (.junk), none, false, .pu (.bnew (.s 0))⟩,
   ⟨(some 4), some undefA, none, false, .pu (.mov (.c (.int .i64 0)))⟩])
 (.seq (.ops [⟨(some 5), some undefA, none, false, .pu (.badr none 2)⟩,
   ⟨(some 6), some undefA, none, false, .pu (.bget (some 5) 2 2 1 false)⟩,
   ⟨(some 7), some undefA, none, false, .pu (.mov (.s 1))⟩,
   ⟨(some 8), some undefA, none, false, .call 94 [(.s 6), (.s 7)]⟩,
   ⟨(some 4), some undefA, none, false, .pu (.mov (.s 8))⟩])
 (.ret))⟩
theorem t89 : trF Try.prog [2] [] Try.f89 = some m89 := by kernel_rfl

/-- slices.DeleteFunc[[]int,int] [loop [0, 1, 5, 6]] -/
def m90 : MFun := ⟨42, [], [.mov (.s 4)],
 .seq (.ops [⟨(some 4), some undefA, none, false, .pu (.mov (.c (.nilS)))⟩])
 (.seq (.ops [⟨(some 8), some undefA, none, false, .pu (.mov (.s 0))⟩,
   ⟨(some 9), some undefA, none, false, .pu (.mov (.s 1))⟩,
   ⟨(some 10), some undefA, none, false, .call 87 [(.s 8), (.s 9)]⟩,
   ⟨(some 5), some undefA, none, false, .pu (.mov (.s 10))⟩])
 (.seq (.seq (.ops [⟨(some 11), some undefA, none, false, .pu (.mov (.s 5))⟩,
   ⟨(some 12), some undefA, none, false, .pu (.bin .eql (.s 11) (.c (.int .i64 (-1))))⟩])
 (.cond (.s 12) (.seq (.ops [⟨(some 13), some undefA, none, false, .pu (.mov (.s 0))⟩,
    ⟨(some 4), some undefA, none, false, .pu (.mov (.s 13))⟩])
  (.ret))
 (.skip)))
 (.seq (.seq (.ops [⟨(some 14), some undefA, none, false, .pu (.mov (.s 5))⟩,
   ⟨(some 15), some undefA, none, false, .pu (.bin .add (.s 14) (.c (.int .i64 1)))⟩,
   ⟨(some 6), some undefA, none, false, .pu (.mov (.s 15))⟩])
 (.block 0 (.loop (.seq (.seq (.ops [⟨(some 16), some undefA, none, false, .pu (.mov (.s 6))⟩,
     ⟨(some 17), some undefA, none, false, .pu (.mov (.s 0))⟩,
     ⟨(some 18), some undefA, none, false, .pu (.len (.s 17))⟩,
     ⟨(some 19), some undefA, none, false, .pu (.bin .lss (.s 16) (.s 18))⟩])
   (.cond (.s 19) (.skip)
   (.exit 0)))
   (.seq (.block 1 (.seq (.ops [⟨(some 22), some undefA, none, false, .pu (.mov (.s 0))⟩,
      ⟨(some 23), some undefA, none, false, .pu (.mov (.s 6))⟩,
      ⟨(some 24), some undefA, none, false, .pu (.idx 1 (.s 22) (.s 23))⟩,
      ⟨(some 25), some undefA, none, false, .ld (.ld 1 false (.s 24))⟩,
      ⟨(some 7), some undefA, none, false, .pu (.mov (.s 25))⟩])
    (.seq (.ops [⟨(some 26), some undefA, none, false, .pu (.mov (.s 1))⟩,
      ⟨(some 27), some undefA, none, false, .pu (.mov (.s 7))⟩,
      ⟨(some 28), some undefA, none, false, .callv (.s 26) [(.s 27)]⟩,
      ⟨(some 29), some undefA, none, false, .pu (.not (.s 28))⟩])
    (.cond (.s 29) (.seq (.ops [⟨(some 30), some undefA, none, false, .pu (.mov (.s 0))⟩,
       ⟨(some 31), some undefA, none, false, .pu (.mov (.s 5))⟩,
       ⟨(some 32), some undefA, none, false, .pu (.mov (.s 7))⟩,
       ⟨(some 33), some undefA, none, false, .pu (.idx 1 (.s 30) (.s 31))⟩,
       ⟨none, some undefA, none, false, .ha (.st 1 (.s 33) (.s 32))⟩])
     (.ops [⟨(some 34), some undefA, none, false, .pu (.mov (.s 5))⟩,
       ⟨(some 35), some undefA, none, false, .pu (.bin .add (.s 34) (.c (.int .i64 1)))⟩,
       ⟨(some 5), some undefA, none, false, .pu (.mov (.s 35))⟩]))
    (.skip)))))
   (.ops [⟨(some 20), some undefA, none, false, .pu (.mov (.s 6))⟩,
     ⟨(some 21), some undefA, none, false, .pu (.bin .add (.s 20) (.c (.int .i64 1)))⟩,
     ⟨(some 6), some undefA, none, false, .pu (.mov (.s 21))⟩]))))))
 (.seq (.ops [⟨(some 36), some undefA, none, false, .pu (.mov (.s 0))⟩,
   ⟨(some 37), some undefA, none, false, .pu (.mov (.s 5))⟩,
   ⟨(some 38), some undefA, none, false, .pu (.slc 1 (.s 36) (some (.s 37)) none none)⟩,
   ⟨none, some undefA, none, false, .ha (.clr 1 [.int .i64 0] (.s 38))⟩])
 (.seq (.ops [⟨(some 39), some undefA, none, false, .pu (.mov (.s 0))⟩,
   ⟨(some 40), some undefA, none, false, .pu (.mov (.s 5))⟩,
   ⟨(some 41), some undefA, none, false, .pu (.slc 1 (.s 39) none (some (.s 40)) none)⟩,
   ⟨(some 4), some undefA, none, false, .pu (.mov (.s 41))⟩])
 (.ret))))))⟩
theorem t90 : trF Try.prog [] [] Try.f90 = some m90 := by kernel_rfl

/-- selion/wish.without$1 [] -/
def m91 : MFun := ⟨7, [], [.mov (.s 3)],
 .seq (.ops [⟨(some 3), some undefA, none, false, .pu (.mov (.c (.bool false)))⟩])
 (.seq (.ops [⟨(some 4), some undefA, none, false, .pu (.mov (.s 0))⟩,
   ⟨(some 5), some undefA, none, false, .ld (.ld 1 false (.s 1))⟩,
   ⟨(some 6), some undefA, none, false, .pu (.bin .eql (.s 4) (.s 5))⟩,
   ⟨(some 3), some undefA, none, false, .pu (.mov (.s 6))⟩])
 (.ret))⟩
theorem t91 : trF Try.prog [] [] Try.f91 = some m91 := by kernel_rfl

/-- (selion/wish.wished).serve [] -/
def m92 : MFun := ⟨15, [], [.mov (.s 4)],
 .seq (.ops [⟨(some 2), some undefA, none, false, .ha (.newv (.s 0))⟩,
   ⟨(some 4), some undefA, none, false, .pu (.mov (.c (.bool false)))⟩])
 (.seq (.ops [⟨(some 7), some undefA, none, false, .pu (.fad 0 (.s 2))⟩,
   ⟨(some 8), some undefA, none, false, .pu (.fad 0 (.s 7))⟩,
   ⟨(some 9), some undefA, none, false, .ld (.ld 1 false (.s 8))⟩,
   ⟨(some 10), some undefA, none, false, .ha (.mks 1 [.bool false] (.s 9) (.s 9))⟩,
   ⟨(some 5), some undefA, none, false, .ha (.newv (.c (.nilS)))⟩,
   ⟨none, some undefA, none, false, .ha (.st 1 (.s 5) (.s 10))⟩])
 (.seq (.ops [⟨(some 6), some undefA, none, false, .ha (.newv (.c (.nilF)))⟩])
 (.seq (.ops [⟨(some 11), some undefA, none, false, .pu (.mkf 101 [(.s 2), (.s 5), (.s 6)])⟩,
   ⟨none, some undefA, none, false, .ha (.st 1 (.s 6) (.s 11))⟩])
 (.seq (.ops [⟨(some 12), some undefA, none, false, .ld (.ld 1 false (.s 6))⟩,
   ⟨(some 13), some undefA, none, false, .pu (.mov (.s 1))⟩,
   ⟨(some 14), some undefA, none, false, .callv (.s 12) [(.s 13)]⟩,
   ⟨(some 4), some undefA, none, false, .pu (.mov (.s 14))⟩])
 (.ret)))))⟩
theorem t92 : trF Try.prog [] [] Try.f92 = some m92 := by kernel_rfl

/-- slices.Repeat[[]int,int] [loop [7, 8]] -/
def m93 : MFun := ⟨48, [], [.mov (.s 4)],
 .seq (.ops [⟨(some 4), some undefA, none, false, .pu (.mov (.c (.nilS)))⟩])
 (.seq (.seq (.ops [⟨(some 9), some undefA, none, false, .pu (.mov (.s 1))⟩,
   ⟨(some 10), some undefA, none, false, .pu (.bin .lss (.s 9) (.c (.int .i64 0)))⟩])
 (.cond (.s 10) (.ops [⟨(some 11), some undefA, none, false, .pu (.fail)⟩,
    ⟨none, some undefA, none, false, .pu (.fail)⟩])
 (.skip)))
 (.seq (.ops [⟨(some 13), some undefA, none, false, .pu (.mov (.s 0))⟩,
   ⟨(some 14), some undefA, none, false, .pu (.len (.s 13))⟩,
   ⟨(some 15), some undefA, none, false, .pu (.conv .u64 (.s 14))⟩,
   ⟨(some 16), some undefA, none, false, .pu (.mov (.s 1))⟩,
   ⟨(some 17), some undefA, none, false, .pu (.conv .u64 (.s 16))⟩,
   ⟨(some 18), some undefA, none, false, .call 102 [(.s 15), (.s 17)]⟩,
   ⟨(some 12), some undefA, none, false, .pu (.mov (.s 18))⟩,
   ⟨(some 19), some undefA, none, false, .pu (.extr 0 (.s 12))⟩,
   ⟨(some 20), some undefA, none, false, .pu (.extr 1 (.s 12))⟩,
   ⟨(some 5), some undefA, none, false, .pu (.mov (.s 19))⟩,
   ⟨(some 6), some undefA, none, false, .pu (.mov (.s 20))⟩])
 (.seq (.seq (.ops [⟨(some 21), some undefA, none, false, .pu (.mov (.s 5))⟩,
   ⟨(some 22), some undefA, none, false, .pu (.bin .gtr (.s 21) (.c (.int .u64 0)))⟩,
   ⟨(some 23), some undefA, none, false, .pu (.mov (.s 22))⟩,
   ⟨(some 24), some undefA, (some (23, false)), false, .pu (.mov (.s 6))⟩,
   ⟨(some 25), some undefA, (some (23, false)), false, .pu (.bin .gtr (.s 24) (.c (.int .u64 9223372036854775807)))⟩,
   ⟨(some 26), some undefA, none, false, .pu (.pick (.s 23) (.c (.bool true)) (.s 25))⟩])
 (.cond (.s 26) (.ops [⟨(some 27), some undefA, none, false, .pu (.fail)⟩,
    ⟨none, some undefA, none, false, .pu (.fail)⟩])
 (.skip)))
 (.seq (.ops [⟨(some 28), some undefA, none, false, .pu (.mov (.s 6))⟩,
   ⟨(some 29), some undefA, none, false, .pu (.conv .i64 (.s 28))⟩,
   ⟨(some 30), some undefA, none, false, .ha (.mks 1 [.int .i64 0] (.s 29) (.s 29))⟩,
   ⟨(some 7), some undefA, none, false, .pu (.mov (.s 30))⟩])
 (.seq (.ops [⟨(some 31), some undefA, none, false, .pu (.mov (.s 7))⟩,
   ⟨(some 32), some undefA, none, false, .pu (.mov (.s 0))⟩,
   ⟨(some 33), some undefA, none, false, .ha (.cpy 1 (.s 31) (.s 32))⟩,
   ⟨(some 8), some undefA, none, false, .pu (.mov (.s 33))⟩])
 (.seq (.block 0 (.loop (.seq (.seq (.ops [⟨(some 34), some undefA, none, false, .pu (.mov (.s 8))⟩,
     ⟨(some 35), some undefA, none, false, .pu (.mov (.s 7))⟩,
     ⟨(some 36), some undefA, none, false, .pu (.len (.s 35))⟩,
     ⟨(some 37), some undefA, none, false, .pu (.bin .lss (.s 34) (.s 36))⟩])
   (.cond (.s 37) (.skip)
   (.exit 0)))
   (.block 1 (.ops [⟨(some 38), some undefA, none, false, .pu (.mov (.s 8))⟩,
      ⟨(some 39), some undefA, none, false, .pu (.mov (.s 7))⟩,
      ⟨(some 40), some undefA, none, false, .pu (.mov (.s 8))⟩,
      ⟨(some 41), some undefA, none, false, .pu (.slc 1 (.s 39) (some (.s 40)) none none)⟩,
      ⟨(some 42), some undefA, none, false, .pu (.mov (.s 7))⟩,
      ⟨(some 43), some undefA, none, false, .pu (.mov (.s 8))⟩,
      ⟨(some 44), some undefA, none, false, .pu (.slc 1 (.s 42) none (some (.s 43)) none)⟩,
      ⟨(some 45), some undefA, none, false, .ha (.cpy 1 (.s 41) (.s 44))⟩,
      ⟨(some 46), some undefA, none, false, .pu (.bin .add (.s 38) (.s 45))⟩,
      ⟨(some 8), some undefA, none, false, .pu (.mov (.s 46))⟩])))))
 (.seq (.ops [⟨(some 47), some undefA, none, false, .pu (.mov (.s 7))⟩,
   ⟨(some 4), some undefA, none, false, .pu (.mov (.s 47))⟩])
 (.ret))))))))⟩
theorem t93 : trF Try.prog [] [] Try.f93 = some m93 := by kernel_rfl

/-- slices.Index[[]int,int] [loop [0, 1, 7, 8]] -/
def m94 : MFun := ⟨19, [], [.mov (.s 4)],
 .seq (.ops [⟨(some 4), some undefA, none, false, .pu (.mov (.c (.int .i64 0)))⟩])
 (.seq (.seq (.ops [⟨(some 6), some undefA, none, false, .pu (.mov (.s 0))⟩,
   ⟨(some 7), some undefA, none, false, .pu (.len (.s 6))⟩,
   ⟨(some 8), some undefA, none, false, .pu (.mov (.c (.int .i64 0)))⟩])
 (.block 0 (.loop (.seq (.ops [⟨(some 9), some undefA, none, false, .pu (.bin .lss (.s 8) (.s 7))⟩])
   (.seq (.cond (.s 9) (.skip)
   (.exit 0))
   (.seq (.block 1 (.seq (.ops [⟨(some 10), some undefA, none, false, .pu (.mov (.s 8))⟩,
      ⟨(some 5), some undefA, none, false, .pu (.mov (.s 10))⟩])
    (.seq (.ops [⟨(some 11), some undefA, none, false, .pu (.mov (.s 1))⟩,
      ⟨(some 12), some undefA, none, false, .pu (.mov (.s 0))⟩,
      ⟨(some 13), some undefA, none, false, .pu (.mov (.s 5))⟩,
      ⟨(some 14), some undefA, none, false, .pu (.idx 1 (.s 12) (.s 13))⟩,
      ⟨(some 15), some undefA, none, false, .ld (.ld 1 false (.s 14))⟩,
      ⟨(some 16), some undefA, none, false, .pu (.bin .eql (.s 11) (.s 15))⟩])
    (.cond (.s 16) (.seq (.ops [⟨(some 17), some undefA, none, false, .pu (.mov (.s 5))⟩,
       ⟨(some 4), some undefA, none, false, .pu (.mov (.s 17))⟩])
     (.ret))
    (.skip)))))
   (.ops [⟨(some 18), some undefA, none, false, .pu (.bin .add (.s 8) (.c (.int .i64 1)))⟩,
     ⟨(some 8), some undefA, none, false, .pu (.mov (.s 18))⟩])))))))
 (.seq (.ops [⟨(some 4), some undefA, none, false, .pu (.mov (.c (.int .i64 (-1))))⟩])
 (.ret)))⟩
theorem t94 : trF Try.prog [] [] Try.f94 = some m94 := by kernel_rfl

/-- selion/wish.isPlaces$1 [] -/
def m95 : MFun := ⟨11, [], [.mov (.s 3)],
 .seq (.ops [⟨(some 3), some undefA, none, false, .pu (.mov (.c (.bool false)))⟩])
 (.seq (.ops [⟨(some 4), some undefA, none, false, .pu (.mov (.s 0))⟩,
   ⟨(some 5), some undefA, none, false, .pu (.bin .lss (.s 4) (.c (.int .i64 0)))⟩,
   ⟨(some 6), some undefA, none, false, .pu (.mov (.s 5))⟩,
   ⟨(some 7), some undefA, (some (6, false)), false, .pu (.mov (.s 0))⟩,
   ⟨(some 8), some undefA, (some (6, false)), false, .ld (.ld 1 false (.s 1))⟩,
   ⟨(some 9), some undefA, (some (6, false)), false, .pu (.bin .geq (.s 7) (.s 8))⟩,
   ⟨(some 10), some undefA, none, false, .pu (.pick (.s 6) (.c (.bool true)) (.s 9))⟩,
   ⟨(some 3), some undefA, none, false, .pu (.mov (.s 10))⟩])
 (.ret))⟩
theorem t95 : trF Try.prog [] [] Try.f95 = some m95 := by kernel_rfl

/-- selion/wish.union$1 [] -/
def m96 : MFun := ⟨12, [], [.mov (.s 4)],
 .seq (.ops [⟨(some 4), some undefA, none, false, .pu (.mov (.c (.bool false)))⟩])
 (.seq (.ops [⟨(some 5), some undefA, none, true, .pu (.fad 1 (.s 1))⟩,
   ⟨(some 6), some undefA, none, true, .ld (.ld 1 false (.s 5))⟩,
   ⟨(some 7), some undefA, none, true, .pu (.mov (.s 0))⟩,
   ⟨(some 8), some undefA, none, true, .pu (.idx 1 (.s 6) (.s 7))⟩,
   ⟨(some 9), some undefA, none, true, .ld (.ld 1 false (.s 8))⟩,
   ⟨(some 10), some undefA, none, true, .ld (.ld 1 false (.s 2))⟩,
   ⟨(some 11), some undefA, none, false, .call 71 [(.s 9), (.s 10)]⟩,
   ⟨(some 4), some undefA, none, false, .pu (.mov (.s 11))⟩])
 (.ret))⟩
theorem t96 : trF Try.prog [] [] Try.f96 = some m96 := by kernel_rfl

/-- cmp.Compare[int] [] -/
def m97 : MFun := ⟨20, [], [.mov (.s 4)],
 .seq (.ops [⟨(some 4), some undefA, none, false, .pu (.mov (.c (.int .i64 0)))⟩])
 (.seq (.ops [⟨(some 7), some undefA, none, false, .pu (.mov (.s 0))⟩,
   ⟨(some 8), some undefA, none, false, .call 103 [(.s 7)]⟩,
   ⟨(some 5), some undefA, none, false, .pu (.mov (.s 8))⟩])
 (.seq (.ops [⟨(some 9), some undefA, none, false, .pu (.mov (.s 1))⟩,
   ⟨(some 10), some undefA, none, false, .call 103 [(.s 9)]⟩,
   ⟨(some 6), some undefA, none, false, .pu (.mov (.s 10))⟩])
 (.seq (.seq (.ops [⟨(some 11), some undefA, none, false, .pu (.mov (.s 5))⟩])
 (.cond (.s 11) (.seq (.seq (.ops [⟨(some 12), some undefA, none, false, .pu (.mov (.s 6))⟩])
  (.cond (.s 12) (.seq (.ops [⟨(some 4), some undefA, none, false, .pu (.mov (.c (.int .i64 0)))⟩])
   (.ret))
  (.skip)))
  (.seq (.ops [⟨(some 4), some undefA, none, false, .pu (.mov (.c (.int .i64 (-1))))⟩])
  (.ret)))
 (.skip)))
 (.seq (.seq (.ops [⟨(some 13), some undefA, none, false, .pu (.mov (.s 6))⟩])
 (.cond (.s 13) (.seq (.ops [⟨(some 4), some undefA, none, false, .pu (.mov (.c (.int .i64 1)))⟩])
  (.ret))
 (.skip)))
 (.seq (.seq (.ops [⟨(some 14), some undefA, none, false, .pu (.mov (.s 0))⟩,
   ⟨(some 15), some undefA, none, false, .pu (.mov (.s 1))⟩,
   ⟨(some 16), some undefA, none, false, .pu (.bin .lss (.s 14) (.s 15))⟩])
 (.cond (.s 16) (.seq (.ops [⟨(some 4), some undefA, none, false, .pu (.mov (.c (.int .i64 (-1))))⟩])
  (.ret))
 (.skip)))
 (.seq (.seq (.ops [⟨(some 17), some undefA, none, false, .pu (.mov (.s 0))⟩,
   ⟨(some 18), some undefA, none, false, .pu (.mov (.s 1))⟩,
   ⟨(some 19), some undefA, none, false, .pu (.bin .gtr (.s 17) (.s 18))⟩])
 (.cond (.s 19) (.seq (.ops [⟨(some 4), some undefA, none, false, .pu (.mov (.c (.int .i64 1)))⟩])
  (.ret))
 (.skip)))
 (.seq (.ops [⟨(some 4), some undefA, none, false, .pu (.mov (.c (.int .i64 0)))⟩])
 (.ret))))))))⟩
theorem t97 : trF Try.prog [] [] Try.f97 = some m97 := by kernel_rfl

/-- (selion/wish.wished).serve$1 [loop [0, 1, 2, 3, 14, 15, 16]] -/
def m101 : MFun := ⟨43, [], [.mov (.s 5)],
 .seq (.ops [⟨(some 5), some undefA, none, false, .pu (.mov (.c (.bool false)))⟩])
 (.seq (.seq (.ops [⟨(some 9), some undefA, none, false, .pu (.fad 0 (.s 1))⟩,
   ⟨(some 10), some undefA, none, false, .pu (.fad 1 (.s 9))⟩,
   ⟨(some 11), some undefA, none, false, .ld (.ld 1 false (.s 10))⟩,
   ⟨(some 12), some undefA, none, false, .pu (.mov (.s 0))⟩,
   ⟨(some 13), some undefA, none, false, .pu (.idx 1 (.s 11) (.s 12))⟩,
   ⟨(some 14), some undefA, none, false, .ld (.ld 1 false (.s 13))⟩,
   ⟨(some 15), some undefA, none, false, .pu (.len (.s 14))⟩,
   ⟨(some 16), some undefA, none, false, .pu (.mov (.c (.int .i64 0)))⟩])
 (.block 0 (.loop (.seq (.ops [⟨(some 17), some undefA, none, false, .pu (.bin .lss (.s 16) (.s 15))⟩])
   (.seq (.cond (.s 17) (.skip)
   (.exit 0))
   (.seq (.block 1 (.seq (.ops [⟨(some 18), some undefA, none, false, .pu (.idx 1 (.s 14) (.s 16))⟩,
      ⟨(some 19), some undefA, none, false, .ld (.ld 1 false (.s 18))⟩,
      ⟨(some 7), some undefA, none, false, .pu (.mov (.s 19))⟩])
    (.seq (.seq (.ops [⟨(some 20), some undefA, none, false, .ld (.ld 1 false (.s 2))⟩,
      ⟨(some 21), some undefA, none, false, .pu (.mov (.s 7))⟩,
      ⟨(some 22), some undefA, none, false, .pu (.idx 1 (.s 20) (.s 21))⟩,
      ⟨(some 23), some undefA, none, false, .ld (.ld 1 false (.s 22))⟩])
    (.cond (.s 23) (.exit 1)
    (.skip)))
    (.seq (.ops [⟨(some 24), some undefA, none, false, .ld (.ld 1 false (.s 2))⟩,
      ⟨(some 25), some undefA, none, false, .pu (.mov (.s 7))⟩,
      ⟨(some 26), some undefA, none, false, .pu (.idx 1 (.s 24) (.s 25))⟩,
      ⟨none, some undefA, none, false, .ha (.st 1 (.s 26) (.c (.bool true)))⟩])
    (.seq (.ops [⟨(some 27), some undefA, none, false, .ld (.ld 3 true (.s 1))⟩,
      ⟨(some 28), some undefA, none, false, .pu (.mov (.s 7))⟩,
      ⟨(some 29), some undefA, none, false, .call 89 [(.s 27), (.s 28)]⟩,
      ⟨(some 8), some undefA, none, false, .pu (.mov (.s 29))⟩])
    (.seq (.ops [⟨(some 30), some undefA, none, false, .pu (.mov (.s 8))⟩,
      ⟨(some 31), some undefA, none, false, .pu (.bin .lss (.s 30) (.c (.int .i64 0)))⟩,
      ⟨(some 32), some undefA, none, false, .pu (.mov (.s 31))⟩,
      ⟨(some 33), some undefA, (some (32, false)), false, .ld (.ld 1 false (.s 3))⟩,
      ⟨(some 34), some undefA, (some (32, false)), false, .pu (.mov (.s 8))⟩,
      ⟨(some 35), some undefA, (some (32, false)), false, .callv (.s 33) [(.s 34)]⟩,
      ⟨(some 36), some undefA, none, false, .pu (.pick (.s 32) (.c (.bool true)) (.s 35))⟩])
    (.cond (.s 36) (.seq (.ops [⟨(some 37), some undefA, none, false, .pu (.fad 2 (.s 1))⟩,
       ⟨(some 38), some undefA, none, false, .ld (.ld 1 false (.s 37))⟩,
       ⟨(some 39), some undefA, none, false, .pu (.mov (.s 0))⟩,
       ⟨(some 40), some undefA, none, false, .pu (.mov (.s 7))⟩,
       ⟨(some 41), some undefA, none, false, .pu (.idx 1 (.s 38) (.s 39))⟩,
       ⟨none, some undefA, none, false, .ha (.st 1 (.s 41) (.s 40))⟩])
     (.seq (.ops [⟨(some 5), some undefA, none, false, .pu (.mov (.c (.bool true)))⟩])
     (.ret)))
    (.skip))))))))
   (.ops [⟨(some 42), some undefA, none, false, .pu (.bin .add (.s 16) (.c (.int .i64 1)))⟩,
     ⟨(some 16), some undefA, none, false, .pu (.mov (.s 42))⟩])))))))
 (.seq (.ops [⟨(some 5), some undefA, none, false, .pu (.mov (.c (.bool false)))⟩])
 (.ret)))⟩
theorem t101 : trF Try.prog [] [] Try.f101 = some m101 := by kernel_rfl

/-- math/bits.Mul [] -/
def m102 : MFun := ⟨30, [], [.mov (.s 4), .mov (.s 5)],
 .seq (.ops [⟨(some 4), some undefA, none, false, .pu (.mov (.c (.int .u64 0)))⟩,
   ⟨(some 5), some undefA, none, false, .pu (.mov (.c (.int .u64 0)))⟩])
 (.seq (.cond (.c (.bool false)) (.seq (.ops [⟨(some 11), some undefA, none, false, .pu (.mov (.s 0))⟩,
    ⟨(some 12), some undefA, none, false, .pu (.conv .u32 (.s 11))⟩,
    ⟨(some 13), some undefA, none, false, .pu (.mov (.s 1))⟩,
    ⟨(some 14), some undefA, none, false, .pu (.conv .u32 (.s 13))⟩,
    ⟨(some 15), some undefA, none, false, .call 107 [(.s 12), (.s 14)]⟩,
    ⟨(some 10), some undefA, none, false, .pu (.mov (.s 15))⟩,
    ⟨(some 16), some undefA, none, false, .pu (.extr 0 (.s 10))⟩,
    ⟨(some 17), some undefA, none, false, .pu (.extr 1 (.s 10))⟩,
    ⟨(some 6), some undefA, none, false, .pu (.mov (.s 16))⟩,
    ⟨(some 7), some undefA, none, false, .pu (.mov (.s 17))⟩])
  (.seq (.ops [⟨(some 18), some undefA, none, false, .pu (.mov (.s 6))⟩,
    ⟨(some 19), some undefA, none, false, .pu (.conv .u64 (.s 18))⟩,
    ⟨(some 20), some undefA, none, false, .pu (.mov (.s 7))⟩,
    ⟨(some 21), some undefA, none, false, .pu (.conv .u64 (.s 20))⟩,
    ⟨(some 4), some undefA, none, false, .pu (.mov (.s 19))⟩,
    ⟨(some 5), some undefA, none, false, .pu (.mov (.s 21))⟩])
  (.ret)))
 (.skip))
 (.seq (.ops [⟨(some 23), some undefA, none, false, .pu (.mov (.s 0))⟩,
   ⟨(some 24), some undefA, none, false, .pu (.mov (.s 1))⟩,
   ⟨(some 25), some undefA, none, false, .call 108 [(.s 23), (.s 24)]⟩,
   ⟨(some 22), some undefA, none, false, .pu (.mov (.s 25))⟩,
   ⟨(some 26), some undefA, none, false, .pu (.extr 0 (.s 22))⟩,
   ⟨(some 27), some undefA, none, false, .pu (.extr 1 (.s 22))⟩,
   ⟨(some 8), some undefA, none, false, .pu (.mov (.s 26))⟩,
   ⟨(some 9), some undefA, none, false, .pu (.mov (.s 27))⟩])
 (.seq (.ops [⟨(some 28), some undefA, none, false, .pu (.mov (.s 8))⟩,
   ⟨(some 29), some undefA, none, false, .pu (.mov (.s 9))⟩,
   ⟨(some 4), some undefA, none, false, .pu (.mov (.s 28))⟩,
   ⟨(some 5), some undefA, none, false, .pu (.mov (.s 29))⟩])
 (.ret))))⟩
theorem t102 : trF Try.prog [] [] Try.f102 = some m102 := by kernel_rfl

/-- math/bits.Mul32 [] -/
def m107 : MFun := ⟨17, [], [.mov (.s 4), .mov (.s 5)],
 .seq (.ops [⟨(some 4), some undefA, none, false, .pu (.mov (.c (.int .u32 0)))⟩,
   ⟨(some 5), some undefA, none, false, .pu (.mov (.c (.int .u32 0)))⟩])
 (.seq (.ops [⟨(some 7), some undefA, none, false, .pu (.mov (.s 0))⟩,
   ⟨(some 8), some undefA, none, false, .pu (.conv .u64 (.s 7))⟩,
   ⟨(some 9), some undefA, none, false, .pu (.mov (.s 1))⟩,
   ⟨(some 10), some undefA, none, false, .pu (.conv .u64 (.s 9))⟩,
   ⟨(some 11), some undefA, none, false, .pu (.bin .mul (.s 8) (.s 10))⟩,
   ⟨(some 6), some undefA, none, false, .pu (.mov (.s 11))⟩])
 (.seq (.ops [⟨(some 12), some undefA, none, false, .pu (.mov (.s 6))⟩,
   ⟨(some 13), some undefA, none, false, .pu (.bin .shr (.s 12) (.c (.int .u64 32)))⟩,
   ⟨(some 14), some undefA, none, false, .pu (.conv .u32 (.s 13))⟩,
   ⟨(some 15), some undefA, none, false, .pu (.mov (.s 6))⟩,
   ⟨(some 16), some undefA, none, false, .pu (.conv .u32 (.s 15))⟩,
   ⟨(some 4), some undefA, none, false, .pu (.mov (.s 14))⟩,
   ⟨(some 5), some undefA, none, false, .pu (.mov (.s 16))⟩])
 (.ret)))⟩
theorem t107 : trF Try.prog [] [] Try.f107 = some m107 := by kernel_rfl

/-- math/bits.Mul64 [] -/
def m108 : MFun := ⟨51, [], [.mov (.s 4), .mov (.s 5)],
 .seq (.ops [⟨(some 4), some undefA, none, false, .pu (.mov (.c (.int .u64 0)))⟩,
   ⟨(some 5), some undefA, none, false, .pu (.mov (.c (.int .u64 0)))⟩])
 (.seq (.ops [⟨(some 14), some undefA, none, false, .pu (.mov (.s 0))⟩,
   ⟨(some 15), some undefA, none, false, .pu (.bin .and (.s 14) (.c (.int .u64 4294967295)))⟩,
   ⟨(some 6), some undefA, none, false, .pu (.mov (.s 15))⟩])
 (.seq (.ops [⟨(some 16), some undefA, none, false, .pu (.mov (.s 0))⟩,
   ⟨(some 17), some undefA, none, false, .pu (.bin .shr (.s 16) (.c (.int .u64 32)))⟩,
   ⟨(some 7), some undefA, none, false, .pu (.mov (.s 17))⟩])
 (.seq (.ops [⟨(some 18), some undefA, none, false, .pu (.mov (.s 1))⟩,
   ⟨(some 19), some undefA, none, false, .pu (.bin .and (.s 18) (.c (.int .u64 4294967295)))⟩,
   ⟨(some 8), some undefA, none, false, .pu (.mov (.s 19))⟩])
 (.seq (.ops [⟨(some 20), some undefA, none, false, .pu (.mov (.s 1))⟩,
   ⟨(some 21), some undefA, none, false, .pu (.bin .shr (.s 20) (.c (.int .u64 32)))⟩,
   ⟨(some 9), some undefA, none, false, .pu (.mov (.s 21))⟩])
 (.seq (.ops [⟨(some 22), some undefA, none, false, .pu (.mov (.s 6))⟩,
   ⟨(some 23), some undefA, none, false, .pu (.mov (.s 8))⟩,
   ⟨(some 24), some undefA, none, false, .pu (.bin .mul (.s 22) (.s 23))⟩,
   ⟨(some 10), some undefA, none, false, .pu (.mov (.s 24))⟩])
 (.seq (.ops [⟨(some 25), some undefA, none, false, .pu (.mov (.s 7))⟩,
   ⟨(some 26), some undefA, none, false, .pu (.mov (.s 8))⟩,
   ⟨(some 27), some undefA, none, false, .pu (.bin .mul (.s 25) (.s 26))⟩,
   ⟨(some 28), some undefA, none, false, .pu (.mov (.s 10))⟩,
   ⟨(some 29), some undefA, none, false, .pu (.bin .shr (.s 28) (.c (.int .u64 32)))⟩,
   ⟨(some 30), some undefA, none, false, .pu (.bin .add (.s 27) (.s 29))⟩,
   ⟨(some 11), some undefA, none, false, .pu (.mov (.s 30))⟩])
 (.seq (.ops [⟨(some 31), some undefA, none, false, .pu (.mov (.s 11))⟩,
   ⟨(some 32), some undefA, none, false, .pu (.bin .and (.s 31) (.c (.int .u64 4294967295)))⟩,
   ⟨(some 12), some undefA, none, false, .pu (.mov (.s 32))⟩])
 (.seq (.ops [⟨(some 33), some undefA, none, false, .pu (.mov (.s 11))⟩,
   ⟨(some 34), some undefA, none, false, .pu (.bin .shr (.s 33) (.c (.int .u64 32)))⟩,
   ⟨(some 13), some undefA, none, false, .pu (.mov (.s 34))⟩])
 (.seq (.ops [⟨(some 35), some undefA, none, false, .pu (.mov (.s 12))⟩,
   ⟨(some 36), some undefA, none, false, .pu (.mov (.s 6))⟩,
   ⟨(some 37), some undefA, none, false, .pu (.mov (.s 9))⟩,
   ⟨(some 38), some undefA, none, false, .pu (.bin .mul (.s 36) (.s 37))⟩,
   ⟨(some 39), some undefA, none, false, .pu (.bin .add (.s 35) (.s 38))⟩,
   ⟨(some 12), some undefA, none, false, .pu (.mov (.s 39))⟩])
 (.seq (.ops [⟨(some 40), some undefA, none, false, .pu (.mov (.s 7))⟩,
   ⟨(some 41), some undefA, none, false, .pu (.mov (.s 9))⟩,
   ⟨(some 42), some undefA, none, false, .pu (.bin .mul (.s 40) (.s 41))⟩,
   ⟨(some 43), some undefA, none, false, .pu (.mov (.s 13))⟩,
   ⟨(some 44), some undefA, none, false, .pu (.bin .add (.s 42) (.s 43))⟩,
   ⟨(some 45), some undefA, none, false, .pu (.mov (.s 12))⟩,
   ⟨(some 46), some undefA, none, false, .pu (.bin .shr (.s 45) (.c (.int .u64 32)))⟩,
   ⟨(some 47), some undefA, none, false, .pu (.bin .add (.s 44) (.s 46))⟩,
   ⟨(some 4), some undefA, none, false, .pu (.mov (.s 47))⟩])
 (.seq (.ops [⟨(some 48), some undefA, none, false, .pu (.mov (.s 0))⟩,
   ⟨(some 49), some undefA, none, false, .pu (.mov (.s 1))⟩,
   ⟨(some 50), some undefA, none, false, .pu (.bin .mul (.s 48) (.s 49))⟩,
   ⟨(some 5), some undefA, none, false, .pu (.mov (.s 50))⟩])
 (.ret))))))))))))⟩
theorem t108 : trF Try.prog [] [] Try.f108 = some m108 := by kernel_rfl

end Go.Proofs.Ytlmbobbefgcolaa
