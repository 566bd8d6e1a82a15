/- What the law's proof rests on, part 3: for all that is said in each line. No conditions. -/
import Derived.Test.YtlmbobbefgcolaaRows
import Derived.Test.YtlmbobbefgcolaaEnB
namespace Go.Proofs.Ytlmbobbefgcolaa
open Go Go.Eng
/-- selion/selionlaw07.Long [loop [1, 3]] -/
def m17 : MFun := ⟨21, [1], [.mov (.s 2)],
 .seq (.ops [⟨(some 1), some (.junk), none, false, .pu (.bnew (.s 0))⟩,
   ⟨(some 2), some undefA, none, false, .pu (.mov (.c (.bool false)))⟩])
 (.seq (.seq (.ops [⟨(some 3), some undefA, none, false, .pu (.mov (.c (.int .i64 0)))⟩])
 (.block 0 (.loop (.seq (.seq (.ops [⟨(some 4), some undefA, none, false, .pu (.mov (.s 3))⟩,
     ⟨(some 5), some undefA, none, false, .pu (.badr none 1)⟩,
     ⟨(some 6), some undefA, none, false, .pu (.bget (some 5) 1 1 1 false)⟩,
     ⟨(some 7), some undefA, none, false, .pu (.len (.s 6))⟩,
     ⟨(some 8), some undefA, none, false, .pu (.bin .lss (.s 4) (.s 7))⟩])
   (.cond (.s 8) (.skip)
   (.exit 0)))
   (.seq (.block 1 (.seq (.ops [⟨(some 11), some undefA, none, false, .pu (.badr none 1)⟩,
      ⟨(some 12), some undefA, none, false, .pu (.bget (some 11) 1 1 1 false)⟩,
      ⟨(some 13), some undefA, none, false, .pu (.mov (.s 3))⟩,
      ⟨(some 14), some undefA, none, false, .pu (.idx 1 (.s 12) (.s 13))⟩,
      ⟨(some 15), some undefA, none, false, .ld (.ld 1 false (.s 14))⟩,
      ⟨(some 16), some undefA, none, false, .call 32 [(.s 15)]⟩])
    (.cond (.s 16) (.seq (.ops [⟨(some 2), some undefA, none, false, .pu (.mov (.c (.bool true)))⟩])
     (.ret))
    (.skip))))
   (.ops [⟨(some 9), some undefA, none, false, .pu (.mov (.s 3))⟩,
     ⟨(some 10), some undefA, none, false, .pu (.bin .add (.s 9) (.c (.int .i64 1)))⟩,
     ⟨(some 3), some undefA, none, false, .pu (.mov (.s 10))⟩]))))))
 (.seq (.ops [⟨(some 17), some undefA, none, false, .pu (.badr none 1)⟩,
   ⟨(some 18), some undefA, none, false, .pu (.bget (some 17) 1 1 1 false)⟩,
   ⟨(some 19), some undefA, none, false, .pu (.len (.s 18))⟩,
   ⟨(some 20), some undefA, none, false, .pu (.bin .gtr (.s 19) (.c (.int .i64 40)))⟩,
   ⟨(some 2), some undefA, none, false, .pu (.mov (.s 20))⟩])
 (.ret)))⟩
theorem t17 : trF Try.prog [1] [] Try.f17 = some m17 := by kernel_rfl
/-- selion/selionlaw07.known [] -/
def m18 : MFun := ⟨46, [], [.mov (.s 0)],
 .seq (.ops [⟨(some 0), some undefA, none, false, .pu (.mov (.c (.bool false)))⟩])
 (.seq (.ops [⟨(some 8), some undefA, none, false, .call 54 []⟩,
   ⟨(some 9), some undefA, none, false, .call 24 [(.s 8)]⟩,
   ⟨(some 7), some undefA, none, false, .pu (.mov (.s 9))⟩,
   ⟨(some 10), some undefA, none, false, .pu (.extr 0 (.s 7))⟩,
   ⟨(some 11), some undefA, none, false, .pu (.extr 1 (.s 7))⟩,
   ⟨(some 1), some undefA, none, false, .pu (.mov (.s 10))⟩,
   ⟨(some 2), some undefA, none, false, .pu (.mov (.s 11))⟩])
 (.seq (.ops [⟨(some 13), some undefA, none, false, .call 54 []⟩,
   ⟨(some 14), some undefA, none, false, .call 19 [(.s 13)]⟩,
   ⟨(some 12), some undefA, none, false, .pu (.mov (.s 14))⟩,
   ⟨(some 15), some undefA, none, false, .pu (.extr 0 (.s 12))⟩,
   ⟨(some 16), some undefA, none, false, .pu (.extr 1 (.s 12))⟩,
   ⟨(some 3), some undefA, none, false, .pu (.mov (.s 15))⟩,
   ⟨(some 4), some undefA, none, false, .pu (.mov (.s 16))⟩])
 (.seq (.ops [⟨(some 18), some undefA, none, false, .call 54 []⟩,
   ⟨(some 19), some undefA, none, false, .call 21 [(.s 18)]⟩,
   ⟨(some 17), some undefA, none, false, .pu (.mov (.s 19))⟩,
   ⟨(some 20), some undefA, none, false, .pu (.extr 0 (.s 17))⟩,
   ⟨(some 21), some undefA, none, false, .pu (.extr 1 (.s 17))⟩,
   ⟨(some 5), some undefA, none, false, .pu (.mov (.s 20))⟩,
   ⟨(some 6), some undefA, none, false, .pu (.mov (.s 21))⟩])
 (.seq (.ops [⟨(some 22), some undefA, none, false, .pu (.mov (.s 2))⟩,
   ⟨(some 23), some undefA, none, false, .pu (.bin .eql (.s 22) (.c (.int .i64 0)))⟩,
   ⟨(some 24), some undefA, none, false, .pu (.mov (.s 23))⟩,
   ⟨(some 25), some undefA, (some (24, true)), false, .pu (.mov (.s 1))⟩,
   ⟨(some 26), some undefA, (some (24, true)), false, .pu (.bin .eql (.s 25) (.c (.int .i64 2)))⟩,
   ⟨(some 27), some undefA, none, false, .pu (.pick (.s 24) (.s 26) (.c (.bool false)))⟩,
   ⟨(some 28), some undefA, none, false, .pu (.mov (.s 27))⟩,
   ⟨(some 29), some undefA, (some (28, true)), false, .pu (.mov (.s 4))⟩,
   ⟨(some 30), some undefA, (some (28, true)), false, .pu (.bin .eql (.s 29) (.c (.int .i64 0)))⟩,
   ⟨(some 31), some undefA, none, false, .pu (.pick (.s 28) (.s 30) (.c (.bool false)))⟩,
   ⟨(some 32), some undefA, none, false, .pu (.mov (.s 31))⟩,
   ⟨(some 33), some undefA, (some (32, true)), false, .pu (.mov (.s 3))⟩,
   ⟨(some 34), some undefA, (some (32, true)), false, .ha (.blds 1 1 [.int .i64 0] [(0, 1, (.c (.int .i64 0)))])⟩,
   ⟨(some 35), some undefA, (some (32, true)), false, .call 23 [(.s 33), (.s 34)]⟩,
   ⟨(some 36), some undefA, none, false, .pu (.pick (.s 32) (.s 35) (.c (.bool false)))⟩,
   ⟨(some 37), some undefA, none, false, .pu (.mov (.s 36))⟩,
   ⟨(some 38), some undefA, (some (37, true)), false, .pu (.mov (.s 6))⟩,
   ⟨(some 39), some undefA, (some (37, true)), false, .pu (.bin .eql (.s 38) (.c (.int .i64 0)))⟩,
   ⟨(some 40), some undefA, none, false, .pu (.pick (.s 37) (.s 39) (.c (.bool false)))⟩,
   ⟨(some 41), some undefA, none, false, .pu (.mov (.s 40))⟩,
   ⟨(some 42), some undefA, (some (41, true)), false, .pu (.mov (.s 5))⟩,
   ⟨(some 43), some undefA, (some (41, true)), false, .ha (.blds 1 2 [.int .i64 0] [(0, 1, (.c (.int .i64 0))), (1, 1, (.c (.int .i64 1)))])⟩,
   ⟨(some 44), some undefA, (some (41, true)), false, .call 23 [(.s 42), (.s 43)]⟩,
   ⟨(some 45), some undefA, none, false, .pu (.pick (.s 41) (.s 44) (.c (.bool false)))⟩,
   ⟨(some 0), some undefA, none, false, .pu (.mov (.s 45))⟩])
 (.ret)))))⟩
theorem t18 : trF Try.prog [] [] Try.f18 = some m18 := by kernel_rfl
/-- selion/wish.Sure [loop [1, 5, 15, 16]] -/
def m19 : MFun := ⟨40, [1, 7], [.mov (.s 2), .mov (.s 3)],
 .seq (.ops [⟨(some 1), some (.junk), none, false, .pu (.bnew (.s 0))⟩,
   ⟨(some 2), some undefA, none, false, .pu (.mov (.c (.nilS)))⟩,
   ⟨(some 3), some undefA, none, false, .pu (.mov (.c (.int .i64 0)))⟩])
 (.seq (.seq (.ops [⟨(some 8), some undefA, none, false, .pu (.bget none 1 0 2 true)⟩,
   ⟨(some 9), some undefA, none, false, .call 39 [(.s 8)]⟩,
   ⟨(some 4), some undefA, none, false, .pu (.mov (.s 9))⟩])
 (.seq (.ops [⟨(some 10), some undefA, none, false, .pu (.mov (.s 4))⟩,
   ⟨(some 11), some undefA, none, false, .pu (.bin .neq (.s 10) (.c (.int .i64 0)))⟩])
 (.cond (.s 11) (.seq (.ops [⟨(some 12), some undefA, none, false, .pu (.mov (.s 4))⟩,
    ⟨(some 2), some undefA, none, false, .pu (.mov (.c (.nilS)))⟩,
    ⟨(some 3), some undefA, none, false, .pu (.mov (.s 12))⟩])
  (.ret))
 (.skip))))
 (.seq (.ops [⟨(some 5), some undefA, none, false, .pu (.mov (.c (.nilS)))⟩])
 (.seq (.seq (.ops [⟨(some 13), some undefA, none, false, .pu (.badr none 1)⟩,
   ⟨(some 14), some undefA, none, false, .pu (.bget (some 13) 1 1 1 false)⟩,
   ⟨(some 15), some undefA, none, false, .pu (.len (.s 14))⟩,
   ⟨(some 16), some undefA, none, false, .pu (.mov (.c (.int .i64 0)))⟩])
 (.block 0 (.loop (.seq (.ops [⟨(some 17), some undefA, none, false, .pu (.bin .lss (.s 16) (.s 15))⟩])
   (.seq (.cond (.s 17) (.skip)
   (.exit 0))
   (.seq (.block 1 (.seq (.ops [⟨(some 18), some undefA, none, false, .pu (.mov (.s 16))⟩,
      ⟨(some 6), some undefA, none, false, .pu (.mov (.s 18))⟩])
    (.seq (.ops [⟨(some 19), some undefA, none, false, .pu (.badr none 1)⟩,
      ⟨(some 20), some undefA, none, false, .pu (.bget (some 19) 1 0 1 false)⟩,
      ⟨(some 21), some undefA, none, false, .pu (.badr none 1)⟩,
      ⟨(some 22), some undefA, none, false, .pu (.bget (some 21) 1 1 1 false)⟩,
      ⟨(some 23), some undefA, none, false, .call 55 [(.s 22)]⟩,
      ⟨(some 24), some undefA, none, false, .pu (.build [.int .i64 0, .nilS] [(0, 1, (.s 20)), (1, 1, (.s 23))])⟩,
      ⟨(some 7), some (.junk), none, false, .pu (.bnew (.c (.agg [.int .i64 0, .nilS])))⟩,
      ⟨(some 7), none, none, false, .pu (.bset none 7 0 2 (.s 24))⟩])
    (.seq (.ops [⟨(some 25), some undefA, none, false, .pu (.badr none 7)⟩,
      ⟨(some 26), some undefA, none, false, .pu (.bget (some 25) 7 1 1 false)⟩,
      ⟨(some 27), some undefA, none, false, .pu (.mov (.s 6))⟩,
      ⟨(some 28), some undefA, none, false, .pu (.idx 1 (.s 26) (.s 27))⟩,
      ⟨none, some undefA, none, false, .ha (.st 1 (.s 28) (.c (.nilS)))⟩])
    (.seq (.ops [⟨(some 29), some undefA, none, false, .pu (.bget none 7 0 2 true)⟩,
      ⟨(some 30), some undefA, none, false, .call 56 [(.s 29)]⟩,
      ⟨(some 31), some undefA, none, false, .pu (.bget none 1 0 2 true)⟩,
      ⟨(some 32), some undefA, none, false, .call 56 [(.s 31)]⟩,
      ⟨(some 33), some undefA, none, false, .pu (.bin .lss (.s 30) (.s 32))⟩])
    (.cond (.s 33) (.ops [⟨(some 34), some undefA, none, false, .pu (.mov (.s 5))⟩,
       ⟨(some 35), some undefA, none, false, .pu (.mov (.s 6))⟩,
       ⟨(some 36), some undefA, none, false, .ha (.blds 1 1 [.int .i64 0] [(0, 1, (.s 35))])⟩,
       ⟨(some 37), some undefA, none, false, .ha (.app 1 (.s 34) (.s 36))⟩,
       ⟨(some 5), some undefA, none, false, .pu (.mov (.s 37))⟩])
    (.skip)))))))
   (.ops [⟨(some 38), some undefA, none, false, .pu (.bin .add (.s 16) (.c (.int .i64 1)))⟩,
     ⟨(some 16), some undefA, none, false, .pu (.mov (.s 38))⟩])))))))
 (.seq (.ops [⟨(some 39), some undefA, none, false, .pu (.mov (.s 5))⟩,
   ⟨(some 2), some undefA, none, false, .pu (.mov (.s 39))⟩,
   ⟨(some 3), some undefA, none, false, .pu (.mov (.c (.int .i64 0)))⟩])
 (.ret)))))⟩
theorem t19 : trF Try.prog [1, 7] [] Try.f19 = some m19 := by kernel_rfl
/-- selion/selionref07.Sure [loop [1, 5, 6]] -/
def m20 : MFun := ⟨32, [1], [.mov (.s 2), .mov (.s 3)],
 .seq (.ops [⟨(some 1), some (.junk), none, false, .pu (.bnew (.s 0))⟩,
   ⟨(some 2), some undefA, none, false, .pu (.mov (.c (.nilS)))⟩,
   ⟨(some 3), some undefA, none, false, .pu (.mov (.c (.int .i64 0)))⟩])
 (.seq (.seq (.ops [⟨(some 7), some undefA, none, false, .pu (.bget none 1 0 2 true)⟩,
   ⟨(some 8), some undefA, none, false, .call 40 [(.s 7)]⟩,
   ⟨(some 4), some undefA, none, false, .pu (.mov (.s 8))⟩])
 (.seq (.ops [⟨(some 9), some undefA, none, false, .pu (.mov (.s 4))⟩,
   ⟨(some 10), some undefA, none, false, .pu (.bin .neq (.s 9) (.c (.int .i64 0)))⟩])
 (.cond (.s 10) (.seq (.ops [⟨(some 11), some undefA, none, false, .pu (.mov (.s 4))⟩,
    ⟨(some 2), some undefA, none, false, .pu (.mov (.c (.nilS)))⟩,
    ⟨(some 3), some undefA, none, false, .pu (.mov (.s 11))⟩])
  (.ret))
 (.skip))))
 (.seq (.ops [⟨(some 5), some undefA, none, false, .pu (.mov (.c (.nilS)))⟩])
 (.seq (.seq (.ops [⟨(some 6), some undefA, none, false, .pu (.mov (.c (.int .i64 0)))⟩])
 (.block 0 (.loop (.seq (.seq (.ops [⟨(some 12), some undefA, none, false, .pu (.mov (.s 6))⟩,
     ⟨(some 13), some undefA, none, false, .pu (.badr none 1)⟩,
     ⟨(some 14), some undefA, none, false, .pu (.bget (some 13) 1 1 1 false)⟩,
     ⟨(some 15), some undefA, none, false, .pu (.len (.s 14))⟩,
     ⟨(some 16), some undefA, none, false, .pu (.bin .lss (.s 12) (.s 15))⟩])
   (.cond (.s 16) (.skip)
   (.exit 0)))
   (.seq (.block 1 (.seq (.ops [⟨(some 19), some undefA, none, false, .pu (.bget none 1 0 2 true)⟩,
      ⟨(some 20), some undefA, none, false, .pu (.mov (.s 6))⟩,
      ⟨(some 21), some undefA, none, false, .call 58 [(.s 19), (.s 20)]⟩,
      ⟨(some 22), some undefA, none, false, .call 57 [(.s 21)]⟩,
      ⟨(some 23), some undefA, none, false, .pu (.bget none 1 0 2 true)⟩,
      ⟨(some 24), some undefA, none, false, .call 58 [(.s 23), (.c (.int .i64 (-1)))]⟩,
      ⟨(some 25), some undefA, none, false, .call 57 [(.s 24)]⟩,
      ⟨(some 26), some undefA, none, false, .pu (.bin .lss (.s 22) (.s 25))⟩])
    (.cond (.s 26) (.ops [⟨(some 27), some undefA, none, false, .pu (.mov (.s 5))⟩,
       ⟨(some 28), some undefA, none, false, .pu (.mov (.s 6))⟩,
       ⟨(some 29), some undefA, none, false, .ha (.blds 1 1 [.int .i64 0] [(0, 1, (.s 28))])⟩,
       ⟨(some 30), some undefA, none, false, .ha (.app 1 (.s 27) (.s 29))⟩,
       ⟨(some 5), some undefA, none, false, .pu (.mov (.s 30))⟩])
    (.skip))))
   (.ops [⟨(some 17), some undefA, none, false, .pu (.mov (.s 6))⟩,
     ⟨(some 18), some undefA, none, false, .pu (.bin .add (.s 17) (.c (.int .i64 1)))⟩,
     ⟨(some 6), some undefA, none, false, .pu (.mov (.s 18))⟩]))))))
 (.seq (.ops [⟨(some 31), some undefA, none, false, .pu (.mov (.s 5))⟩,
   ⟨(some 2), some undefA, none, false, .pu (.mov (.s 31))⟩,
   ⟨(some 3), some undefA, none, false, .pu (.mov (.c (.int .i64 0)))⟩])
 (.ret)))))⟩
theorem t20 : trF Try.prog [1] [] Try.f20 = some m20 := by kernel_rfl
/-- selion/wish.Needed [loop [1, 5, 13, 14]] -/
def m21 : MFun := ⟨30, [1], [.mov (.s 2), .mov (.s 3)],
 .seq (.ops [⟨(some 1), some (.junk), none, false, .pu (.bnew (.s 0))⟩,
   ⟨(some 2), some undefA, none, false, .pu (.mov (.c (.nilS)))⟩,
   ⟨(some 3), some undefA, none, false, .pu (.mov (.c (.int .i64 0)))⟩])
 (.seq (.seq (.ops [⟨(some 7), some undefA, none, false, .pu (.bget none 1 0 2 true)⟩,
   ⟨(some 8), some undefA, none, false, .call 39 [(.s 7)]⟩,
   ⟨(some 4), some undefA, none, false, .pu (.mov (.s 8))⟩])
 (.seq (.ops [⟨(some 9), some undefA, none, false, .pu (.mov (.s 4))⟩,
   ⟨(some 10), some undefA, none, false, .pu (.bin .neq (.s 9) (.c (.int .i64 0)))⟩])
 (.cond (.s 10) (.seq (.ops [⟨(some 11), some undefA, none, false, .pu (.mov (.s 4))⟩,
    ⟨(some 2), some undefA, none, false, .pu (.mov (.c (.nilS)))⟩,
    ⟨(some 3), some undefA, none, false, .pu (.mov (.s 11))⟩])
  (.ret))
 (.skip))))
 (.seq (.ops [⟨(some 5), some undefA, none, false, .pu (.mov (.c (.nilS)))⟩])
 (.seq (.seq (.ops [⟨(some 12), some undefA, none, false, .pu (.badr none 1)⟩,
   ⟨(some 13), some undefA, none, false, .pu (.bget (some 12) 1 0 1 false)⟩,
   ⟨(some 14), some undefA, none, false, .pu (.mov (.c (.int .i64 0)))⟩])
 (.block 0 (.loop (.seq (.ops [⟨(some 15), some undefA, none, false, .pu (.bin .lss (.s 14) (.s 13))⟩])
   (.seq (.cond (.s 15) (.skip)
   (.exit 0))
   (.seq (.block 1 (.seq (.ops [⟨(some 16), some undefA, none, false, .pu (.mov (.s 14))⟩,
      ⟨(some 6), some undefA, none, false, .pu (.mov (.s 16))⟩])
    (.seq (.ops [⟨(some 17), some undefA, none, false, .pu (.bget none 1 0 2 true)⟩,
      ⟨(some 18), some undefA, none, false, .pu (.mov (.s 6))⟩,
      ⟨(some 19), some undefA, none, false, .call 59 [(.s 17), (.s 18)]⟩,
      ⟨(some 20), some undefA, none, false, .call 56 [(.s 19)]⟩,
      ⟨(some 21), some undefA, none, false, .pu (.bget none 1 0 2 true)⟩,
      ⟨(some 22), some undefA, none, false, .call 56 [(.s 21)]⟩,
      ⟨(some 23), some undefA, none, false, .pu (.bin .lss (.s 20) (.s 22))⟩])
    (.cond (.s 23) (.ops [⟨(some 24), some undefA, none, false, .pu (.mov (.s 5))⟩,
       ⟨(some 25), some undefA, none, false, .pu (.mov (.s 6))⟩,
       ⟨(some 26), some undefA, none, false, .ha (.blds 1 1 [.int .i64 0] [(0, 1, (.s 25))])⟩,
       ⟨(some 27), some undefA, none, false, .ha (.app 1 (.s 24) (.s 26))⟩,
       ⟨(some 5), some undefA, none, false, .pu (.mov (.s 27))⟩])
    (.skip)))))
   (.ops [⟨(some 28), some undefA, none, false, .pu (.bin .add (.s 14) (.c (.int .i64 1)))⟩,
     ⟨(some 14), some undefA, none, false, .pu (.mov (.s 28))⟩])))))))
 (.seq (.ops [⟨(some 29), some undefA, none, false, .pu (.mov (.s 5))⟩,
   ⟨(some 2), some undefA, none, false, .pu (.mov (.s 29))⟩,
   ⟨(some 3), some undefA, none, false, .pu (.mov (.c (.int .i64 0)))⟩])
 (.ret)))))⟩
theorem t21 : trF Try.prog [1] [] Try.f21 = some m21 := by kernel_rfl
/-- selion/selionref07.Needed [loop [1, 5, 6, 7], loop [1, 5, 6, 7, 8, 9]] -/
def m22 : MFun := ⟨54, [1], [.mov (.s 2), .mov (.s 3)],
 .seq (.ops [⟨(some 1), some (.junk), none, false, .pu (.bnew (.s 0))⟩,
   ⟨(some 2), some undefA, none, false, .pu (.mov (.c (.nilS)))⟩,
   ⟨(some 3), some undefA, none, false, .pu (.mov (.c (.int .i64 0)))⟩])
 (.seq (.seq (.ops [⟨(some 10), some undefA, none, false, .pu (.bget none 1 0 2 true)⟩,
   ⟨(some 11), some undefA, none, false, .call 40 [(.s 10)]⟩,
   ⟨(some 4), some undefA, none, false, .pu (.mov (.s 11))⟩])
 (.seq (.ops [⟨(some 12), some undefA, none, false, .pu (.mov (.s 4))⟩,
   ⟨(some 13), some undefA, none, false, .pu (.bin .neq (.s 12) (.c (.int .i64 0)))⟩])
 (.cond (.s 13) (.seq (.ops [⟨(some 14), some undefA, none, false, .pu (.mov (.s 4))⟩,
    ⟨(some 2), some undefA, none, false, .pu (.mov (.c (.nilS)))⟩,
    ⟨(some 3), some undefA, none, false, .pu (.mov (.s 14))⟩])
  (.ret))
 (.skip))))
 (.seq (.ops [⟨(some 15), some undefA, none, false, .pu (.bget none 1 0 2 true)⟩,
   ⟨(some 16), some undefA, none, false, .call 58 [(.s 15), (.c (.int .i64 (-1)))]⟩,
   ⟨(some 5), some undefA, none, false, .pu (.mov (.s 16))⟩])
 (.seq (.ops [⟨(some 6), some undefA, none, false, .pu (.mov (.c (.nilS)))⟩])
 (.seq (.seq (.ops [⟨(some 7), some undefA, none, false, .pu (.mov (.c (.int .i64 0)))⟩])
 (.block 0 (.loop (.seq (.seq (.ops [⟨(some 17), some undefA, none, false, .pu (.mov (.s 7))⟩,
     ⟨(some 18), some undefA, none, false, .pu (.badr none 1)⟩,
     ⟨(some 19), some undefA, none, false, .pu (.bget (some 18) 1 0 1 false)⟩,
     ⟨(some 20), some undefA, none, false, .pu (.bin .lss (.s 17) (.s 19))⟩])
   (.cond (.s 20) (.skip)
   (.exit 0)))
   (.seq (.block 1 (.seq (.ops [⟨(some 8), some undefA, none, false, .pu (.mov (.c (.bool true)))⟩])
    (.seq (.seq (.ops [⟨(some 9), some undefA, none, false, .pu (.mov (.c (.int .i64 0)))⟩])
    (.block 2 (.loop (.seq (.seq (.ops [⟨(some 23), some undefA, none, false, .pu (.mov (.s 9))⟩,
        ⟨(some 24), some undefA, none, false, .pu (.mov (.s 5))⟩,
        ⟨(some 25), some undefA, none, false, .pu (.len (.s 24))⟩,
        ⟨(some 26), some undefA, none, false, .pu (.bin .lss (.s 23) (.s 25))⟩])
      (.cond (.s 26) (.skip)
      (.exit 2)))
      (.seq (.block 3 (.seq (.ops [⟨(some 29), some undefA, none, false, .pu (.mov (.s 5))⟩,
         ⟨(some 30), some undefA, none, false, .pu (.mov (.s 9))⟩,
         ⟨(some 31), some undefA, none, false, .pu (.idx 1 (.s 29) (.s 30))⟩,
         ⟨(some 32), some undefA, none, false, .ld (.ld 1 false (.s 31))⟩,
         ⟨(some 33), some undefA, none, false, .pu (.mov (.s 32))⟩,
         ⟨(some 34), some undefA, (some (33, true)), false, .pu (.mov (.s 9))⟩,
         ⟨(some 35), some undefA, (some (33, true)), false, .call 60 [(.s 34)]⟩,
         ⟨(some 36), some undefA, (some (33, true)), false, .pu (.mov (.s 5))⟩,
         ⟨(some 37), some undefA, (some (33, true)), false, .call 57 [(.s 36)]⟩,
         ⟨(some 38), some undefA, (some (33, true)), false, .pu (.bin .eql (.s 35) (.s 37))⟩,
         ⟨(some 39), some undefA, none, false, .pu (.pick (.s 33) (.s 38) (.c (.bool false)))⟩,
         ⟨(some 40), some undefA, none, false, .pu (.mov (.s 39))⟩,
         ⟨(some 41), some undefA, (some (40, true)), false, .pu (.mov (.s 9))⟩,
         ⟨(some 42), some undefA, (some (40, true)), false, .pu (.mov (.s 7))⟩,
         ⟨(some 43), some undefA, (some (40, true)), false, .pu (.conv .u64 (.s 42))⟩,
         ⟨(some 44), some undefA, (some (40, true)), false, .pu (.bin .shr (.s 41) (.s 43))⟩,
         ⟨(some 45), some undefA, (some (40, true)), false, .pu (.bin .and (.s 44) (.c (.int .i64 1)))⟩,
         ⟨(some 46), some undefA, (some (40, true)), false, .pu (.bin .eql (.s 45) (.c (.int .i64 0)))⟩,
         ⟨(some 47), some undefA, none, false, .pu (.pick (.s 40) (.s 46) (.c (.bool false)))⟩])
       (.cond (.s 47) (.ops [⟨(some 8), some undefA, none, false, .pu (.mov (.c (.bool false)))⟩])
       (.skip))))
      (.ops [⟨(some 27), some undefA, none, false, .pu (.mov (.s 9))⟩,
        ⟨(some 28), some undefA, none, false, .pu (.bin .add (.s 27) (.c (.int .i64 1)))⟩,
        ⟨(some 9), some undefA, none, false, .pu (.mov (.s 28))⟩]))))))
    (.seq (.ops [⟨(some 48), some undefA, none, false, .pu (.mov (.s 8))⟩])
    (.cond (.s 48) (.ops [⟨(some 49), some undefA, none, false, .pu (.mov (.s 6))⟩,
       ⟨(some 50), some undefA, none, false, .pu (.mov (.s 7))⟩,
       ⟨(some 51), some undefA, none, false, .ha (.blds 1 1 [.int .i64 0] [(0, 1, (.s 50))])⟩,
       ⟨(some 52), some undefA, none, false, .ha (.app 1 (.s 49) (.s 51))⟩,
       ⟨(some 6), some undefA, none, false, .pu (.mov (.s 52))⟩])
    (.skip))))))
   (.ops [⟨(some 21), some undefA, none, false, .pu (.mov (.s 7))⟩,
     ⟨(some 22), some undefA, none, false, .pu (.bin .add (.s 21) (.c (.int .i64 1)))⟩,
     ⟨(some 7), some undefA, none, false, .pu (.mov (.s 22))⟩]))))))
 (.seq (.ops [⟨(some 53), some undefA, none, false, .pu (.mov (.s 6))⟩,
   ⟨(some 2), some undefA, none, false, .pu (.mov (.s 53))⟩,
   ⟨(some 3), some undefA, none, false, .pu (.mov (.c (.int .i64 0)))⟩])
 (.ret))))))⟩
theorem t22 : trF Try.prog [1] [] Try.f22 = some m22 := by kernel_rfl
/-- selion/selionref01.SameInts [loop [0, 1, 5]] -/
def m23 : MFun := ⟨26, [], [.mov (.s 4)],
 .seq (.ops [⟨(some 4), some undefA, none, false, .pu (.mov (.c (.bool false)))⟩])
 (.seq (.seq (.ops [⟨(some 6), some undefA, none, false, .pu (.mov (.s 0))⟩,
   ⟨(some 7), some undefA, none, false, .pu (.len (.s 6))⟩,
   ⟨(some 8), some undefA, none, false, .pu (.mov (.s 1))⟩,
   ⟨(some 9), some undefA, none, false, .pu (.len (.s 8))⟩,
   ⟨(some 10), some undefA, none, false, .pu (.bin .neq (.s 7) (.s 9))⟩])
 (.cond (.s 10) (.seq (.ops [⟨(some 4), some undefA, none, false, .pu (.mov (.c (.bool false)))⟩])
  (.ret))
 (.skip)))
 (.seq (.seq (.ops [⟨(some 5), some undefA, none, false, .pu (.mov (.c (.int .i64 0)))⟩])
 (.block 0 (.loop (.seq (.seq (.ops [⟨(some 11), some undefA, none, false, .pu (.mov (.s 5))⟩,
     ⟨(some 12), some undefA, none, false, .pu (.mov (.s 0))⟩,
     ⟨(some 13), some undefA, none, false, .pu (.len (.s 12))⟩,
     ⟨(some 14), some undefA, none, false, .pu (.bin .lss (.s 11) (.s 13))⟩])
   (.cond (.s 14) (.skip)
   (.exit 0)))
   (.seq (.block 1 (.seq (.ops [⟨(some 17), some undefA, none, true, .pu (.mov (.s 0))⟩,
      ⟨(some 18), some undefA, none, true, .pu (.mov (.s 5))⟩,
      ⟨(some 19), some undefA, none, true, .pu (.idx 1 (.s 17) (.s 18))⟩,
      ⟨(some 20), some undefA, none, true, .ld (.ld 1 false (.s 19))⟩,
      ⟨(some 21), some undefA, none, true, .pu (.mov (.s 1))⟩,
      ⟨(some 22), some undefA, none, true, .pu (.mov (.s 5))⟩,
      ⟨(some 23), some undefA, none, true, .pu (.idx 1 (.s 21) (.s 22))⟩,
      ⟨(some 24), some undefA, none, true, .ld (.ld 1 false (.s 23))⟩,
      ⟨(some 25), some undefA, none, false, .pu (.bin .neq (.s 20) (.s 24))⟩])
    (.cond (.s 25) (.seq (.ops [⟨(some 4), some undefA, none, false, .pu (.mov (.c (.bool false)))⟩])
     (.ret))
    (.skip))))
   (.ops [⟨(some 15), some undefA, none, false, .pu (.mov (.s 5))⟩,
     ⟨(some 16), some undefA, none, false, .pu (.bin .add (.s 15) (.c (.int .i64 1)))⟩,
     ⟨(some 5), some undefA, none, false, .pu (.mov (.s 16))⟩]))))))
 (.seq (.ops [⟨(some 4), some undefA, none, false, .pu (.mov (.c (.bool true)))⟩])
 (.ret))))⟩
theorem t23 : trF Try.prog [] [] Try.f23 = some m23 := by kernel_rfl
/-- selion/wish.Most [] -/
def m24 : MFun := ⟨15, [1], [.mov (.s 2), .mov (.s 3)],
 .seq (.ops [⟨(some 1), some (.junk), none, false, .pu (.bnew (.s 0))⟩,
   ⟨(some 2), some undefA, none, false, .pu (.mov (.c (.int .i64 0)))⟩,
   ⟨(some 3), some undefA, none, false, .pu (.mov (.c (.int .i64 0)))⟩])
 (.seq (.seq (.ops [⟨(some 5), some undefA, none, false, .pu (.bget none 1 0 2 true)⟩,
   ⟨(some 6), some undefA, none, false, .call 39 [(.s 5)]⟩,
   ⟨(some 4), some undefA, none, false, .pu (.mov (.s 6))⟩])
 (.seq (.ops [⟨(some 7), some undefA, none, false, .pu (.mov (.s 4))⟩,
   ⟨(some 8), some undefA, none, false, .pu (.bin .neq (.s 7) (.c (.int .i64 0)))⟩])
 (.cond (.s 8) (.seq (.ops [⟨(some 9), some undefA, none, false, .pu (.mov (.s 4))⟩,
    ⟨(some 2), some undefA, none, false, .pu (.mov (.c (.int .i64 0)))⟩,
    ⟨(some 3), some undefA, none, false, .pu (.mov (.s 9))⟩])
  (.ret))
 (.skip))))
 (.seq (.ops [⟨(some 10), some undefA, none, false, .pu (.bget none 1 0 2 true)⟩,
   ⟨(some 11), some undefA, none, false, .call 63 [(.s 10)]⟩,
   ⟨(some 12), some undefA, none, false, .call 62 [(.s 11)]⟩,
   ⟨(some 13), some undefA, none, false, .pu (.part 2 1 false (.s 12))⟩,
   ⟨(some 14), some undefA, none, false, .call 61 [(.s 13)]⟩,
   ⟨(some 2), some undefA, none, false, .pu (.mov (.s 14))⟩,
   ⟨(some 3), some undefA, none, false, .pu (.mov (.c (.int .i64 0)))⟩])
 (.ret)))⟩
theorem t24 : trF Try.prog [1] [] Try.f24 = some m24 := by kernel_rfl
/-- selion/selionref07.Copy [] -/
def m28 : MFun := ⟨9, [1, 2], [.bget none 2 0 2 true],
 .seq (.ops [⟨(some 1), some (.junk), none, false, .pu (.bnew (.s 0))⟩,
   ⟨(some 2), some (.junk), none, false, .pu (.bnew (.c (.agg [.int .i64 0, .nilS])))⟩])
 (.seq (.ops [⟨(some 3), some undefA, none, false, .pu (.badr none 1)⟩,
   ⟨(some 4), some undefA, none, false, .pu (.bget (some 3) 1 0 1 false)⟩,
   ⟨(some 5), some undefA, none, false, .pu (.badr none 1)⟩,
   ⟨(some 6), some undefA, none, false, .pu (.bget (some 5) 1 1 1 false)⟩,
   ⟨(some 7), some undefA, none, false, .call 67 [(.s 6)]⟩,
   ⟨(some 8), some undefA, none, false, .pu (.build [.int .i64 0, .nilS] [(0, 1, (.s 4)), (1, 1, (.s 7))])⟩,
   ⟨(some 2), none, none, false, .pu (.bset none 2 0 2 (.s 8))⟩])
 (.ret))⟩
theorem t28 : trF Try.prog [1, 2] [] Try.f28 = some m28 := by kernel_rfl
/-- selion/wish.Turn [loop [2, 5, 29, 30, 31], loop [2, 5, 6, 29, 30, 31, 36, 37, 38]] -/
def m29 : MFun := ⟨57, [1, 2, 5], [.bget none 2 0 2 true, .mov (.s 3)],
 .seq (.ops [⟨(some 1), some (.junk), none, false, .pu (.bnew (.s 0))⟩,
   ⟨(some 2), some (.junk), none, false, .pu (.bnew (.c (.agg [.int .i64 0, .nilS])))⟩,
   ⟨(some 3), some undefA, none, false, .pu (.mov (.c (.int .i64 0)))⟩])
 (.seq (.seq (.ops [⟨(some 10), some undefA, none, false, .pu (.bget none 1 0 2 true)⟩,
   ⟨(some 11), some undefA, none, false, .call 39 [(.s 10)]⟩,
   ⟨(some 4), some undefA, none, false, .pu (.mov (.s 11))⟩])
 (.seq (.ops [⟨(some 12), some undefA, none, false, .pu (.mov (.s 4))⟩,
   ⟨(some 13), some undefA, none, false, .pu (.bin .neq (.s 12) (.c (.int .i64 0)))⟩])
 (.cond (.s 13) (.seq (.ops [⟨(some 14), some undefA, none, false, .pu (.build [.int .i64 0, .nilS] [])⟩,
    ⟨(some 15), some undefA, none, false, .pu (.mov (.s 4))⟩,
    ⟨(some 2), none, none, false, .pu (.bset none 2 0 2 (.s 14))⟩,
    ⟨(some 3), some undefA, none, false, .pu (.mov (.s 15))⟩])
  (.ret))
 (.skip))))
 (.seq (.seq (.ops [⟨(some 16), some undefA, none, false, .pu (.badr none 1)⟩,
   ⟨(some 17), some undefA, none, false, .pu (.bget (some 16) 1 1 1 false)⟩,
   ⟨(some 18), some undefA, none, false, .pu (.len (.s 17))⟩,
   ⟨(some 19), some undefA, none, false, .pu (.bin .eql (.s 18) (.c (.int .i64 0)))⟩])
 (.cond (.s 19) (.seq (.ops [⟨(some 20), some undefA, none, false, .pu (.build [.int .i64 0, .nilS] [])⟩,
    ⟨(some 2), none, none, false, .pu (.bset none 2 0 2 (.s 20))⟩,
    ⟨(some 3), some undefA, none, false, .pu (.mov (.c (.int .i64 1)))⟩])
  (.ret))
 (.skip)))
 (.seq (.ops [⟨(some 21), some undefA, none, false, .pu (.badr none 1)⟩,
   ⟨(some 22), some undefA, none, false, .pu (.bget (some 21) 1 1 1 false)⟩,
   ⟨(some 23), some undefA, none, false, .pu (.len (.s 22))⟩,
   ⟨(some 24), some undefA, none, false, .pu (.badr none 1)⟩,
   ⟨(some 25), some undefA, none, false, .pu (.bget (some 24) 1 0 1 false)⟩,
   ⟨(some 26), some undefA, none, false, .ha (.mks 1 [.nilS] (.s 25) (.s 25))⟩,
   ⟨(some 27), some undefA, none, false, .pu (.build [.int .i64 0, .nilS] [(0, 1, (.s 23)), (1, 1, (.s 26))])⟩,
   ⟨(some 5), some (.junk), none, false, .pu (.bnew (.c (.agg [.int .i64 0, .nilS])))⟩,
   ⟨(some 5), none, none, false, .pu (.bset none 5 0 2 (.s 27))⟩])
 (.seq (.seq (.ops [⟨(some 28), some undefA, none, false, .pu (.badr none 1)⟩,
   ⟨(some 29), some undefA, none, false, .pu (.bget (some 28) 1 1 1 false)⟩,
   ⟨(some 30), some undefA, none, false, .pu (.len (.s 29))⟩,
   ⟨(some 31), some undefA, none, false, .pu (.mov (.c (.int .i64 0)))⟩])
 (.block 0 (.loop (.seq (.ops [⟨(some 32), some undefA, none, false, .pu (.bin .lss (.s 31) (.s 30))⟩])
   (.seq (.cond (.s 32) (.skip)
   (.exit 0))
   (.seq (.block 1 (.seq (.ops [⟨(some 33), some undefA, none, false, .pu (.mov (.s 31))⟩,
      ⟨(some 34), some undefA, none, false, .pu (.idx 1 (.s 29) (.s 31))⟩,
      ⟨(some 35), some undefA, none, false, .ld (.ld 1 false (.s 34))⟩,
      ⟨(some 6), some undefA, none, false, .pu (.mov (.s 33))⟩,
      ⟨(some 7), some undefA, none, false, .pu (.mov (.s 35))⟩])
    (.seq (.ops [⟨(some 36), some undefA, none, false, .pu (.mov (.s 7))⟩,
      ⟨(some 37), some undefA, none, false, .pu (.len (.s 36))⟩,
      ⟨(some 38), some undefA, none, false, .pu (.mov (.c (.int .i64 0)))⟩])
    (.block 2 (.loop (.seq (.ops [⟨(some 39), some undefA, none, false, .pu (.bin .lss (.s 38) (.s 37))⟩])
      (.seq (.cond (.s 39) (.skip)
      (.exit 2))
      (.seq (.block 3 (.seq (.ops [⟨(some 40), some undefA, none, false, .pu (.idx 1 (.s 36) (.s 38))⟩,
         ⟨(some 41), some undefA, none, false, .ld (.ld 1 false (.s 40))⟩,
         ⟨(some 9), some undefA, none, false, .pu (.mov (.s 41))⟩])
       (.ops [⟨(some 42), some undefA, none, true, .pu (.badr none 5)⟩,
         ⟨(some 43), some undefA, none, true, .pu (.bget (some 42) 5 1 1 false)⟩,
         ⟨(some 44), some undefA, none, true, .pu (.mov (.s 9))⟩,
         ⟨(some 45), some undefA, none, false, .pu (.badr none 5)⟩,
         ⟨(some 46), some undefA, none, false, .pu (.bget (some 45) 5 1 1 false)⟩,
         ⟨(some 47), some undefA, none, false, .pu (.mov (.s 9))⟩,
         ⟨(some 48), some undefA, none, false, .pu (.idx 1 (.s 46) (.s 47))⟩,
         ⟨(some 49), some undefA, none, true, .ld (.ld 1 false (.s 48))⟩,
         ⟨(some 50), some undefA, none, true, .pu (.mov (.s 6))⟩,
         ⟨(some 51), some undefA, none, true, .ha (.blds 1 1 [.int .i64 0] [(0, 1, (.s 50))])⟩,
         ⟨(some 52), some undefA, none, false, .ha (.app 1 (.s 49) (.s 51))⟩,
         ⟨(some 53), some undefA, none, false, .pu (.idx 1 (.s 43) (.s 44))⟩,
         ⟨none, some undefA, none, false, .ha (.st 1 (.s 53) (.s 52))⟩])))
      (.ops [⟨(some 54), some undefA, none, false, .pu (.bin .add (.s 38) (.c (.int .i64 1)))⟩,
        ⟨(some 38), some undefA, none, false, .pu (.mov (.s 54))⟩])))))))))
   (.ops [⟨(some 55), some undefA, none, false, .pu (.bin .add (.s 31) (.c (.int .i64 1)))⟩,
     ⟨(some 31), some undefA, none, false, .pu (.mov (.s 55))⟩])))))))
 (.seq (.ops [⟨(some 56), some undefA, none, false, .pu (.bget none 5 0 2 true)⟩,
   ⟨(some 2), none, none, false, .pu (.bset none 2 0 2 (.s 56))⟩,
   ⟨(some 3), some undefA, none, false, .pu (.mov (.c (.int .i64 0)))⟩])
 (.ret))))))⟩
theorem t29 : trF Try.prog [1, 2, 5] [] Try.f29 = some m29 := by kernel_rfl
/-- selion/selionref07.Turn [loop [1, 2, 5, 6], loop [1, 2, 5, 6, 7, 8]] -/
def m30 : MFun := ⟨55, [1, 2, 5], [.bget none 2 0 2 true, .mov (.s 3)],
 .seq (.ops [⟨(some 1), some (.junk), none, false, .pu (.bnew (.s 0))⟩,
   ⟨(some 2), some (.junk), none, false, .pu (.bnew (.c (.agg [.int .i64 0, .nilS])))⟩,
   ⟨(some 3), some undefA, none, false, .pu (.mov (.c (.int .i64 0)))⟩])
 (.seq (.seq (.ops [⟨(some 9), some undefA, none, false, .pu (.bget none 1 0 2 true)⟩,
   ⟨(some 10), some undefA, none, false, .call 40 [(.s 9)]⟩,
   ⟨(some 4), some undefA, none, false, .pu (.mov (.s 10))⟩])
 (.seq (.ops [⟨(some 11), some undefA, none, false, .pu (.mov (.s 4))⟩,
   ⟨(some 12), some undefA, none, false, .pu (.bin .neq (.s 11) (.c (.int .i64 0)))⟩])
 (.cond (.s 12) (.seq (.ops [⟨(some 13), some undefA, none, false, .pu (.build [.int .i64 0, .nilS] [])⟩,
    ⟨(some 14), some undefA, none, false, .pu (.mov (.s 4))⟩,
    ⟨(some 2), none, none, false, .pu (.bset none 2 0 2 (.s 13))⟩,
    ⟨(some 3), some undefA, none, false, .pu (.mov (.s 14))⟩])
  (.ret))
 (.skip))))
 (.seq (.seq (.ops [⟨(some 15), some undefA, none, false, .pu (.badr none 1)⟩,
   ⟨(some 16), some undefA, none, false, .pu (.bget (some 15) 1 1 1 false)⟩,
   ⟨(some 17), some undefA, none, false, .pu (.len (.s 16))⟩,
   ⟨(some 18), some undefA, none, false, .pu (.bin .eql (.s 17) (.c (.int .i64 0)))⟩])
 (.cond (.s 18) (.seq (.ops [⟨(some 19), some undefA, none, false, .pu (.build [.int .i64 0, .nilS] [])⟩,
    ⟨(some 2), none, none, false, .pu (.bset none 2 0 2 (.s 19))⟩,
    ⟨(some 3), some undefA, none, false, .pu (.mov (.c (.int .i64 1)))⟩])
  (.ret))
 (.skip)))
 (.seq (.ops [⟨(some 20), some undefA, none, false, .pu (.badr none 1)⟩,
   ⟨(some 21), some undefA, none, false, .pu (.bget (some 20) 1 1 1 false)⟩,
   ⟨(some 22), some undefA, none, false, .pu (.len (.s 21))⟩,
   ⟨(some 23), some undefA, none, false, .pu (.build [.int .i64 0, .nilS] [(0, 1, (.s 22))])⟩,
   ⟨(some 5), some (.junk), none, false, .pu (.bnew (.c (.agg [.int .i64 0, .nilS])))⟩,
   ⟨(some 5), none, none, false, .pu (.bset none 5 0 2 (.s 23))⟩])
 (.seq (.seq (.ops [⟨(some 6), some undefA, none, false, .pu (.mov (.c (.int .i64 0)))⟩])
 (.block 0 (.loop (.seq (.seq (.ops [⟨(some 24), some undefA, none, false, .pu (.mov (.s 6))⟩,
     ⟨(some 25), some undefA, none, false, .pu (.badr none 1)⟩,
     ⟨(some 26), some undefA, none, false, .pu (.bget (some 25) 1 0 1 false)⟩,
     ⟨(some 27), some undefA, none, false, .pu (.bin .lss (.s 24) (.s 26))⟩])
   (.cond (.s 27) (.skip)
   (.exit 0)))
   (.seq (.block 1 (.seq (.ops [⟨(some 7), some undefA, none, false, .pu (.mov (.c (.nilS)))⟩])
    (.seq (.seq (.ops [⟨(some 8), some undefA, none, false, .pu (.mov (.c (.int .i64 0)))⟩])
    (.block 2 (.loop (.seq (.seq (.ops [⟨(some 30), some undefA, none, false, .pu (.mov (.s 8))⟩,
        ⟨(some 31), some undefA, none, false, .pu (.badr none 1)⟩,
        ⟨(some 32), some undefA, none, false, .pu (.bget (some 31) 1 1 1 false)⟩,
        ⟨(some 33), some undefA, none, false, .pu (.len (.s 32))⟩,
        ⟨(some 34), some undefA, none, false, .pu (.bin .lss (.s 30) (.s 33))⟩])
      (.cond (.s 34) (.skip)
      (.exit 2)))
      (.seq (.block 3 (.seq (.ops [⟨(some 37), some undefA, none, false, .pu (.badr none 1)⟩,
         ⟨(some 38), some undefA, none, false, .pu (.bget (some 37) 1 1 1 false)⟩,
         ⟨(some 39), some undefA, none, false, .pu (.mov (.s 8))⟩,
         ⟨(some 40), some undefA, none, false, .pu (.idx 1 (.s 38) (.s 39))⟩,
         ⟨(some 41), some undefA, none, false, .ld (.ld 1 false (.s 40))⟩,
         ⟨(some 42), some undefA, none, false, .pu (.mov (.s 6))⟩,
         ⟨(some 43), some undefA, none, false, .call 65 [(.s 41), (.s 42)]⟩])
       (.cond (.s 43) (.ops [⟨(some 44), some undefA, none, false, .pu (.mov (.s 7))⟩,
          ⟨(some 45), some undefA, none, false, .pu (.mov (.s 8))⟩,
          ⟨(some 46), some undefA, none, false, .ha (.blds 1 1 [.int .i64 0] [(0, 1, (.s 45))])⟩,
          ⟨(some 47), some undefA, none, false, .ha (.app 1 (.s 44) (.s 46))⟩,
          ⟨(some 7), some undefA, none, false, .pu (.mov (.s 47))⟩])
       (.skip))))
      (.ops [⟨(some 35), some undefA, none, false, .pu (.mov (.s 8))⟩,
        ⟨(some 36), some undefA, none, false, .pu (.bin .add (.s 35) (.c (.int .i64 1)))⟩,
        ⟨(some 8), some undefA, none, false, .pu (.mov (.s 36))⟩]))))))
    (.ops [⟨(some 48), some undefA, none, false, .pu (.badr none 5)⟩,
      ⟨(some 49), some undefA, none, false, .pu (.bget (some 48) 5 1 1 false)⟩,
      ⟨(some 50), some undefA, none, false, .pu (.mov (.s 7))⟩,
      ⟨(some 51), some undefA, none, false, .ha (.blds 1 1 [.nilS] [(0, 1, (.s 50))])⟩,
      ⟨(some 52), some undefA, none, false, .ha (.app 1 (.s 49) (.s 51))⟩,
      ⟨(some 53), some undefA, none, false, .pu (.badr none 5)⟩,
      ⟨(some 5), none, none, false, .pu (.bset (some 53) 5 1 1 (.s 52))⟩]))))
   (.ops [⟨(some 28), some undefA, none, false, .pu (.mov (.s 6))⟩,
     ⟨(some 29), some undefA, none, false, .pu (.bin .add (.s 28) (.c (.int .i64 1)))⟩,
     ⟨(some 6), some undefA, none, false, .pu (.mov (.s 29))⟩]))))))
 (.seq (.ops [⟨(some 54), some undefA, none, false, .pu (.bget none 5 0 2 true)⟩,
   ⟨(some 2), none, none, false, .pu (.bset none 2 0 2 (.s 54))⟩,
   ⟨(some 3), some undefA, none, false, .pu (.mov (.c (.int .i64 0)))⟩])
 (.ret))))))⟩
theorem t30 : trF Try.prog [1, 2, 5] [] Try.f30 = some m30 := by kernel_rfl
/-- selion/selionref07.Same [] -/
def m31 : MFun := ⟨17, [2, 3], [.mov (.s 4)],
 .seq (.ops [⟨(some 2), some (.junk), none, false, .pu (.bnew (.s 0))⟩,
   ⟨(some 3), some (.junk), none, false, .pu (.bnew (.s 1))⟩,
   ⟨(some 4), some undefA, none, false, .pu (.mov (.c (.bool false)))⟩])
 (.seq (.ops [⟨(some 5), some undefA, none, false, .pu (.badr none 2)⟩,
   ⟨(some 6), some undefA, none, false, .pu (.bget (some 5) 2 0 1 false)⟩,
   ⟨(some 7), some undefA, none, false, .pu (.badr none 3)⟩,
   ⟨(some 8), some undefA, none, false, .pu (.bget (some 7) 3 0 1 false)⟩,
   ⟨(some 9), some undefA, none, false, .pu (.bin .eql (.s 6) (.s 8))⟩,
   ⟨(some 10), some undefA, none, false, .pu (.mov (.s 9))⟩,
   ⟨(some 11), some undefA, (some (10, true)), false, .pu (.badr none 2)⟩,
   ⟨(some 12), some undefA, (some (10, true)), false, .pu (.bget (some 11) 2 1 1 false)⟩,
   ⟨(some 13), some undefA, (some (10, true)), false, .pu (.badr none 3)⟩,
   ⟨(some 14), some undefA, (some (10, true)), false, .pu (.bget (some 13) 3 1 1 false)⟩,
   ⟨(some 15), some undefA, (some (10, true)), false, .call 68 [(.s 12), (.s 14)]⟩,
   ⟨(some 16), some undefA, none, false, .pu (.pick (.s 10) (.s 15) (.c (.bool false)))⟩,
   ⟨(some 4), some undefA, none, false, .pu (.mov (.s 16))⟩])
 (.ret))⟩
theorem t31 : trF Try.prog [2, 3] [] Try.f31 = some m31 := by kernel_rfl
/-- selion/selionlaw07.many [] -/
def m32 : MFun := ⟨6, [], [.mov (.s 2)],
 .seq (.ops [⟨(some 2), some undefA, none, false, .pu (.mov (.c (.bool false)))⟩])
 (.seq (.ops [⟨(some 3), some undefA, none, false, .pu (.mov (.s 0))⟩,
   ⟨(some 4), some undefA, none, false, .pu (.len (.s 3))⟩,
   ⟨(some 5), some undefA, none, false, .pu (.bin .gtr (.s 4) (.c (.int .i64 40)))⟩,
   ⟨(some 2), some undefA, none, false, .pu (.mov (.s 5))⟩])
 (.ret))⟩
theorem t32 : trF Try.prog [] [] Try.f32 = some m32 := by kernel_rfl
/-- selion/wish.Validate [loop [1, 20, 21, 22], loop [1, 4, 20, 21, 22, 31, 32, 33]] -/
def m39 : MFun := ⟨45, [1], [.mov (.s 2)],
 .seq (.ops [⟨(some 1), some (.junk), none, false, .pu (.bnew (.s 0))⟩,
   ⟨(some 2), some undefA, none, false, .pu (.mov (.c (.int .i64 0)))⟩])
 (.seq (.seq (.ops [⟨(some 7), some undefA, none, false, .pu (.badr none 1)⟩,
   ⟨(some 8), some undefA, none, false, .pu (.bget (some 7) 1 0 1 false)⟩,
   ⟨(some 9), some undefA, none, false, .pu (.bin .lss (.s 8) (.c (.int .i64 1)))⟩,
   ⟨(some 10), some undefA, none, false, .pu (.mov (.s 9))⟩,
   ⟨(some 11), some undefA, (some (10, false)), false, .pu (.badr none 1)⟩,
   ⟨(some 12), some undefA, (some (10, false)), false, .pu (.bget (some 11) 1 0 1 false)⟩,
   ⟨(some 13), some undefA, (some (10, false)), false, .pu (.bin .gtr (.s 12) (.c (.int .i64 7)))⟩,
   ⟨(some 14), some undefA, none, false, .pu (.pick (.s 10) (.c (.bool true)) (.s 13))⟩])
 (.cond (.s 14) (.seq (.ops [⟨(some 2), some undefA, none, false, .pu (.mov (.c (.int .i64 1)))⟩])
  (.ret))
 (.skip)))
 (.seq (.seq (.ops [⟨(some 15), some undefA, none, false, .pu (.badr none 1)⟩,
   ⟨(some 16), some undefA, none, false, .pu (.bget (some 15) 1 1 1 false)⟩,
   ⟨(some 17), some undefA, none, false, .pu (.len (.s 16))⟩,
   ⟨(some 18), some undefA, none, false, .pu (.bin .gtr (.s 17) (.c (.int .i64 7)))⟩])
 (.cond (.s 18) (.seq (.ops [⟨(some 2), some undefA, none, false, .pu (.mov (.c (.int .i64 3)))⟩])
  (.ret))
 (.skip)))
 (.seq (.seq (.ops [⟨(some 19), some undefA, none, false, .pu (.badr none 1)⟩,
   ⟨(some 20), some undefA, none, false, .pu (.bget (some 19) 1 1 1 false)⟩,
   ⟨(some 21), some undefA, none, false, .pu (.len (.s 20))⟩,
   ⟨(some 22), some undefA, none, false, .pu (.mov (.c (.int .i64 0)))⟩])
 (.block 0 (.loop (.seq (.ops [⟨(some 23), some undefA, none, false, .pu (.bin .lss (.s 22) (.s 21))⟩])
   (.seq (.cond (.s 23) (.skip)
   (.exit 0))
   (.seq (.block 1 (.seq (.ops [⟨(some 24), some undefA, none, false, .pu (.idx 1 (.s 20) (.s 22))⟩,
      ⟨(some 25), some undefA, none, false, .ld (.ld 1 false (.s 24))⟩,
      ⟨(some 4), some undefA, none, false, .pu (.mov (.s 25))⟩])
    (.seq (.seq (.ops [⟨(some 26), some undefA, none, false, .pu (.mov (.s 4))⟩,
      ⟨(some 27), some undefA, none, false, .pu (.badr none 1)⟩,
      ⟨(some 28), some undefA, none, false, .pu (.bget (some 27) 1 0 1 false)⟩,
      ⟨(some 29), some undefA, none, false, .call 73 [(.s 26), (.s 28)]⟩,
      ⟨(some 30), some undefA, none, false, .pu (.not (.s 29))⟩])
    (.cond (.s 30) (.seq (.ops [⟨(some 2), some undefA, none, false, .pu (.mov (.c (.int .i64 1)))⟩])
     (.ret))
    (.skip)))
    (.seq (.ops [⟨(some 31), some undefA, none, false, .pu (.mov (.s 4))⟩,
      ⟨(some 32), some undefA, none, false, .pu (.len (.s 31))⟩,
      ⟨(some 33), some undefA, none, false, .pu (.mov (.c (.int .i64 0)))⟩])
    (.block 2 (.loop (.seq (.ops [⟨(some 34), some undefA, none, false, .pu (.bin .lss (.s 33) (.s 32))⟩])
      (.seq (.cond (.s 34) (.skip)
      (.exit 2))
      (.seq (.block 3 (.seq (.ops [⟨(some 35), some undefA, none, false, .pu (.mov (.s 33))⟩,
         ⟨(some 36), some undefA, none, false, .pu (.idx 1 (.s 31) (.s 33))⟩,
         ⟨(some 37), some undefA, none, false, .ld (.ld 1 false (.s 36))⟩,
         ⟨(some 5), some undefA, none, false, .pu (.mov (.s 35))⟩,
         ⟨(some 6), some undefA, none, false, .pu (.mov (.s 37))⟩])
       (.seq (.ops [⟨(some 38), some undefA, none, false, .pu (.mov (.s 4))⟩,
         ⟨(some 39), some undefA, none, false, .pu (.mov (.s 5))⟩,
         ⟨(some 40), some undefA, none, false, .pu (.slc 1 (.s 38) none (some (.s 39)) none)⟩,
         ⟨(some 41), some undefA, none, false, .pu (.mov (.s 6))⟩,
         ⟨(some 42), some undefA, none, false, .call 71 [(.s 40), (.s 41)]⟩])
       (.cond (.s 42) (.seq (.ops [⟨(some 2), some undefA, none, false, .pu (.mov (.c (.int .i64 6)))⟩])
        (.ret))
       (.skip)))))
      (.ops [⟨(some 43), some undefA, none, false, .pu (.bin .add (.s 33) (.c (.int .i64 1)))⟩,
        ⟨(some 33), some undefA, none, false, .pu (.mov (.s 43))⟩]))))))))))
   (.ops [⟨(some 44), some undefA, none, false, .pu (.bin .add (.s 22) (.c (.int .i64 1)))⟩,
     ⟨(some 22), some undefA, none, false, .pu (.mov (.s 44))⟩])))))))
 (.seq (.ops [⟨(some 2), some undefA, none, false, .pu (.mov (.c (.int .i64 0)))⟩])
 (.ret)))))⟩
theorem t39 : trF Try.prog [1] [] Try.f39 = some m39 := by kernel_rfl
/-- selion/selionref07.Validate [loop [1, 3], loop [1, 3, 4], loop [1, 3, 5]] -/
def m40 : MFun := ⟨70, [1], [.mov (.s 2)],
 .seq (.ops [⟨(some 1), some (.junk), none, false, .pu (.bnew (.s 0))⟩,
   ⟨(some 2), some undefA, none, false, .pu (.mov (.c (.int .i64 0)))⟩])
 (.seq (.seq (.ops [⟨(some 6), some undefA, none, false, .pu (.badr none 1)⟩,
   ⟨(some 7), some undefA, none, false, .pu (.bget (some 6) 1 0 1 false)⟩,
   ⟨(some 8), some undefA, none, false, .call 64 [(.s 7), (.c (.int .i64 1)), (.c (.int .i64 7))]⟩,
   ⟨(some 9), some undefA, none, false, .pu (.not (.s 8))⟩])
 (.cond (.s 9) (.seq (.ops [⟨(some 2), some undefA, none, false, .pu (.mov (.c (.int .i64 1)))⟩])
  (.ret))
 (.skip)))
 (.seq (.seq (.ops [⟨(some 10), some undefA, none, false, .pu (.badr none 1)⟩,
   ⟨(some 11), some undefA, none, false, .pu (.bget (some 10) 1 1 1 false)⟩,
   ⟨(some 12), some undefA, none, false, .pu (.len (.s 11))⟩,
   ⟨(some 13), some undefA, none, false, .pu (.bin .gtr (.s 12) (.c (.int .i64 7)))⟩])
 (.cond (.s 13) (.seq (.ops [⟨(some 2), some undefA, none, false, .pu (.mov (.c (.int .i64 3)))⟩])
  (.ret))
 (.skip)))
 (.seq (.seq (.ops [⟨(some 3), some undefA, none, false, .pu (.mov (.c (.int .i64 0)))⟩])
 (.block 0 (.loop (.seq (.seq (.ops [⟨(some 14), some undefA, none, false, .pu (.mov (.s 3))⟩,
     ⟨(some 15), some undefA, none, false, .pu (.badr none 1)⟩,
     ⟨(some 16), some undefA, none, false, .pu (.bget (some 15) 1 1 1 false)⟩,
     ⟨(some 17), some undefA, none, false, .pu (.len (.s 16))⟩,
     ⟨(some 18), some undefA, none, false, .pu (.bin .lss (.s 14) (.s 17))⟩])
   (.cond (.s 18) (.skip)
   (.exit 0)))
   (.seq (.block 1 (.seq (.seq (.ops [⟨(some 4), some undefA, none, false, .pu (.mov (.c (.int .i64 0)))⟩])
    (.block 2 (.loop (.seq (.seq (.ops [⟨(some 21), some undefA, none, false, .pu (.mov (.s 4))⟩,
        ⟨(some 22), some undefA, none, false, .pu (.badr none 1)⟩,
        ⟨(some 23), some undefA, none, false, .pu (.bget (some 22) 1 1 1 false)⟩,
        ⟨(some 24), some undefA, none, false, .pu (.mov (.s 3))⟩,
        ⟨(some 25), some undefA, none, false, .pu (.idx 1 (.s 23) (.s 24))⟩,
        ⟨(some 26), some undefA, none, false, .ld (.ld 1 false (.s 25))⟩,
        ⟨(some 27), some undefA, none, false, .pu (.len (.s 26))⟩,
        ⟨(some 28), some undefA, none, false, .pu (.bin .lss (.s 21) (.s 27))⟩])
      (.cond (.s 28) (.skip)
      (.exit 2)))
      (.seq (.block 3 (.seq (.ops [⟨(some 31), some undefA, none, false, .pu (.badr none 1)⟩,
         ⟨(some 32), some undefA, none, false, .pu (.bget (some 31) 1 1 1 false)⟩,
         ⟨(some 33), some undefA, none, false, .pu (.mov (.s 3))⟩,
         ⟨(some 34), some undefA, none, false, .pu (.idx 1 (.s 32) (.s 33))⟩,
         ⟨(some 35), some undefA, none, true, .ld (.ld 1 false (.s 34))⟩,
         ⟨(some 36), some undefA, none, true, .pu (.mov (.s 4))⟩,
         ⟨(some 37), some undefA, none, false, .pu (.idx 1 (.s 35) (.s 36))⟩,
         ⟨(some 38), some undefA, none, true, .ld (.ld 1 false (.s 37))⟩,
         ⟨(some 39), some undefA, none, true, .pu (.badr none 1)⟩,
         ⟨(some 40), some undefA, none, true, .pu (.bget (some 39) 1 0 1 false)⟩,
         ⟨(some 41), some undefA, none, true, .pu (.bin .sub (.s 40) (.c (.int .i64 1)))⟩,
         ⟨(some 42), some undefA, none, false, .call 64 [(.s 38), (.c (.int .i64 0)), (.s 41)]⟩,
         ⟨(some 43), some undefA, none, false, .pu (.not (.s 42))⟩])
       (.cond (.s 43) (.seq (.ops [⟨(some 2), some undefA, none, false, .pu (.mov (.c (.int .i64 1)))⟩])
        (.ret))
       (.skip))))
      (.ops [⟨(some 29), some undefA, none, false, .pu (.mov (.s 4))⟩,
        ⟨(some 30), some undefA, none, false, .pu (.bin .add (.s 29) (.c (.int .i64 1)))⟩,
        ⟨(some 4), some undefA, none, false, .pu (.mov (.s 30))⟩]))))))
    (.seq (.ops [⟨(some 5), some undefA, none, false, .pu (.mov (.c (.int .i64 0)))⟩])
    (.block 4 (.loop (.seq (.seq (.ops [⟨(some 44), some undefA, none, false, .pu (.mov (.s 5))⟩,
        ⟨(some 45), some undefA, none, false, .pu (.badr none 1)⟩,
        ⟨(some 46), some undefA, none, false, .pu (.bget (some 45) 1 1 1 false)⟩,
        ⟨(some 47), some undefA, none, false, .pu (.mov (.s 3))⟩,
        ⟨(some 48), some undefA, none, false, .pu (.idx 1 (.s 46) (.s 47))⟩,
        ⟨(some 49), some undefA, none, false, .ld (.ld 1 false (.s 48))⟩,
        ⟨(some 50), some undefA, none, false, .pu (.len (.s 49))⟩,
        ⟨(some 51), some undefA, none, false, .pu (.bin .lss (.s 44) (.s 50))⟩])
      (.cond (.s 51) (.skip)
      (.exit 4)))
      (.seq (.block 5 (.seq (.ops [⟨(some 54), some undefA, none, true, .pu (.badr none 1)⟩,
         ⟨(some 55), some undefA, none, true, .pu (.bget (some 54) 1 1 1 false)⟩,
         ⟨(some 56), some undefA, none, true, .pu (.mov (.s 3))⟩,
         ⟨(some 57), some undefA, none, true, .pu (.idx 1 (.s 55) (.s 56))⟩,
         ⟨(some 58), some undefA, none, true, .ld (.ld 1 false (.s 57))⟩,
         ⟨(some 59), some undefA, none, true, .pu (.mov (.s 5))⟩,
         ⟨(some 60), some undefA, none, true, .pu (.slc 1 (.s 58) none (some (.s 59)) none)⟩,
         ⟨(some 61), some undefA, none, true, .pu (.badr none 1)⟩,
         ⟨(some 62), some undefA, none, true, .pu (.bget (some 61) 1 1 1 false)⟩,
         ⟨(some 63), some undefA, none, true, .pu (.mov (.s 3))⟩,
         ⟨(some 64), some undefA, none, true, .pu (.idx 1 (.s 62) (.s 63))⟩,
         ⟨(some 65), some undefA, none, true, .ld (.ld 1 false (.s 64))⟩,
         ⟨(some 66), some undefA, none, true, .pu (.mov (.s 5))⟩,
         ⟨(some 67), some undefA, none, true, .pu (.idx 1 (.s 65) (.s 66))⟩,
         ⟨(some 68), some undefA, none, true, .ld (.ld 1 false (.s 67))⟩,
         ⟨(some 69), some undefA, none, false, .call 65 [(.s 60), (.s 68)]⟩])
       (.cond (.s 69) (.seq (.ops [⟨(some 2), some undefA, none, false, .pu (.mov (.c (.int .i64 6)))⟩])
        (.ret))
       (.skip))))
      (.ops [⟨(some 52), some undefA, none, false, .pu (.mov (.s 5))⟩,
        ⟨(some 53), some undefA, none, false, .pu (.bin .add (.s 52) (.c (.int .i64 1)))⟩,
        ⟨(some 5), some undefA, none, false, .pu (.mov (.s 53))⟩]))))))))
   (.ops [⟨(some 19), some undefA, none, false, .pu (.mov (.s 3))⟩,
     ⟨(some 20), some undefA, none, false, .pu (.bin .add (.s 19) (.c (.int .i64 1)))⟩,
     ⟨(some 3), some undefA, none, false, .pu (.mov (.s 20))⟩]))))))
 (.seq (.ops [⟨(some 2), some undefA, none, false, .pu (.mov (.c (.int .i64 0)))⟩])
 (.ret)))))⟩
theorem t40 : trF Try.prog [1] [] Try.f40 = some m40 := by kernel_rfl
/-- selion/selionlaw07.first [] -/
def m54 : MFun := ⟨6, [0], [.bget none 0 0 2 true],
 .seq (.ops [⟨(some 0), some (.junk), none, false, .pu (.bnew (.c (.agg [.int .i64 0, .nilS])))⟩])
 (.seq (.ops [⟨(some 1), some undefA, none, false, .ha (.blds 1 2 [.int .i64 0] [(0, 1, (.c (.int .i64 0))), (1, 1, (.c (.int .i64 1)))])⟩,
   ⟨(some 2), some undefA, none, false, .ha (.blds 1 1 [.int .i64 0] [(0, 1, (.c (.int .i64 0)))])⟩,
   ⟨(some 3), some undefA, none, false, .ha (.blds 1 1 [.int .i64 0] [(0, 1, (.c (.int .i64 0)))])⟩,
   ⟨(some 4), some undefA, none, false, .ha (.blds 1 3 [.nilS] [(0, 1, (.s 1)), (1, 1, (.s 2)), (2, 1, (.s 3))])⟩,
   ⟨(some 5), some undefA, none, false, .pu (.build [.int .i64 0, .nilS] [(0, 1, (.c (.int .i64 3))), (1, 1, (.s 4))])⟩,
   ⟨(some 0), none, none, false, .pu (.bset none 0 0 2 (.s 5))⟩])
 (.ret))⟩
theorem t54 : trF Try.prog [0] [] Try.f54 = some m54 := by kernel_rfl
/-- slices.Clone[[][]int,[]int] [] -/
def m55 : MFun := ⟨8, [], [.mov (.s 2)],
 .seq (.ops [⟨(some 2), some undefA, none, false, .pu (.mov (.c (.nilS)))⟩])
 (.seq (.seq (.ops [⟨(some 3), some undefA, none, false, .pu (.mov (.s 0))⟩,
   ⟨(some 4), some undefA, none, false, .pu (.isnil false (.s 3))⟩])
 (.cond (.s 4) (.seq (.ops [⟨(some 2), some undefA, none, false, .pu (.mov (.c (.nilS)))⟩])
  (.ret))
 (.skip)))
 (.seq (.ops [⟨(some 5), some undefA, none, false, .ha (.blds 1 0 [.nilS] [])⟩,
   ⟨(some 6), some undefA, none, false, .pu (.mov (.s 0))⟩,
   ⟨(some 7), some undefA, none, false, .ha (.app 1 (.s 5) (.s 6))⟩,
   ⟨(some 2), some undefA, none, false, .pu (.mov (.s 7))⟩])
 (.ret)))⟩
theorem t55 : trF Try.prog [] [] Try.f55 = some m55 := by kernel_rfl
/-- selion/wish.most [] -/
def m56 : MFun := ⟨8, [1], [.mov (.s 2)],
 .seq (.ops [⟨(some 1), some (.junk), none, false, .pu (.bnew (.s 0))⟩,
   ⟨(some 2), some undefA, none, false, .pu (.mov (.c (.int .i64 0)))⟩])
 (.seq (.ops [⟨(some 3), some undefA, none, false, .pu (.bget none 1 0 2 true)⟩,
   ⟨(some 4), some undefA, none, false, .call 63 [(.s 3)]⟩,
   ⟨(some 5), some undefA, none, false, .call 62 [(.s 4)]⟩,
   ⟨(some 6), some undefA, none, false, .pu (.part 2 1 false (.s 5))⟩,
   ⟨(some 7), some undefA, none, false, .call 61 [(.s 6)]⟩,
   ⟨(some 2), some undefA, none, false, .pu (.mov (.s 7))⟩])
 (.ret))⟩
theorem t56 : trF Try.prog [1] [] Try.f56 = some m56 := by kernel_rfl
/-- selion/selionref07.most [loop [0, 3, 4]] -/
def m57 : MFun := ⟨20, [], [.mov (.s 2)],
 .seq (.ops [⟨(some 2), some undefA, none, false, .pu (.mov (.c (.int .i64 0)))⟩])
 (.seq (.ops [⟨(some 3), some undefA, none, false, .pu (.mov (.c (.int .i64 0)))⟩])
 (.seq (.seq (.ops [⟨(some 4), some undefA, none, false, .pu (.mov (.c (.int .i64 0)))⟩])
 (.block 0 (.loop (.seq (.seq (.ops [⟨(some 5), some undefA, none, false, .pu (.mov (.s 4))⟩,
     ⟨(some 6), some undefA, none, false, .pu (.mov (.s 0))⟩,
     ⟨(some 7), some undefA, none, false, .pu (.len (.s 6))⟩,
     ⟨(some 8), some undefA, none, false, .pu (.bin .lss (.s 5) (.s 7))⟩])
   (.cond (.s 8) (.skip)
   (.exit 0)))
   (.seq (.block 1 (.seq (.ops [⟨(some 11), some undefA, none, false, .pu (.mov (.s 0))⟩,
      ⟨(some 12), some undefA, none, false, .pu (.mov (.s 4))⟩,
      ⟨(some 13), some undefA, none, false, .pu (.idx 1 (.s 11) (.s 12))⟩,
      ⟨(some 14), some undefA, none, false, .ld (.ld 1 false (.s 13))⟩])
    (.cond (.s 14) (.ops [⟨(some 15), some undefA, none, false, .pu (.mov (.s 3))⟩,
       ⟨(some 16), some undefA, none, false, .pu (.mov (.s 4))⟩,
       ⟨(some 17), some undefA, none, false, .call 60 [(.s 16)]⟩,
       ⟨(some 18), some undefA, none, false, .pu (.mm true (.s 15) [(.s 17)])⟩,
       ⟨(some 3), some undefA, none, false, .pu (.mov (.s 18))⟩])
    (.skip))))
   (.ops [⟨(some 9), some undefA, none, false, .pu (.mov (.s 4))⟩,
     ⟨(some 10), some undefA, none, false, .pu (.bin .add (.s 9) (.c (.int .i64 1)))⟩,
     ⟨(some 4), some undefA, none, false, .pu (.mov (.s 10))⟩]))))))
 (.seq (.ops [⟨(some 19), some undefA, none, false, .pu (.mov (.s 3))⟩,
   ⟨(some 2), some undefA, none, false, .pu (.mov (.s 19))⟩])
 (.ret))))⟩
theorem t57 : trF Try.prog [] [] Try.f57 = some m57 := by kernel_rfl
/-- selion/selionref07.sets [loop [1, 2, 5, 6], loop [1, 2, 5, 6, 7, 8], loop [1, 2, 5, 6, 7, 8, 9]] -/
def m58 : MFun := ⟨74, [2], [.mov (.s 4)],
 .seq (.ops [⟨(some 2), some (.junk), none, false, .pu (.bnew (.s 0))⟩,
   ⟨(some 4), some undefA, none, false, .pu (.mov (.c (.nilS)))⟩])
 (.seq (.ops [⟨(some 11), some undefA, none, false, .pu (.badr none 2)⟩,
   ⟨(some 12), some undefA, none, false, .pu (.bget (some 11) 2 0 1 false)⟩,
   ⟨(some 13), some undefA, none, false, .pu (.conv .u64 (.s 12))⟩,
   ⟨(some 14), some undefA, none, false, .pu (.bin .shl (.c (.int .i64 1)) (.s 13))⟩,
   ⟨(some 15), some undefA, none, false, .ha (.mks 1 [.bool false] (.s 14) (.s 14))⟩,
   ⟨(some 5), some undefA, none, false, .pu (.mov (.s 15))⟩])
 (.seq (.ops [⟨(some 16), some undefA, none, false, .pu (.mov (.s 5))⟩,
   ⟨(some 17), some undefA, none, false, .pu (.idx 1 (.s 16) (.c (.int .i64 0)))⟩,
   ⟨none, some undefA, none, false, .ha (.st 1 (.s 17) (.c (.bool true)))⟩])
 (.seq (.seq (.ops [⟨(some 6), some undefA, none, false, .pu (.mov (.c (.int .i64 0)))⟩])
 (.block 0 (.loop (.seq (.seq (.ops [⟨(some 18), some undefA, none, false, .pu (.mov (.s 6))⟩,
     ⟨(some 19), some undefA, none, false, .pu (.badr none 2)⟩,
     ⟨(some 20), some undefA, none, false, .pu (.bget (some 19) 2 1 1 false)⟩,
     ⟨(some 21), some undefA, none, false, .pu (.len (.s 20))⟩,
     ⟨(some 22), some undefA, none, false, .pu (.bin .lss (.s 18) (.s 21))⟩])
   (.cond (.s 22) (.skip)
   (.exit 0)))
   (.seq (.block 1 (.seq (.seq (.ops [⟨(some 25), some undefA, none, false, .pu (.mov (.s 6))⟩,
      ⟨(some 26), some undefA, none, false, .pu (.mov (.s 1))⟩,
      ⟨(some 27), some undefA, none, false, .pu (.bin .eql (.s 25) (.s 26))⟩])
    (.cond (.s 27) (.exit 1)
    (.skip)))
    (.seq (.ops [⟨(some 28), some undefA, none, false, .ha (.blds 1 0 [.bool false] [])⟩,
      ⟨(some 29), some undefA, none, false, .pu (.mov (.s 5))⟩,
      ⟨(some 30), some undefA, none, false, .ha (.app 1 (.s 28) (.s 29))⟩,
      ⟨(some 7), some undefA, none, false, .pu (.mov (.s 30))⟩])
    (.seq (.seq (.ops [⟨(some 8), some undefA, none, false, .pu (.mov (.c (.int .i64 0)))⟩])
    (.block 2 (.loop (.seq (.seq (.ops [⟨(some 31), some undefA, none, false, .pu (.mov (.s 8))⟩,
        ⟨(some 32), some undefA, none, false, .pu (.mov (.s 5))⟩,
        ⟨(some 33), some undefA, none, false, .pu (.len (.s 32))⟩,
        ⟨(some 34), some undefA, none, false, .pu (.bin .lss (.s 31) (.s 33))⟩])
      (.cond (.s 34) (.skip)
      (.exit 2)))
      (.seq (.block 3 (.seq (.ops [⟨(some 9), some undefA, none, false, .pu (.mov (.c (.int .i64 0)))⟩])
       (.block 4 (.loop (.seq (.seq (.ops [⟨(some 37), some undefA, none, false, .pu (.mov (.s 9))⟩,
           ⟨(some 38), some undefA, none, false, .pu (.badr none 2)⟩,
           ⟨(some 39), some undefA, none, false, .pu (.bget (some 38) 2 1 1 false)⟩,
           ⟨(some 40), some undefA, none, false, .pu (.mov (.s 6))⟩,
           ⟨(some 41), some undefA, none, false, .pu (.idx 1 (.s 39) (.s 40))⟩,
           ⟨(some 42), some undefA, none, false, .ld (.ld 1 false (.s 41))⟩,
           ⟨(some 43), some undefA, none, false, .pu (.len (.s 42))⟩,
           ⟨(some 44), some undefA, none, false, .pu (.bin .lss (.s 37) (.s 43))⟩,
           ⟨(some 45), some undefA, none, false, .pu (.mov (.s 44))⟩,
           ⟨(some 46), some undefA, (some (45, true)), false, .pu (.mov (.s 5))⟩,
           ⟨(some 47), some undefA, (some (45, true)), false, .pu (.mov (.s 8))⟩,
           ⟨(some 48), some undefA, (some (45, true)), false, .pu (.idx 1 (.s 46) (.s 47))⟩,
           ⟨(some 49), some undefA, (some (45, true)), false, .ld (.ld 1 false (.s 48))⟩,
           ⟨(some 50), some undefA, none, false, .pu (.pick (.s 45) (.s 49) (.c (.bool false)))⟩])
         (.cond (.s 50) (.skip)
         (.exit 4)))
         (.seq (.block 5 (.seq (.ops [⟨(some 53), some undefA, none, false, .pu (.badr none 2)⟩,
            ⟨(some 54), some undefA, none, false, .pu (.bget (some 53) 2 1 1 false)⟩,
            ⟨(some 55), some undefA, none, false, .pu (.mov (.s 6))⟩,
            ⟨(some 56), some undefA, none, false, .pu (.idx 1 (.s 54) (.s 55))⟩,
            ⟨(some 57), some undefA, none, false, .ld (.ld 1 false (.s 56))⟩,
            ⟨(some 58), some undefA, none, false, .pu (.mov (.s 9))⟩,
            ⟨(some 59), some undefA, none, false, .pu (.idx 1 (.s 57) (.s 58))⟩,
            ⟨(some 60), some undefA, none, false, .ld (.ld 1 false (.s 59))⟩,
            ⟨(some 61), some undefA, none, false, .pu (.conv .u64 (.s 60))⟩,
            ⟨(some 62), some undefA, none, false, .pu (.bin .shl (.c (.int .i64 1)) (.s 61))⟩,
            ⟨(some 10), some undefA, none, false, .pu (.mov (.s 62))⟩])
          (.seq (.ops [⟨(some 63), some undefA, none, false, .pu (.mov (.s 8))⟩,
            ⟨(some 64), some undefA, none, false, .pu (.mov (.s 10))⟩,
            ⟨(some 65), some undefA, none, false, .pu (.bin .and (.s 63) (.s 64))⟩,
            ⟨(some 66), some undefA, none, false, .pu (.bin .eql (.s 65) (.c (.int .i64 0)))⟩])
          (.cond (.s 66) (.ops [⟨(some 67), some undefA, none, false, .pu (.mov (.s 7))⟩,
             ⟨(some 68), some undefA, none, false, .pu (.mov (.s 8))⟩,
             ⟨(some 69), some undefA, none, false, .pu (.mov (.s 10))⟩,
             ⟨(some 70), some undefA, none, false, .pu (.bin .or (.s 68) (.s 69))⟩,
             ⟨(some 71), some undefA, none, false, .pu (.idx 1 (.s 67) (.s 70))⟩,
             ⟨none, some undefA, none, false, .ha (.st 1 (.s 71) (.c (.bool true)))⟩])
          (.skip)))))
         (.ops [⟨(some 51), some undefA, none, false, .pu (.mov (.s 9))⟩,
           ⟨(some 52), some undefA, none, false, .pu (.bin .add (.s 51) (.c (.int .i64 1)))⟩,
           ⟨(some 9), some undefA, none, false, .pu (.mov (.s 52))⟩])))))))
      (.ops [⟨(some 35), some undefA, none, false, .pu (.mov (.s 8))⟩,
        ⟨(some 36), some undefA, none, false, .pu (.bin .add (.s 35) (.c (.int .i64 1)))⟩,
        ⟨(some 8), some undefA, none, false, .pu (.mov (.s 36))⟩]))))))
    (.ops [⟨(some 72), some undefA, none, false, .pu (.mov (.s 7))⟩,
      ⟨(some 5), some undefA, none, false, .pu (.mov (.s 72))⟩])))))
   (.ops [⟨(some 23), some undefA, none, false, .pu (.mov (.s 6))⟩,
     ⟨(some 24), some undefA, none, false, .pu (.bin .add (.s 23) (.c (.int .i64 1)))⟩,
     ⟨(some 6), some undefA, none, false, .pu (.mov (.s 24))⟩]))))))
 (.seq (.ops [⟨(some 73), some undefA, none, false, .pu (.mov (.s 5))⟩,
   ⟨(some 4), some undefA, none, false, .pu (.mov (.s 73))⟩])
 (.ret)))))⟩
theorem t58 : trF Try.prog [2] [] Try.f58 = some m58 := by kernel_rfl
/-- selion/wish.without [loop [3, 4, 5, 12, 13, 14]] -/
def m59 : MFun := ⟨29, [2, 4, 5], [.bget none 4 0 2 true],
 .seq (.ops [⟨(some 2), some (.junk), none, false, .pu (.bnew (.s 0))⟩,
   ⟨(some 3), some undefA, none, false, .ha (.newv (.s 1))⟩,
   ⟨(some 4), some (.junk), none, false, .pu (.bnew (.c (.agg [.int .i64 0, .nilS])))⟩])
 (.seq (.ops [⟨(some 8), some undefA, none, false, .pu (.badr none 2)⟩,
   ⟨(some 9), some undefA, none, false, .pu (.bget (some 8) 2 0 1 false)⟩,
   ⟨(some 10), some undefA, none, false, .pu (.build [.int .i64 0, .nilS] [(0, 1, (.s 9))])⟩,
   ⟨(some 5), some (.junk), none, false, .pu (.bnew (.c (.agg [.int .i64 0, .nilS])))⟩,
   ⟨(some 5), none, none, false, .pu (.bset none 5 0 2 (.s 10))⟩])
 (.seq (.seq (.ops [⟨(some 11), some undefA, none, false, .pu (.badr none 2)⟩,
   ⟨(some 12), some undefA, none, false, .pu (.bget (some 11) 2 1 1 false)⟩,
   ⟨(some 13), some undefA, none, false, .pu (.len (.s 12))⟩,
   ⟨(some 14), some undefA, none, false, .pu (.mov (.c (.int .i64 0)))⟩])
 (.block 0 (.loop (.seq (.ops [⟨(some 15), some undefA, none, false, .pu (.bin .lss (.s 14) (.s 13))⟩])
   (.seq (.cond (.s 15) (.skip)
   (.exit 0))
   (.seq (.block 1 (.seq (.ops [⟨(some 16), some undefA, none, false, .pu (.idx 1 (.s 12) (.s 14))⟩,
      ⟨(some 17), some undefA, none, false, .ld (.ld 1 false (.s 16))⟩,
      ⟨(some 7), some undefA, none, false, .pu (.mov (.s 17))⟩])
    (.ops [⟨(some 18), some undefA, none, false, .pu (.badr none 5)⟩,
      ⟨(some 19), some undefA, none, false, .pu (.bget (some 18) 5 1 1 false)⟩,
      ⟨(some 20), some undefA, none, false, .pu (.mov (.s 7))⟩,
      ⟨(some 21), some undefA, none, false, .call 83 [(.s 20)]⟩,
      ⟨(some 22), some undefA, none, false, .pu (.mkf 91 [(.s 3)])⟩,
      ⟨(some 23), some undefA, none, false, .call 90 [(.s 21), (.s 22)]⟩,
      ⟨(some 24), some undefA, none, false, .ha (.blds 1 1 [.nilS] [(0, 1, (.s 23))])⟩,
      ⟨(some 25), some undefA, none, false, .ha (.app 1 (.s 19) (.s 24))⟩,
      ⟨(some 26), some undefA, none, false, .pu (.badr none 5)⟩,
      ⟨(some 5), none, none, false, .pu (.bset (some 26) 5 1 1 (.s 25))⟩])))
   (.ops [⟨(some 27), some undefA, none, false, .pu (.bin .add (.s 14) (.c (.int .i64 1)))⟩,
     ⟨(some 14), some undefA, none, false, .pu (.mov (.s 27))⟩])))))))
 (.seq (.ops [⟨(some 28), some undefA, none, false, .pu (.bget none 5 0 2 true)⟩,
   ⟨(some 4), none, none, false, .pu (.bset none 4 0 2 (.s 28))⟩])
 (.ret))))⟩
theorem t59 : trF Try.prog [2, 4, 5] [] Try.f59 = some m59 := by kernel_rfl
/-- selion/selionref07.size [loop [0, 3]] -/
def m60 : MFun := ⟨13, [], [.mov (.s 2)],
 .seq (.ops [⟨(some 2), some undefA, none, false, .pu (.mov (.c (.int .i64 0)))⟩])
 (.seq (.ops [⟨(some 3), some undefA, none, false, .pu (.mov (.c (.int .i64 0)))⟩])
 (.seq (.block 0 (.loop (.seq (.seq (.ops [⟨(some 4), some undefA, none, false, .pu (.mov (.s 0))⟩,
     ⟨(some 5), some undefA, none, false, .pu (.bin .gtr (.s 4) (.c (.int .i64 0)))⟩])
   (.cond (.s 5) (.skip)
   (.exit 0)))
   (.seq (.block 1 (.ops [⟨(some 8), some undefA, none, false, .pu (.mov (.s 3))⟩,
      ⟨(some 9), some undefA, none, false, .pu (.mov (.s 0))⟩,
      ⟨(some 10), some undefA, none, false, .pu (.bin .rem (.s 9) (.c (.int .i64 2)))⟩,
      ⟨(some 11), some undefA, none, false, .pu (.bin .add (.s 8) (.s 10))⟩,
      ⟨(some 3), some undefA, none, false, .pu (.mov (.s 11))⟩]))
   (.ops [⟨(some 6), some undefA, none, false, .pu (.mov (.s 0))⟩,
     ⟨(some 7), some undefA, none, false, .pu (.bin .quo (.s 6) (.c (.int .i64 2)))⟩,
     ⟨(some 0), some undefA, none, false, .pu (.mov (.s 7))⟩])))))
 (.seq (.ops [⟨(some 12), some undefA, none, false, .pu (.mov (.s 3))⟩,
   ⟨(some 2), some undefA, none, false, .pu (.mov (.s 12))⟩])
 (.ret))))⟩
theorem t60 : trF Try.prog [] [] Try.f60 = some m60 := by kernel_rfl
/-- selion/wish.served [loop [3, 6, 7, 8]] -/
def m61 : MFun := ⟨18, [], [.mov (.s 2)],
 .seq (.ops [⟨(some 2), some undefA, none, false, .pu (.mov (.c (.int .i64 0)))⟩])
 (.seq (.ops [⟨(some 3), some undefA, none, false, .pu (.mov (.c (.int .i64 0)))⟩])
 (.seq (.seq (.ops [⟨(some 6), some undefA, none, false, .pu (.mov (.s 0))⟩,
   ⟨(some 7), some undefA, none, false, .pu (.len (.s 6))⟩,
   ⟨(some 8), some undefA, none, false, .pu (.mov (.c (.int .i64 0)))⟩])
 (.block 0 (.loop (.seq (.ops [⟨(some 9), some undefA, none, false, .pu (.bin .lss (.s 8) (.s 7))⟩])
   (.seq (.cond (.s 9) (.skip)
   (.exit 0))
   (.seq (.block 1 (.seq (.ops [⟨(some 10), some undefA, none, false, .pu (.idx 1 (.s 6) (.s 8))⟩,
      ⟨(some 11), some undefA, none, false, .ld (.ld 1 false (.s 10))⟩,
      ⟨(some 5), some undefA, none, false, .pu (.mov (.s 11))⟩])
    (.seq (.ops [⟨(some 12), some undefA, none, false, .pu (.mov (.s 5))⟩,
      ⟨(some 13), some undefA, none, false, .pu (.bin .geq (.s 12) (.c (.int .i64 0)))⟩])
    (.cond (.s 13) (.ops [⟨(some 14), some undefA, none, false, .pu (.mov (.s 3))⟩,
       ⟨(some 15), some undefA, none, false, .pu (.bin .add (.s 14) (.c (.int .i64 1)))⟩,
       ⟨(some 3), some undefA, none, false, .pu (.mov (.s 15))⟩])
    (.skip)))))
   (.ops [⟨(some 16), some undefA, none, false, .pu (.bin .add (.s 8) (.c (.int .i64 1)))⟩,
     ⟨(some 8), some undefA, none, false, .pu (.mov (.s 16))⟩])))))))
 (.seq (.ops [⟨(some 17), some undefA, none, false, .pu (.mov (.s 3))⟩,
   ⟨(some 2), some undefA, none, false, .pu (.mov (.s 17))⟩])
 (.ret))))⟩
theorem t61 : trF Try.prog [] [] Try.f61 = some m61 := by kernel_rfl
/-- selion/wish.filled [loop [1, 2, 10, 11]] -/
def m62 : MFun := ⟨25, [1, 2], [.bget none 2 0 3 true],
 .seq (.ops [⟨(some 1), some (.junk), none, false, .pu (.bnew (.s 0))⟩,
   ⟨(some 2), some (.junk), none, false, .pu (.bnew (.c (.agg [.int .i64 0, .nilS, .nilS])))⟩])
 (.seq (.ops [⟨(some 4), some undefA, none, false, .pu (.badr none 1)⟩,
   ⟨(some 5), some undefA, none, false, .pu (.bget (some 4) 1 2 1 false)⟩,
   ⟨(some 6), some undefA, none, false, .call 83 [(.s 5)]⟩,
   ⟨(some 7), some undefA, none, false, .pu (.badr none 1)⟩,
   ⟨(some 1), none, none, false, .pu (.bset (some 7) 1 2 1 (.s 6))⟩])
 (.seq (.seq (.ops [⟨(some 8), some undefA, none, false, .pu (.badr none 1)⟩,
   ⟨(some 9), some undefA, none, false, .pu (.bget (some 8) 1 2 1 false)⟩,
   ⟨(some 10), some undefA, none, false, .pu (.len (.s 9))⟩,
   ⟨(some 11), some undefA, none, false, .pu (.mov (.c (.int .i64 0)))⟩])
 (.block 0 (.loop (.seq (.ops [⟨(some 12), some undefA, none, false, .pu (.bin .lss (.s 11) (.s 10))⟩])
   (.seq (.cond (.s 12) (.skip)
   (.exit 0))
   (.seq (.block 1 (.seq (.ops [⟨(some 13), some undefA, none, false, .pu (.mov (.s 11))⟩,
      ⟨(some 3), some undefA, none, false, .pu (.mov (.s 13))⟩])
    (.seq (.ops [⟨(some 14), some undefA, none, false, .pu (.badr none 1)⟩,
      ⟨(some 15), some undefA, none, false, .pu (.bget (some 14) 1 2 1 false)⟩,
      ⟨(some 16), some undefA, none, false, .pu (.mov (.s 3))⟩,
      ⟨(some 17), some undefA, none, false, .pu (.idx 1 (.s 15) (.s 16))⟩,
      ⟨(some 18), some undefA, none, false, .ld (.ld 1 false (.s 17))⟩,
      ⟨(some 19), some undefA, none, false, .pu (.bin .lss (.s 18) (.c (.int .i64 0)))⟩])
    (.cond (.s 19) (.ops [⟨(some 20), some undefA, none, false, .pu (.bget none 1 0 3 true)⟩,
       ⟨(some 21), some undefA, none, false, .pu (.mov (.s 3))⟩,
       ⟨(some 22), some undefA, none, false, .call 92 [(.s 20), (.s 21)]⟩])
    (.skip)))))
   (.ops [⟨(some 23), some undefA, none, false, .pu (.bin .add (.s 11) (.c (.int .i64 1)))⟩,
     ⟨(some 11), some undefA, none, false, .pu (.mov (.s 23))⟩])))))))
 (.seq (.ops [⟨(some 24), some undefA, none, false, .pu (.bget none 1 0 3 true)⟩,
   ⟨(some 2), none, none, false, .pu (.bset none 2 0 3 (.s 24))⟩])
 (.ret))))⟩
theorem t62 : trF Try.prog [1, 2] [] Try.f62 = some m62 := by kernel_rfl
/-- selion/wish.none [] -/
def m63 : MFun := ⟨10, [1, 2], [.bget none 2 0 3 true],
 .seq (.ops [⟨(some 1), some (.junk), none, false, .pu (.bnew (.s 0))⟩,
   ⟨(some 2), some (.junk), none, false, .pu (.bnew (.c (.agg [.int .i64 0, .nilS, .nilS])))⟩])
 (.seq (.ops [⟨(some 3), some undefA, none, false, .pu (.bget none 1 0 2 true)⟩,
   ⟨(some 4), some undefA, none, false, .ha (.blds 1 1 [.int .i64 0] [(0, 1, (.c (.int .i64 (-1))))])⟩,
   ⟨(some 5), some undefA, none, false, .pu (.badr none 1)⟩,
   ⟨(some 6), some undefA, none, false, .pu (.bget (some 5) 1 1 1 false)⟩,
   ⟨(some 7), some undefA, none, false, .pu (.len (.s 6))⟩,
   ⟨(some 8), some undefA, none, false, .call 93 [(.s 4), (.s 7)]⟩,
   ⟨(some 9), some undefA, none, false, .pu (.build [.int .i64 0, .nilS, .nilS] [(0, 2, (.s 3)), (2, 1, (.s 8))])⟩,
   ⟨(some 2), none, none, false, .pu (.bset none 2 0 3 (.s 9))⟩])
 (.ret))⟩
theorem t63 : trF Try.prog [1, 2] [] Try.f63 = some m63 := by kernel_rfl
/-- selion/selionref01.Within [] -/
def m64 : MFun := ⟨15, [], [.mov (.s 6)],
 .seq (.ops [⟨(some 6), some undefA, none, false, .pu (.mov (.c (.bool false)))⟩])
 (.seq (.ops [⟨(some 7), some undefA, none, false, .pu (.mov (.s 0))⟩,
   ⟨(some 8), some undefA, none, false, .pu (.mov (.s 1))⟩,
   ⟨(some 9), some undefA, none, false, .pu (.bin .geq (.s 7) (.s 8))⟩,
   ⟨(some 10), some undefA, none, false, .pu (.mov (.s 9))⟩,
   ⟨(some 11), some undefA, (some (10, true)), false, .pu (.mov (.s 0))⟩,
   ⟨(some 12), some undefA, (some (10, true)), false, .pu (.mov (.s 2))⟩,
   ⟨(some 13), some undefA, (some (10, true)), false, .pu (.bin .leq (.s 11) (.s 12))⟩,
   ⟨(some 14), some undefA, none, false, .pu (.pick (.s 10) (.s 13) (.c (.bool false)))⟩,
   ⟨(some 6), some undefA, none, false, .pu (.mov (.s 14))⟩])
 (.ret))⟩
theorem t64 : trF Try.prog [] [] Try.f64 = some m64 := by kernel_rfl
/-- selion/selionref07.has [loop [0, 1, 5]] -/
def m65 : MFun := ⟨18, [], [.mov (.s 4)],
 .seq (.ops [⟨(some 4), some undefA, none, false, .pu (.mov (.c (.bool false)))⟩])
 (.seq (.seq (.ops [⟨(some 5), some undefA, none, false, .pu (.mov (.c (.int .i64 0)))⟩])
 (.block 0 (.loop (.seq (.seq (.ops [⟨(some 6), some undefA, none, false, .pu (.mov (.s 5))⟩,
     ⟨(some 7), some undefA, none, false, .pu (.mov (.s 0))⟩,
     ⟨(some 8), some undefA, none, false, .pu (.len (.s 7))⟩,
     ⟨(some 9), some undefA, none, false, .pu (.bin .lss (.s 6) (.s 8))⟩])
   (.cond (.s 9) (.skip)
   (.exit 0)))
   (.seq (.block 1 (.seq (.ops [⟨(some 12), some undefA, none, false, .pu (.mov (.s 0))⟩,
      ⟨(some 13), some undefA, none, false, .pu (.mov (.s 5))⟩,
      ⟨(some 14), some undefA, none, false, .pu (.idx 1 (.s 12) (.s 13))⟩,
      ⟨(some 15), some undefA, none, false, .ld (.ld 1 false (.s 14))⟩,
      ⟨(some 16), some undefA, none, false, .pu (.mov (.s 1))⟩,
      ⟨(some 17), some undefA, none, false, .pu (.bin .eql (.s 15) (.s 16))⟩])
    (.cond (.s 17) (.seq (.ops [⟨(some 4), some undefA, none, false, .pu (.mov (.c (.bool true)))⟩])
     (.ret))
    (.skip))))
   (.ops [⟨(some 10), some undefA, none, false, .pu (.mov (.s 5))⟩,
     ⟨(some 11), some undefA, none, false, .pu (.bin .add (.s 10) (.c (.int .i64 1)))⟩,
     ⟨(some 5), some undefA, none, false, .pu (.mov (.s 11))⟩]))))))
 (.seq (.ops [⟨(some 4), some undefA, none, false, .pu (.mov (.c (.bool false)))⟩])
 (.ret)))⟩
theorem t65 : trF Try.prog [] [] Try.f65 = some m65 := by kernel_rfl
/-- selion/selionref01.CopyTable [loop [0, 3, 4]] -/
def m67 : MFun := ⟨21, [], [.mov (.s 2)],
 .seq (.ops [⟨(some 2), some undefA, none, false, .pu (.mov (.c (.nilS)))⟩])
 (.seq (.ops [⟨(some 3), some undefA, none, false, .pu (.mov (.c (.nilS)))⟩])
 (.seq (.seq (.ops [⟨(some 4), some undefA, none, false, .pu (.mov (.c (.int .i64 0)))⟩])
 (.block 0 (.loop (.seq (.seq (.ops [⟨(some 5), some undefA, none, false, .pu (.mov (.s 4))⟩,
     ⟨(some 6), some undefA, none, false, .pu (.mov (.s 0))⟩,
     ⟨(some 7), some undefA, none, false, .pu (.len (.s 6))⟩,
     ⟨(some 8), some undefA, none, false, .pu (.bin .lss (.s 5) (.s 7))⟩])
   (.cond (.s 8) (.skip)
   (.exit 0)))
   (.seq (.block 1 (.ops [⟨(some 11), some undefA, none, false, .pu (.mov (.s 3))⟩,
      ⟨(some 12), some undefA, none, false, .ha (.blds 1 0 [.int .i64 0] [])⟩,
      ⟨(some 13), some undefA, none, false, .pu (.mov (.s 0))⟩,
      ⟨(some 14), some undefA, none, false, .pu (.mov (.s 4))⟩,
      ⟨(some 15), some undefA, none, false, .pu (.idx 1 (.s 13) (.s 14))⟩,
      ⟨(some 16), some undefA, none, false, .ld (.ld 1 false (.s 15))⟩,
      ⟨(some 17), some undefA, none, false, .ha (.app 1 (.s 12) (.s 16))⟩,
      ⟨(some 18), some undefA, none, false, .ha (.blds 1 1 [.nilS] [(0, 1, (.s 17))])⟩,
      ⟨(some 19), some undefA, none, false, .ha (.app 1 (.s 11) (.s 18))⟩,
      ⟨(some 3), some undefA, none, false, .pu (.mov (.s 19))⟩]))
   (.ops [⟨(some 9), some undefA, none, false, .pu (.mov (.s 4))⟩,
     ⟨(some 10), some undefA, none, false, .pu (.bin .add (.s 9) (.c (.int .i64 1)))⟩,
     ⟨(some 4), some undefA, none, false, .pu (.mov (.s 10))⟩]))))))
 (.seq (.ops [⟨(some 20), some undefA, none, false, .pu (.mov (.s 3))⟩,
   ⟨(some 2), some undefA, none, false, .pu (.mov (.s 20))⟩])
 (.ret))))⟩
theorem t67 : trF Try.prog [] [] Try.f67 = some m67 := by kernel_rfl
/-- selion/selionref01.SameTables [loop [0, 1, 5]] -/
def m68 : MFun := ⟨27, [], [.mov (.s 4)],
 .seq (.ops [⟨(some 4), some undefA, none, false, .pu (.mov (.c (.bool false)))⟩])
 (.seq (.seq (.ops [⟨(some 6), some undefA, none, false, .pu (.mov (.s 0))⟩,
   ⟨(some 7), some undefA, none, false, .pu (.len (.s 6))⟩,
   ⟨(some 8), some undefA, none, false, .pu (.mov (.s 1))⟩,
   ⟨(some 9), some undefA, none, false, .pu (.len (.s 8))⟩,
   ⟨(some 10), some undefA, none, false, .pu (.bin .neq (.s 7) (.s 9))⟩])
 (.cond (.s 10) (.seq (.ops [⟨(some 4), some undefA, none, false, .pu (.mov (.c (.bool false)))⟩])
  (.ret))
 (.skip)))
 (.seq (.seq (.ops [⟨(some 5), some undefA, none, false, .pu (.mov (.c (.int .i64 0)))⟩])
 (.block 0 (.loop (.seq (.seq (.ops [⟨(some 11), some undefA, none, false, .pu (.mov (.s 5))⟩,
     ⟨(some 12), some undefA, none, false, .pu (.mov (.s 0))⟩,
     ⟨(some 13), some undefA, none, false, .pu (.len (.s 12))⟩,
     ⟨(some 14), some undefA, none, false, .pu (.bin .lss (.s 11) (.s 13))⟩])
   (.cond (.s 14) (.skip)
   (.exit 0)))
   (.seq (.block 1 (.seq (.ops [⟨(some 17), some undefA, none, true, .pu (.mov (.s 0))⟩,
      ⟨(some 18), some undefA, none, true, .pu (.mov (.s 5))⟩,
      ⟨(some 19), some undefA, none, true, .pu (.idx 1 (.s 17) (.s 18))⟩,
      ⟨(some 20), some undefA, none, true, .ld (.ld 1 false (.s 19))⟩,
      ⟨(some 21), some undefA, none, true, .pu (.mov (.s 1))⟩,
      ⟨(some 22), some undefA, none, true, .pu (.mov (.s 5))⟩,
      ⟨(some 23), some undefA, none, true, .pu (.idx 1 (.s 21) (.s 22))⟩,
      ⟨(some 24), some undefA, none, true, .ld (.ld 1 false (.s 23))⟩,
      ⟨(some 25), some undefA, none, false, .call 23 [(.s 20), (.s 24)]⟩,
      ⟨(some 26), some undefA, none, false, .pu (.not (.s 25))⟩])
    (.cond (.s 26) (.seq (.ops [⟨(some 4), some undefA, none, false, .pu (.mov (.c (.bool false)))⟩])
     (.ret))
    (.skip))))
   (.ops [⟨(some 15), some undefA, none, false, .pu (.mov (.s 5))⟩,
     ⟨(some 16), some undefA, none, false, .pu (.bin .add (.s 15) (.c (.int .i64 1)))⟩,
     ⟨(some 5), some undefA, none, false, .pu (.mov (.s 16))⟩]))))))
 (.seq (.ops [⟨(some 4), some undefA, none, false, .pu (.mov (.c (.bool true)))⟩])
 (.ret))))⟩
theorem t68 : trF Try.prog [] [] Try.f68 = some m68 := by kernel_rfl
/-- slices.ContainsFunc[[]int,int] [] -/
def m69 : MFun := ⟨9, [], [.mov (.s 4)],
 .seq (.ops [⟨(some 4), some undefA, none, false, .pu (.mov (.c (.bool false)))⟩])
 (.seq (.ops [⟨(some 5), some undefA, none, false, .pu (.mov (.s 0))⟩,
   ⟨(some 6), some undefA, none, false, .pu (.mov (.s 1))⟩,
   ⟨(some 7), some undefA, none, false, .call 87 [(.s 5), (.s 6)]⟩,
   ⟨(some 8), some undefA, none, false, .pu (.bin .geq (.s 7) (.c (.int .i64 0)))⟩,
   ⟨(some 4), some undefA, none, false, .pu (.mov (.s 8))⟩])
 (.ret))⟩
theorem t69 : trF Try.prog [] [] Try.f69 = some m69 := by kernel_rfl
/-- slices.Contains[[]int,int] [] -/
def m71 : MFun := ⟨9, [], [.mov (.s 4)],
 .seq (.ops [⟨(some 4), some undefA, none, false, .pu (.mov (.c (.bool false)))⟩])
 (.seq (.ops [⟨(some 5), some undefA, none, false, .pu (.mov (.s 0))⟩,
   ⟨(some 6), some undefA, none, false, .pu (.mov (.s 1))⟩,
   ⟨(some 7), some undefA, none, false, .call 94 [(.s 5), (.s 6)]⟩,
   ⟨(some 8), some undefA, none, false, .pu (.bin .geq (.s 7) (.c (.int .i64 0)))⟩,
   ⟨(some 4), some undefA, none, false, .pu (.mov (.s 8))⟩])
 (.ret))⟩
theorem t71 : trF Try.prog [] [] Try.f71 = some m71 := by kernel_rfl
/-- selion/wish.isPlaces [] -/
def m73 : MFun := ⟨9, [], [.mov (.s 4)],
 .seq (.ops [⟨(some 3), some undefA, none, false, .ha (.newv (.s 1))⟩,
   ⟨(some 4), some undefA, none, false, .pu (.mov (.c (.bool false)))⟩])
 (.seq (.ops [⟨(some 5), some undefA, none, false, .pu (.mov (.s 0))⟩,
   ⟨(some 6), some undefA, none, false, .pu (.mkf 95 [(.s 3)])⟩,
   ⟨(some 7), some undefA, none, false, .call 69 [(.s 5), (.s 6)]⟩,
   ⟨(some 8), some undefA, none, false, .pu (.not (.s 7))⟩,
   ⟨(some 4), some undefA, none, false, .pu (.mov (.s 8))⟩])
 (.ret))⟩
theorem t73 : trF Try.prog [] [] Try.f73 = some m73 := by kernel_rfl
/-- slices.Clone[[]int,int] [] -/
def m83 : MFun := ⟨8, [], [.mov (.s 2)],
 .seq (.ops [⟨(some 2), some undefA, none, false, .pu (.mov (.c (.nilS)))⟩])
 (.seq (.seq (.ops [⟨(some 3), some undefA, none, false, .pu (.mov (.s 0))⟩,
   ⟨(some 4), some undefA, none, false, .pu (.isnil false (.s 3))⟩])
 (.cond (.s 4) (.seq (.ops [⟨(some 2), some undefA, none, false, .pu (.mov (.c (.nilS)))⟩])
  (.ret))
 (.skip)))
 (.seq (.ops [⟨(some 5), some undefA, none, false, .ha (.blds 1 0 [.int .i64 0] [])⟩,
   ⟨(some 6), some undefA, none, false, .pu (.mov (.s 0))⟩,
   ⟨(some 7), some undefA, none, false, .ha (.app 1 (.s 5) (.s 6))⟩,
   ⟨(some 2), some undefA, none, false, .pu (.mov (.s 7))⟩])
 (.ret)))⟩
theorem t83 : trF Try.prog [] [] Try.f83 = some m83 := by kernel_rfl
/-- slices.IndexFunc[[]int,int] [loop [0, 1, 7, 8]] -/
def m87 : MFun := ⟨19, [], [.mov (.s 4)],
 .seq (.ops [⟨(some 4), some undefA, none, false, .pu (.mov (.c (.int .i64 0)))⟩])
 (.seq (.seq (.ops [⟨(some 6), some undefA, none, false, .pu (.mov (.s 0))⟩,
   ⟨(some 7), some undefA, none, false, .pu (.len (.s 6))⟩,
   ⟨(some 8), some undefA, none, false, .pu (.mov (.c (.int .i64 0)))⟩])
 (.block 0 (.loop (.seq (.ops [⟨(some 9), some undefA, none, false, .pu (.bin .lss (.s 8) (.s 7))⟩])
   (.seq (.cond (.s 9) (.skip)
   (.exit 0))
   (.seq (.block 1 (.seq (.ops [⟨(some 10), some undefA, none, false, .pu (.mov (.s 8))⟩,
      ⟨(some 5), some undefA, none, false, .pu (.mov (.s 10))⟩])
    (.seq (.ops [⟨(some 11), some undefA, none, false, .pu (.mov (.s 1))⟩,
      ⟨(some 12), some undefA, none, false, .pu (.mov (.s 0))⟩,
      ⟨(some 13), some undefA, none, false, .pu (.mov (.s 5))⟩,
      ⟨(some 14), some undefA, none, false, .pu (.idx 1 (.s 12) (.s 13))⟩,
      ⟨(some 15), some undefA, none, false, .ld (.ld 1 false (.s 14))⟩,
      ⟨(some 16), some undefA, none, false, .callv (.s 11) [(.s 15)]⟩])
    (.cond (.s 16) (.seq (.ops [⟨(some 17), some undefA, none, false, .pu (.mov (.s 5))⟩,
       ⟨(some 4), some undefA, none, false, .pu (.mov (.s 17))⟩])
     (.ret))
    (.skip)))))
   (.ops [⟨(some 18), some undefA, none, false, .pu (.bin .add (.s 8) (.c (.int .i64 1)))⟩,
     ⟨(some 8), some undefA, none, false, .pu (.mov (.s 18))⟩])))))))
 (.seq (.ops [⟨(some 4), some undefA, none, false, .pu (.mov (.c (.int .i64 (-1))))⟩])
 (.ret)))⟩
theorem t87 : trF Try.prog [] [] Try.f87 = some m87 := by kernel_rfl
/-- (selion/wish.wished).holder [] -/
def m89 : MFun := ⟨9, [2], [.mov (.s 4)],
 .seq (.ops [⟨(some 2), some (.junk), none, false, .pu (.bnew (.s 0))⟩,
   ⟨(some 4), some undefA, none, false, .pu (.mov (.c (.int .i64 0)))⟩])
 (.seq (.ops [⟨(some 5), some undefA, none, false, .pu (.badr none 2)⟩,
   ⟨(some 6), some undefA, none, false, .pu (.bget (some 5) 2 2 1 false)⟩,
   ⟨(some 7), some undefA, none, false, .pu (.mov (.s 1))⟩,
   ⟨(some 8), some undefA, none, false, .call 94 [(.s 6), (.s 7)]⟩,
   ⟨(some 4), some undefA, none, false, .pu (.mov (.s 8))⟩])
 (.ret))⟩
theorem t89 : trF Try.prog [2] [] Try.f89 = some m89 := by kernel_rfl
/-- slices.DeleteFunc[[]int,int] [loop [0, 1, 5, 6]] -/
def m90 : MFun := ⟨42, [], [.mov (.s 4)],
 .seq (.ops [⟨(some 4), some undefA, none, false, .pu (.mov (.c (.nilS)))⟩])
 (.seq (.ops [⟨(some 8), some undefA, none, false, .pu (.mov (.s 0))⟩,
   ⟨(some 9), some undefA, none, false, .pu (.mov (.s 1))⟩,
   ⟨(some 10), some undefA, none, false, .call 87 [(.s 8), (.s 9)]⟩,
   ⟨(some 5), some undefA, none, false, .pu (.mov (.s 10))⟩])
 (.seq (.seq (.ops [⟨(some 11), some undefA, none, false, .pu (.mov (.s 5))⟩,
   ⟨(some 12), some undefA, none, false, .pu (.bin .eql (.s 11) (.c (.int .i64 (-1))))⟩])
 (.cond (.s 12) (.seq (.ops [⟨(some 13), some undefA, none, false, .pu (.mov (.s 0))⟩,
    ⟨(some 4), some undefA, none, false, .pu (.mov (.s 13))⟩])
  (.ret))
 (.skip)))
 (.seq (.seq (.ops [⟨(some 14), some undefA, none, false, .pu (.mov (.s 5))⟩,
   ⟨(some 15), some undefA, none, false, .pu (.bin .add (.s 14) (.c (.int .i64 1)))⟩,
   ⟨(some 6), some undefA, none, false, .pu (.mov (.s 15))⟩])
 (.block 0 (.loop (.seq (.seq (.ops [⟨(some 16), some undefA, none, false, .pu (.mov (.s 6))⟩,
     ⟨(some 17), some undefA, none, false, .pu (.mov (.s 0))⟩,
     ⟨(some 18), some undefA, none, false, .pu (.len (.s 17))⟩,
     ⟨(some 19), some undefA, none, false, .pu (.bin .lss (.s 16) (.s 18))⟩])
   (.cond (.s 19) (.skip)
   (.exit 0)))
   (.seq (.block 1 (.seq (.ops [⟨(some 22), some undefA, none, false, .pu (.mov (.s 0))⟩,
      ⟨(some 23), some undefA, none, false, .pu (.mov (.s 6))⟩,
      ⟨(some 24), some undefA, none, false, .pu (.idx 1 (.s 22) (.s 23))⟩,
      ⟨(some 25), some undefA, none, false, .ld (.ld 1 false (.s 24))⟩,
      ⟨(some 7), some undefA, none, false, .pu (.mov (.s 25))⟩])
    (.seq (.ops [⟨(some 26), some undefA, none, false, .pu (.mov (.s 1))⟩,
      ⟨(some 27), some undefA, none, false, .pu (.mov (.s 7))⟩,
      ⟨(some 28), some undefA, none, false, .callv (.s 26) [(.s 27)]⟩,
      ⟨(some 29), some undefA, none, false, .pu (.not (.s 28))⟩])
    (.cond (.s 29) (.seq (.ops [⟨(some 30), some undefA, none, false, .pu (.mov (.s 0))⟩,
       ⟨(some 31), some undefA, none, false, .pu (.mov (.s 5))⟩,
       ⟨(some 32), some undefA, none, false, .pu (.mov (.s 7))⟩,
       ⟨(some 33), some undefA, none, false, .pu (.idx 1 (.s 30) (.s 31))⟩,
       ⟨none, some undefA, none, false, .ha (.st 1 (.s 33) (.s 32))⟩])
     (.ops [⟨(some 34), some undefA, none, false, .pu (.mov (.s 5))⟩,
       ⟨(some 35), some undefA, none, false, .pu (.bin .add (.s 34) (.c (.int .i64 1)))⟩,
       ⟨(some 5), some undefA, none, false, .pu (.mov (.s 35))⟩]))
    (.skip)))))
   (.ops [⟨(some 20), some undefA, none, false, .pu (.mov (.s 6))⟩,
     ⟨(some 21), some undefA, none, false, .pu (.bin .add (.s 20) (.c (.int .i64 1)))⟩,
     ⟨(some 6), some undefA, none, false, .pu (.mov (.s 21))⟩]))))))
 (.seq (.ops [⟨(some 36), some undefA, none, false, .pu (.mov (.s 0))⟩,
   ⟨(some 37), some undefA, none, false, .pu (.mov (.s 5))⟩,
   ⟨(some 38), some undefA, none, false, .pu (.slc 1 (.s 36) (some (.s 37)) none none)⟩,
   ⟨none, some undefA, none, false, .ha (.clr 1 [.int .i64 0] (.s 38))⟩])
 (.seq (.ops [⟨(some 39), some undefA, none, false, .pu (.mov (.s 0))⟩,
   ⟨(some 40), some undefA, none, false, .pu (.mov (.s 5))⟩,
   ⟨(some 41), some undefA, none, false, .pu (.slc 1 (.s 39) none (some (.s 40)) none)⟩,
   ⟨(some 4), some undefA, none, false, .pu (.mov (.s 41))⟩])
 (.ret))))))⟩
theorem t90 : trF Try.prog [] [] Try.f90 = some m90 := by kernel_rfl
/-- selion/wish.without$1 [] -/
def m91 : MFun := ⟨7, [], [.mov (.s 3)],
 .seq (.ops [⟨(some 3), some undefA, none, false, .pu (.mov (.c (.bool false)))⟩])
 (.seq (.ops [⟨(some 4), some undefA, none, false, .pu (.mov (.s 0))⟩,
   ⟨(some 5), some undefA, none, false, .ld (.ld 1 false (.s 1))⟩,
   ⟨(some 6), some undefA, none, false, .pu (.bin .eql (.s 4) (.s 5))⟩,
   ⟨(some 3), some undefA, none, false, .pu (.mov (.s 6))⟩])
 (.ret))⟩
theorem t91 : trF Try.prog [] [] Try.f91 = some m91 := by kernel_rfl
/-- (selion/wish.wished).serve [] -/
def m92 : MFun := ⟨15, [], [.mov (.s 4)],
 .seq (.ops [⟨(some 2), some undefA, none, false, .ha (.newv (.s 0))⟩,
   ⟨(some 4), some undefA, none, false, .pu (.mov (.c (.bool false)))⟩])
 (.seq (.ops [⟨(some 7), some undefA, none, false, .pu (.fad 0 (.s 2))⟩,
   ⟨(some 8), some undefA, none, false, .pu (.fad 0 (.s 7))⟩,
   ⟨(some 9), some undefA, none, false, .ld (.ld 1 false (.s 8))⟩,
   ⟨(some 10), some undefA, none, false, .ha (.mks 1 [.bool false] (.s 9) (.s 9))⟩,
   ⟨(some 5), some undefA, none, false, .ha (.newv (.c (.nilS)))⟩,
   ⟨none, some undefA, none, false, .ha (.st 1 (.s 5) (.s 10))⟩])
 (.seq (.ops [⟨(some 6), some undefA, none, false, .ha (.newv (.c (.nilF)))⟩])
 (.seq (.ops [⟨(some 11), some undefA, none, false, .pu (.mkf 101 [(.s 2), (.s 5), (.s 6)])⟩,
   ⟨none, some undefA, none, false, .ha (.st 1 (.s 6) (.s 11))⟩])
 (.seq (.ops [⟨(some 12), some undefA, none, false, .ld (.ld 1 false (.s 6))⟩,
   ⟨(some 13), some undefA, none, false, .pu (.mov (.s 1))⟩,
   ⟨(some 14), some undefA, none, false, .callv (.s 12) [(.s 13)]⟩,
   ⟨(some 4), some undefA, none, false, .pu (.mov (.s 14))⟩])
 (.ret)))))⟩
theorem t92 : trF Try.prog [] [] Try.f92 = some m92 := by kernel_rfl
/-- slices.Repeat[[]int,int] [loop [7, 8]] -/
def m93 : MFun := ⟨48, [], [.mov (.s 4)],
 .seq (.ops [⟨(some 4), some undefA, none, false, .pu (.mov (.c (.nilS)))⟩])
 (.seq (.seq (.ops [⟨(some 9), some undefA, none, false, .pu (.mov (.s 1))⟩,
   ⟨(some 10), some undefA, none, false, .pu (.bin .lss (.s 9) (.c (.int .i64 0)))⟩])
 (.cond (.s 10) (.ops [⟨(some 11), some undefA, none, false, .pu (.fail)⟩,
    ⟨none, some undefA, none, false, .pu (.fail)⟩])
 (.skip)))
 (.seq (.ops [⟨(some 13), some undefA, none, false, .pu (.mov (.s 0))⟩,
   ⟨(some 14), some undefA, none, false, .pu (.len (.s 13))⟩,
   ⟨(some 15), some undefA, none, false, .pu (.conv .u64 (.s 14))⟩,
   ⟨(some 16), some undefA, none, false, .pu (.mov (.s 1))⟩,
   ⟨(some 17), some undefA, none, false, .pu (.conv .u64 (.s 16))⟩,
   ⟨(some 18), some undefA, none, false, .call 102 [(.s 15), (.s 17)]⟩,
   ⟨(some 12), some undefA, none, false, .pu (.mov (.s 18))⟩,
   ⟨(some 19), some undefA, none, false, .pu (.extr 0 (.s 12))⟩,
   ⟨(some 20), some undefA, none, false, .pu (.extr 1 (.s 12))⟩,
   ⟨(some 5), some undefA, none, false, .pu (.mov (.s 19))⟩,
   ⟨(some 6), some undefA, none, false, .pu (.mov (.s 20))⟩])
 (.seq (.seq (.ops [⟨(some 21), some undefA, none, false, .pu (.mov (.s 5))⟩,
   ⟨(some 22), some undefA, none, false, .pu (.bin .gtr (.s 21) (.c (.int .u64 0)))⟩,
   ⟨(some 23), some undefA, none, false, .pu (.mov (.s 22))⟩,
   ⟨(some 24), some undefA, (some (23, false)), false, .pu (.mov (.s 6))⟩,
   ⟨(some 25), some undefA, (some (23, false)), false, .pu (.bin .gtr (.s 24) (.c (.int .u64 9223372036854775807)))⟩,
   ⟨(some 26), some undefA, none, false, .pu (.pick (.s 23) (.c (.bool true)) (.s 25))⟩])
 (.cond (.s 26) (.ops [⟨(some 27), some undefA, none, false, .pu (.fail)⟩,
    ⟨none, some undefA, none, false, .pu (.fail)⟩])
 (.skip)))
 (.seq (.ops [⟨(some 28), some undefA, none, false, .pu (.mov (.s 6))⟩,
   ⟨(some 29), some undefA, none, false, .pu (.conv .i64 (.s 28))⟩,
   ⟨(some 30), some undefA, none, false, .ha (.mks 1 [.int .i64 0] (.s 29) (.s 29))⟩,
   ⟨(some 7), some undefA, none, false, .pu (.mov (.s 30))⟩])
 (.seq (.ops [⟨(some 31), some undefA, none, false, .pu (.mov (.s 7))⟩,
   ⟨(some 32), some undefA, none, false, .pu (.mov (.s 0))⟩,
   ⟨(some 33), some undefA, none, false, .ha (.cpy 1 (.s 31) (.s 32))⟩,
   ⟨(some 8), some undefA, none, false, .pu (.mov (.s 33))⟩])
 (.seq (.block 0 (.loop (.seq (.seq (.ops [⟨(some 34), some undefA, none, false, .pu (.mov (.s 8))⟩,
     ⟨(some 35), some undefA, none, false, .pu (.mov (.s 7))⟩,
     ⟨(some 36), some undefA, none, false, .pu (.len (.s 35))⟩,
     ⟨(some 37), some undefA, none, false, .pu (.bin .lss (.s 34) (.s 36))⟩])
   (.cond (.s 37) (.skip)
   (.exit 0)))
   (.block 1 (.ops [⟨(some 38), some undefA, none, false, .pu (.mov (.s 8))⟩,
      ⟨(some 39), some undefA, none, false, .pu (.mov (.s 7))⟩,
      ⟨(some 40), some undefA, none, false, .pu (.mov (.s 8))⟩,
      ⟨(some 41), some undefA, none, false, .pu (.slc 1 (.s 39) (some (.s 40)) none none)⟩,
      ⟨(some 42), some undefA, none, false, .pu (.mov (.s 7))⟩,
      ⟨(some 43), some undefA, none, false, .pu (.mov (.s 8))⟩,
      ⟨(some 44), some undefA, none, false, .pu (.slc 1 (.s 42) none (some (.s 43)) none)⟩,
      ⟨(some 45), some undefA, none, false, .ha (.cpy 1 (.s 41) (.s 44))⟩,
      ⟨(some 46), some undefA, none, false, .pu (.bin .add (.s 38) (.s 45))⟩,
      ⟨(some 8), some undefA, none, false, .pu (.mov (.s 46))⟩])))))
 (.seq (.ops [⟨(some 47), some undefA, none, false, .pu (.mov (.s 7))⟩,
   ⟨(some 4), some undefA, none, false, .pu (.mov (.s 47))⟩])
 (.ret))))))))⟩
theorem t93 : trF Try.prog [] [] Try.f93 = some m93 := by kernel_rfl
/-- slices.Index[[]int,int] [loop [0, 1, 7, 8]] -/
def m94 : MFun := ⟨19, [], [.mov (.s 4)],
 .seq (.ops [⟨(some 4), some undefA, none, false, .pu (.mov (.c (.int .i64 0)))⟩])
 (.seq (.seq (.ops [⟨(some 6), some undefA, none, false, .pu (.mov (.s 0))⟩,
   ⟨(some 7), some undefA, none, false, .pu (.len (.s 6))⟩,
   ⟨(some 8), some undefA, none, false, .pu (.mov (.c (.int .i64 0)))⟩])
 (.block 0 (.loop (.seq (.ops [⟨(some 9), some undefA, none, false, .pu (.bin .lss (.s 8) (.s 7))⟩])
   (.seq (.cond (.s 9) (.skip)
   (.exit 0))
   (.seq (.block 1 (.seq (.ops [⟨(some 10), some undefA, none, false, .pu (.mov (.s 8))⟩,
      ⟨(some 5), some undefA, none, false, .pu (.mov (.s 10))⟩])
    (.seq (.ops [⟨(some 11), some undefA, none, false, .pu (.mov (.s 1))⟩,
      ⟨(some 12), some undefA, none, false, .pu (.mov (.s 0))⟩,
      ⟨(some 13), some undefA, none, false, .pu (.mov (.s 5))⟩,
      ⟨(some 14), some undefA, none, false, .pu (.idx 1 (.s 12) (.s 13))⟩,
      ⟨(some 15), some undefA, none, false, .ld (.ld 1 false (.s 14))⟩,
      ⟨(some 16), some undefA, none, false, .pu (.bin .eql (.s 11) (.s 15))⟩])
    (.cond (.s 16) (.seq (.ops [⟨(some 17), some undefA, none, false, .pu (.mov (.s 5))⟩,
       ⟨(some 4), some undefA, none, false, .pu (.mov (.s 17))⟩])
     (.ret))
    (.skip)))))
   (.ops [⟨(some 18), some undefA, none, false, .pu (.bin .add (.s 8) (.c (.int .i64 1)))⟩,
     ⟨(some 8), some undefA, none, false, .pu (.mov (.s 18))⟩])))))))
 (.seq (.ops [⟨(some 4), some undefA, none, false, .pu (.mov (.c (.int .i64 (-1))))⟩])
 (.ret)))⟩
theorem t94 : trF Try.prog [] [] Try.f94 = some m94 := by kernel_rfl
/-- selion/wish.isPlaces$1 [] -/
def m95 : MFun := ⟨11, [], [.mov (.s 3)],
 .seq (.ops [⟨(some 3), some undefA, none, false, .pu (.mov (.c (.bool false)))⟩])
 (.seq (.ops [⟨(some 4), some undefA, none, false, .pu (.mov (.s 0))⟩,
   ⟨(some 5), some undefA, none, false, .pu (.bin .lss (.s 4) (.c (.int .i64 0)))⟩,
   ⟨(some 6), some undefA, none, false, .pu (.mov (.s 5))⟩,
   ⟨(some 7), some undefA, (some (6, false)), false, .pu (.mov (.s 0))⟩,
   ⟨(some 8), some undefA, (some (6, false)), false, .ld (.ld 1 false (.s 1))⟩,
   ⟨(some 9), some undefA, (some (6, false)), false, .pu (.bin .geq (.s 7) (.s 8))⟩,
   ⟨(some 10), some undefA, none, false, .pu (.pick (.s 6) (.c (.bool true)) (.s 9))⟩,
   ⟨(some 3), some undefA, none, false, .pu (.mov (.s 10))⟩])
 (.ret))⟩
theorem t95 : trF Try.prog [] [] Try.f95 = some m95 := by kernel_rfl
/-- (selion/wish.wished).serve$1 [loop [0, 1, 2, 3, 14, 15, 16]] -/
def m101 : MFun := ⟨43, [], [.mov (.s 5)],
 .seq (.ops [⟨(some 5), some undefA, none, false, .pu (.mov (.c (.bool false)))⟩])
 (.seq (.seq (.ops [⟨(some 9), some undefA, none, false, .pu (.fad 0 (.s 1))⟩,
   ⟨(some 10), some undefA, none, false, .pu (.fad 1 (.s 9))⟩,
   ⟨(some 11), some undefA, none, false, .ld (.ld 1 false (.s 10))⟩,
   ⟨(some 12), some undefA, none, false, .pu (.mov (.s 0))⟩,
   ⟨(some 13), some undefA, none, false, .pu (.idx 1 (.s 11) (.s 12))⟩,
   ⟨(some 14), some undefA, none, false, .ld (.ld 1 false (.s 13))⟩,
   ⟨(some 15), some undefA, none, false, .pu (.len (.s 14))⟩,
   ⟨(some 16), some undefA, none, false, .pu (.mov (.c (.int .i64 0)))⟩])
 (.block 0 (.loop (.seq (.ops [⟨(some 17), some undefA, none, false, .pu (.bin .lss (.s 16) (.s 15))⟩])
   (.seq (.cond (.s 17) (.skip)
   (.exit 0))
   (.seq (.block 1 (.seq (.ops [⟨(some 18), some undefA, none, false, .pu (.idx 1 (.s 14) (.s 16))⟩,
      ⟨(some 19), some undefA, none, false, .ld (.ld 1 false (.s 18))⟩,
      ⟨(some 7), some undefA, none, false, .pu (.mov (.s 19))⟩])
    (.seq (.seq (.ops [⟨(some 20), some undefA, none, false, .ld (.ld 1 false (.s 2))⟩,
      ⟨(some 21), some undefA, none, false, .pu (.mov (.s 7))⟩,
      ⟨(some 22), some undefA, none, false, .pu (.idx 1 (.s 20) (.s 21))⟩,
      ⟨(some 23), some undefA, none, false, .ld (.ld 1 false (.s 22))⟩])
    (.cond (.s 23) (.exit 1)
    (.skip)))
    (.seq (.ops [⟨(some 24), some undefA, none, false, .ld (.ld 1 false (.s 2))⟩,
      ⟨(some 25), some undefA, none, false, .pu (.mov (.s 7))⟩,
      ⟨(some 26), some undefA, none, false, .pu (.idx 1 (.s 24) (.s 25))⟩,
      ⟨none, some undefA, none, false, .ha (.st 1 (.s 26) (.c (.bool true)))⟩])
    (.seq (.ops [⟨(some 27), some undefA, none, false, .ld (.ld 3 true (.s 1))⟩,
      ⟨(some 28), some undefA, none, false, .pu (.mov (.s 7))⟩,
      ⟨(some 29), some undefA, none, false, .call 89 [(.s 27), (.s 28)]⟩,
      ⟨(some 8), some undefA, none, false, .pu (.mov (.s 29))⟩])
    (.seq (.ops [⟨(some 30), some undefA, none, false, .pu (.mov (.s 8))⟩,
      ⟨(some 31), some undefA, none, false, .pu (.bin .lss (.s 30) (.c (.int .i64 0)))⟩,
      ⟨(some 32), some undefA, none, false, .pu (.mov (.s 31))⟩,
      ⟨(some 33), some undefA, (some (32, false)), false, .ld (.ld 1 false (.s 3))⟩,
      ⟨(some 34), some undefA, (some (32, false)), false, .pu (.mov (.s 8))⟩,
      ⟨(some 35), some undefA, (some (32, false)), false, .callv (.s 33) [(.s 34)]⟩,
      ⟨(some 36), some undefA, none, false, .pu (.pick (.s 32) (.c (.bool true)) (.s 35))⟩])
    (.cond (.s 36) (.seq (.ops [⟨(some 37), some undefA, none, false, .pu (.fad 2 (.s 1))⟩,
       ⟨(some 38), some undefA, none, false, .ld (.ld 1 false (.s 37))⟩,
       ⟨(some 39), some undefA, none, false, .pu (.mov (.s 0))⟩,
       ⟨(some 40), some undefA, none, false, .pu (.mov (.s 7))⟩,
       ⟨(some 41), some undefA, none, false, .pu (.idx 1 (.s 38) (.s 39))⟩,
       ⟨none, some undefA, none, false, .ha (.st 1 (.s 41) (.s 40))⟩])
     (.seq (.ops [⟨(some 5), some undefA, none, false, .pu (.mov (.c (.bool true)))⟩])
     (.ret)))
    (.skip))))))))
   (.ops [⟨(some 42), some undefA, none, false, .pu (.bin .add (.s 16) (.c (.int .i64 1)))⟩,
     ⟨(some 16), some undefA, none, false, .pu (.mov (.s 42))⟩])))))))
 (.seq (.ops [⟨(some 5), some undefA, none, false, .pu (.mov (.c (.bool false)))⟩])
 (.ret)))⟩
theorem t101 : trF Try.prog [] [] Try.f101 = some m101 := by kernel_rfl
/-- math/bits.Mul [] -/
def m102 : MFun := ⟨30, [], [.mov (.s 4), .mov (.s 5)],
 .seq (.ops [⟨(some 4), some undefA, none, false, .pu (.mov (.c (.int .u64 0)))⟩,
   ⟨(some 5), some undefA, none, false, .pu (.mov (.c (.int .u64 0)))⟩])
 (.seq (.cond (.c (.bool false)) (.seq (.ops [⟨(some 11), some undefA, none, false, .pu (.mov (.s 0))⟩,
    ⟨(some 12), some undefA, none, false, .pu (.conv .u32 (.s 11))⟩,
    ⟨(some 13), some undefA, none, false, .pu (.mov (.s 1))⟩,
    ⟨(some 14), some undefA, none, false, .pu (.conv .u32 (.s 13))⟩,
    ⟨(some 15), some undefA, none, false, .call 107 [(.s 12), (.s 14)]⟩,
    ⟨(some 10), some undefA, none, false, .pu (.mov (.s 15))⟩,
    ⟨(some 16), some undefA, none, false, .pu (.extr 0 (.s 10))⟩,
    ⟨(some 17), some undefA, none, false, .pu (.extr 1 (.s 10))⟩,
    ⟨(some 6), some undefA, none, false, .pu (.mov (.s 16))⟩,
    ⟨(some 7), some undefA, none, false, .pu (.mov (.s 17))⟩])
  (.seq (.ops [⟨(some 18), some undefA, none, false, .pu (.mov (.s 6))⟩,
    ⟨(some 19), some undefA, none, false, .pu (.conv .u64 (.s 18))⟩,
    ⟨(some 20), some undefA, none, false, .pu (.mov (.s 7))⟩,
    ⟨(some 21), some undefA, none, false, .pu (.conv .u64 (.s 20))⟩,
    ⟨(some 4), some undefA, none, false, .pu (.mov (.s 19))⟩,
    ⟨(some 5), some undefA, none, false, .pu (.mov (.s 21))⟩])
  (.ret)))
 (.skip))
 (.seq (.ops [⟨(some 23), some undefA, none, false, .pu (.mov (.s 0))⟩,
   ⟨(some 24), some undefA, none, false, .pu (.mov (.s 1))⟩,
   ⟨(some 25), some undefA, none, false, .call 108 [(.s 23), (.s 24)]⟩,
   ⟨(some 22), some undefA, none, false, .pu (.mov (.s 25))⟩,
   ⟨(some 26), some undefA, none, false, .pu (.extr 0 (.s 22))⟩,
   ⟨(some 27), some undefA, none, false, .pu (.extr 1 (.s 22))⟩,
   ⟨(some 8), some undefA, none, false, .pu (.mov (.s 26))⟩,
   ⟨(some 9), some undefA, none, false, .pu (.mov (.s 27))⟩])
 (.seq (.ops [⟨(some 28), some undefA, none, false, .pu (.mov (.s 8))⟩,
   ⟨(some 29), some undefA, none, false, .pu (.mov (.s 9))⟩,
   ⟨(some 4), some undefA, none, false, .pu (.mov (.s 28))⟩,
   ⟨(some 5), some undefA, none, false, .pu (.mov (.s 29))⟩])
 (.ret))))⟩
theorem t102 : trF Try.prog [] [] Try.f102 = some m102 := by kernel_rfl
/-- math/bits.Mul32 [] -/
def m107 : MFun := ⟨17, [], [.mov (.s 4), .mov (.s 5)],
 .seq (.ops [⟨(some 4), some undefA, none, false, .pu (.mov (.c (.int .u32 0)))⟩,
   ⟨(some 5), some undefA, none, false, .pu (.mov (.c (.int .u32 0)))⟩])
 (.seq (.ops [⟨(some 7), some undefA, none, false, .pu (.mov (.s 0))⟩,
   ⟨(some 8), some undefA, none, false, .pu (.conv .u64 (.s 7))⟩,
   ⟨(some 9), some undefA, none, false, .pu (.mov (.s 1))⟩,
   ⟨(some 10), some undefA, none, false, .pu (.conv .u64 (.s 9))⟩,
   ⟨(some 11), some undefA, none, false, .pu (.bin .mul (.s 8) (.s 10))⟩,
   ⟨(some 6), some undefA, none, false, .pu (.mov (.s 11))⟩])
 (.seq (.ops [⟨(some 12), some undefA, none, false, .pu (.mov (.s 6))⟩,
   ⟨(some 13), some undefA, none, false, .pu (.bin .shr (.s 12) (.c (.int .u64 32)))⟩,
   ⟨(some 14), some undefA, none, false, .pu (.conv .u32 (.s 13))⟩,
   ⟨(some 15), some undefA, none, false, .pu (.mov (.s 6))⟩,
   ⟨(some 16), some undefA, none, false, .pu (.conv .u32 (.s 15))⟩,
   ⟨(some 4), some undefA, none, false, .pu (.mov (.s 14))⟩,
   ⟨(some 5), some undefA, none, false, .pu (.mov (.s 16))⟩])
 (.ret)))⟩
theorem t107 : trF Try.prog [] [] Try.f107 = some m107 := by kernel_rfl
/-- math/bits.Mul64 [] -/
def m108 : MFun := ⟨51, [], [.mov (.s 4), .mov (.s 5)],
 .seq (.ops [⟨(some 4), some undefA, none, false, .pu (.mov (.c (.int .u64 0)))⟩,
   ⟨(some 5), some undefA, none, false, .pu (.mov (.c (.int .u64 0)))⟩])
 (.seq (.ops [⟨(some 14), some undefA, none, false, .pu (.mov (.s 0))⟩,
   ⟨(some 15), some undefA, none, false, .pu (.bin .and (.s 14) (.c (.int .u64 4294967295)))⟩,
   ⟨(some 6), some undefA, none, false, .pu (.mov (.s 15))⟩])
 (.seq (.ops [⟨(some 16), some undefA, none, false, .pu (.mov (.s 0))⟩,
   ⟨(some 17), some undefA, none, false, .pu (.bin .shr (.s 16) (.c (.int .u64 32)))⟩,
   ⟨(some 7), some undefA, none, false, .pu (.mov (.s 17))⟩])
 (.seq (.ops [⟨(some 18), some undefA, none, false, .pu (.mov (.s 1))⟩,
   ⟨(some 19), some undefA, none, false, .pu (.bin .and (.s 18) (.c (.int .u64 4294967295)))⟩,
   ⟨(some 8), some undefA, none, false, .pu (.mov (.s 19))⟩])
 (.seq (.ops [⟨(some 20), some undefA, none, false, .pu (.mov (.s 1))⟩,
   ⟨(some 21), some undefA, none, false, .pu (.bin .shr (.s 20) (.c (.int .u64 32)))⟩,
   ⟨(some 9), some undefA, none, false, .pu (.mov (.s 21))⟩])
 (.seq (.ops [⟨(some 22), some undefA, none, false, .pu (.mov (.s 6))⟩,
   ⟨(some 23), some undefA, none, false, .pu (.mov (.s 8))⟩,
   ⟨(some 24), some undefA, none, false, .pu (.bin .mul (.s 22) (.s 23))⟩,
   ⟨(some 10), some undefA, none, false, .pu (.mov (.s 24))⟩])
 (.seq (.ops [⟨(some 25), some undefA, none, false, .pu (.mov (.s 7))⟩,
   ⟨(some 26), some undefA, none, false, .pu (.mov (.s 8))⟩,
   ⟨(some 27), some undefA, none, false, .pu (.bin .mul (.s 25) (.s 26))⟩,
   ⟨(some 28), some undefA, none, false, .pu (.mov (.s 10))⟩,
   ⟨(some 29), some undefA, none, false, .pu (.bin .shr (.s 28) (.c (.int .u64 32)))⟩,
   ⟨(some 30), some undefA, none, false, .pu (.bin .add (.s 27) (.s 29))⟩,
   ⟨(some 11), some undefA, none, false, .pu (.mov (.s 30))⟩])
 (.seq (.ops [⟨(some 31), some undefA, none, false, .pu (.mov (.s 11))⟩,
   ⟨(some 32), some undefA, none, false, .pu (.bin .and (.s 31) (.c (.int .u64 4294967295)))⟩,
   ⟨(some 12), some undefA, none, false, .pu (.mov (.s 32))⟩])
 (.seq (.ops [⟨(some 33), some undefA, none, false, .pu (.mov (.s 11))⟩,
   ⟨(some 34), some undefA, none, false, .pu (.bin .shr (.s 33) (.c (.int .u64 32)))⟩,
   ⟨(some 13), some undefA, none, false, .pu (.mov (.s 34))⟩])
 (.seq (.ops [⟨(some 35), some undefA, none, false, .pu (.mov (.s 12))⟩,
   ⟨(some 36), some undefA, none, false, .pu (.mov (.s 6))⟩,
   ⟨(some 37), some undefA, none, false, .pu (.mov (.s 9))⟩,
   ⟨(some 38), some undefA, none, false, .pu (.bin .mul (.s 36) (.s 37))⟩,
   ⟨(some 39), some undefA, none, false, .pu (.bin .add (.s 35) (.s 38))⟩,
   ⟨(some 12), some undefA, none, false, .pu (.mov (.s 39))⟩])
 (.seq (.ops [⟨(some 40), some undefA, none, false, .pu (.mov (.s 7))⟩,
   ⟨(some 41), some undefA, none, false, .pu (.mov (.s 9))⟩,
   ⟨(some 42), some undefA, none, false, .pu (.bin .mul (.s 40) (.s 41))⟩,
   ⟨(some 43), some undefA, none, false, .pu (.mov (.s 13))⟩,
   ⟨(some 44), some undefA, none, false, .pu (.bin .add (.s 42) (.s 43))⟩,
   ⟨(some 45), some undefA, none, false, .pu (.mov (.s 12))⟩,
   ⟨(some 46), some undefA, none, false, .pu (.bin .shr (.s 45) (.c (.int .u64 32)))⟩,
   ⟨(some 47), some undefA, none, false, .pu (.bin .add (.s 44) (.s 46))⟩,
   ⟨(some 4), some undefA, none, false, .pu (.mov (.s 47))⟩])
 (.seq (.ops [⟨(some 48), some undefA, none, false, .pu (.mov (.s 0))⟩,
   ⟨(some 49), some undefA, none, false, .pu (.mov (.s 1))⟩,
   ⟨(some 50), some undefA, none, false, .pu (.bin .mul (.s 48) (.s 49))⟩,
   ⟨(some 5), some undefA, none, false, .pu (.mov (.s 50))⟩])
 (.ret))))))))))))⟩
theorem t108 : trF Try.prog [] [] Try.f108 = some m108 := by kernel_rfl
end Go.Proofs.Ytlmbobbefgcolaa

namespace Go.Proofs.Ytlmbobbefgcolaa
open Go Go.Eng
theorem hmix : Try.prog.follows .mixedOrders = true := by kernel_rfl
def tab : List (Nat × MFun) := [(18, m18), (19, m19), (21, m21), (23, m23), (24, m24), (39, m39), (54, m54), (55, m55), (56, m56), (59, m59), (61, m61), (62, m62), (63, m63), (69, m69), (71, m71), (73, m73), (83, m83), (87, m87), (89, m89), (90, m90), (91, m91), (92, m92), (93, m93), (94, m94), (95, m95), (101, m101), (102, m102), (107, m107), (108, m108)]
theorem tabOK : TabOK Try.prog tab :=
  .cons Try.func18 (by kernel_rfl) t18 <| .cons Try.func19 (by kernel_rfl) t19 <| .cons Try.func21 (by kernel_rfl) t21 <| .cons Try.func23 (by kernel_rfl) t23 <| .cons Try.func24 (by kernel_rfl) t24 <| .cons Try.func39 (by kernel_rfl) t39 <| .cons Try.func54 (by kernel_rfl) t54 <| .cons Try.func55 (by kernel_rfl) t55 <| .cons Try.func56 (by kernel_rfl) t56 <| .cons Try.func59 (by kernel_rfl) t59 <| .cons Try.func61 (by kernel_rfl) t61 <| .cons Try.func62 (by kernel_rfl) t62 <| .cons Try.func63 (by kernel_rfl) t63 <| .cons Try.func69 (by kernel_rfl) t69 <| .cons Try.func71 (by kernel_rfl) t71 <| .cons Try.func73 (by kernel_rfl) t73 <| .cons Try.func83 (by kernel_rfl) t83 <| .cons Try.func87 (by kernel_rfl) t87 <| .cons Try.func89 (by kernel_rfl) t89 <| .cons Try.func90 (by kernel_rfl) t90 <| .cons Try.func91 (by kernel_rfl) t91 <| .cons Try.func92 (by kernel_rfl) t92 <| .cons Try.func93 (by kernel_rfl) t93 <| .cons Try.func94 (by kernel_rfl) t94 <| .cons Try.func95 (by kernel_rfl) t95 <| .cons Try.func101 (by kernel_rfl) t101 <| .cons Try.func102 (by kernel_rfl) t102 <| .cons Try.func107 (by kernel_rfl) t107 <| .cons Try.func108 (by kernel_rfl) t108 <| .nil
def isTrue : Option (AV × AHeap) → Bool
  | some (.bool true, _) => true
  | _ => false
set_option maxRecDepth 100000 in
theorem known_run : isTrue (runF tab 300 14 18 [] []) = true := by kernel_rfl
theorem known (A : AHeap) : ACalls Try.prog 18 [] A (B true) A := by
  cases h : runF tab 300 14 18 [] [] with
  | none => have := known_run; rw [h] at this; cases this
  | some p =>
    obtain ⟨v, A'⟩ := p
    have h1 := known_run
    rw [h] at h1
    have h2 : v = B true := by
      unfold isTrue at h1
      split at h1
      · rename_i e; cases e; rfl
      · cases h1
    subst h2
    exact (runF_ok hmix tabOK 300 14 18 [] [] _ _ h).lift (by simp) rfl A
end Go.Proofs.Ytlmbobbefgcolaa

namespace Go.Proofs.Ytlmbobbefgcolaa
open Go Go.Eng
/-- A number that a machine word holds. -/
abbrev W (a : Int) : Prop := -9223372036854775808 ≤ a ∧ a ≤ 9223372036854775807
/-- The first element's place, or -1. -/
def fpos (g : Int → Bool) (xs : List Int) : Int := match xs.findIdx? g with | some i => i | none => -1
theorem fpos_some {g : Int → Bool} {xs : List Int} {i : Nat} {z : Int} (h : ∀ y ∈ xs.take i, g y = false) (hz : xs[i]? = some z) (hg : g z = true) : fpos g xs = i := by
  have hi : i < xs.length := (List.getElem?_eq_some_iff.1 hz).1
  have he : xs[i] = z := (List.getElem?_eq_some_iff.1 hz).2
  have : xs.findIdx? g = some i := by
    rw [List.findIdx?_eq_some_iff_getElem]
    refine ⟨hi, by rw [he]; exact hg, fun j hj => ?_⟩
    have : xs[j]'(by omega) ∈ xs.take i := by
      rw [List.mem_take_iff_getElem]
      exact ⟨j, by omega, rfl⟩
    simp [h _ this]
  unfold fpos
  rw [this]
theorem fpos_none {g : Int → Bool} {xs : List Int} (h : ∀ y ∈ xs, g y = false) : fpos g xs = -1 := by
  have : xs.findIdx? g = none := by
    rw [List.findIdx?_eq_none_iff]
    exact h
  unfold fpos
  rw [this]
theorem fpos_iff (g : Int → Bool) (xs : List Int) : 0 ≤ fpos g xs ↔ xs.any g = true := by
  unfold fpos
  cases h : xs.findIdx? g with
  | some i =>
    rw [List.findIdx?_eq_some_iff_getElem] at h
    obtain ⟨hi, hg, _⟩ := h
    simp only [Int.natCast_nonneg, true_iff, List.any_eq_true]
    exact ⟨_, List.getElem_mem hi, hg⟩
  | none =>
    rw [List.findIdx?_eq_none_iff] at h
    constructor
    · intro h1; simp at h1
    · intro h1
      rw [List.any_eq_true] at h1
      obtain ⟨x, hx, hg⟩ := h1
      rw [h x hx] at hg; cases hg
theorem take_false {g : Int → Bool} {xs : List Int} {i : Nat} {z : Int} (h : ∀ y ∈ xs.take i, g y = false) (hz : xs[i]? = some z) (hg : g z = false) : ∀ y ∈ xs.take (i + 1), g y = false := by
  intro y hy
  rw [List.take_add_one, hz] at hy
  rcases List.mem_append.1 hy with hy | hy
  · exact h y hy
  · have : y = z := by simpa using hy
    rw [this]; exact hg
theorem c_Index {xs : List Int} {v : AV} {A : AHeap} (hx : L1 A v xs) (hl : xs.length ≤ 1000000) (p : Int) : ACalls Try.prog 94 [v, I p] A (I (fpos (fun y => decide (p = y)) xs)) A := by
  refine acalls hmix Try.func94 (by kernel_rfl) t94 2 rfl (by decide) ?_
  dsimp only [m94]
  simp (maxSteps := 4000000) -implicitDefEqProofs -dsimp (disch := omega) only [↓AW_ops, ↓AW_seq, ↓AW_block, ↓AOps_nil, ↓AOps_pu, on_some, ↓then_normal, pval, rd_S, rd_C, put_S, ↓AW_toLoop, List.replicate_succ, List.replicate_zero, List.set_cons_zero, List.set_cons_succ, List.getElem?_cons_zero, List.getElem?_cons_succ, Option.getD_some, Nat.reduceSub, List.cons_append, List.nil_append, hx.len]
  refine LoopK.by 19 (fun i : Nat => i ≤ xs.length ∧ ∀ y ∈ xs.take i, decide (p = y) = false) (fun i => [(0, v), (1, I p), (7, I xs.length), (8, I i)]) (fun _ => A) (fun i => xs.length - i) 0 ⟨by omega, by simp⟩ rfl (by simp [Has, rd_s]) rfl ?_
  rintro i ⟨hi, he⟩
  by_cases hlt : i < xs.length
  · obtain ⟨z, hz⟩ : ∃ z, xs[i]? = some z := ⟨_, List.getElem?_eq_getElem hlt⟩
    have hlt' : (i : Int) < xs.length := by omega
    by_cases h : p = z
    · simp (maxSteps := 4000000) -implicitDefEqProofs -dsimp (disch := omega) only [↓AW_skip, ↓AW_ops, ↓AW_seq, ↓AW_cond, ↓AW_block, ↓AW_ret, ↓AOps_nil, ↓AOps_pu, ↓AOps_ld, on_some, condB_t, ↓then_normal, ↓then_ret, ↓inBlock_ret, ↓Fin_ret, pval, lval, rd_S, put_S, resV, resL, partA, eq_self, mk, List.foldl_cons, List.foldl_nil, List.replicate_succ, List.replicate_zero, List.set_cons_zero, List.set_cons_succ, List.getElem?_cons_zero, List.getElem?_cons_succ, List.drop_zero, List.take_succ_cons, List.take_nil, Option.getD_some, List.length_cons, List.length_nil, Nat.reduceLeDiff, Nat.zero_add, bin_eql, bin_lss, if_true, if_false, Bool.false_eq_true, decide_true, Go.Eng.e1, hlt', hx.idx hlt, hx.ld0 hz 1 false (by decide), h]
      exact gc_same (by rw [← h, fpos_some he hz (by simp [h])])
    · simp (maxSteps := 4000000) -implicitDefEqProofs -dsimp (disch := omega) only [↓AW_skip, ↓AW_ops, ↓AW_seq, ↓AW_cond, ↓AW_block, ↓AOps_nil, ↓AOps_pu, ↓AOps_ld, on_some, condB_t, condB_f, ↓then_normal, ↓inBlock_normal, pval, lval, rd_S, rd_C, put_S, partA, eq_self, mk, List.foldl_cons, List.foldl_nil, List.replicate_succ, List.replicate_zero, List.set_cons_zero, List.set_cons_succ, List.getElem?_cons_zero, List.getElem?_cons_succ, List.drop_zero, List.take_succ_cons, List.take_nil, Option.getD_some, List.length_cons, List.length_nil, Nat.reduceAdd, Nat.reduceLeDiff, Nat.zero_add, bin_add, bin_eql, bin_lss, w64, if_true, if_false, Bool.false_eq_true, decide_true, decide_false, decide_eq_false_iff_not, Go.Eng.e1, true_and, hlt', hx.idx hlt, hx.ld0 hz 1 false (by decide), h]
      exact ⟨i + 1, ⟨hlt, by simpa using take_false he hz (by simp [h])⟩, by simp [Has, rd_s], by omega⟩
  · have hlt' : ¬ ((i : Int) < xs.length) := by omega
    simp (maxSteps := 4000000) -implicitDefEqProofs -dsimp (disch := omega) only [↓AW_ops, ↓AW_seq, ↓AW_cond, ↓AW_exit, ↓AW_ret, ↓AOps_nil, ↓AOps_pu, on_some, condB_f, ↓then_normal, ↓then_exit, ↓inBlock_exit, ↓Fin_ret, pval, rd_S, rd_C, put_S, resV, resL, eq_self, mk, List.foldl_cons, List.foldl_nil, List.replicate_succ, List.replicate_zero, List.set_cons_zero, List.set_cons_succ, List.getElem?_cons_zero, List.getElem?_cons_succ, Option.getD_some, bin_lss, if_true, decide_false, Int.reduceNeg, hlt']
    rw [List.take_of_length_le (by omega)] at he
    exact gc_same (by rw [fpos_none he])
theorem c_Contains {xs : List Int} {v : AV} {A : AHeap} (hx : L1 A v xs) (hl : xs.length ≤ 1000000) (p : Int) : ACalls Try.prog 71 [v, I p] A (B (decide (p ∈ xs))) A := by
  refine acalls hmix Try.func71 (by kernel_rfl) t71 2 rfl (by decide) ?_
  dsimp only [m71]
  simp (maxSteps := 4000000) -implicitDefEqProofs -dsimp (disch := omega) only [↓AW_ops, ↓AW_seq, ↓AOps_nil, ↓AOps_pu, ↓AOps_call, on_some, ↓then_normal, pval, rd_S, rd_C, put_S, List.replicate_succ, List.replicate_zero, List.set_cons_zero, List.set_cons_succ, List.getElem?_cons_zero, List.getElem?_cons_succ, Option.getD_some, map_c, map_n, Nat.reduceSub, List.cons_append, List.nil_append]
  refine CallK.of (c_Index hx hl p) ?_
  simp (maxSteps := 4000000) -implicitDefEqProofs -dsimp (disch := omega) only [↓AW_ret, ↓AOps_nil, ↓AOps_pu, on_some, extK_same, ↓then_normal, ↓Fin_ret, pval, rd_S, rd_C, put_S, resV, resL, List.replicate_succ, List.replicate_zero, List.set_cons_zero, List.set_cons_succ, List.getElem?_cons_zero, List.getElem?_cons_succ, Option.getD_some, Nat.reduceSub, List.cons_append, List.nil_append, bin_geq]
  refine gc_same ?_
  congr 1
  rw [decide_eq_decide, fpos_iff]
  simp
theorem c_IndexFunc {xs : List Int} {v : AV} {A : AHeap} (hx : L1 A v xs) (hl : xs.length ≤ 1000000) (f : FuncId) (cap : List AV) (g : Int → Bool) (hg : ∀ x ∈ xs, ACalls Try.prog f ([I x] ++ cap) A (B (g x)) A) : ACalls Try.prog 87 [v, .fn f cap] A (I (fpos g xs)) A := by
  refine acalls hmix Try.func87 (by kernel_rfl) t87 2 rfl (by decide) ?_
  dsimp only [m87]
  simp (maxSteps := 4000000) -implicitDefEqProofs -dsimp (disch := omega) only [↓AW_ops, ↓AW_seq, ↓AW_block, ↓AOps_nil, ↓AOps_pu, on_some, ↓then_normal, pval, rd_S, rd_C, put_S, ↓AW_toLoop, List.replicate_succ, List.replicate_zero, List.set_cons_zero, List.set_cons_succ, List.getElem?_cons_zero, List.getElem?_cons_succ, Option.getD_some, Nat.reduceSub, List.cons_append, List.nil_append, hx.len]
  refine LoopK.by 19 (fun i : Nat => i ≤ xs.length ∧ ∀ y ∈ xs.take i, g y = false) (fun i => [(0, v), (1, .fn f cap), (7, I xs.length), (8, I i)]) (fun _ => A) (fun i => xs.length - i) 0 ⟨by omega, by simp⟩ rfl (by simp [Has, rd_s]) rfl ?_
  rintro i ⟨hi, he⟩
  by_cases hlt : i < xs.length
  · obtain ⟨z, hz⟩ : ∃ z, xs[i]? = some z := ⟨_, List.getElem?_eq_getElem hlt⟩
    have hlt' : (i : Int) < xs.length := by omega
    simp (maxSteps := 4000000) -implicitDefEqProofs -dsimp (disch := omega) only [↓AW_skip, ↓AW_ops, ↓AW_seq, ↓AW_cond, ↓AW_block, ↓AOps_nil, ↓AOps_pu, ↓AOps_ld, ↓AOps_callv, on_some, CallF_fn, condB_t, ↓then_normal, pval, lval, rd_S, put_S, partA, eq_self, mk, List.foldl_cons, List.foldl_nil, List.replicate_succ, List.replicate_zero, List.set_cons_zero, List.set_cons_succ, List.getElem?_cons_zero, List.getElem?_cons_succ, List.drop_zero, List.take_succ_cons, List.take_nil, Option.getD_some, map_c, map_n, List.length_cons, List.length_nil, Nat.reduceLeDiff, Nat.zero_add, List.cons_append, List.nil_append, bin_lss, if_true, if_false, Bool.false_eq_true, decide_true, Go.Eng.e1, hlt', hx.idx hlt, hx.ld0 hz 1 false (by decide)]
    refine CallK.of (hg z (List.mem_of_getElem? hz)) ?_
    by_cases h : g z = true
    · simp (maxSteps := 4000000) -implicitDefEqProofs -dsimp (disch := omega) only [↓AW_ops, ↓AW_seq, ↓AW_cond, ↓AW_ret, ↓AOps_nil, ↓AOps_pu, on_some, extK_same, condB_t, ↓then_normal, ↓then_ret, ↓inBlock_ret, ↓Fin_ret, pval, rd_S, put_S, resV, resL, mk, List.foldl_cons, List.foldl_nil, List.replicate_succ, List.replicate_zero, List.set_cons_zero, List.set_cons_succ, List.getElem?_cons_zero, List.getElem?_cons_succ, Option.getD_some, h]
      exact gc_same (by rw [fpos_some he hz h])
    · have h : g z = false := by simpa using h
      simp (maxSteps := 4000000) -implicitDefEqProofs -dsimp (disch := omega) only [↓AW_skip, ↓AW_ops, ↓AW_cond, ↓AOps_nil, ↓AOps_pu, on_some, extK_same, condB_f, ↓then_normal, ↓inBlock_normal, pval, rd_S, rd_C, put_S, eq_self, mk, List.foldl_cons, List.foldl_nil, List.replicate_succ, List.replicate_zero, List.set_cons_zero, List.set_cons_succ, List.getElem?_cons_zero, List.getElem?_cons_succ, Option.getD_some, List.length_cons, List.length_nil, Nat.reduceAdd, Nat.zero_add, bin_add, w64, true_and, h]
      exact ⟨i + 1, ⟨hlt, take_false he hz h⟩, by simp [Has, rd_s], by omega⟩
  · have hlt' : ¬ ((i : Int) < xs.length) := by omega
    simp (maxSteps := 4000000) -implicitDefEqProofs -dsimp (disch := omega) only [↓AW_ops, ↓AW_seq, ↓AW_cond, ↓AW_exit, ↓AW_ret, ↓AOps_nil, ↓AOps_pu, on_some, condB_f, ↓then_normal, ↓then_exit, ↓inBlock_exit, ↓Fin_ret, pval, rd_S, rd_C, put_S, resV, resL, eq_self, mk, List.foldl_cons, List.foldl_nil, List.replicate_succ, List.replicate_zero, List.set_cons_zero, List.set_cons_succ, List.getElem?_cons_zero, List.getElem?_cons_succ, Option.getD_some, bin_lss, if_true, decide_false, Int.reduceNeg, hlt']
    rw [List.take_of_length_le (by omega)] at he
    exact gc_same (by rw [fpos_none he])
theorem c_ContainsFunc {xs : List Int} {v : AV} {A : AHeap} (hx : L1 A v xs) (hl : xs.length ≤ 1000000) (f : FuncId) (cap : List AV) (g : Int → Bool) (hg : ∀ x ∈ xs, ACalls Try.prog f ([I x] ++ cap) A (B (g x)) A) : ACalls Try.prog 69 [v, .fn f cap] A (B (xs.any g)) A := by
  refine acalls hmix Try.func69 (by kernel_rfl) t69 2 rfl (by decide) ?_
  dsimp only [m69]
  simp (maxSteps := 4000000) -implicitDefEqProofs -dsimp (disch := omega) only [↓AW_ops, ↓AW_seq, ↓AOps_nil, ↓AOps_pu, ↓AOps_call, on_some, ↓then_normal, pval, rd_S, rd_C, put_S, List.replicate_succ, List.replicate_zero, List.set_cons_zero, List.set_cons_succ, List.getElem?_cons_zero, List.getElem?_cons_succ, Option.getD_some, map_c, map_n, Nat.reduceSub, List.cons_append, List.nil_append]
  refine CallK.of (c_IndexFunc hx hl f cap g hg) ?_
  simp (maxSteps := 4000000) -implicitDefEqProofs -dsimp (disch := omega) only [↓AW_ret, ↓AOps_nil, ↓AOps_pu, on_some, extK_same, ↓then_normal, ↓Fin_ret, pval, rd_S, rd_C, put_S, resV, resL, List.replicate_succ, List.replicate_zero, List.set_cons_zero, List.set_cons_succ, List.getElem?_cons_zero, List.getElem?_cons_succ, Option.getD_some, Nat.reduceSub, List.cons_append, List.nil_append, bin_geq]
  refine gc_same ?_
  congr 1
  rw [Bool.eq_iff_iff, decide_eq_true_iff, fpos_iff]
/-- The front of a list. -/
theorem Ls_takeS {α : Type} {es : Nat} {e : α → List AV} {H : AHeap} {v : AV} {xs : List α} (h : Ls es e H v xs) (k : Nat) (hk : k ≤ xs.length) : ∃ v', slcA es v none (some (I k)) none = some v' ∧ Ls es e H v' (xs.take k) := by
  rcases h.inv with ⟨rfl, rfl⟩ | ⟨n, off, full, rw, l, rfl, h1, h2, h3⟩
  · have : k = 0 := by simpa using hk
    subst this
    exact ⟨.nilS, by simp [slcA, bnd], ⟨h.he, rfl⟩⟩
  · have hk' : (0 : Int) ≤ k ∧ (k : Int) ≤ xs.length := by omega
    refine ⟨.sl es n off k (full && (k == xs.length)), by simp [slcA, bnd, hk], ⟨h.he, ?_⟩⟩
    have hm : k * es ≤ xs.length * es := Nat.mul_le_mul_right _ hk
    simp only [slCells, cellsAt, h1, if_true]
    rw [if_pos (by omega)]
    simp only [Option.map_some, List.length_take, Nat.min_eq_left hk, Option.some.injEq, Prod.mk.injEq, true_and]
    have h4 : (xs.take k).flatMap e = (xs.flatMap e).take (k * es) := by
      conv => rhs; rw [← List.take_append_drop k xs, List.flatMap_append]
      have h5 := flatMap_length h.he (xs.take k)
      rw [List.length_take, Nat.min_eq_left hk] at h5
      rw [← h5, List.take_left]
    rw [h4, ← h3, List.take_take, Nat.min_eq_left hm]
theorem L1_nil (A : AHeap) : L1 A .nilS [] := ⟨e1_len, rfl⟩
theorem L1_one (A : AHeap) (x : Int) : L1 (A ++ [.cells true [I x]]) (.sl 1 A.length 0 1 true) [x] := ⟨e1_len, by simp [slCells, cellsAt, e1]⟩
theorem ld_mono {A A' : AHeap} (hp : A <+: A') {sz : Nat} {ag : Bool} {p x : AV} (h : ldA sz ag p A = some x) : ldA sz ag p A' = some x := by
  unfold ldA at *
  split at h
  · rename_i n off
    split at h
    · rename_i rw l hn
      simp only [pre_get hp hn]
      exact h
    · cases h
  · cases h
theorem get_new (A : AHeap) (o : AObj) : (A ++ [o])[A.length]? = some o := by simp
theorem set_new (A : AHeap) (o o' : AObj) : (A ++ [o]).set A.length o' = A ++ [o'] := by simp
theorem AccL_ls {α : Type} {es : Nat} {e : α → List AV} {H H1 : AHeap} {v : AV} {xs : List α} (h : AccL es e H H1 v xs) (he : ∀ x, (e x).length = es) : Ls es e H1 v xs := by
  obtain ⟨h1, h2, h3⟩ := h
  refine ⟨he, ?_⟩
  rcases h3 with ⟨h4, rfl⟩ | ⟨h0, n, rfl, h5, h6⟩
  · have : xs = [] := List.eq_nil_of_length_eq_zero h4
    subst this; rfl
  · simp only [slCells, cellsAt, h6, if_true, Nat.zero_add]
    rw [if_pos (by omega)]
    simp only [List.drop_zero, Option.map_some, Option.some.injEq, Prod.mk.injEq, true_and]
    rw [← h2, List.take_length]
/-- Numbers that grow. -/
abbrev Up (l : List Int) : Prop := l.Pairwise (· < ·)
end Go.Proofs.Ytlmbobbefgcolaa

namespace Go.Proofs.Ytlmbobbefgcolaa
open Go Go.Eng
def e0 (x : AV × List Int) : List AV := [x.1]
/-- A list of lists in memory. -/
structure LL (A : AHeap) (v : AV) (ws : List (AV × List Int)) : Prop where
  ls : Ls 1 e0 A v ws
  inn : ∀ x ∈ ws, L1 A x.1 x.2
theorem LL.mono {A A' : AHeap} {v : AV} {ws : List (AV × List Int)} (h : LL A v ws) (hp : A <+: A') : LL A' v ws := ⟨h.ls.mono hp, fun x hx => (h.inn x hx).mono hp⟩
abbrev lists (ws : List (AV × List Int)) : List (List Int) := ws.map Prod.snd
/-- Lists that are not long. -/
def Sz (ws : List (AV × List Int)) : Prop := ws.length ≤ 40 ∧ ∀ x ∈ ws, x.2.length ≤ 40
theorem ld_new (A : AHeap) (x : AV) (l : List AV) : ldA 1 false (.ptr A.length 0) (A ++ [.cells true (x :: l)]) = some x := by
  simp [ldA, partA]
theorem s32 {xs : List Int} {v : AV} {A : AHeap} (hx : L1 A v xs) : ACalls Try.prog 32 [v] A (B (decide ((40 : Int) < xs.length))) A := by
  refine acalls hmix Try.func32 (by kernel_rfl) t32 1 rfl (by decide) ?_
  dsimp only [m32]
  simp (maxSteps := 4000000) -implicitDefEqProofs -dsimp (disch := omega) only [↓AW_ops, ↓AW_seq, ↓AW_ret, ↓AOps_nil, ↓AOps_pu, on_some, ↓then_normal, ↓Fin_ret, pval, rd_S, rd_C, put_S, resV, resL, List.replicate_succ, List.replicate_zero, List.set_cons_zero, List.set_cons_succ, List.getElem?_cons_zero, List.getElem?_cons_succ, Option.getD_some, Nat.reduceSub, List.cons_append, List.nil_append, bin_gtr, hx.len]
  exact gc_same rfl
def longW (ws : List (AV × List Int)) : Prop := (∃ x ∈ ws, (40 : Int) < x.2.length) ∨ (40 : Int) < ws.length
theorem Sz_of {ws : List (AV × List Int)} (h : ¬ longW ws) : Sz ws := by
  refine ⟨?_, fun x hx => ?_⟩
  · have : ¬ (40 : Int) < ws.length := fun h1 => h (.inr h1)
    omega
  · have : ¬ (40 : Int) < x.2.length := fun h1 => h (.inl ⟨x, hx, h1⟩)
    omega
instance (ws : List (AV × List Int)) : Decidable (longW ws) := by unfold longW; exact inferInstance
theorem s17 {P : Int} {ws : List (AV × List Int)} {v : AV} {A : AHeap} (hw : LL A v ws) (hl : ws.length ≤ 9223372036854775807) : ACalls Try.prog 17 [.agg [I P, v]] A (B (decide (longW ws))) A := by
  refine acalls hmix Try.func17 (by kernel_rfl) t17 1 rfl (by decide) ?_
  dsimp only [m17]
  simp (maxSteps := 4000000) -implicitDefEqProofs -dsimp (disch := omega) only [↓AW_ops, ↓AW_seq, ↓AW_block, ↓AOps_nil, ↓AOps_pu, on_some, ↓then_normal, pval, rd_S, rd_C, put_S, ↓AW_toLoop, AV.cells?, List.replicate_succ, List.replicate_zero, List.set_cons_zero, List.set_cons_succ, List.getElem?_cons_zero, Option.getD_some, Nat.reduceSub, List.cons_append, List.nil_append]
  refine LoopK.by 21 (fun i : Nat => i ≤ ws.length ∧ ∀ x ∈ ws.take i, ¬ (40 : Int) < x.2.length) (fun i => [(1, .agg [I P, v]), (3, I i)]) (fun _ => A) (fun i => ws.length - i) 0 ⟨by omega, by simp⟩ rfl (by simp [Has, rd_s]) rfl ?_
  rintro i ⟨hi, he⟩
  by_cases hlt : i < ws.length
  · obtain ⟨x, hz⟩ : ∃ z, ws[i]? = some z := ⟨_, List.getElem?_eq_getElem hlt⟩
    have hlt' : (i : Int) < ws.length := by omega
    have hm := List.mem_of_getElem? hz
    simp (maxSteps := 4000000) -implicitDefEqProofs -dsimp (disch := omega) only [↓AW_skip, ↓AW_ops, ↓AW_seq, ↓AW_cond, ↓AW_block, ↓AOps_nil, ↓AOps_pu, ↓AOps_ld, ↓AOps_call, on_some, condB_t, ↓then_normal, pval, lval, rd_S, put_S, chkd, isAdr, bgot, AV.cells?, partA, eq_self, mk, List.foldl_cons, List.foldl_nil, List.replicate_succ, List.replicate_zero, List.set_cons_zero, List.set_cons_succ, List.getElem?_cons_zero, List.getElem?_cons_succ, List.drop_zero, List.drop_succ_cons, List.take_succ_cons, List.take_nil, Option.getD_some, map_c, map_n, List.length_cons, List.length_nil, Nat.reduceAdd, Nat.reduceLeDiff, Nat.zero_add, bin_lss, if_true, if_false, Bool.false_eq_true, decide_true, hlt', hw.ls.len, hw.ls.idx hlt, hw.ls.ld0 hz 1 false (by decide), e0]
    refine CallK.of (s32 (hw.inn x hm)) ?_
    by_cases h : (40 : Int) < x.2.length
    · simp (maxSteps := 4000000) -implicitDefEqProofs -dsimp (disch := omega) only [↓AW_ops, ↓AW_seq, ↓AW_cond, ↓AW_ret, ↓AOps_nil, ↓AOps_pu, on_some, extK_same, condB_t, ↓then_normal, ↓then_ret, ↓inBlock_ret, ↓Fin_ret, pval, rd_S, rd_C, put_S, resV, resL, mk, List.foldl_cons, List.foldl_nil, List.replicate_succ, List.replicate_zero, List.set_cons_zero, List.set_cons_succ, List.getElem?_cons_zero, List.getElem?_cons_succ, Option.getD_some, decide_true, h]
      exact gc_same (by rw [decide_eq_true (show longW ws from .inl ⟨x, hm, h⟩)])
    · simp (maxSteps := 4000000) -implicitDefEqProofs -dsimp (disch := omega) only [↓AW_skip, ↓AW_ops, ↓AW_cond, ↓AOps_nil, ↓AOps_pu, on_some, extK_same, condB_f, ↓then_normal, ↓inBlock_normal, pval, rd_S, rd_C, put_S, eq_self, mk, List.foldl_cons, List.foldl_nil, List.replicate_succ, List.replicate_zero, List.set_cons_zero, List.set_cons_succ, List.getElem?_cons_zero, List.getElem?_cons_succ, Option.getD_some, List.length_cons, List.length_nil, Nat.reduceAdd, Nat.zero_add, bin_add, w64, decide_false, true_and, h]
      refine ⟨i + 1, ⟨hlt, fun y hy => ?_⟩, by simp [Has, rd_s], by omega⟩
      rw [List.take_add_one, hz] at hy
      rcases List.mem_append.1 hy with hy | hy
      · exact he y hy
      · have : y = x := by simpa using hy
        rw [this]; exact h
  · have hlt' : ¬ ((i : Int) < ws.length) := by omega
    simp (maxSteps := 4000000) -implicitDefEqProofs -dsimp (disch := omega) only [↓AW_ops, ↓AW_seq, ↓AW_cond, ↓AW_exit, ↓AW_ret, ↓AOps_nil, ↓AOps_pu, on_some, condB_f, ↓then_normal, ↓then_exit, ↓inBlock_exit, ↓Fin_ret, pval, rd_S, rd_C, put_S, resV, resL, chkd, isAdr, bgot, AV.cells?, partA, eq_self, mk, List.foldl_cons, List.foldl_nil, List.replicate_succ, List.replicate_zero, List.set_cons_zero, List.set_cons_succ, List.getElem?_cons_zero, List.getElem?_cons_succ, List.drop_zero, List.drop_succ_cons, List.take_succ_cons, List.take_nil, Option.getD_some, List.length_cons, List.length_nil, Nat.reduceAdd, Nat.reduceLeDiff, Nat.zero_add, bin_lss, bin_gtr, if_true, if_false, Bool.false_eq_true, decide_false, hlt', hw.ls.len]
    rw [List.take_of_length_le (by omega)] at he
    refine gc_same ?_
    congr 1
    rw [decide_eq_decide]
    constructor
    · exact fun h => .inr h
    · rintro (⟨x, hx, h⟩ | h)
      · exact absurd h (he x hx)
      · exact h
def inP (P : Int) (p : Int) : Prop := 0 ≤ p ∧ p < P
instance (P p : Int) : Decidable (inP P p) := by unfold inP; exact inferInstance
theorem s95 {n p : Int} {A : AHeap} {a o : Nat} (h : ldA 1 false (.ptr a o) A = some (I n)) : ACalls Try.prog 95 [I p, .ptr a o] A (B (!decide (inP n p))) A := by
  refine acalls hmix Try.func95 (by kernel_rfl) t95 2 rfl (by decide) ?_
  by_cases h1 : p < 0
  · dsimp only [m95]
    simp (maxSteps := 4000000) -implicitDefEqProofs -dsimp (disch := omega) only [↓AW_ops, ↓AW_seq, ↓AW_ret, ↓AOps_nil, ↓AOps_pu, ↓AOps_guard, on_some, guardB_tf, skipS_some, ↓then_normal, ↓Fin_ret, pval, rd_S, rd_C, put_S, resV, resL, eq_self, List.replicate_succ, List.replicate_zero, List.set_cons_zero, List.set_cons_succ, List.getElem?_cons_zero, List.getElem?_cons_succ, Option.getD_some, Nat.reduceSub, List.cons_append, List.nil_append, bin_lss, if_true, decide_true, h1]
    exact gc_same (by rw [decide_eq_false (fun h2 : inP n p => by have := h2.1; omega)]; rfl)
  · dsimp only [m95]
    simp (maxSteps := 4000000) -implicitDefEqProofs -dsimp (disch := omega) only [↓AW_ops, ↓AW_seq, ↓AW_ret, ↓AOps_nil, ↓AOps_pu, ↓AOps_ld, ↓AOps_guard, on_some, guardB_ff, ↓then_normal, ↓Fin_ret, pval, lval, rd_S, rd_C, put_S, resV, resL, List.replicate_succ, List.replicate_zero, List.set_cons_zero, List.set_cons_succ, List.getElem?_cons_zero, List.getElem?_cons_succ, Option.getD_some, Nat.reduceSub, List.cons_append, List.nil_append, bin_lss, bin_geq, if_false, Bool.false_eq_true, decide_false, h1, h]
    refine gc_same ?_
    have : inP n p ↔ ¬ n ≤ p := by unfold inP; omega
    congr 1
    rw [Bool.eq_iff_iff]
    simp [this]
theorem s73 {xs : List Int} {v : AV} {A : AHeap} (hx : L1 A v xs) (hl : xs.length ≤ 1000000) (n : Int) : ACalls Try.prog 73 [v, I n] A (B (decide (∀ p ∈ xs, inP n p))) A := by
  refine acalls hmix Try.func73 (by kernel_rfl) t73 2 rfl (by decide) ?_
  dsimp only [m73]
  simp (maxSteps := 4000000) -implicitDefEqProofs -dsimp (disch := omega) only [↓AW_ops, ↓AW_seq, ↓AOps_nil, ↓AOps_pu, ↓AOps_ha, ↓AOps_call, on_some, extK_app, ↓then_normal, pval, hval, rd_S, rd_C, put_S, AV.cells?, List.replicate_succ, List.replicate_zero, List.set_cons_zero, List.set_cons_succ, List.getElem?_cons_zero, List.getElem?_cons_succ, Option.getD_some, map_c, map_n, Nat.reduceSub, List.cons_append, List.nil_append]
  refine CallK.of (c_ContainsFunc (hx.mono (pre_app A [.cells true [I n]])) hl 95 [.ptr A.length 0] (fun p => !decide (inP n p)) (fun x _ => s95 (ld_new A _ _))) ?_
  simp (maxSteps := 4000000) -implicitDefEqProofs -dsimp (disch := omega) only [↓AW_ret, ↓AOps_nil, ↓AOps_pu, on_some, extK_same, ↓then_normal, ↓Fin_ret, pval, rd_S, put_S, resV, resL, List.replicate_succ, List.replicate_zero, List.set_cons_zero, List.set_cons_succ, List.getElem?_cons_zero, List.getElem?_cons_succ, Option.getD_some, Nat.reduceSub, List.cons_append, List.nil_append]
  refine gc_val (pre_app _ _) ?_
  simp only [ren]
  congr 1
  rw [Bool.eq_iff_iff]
  simp
/-- The error of a list of places. -/
def lE (P : Int) (l : List Int) : Int := if ∀ p ∈ l, inP P p then (if l.Nodup then 0 else 6) else 1
def lsE (P : Int) : List (List Int) → Int
  | [] => 0
  | l :: r => if lE P l = 0 then lsE P r else lE P l
/-- The error of wishes. -/
def vW (P : Int) (ls : List (List Int)) : Int := if ¬ (1 ≤ P ∧ P ≤ 7) then 1 else if 7 < ls.length then 3 else lsE P ls
theorem lsE_append (P : Int) : ∀ (a b : List (List Int)), lsE P (a ++ b) = if lsE P a = 0 then lsE P b else lsE P a
  | [], b => by simp [lsE]
  | l :: a, b => by
    by_cases h : lE P l = 0 <;> simp [lsE, h, lsE_append P a b]
theorem lsE_ok {P : Int} {ls : List (List Int)} {i : Nat} {l : List Int} (hl : ls[i]? = some l) (h : lsE P (ls.take i) = 0) (h2 : lE P l = 0) : lsE P (ls.take (i + 1)) = 0 := by
  rw [List.take_add_one, hl, lsE_append, if_pos h]
  simp [lsE, h2]
theorem lsE_bad {P : Int} {ls : List (List Int)} {i : Nat} {l : List Int} (hl : ls[i]? = some l) (h : lsE P (ls.take i) = 0) (h2 : lE P l ≠ 0) : lsE P ls = lE P l := by
  have hi : i < ls.length := (List.getElem?_eq_some_iff.1 hl).1
  have e : ls = ls.take i ++ l :: ls.drop (i + 1) := by
    have := (List.getElem?_eq_some_iff.1 hl).2
    rw [← this, List.getElem_cons_drop, List.take_append_drop]
  rw [e, lsE_append, if_pos h]
  simp [lsE, h2]
theorem ws_get {ws : List (AV × List Int)} {i : Nat} {x : AV × List Int} (hz : ws[i]? = some x) : (lists ws)[i]? = some x.2 := by
  rw [List.getElem?_map, hz]; rfl
theorem nodup_take {α : Type} {l : List α} {k : Nat} {p : α} (hp : l[k]? = some p) (h : (l.take k).Nodup) (hn : p ∉ l.take k) : (l.take (k + 1)).Nodup := by
  rw [List.take_add_one, hp, Option.toList_some, List.nodup_append]
  refine ⟨h, by simp, fun a ha b hb => ?_⟩
  have : b = p := by simpa using hb
  subst this
  rintro rfl
  exact hn ha
theorem not_nodup {α : Type} {l : List α} {k : Nat} {p : α} (hp : l[k]? = some p) (hn : p ∈ l.take k) : ¬ l.Nodup := by
  intro h
  have hi : k < l.length := (List.getElem?_eq_some_iff.1 hp).1
  have e : l = l.take k ++ p :: l.drop (k + 1) := by
    have := (List.getElem?_eq_some_iff.1 hp).2
    rw [← this, List.getElem_cons_drop, List.take_append_drop]
  rw [e, List.nodup_append] at h
  exact h.2.2 p hn p (by simp) rfl
theorem vW_P {P : Int} {ls : List (List Int)} (h : ¬ (1 ≤ P ∧ P ≤ 7)) : vW P ls = 1 := by unfold vW; rw [if_pos h]
theorem vW_n {P : Int} {ls : List (List Int)} (h : 1 ≤ P ∧ P ≤ 7) (h2 : 7 < ls.length) : vW P ls = 3 := by unfold vW; rw [if_neg (by omega), if_pos h2]
theorem vW_l {P : Int} {ls : List (List Int)} (h : 1 ≤ P ∧ P ≤ 7) (h2 : ¬ 7 < ls.length) : vW P ls = lsE P ls := by unfold vW; rw [if_neg (by omega), if_neg h2]
theorem s39 {P : Int} {ws : List (AV × List Int)} {v : AV} {A : AHeap} (hw : LL A v ws) (hs : Sz ws) : ACalls Try.prog 39 [.agg [I P, v]] A (I (vW P (lists ws))) A := by
  refine acalls hmix Try.func39 (by kernel_rfl) t39 1 rfl (by decide) ?_
  obtain ⟨hs1, hs2⟩ := hs
  by_cases h1 : P < 1
  · dsimp only [m39]
    simp (maxSteps := 4000000) -implicitDefEqProofs -dsimp (disch := omega) only [↓AW_ops, ↓AW_seq, ↓AW_cond, ↓AW_ret, ↓AOps_nil, ↓AOps_pu, ↓AOps_guard, on_some, guardB_tf, skipS_some, condB_t, ↓then_normal, ↓then_ret, ↓Fin_ret, pval, rd_S, rd_C, put_S, resV, resL, chkd, isAdr, bgot, AV.cells?, partA, eq_self, List.replicate_succ, List.replicate_zero, List.set_cons_zero, List.set_cons_succ, List.getElem?_cons_zero, List.getElem?_cons_succ, List.drop_zero, List.take_zero, List.take_succ_cons, Option.getD_some, List.length_cons, List.length_nil, Nat.reduceAdd, Nat.reduceSub, Nat.reduceLeDiff, Nat.zero_add, List.cons_append, List.nil_append, bin_lss, if_true, if_false, Bool.false_eq_true, decide_true, h1]
    exact gc_same (by rw [vW_P (by omega)])
  · by_cases h2 : 7 < P
    · dsimp only [m39]
      simp (maxSteps := 4000000) -implicitDefEqProofs -dsimp (disch := omega) only [↓AW_ops, ↓AW_seq, ↓AW_cond, ↓AW_ret, ↓AOps_nil, ↓AOps_pu, ↓AOps_guard, on_some, guardB_ff, condB_t, ↓then_normal, ↓then_ret, ↓Fin_ret, pval, rd_S, rd_C, put_S, resV, resL, chkd, isAdr, bgot, AV.cells?, partA, eq_self, List.replicate_succ, List.replicate_zero, List.set_cons_zero, List.set_cons_succ, List.getElem?_cons_zero, List.getElem?_cons_succ, List.drop_zero, List.take_zero, List.take_succ_cons, Option.getD_some, List.length_cons, List.length_nil, Nat.reduceAdd, Nat.reduceSub, Nat.reduceLeDiff, Nat.zero_add, List.cons_append, List.nil_append, bin_lss, bin_gtr, if_true, if_false, Bool.false_eq_true, decide_true, decide_false, h1, h2]
      exact gc_same (by rw [vW_P (by omega)])
    · by_cases h3 : (7 : Int) < ws.length
      · dsimp only [m39]
        simp (maxSteps := 4000000) -implicitDefEqProofs -dsimp (disch := omega) only [↓AW_skip, ↓AW_ops, ↓AW_seq, ↓AW_cond, ↓AW_ret, ↓AOps_nil, ↓AOps_pu, ↓AOps_guard, on_some, guardB_ff, condB_t, condB_f, ↓then_normal, ↓then_ret, ↓Fin_ret, pval, rd_S, rd_C, put_S, resV, resL, chkd, isAdr, bgot, AV.cells?, partA, eq_self, List.replicate_succ, List.replicate_zero, List.set_cons_zero, List.set_cons_succ, List.getElem?_cons_zero, List.getElem?_cons_succ, List.drop_zero, List.drop_succ_cons, List.take_zero, List.take_succ_cons, List.take_nil, Option.getD_some, List.length_cons, List.length_nil, Nat.reduceAdd, Nat.reduceSub, Nat.reduceLeDiff, Nat.zero_add, List.cons_append, List.nil_append, bin_lss, bin_gtr, if_true, if_false, Bool.false_eq_true, decide_true, decide_false, h1, h2, h3, hw.ls.len]
        exact gc_same (by rw [vW_n (by omega) (by simp; omega)])
      · dsimp only [m39]
        simp (maxSteps := 4000000) -implicitDefEqProofs -dsimp (disch := omega) only [↓AW_skip, ↓AW_ops, ↓AW_seq, ↓AW_cond, ↓AW_block, ↓AOps_nil, ↓AOps_pu, ↓AOps_guard, on_some, guardB_ff, condB_f, ↓then_normal, pval, rd_S, rd_C, put_S, ↓AW_toLoop, chkd, isAdr, bgot, AV.cells?, partA, eq_self, List.replicate_succ, List.replicate_zero, List.set_cons_zero, List.set_cons_succ, List.getElem?_cons_zero, List.getElem?_cons_succ, List.drop_zero, List.drop_succ_cons, List.take_zero, List.take_succ_cons, List.take_nil, Option.getD_some, List.length_cons, List.length_nil, Nat.reduceAdd, Nat.reduceSub, Nat.reduceLeDiff, Nat.zero_add, List.cons_append, List.nil_append, bin_lss, bin_gtr, if_true, if_false, Bool.false_eq_true, decide_false, h1, h2, h3, hw.ls.len]
        rw [vW_l (by omega) (by simp; omega)]
        refine LoopK.by 45 (fun i : Nat => i ≤ ws.length ∧ lsE P ((lists ws).take i) = 0) (fun i => [(1, .agg [I P, v]), (20, v), (21, I ws.length), (22, I i)]) (fun _ => A) (fun i => ws.length - i) 0 ⟨by omega, rfl⟩ rfl (by simp [Has, rd_s]) rfl ?_
        rintro i ⟨hi, he⟩
        by_cases hlt : i < ws.length
        · obtain ⟨x, hz⟩ : ∃ z, ws[i]? = some z := ⟨_, List.getElem?_eq_getElem hlt⟩
          have hlt' : (i : Int) < ws.length := by omega
          have hm := List.mem_of_getElem? hz
          have hx := hw.inn x hm
          have hx2 := hs2 x hm
          simp (maxSteps := 4000000) -implicitDefEqProofs -dsimp (disch := omega) only [↓AW_skip, ↓AW_ops, ↓AW_seq, ↓AW_cond, ↓AW_block, ↓AOps_nil, ↓AOps_pu, ↓AOps_ld, ↓AOps_call, on_some, condB_t, ↓then_normal, pval, lval, rd_S, put_S, chkd, isAdr, bgot, AV.cells?, partA, eq_self, mk, List.foldl_cons, List.foldl_nil, List.replicate_succ, List.replicate_zero, List.set_cons_zero, List.set_cons_succ, List.getElem?_cons_zero, List.getElem?_cons_succ, List.drop_zero, List.take_zero, List.take_succ_cons, List.take_nil, Option.getD_some, map_c, map_n, List.length_cons, List.length_nil, Nat.reduceAdd, Nat.reduceLeDiff, Nat.zero_add, bin_lss, if_true, if_false, Bool.false_eq_true, decide_true, hlt', hw.ls.idx hlt, hw.ls.ld0 hz 1 false (by decide), e0]
          refine CallK.of (s73 hx (by omega) P) ?_
          by_cases hp : ∀ p ∈ x.2, inP P p
          · rw [decide_eq_true hp]
            simp (maxSteps := 4000000) -implicitDefEqProofs -dsimp (disch := omega) only [↓AW_skip, ↓AW_ops, ↓AW_seq, ↓AW_cond, ↓AW_block, ↓AOps_nil, ↓AOps_pu, on_some, extK_same, condB_f, ↓then_normal, pval, rd_S, rd_C, put_S, ↓AW_toLoop, mk, List.foldl_cons, List.foldl_nil, List.replicate_succ, List.replicate_zero, List.set_cons_zero, List.set_cons_succ, List.getElem?_cons_zero, List.getElem?_cons_succ, Option.getD_some, Bool.not_true, hx.len]
            refine LoopK.by 45 (fun k : Nat => k ≤ x.2.length ∧ (x.2.take k).Nodup) (fun k => [(1, .agg [I P, v]), (4, x.1), (20, v), (21, I ws.length), (22, I i), (31, x.1), (32, I x.2.length), (33, I k)]) (fun _ => A) (fun k => x.2.length - k) 0 ⟨by omega, by simp⟩ rfl (by simp [Has, rd_s]) rfl ?_
            rintro k ⟨hk, hnd⟩
            by_cases hltk : k < x.2.length
            · obtain ⟨p, hzp⟩ : ∃ p, x.2[k]? = some p := ⟨_, List.getElem?_eq_getElem hltk⟩
              have hltk' : (k : Int) < x.2.length := by omega
              obtain ⟨v', hv', hL⟩ := Ls_takeS hx k (by omega)
              simp (maxSteps := 4000000) -implicitDefEqProofs -dsimp (disch := omega) only [↓AW_skip, ↓AW_ops, ↓AW_seq, ↓AW_cond, ↓AW_block, ↓AOps_nil, ↓AOps_pu, ↓AOps_ld, ↓AOps_call, on_some, condB_t, ↓then_normal, pval, lval, rd_S, put_S, partA, eq_self, mk, List.foldl_cons, List.foldl_nil, List.replicate_succ, List.replicate_zero, List.set_cons_zero, List.set_cons_succ, List.getElem?_cons_zero, List.getElem?_cons_succ, List.drop_zero, List.take_succ_cons, List.take_nil, Option.getD_some, Option.map_some, Option.map_none, map_c, map_n, List.length_cons, List.length_nil, Nat.reduceLeDiff, Nat.zero_add, bin_lss, if_true, if_false, Bool.false_eq_true, decide_true, Go.Eng.e1, hltk', hx.idx hltk, hx.ld0 hzp 1 false (by decide), hv']
              refine CallK.of (c_Contains hL (by rw [List.length_take]; omega) p) ?_
              by_cases hc : p ∈ x.2.take k
              · simp (maxSteps := 4000000) -implicitDefEqProofs -dsimp (disch := omega) only [↓AW_ops, ↓AW_seq, ↓AW_cond, ↓AW_ret, ↓AOps_nil, ↓AOps_pu, on_some, extK_same, condB_t, ↓then_normal, ↓then_ret, ↓inBlock_ret, ↓Fin_ret, pval, rd_S, rd_C, put_S, resV, resL, mk, List.foldl_cons, List.foldl_nil, List.replicate_succ, List.replicate_zero, List.set_cons_zero, List.set_cons_succ, List.getElem?_cons_zero, List.getElem?_cons_succ, Option.getD_some, decide_true, hc]
                have hb : lE P x.2 = 6 := by unfold lE; rw [if_pos hp, if_neg (not_nodup hzp hc)]
                exact gc_same (by rw [lsE_bad (ws_get hz) he (by rw [hb]; decide), hb])
              · simp (maxSteps := 4000000) -implicitDefEqProofs -dsimp (disch := omega) only [↓AW_skip, ↓AW_ops, ↓AW_cond, ↓AOps_nil, ↓AOps_pu, on_some, extK_same, condB_f, ↓then_normal, ↓inBlock_normal, pval, rd_S, rd_C, put_S, eq_self, mk, List.foldl_cons, List.foldl_nil, List.replicate_succ, List.replicate_zero, List.set_cons_zero, List.set_cons_succ, List.getElem?_cons_zero, List.getElem?_cons_succ, Option.getD_some, List.length_cons, List.length_nil, Nat.reduceAdd, Nat.zero_add, bin_add, w64, decide_false, true_and, hc]
                exact ⟨k + 1, ⟨hltk, nodup_take hzp hnd hc⟩, by simp [Has, rd_s], by omega⟩
            · have hltk' : ¬ ((k : Int) < x.2.length) := by omega
              rw [List.take_of_length_le (by omega)] at hnd
              simp (maxSteps := 4000000) -implicitDefEqProofs -dsimp (disch := omega) only [↓AW_ops, ↓AW_seq, ↓AW_cond, ↓AW_exit, ↓AW_ret, ↓AOps_nil, ↓AOps_pu, on_some, condB_f, ↓then_normal, ↓then_exit, ↓inBlock_normal, ↓inBlock_exit, ↓Fin_ret, pval, rd_S, rd_C, put_S, resV, resL, eq_self, mk, List.foldl_cons, List.foldl_nil, List.replicate_succ, List.replicate_zero, List.set_cons_zero, List.set_cons_succ, List.getElem?_cons_zero, List.getElem?_cons_succ, Option.getD_some, List.length_cons, List.length_nil, Nat.reduceAdd, Nat.reduceEqDiff, Nat.zero_add, bin_add, bin_lss, w64, if_true, if_false, decide_false, true_and, reduceCtorEq, hltk']
              exact ⟨i + 1, ⟨hlt, lsE_ok (ws_get hz) he (by unfold lE; rw [if_pos hp, if_pos hnd])⟩, by simp [Has, rd_s], by omega⟩
          · rw [decide_eq_false hp]
            simp (maxSteps := 4000000) -implicitDefEqProofs -dsimp (disch := omega) only [↓AW_ops, ↓AW_seq, ↓AW_cond, ↓AW_ret, ↓AOps_nil, ↓AOps_pu, on_some, extK_same, condB_t, ↓then_normal, ↓then_ret, ↓inBlock_ret, ↓Fin_ret, pval, rd_S, rd_C, put_S, resV, resL, mk, List.foldl_cons, List.foldl_nil, List.replicate_succ, List.replicate_zero, List.set_cons_zero, List.set_cons_succ, List.getElem?_cons_zero, List.getElem?_cons_succ, Option.getD_some, Bool.not_false]
            have hb : lE P x.2 = 1 := by unfold lE; rw [if_neg hp]
            exact gc_same (by rw [lsE_bad (ws_get hz) he (by rw [hb]; decide), hb])
        · have hlt' : ¬ ((i : Int) < ws.length) := by omega
          simp (maxSteps := 4000000) -implicitDefEqProofs -dsimp (disch := omega) only [↓AW_ops, ↓AW_seq, ↓AW_cond, ↓AW_exit, ↓AW_ret, ↓AOps_nil, ↓AOps_pu, on_some, condB_f, ↓then_normal, ↓then_exit, ↓inBlock_exit, ↓Fin_ret, pval, rd_S, rd_C, put_S, resV, resL, eq_self, mk, List.foldl_cons, List.foldl_nil, List.replicate_succ, List.replicate_zero, List.set_cons_zero, List.set_cons_succ, List.getElem?_cons_zero, List.getElem?_cons_succ, Option.getD_some, bin_lss, if_true, decide_false, hlt']
          rw [List.take_of_length_le (by simp; omega)] at he
          exact gc_same (by rw [he])
theorem s64 (n lo hi : Int) (A : AHeap) : ACalls Try.prog 64 [I n, I lo, I hi] A (B (decide (lo ≤ n ∧ n ≤ hi))) A := by
  refine acalls hmix Try.func64 (by kernel_rfl) t64 3 rfl (by decide) ?_
  by_cases h : lo ≤ n
  · dsimp only [m64]
    simp (maxSteps := 4000000) -implicitDefEqProofs -dsimp (disch := omega) only [↓AW_ops, ↓AW_seq, ↓AW_ret, ↓AOps_nil, ↓AOps_pu, ↓AOps_guard, on_some, guardB_tt, ↓then_normal, ↓Fin_ret, pval, rd_S, rd_C, put_S, resV, resL, eq_self, List.replicate_succ, List.replicate_zero, List.set_cons_zero, List.set_cons_succ, List.getElem?_cons_zero, List.getElem?_cons_succ, Option.getD_some, Nat.reduceSub, List.cons_append, List.nil_append, bin_leq, bin_geq, if_true, decide_true, true_and, h]
    exact gc_same rfl
  · dsimp only [m64]
    simp (maxSteps := 4000000) -implicitDefEqProofs -dsimp (disch := omega) only [↓AW_ops, ↓AW_seq, ↓AW_ret, ↓AOps_nil, ↓AOps_pu, ↓AOps_guard, on_some, guardB_ft, skipS_some, ↓then_normal, ↓Fin_ret, pval, rd_S, rd_C, put_S, resV, resL, List.replicate_succ, List.replicate_zero, List.set_cons_zero, List.set_cons_succ, List.getElem?_cons_zero, List.getElem?_cons_succ, Option.getD_some, Nat.reduceSub, List.cons_append, List.nil_append, bin_geq, if_false, Bool.false_eq_true, decide_false, h]
    exact gc_same rfl
theorem s65 {xs : List Int} {v : AV} {A : AHeap} (hx : L1 A v xs) (hl : xs.length ≤ 1000000) (p : Int) : ACalls Try.prog 65 [v, I p] A (B (decide (p ∈ xs))) A := by
  refine acalls hmix Try.func65 (by kernel_rfl) t65 2 rfl (by decide) ?_
  dsimp only [m65]
  simp (maxSteps := 4000000) -implicitDefEqProofs -dsimp (disch := omega) only [↓AW_ops, ↓AW_seq, ↓AW_block, ↓AOps_nil, ↓AOps_pu, on_some, ↓then_normal, pval, rd_C, put_S, ↓AW_toLoop, List.replicate_succ, List.replicate_zero, List.set_cons_zero, List.set_cons_succ, Nat.reduceSub, List.cons_append, List.nil_append]
  refine LoopK.by 18 (fun i : Nat => i ≤ xs.length ∧ p ∉ xs.take i) (fun i => [(0, v), (1, I p), (5, I i)]) (fun _ => A) (fun i => xs.length - i) 0 ⟨by omega, by simp⟩ rfl (by simp [Has, rd_s]) rfl ?_
  rintro i ⟨hi, he⟩
  by_cases hlt : i < xs.length
  · obtain ⟨z, hz⟩ : ∃ z, xs[i]? = some z := ⟨_, List.getElem?_eq_getElem hlt⟩
    have hlt' : (i : Int) < xs.length := by omega
    by_cases h : z = p
    · simp (maxSteps := 4000000) -implicitDefEqProofs -dsimp (disch := omega) only [↓AW_skip, ↓AW_ops, ↓AW_seq, ↓AW_cond, ↓AW_block, ↓AW_ret, ↓AOps_nil, ↓AOps_pu, ↓AOps_ld, on_some, condB_t, ↓then_normal, ↓then_ret, ↓inBlock_ret, ↓Fin_ret, pval, lval, rd_S, rd_C, put_S, resV, resL, partA, eq_self, mk, List.foldl_cons, List.foldl_nil, List.replicate_succ, List.replicate_zero, List.set_cons_zero, List.set_cons_succ, List.getElem?_cons_zero, List.getElem?_cons_succ, List.drop_zero, List.take_succ_cons, List.take_nil, Option.getD_some, List.length_cons, List.length_nil, Nat.reduceLeDiff, Nat.zero_add, bin_eql, bin_lss, if_true, if_false, Bool.false_eq_true, decide_true, Go.Eng.e1, hlt', hx.len, hx.idx hlt, hx.ld0 hz 1 false (by decide), h]
      exact gc_same (by rw [decide_eq_true (h ▸ List.mem_of_getElem? hz)])
    · simp (maxSteps := 4000000) -implicitDefEqProofs -dsimp (disch := omega) only [↓AW_skip, ↓AW_ops, ↓AW_seq, ↓AW_cond, ↓AW_block, ↓AOps_nil, ↓AOps_pu, ↓AOps_ld, on_some, condB_t, condB_f, ↓then_normal, ↓inBlock_normal, pval, lval, rd_S, rd_C, put_S, partA, eq_self, mk, List.foldl_cons, List.foldl_nil, List.replicate_succ, List.replicate_zero, List.set_cons_zero, List.set_cons_succ, List.getElem?_cons_zero, List.getElem?_cons_succ, List.drop_zero, List.take_succ_cons, List.take_nil, Option.getD_some, List.length_cons, List.length_nil, Nat.reduceAdd, Nat.reduceLeDiff, Nat.zero_add, bin_add, bin_eql, bin_lss, w64, if_true, if_false, Bool.false_eq_true, decide_true, decide_false, Go.Eng.e1, true_and, hlt', hx.len, hx.idx hlt, hx.ld0 hz 1 false (by decide), h]
      refine ⟨i + 1, ⟨hlt, fun hy => ?_⟩, by simp [Has, rd_s], by omega⟩
      rw [List.take_add_one, hz] at hy
      rcases List.mem_append.1 hy with hy | hy
      · exact he hy
      · have : p = z := by simpa using hy
        exact h this.symm
  · have hlt' : ¬ ((i : Int) < xs.length) := by omega
    simp (maxSteps := 4000000) -implicitDefEqProofs -dsimp (disch := omega) only [↓AW_ops, ↓AW_seq, ↓AW_cond, ↓AW_exit, ↓AW_ret, ↓AOps_nil, ↓AOps_pu, on_some, condB_f, ↓then_normal, ↓then_exit, ↓inBlock_exit, ↓Fin_ret, pval, rd_S, rd_C, put_S, resV, resL, eq_self, mk, List.foldl_cons, List.foldl_nil, List.replicate_succ, List.replicate_zero, List.set_cons_zero, List.set_cons_succ, List.getElem?_cons_zero, List.getElem?_cons_succ, Option.getD_some, bin_lss, if_true, decide_false, hlt', hx.len]
    rw [List.take_of_length_le (by omega)] at he
    exact gc_same (by rw [decide_eq_false he])
end Go.Proofs.Ytlmbobbefgcolaa

namespace Go.Proofs.Ytlmbobbefgcolaa
open Go Go.Eng
theorem all_take {α : Type} {p : α → Prop} {l : List α} {i : Nat} {z : α} (h : ∀ y ∈ l.take i, p y) (hz : l[i]? = some z) (hp : p z) : ∀ y ∈ l.take (i + 1), p y := by
  intro y hy
  rw [List.take_add_one, hz] at hy
  rcases List.mem_append.1 hy with hy | hy
  · exact h y hy
  · have : y = z := by simpa using hy
    rw [this]; exact hp
theorem s40 {P : Int} {ws : List (AV × List Int)} {v : AV} {A : AHeap} (hw : LL A v ws) (hs : Sz ws) : ACalls Try.prog 40 [.agg [I P, v]] A (I (vW P (lists ws))) A := by
  refine acalls hmix Try.func40 (by kernel_rfl) t40 1 rfl (by decide) ?_
  obtain ⟨hs1, hs2⟩ := hs
  dsimp only [m40]
  simp (maxSteps := 4000000) -implicitDefEqProofs -dsimp (disch := omega) only [↓AW_ops, ↓AW_seq, ↓AOps_nil, ↓AOps_pu, ↓AOps_call, on_some, ↓then_normal, pval, rd_S, rd_C, put_S, chkd, isAdr, bgot, AV.cells?, partA, eq_self, List.replicate_succ, List.replicate_zero, List.set_cons_zero, List.set_cons_succ, List.getElem?_cons_zero, List.getElem?_cons_succ, List.drop_zero, List.take_zero, List.take_succ_cons, Option.getD_some, map_c, map_n, List.length_cons, List.length_nil, Nat.reduceAdd, Nat.reduceSub, Nat.reduceLeDiff, Nat.zero_add, List.cons_append, List.nil_append, if_true, if_false, Bool.false_eq_true]
  refine CallK.of (s64 _ _ _ _) ?_
  by_cases h1 : 1 ≤ P ∧ P ≤ 7
  · simp (maxSteps := 4000000) -implicitDefEqProofs -dsimp (disch := omega) only [↓AW_skip, ↓AW_ops, ↓AW_seq, ↓AW_cond, ↓AOps_nil, ↓AOps_pu, on_some, extK_same, condB_f, ↓then_normal, pval, rd_S, rd_C, put_S, chkd, isAdr, bgot, AV.cells?, partA, eq_self, List.replicate_succ, List.replicate_zero, List.set_cons_zero, List.set_cons_succ, List.getElem?_cons_zero, List.getElem?_cons_succ, List.drop_zero, List.drop_succ_cons, List.take_succ_cons, List.take_nil, Option.getD_some, List.length_cons, List.length_nil, Nat.reduceAdd, Nat.reduceSub, Nat.reduceLeDiff, Nat.zero_add, List.cons_append, List.nil_append, bin_gtr, if_true, if_false, Bool.false_eq_true, Bool.not_true, decide_true, and_true, h1, hw.ls.len]
    by_cases h3 : (7 : Int) < ws.length
    · simp (maxSteps := 4000000) -implicitDefEqProofs -dsimp (disch := omega) only [↓AW_ops, ↓AW_seq, ↓AW_ret, ↓AOps_nil, ↓AOps_pu, on_some, condB_t, ↓then_normal, ↓then_ret, ↓Fin_ret, pval, rd_S, rd_C, put_S, resV, resL, List.replicate_succ, List.replicate_zero, List.set_cons_zero, List.set_cons_succ, List.getElem?_cons_zero, List.getElem?_cons_succ, Option.getD_some, Nat.reduceSub, List.cons_append, List.nil_append, decide_true, h3]
      exact gc_same (by rw [vW_n h1 (by simp; omega)])
    · simp (maxSteps := 4000000) -implicitDefEqProofs -dsimp (disch := omega) only [↓AW_skip, ↓AW_ops, ↓AW_seq, ↓AW_block, ↓AOps_nil, ↓AOps_pu, on_some, condB_f, ↓then_normal, pval, rd_C, put_S, ↓AW_toLoop, List.replicate_succ, List.replicate_zero, List.set_cons_zero, List.set_cons_succ, Nat.reduceSub, List.cons_append, List.nil_append, decide_false, h3]
      rw [vW_l h1 (by simp; omega)]
      refine LoopK.by 70 (fun i : Nat => i ≤ ws.length ∧ lsE P ((lists ws).take i) = 0) (fun i => [(1, .agg [I P, v]), (3, I i)]) (fun _ => A) (fun i => ws.length - i) 0 ⟨by omega, rfl⟩ rfl (by simp [Has, rd_s]) rfl ?_
      rintro i ⟨hi, he⟩
      by_cases hlt : i < ws.length
      · obtain ⟨x, hz⟩ : ∃ z, ws[i]? = some z := ⟨_, List.getElem?_eq_getElem hlt⟩
        have hlt' : (i : Int) < ws.length := by omega
        have hm := List.mem_of_getElem? hz
        have hx := hw.inn x hm
        have hx2 := hs2 x hm
        simp (maxSteps := 4000000) -implicitDefEqProofs -dsimp (disch := omega) only [↓AW_skip, ↓AW_ops, ↓AW_seq, ↓AW_cond, ↓AW_block, ↓AOps_nil, ↓AOps_pu, on_some, condB_t, ↓then_normal, pval, rd_S, rd_C, put_S, ↓AW_toLoop, chkd, isAdr, bgot, AV.cells?, partA, eq_self, mk, List.foldl_cons, List.foldl_nil, List.replicate_succ, List.replicate_zero, List.set_cons_zero, List.set_cons_succ, List.getElem?_cons_zero, List.getElem?_cons_succ, List.drop_zero, List.drop_succ_cons, List.take_succ_cons, List.take_nil, Option.getD_some, List.length_cons, List.length_nil, Nat.reduceAdd, Nat.reduceLeDiff, Nat.zero_add, bin_lss, if_true, if_false, Bool.false_eq_true, decide_true, hlt', hw.ls.len]
        refine LoopK.by 70 (fun k : Nat => k ≤ x.2.length ∧ ∀ p ∈ x.2.take k, inP P p) (fun k => [(1, .agg [I P, v]), (3, I i), (4, I k)]) (fun _ => A) (fun k => x.2.length - k) 0 ⟨by omega, by simp⟩ rfl (by simp [Has, rd_s]) rfl ?_
        rintro k ⟨hk, hnd⟩
        by_cases hltk : k < x.2.length
        · obtain ⟨p, hzp⟩ : ∃ p, x.2[k]? = some p := ⟨_, List.getElem?_eq_getElem hltk⟩
          have hltk' : (k : Int) < x.2.length := by omega
          simp (maxSteps := 4000000) -implicitDefEqProofs -dsimp (disch := omega) only [↓AW_skip, ↓AW_ops, ↓AW_seq, ↓AW_cond, ↓AW_block, ↓AOps_nil, ↓AOps_pu, ↓AOps_ld, ↓AOps_call, on_some, condB_t, ↓then_normal, pval, lval, rd_S, rd_C, put_S, chkd, isAdr, bgot, AV.cells?, partA, eq_self, mk, List.foldl_cons, List.foldl_nil, List.replicate_succ, List.replicate_zero, List.set_cons_zero, List.set_cons_succ, List.getElem?_cons_zero, List.getElem?_cons_succ, List.drop_zero, List.drop_succ_cons, List.take_zero, List.take_succ_cons, List.take_nil, Option.getD_some, map_c, map_n, List.length_cons, List.length_nil, Nat.reduceAdd, Nat.reduceLeDiff, Nat.zero_add, bin_sub, bin_lss, w64, if_true, if_false, Bool.false_eq_true, decide_true, Go.Eng.e1, hltk', hw.ls.idx hlt, hw.ls.ld0 hz 1 false (by decide), e0, hx.len, hx.idx hltk, hx.ld0 hzp 1 false (by decide)]
          refine CallK.of (s64 _ _ _ _) ?_
          by_cases hc : 0 ≤ p ∧ p ≤ P - 1
          · simp (maxSteps := 4000000) -implicitDefEqProofs -dsimp (disch := omega) only [↓AW_skip, ↓AW_ops, ↓AW_cond, ↓AOps_nil, ↓AOps_pu, on_some, extK_same, condB_f, ↓then_normal, ↓inBlock_normal, pval, rd_S, rd_C, put_S, eq_self, mk, List.foldl_cons, List.foldl_nil, List.replicate_succ, List.replicate_zero, List.set_cons_zero, List.set_cons_succ, List.getElem?_cons_zero, List.getElem?_cons_succ, Option.getD_some, List.length_cons, List.length_nil, Nat.reduceAdd, Nat.zero_add, bin_add, w64, Bool.not_true, decide_true, true_and, and_true, hc]
            exact ⟨k + 1, ⟨hltk, all_take hnd hzp ⟨by omega, by omega⟩⟩, by simp [Has, rd_s], by omega⟩
          · simp (maxSteps := 4000000) -implicitDefEqProofs -dsimp (disch := omega) only [↓AW_ops, ↓AW_seq, ↓AW_cond, ↓AW_ret, ↓AOps_nil, ↓AOps_pu, on_some, extK_same, condB_t, ↓then_normal, ↓then_ret, ↓inBlock_ret, ↓Fin_ret, pval, rd_S, rd_C, put_S, resV, resL, mk, List.foldl_cons, List.foldl_nil, List.replicate_succ, List.replicate_zero, List.set_cons_zero, List.set_cons_succ, List.getElem?_cons_zero, List.getElem?_cons_succ, Option.getD_some, Bool.not_false, decide_false, hc]
            have hb : lE P x.2 = 1 := by
              unfold lE; rw [if_neg]
              intro h
              have := h p (List.mem_of_getElem? hzp)
              exact hc ⟨this.1, by have := this.2; omega⟩
            exact gc_same (by rw [lsE_bad (ws_get hz) he (by rw [hb]; decide), hb])
        · have hltk' : ¬ ((k : Int) < x.2.length) := by omega
          rw [List.take_of_length_le (by omega)] at hnd
          simp (maxSteps := 4000000) -implicitDefEqProofs -dsimp (disch := omega) only [↓AW_ops, ↓AW_seq, ↓AW_cond, ↓AW_block, ↓AW_exit, ↓AW_ret, ↓AOps_nil, ↓AOps_pu, ↓AOps_ld, on_some, condB_f, ↓then_normal, ↓then_exit, ↓inBlock_exit, ↓Fin_ret, pval, lval, rd_S, rd_C, put_S, ↓AW_toLoop, resV, resL, chkd, isAdr, bgot, AV.cells?, partA, eq_self, mk, List.foldl_cons, List.foldl_nil, List.replicate_succ, List.replicate_zero, List.set_cons_zero, List.set_cons_succ, List.getElem?_cons_zero, List.getElem?_cons_succ, List.drop_zero, List.drop_succ_cons, List.take_succ_cons, List.take_nil, Option.getD_some, List.length_cons, List.length_nil, Nat.reduceAdd, Nat.reduceLeDiff, Nat.reduceEqDiff, Nat.zero_add, bin_add, bin_lss, w64, if_true, if_false, Bool.false_eq_true, decide_false, true_and, reduceCtorEq, hltk', hw.ls.idx hlt, hw.ls.ld0 hz 1 false (by decide), e0, hx.len]
          refine LoopK.by 70 (fun k : Nat => k ≤ x.2.length ∧ (x.2.take k).Nodup) (fun k => [(1, .agg [I P, v]), (3, I i), (5, I k)]) (fun _ => A) (fun k => x.2.length - k) 0 ⟨by omega, by simp⟩ rfl (by simp [Has, rd_s]) rfl ?_
          rintro k ⟨hk, hnd2⟩
          by_cases hltk : k < x.2.length
          · obtain ⟨p, hzp⟩ : ∃ p, x.2[k]? = some p := ⟨_, List.getElem?_eq_getElem hltk⟩
            have hltk' : (k : Int) < x.2.length := by omega
            obtain ⟨v', hv', hL⟩ := Ls_takeS hx k (by omega)
            simp (maxSteps := 4000000) -implicitDefEqProofs -dsimp (disch := omega) only [↓AW_skip, ↓AW_ops, ↓AW_seq, ↓AW_cond, ↓AW_block, ↓AOps_nil, ↓AOps_pu, ↓AOps_ld, ↓AOps_call, on_some, condB_t, ↓then_normal, pval, lval, rd_S, put_S, chkd, isAdr, bgot, AV.cells?, partA, eq_self, mk, List.foldl_cons, List.foldl_nil, List.replicate_succ, List.replicate_zero, List.set_cons_zero, List.set_cons_succ, List.getElem?_cons_zero, List.getElem?_cons_succ, List.drop_zero, List.drop_succ_cons, List.take_succ_cons, List.take_nil, Option.getD_some, Option.map_some, Option.map_none, map_c, map_n, List.length_cons, List.length_nil, Nat.reduceAdd, Nat.reduceLeDiff, Nat.zero_add, bin_lss, if_true, if_false, Bool.false_eq_true, decide_true, Go.Eng.e1, hltk', hw.ls.idx hlt, hw.ls.ld0 hz 1 false (by decide), e0, hx.len, hx.idx hltk, hx.ld0 hzp 1 false (by decide), hv']
            refine CallK.of (s65 hL (by rw [List.length_take]; omega) p) ?_
            by_cases hc : p ∈ x.2.take k
            · simp (maxSteps := 4000000) -implicitDefEqProofs -dsimp (disch := omega) only [↓AW_ops, ↓AW_seq, ↓AW_cond, ↓AW_ret, ↓AOps_nil, ↓AOps_pu, on_some, extK_same, condB_t, ↓then_normal, ↓then_ret, ↓inBlock_ret, ↓Fin_ret, pval, rd_S, rd_C, put_S, resV, resL, mk, List.foldl_cons, List.foldl_nil, List.replicate_succ, List.replicate_zero, List.set_cons_zero, List.set_cons_succ, List.getElem?_cons_zero, List.getElem?_cons_succ, Option.getD_some, decide_true, hc]
              have hb : lE P x.2 = 6 := by unfold lE; rw [if_pos hnd, if_neg (not_nodup hzp hc)]
              exact gc_same (by rw [lsE_bad (ws_get hz) he (by rw [hb]; decide), hb])
            · simp (maxSteps := 4000000) -implicitDefEqProofs -dsimp (disch := omega) only [↓AW_skip, ↓AW_ops, ↓AW_cond, ↓AOps_nil, ↓AOps_pu, on_some, extK_same, condB_f, ↓then_normal, ↓inBlock_normal, pval, rd_S, rd_C, put_S, eq_self, mk, List.foldl_cons, List.foldl_nil, List.replicate_succ, List.replicate_zero, List.set_cons_zero, List.set_cons_succ, List.getElem?_cons_zero, List.getElem?_cons_succ, Option.getD_some, List.length_cons, List.length_nil, Nat.reduceAdd, Nat.zero_add, bin_add, w64, decide_false, true_and, hc]
              exact ⟨k + 1, ⟨hltk, nodup_take hzp hnd2 hc⟩, by simp [Has, rd_s], by omega⟩
          · have hltk' : ¬ ((k : Int) < x.2.length) := by omega
            rw [List.take_of_length_le (by omega)] at hnd2
            simp (maxSteps := 4000000) -implicitDefEqProofs -dsimp (disch := omega) only [↓AW_ops, ↓AW_seq, ↓AW_cond, ↓AW_exit, ↓AW_ret, ↓AOps_nil, ↓AOps_pu, ↓AOps_ld, on_some, condB_f, ↓then_normal, ↓then_exit, ↓inBlock_normal, ↓inBlock_exit, ↓Fin_ret, pval, lval, rd_S, rd_C, put_S, resV, resL, chkd, isAdr, bgot, AV.cells?, partA, eq_self, mk, List.foldl_cons, List.foldl_nil, List.replicate_succ, List.replicate_zero, List.set_cons_zero, List.set_cons_succ, List.getElem?_cons_zero, List.getElem?_cons_succ, List.drop_zero, List.drop_succ_cons, List.take_succ_cons, List.take_nil, Option.getD_some, List.length_cons, List.length_nil, Nat.reduceAdd, Nat.reduceLeDiff, Nat.reduceEqDiff, Nat.zero_add, bin_add, bin_lss, w64, if_true, if_false, Bool.false_eq_true, decide_false, true_and, reduceCtorEq, hltk', hw.ls.idx hlt, hw.ls.ld0 hz 1 false (by decide), e0, hx.len]
            exact ⟨i + 1, ⟨hlt, lsE_ok (ws_get hz) he (by unfold lE; rw [if_pos hnd, if_pos hnd2])⟩, by simp [Has, rd_s], by omega⟩
      · have hlt' : ¬ ((i : Int) < ws.length) := by omega
        simp (maxSteps := 4000000) -implicitDefEqProofs -dsimp (disch := omega) only [↓AW_ops, ↓AW_seq, ↓AW_cond, ↓AW_exit, ↓AW_ret, ↓AOps_nil, ↓AOps_pu, on_some, condB_f, ↓then_normal, ↓then_exit, ↓inBlock_exit, ↓Fin_ret, pval, rd_S, rd_C, put_S, resV, resL, chkd, isAdr, bgot, AV.cells?, partA, eq_self, mk, List.foldl_cons, List.foldl_nil, List.replicate_succ, List.replicate_zero, List.set_cons_zero, List.set_cons_succ, List.getElem?_cons_zero, List.getElem?_cons_succ, List.drop_zero, List.drop_succ_cons, List.take_succ_cons, List.take_nil, Option.getD_some, List.length_cons, List.length_nil, Nat.reduceAdd, Nat.reduceLeDiff, Nat.zero_add, bin_lss, if_true, if_false, Bool.false_eq_true, decide_false, hlt', hw.ls.len]
        rw [List.take_of_length_le (by simp; omega)] at he
        exact gc_same (by rw [he])
  · simp (maxSteps := 4000000) -implicitDefEqProofs -dsimp (disch := omega) only [↓AW_ops, ↓AW_seq, ↓AW_cond, ↓AW_ret, ↓AOps_nil, ↓AOps_pu, on_some, extK_same, condB_t, ↓then_normal, ↓then_ret, ↓Fin_ret, pval, rd_S, rd_C, put_S, resV, resL, List.replicate_succ, List.replicate_zero, List.set_cons_zero, List.set_cons_succ, List.getElem?_cons_zero, List.getElem?_cons_succ, Option.getD_some, Nat.reduceSub, List.cons_append, List.nil_append, Bool.not_false, decide_false, h1]
    exact gc_same (by rw [vW_P h1])
/-- How many are served. -/
def srv (g : List Int) : Nat := g.countP (fun p => decide (0 ≤ p))
theorem srv_take {g : List Int} {i : Nat} {z : Int} (hz : g[i]? = some z) : srv (g.take (i + 1)) = srv (g.take i) + if 0 ≤ z then 1 else 0 := by
  unfold srv
  rw [List.take_add_one, hz, List.countP_append]
  simp [List.countP_cons]
theorem srv_le (g : List Int) : srv g ≤ g.length := List.countP_le_length
theorem s61 {g : List Int} {v : AV} {A : AHeap} (hx : L1 A v g) (hl : g.length ≤ 1000000) : ACalls Try.prog 61 [v] A (I (srv g)) A := by
  refine acalls hmix Try.func61 (by kernel_rfl) t61 1 rfl (by decide) ?_
  dsimp only [m61]
  simp (maxSteps := 4000000) -implicitDefEqProofs -dsimp (disch := omega) only [↓AW_ops, ↓AW_seq, ↓AW_block, ↓AOps_nil, ↓AOps_pu, on_some, ↓then_normal, pval, rd_S, rd_C, put_S, ↓AW_toLoop, List.replicate_succ, List.replicate_zero, List.set_cons_zero, List.set_cons_succ, List.getElem?_cons_zero, List.getElem?_cons_succ, Option.getD_some, Nat.reduceSub, List.cons_append, List.nil_append, hx.len]
  refine LoopK.by 18 (fun i : Nat => i ≤ g.length) (fun i => [(3, I (srv (g.take i))), (6, v), (7, I g.length), (8, I i)]) (fun _ => A) (fun i => g.length - i) 0 (by omega) rfl (by simp [Has, rd_s, srv]) rfl ?_
  intro i hi
  have hle := srv_le (g.take i)
  rw [List.length_take] at hle
  by_cases hlt : i < g.length
  · obtain ⟨z, hz⟩ : ∃ z, g[i]? = some z := ⟨_, List.getElem?_eq_getElem hlt⟩
    have hlt' : (i : Int) < g.length := by omega
    by_cases h : 0 ≤ z
    · simp (maxSteps := 4000000) -implicitDefEqProofs -dsimp (disch := omega) only [↓AW_skip, ↓AW_ops, ↓AW_seq, ↓AW_cond, ↓AW_block, ↓AOps_nil, ↓AOps_pu, ↓AOps_ld, on_some, condB_t, ↓then_normal, ↓inBlock_normal, pval, lval, rd_S, rd_C, put_S, partA, eq_self, mk, List.foldl_cons, List.foldl_nil, List.replicate_succ, List.replicate_zero, List.set_cons_zero, List.set_cons_succ, List.getElem?_cons_zero, List.getElem?_cons_succ, List.drop_zero, List.take_succ_cons, List.take_nil, Option.getD_some, List.length_cons, List.length_nil, Nat.reduceAdd, Nat.reduceLeDiff, Nat.zero_add, bin_add, bin_lss, bin_geq, w64, if_true, if_false, Bool.false_eq_true, decide_true, Go.Eng.e1, true_and, hlt', hx.idx hlt, hx.ld0 hz 1 false (by decide), h]
      exact ⟨i + 1, hlt, by simp [Has, rd_s, srv_take hz, h], by omega⟩
    · simp (maxSteps := 4000000) -implicitDefEqProofs -dsimp (disch := omega) only [↓AW_skip, ↓AW_ops, ↓AW_seq, ↓AW_cond, ↓AW_block, ↓AOps_nil, ↓AOps_pu, ↓AOps_ld, on_some, condB_t, condB_f, ↓then_normal, ↓inBlock_normal, pval, lval, rd_S, rd_C, put_S, partA, eq_self, mk, List.foldl_cons, List.foldl_nil, List.replicate_succ, List.replicate_zero, List.set_cons_zero, List.set_cons_succ, List.getElem?_cons_zero, List.getElem?_cons_succ, List.drop_zero, List.take_succ_cons, List.take_nil, Option.getD_some, List.length_cons, List.length_nil, Nat.reduceAdd, Nat.reduceLeDiff, Nat.zero_add, bin_add, bin_lss, bin_geq, w64, if_true, if_false, Bool.false_eq_true, decide_true, decide_false, Go.Eng.e1, true_and, hlt', hx.idx hlt, hx.ld0 hz 1 false (by decide), h]
      exact ⟨i + 1, hlt, by simp [Has, rd_s, srv_take hz, h], by omega⟩
  · have hlt' : ¬ ((i : Int) < g.length) := by omega
    simp (maxSteps := 4000000) -implicitDefEqProofs -dsimp (disch := omega) only [↓AW_ops, ↓AW_seq, ↓AW_cond, ↓AW_exit, ↓AW_ret, ↓AOps_nil, ↓AOps_pu, on_some, condB_f, ↓then_normal, ↓then_exit, ↓inBlock_exit, ↓Fin_ret, pval, rd_S, put_S, resV, resL, eq_self, mk, List.foldl_cons, List.foldl_nil, List.replicate_succ, List.replicate_zero, List.set_cons_zero, List.set_cons_succ, List.getElem?_cons_zero, List.getElem?_cons_succ, Option.getD_some, bin_lss, if_true, decide_false, hlt']
    exact gc_same (by rw [List.take_of_length_le (by omega)])
def given (g : List Int) : List Int := g.filter (fun p => decide (0 ≤ p))
end Go.Proofs.Ytlmbobbefgcolaa

namespace Go.Proofs.Ytlmbobbefgcolaa
open Go Go.Eng
/-- A set of numbers from 0 to n - 1. -/
def isS (n : Int) (l : List Int) : Prop := (∀ p ∈ l, inP n p) ∧ Up l
instance (n : Int) (l : List Int) : Decidable (isS n l) := by unfold isS; exact inferInstance
/-- What an owner wishes. -/
def lst (ls : List (List Int)) (i : Int) : List Int := (ls[i.toNat]?).getD []
def nums (n : Nat) : List Int := (List.range n).map (fun k : Nat => (k : Int))
theorem nums_succ (n : Nat) : nums (n + 1) = nums n ++ [(n : Int)] := by simp [nums, List.range_succ]
theorem mem_nums {n : Nat} {p : Int} : p ∈ nums n ↔ 0 ≤ p ∧ p < n := by
  simp only [nums, List.mem_map, List.mem_range]
  constructor
  · rintro ⟨k, h, rfl⟩; omega
  · intro h; exact ⟨p.toNat, by omega, by omega⟩
theorem lst_get {ws : List (AV × List Int)} {i : Int} (h : inP ws.length i) : ∃ x, ws[i.toNat]? = some x ∧ lst (lists ws) i = x.2 := by
  have hlt : i.toNat < ws.length := by have := h.1; have := h.2; omega
  exact ⟨ws[i.toNat], List.getElem?_eq_getElem hlt, by simp [lst, hlt]⟩
end Go.Proofs.Ytlmbobbefgcolaa

namespace Go.Proofs.Ytlmbobbefgcolaa
open Go Go.Eng
theorem cells_agg (l : List AV) : (AV.agg l).cells? = some l := rfl
theorem cells_int (k : IntKind) (n : Int) : (AV.int k n).cells? = some [.int k n] := rfl
theorem cells_sl (a b c d : Nat) (e : Bool) : (AV.sl a b c d e).cells? = some [.sl a b c d e] := rfl
theorem cells_nilS : AV.nilS.cells? = some [.nilS] := rfl
theorem cells_nilF : AV.nilF.cells? = some [.nilF] := rfl
/-- A store. -/
def stA (sz : Nat) (p x : AV) (H : AHeap) : Option AHeap :=
  match p, x.cells? with
  | .ptr n off, some c => match H[n]? with
    | some (.cells true l) => if c.length = sz ∧ off + sz ≤ l.length then some (H.set n (.cells true (splice l off c))) else none
    | _ => none
  | _, _ => none
theorem hval_st (sz : Nat) (p x : Opd) (S : List AV) (H : AHeap) : hval (.st sz p x) S H = (stA sz (rd S p) (rd S x) H).map (fun H' => (undefA, H')) := by
  simp only [hval, stA]
  cases rd S p with
  | ptr n off =>
    cases (rd S x).cells? with
    | none => rfl
    | some c =>
      simp only
      cases H[n]? with
      | none => rfl
      | some o =>
        cases o with
        | cells rw l =>
          cases rw
          · rfl
          · simp only
            split <;> rfl
        | _ => rfl
  | _ => rfl
theorem hval_newv (x : Opd) (S : List AV) (H : AHeap) : hval (.newv x) S H = match (rd S x).cells? with | some c => some (.ptr H.length 0, H ++ [.cells true c]) | none => none := rfl
theorem hval_mks (es : Nat) (zero : List AV) (len cap : Opd) (S : List AV) (H : AHeap) : hval (.mks es zero len cap) S H = match rd S len, rd S cap with | .int _ l, .int _ c => if 0 ≤ l ∧ l ≤ c ∧ c ≤ lim then some (.sl es H.length 0 l.toNat (l == c), H ++ [.cells true (repl zero c.toNat)]) else none | _, _ => none := rfl
theorem hval_blds (es n : Nat) (zero : List AV) (parts : List (Nat × Nat × Opd)) (S : List AV) (H : AHeap) : hval (.blds es n zero parts) S H = match fillA (parts.map fun p => (p.1, p.2.1, rd S p.2.2)) (repl zero n) with | some l => some (.sl es H.length 0 n true, H ++ [.cells true l]) | none => none := rfl
theorem hval_app (es : Nat) (x y : Opd) (S : List AV) (H : AHeap) : hval (.app es x y) S H = appA es H (rd S x) (rd S y) := rfl
/-- A copy. -/
def cpA (es : Nat) (x y : AV) (H : AHeap) : Option (AV × AHeap) :=
  match x, slCells es H y with
    | .nilS, some _ => some (I 0, H)
    | .sl es' n off len _, some (k, new) => if es' = es then match H[n]? with
        | some (.cells true l) => if off + len * es ≤ l.length then some (I (min k len : Nat), H.set n (.cells true (splice l off (new.take (min k len * es))))) else none
        | _ => none
      else none
    | _, _ => none
theorem hval_cpy (es : Nat) (x y : Opd) (S : List AV) (H : AHeap) : hval (.cpy es x y) S H = cpA es (rd S x) (rd S y) H := rfl
theorem splice_flat {α : Type} {es : Nat} {e : α → List AV} (he : ∀ x, (e x).length = es) {xs : List α} {i : Nat} (hi : i < xs.length) (z : α) : splice (xs.flatMap e) (i * es) (e z) = (xs.set i z).flatMap e := by
  unfold splice
  have h1 := flatMap_length he (xs.take i)
  rw [List.length_take, Nat.min_eq_left (by omega)] at h1
  have h2 := flatMap_length he (xs.take (i + 1))
  rw [List.length_take, Nat.min_eq_left (by omega)] at h2
  have e1 : (xs.flatMap e).take (i * es) = (xs.take i).flatMap e := by
    conv => lhs; rw [← List.take_append_drop i xs, List.flatMap_append]
    rw [← h1, List.take_left]
  have e2 : (xs.flatMap e).drop (i * es + (e z).length) = (xs.drop (i + 1)).flatMap e := by
    conv => lhs; rw [← List.take_append_drop (i + 1) xs, List.flatMap_append]
    rw [he z, ← Nat.succ_mul, Nat.succ_eq_add_one, ← h2, List.drop_left]
  rw [e1, e2, List.set_eq_take_append_cons_drop, if_pos hi, List.flatMap_append, List.flatMap_cons, List.append_assoc]
/-- A list that the call itself has made and may write. -/
structure OL {α : Type} (es : Nat) (e : α → List AV) (A H : AHeap) (n : Nat) (v : AV) (xs : List α) : Prop where
  he : ∀ x, (e x).length = es
  pre : A <+: H
  new : A.length ≤ n
  ob : H[n]? = some (.cells true (xs.flatMap e))
  v : ∃ full, v = .sl es n 0 xs.length full
section
variable {α : Type} {es : Nat} {e : α → List AV} {A H : AHeap} {n : Nat} {v : AV} {xs : List α}
theorem OL.ls (h : OL es e A H n v xs) : Ls es e H v xs := by
  obtain ⟨he, h1, h2, h3, full, rfl⟩ := h
  refine ⟨he, ?_⟩
  have hl := flatMap_length he xs
  simp only [slCells, cellsAt, h3, if_true, Nat.zero_add]
  rw [if_pos (by omega)]
  simp only [List.drop_zero, Option.map_some, Option.some.injEq, Prod.mk.injEq, true_and]
  rw [← hl, List.take_length]
theorem OL.lt (h : OL es e A H n v xs) : n < H.length := (List.getElem?_eq_some_iff.1 h.ob).1
theorem OL.set (h : OL es e A H n v xs) (i : Nat) (z : α) : OL es e A (H.set n (.cells true ((xs.set i z).flatMap e))) n v (xs.set i z) := by
  have hn := h.lt
  obtain ⟨he, h1, h2, h3, full, rfl⟩ := h
  exact ⟨he, pre_set h1 h2 _, h2, by rw [List.getElem?_set_self hn], full, by simp⟩
theorem OL.st (h : OL es e A H n v xs) {i : Nat} (hi : i < xs.length) (x : AV) (z : α) (hx : x.cells? = some (e z)) : stA es (.ptr (nm v) (of v + i * es)) x H = some (H.set n (.cells true ((xs.set i z).flatMap e))) := by
  obtain ⟨he, h1, h2, h3, full, rfl⟩ := h
  have hl := flatMap_length he xs
  have hle : i * es + es ≤ xs.length * es := by
    rw [← Nat.succ_mul]; exact Nat.mul_le_mul_right _ hi
  simp only [stA, nm, of, hx, h3, Nat.zero_add]
  rw [if_pos ⟨he z, by omega⟩, splice_flat he hi z]
theorem OL.mono {H' : AHeap} (h : OL es e A H n v xs) (hp : H <+: H') : OL es e A H' n v xs := ⟨h.he, h.pre.trans hp, h.new, pre_get hp h.ob, h.v⟩
theorem OL.new_mk (he : ∀ x, (e x).length = es) (A : AHeap) (xs : List α) (full : Bool) : OL es e A (A ++ [.cells true (xs.flatMap e)]) A.length (.sl es A.length 0 xs.length full) xs :=
  ⟨he, pre_app _ _, Nat.le_refl _, by simp, full, rfl⟩
theorem gc_weak {v1 v1' v : AV} {H1 H' : AHeap} (h : ∀ ρ c, VR ρ v1 c → VR ρ v1' c) (g : GC A v1' H1 v H') : GC A v1 H1 v H' :=
  fun ρ w ρ1 w1 cv s0 s1 st hv => g ρ w ρ1 w1 cv s0 s1 st (h ρ1 cv hv)
theorem VR.unfull {ρ : Ren} {es n off len : Nat} {full : Bool} {c : Value} (h : VR ρ (.sl es n off len full) c) : VR ρ (.sl es n off len false) c := by
  cases h with
  | sl _ _ _ _ _ L a cap h1 h2 h3 h4 h5 => exact .sl es n off len false L a cap h1 h2 (fun e => by cases e) h4 h5
theorem OL.acc (h : OL es e A H n v xs) (h0 : 0 < xs.length) : AccL es e A H (.sl es n 0 xs.length false) xs :=
  ⟨h.pre, flatMap_length h.he xs, .inr ⟨h0, n, rfl, h.new, h.ob⟩⟩
theorem OL.gc2 (h : OL es e A H n v xs) (h0 : 0 < xs.length) (hf : ∀ x, ∀ y ∈ e x, flat y = true) (c : AV) (hc : flat c = true) : GC A (.tuple [v, c]) H (.tuple [outV es A xs.length, c]) (outH A (xs.flatMap e) xs.length) := by
  have h1 := (h.acc h0).gc2 hf c hc
  obtain ⟨_, _, _, _, full, rfl⟩ := h
  refine gc_weak (fun ρ cv hv => ?_) h1
  cases hv with
  | tuple _ vs hl hh =>
    refine .tuple _ _ hl (fun i x u hx hu => ?_)
    match i with
    | 0 =>
      simp at hx
      subst hx
      exact VR.unfull (hh 0 _ u rfl hu)
    | i + 1 => exact hh (i + 1) x u (by simpa using hx) hu
end
end Go.Proofs.Ytlmbobbefgcolaa

namespace Go.Proofs.Ytlmbobbefgcolaa
open Go Go.Eng
theorem vW_P7 {P : Int} {ls : List (List Int)} (h : vW P ls = 0) : 1 ≤ P ∧ P ≤ 7 := by
  rcases Decidable.em (1 ≤ P ∧ P ≤ 7) with h1 | h1
  · exact h1
  · rw [vW_P h1] at h; cases h
def covOk (ls : List (List Int)) (os ps : List Int) (i : Nat) : Prop := (i : Int) ∈ os ∨ ∀ p ∈ lst ls i, p ∈ ps
instance (ls : List (List Int)) (os ps : List Int) (i : Nat) : Decidable (covOk ls os ps i) := by unfold covOk; exact inferInstance
def cov (ls : List (List Int)) (os ps : List Int) : Prop := ∀ i, i < ls.length → covOk ls os ps i
instance (ls : List (List Int)) (os ps : List Int) : Decidable (cov ls os ps) := by unfold cov; exact inferInstance
theorem lst_at {ws : List (AV × List Int)} {i : Nat} {x : AV × List Int} (h : ws[i]? = some x) : lst (lists ws) i = x.2 := by
  simp [lst, h]
end Go.Proofs.Ytlmbobbefgcolaa

namespace Go.Proofs.Ytlmbobbefgcolaa
open Go Go.Eng
/-- A list without repetition in another one is no longer. -/
theorem nodup_len {α : Type} [DecidableEq α] : ∀ {l m : List α}, l.Nodup → (∀ x ∈ l, x ∈ m) → l.length ≤ m.length
  | [], _, _, _ => by simp
  | a :: l, m, hn, h => by
    rw [List.nodup_cons] at hn
    have ha := h a (by simp)
    have ih := nodup_len (l := l) (m := m.erase a) hn.2 (fun x hx => by
      have : x ≠ a := fun e => hn.1 (e ▸ hx)
      exact (List.mem_erase_of_ne this).2 (h x (by simp [hx])))
    rw [List.length_erase_of_mem ha] at ih
    have : 0 < m.length := List.length_pos_of_mem ha
    simp only [List.length_cons]
    omega
/-- What an owner has. -/
def has (g : List Int) (k : Nat) : Int := (g[k]?).getD (-1)
theorem has_get {g : List Int} {k : Nat} {p : Int} (h : g[k]? = some p) : has g k = p := by simp [has, h]
theorem map_has (g : List Int) : (List.range g.length).map (has g) = g := by
  apply List.ext_getElem?
  intro i
  rw [List.getElem?_map]
  by_cases h : i < g.length
  · simp [h, has]
  · simp [h]
/-- The owners who are served. -/
def sv (g : List Int) : List Nat := (List.range g.length).filter (fun k => decide (0 ≤ has g k))
theorem mem_sv {g : List Int} {k : Nat} : k ∈ sv g ↔ k < g.length ∧ 0 ≤ has g k := by simp [sv]
theorem given_sv (g : List Int) : given g = (sv g).map (has g) := by
  unfold given sv
  conv => lhs; rw [← map_has g]
  rw [List.filter_map]
  rfl
theorem srv_sv (g : List Int) : srv g = (sv g).length := by
  unfold srv
  rw [List.countP_eq_length_filter]
  have := given_sv g
  unfold given at this
  rw [this, List.length_map]
theorem sv_nodup (g : List Int) : (sv g).Nodup := List.Pairwise.filter _ List.nodup_range
/-- What a right giving is. -/
structure Good (P : Int) (ls : List (List Int)) (g : List Int) : Prop where
  len : g.length = ls.length
  rng : ∀ k, k < ls.length → -1 ≤ has g k ∧ has g k < P
  wish : ∀ k, k < ls.length → 0 ≤ has g k → has g k ∈ lst ls k
  inj : ∀ i j, i < ls.length → j < ls.length → 0 ≤ has g i → has g i = has g j → i = j
theorem nodup_map_inj {α β : Type} {f : α → β} : ∀ {l : List α}, l.Nodup → ((l.map f).Nodup ↔ ∀ a ∈ l, ∀ b ∈ l, f a = f b → a = b)
  | [], _ => by simp
  | x :: l, hn => by
    rw [List.nodup_cons] at hn
    rw [List.map_cons, List.nodup_cons, nodup_map_inj hn.2]
    constructor
    · rintro ⟨h1, h2⟩ a ha b hb hab
      rcases List.mem_cons.1 ha with ea | ha'
      · rcases List.mem_cons.1 hb with eb | hb'
        · rw [ea, eb]
        · exact absurd (List.mem_map.2 ⟨b, hb', by rw [← hab, ea]⟩) h1
      · rcases List.mem_cons.1 hb with eb | hb'
        · exact absurd (List.mem_map.2 ⟨a, ha', by rw [hab, eb]⟩) h1
        · exact h2 a ha' b hb' hab
    · intro h
      refine ⟨fun hx => ?_, fun a ha b hb => h a (by simp [ha]) b (by simp [hb])⟩
      obtain ⟨b, hb, hab⟩ := List.mem_map.1 hx
      have := h b (by simp [hb]) x (by simp) hab
      subst this
      exact hn.1 hb
theorem lst_nat {ls : List (List Int)} {k : Nat} : lst ls (k : Int) = (ls[k]?).getD [] := by simp [lst]
theorem filter_split {α : Type} (p : α → Bool) (l : List α) : l.length = (l.filter p).length + (l.filter (fun x => !p x)).length := by
  induction l with
  | nil => rfl
  | cons a l ih => by_cases h : p a <;> simp [h] <;> omega
end Go.Proofs.Ytlmbobbefgcolaa

namespace Go.Proofs.Ytlmbobbefgcolaa
open Go Go.Eng
abbrev St := List Bool × List Int
/-- Whether a place has been seen. -/
def sn (b : List Bool) (p : Int) : Bool := (b[p.toNat]?).getD true
def goF (rec : Int → St → Bool × St) (i : Int) : List Int → St → Bool × St
  | [], s => (false, s)
  | p :: ps, s =>
    if sn s.1 p = true then goF rec i ps s
    else if fpos (fun y => decide (p = y)) s.2 < 0 then (true, (s.1.set p.toNat true, s.2.set i.toNat p))
    else if (rec (fpos (fun y => decide (p = y)) s.2) (s.1.set p.toNat true, s.2)).1 = true then
      (true, ((rec (fpos (fun y => decide (p = y)) s.2) (s.1.set p.toNat true, s.2)).2.1, (rec (fpos (fun y => decide (p = y)) s.2) (s.1.set p.toNat true, s.2)).2.2.set i.toNat p))
    else goF rec i ps (rec (fpos (fun y => decide (p = y)) s.2) (s.1.set p.toNat true, s.2)).2
/-- A chain of changes. -/
def chF (ls : List (List Int)) : Nat → Int → St → Bool × St
  | 0, _, s => (false, s)
  | m + 1, i, s => goF (chF ls m) i (lst ls i) s
def unseen (b : List Bool) : Nat := b.count false
theorem sn_set {b : List Bool} {p q : Int} (hq : 0 ≤ q) (hp : 0 ≤ p) : sn (b.set p.toNat true) q = (decide (q = p) || sn b q) := by
  unfold sn
  rw [List.getElem?_set]
  by_cases h : p.toNat = q.toNat
  · have : q = p := by omega
    subst this
    by_cases h2 : q.toNat < b.length <;> simp [h2]
  · have : q ≠ p := by omega
    simp [h, this]
theorem unseen_set {b : List Bool} {p : Int} (h : sn b p = false) : unseen (b.set p.toNat true) + 1 = unseen b := by
  unfold sn at h
  unfold unseen
  generalize p.toNat = k at *
  induction b generalizing k with
  | nil => simp at h
  | cons a b ih =>
    cases k with
    | zero =>
      simp at h
      subst h
      simp
    | succ k =>
      have := ih k (by simpa using h)
      rw [List.set_cons_succ]
      cases a <;> simp <;> omega
/-- What a call of the chain tells. -/
structure Post (P : Int) (ls : List (List Int)) (i : Int) (ps : List Int) (s : St) (r : Bool × St) : Prop where
  len : r.2.1.length = s.1.length
  mono : ∀ q, 0 ≤ q → sn s.1 q = true → sn r.2.1 q = true
  cnt : unseen r.2.1 ≤ unseen s.1
  no : r.1 = false → r.2.2 = s.2 ∧ (∀ p ∈ ps, sn r.2.1 p = true) ∧ ∀ p, 0 ≤ p → sn r.2.1 p = true → sn s.1 p = false → ∃ h : Nat, h < ls.length ∧ has s.2 h = p ∧ ∀ q ∈ lst ls h, sn r.2.1 q = true
  yes : r.1 = true → Good P ls r.2.2 ∧ (0 ≤ has r.2.2 i.toNat ∧ sn s.1 (has r.2.2 i.toNat) = false) ∧ ∀ k, k < ls.length → has r.2.2 k = has s.2 k ∨ (0 ≤ has r.2.2 k ∧ sn s.1 (has r.2.2 k) = false)
theorem has_set {g : List Int} {i k : Nat} {p : Int} (hi : i < g.length) : has (g.set i p) k = if k = i then p else has g k := by
  unfold has
  rw [List.getElem?_set]
  by_cases h : i = k
  · subst h; simp [hi]
  · have : k ≠ i := fun e => h e.symm
    simp [h, this]
theorem good_set {P : Int} {ls : List (List Int)} {g : List Int} (hg : Good P ls g) {i : Nat} {p : Int} (hi : i < ls.length) (hp : inP P p) (hw : p ∈ lst ls i) (hfree : ∀ k, k < ls.length → k ≠ i → has g k ≠ p) : Good P ls (g.set i p) := by
  have hi' : i < g.length := by rw [hg.len]; exact hi
  refine ⟨by simp [hg.len], fun k hk => ?_, fun k hk => ?_, fun a b ha hb => ?_⟩
  · rw [has_set hi']
    split
    · have := hp.1; have := hp.2; omega
    · exact hg.rng k hk
  · rw [has_set hi']
    split
    · rename_i h; subst h; intro _; exact hw
    · exact hg.wish k hk
  · rw [has_set hi', has_set hi']
    by_cases h1 : a = i
    · by_cases h2 : b = i
      · intro _ _; omega
      · rw [if_pos h1, if_neg h2]
        intro _ h; exact absurd h.symm (hfree b hb h2)
    · by_cases h2 : b = i
      · rw [if_neg h1, if_pos h2]
        intro _ h; exact absurd h (hfree a ha h1)
      · rw [if_neg h1, if_neg h2]
        exact hg.inj a b ha hb
theorem fpos_neg {p : Int} {g : List Int} (h : fpos (fun y => decide (p = y)) g < 0) : p ∉ g := by
  intro hp
  have := (fpos_iff (fun y => decide (p = y)) g).2 (by simpa using hp)
  omega
theorem fpos_get {p : Int} {g : List Int} (h : ¬ fpos (fun y => decide (p = y)) g < 0) : ∃ k : Nat, k < g.length ∧ fpos (fun y => decide (p = y)) g = k ∧ has g k = p := by
  unfold fpos at h ⊢
  cases hf : g.findIdx? (fun y => decide (p = y)) with
  | none => rw [hf] at h; simp at h
  | some k =>
    rw [List.findIdx?_eq_some_iff_getElem] at hf
    obtain ⟨h1, h2, _⟩ := hf
    have h3 : p = g[k] := by simpa using h2
    exact ⟨k, h1, rfl, by rw [h3]; exact has_get (List.getElem?_eq_getElem h1)⟩
theorem has_mem {g : List Int} {k : Nat} (hk : k < g.length) : has g k ∈ g := by
  rw [has_get (List.getElem?_eq_getElem hk)]; exact List.getElem_mem hk
theorem goF_spec {P : Int} {ls : List (List Int)} (hls : ∀ l ∈ ls, ∀ p ∈ l, inP P p) {rec : Int → St → Bool × St} {m : Nat}
    (hrec : ∀ (i : Int) (s : St), inP ls.length i → Good P ls s.2 → s.1.length = P.toNat → unseen s.1 < m → Post P ls i (lst ls i) s (rec i s)) {i : Int} (hi : inP ls.length i) :
    ∀ (ps : List Int) (s : St), (∀ p ∈ ps, p ∈ lst ls i ∧ inP P p) → Good P ls s.2 → s.1.length = P.toNat → unseen s.1 < m + 1 → Post P ls i ps s (goF rec i ps s)
  | [], s, _, _, _, _ => ⟨rfl, fun _ _ h => h, Nat.le_refl _, fun _ => ⟨rfl, by simp [goF], fun p hp h1 h2 => by simp [goF] at h1; rw [h1] at h2; cases h2⟩, fun h => by simp [goF] at h⟩
  | p :: ps, s, hps, hg, hlen, hcnt => by
    have hi0 : ((i.toNat : Nat) : Int) = i := by have := hi.1; omega
    have hil : i.toNat < ls.length := by have := hi.1; have := hi.2; omega
    have hp := hps p (by simp)
    have ih := fun s hg hlen hcnt => goF_spec hls hrec hi ps s (fun q hq => hps q (by simp [hq])) hg hlen hcnt
    unfold goF
    by_cases hsn : sn s.1 p = true
    · rw [if_pos hsn]
      have h := ih s hg hlen hcnt
      refine ⟨h.len, h.mono, h.cnt, fun e => ?_, h.yes⟩
      obtain ⟨h1, h2, h3⟩ := h.no e
      refine ⟨h1, fun q hq => ?_, h3⟩
      rcases List.mem_cons.1 hq with rfl | hq
      · exact h.mono _ hp.2.1 hsn
      · exact h2 q hq
    · rw [if_neg hsn]
      have hsn' : sn s.1 p = false := by simpa using hsn
      have hun := unseen_set hsn'
      have hmono1 : ∀ q, 0 ≤ q → sn s.1 q = true → sn (s.1.set p.toNat true) q = true := fun q hq h => by rw [sn_set hq hp.2.1, h, Bool.or_true]
      have hself : sn (s.1.set p.toNat true) p = true := by rw [sn_set hp.2.1 hp.2.1]; simp
      by_cases hf : fpos (fun y => decide (p = y)) s.2 < 0
      · rw [if_pos hf]
        have hnot := fpos_neg hf
        have hgs := good_set hg hil hp.2 (by rw [hi0]; exact hp.1) (fun k hk _ e => hnot (by rw [← e]; exact has_mem (by rw [hg.len]; exact hk)))
        have hi' : i.toNat < s.2.length := by rw [hg.len]; exact hil
        refine ⟨by simp, hmono1, by simp only; omega, fun e => by simp at e, fun _ => ⟨hgs, ?_, fun k hk => ?_⟩⟩
        · simp only
          rw [has_set hi', if_pos rfl]
          exact ⟨hp.2.1, hsn'⟩
        · simp only
          rw [has_set hi']
          split
          · exact .inr ⟨hp.2.1, hsn'⟩
          · exact .inl rfl
      · rw [if_neg hf]
        obtain ⟨h, hh1, hh2, hh3⟩ := fpos_get hf
        have hhl : h < ls.length := by rw [← hg.len]; exact hh1
        have hR := hrec (h : Int) (s.1.set p.toNat true, s.2) ⟨by omega, by omega⟩ hg (by simp [hlen]) (by simp only; omega)
        rw [hh2]
        generalize rec (h : Int) (s.1.set p.toNat true, s.2) = r at *
        by_cases hr : r.1 = true
        · rw [if_pos hr]
          obtain ⟨y1, y2, y3⟩ := hR.yes hr
          simp only at y2 y3
          rw [Int.toNat_natCast] at y2
          have hfree : ∀ k, k < ls.length → has r.2.2 k ≠ p := fun k hk e => by
            rcases y3 k hk with h4 | h4
            · have : k = h := hg.inj k h hk hhl (by rw [← h4, e]; exact hp.2.1) (by rw [← h4, e, hh3])
              subst this
              rw [e, hself] at y2
              cases y2.2
            · rw [e, hself] at h4; cases h4.2
          have hgs := good_set y1 hil hp.2 (by rw [hi0]; exact hp.1) (fun k hk _ => hfree k hk)
          have hi' : i.toNat < r.2.2.length := by rw [y1.len]; exact hil
          refine ⟨by simp only; rw [hR.len]; simp, fun q hq hs => hR.mono q hq (hmono1 q hq hs), by have := hR.cnt; simp only at *; omega, fun e => by simp at e, fun _ => ⟨hgs, ?_, fun k hk => ?_⟩⟩
          · simp only
            rw [has_set hi', if_pos rfl]
            exact ⟨hp.2.1, hsn'⟩
          · simp only
            rw [has_set hi']
            split
            · exact .inr ⟨hp.2.1, hsn'⟩
            · rcases y3 k hk with h4 | h4
              · exact .inl h4
              · refine .inr ⟨h4.1, ?_⟩
                cases hs : sn s.1 (has r.2.2 k) with
                | false => rfl
                | true => rw [hmono1 _ h4.1 hs] at h4; cases h4.2
        · rw [if_neg hr]
          have hr' : r.1 = false := by simpa using hr
          obtain ⟨n1, n2, n3⟩ := hR.no hr'
          simp only at n1 n3
          have hc := hR.cnt
          simp only at hc
          have h := ih r.2 (by rw [n1]; exact hg) (by rw [hR.len]; simp [hlen]) (by omega)
          have hm2 : ∀ q, 0 ≤ q → sn s.1 q = true → sn r.2.1 q = true := fun q hq hs => hR.mono q hq (hmono1 q hq hs)
          refine ⟨by rw [h.len, hR.len]; simp, fun q hq hs => h.mono q hq (hm2 q hq hs), by have := h.cnt; omega, fun e => ?_, fun e => ?_⟩
          · obtain ⟨k1, k2, k3⟩ := h.no e
            refine ⟨by rw [k1, n1], fun q hq => ?_, fun q hq h1 h2 => ?_⟩
            · rcases List.mem_cons.1 hq with rfl | hq
              · exact h.mono _ hp.2.1 (hR.mono _ hp.2.1 hself)
              · exact k2 q hq
            · by_cases h3 : sn r.2.1 q = true
              · have up : ∀ (t : Nat), (∀ w ∈ lst ls t, sn r.2.1 w = true) → t < ls.length → ∀ w ∈ lst ls t, sn (goF rec i ps r.2).2.1 w = true := fun t ht htl w hw => by
                  refine h.mono w ?_ (ht w hw)
                  have hml : lst ls t ∈ ls := by
                    rw [lst_nat, List.getElem?_eq_getElem htl]; exact List.getElem_mem htl
                  exact (hls _ hml w hw).1
                by_cases h4 : q = p
                · subst h4
                  exact ⟨_, hhl, hh3, up _ n2 hhl⟩
                · obtain ⟨t, t1, t2, t3⟩ := n3 q hq h3 (by rw [sn_set hq hp.2.1, h2]; simp [h4])
                  exact ⟨t, t1, t2, up t t3 t1⟩
              · obtain ⟨t, t1, t2, t3⟩ := k3 q hq h1 (by simpa using h3)
                exact ⟨t, t1, by rw [← n1]; exact t2, t3⟩
          · obtain ⟨k1, k2, k3⟩ := h.yes e
            have unsee : ∀ q, 0 ≤ q → sn r.2.1 q = false → sn s.1 q = false := fun q hq h1 => by
              cases hs : sn s.1 q with
              | false => rfl
              | true => rw [hm2 q hq hs] at h1; cases h1
            refine ⟨k1, ⟨k2.1, unsee _ k2.1 k2.2⟩, fun k hk => ?_⟩
            rcases k3 k hk with h4 | h4
            · exact .inl (by rw [h4, n1])
            · exact .inr ⟨h4.1, unsee _ h4.1 h4.2⟩
theorem lst_in {P : Int} {ls : List (List Int)} (hls : ∀ l ∈ ls, ∀ p ∈ l, inP P p) {i : Int} {p : Int} (h : p ∈ lst ls i) : inP P p := by
  unfold lst at h
  cases hl : ls[i.toNat]? with
  | none => rw [hl] at h; simp at h
  | some l => rw [hl] at h; exact hls l (List.mem_of_getElem? hl) p h
theorem chF_spec {P : Int} {ls : List (List Int)} (hls : ∀ l ∈ ls, ∀ p ∈ l, inP P p) : ∀ (m : Nat) (i : Int) (s : St), inP ls.length i → Good P ls s.2 → s.1.length = P.toNat → unseen s.1 < m → Post P ls i (lst ls i) s (chF ls m i s)
  | 0, _, _, _, _, _, h => by omega
  | m + 1, i, s, hi, hg, hlen, hcnt => goF_spec hls (chF_spec hls m) hi (lst ls i) s (fun p hp => ⟨hp, lst_in hls hp⟩) hg hlen hcnt
/-- Owners all of whose places are held by owners among them. -/
def Stuck (ls : List (List Int)) (g : List Int) (T : Nat → Prop) : Prop := ∀ i, i < ls.length → T i → ∀ p ∈ lst ls i, ∃ h, h < ls.length ∧ T h ∧ has g h = p
/-- A list without repetition in another one that is no longer has all of it. -/
theorem nodup_cover {α : Type} [DecidableEq α] {l m : List α} (hn : l.Nodup) (h : ∀ x ∈ l, x ∈ m) (hl : m.length ≤ l.length) : ∀ x ∈ m, x ∈ l := by
  intro x hx
  rcases Decidable.em (x ∈ l) with h1 | h1
  · exact h1
  · have := nodup_len hn (m := m.erase x) (fun y hy => (List.mem_erase_of_ne (show y ≠ x from fun e => h1 (e ▸ hy))).2 (h y hy))
    rw [List.length_erase_of_mem hx] at this
    have := List.length_pos_of_mem hx
    omega
noncomputable def dec (T : Nat → Prop) (k : Nat) : Bool := @decide (T k) (Classical.propDecidable _)
theorem dec_iff {T : Nat → Prop} {k : Nat} : dec T k = true ↔ T k := by unfold dec; exact @decide_eq_true_iff _ (Classical.propDecidable _)
/-- The served ones among some, and what they wish. -/
noncomputable def svT (g : List Int) (T : Nat → Prop) : List Nat := (sv g).filter (dec T)
noncomputable def wT (P : Int) (ls : List (List Int)) (T : Nat → Prop) : List Int := (nums P.toNat).filter (fun p => @decide (∃ i, i < ls.length ∧ T i ∧ p ∈ lst ls i) (Classical.propDecidable _))
theorem mem_wT {P : Int} {ls : List (List Int)} {T : Nat → Prop} {p : Int} : p ∈ wT P ls T ↔ inP P p ∧ ∃ i, i < ls.length ∧ T i ∧ p ∈ lst ls i := by
  unfold wT inP
  rw [List.mem_filter, mem_nums]
  rw [@decide_eq_true_iff _ (Classical.propDecidable _)]
  constructor
  · rintro ⟨h1, h2⟩; exact ⟨by omega, h2⟩
  · rintro ⟨h1, h2⟩; exact ⟨by omega, h2⟩
theorem mem_svT {P : Int} {ls : List (List Int)} {g : List Int} (hg : Good P ls g) {T : Nat → Prop} {k : Nat} : k ∈ svT g T ↔ k < ls.length ∧ 0 ≤ has g k ∧ T k := by
  unfold svT
  rw [List.mem_filter, mem_sv, dec_iff, hg.len, and_assoc]
theorem nums_nodup (n : Nat) : (nums n).Nodup := by
  unfold nums
  rw [nodup_map_inj List.nodup_range]
  intro a _ b _ h
  omega
theorem svT_map_nodup {P : Int} {ls : List (List Int)} {g : List Int} (hg : Good P ls g) (T : Nat → Prop) : ((svT g T).map (has g)).Nodup := by
  rw [nodup_map_inj (show (svT g T).Nodup from List.Pairwise.filter _ (sv_nodup g))]
  intro a ha b hb h
  have ha := (mem_svT hg).1 ha
  have hb := (mem_svT hg).1 hb
  exact hg.inj a b ha.1 hb.1 ha.2.1 h
theorem svT_sub {P : Int} {ls : List (List Int)} {g : List Int} (hg : Good P ls g) (T : Nat → Prop) : ∀ p ∈ (svT g T).map (has g), p ∈ wT P ls T := by
  intro p hp
  obtain ⟨k, hk, rfl⟩ := List.mem_map.1 hp
  have hk := (mem_svT hg).1 hk
  exact mem_wT.2 ⟨⟨hk.2.1, (hg.rng k hk.1).2⟩, k, hk.1, hk.2.2, hg.wish k hk.1 hk.2.1⟩
theorem stuck_len {P : Int} {ls : List (List Int)} {g : List Int} (hg : Good P ls g) {T : Nat → Prop} (hs : Stuck ls g T) : (wT P ls T).length ≤ (svT g T).length := by
  have := nodup_len (l := wT P ls T) (m := (svT g T).map (has g)) (List.Pairwise.filter _ (nums_nodup _)) (fun p hp => by
    obtain ⟨h1, i, hi, hT, hpi⟩ := mem_wT.1 hp
    obtain ⟨h, h2, h3, h4⟩ := hs i hi hT p hpi
    exact List.mem_map.2 ⟨h, (mem_svT hg).2 ⟨h2, by rw [h4]; exact h1.1, h3⟩, h4⟩)
  simpa using this
theorem filter_len_mono {α : Type} {p q : α → Bool} {l : List α} (h : ∀ x ∈ l, p x = true → q x = true) : (l.filter p).length ≤ (l.filter q).length := by
  induction l with
  | nil => simp
  | cons a l ih =>
    have ih := ih (fun x hx => h x (by simp [hx]))
    have ha := h a (by simp)
    simp only [List.filter_cons]
    by_cases h1 : p a = true
    · rw [if_pos h1, if_pos (ha h1)]; simpa using ih
    · rw [if_neg h1]
      split
      · simp only [List.length_cons]; omega
      · exact ih
theorem svT_filter {P : Int} {ls : List (List Int)} {g : List Int} (hg : Good P ls g) (T : Nat → Prop) : svT g T = (List.range ls.length).filter (fun k => decide (0 ≤ has g k) && dec T k) := by
  unfold svT sv
  rw [List.filter_filter, hg.len]
  congr 1
  funext k
  exact Bool.and_comm _ _
theorem stuck_keep {P : Int} {ls : List (List Int)} (hls : ∀ l ∈ ls, ∀ p ∈ l, inP P p) {g g' : List Int} (hg : Good P ls g) (hg' : Good P ls g') (hk : ∀ k, k < ls.length → 0 ≤ has g k → 0 ≤ has g' k) {T : Nat → Prop} (hs : Stuck ls g T) : Stuck ls g' T := by
  have h1 := stuck_len hg hs
  have h2 : (svT g T).length ≤ (svT g' T).length := by
    rw [svT_filter hg, svT_filter hg']
    refine filter_len_mono (fun k hk' h => ?_)
    simp only [Bool.and_eq_true, decide_eq_true_eq] at h ⊢
    exact ⟨hk k (List.mem_range.1 hk') h.1, h.2⟩
  intro i hi hT p hp
  have hc := nodup_cover (svT_map_nodup hg' T) (svT_sub hg' T) (by rw [List.length_map]; omega) p
  have hin : inP P p := lst_in hls hp
  obtain ⟨k, hk1, hk2⟩ := List.mem_map.1 (hc (mem_wT.2 ⟨hin, i, hi, hT, hp⟩))
  have hk1 := (mem_svT hg').1 hk1
  exact ⟨k, hk1.1, hk1.2.2, hk2⟩
end Go.Proofs.Ytlmbobbefgcolaa

namespace Go.Proofs.Ytlmbobbefgcolaa
open Go Go.Eng
def flStep (P : Int) (ls : List (List Int)) (g : List Int) (i : Nat) : List Int := if has g i < 0 then (chF ls (P.toNat + 1) i (List.replicate P.toNat false, g)).2.2 else g
/-- A giving, filled. -/
def flF (P : Int) (ls : List (List Int)) (g : List Int) : List Int := (List.range ls.length).foldl (flStep P ls) g
theorem sn_new {P p : Int} (h : inP P p) : sn (List.replicate P.toNat false) p = false := by
  unfold sn
  rw [List.getElem?_replicate, if_pos (by have := h.1; have := h.2; omega)]
  rfl
theorem fl_step {P : Int} {ls : List (List Int)} (hls : ∀ l ∈ ls, ∀ p ∈ l, inP P p) {g : List Int} (hg : Good P ls g) {i : Nat} (hi : i < ls.length) :
    Good P ls (flStep P ls g i) ∧ (∀ k, k < ls.length → 0 ≤ has g k → 0 ≤ has (flStep P ls g i) k) ∧ (has (flStep P ls g i) i < 0 → ∃ T : Nat → Prop, T i ∧ Stuck ls (flStep P ls g i) T) := by
  unfold flStep
  by_cases h : has g i < 0
  · rw [if_pos h]
    have hpost := chF_spec hls (P.toNat + 1) i (List.replicate P.toNat false, g) ⟨by omega, by omega⟩ hg (by simp) (by simp [unseen])
    generalize chF ls (P.toNat + 1) i (List.replicate P.toNat false, g) = r at *
    by_cases hr : r.1 = true
    · obtain ⟨y1, y2, y3⟩ := hpost.yes hr
      rw [Int.toNat_natCast] at y2
      refine ⟨y1, fun k hk h0 => ?_, fun h1 => absurd y2.1 (by omega)⟩
      rcases y3 k hk with h4 | h4
      · rw [h4]; exact h0
      · exact h4.1
    · obtain ⟨n1, n2, n3⟩ := hpost.no (by simpa using hr)
      simp only at n1 n3
      rw [n1]
      refine ⟨hg, fun k _ h0 => h0, fun _ => ⟨fun k => k = i ∨ (0 ≤ has g k ∧ sn r.2.1 (has g k) = true), .inl rfl, ?_⟩⟩
      have held : ∀ p, inP P p → sn r.2.1 p = true → ∃ h : Nat, h < ls.length ∧ has g h = p ∧ ∀ q ∈ lst ls h, sn r.2.1 q = true := fun p hp hs => n3 p hp.1 hs (sn_new hp)
      intro j hj hT p hp
      have hin := lst_in hls hp
      have hseen : sn r.2.1 p = true := by
        rcases hT with rfl | ⟨h0, hs⟩
        · exact n2 p hp
        · obtain ⟨t, t1, t2, t3⟩ := held (has g j) ⟨h0, (hg.rng j hj).2⟩ hs
          have : j = t := hg.inj j t hj t1 h0 t2.symm
          subst this
          exact t3 p hp
      obtain ⟨t, t1, t2, _⟩ := held p hin hseen
      exact ⟨t, t1, .inr ⟨by rw [t2]; exact hin.1, by rw [t2]; exact hseen⟩, t2⟩
  · rw [if_neg h]
    exact ⟨hg, fun k _ h0 => h0, fun h1 => absurd h1 h⟩
theorem fl_inv {P : Int} {ls : List (List Int)} (hls : ∀ l ∈ ls, ∀ p ∈ l, inP P p) {g : List Int} (hg : Good P ls g) : ∀ k, k ≤ ls.length →
    Good P ls ((List.range k).foldl (flStep P ls) g) ∧ (∀ i, i < ls.length → 0 ≤ has g i → 0 ≤ has ((List.range k).foldl (flStep P ls) g) i) ∧ (∀ i, i < k → has ((List.range k).foldl (flStep P ls) g) i < 0 → ∃ T : Nat → Prop, T i ∧ Stuck ls ((List.range k).foldl (flStep P ls) g) T)
  | 0, _ => ⟨hg, fun _ _ h => h, fun i h => by omega⟩
  | k + 1, hk => by
    obtain ⟨h1, h2, h3⟩ := fl_inv hls hg k (by omega)
    rw [List.range_succ, List.foldl_append, List.foldl_cons, List.foldl_nil]
    generalize (List.range k).foldl (flStep P ls) g = gk at *
    obtain ⟨s1, s2, s3⟩ := fl_step hls h1 (show k < ls.length by omega)
    refine ⟨s1, fun i hi h0 => s2 i hi (h2 i hi h0), fun i hi hn => ?_⟩
    by_cases hik : i = k
    · subst hik; exact s3 hn
    · have hn' : has gk i < 0 := by
        rcases Int.lt_or_le (has gk i) 0 with h | h
        · exact h
        · have := s2 i (by omega) h; omega
      obtain ⟨T, t1, t2⟩ := h3 i (by omega) hn'
      exact ⟨T, t1, stuck_keep hls h1 s1 s2 t2⟩
theorem stuck_max {P : Int} {ls : List (List Int)} {g : List Int} (hg : Good P ls g) {T : Nat → Prop} (hs : Stuck ls g T) (hT : ∀ i, i < ls.length → has g i < 0 → T i) {g2 : List Int} (hg2 : Good P ls g2) : srv g2 ≤ srv g := by
  have h1 := stuck_len hg hs
  have h2 : (svT g2 T).length ≤ (wT P ls T).length := by
    have := nodup_len (svT_map_nodup hg2 T) (svT_sub hg2 T)
    rwa [List.length_map] at this
  have e1 := filter_split (dec T) (sv g)
  have e2 := filter_split (dec T) (sv g2)
  have h3 : ((sv g2).filter (fun x => !dec T x)).length ≤ ((List.range ls.length).filter (fun x => !dec T x)).length := by
    unfold sv
    rw [List.filter_filter, hg2.len]
    exact filter_len_mono (fun x _ h => by simp only [Bool.and_eq_true] at h; exact h.1)
  have h4 : ((List.range ls.length).filter (fun x => !dec T x)).length ≤ ((sv g).filter (fun x => !dec T x)).length := by
    unfold sv
    rw [List.filter_filter, hg.len]
    refine filter_len_mono (fun x hx h => ?_)
    simp only [Bool.and_eq_true, decide_eq_true_eq]
    refine ⟨h, ?_⟩
    rcases Int.lt_or_le (has g x) 0 with h5 | h5
    · have := dec_iff.2 (hT x (List.mem_range.1 hx) h5)
      rw [this] at h; cases h
    · exact h5
  rw [srv_sv, srv_sv, e1, e2]
  show (svT g2 T).length + _ ≤ (svT g T).length + _
  omega
theorem stuck_union {ls : List (List Int)} {g : List Int} : Stuck ls g (fun k => ∃ T : Nat → Prop, Stuck ls g T ∧ T k) := by
  rintro i hi ⟨T, hT, hTi⟩ p hp
  obtain ⟨h, h1, h2, h3⟩ := hT i hi hTi p hp
  exact ⟨h, h1, ⟨T, hT, h2⟩, h3⟩
theorem fl_max {P : Int} {ls : List (List Int)} (hls : ∀ l ∈ ls, ∀ p ∈ l, inP P p) {g : List Int} (hg : Good P ls g) :
    Good P ls (flF P ls g) ∧ (∀ i, i < ls.length → 0 ≤ has g i → 0 ≤ has (flF P ls g) i) ∧ ∀ g2, Good P ls g2 → srv g2 ≤ srv (flF P ls g) := by
  obtain ⟨h1, h2, h3⟩ := fl_inv hls hg ls.length (Nat.le_refl _)
  refine ⟨h1, h2, fun g2 hg2 => stuck_max h1 stuck_union (fun i hi hn => ?_) hg2⟩
  obtain ⟨T, t1, t2⟩ := h3 i hi hn
  exact ⟨T, t2, t1⟩
theorem good_none (P : Int) (hP : 0 ≤ P) (ls : List (List Int)) : Good P ls (List.replicate ls.length (-1)) := by
  have h : ∀ k, has (List.replicate ls.length (-1)) k = -1 := by
    intro k
    unfold has
    rw [List.getElem?_replicate]
    split <;> rfl
  refine ⟨by simp, fun k _ => by rw [h]; omega, fun k _ h0 => by rw [h] at h0; omega, fun i j _ _ h0 => by rw [h] at h0; omega⟩
/-- The most. -/
def most (P : Int) (ls : List (List Int)) : Nat := srv (flF P ls (List.replicate ls.length (-1)))
theorem most_spec {P : Int} (hP : 0 ≤ P) {ls : List (List Int)} (hls : ∀ l ∈ ls, ∀ p ∈ l, inP P p) : (∃ g, Good P ls g ∧ srv g = most P ls) ∧ ∀ g, Good P ls g → srv g ≤ most P ls := by
  obtain ⟨h1, _, h3⟩ := fl_max hls (good_none P hP ls)
  exact ⟨⟨_, h1, rfl⟩, h3⟩
theorem most_eq {P : Int} (hP : 0 ≤ P) {ls : List (List Int)} (hls : ∀ l ∈ ls, ∀ p ∈ l, inP P p) {m : Nat} (h1 : ∃ g, Good P ls g ∧ srv g = m) (h2 : ∀ g, Good P ls g → srv g ≤ m) : most P ls = m := by
  obtain ⟨⟨g, k1, k2⟩, k3⟩ := most_spec hP hls
  obtain ⟨g', k4, k5⟩ := h1
  have := h2 g k1
  have := k3 g' k4
  omega
end Go.Proofs.Ytlmbobbefgcolaa

namespace Go.Proofs.Ytlmbobbefgcolaa
open Go Go.Eng
/-- How many bits. -/
def pc (s : Nat) : Nat := if h : s = 0 then 0 else s % 2 + pc (s / 2)
termination_by s
theorem pc_0 : pc 0 = 0 := by unfold pc; simp
theorem pc_eq (s : Nat) : pc s = s % 2 + pc (s / 2) := by
  by_cases h : s = 0
  · subst h; simp [pc_0]
  · conv => lhs; unfold pc
    rw [dif_neg h]
theorem tb_succ (x i : Nat) : x.testBit (i + 1) = (x / 2).testBit i := Nat.testBit_succ x i
theorem tb_zero (x : Nat) : x.testBit 0 = decide (x % 2 = 1) := Nat.testBit_zero x
theorem pc_add : ∀ (p s : Nat), s.testBit p = false → pc (s + 2 ^ p) = pc s + 1
  | 0, s, h => by
    rw [tb_zero, decide_eq_false_iff_not] at h
    rw [pc_eq (s + 2 ^ 0), pc_eq s]
    have : (s + 2 ^ 0) / 2 = s / 2 := by omega
    rw [this]; omega
  | p + 1, s, h => by
    rw [tb_succ] at h
    have ih := pc_add p (s / 2) h
    rw [pc_eq (s + 2 ^ (p + 1)), pc_eq s]
    have h1 : (s + 2 ^ (p + 1)) / 2 = s / 2 + 2 ^ p := by rw [Nat.pow_succ]; omega
    have h2 : (s + 2 ^ (p + 1)) % 2 = s % 2 := by rw [Nat.pow_succ]; omega
    rw [h1, h2, ih]; omega
theorem tb_add : ∀ (p s q : Nat), s.testBit p = false → (s + 2 ^ p).testBit q = (s.testBit q || decide (q = p))
  | 0, s, q, h => by
    rw [tb_zero, decide_eq_false_iff_not] at h
    cases q with
    | zero => rw [tb_zero, tb_zero]; simp; omega
    | succ q =>
      rw [tb_succ, tb_succ]
      have : (s + 2 ^ 0) / 2 = s / 2 := by omega
      rw [this]; simp
  | p + 1, s, q, h => by
    rw [tb_succ] at h
    have h1 : (s + 2 ^ (p + 1)) / 2 = s / 2 + 2 ^ p := by rw [Nat.pow_succ]; omega
    have h2 : (s + 2 ^ (p + 1)) % 2 = s % 2 := by rw [Nat.pow_succ]; omega
    cases q with
    | zero => rw [tb_zero, tb_zero, h2]; simp
    | succ q => rw [tb_succ, tb_succ, h1, tb_add p (s / 2) q h]; simp
theorem tb_sub : ∀ (p t : Nat), t.testBit p = true → ∃ s, s.testBit p = false ∧ t = s + 2 ^ p
  | 0, t, h => by
    rw [tb_zero, decide_eq_true_eq] at h
    exact ⟨t - 1, by rw [tb_zero]; simp; omega, by omega⟩
  | p + 1, t, h => by
    rw [tb_succ] at h
    obtain ⟨s, h1, h2⟩ := tb_sub p (t / 2) h
    refine ⟨2 * s + t % 2, ?_, by rw [Nat.pow_succ]; omega⟩
    rw [tb_succ, show (2 * s + t % 2) / 2 = s by omega]
    exact h1
/-- The sets that can be given, owner after owner; one owner is left out. -/
def cb (f : Nat → Bool) (l : List Int) (t : Nat) : Bool := f t || l.any (fun p => t.testBit p.toNat && f (t - 2 ^ p.toNat))
def cF (ls : List (List Int)) (wo : Int) : Nat → Nat → Bool
  | 0, t => t == 0
  | i + 1, t => if (i : Int) = wo then cF ls wo i t else cb (cF ls wo i) (lst ls i) t
/-- The places that are given, as bits. -/
def mask (g : List Int) : Nat := ((given g).map (fun p => 2 ^ p.toNat)).sum
/-- A giving to the first owners. -/
structure Pre (ls : List (List Int)) (wo : Int) (i : Nat) (g : List Int) : Prop where
  len : g.length = i
  low : ∀ k, k < i → -1 ≤ has g k
  wish : ∀ k, k < i → 0 ≤ has g k → has g k ∈ lst ls k ∧ (k : Int) ≠ wo
  inj : ∀ a b, a < i → b < i → 0 ≤ has g a → has g a = has g b → a = b
theorem given_append (g : List Int) (x : Int) : given (g ++ [x]) = given g ++ if 0 ≤ x then [x] else [] := by
  unfold given
  rw [List.filter_append]
  simp [List.filter_cons]
theorem mask_append (g : List Int) (x : Int) : mask (g ++ [x]) = mask g + if 0 ≤ x then 2 ^ x.toNat else 0 := by
  unfold mask
  rw [given_append]
  split <;> simp
theorem srv_append (g : List Int) (x : Int) : srv (g ++ [x]) = srv g + if 0 ≤ x then 1 else 0 := by
  unfold srv
  rw [List.countP_append]
  simp [List.countP_cons]
theorem has_append {g : List Int} {x : Int} {k : Nat} : has (g ++ [x]) k = if k < g.length then has g k else if k = g.length then x else -1 := by
  unfold has
  by_cases h : k < g.length
  · rw [if_pos h, List.getElem?_append_left h]
  · rw [if_neg h, List.getElem?_append_right (by omega)]
    by_cases h2 : k = g.length
    · subst h2; simp
    · rw [if_neg h2]
      have : ([x] : List Int)[k - g.length]? = none := by rw [List.getElem?_eq_none]; simp; omega
      rw [this]; rfl
/-- The bits of a mask are the places that are given. -/
theorem mask_bits {ls : List (List Int)} {wo : Int} : ∀ (i : Nat) (g : List Int), Pre ls wo i g → (∀ q : Nat, (mask g).testBit q = true ↔ (q : Int) ∈ g) ∧ pc (mask g) = srv g
  | 0, g, h => by
    have : g = [] := List.eq_nil_of_length_eq_zero h.len
    subst this
    refine ⟨fun q => ?_, ?_⟩
    · simp [mask, given]
    · simp [mask, given, srv, pc_0]
  | i + 1, g, h => by
    obtain ⟨g0, x, rfl⟩ : ∃ g0 x, g = g0 ++ [x] := ⟨g.dropLast, g.getLast (by intro e; have := h.len; rw [e] at this; cases this), (List.dropLast_concat_getLast _).symm⟩
    have hl : g0.length = i := by have := h.len; simp at this; exact this
    have h0 : Pre ls wo i g0 := by
      have e : ∀ k, k < i → has (g0 ++ [x]) k = has g0 k := fun k hk => by rw [has_append, if_pos (by omega)]
      refine ⟨hl, fun k hk => by rw [← e k hk]; exact h.low k (by omega), fun k hk h1 => by rw [← e k hk] at *; exact h.wish k (by omega) h1, fun a b ha hb h1 h2 => h.inj a b (by omega) (by omega) (by rw [e a ha]; exact h1) (by rw [e a ha, e b hb]; exact h2)⟩
    obtain ⟨m1, m2⟩ := mask_bits i g0 h0
    have hx : has (g0 ++ [x]) i = x := by rw [has_append, if_neg (by omega), if_pos (by omega)]
    by_cases hx0 : 0 ≤ x
    · have hnot : x ∉ g0 := fun hm => by
        obtain ⟨k, hk, e⟩ := List.mem_iff_getElem.1 hm
        have hh : has (g0 ++ [x]) k = x := by rw [has_append, if_pos hk, has_get (List.getElem?_eq_getElem hk), e]
        have := h.inj k i (by omega) (by omega) (by rw [hh]; exact hx0) (by rw [hh, hx])
        omega
      have hbit : (mask g0).testBit x.toNat = false := by
        cases hb : (mask g0).testBit x.toNat with
        | false => rfl
        | true => exact absurd (by have := (m1 _).1 hb; rwa [Int.toNat_of_nonneg hx0] at this) hnot
      rw [mask_append, srv_append, if_pos hx0, if_pos hx0]
      refine ⟨fun q => ?_, by rw [pc_add _ _ hbit, m2]⟩
      rw [tb_add _ _ _ hbit, Bool.or_eq_true, m1 q, decide_eq_true_eq, List.mem_append]
      constructor
      · rintro (h1 | h1)
        · exact .inl h1
        · exact .inr (by simp; omega)
      · rintro (h1 | h1)
        · exact .inl h1
        · exact .inr (by simp at h1; omega)
    · rw [mask_append, srv_append, if_neg hx0, if_neg hx0]
      refine ⟨fun q => ?_, by simpa using m2⟩
      rw [Nat.add_zero, m1 q, List.mem_append]
      constructor
      · exact .inl
      · rintro (h1 | h1)
        · exact h1
        · simp at h1; omega
theorem cF_iff {ls : List (List Int)} {wo : Int} (hls : ∀ l ∈ ls, ∀ p ∈ l, 0 ≤ p) : ∀ (i t : Nat), cF ls wo i t = true ↔ ∃ g, Pre ls wo i g ∧ mask g = t
  | 0, t => by
    rw [cF, beq_iff_eq]
    constructor
    · rintro rfl
      exact ⟨[], ⟨rfl, fun k h => by omega, fun k h => by omega, fun a b h => by omega⟩, rfl⟩
    · rintro ⟨g, hg, rfl⟩
      have : g = [] := List.eq_nil_of_length_eq_zero hg.len
      subst this; rfl
  | i + 1, t => by
    have hin : ∀ (k : Nat) p, p ∈ lst ls k → 0 ≤ p := fun k p hp => by
      rw [lst_nat] at hp
      cases hl : ls[k]? with
      | none => rw [hl] at hp; simp at hp
      | some l => rw [hl] at hp; exact hls l (List.mem_of_getElem? hl) p hp
    have ext : ∀ g x, Pre ls wo i g → (x = -1 ∨ (0 ≤ x ∧ x ∈ lst ls i ∧ (i : Int) ≠ wo ∧ x ∉ g)) → Pre ls wo (i + 1) (g ++ [x]) := fun g x hg hx => by
      have e : ∀ k, k < i → has (g ++ [x]) k = has g k := fun k hk => by rw [has_append, if_pos (by have := hg.len; omega)]
      have e2 : has (g ++ [x]) i = x := by rw [has_append, if_neg (by have := hg.len; omega), if_pos (by have := hg.len; omega)]
      refine ⟨by simp [hg.len], fun k hk => ?_, fun k hk h1 => ?_, fun a b ha hb h1 h2 => ?_⟩
      · by_cases hki : k = i
        · subst hki; rw [e2]; omega
        · rw [e k (by omega)]; exact hg.low k (by omega)
      · by_cases hki : k = i
        · subst hki
          rw [e2] at h1 ⊢
          rcases hx with hx | hx
          · omega
          · exact ⟨hx.2.1, hx.2.2.1⟩
        · rw [e k (by omega)] at *; exact hg.wish k (by omega) h1
      · have notin : ∀ k, k < i → 0 ≤ x → has g k ≠ x := fun k hk h0 he => by
          rcases hx with rfl | hx
          · omega
          · exact hx.2.2.2 (by rw [← he]; exact has_mem (by have := hg.len; omega))
        by_cases hai : a = i
        · by_cases hbi : b = i
          · omega
          · rw [hai, e2] at h1 h2
            rw [e b (by omega)] at h2
            exact absurd h2.symm (notin b (by omega) h1)
        · by_cases hbi : b = i
          · rw [e a (by omega)] at h1 h2
            rw [hbi, e2] at h2
            exact absurd h2 (notin a (by omega) (by omega))
          · rw [e a (by omega)] at h1 h2
            rw [e b (by omega)] at h2
            exact hg.inj a b (by omega) (by omega) h1 h2
    have split : ∀ g, Pre ls wo (i + 1) g → ∃ g0 x, g = g0 ++ [x] ∧ Pre ls wo i g0 ∧ (x = -1 ∨ (0 ≤ x ∧ x ∈ lst ls i ∧ (i : Int) ≠ wo ∧ x ∉ g0)) := fun g h => by
      obtain ⟨g0, x, rfl⟩ : ∃ g0 x, g = g0 ++ [x] := ⟨g.dropLast, g.getLast (by intro e; have := h.len; rw [e] at this; cases this), (List.dropLast_concat_getLast _).symm⟩
      have hl : g0.length = i := by have := h.len; simp at this; exact this
      have e : ∀ k, k < i → has (g0 ++ [x]) k = has g0 k := fun k hk => by rw [has_append, if_pos (by omega)]
      have hx : has (g0 ++ [x]) i = x := by rw [has_append, if_neg (by omega), if_pos (by omega)]
      refine ⟨g0, x, rfl, ⟨hl, fun k hk => by rw [← e k hk]; exact h.low k (by omega), fun k hk h1 => by rw [← e k hk] at *; exact h.wish k (by omega) h1, fun a b ha hb h1 h2 => h.inj a b (by omega) (by omega) (by rw [e a ha]; exact h1) (by rw [e a ha, e b hb]; exact h2)⟩, ?_⟩
      by_cases hx0 : 0 ≤ x
      · have hw := h.wish i (by omega) (by rw [hx]; exact hx0)
        rw [hx] at hw
        refine .inr ⟨hx0, hw.1, hw.2, fun hm => ?_⟩
        obtain ⟨k, hk, ek⟩ := List.mem_iff_getElem.1 hm
        have hh : has (g0 ++ [x]) k = x := by rw [has_append, if_pos hk, has_get (List.getElem?_eq_getElem hk), ek]
        have := h.inj k i (by omega) (by omega) (by rw [hh]; exact hx0) (by rw [hh, hx])
        omega
      · have := h.low i (by omega)
        rw [hx] at this
        exact .inl (by omega)
    rw [cF]
    by_cases hwo : (i : Int) = wo
    · rw [if_pos hwo, cF_iff hls i t]
      constructor
      · rintro ⟨g, hg, rfl⟩
        exact ⟨g ++ [-1], ext g (-1) hg (.inl rfl), by rw [mask_append]; simp⟩
      · rintro ⟨g, hg, rfl⟩
        obtain ⟨g0, x, rfl, h0, hx⟩ := split g hg
        rcases hx with rfl | hx
        · exact ⟨g0, h0, by rw [mask_append]; simp⟩
        · exact absurd hwo hx.2.2.1
    · rw [if_neg hwo, cb, Bool.or_eq_true, cF_iff hls i t, List.any_eq_true]
      constructor
      · rintro (⟨g, hg, rfl⟩ | ⟨p, hp, h⟩)
        · exact ⟨g ++ [-1], ext g (-1) hg (.inl rfl), by rw [mask_append]; simp⟩
        · rw [Bool.and_eq_true, cF_iff hls i] at h
          obtain ⟨h1, g, hg, hm⟩ := h
          have hp0 := hin i p hp
          obtain ⟨s, s1, s2⟩ := tb_sub _ _ h1
          have hms : mask g = s := by omega
          have hnot : p ∉ g := fun hmem => by
            have := (mask_bits i g hg).1 p.toNat |>.2 (by rw [Int.toNat_of_nonneg hp0]; exact hmem)
            rw [hms, s1] at this; cases this
          exact ⟨g ++ [p], ext g p hg (.inr ⟨hp0, hp, hwo, hnot⟩), by rw [mask_append, if_pos hp0, hms, ← s2]⟩
      · rintro ⟨g, hg, rfl⟩
        obtain ⟨g0, x, rfl, h0, hx⟩ := split g hg
        rcases hx with rfl | ⟨x0, x1, x2, x3⟩
        · exact .inl ⟨g0, h0, by rw [mask_append]; simp⟩
        · refine .inr ⟨x, x1, ?_⟩
          have hb : (mask g0).testBit x.toNat = false := by
            cases hb : (mask g0).testBit x.toNat with
            | false => rfl
            | true => exact absurd (by have := ((mask_bits i g0 h0).1 _).1 hb; rwa [Int.toNat_of_nonneg x0] at this) x3
          rw [mask_append, if_pos x0, Bool.and_eq_true, cF_iff hls i, tb_add _ _ _ hb]
          exact ⟨by simp, g0, h0, by omega⟩
/-- The greatest number of bits of those that can be given. -/
def mb (f : Nat → Bool) : Nat → Nat
  | 0 => 0
  | s + 1 => if f s = true then max (mb f s) (pc s) else mb f s
theorem mb_le (f : Nat → Bool) : ∀ n s, s < n → f s = true → pc s ≤ mb f n
  | n + 1, s, h, hf => by
    rw [mb]
    by_cases hs : s = n
    · subst hs; rw [if_pos hf]; omega
    · have := mb_le f n s (by omega) hf
      split <;> omega
theorem mb_ex (f : Nat → Bool) : ∀ n, mb f n = 0 ∨ ∃ s, s < n ∧ f s = true ∧ pc s = mb f n
  | 0 => .inl rfl
  | n + 1 => by
    rw [mb]
    by_cases hf : f n = true
    · rw [if_pos hf]
      rcases Nat.le_total (mb f n) (pc n) with h | h
      · exact .inr ⟨n, by omega, hf, by omega⟩
      · rcases mb_ex f n with h1 | ⟨s, h1, h2, h3⟩
        · exact .inl (by omega)
        · exact .inr ⟨s, by omega, h2, by omega⟩
    · rw [if_neg hf]
      rcases mb_ex f n with h1 | ⟨s, h1, h2, h3⟩
      · exact .inl h1
      · exact .inr ⟨s, by omega, h2, h3⟩
/-- The wishes without an owner's. -/
def drp (ls : List (List Int)) (wo : Int) : List (List Int) := if 0 ≤ wo then ls.set wo.toNat [] else ls
theorem drp_len (ls : List (List Int)) (wo : Int) : (drp ls wo).length = ls.length := by unfold drp; split <;> simp
theorem drp_lst {ls : List (List Int)} {wo : Int} {k : Nat} (hk : k < ls.length) : lst (drp ls wo) k = if (k : Int) = wo then [] else lst ls k := by
  rw [lst_nat, lst_nat]
  unfold drp
  by_cases h : 0 ≤ wo
  · rw [if_pos h, List.getElem?_set]
    by_cases h2 : (k : Int) = wo
    · rw [if_pos h2, if_pos (by omega)]
      by_cases h3 : wo.toNat < ls.length <;> simp [h3]
    · rw [if_neg h2, if_neg (by omega)]
  · rw [if_neg h, if_neg (by omega)]
theorem pre_good {P : Int} {ls : List (List Int)} (hls : ∀ l ∈ ls, ∀ p ∈ l, inP P p) (hP : 0 ≤ P) {wo : Int} {g : List Int} : Pre ls wo ls.length g ↔ Good P (drp ls wo) g := by
  constructor
  · intro h
    refine ⟨by rw [drp_len]; exact h.len, fun k hk => ?_, fun k hk h0 => ?_, fun a b ha hb => ?_⟩
    · rw [drp_len] at hk
      refine ⟨h.low k hk, ?_⟩
      by_cases h0 : 0 ≤ has g k
      · exact (lst_in hls (h.wish k hk h0).1).2
      · omega
    · rw [drp_len] at hk
      have := h.wish k hk h0
      rw [drp_lst hk, if_neg this.2]
      exact this.1
    · rw [drp_len] at ha hb; exact h.inj a b ha hb
  · intro h
    have hl := h.len
    rw [drp_len] at hl
    refine ⟨hl, fun k hk => (h.rng k (by rw [drp_len]; exact hk)).1, fun k hk h0 => ?_, fun a b ha hb => h.inj a b (by rw [drp_len]; exact ha) (by rw [drp_len]; exact hb)⟩
    have := h.wish k (by rw [drp_len]; exact hk) h0
    rw [drp_lst hk] at this
    split at this
    · simp at this
    · rename_i h2; exact ⟨this, h2⟩
theorem drp_in {P : Int} {ls : List (List Int)} (hls : ∀ l ∈ ls, ∀ p ∈ l, inP P p) (wo : Int) : ∀ l ∈ drp ls wo, ∀ p ∈ l, inP P p := by
  intro l hl p hp
  unfold drp at hl
  split at hl
  · rcases List.mem_or_eq_of_mem_set hl with h | rfl
    · exact hls l h p hp
    · simp at hp
  · exact hls l hl p hp
theorem mask_lt {P : Int} {ls : List (List Int)} (hls : ∀ l ∈ ls, ∀ p ∈ l, inP P p) {wo : Int} {g : List Int} (h : Pre ls wo ls.length g) : mask g < 2 ^ P.toNat := by
  refine Nat.lt_pow_two_of_testBit _ (fun q hq => ?_)
  cases hb : (mask g).testBit q with
  | false => rfl
  | true =>
    have := ((mask_bits _ g h).1 q).1 hb
    obtain ⟨k, hk, e⟩ := List.mem_iff_getElem.1 this
    have hkl : k < ls.length := by rw [← h.len]; exact hk
    have hh : has g k = (q : Int) := by rw [has_get (List.getElem?_eq_getElem hk), e]
    have := lst_in hls (h.wish k hkl (by rw [hh]; omega)).1
    rw [hh] at this
    have := this.2
    omega
/-- The document's most is the most. -/
theorem mb_most {P : Int} (hP : 0 ≤ P) {ls : List (List Int)} (hls : ∀ l ∈ ls, ∀ p ∈ l, inP P p) (wo : Int) : mb (cF ls wo ls.length) (2 ^ P.toNat) = most P (drp ls wo) := by
  have h0 : ∀ l ∈ ls, ∀ p ∈ l, 0 ≤ p := fun l hl p hp => (hls l hl p hp).1
  refine (most_eq hP (drp_in hls wo) ?_ ?_).symm
  · rcases mb_ex (cF ls wo ls.length) (2 ^ P.toNat) with h | ⟨s, h1, h2, h3⟩
    · refine ⟨List.replicate (drp ls wo).length (-1), good_none P hP _, ?_⟩
      rw [h]
      simp [srv]
    · obtain ⟨g, hg, rfl⟩ := (cF_iff h0 _ _).1 h2
      exact ⟨g, (pre_good hls hP).1 hg, by rw [← h3, (mask_bits _ g hg).2]⟩
  · intro g hg
    have hp := (pre_good hls hP).2 hg
    rw [← (mask_bits _ g hp).2]
    exact mb_le _ _ _ (mask_lt hls hp) ((cF_iff h0 _ _).2 ⟨g, hp, rfl⟩)
end Go.Proofs.Ytlmbobbefgcolaa

namespace Go.Proofs.Ytlmbobbefgcolaa
open Go Go.Eng
/-- selion/selionlaw07.WishSures [] -/
def m3 : MFun := ⟨55, [1], [.mov (.s 2)],
 .seq (.ops [⟨(some 1), some (.junk), none, false, .pu (.bnew (.s 0))⟩,
   ⟨(some 2), some undefA, none, false, .pu (.mov (.c (.bool false)))⟩])
 (.seq (.seq (.ops [⟨(some 11), some undefA, none, false, .pu (.bget none 1 0 2 true)⟩,
   ⟨(some 12), some undefA, none, false, .call 17 [(.s 11)]⟩])
 (.cond (.s 12) (.seq (.ops [⟨(some 13), some undefA, none, false, .call 18 []⟩,
    ⟨(some 2), some undefA, none, false, .pu (.mov (.s 13))⟩])
  (.ret))
 (.skip)))
 (.seq (.ops [⟨(some 15), some undefA, none, false, .pu (.bget none 1 0 2 true)⟩,
   ⟨(some 16), some undefA, none, false, .call 19 [(.s 15)]⟩,
   ⟨(some 14), some undefA, none, false, .pu (.mov (.s 16))⟩,
   ⟨(some 17), some undefA, none, false, .pu (.extr 0 (.s 14))⟩,
   ⟨(some 18), some undefA, none, false, .pu (.extr 1 (.s 14))⟩,
   ⟨(some 3), some undefA, none, false, .pu (.mov (.s 17))⟩,
   ⟨(some 4), some undefA, none, false, .pu (.mov (.s 18))⟩])
 (.seq (.ops [⟨(some 20), some undefA, none, false, .pu (.bget none 1 0 2 true)⟩,
   ⟨(some 21), some undefA, none, false, .call 20 [(.s 20)]⟩,
   ⟨(some 19), some undefA, none, false, .pu (.mov (.s 21))⟩,
   ⟨(some 22), some undefA, none, false, .pu (.extr 0 (.s 19))⟩,
   ⟨(some 23), some undefA, none, false, .pu (.extr 1 (.s 19))⟩,
   ⟨(some 5), some undefA, none, false, .pu (.mov (.s 22))⟩,
   ⟨(some 6), some undefA, none, false, .pu (.mov (.s 23))⟩])
 (.seq (.ops [⟨(some 25), some undefA, none, false, .pu (.bget none 1 0 2 true)⟩,
   ⟨(some 26), some undefA, none, false, .call 21 [(.s 25)]⟩,
   ⟨(some 24), some undefA, none, false, .pu (.mov (.s 26))⟩,
   ⟨(some 27), some undefA, none, false, .pu (.extr 0 (.s 24))⟩,
   ⟨(some 28), some undefA, none, false, .pu (.extr 1 (.s 24))⟩,
   ⟨(some 7), some undefA, none, false, .pu (.mov (.s 27))⟩,
   ⟨(some 8), some undefA, none, false, .pu (.mov (.s 28))⟩])
 (.seq (.ops [⟨(some 30), some undefA, none, false, .pu (.bget none 1 0 2 true)⟩,
   ⟨(some 31), some undefA, none, false, .call 22 [(.s 30)]⟩,
   ⟨(some 29), some undefA, none, false, .pu (.mov (.s 31))⟩,
   ⟨(some 32), some undefA, none, false, .pu (.extr 0 (.s 29))⟩,
   ⟨(some 33), some undefA, none, false, .pu (.extr 1 (.s 29))⟩,
   ⟨(some 9), some undefA, none, false, .pu (.mov (.s 32))⟩,
   ⟨(some 10), some undefA, none, false, .pu (.mov (.s 33))⟩])
 (.seq (.ops [⟨(some 34), some undefA, none, false, .pu (.mov (.s 3))⟩,
   ⟨(some 35), some undefA, none, false, .pu (.mov (.s 5))⟩,
   ⟨(some 36), some undefA, none, false, .call 23 [(.s 34), (.s 35)]⟩,
   ⟨(some 37), some undefA, none, false, .pu (.mov (.s 36))⟩,
   ⟨(some 38), some undefA, (some (37, true)), false, .pu (.mov (.s 4))⟩,
   ⟨(some 39), some undefA, (some (37, true)), false, .pu (.mov (.s 6))⟩,
   ⟨(some 40), some undefA, (some (37, true)), false, .pu (.bin .eql (.s 38) (.s 39))⟩,
   ⟨(some 41), some undefA, none, false, .pu (.pick (.s 37) (.s 40) (.c (.bool false)))⟩,
   ⟨(some 42), some undefA, none, false, .pu (.mov (.s 41))⟩,
   ⟨(some 43), some undefA, (some (42, true)), false, .pu (.mov (.s 7))⟩,
   ⟨(some 44), some undefA, (some (42, true)), false, .pu (.mov (.s 9))⟩,
   ⟨(some 45), some undefA, (some (42, true)), false, .call 23 [(.s 43), (.s 44)]⟩,
   ⟨(some 46), some undefA, none, false, .pu (.pick (.s 42) (.s 45) (.c (.bool false)))⟩,
   ⟨(some 47), some undefA, none, false, .pu (.mov (.s 46))⟩,
   ⟨(some 48), some undefA, (some (47, true)), false, .pu (.mov (.s 8))⟩,
   ⟨(some 49), some undefA, (some (47, true)), false, .pu (.mov (.s 10))⟩,
   ⟨(some 50), some undefA, (some (47, true)), false, .pu (.bin .eql (.s 48) (.s 49))⟩,
   ⟨(some 51), some undefA, none, false, .pu (.pick (.s 47) (.s 50) (.c (.bool false)))⟩,
   ⟨(some 52), some undefA, none, false, .pu (.mov (.s 51))⟩,
   ⟨(some 53), some undefA, (some (52, true)), false, .call 18 []⟩,
   ⟨(some 54), some undefA, none, false, .pu (.pick (.s 52) (.s 53) (.c (.bool false)))⟩,
   ⟨(some 2), some undefA, none, false, .pu (.mov (.s 54))⟩])
 (.ret)))))))⟩
theorem t3 : trF Try.prog [1] [] Try.f3 = some m3 := by kernel_rfl
/-- selion/selionlaw07.WishTurns [] -/
def m5 : MFun := ⟨69, [1, 3, 4, 6], [.mov (.s 2)],
 .seq (.ops [⟨(some 1), some (.junk), none, false, .pu (.bnew (.s 0))⟩,
   ⟨(some 2), some undefA, none, false, .pu (.mov (.c (.bool false)))⟩])
 (.seq (.seq (.ops [⟨(some 12), some undefA, none, false, .pu (.bget none 1 0 2 true)⟩,
   ⟨(some 13), some undefA, none, false, .call 17 [(.s 12)]⟩])
 (.cond (.s 13) (.seq (.ops [⟨(some 14), some undefA, none, false, .call 18 []⟩,
    ⟨(some 2), some undefA, none, false, .pu (.mov (.s 14))⟩])
  (.ret))
 (.skip)))
 (.seq (.ops [⟨(some 15), some undefA, none, false, .pu (.bget none 1 0 2 true)⟩,
   ⟨(some 16), some undefA, none, false, .call 28 [(.s 15)]⟩,
   ⟨(some 3), some (.junk), none, false, .pu (.bnew (.c (.agg [.int .i64 0, .nilS])))⟩,
   ⟨(some 3), none, none, false, .pu (.bset none 3 0 2 (.s 16))⟩])
 (.seq (.ops [⟨(some 18), some undefA, none, false, .pu (.bget none 3 0 2 true)⟩,
   ⟨(some 19), some undefA, none, false, .call 29 [(.s 18)]⟩,
   ⟨(some 17), some undefA, none, false, .pu (.mov (.s 19))⟩,
   ⟨(some 20), some undefA, none, false, .pu (.extr 0 (.s 17))⟩,
   ⟨(some 21), some undefA, none, false, .pu (.extr 1 (.s 17))⟩,
   ⟨(some 4), some (.junk), none, false, .pu (.bnew (.c (.agg [.int .i64 0, .nilS])))⟩,
   ⟨(some 4), none, none, false, .pu (.bset none 4 0 2 (.s 20))⟩,
   ⟨(some 5), some undefA, none, false, .pu (.mov (.s 21))⟩])
 (.seq (.ops [⟨(some 23), some undefA, none, false, .pu (.bget none 1 0 2 true)⟩,
   ⟨(some 24), some undefA, none, false, .call 30 [(.s 23)]⟩,
   ⟨(some 22), some undefA, none, false, .pu (.mov (.s 24))⟩,
   ⟨(some 25), some undefA, none, false, .pu (.extr 0 (.s 22))⟩,
   ⟨(some 26), some undefA, none, false, .pu (.extr 1 (.s 22))⟩,
   ⟨(some 6), some (.junk), none, false, .pu (.bnew (.c (.agg [.int .i64 0, .nilS])))⟩,
   ⟨(some 6), none, none, false, .pu (.bset none 6 0 2 (.s 25))⟩,
   ⟨(some 7), some undefA, none, false, .pu (.mov (.s 26))⟩])
 (.seq (.seq (.ops [⟨(some 27), some undefA, none, false, .pu (.bget none 4 0 2 true)⟩,
   ⟨(some 28), some undefA, none, false, .pu (.bget none 6 0 2 true)⟩,
   ⟨(some 29), some undefA, none, false, .call 31 [(.s 27), (.s 28)]⟩,
   ⟨(some 30), some undefA, none, false, .pu (.not (.s 29))⟩,
   ⟨(some 31), some undefA, none, false, .pu (.mov (.s 30))⟩,
   ⟨(some 32), some undefA, (some (31, false)), false, .pu (.mov (.s 5))⟩,
   ⟨(some 33), some undefA, (some (31, false)), false, .pu (.mov (.s 7))⟩,
   ⟨(some 34), some undefA, (some (31, false)), false, .pu (.bin .neq (.s 32) (.s 33))⟩,
   ⟨(some 35), some undefA, none, false, .pu (.pick (.s 31) (.c (.bool true)) (.s 34))⟩,
   ⟨(some 36), some undefA, none, false, .pu (.mov (.s 35))⟩,
   ⟨(some 37), some undefA, (some (36, false)), false, .pu (.bget none 3 0 2 true)⟩,
   ⟨(some 38), some undefA, (some (36, false)), false, .pu (.bget none 1 0 2 true)⟩,
   ⟨(some 39), some undefA, (some (36, false)), false, .call 31 [(.s 37), (.s 38)]⟩,
   ⟨(some 40), some undefA, (some (36, false)), false, .pu (.not (.s 39))⟩,
   ⟨(some 41), some undefA, none, false, .pu (.pick (.s 36) (.c (.bool true)) (.s 40))⟩])
 (.cond (.s 41) (.seq (.ops [⟨(some 2), some undefA, none, false, .pu (.mov (.c (.bool false)))⟩])
  (.ret))
 (.skip)))
 (.seq (.seq (.ops [⟨(some 42), some undefA, none, false, .pu (.mov (.s 5))⟩,
   ⟨(some 43), some undefA, none, false, .pu (.bin .neq (.s 42) (.c (.int .i64 0)))⟩])
 (.cond (.s 43) (.seq (.ops [⟨(some 44), some undefA, none, false, .call 18 []⟩,
    ⟨(some 2), some undefA, none, false, .pu (.mov (.s 44))⟩])
  (.ret))
 (.skip)))
 (.seq (.ops [⟨(some 46), some undefA, none, false, .pu (.bget none 4 0 2 true)⟩,
   ⟨(some 47), some undefA, none, false, .call 24 [(.s 46)]⟩,
   ⟨(some 45), some undefA, none, false, .pu (.mov (.s 47))⟩,
   ⟨(some 48), some undefA, none, false, .pu (.extr 0 (.s 45))⟩,
   ⟨(some 49), some undefA, none, false, .pu (.extr 1 (.s 45))⟩,
   ⟨(some 8), some undefA, none, false, .pu (.mov (.s 48))⟩,
   ⟨(some 9), some undefA, none, false, .pu (.mov (.s 49))⟩])
 (.seq (.ops [⟨(some 51), some undefA, none, false, .pu (.bget none 1 0 2 true)⟩,
   ⟨(some 52), some undefA, none, false, .call 24 [(.s 51)]⟩,
   ⟨(some 50), some undefA, none, false, .pu (.mov (.s 52))⟩,
   ⟨(some 53), some undefA, none, false, .pu (.extr 0 (.s 50))⟩,
   ⟨(some 54), some undefA, none, false, .pu (.extr 1 (.s 50))⟩,
   ⟨(some 10), some undefA, none, false, .pu (.mov (.s 53))⟩,
   ⟨(some 11), some undefA, none, false, .pu (.mov (.s 54))⟩])
 (.seq (.ops [⟨(some 55), some undefA, none, false, .pu (.mov (.s 9))⟩,
   ⟨(some 56), some undefA, none, false, .pu (.bin .eql (.s 55) (.c (.int .i64 0)))⟩,
   ⟨(some 57), some undefA, none, false, .pu (.mov (.s 56))⟩,
   ⟨(some 58), some undefA, (some (57, true)), false, .pu (.mov (.s 11))⟩,
   ⟨(some 59), some undefA, (some (57, true)), false, .pu (.bin .eql (.s 58) (.c (.int .i64 0)))⟩,
   ⟨(some 60), some undefA, none, false, .pu (.pick (.s 57) (.s 59) (.c (.bool false)))⟩,
   ⟨(some 61), some undefA, none, false, .pu (.mov (.s 60))⟩,
   ⟨(some 62), some undefA, (some (61, true)), false, .pu (.mov (.s 8))⟩,
   ⟨(some 63), some undefA, (some (61, true)), false, .pu (.mov (.s 10))⟩,
   ⟨(some 64), some undefA, (some (61, true)), false, .pu (.bin .eql (.s 62) (.s 63))⟩,
   ⟨(some 65), some undefA, none, false, .pu (.pick (.s 61) (.s 64) (.c (.bool false)))⟩,
   ⟨(some 66), some undefA, none, false, .pu (.mov (.s 65))⟩,
   ⟨(some 67), some undefA, (some (66, true)), false, .call 18 []⟩,
   ⟨(some 68), some undefA, none, false, .pu (.pick (.s 66) (.s 67) (.c (.bool false)))⟩,
   ⟨(some 2), some undefA, none, false, .pu (.mov (.s 68))⟩])
 (.ret))))))))))⟩
theorem t5 : trF Try.prog [1, 3, 4, 6] [] Try.f5 = some m5 := by kernel_rfl
end Go.Proofs.Ytlmbobbefgcolaa

namespace Go.Proofs.Ytlmbobbefgcolaa
open Go Go.Eng
theorem take_succ_eq {α : Type} {xs ys : List α} {i : Nat} {z w : α} (hz : xs[i]? = some z) (hw : ys[i]? = some w) : xs.take (i + 1) = ys.take (i + 1) ↔ xs.take i = ys.take i ∧ z = w := by
  rw [List.take_add_one, List.take_add_one, hz, hw]
  have hi : i < xs.length := (List.getElem?_eq_some_iff.1 hz).1
  have hj : i < ys.length := (List.getElem?_eq_some_iff.1 hw).1
  constructor
  · intro h
    have := List.append_inj h (by simp; omega)
    exact ⟨this.1, by simpa using this.2⟩
  · rintro ⟨h1, rfl⟩
    rw [h1]
theorem c_SameInts {xs ys : List Int} {v u : AV} {A : AHeap} (hx : L1 A v xs) (hy : L1 A u ys) (hl : xs.length ≤ 1000000) : ACalls Try.prog 23 [v, u] A (B (decide (xs = ys))) A := by
  refine acalls hmix Try.func23 (by kernel_rfl) t23 2 rfl (by decide) ?_
  by_cases hle : xs.length = ys.length
  · have hle' : (xs.length : Int) = ys.length := by omega
    dsimp only [m23]
    simp (maxSteps := 4000000) -implicitDefEqProofs -dsimp (disch := omega) only [↓AW_skip, ↓AW_ops, ↓AW_seq, ↓AW_cond, ↓AW_block, ↓AOps_nil, ↓AOps_pu, on_some, condB_f, ↓then_normal, pval, rd_S, rd_C, put_S, ↓AW_toLoop, eq_self, List.replicate_succ, List.replicate_zero, List.set_cons_zero, List.set_cons_succ, List.getElem?_cons_zero, List.getElem?_cons_succ, Option.getD_some, Nat.reduceSub, List.cons_append, List.nil_append, bin_neq, decide_false, not_true_eq_false, hx.len, hy.len, hle']
    refine LoopK.by 26 (fun i : Nat => i ≤ xs.length ∧ xs.take i = ys.take i) (fun i => [(0, v), (1, u), (5, I i)]) (fun _ => A) (fun i => xs.length - i) 0 ⟨by omega, rfl⟩ rfl (by simp [Has, rd_s]) rfl ?_
    rintro i ⟨hi, he⟩
    by_cases hlt : i < xs.length
    · obtain ⟨z, hz⟩ : ∃ z, xs[i]? = some z := ⟨_, List.getElem?_eq_getElem hlt⟩
      have hlt' : (i : Int) < xs.length := by omega
      have hlt2 : i < ys.length := by omega
      obtain ⟨w, hw⟩ : ∃ w, ys[i]? = some w := ⟨_, List.getElem?_eq_getElem hlt2⟩
      by_cases hzw : z = w
      · subst hzw
        simp (maxSteps := 4000000) -implicitDefEqProofs -dsimp (disch := omega) only [↓AW_skip, ↓AW_ops, ↓AW_seq, ↓AW_cond, ↓AW_block, ↓AOps_nil, ↓AOps_pu, ↓AOps_ld, on_some, condB_t, condB_f, ↓then_normal, ↓inBlock_normal, pval, lval, rd_S, rd_C, put_S, partA, eq_self, mk, List.foldl_cons, List.foldl_nil, List.replicate_succ, List.replicate_zero, List.set_cons_zero, List.set_cons_succ, List.getElem?_cons_zero, List.getElem?_cons_succ, List.drop_zero, List.take_succ_cons, List.take_nil, Option.getD_some, List.length_cons, List.length_nil, Nat.reduceAdd, Nat.reduceLeDiff, Nat.zero_add, bin_add, bin_neq, bin_lss, w64, if_true, if_false, Bool.false_eq_true, decide_true, decide_false, Go.Eng.e1, true_and, not_true_eq_false, hlt', hx.len, hx.idx hlt, hx.ld0 hz 1 false (by decide), hy.idx hlt2, hy.ld0 hw 1 false (by decide)]
        exact ⟨i + 1, ⟨hlt, (take_succ_eq hz hw).2 ⟨he, rfl⟩⟩, by simp [Has, rd_s], by omega⟩
      · simp (maxSteps := 4000000) -implicitDefEqProofs -dsimp (disch := omega) only [↓AW_skip, ↓AW_ops, ↓AW_seq, ↓AW_cond, ↓AW_block, ↓AW_ret, ↓AOps_nil, ↓AOps_pu, ↓AOps_ld, on_some, condB_t, ↓then_normal, ↓then_ret, ↓inBlock_ret, ↓Fin_ret, pval, lval, rd_S, rd_C, put_S, resV, resL, partA, eq_self, mk, List.foldl_cons, List.foldl_nil, List.replicate_succ, List.replicate_zero, List.set_cons_zero, List.set_cons_succ, List.getElem?_cons_zero, List.getElem?_cons_succ, List.drop_zero, List.take_succ_cons, List.take_nil, Option.getD_some, List.length_cons, List.length_nil, Nat.reduceLeDiff, Nat.zero_add, bin_neq, bin_lss, if_true, if_false, Bool.false_eq_true, decide_true, Go.Eng.e1, not_false_eq_true, hlt', hx.len, hx.idx hlt, hx.ld0 hz 1 false (by decide), hy.idx hlt2, hy.ld0 hw 1 false (by decide), hzw]
        refine gc_same ?_
        have : ¬ xs = ys := by rintro rfl; rw [hz] at hw; exact hzw (Option.some.inj hw)
        simp [this]
    · have hlt' : ¬ ((i : Int) < xs.length) := by omega
      simp (maxSteps := 4000000) -implicitDefEqProofs -dsimp (disch := omega) only [↓AW_ops, ↓AW_seq, ↓AW_cond, ↓AW_exit, ↓AW_ret, ↓AOps_nil, ↓AOps_pu, on_some, condB_f, ↓then_normal, ↓then_exit, ↓inBlock_exit, ↓Fin_ret, pval, rd_S, rd_C, put_S, resV, resL, eq_self, mk, List.foldl_cons, List.foldl_nil, List.replicate_succ, List.replicate_zero, List.set_cons_zero, List.set_cons_succ, List.getElem?_cons_zero, List.getElem?_cons_succ, Option.getD_some, bin_lss, if_true, decide_false, hlt', hx.len]
      rw [List.take_of_length_le (by omega), List.take_of_length_le (by omega)] at he
      exact gc_same (by simp [he])
  · have hle' : ¬ (xs.length : Int) = ys.length := by omega
    dsimp only [m23]
    simp (maxSteps := 4000000) -implicitDefEqProofs -dsimp (disch := omega) only [↓AW_ops, ↓AW_seq, ↓AW_cond, ↓AW_ret, ↓AOps_nil, ↓AOps_pu, on_some, condB_t, ↓then_normal, ↓then_ret, ↓Fin_ret, pval, rd_S, rd_C, put_S, resV, resL, List.replicate_succ, List.replicate_zero, List.set_cons_zero, List.set_cons_succ, List.getElem?_cons_zero, List.getElem?_cons_succ, Option.getD_some, Nat.reduceSub, List.cons_append, List.nil_append, bin_neq, decide_true, not_false_eq_true, hx.len, hy.len, hle']
    have : ¬ xs = ys := by rintro rfl; exact hle rfl
    exact gc_same (by simp [this])
end Go.Proofs.Ytlmbobbefgcolaa

namespace Go.Proofs.Ytlmbobbefgcolaa
open Go Go.Eng
theorem lsE_all {P : Int} : ∀ {ls : List (List Int)}, lsE P ls = 0 → ∀ l ∈ ls, lE P l = 0
  | [], _, _, h => by simp at h
  | a :: ls, h, l, hl => by
    rw [lsE] at h
    split at h
    · rename_i h1
      rcases List.mem_cons.1 hl with rfl | hl
      · exact h1
      · exact lsE_all h l hl
    · rename_i h1; exact absurd h h1
theorem lE_0 {P : Int} {l : List Int} (h : lE P l = 0) : (∀ p ∈ l, inP P p) ∧ l.Nodup := by
  unfold lE at h
  split at h
  · rename_i h1
    split at h
    · rename_i h2; exact ⟨h1, h2⟩
    · cases h
  · cases h
/-- What valid wishes are. -/
structure Val (P : Int) (ls : List (List Int)) : Prop where
  hP : 1 ≤ P ∧ P ≤ 7
  n : ls.length ≤ 7
  l : ∀ l ∈ ls, (∀ p ∈ l, inP P p) ∧ l.Nodup
theorem val_of {P : Int} {ls : List (List Int)} (h : vW P ls = 0) : Val P ls := by
  have hP := vW_P7 h
  have hn : ¬ 7 < ls.length := fun h1 => by rw [vW_n hP h1] at h; cases h
  rw [vW_l hP hn] at h
  exact ⟨hP, by omega, fun l hl => lE_0 (lsE_all h l hl)⟩
theorem len_le {P : Int} {l : List Int} (hP : 0 ≤ P) (h : (∀ p ∈ l, inP P p) ∧ l.Nodup) : (l.length : Int) ≤ P := by
  have := nodup_len h.2 (m := nums P.toNat) (fun p hp => mem_nums.2 ⟨(h.1 p hp).1, by have := (h.1 p hp).2; omega⟩)
  simp only [nums, List.length_map, List.length_range] at this
  omega
theorem Val.len {P : Int} {ls : List (List Int)} (h : Val P ls) {l : List Int} (hl : l ∈ ls) : (l.length : Int) ≤ P := len_le (by have := h.hP; omega) (h.l l hl)
theorem fpos_in {p : Int} {l : List Int} (h : p ∈ l) : ∃ k : Nat, k < l.length ∧ fpos (fun y => decide (p = y)) l = k ∧ l[k]? = some p := by
  obtain ⟨k, hk⟩ : ∃ k, l.findIdx? (fun y => decide (p = y)) = some k := by
    cases hf : l.findIdx? (fun y => decide (p = y)) with
    | some k => exact ⟨k, rfl⟩
    | none =>
      rw [List.findIdx?_eq_none_iff] at hf
      have := hf p h
      simp at this
  have hk2 := hk
  rw [List.findIdx?_eq_some_iff_getElem] at hk2
  obtain ⟨h1, h2, _⟩ := hk2
  refine ⟨k, h1, by unfold fpos; rw [hk], ?_⟩
  rw [List.getElem?_eq_getElem h1]
  have : p = l[k] := by simpa using h2
  rw [← this]
def cstep (c : List Int) (x : Int × List Int) : List Int := if 0 ≤ x.1 then c.set (fpos (fun y => decide (x.1 = y)) x.2).toNat ((c[(fpos (fun y => decide (x.1 = y)) x.2).toNat]?).getD 0 + 1) else c
def cnt (P : Int) (zs : List (Int × List Int)) : List Int := zs.foldl cstep (List.replicate P.toNat 0)
theorem repl_zero (n : Nat) : repl [AV.int .i64 0] n = (List.replicate n (0 : Int)).flatMap Go.Eng.e1 := by
  induction n with
  | zero => rfl
  | succ n ih => rw [repl, ih, List.replicate_succ, List.flatMap_cons]; rfl
end Go.Proofs.Ytlmbobbefgcolaa

namespace Go.Proofs.Ytlmbobbefgcolaa
open Go Go.Eng
def eb (b : Bool) : List AV := [B b]
theorem eb_len (b : Bool) : (eb b).length = 1 := rfl
abbrev Lb := Ls 1 eb
/-- Where a chain stands: the wishes' box, the box of what was seen, the chain's own box, what was seen, the giving. -/
structure Ctx (P : Int) (A H : AHeap) (v : AV) (nw ns nc na ng n : Nat) (fa fg : Bool) : Prop where
  pre : A <+: H
  la : A.length ≤ na
  lg : A.length ≤ ng
  ne : na ≠ ng
  hna : na < H.length
  hng : ng < H.length
  w : ∃ rw, H[nw]? = some (.cells rw [I P, v, .sl 1 ng 0 n fg])
  s : ∃ rw, H[ns]? = some (.cells rw [.sl 1 na 0 P.toNat fa])
  c : ∃ rw, H[nc]? = some (.cells rw [.fn 101 [.ptr nw 0, .ptr ns 0, .ptr nc 0]])
  w1 : nw ≠ na
  w2 : nw ≠ ng
  s1 : ns ≠ na
  s2 : ns ≠ ng
  c1 : nc ≠ na
  c2 : nc ≠ ng
def hpS (H : AHeap) (na ng : Nat) (s : St) : AHeap := (H.set na (.cells true (s.1.flatMap eb))).set ng (.cells true (s.2.flatMap e1))
section
variable {P : Int} {A H : AHeap} {v : AV} {nw ns nc na ng n : Nat} {fa fg : Bool}
theorem Ctx.get (c : Ctx P A H v nw ns nc na ng n fa fg) (s : St) {k : Nat} (h1 : k ≠ na) (h2 : k ≠ ng) : (hpS H na ng s)[k]? = H[k]? := by
  unfold hpS
  rw [List.getElem?_set_ne (Ne.symm h2), List.getElem?_set_ne (Ne.symm h1)]
theorem Ctx.getA (c : Ctx P A H v nw ns nc na ng n fa fg) (s : St) : (hpS H na ng s)[na]? = some (.cells true (s.1.flatMap eb)) := by
  unfold hpS
  rw [List.getElem?_set_ne (Ne.symm c.ne), List.getElem?_set_self c.hna]
theorem Ctx.getG (c : Ctx P A H v nw ns nc na ng n fa fg) (s : St) : (hpS H na ng s)[ng]? = some (.cells true (s.2.flatMap e1)) := by
  unfold hpS
  rw [List.getElem?_set_self (by rw [List.length_set]; exact c.hng)]
theorem Ctx.setA (c : Ctx P A H v nw ns nc na ng n fa fg) (s : St) (b : List Bool) : (hpS H na ng s).set na (.cells true (b.flatMap eb)) = hpS H na ng (b, s.2) := by
  unfold hpS
  rw [List.set_comm _ _ (Ne.symm c.ne), List.set_set]
theorem Ctx.setG (c : Ctx P A H v nw ns nc na ng n fa fg) (s : St) (g : List Int) : (hpS H na ng s).set ng (.cells true (g.flatMap e1)) = hpS H na ng (s.1, g) := by
  unfold hpS
  rw [List.set_set]
theorem Ctx.preS (c : Ctx P A H v nw ns nc na ng n fa fg) (s : St) : A <+: hpS H na ng s := pre_set (pre_set c.pre c.la _) c.lg _
theorem Ctx.ola (c : Ctx P A H v nw ns nc na ng n fa fg) (s : St) (hl : s.1.length = P.toNat) : OL 1 eb A (hpS H na ng s) na (.sl 1 na 0 P.toNat fa) s.1 := ⟨eb_len, c.preS s, c.la, c.getA s, fa, by rw [hl]⟩
theorem Ctx.olg (c : Ctx P A H v nw ns nc na ng n fa fg) (s : St) (hl : s.2.length = n) : OL 1 e1 A (hpS H na ng s) ng (.sl 1 ng 0 n fg) s.2 := ⟨e1_len, c.preS s, c.lg, c.getG s, fg, by rw [hl]⟩
theorem Ctx.ldw (c : Ctx P A H v nw ns nc na ng n fa fg) (s : St) : ldA 1 false (.ptr nw 1) (hpS H na ng s) = some v ∧ ldA 1 false (.ptr nw 2) (hpS H na ng s) = some (.sl 1 ng 0 n fg) ∧ ldA 3 true (.ptr nw 0) (hpS H na ng s) = some (.agg [I P, v, .sl 1 ng 0 n fg]) := by
  obtain ⟨rw, h⟩ := c.w
  have := c.get s c.w1 c.w2
  rw [h] at this
  simp [ldA, this, partA]
theorem Ctx.lds (c : Ctx P A H v nw ns nc na ng n fa fg) (s : St) : ldA 1 false (.ptr ns 0) (hpS H na ng s) = some (.sl 1 na 0 P.toNat fa) := by
  obtain ⟨rw, h⟩ := c.s
  have := c.get s c.s1 c.s2
  rw [h] at this
  simp [ldA, this, partA]
theorem Ctx.ldc (c : Ctx P A H v nw ns nc na ng n fa fg) (s : St) : ldA 1 false (.ptr nc 0) (hpS H na ng s) = some (.fn 101 [.ptr nw 0, .ptr ns 0, .ptr nc 0]) := by
  obtain ⟨rw, h⟩ := c.c
  have := c.get s c.c1 c.c2
  rw [h] at this
  simp [ldA, this, partA]
end
theorem s89 {P : Int} {v u : AV} {g : List Int} {A : AHeap} (hg : L1 A u g) (hl : g.length ≤ 1000000) (p : Int) : ACalls Try.prog 89 [.agg [I P, v, u], I p] A (I (fpos (fun y => decide (p = y)) g)) A := by
  refine acalls hmix Try.func89 (by kernel_rfl) t89 2 rfl (by decide) ?_
  dsimp only [m89]
  simp (maxSteps := 4000000) -implicitDefEqProofs -dsimp (disch := omega) only [↓AW_ops, ↓AW_seq, ↓AOps_nil, ↓AOps_pu, ↓AOps_call, on_some, ↓then_normal, pval, rd_S, rd_C, put_S, chkd, isAdr, bgot, AV.cells?, partA, eq_self, List.replicate_succ, List.replicate_zero, List.set_cons_zero, List.set_cons_succ, List.getElem?_cons_zero, List.getElem?_cons_succ, List.drop_zero, List.drop_succ_cons, List.take_succ_cons, List.take_nil, Option.getD_some, map_c, map_n, List.length_cons, List.length_nil, Nat.reduceAdd, Nat.reduceSub, Nat.reduceLeDiff, Nat.zero_add, List.cons_append, List.nil_append, if_true, if_false, Bool.false_eq_true]
  refine CallK.of (c_Index hg hl p) ?_
  simp (maxSteps := 4000000) -implicitDefEqProofs -dsimp (disch := omega) only [↓AW_ret, ↓AOps_nil, ↓AOps_pu, on_some, extK_same, ↓then_normal, ↓Fin_ret, pval, rd_S, put_S, resV, resL, List.replicate_succ, List.replicate_zero, List.set_cons_zero, List.set_cons_succ, List.getElem?_cons_zero, List.getElem?_cons_succ, Option.getD_some, Nat.reduceSub, List.cons_append, List.nil_append]
  exact gc_same rfl
theorem sn_get {b : List Bool} {p : Int} (h : p.toNat < b.length) : b[p.toNat]? = some (sn b p) := by
  unfold sn
  rw [List.getElem?_eq_getElem h]
  rfl
theorem s101_step {P : Int} {ws : List (AV × List Int)} {A H : AHeap} {v : AV} {nw ns nc na ng : Nat} {fa fg : Bool} (hv : Val P (lists ws)) (hw : LL A v ws) (c : Ctx P A H v nw ns nc na ng ws.length fa fg) (m : Nat)
    (hrec : ∀ (i : Int) (s : St), inP ws.length i → s.1.length = P.toNat → Good P (lists ws) s.2 → unseen s.1 + 1 ≤ m → ACalls Try.prog 101 [I i, .ptr nw 0, .ptr ns 0, .ptr nc 0] (hpS H na ng s) (B (chF (lists ws) m i s).1) (hpS H na ng (chF (lists ws) m i s).2))
    (i : Int) (s : St) (hi : inP ws.length i) (hl : s.1.length = P.toNat) (hg : Good P (lists ws) s.2) (hm : unseen s.1 ≤ m) :
      ACalls Try.prog 101 [I i, .ptr nw 0, .ptr ns 0, .ptr nc 0] (hpS H na ng s) (B (chF (lists ws) (m + 1) i s).1) (hpS H na ng (chF (lists ws) (m + 1) i s).2) := by
  have hls : ∀ l ∈ lists ws, ∀ p ∈ l, inP P p := fun l hl => (hv.l l hl).1
  have hP := hv.hP
  have hn : ws.length ≤ 7 := by simpa using hv.n
  have hlsn : (lists ws).length = ws.length := by simp
  obtain ⟨x, hx, hlx⟩ := lst_get hi
  have hxm := List.mem_of_getElem? hx
  have hx2 := hv.len (show x.2 ∈ lists ws from List.mem_map.2 ⟨x, hxm, rfl⟩)
  have hxP := hls x.2 (List.mem_map.2 ⟨x, hxm, rfl⟩)
  have hltw : i.toNat < ws.length := (List.getElem?_eq_some_iff.1 hx).1
  rw [chF, hlx]
  refine acalls hmix Try.func101 (by kernel_rfl) t101 4 rfl (by decide) ?_
  obtain ⟨w1, w2, w3⟩ := c.ldw s
  have hw0 := hw.mono (c.preS s)
  dsimp only [m101]
  simp (maxSteps := 4000000) -implicitDefEqProofs -dsimp (disch := omega) only [↓AW_ops, ↓AW_seq, ↓AW_block, ↓AOps_nil, ↓AOps_pu, ↓AOps_ld, on_some, ↓then_normal, pval, lval, rd_S, rd_C, put_S, ↓AW_toLoop, partA, eq_self, List.replicate_succ, List.replicate_zero, List.set_cons_zero, List.set_cons_succ, List.getElem?_cons_zero, List.getElem?_cons_succ, List.drop_zero, List.take_succ_cons, List.take_nil, Option.getD_some, List.length_cons, List.length_nil, Nat.reduceSub, Nat.reduceLeDiff, Nat.zero_add, Nat.add_zero, List.cons_append, List.nil_append, if_true, if_false, Bool.false_eq_true, w1, hw0.ls.idxI (k := .i64) hi.1 hi.2, hw0.ls.ld0 hx 1 false (by decide), e0, (hw0.inn x hxm).len]
  refine LoopK.by 43 (fun y : Nat × St => y.1 ≤ x.2.length ∧ y.2.1.length = P.toNat ∧ Good P (lists ws) y.2.2 ∧ unseen y.2.1 ≤ m ∧ goF (chF (lists ws) m) i x.2 s = goF (chF (lists ws) m) i (x.2.drop y.1) y.2)
    (fun y => [(0, I i), (1, .ptr nw 0), (2, .ptr ns 0), (3, .ptr nc 0), (14, x.1), (15, I x.2.length), (16, I y.1)]) (fun y => hpS H na ng y.2) (fun y => x.2.length - y.1) (0, s) ⟨by simp only; omega, hl, hg, hm, rfl⟩ rfl (by simp [Has, rd_s]) rfl ?_
  rintro ⟨k, t⟩ ⟨hk, tl, tg, tm, te⟩
  simp only at hk tl tg tm te
  by_cases hltk : k < x.2.length
  · obtain ⟨p, hzp⟩ : ∃ p, x.2[k]? = some p := ⟨_, List.getElem?_eq_getElem hltk⟩
    have hltk' : (k : Int) < x.2.length := by omega
    have hp := hxP p (List.mem_of_getElem? hzp)
    have hp2 : p < (t.1.length : Int) := by rw [tl]; have := hp.1; have := hp.2; omega
    have hpn : p.toNat < t.1.length := by have := hp.1; omega
    have hdr : x.2.drop k = p :: x.2.drop (k + 1) := by
      have := (List.getElem?_eq_some_iff.1 hzp).2
      rw [← this]; exact List.drop_eq_getElem_cons hltk
    rw [hdr, goF] at te
    have hxt := (hw.inn x hxm).mono (c.preS t)
    have hoa := c.ola t tl
    have hget := sn_get hpn
    by_cases hsn : sn t.1 p = true
    · rw [if_pos hsn] at te
      rw [hsn] at hget
      simp (maxSteps := 4000000) -implicitDefEqProofs -dsimp (disch := omega) only [↓AW_skip, ↓AW_ops, ↓AW_seq, ↓AW_cond, ↓AW_block, ↓AW_exit, ↓AW_ret, ↓AOps_nil, ↓AOps_pu, ↓AOps_ld, on_some, condB_t, ↓then_normal, ↓then_exit, ↓inBlock_exit, ↓Fin_ret, pval, lval, rd_S, rd_C, put_S, resV, resL, partA, eq_self, mk, List.foldl_cons, List.foldl_nil, List.replicate_succ, List.replicate_zero, List.set_cons_zero, List.set_cons_succ, List.getElem?_cons_zero, List.getElem?_cons_succ, List.drop_zero, List.take_succ_cons, List.take_nil, Option.getD_some, List.length_cons, List.length_nil, Nat.reduceAdd, Nat.reduceLeDiff, Nat.zero_add, bin_add, bin_lss, w64, if_true, if_false, Bool.false_eq_true, decide_true, Go.Eng.e1, true_and, reduceCtorEq, hltk', hxt.idx hltk, hxt.ld0 hzp 1 false (by decide), c.lds t, hoa.ls.idxI (k := .i64) hp.1 hp2, hoa.ls.ld0 hget 1 false (by decide), eb]
      exact ⟨(k + 1, t), ⟨hltk, tl, tg, tm, te⟩, by simp [Has, rd_s], rfl, by simp only; omega⟩
    · rw [if_neg hsn] at te
      have hsn' : sn t.1 p = false := by simpa using hsn
      rw [hsn'] at hget
      have hun := unseen_set hsn'
      have hst := hoa.st hpn (B true) true rfl
      rw [c.setA] at hst
      have hog := c.olg (t.1.set p.toNat true, t.2) (by rw [← hlsn]; exact tg.len)
      obtain ⟨v1, v2, v3⟩ := c.ldw (t.1.set p.toNat true, t.2)
      have hgl : t.2.length = ws.length := by rw [← hlsn]; exact tg.len
      simp (maxSteps := 4000000) -implicitDefEqProofs -dsimp (disch := omega) only [↓AW_skip, ↓AW_ops, ↓AW_seq, ↓AW_cond, ↓AW_block, ↓AOps_nil, ↓AOps_pu, ↓AOps_ld, ↓AOps_ha, ↓AOps_call, on_some, extK_false, condB_t, condB_f, ↓then_normal, pval, lval, hval_st, rd_S, rd_C, put_S, putS_none, partA, eq_self, mk, List.foldl_cons, List.foldl_nil, List.replicate_succ, List.replicate_zero, List.set_cons_zero, List.set_cons_succ, List.getElem?_cons_zero, List.getElem?_cons_succ, List.drop_zero, List.take_succ_cons, List.take_nil, Option.getD_some, Option.map_some, map_c, map_n, List.length_cons, List.length_nil, Nat.reduceLeDiff, Nat.zero_add, bin_lss, if_true, if_false, Bool.false_eq_true, decide_true, Go.Eng.e1, hltk', hxt.idx hltk, hxt.ld0 hzp 1 false (by decide), c.lds t, hoa.ls.idxI (k := .i64) hp.1 hp2, hoa.ls.ld0 hget 1 false (by decide), eb, hst, v3]
      refine CallK.of (s89 hog.ls (by simp only; omega) p) ?_
      simp only
      by_cases hf : fpos (fun y => decide (p = y)) t.2 < 0
      · rw [if_pos hf] at te
        have hst2 := hog.st (i := i.toNat) (by simp only; rw [hgl]; exact hltw) (I p) p rfl
        rw [c.setG] at hst2
        simp (maxSteps := 4000000) -implicitDefEqProofs -dsimp (disch := omega) only [↓AW_ops, ↓AW_seq, ↓AW_cond, ↓AW_ret, ↓AOps_nil, ↓AOps_pu, ↓AOps_ld, ↓AOps_ha, ↓AOps_guard, on_some, extK_false, extK_same, guardB_tf, skipS_some, condB_t, ↓then_normal, ↓then_ret, ↓inBlock_ret, ↓Fin_ret, pval, lval, hval_st, rd_S, rd_C, put_S, putS_none, resV, resL, eq_self, mk, List.foldl_cons, List.foldl_nil, List.replicate_succ, List.replicate_zero, List.set_cons_zero, List.set_cons_succ, List.getElem?_cons_zero, List.getElem?_cons_succ, Option.getD_some, Option.map_some, Nat.zero_add, bin_lss, if_true, decide_true, hf, v2, hog.ls.idxI (k := .i64) hi.1 (by simp only; rw [hgl]; exact hi.2), hst2]
        exact gc_same_all (by rw [te]) (by rw [te])
      · rw [if_neg hf] at te
        obtain ⟨h, hh1, hh2, hh3⟩ := fpos_get hf
        rw [hh2] at te hf ⊢
        have hpost := chF_spec hls m h (t.1.set p.toNat true, t.2) ⟨by omega, by rw [hlsn]; omega⟩ tg (by simp [tl]) (by simp only; omega)
        simp (maxSteps := 4000000) -implicitDefEqProofs -dsimp (disch := omega) only [↓AW_ops, ↓AW_seq, ↓AOps_nil, ↓AOps_pu, ↓AOps_ld, ↓AOps_callv, ↓AOps_guard, on_some, extK_same, CallF_fn, guardB_ff, ↓then_normal, pval, lval, rd_S, rd_C, put_S, putS_none, mk, List.foldl_cons, List.foldl_nil, List.replicate_succ, List.replicate_zero, List.set_cons_zero, List.set_cons_succ, List.getElem?_cons_zero, List.getElem?_cons_succ, Option.getD_some, map_c, map_n, List.cons_append, List.nil_append, bin_lss, decide_false, hf, c.ldc (t.1.set p.toNat true, t.2)]
        refine CallK.of (hrec h (t.1.set p.toNat true, t.2) ⟨by omega, by omega⟩ (by simp [tl]) tg (by simp only; omega)) ?_
        generalize chF (lists ws) m h (t.1.set p.toNat true, t.2) = r at *
        by_cases hr : r.1 = true
        · rw [if_pos hr] at te
          have hg2 := (hpost.yes hr).1
          have hgl2 : r.2.2.length = ws.length := by rw [← hlsn]; exact hg2.len
          have hog2 := c.olg r.2 hgl2
          have hst2 := hog2.st (i := i.toNat) (by rw [hgl2]; exact hltw) (I p) p rfl
          rw [c.setG] at hst2
          simp (maxSteps := 4000000) -implicitDefEqProofs -dsimp (disch := omega) only [↓AW_ops, ↓AW_seq, ↓AW_cond, ↓AW_ret, ↓AOps_nil, ↓AOps_pu, ↓AOps_ld, ↓AOps_ha, on_some, extK_false, condB_t, ↓then_normal, ↓then_ret, ↓inBlock_ret, ↓Fin_ret, pval, lval, hval_st, rd_S, rd_C, put_S, putS_none, resV, resL, mk, List.foldl_cons, List.foldl_nil, List.replicate_succ, List.replicate_zero, List.set_cons_zero, List.set_cons_succ, List.getElem?_cons_zero, List.getElem?_cons_succ, Option.getD_some, Option.map_some, Nat.zero_add, if_false, Bool.false_eq_true, hr, (c.ldw r.2).2.1, hog2.ls.idxI (k := .i64) hi.1 (by rw [hgl2]; exact hi.2), hst2]
          exact gc_same_all (by rw [te]) (by rw [te])
        · rw [if_neg hr] at te
          have hr' : r.1 = false := by simpa using hr
          simp (maxSteps := 4000000) -implicitDefEqProofs -dsimp (disch := omega) only [↓AW_skip, ↓AW_ops, ↓AW_cond, ↓AOps_nil, ↓AOps_pu, on_some, extK_false, condB_f, ↓then_normal, ↓inBlock_normal, pval, rd_S, rd_C, put_S, putS_none, eq_self, mk, List.foldl_cons, List.foldl_nil, List.replicate_succ, List.replicate_zero, List.set_cons_zero, List.set_cons_succ, List.getElem?_cons_zero, List.getElem?_cons_succ, Option.getD_some, List.length_cons, List.length_nil, Nat.reduceAdd, Nat.zero_add, bin_add, w64, if_false, Bool.false_eq_true, true_and, hr']
          have hno := hpost.no hr'
          have hcn := hpost.cnt
          simp only at hcn
          refine ⟨(k + 1, r.2), ⟨hltk, by simp only; rw [hpost.len]; simp [tl], by simp only; rw [hno.1]; exact tg, by simp only; omega, te⟩, by simp [Has, rd_s], rfl, by simp only; omega⟩
  · have hltk' : ¬ ((k : Int) < x.2.length) := by omega
    rw [List.drop_of_length_le (by omega), goF] at te
    simp (maxSteps := 4000000) -implicitDefEqProofs -dsimp (disch := omega) only [↓AW_ops, ↓AW_seq, ↓AW_cond, ↓AW_exit, ↓AW_ret, ↓AOps_nil, ↓AOps_pu, on_some, condB_f, ↓then_normal, ↓then_exit, ↓inBlock_exit, ↓Fin_ret, pval, rd_S, rd_C, put_S, resV, resL, eq_self, mk, List.foldl_cons, List.foldl_nil, List.replicate_succ, List.replicate_zero, List.set_cons_zero, List.set_cons_succ, List.getElem?_cons_zero, List.getElem?_cons_succ, Option.getD_some, bin_lss, if_true, decide_false, hltk']
    exact gc_same_all (by rw [te]) (by rw [te])
theorem s101 {P : Int} {ws : List (AV × List Int)} {A H : AHeap} {v : AV} {nw ns nc na ng : Nat} {fa fg : Bool} (hv : Val P (lists ws)) (hw : LL A v ws) (c : Ctx P A H v nw ns nc na ng ws.length fa fg) :
    ∀ (m : Nat) (i : Int) (s : St), inP ws.length i → s.1.length = P.toNat → Good P (lists ws) s.2 → unseen s.1 ≤ m →
      ACalls Try.prog 101 [I i, .ptr nw 0, .ptr ns 0, .ptr nc 0] (hpS H na ng s) (B (chF (lists ws) (m + 1) i s).1) (hpS H na ng (chF (lists ws) (m + 1) i s).2)
  | 0, i, s, hi, hl, hg, hm => s101_step hv hw c 0 (fun _ _ _ _ _ h => by omega) i s hi hl hg hm
  | m + 1, i, s, hi, hl, hg, hm => s101_step hv hw c (m + 1) (fun j t h1 h2 h3 h4 => s101 hv hw c m j t h1 h2 h3 (by omega)) i s hi hl hg hm
end Go.Proofs.Ytlmbobbefgcolaa

namespace Go.Proofs.Ytlmbobbefgcolaa
open Go Go.Eng
theorem flat_take {α : Type} {es : Nat} {e : α → List AV} (he : ∀ x, (e x).length = es) (xs : List α) (m : Nat) (hm : m ≤ xs.length) : (xs.flatMap e).take (m * es) = (xs.take m).flatMap e := by
  have h1 := flatMap_length he (xs.take m)
  rw [List.length_take, Nat.min_eq_left hm] at h1
  conv => lhs; rw [← List.take_append_drop m xs, List.flatMap_append]
  rw [← h1, List.take_left]
theorem flat_drop {α : Type} {es : Nat} {e : α → List AV} (he : ∀ x, (e x).length = es) (xs : List α) (m : Nat) (hm : m ≤ xs.length) : (xs.flatMap e).drop (m * es) = (xs.drop m).flatMap e := by
  have h1 := flatMap_length he (xs.take m)
  rw [List.length_take, Nat.min_eq_left hm] at h1
  conv => lhs; rw [← List.take_append_drop m xs, List.flatMap_append]
  rw [← h1, List.drop_left]
/-- A copy into a list that the call has made. -/
theorem OL_cpy {α : Type} {es : Nat} {e : α → List AV} {A H : AHeap} {n : Nat} {v : AV} {xs ys : List α} (h : OL es e A H n v xs) {y : AV} (hy : Ls es e H y ys) (m : Nat) (hm : m ≤ xs.length) (full : Bool) :
    cpA es (.sl es n (m * es) (xs.length - m) full) y H = some (I ((min ys.length (xs.length - m) : Nat) : Int), H.set n (.cells true ((xs.take m ++ ys.take (min ys.length (xs.length - m)) ++ xs.drop (m + min ys.length (xs.length - m))).flatMap e))) := by
  have hl := flatMap_length h.he xs
  have hs : (xs.length - m) * es = xs.length * es - m * es := Nat.sub_mul _ _ _
  have hmm : m * es ≤ xs.length * es := Nat.mul_le_mul_right _ hm
  have hk : min ys.length (xs.length - m) ≤ ys.length := Nat.min_le_left _ _
  have hk2 : m + min ys.length (xs.length - m) ≤ xs.length := by omega
  unfold cpA
  simp only [hy.hc, h.ob, if_true]
  rw [if_pos (by omega)]
  congr 2
  congr 2
  unfold splice
  rw [flat_take h.he xs m hm, flat_take h.he ys _ hk]
  have h3 := flatMap_length h.he (ys.take (min ys.length (xs.length - m)))
  rw [List.length_take, Nat.min_eq_left hk] at h3
  rw [h3, ← Nat.add_mul, flat_drop h.he xs _ hk2]
  simp only [List.flatMap_append]
theorem OL_setAll {α : Type} {es : Nat} {e : α → List AV} {A H : AHeap} {n : Nat} {v : AV} {xs : List α} (h : OL es e A H n v xs) (xs' : List α) (hl : xs'.length = xs.length) : OL es e A (H.set n (.cells true (xs'.flatMap e))) n v xs' := by
  have hn := h.lt
  obtain ⟨he, h1, h2, h3, full, rfl⟩ := h
  exact ⟨he, pre_set h1 h2 _, h2, by rw [List.getElem?_set_self hn], full, by rw [hl]⟩
/-- A call that looks at nothing in the heap, with two results. -/
theorem ACalls_lift2 {P : Program} {f : FuncId} {args : List AV} {a b : AV} {H' : AHeap} (h : ACalls P f args [] (.tuple [a, b]) H') (ha : ∀ x ∈ args, flat x = true) (h1 : flat a = true) (h2 : flat b = true) (H : AHeap) : ACalls P f args H (.tuple [a, b]) H := by
  refine ⟨h.1, fun ρ w cargs hs hargs => ?_⟩
  have s0 : Sim (fun _ => none) [] w := ⟨fun _ _ e => (by cases e), fun _ _ _ e => (by cases e), fun _ _ _ _ e => (by cases e)⟩
  have fl : ∀ {ρ ρ' : Ren} {x : AV} {u : Value}, flat x = true → VR ρ x u → VR ρ' x u := by
    intro ρ ρ' x u hx hr
    cases hr <;> simp [flat] at hx <;> constructor
  have a0 : LR (fun _ => none) args cargs.toList := ⟨hargs.1, fun i x u hx hu => fl (ha x (List.mem_of_getElem? hx)) (hargs.2 i x u hx hu)⟩
  refine (h.2 _ w cargs s0 a0).mono ?_
  rintro e w' ⟨ρ', cv, rfl, hv, _, h3⟩
  have hk : ∀ b, b < w.heap.size → w'.heap[b]? = w.heap[b]? := fun b hb => h3.keep b hb (fun ⟨n, L, e, _⟩ => (by cases e))
  have hv' : VR ρ (.tuple [a, b]) cv := by
    cases hv with
    | tuple _ vs hl hh =>
      refine .tuple _ _ hl (fun i x u hx hu => ?_)
      match i with
      | 0 => simp at hx; subst hx; exact fl h1 (hh 0 _ u rfl hu)
      | 1 => simp at hx; subst hx; exact fl h2 (hh 1 _ u rfl hu)
      | i + 2 => simp at hx
  refine ⟨ρ, cv, rfl, hv', hs.world h3.size (fun n L e => hk _ (hs.dom n L e).2), ⟨fun _ _ => rfl, Nat.le_refl _, h3.os, h3.tape, h3.out, h3.size, fun b hb _ => hk b hb, fun _ h => .inr h, fun n L e => .inl (hs.dom n L e).1⟩⟩
theorem u64w (n : Int) (h0 : 0 ≤ n) (h1 : n < 9223372036854775808) : IntKind.u64.wrap n = n := by
  have e : IntKind.u64.wrap n = n % 18446744073709551616 := by simp [IntKind.wrap, IntKind.bits, IntKind.signed]
  rw [e]; omega
theorem OL_gcS {α : Type} {es : Nat} {e : α → List AV} {A H : AHeap} {n : Nat} {v : AV} {xs : List α} (h : OL es e A H n v xs) (hf : ∀ x, ∀ y ∈ e x, flat y = true) : GC A v H (.sl es A.length 0 xs.length false) (A ++ [.cells true (xs.flatMap e)]) := by
  obtain ⟨he, h1, h2, h3, full, rfl⟩ := h
  have hfl : ∀ y ∈ xs.flatMap e, flat y = true := fun y hy => by
    obtain ⟨x, _, hx⟩ := List.mem_flatMap.1 hy
    exact hf x y hx
  refine gc_weak (fun ρ c => VR.unfull) ?_
  have hk := Keep.add (keep_old h1) (n := n) (o := .cells true (xs.flatMap e)) h2 (by simp; omega) h3
  simp only [renO, ren_flats _ 3 _ hfl] at hk
  exact gc_keep hk (by simp [ren])
theorem rep_step {α : Type} (r z : α) {n m : Nat} (hm : m ≤ n) :
    (List.replicate m r ++ List.replicate (n - m) z).take m ++ ((List.replicate m r ++ List.replicate (n - m) z).take m).take (min m (n - m)) ++ (List.replicate m r ++ List.replicate (n - m) z).drop (m + min m (n - m)) = List.replicate (m + min m (n - m)) r ++ List.replicate (n - (m + min m (n - m))) z := by
  have h1 : (List.replicate m r ++ List.replicate (n - m) z).take m = List.replicate m r := by
    rw [List.take_append_of_le_length (by simp), List.take_of_length_le (by simp)]
  rw [h1, List.take_replicate, List.drop_append]
  simp only [List.length_replicate, List.drop_replicate]
  rw [show min (min m (n - m)) m = min m (n - m) by omega, show m - (m + min m (n - m)) = 0 by omega, show m + min m (n - m) - m = min m (n - m) by omega, show n - m - min m (n - m) = n - (m + min m (n - m)) by omega]
  rw [List.replicate_zero, List.nil_append, List.replicate_append_replicate]
theorem LR_flat {ρ ρ' : Ren} {cs : List AV} {vs : List Value} (hf : ∀ x ∈ cs, flat x = true) (h : LR ρ cs vs) : LR ρ' cs vs := by
  refine ⟨h.1, fun i x v hx hv => ?_⟩
  have h1 := h.2 i x v hx hv
  have hx' := hf x (List.mem_of_getElem? hx)
  cases h1 <;> simp [flat] at hx' <;> constructor
/-- Nothing is kept but what was there, of which some lists may have turned. -/
theorem keep_mod {H H1 H' : AHeap} (hl : H'.length = H.length) (hp : H' <+: H1) (hm : ∀ n, n < H.length → H'[n]? = H[n]? ∨ (live H n ∧ ∃ rw cs, H'[n]? = some (.cells rw cs) ∧ ∀ x ∈ cs, flat x = true)) :
    Keep H H1 (fun n => if n < H.length then some n else none) H' := by
  intro ρ0 w0 ρ1 w1 s0 s1 st
  have hsub := st.sub s0
  have get : ∀ n, n < H.length → H1[n]? = H'[n]? := fun n hn => by
    obtain ⟨t, rfl⟩ := hp
    rw [List.getElem?_append_left (by omega)]
  have lv : ∀ n, n < H.length → live H' n → live H n := fun n hn h => by
    rcases hm n hn with e | ⟨e, _⟩
    · unfold live at *; rw [← e]; exact h
    · exact e
  refine ⟨ρ0, ⟨fun n L e => ⟨by rw [hl]; exact (s0.dom n L e).1, Nat.lt_of_lt_of_le (s0.dom n L e).2 st.size⟩, fun n L o e ho => ?_, fun n m L M hn hm' hne l1 l2 => s0.sep n m L M hn hm' hne (lv n (s0.dom n L hn).1 l1) (lv m (s0.dom m M hm').1 l2)⟩,
    ⟨fun _ _ => rfl, by omega, st.os, st.tape, st.out, st.size, st.keep, fun b ⟨n, L, h1, h2, h3, h4⟩ => .inr ⟨n, L, h1, h2, h3, lv n (s0.dom n L h1).1 h4⟩, fun n L e => .inl (s0.dom n L e).1⟩, ?_, ?_⟩
  · have hn := (s0.dom n L e).1
    have h1 := s1.obj n L o (hsub n L e) (by rw [get n hn]; exact ho)
    rcases hm n hn with e1 | ⟨_, rw, cs, e1, hf⟩
    · rw [e1] at ho
      have h0 := s0.obj n L o e ho
      cases o with
      | dead => trivial
      | cells rw l =>
        cases hb0 : w0.heap[L.b]? with
        | none => rw [hb0] at h0; exact h0.elim
        | some b0 =>
          rw [hb0] at h0
          cases b0 <;> try exact h0.elim
          cases hb : w1.heap[L.b]? with
          | none => rw [hb] at h1; exact h1.elim
          | some b =>
            rw [hb] at h1
            cases b <;> first | exact h1.elim | exact ⟨h1.1, h1.2.1, LR.back hsub h0.2.2.1 h1.2.2.1, h1.2.2.2⟩
      | mp l =>
        cases hb0 : w0.heap[L.b]? with
        | none => rw [hb0] at h0; exact h0.elim
        | some b0 =>
          rw [hb0] at h0
          cases b0 <;> try exact h0.elim
          cases hb : w1.heap[L.b]? with
          | none => rw [hb] at h1; exact h1.elim
          | some b =>
            rw [hb] at h1
            cases b <;> first | exact h1.elim | exact ⟨h1.1, LR.back hsub h0.2.1 h1.2.1, LR.back hsub h0.2.2 h1.2.2⟩
    · rw [e1] at ho
      cases ho
      cases hb : w1.heap[L.b]? with
      | none => rw [hb] at h1; exact h1.elim
      | some b =>
        rw [hb] at h1
        cases b <;> first | exact h1.elim | exact ⟨h1.1, h1.2.1, LR_flat hf h1.2.2.1, h1.2.2.2⟩
  · intro n m L hf hn
    simp only at hf
    split at hf
    · rename_i hlt
      cases hf
      rw [← st.old n hlt]; exact hn
    · cases hf
  · intro m L e
    have hm' := (s0.dom m L e).1
    refine ⟨m, by simp [hm'], hsub m L e, fun h => ?_⟩
    unfold live at *
    rw [get m hm']; exact h
/-- One list has turned, and all that is new is dropped. -/
theorem gc_set {H H1 : AHeap} {n : Nat} {cs cs' : List AV} {rw : Bool} (hn : H[n]? = some (.cells rw cs)) (hf : ∀ x ∈ cs', flat x = true) (hp : H.set n (.cells rw cs') <+: H1) {v : AV} (hv : flat v = true) : GC H v H1 v (H.set n (.cells rw cs')) := by
  have hlt := (List.getElem?_eq_some_iff.1 hn).1
  refine gc_keep (keep_mod (by simp) hp (fun k hk => ?_)) (ren_flat _ 3 v hv)
  by_cases h : k = n
  · subst h
    exact .inr ⟨⟨_, hn, by simp⟩, rw, cs', by rw [List.getElem?_set_self hlt], hf⟩
  · exact .inl (by rw [List.getElem?_set_ne (Ne.symm h)])
theorem set_same {α : Type} {l : List α} {n : Nat} {x : α} (h : l[n]? = some x) : l.set n x = l := by
  have hlt := (List.getElem?_eq_some_iff.1 h).1
  have hx := (List.getElem?_eq_some_iff.1 h).2
  rw [← hx]
  exact List.set_getElem_self hlt
end Go.Proofs.Ytlmbobbefgcolaa

