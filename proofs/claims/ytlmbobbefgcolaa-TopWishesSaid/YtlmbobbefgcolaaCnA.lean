/- What the law's proof rests on, part 3: for all that is said in each line. No conditions. -/
import Derived.Test.YtlmbobbefgcolaaRows
import Derived.Test.YtlmbobbefgcolaaEnB
namespace Go.Proofs.Ytlmbobbefgcolaa
open Go Go.Eng
/-- selion/selionlaw07.Long [loop [1, 3]] -/
def m17 : MFun := ⟨21, [1], [.mov (.s 2)],
 .seq (.ops [⟨(some 1), some (.junk), none, false, .pu (.bnew (.s 0))⟩,
   ⟨(some 2), some undefA, none, false, .pu (.mov (.c (.bool false)))⟩])
 (.seq (.seq (.ops [⟨(some 3), some undefA, none, false, .pu (.mov (.c (.int .i64 0)))⟩])
 (.block 0 (.loop (.seq (.seq (.ops [⟨(some 4), some undefA, none, false, .pu (.mov (.s 3))⟩,
     ⟨(some 5), some undefA, none, false, .pu (.badr none 1)⟩,
     ⟨(some 6), some undefA, none, false, .pu (.bget (some 5) 1 1 1 false)⟩,
     ⟨(some 7), some undefA, none, false, .pu (.len (.s 6))⟩,
     ⟨(some 8), some undefA, none, false, .pu (.bin .lss (.s 4) (.s 7))⟩])
   (.cond (.s 8) (.skip)
   (.exit 0)))
   (.seq (.block 1 (.seq (.ops [⟨(some 11), some undefA, none, false, .pu (.badr none 1)⟩,
      ⟨(some 12), some undefA, none, false, .pu (.bget (some 11) 1 1 1 false)⟩,
      ⟨(some 13), some undefA, none, false, .pu (.mov (.s 3))⟩,
      ⟨(some 14), some undefA, none, false, .pu (.idx 1 (.s 12) (.s 13))⟩,
      ⟨(some 15), some undefA, none, false, .ld (.ld 1 false (.s 14))⟩,
      ⟨(some 16), some undefA, none, false, .call 32 [(.s 15)]⟩])
    (.cond (.s 16) (.seq (.ops [⟨(some 2), some undefA, none, false, .pu (.mov (.c (.bool true)))⟩])
     (.ret))
    (.skip))))
   (.ops [⟨(some 9), some undefA, none, false, .pu (.mov (.s 3))⟩,
     ⟨(some 10), some undefA, none, false, .pu (.bin .add (.s 9) (.c (.int .i64 1)))⟩,
     ⟨(some 3), some undefA, none, false, .pu (.mov (.s 10))⟩]))))))
 (.seq (.ops [⟨(some 17), some undefA, none, false, .pu (.badr none 1)⟩,
   ⟨(some 18), some undefA, none, false, .pu (.bget (some 17) 1 1 1 false)⟩,
   ⟨(some 19), some undefA, none, false, .pu (.len (.s 18))⟩,
   ⟨(some 20), some undefA, none, false, .pu (.bin .gtr (.s 19) (.c (.int .i64 40)))⟩,
   ⟨(some 2), some undefA, none, false, .pu (.mov (.s 20))⟩])
 (.ret)))⟩
theorem t17 : trF Try.prog [1] [] Try.f17 = some m17 := by kernel_rfl
/-- selion/selionlaw07.known [] -/
def m18 : MFun := ⟨46, [], [.mov (.s 0)],
 .seq (.ops [⟨(some 0), some undefA, none, false, .pu (.mov (.c (.bool false)))⟩])
 (.seq (.ops [⟨(some 8), some undefA, none, false, .call 54 []⟩,
   ⟨(some 9), some undefA, none, false, .call 24 [(.s 8)]⟩,
   ⟨(some 7), some undefA, none, false, .pu (.mov (.s 9))⟩,
   ⟨(some 10), some undefA, none, false, .pu (.extr 0 (.s 7))⟩,
   ⟨(some 11), some undefA, none, false, .pu (.extr 1 (.s 7))⟩,
   ⟨(some 1), some undefA, none, false, .pu (.mov (.s 10))⟩,
   ⟨(some 2), some undefA, none, false, .pu (.mov (.s 11))⟩])
 (.seq (.ops [⟨(some 13), some undefA, none, false, .call 54 []⟩,
   ⟨(some 14), some undefA, none, false, .call 19 [(.s 13)]⟩,
   ⟨(some 12), some undefA, none, false, .pu (.mov (.s 14))⟩,
   ⟨(some 15), some undefA, none, false, .pu (.extr 0 (.s 12))⟩,
   ⟨(some 16), some undefA, none, false, .pu (.extr 1 (.s 12))⟩,
   ⟨(some 3), some undefA, none, false, .pu (.mov (.s 15))⟩,
   ⟨(some 4), some undefA, none, false, .pu (.mov (.s 16))⟩])
 (.seq (.ops [⟨(some 18), some undefA, none, false, .call 54 []⟩,
   ⟨(some 19), some undefA, none, false, .call 21 [(.s 18)]⟩,
   ⟨(some 17), some undefA, none, false, .pu (.mov (.s 19))⟩,
   ⟨(some 20), some undefA, none, false, .pu (.extr 0 (.s 17))⟩,
   ⟨(some 21), some undefA, none, false, .pu (.extr 1 (.s 17))⟩,
   ⟨(some 5), some undefA, none, false, .pu (.mov (.s 20))⟩,
   ⟨(some 6), some undefA, none, false, .pu (.mov (.s 21))⟩])
 (.seq (.ops [⟨(some 22), some undefA, none, false, .pu (.mov (.s 2))⟩,
   ⟨(some 23), some undefA, none, false, .pu (.bin .eql (.s 22) (.c (.int .i64 0)))⟩,
   ⟨(some 24), some undefA, none, false, .pu (.mov (.s 23))⟩,
   ⟨(some 25), some undefA, (some (24, true)), false, .pu (.mov (.s 1))⟩,
   ⟨(some 26), some undefA, (some (24, true)), false, .pu (.bin .eql (.s 25) (.c (.int .i64 2)))⟩,
   ⟨(some 27), some undefA, none, false, .pu (.pick (.s 24) (.s 26) (.c (.bool false)))⟩,
   ⟨(some 28), some undefA, none, false, .pu (.mov (.s 27))⟩,
   ⟨(some 29), some undefA, (some (28, true)), false, .pu (.mov (.s 4))⟩,
   ⟨(some 30), some undefA, (some (28, true)), false, .pu (.bin .eql (.s 29) (.c (.int .i64 0)))⟩,
   ⟨(some 31), some undefA, none, false, .pu (.pick (.s 28) (.s 30) (.c (.bool false)))⟩,
   ⟨(some 32), some undefA, none, false, .pu (.mov (.s 31))⟩,
   ⟨(some 33), some undefA, (some (32, true)), false, .pu (.mov (.s 3))⟩,
   ⟨(some 34), some undefA, (some (32, true)), false, .ha (.blds 1 1 [.int .i64 0] [(0, 1, (.c (.int .i64 0)))])⟩,
   ⟨(some 35), some undefA, (some (32, true)), false, .call 23 [(.s 33), (.s 34)]⟩,
   ⟨(some 36), some undefA, none, false, .pu (.pick (.s 32) (.s 35) (.c (.bool false)))⟩,
   ⟨(some 37), some undefA, none, false, .pu (.mov (.s 36))⟩,
   ⟨(some 38), some undefA, (some (37, true)), false, .pu (.mov (.s 6))⟩,
   ⟨(some 39), some undefA, (some (37, true)), false, .pu (.bin .eql (.s 38) (.c (.int .i64 0)))⟩,
   ⟨(some 40), some undefA, none, false, .pu (.pick (.s 37) (.s 39) (.c (.bool false)))⟩,
   ⟨(some 41), some undefA, none, false, .pu (.mov (.s 40))⟩,
   ⟨(some 42), some undefA, (some (41, true)), false, .pu (.mov (.s 5))⟩,
   ⟨(some 43), some undefA, (some (41, true)), false, .ha (.blds 1 2 [.int .i64 0] [(0, 1, (.c (.int .i64 0))), (1, 1, (.c (.int .i64 1)))])⟩,
   ⟨(some 44), some undefA, (some (41, true)), false, .call 23 [(.s 42), (.s 43)]⟩,
   ⟨(some 45), some undefA, none, false, .pu (.pick (.s 41) (.s 44) (.c (.bool false)))⟩,
   ⟨(some 0), some undefA, none, false, .pu (.mov (.s 45))⟩])
 (.ret)))))⟩
theorem t18 : trF Try.prog [] [] Try.f18 = some m18 := by kernel_rfl
/-- selion/wish.Sure [loop [1, 5, 15, 16]] -/
def m19 : MFun := ⟨40, [1, 7], [.mov (.s 2), .mov (.s 3)],
 .seq (.ops [⟨(some 1), some (.junk), none, false, .pu (.bnew (.s 0))⟩,
   ⟨(some 2), some undefA, none, false, .pu (.mov (.c (.nilS)))⟩,
   ⟨(some 3), some undefA, none, false, .pu (.mov (.c (.int .i64 0)))⟩])
 (.seq (.seq (.ops [⟨(some 8), some undefA, none, false, .pu (.bget none 1 0 2 true)⟩,
   ⟨(some 9), some undefA, none, false, .call 39 [(.s 8)]⟩,
   ⟨(some 4), some undefA, none, false, .pu (.mov (.s 9))⟩])
 (.seq (.ops [⟨(some 10), some undefA, none, false, .pu (.mov (.s 4))⟩,
   ⟨(some 11), some undefA, none, false, .pu (.bin .neq (.s 10) (.c (.int .i64 0)))⟩])
 (.cond (.s 11) (.seq (.ops [⟨(some 12), some undefA, none, false, .pu (.mov (.s 4))⟩,
    ⟨(some 2), some undefA, none, false, .pu (.mov (.c (.nilS)))⟩,
    ⟨(some 3), some undefA, none, false, .pu (.mov (.s 12))⟩])
  (.ret))
 (.skip))))
 (.seq (.ops [⟨(some 5), some undefA, none, false, .pu (.mov (.c (.nilS)))⟩])
 (.seq (.seq (.ops [⟨(some 13), some undefA, none, false, .pu (.badr none 1)⟩,
   ⟨(some 14), some undefA, none, false, .pu (.bget (some 13) 1 1 1 false)⟩,
   ⟨(some 15), some undefA, none, false, .pu (.len (.s 14))⟩,
   ⟨(some 16), some undefA, none, false, .pu (.mov (.c (.int .i64 0)))⟩])
 (.block 0 (.loop (.seq (.ops [⟨(some 17), some undefA, none, false, .pu (.bin .lss (.s 16) (.s 15))⟩])
   (.seq (.cond (.s 17) (.skip)
   (.exit 0))
   (.seq (.block 1 (.seq (.ops [⟨(some 18), some undefA, none, false, .pu (.mov (.s 16))⟩,
      ⟨(some 6), some undefA, none, false, .pu (.mov (.s 18))⟩])
    (.seq (.ops [⟨(some 19), some undefA, none, false, .pu (.badr none 1)⟩,
      ⟨(some 20), some undefA, none, false, .pu (.bget (some 19) 1 0 1 false)⟩,
      ⟨(some 21), some undefA, none, false, .pu (.badr none 1)⟩,
      ⟨(some 22), some undefA, none, false, .pu (.bget (some 21) 1 1 1 false)⟩,
      ⟨(some 23), some undefA, none, false, .call 55 [(.s 22)]⟩,
      ⟨(some 24), some undefA, none, false, .pu (.build [.int .i64 0, .nilS] [(0, 1, (.s 20)), (1, 1, (.s 23))])⟩,
      ⟨(some 7), some (.junk), none, false, .pu (.bnew (.c (.agg [.int .i64 0, .nilS])))⟩,
      ⟨(some 7), none, none, false, .pu (.bset none 7 0 2 (.s 24))⟩])
    (.seq (.ops [⟨(some 25), some undefA, none, false, .pu (.badr none 7)⟩,
      ⟨(some 26), some undefA, none, false, .pu (.bget (some 25) 7 1 1 false)⟩,
      ⟨(some 27), some undefA, none, false, .pu (.mov (.s 6))⟩,
      ⟨(some 28), some undefA, none, false, .pu (.idx 1 (.s 26) (.s 27))⟩,
      ⟨none, some undefA, none, false, .ha (.st 1 (.s 28) (.c (.nilS)))⟩])
    (.seq (.ops [⟨(some 29), some undefA, none, false, .pu (.bget none 7 0 2 true)⟩,
      ⟨(some 30), some undefA, none, false, .call 56 [(.s 29)]⟩,
      ⟨(some 31), some undefA, none, false, .pu (.bget none 1 0 2 true)⟩,
      ⟨(some 32), some undefA, none, false, .call 56 [(.s 31)]⟩,
      ⟨(some 33), some undefA, none, false, .pu (.bin .lss (.s 30) (.s 32))⟩])
    (.cond (.s 33) (.ops [⟨(some 34), some undefA, none, false, .pu (.mov (.s 5))⟩,
       ⟨(some 35), some undefA, none, false, .pu (.mov (.s 6))⟩,
       ⟨(some 36), some undefA, none, false, .ha (.blds 1 1 [.int .i64 0] [(0, 1, (.s 35))])⟩,
       ⟨(some 37), some undefA, none, false, .ha (.app 1 (.s 34) (.s 36))⟩,
       ⟨(some 5), some undefA, none, false, .pu (.mov (.s 37))⟩])
    (.skip)))))))
   (.ops [⟨(some 38), some undefA, none, false, .pu (.bin .add (.s 16) (.c (.int .i64 1)))⟩,
     ⟨(some 16), some undefA, none, false, .pu (.mov (.s 38))⟩])))))))
 (.seq (.ops [⟨(some 39), some undefA, none, false, .pu (.mov (.s 5))⟩,
   ⟨(some 2), some undefA, none, false, .pu (.mov (.s 39))⟩,
   ⟨(some 3), some undefA, none, false, .pu (.mov (.c (.int .i64 0)))⟩])
 (.ret)))))⟩
theorem t19 : trF Try.prog [1, 7] [] Try.f19 = some m19 := by kernel_rfl
/-- selion/wish.Needed [loop [1, 5, 13, 14]] -/
def m21 : MFun := ⟨30, [1], [.mov (.s 2), .mov (.s 3)],
 .seq (.ops [⟨(some 1), some (.junk), none, false, .pu (.bnew (.s 0))⟩,
   ⟨(some 2), some undefA, none, false, .pu (.mov (.c (.nilS)))⟩,
   ⟨(some 3), some undefA, none, false, .pu (.mov (.c (.int .i64 0)))⟩])
 (.seq (.seq (.ops [⟨(some 7), some undefA, none, false, .pu (.bget none 1 0 2 true)⟩,
   ⟨(some 8), some undefA, none, false, .call 39 [(.s 7)]⟩,
   ⟨(some 4), some undefA, none, false, .pu (.mov (.s 8))⟩])
 (.seq (.ops [⟨(some 9), some undefA, none, false, .pu (.mov (.s 4))⟩,
   ⟨(some 10), some undefA, none, false, .pu (.bin .neq (.s 9) (.c (.int .i64 0)))⟩])
 (.cond (.s 10) (.seq (.ops [⟨(some 11), some undefA, none, false, .pu (.mov (.s 4))⟩,
    ⟨(some 2), some undefA, none, false, .pu (.mov (.c (.nilS)))⟩,
    ⟨(some 3), some undefA, none, false, .pu (.mov (.s 11))⟩])
  (.ret))
 (.skip))))
 (.seq (.ops [⟨(some 5), some undefA, none, false, .pu (.mov (.c (.nilS)))⟩])
 (.seq (.seq (.ops [⟨(some 12), some undefA, none, false, .pu (.badr none 1)⟩,
   ⟨(some 13), some undefA, none, false, .pu (.bget (some 12) 1 0 1 false)⟩,
   ⟨(some 14), some undefA, none, false, .pu (.mov (.c (.int .i64 0)))⟩])
 (.block 0 (.loop (.seq (.ops [⟨(some 15), some undefA, none, false, .pu (.bin .lss (.s 14) (.s 13))⟩])
   (.seq (.cond (.s 15) (.skip)
   (.exit 0))
   (.seq (.block 1 (.seq (.ops [⟨(some 16), some undefA, none, false, .pu (.mov (.s 14))⟩,
      ⟨(some 6), some undefA, none, false, .pu (.mov (.s 16))⟩])
    (.seq (.ops [⟨(some 17), some undefA, none, false, .pu (.bget none 1 0 2 true)⟩,
      ⟨(some 18), some undefA, none, false, .pu (.mov (.s 6))⟩,
      ⟨(some 19), some undefA, none, false, .call 59 [(.s 17), (.s 18)]⟩,
      ⟨(some 20), some undefA, none, false, .call 56 [(.s 19)]⟩,
      ⟨(some 21), some undefA, none, false, .pu (.bget none 1 0 2 true)⟩,
      ⟨(some 22), some undefA, none, false, .call 56 [(.s 21)]⟩,
      ⟨(some 23), some undefA, none, false, .pu (.bin .lss (.s 20) (.s 22))⟩])
    (.cond (.s 23) (.ops [⟨(some 24), some undefA, none, false, .pu (.mov (.s 5))⟩,
       ⟨(some 25), some undefA, none, false, .pu (.mov (.s 6))⟩,
       ⟨(some 26), some undefA, none, false, .ha (.blds 1 1 [.int .i64 0] [(0, 1, (.s 25))])⟩,
       ⟨(some 27), some undefA, none, false, .ha (.app 1 (.s 24) (.s 26))⟩,
       ⟨(some 5), some undefA, none, false, .pu (.mov (.s 27))⟩])
    (.skip)))))
   (.ops [⟨(some 28), some undefA, none, false, .pu (.bin .add (.s 14) (.c (.int .i64 1)))⟩,
     ⟨(some 14), some undefA, none, false, .pu (.mov (.s 28))⟩])))))))
 (.seq (.ops [⟨(some 29), some undefA, none, false, .pu (.mov (.s 5))⟩,
   ⟨(some 2), some undefA, none, false, .pu (.mov (.s 29))⟩,
   ⟨(some 3), some undefA, none, false, .pu (.mov (.c (.int .i64 0)))⟩])
 (.ret)))))⟩
theorem t21 : trF Try.prog [1] [] Try.f21 = some m21 := by kernel_rfl
/-- selion/selionref07.Needed [loop [1, 5, 6, 7], loop [1, 5, 6, 7, 8, 9]] -/
def m22 : MFun := ⟨54, [1], [.mov (.s 2), .mov (.s 3)],
 .seq (.ops [⟨(some 1), some (.junk), none, false, .pu (.bnew (.s 0))⟩,
   ⟨(some 2), some undefA, none, false, .pu (.mov (.c (.nilS)))⟩,
   ⟨(some 3), some undefA, none, false, .pu (.mov (.c (.int .i64 0)))⟩])
 (.seq (.seq (.ops [⟨(some 10), some undefA, none, false, .pu (.bget none 1 0 2 true)⟩,
   ⟨(some 11), some undefA, none, false, .call 40 [(.s 10)]⟩,
   ⟨(some 4), some undefA, none, false, .pu (.mov (.s 11))⟩])
 (.seq (.ops [⟨(some 12), some undefA, none, false, .pu (.mov (.s 4))⟩,
   ⟨(some 13), some undefA, none, false, .pu (.bin .neq (.s 12) (.c (.int .i64 0)))⟩])
 (.cond (.s 13) (.seq (.ops [⟨(some 14), some undefA, none, false, .pu (.mov (.s 4))⟩,
    ⟨(some 2), some undefA, none, false, .pu (.mov (.c (.nilS)))⟩,
    ⟨(some 3), some undefA, none, false, .pu (.mov (.s 14))⟩])
  (.ret))
 (.skip))))
 (.seq (.ops [⟨(some 15), some undefA, none, false, .pu (.bget none 1 0 2 true)⟩,
   ⟨(some 16), some undefA, none, false, .call 58 [(.s 15), (.c (.int .i64 (-1)))]⟩,
   ⟨(some 5), some undefA, none, false, .pu (.mov (.s 16))⟩])
 (.seq (.ops [⟨(some 6), some undefA, none, false, .pu (.mov (.c (.nilS)))⟩])
 (.seq (.seq (.ops [⟨(some 7), some undefA, none, false, .pu (.mov (.c (.int .i64 0)))⟩])
 (.block 0 (.loop (.seq (.seq (.ops [⟨(some 17), some undefA, none, false, .pu (.mov (.s 7))⟩,
     ⟨(some 18), some undefA, none, false, .pu (.badr none 1)⟩,
     ⟨(some 19), some undefA, none, false, .pu (.bget (some 18) 1 0 1 false)⟩,
     ⟨(some 20), some undefA, none, false, .pu (.bin .lss (.s 17) (.s 19))⟩])
   (.cond (.s 20) (.skip)
   (.exit 0)))
   (.seq (.block 1 (.seq (.ops [⟨(some 8), some undefA, none, false, .pu (.mov (.c (.bool true)))⟩])
    (.seq (.seq (.ops [⟨(some 9), some undefA, none, false, .pu (.mov (.c (.int .i64 0)))⟩])
    (.block 2 (.loop (.seq (.seq (.ops [⟨(some 23), some undefA, none, false, .pu (.mov (.s 9))⟩,
        ⟨(some 24), some undefA, none, false, .pu (.mov (.s 5))⟩,
        ⟨(some 25), some undefA, none, false, .pu (.len (.s 24))⟩,
        ⟨(some 26), some undefA, none, false, .pu (.bin .lss (.s 23) (.s 25))⟩])
      (.cond (.s 26) (.skip)
      (.exit 2)))
      (.seq (.block 3 (.seq (.ops [⟨(some 29), some undefA, none, false, .pu (.mov (.s 5))⟩,
         ⟨(some 30), some undefA, none, false, .pu (.mov (.s 9))⟩,
         ⟨(some 31), some undefA, none, false, .pu (.idx 1 (.s 29) (.s 30))⟩,
         ⟨(some 32), some undefA, none, false, .ld (.ld 1 false (.s 31))⟩,
         ⟨(some 33), some undefA, none, false, .pu (.mov (.s 32))⟩,
         ⟨(some 34), some undefA, (some (33, true)), false, .pu (.mov (.s 9))⟩,
         ⟨(some 35), some undefA, (some (33, true)), false, .call 60 [(.s 34)]⟩,
         ⟨(some 36), some undefA, (some (33, true)), false, .pu (.mov (.s 5))⟩,
         ⟨(some 37), some undefA, (some (33, true)), false, .call 57 [(.s 36)]⟩,
         ⟨(some 38), some undefA, (some (33, true)), false, .pu (.bin .eql (.s 35) (.s 37))⟩,
         ⟨(some 39), some undefA, none, false, .pu (.pick (.s 33) (.s 38) (.c (.bool false)))⟩,
         ⟨(some 40), some undefA, none, false, .pu (.mov (.s 39))⟩,
         ⟨(some 41), some undefA, (some (40, true)), false, .pu (.mov (.s 9))⟩,
         ⟨(some 42), some undefA, (some (40, true)), false, .pu (.mov (.s 7))⟩,
         ⟨(some 43), some undefA, (some (40, true)), false, .pu (.conv .u64 (.s 42))⟩,
         ⟨(some 44), some undefA, (some (40, true)), false, .pu (.bin .shr (.s 41) (.s 43))⟩,
         ⟨(some 45), some undefA, (some (40, true)), false, .pu (.bin .and (.s 44) (.c (.int .i64 1)))⟩,
         ⟨(some 46), some undefA, (some (40, true)), false, .pu (.bin .eql (.s 45) (.c (.int .i64 0)))⟩,
         ⟨(some 47), some undefA, none, false, .pu (.pick (.s 40) (.s 46) (.c (.bool false)))⟩])
       (.cond (.s 47) (.ops [⟨(some 8), some undefA, none, false, .pu (.mov (.c (.bool false)))⟩])
       (.skip))))
      (.ops [⟨(some 27), some undefA, none, false, .pu (.mov (.s 9))⟩,
        ⟨(some 28), some undefA, none, false, .pu (.bin .add (.s 27) (.c (.int .i64 1)))⟩,
        ⟨(some 9), some undefA, none, false, .pu (.mov (.s 28))⟩]))))))
    (.seq (.ops [⟨(some 48), some undefA, none, false, .pu (.mov (.s 8))⟩])
    (.cond (.s 48) (.ops [⟨(some 49), some undefA, none, false, .pu (.mov (.s 6))⟩,
       ⟨(some 50), some undefA, none, false, .pu (.mov (.s 7))⟩,
       ⟨(some 51), some undefA, none, false, .ha (.blds 1 1 [.int .i64 0] [(0, 1, (.s 50))])⟩,
       ⟨(some 52), some undefA, none, false, .ha (.app 1 (.s 49) (.s 51))⟩,
       ⟨(some 6), some undefA, none, false, .pu (.mov (.s 52))⟩])
    (.skip))))))
   (.ops [⟨(some 21), some undefA, none, false, .pu (.mov (.s 7))⟩,
     ⟨(some 22), some undefA, none, false, .pu (.bin .add (.s 21) (.c (.int .i64 1)))⟩,
     ⟨(some 7), some undefA, none, false, .pu (.mov (.s 22))⟩]))))))
 (.seq (.ops [⟨(some 53), some undefA, none, false, .pu (.mov (.s 6))⟩,
   ⟨(some 2), some undefA, none, false, .pu (.mov (.s 53))⟩,
   ⟨(some 3), some undefA, none, false, .pu (.mov (.c (.int .i64 0)))⟩])
 (.ret))))))⟩
theorem t22 : trF Try.prog [1] [] Try.f22 = some m22 := by kernel_rfl
/-- selion/selionref01.SameInts [loop [0, 1, 5]] -/
def m23 : MFun := ⟨26, [], [.mov (.s 4)],
 .seq (.ops [⟨(some 4), some undefA, none, false, .pu (.mov (.c (.bool false)))⟩])
 (.seq (.seq (.ops [⟨(some 6), some undefA, none, false, .pu (.mov (.s 0))⟩,
   ⟨(some 7), some undefA, none, false, .pu (.len (.s 6))⟩,
   ⟨(some 8), some undefA, none, false, .pu (.mov (.s 1))⟩,
   ⟨(some 9), some undefA, none, false, .pu (.len (.s 8))⟩,
   ⟨(some 10), some undefA, none, false, .pu (.bin .neq (.s 7) (.s 9))⟩])
 (.cond (.s 10) (.seq (.ops [⟨(some 4), some undefA, none, false, .pu (.mov (.c (.bool false)))⟩])
  (.ret))
 (.skip)))
 (.seq (.seq (.ops [⟨(some 5), some undefA, none, false, .pu (.mov (.c (.int .i64 0)))⟩])
 (.block 0 (.loop (.seq (.seq (.ops [⟨(some 11), some undefA, none, false, .pu (.mov (.s 5))⟩,
     ⟨(some 12), some undefA, none, false, .pu (.mov (.s 0))⟩,
     ⟨(some 13), some undefA, none, false, .pu (.len (.s 12))⟩,
     ⟨(some 14), some undefA, none, false, .pu (.bin .lss (.s 11) (.s 13))⟩])
   (.cond (.s 14) (.skip)
   (.exit 0)))
   (.seq (.block 1 (.seq (.ops [⟨(some 17), some undefA, none, true, .pu (.mov (.s 0))⟩,
      ⟨(some 18), some undefA, none, true, .pu (.mov (.s 5))⟩,
      ⟨(some 19), some undefA, none, true, .pu (.idx 1 (.s 17) (.s 18))⟩,
      ⟨(some 20), some undefA, none, true, .ld (.ld 1 false (.s 19))⟩,
      ⟨(some 21), some undefA, none, true, .pu (.mov (.s 1))⟩,
      ⟨(some 22), some undefA, none, true, .pu (.mov (.s 5))⟩,
      ⟨(some 23), some undefA, none, true, .pu (.idx 1 (.s 21) (.s 22))⟩,
      ⟨(some 24), some undefA, none, true, .ld (.ld 1 false (.s 23))⟩,
      ⟨(some 25), some undefA, none, false, .pu (.bin .neq (.s 20) (.s 24))⟩])
    (.cond (.s 25) (.seq (.ops [⟨(some 4), some undefA, none, false, .pu (.mov (.c (.bool false)))⟩])
     (.ret))
    (.skip))))
   (.ops [⟨(some 15), some undefA, none, false, .pu (.mov (.s 5))⟩,
     ⟨(some 16), some undefA, none, false, .pu (.bin .add (.s 15) (.c (.int .i64 1)))⟩,
     ⟨(some 5), some undefA, none, false, .pu (.mov (.s 16))⟩]))))))
 (.seq (.ops [⟨(some 4), some undefA, none, false, .pu (.mov (.c (.bool true)))⟩])
 (.ret))))⟩
theorem t23 : trF Try.prog [] [] Try.f23 = some m23 := by kernel_rfl
/-- selion/wish.Most [] -/
def m24 : MFun := ⟨15, [1], [.mov (.s 2), .mov (.s 3)],
 .seq (.ops [⟨(some 1), some (.junk), none, false, .pu (.bnew (.s 0))⟩,
   ⟨(some 2), some undefA, none, false, .pu (.mov (.c (.int .i64 0)))⟩,
   ⟨(some 3), some undefA, none, false, .pu (.mov (.c (.int .i64 0)))⟩])
 (.seq (.seq (.ops [⟨(some 5), some undefA, none, false, .pu (.bget none 1 0 2 true)⟩,
   ⟨(some 6), some undefA, none, false, .call 39 [(.s 5)]⟩,
   ⟨(some 4), some undefA, none, false, .pu (.mov (.s 6))⟩])
 (.seq (.ops [⟨(some 7), some undefA, none, false, .pu (.mov (.s 4))⟩,
   ⟨(some 8), some undefA, none, false, .pu (.bin .neq (.s 7) (.c (.int .i64 0)))⟩])
 (.cond (.s 8) (.seq (.ops [⟨(some 9), some undefA, none, false, .pu (.mov (.s 4))⟩,
    ⟨(some 2), some undefA, none, false, .pu (.mov (.c (.int .i64 0)))⟩,
    ⟨(some 3), some undefA, none, false, .pu (.mov (.s 9))⟩])
  (.ret))
 (.skip))))
 (.seq (.ops [⟨(some 10), some undefA, none, false, .pu (.bget none 1 0 2 true)⟩,
   ⟨(some 11), some undefA, none, false, .call 63 [(.s 10)]⟩,
   ⟨(some 12), some undefA, none, false, .call 62 [(.s 11)]⟩,
   ⟨(some 13), some undefA, none, false, .pu (.part 2 1 false (.s 12))⟩,
   ⟨(some 14), some undefA, none, false, .call 61 [(.s 13)]⟩,
   ⟨(some 2), some undefA, none, false, .pu (.mov (.s 14))⟩,
   ⟨(some 3), some undefA, none, false, .pu (.mov (.c (.int .i64 0)))⟩])
 (.ret)))⟩
theorem t24 : trF Try.prog [1] [] Try.f24 = some m24 := by kernel_rfl
/-- selion/selionref07.Most [] -/
def m25 : MFun := ⟨13, [1], [.mov (.s 2), .mov (.s 3)],
 .seq (.ops [⟨(some 1), some (.junk), none, false, .pu (.bnew (.s 0))⟩,
   ⟨(some 2), some undefA, none, false, .pu (.mov (.c (.int .i64 0)))⟩,
   ⟨(some 3), some undefA, none, false, .pu (.mov (.c (.int .i64 0)))⟩])
 (.seq (.seq (.ops [⟨(some 5), some undefA, none, false, .pu (.bget none 1 0 2 true)⟩,
   ⟨(some 6), some undefA, none, false, .call 40 [(.s 5)]⟩,
   ⟨(some 4), some undefA, none, false, .pu (.mov (.s 6))⟩])
 (.seq (.ops [⟨(some 7), some undefA, none, false, .pu (.mov (.s 4))⟩,
   ⟨(some 8), some undefA, none, false, .pu (.bin .neq (.s 7) (.c (.int .i64 0)))⟩])
 (.cond (.s 8) (.seq (.ops [⟨(some 9), some undefA, none, false, .pu (.mov (.s 4))⟩,
    ⟨(some 2), some undefA, none, false, .pu (.mov (.c (.int .i64 0)))⟩,
    ⟨(some 3), some undefA, none, false, .pu (.mov (.s 9))⟩])
  (.ret))
 (.skip))))
 (.seq (.ops [⟨(some 10), some undefA, none, false, .pu (.bget none 1 0 2 true)⟩,
   ⟨(some 11), some undefA, none, false, .call 58 [(.s 10), (.c (.int .i64 (-1)))]⟩,
   ⟨(some 12), some undefA, none, false, .call 57 [(.s 11)]⟩,
   ⟨(some 2), some undefA, none, false, .pu (.mov (.s 12))⟩,
   ⟨(some 3), some undefA, none, false, .pu (.mov (.c (.int .i64 0)))⟩])
 (.ret)))⟩
theorem t25 : trF Try.prog [1] [] Try.f25 = some m25 := by kernel_rfl
/-- selion/wish.Give [] -/
def m26 : MFun := ⟨14, [1], [.mov (.s 2), .mov (.s 3)],
 .seq (.ops [⟨(some 1), some (.junk), none, false, .pu (.bnew (.s 0))⟩,
   ⟨(some 2), some undefA, none, false, .pu (.mov (.c (.nilS)))⟩,
   ⟨(some 3), some undefA, none, false, .pu (.mov (.c (.int .i64 0)))⟩])
 (.seq (.seq (.ops [⟨(some 5), some undefA, none, false, .pu (.bget none 1 0 2 true)⟩,
   ⟨(some 6), some undefA, none, false, .call 39 [(.s 5)]⟩,
   ⟨(some 4), some undefA, none, false, .pu (.mov (.s 6))⟩])
 (.seq (.ops [⟨(some 7), some undefA, none, false, .pu (.mov (.s 4))⟩,
   ⟨(some 8), some undefA, none, false, .pu (.bin .neq (.s 7) (.c (.int .i64 0)))⟩])
 (.cond (.s 8) (.seq (.ops [⟨(some 9), some undefA, none, false, .pu (.mov (.s 4))⟩,
    ⟨(some 2), some undefA, none, false, .pu (.mov (.c (.nilS)))⟩,
    ⟨(some 3), some undefA, none, false, .pu (.mov (.s 9))⟩])
  (.ret))
 (.skip))))
 (.seq (.ops [⟨(some 10), some undefA, none, false, .pu (.bget none 1 0 2 true)⟩,
   ⟨(some 11), some undefA, none, false, .call 63 [(.s 10)]⟩,
   ⟨(some 12), some undefA, none, false, .call 62 [(.s 11)]⟩,
   ⟨(some 13), some undefA, none, false, .pu (.part 2 1 false (.s 12))⟩,
   ⟨(some 2), some undefA, none, false, .pu (.mov (.s 13))⟩,
   ⟨(some 3), some undefA, none, false, .pu (.mov (.c (.int .i64 0)))⟩])
 (.ret)))⟩
theorem t26 : trF Try.prog [1] [] Try.f26 = some m26 := by kernel_rfl
/-- selion/selionref07.CheckGiving [loop [1, 2, 7], loop [1, 2, 8], loop [1, 9]] -/
def m27 : MFun := ⟨83, [2], [.mov (.s 4), .mov (.s 5)],
 .seq (.ops [⟨(some 2), some (.junk), none, false, .pu (.bnew (.s 0))⟩,
   ⟨(some 4), some undefA, none, false, .pu (.mov (.c (.int .i64 0)))⟩,
   ⟨(some 5), some undefA, none, false, .pu (.mov (.c (.int .i64 0)))⟩])
 (.seq (.seq (.ops [⟨(some 10), some undefA, none, false, .pu (.bget none 2 0 2 true)⟩,
   ⟨(some 11), some undefA, none, false, .call 40 [(.s 10)]⟩,
   ⟨(some 6), some undefA, none, false, .pu (.mov (.s 11))⟩])
 (.seq (.ops [⟨(some 12), some undefA, none, false, .pu (.mov (.s 6))⟩,
   ⟨(some 13), some undefA, none, false, .pu (.bin .neq (.s 12) (.c (.int .i64 0)))⟩])
 (.cond (.s 13) (.seq (.ops [⟨(some 14), some undefA, none, false, .pu (.mov (.s 6))⟩,
    ⟨(some 4), some undefA, none, false, .pu (.mov (.c (.int .i64 0)))⟩,
    ⟨(some 5), some undefA, none, false, .pu (.mov (.s 14))⟩])
  (.ret))
 (.skip))))
 (.seq (.seq (.ops [⟨(some 15), some undefA, none, false, .pu (.mov (.s 1))⟩,
   ⟨(some 16), some undefA, none, false, .pu (.len (.s 15))⟩,
   ⟨(some 17), some undefA, none, false, .pu (.badr none 2)⟩,
   ⟨(some 18), some undefA, none, false, .pu (.bget (some 17) 2 1 1 false)⟩,
   ⟨(some 19), some undefA, none, false, .pu (.len (.s 18))⟩,
   ⟨(some 20), some undefA, none, false, .pu (.bin .neq (.s 16) (.s 19))⟩])
 (.cond (.s 20) (.seq (.ops [⟨(some 4), some undefA, none, false, .pu (.mov (.c (.int .i64 0)))⟩,
    ⟨(some 5), some undefA, none, false, .pu (.mov (.c (.int .i64 1)))⟩])
  (.ret))
 (.skip)))
 (.seq (.seq (.ops [⟨(some 7), some undefA, none, false, .pu (.mov (.c (.int .i64 0)))⟩])
 (.block 0 (.loop (.seq (.seq (.ops [⟨(some 21), some undefA, none, false, .pu (.mov (.s 7))⟩,
     ⟨(some 22), some undefA, none, false, .pu (.mov (.s 1))⟩,
     ⟨(some 23), some undefA, none, false, .pu (.len (.s 22))⟩,
     ⟨(some 24), some undefA, none, false, .pu (.bin .lss (.s 21) (.s 23))⟩])
   (.cond (.s 24) (.skip)
   (.exit 0)))
   (.seq (.block 1 (.seq (.ops [⟨(some 27), some undefA, none, false, .pu (.mov (.s 1))⟩,
      ⟨(some 28), some undefA, none, false, .pu (.mov (.s 7))⟩,
      ⟨(some 29), some undefA, none, false, .pu (.idx 1 (.s 27) (.s 28))⟩,
      ⟨(some 30), some undefA, none, true, .ld (.ld 1 false (.s 29))⟩,
      ⟨(some 31), some undefA, none, true, .pu (.badr none 2)⟩,
      ⟨(some 32), some undefA, none, true, .pu (.bget (some 31) 2 0 1 false)⟩,
      ⟨(some 33), some undefA, none, true, .pu (.bin .sub (.s 32) (.c (.int .i64 1)))⟩,
      ⟨(some 34), some undefA, none, false, .call 64 [(.s 30), (.c (.int .i64 (-1))), (.s 33)]⟩,
      ⟨(some 35), some undefA, none, false, .pu (.not (.s 34))⟩])
    (.cond (.s 35) (.seq (.ops [⟨(some 4), some undefA, none, false, .pu (.mov (.c (.int .i64 0)))⟩,
       ⟨(some 5), some undefA, none, false, .pu (.mov (.c (.int .i64 1)))⟩])
     (.ret))
    (.skip))))
   (.ops [⟨(some 25), some undefA, none, false, .pu (.mov (.s 7))⟩,
     ⟨(some 26), some undefA, none, false, .pu (.bin .add (.s 25) (.c (.int .i64 1)))⟩,
     ⟨(some 7), some undefA, none, false, .pu (.mov (.s 26))⟩]))))))
 (.seq (.seq (.ops [⟨(some 8), some undefA, none, false, .pu (.mov (.c (.int .i64 0)))⟩])
 (.block 2 (.loop (.seq (.seq (.ops [⟨(some 36), some undefA, none, false, .pu (.mov (.s 8))⟩,
     ⟨(some 37), some undefA, none, false, .pu (.mov (.s 1))⟩,
     ⟨(some 38), some undefA, none, false, .pu (.len (.s 37))⟩,
     ⟨(some 39), some undefA, none, false, .pu (.bin .lss (.s 36) (.s 38))⟩])
   (.cond (.s 39) (.skip)
   (.exit 2)))
   (.seq (.block 3 (.seq (.ops [⟨(some 42), some undefA, none, false, .pu (.mov (.s 1))⟩,
      ⟨(some 43), some undefA, none, false, .pu (.mov (.s 8))⟩,
      ⟨(some 44), some undefA, none, false, .pu (.idx 1 (.s 42) (.s 43))⟩,
      ⟨(some 45), some undefA, none, true, .ld (.ld 1 false (.s 44))⟩,
      ⟨(some 46), some undefA, none, false, .pu (.bin .geq (.s 45) (.c (.int .i64 0)))⟩,
      ⟨(some 47), some undefA, none, false, .pu (.mov (.s 46))⟩,
      ⟨(some 48), some undefA, (some (47, true)), true, .pu (.badr none 2)⟩,
      ⟨(some 49), some undefA, (some (47, true)), true, .pu (.bget (some 48) 2 1 1 false)⟩,
      ⟨(some 50), some undefA, (some (47, true)), true, .pu (.mov (.s 8))⟩,
      ⟨(some 51), some undefA, (some (47, true)), true, .pu (.idx 1 (.s 49) (.s 50))⟩,
      ⟨(some 52), some undefA, (some (47, true)), true, .ld (.ld 1 false (.s 51))⟩,
      ⟨(some 53), some undefA, (some (47, true)), true, .pu (.mov (.s 1))⟩,
      ⟨(some 54), some undefA, (some (47, true)), true, .pu (.mov (.s 8))⟩,
      ⟨(some 55), some undefA, (some (47, true)), true, .pu (.idx 1 (.s 53) (.s 54))⟩,
      ⟨(some 56), some undefA, (some (47, true)), true, .ld (.ld 1 false (.s 55))⟩,
      ⟨(some 57), some undefA, (some (47, true)), false, .call 65 [(.s 52), (.s 56)]⟩,
      ⟨(some 58), some undefA, (some (47, true)), false, .pu (.not (.s 57))⟩,
      ⟨(some 59), some undefA, none, false, .pu (.pick (.s 47) (.s 58) (.c (.bool false)))⟩])
    (.cond (.s 59) (.seq (.ops [⟨(some 4), some undefA, none, false, .pu (.mov (.c (.int .i64 0)))⟩,
       ⟨(some 5), some undefA, none, false, .pu (.mov (.c (.int .i64 8)))⟩])
     (.ret))
    (.skip))))
   (.ops [⟨(some 40), some undefA, none, false, .pu (.mov (.s 8))⟩,
     ⟨(some 41), some undefA, none, false, .pu (.bin .add (.s 40) (.c (.int .i64 1)))⟩,
     ⟨(some 8), some undefA, none, false, .pu (.mov (.s 41))⟩]))))))
 (.seq (.seq (.ops [⟨(some 9), some undefA, none, false, .pu (.mov (.c (.int .i64 0)))⟩])
 (.block 4 (.loop (.seq (.seq (.ops [⟨(some 60), some undefA, none, false, .pu (.mov (.s 9))⟩,
     ⟨(some 61), some undefA, none, false, .pu (.mov (.s 1))⟩,
     ⟨(some 62), some undefA, none, false, .pu (.len (.s 61))⟩,
     ⟨(some 63), some undefA, none, false, .pu (.bin .lss (.s 60) (.s 62))⟩])
   (.cond (.s 63) (.skip)
   (.exit 4)))
   (.seq (.block 5 (.seq (.ops [⟨(some 66), some undefA, none, false, .pu (.mov (.s 1))⟩,
      ⟨(some 67), some undefA, none, false, .pu (.mov (.s 9))⟩,
      ⟨(some 68), some undefA, none, false, .pu (.idx 1 (.s 66) (.s 67))⟩,
      ⟨(some 69), some undefA, none, true, .ld (.ld 1 false (.s 68))⟩,
      ⟨(some 70), some undefA, none, false, .pu (.bin .geq (.s 69) (.c (.int .i64 0)))⟩,
      ⟨(some 71), some undefA, none, false, .pu (.mov (.s 70))⟩,
      ⟨(some 72), some undefA, (some (71, true)), true, .pu (.mov (.s 1))⟩,
      ⟨(some 73), some undefA, (some (71, true)), true, .pu (.mov (.s 9))⟩,
      ⟨(some 74), some undefA, (some (71, true)), true, .pu (.slc 1 (.s 72) none (some (.s 73)) none)⟩,
      ⟨(some 75), some undefA, (some (71, true)), false, .pu (.mov (.s 1))⟩,
      ⟨(some 76), some undefA, (some (71, true)), false, .pu (.mov (.s 9))⟩,
      ⟨(some 77), some undefA, (some (71, true)), false, .pu (.idx 1 (.s 75) (.s 76))⟩,
      ⟨(some 78), some undefA, (some (71, true)), true, .ld (.ld 1 false (.s 77))⟩,
      ⟨(some 79), some undefA, (some (71, true)), false, .call 65 [(.s 74), (.s 78)]⟩,
      ⟨(some 80), some undefA, none, false, .pu (.pick (.s 71) (.s 79) (.c (.bool false)))⟩])
    (.cond (.s 80) (.seq (.ops [⟨(some 4), some undefA, none, false, .pu (.mov (.c (.int .i64 0)))⟩,
       ⟨(some 5), some undefA, none, false, .pu (.mov (.c (.int .i64 6)))⟩])
     (.ret))
    (.skip))))
   (.ops [⟨(some 64), some undefA, none, false, .pu (.mov (.s 9))⟩,
     ⟨(some 65), some undefA, none, false, .pu (.bin .add (.s 64) (.c (.int .i64 1)))⟩,
     ⟨(some 9), some undefA, none, false, .pu (.mov (.s 65))⟩]))))))
 (.seq (.ops [⟨(some 81), some undefA, none, false, .pu (.mov (.s 1))⟩,
   ⟨(some 82), some undefA, none, false, .call 66 [(.s 81)]⟩,
   ⟨(some 4), some undefA, none, false, .pu (.mov (.s 82))⟩,
   ⟨(some 5), some undefA, none, false, .pu (.mov (.c (.int .i64 0)))⟩])
 (.ret)))))))⟩
theorem t27 : trF Try.prog [2] [] Try.f27 = some m27 := by kernel_rfl
/-- selion/selionlaw07.many [] -/
def m32 : MFun := ⟨6, [], [.mov (.s 2)],
 .seq (.ops [⟨(some 2), some undefA, none, false, .pu (.mov (.c (.bool false)))⟩])
 (.seq (.ops [⟨(some 3), some undefA, none, false, .pu (.mov (.s 0))⟩,
   ⟨(some 4), some undefA, none, false, .pu (.len (.s 3))⟩,
   ⟨(some 5), some undefA, none, false, .pu (.bin .gtr (.s 4) (.c (.int .i64 40)))⟩,
   ⟨(some 2), some undefA, none, false, .pu (.mov (.s 5))⟩])
 (.ret))⟩
theorem t32 : trF Try.prog [] [] Try.f32 = some m32 := by kernel_rfl
/-- selion/wish.CheckGiving [loop [1, 2, 27, 28, 29], loop [1, 47, 48, 49]] -/
def m33 : MFun := ⟨66, [], [.mov (.s 4), .mov (.s 5)],
 .seq (.ops [⟨(some 2), some undefA, none, false, .ha (.newv (.s 0))⟩,
   ⟨(some 4), some undefA, none, false, .pu (.mov (.c (.int .i64 0)))⟩,
   ⟨(some 5), some undefA, none, false, .pu (.mov (.c (.int .i64 0)))⟩])
 (.seq (.seq (.ops [⟨(some 11), some undefA, none, false, .ld (.ld 2 true (.s 2))⟩,
   ⟨(some 12), some undefA, none, false, .call 39 [(.s 11)]⟩,
   ⟨(some 6), some undefA, none, false, .pu (.mov (.s 12))⟩])
 (.seq (.ops [⟨(some 13), some undefA, none, false, .pu (.mov (.s 6))⟩,
   ⟨(some 14), some undefA, none, false, .pu (.bin .neq (.s 13) (.c (.int .i64 0)))⟩])
 (.cond (.s 14) (.seq (.ops [⟨(some 15), some undefA, none, false, .pu (.mov (.s 6))⟩,
    ⟨(some 4), some undefA, none, false, .pu (.mov (.c (.int .i64 0)))⟩,
    ⟨(some 5), some undefA, none, false, .pu (.mov (.s 15))⟩])
  (.ret))
 (.skip))))
 (.seq (.seq (.ops [⟨(some 16), some undefA, none, false, .pu (.mov (.s 1))⟩,
   ⟨(some 17), some undefA, none, false, .pu (.len (.s 16))⟩,
   ⟨(some 18), some undefA, none, false, .pu (.fad 1 (.s 2))⟩,
   ⟨(some 19), some undefA, none, false, .ld (.ld 1 false (.s 18))⟩,
   ⟨(some 20), some undefA, none, false, .pu (.len (.s 19))⟩,
   ⟨(some 21), some undefA, none, false, .pu (.bin .neq (.s 17) (.s 20))⟩,
   ⟨(some 22), some undefA, none, false, .pu (.mov (.s 21))⟩,
   ⟨(some 23), some undefA, (some (22, false)), false, .pu (.mov (.s 1))⟩,
   ⟨(some 24), some undefA, (some (22, false)), false, .pu (.mkf 70 [(.s 2)])⟩,
   ⟨(some 25), some undefA, (some (22, false)), false, .call 69 [(.s 23), (.s 24)]⟩,
   ⟨(some 26), some undefA, none, false, .pu (.pick (.s 22) (.c (.bool true)) (.s 25))⟩])
 (.cond (.s 26) (.seq (.ops [⟨(some 4), some undefA, none, false, .pu (.mov (.c (.int .i64 0)))⟩,
    ⟨(some 5), some undefA, none, false, .pu (.mov (.c (.int .i64 1)))⟩])
  (.ret))
 (.skip)))
 (.seq (.seq (.ops [⟨(some 27), some undefA, none, false, .pu (.mov (.s 1))⟩,
   ⟨(some 28), some undefA, none, false, .pu (.len (.s 27))⟩,
   ⟨(some 29), some undefA, none, false, .pu (.mov (.c (.int .i64 0)))⟩])
 (.block 0 (.loop (.seq (.ops [⟨(some 30), some undefA, none, false, .pu (.bin .lss (.s 29) (.s 28))⟩])
   (.seq (.cond (.s 30) (.skip)
   (.exit 0))
   (.seq (.block 1 (.seq (.ops [⟨(some 31), some undefA, none, false, .pu (.mov (.s 29))⟩,
      ⟨(some 32), some undefA, none, false, .pu (.idx 1 (.s 27) (.s 29))⟩,
      ⟨(some 33), some undefA, none, false, .ld (.ld 1 false (.s 32))⟩,
      ⟨(some 7), some undefA, none, false, .pu (.mov (.s 31))⟩,
      ⟨(some 8), some undefA, none, false, .pu (.mov (.s 33))⟩])
    (.seq (.ops [⟨(some 34), some undefA, none, false, .pu (.mov (.s 8))⟩,
      ⟨(some 35), some undefA, none, false, .pu (.bin .geq (.s 34) (.c (.int .i64 0)))⟩,
      ⟨(some 36), some undefA, none, false, .pu (.mov (.s 35))⟩,
      ⟨(some 37), some undefA, (some (36, true)), false, .pu (.fad 1 (.s 2))⟩,
      ⟨(some 38), some undefA, (some (36, true)), false, .ld (.ld 1 false (.s 37))⟩,
      ⟨(some 39), some undefA, (some (36, true)), false, .pu (.mov (.s 7))⟩,
      ⟨(some 40), some undefA, (some (36, true)), false, .pu (.idx 1 (.s 38) (.s 39))⟩,
      ⟨(some 41), some undefA, (some (36, true)), false, .ld (.ld 1 false (.s 40))⟩,
      ⟨(some 42), some undefA, (some (36, true)), false, .pu (.mov (.s 8))⟩,
      ⟨(some 43), some undefA, (some (36, true)), false, .call 71 [(.s 41), (.s 42)]⟩,
      ⟨(some 44), some undefA, (some (36, true)), false, .pu (.not (.s 43))⟩,
      ⟨(some 45), some undefA, none, false, .pu (.pick (.s 36) (.s 44) (.c (.bool false)))⟩])
    (.cond (.s 45) (.seq (.ops [⟨(some 4), some undefA, none, false, .pu (.mov (.c (.int .i64 0)))⟩,
       ⟨(some 5), some undefA, none, false, .pu (.mov (.c (.int .i64 8)))⟩])
     (.ret))
    (.skip)))))
   (.ops [⟨(some 46), some undefA, none, false, .pu (.bin .add (.s 29) (.c (.int .i64 1)))⟩,
     ⟨(some 29), some undefA, none, false, .pu (.mov (.s 46))⟩])))))))
 (.seq (.seq (.ops [⟨(some 47), some undefA, none, false, .pu (.mov (.s 1))⟩,
   ⟨(some 48), some undefA, none, false, .pu (.len (.s 47))⟩,
   ⟨(some 49), some undefA, none, false, .pu (.mov (.c (.int .i64 0)))⟩])
 (.block 2 (.loop (.seq (.ops [⟨(some 50), some undefA, none, false, .pu (.bin .lss (.s 49) (.s 48))⟩])
   (.seq (.cond (.s 50) (.skip)
   (.exit 2))
   (.seq (.block 3 (.seq (.ops [⟨(some 51), some undefA, none, false, .pu (.mov (.s 49))⟩,
      ⟨(some 52), some undefA, none, false, .pu (.idx 1 (.s 47) (.s 49))⟩,
      ⟨(some 53), some undefA, none, false, .ld (.ld 1 false (.s 52))⟩,
      ⟨(some 9), some undefA, none, false, .pu (.mov (.s 51))⟩,
      ⟨(some 10), some undefA, none, false, .pu (.mov (.s 53))⟩])
    (.seq (.ops [⟨(some 54), some undefA, none, false, .pu (.mov (.s 10))⟩,
      ⟨(some 55), some undefA, none, false, .pu (.bin .geq (.s 54) (.c (.int .i64 0)))⟩,
      ⟨(some 56), some undefA, none, false, .pu (.mov (.s 55))⟩,
      ⟨(some 57), some undefA, (some (56, true)), false, .pu (.mov (.s 1))⟩,
      ⟨(some 58), some undefA, (some (56, true)), false, .pu (.mov (.s 9))⟩,
      ⟨(some 59), some undefA, (some (56, true)), false, .pu (.slc 1 (.s 57) none (some (.s 58)) none)⟩,
      ⟨(some 60), some undefA, (some (56, true)), false, .pu (.mov (.s 10))⟩,
      ⟨(some 61), some undefA, (some (56, true)), false, .call 71 [(.s 59), (.s 60)]⟩,
      ⟨(some 62), some undefA, none, false, .pu (.pick (.s 56) (.s 61) (.c (.bool false)))⟩])
    (.cond (.s 62) (.seq (.ops [⟨(some 4), some undefA, none, false, .pu (.mov (.c (.int .i64 0)))⟩,
       ⟨(some 5), some undefA, none, false, .pu (.mov (.c (.int .i64 6)))⟩])
     (.ret))
    (.skip)))))
   (.ops [⟨(some 63), some undefA, none, false, .pu (.bin .add (.s 49) (.c (.int .i64 1)))⟩,
     ⟨(some 49), some undefA, none, false, .pu (.mov (.s 63))⟩])))))))
 (.seq (.ops [⟨(some 64), some undefA, none, false, .pu (.mov (.s 1))⟩,
   ⟨(some 65), some undefA, none, false, .call 61 [(.s 64)]⟩,
   ⟨(some 4), some undefA, none, false, .pu (.mov (.s 65))⟩,
   ⟨(some 5), some undefA, none, false, .pu (.mov (.c (.int .i64 0)))⟩])
 (.ret))))))⟩
theorem t33 : trF Try.prog [] [] Try.f33 = some m33 := by kernel_rfl
/-- selion/selionref07.Without [loop [1, 2, 4, 7, 8], loop [1, 2, 4, 7, 8, 9, 10]] -/
def m35 : MFun := ⟨99, [2, 4, 7], [.bget none 4 0 2 true, .mov (.s 5)],
 .seq (.ops [⟨(some 2), some (.junk), none, false, .pu (.bnew (.s 0))⟩,
   ⟨(some 4), some (.junk), none, false, .pu (.bnew (.c (.agg [.int .i64 0, .nilS])))⟩,
   ⟨(some 5), some undefA, none, false, .pu (.mov (.c (.int .i64 0)))⟩])
 (.seq (.seq (.ops [⟨(some 11), some undefA, none, false, .pu (.bget none 2 0 2 true)⟩,
   ⟨(some 12), some undefA, none, false, .call 40 [(.s 11)]⟩,
   ⟨(some 6), some undefA, none, false, .pu (.mov (.s 12))⟩])
 (.seq (.ops [⟨(some 13), some undefA, none, false, .pu (.mov (.s 6))⟩,
   ⟨(some 14), some undefA, none, false, .pu (.bin .neq (.s 13) (.c (.int .i64 0)))⟩])
 (.cond (.s 14) (.seq (.ops [⟨(some 15), some undefA, none, false, .pu (.build [.int .i64 0, .nilS] [])⟩,
    ⟨(some 16), some undefA, none, false, .pu (.mov (.s 6))⟩,
    ⟨(some 4), none, none, false, .pu (.bset none 4 0 2 (.s 15))⟩,
    ⟨(some 5), some undefA, none, false, .pu (.mov (.s 16))⟩])
  (.ret))
 (.skip))))
 (.seq (.seq (.ops [⟨(some 17), some undefA, none, false, .pu (.mov (.s 1))⟩,
   ⟨(some 18), some undefA, none, false, .pu (.badr none 2)⟩,
   ⟨(some 19), some undefA, none, false, .pu (.bget (some 18) 2 0 1 false)⟩,
   ⟨(some 20), some undefA, none, false, .pu (.bin .sub (.s 19) (.c (.int .i64 1)))⟩,
   ⟨(some 21), some undefA, none, false, .call 64 [(.s 17), (.c (.int .i64 0)), (.s 20)]⟩,
   ⟨(some 22), some undefA, none, false, .pu (.not (.s 21))⟩])
 (.cond (.s 22) (.seq (.ops [⟨(some 23), some undefA, none, false, .pu (.build [.int .i64 0, .nilS] [])⟩,
    ⟨(some 4), none, none, false, .pu (.bset none 4 0 2 (.s 23))⟩,
    ⟨(some 5), some undefA, none, false, .pu (.mov (.c (.int .i64 4)))⟩])
  (.ret))
 (.skip)))
 (.seq (.seq (.ops [⟨(some 24), some undefA, none, false, .pu (.badr none 2)⟩,
   ⟨(some 25), some undefA, none, false, .pu (.bget (some 24) 2 0 1 false)⟩,
   ⟨(some 26), some undefA, none, false, .pu (.bin .eql (.s 25) (.c (.int .i64 1)))⟩])
 (.cond (.s 26) (.seq (.ops [⟨(some 27), some undefA, none, false, .pu (.build [.int .i64 0, .nilS] [])⟩,
    ⟨(some 4), none, none, false, .pu (.bset none 4 0 2 (.s 27))⟩,
    ⟨(some 5), some undefA, none, false, .pu (.mov (.c (.int .i64 1)))⟩])
  (.ret))
 (.skip)))
 (.seq (.ops [⟨(some 28), some undefA, none, false, .pu (.badr none 2)⟩,
   ⟨(some 29), some undefA, none, false, .pu (.bget (some 28) 2 0 1 false)⟩,
   ⟨(some 30), some undefA, none, false, .pu (.bin .sub (.s 29) (.c (.int .i64 1)))⟩,
   ⟨(some 31), some undefA, none, false, .pu (.build [.int .i64 0, .nilS] [(0, 1, (.s 30))])⟩,
   ⟨(some 7), some (.junk), none, false, .pu (.bnew (.c (.agg [.int .i64 0, .nilS])))⟩,
   ⟨(some 7), none, none, false, .pu (.bset none 7 0 2 (.s 31))⟩])
 (.seq (.seq (.ops [⟨(some 8), some undefA, none, false, .pu (.mov (.c (.int .i64 0)))⟩])
 (.block 0 (.loop (.seq (.seq (.ops [⟨(some 32), some undefA, none, false, .pu (.mov (.s 8))⟩,
     ⟨(some 33), some undefA, none, false, .pu (.badr none 2)⟩,
     ⟨(some 34), some undefA, none, false, .pu (.bget (some 33) 2 1 1 false)⟩,
     ⟨(some 35), some undefA, none, false, .pu (.len (.s 34))⟩,
     ⟨(some 36), some undefA, none, false, .pu (.bin .lss (.s 32) (.s 35))⟩])
   (.cond (.s 36) (.skip)
   (.exit 0)))
   (.seq (.block 1 (.seq (.ops [⟨(some 9), some undefA, none, false, .pu (.mov (.c (.nilS)))⟩])
    (.seq (.seq (.ops [⟨(some 10), some undefA, none, false, .pu (.mov (.c (.int .i64 0)))⟩])
    (.block 2 (.loop (.seq (.seq (.ops [⟨(some 39), some undefA, none, false, .pu (.mov (.s 10))⟩,
        ⟨(some 40), some undefA, none, false, .pu (.badr none 2)⟩,
        ⟨(some 41), some undefA, none, false, .pu (.bget (some 40) 2 1 1 false)⟩,
        ⟨(some 42), some undefA, none, false, .pu (.mov (.s 8))⟩,
        ⟨(some 43), some undefA, none, false, .pu (.idx 1 (.s 41) (.s 42))⟩,
        ⟨(some 44), some undefA, none, false, .ld (.ld 1 false (.s 43))⟩,
        ⟨(some 45), some undefA, none, false, .pu (.len (.s 44))⟩,
        ⟨(some 46), some undefA, none, false, .pu (.bin .lss (.s 39) (.s 45))⟩])
      (.cond (.s 46) (.skip)
      (.exit 2)))
      (.seq (.block 3 (.seq (.seq (.ops [⟨(some 49), some undefA, none, false, .pu (.badr none 2)⟩,
         ⟨(some 50), some undefA, none, false, .pu (.bget (some 49) 2 1 1 false)⟩,
         ⟨(some 51), some undefA, none, false, .pu (.mov (.s 8))⟩,
         ⟨(some 52), some undefA, none, false, .pu (.idx 1 (.s 50) (.s 51))⟩,
         ⟨(some 53), some undefA, none, false, .ld (.ld 1 false (.s 52))⟩,
         ⟨(some 54), some undefA, none, false, .pu (.mov (.s 10))⟩,
         ⟨(some 55), some undefA, none, false, .pu (.idx 1 (.s 53) (.s 54))⟩,
         ⟨(some 56), some undefA, none, false, .ld (.ld 1 false (.s 55))⟩,
         ⟨(some 57), some undefA, none, false, .pu (.mov (.s 1))⟩,
         ⟨(some 58), some undefA, none, false, .pu (.bin .lss (.s 56) (.s 57))⟩])
       (.cond (.s 58) (.ops [⟨(some 59), some undefA, none, false, .pu (.mov (.s 9))⟩,
          ⟨(some 60), some undefA, none, false, .pu (.badr none 2)⟩,
          ⟨(some 61), some undefA, none, false, .pu (.bget (some 60) 2 1 1 false)⟩,
          ⟨(some 62), some undefA, none, false, .pu (.mov (.s 8))⟩,
          ⟨(some 63), some undefA, none, false, .pu (.idx 1 (.s 61) (.s 62))⟩,
          ⟨(some 64), some undefA, none, false, .ld (.ld 1 false (.s 63))⟩,
          ⟨(some 65), some undefA, none, false, .pu (.mov (.s 10))⟩,
          ⟨(some 66), some undefA, none, false, .pu (.idx 1 (.s 64) (.s 65))⟩,
          ⟨(some 67), some undefA, none, false, .ld (.ld 1 false (.s 66))⟩,
          ⟨(some 68), some undefA, none, false, .ha (.blds 1 1 [.int .i64 0] [(0, 1, (.s 67))])⟩,
          ⟨(some 69), some undefA, none, false, .ha (.app 1 (.s 59) (.s 68))⟩,
          ⟨(some 9), some undefA, none, false, .pu (.mov (.s 69))⟩])
       (.skip)))
       (.seq (.ops [⟨(some 70), some undefA, none, false, .pu (.badr none 2)⟩,
         ⟨(some 71), some undefA, none, false, .pu (.bget (some 70) 2 1 1 false)⟩,
         ⟨(some 72), some undefA, none, false, .pu (.mov (.s 8))⟩,
         ⟨(some 73), some undefA, none, false, .pu (.idx 1 (.s 71) (.s 72))⟩,
         ⟨(some 74), some undefA, none, false, .ld (.ld 1 false (.s 73))⟩,
         ⟨(some 75), some undefA, none, false, .pu (.mov (.s 10))⟩,
         ⟨(some 76), some undefA, none, false, .pu (.idx 1 (.s 74) (.s 75))⟩,
         ⟨(some 77), some undefA, none, false, .ld (.ld 1 false (.s 76))⟩,
         ⟨(some 78), some undefA, none, false, .pu (.mov (.s 1))⟩,
         ⟨(some 79), some undefA, none, false, .pu (.bin .gtr (.s 77) (.s 78))⟩])
       (.cond (.s 79) (.ops [⟨(some 80), some undefA, none, false, .pu (.mov (.s 9))⟩,
          ⟨(some 81), some undefA, none, false, .pu (.badr none 2)⟩,
          ⟨(some 82), some undefA, none, false, .pu (.bget (some 81) 2 1 1 false)⟩,
          ⟨(some 83), some undefA, none, false, .pu (.mov (.s 8))⟩,
          ⟨(some 84), some undefA, none, false, .pu (.idx 1 (.s 82) (.s 83))⟩,
          ⟨(some 85), some undefA, none, false, .ld (.ld 1 false (.s 84))⟩,
          ⟨(some 86), some undefA, none, false, .pu (.mov (.s 10))⟩,
          ⟨(some 87), some undefA, none, false, .pu (.idx 1 (.s 85) (.s 86))⟩,
          ⟨(some 88), some undefA, none, false, .ld (.ld 1 false (.s 87))⟩,
          ⟨(some 89), some undefA, none, false, .pu (.bin .sub (.s 88) (.c (.int .i64 1)))⟩,
          ⟨(some 90), some undefA, none, false, .ha (.blds 1 1 [.int .i64 0] [(0, 1, (.s 89))])⟩,
          ⟨(some 91), some undefA, none, false, .ha (.app 1 (.s 80) (.s 90))⟩,
          ⟨(some 9), some undefA, none, false, .pu (.mov (.s 91))⟩])
       (.skip)))))
      (.ops [⟨(some 47), some undefA, none, false, .pu (.mov (.s 10))⟩,
        ⟨(some 48), some undefA, none, false, .pu (.bin .add (.s 47) (.c (.int .i64 1)))⟩,
        ⟨(some 10), some undefA, none, false, .pu (.mov (.s 48))⟩]))))))
    (.ops [⟨(some 92), some undefA, none, false, .pu (.badr none 7)⟩,
      ⟨(some 93), some undefA, none, false, .pu (.bget (some 92) 7 1 1 false)⟩,
      ⟨(some 94), some undefA, none, false, .pu (.mov (.s 9))⟩,
      ⟨(some 95), some undefA, none, false, .ha (.blds 1 1 [.nilS] [(0, 1, (.s 94))])⟩,
      ⟨(some 96), some undefA, none, false, .ha (.app 1 (.s 93) (.s 95))⟩,
      ⟨(some 97), some undefA, none, false, .pu (.badr none 7)⟩,
      ⟨(some 7), none, none, false, .pu (.bset (some 97) 7 1 1 (.s 96))⟩]))))
   (.ops [⟨(some 37), some undefA, none, false, .pu (.mov (.s 8))⟩,
     ⟨(some 38), some undefA, none, false, .pu (.bin .add (.s 37) (.c (.int .i64 1)))⟩,
     ⟨(some 8), some undefA, none, false, .pu (.mov (.s 38))⟩]))))))
 (.seq (.ops [⟨(some 98), some undefA, none, false, .pu (.bget none 7 0 2 true)⟩,
   ⟨(some 4), none, none, false, .pu (.bset none 4 0 2 (.s 98))⟩,
   ⟨(some 5), some undefA, none, false, .pu (.mov (.c (.int .i64 0)))⟩])
 (.ret)))))))⟩
theorem t35 : trF Try.prog [2, 4, 7] [] Try.f35 = some m35 := by kernel_rfl
/-- selion/wish.Better [] -/
def m36 : MFun := ⟨29, [2], [.mov (.s 4), .mov (.s 5), .mov (.s 6)],
 .seq (.ops [⟨(some 2), some (.junk), none, false, .pu (.bnew (.s 0))⟩,
   ⟨(some 4), some undefA, none, false, .pu (.mov (.c (.nilS)))⟩,
   ⟨(some 5), some undefA, none, false, .pu (.mov (.c (.bool false)))⟩,
   ⟨(some 6), some undefA, none, false, .pu (.mov (.c (.int .i64 0)))⟩])
 (.seq (.ops [⟨(some 11), some undefA, none, false, .pu (.bget none 2 0 2 true)⟩,
   ⟨(some 12), some undefA, none, false, .pu (.mov (.s 1))⟩,
   ⟨(some 13), some undefA, none, false, .call 33 [(.s 11), (.s 12)]⟩,
   ⟨(some 10), some undefA, none, false, .pu (.mov (.s 13))⟩,
   ⟨(some 14), some undefA, none, false, .pu (.extr 0 (.s 10))⟩,
   ⟨(some 15), some undefA, none, false, .pu (.extr 1 (.s 10))⟩,
   ⟨(some 7), some undefA, none, false, .pu (.mov (.s 14))⟩,
   ⟨(some 8), some undefA, none, false, .pu (.mov (.s 15))⟩])
 (.seq (.seq (.ops [⟨(some 16), some undefA, none, false, .pu (.mov (.s 8))⟩,
   ⟨(some 17), some undefA, none, false, .pu (.bin .neq (.s 16) (.c (.int .i64 0)))⟩])
 (.cond (.s 17) (.seq (.ops [⟨(some 18), some undefA, none, false, .pu (.mov (.s 8))⟩,
    ⟨(some 4), some undefA, none, false, .pu (.mov (.c (.nilS)))⟩,
    ⟨(some 5), some undefA, none, false, .pu (.mov (.c (.bool false)))⟩,
    ⟨(some 6), some undefA, none, false, .pu (.mov (.s 18))⟩])
  (.ret))
 (.skip)))
 (.seq (.ops [⟨(some 19), some undefA, none, false, .pu (.bget none 2 0 2 true)⟩,
   ⟨(some 20), some undefA, none, false, .pu (.mov (.s 1))⟩,
   ⟨(some 21), some undefA, none, false, .pu (.build [.int .i64 0, .nilS, .nilS] [(0, 2, (.s 19)), (2, 1, (.s 20))])⟩,
   ⟨(some 22), some undefA, none, false, .call 62 [(.s 21)]⟩,
   ⟨(some 23), some undefA, none, false, .pu (.part 2 1 false (.s 22))⟩,
   ⟨(some 9), some undefA, none, false, .pu (.mov (.s 23))⟩])
 (.seq (.seq (.ops [⟨(some 24), some undefA, none, false, .pu (.mov (.s 9))⟩,
   ⟨(some 25), some undefA, none, false, .call 61 [(.s 24)]⟩,
   ⟨(some 26), some undefA, none, false, .pu (.mov (.s 7))⟩,
   ⟨(some 27), some undefA, none, false, .pu (.bin .eql (.s 25) (.s 26))⟩])
 (.cond (.s 27) (.seq (.ops [⟨(some 4), some undefA, none, false, .pu (.mov (.c (.nilS)))⟩,
    ⟨(some 5), some undefA, none, false, .pu (.mov (.c (.bool false)))⟩,
    ⟨(some 6), some undefA, none, false, .pu (.mov (.c (.int .i64 0)))⟩])
  (.ret))
 (.skip)))
 (.seq (.ops [⟨(some 28), some undefA, none, false, .pu (.mov (.s 9))⟩,
   ⟨(some 4), some undefA, none, false, .pu (.mov (.s 28))⟩,
   ⟨(some 5), some undefA, none, false, .pu (.mov (.c (.bool true)))⟩,
   ⟨(some 6), some undefA, none, false, .pu (.mov (.c (.int .i64 0)))⟩])
 (.ret))))))⟩
theorem t36 : trF Try.prog [2] [] Try.f36 = some m36 := by kernel_rfl
/-- selion/wish.Validate [loop [1, 20, 21, 22], loop [1, 4, 20, 21, 22, 31, 32, 33]] -/
def m39 : MFun := ⟨45, [1], [.mov (.s 2)],
 .seq (.ops [⟨(some 1), some (.junk), none, false, .pu (.bnew (.s 0))⟩,
   ⟨(some 2), some undefA, none, false, .pu (.mov (.c (.int .i64 0)))⟩])
 (.seq (.seq (.ops [⟨(some 7), some undefA, none, false, .pu (.badr none 1)⟩,
   ⟨(some 8), some undefA, none, false, .pu (.bget (some 7) 1 0 1 false)⟩,
   ⟨(some 9), some undefA, none, false, .pu (.bin .lss (.s 8) (.c (.int .i64 1)))⟩,
   ⟨(some 10), some undefA, none, false, .pu (.mov (.s 9))⟩,
   ⟨(some 11), some undefA, (some (10, false)), false, .pu (.badr none 1)⟩,
   ⟨(some 12), some undefA, (some (10, false)), false, .pu (.bget (some 11) 1 0 1 false)⟩,
   ⟨(some 13), some undefA, (some (10, false)), false, .pu (.bin .gtr (.s 12) (.c (.int .i64 7)))⟩,
   ⟨(some 14), some undefA, none, false, .pu (.pick (.s 10) (.c (.bool true)) (.s 13))⟩])
 (.cond (.s 14) (.seq (.ops [⟨(some 2), some undefA, none, false, .pu (.mov (.c (.int .i64 1)))⟩])
  (.ret))
 (.skip)))
 (.seq (.seq (.ops [⟨(some 15), some undefA, none, false, .pu (.badr none 1)⟩,
   ⟨(some 16), some undefA, none, false, .pu (.bget (some 15) 1 1 1 false)⟩,
   ⟨(some 17), some undefA, none, false, .pu (.len (.s 16))⟩,
   ⟨(some 18), some undefA, none, false, .pu (.bin .gtr (.s 17) (.c (.int .i64 7)))⟩])
 (.cond (.s 18) (.seq (.ops [⟨(some 2), some undefA, none, false, .pu (.mov (.c (.int .i64 3)))⟩])
  (.ret))
 (.skip)))
 (.seq (.seq (.ops [⟨(some 19), some undefA, none, false, .pu (.badr none 1)⟩,
   ⟨(some 20), some undefA, none, false, .pu (.bget (some 19) 1 1 1 false)⟩,
   ⟨(some 21), some undefA, none, false, .pu (.len (.s 20))⟩,
   ⟨(some 22), some undefA, none, false, .pu (.mov (.c (.int .i64 0)))⟩])
 (.block 0 (.loop (.seq (.ops [⟨(some 23), some undefA, none, false, .pu (.bin .lss (.s 22) (.s 21))⟩])
   (.seq (.cond (.s 23) (.skip)
   (.exit 0))
   (.seq (.block 1 (.seq (.ops [⟨(some 24), some undefA, none, false, .pu (.idx 1 (.s 20) (.s 22))⟩,
      ⟨(some 25), some undefA, none, false, .ld (.ld 1 false (.s 24))⟩,
      ⟨(some 4), some undefA, none, false, .pu (.mov (.s 25))⟩])
    (.seq (.seq (.ops [⟨(some 26), some undefA, none, false, .pu (.mov (.s 4))⟩,
      ⟨(some 27), some undefA, none, false, .pu (.badr none 1)⟩,
      ⟨(some 28), some undefA, none, false, .pu (.bget (some 27) 1 0 1 false)⟩,
      ⟨(some 29), some undefA, none, false, .call 73 [(.s 26), (.s 28)]⟩,
      ⟨(some 30), some undefA, none, false, .pu (.not (.s 29))⟩])
    (.cond (.s 30) (.seq (.ops [⟨(some 2), some undefA, none, false, .pu (.mov (.c (.int .i64 1)))⟩])
     (.ret))
    (.skip)))
    (.seq (.ops [⟨(some 31), some undefA, none, false, .pu (.mov (.s 4))⟩,
      ⟨(some 32), some undefA, none, false, .pu (.len (.s 31))⟩,
      ⟨(some 33), some undefA, none, false, .pu (.mov (.c (.int .i64 0)))⟩])
    (.block 2 (.loop (.seq (.ops [⟨(some 34), some undefA, none, false, .pu (.bin .lss (.s 33) (.s 32))⟩])
      (.seq (.cond (.s 34) (.skip)
      (.exit 2))
      (.seq (.block 3 (.seq (.ops [⟨(some 35), some undefA, none, false, .pu (.mov (.s 33))⟩,
         ⟨(some 36), some undefA, none, false, .pu (.idx 1 (.s 31) (.s 33))⟩,
         ⟨(some 37), some undefA, none, false, .ld (.ld 1 false (.s 36))⟩,
         ⟨(some 5), some undefA, none, false, .pu (.mov (.s 35))⟩,
         ⟨(some 6), some undefA, none, false, .pu (.mov (.s 37))⟩])
       (.seq (.ops [⟨(some 38), some undefA, none, false, .pu (.mov (.s 4))⟩,
         ⟨(some 39), some undefA, none, false, .pu (.mov (.s 5))⟩,
         ⟨(some 40), some undefA, none, false, .pu (.slc 1 (.s 38) none (some (.s 39)) none)⟩,
         ⟨(some 41), some undefA, none, false, .pu (.mov (.s 6))⟩,
         ⟨(some 42), some undefA, none, false, .call 71 [(.s 40), (.s 41)]⟩])
       (.cond (.s 42) (.seq (.ops [⟨(some 2), some undefA, none, false, .pu (.mov (.c (.int .i64 6)))⟩])
        (.ret))
       (.skip)))))
      (.ops [⟨(some 43), some undefA, none, false, .pu (.bin .add (.s 33) (.c (.int .i64 1)))⟩,
        ⟨(some 33), some undefA, none, false, .pu (.mov (.s 43))⟩]))))))))))
   (.ops [⟨(some 44), some undefA, none, false, .pu (.bin .add (.s 22) (.c (.int .i64 1)))⟩,
     ⟨(some 22), some undefA, none, false, .pu (.mov (.s 44))⟩])))))))
 (.seq (.ops [⟨(some 2), some undefA, none, false, .pu (.mov (.c (.int .i64 0)))⟩])
 (.ret)))))⟩
theorem t39 : trF Try.prog [1] [] Try.f39 = some m39 := by kernel_rfl
/-- selion/selionref07.Validate [loop [1, 3], loop [1, 3, 4], loop [1, 3, 5]] -/
def m40 : MFun := ⟨70, [1], [.mov (.s 2)],
 .seq (.ops [⟨(some 1), some (.junk), none, false, .pu (.bnew (.s 0))⟩,
   ⟨(some 2), some undefA, none, false, .pu (.mov (.c (.int .i64 0)))⟩])
 (.seq (.seq (.ops [⟨(some 6), some undefA, none, false, .pu (.badr none 1)⟩,
   ⟨(some 7), some undefA, none, false, .pu (.bget (some 6) 1 0 1 false)⟩,
   ⟨(some 8), some undefA, none, false, .call 64 [(.s 7), (.c (.int .i64 1)), (.c (.int .i64 7))]⟩,
   ⟨(some 9), some undefA, none, false, .pu (.not (.s 8))⟩])
 (.cond (.s 9) (.seq (.ops [⟨(some 2), some undefA, none, false, .pu (.mov (.c (.int .i64 1)))⟩])
  (.ret))
 (.skip)))
 (.seq (.seq (.ops [⟨(some 10), some undefA, none, false, .pu (.badr none 1)⟩,
   ⟨(some 11), some undefA, none, false, .pu (.bget (some 10) 1 1 1 false)⟩,
   ⟨(some 12), some undefA, none, false, .pu (.len (.s 11))⟩,
   ⟨(some 13), some undefA, none, false, .pu (.bin .gtr (.s 12) (.c (.int .i64 7)))⟩])
 (.cond (.s 13) (.seq (.ops [⟨(some 2), some undefA, none, false, .pu (.mov (.c (.int .i64 3)))⟩])
  (.ret))
 (.skip)))
 (.seq (.seq (.ops [⟨(some 3), some undefA, none, false, .pu (.mov (.c (.int .i64 0)))⟩])
 (.block 0 (.loop (.seq (.seq (.ops [⟨(some 14), some undefA, none, false, .pu (.mov (.s 3))⟩,
     ⟨(some 15), some undefA, none, false, .pu (.badr none 1)⟩,
     ⟨(some 16), some undefA, none, false, .pu (.bget (some 15) 1 1 1 false)⟩,
     ⟨(some 17), some undefA, none, false, .pu (.len (.s 16))⟩,
     ⟨(some 18), some undefA, none, false, .pu (.bin .lss (.s 14) (.s 17))⟩])
   (.cond (.s 18) (.skip)
   (.exit 0)))
   (.seq (.block 1 (.seq (.seq (.ops [⟨(some 4), some undefA, none, false, .pu (.mov (.c (.int .i64 0)))⟩])
    (.block 2 (.loop (.seq (.seq (.ops [⟨(some 21), some undefA, none, false, .pu (.mov (.s 4))⟩,
        ⟨(some 22), some undefA, none, false, .pu (.badr none 1)⟩,
        ⟨(some 23), some undefA, none, false, .pu (.bget (some 22) 1 1 1 false)⟩,
        ⟨(some 24), some undefA, none, false, .pu (.mov (.s 3))⟩,
        ⟨(some 25), some undefA, none, false, .pu (.idx 1 (.s 23) (.s 24))⟩,
        ⟨(some 26), some undefA, none, false, .ld (.ld 1 false (.s 25))⟩,
        ⟨(some 27), some undefA, none, false, .pu (.len (.s 26))⟩,
        ⟨(some 28), some undefA, none, false, .pu (.bin .lss (.s 21) (.s 27))⟩])
      (.cond (.s 28) (.skip)
      (.exit 2)))
      (.seq (.block 3 (.seq (.ops [⟨(some 31), some undefA, none, false, .pu (.badr none 1)⟩,
         ⟨(some 32), some undefA, none, false, .pu (.bget (some 31) 1 1 1 false)⟩,
         ⟨(some 33), some undefA, none, false, .pu (.mov (.s 3))⟩,
         ⟨(some 34), some undefA, none, false, .pu (.idx 1 (.s 32) (.s 33))⟩,
         ⟨(some 35), some undefA, none, true, .ld (.ld 1 false (.s 34))⟩,
         ⟨(some 36), some undefA, none, true, .pu (.mov (.s 4))⟩,
         ⟨(some 37), some undefA, none, false, .pu (.idx 1 (.s 35) (.s 36))⟩,
         ⟨(some 38), some undefA, none, true, .ld (.ld 1 false (.s 37))⟩,
         ⟨(some 39), some undefA, none, true, .pu (.badr none 1)⟩,
         ⟨(some 40), some undefA, none, true, .pu (.bget (some 39) 1 0 1 false)⟩,
         ⟨(some 41), some undefA, none, true, .pu (.bin .sub (.s 40) (.c (.int .i64 1)))⟩,
         ⟨(some 42), some undefA, none, false, .call 64 [(.s 38), (.c (.int .i64 0)), (.s 41)]⟩,
         ⟨(some 43), some undefA, none, false, .pu (.not (.s 42))⟩])
       (.cond (.s 43) (.seq (.ops [⟨(some 2), some undefA, none, false, .pu (.mov (.c (.int .i64 1)))⟩])
        (.ret))
       (.skip))))
      (.ops [⟨(some 29), some undefA, none, false, .pu (.mov (.s 4))⟩,
        ⟨(some 30), some undefA, none, false, .pu (.bin .add (.s 29) (.c (.int .i64 1)))⟩,
        ⟨(some 4), some undefA, none, false, .pu (.mov (.s 30))⟩]))))))
    (.seq (.ops [⟨(some 5), some undefA, none, false, .pu (.mov (.c (.int .i64 0)))⟩])
    (.block 4 (.loop (.seq (.seq (.ops [⟨(some 44), some undefA, none, false, .pu (.mov (.s 5))⟩,
        ⟨(some 45), some undefA, none, false, .pu (.badr none 1)⟩,
        ⟨(some 46), some undefA, none, false, .pu (.bget (some 45) 1 1 1 false)⟩,
        ⟨(some 47), some undefA, none, false, .pu (.mov (.s 3))⟩,
        ⟨(some 48), some undefA, none, false, .pu (.idx 1 (.s 46) (.s 47))⟩,
        ⟨(some 49), some undefA, none, false, .ld (.ld 1 false (.s 48))⟩,
        ⟨(some 50), some undefA, none, false, .pu (.len (.s 49))⟩,
        ⟨(some 51), some undefA, none, false, .pu (.bin .lss (.s 44) (.s 50))⟩])
      (.cond (.s 51) (.skip)
      (.exit 4)))
      (.seq (.block 5 (.seq (.ops [⟨(some 54), some undefA, none, true, .pu (.badr none 1)⟩,
         ⟨(some 55), some undefA, none, true, .pu (.bget (some 54) 1 1 1 false)⟩,
         ⟨(some 56), some undefA, none, true, .pu (.mov (.s 3))⟩,
         ⟨(some 57), some undefA, none, true, .pu (.idx 1 (.s 55) (.s 56))⟩,
         ⟨(some 58), some undefA, none, true, .ld (.ld 1 false (.s 57))⟩,
         ⟨(some 59), some undefA, none, true, .pu (.mov (.s 5))⟩,
         ⟨(some 60), some undefA, none, true, .pu (.slc 1 (.s 58) none (some (.s 59)) none)⟩,
         ⟨(some 61), some undefA, none, true, .pu (.badr none 1)⟩,
         ⟨(some 62), some undefA, none, true, .pu (.bget (some 61) 1 1 1 false)⟩,
         ⟨(some 63), some undefA, none, true, .pu (.mov (.s 3))⟩,
         ⟨(some 64), some undefA, none, true, .pu (.idx 1 (.s 62) (.s 63))⟩,
         ⟨(some 65), some undefA, none, true, .ld (.ld 1 false (.s 64))⟩,
         ⟨(some 66), some undefA, none, true, .pu (.mov (.s 5))⟩,
         ⟨(some 67), some undefA, none, true, .pu (.idx 1 (.s 65) (.s 66))⟩,
         ⟨(some 68), some undefA, none, true, .ld (.ld 1 false (.s 67))⟩,
         ⟨(some 69), some undefA, none, false, .call 65 [(.s 60), (.s 68)]⟩])
       (.cond (.s 69) (.seq (.ops [⟨(some 2), some undefA, none, false, .pu (.mov (.c (.int .i64 6)))⟩])
        (.ret))
       (.skip))))
      (.ops [⟨(some 52), some undefA, none, false, .pu (.mov (.s 5))⟩,
        ⟨(some 53), some undefA, none, false, .pu (.bin .add (.s 52) (.c (.int .i64 1)))⟩,
        ⟨(some 5), some undefA, none, false, .pu (.mov (.s 53))⟩]))))))))
   (.ops [⟨(some 19), some undefA, none, false, .pu (.mov (.s 3))⟩,
     ⟨(some 20), some undefA, none, false, .pu (.bin .add (.s 19) (.c (.int .i64 1)))⟩,
     ⟨(some 3), some undefA, none, false, .pu (.mov (.s 20))⟩]))))))
 (.seq (.ops [⟨(some 2), some undefA, none, false, .pu (.mov (.c (.int .i64 0)))⟩])
 (.ret)))))⟩
theorem t40 : trF Try.prog [1] [] Try.f40 = some m40 := by kernel_rfl
/-- selion/selionref01.Sum [loop [0, 3, 4]] -/
def m41 : MFun := ⟨18, [], [.mov (.s 2)],
 .seq (.ops [⟨(some 2), some undefA, none, false, .pu (.mov (.c (.int .i64 0)))⟩])
 (.seq (.ops [⟨(some 3), some undefA, none, false, .pu (.mov (.c (.int .i64 0)))⟩])
 (.seq (.seq (.ops [⟨(some 4), some undefA, none, false, .pu (.mov (.c (.int .i64 0)))⟩])
 (.block 0 (.loop (.seq (.seq (.ops [⟨(some 5), some undefA, none, false, .pu (.mov (.s 4))⟩,
     ⟨(some 6), some undefA, none, false, .pu (.mov (.s 0))⟩,
     ⟨(some 7), some undefA, none, false, .pu (.len (.s 6))⟩,
     ⟨(some 8), some undefA, none, false, .pu (.bin .lss (.s 5) (.s 7))⟩])
   (.cond (.s 8) (.skip)
   (.exit 0)))
   (.seq (.block 1 (.ops [⟨(some 11), some undefA, none, false, .pu (.mov (.s 3))⟩,
      ⟨(some 12), some undefA, none, false, .pu (.mov (.s 0))⟩,
      ⟨(some 13), some undefA, none, false, .pu (.mov (.s 4))⟩,
      ⟨(some 14), some undefA, none, false, .pu (.idx 1 (.s 12) (.s 13))⟩,
      ⟨(some 15), some undefA, none, false, .ld (.ld 1 false (.s 14))⟩,
      ⟨(some 16), some undefA, none, false, .pu (.bin .add (.s 11) (.s 15))⟩,
      ⟨(some 3), some undefA, none, false, .pu (.mov (.s 16))⟩]))
   (.ops [⟨(some 9), some undefA, none, false, .pu (.mov (.s 4))⟩,
     ⟨(some 10), some undefA, none, false, .pu (.bin .add (.s 9) (.c (.int .i64 1)))⟩,
     ⟨(some 4), some undefA, none, false, .pu (.mov (.s 10))⟩]))))))
 (.seq (.ops [⟨(some 17), some undefA, none, false, .pu (.mov (.s 3))⟩,
   ⟨(some 2), some undefA, none, false, .pu (.mov (.s 17))⟩])
 (.ret))))⟩
theorem t41 : trF Try.prog [] [] Try.f41 = some m41 := by kernel_rfl
/-- selion/wish.Lack [] -/
def m44 : MFun := ⟨20, [2], [.mov (.s 4), .mov (.s 5)],
 .seq (.ops [⟨(some 2), some (.junk), none, false, .pu (.bnew (.s 0))⟩,
   ⟨(some 4), some undefA, none, false, .pu (.mov (.c (.int .i64 0)))⟩,
   ⟨(some 5), some undefA, none, false, .pu (.mov (.c (.int .i64 0)))⟩])
 (.seq (.seq (.ops [⟨(some 7), some undefA, none, false, .pu (.bget none 2 0 2 true)⟩,
   ⟨(some 8), some undefA, none, false, .pu (.mov (.s 1))⟩,
   ⟨(some 9), some undefA, none, false, .call 74 [(.s 7), (.s 8)]⟩,
   ⟨(some 6), some undefA, none, false, .pu (.mov (.s 9))⟩])
 (.seq (.ops [⟨(some 10), some undefA, none, false, .pu (.mov (.s 6))⟩,
   ⟨(some 11), some undefA, none, false, .pu (.bin .neq (.s 10) (.c (.int .i64 0)))⟩])
 (.cond (.s 11) (.seq (.ops [⟨(some 12), some undefA, none, false, .pu (.mov (.s 6))⟩,
    ⟨(some 4), some undefA, none, false, .pu (.mov (.c (.int .i64 0)))⟩,
    ⟨(some 5), some undefA, none, false, .pu (.mov (.s 12))⟩])
  (.ret))
 (.skip))))
 (.seq (.ops [⟨(some 13), some undefA, none, false, .pu (.mov (.s 1))⟩,
   ⟨(some 14), some undefA, none, false, .pu (.len (.s 13))⟩,
   ⟨(some 15), some undefA, none, false, .pu (.bget none 2 0 2 true)⟩,
   ⟨(some 16), some undefA, none, false, .pu (.mov (.s 1))⟩,
   ⟨(some 17), some undefA, none, false, .call 75 [(.s 15), (.s 16)]⟩,
   ⟨(some 18), some undefA, none, false, .pu (.len (.s 17))⟩,
   ⟨(some 19), some undefA, none, false, .pu (.bin .sub (.s 14) (.s 18))⟩,
   ⟨(some 4), some undefA, none, false, .pu (.mov (.s 19))⟩,
   ⟨(some 5), some undefA, none, false, .pu (.mov (.c (.int .i64 0)))⟩])
 (.ret)))⟩
theorem t44 : trF Try.prog [2] [] Try.f44 = some m44 := by kernel_rfl
/-- selion/wish.CheckCover [loop [1, 5, 23, 24, 25]] -/
def m46 : MFun := ⟨45, [3], [.mov (.s 6), .mov (.s 7)],
 .seq (.ops [⟨(some 3), some (.junk), none, false, .pu (.bnew (.s 0))⟩,
   ⟨(some 5), some undefA, none, false, .ha (.newv (.s 2))⟩,
   ⟨(some 6), some undefA, none, false, .pu (.mov (.c (.int .i64 0)))⟩,
   ⟨(some 7), some undefA, none, false, .pu (.mov (.c (.int .i64 0)))⟩])
 (.seq (.seq (.ops [⟨(some 11), some undefA, none, false, .pu (.bget none 3 0 2 true)⟩,
   ⟨(some 12), some undefA, none, false, .pu (.mov (.s 1))⟩,
   ⟨(some 13), some undefA, none, false, .call 74 [(.s 11), (.s 12)]⟩,
   ⟨(some 8), some undefA, none, false, .pu (.mov (.s 13))⟩])
 (.seq (.ops [⟨(some 14), some undefA, none, false, .pu (.mov (.s 8))⟩,
   ⟨(some 15), some undefA, none, false, .pu (.bin .neq (.s 14) (.c (.int .i64 0)))⟩])
 (.cond (.s 15) (.seq (.ops [⟨(some 16), some undefA, none, false, .pu (.mov (.s 8))⟩,
    ⟨(some 6), some undefA, none, false, .pu (.mov (.c (.int .i64 0)))⟩,
    ⟨(some 7), some undefA, none, false, .pu (.mov (.s 16))⟩])
  (.ret))
 (.skip))))
 (.seq (.seq (.ops [⟨(some 17), some undefA, none, false, .ld (.ld 1 false (.s 5))⟩,
   ⟨(some 18), some undefA, none, false, .pu (.badr none 3)⟩,
   ⟨(some 19), some undefA, none, false, .pu (.bget (some 18) 3 0 1 false)⟩,
   ⟨(some 20), some undefA, none, false, .call 78 [(.s 17), (.s 19)]⟩,
   ⟨(some 21), some undefA, none, false, .pu (.not (.s 20))⟩])
 (.cond (.s 21) (.seq (.ops [⟨(some 6), some undefA, none, false, .pu (.mov (.c (.int .i64 0)))⟩,
    ⟨(some 7), some undefA, none, false, .pu (.mov (.c (.int .i64 1)))⟩])
  (.ret))
 (.skip)))
 (.seq (.seq (.ops [⟨(some 22), some undefA, none, false, .pu (.badr none 3)⟩,
   ⟨(some 23), some undefA, none, false, .pu (.bget (some 22) 3 1 1 false)⟩,
   ⟨(some 24), some undefA, none, false, .pu (.len (.s 23))⟩,
   ⟨(some 25), some undefA, none, false, .pu (.mov (.c (.int .i64 0)))⟩])
 (.block 0 (.loop (.seq (.ops [⟨(some 26), some undefA, none, false, .pu (.bin .lss (.s 25) (.s 24))⟩])
   (.seq (.cond (.s 26) (.skip)
   (.exit 0))
   (.seq (.block 1 (.seq (.ops [⟨(some 27), some undefA, none, false, .pu (.mov (.s 25))⟩,
      ⟨(some 28), some undefA, none, false, .pu (.idx 1 (.s 23) (.s 25))⟩,
      ⟨(some 29), some undefA, none, false, .ld (.ld 1 false (.s 28))⟩,
      ⟨(some 9), some undefA, none, false, .pu (.mov (.s 27))⟩,
      ⟨(some 10), some undefA, none, false, .pu (.mov (.s 29))⟩])
    (.seq (.ops [⟨(some 30), some undefA, none, false, .pu (.mov (.s 1))⟩,
      ⟨(some 31), some undefA, none, false, .pu (.mov (.s 9))⟩,
      ⟨(some 32), some undefA, none, false, .call 71 [(.s 30), (.s 31)]⟩,
      ⟨(some 33), some undefA, none, false, .pu (.not (.s 32))⟩,
      ⟨(some 34), some undefA, none, false, .pu (.mov (.s 33))⟩,
      ⟨(some 35), some undefA, (some (34, true)), false, .pu (.mov (.s 10))⟩,
      ⟨(some 36), some undefA, (some (34, true)), false, .pu (.mkf 79 [(.s 5)])⟩,
      ⟨(some 37), some undefA, (some (34, true)), false, .call 69 [(.s 35), (.s 36)]⟩,
      ⟨(some 38), some undefA, none, false, .pu (.pick (.s 34) (.s 37) (.c (.bool false)))⟩])
    (.cond (.s 38) (.seq (.ops [⟨(some 6), some undefA, none, false, .pu (.mov (.c (.int .i64 0)))⟩,
       ⟨(some 7), some undefA, none, false, .pu (.mov (.c (.int .i64 7)))⟩])
     (.ret))
    (.skip)))))
   (.ops [⟨(some 39), some undefA, none, false, .pu (.bin .add (.s 25) (.c (.int .i64 1)))⟩,
     ⟨(some 25), some undefA, none, false, .pu (.mov (.s 39))⟩])))))))
 (.seq (.ops [⟨(some 40), some undefA, none, false, .pu (.mov (.s 1))⟩,
   ⟨(some 41), some undefA, none, false, .pu (.len (.s 40))⟩,
   ⟨(some 42), some undefA, none, false, .ld (.ld 1 false (.s 5))⟩,
   ⟨(some 43), some undefA, none, false, .pu (.len (.s 42))⟩,
   ⟨(some 44), some undefA, none, false, .pu (.bin .add (.s 41) (.s 43))⟩,
   ⟨(some 6), some undefA, none, false, .pu (.mov (.s 44))⟩,
   ⟨(some 7), some undefA, none, false, .pu (.mov (.c (.int .i64 0)))⟩])
 (.ret)))))⟩
theorem t46 : trF Try.prog [3] [] Try.f46 = some m46 := by kernel_rfl
/-- selion/wish.Short [] -/
def m47 : MFun := ⟨12, [1], [.mov (.s 2), .mov (.s 3)],
 .seq (.ops [⟨(some 1), some (.junk), none, false, .pu (.bnew (.s 0))⟩,
   ⟨(some 2), some undefA, none, false, .pu (.mov (.c (.nilS)))⟩,
   ⟨(some 3), some undefA, none, false, .pu (.mov (.c (.int .i64 0)))⟩])
 (.seq (.seq (.ops [⟨(some 5), some undefA, none, false, .pu (.bget none 1 0 2 true)⟩,
   ⟨(some 6), some undefA, none, false, .call 39 [(.s 5)]⟩,
   ⟨(some 4), some undefA, none, false, .pu (.mov (.s 6))⟩])
 (.seq (.ops [⟨(some 7), some undefA, none, false, .pu (.mov (.s 4))⟩,
   ⟨(some 8), some undefA, none, false, .pu (.bin .neq (.s 7) (.c (.int .i64 0)))⟩])
 (.cond (.s 8) (.seq (.ops [⟨(some 9), some undefA, none, false, .pu (.mov (.s 4))⟩,
    ⟨(some 2), some undefA, none, false, .pu (.mov (.c (.nilS)))⟩,
    ⟨(some 3), some undefA, none, false, .pu (.mov (.s 9))⟩])
  (.ret))
 (.skip))))
 (.seq (.ops [⟨(some 10), some undefA, none, false, .pu (.bget none 1 0 2 true)⟩,
   ⟨(some 11), some undefA, none, false, .call 80 [(.s 10)]⟩,
   ⟨(some 2), some undefA, none, false, .pu (.mov (.s 11))⟩,
   ⟨(some 3), some undefA, none, false, .pu (.mov (.c (.int .i64 0)))⟩])
 (.ret)))⟩
theorem t47 : trF Try.prog [1] [] Try.f47 = some m47 := by kernel_rfl
/-- selion/wish.Happiest [] -/
def m48 : MFun := ⟨27, [], [.mov (.s 2), .mov (.s 3)],
 .seq (.ops [⟨(some 1), some undefA, none, false, .ha (.newv (.s 0))⟩,
   ⟨(some 2), some undefA, none, false, .pu (.mov (.c (.nilS)))⟩,
   ⟨(some 3), some undefA, none, false, .pu (.mov (.c (.int .i64 0)))⟩])
 (.seq (.seq (.ops [⟨(some 9), some undefA, none, false, .ld (.ld 2 true (.s 1))⟩,
   ⟨(some 10), some undefA, none, false, .call 39 [(.s 9)]⟩,
   ⟨(some 4), some undefA, none, false, .pu (.mov (.s 10))⟩])
 (.seq (.ops [⟨(some 11), some undefA, none, false, .pu (.mov (.s 4))⟩,
   ⟨(some 12), some undefA, none, false, .pu (.bin .neq (.s 11) (.c (.int .i64 0)))⟩])
 (.cond (.s 12) (.seq (.ops [⟨(some 13), some undefA, none, false, .pu (.mov (.s 4))⟩,
    ⟨(some 2), some undefA, none, false, .pu (.mov (.c (.nilS)))⟩,
    ⟨(some 3), some undefA, none, false, .pu (.mov (.s 13))⟩])
  (.ret))
 (.skip))))
 (.seq (.ops [⟨(some 14), some undefA, none, false, .ld (.ld 2 true (.s 1))⟩,
   ⟨(some 15), some undefA, none, false, .call 56 [(.s 14)]⟩,
   ⟨(some 5), some undefA, none, false, .pu (.mov (.s 15))⟩])
 (.seq (.ops [⟨(some 6), some undefA, none, false, .ha (.newv (.c (.nilS)))⟩])
 (.seq (.ops [⟨(some 16), some undefA, none, false, .ld (.ld 2 true (.s 1))⟩,
   ⟨(some 17), some undefA, none, false, .call 63 [(.s 16)]⟩,
   ⟨(some 18), some undefA, none, false, .pu (.part 2 1 false (.s 17))⟩,
   ⟨(some 7), some undefA, none, false, .ha (.newv (.c (.nilS)))⟩,
   ⟨none, some undefA, none, false, .ha (.st 1 (.s 7) (.s 18))⟩])
 (.seq (.ops [⟨(some 8), some undefA, none, false, .ha (.newv (.c (.nilF)))⟩])
 (.seq (.ops [⟨(some 19), some undefA, none, false, .pu (.mkf 81 [(.s 7), (.s 6), (.s 1), (.s 8)])⟩,
   ⟨none, some undefA, none, false, .ha (.st 1 (.s 8) (.s 19))⟩])
 (.seq (.ops [⟨(some 20), some undefA, none, false, .ld (.ld 1 false (.s 8))⟩,
   ⟨(some 21), some undefA, none, false, .ld (.ld 1 false (.s 7))⟩,
   ⟨(some 22), some undefA, none, false, .pu (.len (.s 21))⟩,
   ⟨(some 23), some undefA, none, false, .pu (.mov (.s 5))⟩,
   ⟨(some 24), some undefA, none, false, .pu (.bin .sub (.s 22) (.s 23))⟩,
   ⟨(some 25), some undefA, none, false, .callv (.s 20) [(.c (.int .i64 0)), (.s 24)]⟩])
 (.seq (.ops [⟨(some 26), some undefA, none, false, .ld (.ld 1 false (.s 6))⟩,
   ⟨(some 2), some undefA, none, false, .pu (.mov (.s 26))⟩,
   ⟨(some 3), some undefA, none, false, .pu (.mov (.c (.int .i64 0)))⟩])
 (.ret)))))))))⟩
theorem t48 : trF Try.prog [] [] Try.f48 = some m48 := by kernel_rfl
/-- selion/wish.Cover [loop [1, 6, 7, 18, 19]] -/
def m51 : MFun := ⟨35, [1], [.mov (.s 2), .mov (.s 3), .mov (.s 4)],
 .seq (.ops [⟨(some 1), some (.junk), none, false, .pu (.bnew (.s 0))⟩,
   ⟨(some 2), some undefA, none, false, .pu (.mov (.c (.nilS)))⟩,
   ⟨(some 3), some undefA, none, false, .pu (.mov (.c (.nilS)))⟩,
   ⟨(some 4), some undefA, none, false, .pu (.mov (.c (.int .i64 0)))⟩])
 (.seq (.seq (.ops [⟨(some 9), some undefA, none, false, .pu (.bget none 1 0 2 true)⟩,
   ⟨(some 10), some undefA, none, false, .call 39 [(.s 9)]⟩,
   ⟨(some 5), some undefA, none, false, .pu (.mov (.s 10))⟩])
 (.seq (.ops [⟨(some 11), some undefA, none, false, .pu (.mov (.s 5))⟩,
   ⟨(some 12), some undefA, none, false, .pu (.bin .neq (.s 11) (.c (.int .i64 0)))⟩])
 (.cond (.s 12) (.seq (.ops [⟨(some 13), some undefA, none, false, .pu (.mov (.s 5))⟩,
    ⟨(some 2), some undefA, none, false, .pu (.mov (.c (.nilS)))⟩,
    ⟨(some 3), some undefA, none, false, .pu (.mov (.c (.nilS)))⟩,
    ⟨(some 4), some undefA, none, false, .pu (.mov (.s 13))⟩])
  (.ret))
 (.skip))))
 (.seq (.ops [⟨(some 14), some undefA, none, false, .pu (.bget none 1 0 2 true)⟩,
   ⟨(some 15), some undefA, none, false, .call 80 [(.s 14)]⟩,
   ⟨(some 6), some undefA, none, false, .pu (.mov (.s 15))⟩])
 (.seq (.ops [⟨(some 7), some undefA, none, false, .pu (.mov (.c (.nilS)))⟩])
 (.seq (.seq (.ops [⟨(some 16), some undefA, none, false, .pu (.badr none 1)⟩,
   ⟨(some 17), some undefA, none, false, .pu (.bget (some 16) 1 1 1 false)⟩,
   ⟨(some 18), some undefA, none, false, .pu (.len (.s 17))⟩,
   ⟨(some 19), some undefA, none, false, .pu (.mov (.c (.int .i64 0)))⟩])
 (.block 0 (.loop (.seq (.ops [⟨(some 20), some undefA, none, false, .pu (.bin .lss (.s 19) (.s 18))⟩])
   (.seq (.cond (.s 20) (.skip)
   (.exit 0))
   (.seq (.block 1 (.seq (.ops [⟨(some 21), some undefA, none, false, .pu (.mov (.s 19))⟩,
      ⟨(some 8), some undefA, none, false, .pu (.mov (.s 21))⟩])
    (.seq (.ops [⟨(some 22), some undefA, none, false, .pu (.mov (.s 6))⟩,
      ⟨(some 23), some undefA, none, false, .pu (.mov (.s 8))⟩,
      ⟨(some 24), some undefA, none, false, .call 71 [(.s 22), (.s 23)]⟩,
      ⟨(some 25), some undefA, none, false, .pu (.not (.s 24))⟩])
    (.cond (.s 25) (.ops [⟨(some 26), some undefA, none, false, .pu (.mov (.s 7))⟩,
       ⟨(some 27), some undefA, none, false, .pu (.mov (.s 8))⟩,
       ⟨(some 28), some undefA, none, false, .ha (.blds 1 1 [.int .i64 0] [(0, 1, (.s 27))])⟩,
       ⟨(some 29), some undefA, none, false, .ha (.app 1 (.s 26) (.s 28))⟩,
       ⟨(some 7), some undefA, none, false, .pu (.mov (.s 29))⟩])
    (.skip)))))
   (.ops [⟨(some 30), some undefA, none, false, .pu (.bin .add (.s 19) (.c (.int .i64 1)))⟩,
     ⟨(some 19), some undefA, none, false, .pu (.mov (.s 30))⟩])))))))
 (.seq (.ops [⟨(some 31), some undefA, none, false, .pu (.mov (.s 7))⟩,
   ⟨(some 32), some undefA, none, false, .pu (.bget none 1 0 2 true)⟩,
   ⟨(some 33), some undefA, none, false, .pu (.mov (.s 6))⟩,
   ⟨(some 34), some undefA, none, false, .call 75 [(.s 32), (.s 33)]⟩,
   ⟨(some 2), some undefA, none, false, .pu (.mov (.s 31))⟩,
   ⟨(some 3), some undefA, none, false, .pu (.mov (.s 34))⟩,
   ⟨(some 4), some undefA, none, false, .pu (.mov (.c (.int .i64 0)))⟩])
 (.ret))))))⟩
theorem t51 : trF Try.prog [1] [] Try.f51 = some m51 := by kernel_rfl
/-- selion/wish.Line [loop [2, 8, 36, 37, 38]] -/
def m52 : MFun := ⟨66, [2], [.mov (.s 4), .mov (.s 5)],
 .seq (.ops [⟨(some 2), some (.junk), none, false, .pu (.bnew (.s 0))⟩,
   ⟨(some 4), some undefA, none, false, .pu (.mov (.c (.nilS)))⟩,
   ⟨(some 5), some undefA, none, false, .pu (.mov (.c (.int .i64 0)))⟩])
 (.seq (.seq (.ops [⟨(some 12), some undefA, none, false, .pu (.bget none 2 0 2 true)⟩,
   ⟨(some 13), some undefA, none, false, .call 39 [(.s 12)]⟩,
   ⟨(some 6), some undefA, none, false, .pu (.mov (.s 13))⟩])
 (.seq (.ops [⟨(some 14), some undefA, none, false, .pu (.mov (.s 6))⟩,
   ⟨(some 15), some undefA, none, false, .pu (.bin .neq (.s 14) (.c (.int .i64 0)))⟩])
 (.cond (.s 15) (.seq (.ops [⟨(some 16), some undefA, none, false, .pu (.mov (.s 6))⟩,
    ⟨(some 4), some undefA, none, false, .pu (.mov (.c (.nilS)))⟩,
    ⟨(some 5), some undefA, none, false, .pu (.mov (.s 16))⟩])
  (.ret))
 (.skip))))
 (.seq (.seq (.ops [⟨(some 17), some undefA, none, false, .pu (.mov (.s 1))⟩,
   ⟨(some 18), some undefA, none, false, .call 86 [(.s 17)]⟩,
   ⟨(some 19), some undefA, none, false, .call 85 [(.s 18)]⟩,
   ⟨(some 7), some undefA, none, false, .pu (.mov (.s 19))⟩])
 (.seq (.ops [⟨(some 20), some undefA, none, false, .pu (.mov (.s 1))⟩,
   ⟨(some 21), some undefA, none, false, .pu (.len (.s 20))⟩,
   ⟨(some 22), some undefA, none, false, .pu (.badr none 2)⟩,
   ⟨(some 23), some undefA, none, false, .pu (.bget (some 22) 2 1 1 false)⟩,
   ⟨(some 24), some undefA, none, false, .pu (.len (.s 23))⟩,
   ⟨(some 25), some undefA, none, false, .pu (.bin .neq (.s 21) (.s 24))⟩,
   ⟨(some 26), some undefA, none, false, .pu (.mov (.s 25))⟩,
   ⟨(some 27), some undefA, (some (26, false)), false, .pu (.mov (.s 7))⟩,
   ⟨(some 28), some undefA, (some (26, false)), false, .pu (.badr none 2)⟩,
   ⟨(some 29), some undefA, (some (26, false)), false, .pu (.bget (some 28) 2 1 1 false)⟩,
   ⟨(some 30), some undefA, (some (26, false)), false, .pu (.len (.s 29))⟩,
   ⟨(some 31), some undefA, (some (26, false)), false, .call 78 [(.s 27), (.s 30)]⟩,
   ⟨(some 32), some undefA, (some (26, false)), false, .pu (.not (.s 31))⟩,
   ⟨(some 33), some undefA, none, false, .pu (.pick (.s 26) (.c (.bool true)) (.s 32))⟩])
 (.cond (.s 33) (.seq (.ops [⟨(some 4), some undefA, none, false, .pu (.mov (.c (.nilS)))⟩,
    ⟨(some 5), some undefA, none, false, .pu (.mov (.c (.int .i64 1)))⟩])
  (.ret))
 (.skip))))
 (.seq (.ops [⟨(some 34), some undefA, none, false, .pu (.bget none 2 0 2 true)⟩,
   ⟨(some 35), some undefA, none, false, .call 63 [(.s 34)]⟩,
   ⟨(some 8), some undefA, none, false, .ha (.newv (.c (.agg [.int .i64 0, .nilS, .nilS])))⟩,
   ⟨none, some undefA, none, false, .ha (.st 3 (.s 8) (.s 35))⟩])
 (.seq (.seq (.ops [⟨(some 36), some undefA, none, false, .pu (.mov (.s 1))⟩,
   ⟨(some 37), some undefA, none, false, .pu (.len (.s 36))⟩,
   ⟨(some 38), some undefA, none, false, .pu (.mov (.c (.int .i64 0)))⟩])
 (.block 0 (.loop (.seq (.ops [⟨(some 39), some undefA, none, false, .pu (.bin .lss (.s 38) (.s 37))⟩])
   (.seq (.cond (.s 39) (.skip)
   (.exit 0))
   (.seq (.block 1 (.seq (.ops [⟨(some 40), some undefA, none, false, .pu (.idx 1 (.s 36) (.s 38))⟩,
      ⟨(some 41), some undefA, none, false, .ld (.ld 1 false (.s 40))⟩,
      ⟨(some 10), some undefA, none, false, .pu (.mov (.s 41))⟩])
    (.seq (.ops [⟨(some 42), some undefA, none, false, .pu (.badr none 2)⟩,
      ⟨(some 43), some undefA, none, false, .pu (.bget (some 42) 2 1 1 false)⟩,
      ⟨(some 44), some undefA, none, false, .pu (.mov (.s 10))⟩,
      ⟨(some 45), some undefA, none, false, .pu (.idx 1 (.s 43) (.s 44))⟩,
      ⟨(some 46), some undefA, none, false, .ld (.ld 1 false (.s 45))⟩,
      ⟨(some 47), some undefA, none, false, .pu (.mkf 88 [(.s 8)])⟩,
      ⟨(some 48), some undefA, none, false, .call 87 [(.s 46), (.s 47)]⟩,
      ⟨(some 11), some undefA, none, false, .pu (.mov (.s 48))⟩])
    (.seq (.ops [⟨(some 49), some undefA, none, false, .pu (.mov (.s 11))⟩,
      ⟨(some 50), some undefA, none, false, .pu (.bin .geq (.s 49) (.c (.int .i64 0)))⟩])
    (.cond (.s 50) (.ops [⟨(some 51), some undefA, none, true, .pu (.fad 2 (.s 8))⟩,
       ⟨(some 52), some undefA, none, true, .ld (.ld 1 false (.s 51))⟩,
       ⟨(some 53), some undefA, none, true, .pu (.mov (.s 10))⟩,
       ⟨(some 54), some undefA, none, true, .pu (.badr none 2)⟩,
       ⟨(some 55), some undefA, none, true, .pu (.bget (some 54) 2 1 1 false)⟩,
       ⟨(some 56), some undefA, none, true, .pu (.mov (.s 10))⟩,
       ⟨(some 57), some undefA, none, true, .pu (.idx 1 (.s 55) (.s 56))⟩,
       ⟨(some 58), some undefA, none, true, .ld (.ld 1 false (.s 57))⟩,
       ⟨(some 59), some undefA, none, true, .pu (.mov (.s 11))⟩,
       ⟨(some 60), some undefA, none, true, .pu (.idx 1 (.s 58) (.s 59))⟩,
       ⟨(some 61), some undefA, none, true, .ld (.ld 1 false (.s 60))⟩,
       ⟨(some 62), some undefA, none, false, .pu (.idx 1 (.s 52) (.s 53))⟩,
       ⟨none, some undefA, none, false, .ha (.st 1 (.s 62) (.s 61))⟩])
    (.skip))))))
   (.ops [⟨(some 63), some undefA, none, false, .pu (.bin .add (.s 38) (.c (.int .i64 1)))⟩,
     ⟨(some 38), some undefA, none, false, .pu (.mov (.s 63))⟩])))))))
 (.seq (.ops [⟨(some 64), some undefA, none, false, .pu (.fad 2 (.s 8))⟩,
   ⟨(some 65), some undefA, none, false, .ld (.ld 1 false (.s 64))⟩,
   ⟨(some 4), some undefA, none, false, .pu (.mov (.s 65))⟩,
   ⟨(some 5), some undefA, none, false, .pu (.mov (.c (.int .i64 0)))⟩])
 (.ret))))))⟩
theorem t52 : trF Try.prog [2] [] Try.f52 = some m52 := by kernel_rfl
/-- selion/selionref07.Line [loop [1, 2, 7], loop [1, 2, 8, 9, 10], loop [1, 2, 8, 9, 10, 11, 12]] -/
def m53 : MFun := ⟨110, [2], [.mov (.s 4), .mov (.s 5)],
 .seq (.ops [⟨(some 2), some (.junk), none, false, .pu (.bnew (.s 0))⟩,
   ⟨(some 4), some undefA, none, false, .pu (.mov (.c (.nilS)))⟩,
   ⟨(some 5), some undefA, none, false, .pu (.mov (.c (.int .i64 0)))⟩])
 (.seq (.seq (.ops [⟨(some 13), some undefA, none, false, .pu (.bget none 2 0 2 true)⟩,
   ⟨(some 14), some undefA, none, false, .call 40 [(.s 13)]⟩,
   ⟨(some 6), some undefA, none, false, .pu (.mov (.s 14))⟩])
 (.seq (.ops [⟨(some 15), some undefA, none, false, .pu (.mov (.s 6))⟩,
   ⟨(some 16), some undefA, none, false, .pu (.bin .neq (.s 15) (.c (.int .i64 0)))⟩])
 (.cond (.s 16) (.seq (.ops [⟨(some 17), some undefA, none, false, .pu (.mov (.s 6))⟩,
    ⟨(some 4), some undefA, none, false, .pu (.mov (.c (.nilS)))⟩,
    ⟨(some 5), some undefA, none, false, .pu (.mov (.s 17))⟩])
  (.ret))
 (.skip))))
 (.seq (.seq (.ops [⟨(some 18), some undefA, none, false, .pu (.mov (.s 1))⟩,
   ⟨(some 19), some undefA, none, false, .pu (.len (.s 18))⟩,
   ⟨(some 20), some undefA, none, false, .pu (.badr none 2)⟩,
   ⟨(some 21), some undefA, none, false, .pu (.bget (some 20) 2 1 1 false)⟩,
   ⟨(some 22), some undefA, none, false, .pu (.len (.s 21))⟩,
   ⟨(some 23), some undefA, none, false, .pu (.bin .neq (.s 19) (.s 22))⟩])
 (.cond (.s 23) (.seq (.ops [⟨(some 4), some undefA, none, false, .pu (.mov (.c (.nilS)))⟩,
    ⟨(some 5), some undefA, none, false, .pu (.mov (.c (.int .i64 1)))⟩])
  (.ret))
 (.skip)))
 (.seq (.seq (.ops [⟨(some 7), some undefA, none, false, .pu (.mov (.c (.int .i64 0)))⟩])
 (.block 0 (.loop (.seq (.seq (.ops [⟨(some 24), some undefA, none, false, .pu (.mov (.s 7))⟩,
     ⟨(some 25), some undefA, none, false, .pu (.mov (.s 1))⟩,
     ⟨(some 26), some undefA, none, false, .pu (.len (.s 25))⟩,
     ⟨(some 27), some undefA, none, false, .pu (.bin .lss (.s 24) (.s 26))⟩])
   (.cond (.s 27) (.skip)
   (.exit 0)))
   (.seq (.block 1 (.seq (.ops [⟨(some 30), some undefA, none, false, .pu (.mov (.s 1))⟩,
      ⟨(some 31), some undefA, none, false, .pu (.mov (.s 7))⟩,
      ⟨(some 32), some undefA, none, false, .pu (.idx 1 (.s 30) (.s 31))⟩,
      ⟨(some 33), some undefA, none, true, .ld (.ld 1 false (.s 32))⟩,
      ⟨(some 34), some undefA, none, true, .pu (.badr none 2)⟩,
      ⟨(some 35), some undefA, none, true, .pu (.bget (some 34) 2 1 1 false)⟩,
      ⟨(some 36), some undefA, none, true, .pu (.len (.s 35))⟩,
      ⟨(some 37), some undefA, none, true, .pu (.bin .sub (.s 36) (.c (.int .i64 1)))⟩,
      ⟨(some 38), some undefA, none, false, .call 64 [(.s 33), (.c (.int .i64 0)), (.s 37)]⟩,
      ⟨(some 39), some undefA, none, false, .pu (.not (.s 38))⟩,
      ⟨(some 40), some undefA, none, false, .pu (.mov (.s 39))⟩,
      ⟨(some 41), some undefA, (some (40, false)), true, .pu (.mov (.s 1))⟩,
      ⟨(some 42), some undefA, (some (40, false)), true, .pu (.mov (.s 7))⟩,
      ⟨(some 43), some undefA, (some (40, false)), true, .pu (.slc 1 (.s 41) none (some (.s 42)) none)⟩,
      ⟨(some 44), some undefA, (some (40, false)), false, .pu (.mov (.s 1))⟩,
      ⟨(some 45), some undefA, (some (40, false)), false, .pu (.mov (.s 7))⟩,
      ⟨(some 46), some undefA, (some (40, false)), false, .pu (.idx 1 (.s 44) (.s 45))⟩,
      ⟨(some 47), some undefA, (some (40, false)), true, .ld (.ld 1 false (.s 46))⟩,
      ⟨(some 48), some undefA, (some (40, false)), false, .call 65 [(.s 43), (.s 47)]⟩,
      ⟨(some 49), some undefA, none, false, .pu (.pick (.s 40) (.c (.bool true)) (.s 48))⟩])
    (.cond (.s 49) (.seq (.ops [⟨(some 4), some undefA, none, false, .pu (.mov (.c (.nilS)))⟩,
       ⟨(some 5), some undefA, none, false, .pu (.mov (.c (.int .i64 1)))⟩])
     (.ret))
    (.skip))))
   (.ops [⟨(some 28), some undefA, none, false, .pu (.mov (.s 7))⟩,
     ⟨(some 29), some undefA, none, false, .pu (.bin .add (.s 28) (.c (.int .i64 1)))⟩,
     ⟨(some 7), some undefA, none, false, .pu (.mov (.s 29))⟩]))))))
 (.seq (.ops [⟨(some 50), some undefA, none, false, .pu (.badr none 2)⟩,
   ⟨(some 51), some undefA, none, false, .pu (.bget (some 50) 2 1 1 false)⟩,
   ⟨(some 52), some undefA, none, false, .pu (.len (.s 51))⟩,
   ⟨(some 53), some undefA, none, false, .ha (.mks 1 [.int .i64 0] (.s 52) (.s 52))⟩,
   ⟨(some 8), some undefA, none, false, .pu (.mov (.s 53))⟩])
 (.seq (.ops [⟨(some 9), some undefA, none, false, .pu (.mov (.c (.nilS)))⟩])
 (.seq (.seq (.ops [⟨(some 10), some undefA, none, false, .pu (.mov (.c (.int .i64 0)))⟩])
 (.block 2 (.loop (.seq (.seq (.ops [⟨(some 54), some undefA, none, false, .pu (.mov (.s 10))⟩,
     ⟨(some 55), some undefA, none, false, .pu (.mov (.s 1))⟩,
     ⟨(some 56), some undefA, none, false, .pu (.len (.s 55))⟩,
     ⟨(some 57), some undefA, none, false, .pu (.bin .lss (.s 54) (.s 56))⟩])
   (.cond (.s 57) (.skip)
   (.exit 2)))
   (.seq (.block 3 (.seq (.ops [⟨(some 60), some undefA, none, true, .pu (.badr none 2)⟩,
      ⟨(some 61), some undefA, none, true, .pu (.bget (some 60) 2 1 1 false)⟩,
      ⟨(some 62), some undefA, none, false, .pu (.mov (.s 1))⟩,
      ⟨(some 63), some undefA, none, false, .pu (.mov (.s 10))⟩,
      ⟨(some 64), some undefA, none, false, .pu (.idx 1 (.s 62) (.s 63))⟩,
      ⟨(some 65), some undefA, none, true, .ld (.ld 1 false (.s 64))⟩,
      ⟨(some 66), some undefA, none, false, .pu (.idx 1 (.s 61) (.s 65))⟩,
      ⟨(some 67), some undefA, none, true, .ld (.ld 1 false (.s 66))⟩,
      ⟨(some 11), some undefA, none, false, .pu (.mov (.s 67))⟩])
    (.seq (.ops [⟨(some 12), some undefA, none, false, .pu (.mov (.c (.int .i64 0)))⟩])
    (.seq (.block 4 (.loop (.seq (.seq (.ops [⟨(some 68), some undefA, none, false, .pu (.mov (.s 12))⟩,
        ⟨(some 69), some undefA, none, false, .pu (.mov (.s 11))⟩,
        ⟨(some 70), some undefA, none, false, .pu (.len (.s 69))⟩,
        ⟨(some 71), some undefA, none, false, .pu (.bin .lss (.s 68) (.s 70))⟩,
        ⟨(some 72), some undefA, none, false, .pu (.mov (.s 71))⟩,
        ⟨(some 73), some undefA, (some (72, true)), false, .pu (.mov (.s 9))⟩,
        ⟨(some 74), some undefA, (some (72, true)), false, .pu (.mov (.s 11))⟩,
        ⟨(some 75), some undefA, (some (72, true)), false, .pu (.mov (.s 12))⟩,
        ⟨(some 76), some undefA, (some (72, true)), false, .pu (.idx 1 (.s 74) (.s 75))⟩,
        ⟨(some 77), some undefA, (some (72, true)), false, .ld (.ld 1 false (.s 76))⟩,
        ⟨(some 78), some undefA, (some (72, true)), false, .call 65 [(.s 73), (.s 77)]⟩,
        ⟨(some 79), some undefA, none, false, .pu (.pick (.s 72) (.s 78) (.c (.bool false)))⟩])
      (.cond (.s 79) (.skip)
      (.exit 4)))
      (.block 5 (.ops [⟨(some 80), some undefA, none, false, .pu (.mov (.s 12))⟩,
         ⟨(some 81), some undefA, none, false, .pu (.bin .add (.s 80) (.c (.int .i64 1)))⟩,
         ⟨(some 12), some undefA, none, false, .pu (.mov (.s 81))⟩])))))
    (.seq (.ops [⟨(some 82), some undefA, none, false, .pu (.mov (.s 8))⟩,
      ⟨(some 83), some undefA, none, false, .pu (.mov (.s 1))⟩,
      ⟨(some 84), some undefA, none, false, .pu (.mov (.s 10))⟩,
      ⟨(some 85), some undefA, none, false, .pu (.idx 1 (.s 83) (.s 84))⟩,
      ⟨(some 86), some undefA, none, false, .ld (.ld 1 false (.s 85))⟩,
      ⟨(some 87), some undefA, none, false, .pu (.idx 1 (.s 82) (.s 86))⟩,
      ⟨none, some undefA, none, false, .ha (.st 1 (.s 87) (.c (.int .i64 (-1))))⟩])
    (.seq (.ops [⟨(some 88), some undefA, none, false, .pu (.mov (.s 12))⟩,
      ⟨(some 89), some undefA, none, false, .pu (.mov (.s 11))⟩,
      ⟨(some 90), some undefA, none, false, .pu (.len (.s 89))⟩,
      ⟨(some 91), some undefA, none, false, .pu (.bin .lss (.s 88) (.s 90))⟩])
    (.cond (.s 91) (.seq (.ops [⟨(some 92), some undefA, none, true, .pu (.mov (.s 8))⟩,
       ⟨(some 93), some undefA, none, true, .pu (.mov (.s 1))⟩,
       ⟨(some 94), some undefA, none, true, .pu (.mov (.s 10))⟩,
       ⟨(some 95), some undefA, none, true, .pu (.idx 1 (.s 93) (.s 94))⟩,
       ⟨(some 96), some undefA, none, true, .ld (.ld 1 false (.s 95))⟩,
       ⟨(some 97), some undefA, none, true, .pu (.mov (.s 11))⟩,
       ⟨(some 98), some undefA, none, true, .pu (.mov (.s 12))⟩,
       ⟨(some 99), some undefA, none, true, .pu (.idx 1 (.s 97) (.s 98))⟩,
       ⟨(some 100), some undefA, none, true, .ld (.ld 1 false (.s 99))⟩,
       ⟨(some 101), some undefA, none, false, .pu (.idx 1 (.s 92) (.s 96))⟩,
       ⟨none, some undefA, none, false, .ha (.st 1 (.s 101) (.s 100))⟩])
     (.ops [⟨(some 102), some undefA, none, false, .pu (.mov (.s 9))⟩,
       ⟨(some 103), some undefA, none, false, .pu (.mov (.s 11))⟩,
       ⟨(some 104), some undefA, none, false, .pu (.mov (.s 12))⟩,
       ⟨(some 105), some undefA, none, false, .pu (.idx 1 (.s 103) (.s 104))⟩,
       ⟨(some 106), some undefA, none, false, .ld (.ld 1 false (.s 105))⟩,
       ⟨(some 107), some undefA, none, false, .ha (.blds 1 1 [.int .i64 0] [(0, 1, (.s 106))])⟩,
       ⟨(some 108), some undefA, none, false, .ha (.app 1 (.s 102) (.s 107))⟩,
       ⟨(some 9), some undefA, none, false, .pu (.mov (.s 108))⟩]))
    (.skip))))))))
   (.ops [⟨(some 58), some undefA, none, false, .pu (.mov (.s 10))⟩,
     ⟨(some 59), some undefA, none, false, .pu (.bin .add (.s 58) (.c (.int .i64 1)))⟩,
     ⟨(some 10), some undefA, none, false, .pu (.mov (.s 59))⟩]))))))
 (.seq (.ops [⟨(some 109), some undefA, none, false, .pu (.mov (.s 8))⟩,
   ⟨(some 4), some undefA, none, false, .pu (.mov (.s 109))⟩,
   ⟨(some 5), some undefA, none, false, .pu (.mov (.c (.int .i64 0)))⟩])
 (.ret))))))))⟩
theorem t53 : trF Try.prog [2] [] Try.f53 = some m53 := by kernel_rfl
/-- selion/selionlaw07.first [] -/
def m54 : MFun := ⟨6, [0], [.bget none 0 0 2 true],
 .seq (.ops [⟨(some 0), some (.junk), none, false, .pu (.bnew (.c (.agg [.int .i64 0, .nilS])))⟩])
 (.seq (.ops [⟨(some 1), some undefA, none, false, .ha (.blds 1 2 [.int .i64 0] [(0, 1, (.c (.int .i64 0))), (1, 1, (.c (.int .i64 1)))])⟩,
   ⟨(some 2), some undefA, none, false, .ha (.blds 1 1 [.int .i64 0] [(0, 1, (.c (.int .i64 0)))])⟩,
   ⟨(some 3), some undefA, none, false, .ha (.blds 1 1 [.int .i64 0] [(0, 1, (.c (.int .i64 0)))])⟩,
   ⟨(some 4), some undefA, none, false, .ha (.blds 1 3 [.nilS] [(0, 1, (.s 1)), (1, 1, (.s 2)), (2, 1, (.s 3))])⟩,
   ⟨(some 5), some undefA, none, false, .pu (.build [.int .i64 0, .nilS] [(0, 1, (.c (.int .i64 3))), (1, 1, (.s 4))])⟩,
   ⟨(some 0), none, none, false, .pu (.bset none 0 0 2 (.s 5))⟩])
 (.ret))⟩
theorem t54 : trF Try.prog [0] [] Try.f54 = some m54 := by kernel_rfl
/-- slices.Clone[[][]int,[]int] [] -/
def m55 : MFun := ⟨8, [], [.mov (.s 2)],
 .seq (.ops [⟨(some 2), some undefA, none, false, .pu (.mov (.c (.nilS)))⟩])
 (.seq (.seq (.ops [⟨(some 3), some undefA, none, false, .pu (.mov (.s 0))⟩,
   ⟨(some 4), some undefA, none, false, .pu (.isnil false (.s 3))⟩])
 (.cond (.s 4) (.seq (.ops [⟨(some 2), some undefA, none, false, .pu (.mov (.c (.nilS)))⟩])
  (.ret))
 (.skip)))
 (.seq (.ops [⟨(some 5), some undefA, none, false, .ha (.blds 1 0 [.nilS] [])⟩,
   ⟨(some 6), some undefA, none, false, .pu (.mov (.s 0))⟩,
   ⟨(some 7), some undefA, none, false, .ha (.app 1 (.s 5) (.s 6))⟩,
   ⟨(some 2), some undefA, none, false, .pu (.mov (.s 7))⟩])
 (.ret)))⟩
theorem t55 : trF Try.prog [] [] Try.f55 = some m55 := by kernel_rfl
/-- selion/wish.most [] -/
def m56 : MFun := ⟨8, [1], [.mov (.s 2)],
 .seq (.ops [⟨(some 1), some (.junk), none, false, .pu (.bnew (.s 0))⟩,
   ⟨(some 2), some undefA, none, false, .pu (.mov (.c (.int .i64 0)))⟩])
 (.seq (.ops [⟨(some 3), some undefA, none, false, .pu (.bget none 1 0 2 true)⟩,
   ⟨(some 4), some undefA, none, false, .call 63 [(.s 3)]⟩,
   ⟨(some 5), some undefA, none, false, .call 62 [(.s 4)]⟩,
   ⟨(some 6), some undefA, none, false, .pu (.part 2 1 false (.s 5))⟩,
   ⟨(some 7), some undefA, none, false, .call 61 [(.s 6)]⟩,
   ⟨(some 2), some undefA, none, false, .pu (.mov (.s 7))⟩])
 (.ret))⟩
theorem t56 : trF Try.prog [1] [] Try.f56 = some m56 := by kernel_rfl
/-- selion/selionref07.most [loop [0, 3, 4]] -/
def m57 : MFun := ⟨20, [], [.mov (.s 2)],
 .seq (.ops [⟨(some 2), some undefA, none, false, .pu (.mov (.c (.int .i64 0)))⟩])
 (.seq (.ops [⟨(some 3), some undefA, none, false, .pu (.mov (.c (.int .i64 0)))⟩])
 (.seq (.seq (.ops [⟨(some 4), some undefA, none, false, .pu (.mov (.c (.int .i64 0)))⟩])
 (.block 0 (.loop (.seq (.seq (.ops [⟨(some 5), some undefA, none, false, .pu (.mov (.s 4))⟩,
     ⟨(some 6), some undefA, none, false, .pu (.mov (.s 0))⟩,
     ⟨(some 7), some undefA, none, false, .pu (.len (.s 6))⟩,
     ⟨(some 8), some undefA, none, false, .pu (.bin .lss (.s 5) (.s 7))⟩])
   (.cond (.s 8) (.skip)
   (.exit 0)))
   (.seq (.block 1 (.seq (.ops [⟨(some 11), some undefA, none, false, .pu (.mov (.s 0))⟩,
      ⟨(some 12), some undefA, none, false, .pu (.mov (.s 4))⟩,
      ⟨(some 13), some undefA, none, false, .pu (.idx 1 (.s 11) (.s 12))⟩,
      ⟨(some 14), some undefA, none, false, .ld (.ld 1 false (.s 13))⟩])
    (.cond (.s 14) (.ops [⟨(some 15), some undefA, none, false, .pu (.mov (.s 3))⟩,
       ⟨(some 16), some undefA, none, false, .pu (.mov (.s 4))⟩,
       ⟨(some 17), some undefA, none, false, .call 60 [(.s 16)]⟩,
       ⟨(some 18), some undefA, none, false, .pu (.mm true (.s 15) [(.s 17)])⟩,
       ⟨(some 3), some undefA, none, false, .pu (.mov (.s 18))⟩])
    (.skip))))
   (.ops [⟨(some 9), some undefA, none, false, .pu (.mov (.s 4))⟩,
     ⟨(some 10), some undefA, none, false, .pu (.bin .add (.s 9) (.c (.int .i64 1)))⟩,
     ⟨(some 4), some undefA, none, false, .pu (.mov (.s 10))⟩]))))))
 (.seq (.ops [⟨(some 19), some undefA, none, false, .pu (.mov (.s 3))⟩,
   ⟨(some 2), some undefA, none, false, .pu (.mov (.s 19))⟩])
 (.ret))))⟩
theorem t57 : trF Try.prog [] [] Try.f57 = some m57 := by kernel_rfl
/-- selion/selionref07.sets [loop [1, 2, 5, 6], loop [1, 2, 5, 6, 7, 8], loop [1, 2, 5, 6, 7, 8, 9]] -/
def m58 : MFun := ⟨74, [2], [.mov (.s 4)],
 .seq (.ops [⟨(some 2), some (.junk), none, false, .pu (.bnew (.s 0))⟩,
   ⟨(some 4), some undefA, none, false, .pu (.mov (.c (.nilS)))⟩])
 (.seq (.ops [⟨(some 11), some undefA, none, false, .pu (.badr none 2)⟩,
   ⟨(some 12), some undefA, none, false, .pu (.bget (some 11) 2 0 1 false)⟩,
   ⟨(some 13), some undefA, none, false, .pu (.conv .u64 (.s 12))⟩,
   ⟨(some 14), some undefA, none, false, .pu (.bin .shl (.c (.int .i64 1)) (.s 13))⟩,
   ⟨(some 15), some undefA, none, false, .ha (.mks 1 [.bool false] (.s 14) (.s 14))⟩,
   ⟨(some 5), some undefA, none, false, .pu (.mov (.s 15))⟩])
 (.seq (.ops [⟨(some 16), some undefA, none, false, .pu (.mov (.s 5))⟩,
   ⟨(some 17), some undefA, none, false, .pu (.idx 1 (.s 16) (.c (.int .i64 0)))⟩,
   ⟨none, some undefA, none, false, .ha (.st 1 (.s 17) (.c (.bool true)))⟩])
 (.seq (.seq (.ops [⟨(some 6), some undefA, none, false, .pu (.mov (.c (.int .i64 0)))⟩])
 (.block 0 (.loop (.seq (.seq (.ops [⟨(some 18), some undefA, none, false, .pu (.mov (.s 6))⟩,
     ⟨(some 19), some undefA, none, false, .pu (.badr none 2)⟩,
     ⟨(some 20), some undefA, none, false, .pu (.bget (some 19) 2 1 1 false)⟩,
     ⟨(some 21), some undefA, none, false, .pu (.len (.s 20))⟩,
     ⟨(some 22), some undefA, none, false, .pu (.bin .lss (.s 18) (.s 21))⟩])
   (.cond (.s 22) (.skip)
   (.exit 0)))
   (.seq (.block 1 (.seq (.seq (.ops [⟨(some 25), some undefA, none, false, .pu (.mov (.s 6))⟩,
      ⟨(some 26), some undefA, none, false, .pu (.mov (.s 1))⟩,
      ⟨(some 27), some undefA, none, false, .pu (.bin .eql (.s 25) (.s 26))⟩])
    (.cond (.s 27) (.exit 1)
    (.skip)))
    (.seq (.ops [⟨(some 28), some undefA, none, false, .ha (.blds 1 0 [.bool false] [])⟩,
      ⟨(some 29), some undefA, none, false, .pu (.mov (.s 5))⟩,
      ⟨(some 30), some undefA, none, false, .ha (.app 1 (.s 28) (.s 29))⟩,
      ⟨(some 7), some undefA, none, false, .pu (.mov (.s 30))⟩])
    (.seq (.seq (.ops [⟨(some 8), some undefA, none, false, .pu (.mov (.c (.int .i64 0)))⟩])
    (.block 2 (.loop (.seq (.seq (.ops [⟨(some 31), some undefA, none, false, .pu (.mov (.s 8))⟩,
        ⟨(some 32), some undefA, none, false, .pu (.mov (.s 5))⟩,
        ⟨(some 33), some undefA, none, false, .pu (.len (.s 32))⟩,
        ⟨(some 34), some undefA, none, false, .pu (.bin .lss (.s 31) (.s 33))⟩])
      (.cond (.s 34) (.skip)
      (.exit 2)))
      (.seq (.block 3 (.seq (.ops [⟨(some 9), some undefA, none, false, .pu (.mov (.c (.int .i64 0)))⟩])
       (.block 4 (.loop (.seq (.seq (.ops [⟨(some 37), some undefA, none, false, .pu (.mov (.s 9))⟩,
           ⟨(some 38), some undefA, none, false, .pu (.badr none 2)⟩,
           ⟨(some 39), some undefA, none, false, .pu (.bget (some 38) 2 1 1 false)⟩,
           ⟨(some 40), some undefA, none, false, .pu (.mov (.s 6))⟩,
           ⟨(some 41), some undefA, none, false, .pu (.idx 1 (.s 39) (.s 40))⟩,
           ⟨(some 42), some undefA, none, false, .ld (.ld 1 false (.s 41))⟩,
           ⟨(some 43), some undefA, none, false, .pu (.len (.s 42))⟩,
           ⟨(some 44), some undefA, none, false, .pu (.bin .lss (.s 37) (.s 43))⟩,
           ⟨(some 45), some undefA, none, false, .pu (.mov (.s 44))⟩,
           ⟨(some 46), some undefA, (some (45, true)), false, .pu (.mov (.s 5))⟩,
           ⟨(some 47), some undefA, (some (45, true)), false, .pu (.mov (.s 8))⟩,
           ⟨(some 48), some undefA, (some (45, true)), false, .pu (.idx 1 (.s 46) (.s 47))⟩,
           ⟨(some 49), some undefA, (some (45, true)), false, .ld (.ld 1 false (.s 48))⟩,
           ⟨(some 50), some undefA, none, false, .pu (.pick (.s 45) (.s 49) (.c (.bool false)))⟩])
         (.cond (.s 50) (.skip)
         (.exit 4)))
         (.seq (.block 5 (.seq (.ops [⟨(some 53), some undefA, none, false, .pu (.badr none 2)⟩,
            ⟨(some 54), some undefA, none, false, .pu (.bget (some 53) 2 1 1 false)⟩,
            ⟨(some 55), some undefA, none, false, .pu (.mov (.s 6))⟩,
            ⟨(some 56), some undefA, none, false, .pu (.idx 1 (.s 54) (.s 55))⟩,
            ⟨(some 57), some undefA, none, false, .ld (.ld 1 false (.s 56))⟩,
            ⟨(some 58), some undefA, none, false, .pu (.mov (.s 9))⟩,
            ⟨(some 59), some undefA, none, false, .pu (.idx 1 (.s 57) (.s 58))⟩,
            ⟨(some 60), some undefA, none, false, .ld (.ld 1 false (.s 59))⟩,
            ⟨(some 61), some undefA, none, false, .pu (.conv .u64 (.s 60))⟩,
            ⟨(some 62), some undefA, none, false, .pu (.bin .shl (.c (.int .i64 1)) (.s 61))⟩,
            ⟨(some 10), some undefA, none, false, .pu (.mov (.s 62))⟩])
          (.seq (.ops [⟨(some 63), some undefA, none, false, .pu (.mov (.s 8))⟩,
            ⟨(some 64), some undefA, none, false, .pu (.mov (.s 10))⟩,
            ⟨(some 65), some undefA, none, false, .pu (.bin .and (.s 63) (.s 64))⟩,
            ⟨(some 66), some undefA, none, false, .pu (.bin .eql (.s 65) (.c (.int .i64 0)))⟩])
          (.cond (.s 66) (.ops [⟨(some 67), some undefA, none, false, .pu (.mov (.s 7))⟩,
             ⟨(some 68), some undefA, none, false, .pu (.mov (.s 8))⟩,
             ⟨(some 69), some undefA, none, false, .pu (.mov (.s 10))⟩,
             ⟨(some 70), some undefA, none, false, .pu (.bin .or (.s 68) (.s 69))⟩,
             ⟨(some 71), some undefA, none, false, .pu (.idx 1 (.s 67) (.s 70))⟩,
             ⟨none, some undefA, none, false, .ha (.st 1 (.s 71) (.c (.bool true)))⟩])
          (.skip)))))
         (.ops [⟨(some 51), some undefA, none, false, .pu (.mov (.s 9))⟩,
           ⟨(some 52), some undefA, none, false, .pu (.bin .add (.s 51) (.c (.int .i64 1)))⟩,
           ⟨(some 9), some undefA, none, false, .pu (.mov (.s 52))⟩])))))))
      (.ops [⟨(some 35), some undefA, none, false, .pu (.mov (.s 8))⟩,
        ⟨(some 36), some undefA, none, false, .pu (.bin .add (.s 35) (.c (.int .i64 1)))⟩,
        ⟨(some 8), some undefA, none, false, .pu (.mov (.s 36))⟩]))))))
    (.ops [⟨(some 72), some undefA, none, false, .pu (.mov (.s 7))⟩,
      ⟨(some 5), some undefA, none, false, .pu (.mov (.s 72))⟩])))))
   (.ops [⟨(some 23), some undefA, none, false, .pu (.mov (.s 6))⟩,
     ⟨(some 24), some undefA, none, false, .pu (.bin .add (.s 23) (.c (.int .i64 1)))⟩,
     ⟨(some 6), some undefA, none, false, .pu (.mov (.s 24))⟩]))))))
 (.seq (.ops [⟨(some 73), some undefA, none, false, .pu (.mov (.s 5))⟩,
   ⟨(some 4), some undefA, none, false, .pu (.mov (.s 73))⟩])
 (.ret)))))⟩
theorem t58 : trF Try.prog [2] [] Try.f58 = some m58 := by kernel_rfl
/-- selion/wish.without [loop [3, 4, 5, 12, 13, 14]] -/
def m59 : MFun := ⟨29, [2, 4, 5], [.bget none 4 0 2 true],
 .seq (.ops [⟨(some 2), some (.junk), none, false, .pu (.bnew (.s 0))⟩,
   ⟨(some 3), some undefA, none, false, .ha (.newv (.s 1))⟩,
   ⟨(some 4), some (.junk), none, false, .pu (.bnew (.c (.agg [.int .i64 0, .nilS])))⟩])
 (.seq (.ops [⟨(some 8), some undefA, none, false, .pu (.badr none 2)⟩,
   ⟨(some 9), some undefA, none, false, .pu (.bget (some 8) 2 0 1 false)⟩,
   ⟨(some 10), some undefA, none, false, .pu (.build [.int .i64 0, .nilS] [(0, 1, (.s 9))])⟩,
   ⟨(some 5), some (.junk), none, false, .pu (.bnew (.c (.agg [.int .i64 0, .nilS])))⟩,
   ⟨(some 5), none, none, false, .pu (.bset none 5 0 2 (.s 10))⟩])
 (.seq (.seq (.ops [⟨(some 11), some undefA, none, false, .pu (.badr none 2)⟩,
   ⟨(some 12), some undefA, none, false, .pu (.bget (some 11) 2 1 1 false)⟩,
   ⟨(some 13), some undefA, none, false, .pu (.len (.s 12))⟩,
   ⟨(some 14), some undefA, none, false, .pu (.mov (.c (.int .i64 0)))⟩])
 (.block 0 (.loop (.seq (.ops [⟨(some 15), some undefA, none, false, .pu (.bin .lss (.s 14) (.s 13))⟩])
   (.seq (.cond (.s 15) (.skip)
   (.exit 0))
   (.seq (.block 1 (.seq (.ops [⟨(some 16), some undefA, none, false, .pu (.idx 1 (.s 12) (.s 14))⟩,
      ⟨(some 17), some undefA, none, false, .ld (.ld 1 false (.s 16))⟩,
      ⟨(some 7), some undefA, none, false, .pu (.mov (.s 17))⟩])
    (.ops [⟨(some 18), some undefA, none, false, .pu (.badr none 5)⟩,
      ⟨(some 19), some undefA, none, false, .pu (.bget (some 18) 5 1 1 false)⟩,
      ⟨(some 20), some undefA, none, false, .pu (.mov (.s 7))⟩,
      ⟨(some 21), some undefA, none, false, .call 83 [(.s 20)]⟩,
      ⟨(some 22), some undefA, none, false, .pu (.mkf 91 [(.s 3)])⟩,
      ⟨(some 23), some undefA, none, false, .call 90 [(.s 21), (.s 22)]⟩,
      ⟨(some 24), some undefA, none, false, .ha (.blds 1 1 [.nilS] [(0, 1, (.s 23))])⟩,
      ⟨(some 25), some undefA, none, false, .ha (.app 1 (.s 19) (.s 24))⟩,
      ⟨(some 26), some undefA, none, false, .pu (.badr none 5)⟩,
      ⟨(some 5), none, none, false, .pu (.bset (some 26) 5 1 1 (.s 25))⟩])))
   (.ops [⟨(some 27), some undefA, none, false, .pu (.bin .add (.s 14) (.c (.int .i64 1)))⟩,
     ⟨(some 14), some undefA, none, false, .pu (.mov (.s 27))⟩])))))))
 (.seq (.ops [⟨(some 28), some undefA, none, false, .pu (.bget none 5 0 2 true)⟩,
   ⟨(some 4), none, none, false, .pu (.bset none 4 0 2 (.s 28))⟩])
 (.ret))))⟩
theorem t59 : trF Try.prog [2, 4, 5] [] Try.f59 = some m59 := by kernel_rfl
/-- selion/selionref07.size [loop [0, 3]] -/
def m60 : MFun := ⟨13, [], [.mov (.s 2)],
 .seq (.ops [⟨(some 2), some undefA, none, false, .pu (.mov (.c (.int .i64 0)))⟩])
 (.seq (.ops [⟨(some 3), some undefA, none, false, .pu (.mov (.c (.int .i64 0)))⟩])
 (.seq (.block 0 (.loop (.seq (.seq (.ops [⟨(some 4), some undefA, none, false, .pu (.mov (.s 0))⟩,
     ⟨(some 5), some undefA, none, false, .pu (.bin .gtr (.s 4) (.c (.int .i64 0)))⟩])
   (.cond (.s 5) (.skip)
   (.exit 0)))
   (.seq (.block 1 (.ops [⟨(some 8), some undefA, none, false, .pu (.mov (.s 3))⟩,
      ⟨(some 9), some undefA, none, false, .pu (.mov (.s 0))⟩,
      ⟨(some 10), some undefA, none, false, .pu (.bin .rem (.s 9) (.c (.int .i64 2)))⟩,
      ⟨(some 11), some undefA, none, false, .pu (.bin .add (.s 8) (.s 10))⟩,
      ⟨(some 3), some undefA, none, false, .pu (.mov (.s 11))⟩]))
   (.ops [⟨(some 6), some undefA, none, false, .pu (.mov (.s 0))⟩,
     ⟨(some 7), some undefA, none, false, .pu (.bin .quo (.s 6) (.c (.int .i64 2)))⟩,
     ⟨(some 0), some undefA, none, false, .pu (.mov (.s 7))⟩])))))
 (.seq (.ops [⟨(some 12), some undefA, none, false, .pu (.mov (.s 3))⟩,
   ⟨(some 2), some undefA, none, false, .pu (.mov (.s 12))⟩])
 (.ret))))⟩
theorem t60 : trF Try.prog [] [] Try.f60 = some m60 := by kernel_rfl
/-- selion/wish.served [loop [3, 6, 7, 8]] -/
def m61 : MFun := ⟨18, [], [.mov (.s 2)],
 .seq (.ops [⟨(some 2), some undefA, none, false, .pu (.mov (.c (.int .i64 0)))⟩])
 (.seq (.ops [⟨(some 3), some undefA, none, false, .pu (.mov (.c (.int .i64 0)))⟩])
 (.seq (.seq (.ops [⟨(some 6), some undefA, none, false, .pu (.mov (.s 0))⟩,
   ⟨(some 7), some undefA, none, false, .pu (.len (.s 6))⟩,
   ⟨(some 8), some undefA, none, false, .pu (.mov (.c (.int .i64 0)))⟩])
 (.block 0 (.loop (.seq (.ops [⟨(some 9), some undefA, none, false, .pu (.bin .lss (.s 8) (.s 7))⟩])
   (.seq (.cond (.s 9) (.skip)
   (.exit 0))
   (.seq (.block 1 (.seq (.ops [⟨(some 10), some undefA, none, false, .pu (.idx 1 (.s 6) (.s 8))⟩,
      ⟨(some 11), some undefA, none, false, .ld (.ld 1 false (.s 10))⟩,
      ⟨(some 5), some undefA, none, false, .pu (.mov (.s 11))⟩])
    (.seq (.ops [⟨(some 12), some undefA, none, false, .pu (.mov (.s 5))⟩,
      ⟨(some 13), some undefA, none, false, .pu (.bin .geq (.s 12) (.c (.int .i64 0)))⟩])
    (.cond (.s 13) (.ops [⟨(some 14), some undefA, none, false, .pu (.mov (.s 3))⟩,
       ⟨(some 15), some undefA, none, false, .pu (.bin .add (.s 14) (.c (.int .i64 1)))⟩,
       ⟨(some 3), some undefA, none, false, .pu (.mov (.s 15))⟩])
    (.skip)))))
   (.ops [⟨(some 16), some undefA, none, false, .pu (.bin .add (.s 8) (.c (.int .i64 1)))⟩,
     ⟨(some 8), some undefA, none, false, .pu (.mov (.s 16))⟩])))))))
 (.seq (.ops [⟨(some 17), some undefA, none, false, .pu (.mov (.s 3))⟩,
   ⟨(some 2), some undefA, none, false, .pu (.mov (.s 17))⟩])
 (.ret))))⟩
theorem t61 : trF Try.prog [] [] Try.f61 = some m61 := by kernel_rfl
/-- selion/wish.filled [loop [1, 2, 10, 11]] -/
def m62 : MFun := ⟨25, [1, 2], [.bget none 2 0 3 true],
 .seq (.ops [⟨(some 1), some (.junk), none, false, .pu (.bnew (.s 0))⟩,
   ⟨(some 2), some (.junk), none, false, .pu (.bnew (.c (.agg [.int .i64 0, .nilS, .nilS])))⟩])
 (.seq (.ops [⟨(some 4), some undefA, none, false, .pu (.badr none 1)⟩,
   ⟨(some 5), some undefA, none, false, .pu (.bget (some 4) 1 2 1 false)⟩,
   ⟨(some 6), some undefA, none, false, .call 83 [(.s 5)]⟩,
   ⟨(some 7), some undefA, none, false, .pu (.badr none 1)⟩,
   ⟨(some 1), none, none, false, .pu (.bset (some 7) 1 2 1 (.s 6))⟩])
 (.seq (.seq (.ops [⟨(some 8), some undefA, none, false, .pu (.badr none 1)⟩,
   ⟨(some 9), some undefA, none, false, .pu (.bget (some 8) 1 2 1 false)⟩,
   ⟨(some 10), some undefA, none, false, .pu (.len (.s 9))⟩,
   ⟨(some 11), some undefA, none, false, .pu (.mov (.c (.int .i64 0)))⟩])
 (.block 0 (.loop (.seq (.ops [⟨(some 12), some undefA, none, false, .pu (.bin .lss (.s 11) (.s 10))⟩])
   (.seq (.cond (.s 12) (.skip)
   (.exit 0))
   (.seq (.block 1 (.seq (.ops [⟨(some 13), some undefA, none, false, .pu (.mov (.s 11))⟩,
      ⟨(some 3), some undefA, none, false, .pu (.mov (.s 13))⟩])
    (.seq (.ops [⟨(some 14), some undefA, none, false, .pu (.badr none 1)⟩,
      ⟨(some 15), some undefA, none, false, .pu (.bget (some 14) 1 2 1 false)⟩,
      ⟨(some 16), some undefA, none, false, .pu (.mov (.s 3))⟩,
      ⟨(some 17), some undefA, none, false, .pu (.idx 1 (.s 15) (.s 16))⟩,
      ⟨(some 18), some undefA, none, false, .ld (.ld 1 false (.s 17))⟩,
      ⟨(some 19), some undefA, none, false, .pu (.bin .lss (.s 18) (.c (.int .i64 0)))⟩])
    (.cond (.s 19) (.ops [⟨(some 20), some undefA, none, false, .pu (.bget none 1 0 3 true)⟩,
       ⟨(some 21), some undefA, none, false, .pu (.mov (.s 3))⟩,
       ⟨(some 22), some undefA, none, false, .call 92 [(.s 20), (.s 21)]⟩])
    (.skip)))))
   (.ops [⟨(some 23), some undefA, none, false, .pu (.bin .add (.s 11) (.c (.int .i64 1)))⟩,
     ⟨(some 11), some undefA, none, false, .pu (.mov (.s 23))⟩])))))))
 (.seq (.ops [⟨(some 24), some undefA, none, false, .pu (.bget none 1 0 3 true)⟩,
   ⟨(some 2), none, none, false, .pu (.bset none 2 0 3 (.s 24))⟩])
 (.ret))))⟩
theorem t62 : trF Try.prog [1, 2] [] Try.f62 = some m62 := by kernel_rfl
/-- selion/wish.none [] -/
def m63 : MFun := ⟨10, [1, 2], [.bget none 2 0 3 true],
 .seq (.ops [⟨(some 1), some (.junk), none, false, .pu (.bnew (.s 0))⟩,
   ⟨(some 2), some (.junk), none, false, .pu (.bnew (.c (.agg [.int .i64 0, .nilS, .nilS])))⟩])
 (.seq (.ops [⟨(some 3), some undefA, none, false, .pu (.bget none 1 0 2 true)⟩,
   ⟨(some 4), some undefA, none, false, .ha (.blds 1 1 [.int .i64 0] [(0, 1, (.c (.int .i64 (-1))))])⟩,
   ⟨(some 5), some undefA, none, false, .pu (.badr none 1)⟩,
   ⟨(some 6), some undefA, none, false, .pu (.bget (some 5) 1 1 1 false)⟩,
   ⟨(some 7), some undefA, none, false, .pu (.len (.s 6))⟩,
   ⟨(some 8), some undefA, none, false, .call 93 [(.s 4), (.s 7)]⟩,
   ⟨(some 9), some undefA, none, false, .pu (.build [.int .i64 0, .nilS, .nilS] [(0, 2, (.s 3)), (2, 1, (.s 8))])⟩,
   ⟨(some 2), none, none, false, .pu (.bset none 2 0 3 (.s 9))⟩])
 (.ret))⟩
theorem t63 : trF Try.prog [1, 2] [] Try.f63 = some m63 := by kernel_rfl
/-- selion/selionref01.Within [] -/
def m64 : MFun := ⟨15, [], [.mov (.s 6)],
 .seq (.ops [⟨(some 6), some undefA, none, false, .pu (.mov (.c (.bool false)))⟩])
 (.seq (.ops [⟨(some 7), some undefA, none, false, .pu (.mov (.s 0))⟩,
   ⟨(some 8), some undefA, none, false, .pu (.mov (.s 1))⟩,
   ⟨(some 9), some undefA, none, false, .pu (.bin .geq (.s 7) (.s 8))⟩,
   ⟨(some 10), some undefA, none, false, .pu (.mov (.s 9))⟩,
   ⟨(some 11), some undefA, (some (10, true)), false, .pu (.mov (.s 0))⟩,
   ⟨(some 12), some undefA, (some (10, true)), false, .pu (.mov (.s 2))⟩,
   ⟨(some 13), some undefA, (some (10, true)), false, .pu (.bin .leq (.s 11) (.s 12))⟩,
   ⟨(some 14), some undefA, none, false, .pu (.pick (.s 10) (.s 13) (.c (.bool false)))⟩,
   ⟨(some 6), some undefA, none, false, .pu (.mov (.s 14))⟩])
 (.ret))⟩
theorem t64 : trF Try.prog [] [] Try.f64 = some m64 := by kernel_rfl
/-- selion/selionref07.has [loop [0, 1, 5]] -/
def m65 : MFun := ⟨18, [], [.mov (.s 4)],
 .seq (.ops [⟨(some 4), some undefA, none, false, .pu (.mov (.c (.bool false)))⟩])
 (.seq (.seq (.ops [⟨(some 5), some undefA, none, false, .pu (.mov (.c (.int .i64 0)))⟩])
 (.block 0 (.loop (.seq (.seq (.ops [⟨(some 6), some undefA, none, false, .pu (.mov (.s 5))⟩,
     ⟨(some 7), some undefA, none, false, .pu (.mov (.s 0))⟩,
     ⟨(some 8), some undefA, none, false, .pu (.len (.s 7))⟩,
     ⟨(some 9), some undefA, none, false, .pu (.bin .lss (.s 6) (.s 8))⟩])
   (.cond (.s 9) (.skip)
   (.exit 0)))
   (.seq (.block 1 (.seq (.ops [⟨(some 12), some undefA, none, false, .pu (.mov (.s 0))⟩,
      ⟨(some 13), some undefA, none, false, .pu (.mov (.s 5))⟩,
      ⟨(some 14), some undefA, none, false, .pu (.idx 1 (.s 12) (.s 13))⟩,
      ⟨(some 15), some undefA, none, false, .ld (.ld 1 false (.s 14))⟩,
      ⟨(some 16), some undefA, none, false, .pu (.mov (.s 1))⟩,
      ⟨(some 17), some undefA, none, false, .pu (.bin .eql (.s 15) (.s 16))⟩])
    (.cond (.s 17) (.seq (.ops [⟨(some 4), some undefA, none, false, .pu (.mov (.c (.bool true)))⟩])
     (.ret))
    (.skip))))
   (.ops [⟨(some 10), some undefA, none, false, .pu (.mov (.s 5))⟩,
     ⟨(some 11), some undefA, none, false, .pu (.bin .add (.s 10) (.c (.int .i64 1)))⟩,
     ⟨(some 5), some undefA, none, false, .pu (.mov (.s 11))⟩]))))))
 (.seq (.ops [⟨(some 4), some undefA, none, false, .pu (.mov (.c (.bool false)))⟩])
 (.ret)))⟩
theorem t65 : trF Try.prog [] [] Try.f65 = some m65 := by kernel_rfl
/-- selion/selionref07.served [loop [0, 3, 4]] -/
def m66 : MFun := ⟨19, [], [.mov (.s 2)],
 .seq (.ops [⟨(some 2), some undefA, none, false, .pu (.mov (.c (.int .i64 0)))⟩])
 (.seq (.ops [⟨(some 3), some undefA, none, false, .pu (.mov (.c (.int .i64 0)))⟩])
 (.seq (.seq (.ops [⟨(some 4), some undefA, none, false, .pu (.mov (.c (.int .i64 0)))⟩])
 (.block 0 (.loop (.seq (.seq (.ops [⟨(some 5), some undefA, none, false, .pu (.mov (.s 4))⟩,
     ⟨(some 6), some undefA, none, false, .pu (.mov (.s 0))⟩,
     ⟨(some 7), some undefA, none, false, .pu (.len (.s 6))⟩,
     ⟨(some 8), some undefA, none, false, .pu (.bin .lss (.s 5) (.s 7))⟩])
   (.cond (.s 8) (.skip)
   (.exit 0)))
   (.seq (.block 1 (.seq (.ops [⟨(some 11), some undefA, none, false, .pu (.mov (.s 0))⟩,
      ⟨(some 12), some undefA, none, false, .pu (.mov (.s 4))⟩,
      ⟨(some 13), some undefA, none, false, .pu (.idx 1 (.s 11) (.s 12))⟩,
      ⟨(some 14), some undefA, none, false, .ld (.ld 1 false (.s 13))⟩,
      ⟨(some 15), some undefA, none, false, .pu (.bin .geq (.s 14) (.c (.int .i64 0)))⟩])
    (.cond (.s 15) (.ops [⟨(some 16), some undefA, none, false, .pu (.mov (.s 3))⟩,
       ⟨(some 17), some undefA, none, false, .pu (.bin .add (.s 16) (.c (.int .i64 1)))⟩,
       ⟨(some 3), some undefA, none, false, .pu (.mov (.s 17))⟩])
    (.skip))))
   (.ops [⟨(some 9), some undefA, none, false, .pu (.mov (.s 4))⟩,
     ⟨(some 10), some undefA, none, false, .pu (.bin .add (.s 9) (.c (.int .i64 1)))⟩,
     ⟨(some 4), some undefA, none, false, .pu (.mov (.s 10))⟩]))))))
 (.seq (.ops [⟨(some 18), some undefA, none, false, .pu (.mov (.s 3))⟩,
   ⟨(some 2), some undefA, none, false, .pu (.mov (.s 18))⟩])
 (.ret))))⟩
theorem t66 : trF Try.prog [] [] Try.f66 = some m66 := by kernel_rfl
/-- slices.ContainsFunc[[]int,int] [] -/
def m69 : MFun := ⟨9, [], [.mov (.s 4)],
 .seq (.ops [⟨(some 4), some undefA, none, false, .pu (.mov (.c (.bool false)))⟩])
 (.seq (.ops [⟨(some 5), some undefA, none, false, .pu (.mov (.s 0))⟩,
   ⟨(some 6), some undefA, none, false, .pu (.mov (.s 1))⟩,
   ⟨(some 7), some undefA, none, false, .call 87 [(.s 5), (.s 6)]⟩,
   ⟨(some 8), some undefA, none, false, .pu (.bin .geq (.s 7) (.c (.int .i64 0)))⟩,
   ⟨(some 4), some undefA, none, false, .pu (.mov (.s 8))⟩])
 (.ret))⟩
theorem t69 : trF Try.prog [] [] Try.f69 = some m69 := by kernel_rfl
/-- selion/wish.CheckGiving$1 [] -/
def m70 : MFun := ⟨12, [], [.mov (.s 3)],
 .seq (.ops [⟨(some 3), some undefA, none, false, .pu (.mov (.c (.bool false)))⟩])
 (.seq (.ops [⟨(some 4), some undefA, none, false, .pu (.mov (.s 0))⟩,
   ⟨(some 5), some undefA, none, false, .pu (.bin .lss (.s 4) (.c (.int .i64 (-1))))⟩,
   ⟨(some 6), some undefA, none, false, .pu (.mov (.s 5))⟩,
   ⟨(some 7), some undefA, (some (6, false)), false, .pu (.mov (.s 0))⟩,
   ⟨(some 8), some undefA, (some (6, false)), false, .pu (.fad 0 (.s 1))⟩,
   ⟨(some 9), some undefA, (some (6, false)), false, .ld (.ld 1 false (.s 8))⟩,
   ⟨(some 10), some undefA, (some (6, false)), false, .pu (.bin .geq (.s 7) (.s 9))⟩,
   ⟨(some 11), some undefA, none, false, .pu (.pick (.s 6) (.c (.bool true)) (.s 10))⟩,
   ⟨(some 3), some undefA, none, false, .pu (.mov (.s 11))⟩])
 (.ret))⟩
theorem t70 : trF Try.prog [] [] Try.f70 = some m70 := by kernel_rfl
/-- slices.Contains[[]int,int] [] -/
def m71 : MFun := ⟨9, [], [.mov (.s 4)],
 .seq (.ops [⟨(some 4), some undefA, none, false, .pu (.mov (.c (.bool false)))⟩])
 (.seq (.ops [⟨(some 5), some undefA, none, false, .pu (.mov (.s 0))⟩,
   ⟨(some 6), some undefA, none, false, .pu (.mov (.s 1))⟩,
   ⟨(some 7), some undefA, none, false, .call 94 [(.s 5), (.s 6)]⟩,
   ⟨(some 8), some undefA, none, false, .pu (.bin .geq (.s 7) (.c (.int .i64 0)))⟩,
   ⟨(some 4), some undefA, none, false, .pu (.mov (.s 8))⟩])
 (.ret))⟩
theorem t71 : trF Try.prog [] [] Try.f71 = some m71 := by kernel_rfl
/-- selion/wish.count [loop [2, 5, 11, 12, 13]] -/
def m72 : MFun := ⟨34, [2], [.mov (.s 4)],
 .seq (.ops [⟨(some 2), some (.junk), none, false, .pu (.bnew (.s 0))⟩,
   ⟨(some 4), some undefA, none, false, .pu (.mov (.c (.nilS)))⟩])
 (.seq (.ops [⟨(some 8), some undefA, none, false, .pu (.badr none 2)⟩,
   ⟨(some 9), some undefA, none, false, .pu (.bget (some 8) 2 0 1 false)⟩,
   ⟨(some 10), some undefA, none, false, .ha (.mks 1 [.int .i64 0] (.s 9) (.s 9))⟩,
   ⟨(some 5), some undefA, none, false, .pu (.mov (.s 10))⟩])
 (.seq (.seq (.ops [⟨(some 11), some undefA, none, false, .pu (.mov (.s 1))⟩,
   ⟨(some 12), some undefA, none, false, .pu (.len (.s 11))⟩,
   ⟨(some 13), some undefA, none, false, .pu (.mov (.c (.int .i64 0)))⟩])
 (.block 0 (.loop (.seq (.ops [⟨(some 14), some undefA, none, false, .pu (.bin .lss (.s 13) (.s 12))⟩])
   (.seq (.cond (.s 14) (.skip)
   (.exit 0))
   (.seq (.block 1 (.seq (.ops [⟨(some 15), some undefA, none, false, .pu (.mov (.s 13))⟩,
      ⟨(some 16), some undefA, none, false, .pu (.idx 1 (.s 11) (.s 13))⟩,
      ⟨(some 17), some undefA, none, false, .ld (.ld 1 false (.s 16))⟩,
      ⟨(some 6), some undefA, none, false, .pu (.mov (.s 15))⟩,
      ⟨(some 7), some undefA, none, false, .pu (.mov (.s 17))⟩])
    (.seq (.ops [⟨(some 18), some undefA, none, false, .pu (.mov (.s 7))⟩,
      ⟨(some 19), some undefA, none, false, .pu (.bin .geq (.s 18) (.c (.int .i64 0)))⟩])
    (.cond (.s 19) (.ops [⟨(some 20), some undefA, none, false, .pu (.mov (.s 5))⟩,
       ⟨(some 21), some undefA, none, false, .pu (.badr none 2)⟩,
       ⟨(some 22), some undefA, none, false, .pu (.bget (some 21) 2 1 1 false)⟩,
       ⟨(some 23), some undefA, none, false, .pu (.mov (.s 6))⟩,
       ⟨(some 24), some undefA, none, false, .pu (.idx 1 (.s 22) (.s 23))⟩,
       ⟨(some 25), some undefA, none, false, .ld (.ld 1 false (.s 24))⟩,
       ⟨(some 26), some undefA, none, false, .pu (.mov (.s 7))⟩,
       ⟨(some 27), some undefA, none, false, .call 94 [(.s 25), (.s 26)]⟩,
       ⟨(some 28), some undefA, none, false, .pu (.idx 1 (.s 20) (.s 27))⟩,
       ⟨(some 29), some undefA, none, false, .ld (.ld 1 false (.s 28))⟩,
       ⟨(some 30), some undefA, none, false, .pu (.bin .add (.s 29) (.c (.int .i64 1)))⟩,
       ⟨(some 31), some undefA, none, false, .pu (.idx 1 (.s 20) (.s 27))⟩,
       ⟨none, some undefA, none, false, .ha (.st 1 (.s 31) (.s 30))⟩])
    (.skip)))))
   (.ops [⟨(some 32), some undefA, none, false, .pu (.bin .add (.s 13) (.c (.int .i64 1)))⟩,
     ⟨(some 13), some undefA, none, false, .pu (.mov (.s 32))⟩])))))))
 (.seq (.ops [⟨(some 33), some undefA, none, false, .pu (.mov (.s 5))⟩,
   ⟨(some 4), some undefA, none, false, .pu (.mov (.s 33))⟩])
 (.ret))))⟩
theorem t72 : trF Try.prog [2] [] Try.f72 = some m72 := by kernel_rfl
/-- selion/wish.isPlaces [] -/
def m73 : MFun := ⟨9, [], [.mov (.s 4)],
 .seq (.ops [⟨(some 3), some undefA, none, false, .ha (.newv (.s 1))⟩,
   ⟨(some 4), some undefA, none, false, .pu (.mov (.c (.bool false)))⟩])
 (.seq (.ops [⟨(some 5), some undefA, none, false, .pu (.mov (.s 0))⟩,
   ⟨(some 6), some undefA, none, false, .pu (.mkf 95 [(.s 3)])⟩,
   ⟨(some 7), some undefA, none, false, .call 69 [(.s 5), (.s 6)]⟩,
   ⟨(some 8), some undefA, none, false, .pu (.not (.s 7))⟩,
   ⟨(some 4), some undefA, none, false, .pu (.mov (.s 8))⟩])
 (.ret))⟩
theorem t73 : trF Try.prog [] [] Try.f73 = some m73 := by kernel_rfl
/-- selion/wish.chosen [] -/
def m74 : MFun := ⟨17, [2], [.mov (.s 4)],
 .seq (.ops [⟨(some 2), some (.junk), none, false, .pu (.bnew (.s 0))⟩,
   ⟨(some 4), some undefA, none, false, .pu (.mov (.c (.int .i64 0)))⟩])
 (.seq (.seq (.ops [⟨(some 6), some undefA, none, false, .pu (.bget none 2 0 2 true)⟩,
   ⟨(some 7), some undefA, none, false, .call 39 [(.s 6)]⟩,
   ⟨(some 5), some undefA, none, false, .pu (.mov (.s 7))⟩])
 (.seq (.ops [⟨(some 8), some undefA, none, false, .pu (.mov (.s 5))⟩,
   ⟨(some 9), some undefA, none, false, .pu (.bin .neq (.s 8) (.c (.int .i64 0)))⟩])
 (.cond (.s 9) (.seq (.ops [⟨(some 10), some undefA, none, false, .pu (.mov (.s 5))⟩,
    ⟨(some 4), some undefA, none, false, .pu (.mov (.s 10))⟩])
  (.ret))
 (.skip))))
 (.seq (.seq (.ops [⟨(some 11), some undefA, none, false, .pu (.mov (.s 1))⟩,
   ⟨(some 12), some undefA, none, false, .pu (.badr none 2)⟩,
   ⟨(some 13), some undefA, none, false, .pu (.bget (some 12) 2 1 1 false)⟩,
   ⟨(some 14), some undefA, none, false, .pu (.len (.s 13))⟩,
   ⟨(some 15), some undefA, none, false, .call 78 [(.s 11), (.s 14)]⟩,
   ⟨(some 16), some undefA, none, false, .pu (.not (.s 15))⟩])
 (.cond (.s 16) (.seq (.ops [⟨(some 4), some undefA, none, false, .pu (.mov (.c (.int .i64 1)))⟩])
  (.ret))
 (.skip)))
 (.seq (.ops [⟨(some 4), some undefA, none, false, .pu (.mov (.c (.int .i64 0)))⟩])
 (.ret))))⟩
theorem t74 : trF Try.prog [2] [] Try.f74 = some m74 := by kernel_rfl
/-- selion/wish.union [loop [1, 2, 5, 8, 9]] -/
def m75 : MFun := ⟨21, [], [.mov (.s 4)],
 .seq (.ops [⟨(some 2), some undefA, none, false, .ha (.newv (.s 0))⟩,
   ⟨(some 4), some undefA, none, false, .pu (.mov (.c (.nilS)))⟩])
 (.seq (.ops [⟨(some 5), some undefA, none, false, .pu (.mov (.c (.nilS)))⟩])
 (.seq (.seq (.ops [⟨(some 7), some undefA, none, false, .pu (.fad 0 (.s 2))⟩,
   ⟨(some 8), some undefA, none, false, .ld (.ld 1 false (.s 7))⟩,
   ⟨(some 9), some undefA, none, false, .pu (.mov (.c (.int .i64 0)))⟩])
 (.block 0 (.loop (.seq (.ops [⟨(some 10), some undefA, none, false, .pu (.bin .lss (.s 9) (.s 8))⟩])
   (.seq (.cond (.s 10) (.skip)
   (.exit 0))
   (.seq (.block 1 (.seq (.ops [⟨(some 11), some undefA, none, false, .pu (.mov (.s 9))⟩,
      ⟨(some 6), some undefA, none, false, .ha (.newv (.c (.int .i64 0)))⟩,
      ⟨none, some undefA, none, false, .ha (.st 1 (.s 6) (.s 11))⟩])
    (.seq (.ops [⟨(some 12), some undefA, none, false, .pu (.mov (.s 1))⟩,
      ⟨(some 13), some undefA, none, false, .pu (.mkf 96 [(.s 2), (.s 6)])⟩,
      ⟨(some 14), some undefA, none, false, .call 69 [(.s 12), (.s 13)]⟩])
    (.cond (.s 14) (.ops [⟨(some 15), some undefA, none, false, .pu (.mov (.s 5))⟩,
       ⟨(some 16), some undefA, none, false, .ld (.ld 1 false (.s 6))⟩,
       ⟨(some 17), some undefA, none, false, .ha (.blds 1 1 [.int .i64 0] [(0, 1, (.s 16))])⟩,
       ⟨(some 18), some undefA, none, false, .ha (.app 1 (.s 15) (.s 17))⟩,
       ⟨(some 5), some undefA, none, false, .pu (.mov (.s 18))⟩])
    (.skip)))))
   (.ops [⟨(some 19), some undefA, none, false, .pu (.bin .add (.s 9) (.c (.int .i64 1)))⟩,
     ⟨(some 9), some undefA, none, false, .pu (.mov (.s 19))⟩])))))))
 (.seq (.ops [⟨(some 20), some undefA, none, false, .pu (.mov (.s 5))⟩,
   ⟨(some 4), some undefA, none, false, .pu (.mov (.s 20))⟩])
 (.ret))))⟩
theorem t75 : trF Try.prog [] [] Try.f75 = some m75 := by kernel_rfl
/-- selion/wish.isSet [loop [0, 1, 5]] -/
def m78 : MFun := ⟨25, [], [.mov (.s 4)],
 .seq (.ops [⟨(some 4), some undefA, none, false, .pu (.mov (.c (.bool false)))⟩])
 (.seq (.seq (.ops [⟨(some 5), some undefA, none, false, .pu (.mov (.c (.int .i64 1)))⟩])
 (.block 0 (.loop (.seq (.seq (.ops [⟨(some 6), some undefA, none, false, .pu (.mov (.s 5))⟩,
     ⟨(some 7), some undefA, none, false, .pu (.mov (.s 0))⟩,
     ⟨(some 8), some undefA, none, false, .pu (.len (.s 7))⟩,
     ⟨(some 9), some undefA, none, false, .pu (.bin .lss (.s 6) (.s 8))⟩])
   (.cond (.s 9) (.skip)
   (.exit 0)))
   (.seq (.block 1 (.seq (.ops [⟨(some 12), some undefA, none, true, .pu (.mov (.s 0))⟩,
      ⟨(some 13), some undefA, none, true, .pu (.mov (.s 5))⟩,
      ⟨(some 14), some undefA, none, true, .pu (.bin .sub (.s 13) (.c (.int .i64 1)))⟩,
      ⟨(some 15), some undefA, none, true, .pu (.idx 1 (.s 12) (.s 14))⟩,
      ⟨(some 16), some undefA, none, true, .ld (.ld 1 false (.s 15))⟩,
      ⟨(some 17), some undefA, none, true, .pu (.mov (.s 0))⟩,
      ⟨(some 18), some undefA, none, true, .pu (.mov (.s 5))⟩,
      ⟨(some 19), some undefA, none, true, .pu (.idx 1 (.s 17) (.s 18))⟩,
      ⟨(some 20), some undefA, none, true, .ld (.ld 1 false (.s 19))⟩,
      ⟨(some 21), some undefA, none, false, .pu (.bin .geq (.s 16) (.s 20))⟩])
    (.cond (.s 21) (.seq (.ops [⟨(some 4), some undefA, none, false, .pu (.mov (.c (.bool false)))⟩])
     (.ret))
    (.skip))))
   (.ops [⟨(some 10), some undefA, none, false, .pu (.mov (.s 5))⟩,
     ⟨(some 11), some undefA, none, false, .pu (.bin .add (.s 10) (.c (.int .i64 1)))⟩,
     ⟨(some 5), some undefA, none, false, .pu (.mov (.s 11))⟩]))))))
 (.seq (.ops [⟨(some 22), some undefA, none, false, .pu (.mov (.s 0))⟩,
   ⟨(some 23), some undefA, none, false, .pu (.mov (.s 1))⟩,
   ⟨(some 24), some undefA, none, false, .call 73 [(.s 22), (.s 23)]⟩,
   ⟨(some 4), some undefA, none, false, .pu (.mov (.s 24))⟩])
 (.ret)))⟩
theorem t78 : trF Try.prog [] [] Try.f78 = some m78 := by kernel_rfl
/-- selion/wish.CheckCover$1 [] -/
def m79 : MFun := ⟨8, [], [.mov (.s 3)],
 .seq (.ops [⟨(some 3), some undefA, none, false, .pu (.mov (.c (.bool false)))⟩])
 (.seq (.ops [⟨(some 4), some undefA, none, false, .ld (.ld 1 false (.s 1))⟩,
   ⟨(some 5), some undefA, none, false, .pu (.mov (.s 0))⟩,
   ⟨(some 6), some undefA, none, false, .call 71 [(.s 4), (.s 5)]⟩,
   ⟨(some 7), some undefA, none, false, .pu (.not (.s 6))⟩,
   ⟨(some 3), some undefA, none, false, .pu (.mov (.s 7))⟩])
 (.ret))⟩
theorem t79 : trF Try.prog [] [] Try.f79 = some m79 := by kernel_rfl
/-- selion/wish.stuck [loop [1, 3, 4, 23, 24, 25], loop [1, 3, 4, 7], loop [1, 3, 4, 7, 38, 39, 40], loop [1, 3, 4, 7, 8, 38, 39, 40, 45, 46, 47], loop [4, 13, 75, 76]] -/
def m80 : MFun := ⟨89, [1, 3], [.mov (.s 2)],
 .seq (.ops [⟨(some 1), some (.junk), none, false, .pu (.bnew (.s 0))⟩,
   ⟨(some 2), some undefA, none, false, .pu (.mov (.c (.nilS)))⟩])
 (.seq (.ops [⟨(some 15), some undefA, none, false, .pu (.bget none 1 0 2 true)⟩,
   ⟨(some 16), some undefA, none, false, .call 63 [(.s 15)]⟩,
   ⟨(some 17), some undefA, none, false, .call 62 [(.s 16)]⟩,
   ⟨(some 3), some (.junk), none, false, .pu (.bnew (.c (.agg [.int .i64 0, .nilS, .nilS])))⟩,
   ⟨(some 3), none, none, false, .pu (.bset none 3 0 3 (.s 17))⟩])
 (.seq (.ops [⟨(some 18), some undefA, none, false, .pu (.badr none 1)⟩,
   ⟨(some 19), some undefA, none, false, .pu (.bget (some 18) 1 1 1 false)⟩,
   ⟨(some 20), some undefA, none, false, .pu (.len (.s 19))⟩,
   ⟨(some 21), some undefA, none, false, .ha (.mks 1 [.bool false] (.s 20) (.s 20))⟩,
   ⟨(some 4), some undefA, none, false, .pu (.mov (.s 21))⟩])
 (.seq (.seq (.ops [⟨(some 22), some undefA, none, false, .pu (.badr none 3)⟩,
   ⟨(some 23), some undefA, none, false, .pu (.bget (some 22) 3 2 1 false)⟩,
   ⟨(some 24), some undefA, none, false, .pu (.len (.s 23))⟩,
   ⟨(some 25), some undefA, none, false, .pu (.mov (.c (.int .i64 0)))⟩])
 (.block 0 (.loop (.seq (.ops [⟨(some 26), some undefA, none, false, .pu (.bin .lss (.s 25) (.s 24))⟩])
   (.seq (.cond (.s 26) (.skip)
   (.exit 0))
   (.seq (.block 1 (.seq (.ops [⟨(some 27), some undefA, none, false, .pu (.mov (.s 25))⟩,
      ⟨(some 28), some undefA, none, false, .pu (.idx 1 (.s 23) (.s 25))⟩,
      ⟨(some 29), some undefA, none, false, .ld (.ld 1 false (.s 28))⟩,
      ⟨(some 5), some undefA, none, false, .pu (.mov (.s 27))⟩,
      ⟨(some 6), some undefA, none, false, .pu (.mov (.s 29))⟩])
    (.ops [⟨(some 30), some undefA, none, false, .pu (.mov (.s 4))⟩,
      ⟨(some 31), some undefA, none, false, .pu (.mov (.s 5))⟩,
      ⟨(some 32), some undefA, none, false, .pu (.mov (.s 6))⟩,
      ⟨(some 33), some undefA, none, false, .pu (.bin .lss (.s 32) (.c (.int .i64 0)))⟩,
      ⟨(some 34), some undefA, none, false, .pu (.idx 1 (.s 30) (.s 31))⟩,
      ⟨none, some undefA, none, false, .ha (.st 1 (.s 34) (.s 33))⟩])))
   (.ops [⟨(some 35), some undefA, none, false, .pu (.bin .add (.s 25) (.c (.int .i64 1)))⟩,
     ⟨(some 25), some undefA, none, false, .pu (.mov (.s 35))⟩])))))))
 (.seq (.seq (.ops [⟨(some 7), some undefA, none, false, .pu (.mov (.c (.bool true)))⟩])
 (.block 2 (.loop (.seq (.seq (.ops [⟨(some 36), some undefA, none, false, .pu (.mov (.s 7))⟩])
   (.cond (.s 36) (.skip)
   (.exit 2)))
   (.block 3 (.seq (.ops [⟨(some 7), some undefA, none, false, .pu (.mov (.c (.bool false)))⟩])
    (.seq (.ops [⟨(some 37), some undefA, none, false, .pu (.badr none 1)⟩,
      ⟨(some 38), some undefA, none, false, .pu (.bget (some 37) 1 1 1 false)⟩,
      ⟨(some 39), some undefA, none, false, .pu (.len (.s 38))⟩,
      ⟨(some 40), some undefA, none, false, .pu (.mov (.c (.int .i64 0)))⟩])
    (.block 4 (.loop (.seq (.ops [⟨(some 41), some undefA, none, false, .pu (.bin .lss (.s 40) (.s 39))⟩])
      (.seq (.cond (.s 41) (.skip)
      (.exit 4))
      (.seq (.block 5 (.seq (.ops [⟨(some 42), some undefA, none, false, .pu (.mov (.s 40))⟩,
         ⟨(some 43), some undefA, none, false, .pu (.idx 1 (.s 38) (.s 40))⟩,
         ⟨(some 44), some undefA, none, false, .ld (.ld 1 false (.s 43))⟩,
         ⟨(some 8), some undefA, none, false, .pu (.mov (.s 42))⟩,
         ⟨(some 9), some undefA, none, false, .pu (.mov (.s 44))⟩])
       (.seq (.ops [⟨(some 45), some undefA, none, false, .pu (.mov (.s 9))⟩,
         ⟨(some 46), some undefA, none, false, .pu (.len (.s 45))⟩,
         ⟨(some 47), some undefA, none, false, .pu (.mov (.c (.int .i64 0)))⟩])
       (.block 6 (.loop (.seq (.ops [⟨(some 48), some undefA, none, false, .pu (.bin .lss (.s 47) (.s 46))⟩])
         (.seq (.cond (.s 48) (.skip)
         (.exit 6))
         (.seq (.block 7 (.seq (.ops [⟨(some 49), some undefA, none, false, .pu (.idx 1 (.s 45) (.s 47))⟩,
            ⟨(some 50), some undefA, none, false, .ld (.ld 1 false (.s 49))⟩,
            ⟨(some 11), some undefA, none, false, .pu (.mov (.s 50))⟩])
          (.seq (.ops [⟨(some 51), some undefA, none, false, .pu (.bget none 3 0 3 true)⟩,
            ⟨(some 52), some undefA, none, false, .pu (.mov (.s 11))⟩,
            ⟨(some 53), some undefA, none, false, .call 89 [(.s 51), (.s 52)]⟩,
            ⟨(some 12), some undefA, none, false, .pu (.mov (.s 53))⟩])
          (.seq (.ops [⟨(some 54), some undefA, none, false, .pu (.mov (.s 4))⟩,
            ⟨(some 55), some undefA, none, false, .pu (.mov (.s 8))⟩,
            ⟨(some 56), some undefA, none, false, .pu (.idx 1 (.s 54) (.s 55))⟩,
            ⟨(some 57), some undefA, none, false, .ld (.ld 1 false (.s 56))⟩,
            ⟨(some 58), some undefA, none, false, .pu (.mov (.s 57))⟩,
            ⟨(some 59), some undefA, (some (58, true)), false, .pu (.mov (.s 12))⟩,
            ⟨(some 60), some undefA, (some (58, true)), false, .pu (.bin .geq (.s 59) (.c (.int .i64 0)))⟩,
            ⟨(some 61), some undefA, none, false, .pu (.pick (.s 58) (.s 60) (.c (.bool false)))⟩,
            ⟨(some 62), some undefA, none, false, .pu (.mov (.s 61))⟩,
            ⟨(some 63), some undefA, (some (62, true)), false, .pu (.mov (.s 4))⟩,
            ⟨(some 64), some undefA, (some (62, true)), false, .pu (.mov (.s 12))⟩,
            ⟨(some 65), some undefA, (some (62, true)), false, .pu (.idx 1 (.s 63) (.s 64))⟩,
            ⟨(some 66), some undefA, (some (62, true)), false, .ld (.ld 1 false (.s 65))⟩,
            ⟨(some 67), some undefA, (some (62, true)), false, .pu (.not (.s 66))⟩,
            ⟨(some 68), some undefA, none, false, .pu (.pick (.s 62) (.s 67) (.c (.bool false)))⟩])
          (.cond (.s 68) (.seq (.ops [⟨(some 69), some undefA, none, false, .pu (.mov (.s 4))⟩,
             ⟨(some 70), some undefA, none, false, .pu (.mov (.s 12))⟩,
             ⟨(some 71), some undefA, none, false, .pu (.idx 1 (.s 69) (.s 70))⟩,
             ⟨none, some undefA, none, false, .ha (.st 1 (.s 71) (.c (.bool true)))⟩])
           (.ops [⟨(some 7), some undefA, none, false, .pu (.mov (.c (.bool true)))⟩]))
          (.skip))))))
         (.ops [⟨(some 72), some undefA, none, false, .pu (.bin .add (.s 47) (.c (.int .i64 1)))⟩,
           ⟨(some 47), some undefA, none, false, .pu (.mov (.s 72))⟩])))))))))
      (.ops [⟨(some 73), some undefA, none, false, .pu (.bin .add (.s 40) (.c (.int .i64 1)))⟩,
        ⟨(some 40), some undefA, none, false, .pu (.mov (.s 73))⟩])))))))))))))
 (.seq (.ops [⟨(some 13), some undefA, none, false, .pu (.mov (.c (.nilS)))⟩])
 (.seq (.seq (.ops [⟨(some 74), some undefA, none, false, .pu (.mov (.s 4))⟩,
   ⟨(some 75), some undefA, none, false, .pu (.len (.s 74))⟩,
   ⟨(some 76), some undefA, none, false, .pu (.mov (.c (.int .i64 0)))⟩])
 (.block 8 (.loop (.seq (.ops [⟨(some 77), some undefA, none, false, .pu (.bin .lss (.s 76) (.s 75))⟩])
   (.seq (.cond (.s 77) (.skip)
   (.exit 8))
   (.seq (.block 9 (.seq (.ops [⟨(some 78), some undefA, none, false, .pu (.mov (.s 76))⟩,
      ⟨(some 14), some undefA, none, false, .pu (.mov (.s 78))⟩])
    (.seq (.ops [⟨(some 79), some undefA, none, false, .pu (.mov (.s 4))⟩,
      ⟨(some 80), some undefA, none, false, .pu (.mov (.s 14))⟩,
      ⟨(some 81), some undefA, none, false, .pu (.idx 1 (.s 79) (.s 80))⟩,
      ⟨(some 82), some undefA, none, false, .ld (.ld 1 false (.s 81))⟩])
    (.cond (.s 82) (.ops [⟨(some 83), some undefA, none, false, .pu (.mov (.s 13))⟩,
       ⟨(some 84), some undefA, none, false, .pu (.mov (.s 14))⟩,
       ⟨(some 85), some undefA, none, false, .ha (.blds 1 1 [.int .i64 0] [(0, 1, (.s 84))])⟩,
       ⟨(some 86), some undefA, none, false, .ha (.app 1 (.s 83) (.s 85))⟩,
       ⟨(some 13), some undefA, none, false, .pu (.mov (.s 86))⟩])
    (.skip)))))
   (.ops [⟨(some 87), some undefA, none, false, .pu (.bin .add (.s 76) (.c (.int .i64 1)))⟩,
     ⟨(some 76), some undefA, none, false, .pu (.mov (.s 87))⟩])))))))
 (.seq (.ops [⟨(some 88), some undefA, none, false, .pu (.mov (.s 13))⟩,
   ⟨(some 2), some undefA, none, false, .pu (.mov (.s 88))⟩])
 (.ret))))))))⟩
theorem t80 : trF Try.prog [1, 3] [] Try.f80 = some m80 := by kernel_rfl
/-- selion/wish.Happiest$1 [loop [0, 1, 2, 5, 32, 33, 34]] -/
def m81 : MFun := ⟨65, [], [],
 .seq (.seq (.ops [⟨(some 10), some undefA, none, false, .pu (.mov (.s 0))⟩,
   ⟨(some 11), some undefA, none, false, .ld (.ld 1 false (.s 2))⟩,
   ⟨(some 12), some undefA, none, false, .pu (.len (.s 11))⟩,
   ⟨(some 13), some undefA, none, false, .pu (.bin .eql (.s 10) (.s 12))⟩])
 (.cond (.s 13) (.seq (.seq (.ops [⟨(some 14), some undefA, none, true, .ld (.ld 1 false (.s 3))⟩,
    ⟨(some 15), some undefA, none, false, .pu (.isnil false (.s 14))⟩,
    ⟨(some 16), some undefA, none, false, .pu (.mov (.s 15))⟩,
    ⟨(some 17), some undefA, (some (16, false)), true, .ld (.ld 2 true (.s 4))⟩,
    ⟨(some 18), some undefA, (some (16, false)), true, .ld (.ld 1 false (.s 2))⟩,
    ⟨(some 19), some undefA, (some (16, false)), true, .call 72 [(.s 17), (.s 18)]⟩,
    ⟨(some 20), some undefA, (some (16, false)), true, .ld (.ld 2 true (.s 4))⟩,
    ⟨(some 21), some undefA, (some (16, false)), true, .ld (.ld 1 false (.s 3))⟩,
    ⟨(some 22), some undefA, (some (16, false)), false, .call 72 [(.s 20), (.s 21)]⟩,
    ⟨(some 23), some undefA, (some (16, false)), false, .call 82 [(.s 19), (.s 22)]⟩,
    ⟨(some 24), some undefA, (some (16, false)), false, .pu (.bin .gtr (.s 23) (.c (.int .i64 0)))⟩,
    ⟨(some 25), some undefA, none, false, .pu (.pick (.s 16) (.c (.bool true)) (.s 24))⟩])
  (.cond (.s 25) (.ops [⟨(some 26), some undefA, none, false, .ld (.ld 1 false (.s 2))⟩,
     ⟨(some 27), some undefA, none, false, .call 83 [(.s 26)]⟩,
     ⟨none, some undefA, none, false, .ha (.st 1 (.s 3) (.s 27))⟩])
  (.skip)))
  (.ret))
 (.skip)))
 (.seq (.seq (.ops [⟨(some 28), some undefA, none, false, .pu (.fad 1 (.s 4))⟩,
   ⟨(some 29), some undefA, none, false, .ld (.ld 1 false (.s 28))⟩,
   ⟨(some 30), some undefA, none, false, .pu (.mov (.s 0))⟩,
   ⟨(some 31), some undefA, none, false, .pu (.idx 1 (.s 29) (.s 30))⟩,
   ⟨(some 32), some undefA, none, false, .ld (.ld 1 false (.s 31))⟩,
   ⟨(some 33), some undefA, none, false, .pu (.len (.s 32))⟩,
   ⟨(some 34), some undefA, none, false, .pu (.mov (.c (.int .i64 0)))⟩])
 (.block 0 (.loop (.seq (.ops [⟨(some 35), some undefA, none, false, .pu (.bin .lss (.s 34) (.s 33))⟩])
   (.seq (.cond (.s 35) (.skip)
   (.exit 0))
   (.seq (.block 1 (.seq (.ops [⟨(some 36), some undefA, none, false, .pu (.idx 1 (.s 32) (.s 34))⟩,
      ⟨(some 37), some undefA, none, false, .ld (.ld 1 false (.s 36))⟩,
      ⟨(some 9), some undefA, none, false, .pu (.mov (.s 37))⟩])
    (.seq (.ops [⟨(some 38), some undefA, none, false, .ld (.ld 1 false (.s 2))⟩,
      ⟨(some 39), some undefA, none, false, .pu (.mov (.s 0))⟩,
      ⟨(some 40), some undefA, none, false, .pu (.slc 1 (.s 38) none (some (.s 39)) none)⟩,
      ⟨(some 41), some undefA, none, false, .pu (.mov (.s 9))⟩,
      ⟨(some 42), some undefA, none, false, .call 71 [(.s 40), (.s 41)]⟩,
      ⟨(some 43), some undefA, none, false, .pu (.not (.s 42))⟩])
    (.cond (.s 43) (.seq (.ops [⟨(some 44), some undefA, none, false, .ld (.ld 1 false (.s 2))⟩,
       ⟨(some 45), some undefA, none, false, .pu (.mov (.s 0))⟩,
       ⟨(some 46), some undefA, none, false, .pu (.mov (.s 9))⟩,
       ⟨(some 47), some undefA, none, false, .pu (.idx 1 (.s 44) (.s 45))⟩,
       ⟨none, some undefA, none, false, .ha (.st 1 (.s 47) (.s 46))⟩])
     (.ops [⟨(some 48), some undefA, none, false, .ld (.ld 1 false (.s 5))⟩,
       ⟨(some 49), some undefA, none, false, .pu (.mov (.s 0))⟩,
       ⟨(some 50), some undefA, none, false, .pu (.bin .add (.s 49) (.c (.int .i64 1)))⟩,
       ⟨(some 51), some undefA, none, false, .pu (.mov (.s 1))⟩,
       ⟨(some 52), some undefA, none, false, .callv (.s 48) [(.s 50), (.s 51)]⟩]))
    (.skip)))))
   (.ops [⟨(some 53), some undefA, none, false, .pu (.bin .add (.s 34) (.c (.int .i64 1)))⟩,
     ⟨(some 34), some undefA, none, false, .pu (.mov (.s 53))⟩])))))))
 (.seq (.ops [⟨(some 54), some undefA, none, false, .ld (.ld 1 false (.s 2))⟩,
   ⟨(some 55), some undefA, none, false, .pu (.mov (.s 0))⟩,
   ⟨(some 56), some undefA, none, false, .pu (.idx 1 (.s 54) (.s 55))⟩,
   ⟨none, some undefA, none, false, .ha (.st 1 (.s 56) (.c (.int .i64 (-1))))⟩])
 (.seq (.ops [⟨(some 57), some undefA, none, false, .pu (.mov (.s 1))⟩,
   ⟨(some 58), some undefA, none, false, .pu (.bin .gtr (.s 57) (.c (.int .i64 0)))⟩])
 (.cond (.s 58) (.ops [⟨(some 59), some undefA, none, false, .ld (.ld 1 false (.s 5))⟩,
    ⟨(some 60), some undefA, none, false, .pu (.mov (.s 0))⟩,
    ⟨(some 61), some undefA, none, false, .pu (.bin .add (.s 60) (.c (.int .i64 1)))⟩,
    ⟨(some 62), some undefA, none, false, .pu (.mov (.s 1))⟩,
    ⟨(some 63), some undefA, none, false, .pu (.bin .sub (.s 62) (.c (.int .i64 1)))⟩,
    ⟨(some 64), some undefA, none, false, .callv (.s 59) [(.s 61), (.s 63)]⟩])
 (.skip)))))⟩
theorem t81 : trF Try.prog [] [] Try.f81 = some m81 := by kernel_rfl
/-- slices.Compare[[]int,int] [loop [0, 1, 9, 10, 11]] -/
def m82 : MFun := ⟨36, [], [.mov (.s 4)],
 .seq (.ops [⟨(some 4), some undefA, none, false, .pu (.mov (.c (.int .i64 0)))⟩])
 (.seq (.seq (.ops [⟨(some 9), some undefA, none, false, .pu (.mov (.s 0))⟩,
   ⟨(some 10), some undefA, none, false, .pu (.len (.s 9))⟩,
   ⟨(some 11), some undefA, none, false, .pu (.mov (.c (.int .i64 0)))⟩])
 (.block 0 (.loop (.seq (.ops [⟨(some 12), some undefA, none, false, .pu (.bin .lss (.s 11) (.s 10))⟩])
   (.seq (.cond (.s 12) (.skip)
   (.exit 0))
   (.seq (.block 1 (.seq (.ops [⟨(some 13), some undefA, none, false, .pu (.mov (.s 11))⟩,
      ⟨(some 14), some undefA, none, false, .pu (.idx 1 (.s 9) (.s 11))⟩,
      ⟨(some 15), some undefA, none, false, .ld (.ld 1 false (.s 14))⟩,
      ⟨(some 5), some undefA, none, false, .pu (.mov (.s 13))⟩,
      ⟨(some 6), some undefA, none, false, .pu (.mov (.s 15))⟩])
    (.seq (.seq (.ops [⟨(some 16), some undefA, none, false, .pu (.mov (.s 5))⟩,
      ⟨(some 17), some undefA, none, false, .pu (.mov (.s 1))⟩,
      ⟨(some 18), some undefA, none, false, .pu (.len (.s 17))⟩,
      ⟨(some 19), some undefA, none, false, .pu (.bin .geq (.s 16) (.s 18))⟩])
    (.cond (.s 19) (.seq (.ops [⟨(some 4), some undefA, none, false, .pu (.mov (.c (.int .i64 1)))⟩])
     (.ret))
    (.skip)))
    (.seq (.ops [⟨(some 20), some undefA, none, false, .pu (.mov (.s 1))⟩,
      ⟨(some 21), some undefA, none, false, .pu (.mov (.s 5))⟩,
      ⟨(some 22), some undefA, none, false, .pu (.idx 1 (.s 20) (.s 21))⟩,
      ⟨(some 23), some undefA, none, false, .ld (.ld 1 false (.s 22))⟩,
      ⟨(some 7), some undefA, none, false, .pu (.mov (.s 23))⟩])
    (.seq (.ops [⟨(some 24), some undefA, none, false, .pu (.mov (.s 6))⟩,
      ⟨(some 25), some undefA, none, false, .pu (.mov (.s 7))⟩,
      ⟨(some 26), some undefA, none, false, .call 97 [(.s 24), (.s 25)]⟩,
      ⟨(some 8), some undefA, none, false, .pu (.mov (.s 26))⟩])
    (.seq (.ops [⟨(some 27), some undefA, none, false, .pu (.mov (.s 8))⟩,
      ⟨(some 28), some undefA, none, false, .pu (.bin .neq (.s 27) (.c (.int .i64 0)))⟩])
    (.cond (.s 28) (.seq (.ops [⟨(some 29), some undefA, none, false, .pu (.mov (.s 8))⟩,
       ⟨(some 4), some undefA, none, false, .pu (.mov (.s 29))⟩])
     (.ret))
    (.skip))))))))
   (.ops [⟨(some 30), some undefA, none, false, .pu (.bin .add (.s 11) (.c (.int .i64 1)))⟩,
     ⟨(some 11), some undefA, none, false, .pu (.mov (.s 30))⟩])))))))
 (.seq (.seq (.ops [⟨(some 31), some undefA, none, false, .pu (.mov (.s 0))⟩,
   ⟨(some 32), some undefA, none, false, .pu (.len (.s 31))⟩,
   ⟨(some 33), some undefA, none, false, .pu (.mov (.s 1))⟩,
   ⟨(some 34), some undefA, none, false, .pu (.len (.s 33))⟩,
   ⟨(some 35), some undefA, none, false, .pu (.bin .lss (.s 32) (.s 34))⟩])
 (.cond (.s 35) (.seq (.ops [⟨(some 4), some undefA, none, false, .pu (.mov (.c (.int .i64 (-1))))⟩])
  (.ret))
 (.skip)))
 (.seq (.ops [⟨(some 4), some undefA, none, false, .pu (.mov (.c (.int .i64 0)))⟩])
 (.ret))))⟩
theorem t82 : trF Try.prog [] [] Try.f82 = some m82 := by kernel_rfl
/-- slices.Clone[[]int,int] [] -/
def m83 : MFun := ⟨8, [], [.mov (.s 2)],
 .seq (.ops [⟨(some 2), some undefA, none, false, .pu (.mov (.c (.nilS)))⟩])
 (.seq (.seq (.ops [⟨(some 3), some undefA, none, false, .pu (.mov (.s 0))⟩,
   ⟨(some 4), some undefA, none, false, .pu (.isnil false (.s 3))⟩])
 (.cond (.s 4) (.seq (.ops [⟨(some 2), some undefA, none, false, .pu (.mov (.c (.nilS)))⟩])
  (.ret))
 (.skip)))
 (.seq (.ops [⟨(some 5), some undefA, none, false, .ha (.blds 1 0 [.int .i64 0] [])⟩,
   ⟨(some 6), some undefA, none, false, .pu (.mov (.s 0))⟩,
   ⟨(some 7), some undefA, none, false, .ha (.app 1 (.s 5) (.s 6))⟩,
   ⟨(some 2), some undefA, none, false, .pu (.mov (.s 7))⟩])
 (.ret)))⟩
theorem t83 : trF Try.prog [] [] Try.f83 = some m83 := by kernel_rfl
/-- slices.Values[[]int,int] [] -/
def m86 : MFun := ⟨4, [], [.mov (.s 2)],
 .seq (.ops [⟨(some 1), some undefA, none, false, .ha (.newv (.s 0))⟩,
   ⟨(some 2), some undefA, none, false, .pu (.mov (.c (.nilF)))⟩])
 (.seq (.ops [⟨(some 3), some undefA, none, false, .pu (.mkf 100 [(.s 1)])⟩,
   ⟨(some 2), some undefA, none, false, .pu (.mov (.s 3))⟩])
 (.ret))⟩
theorem t86 : trF Try.prog [] [] Try.f86 = some m86 := by kernel_rfl
/-- slices.IndexFunc[[]int,int] [loop [0, 1, 7, 8]] -/
def m87 : MFun := ⟨19, [], [.mov (.s 4)],
 .seq (.ops [⟨(some 4), some undefA, none, false, .pu (.mov (.c (.int .i64 0)))⟩])
 (.seq (.seq (.ops [⟨(some 6), some undefA, none, false, .pu (.mov (.s 0))⟩,
   ⟨(some 7), some undefA, none, false, .pu (.len (.s 6))⟩,
   ⟨(some 8), some undefA, none, false, .pu (.mov (.c (.int .i64 0)))⟩])
 (.block 0 (.loop (.seq (.ops [⟨(some 9), some undefA, none, false, .pu (.bin .lss (.s 8) (.s 7))⟩])
   (.seq (.cond (.s 9) (.skip)
   (.exit 0))
   (.seq (.block 1 (.seq (.ops [⟨(some 10), some undefA, none, false, .pu (.mov (.s 8))⟩,
      ⟨(some 5), some undefA, none, false, .pu (.mov (.s 10))⟩])
    (.seq (.ops [⟨(some 11), some undefA, none, false, .pu (.mov (.s 1))⟩,
      ⟨(some 12), some undefA, none, false, .pu (.mov (.s 0))⟩,
      ⟨(some 13), some undefA, none, false, .pu (.mov (.s 5))⟩,
      ⟨(some 14), some undefA, none, false, .pu (.idx 1 (.s 12) (.s 13))⟩,
      ⟨(some 15), some undefA, none, false, .ld (.ld 1 false (.s 14))⟩,
      ⟨(some 16), some undefA, none, false, .callv (.s 11) [(.s 15)]⟩])
    (.cond (.s 16) (.seq (.ops [⟨(some 17), some undefA, none, false, .pu (.mov (.s 5))⟩,
       ⟨(some 4), some undefA, none, false, .pu (.mov (.s 17))⟩])
     (.ret))
    (.skip)))))
   (.ops [⟨(some 18), some undefA, none, false, .pu (.bin .add (.s 8) (.c (.int .i64 1)))⟩,
     ⟨(some 8), some undefA, none, false, .pu (.mov (.s 18))⟩])))))))
 (.seq (.ops [⟨(some 4), some undefA, none, false, .pu (.mov (.c (.int .i64 (-1))))⟩])
 (.ret)))⟩
theorem t87 : trF Try.prog [] [] Try.f87 = some m87 := by kernel_rfl
/-- selion/wish.Line$1 [] -/
def m88 : MFun := ⟨8, [], [.mov (.s 3)],
 .seq (.ops [⟨(some 3), some undefA, none, false, .pu (.mov (.c (.bool false)))⟩])
 (.seq (.ops [⟨(some 4), some undefA, none, false, .ld (.ld 3 true (.s 1))⟩,
   ⟨(some 5), some undefA, none, false, .pu (.mov (.s 0))⟩,
   ⟨(some 6), some undefA, none, false, .call 89 [(.s 4), (.s 5)]⟩,
   ⟨(some 7), some undefA, none, false, .pu (.bin .lss (.s 6) (.c (.int .i64 0)))⟩,
   ⟨(some 3), some undefA, none, false, .pu (.mov (.s 7))⟩])
 (.ret))⟩
theorem t88 : trF Try.prog [] [] Try.f88 = some m88 := by kernel_rfl
/-- (selion/wish.wished).holder [] -/
def m89 : MFun := ⟨9, [2], [.mov (.s 4)],
 .seq (.ops [⟨(some 2), some (.junk), none, false, .pu (.bnew (.s 0))⟩,
   ⟨(some 4), some undefA, none, false, .pu (.mov (.c (.int .i64 0)))⟩])
 (.seq (.ops [⟨(some 5), some undefA, none, false, .pu (.badr none 2)⟩,
   ⟨(some 6), some undefA, none, false, .pu (.bget (some 5) 2 2 1 false)⟩,
   ⟨(some 7), some undefA, none, false, .pu (.mov (.s 1))⟩,
   ⟨(some 8), some undefA, none, false, .call 94 [(.s 6), (.s 7)]⟩,
   ⟨(some 4), some undefA, none, false, .pu (.mov (.s 8))⟩])
 (.ret))⟩
theorem t89 : trF Try.prog [2] [] Try.f89 = some m89 := by kernel_rfl
/-- slices.DeleteFunc[[]int,int] [loop [0, 1, 5, 6]] -/
def m90 : MFun := ⟨42, [], [.mov (.s 4)],
 .seq (.ops [⟨(some 4), some undefA, none, false, .pu (.mov (.c (.nilS)))⟩])
 (.seq (.ops [⟨(some 8), some undefA, none, false, .pu (.mov (.s 0))⟩,
   ⟨(some 9), some undefA, none, false, .pu (.mov (.s 1))⟩,
   ⟨(some 10), some undefA, none, false, .call 87 [(.s 8), (.s 9)]⟩,
   ⟨(some 5), some undefA, none, false, .pu (.mov (.s 10))⟩])
 (.seq (.seq (.ops [⟨(some 11), some undefA, none, false, .pu (.mov (.s 5))⟩,
   ⟨(some 12), some undefA, none, false, .pu (.bin .eql (.s 11) (.c (.int .i64 (-1))))⟩])
 (.cond (.s 12) (.seq (.ops [⟨(some 13), some undefA, none, false, .pu (.mov (.s 0))⟩,
    ⟨(some 4), some undefA, none, false, .pu (.mov (.s 13))⟩])
  (.ret))
 (.skip)))
 (.seq (.seq (.ops [⟨(some 14), some undefA, none, false, .pu (.mov (.s 5))⟩,
   ⟨(some 15), some undefA, none, false, .pu (.bin .add (.s 14) (.c (.int .i64 1)))⟩,
   ⟨(some 6), some undefA, none, false, .pu (.mov (.s 15))⟩])
 (.block 0 (.loop (.seq (.seq (.ops [⟨(some 16), some undefA, none, false, .pu (.mov (.s 6))⟩,
     ⟨(some 17), some undefA, none, false, .pu (.mov (.s 0))⟩,
     ⟨(some 18), some undefA, none, false, .pu (.len (.s 17))⟩,
     ⟨(some 19), some undefA, none, false, .pu (.bin .lss (.s 16) (.s 18))⟩])
   (.cond (.s 19) (.skip)
   (.exit 0)))
   (.seq (.block 1 (.seq (.ops [⟨(some 22), some undefA, none, false, .pu (.mov (.s 0))⟩,
      ⟨(some 23), some undefA, none, false, .pu (.mov (.s 6))⟩,
      ⟨(some 24), some undefA, none, false, .pu (.idx 1 (.s 22) (.s 23))⟩,
      ⟨(some 25), some undefA, none, false, .ld (.ld 1 false (.s 24))⟩,
      ⟨(some 7), some undefA, none, false, .pu (.mov (.s 25))⟩])
    (.seq (.ops [⟨(some 26), some undefA, none, false, .pu (.mov (.s 1))⟩,
      ⟨(some 27), some undefA, none, false, .pu (.mov (.s 7))⟩,
      ⟨(some 28), some undefA, none, false, .callv (.s 26) [(.s 27)]⟩,
      ⟨(some 29), some undefA, none, false, .pu (.not (.s 28))⟩])
    (.cond (.s 29) (.seq (.ops [⟨(some 30), some undefA, none, false, .pu (.mov (.s 0))⟩,
       ⟨(some 31), some undefA, none, false, .pu (.mov (.s 5))⟩,
       ⟨(some 32), some undefA, none, false, .pu (.mov (.s 7))⟩,
       ⟨(some 33), some undefA, none, false, .pu (.idx 1 (.s 30) (.s 31))⟩,
       ⟨none, some undefA, none, false, .ha (.st 1 (.s 33) (.s 32))⟩])
     (.ops [⟨(some 34), some undefA, none, false, .pu (.mov (.s 5))⟩,
       ⟨(some 35), some undefA, none, false, .pu (.bin .add (.s 34) (.c (.int .i64 1)))⟩,
       ⟨(some 5), some undefA, none, false, .pu (.mov (.s 35))⟩]))
    (.skip)))))
   (.ops [⟨(some 20), some undefA, none, false, .pu (.mov (.s 6))⟩,
     ⟨(some 21), some undefA, none, false, .pu (.bin .add (.s 20) (.c (.int .i64 1)))⟩,
     ⟨(some 6), some undefA, none, false, .pu (.mov (.s 21))⟩]))))))
 (.seq (.ops [⟨(some 36), some undefA, none, false, .pu (.mov (.s 0))⟩,
   ⟨(some 37), some undefA, none, false, .pu (.mov (.s 5))⟩,
   ⟨(some 38), some undefA, none, false, .pu (.slc 1 (.s 36) (some (.s 37)) none none)⟩,
   ⟨none, some undefA, none, false, .ha (.clr 1 [.int .i64 0] (.s 38))⟩])
 (.seq (.ops [⟨(some 39), some undefA, none, false, .pu (.mov (.s 0))⟩,
   ⟨(some 40), some undefA, none, false, .pu (.mov (.s 5))⟩,
   ⟨(some 41), some undefA, none, false, .pu (.slc 1 (.s 39) none (some (.s 40)) none)⟩,
   ⟨(some 4), some undefA, none, false, .pu (.mov (.s 41))⟩])
 (.ret))))))⟩
theorem t90 : trF Try.prog [] [] Try.f90 = some m90 := by kernel_rfl
/-- selion/wish.without$1 [] -/
def m91 : MFun := ⟨7, [], [.mov (.s 3)],
 .seq (.ops [⟨(some 3), some undefA, none, false, .pu (.mov (.c (.bool false)))⟩])
 (.seq (.ops [⟨(some 4), some undefA, none, false, .pu (.mov (.s 0))⟩,
   ⟨(some 5), some undefA, none, false, .ld (.ld 1 false (.s 1))⟩,
   ⟨(some 6), some undefA, none, false, .pu (.bin .eql (.s 4) (.s 5))⟩,
   ⟨(some 3), some undefA, none, false, .pu (.mov (.s 6))⟩])
 (.ret))⟩
theorem t91 : trF Try.prog [] [] Try.f91 = some m91 := by kernel_rfl
/-- (selion/wish.wished).serve [] -/
def m92 : MFun := ⟨15, [], [.mov (.s 4)],
 .seq (.ops [⟨(some 2), some undefA, none, false, .ha (.newv (.s 0))⟩,
   ⟨(some 4), some undefA, none, false, .pu (.mov (.c (.bool false)))⟩])
 (.seq (.ops [⟨(some 7), some undefA, none, false, .pu (.fad 0 (.s 2))⟩,
   ⟨(some 8), some undefA, none, false, .pu (.fad 0 (.s 7))⟩,
   ⟨(some 9), some undefA, none, false, .ld (.ld 1 false (.s 8))⟩,
   ⟨(some 10), some undefA, none, false, .ha (.mks 1 [.bool false] (.s 9) (.s 9))⟩,
   ⟨(some 5), some undefA, none, false, .ha (.newv (.c (.nilS)))⟩,
   ⟨none, some undefA, none, false, .ha (.st 1 (.s 5) (.s 10))⟩])
 (.seq (.ops [⟨(some 6), some undefA, none, false, .ha (.newv (.c (.nilF)))⟩])
 (.seq (.ops [⟨(some 11), some undefA, none, false, .pu (.mkf 101 [(.s 2), (.s 5), (.s 6)])⟩,
   ⟨none, some undefA, none, false, .ha (.st 1 (.s 6) (.s 11))⟩])
 (.seq (.ops [⟨(some 12), some undefA, none, false, .ld (.ld 1 false (.s 6))⟩,
   ⟨(some 13), some undefA, none, false, .pu (.mov (.s 1))⟩,
   ⟨(some 14), some undefA, none, false, .callv (.s 12) [(.s 13)]⟩,
   ⟨(some 4), some undefA, none, false, .pu (.mov (.s 14))⟩])
 (.ret)))))⟩
theorem t92 : trF Try.prog [] [] Try.f92 = some m92 := by kernel_rfl
/-- slices.Repeat[[]int,int] [loop [7, 8]] -/
def m93 : MFun := ⟨48, [], [.mov (.s 4)],
 .seq (.ops [⟨(some 4), some undefA, none, false, .pu (.mov (.c (.nilS)))⟩])
 (.seq (.seq (.ops [⟨(some 9), some undefA, none, false, .pu (.mov (.s 1))⟩,
   ⟨(some 10), some undefA, none, false, .pu (.bin .lss (.s 9) (.c (.int .i64 0)))⟩])
 (.cond (.s 10) (.ops [⟨(some 11), some undefA, none, false, .pu (.fail)⟩,
    ⟨none, some undefA, none, false, .pu (.fail)⟩])
 (.skip)))
 (.seq (.ops [⟨(some 13), some undefA, none, false, .pu (.mov (.s 0))⟩,
   ⟨(some 14), some undefA, none, false, .pu (.len (.s 13))⟩,
   ⟨(some 15), some undefA, none, false, .pu (.conv .u64 (.s 14))⟩,
   ⟨(some 16), some undefA, none, false, .pu (.mov (.s 1))⟩,
   ⟨(some 17), some undefA, none, false, .pu (.conv .u64 (.s 16))⟩,
   ⟨(some 18), some undefA, none, false, .call 102 [(.s 15), (.s 17)]⟩,
   ⟨(some 12), some undefA, none, false, .pu (.mov (.s 18))⟩,
   ⟨(some 19), some undefA, none, false, .pu (.extr 0 (.s 12))⟩,
   ⟨(some 20), some undefA, none, false, .pu (.extr 1 (.s 12))⟩,
   ⟨(some 5), some undefA, none, false, .pu (.mov (.s 19))⟩,
   ⟨(some 6), some undefA, none, false, .pu (.mov (.s 20))⟩])
 (.seq (.seq (.ops [⟨(some 21), some undefA, none, false, .pu (.mov (.s 5))⟩,
   ⟨(some 22), some undefA, none, false, .pu (.bin .gtr (.s 21) (.c (.int .u64 0)))⟩,
   ⟨(some 23), some undefA, none, false, .pu (.mov (.s 22))⟩,
   ⟨(some 24), some undefA, (some (23, false)), false, .pu (.mov (.s 6))⟩,
   ⟨(some 25), some undefA, (some (23, false)), false, .pu (.bin .gtr (.s 24) (.c (.int .u64 9223372036854775807)))⟩,
   ⟨(some 26), some undefA, none, false, .pu (.pick (.s 23) (.c (.bool true)) (.s 25))⟩])
 (.cond (.s 26) (.ops [⟨(some 27), some undefA, none, false, .pu (.fail)⟩,
    ⟨none, some undefA, none, false, .pu (.fail)⟩])
 (.skip)))
 (.seq (.ops [⟨(some 28), some undefA, none, false, .pu (.mov (.s 6))⟩,
   ⟨(some 29), some undefA, none, false, .pu (.conv .i64 (.s 28))⟩,
   ⟨(some 30), some undefA, none, false, .ha (.mks 1 [.int .i64 0] (.s 29) (.s 29))⟩,
   ⟨(some 7), some undefA, none, false, .pu (.mov (.s 30))⟩])
 (.seq (.ops [⟨(some 31), some undefA, none, false, .pu (.mov (.s 7))⟩,
   ⟨(some 32), some undefA, none, false, .pu (.mov (.s 0))⟩,
   ⟨(some 33), some undefA, none, false, .ha (.cpy 1 (.s 31) (.s 32))⟩,
   ⟨(some 8), some undefA, none, false, .pu (.mov (.s 33))⟩])
 (.seq (.block 0 (.loop (.seq (.seq (.ops [⟨(some 34), some undefA, none, false, .pu (.mov (.s 8))⟩,
     ⟨(some 35), some undefA, none, false, .pu (.mov (.s 7))⟩,
     ⟨(some 36), some undefA, none, false, .pu (.len (.s 35))⟩,
     ⟨(some 37), some undefA, none, false, .pu (.bin .lss (.s 34) (.s 36))⟩])
   (.cond (.s 37) (.skip)
   (.exit 0)))
   (.block 1 (.ops [⟨(some 38), some undefA, none, false, .pu (.mov (.s 8))⟩,
      ⟨(some 39), some undefA, none, false, .pu (.mov (.s 7))⟩,
      ⟨(some 40), some undefA, none, false, .pu (.mov (.s 8))⟩,
      ⟨(some 41), some undefA, none, false, .pu (.slc 1 (.s 39) (some (.s 40)) none none)⟩,
      ⟨(some 42), some undefA, none, false, .pu (.mov (.s 7))⟩,
      ⟨(some 43), some undefA, none, false, .pu (.mov (.s 8))⟩,
      ⟨(some 44), some undefA, none, false, .pu (.slc 1 (.s 42) none (some (.s 43)) none)⟩,
      ⟨(some 45), some undefA, none, false, .ha (.cpy 1 (.s 41) (.s 44))⟩,
      ⟨(some 46), some undefA, none, false, .pu (.bin .add (.s 38) (.s 45))⟩,
      ⟨(some 8), some undefA, none, false, .pu (.mov (.s 46))⟩])))))
 (.seq (.ops [⟨(some 47), some undefA, none, false, .pu (.mov (.s 7))⟩,
   ⟨(some 4), some undefA, none, false, .pu (.mov (.s 47))⟩])
 (.ret))))))))⟩
theorem t93 : trF Try.prog [] [] Try.f93 = some m93 := by kernel_rfl
/-- slices.Index[[]int,int] [loop [0, 1, 7, 8]] -/
def m94 : MFun := ⟨19, [], [.mov (.s 4)],
 .seq (.ops [⟨(some 4), some undefA, none, false, .pu (.mov (.c (.int .i64 0)))⟩])
 (.seq (.seq (.ops [⟨(some 6), some undefA, none, false, .pu (.mov (.s 0))⟩,
   ⟨(some 7), some undefA, none, false, .pu (.len (.s 6))⟩,
   ⟨(some 8), some undefA, none, false, .pu (.mov (.c (.int .i64 0)))⟩])
 (.block 0 (.loop (.seq (.ops [⟨(some 9), some undefA, none, false, .pu (.bin .lss (.s 8) (.s 7))⟩])
   (.seq (.cond (.s 9) (.skip)
   (.exit 0))
   (.seq (.block 1 (.seq (.ops [⟨(some 10), some undefA, none, false, .pu (.mov (.s 8))⟩,
      ⟨(some 5), some undefA, none, false, .pu (.mov (.s 10))⟩])
    (.seq (.ops [⟨(some 11), some undefA, none, false, .pu (.mov (.s 1))⟩,
      ⟨(some 12), some undefA, none, false, .pu (.mov (.s 0))⟩,
      ⟨(some 13), some undefA, none, false, .pu (.mov (.s 5))⟩,
      ⟨(some 14), some undefA, none, false, .pu (.idx 1 (.s 12) (.s 13))⟩,
      ⟨(some 15), some undefA, none, false, .ld (.ld 1 false (.s 14))⟩,
      ⟨(some 16), some undefA, none, false, .pu (.bin .eql (.s 11) (.s 15))⟩])
    (.cond (.s 16) (.seq (.ops [⟨(some 17), some undefA, none, false, .pu (.mov (.s 5))⟩,
       ⟨(some 4), some undefA, none, false, .pu (.mov (.s 17))⟩])
     (.ret))
    (.skip)))))
   (.ops [⟨(some 18), some undefA, none, false, .pu (.bin .add (.s 8) (.c (.int .i64 1)))⟩,
     ⟨(some 8), some undefA, none, false, .pu (.mov (.s 18))⟩])))))))
 (.seq (.ops [⟨(some 4), some undefA, none, false, .pu (.mov (.c (.int .i64 (-1))))⟩])
 (.ret)))⟩
theorem t94 : trF Try.prog [] [] Try.f94 = some m94 := by kernel_rfl
/-- selion/wish.isPlaces$1 [] -/
def m95 : MFun := ⟨11, [], [.mov (.s 3)],
 .seq (.ops [⟨(some 3), some undefA, none, false, .pu (.mov (.c (.bool false)))⟩])
 (.seq (.ops [⟨(some 4), some undefA, none, false, .pu (.mov (.s 0))⟩,
   ⟨(some 5), some undefA, none, false, .pu (.bin .lss (.s 4) (.c (.int .i64 0)))⟩,
   ⟨(some 6), some undefA, none, false, .pu (.mov (.s 5))⟩,
   ⟨(some 7), some undefA, (some (6, false)), false, .pu (.mov (.s 0))⟩,
   ⟨(some 8), some undefA, (some (6, false)), false, .ld (.ld 1 false (.s 1))⟩,
   ⟨(some 9), some undefA, (some (6, false)), false, .pu (.bin .geq (.s 7) (.s 8))⟩,
   ⟨(some 10), some undefA, none, false, .pu (.pick (.s 6) (.c (.bool true)) (.s 9))⟩,
   ⟨(some 3), some undefA, none, false, .pu (.mov (.s 10))⟩])
 (.ret))⟩
theorem t95 : trF Try.prog [] [] Try.f95 = some m95 := by kernel_rfl
/-- selion/wish.union$1 [] -/
def m96 : MFun := ⟨12, [], [.mov (.s 4)],
 .seq (.ops [⟨(some 4), some undefA, none, false, .pu (.mov (.c (.bool false)))⟩])
 (.seq (.ops [⟨(some 5), some undefA, none, true, .pu (.fad 1 (.s 1))⟩,
   ⟨(some 6), some undefA, none, true, .ld (.ld 1 false (.s 5))⟩,
   ⟨(some 7), some undefA, none, true, .pu (.mov (.s 0))⟩,
   ⟨(some 8), some undefA, none, true, .pu (.idx 1 (.s 6) (.s 7))⟩,
   ⟨(some 9), some undefA, none, true, .ld (.ld 1 false (.s 8))⟩,
   ⟨(some 10), some undefA, none, true, .ld (.ld 1 false (.s 2))⟩,
   ⟨(some 11), some undefA, none, false, .call 71 [(.s 9), (.s 10)]⟩,
   ⟨(some 4), some undefA, none, false, .pu (.mov (.s 11))⟩])
 (.ret))⟩
theorem t96 : trF Try.prog [] [] Try.f96 = some m96 := by kernel_rfl
/-- cmp.Compare[int] [] -/
def m97 : MFun := ⟨20, [], [.mov (.s 4)],
 .seq (.ops [⟨(some 4), some undefA, none, false, .pu (.mov (.c (.int .i64 0)))⟩])
 (.seq (.ops [⟨(some 7), some undefA, none, false, .pu (.mov (.s 0))⟩,
   ⟨(some 8), some undefA, none, false, .call 103 [(.s 7)]⟩,
   ⟨(some 5), some undefA, none, false, .pu (.mov (.s 8))⟩])
 (.seq (.ops [⟨(some 9), some undefA, none, false, .pu (.mov (.s 1))⟩,
   ⟨(some 10), some undefA, none, false, .call 103 [(.s 9)]⟩,
   ⟨(some 6), some undefA, none, false, .pu (.mov (.s 10))⟩])
 (.seq (.seq (.ops [⟨(some 11), some undefA, none, false, .pu (.mov (.s 5))⟩])
 (.cond (.s 11) (.seq (.seq (.ops [⟨(some 12), some undefA, none, false, .pu (.mov (.s 6))⟩])
  (.cond (.s 12) (.seq (.ops [⟨(some 4), some undefA, none, false, .pu (.mov (.c (.int .i64 0)))⟩])
   (.ret))
  (.skip)))
  (.seq (.ops [⟨(some 4), some undefA, none, false, .pu (.mov (.c (.int .i64 (-1))))⟩])
  (.ret)))
 (.skip)))
 (.seq (.seq (.ops [⟨(some 13), some undefA, none, false, .pu (.mov (.s 6))⟩])
 (.cond (.s 13) (.seq (.ops [⟨(some 4), some undefA, none, false, .pu (.mov (.c (.int .i64 1)))⟩])
  (.ret))
 (.skip)))
 (.seq (.seq (.ops [⟨(some 14), some undefA, none, false, .pu (.mov (.s 0))⟩,
   ⟨(some 15), some undefA, none, false, .pu (.mov (.s 1))⟩,
   ⟨(some 16), some undefA, none, false, .pu (.bin .lss (.s 14) (.s 15))⟩])
 (.cond (.s 16) (.seq (.ops [⟨(some 4), some undefA, none, false, .pu (.mov (.c (.int .i64 (-1))))⟩])
  (.ret))
 (.skip)))
 (.seq (.seq (.ops [⟨(some 17), some undefA, none, false, .pu (.mov (.s 0))⟩,
   ⟨(some 18), some undefA, none, false, .pu (.mov (.s 1))⟩,
   ⟨(some 19), some undefA, none, false, .pu (.bin .gtr (.s 17) (.s 18))⟩])
 (.cond (.s 19) (.seq (.ops [⟨(some 4), some undefA, none, false, .pu (.mov (.c (.int .i64 1)))⟩])
  (.ret))
 (.skip)))
 (.seq (.ops [⟨(some 4), some undefA, none, false, .pu (.mov (.c (.int .i64 0)))⟩])
 (.ret))))))))⟩
theorem t97 : trF Try.prog [] [] Try.f97 = some m97 := by kernel_rfl
/-- (selion/wish.wished).serve$1 [loop [0, 1, 2, 3, 14, 15, 16]] -/
def m101 : MFun := ⟨43, [], [.mov (.s 5)],
 .seq (.ops [⟨(some 5), some undefA, none, false, .pu (.mov (.c (.bool false)))⟩])
 (.seq (.seq (.ops [⟨(some 9), some undefA, none, false, .pu (.fad 0 (.s 1))⟩,
   ⟨(some 10), some undefA, none, false, .pu (.fad 1 (.s 9))⟩,
   ⟨(some 11), some undefA, none, false, .ld (.ld 1 false (.s 10))⟩,
   ⟨(some 12), some undefA, none, false, .pu (.mov (.s 0))⟩,
   ⟨(some 13), some undefA, none, false, .pu (.idx 1 (.s 11) (.s 12))⟩,
   ⟨(some 14), some undefA, none, false, .ld (.ld 1 false (.s 13))⟩,
   ⟨(some 15), some undefA, none, false, .pu (.len (.s 14))⟩,
   ⟨(some 16), some undefA, none, false, .pu (.mov (.c (.int .i64 0)))⟩])
 (.block 0 (.loop (.seq (.ops [⟨(some 17), some undefA, none, false, .pu (.bin .lss (.s 16) (.s 15))⟩])
   (.seq (.cond (.s 17) (.skip)
   (.exit 0))
   (.seq (.block 1 (.seq (.ops [⟨(some 18), some undefA, none, false, .pu (.idx 1 (.s 14) (.s 16))⟩,
      ⟨(some 19), some undefA, none, false, .ld (.ld 1 false (.s 18))⟩,
      ⟨(some 7), some undefA, none, false, .pu (.mov (.s 19))⟩])
    (.seq (.seq (.ops [⟨(some 20), some undefA, none, false, .ld (.ld 1 false (.s 2))⟩,
      ⟨(some 21), some undefA, none, false, .pu (.mov (.s 7))⟩,
      ⟨(some 22), some undefA, none, false, .pu (.idx 1 (.s 20) (.s 21))⟩,
      ⟨(some 23), some undefA, none, false, .ld (.ld 1 false (.s 22))⟩])
    (.cond (.s 23) (.exit 1)
    (.skip)))
    (.seq (.ops [⟨(some 24), some undefA, none, false, .ld (.ld 1 false (.s 2))⟩,
      ⟨(some 25), some undefA, none, false, .pu (.mov (.s 7))⟩,
      ⟨(some 26), some undefA, none, false, .pu (.idx 1 (.s 24) (.s 25))⟩,
      ⟨none, some undefA, none, false, .ha (.st 1 (.s 26) (.c (.bool true)))⟩])
    (.seq (.ops [⟨(some 27), some undefA, none, false, .ld (.ld 3 true (.s 1))⟩,
      ⟨(some 28), some undefA, none, false, .pu (.mov (.s 7))⟩,
      ⟨(some 29), some undefA, none, false, .call 89 [(.s 27), (.s 28)]⟩,
      ⟨(some 8), some undefA, none, false, .pu (.mov (.s 29))⟩])
    (.seq (.ops [⟨(some 30), some undefA, none, false, .pu (.mov (.s 8))⟩,
      ⟨(some 31), some undefA, none, false, .pu (.bin .lss (.s 30) (.c (.int .i64 0)))⟩,
      ⟨(some 32), some undefA, none, false, .pu (.mov (.s 31))⟩,
      ⟨(some 33), some undefA, (some (32, false)), false, .ld (.ld 1 false (.s 3))⟩,
      ⟨(some 34), some undefA, (some (32, false)), false, .pu (.mov (.s 8))⟩,
      ⟨(some 35), some undefA, (some (32, false)), false, .callv (.s 33) [(.s 34)]⟩,
      ⟨(some 36), some undefA, none, false, .pu (.pick (.s 32) (.c (.bool true)) (.s 35))⟩])
    (.cond (.s 36) (.seq (.ops [⟨(some 37), some undefA, none, false, .pu (.fad 2 (.s 1))⟩,
       ⟨(some 38), some undefA, none, false, .ld (.ld 1 false (.s 37))⟩,
       ⟨(some 39), some undefA, none, false, .pu (.mov (.s 0))⟩,
       ⟨(some 40), some undefA, none, false, .pu (.mov (.s 7))⟩,
       ⟨(some 41), some undefA, none, false, .pu (.idx 1 (.s 38) (.s 39))⟩,
       ⟨none, some undefA, none, false, .ha (.st 1 (.s 41) (.s 40))⟩])
     (.seq (.ops [⟨(some 5), some undefA, none, false, .pu (.mov (.c (.bool true)))⟩])
     (.ret)))
    (.skip))))))))
   (.ops [⟨(some 42), some undefA, none, false, .pu (.bin .add (.s 16) (.c (.int .i64 1)))⟩,
     ⟨(some 16), some undefA, none, false, .pu (.mov (.s 42))⟩])))))))
 (.seq (.ops [⟨(some 5), some undefA, none, false, .pu (.mov (.c (.bool false)))⟩])
 (.ret)))⟩
theorem t101 : trF Try.prog [] [] Try.f101 = some m101 := by kernel_rfl
/-- math/bits.Mul [] -/
def m102 : MFun := ⟨30, [], [.mov (.s 4), .mov (.s 5)],
 .seq (.ops [⟨(some 4), some undefA, none, false, .pu (.mov (.c (.int .u64 0)))⟩,
   ⟨(some 5), some undefA, none, false, .pu (.mov (.c (.int .u64 0)))⟩])
 (.seq (.cond (.c (.bool false)) (.seq (.ops [⟨(some 11), some undefA, none, false, .pu (.mov (.s 0))⟩,
    ⟨(some 12), some undefA, none, false, .pu (.conv .u32 (.s 11))⟩,
    ⟨(some 13), some undefA, none, false, .pu (.mov (.s 1))⟩,
    ⟨(some 14), some undefA, none, false, .pu (.conv .u32 (.s 13))⟩,
    ⟨(some 15), some undefA, none, false, .call 107 [(.s 12), (.s 14)]⟩,
    ⟨(some 10), some undefA, none, false, .pu (.mov (.s 15))⟩,
    ⟨(some 16), some undefA, none, false, .pu (.extr 0 (.s 10))⟩,
    ⟨(some 17), some undefA, none, false, .pu (.extr 1 (.s 10))⟩,
    ⟨(some 6), some undefA, none, false, .pu (.mov (.s 16))⟩,
    ⟨(some 7), some undefA, none, false, .pu (.mov (.s 17))⟩])
  (.seq (.ops [⟨(some 18), some undefA, none, false, .pu (.mov (.s 6))⟩,
    ⟨(some 19), some undefA, none, false, .pu (.conv .u64 (.s 18))⟩,
    ⟨(some 20), some undefA, none, false, .pu (.mov (.s 7))⟩,
    ⟨(some 21), some undefA, none, false, .pu (.conv .u64 (.s 20))⟩,
    ⟨(some 4), some undefA, none, false, .pu (.mov (.s 19))⟩,
    ⟨(some 5), some undefA, none, false, .pu (.mov (.s 21))⟩])
  (.ret)))
 (.skip))
 (.seq (.ops [⟨(some 23), some undefA, none, false, .pu (.mov (.s 0))⟩,
   ⟨(some 24), some undefA, none, false, .pu (.mov (.s 1))⟩,
   ⟨(some 25), some undefA, none, false, .call 108 [(.s 23), (.s 24)]⟩,
   ⟨(some 22), some undefA, none, false, .pu (.mov (.s 25))⟩,
   ⟨(some 26), some undefA, none, false, .pu (.extr 0 (.s 22))⟩,
   ⟨(some 27), some undefA, none, false, .pu (.extr 1 (.s 22))⟩,
   ⟨(some 8), some undefA, none, false, .pu (.mov (.s 26))⟩,
   ⟨(some 9), some undefA, none, false, .pu (.mov (.s 27))⟩])
 (.seq (.ops [⟨(some 28), some undefA, none, false, .pu (.mov (.s 8))⟩,
   ⟨(some 29), some undefA, none, false, .pu (.mov (.s 9))⟩,
   ⟨(some 4), some undefA, none, false, .pu (.mov (.s 28))⟩,
   ⟨(some 5), some undefA, none, false, .pu (.mov (.s 29))⟩])
 (.ret))))⟩
theorem t102 : trF Try.prog [] [] Try.f102 = some m102 := by kernel_rfl
/-- math/bits.Mul32 [] -/
def m107 : MFun := ⟨17, [], [.mov (.s 4), .mov (.s 5)],
 .seq (.ops [⟨(some 4), some undefA, none, false, .pu (.mov (.c (.int .u32 0)))⟩,
   ⟨(some 5), some undefA, none, false, .pu (.mov (.c (.int .u32 0)))⟩])
 (.seq (.ops [⟨(some 7), some undefA, none, false, .pu (.mov (.s 0))⟩,
   ⟨(some 8), some undefA, none, false, .pu (.conv .u64 (.s 7))⟩,
   ⟨(some 9), some undefA, none, false, .pu (.mov (.s 1))⟩,
   ⟨(some 10), some undefA, none, false, .pu (.conv .u64 (.s 9))⟩,
   ⟨(some 11), some undefA, none, false, .pu (.bin .mul (.s 8) (.s 10))⟩,
   ⟨(some 6), some undefA, none, false, .pu (.mov (.s 11))⟩])
 (.seq (.ops [⟨(some 12), some undefA, none, false, .pu (.mov (.s 6))⟩,
   ⟨(some 13), some undefA, none, false, .pu (.bin .shr (.s 12) (.c (.int .u64 32)))⟩,
   ⟨(some 14), some undefA, none, false, .pu (.conv .u32 (.s 13))⟩,
   ⟨(some 15), some undefA, none, false, .pu (.mov (.s 6))⟩,
   ⟨(some 16), some undefA, none, false, .pu (.conv .u32 (.s 15))⟩,
   ⟨(some 4), some undefA, none, false, .pu (.mov (.s 14))⟩,
   ⟨(some 5), some undefA, none, false, .pu (.mov (.s 16))⟩])
 (.ret)))⟩
theorem t107 : trF Try.prog [] [] Try.f107 = some m107 := by kernel_rfl
/-- math/bits.Mul64 [] -/
def m108 : MFun := ⟨51, [], [.mov (.s 4), .mov (.s 5)],
 .seq (.ops [⟨(some 4), some undefA, none, false, .pu (.mov (.c (.int .u64 0)))⟩,
   ⟨(some 5), some undefA, none, false, .pu (.mov (.c (.int .u64 0)))⟩])
 (.seq (.ops [⟨(some 14), some undefA, none, false, .pu (.mov (.s 0))⟩,
   ⟨(some 15), some undefA, none, false, .pu (.bin .and (.s 14) (.c (.int .u64 4294967295)))⟩,
   ⟨(some 6), some undefA, none, false, .pu (.mov (.s 15))⟩])
 (.seq (.ops [⟨(some 16), some undefA, none, false, .pu (.mov (.s 0))⟩,
   ⟨(some 17), some undefA, none, false, .pu (.bin .shr (.s 16) (.c (.int .u64 32)))⟩,
   ⟨(some 7), some undefA, none, false, .pu (.mov (.s 17))⟩])
 (.seq (.ops [⟨(some 18), some undefA, none, false, .pu (.mov (.s 1))⟩,
   ⟨(some 19), some undefA, none, false, .pu (.bin .and (.s 18) (.c (.int .u64 4294967295)))⟩,
   ⟨(some 8), some undefA, none, false, .pu (.mov (.s 19))⟩])
 (.seq (.ops [⟨(some 20), some undefA, none, false, .pu (.mov (.s 1))⟩,
   ⟨(some 21), some undefA, none, false, .pu (.bin .shr (.s 20) (.c (.int .u64 32)))⟩,
   ⟨(some 9), some undefA, none, false, .pu (.mov (.s 21))⟩])
 (.seq (.ops [⟨(some 22), some undefA, none, false, .pu (.mov (.s 6))⟩,
   ⟨(some 23), some undefA, none, false, .pu (.mov (.s 8))⟩,
   ⟨(some 24), some undefA, none, false, .pu (.bin .mul (.s 22) (.s 23))⟩,
   ⟨(some 10), some undefA, none, false, .pu (.mov (.s 24))⟩])
 (.seq (.ops [⟨(some 25), some undefA, none, false, .pu (.mov (.s 7))⟩,
   ⟨(some 26), some undefA, none, false, .pu (.mov (.s 8))⟩,
   ⟨(some 27), some undefA, none, false, .pu (.bin .mul (.s 25) (.s 26))⟩,
   ⟨(some 28), some undefA, none, false, .pu (.mov (.s 10))⟩,
   ⟨(some 29), some undefA, none, false, .pu (.bin .shr (.s 28) (.c (.int .u64 32)))⟩,
   ⟨(some 30), some undefA, none, false, .pu (.bin .add (.s 27) (.s 29))⟩,
   ⟨(some 11), some undefA, none, false, .pu (.mov (.s 30))⟩])
 (.seq (.ops [⟨(some 31), some undefA, none, false, .pu (.mov (.s 11))⟩,
   ⟨(some 32), some undefA, none, false, .pu (.bin .and (.s 31) (.c (.int .u64 4294967295)))⟩,
   ⟨(some 12), some undefA, none, false, .pu (.mov (.s 32))⟩])
 (.seq (.ops [⟨(some 33), some undefA, none, false, .pu (.mov (.s 11))⟩,
   ⟨(some 34), some undefA, none, false, .pu (.bin .shr (.s 33) (.c (.int .u64 32)))⟩,
   ⟨(some 13), some undefA, none, false, .pu (.mov (.s 34))⟩])
 (.seq (.ops [⟨(some 35), some undefA, none, false, .pu (.mov (.s 12))⟩,
   ⟨(some 36), some undefA, none, false, .pu (.mov (.s 6))⟩,
   ⟨(some 37), some undefA, none, false, .pu (.mov (.s 9))⟩,
   ⟨(some 38), some undefA, none, false, .pu (.bin .mul (.s 36) (.s 37))⟩,
   ⟨(some 39), some undefA, none, false, .pu (.bin .add (.s 35) (.s 38))⟩,
   ⟨(some 12), some undefA, none, false, .pu (.mov (.s 39))⟩])
 (.seq (.ops [⟨(some 40), some undefA, none, false, .pu (.mov (.s 7))⟩,
   ⟨(some 41), some undefA, none, false, .pu (.mov (.s 9))⟩,
   ⟨(some 42), some undefA, none, false, .pu (.bin .mul (.s 40) (.s 41))⟩,
   ⟨(some 43), some undefA, none, false, .pu (.mov (.s 13))⟩,
   ⟨(some 44), some undefA, none, false, .pu (.bin .add (.s 42) (.s 43))⟩,
   ⟨(some 45), some undefA, none, false, .pu (.mov (.s 12))⟩,
   ⟨(some 46), some undefA, none, false, .pu (.bin .shr (.s 45) (.c (.int .u64 32)))⟩,
   ⟨(some 47), some undefA, none, false, .pu (.bin .add (.s 44) (.s 46))⟩,
   ⟨(some 4), some undefA, none, false, .pu (.mov (.s 47))⟩])
 (.seq (.ops [⟨(some 48), some undefA, none, false, .pu (.mov (.s 0))⟩,
   ⟨(some 49), some undefA, none, false, .pu (.mov (.s 1))⟩,
   ⟨(some 50), some undefA, none, false, .pu (.bin .mul (.s 48) (.s 49))⟩,
   ⟨(some 5), some undefA, none, false, .pu (.mov (.s 50))⟩])
 (.ret))))))))))))⟩
theorem t108 : trF Try.prog [] [] Try.f108 = some m108 := by kernel_rfl
end Go.Proofs.Ytlmbobbefgcolaa

namespace Go.Proofs.Ytlmbobbefgcolaa
open Go Go.Eng
theorem hmix : Try.prog.follows .mixedOrders = true := by kernel_rfl
def tab : List (Nat × MFun) := [(18, m18), (19, m19), (21, m21), (23, m23), (24, m24), (39, m39), (54, m54), (55, m55), (56, m56), (59, m59), (61, m61), (62, m62), (63, m63), (69, m69), (71, m71), (73, m73), (83, m83), (87, m87), (89, m89), (90, m90), (91, m91), (92, m92), (93, m93), (94, m94), (95, m95), (101, m101), (102, m102), (107, m107), (108, m108)]
theorem tabOK : TabOK Try.prog tab :=
  .cons Try.func18 (by kernel_rfl) t18 <| .cons Try.func19 (by kernel_rfl) t19 <| .cons Try.func21 (by kernel_rfl) t21 <| .cons Try.func23 (by kernel_rfl) t23 <| .cons Try.func24 (by kernel_rfl) t24 <| .cons Try.func39 (by kernel_rfl) t39 <| .cons Try.func54 (by kernel_rfl) t54 <| .cons Try.func55 (by kernel_rfl) t55 <| .cons Try.func56 (by kernel_rfl) t56 <| .cons Try.func59 (by kernel_rfl) t59 <| .cons Try.func61 (by kernel_rfl) t61 <| .cons Try.func62 (by kernel_rfl) t62 <| .cons Try.func63 (by kernel_rfl) t63 <| .cons Try.func69 (by kernel_rfl) t69 <| .cons Try.func71 (by kernel_rfl) t71 <| .cons Try.func73 (by kernel_rfl) t73 <| .cons Try.func83 (by kernel_rfl) t83 <| .cons Try.func87 (by kernel_rfl) t87 <| .cons Try.func89 (by kernel_rfl) t89 <| .cons Try.func90 (by kernel_rfl) t90 <| .cons Try.func91 (by kernel_rfl) t91 <| .cons Try.func92 (by kernel_rfl) t92 <| .cons Try.func93 (by kernel_rfl) t93 <| .cons Try.func94 (by kernel_rfl) t94 <| .cons Try.func95 (by kernel_rfl) t95 <| .cons Try.func101 (by kernel_rfl) t101 <| .cons Try.func102 (by kernel_rfl) t102 <| .cons Try.func107 (by kernel_rfl) t107 <| .cons Try.func108 (by kernel_rfl) t108 <| .nil
def isTrue : Option (AV × AHeap) → Bool
  | some (.bool true, _) => true
  | _ => false
set_option maxRecDepth 100000 in
theorem known_run : isTrue (runF tab 300 14 18 [] []) = true := by kernel_rfl
theorem known (A : AHeap) : ACalls Try.prog 18 [] A (B true) A := by
  cases h : runF tab 300 14 18 [] [] with
  | none => have := known_run; rw [h] at this; cases this
  | some p =>
    obtain ⟨v, A'⟩ := p
    have h1 := known_run
    rw [h] at h1
    have h2 : v = B true := by
      unfold isTrue at h1
      split at h1
      · rename_i e; cases e; rfl
      · cases h1
    subst h2
    exact (runF_ok hmix tabOK 300 14 18 [] [] _ _ h).lift (by simp) rfl A
end Go.Proofs.Ytlmbobbefgcolaa

namespace Go.Proofs.Ytlmbobbefgcolaa
open Go Go.Eng
/-- A number that a machine word holds. -/
abbrev W (a : Int) : Prop := -9223372036854775808 ≤ a ∧ a ≤ 9223372036854775807
/-- The first element's place, or -1. -/
def fpos (g : Int → Bool) (xs : List Int) : Int := match xs.findIdx? g with | some i => i | none => -1
theorem fpos_some {g : Int → Bool} {xs : List Int} {i : Nat} {z : Int} (h : ∀ y ∈ xs.take i, g y = false) (hz : xs[i]? = some z) (hg : g z = true) : fpos g xs = i := by
  have hi : i < xs.length := (List.getElem?_eq_some_iff.1 hz).1
  have he : xs[i] = z := (List.getElem?_eq_some_iff.1 hz).2
  have : xs.findIdx? g = some i := by
    rw [List.findIdx?_eq_some_iff_getElem]
    refine ⟨hi, by rw [he]; exact hg, fun j hj => ?_⟩
    have : xs[j]'(by omega) ∈ xs.take i := by
      rw [List.mem_take_iff_getElem]
      exact ⟨j, by omega, rfl⟩
    simp [h _ this]
  unfold fpos
  rw [this]
theorem fpos_none {g : Int → Bool} {xs : List Int} (h : ∀ y ∈ xs, g y = false) : fpos g xs = -1 := by
  have : xs.findIdx? g = none := by
    rw [List.findIdx?_eq_none_iff]
    exact h
  unfold fpos
  rw [this]
theorem fpos_iff (g : Int → Bool) (xs : List Int) : 0 ≤ fpos g xs ↔ xs.any g = true := by
  unfold fpos
  cases h : xs.findIdx? g with
  | some i =>
    rw [List.findIdx?_eq_some_iff_getElem] at h
    obtain ⟨hi, hg, _⟩ := h
    simp only [Int.natCast_nonneg, true_iff, List.any_eq_true]
    exact ⟨_, List.getElem_mem hi, hg⟩
  | none =>
    rw [List.findIdx?_eq_none_iff] at h
    constructor
    · intro h1; simp at h1
    · intro h1
      rw [List.any_eq_true] at h1
      obtain ⟨x, hx, hg⟩ := h1
      rw [h x hx] at hg; cases hg
theorem take_false {g : Int → Bool} {xs : List Int} {i : Nat} {z : Int} (h : ∀ y ∈ xs.take i, g y = false) (hz : xs[i]? = some z) (hg : g z = false) : ∀ y ∈ xs.take (i + 1), g y = false := by
  intro y hy
  rw [List.take_add_one, hz] at hy
  rcases List.mem_append.1 hy with hy | hy
  · exact h y hy
  · have : y = z := by simpa using hy
    rw [this]; exact hg
theorem c_Index {xs : List Int} {v : AV} {A : AHeap} (hx : L1 A v xs) (hl : xs.length ≤ 1000000) (p : Int) : ACalls Try.prog 94 [v, I p] A (I (fpos (fun y => decide (p = y)) xs)) A := by
  refine acalls hmix Try.func94 (by kernel_rfl) t94 2 rfl (by decide) ?_
  dsimp only [m94]
  simp (maxSteps := 4000000) -implicitDefEqProofs -dsimp (disch := omega) only [↓AW_ops, ↓AW_seq, ↓AW_block, ↓AOps_nil, ↓AOps_pu, on_some, ↓then_normal, pval, rd_S, rd_C, put_S, ↓AW_toLoop, List.replicate_succ, List.replicate_zero, List.set_cons_zero, List.set_cons_succ, List.getElem?_cons_zero, List.getElem?_cons_succ, Option.getD_some, Nat.reduceSub, List.cons_append, List.nil_append, hx.len]
  refine LoopK.by 19 (fun i : Nat => i ≤ xs.length ∧ ∀ y ∈ xs.take i, decide (p = y) = false) (fun i => [(0, v), (1, I p), (7, I xs.length), (8, I i)]) (fun _ => A) (fun i => xs.length - i) 0 ⟨by omega, by simp⟩ rfl (by simp [Has, rd_s]) rfl ?_
  rintro i ⟨hi, he⟩
  by_cases hlt : i < xs.length
  · obtain ⟨z, hz⟩ : ∃ z, xs[i]? = some z := ⟨_, List.getElem?_eq_getElem hlt⟩
    have hlt' : (i : Int) < xs.length := by omega
    by_cases h : p = z
    · simp (maxSteps := 4000000) -implicitDefEqProofs -dsimp (disch := omega) only [↓AW_skip, ↓AW_ops, ↓AW_seq, ↓AW_cond, ↓AW_block, ↓AW_ret, ↓AOps_nil, ↓AOps_pu, ↓AOps_ld, on_some, condB_t, ↓then_normal, ↓then_ret, ↓inBlock_ret, ↓Fin_ret, pval, lval, rd_S, put_S, resV, resL, partA, eq_self, mk, List.foldl_cons, List.foldl_nil, List.replicate_succ, List.replicate_zero, List.set_cons_zero, List.set_cons_succ, List.getElem?_cons_zero, List.getElem?_cons_succ, List.drop_zero, List.take_succ_cons, List.take_nil, Option.getD_some, List.length_cons, List.length_nil, Nat.reduceLeDiff, Nat.zero_add, bin_eql, bin_lss, if_true, if_false, Bool.false_eq_true, decide_true, Go.Eng.e1, hlt', hx.idx hlt, hx.ld0 hz 1 false (by decide), h]
      exact gc_same (by rw [← h, fpos_some he hz (by simp [h])])
    · simp (maxSteps := 4000000) -implicitDefEqProofs -dsimp (disch := omega) only [↓AW_skip, ↓AW_ops, ↓AW_seq, ↓AW_cond, ↓AW_block, ↓AOps_nil, ↓AOps_pu, ↓AOps_ld, on_some, condB_t, condB_f, ↓then_normal, ↓inBlock_normal, pval, lval, rd_S, rd_C, put_S, partA, eq_self, mk, List.foldl_cons, List.foldl_nil, List.replicate_succ, List.replicate_zero, List.set_cons_zero, List.set_cons_succ, List.getElem?_cons_zero, List.getElem?_cons_succ, List.drop_zero, List.take_succ_cons, List.take_nil, Option.getD_some, List.length_cons, List.length_nil, Nat.reduceAdd, Nat.reduceLeDiff, Nat.zero_add, bin_add, bin_eql, bin_lss, w64, if_true, if_false, Bool.false_eq_true, decide_true, decide_false, decide_eq_false_iff_not, Go.Eng.e1, true_and, hlt', hx.idx hlt, hx.ld0 hz 1 false (by decide), h]
      exact ⟨i + 1, ⟨hlt, by simpa using take_false he hz (by simp [h])⟩, by simp [Has, rd_s], by omega⟩
  · have hlt' : ¬ ((i : Int) < xs.length) := by omega
    simp (maxSteps := 4000000) -implicitDefEqProofs -dsimp (disch := omega) only [↓AW_ops, ↓AW_seq, ↓AW_cond, ↓AW_exit, ↓AW_ret, ↓AOps_nil, ↓AOps_pu, on_some, condB_f, ↓then_normal, ↓then_exit, ↓inBlock_exit, ↓Fin_ret, pval, rd_S, rd_C, put_S, resV, resL, eq_self, mk, List.foldl_cons, List.foldl_nil, List.replicate_succ, List.replicate_zero, List.set_cons_zero, List.set_cons_succ, List.getElem?_cons_zero, List.getElem?_cons_succ, Option.getD_some, bin_lss, if_true, decide_false, Int.reduceNeg, hlt']
    rw [List.take_of_length_le (by omega)] at he
    exact gc_same (by rw [fpos_none he])
theorem c_Contains {xs : List Int} {v : AV} {A : AHeap} (hx : L1 A v xs) (hl : xs.length ≤ 1000000) (p : Int) : ACalls Try.prog 71 [v, I p] A (B (decide (p ∈ xs))) A := by
  refine acalls hmix Try.func71 (by kernel_rfl) t71 2 rfl (by decide) ?_
  dsimp only [m71]
  simp (maxSteps := 4000000) -implicitDefEqProofs -dsimp (disch := omega) only [↓AW_ops, ↓AW_seq, ↓AOps_nil, ↓AOps_pu, ↓AOps_call, on_some, ↓then_normal, pval, rd_S, rd_C, put_S, List.replicate_succ, List.replicate_zero, List.set_cons_zero, List.set_cons_succ, List.getElem?_cons_zero, List.getElem?_cons_succ, Option.getD_some, map_c, map_n, Nat.reduceSub, List.cons_append, List.nil_append]
  refine CallK.of (c_Index hx hl p) ?_
  simp (maxSteps := 4000000) -implicitDefEqProofs -dsimp (disch := omega) only [↓AW_ret, ↓AOps_nil, ↓AOps_pu, on_some, extK_same, ↓then_normal, ↓Fin_ret, pval, rd_S, rd_C, put_S, resV, resL, List.replicate_succ, List.replicate_zero, List.set_cons_zero, List.set_cons_succ, List.getElem?_cons_zero, List.getElem?_cons_succ, Option.getD_some, Nat.reduceSub, List.cons_append, List.nil_append, bin_geq]
  refine gc_same ?_
  congr 1
  rw [decide_eq_decide, fpos_iff]
  simp
theorem c_IndexFunc {xs : List Int} {v : AV} {A : AHeap} (hx : L1 A v xs) (hl : xs.length ≤ 1000000) (f : FuncId) (cap : List AV) (g : Int → Bool) (hg : ∀ x ∈ xs, ACalls Try.prog f ([I x] ++ cap) A (B (g x)) A) : ACalls Try.prog 87 [v, .fn f cap] A (I (fpos g xs)) A := by
  refine acalls hmix Try.func87 (by kernel_rfl) t87 2 rfl (by decide) ?_
  dsimp only [m87]
  simp (maxSteps := 4000000) -implicitDefEqProofs -dsimp (disch := omega) only [↓AW_ops, ↓AW_seq, ↓AW_block, ↓AOps_nil, ↓AOps_pu, on_some, ↓then_normal, pval, rd_S, rd_C, put_S, ↓AW_toLoop, List.replicate_succ, List.replicate_zero, List.set_cons_zero, List.set_cons_succ, List.getElem?_cons_zero, List.getElem?_cons_succ, Option.getD_some, Nat.reduceSub, List.cons_append, List.nil_append, hx.len]
  refine LoopK.by 19 (fun i : Nat => i ≤ xs.length ∧ ∀ y ∈ xs.take i, g y = false) (fun i => [(0, v), (1, .fn f cap), (7, I xs.length), (8, I i)]) (fun _ => A) (fun i => xs.length - i) 0 ⟨by omega, by simp⟩ rfl (by simp [Has, rd_s]) rfl ?_
  rintro i ⟨hi, he⟩
  by_cases hlt : i < xs.length
  · obtain ⟨z, hz⟩ : ∃ z, xs[i]? = some z := ⟨_, List.getElem?_eq_getElem hlt⟩
    have hlt' : (i : Int) < xs.length := by omega
    simp (maxSteps := 4000000) -implicitDefEqProofs -dsimp (disch := omega) only [↓AW_skip, ↓AW_ops, ↓AW_seq, ↓AW_cond, ↓AW_block, ↓AOps_nil, ↓AOps_pu, ↓AOps_ld, ↓AOps_callv, on_some, CallF_fn, condB_t, ↓then_normal, pval, lval, rd_S, put_S, partA, eq_self, mk, List.foldl_cons, List.foldl_nil, List.replicate_succ, List.replicate_zero, List.set_cons_zero, List.set_cons_succ, List.getElem?_cons_zero, List.getElem?_cons_succ, List.drop_zero, List.take_succ_cons, List.take_nil, Option.getD_some, map_c, map_n, List.length_cons, List.length_nil, Nat.reduceLeDiff, Nat.zero_add, List.cons_append, List.nil_append, bin_lss, if_true, if_false, Bool.false_eq_true, decide_true, Go.Eng.e1, hlt', hx.idx hlt, hx.ld0 hz 1 false (by decide)]
    refine CallK.of (hg z (List.mem_of_getElem? hz)) ?_
    by_cases h : g z = true
    · simp (maxSteps := 4000000) -implicitDefEqProofs -dsimp (disch := omega) only [↓AW_ops, ↓AW_seq, ↓AW_cond, ↓AW_ret, ↓AOps_nil, ↓AOps_pu, on_some, extK_same, condB_t, ↓then_normal, ↓then_ret, ↓inBlock_ret, ↓Fin_ret, pval, rd_S, put_S, resV, resL, mk, List.foldl_cons, List.foldl_nil, List.replicate_succ, List.replicate_zero, List.set_cons_zero, List.set_cons_succ, List.getElem?_cons_zero, List.getElem?_cons_succ, Option.getD_some, h]
      exact gc_same (by rw [fpos_some he hz h])
    · have h : g z = false := by simpa using h
      simp (maxSteps := 4000000) -implicitDefEqProofs -dsimp (disch := omega) only [↓AW_skip, ↓AW_ops, ↓AW_cond, ↓AOps_nil, ↓AOps_pu, on_some, extK_same, condB_f, ↓then_normal, ↓inBlock_normal, pval, rd_S, rd_C, put_S, eq_self, mk, List.foldl_cons, List.foldl_nil, List.replicate_succ, List.replicate_zero, List.set_cons_zero, List.set_cons_succ, List.getElem?_cons_zero, List.getElem?_cons_succ, Option.getD_some, List.length_cons, List.length_nil, Nat.reduceAdd, Nat.zero_add, bin_add, w64, true_and, h]
      exact ⟨i + 1, ⟨hlt, take_false he hz h⟩, by simp [Has, rd_s], by omega⟩
  · have hlt' : ¬ ((i : Int) < xs.length) := by omega
    simp (maxSteps := 4000000) -implicitDefEqProofs -dsimp (disch := omega) only [↓AW_ops, ↓AW_seq, ↓AW_cond, ↓AW_exit, ↓AW_ret, ↓AOps_nil, ↓AOps_pu, on_some, condB_f, ↓then_normal, ↓then_exit, ↓inBlock_exit, ↓Fin_ret, pval, rd_S, rd_C, put_S, resV, resL, eq_self, mk, List.foldl_cons, List.foldl_nil, List.replicate_succ, List.replicate_zero, List.set_cons_zero, List.set_cons_succ, List.getElem?_cons_zero, List.getElem?_cons_succ, Option.getD_some, bin_lss, if_true, decide_false, Int.reduceNeg, hlt']
    rw [List.take_of_length_le (by omega)] at he
    exact gc_same (by rw [fpos_none he])
theorem c_ContainsFunc {xs : List Int} {v : AV} {A : AHeap} (hx : L1 A v xs) (hl : xs.length ≤ 1000000) (f : FuncId) (cap : List AV) (g : Int → Bool) (hg : ∀ x ∈ xs, ACalls Try.prog f ([I x] ++ cap) A (B (g x)) A) : ACalls Try.prog 69 [v, .fn f cap] A (B (xs.any g)) A := by
  refine acalls hmix Try.func69 (by kernel_rfl) t69 2 rfl (by decide) ?_
  dsimp only [m69]
  simp (maxSteps := 4000000) -implicitDefEqProofs -dsimp (disch := omega) only [↓AW_ops, ↓AW_seq, ↓AOps_nil, ↓AOps_pu, ↓AOps_call, on_some, ↓then_normal, pval, rd_S, rd_C, put_S, List.replicate_succ, List.replicate_zero, List.set_cons_zero, List.set_cons_succ, List.getElem?_cons_zero, List.getElem?_cons_succ, Option.getD_some, map_c, map_n, Nat.reduceSub, List.cons_append, List.nil_append]
  refine CallK.of (c_IndexFunc hx hl f cap g hg) ?_
  simp (maxSteps := 4000000) -implicitDefEqProofs -dsimp (disch := omega) only [↓AW_ret, ↓AOps_nil, ↓AOps_pu, on_some, extK_same, ↓then_normal, ↓Fin_ret, pval, rd_S, rd_C, put_S, resV, resL, List.replicate_succ, List.replicate_zero, List.set_cons_zero, List.set_cons_succ, List.getElem?_cons_zero, List.getElem?_cons_succ, Option.getD_some, Nat.reduceSub, List.cons_append, List.nil_append, bin_geq]
  refine gc_same ?_
  congr 1
  rw [Bool.eq_iff_iff, decide_eq_true_iff, fpos_iff]
/-- The front of a list. -/
theorem Ls_takeS {α : Type} {es : Nat} {e : α → List AV} {H : AHeap} {v : AV} {xs : List α} (h : Ls es e H v xs) (k : Nat) (hk : k ≤ xs.length) : ∃ v', slcA es v none (some (I k)) none = some v' ∧ Ls es e H v' (xs.take k) := by
  rcases h.inv with ⟨rfl, rfl⟩ | ⟨n, off, full, rw, l, rfl, h1, h2, h3⟩
  · have : k = 0 := by simpa using hk
    subst this
    exact ⟨.nilS, by simp [slcA, bnd], ⟨h.he, rfl⟩⟩
  · have hk' : (0 : Int) ≤ k ∧ (k : Int) ≤ xs.length := by omega
    refine ⟨.sl es n off k (full && (k == xs.length)), by simp [slcA, bnd, hk], ⟨h.he, ?_⟩⟩
    have hm : k * es ≤ xs.length * es := Nat.mul_le_mul_right _ hk
    simp only [slCells, cellsAt, h1, if_true]
    rw [if_pos (by omega)]
    simp only [Option.map_some, List.length_take, Nat.min_eq_left hk, Option.some.injEq, Prod.mk.injEq, true_and]
    have h4 : (xs.take k).flatMap e = (xs.flatMap e).take (k * es) := by
      conv => rhs; rw [← List.take_append_drop k xs, List.flatMap_append]
      have h5 := flatMap_length h.he (xs.take k)
      rw [List.length_take, Nat.min_eq_left hk] at h5
      rw [← h5, List.take_left]
    rw [h4, ← h3, List.take_take, Nat.min_eq_left hm]
theorem L1_nil (A : AHeap) : L1 A .nilS [] := ⟨e1_len, rfl⟩
theorem L1_one (A : AHeap) (x : Int) : L1 (A ++ [.cells true [I x]]) (.sl 1 A.length 0 1 true) [x] := ⟨e1_len, by simp [slCells, cellsAt, e1]⟩
theorem ld_mono {A A' : AHeap} (hp : A <+: A') {sz : Nat} {ag : Bool} {p x : AV} (h : ldA sz ag p A = some x) : ldA sz ag p A' = some x := by
  unfold ldA at *
  split at h
  · rename_i n off
    split at h
    · rename_i rw l hn
      simp only [pre_get hp hn]
      exact h
    · cases h
  · cases h
theorem get_new (A : AHeap) (o : AObj) : (A ++ [o])[A.length]? = some o := by simp
theorem set_new (A : AHeap) (o o' : AObj) : (A ++ [o]).set A.length o' = A ++ [o'] := by simp
theorem AccL_ls {α : Type} {es : Nat} {e : α → List AV} {H H1 : AHeap} {v : AV} {xs : List α} (h : AccL es e H H1 v xs) (he : ∀ x, (e x).length = es) : Ls es e H1 v xs := by
  obtain ⟨h1, h2, h3⟩ := h
  refine ⟨he, ?_⟩
  rcases h3 with ⟨h4, rfl⟩ | ⟨h0, n, rfl, h5, h6⟩
  · have : xs = [] := List.eq_nil_of_length_eq_zero h4
    subst this; rfl
  · simp only [slCells, cellsAt, h6, if_true, Nat.zero_add]
    rw [if_pos (by omega)]
    simp only [List.drop_zero, Option.map_some, Option.some.injEq, Prod.mk.injEq, true_and]
    rw [← h2, List.take_length]
theorem AccL_base {α : Type} {es : Nat} {e : α → List AV} {H0 H H1 : AHeap} {v : AV} {xs : List α} (hp : H0 <+: H) (h : AccL es e H H1 v xs) : AccL es e H0 H1 v xs := by
  obtain ⟨h1, h2, h3⟩ := h
  refine ⟨hp.trans h1, h2, ?_⟩
  rcases h3 with h4 | ⟨h0, n, h4, h5, h6⟩
  · exact .inl h4
  · exact .inr ⟨h0, n, h4, Nat.le_trans hp.length_le h5, h6⟩
theorem take_mem {α : Type} {l : List α} {i : Nat} {z y : α} (hz : l[i]? = some z) : y ∈ l.take (i + 1) ↔ y ∈ l.take i ∨ y = z := by
  rw [List.take_add_one, hz, List.mem_append]
  simp
theorem split_at {α : Type} {l : List α} {i : Nat} {z : α} (hz : l[i]? = some z) : l = l.take i ++ z :: l.drop (i + 1) := by
  have hi : i < l.length := (List.getElem?_eq_some_iff.1 hz).1
  have := (List.getElem?_eq_some_iff.1 hz).2
  rw [← this, List.getElem_cons_drop, List.take_append_drop]
/-- Numbers that grow. -/
abbrev Up (l : List Int) : Prop := l.Pairwise (· < ·)
theorem up_step {l : List Int} {i : Nat} {a b : Int} (ha : l[i]? = some a) (hb : l[i + 1]? = some b) (h : Up (l.take (i + 1))) (hab : a < b) : Up (l.take (i + 1 + 1)) := by
  rw [List.take_add_one, hb, Option.toList_some, Up, List.pairwise_append]
  refine ⟨h, by simp, fun x hx y hy => ?_⟩
  have : y = b := by simpa using hy
  subst this
  rw [take_mem ha] at hx
  rcases hx with hx | rfl
  · rw [List.take_add_one, ha, Option.toList_some, Up, List.pairwise_append] at h
    have := h.2.2 x hx a (by simp)
    omega
  · exact hab
theorem up_bad {l : List Int} {i : Nat} {a b : Int} (ha : l[i]? = some a) (hb : l[i + 1]? = some b) (h : b ≤ a) : ¬ Up l := by
  intro hu
  rw [split_at hb, Up, List.pairwise_append] at hu
  have := hu.2.2 a ((take_mem ha).2 (.inr rfl)) b (by simp)
  omega
theorem up_one {l : List Int} : Up (l.take 1) := by
  cases l with
  | nil => simp
  | cons a l => simp [Up]
end Go.Proofs.Ytlmbobbefgcolaa

namespace Go.Proofs.Ytlmbobbefgcolaa
open Go Go.Eng
def e0 (x : AV × List Int) : List AV := [x.1]
/-- A list of lists in memory. -/
structure LL (A : AHeap) (v : AV) (ws : List (AV × List Int)) : Prop where
  ls : Ls 1 e0 A v ws
  inn : ∀ x ∈ ws, L1 A x.1 x.2
theorem LL.mono {A A' : AHeap} {v : AV} {ws : List (AV × List Int)} (h : LL A v ws) (hp : A <+: A') : LL A' v ws := ⟨h.ls.mono hp, fun x hx => (h.inn x hx).mono hp⟩
abbrev lists (ws : List (AV × List Int)) : List (List Int) := ws.map Prod.snd
/-- Lists that are not long. -/
def Sz (ws : List (AV × List Int)) : Prop := ws.length ≤ 40 ∧ ∀ x ∈ ws, x.2.length ≤ 40
theorem ld_new (A : AHeap) (x : AV) (l : List AV) : ldA 1 false (.ptr A.length 0) (A ++ [.cells true (x :: l)]) = some x := by
  simp [ldA, partA]
theorem ld_new1 (A : AHeap) (x y : AV) (l : List AV) : ldA 1 false (.ptr A.length 1) (A ++ [.cells true (x :: y :: l)]) = some y := by
  simp [ldA, partA]
theorem ld_new2 (A : AHeap) (x y : AV) : ldA 2 true (.ptr A.length 0) (A ++ [.cells true [x, y]]) = some (.agg [x, y]) := by
  simp [ldA, partA]
theorem s32 {xs : List Int} {v : AV} {A : AHeap} (hx : L1 A v xs) : ACalls Try.prog 32 [v] A (B (decide ((40 : Int) < xs.length))) A := by
  refine acalls hmix Try.func32 (by kernel_rfl) t32 1 rfl (by decide) ?_
  dsimp only [m32]
  simp (maxSteps := 4000000) -implicitDefEqProofs -dsimp (disch := omega) only [↓AW_ops, ↓AW_seq, ↓AW_ret, ↓AOps_nil, ↓AOps_pu, on_some, ↓then_normal, ↓Fin_ret, pval, rd_S, rd_C, put_S, resV, resL, List.replicate_succ, List.replicate_zero, List.set_cons_zero, List.set_cons_succ, List.getElem?_cons_zero, List.getElem?_cons_succ, Option.getD_some, Nat.reduceSub, List.cons_append, List.nil_append, bin_gtr, hx.len]
  exact gc_same rfl
def longW (ws : List (AV × List Int)) : Prop := (∃ x ∈ ws, (40 : Int) < x.2.length) ∨ (40 : Int) < ws.length
theorem Sz_of {ws : List (AV × List Int)} (h : ¬ longW ws) : Sz ws := by
  refine ⟨?_, fun x hx => ?_⟩
  · have : ¬ (40 : Int) < ws.length := fun h1 => h (.inr h1)
    omega
  · have : ¬ (40 : Int) < x.2.length := fun h1 => h (.inl ⟨x, hx, h1⟩)
    omega
instance (ws : List (AV × List Int)) : Decidable (longW ws) := by unfold longW; exact inferInstance
theorem s17 {P : Int} {ws : List (AV × List Int)} {v : AV} {A : AHeap} (hw : LL A v ws) (hl : ws.length ≤ 9223372036854775807) : ACalls Try.prog 17 [.agg [I P, v]] A (B (decide (longW ws))) A := by
  refine acalls hmix Try.func17 (by kernel_rfl) t17 1 rfl (by decide) ?_
  dsimp only [m17]
  simp (maxSteps := 4000000) -implicitDefEqProofs -dsimp (disch := omega) only [↓AW_ops, ↓AW_seq, ↓AW_block, ↓AOps_nil, ↓AOps_pu, on_some, ↓then_normal, pval, rd_S, rd_C, put_S, ↓AW_toLoop, AV.cells?, List.replicate_succ, List.replicate_zero, List.set_cons_zero, List.set_cons_succ, List.getElem?_cons_zero, Option.getD_some, Nat.reduceSub, List.cons_append, List.nil_append]
  refine LoopK.by 21 (fun i : Nat => i ≤ ws.length ∧ ∀ x ∈ ws.take i, ¬ (40 : Int) < x.2.length) (fun i => [(1, .agg [I P, v]), (3, I i)]) (fun _ => A) (fun i => ws.length - i) 0 ⟨by omega, by simp⟩ rfl (by simp [Has, rd_s]) rfl ?_
  rintro i ⟨hi, he⟩
  by_cases hlt : i < ws.length
  · obtain ⟨x, hz⟩ : ∃ z, ws[i]? = some z := ⟨_, List.getElem?_eq_getElem hlt⟩
    have hlt' : (i : Int) < ws.length := by omega
    have hm := List.mem_of_getElem? hz
    simp (maxSteps := 4000000) -implicitDefEqProofs -dsimp (disch := omega) only [↓AW_skip, ↓AW_ops, ↓AW_seq, ↓AW_cond, ↓AW_block, ↓AOps_nil, ↓AOps_pu, ↓AOps_ld, ↓AOps_call, on_some, condB_t, ↓then_normal, pval, lval, rd_S, put_S, chkd, isAdr, bgot, AV.cells?, partA, eq_self, mk, List.foldl_cons, List.foldl_nil, List.replicate_succ, List.replicate_zero, List.set_cons_zero, List.set_cons_succ, List.getElem?_cons_zero, List.getElem?_cons_succ, List.drop_zero, List.drop_succ_cons, List.take_succ_cons, List.take_nil, Option.getD_some, map_c, map_n, List.length_cons, List.length_nil, Nat.reduceAdd, Nat.reduceLeDiff, Nat.zero_add, bin_lss, if_true, if_false, Bool.false_eq_true, decide_true, hlt', hw.ls.len, hw.ls.idx hlt, hw.ls.ld0 hz 1 false (by decide), e0]
    refine CallK.of (s32 (hw.inn x hm)) ?_
    by_cases h : (40 : Int) < x.2.length
    · simp (maxSteps := 4000000) -implicitDefEqProofs -dsimp (disch := omega) only [↓AW_ops, ↓AW_seq, ↓AW_cond, ↓AW_ret, ↓AOps_nil, ↓AOps_pu, on_some, extK_same, condB_t, ↓then_normal, ↓then_ret, ↓inBlock_ret, ↓Fin_ret, pval, rd_S, rd_C, put_S, resV, resL, mk, List.foldl_cons, List.foldl_nil, List.replicate_succ, List.replicate_zero, List.set_cons_zero, List.set_cons_succ, List.getElem?_cons_zero, List.getElem?_cons_succ, Option.getD_some, decide_true, h]
      exact gc_same (by rw [decide_eq_true (show longW ws from .inl ⟨x, hm, h⟩)])
    · simp (maxSteps := 4000000) -implicitDefEqProofs -dsimp (disch := omega) only [↓AW_skip, ↓AW_ops, ↓AW_cond, ↓AOps_nil, ↓AOps_pu, on_some, extK_same, condB_f, ↓then_normal, ↓inBlock_normal, pval, rd_S, rd_C, put_S, eq_self, mk, List.foldl_cons, List.foldl_nil, List.replicate_succ, List.replicate_zero, List.set_cons_zero, List.set_cons_succ, List.getElem?_cons_zero, List.getElem?_cons_succ, Option.getD_some, List.length_cons, List.length_nil, Nat.reduceAdd, Nat.zero_add, bin_add, w64, decide_false, true_and, h]
      refine ⟨i + 1, ⟨hlt, fun y hy => ?_⟩, by simp [Has, rd_s], by omega⟩
      rw [List.take_add_one, hz] at hy
      rcases List.mem_append.1 hy with hy | hy
      · exact he y hy
      · have : y = x := by simpa using hy
        rw [this]; exact h
  · have hlt' : ¬ ((i : Int) < ws.length) := by omega
    simp (maxSteps := 4000000) -implicitDefEqProofs -dsimp (disch := omega) only [↓AW_ops, ↓AW_seq, ↓AW_cond, ↓AW_exit, ↓AW_ret, ↓AOps_nil, ↓AOps_pu, on_some, condB_f, ↓then_normal, ↓then_exit, ↓inBlock_exit, ↓Fin_ret, pval, rd_S, rd_C, put_S, resV, resL, chkd, isAdr, bgot, AV.cells?, partA, eq_self, mk, List.foldl_cons, List.foldl_nil, List.replicate_succ, List.replicate_zero, List.set_cons_zero, List.set_cons_succ, List.getElem?_cons_zero, List.getElem?_cons_succ, List.drop_zero, List.drop_succ_cons, List.take_succ_cons, List.take_nil, Option.getD_some, List.length_cons, List.length_nil, Nat.reduceAdd, Nat.reduceLeDiff, Nat.zero_add, bin_lss, bin_gtr, if_true, if_false, Bool.false_eq_true, decide_false, hlt', hw.ls.len]
    rw [List.take_of_length_le (by omega)] at he
    refine gc_same ?_
    congr 1
    rw [decide_eq_decide]
    constructor
    · exact fun h => .inr h
    · rintro (⟨x, hx, h⟩ | h)
      · exact absurd h (he x hx)
      · exact h
def inP (P : Int) (p : Int) : Prop := 0 ≤ p ∧ p < P
instance (P p : Int) : Decidable (inP P p) := by unfold inP; exact inferInstance
theorem s95 {n p : Int} {A : AHeap} {a o : Nat} (h : ldA 1 false (.ptr a o) A = some (I n)) : ACalls Try.prog 95 [I p, .ptr a o] A (B (!decide (inP n p))) A := by
  refine acalls hmix Try.func95 (by kernel_rfl) t95 2 rfl (by decide) ?_
  by_cases h1 : p < 0
  · dsimp only [m95]
    simp (maxSteps := 4000000) -implicitDefEqProofs -dsimp (disch := omega) only [↓AW_ops, ↓AW_seq, ↓AW_ret, ↓AOps_nil, ↓AOps_pu, ↓AOps_guard, on_some, guardB_tf, skipS_some, ↓then_normal, ↓Fin_ret, pval, rd_S, rd_C, put_S, resV, resL, eq_self, List.replicate_succ, List.replicate_zero, List.set_cons_zero, List.set_cons_succ, List.getElem?_cons_zero, List.getElem?_cons_succ, Option.getD_some, Nat.reduceSub, List.cons_append, List.nil_append, bin_lss, if_true, decide_true, h1]
    exact gc_same (by rw [decide_eq_false (fun h2 : inP n p => by have := h2.1; omega)]; rfl)
  · dsimp only [m95]
    simp (maxSteps := 4000000) -implicitDefEqProofs -dsimp (disch := omega) only [↓AW_ops, ↓AW_seq, ↓AW_ret, ↓AOps_nil, ↓AOps_pu, ↓AOps_ld, ↓AOps_guard, on_some, guardB_ff, ↓then_normal, ↓Fin_ret, pval, lval, rd_S, rd_C, put_S, resV, resL, List.replicate_succ, List.replicate_zero, List.set_cons_zero, List.set_cons_succ, List.getElem?_cons_zero, List.getElem?_cons_succ, Option.getD_some, Nat.reduceSub, List.cons_append, List.nil_append, bin_lss, bin_geq, if_false, Bool.false_eq_true, decide_false, h1, h]
    refine gc_same ?_
    have : inP n p ↔ ¬ n ≤ p := by unfold inP; omega
    congr 1
    rw [Bool.eq_iff_iff]
    simp [this]
theorem s73 {xs : List Int} {v : AV} {A : AHeap} (hx : L1 A v xs) (hl : xs.length ≤ 1000000) (n : Int) : ACalls Try.prog 73 [v, I n] A (B (decide (∀ p ∈ xs, inP n p))) A := by
  refine acalls hmix Try.func73 (by kernel_rfl) t73 2 rfl (by decide) ?_
  dsimp only [m73]
  simp (maxSteps := 4000000) -implicitDefEqProofs -dsimp (disch := omega) only [↓AW_ops, ↓AW_seq, ↓AOps_nil, ↓AOps_pu, ↓AOps_ha, ↓AOps_call, on_some, extK_app, ↓then_normal, pval, hval, rd_S, rd_C, put_S, AV.cells?, List.replicate_succ, List.replicate_zero, List.set_cons_zero, List.set_cons_succ, List.getElem?_cons_zero, List.getElem?_cons_succ, Option.getD_some, map_c, map_n, Nat.reduceSub, List.cons_append, List.nil_append]
  refine CallK.of (c_ContainsFunc (hx.mono (pre_app A [.cells true [I n]])) hl 95 [.ptr A.length 0] (fun p => !decide (inP n p)) (fun x _ => s95 (ld_new A _ _))) ?_
  simp (maxSteps := 4000000) -implicitDefEqProofs -dsimp (disch := omega) only [↓AW_ret, ↓AOps_nil, ↓AOps_pu, on_some, extK_same, ↓then_normal, ↓Fin_ret, pval, rd_S, put_S, resV, resL, List.replicate_succ, List.replicate_zero, List.set_cons_zero, List.set_cons_succ, List.getElem?_cons_zero, List.getElem?_cons_succ, Option.getD_some, Nat.reduceSub, List.cons_append, List.nil_append]
  refine gc_val (pre_app _ _) ?_
  simp only [ren]
  congr 1
  rw [Bool.eq_iff_iff]
  simp
/-- The error of a list of places. -/
def lE (P : Int) (l : List Int) : Int := if ∀ p ∈ l, inP P p then (if l.Nodup then 0 else 6) else 1
def lsE (P : Int) : List (List Int) → Int
  | [] => 0
  | l :: r => if lE P l = 0 then lsE P r else lE P l
/-- The error of wishes. -/
def vW (P : Int) (ls : List (List Int)) : Int := if ¬ (1 ≤ P ∧ P ≤ 7) then 1 else if 7 < ls.length then 3 else lsE P ls
theorem lsE_append (P : Int) : ∀ (a b : List (List Int)), lsE P (a ++ b) = if lsE P a = 0 then lsE P b else lsE P a
  | [], b => by simp [lsE]
  | l :: a, b => by
    by_cases h : lE P l = 0 <;> simp [lsE, h, lsE_append P a b]
theorem lsE_ok {P : Int} {ls : List (List Int)} {i : Nat} {l : List Int} (hl : ls[i]? = some l) (h : lsE P (ls.take i) = 0) (h2 : lE P l = 0) : lsE P (ls.take (i + 1)) = 0 := by
  rw [List.take_add_one, hl, lsE_append, if_pos h]
  simp [lsE, h2]
theorem lsE_bad {P : Int} {ls : List (List Int)} {i : Nat} {l : List Int} (hl : ls[i]? = some l) (h : lsE P (ls.take i) = 0) (h2 : lE P l ≠ 0) : lsE P ls = lE P l := by
  have hi : i < ls.length := (List.getElem?_eq_some_iff.1 hl).1
  have e : ls = ls.take i ++ l :: ls.drop (i + 1) := by
    have := (List.getElem?_eq_some_iff.1 hl).2
    rw [← this, List.getElem_cons_drop, List.take_append_drop]
  rw [e, lsE_append, if_pos h]
  simp [lsE, h2]
theorem ws_get {ws : List (AV × List Int)} {i : Nat} {x : AV × List Int} (hz : ws[i]? = some x) : (lists ws)[i]? = some x.2 := by
  rw [List.getElem?_map, hz]; rfl
theorem nodup_take {α : Type} {l : List α} {k : Nat} {p : α} (hp : l[k]? = some p) (h : (l.take k).Nodup) (hn : p ∉ l.take k) : (l.take (k + 1)).Nodup := by
  rw [List.take_add_one, hp, Option.toList_some, List.nodup_append]
  refine ⟨h, by simp, fun a ha b hb => ?_⟩
  have : b = p := by simpa using hb
  subst this
  rintro rfl
  exact hn ha
theorem not_nodup {α : Type} {l : List α} {k : Nat} {p : α} (hp : l[k]? = some p) (hn : p ∈ l.take k) : ¬ l.Nodup := by
  intro h
  have hi : k < l.length := (List.getElem?_eq_some_iff.1 hp).1
  have e : l = l.take k ++ p :: l.drop (k + 1) := by
    have := (List.getElem?_eq_some_iff.1 hp).2
    rw [← this, List.getElem_cons_drop, List.take_append_drop]
  rw [e, List.nodup_append] at h
  exact h.2.2 p hn p (by simp) rfl
theorem vW_P {P : Int} {ls : List (List Int)} (h : ¬ (1 ≤ P ∧ P ≤ 7)) : vW P ls = 1 := by unfold vW; rw [if_pos h]
theorem vW_n {P : Int} {ls : List (List Int)} (h : 1 ≤ P ∧ P ≤ 7) (h2 : 7 < ls.length) : vW P ls = 3 := by unfold vW; rw [if_neg (by omega), if_pos h2]
theorem vW_l {P : Int} {ls : List (List Int)} (h : 1 ≤ P ∧ P ≤ 7) (h2 : ¬ 7 < ls.length) : vW P ls = lsE P ls := by unfold vW; rw [if_neg (by omega), if_neg h2]
theorem s39 {P : Int} {ws : List (AV × List Int)} {v : AV} {A : AHeap} (hw : LL A v ws) (hs : Sz ws) : ACalls Try.prog 39 [.agg [I P, v]] A (I (vW P (lists ws))) A := by
  refine acalls hmix Try.func39 (by kernel_rfl) t39 1 rfl (by decide) ?_
  obtain ⟨hs1, hs2⟩ := hs
  by_cases h1 : P < 1
  · dsimp only [m39]
    simp (maxSteps := 4000000) -implicitDefEqProofs -dsimp (disch := omega) only [↓AW_ops, ↓AW_seq, ↓AW_cond, ↓AW_ret, ↓AOps_nil, ↓AOps_pu, ↓AOps_guard, on_some, guardB_tf, skipS_some, condB_t, ↓then_normal, ↓then_ret, ↓Fin_ret, pval, rd_S, rd_C, put_S, resV, resL, chkd, isAdr, bgot, AV.cells?, partA, eq_self, List.replicate_succ, List.replicate_zero, List.set_cons_zero, List.set_cons_succ, List.getElem?_cons_zero, List.getElem?_cons_succ, List.drop_zero, List.take_zero, List.take_succ_cons, Option.getD_some, List.length_cons, List.length_nil, Nat.reduceAdd, Nat.reduceSub, Nat.reduceLeDiff, Nat.zero_add, List.cons_append, List.nil_append, bin_lss, if_true, if_false, Bool.false_eq_true, decide_true, h1]
    exact gc_same (by rw [vW_P (by omega)])
  · by_cases h2 : 7 < P
    · dsimp only [m39]
      simp (maxSteps := 4000000) -implicitDefEqProofs -dsimp (disch := omega) only [↓AW_ops, ↓AW_seq, ↓AW_cond, ↓AW_ret, ↓AOps_nil, ↓AOps_pu, ↓AOps_guard, on_some, guardB_ff, condB_t, ↓then_normal, ↓then_ret, ↓Fin_ret, pval, rd_S, rd_C, put_S, resV, resL, chkd, isAdr, bgot, AV.cells?, partA, eq_self, List.replicate_succ, List.replicate_zero, List.set_cons_zero, List.set_cons_succ, List.getElem?_cons_zero, List.getElem?_cons_succ, List.drop_zero, List.take_zero, List.take_succ_cons, Option.getD_some, List.length_cons, List.length_nil, Nat.reduceAdd, Nat.reduceSub, Nat.reduceLeDiff, Nat.zero_add, List.cons_append, List.nil_append, bin_lss, bin_gtr, if_true, if_false, Bool.false_eq_true, decide_true, decide_false, h1, h2]
      exact gc_same (by rw [vW_P (by omega)])
    · by_cases h3 : (7 : Int) < ws.length
      · dsimp only [m39]
        simp (maxSteps := 4000000) -implicitDefEqProofs -dsimp (disch := omega) only [↓AW_skip, ↓AW_ops, ↓AW_seq, ↓AW_cond, ↓AW_ret, ↓AOps_nil, ↓AOps_pu, ↓AOps_guard, on_some, guardB_ff, condB_t, condB_f, ↓then_normal, ↓then_ret, ↓Fin_ret, pval, rd_S, rd_C, put_S, resV, resL, chkd, isAdr, bgot, AV.cells?, partA, eq_self, List.replicate_succ, List.replicate_zero, List.set_cons_zero, List.set_cons_succ, List.getElem?_cons_zero, List.getElem?_cons_succ, List.drop_zero, List.drop_succ_cons, List.take_zero, List.take_succ_cons, List.take_nil, Option.getD_some, List.length_cons, List.length_nil, Nat.reduceAdd, Nat.reduceSub, Nat.reduceLeDiff, Nat.zero_add, List.cons_append, List.nil_append, bin_lss, bin_gtr, if_true, if_false, Bool.false_eq_true, decide_true, decide_false, h1, h2, h3, hw.ls.len]
        exact gc_same (by rw [vW_n (by omega) (by simp; omega)])
      · dsimp only [m39]
        simp (maxSteps := 4000000) -implicitDefEqProofs -dsimp (disch := omega) only [↓AW_skip, ↓AW_ops, ↓AW_seq, ↓AW_cond, ↓AW_block, ↓AOps_nil, ↓AOps_pu, ↓AOps_guard, on_some, guardB_ff, condB_f, ↓then_normal, pval, rd_S, rd_C, put_S, ↓AW_toLoop, chkd, isAdr, bgot, AV.cells?, partA, eq_self, List.replicate_succ, List.replicate_zero, List.set_cons_zero, List.set_cons_succ, List.getElem?_cons_zero, List.getElem?_cons_succ, List.drop_zero, List.drop_succ_cons, List.take_zero, List.take_succ_cons, List.take_nil, Option.getD_some, List.length_cons, List.length_nil, Nat.reduceAdd, Nat.reduceSub, Nat.reduceLeDiff, Nat.zero_add, List.cons_append, List.nil_append, bin_lss, bin_gtr, if_true, if_false, Bool.false_eq_true, decide_false, h1, h2, h3, hw.ls.len]
        rw [vW_l (by omega) (by simp; omega)]
        refine LoopK.by 45 (fun i : Nat => i ≤ ws.length ∧ lsE P ((lists ws).take i) = 0) (fun i => [(1, .agg [I P, v]), (20, v), (21, I ws.length), (22, I i)]) (fun _ => A) (fun i => ws.length - i) 0 ⟨by omega, rfl⟩ rfl (by simp [Has, rd_s]) rfl ?_
        rintro i ⟨hi, he⟩
        by_cases hlt : i < ws.length
        · obtain ⟨x, hz⟩ : ∃ z, ws[i]? = some z := ⟨_, List.getElem?_eq_getElem hlt⟩
          have hlt' : (i : Int) < ws.length := by omega
          have hm := List.mem_of_getElem? hz
          have hx := hw.inn x hm
          have hx2 := hs2 x hm
          simp (maxSteps := 4000000) -implicitDefEqProofs -dsimp (disch := omega) only [↓AW_skip, ↓AW_ops, ↓AW_seq, ↓AW_cond, ↓AW_block, ↓AOps_nil, ↓AOps_pu, ↓AOps_ld, ↓AOps_call, on_some, condB_t, ↓then_normal, pval, lval, rd_S, put_S, chkd, isAdr, bgot, AV.cells?, partA, eq_self, mk, List.foldl_cons, List.foldl_nil, List.replicate_succ, List.replicate_zero, List.set_cons_zero, List.set_cons_succ, List.getElem?_cons_zero, List.getElem?_cons_succ, List.drop_zero, List.take_zero, List.take_succ_cons, List.take_nil, Option.getD_some, map_c, map_n, List.length_cons, List.length_nil, Nat.reduceAdd, Nat.reduceLeDiff, Nat.zero_add, bin_lss, if_true, if_false, Bool.false_eq_true, decide_true, hlt', hw.ls.idx hlt, hw.ls.ld0 hz 1 false (by decide), e0]
          refine CallK.of (s73 hx (by omega) P) ?_
          by_cases hp : ∀ p ∈ x.2, inP P p
          · rw [decide_eq_true hp]
            simp (maxSteps := 4000000) -implicitDefEqProofs -dsimp (disch := omega) only [↓AW_skip, ↓AW_ops, ↓AW_seq, ↓AW_cond, ↓AW_block, ↓AOps_nil, ↓AOps_pu, on_some, extK_same, condB_f, ↓then_normal, pval, rd_S, rd_C, put_S, ↓AW_toLoop, mk, List.foldl_cons, List.foldl_nil, List.replicate_succ, List.replicate_zero, List.set_cons_zero, List.set_cons_succ, List.getElem?_cons_zero, List.getElem?_cons_succ, Option.getD_some, Bool.not_true, hx.len]
            refine LoopK.by 45 (fun k : Nat => k ≤ x.2.length ∧ (x.2.take k).Nodup) (fun k => [(1, .agg [I P, v]), (4, x.1), (20, v), (21, I ws.length), (22, I i), (31, x.1), (32, I x.2.length), (33, I k)]) (fun _ => A) (fun k => x.2.length - k) 0 ⟨by omega, by simp⟩ rfl (by simp [Has, rd_s]) rfl ?_
            rintro k ⟨hk, hnd⟩
            by_cases hltk : k < x.2.length
            · obtain ⟨p, hzp⟩ : ∃ p, x.2[k]? = some p := ⟨_, List.getElem?_eq_getElem hltk⟩
              have hltk' : (k : Int) < x.2.length := by omega
              obtain ⟨v', hv', hL⟩ := Ls_takeS hx k (by omega)
              simp (maxSteps := 4000000) -implicitDefEqProofs -dsimp (disch := omega) only [↓AW_skip, ↓AW_ops, ↓AW_seq, ↓AW_cond, ↓AW_block, ↓AOps_nil, ↓AOps_pu, ↓AOps_ld, ↓AOps_call, on_some, condB_t, ↓then_normal, pval, lval, rd_S, put_S, partA, eq_self, mk, List.foldl_cons, List.foldl_nil, List.replicate_succ, List.replicate_zero, List.set_cons_zero, List.set_cons_succ, List.getElem?_cons_zero, List.getElem?_cons_succ, List.drop_zero, List.take_succ_cons, List.take_nil, Option.getD_some, Option.map_some, Option.map_none, map_c, map_n, List.length_cons, List.length_nil, Nat.reduceLeDiff, Nat.zero_add, bin_lss, if_true, if_false, Bool.false_eq_true, decide_true, Go.Eng.e1, hltk', hx.idx hltk, hx.ld0 hzp 1 false (by decide), hv']
              refine CallK.of (c_Contains hL (by rw [List.length_take]; omega) p) ?_
              by_cases hc : p ∈ x.2.take k
              · simp (maxSteps := 4000000) -implicitDefEqProofs -dsimp (disch := omega) only [↓AW_ops, ↓AW_seq, ↓AW_cond, ↓AW_ret, ↓AOps_nil, ↓AOps_pu, on_some, extK_same, condB_t, ↓then_normal, ↓then_ret, ↓inBlock_ret, ↓Fin_ret, pval, rd_S, rd_C, put_S, resV, resL, mk, List.foldl_cons, List.foldl_nil, List.replicate_succ, List.replicate_zero, List.set_cons_zero, List.set_cons_succ, List.getElem?_cons_zero, List.getElem?_cons_succ, Option.getD_some, decide_true, hc]
                have hb : lE P x.2 = 6 := by unfold lE; rw [if_pos hp, if_neg (not_nodup hzp hc)]
                exact gc_same (by rw [lsE_bad (ws_get hz) he (by rw [hb]; decide), hb])
              · simp (maxSteps := 4000000) -implicitDefEqProofs -dsimp (disch := omega) only [↓AW_skip, ↓AW_ops, ↓AW_cond, ↓AOps_nil, ↓AOps_pu, on_some, extK_same, condB_f, ↓then_normal, ↓inBlock_normal, pval, rd_S, rd_C, put_S, eq_self, mk, List.foldl_cons, List.foldl_nil, List.replicate_succ, List.replicate_zero, List.set_cons_zero, List.set_cons_succ, List.getElem?_cons_zero, List.getElem?_cons_succ, Option.getD_some, List.length_cons, List.length_nil, Nat.reduceAdd, Nat.zero_add, bin_add, w64, decide_false, true_and, hc]
                exact ⟨k + 1, ⟨hltk, nodup_take hzp hnd hc⟩, by simp [Has, rd_s], by omega⟩
            · have hltk' : ¬ ((k : Int) < x.2.length) := by omega
              rw [List.take_of_length_le (by omega)] at hnd
              simp (maxSteps := 4000000) -implicitDefEqProofs -dsimp (disch := omega) only [↓AW_ops, ↓AW_seq, ↓AW_cond, ↓AW_exit, ↓AW_ret, ↓AOps_nil, ↓AOps_pu, on_some, condB_f, ↓then_normal, ↓then_exit, ↓inBlock_normal, ↓inBlock_exit, ↓Fin_ret, pval, rd_S, rd_C, put_S, resV, resL, eq_self, mk, List.foldl_cons, List.foldl_nil, List.replicate_succ, List.replicate_zero, List.set_cons_zero, List.set_cons_succ, List.getElem?_cons_zero, List.getElem?_cons_succ, Option.getD_some, List.length_cons, List.length_nil, Nat.reduceAdd, Nat.reduceEqDiff, Nat.zero_add, bin_add, bin_lss, w64, if_true, if_false, decide_false, true_and, reduceCtorEq, hltk']
              exact ⟨i + 1, ⟨hlt, lsE_ok (ws_get hz) he (by unfold lE; rw [if_pos hp, if_pos hnd])⟩, by simp [Has, rd_s], by omega⟩
          · rw [decide_eq_false hp]
            simp (maxSteps := 4000000) -implicitDefEqProofs -dsimp (disch := omega) only [↓AW_ops, ↓AW_seq, ↓AW_cond, ↓AW_ret, ↓AOps_nil, ↓AOps_pu, on_some, extK_same, condB_t, ↓then_normal, ↓then_ret, ↓inBlock_ret, ↓Fin_ret, pval, rd_S, rd_C, put_S, resV, resL, mk, List.foldl_cons, List.foldl_nil, List.replicate_succ, List.replicate_zero, List.set_cons_zero, List.set_cons_succ, List.getElem?_cons_zero, List.getElem?_cons_succ, Option.getD_some, Bool.not_false]
            have hb : lE P x.2 = 1 := by unfold lE; rw [if_neg hp]
            exact gc_same (by rw [lsE_bad (ws_get hz) he (by rw [hb]; decide), hb])
        · have hlt' : ¬ ((i : Int) < ws.length) := by omega
          simp (maxSteps := 4000000) -implicitDefEqProofs -dsimp (disch := omega) only [↓AW_ops, ↓AW_seq, ↓AW_cond, ↓AW_exit, ↓AW_ret, ↓AOps_nil, ↓AOps_pu, on_some, condB_f, ↓then_normal, ↓then_exit, ↓inBlock_exit, ↓Fin_ret, pval, rd_S, rd_C, put_S, resV, resL, eq_self, mk, List.foldl_cons, List.foldl_nil, List.replicate_succ, List.replicate_zero, List.set_cons_zero, List.set_cons_succ, List.getElem?_cons_zero, List.getElem?_cons_succ, Option.getD_some, bin_lss, if_true, decide_false, hlt']
          rw [List.take_of_length_le (by simp; omega)] at he
          exact gc_same (by rw [he])
theorem s64 (n lo hi : Int) (A : AHeap) : ACalls Try.prog 64 [I n, I lo, I hi] A (B (decide (lo ≤ n ∧ n ≤ hi))) A := by
  refine acalls hmix Try.func64 (by kernel_rfl) t64 3 rfl (by decide) ?_
  by_cases h : lo ≤ n
  · dsimp only [m64]
    simp (maxSteps := 4000000) -implicitDefEqProofs -dsimp (disch := omega) only [↓AW_ops, ↓AW_seq, ↓AW_ret, ↓AOps_nil, ↓AOps_pu, ↓AOps_guard, on_some, guardB_tt, ↓then_normal, ↓Fin_ret, pval, rd_S, rd_C, put_S, resV, resL, eq_self, List.replicate_succ, List.replicate_zero, List.set_cons_zero, List.set_cons_succ, List.getElem?_cons_zero, List.getElem?_cons_succ, Option.getD_some, Nat.reduceSub, List.cons_append, List.nil_append, bin_leq, bin_geq, if_true, decide_true, true_and, h]
    exact gc_same rfl
  · dsimp only [m64]
    simp (maxSteps := 4000000) -implicitDefEqProofs -dsimp (disch := omega) only [↓AW_ops, ↓AW_seq, ↓AW_ret, ↓AOps_nil, ↓AOps_pu, ↓AOps_guard, on_some, guardB_ft, skipS_some, ↓then_normal, ↓Fin_ret, pval, rd_S, rd_C, put_S, resV, resL, List.replicate_succ, List.replicate_zero, List.set_cons_zero, List.set_cons_succ, List.getElem?_cons_zero, List.getElem?_cons_succ, Option.getD_some, Nat.reduceSub, List.cons_append, List.nil_append, bin_geq, if_false, Bool.false_eq_true, decide_false, h]
    exact gc_same rfl
theorem s65 {xs : List Int} {v : AV} {A : AHeap} (hx : L1 A v xs) (hl : xs.length ≤ 1000000) (p : Int) : ACalls Try.prog 65 [v, I p] A (B (decide (p ∈ xs))) A := by
  refine acalls hmix Try.func65 (by kernel_rfl) t65 2 rfl (by decide) ?_
  dsimp only [m65]
  simp (maxSteps := 4000000) -implicitDefEqProofs -dsimp (disch := omega) only [↓AW_ops, ↓AW_seq, ↓AW_block, ↓AOps_nil, ↓AOps_pu, on_some, ↓then_normal, pval, rd_C, put_S, ↓AW_toLoop, List.replicate_succ, List.replicate_zero, List.set_cons_zero, List.set_cons_succ, Nat.reduceSub, List.cons_append, List.nil_append]
  refine LoopK.by 18 (fun i : Nat => i ≤ xs.length ∧ p ∉ xs.take i) (fun i => [(0, v), (1, I p), (5, I i)]) (fun _ => A) (fun i => xs.length - i) 0 ⟨by omega, by simp⟩ rfl (by simp [Has, rd_s]) rfl ?_
  rintro i ⟨hi, he⟩
  by_cases hlt : i < xs.length
  · obtain ⟨z, hz⟩ : ∃ z, xs[i]? = some z := ⟨_, List.getElem?_eq_getElem hlt⟩
    have hlt' : (i : Int) < xs.length := by omega
    by_cases h : z = p
    · simp (maxSteps := 4000000) -implicitDefEqProofs -dsimp (disch := omega) only [↓AW_skip, ↓AW_ops, ↓AW_seq, ↓AW_cond, ↓AW_block, ↓AW_ret, ↓AOps_nil, ↓AOps_pu, ↓AOps_ld, on_some, condB_t, ↓then_normal, ↓then_ret, ↓inBlock_ret, ↓Fin_ret, pval, lval, rd_S, rd_C, put_S, resV, resL, partA, eq_self, mk, List.foldl_cons, List.foldl_nil, List.replicate_succ, List.replicate_zero, List.set_cons_zero, List.set_cons_succ, List.getElem?_cons_zero, List.getElem?_cons_succ, List.drop_zero, List.take_succ_cons, List.take_nil, Option.getD_some, List.length_cons, List.length_nil, Nat.reduceLeDiff, Nat.zero_add, bin_eql, bin_lss, if_true, if_false, Bool.false_eq_true, decide_true, Go.Eng.e1, hlt', hx.len, hx.idx hlt, hx.ld0 hz 1 false (by decide), h]
      exact gc_same (by rw [decide_eq_true (h ▸ List.mem_of_getElem? hz)])
    · simp (maxSteps := 4000000) -implicitDefEqProofs -dsimp (disch := omega) only [↓AW_skip, ↓AW_ops, ↓AW_seq, ↓AW_cond, ↓AW_block, ↓AOps_nil, ↓AOps_pu, ↓AOps_ld, on_some, condB_t, condB_f, ↓then_normal, ↓inBlock_normal, pval, lval, rd_S, rd_C, put_S, partA, eq_self, mk, List.foldl_cons, List.foldl_nil, List.replicate_succ, List.replicate_zero, List.set_cons_zero, List.set_cons_succ, List.getElem?_cons_zero, List.getElem?_cons_succ, List.drop_zero, List.take_succ_cons, List.take_nil, Option.getD_some, List.length_cons, List.length_nil, Nat.reduceAdd, Nat.reduceLeDiff, Nat.zero_add, bin_add, bin_eql, bin_lss, w64, if_true, if_false, Bool.false_eq_true, decide_true, decide_false, Go.Eng.e1, true_and, hlt', hx.len, hx.idx hlt, hx.ld0 hz 1 false (by decide), h]
      refine ⟨i + 1, ⟨hlt, fun hy => ?_⟩, by simp [Has, rd_s], by omega⟩
      rw [List.take_add_one, hz] at hy
      rcases List.mem_append.1 hy with hy | hy
      · exact he hy
      · have : p = z := by simpa using hy
        exact h this.symm
  · have hlt' : ¬ ((i : Int) < xs.length) := by omega
    simp (maxSteps := 4000000) -implicitDefEqProofs -dsimp (disch := omega) only [↓AW_ops, ↓AW_seq, ↓AW_cond, ↓AW_exit, ↓AW_ret, ↓AOps_nil, ↓AOps_pu, on_some, condB_f, ↓then_normal, ↓then_exit, ↓inBlock_exit, ↓Fin_ret, pval, rd_S, rd_C, put_S, resV, resL, eq_self, mk, List.foldl_cons, List.foldl_nil, List.replicate_succ, List.replicate_zero, List.set_cons_zero, List.set_cons_succ, List.getElem?_cons_zero, List.getElem?_cons_succ, Option.getD_some, bin_lss, if_true, decide_false, hlt', hx.len]
    rw [List.take_of_length_le (by omega)] at he
    exact gc_same (by rw [decide_eq_false he])
end Go.Proofs.Ytlmbobbefgcolaa

namespace Go.Proofs.Ytlmbobbefgcolaa
open Go Go.Eng
theorem all_take {α : Type} {p : α → Prop} {l : List α} {i : Nat} {z : α} (h : ∀ y ∈ l.take i, p y) (hz : l[i]? = some z) (hp : p z) : ∀ y ∈ l.take (i + 1), p y := by
  intro y hy
  rw [List.take_add_one, hz] at hy
  rcases List.mem_append.1 hy with hy | hy
  · exact h y hy
  · have : y = z := by simpa using hy
    rw [this]; exact hp
theorem s40 {P : Int} {ws : List (AV × List Int)} {v : AV} {A : AHeap} (hw : LL A v ws) (hs : Sz ws) : ACalls Try.prog 40 [.agg [I P, v]] A (I (vW P (lists ws))) A := by
  refine acalls hmix Try.func40 (by kernel_rfl) t40 1 rfl (by decide) ?_
  obtain ⟨hs1, hs2⟩ := hs
  dsimp only [m40]
  simp (maxSteps := 4000000) -implicitDefEqProofs -dsimp (disch := omega) only [↓AW_ops, ↓AW_seq, ↓AOps_nil, ↓AOps_pu, ↓AOps_call, on_some, ↓then_normal, pval, rd_S, rd_C, put_S, chkd, isAdr, bgot, AV.cells?, partA, eq_self, List.replicate_succ, List.replicate_zero, List.set_cons_zero, List.set_cons_succ, List.getElem?_cons_zero, List.getElem?_cons_succ, List.drop_zero, List.take_zero, List.take_succ_cons, Option.getD_some, map_c, map_n, List.length_cons, List.length_nil, Nat.reduceAdd, Nat.reduceSub, Nat.reduceLeDiff, Nat.zero_add, List.cons_append, List.nil_append, if_true, if_false, Bool.false_eq_true]
  refine CallK.of (s64 _ _ _ _) ?_
  by_cases h1 : 1 ≤ P ∧ P ≤ 7
  · simp (maxSteps := 4000000) -implicitDefEqProofs -dsimp (disch := omega) only [↓AW_skip, ↓AW_ops, ↓AW_seq, ↓AW_cond, ↓AOps_nil, ↓AOps_pu, on_some, extK_same, condB_f, ↓then_normal, pval, rd_S, rd_C, put_S, chkd, isAdr, bgot, AV.cells?, partA, eq_self, List.replicate_succ, List.replicate_zero, List.set_cons_zero, List.set_cons_succ, List.getElem?_cons_zero, List.getElem?_cons_succ, List.drop_zero, List.drop_succ_cons, List.take_succ_cons, List.take_nil, Option.getD_some, List.length_cons, List.length_nil, Nat.reduceAdd, Nat.reduceSub, Nat.reduceLeDiff, Nat.zero_add, List.cons_append, List.nil_append, bin_gtr, if_true, if_false, Bool.false_eq_true, Bool.not_true, decide_true, and_true, h1, hw.ls.len]
    by_cases h3 : (7 : Int) < ws.length
    · simp (maxSteps := 4000000) -implicitDefEqProofs -dsimp (disch := omega) only [↓AW_ops, ↓AW_seq, ↓AW_ret, ↓AOps_nil, ↓AOps_pu, on_some, condB_t, ↓then_normal, ↓then_ret, ↓Fin_ret, pval, rd_S, rd_C, put_S, resV, resL, List.replicate_succ, List.replicate_zero, List.set_cons_zero, List.set_cons_succ, List.getElem?_cons_zero, List.getElem?_cons_succ, Option.getD_some, Nat.reduceSub, List.cons_append, List.nil_append, decide_true, h3]
      exact gc_same (by rw [vW_n h1 (by simp; omega)])
    · simp (maxSteps := 4000000) -implicitDefEqProofs -dsimp (disch := omega) only [↓AW_skip, ↓AW_ops, ↓AW_seq, ↓AW_block, ↓AOps_nil, ↓AOps_pu, on_some, condB_f, ↓then_normal, pval, rd_C, put_S, ↓AW_toLoop, List.replicate_succ, List.replicate_zero, List.set_cons_zero, List.set_cons_succ, Nat.reduceSub, List.cons_append, List.nil_append, decide_false, h3]
      rw [vW_l h1 (by simp; omega)]
      refine LoopK.by 70 (fun i : Nat => i ≤ ws.length ∧ lsE P ((lists ws).take i) = 0) (fun i => [(1, .agg [I P, v]), (3, I i)]) (fun _ => A) (fun i => ws.length - i) 0 ⟨by omega, rfl⟩ rfl (by simp [Has, rd_s]) rfl ?_
      rintro i ⟨hi, he⟩
      by_cases hlt : i < ws.length
      · obtain ⟨x, hz⟩ : ∃ z, ws[i]? = some z := ⟨_, List.getElem?_eq_getElem hlt⟩
        have hlt' : (i : Int) < ws.length := by omega
        have hm := List.mem_of_getElem? hz
        have hx := hw.inn x hm
        have hx2 := hs2 x hm
        simp (maxSteps := 4000000) -implicitDefEqProofs -dsimp (disch := omega) only [↓AW_skip, ↓AW_ops, ↓AW_seq, ↓AW_cond, ↓AW_block, ↓AOps_nil, ↓AOps_pu, on_some, condB_t, ↓then_normal, pval, rd_S, rd_C, put_S, ↓AW_toLoop, chkd, isAdr, bgot, AV.cells?, partA, eq_self, mk, List.foldl_cons, List.foldl_nil, List.replicate_succ, List.replicate_zero, List.set_cons_zero, List.set_cons_succ, List.getElem?_cons_zero, List.getElem?_cons_succ, List.drop_zero, List.drop_succ_cons, List.take_succ_cons, List.take_nil, Option.getD_some, List.length_cons, List.length_nil, Nat.reduceAdd, Nat.reduceLeDiff, Nat.zero_add, bin_lss, if_true, if_false, Bool.false_eq_true, decide_true, hlt', hw.ls.len]
        refine LoopK.by 70 (fun k : Nat => k ≤ x.2.length ∧ ∀ p ∈ x.2.take k, inP P p) (fun k => [(1, .agg [I P, v]), (3, I i), (4, I k)]) (fun _ => A) (fun k => x.2.length - k) 0 ⟨by omega, by simp⟩ rfl (by simp [Has, rd_s]) rfl ?_
        rintro k ⟨hk, hnd⟩
        by_cases hltk : k < x.2.length
        · obtain ⟨p, hzp⟩ : ∃ p, x.2[k]? = some p := ⟨_, List.getElem?_eq_getElem hltk⟩
          have hltk' : (k : Int) < x.2.length := by omega
          simp (maxSteps := 4000000) -implicitDefEqProofs -dsimp (disch := omega) only [↓AW_skip, ↓AW_ops, ↓AW_seq, ↓AW_cond, ↓AW_block, ↓AOps_nil, ↓AOps_pu, ↓AOps_ld, ↓AOps_call, on_some, condB_t, ↓then_normal, pval, lval, rd_S, rd_C, put_S, chkd, isAdr, bgot, AV.cells?, partA, eq_self, mk, List.foldl_cons, List.foldl_nil, List.replicate_succ, List.replicate_zero, List.set_cons_zero, List.set_cons_succ, List.getElem?_cons_zero, List.getElem?_cons_succ, List.drop_zero, List.drop_succ_cons, List.take_zero, List.take_succ_cons, List.take_nil, Option.getD_some, map_c, map_n, List.length_cons, List.length_nil, Nat.reduceAdd, Nat.reduceLeDiff, Nat.zero_add, bin_sub, bin_lss, w64, if_true, if_false, Bool.false_eq_true, decide_true, Go.Eng.e1, hltk', hw.ls.idx hlt, hw.ls.ld0 hz 1 false (by decide), e0, hx.len, hx.idx hltk, hx.ld0 hzp 1 false (by decide)]
          refine CallK.of (s64 _ _ _ _) ?_
          by_cases hc : 0 ≤ p ∧ p ≤ P - 1
          · simp (maxSteps := 4000000) -implicitDefEqProofs -dsimp (disch := omega) only [↓AW_skip, ↓AW_ops, ↓AW_cond, ↓AOps_nil, ↓AOps_pu, on_some, extK_same, condB_f, ↓then_normal, ↓inBlock_normal, pval, rd_S, rd_C, put_S, eq_self, mk, List.foldl_cons, List.foldl_nil, List.replicate_succ, List.replicate_zero, List.set_cons_zero, List.set_cons_succ, List.getElem?_cons_zero, List.getElem?_cons_succ, Option.getD_some, List.length_cons, List.length_nil, Nat.reduceAdd, Nat.zero_add, bin_add, w64, Bool.not_true, decide_true, true_and, and_true, hc]
            exact ⟨k + 1, ⟨hltk, all_take hnd hzp ⟨by omega, by omega⟩⟩, by simp [Has, rd_s], by omega⟩
          · simp (maxSteps := 4000000) -implicitDefEqProofs -dsimp (disch := omega) only [↓AW_ops, ↓AW_seq, ↓AW_cond, ↓AW_ret, ↓AOps_nil, ↓AOps_pu, on_some, extK_same, condB_t, ↓then_normal, ↓then_ret, ↓inBlock_ret, ↓Fin_ret, pval, rd_S, rd_C, put_S, resV, resL, mk, List.foldl_cons, List.foldl_nil, List.replicate_succ, List.replicate_zero, List.set_cons_zero, List.set_cons_succ, List.getElem?_cons_zero, List.getElem?_cons_succ, Option.getD_some, Bool.not_false, decide_false, hc]
            have hb : lE P x.2 = 1 := by
              unfold lE; rw [if_neg]
              intro h
              have := h p (List.mem_of_getElem? hzp)
              exact hc ⟨this.1, by have := this.2; omega⟩
            exact gc_same (by rw [lsE_bad (ws_get hz) he (by rw [hb]; decide), hb])
        · have hltk' : ¬ ((k : Int) < x.2.length) := by omega
          rw [List.take_of_length_le (by omega)] at hnd
          simp (maxSteps := 4000000) -implicitDefEqProofs -dsimp (disch := omega) only [↓AW_ops, ↓AW_seq, ↓AW_cond, ↓AW_block, ↓AW_exit, ↓AW_ret, ↓AOps_nil, ↓AOps_pu, ↓AOps_ld, on_some, condB_f, ↓then_normal, ↓then_exit, ↓inBlock_exit, ↓Fin_ret, pval, lval, rd_S, rd_C, put_S, ↓AW_toLoop, resV, resL, chkd, isAdr, bgot, AV.cells?, partA, eq_self, mk, List.foldl_cons, List.foldl_nil, List.replicate_succ, List.replicate_zero, List.set_cons_zero, List.set_cons_succ, List.getElem?_cons_zero, List.getElem?_cons_succ, List.drop_zero, List.drop_succ_cons, List.take_succ_cons, List.take_nil, Option.getD_some, List.length_cons, List.length_nil, Nat.reduceAdd, Nat.reduceLeDiff, Nat.reduceEqDiff, Nat.zero_add, bin_add, bin_lss, w64, if_true, if_false, Bool.false_eq_true, decide_false, true_and, reduceCtorEq, hltk', hw.ls.idx hlt, hw.ls.ld0 hz 1 false (by decide), e0, hx.len]
          refine LoopK.by 70 (fun k : Nat => k ≤ x.2.length ∧ (x.2.take k).Nodup) (fun k => [(1, .agg [I P, v]), (3, I i), (5, I k)]) (fun _ => A) (fun k => x.2.length - k) 0 ⟨by omega, by simp⟩ rfl (by simp [Has, rd_s]) rfl ?_
          rintro k ⟨hk, hnd2⟩
          by_cases hltk : k < x.2.length
          · obtain ⟨p, hzp⟩ : ∃ p, x.2[k]? = some p := ⟨_, List.getElem?_eq_getElem hltk⟩
            have hltk' : (k : Int) < x.2.length := by omega
            obtain ⟨v', hv', hL⟩ := Ls_takeS hx k (by omega)
            simp (maxSteps := 4000000) -implicitDefEqProofs -dsimp (disch := omega) only [↓AW_skip, ↓AW_ops, ↓AW_seq, ↓AW_cond, ↓AW_block, ↓AOps_nil, ↓AOps_pu, ↓AOps_ld, ↓AOps_call, on_some, condB_t, ↓then_normal, pval, lval, rd_S, put_S, chkd, isAdr, bgot, AV.cells?, partA, eq_self, mk, List.foldl_cons, List.foldl_nil, List.replicate_succ, List.replicate_zero, List.set_cons_zero, List.set_cons_succ, List.getElem?_cons_zero, List.getElem?_cons_succ, List.drop_zero, List.drop_succ_cons, List.take_succ_cons, List.take_nil, Option.getD_some, Option.map_some, Option.map_none, map_c, map_n, List.length_cons, List.length_nil, Nat.reduceAdd, Nat.reduceLeDiff, Nat.zero_add, bin_lss, if_true, if_false, Bool.false_eq_true, decide_true, Go.Eng.e1, hltk', hw.ls.idx hlt, hw.ls.ld0 hz 1 false (by decide), e0, hx.len, hx.idx hltk, hx.ld0 hzp 1 false (by decide), hv']
            refine CallK.of (s65 hL (by rw [List.length_take]; omega) p) ?_
            by_cases hc : p ∈ x.2.take k
            · simp (maxSteps := 4000000) -implicitDefEqProofs -dsimp (disch := omega) only [↓AW_ops, ↓AW_seq, ↓AW_cond, ↓AW_ret, ↓AOps_nil, ↓AOps_pu, on_some, extK_same, condB_t, ↓then_normal, ↓then_ret, ↓inBlock_ret, ↓Fin_ret, pval, rd_S, rd_C, put_S, resV, resL, mk, List.foldl_cons, List.foldl_nil, List.replicate_succ, List.replicate_zero, List.set_cons_zero, List.set_cons_succ, List.getElem?_cons_zero, List.getElem?_cons_succ, Option.getD_some, decide_true, hc]
              have hb : lE P x.2 = 6 := by unfold lE; rw [if_pos hnd, if_neg (not_nodup hzp hc)]
              exact gc_same (by rw [lsE_bad (ws_get hz) he (by rw [hb]; decide), hb])
            · simp (maxSteps := 4000000) -implicitDefEqProofs -dsimp (disch := omega) only [↓AW_skip, ↓AW_ops, ↓AW_cond, ↓AOps_nil, ↓AOps_pu, on_some, extK_same, condB_f, ↓then_normal, ↓inBlock_normal, pval, rd_S, rd_C, put_S, eq_self, mk, List.foldl_cons, List.foldl_nil, List.replicate_succ, List.replicate_zero, List.set_cons_zero, List.set_cons_succ, List.getElem?_cons_zero, List.getElem?_cons_succ, Option.getD_some, List.length_cons, List.length_nil, Nat.reduceAdd, Nat.zero_add, bin_add, w64, decide_false, true_and, hc]
              exact ⟨k + 1, ⟨hltk, nodup_take hzp hnd2 hc⟩, by simp [Has, rd_s], by omega⟩
          · have hltk' : ¬ ((k : Int) < x.2.length) := by omega
            rw [List.take_of_length_le (by omega)] at hnd2
            simp (maxSteps := 4000000) -implicitDefEqProofs -dsimp (disch := omega) only [↓AW_ops, ↓AW_seq, ↓AW_cond, ↓AW_exit, ↓AW_ret, ↓AOps_nil, ↓AOps_pu, ↓AOps_ld, on_some, condB_f, ↓then_normal, ↓then_exit, ↓inBlock_normal, ↓inBlock_exit, ↓Fin_ret, pval, lval, rd_S, rd_C, put_S, resV, resL, chkd, isAdr, bgot, AV.cells?, partA, eq_self, mk, List.foldl_cons, List.foldl_nil, List.replicate_succ, List.replicate_zero, List.set_cons_zero, List.set_cons_succ, List.getElem?_cons_zero, List.getElem?_cons_succ, List.drop_zero, List.drop_succ_cons, List.take_succ_cons, List.take_nil, Option.getD_some, List.length_cons, List.length_nil, Nat.reduceAdd, Nat.reduceLeDiff, Nat.reduceEqDiff, Nat.zero_add, bin_add, bin_lss, w64, if_true, if_false, Bool.false_eq_true, decide_false, true_and, reduceCtorEq, hltk', hw.ls.idx hlt, hw.ls.ld0 hz 1 false (by decide), e0, hx.len]
            exact ⟨i + 1, ⟨hlt, lsE_ok (ws_get hz) he (by unfold lE; rw [if_pos hnd, if_pos hnd2])⟩, by simp [Has, rd_s], by omega⟩
      · have hlt' : ¬ ((i : Int) < ws.length) := by omega
        simp (maxSteps := 4000000) -implicitDefEqProofs -dsimp (disch := omega) only [↓AW_ops, ↓AW_seq, ↓AW_cond, ↓AW_exit, ↓AW_ret, ↓AOps_nil, ↓AOps_pu, on_some, condB_f, ↓then_normal, ↓then_exit, ↓inBlock_exit, ↓Fin_ret, pval, rd_S, rd_C, put_S, resV, resL, chkd, isAdr, bgot, AV.cells?, partA, eq_self, mk, List.foldl_cons, List.foldl_nil, List.replicate_succ, List.replicate_zero, List.set_cons_zero, List.set_cons_succ, List.getElem?_cons_zero, List.getElem?_cons_succ, List.drop_zero, List.drop_succ_cons, List.take_succ_cons, List.take_nil, Option.getD_some, List.length_cons, List.length_nil, Nat.reduceAdd, Nat.reduceLeDiff, Nat.zero_add, bin_lss, if_true, if_false, Bool.false_eq_true, decide_false, hlt', hw.ls.len]
        rw [List.take_of_length_le (by simp; omega)] at he
        exact gc_same (by rw [he])
  · simp (maxSteps := 4000000) -implicitDefEqProofs -dsimp (disch := omega) only [↓AW_ops, ↓AW_seq, ↓AW_cond, ↓AW_ret, ↓AOps_nil, ↓AOps_pu, on_some, extK_same, condB_t, ↓then_normal, ↓then_ret, ↓Fin_ret, pval, rd_S, rd_C, put_S, resV, resL, List.replicate_succ, List.replicate_zero, List.set_cons_zero, List.set_cons_succ, List.getElem?_cons_zero, List.getElem?_cons_succ, Option.getD_some, Nat.reduceSub, List.cons_append, List.nil_append, Bool.not_false, decide_false, h1]
    exact gc_same (by rw [vW_P h1])
/-- How many are served. -/
def srv (g : List Int) : Nat := g.countP (fun p => decide (0 ≤ p))
theorem srv_take {g : List Int} {i : Nat} {z : Int} (hz : g[i]? = some z) : srv (g.take (i + 1)) = srv (g.take i) + if 0 ≤ z then 1 else 0 := by
  unfold srv
  rw [List.take_add_one, hz, List.countP_append]
  simp [List.countP_cons]
theorem srv_le (g : List Int) : srv g ≤ g.length := List.countP_le_length
theorem s61 {g : List Int} {v : AV} {A : AHeap} (hx : L1 A v g) (hl : g.length ≤ 1000000) : ACalls Try.prog 61 [v] A (I (srv g)) A := by
  refine acalls hmix Try.func61 (by kernel_rfl) t61 1 rfl (by decide) ?_
  dsimp only [m61]
  simp (maxSteps := 4000000) -implicitDefEqProofs -dsimp (disch := omega) only [↓AW_ops, ↓AW_seq, ↓AW_block, ↓AOps_nil, ↓AOps_pu, on_some, ↓then_normal, pval, rd_S, rd_C, put_S, ↓AW_toLoop, List.replicate_succ, List.replicate_zero, List.set_cons_zero, List.set_cons_succ, List.getElem?_cons_zero, List.getElem?_cons_succ, Option.getD_some, Nat.reduceSub, List.cons_append, List.nil_append, hx.len]
  refine LoopK.by 18 (fun i : Nat => i ≤ g.length) (fun i => [(3, I (srv (g.take i))), (6, v), (7, I g.length), (8, I i)]) (fun _ => A) (fun i => g.length - i) 0 (by omega) rfl (by simp [Has, rd_s, srv]) rfl ?_
  intro i hi
  have hle := srv_le (g.take i)
  rw [List.length_take] at hle
  by_cases hlt : i < g.length
  · obtain ⟨z, hz⟩ : ∃ z, g[i]? = some z := ⟨_, List.getElem?_eq_getElem hlt⟩
    have hlt' : (i : Int) < g.length := by omega
    by_cases h : 0 ≤ z
    · simp (maxSteps := 4000000) -implicitDefEqProofs -dsimp (disch := omega) only [↓AW_skip, ↓AW_ops, ↓AW_seq, ↓AW_cond, ↓AW_block, ↓AOps_nil, ↓AOps_pu, ↓AOps_ld, on_some, condB_t, ↓then_normal, ↓inBlock_normal, pval, lval, rd_S, rd_C, put_S, partA, eq_self, mk, List.foldl_cons, List.foldl_nil, List.replicate_succ, List.replicate_zero, List.set_cons_zero, List.set_cons_succ, List.getElem?_cons_zero, List.getElem?_cons_succ, List.drop_zero, List.take_succ_cons, List.take_nil, Option.getD_some, List.length_cons, List.length_nil, Nat.reduceAdd, Nat.reduceLeDiff, Nat.zero_add, bin_add, bin_lss, bin_geq, w64, if_true, if_false, Bool.false_eq_true, decide_true, Go.Eng.e1, true_and, hlt', hx.idx hlt, hx.ld0 hz 1 false (by decide), h]
      exact ⟨i + 1, hlt, by simp [Has, rd_s, srv_take hz, h], by omega⟩
    · simp (maxSteps := 4000000) -implicitDefEqProofs -dsimp (disch := omega) only [↓AW_skip, ↓AW_ops, ↓AW_seq, ↓AW_cond, ↓AW_block, ↓AOps_nil, ↓AOps_pu, ↓AOps_ld, on_some, condB_t, condB_f, ↓then_normal, ↓inBlock_normal, pval, lval, rd_S, rd_C, put_S, partA, eq_self, mk, List.foldl_cons, List.foldl_nil, List.replicate_succ, List.replicate_zero, List.set_cons_zero, List.set_cons_succ, List.getElem?_cons_zero, List.getElem?_cons_succ, List.drop_zero, List.take_succ_cons, List.take_nil, Option.getD_some, List.length_cons, List.length_nil, Nat.reduceAdd, Nat.reduceLeDiff, Nat.zero_add, bin_add, bin_lss, bin_geq, w64, if_true, if_false, Bool.false_eq_true, decide_true, decide_false, Go.Eng.e1, true_and, hlt', hx.idx hlt, hx.ld0 hz 1 false (by decide), h]
      exact ⟨i + 1, hlt, by simp [Has, rd_s, srv_take hz, h], by omega⟩
  · have hlt' : ¬ ((i : Int) < g.length) := by omega
    simp (maxSteps := 4000000) -implicitDefEqProofs -dsimp (disch := omega) only [↓AW_ops, ↓AW_seq, ↓AW_cond, ↓AW_exit, ↓AW_ret, ↓AOps_nil, ↓AOps_pu, on_some, condB_f, ↓then_normal, ↓then_exit, ↓inBlock_exit, ↓Fin_ret, pval, rd_S, put_S, resV, resL, eq_self, mk, List.foldl_cons, List.foldl_nil, List.replicate_succ, List.replicate_zero, List.set_cons_zero, List.set_cons_succ, List.getElem?_cons_zero, List.getElem?_cons_succ, Option.getD_some, bin_lss, if_true, decide_false, hlt']
    exact gc_same (by rw [List.take_of_length_le (by omega)])
theorem s66 {g : List Int} {v : AV} {A : AHeap} (hx : L1 A v g) (hl : g.length ≤ 1000000) : ACalls Try.prog 66 [v] A (I (srv g)) A := by
  refine acalls hmix Try.func66 (by kernel_rfl) t66 1 rfl (by decide) ?_
  dsimp only [m66]
  simp (maxSteps := 4000000) -implicitDefEqProofs -dsimp (disch := omega) only [↓AW_ops, ↓AW_seq, ↓AW_block, ↓AOps_nil, ↓AOps_pu, on_some, ↓then_normal, pval, rd_C, put_S, ↓AW_toLoop, List.replicate_succ, List.replicate_zero, List.set_cons_zero, List.set_cons_succ, Nat.reduceSub, List.cons_append, List.nil_append]
  refine LoopK.by 19 (fun i : Nat => i ≤ g.length) (fun i => [(0, v), (3, I (srv (g.take i))), (4, I i)]) (fun _ => A) (fun i => g.length - i) 0 (by omega) rfl (by simp [Has, rd_s, srv]) rfl ?_
  intro i hi
  have hle := srv_le (g.take i)
  rw [List.length_take] at hle
  by_cases hlt : i < g.length
  · obtain ⟨z, hz⟩ : ∃ z, g[i]? = some z := ⟨_, List.getElem?_eq_getElem hlt⟩
    have hlt' : (i : Int) < g.length := by omega
    by_cases h : 0 ≤ z
    · simp (maxSteps := 4000000) -implicitDefEqProofs -dsimp (disch := omega) only [↓AW_skip, ↓AW_ops, ↓AW_seq, ↓AW_cond, ↓AW_block, ↓AOps_nil, ↓AOps_pu, ↓AOps_ld, on_some, condB_t, ↓then_normal, ↓inBlock_normal, pval, lval, rd_S, rd_C, put_S, partA, eq_self, mk, List.foldl_cons, List.foldl_nil, List.replicate_succ, List.replicate_zero, List.set_cons_zero, List.set_cons_succ, List.getElem?_cons_zero, List.getElem?_cons_succ, List.drop_zero, List.take_succ_cons, List.take_nil, Option.getD_some, List.length_cons, List.length_nil, Nat.reduceAdd, Nat.reduceLeDiff, Nat.zero_add, bin_add, bin_lss, bin_geq, w64, if_true, if_false, Bool.false_eq_true, decide_true, Go.Eng.e1, true_and, hlt', hx.len, hx.idx hlt, hx.ld0 hz 1 false (by decide), h]
      exact ⟨i + 1, hlt, by simp [Has, rd_s, srv_take hz, h], by omega⟩
    · simp (maxSteps := 4000000) -implicitDefEqProofs -dsimp (disch := omega) only [↓AW_skip, ↓AW_ops, ↓AW_seq, ↓AW_cond, ↓AW_block, ↓AOps_nil, ↓AOps_pu, ↓AOps_ld, on_some, condB_t, condB_f, ↓then_normal, ↓inBlock_normal, pval, lval, rd_S, rd_C, put_S, partA, eq_self, mk, List.foldl_cons, List.foldl_nil, List.replicate_succ, List.replicate_zero, List.set_cons_zero, List.set_cons_succ, List.getElem?_cons_zero, List.getElem?_cons_succ, List.drop_zero, List.take_succ_cons, List.take_nil, Option.getD_some, List.length_cons, List.length_nil, Nat.reduceAdd, Nat.reduceLeDiff, Nat.zero_add, bin_add, bin_lss, bin_geq, w64, if_true, if_false, Bool.false_eq_true, decide_true, decide_false, Go.Eng.e1, true_and, hlt', hx.len, hx.idx hlt, hx.ld0 hz 1 false (by decide), h]
      exact ⟨i + 1, hlt, by simp [Has, rd_s, srv_take hz, h], by omega⟩
  · have hlt' : ¬ ((i : Int) < g.length) := by omega
    simp (maxSteps := 4000000) -implicitDefEqProofs -dsimp (disch := omega) only [↓AW_ops, ↓AW_seq, ↓AW_cond, ↓AW_exit, ↓AW_ret, ↓AOps_nil, ↓AOps_pu, on_some, condB_f, ↓then_normal, ↓then_exit, ↓inBlock_exit, ↓Fin_ret, pval, rd_S, put_S, resV, resL, eq_self, mk, List.foldl_cons, List.foldl_nil, List.replicate_succ, List.replicate_zero, List.set_cons_zero, List.set_cons_succ, List.getElem?_cons_zero, List.getElem?_cons_succ, Option.getD_some, bin_lss, if_true, decide_false, hlt', hx.len]
    exact gc_same (by rw [List.take_of_length_le (by omega)])
def gR (P : Int) (p : Int) : Prop := -1 ≤ p ∧ p < P
instance (P p : Int) : Decidable (gR P p) := by unfold gR; exact inferInstance
def okP (x : Int × List Int) : Prop := 0 ≤ x.1 → x.1 ∈ x.2
instance (x : Int × List Int) : Decidable (okP x) := by unfold okP; exact inferInstance
def given (g : List Int) : List Int := g.filter (fun p => decide (0 ≤ p))
/-- The error of a giving. -/
def gE (P : Int) (ls : List (List Int)) (g : List Int) : Int :=
  if vW P ls = 0 then (if g.length = ls.length ∧ ∀ p ∈ g, gR P p then (if ∀ x ∈ g.zip ls, okP x then (if (given g).Nodup then 0 else 6) else 8) else 1) else vW P ls
def gN (P : Int) (ls : List (List Int)) (g : List Int) : Int := if gE P ls g = 0 then srv g else 0
theorem gE_v {P : Int} {ls : List (List Int)} {g : List Int} (h : vW P ls ≠ 0) : gE P ls g = vW P ls := by unfold gE; rw [if_neg h]
theorem gE_1 {P : Int} {ls : List (List Int)} {g : List Int} (h : vW P ls = 0) (h1 : ¬ (g.length = ls.length ∧ ∀ p ∈ g, gR P p)) : gE P ls g = 1 := by unfold gE; rw [if_pos h, if_neg h1]
theorem gE_8 {P : Int} {ls : List (List Int)} {g : List Int} (h : vW P ls = 0) (h1 : g.length = ls.length ∧ ∀ p ∈ g, gR P p) (h2 : ¬ ∀ x ∈ g.zip ls, okP x) : gE P ls g = 8 := by unfold gE; rw [if_pos h, if_pos h1, if_neg h2]
theorem gE_6 {P : Int} {ls : List (List Int)} {g : List Int} (h : vW P ls = 0) (h1 : g.length = ls.length ∧ ∀ p ∈ g, gR P p) (h2 : ∀ x ∈ g.zip ls, okP x) (h3 : ¬ (given g).Nodup) : gE P ls g = 6 := by unfold gE; rw [if_pos h, if_pos h1, if_pos h2, if_neg h3]
theorem gE_0 {P : Int} {ls : List (List Int)} {g : List Int} (h : vW P ls = 0) (h1 : g.length = ls.length ∧ ∀ p ∈ g, gR P p) (h2 : ∀ x ∈ g.zip ls, okP x) (h3 : (given g).Nodup) : gE P ls g = 0 := by unfold gE; rw [if_pos h, if_pos h1, if_pos h2, if_pos h3]
theorem zip_get {g : List Int} {ls : List (List Int)} {i : Nat} {p : Int} {l : List Int} (h : g[i]? = some p) (k : ls[i]? = some l) : (g.zip ls)[i]? = some (p, l) := by
  rw [List.getElem?_zip_eq_some]
  exact ⟨h, k⟩
theorem given_take {g : List Int} {i : Nat} {z : Int} (hz : g[i]? = some z) : given (g.take (i + 1)) = given (g.take i) ++ if 0 ≤ z then [z] else [] := by
  unfold given
  rw [List.take_add_one, hz, List.filter_append]
  simp [List.filter_cons]
theorem given_mem {g : List Int} {z : Int} (h : 0 ≤ z) : z ∈ given g ↔ z ∈ g := by simp [given, h]
theorem given_bad {g : List Int} {i : Nat} {z : Int} (hz : g[i]? = some z) (h0 : 0 ≤ z) (h : z ∈ g.take i) : ¬ (given g).Nodup := by
  have hi : i < g.length := (List.getElem?_eq_some_iff.1 hz).1
  have e : g = g.take i ++ z :: g.drop (i + 1) := by
    have := (List.getElem?_eq_some_iff.1 hz).2
    rw [← this, List.getElem_cons_drop, List.take_append_drop]
  intro hn
  rw [e] at hn
  unfold given at hn
  rw [List.filter_append, List.nodup_append] at hn
  exact hn.2.2 z (by simp [h, h0]) z (by simp [h0]) rfl
theorem s70 {P p : Int} {v : AV} {A : AHeap} : ACalls Try.prog 70 [I p, .ptr A.length 0] (A ++ [.cells true [I P, v]]) (B (!decide (gR P p))) (A ++ [.cells true [I P, v]]) := by
  refine acalls hmix Try.func70 (by kernel_rfl) t70 2 rfl (by decide) ?_
  by_cases h1 : p < -1
  · dsimp only [m70]
    simp (maxSteps := 4000000) -implicitDefEqProofs -dsimp (disch := omega) only [↓AW_ops, ↓AW_seq, ↓AW_ret, ↓AOps_nil, ↓AOps_pu, ↓AOps_guard, on_some, guardB_tf, skipS_some, ↓then_normal, ↓Fin_ret, pval, rd_S, rd_C, put_S, resV, resL, eq_self, List.replicate_succ, List.replicate_zero, List.set_cons_zero, List.set_cons_succ, List.getElem?_cons_zero, List.getElem?_cons_succ, Option.getD_some, Nat.reduceSub, List.cons_append, List.nil_append, bin_lss, if_true, decide_true, Int.reduceNeg, h1]
    exact gc_same (by rw [decide_eq_false (fun h2 : gR P p => by have := h2.1; omega)]; rfl)
  · dsimp only [m70]
    simp (maxSteps := 4000000) -implicitDefEqProofs -dsimp (disch := omega) only [↓AW_ops, ↓AW_seq, ↓AW_ret, ↓AOps_nil, ↓AOps_pu, ↓AOps_ld, ↓AOps_guard, on_some, guardB_ff, ↓then_normal, ↓Fin_ret, pval, lval, rd_S, rd_C, put_S, resV, resL, List.replicate_succ, List.replicate_zero, List.set_cons_zero, List.set_cons_succ, List.getElem?_cons_zero, List.getElem?_cons_succ, Option.getD_some, Nat.reduceSub, Nat.add_zero, List.cons_append, List.nil_append, bin_lss, bin_geq, if_false, Bool.false_eq_true, decide_false, Int.reduceNeg, h1, ld_new]
    refine gc_same ?_
    have : gR P p ↔ ¬ P ≤ p := by unfold gR; omega
    congr 1
    rw [Bool.eq_iff_iff]
    simp [this]
theorem s33 {P : Int} {ws : List (AV × List Int)} {v : AV} {g : List Int} {u : AV} {A : AHeap} (hw : LL A v ws) (hs : Sz ws) (hg : L1 A u g) (hgl : g.length ≤ 1000000) : ACalls Try.prog 33 [.agg [I P, v], u] A (.tuple [I (gN P (lists ws) g), I (gE P (lists ws) g)]) A := by
  refine acalls hmix Try.func33 (by kernel_rfl) t33 2 rfl (by decide) ?_
  have hw2 := hw.mono (pre_app A [.cells true [I P, v]])
  have hg2 := hg.mono (pre_app A [.cells true [I P, v]])
  dsimp only [m33]
  simp (maxSteps := 4000000) -implicitDefEqProofs -dsimp (disch := omega) only [↓AW_ops, ↓AW_seq, ↓AOps_nil, ↓AOps_pu, ↓AOps_ld, ↓AOps_ha, ↓AOps_call, on_some, extK_app, ↓then_normal, pval, lval, hval, rd_S, rd_C, put_S, AV.cells?, List.replicate_succ, List.replicate_zero, List.set_cons_zero, List.set_cons_succ, List.getElem?_cons_zero, List.getElem?_cons_succ, Option.getD_some, map_c, map_n, Nat.reduceSub, List.cons_append, List.nil_append, ld_new2]
  refine CallK.of (s39 hw2 hs) ?_
  by_cases h0 : vW P (lists ws) = 0
  · by_cases hlen : g.length = ws.length
    · have hlen' : (g.length : Int) = ws.length := by omega
      simp (maxSteps := 4000000) -implicitDefEqProofs -dsimp (disch := omega) only [↓AW_skip, ↓AW_ops, ↓AW_seq, ↓AW_cond, ↓AOps_nil, ↓AOps_pu, ↓AOps_ld, ↓AOps_call, ↓AOps_guard, on_some, extK_same, guardB_ff, condB_f, ↓then_normal, pval, lval, rd_S, rd_C, put_S, eq_self, List.replicate_succ, List.replicate_zero, List.set_cons_zero, List.set_cons_succ, List.getElem?_cons_zero, List.getElem?_cons_succ, Option.getD_some, map_c, map_n, Nat.reduceSub, Nat.zero_add, List.cons_append, List.nil_append, bin_neq, decide_false, not_true_eq_false, h0, hg2.len, ld_new1, hw2.ls.len, hlen']
      refine CallK.of (c_ContainsFunc hg2 hgl 70 [.ptr A.length 0] (fun p => !decide (gR P p)) (fun x _ => s70)) ?_
      by_cases hr : ∀ p ∈ g, gR P p
      · have hr' : (g.any fun p => !decide (gR P p)) = false := by simpa using hr
        have h1 : g.length = (lists ws).length ∧ ∀ p ∈ g, gR P p := ⟨by simp [hlen], hr⟩
        simp (maxSteps := 4000000) -implicitDefEqProofs -dsimp (disch := omega) only [↓AW_skip, ↓AW_ops, ↓AW_seq, ↓AW_cond, ↓AW_block, ↓AOps_nil, ↓AOps_pu, on_some, extK_same, condB_f, ↓then_normal, pval, rd_S, rd_C, put_S, ↓AW_toLoop, List.replicate_succ, List.replicate_zero, List.set_cons_zero, List.set_cons_succ, List.getElem?_cons_zero, List.getElem?_cons_succ, Option.getD_some, Nat.reduceSub, List.cons_append, List.nil_append, if_false, Bool.false_eq_true, hr', hg2.len]
        refine LoopK.by 66 (fun i : Nat => i ≤ g.length ∧ ∀ x ∈ (g.zip (lists ws)).take i, okP x) (fun i => [(1, u), (2, .ptr A.length 0), (27, u), (28, I g.length), (29, I i)]) (fun _ => A ++ [.cells true [I P, v]]) (fun i => g.length - i) 0 ⟨by omega, by simp⟩ rfl (by simp [Has, rd_s, hlen]) rfl ?_
        rintro i ⟨hi, he⟩
        by_cases hlt : i < g.length
        · obtain ⟨z, hz⟩ : ∃ z, g[i]? = some z := ⟨_, List.getElem?_eq_getElem hlt⟩
          have hlt' : (i : Int) < g.length := by omega
          have hltw : i < ws.length := by omega
          obtain ⟨x, hx⟩ : ∃ x, ws[i]? = some x := ⟨_, List.getElem?_eq_getElem hltw⟩
          have hm := List.mem_of_getElem? hx
          have hzx := zip_get hz (ws_get hx)
          by_cases hz0 : 0 ≤ z
          · simp (maxSteps := 4000000) -implicitDefEqProofs -dsimp (disch := omega) only [↓AW_skip, ↓AW_ops, ↓AW_seq, ↓AW_cond, ↓AW_block, ↓AOps_nil, ↓AOps_pu, ↓AOps_ld, ↓AOps_call, ↓AOps_guard, on_some, guardB_tt, condB_t, ↓then_normal, pval, lval, rd_S, rd_C, put_S, partA, eq_self, mk, List.foldl_cons, List.foldl_nil, List.replicate_succ, List.replicate_zero, List.set_cons_zero, List.set_cons_succ, List.getElem?_cons_zero, List.getElem?_cons_succ, List.drop_zero, List.take_succ_cons, List.take_nil, Option.getD_some, map_c, map_n, List.length_cons, List.length_nil, Nat.reduceLeDiff, Nat.zero_add, bin_lss, bin_geq, if_true, if_false, Bool.false_eq_true, decide_true, Go.Eng.e1, hlt', hg2.idx hlt, hg2.ld0 hz 1 false (by decide), hz0, ld_new1, hw2.ls.idx hltw, hw2.ls.ld0 hx 1 false (by decide), e0]
            refine CallK.of (c_Contains (hw2.inn x hm) (by have := hs.2 x hm; omega) z) ?_
            by_cases hc : z ∈ x.2
            · simp (maxSteps := 4000000) -implicitDefEqProofs -dsimp (disch := omega) only [↓AW_skip, ↓AW_ops, ↓AW_cond, ↓AOps_nil, ↓AOps_pu, ↓AOps_guard, on_some, extK_same, guardB_tt, condB_f, ↓then_normal, ↓inBlock_normal, pval, rd_S, rd_C, put_S, eq_self, mk, List.foldl_cons, List.foldl_nil, List.replicate_succ, List.replicate_zero, List.set_cons_zero, List.set_cons_succ, List.getElem?_cons_zero, List.getElem?_cons_succ, Option.getD_some, List.length_cons, List.length_nil, Nat.reduceAdd, Nat.zero_add, bin_add, w64, if_true, Bool.not_true, decide_true, true_and, hc]
              exact ⟨i + 1, ⟨hlt, all_take he hzx (fun _ => hc)⟩, by simp [Has, rd_s], by omega⟩
            · simp (maxSteps := 4000000) -implicitDefEqProofs -dsimp (disch := omega) only [↓AW_ops, ↓AW_seq, ↓AW_cond, ↓AW_ret, ↓AOps_nil, ↓AOps_pu, ↓AOps_guard, on_some, extK_same, guardB_tt, condB_t, ↓then_normal, ↓then_ret, ↓inBlock_ret, ↓Fin_ret, pval, rd_S, rd_C, put_S, resV, resL, eq_self, mk, List.foldl_cons, List.foldl_nil, List.replicate_succ, List.replicate_zero, List.set_cons_zero, List.set_cons_succ, List.getElem?_cons_zero, List.getElem?_cons_succ, Option.getD_some, if_true, Bool.not_false, decide_false, hc]
              have hE := gE_8 h0 h1 (fun h => hc (h _ (List.mem_of_getElem? hzx) hz0))
              exact gc_val (pre_app _ _) (by simp [gN, hE, ren])
          · simp (maxSteps := 4000000) -implicitDefEqProofs -dsimp (disch := omega) only [↓AW_skip, ↓AW_ops, ↓AW_seq, ↓AW_cond, ↓AW_block, ↓AOps_nil, ↓AOps_pu, ↓AOps_ld, ↓AOps_guard, on_some, guardB_ft, skipS_some, condB_t, condB_f, ↓then_normal, ↓inBlock_normal, pval, lval, rd_S, rd_C, put_S, partA, eq_self, mk, List.foldl_cons, List.foldl_nil, List.replicate_succ, List.replicate_zero, List.set_cons_zero, List.set_cons_succ, List.getElem?_cons_zero, List.getElem?_cons_succ, List.drop_zero, List.take_succ_cons, List.take_nil, Option.getD_some, List.length_cons, List.length_nil, Nat.reduceAdd, Nat.reduceLeDiff, Nat.zero_add, bin_add, bin_lss, bin_geq, w64, if_true, if_false, Bool.false_eq_true, decide_true, decide_false, Go.Eng.e1, true_and, hlt', hg2.idx hlt, hg2.ld0 hz 1 false (by decide), hz0]
            exact ⟨i + 1, ⟨hlt, all_take he hzx (fun h => absurd h hz0)⟩, by simp [Has, rd_s], by omega⟩
        · have hlt' : ¬ ((i : Int) < g.length) := by omega
          rw [List.take_of_length_le (by rw [List.length_zip]; omega)] at he
          simp (maxSteps := 4000000) -implicitDefEqProofs -dsimp (disch := omega) only [↓AW_ops, ↓AW_seq, ↓AW_cond, ↓AW_block, ↓AW_exit, ↓AOps_nil, ↓AOps_pu, on_some, condB_f, ↓then_normal, ↓then_exit, ↓inBlock_exit, pval, rd_S, rd_C, put_S, ↓AW_toLoop, eq_self, mk, List.foldl_cons, List.foldl_nil, List.replicate_succ, List.replicate_zero, List.set_cons_zero, List.set_cons_succ, List.getElem?_cons_zero, List.getElem?_cons_succ, Option.getD_some, bin_lss, if_true, decide_false, hlt', hg2.len]
          refine LoopK.by 66 (fun i : Nat => i ≤ g.length ∧ (given (g.take i)).Nodup) (fun i => [(1, u), (47, u), (48, I g.length), (49, I i)]) (fun _ => A ++ [.cells true [I P, v]]) (fun i => g.length - i) 0 ⟨by omega, by simp [given]⟩ rfl (by simp [Has, rd_s]) rfl ?_
          rintro i ⟨hi, hnd⟩
          by_cases hlt : i < g.length
          · obtain ⟨z, hz⟩ : ∃ z, g[i]? = some z := ⟨_, List.getElem?_eq_getElem hlt⟩
            have hlt' : (i : Int) < g.length := by omega
            by_cases hz0 : 0 ≤ z
            · obtain ⟨v', hv', hL⟩ := Ls_takeS hg2 i (by omega)
              simp (maxSteps := 4000000) -implicitDefEqProofs -dsimp (disch := omega) only [↓AW_skip, ↓AW_ops, ↓AW_seq, ↓AW_cond, ↓AW_block, ↓AOps_nil, ↓AOps_pu, ↓AOps_ld, ↓AOps_call, ↓AOps_guard, on_some, guardB_tt, condB_t, ↓then_normal, pval, lval, rd_S, rd_C, put_S, partA, eq_self, mk, List.foldl_cons, List.foldl_nil, List.replicate_succ, List.replicate_zero, List.set_cons_zero, List.set_cons_succ, List.getElem?_cons_zero, List.getElem?_cons_succ, List.drop_zero, List.take_succ_cons, List.take_nil, Option.getD_some, Option.map_some, Option.map_none, map_c, map_n, List.length_cons, List.length_nil, Nat.reduceLeDiff, Nat.zero_add, bin_lss, bin_geq, if_true, if_false, Bool.false_eq_true, decide_true, Go.Eng.e1, hlt', hg2.idx hlt, hg2.ld0 hz 1 false (by decide), hz0, hv']
              refine CallK.of (c_Contains hL (by rw [List.length_take]; omega) z) ?_
              by_cases hc : z ∈ g.take i
              · simp (maxSteps := 4000000) -implicitDefEqProofs -dsimp (disch := omega) only [↓AW_ops, ↓AW_seq, ↓AW_cond, ↓AW_ret, ↓AOps_nil, ↓AOps_pu, on_some, extK_same, condB_t, ↓then_normal, ↓then_ret, ↓inBlock_ret, ↓Fin_ret, pval, rd_S, rd_C, put_S, resV, resL, eq_self, mk, List.foldl_cons, List.foldl_nil, List.replicate_succ, List.replicate_zero, List.set_cons_zero, List.set_cons_succ, List.getElem?_cons_zero, List.getElem?_cons_succ, Option.getD_some, if_true, decide_true, hc]
                have hE := gE_6 h0 h1 he (given_bad hz hz0 hc)
                exact gc_val (pre_app _ _) (by simp [gN, hE, ren])
              · simp (maxSteps := 4000000) -implicitDefEqProofs -dsimp (disch := omega) only [↓AW_skip, ↓AW_ops, ↓AW_cond, ↓AOps_nil, ↓AOps_pu, on_some, extK_same, condB_f, ↓then_normal, ↓inBlock_normal, pval, rd_S, rd_C, put_S, eq_self, mk, List.foldl_cons, List.foldl_nil, List.replicate_succ, List.replicate_zero, List.set_cons_zero, List.set_cons_succ, List.getElem?_cons_zero, List.getElem?_cons_succ, Option.getD_some, List.length_cons, List.length_nil, Nat.reduceAdd, Nat.zero_add, bin_add, w64, if_true, decide_false, true_and, hc]
                refine ⟨i + 1, ⟨hlt, ?_⟩, by simp [Has, rd_s], by omega⟩
                rw [given_take hz, if_pos hz0, List.nodup_append]
                refine ⟨hnd, by simp, fun a ha b hb => ?_⟩
                have hbz : b = z := by simpa using hb
                rw [hbz]
                rintro rfl
                exact hc ((given_mem hz0).1 ha)
            · simp (maxSteps := 4000000) -implicitDefEqProofs -dsimp (disch := omega) only [↓AW_skip, ↓AW_ops, ↓AW_seq, ↓AW_cond, ↓AW_block, ↓AOps_nil, ↓AOps_pu, ↓AOps_ld, ↓AOps_guard, on_some, guardB_ft, skipS_some, condB_t, condB_f, ↓then_normal, ↓inBlock_normal, pval, lval, rd_S, rd_C, put_S, partA, eq_self, mk, List.foldl_cons, List.foldl_nil, List.replicate_succ, List.replicate_zero, List.set_cons_zero, List.set_cons_succ, List.getElem?_cons_zero, List.getElem?_cons_succ, List.drop_zero, List.take_succ_cons, List.take_nil, Option.getD_some, List.length_cons, List.length_nil, Nat.reduceAdd, Nat.reduceLeDiff, Nat.zero_add, bin_add, bin_lss, bin_geq, w64, if_true, if_false, Bool.false_eq_true, decide_true, decide_false, Go.Eng.e1, true_and, hlt', hg2.idx hlt, hg2.ld0 hz 1 false (by decide), hz0]
              exact ⟨i + 1, ⟨hlt, by rw [given_take hz, if_neg hz0, List.append_nil]; exact hnd⟩, by simp [Has, rd_s], by omega⟩
          · have hlt' : ¬ ((i : Int) < g.length) := by omega
            rw [List.take_of_length_le (by omega)] at hnd
            simp (maxSteps := 4000000) -implicitDefEqProofs -dsimp (disch := omega) only [↓AW_ops, ↓AW_seq, ↓AW_cond, ↓AW_exit, ↓AOps_nil, ↓AOps_pu, ↓AOps_call, on_some, condB_f, ↓then_normal, ↓then_exit, ↓inBlock_exit, pval, rd_S, put_S, eq_self, mk, List.foldl_cons, List.foldl_nil, List.replicate_succ, List.replicate_zero, List.set_cons_zero, List.set_cons_succ, List.getElem?_cons_zero, List.getElem?_cons_succ, Option.getD_some, map_c, map_n, bin_lss, if_true, decide_false, hlt']
            refine CallK.of (s61 hg2 hgl) ?_
            simp (maxSteps := 4000000) -implicitDefEqProofs -dsimp (disch := omega) only [↓AW_ret, ↓AOps_nil, ↓AOps_pu, on_some, extK_same, ↓then_normal, ↓Fin_ret, pval, rd_S, rd_C, put_S, resV, resL, mk, List.foldl_cons, List.foldl_nil, List.replicate_succ, List.replicate_zero, List.set_cons_zero, List.set_cons_succ, List.getElem?_cons_zero, List.getElem?_cons_succ, Option.getD_some]
            have hE := gE_0 h0 h1 he hnd
            exact gc_val (pre_app _ _) (by simp [gN, hE, ren])
      · have hr' : (g.any fun p => !decide (gR P p)) = true := by simpa using hr
        simp (maxSteps := 4000000) -implicitDefEqProofs -dsimp (disch := omega) only [↓AW_ops, ↓AW_seq, ↓AW_cond, ↓AW_ret, ↓AOps_nil, ↓AOps_pu, on_some, extK_same, condB_t, ↓then_normal, ↓then_ret, ↓Fin_ret, pval, rd_S, rd_C, put_S, resV, resL, List.replicate_succ, List.replicate_zero, List.set_cons_zero, List.set_cons_succ, List.getElem?_cons_zero, List.getElem?_cons_succ, Option.getD_some, Nat.reduceSub, List.cons_append, List.nil_append, if_false, Bool.false_eq_true, hr']
        have hE := gE_1 h0 (fun h => hr h.2)
        exact gc_val (pre_app _ _) (by simp [gN, hE, ren])
    · have hlen' : ¬ (g.length : Int) = ws.length := by omega
      simp (maxSteps := 4000000) -implicitDefEqProofs -dsimp (disch := omega) only [↓AW_skip, ↓AW_ops, ↓AW_seq, ↓AW_cond, ↓AW_ret, ↓AOps_nil, ↓AOps_pu, ↓AOps_ld, ↓AOps_guard, on_some, extK_same, guardB_tf, skipS_some, condB_t, condB_f, ↓then_normal, ↓then_ret, ↓Fin_ret, pval, lval, rd_S, rd_C, put_S, resV, resL, eq_self, List.replicate_succ, List.replicate_zero, List.set_cons_zero, List.set_cons_succ, List.getElem?_cons_zero, List.getElem?_cons_succ, Option.getD_some, Nat.reduceSub, Nat.zero_add, List.cons_append, List.nil_append, bin_neq, if_true, decide_true, decide_false, not_true_eq_false, not_false_eq_true, h0, hg2.len, ld_new1, hw2.ls.len, hlen']
      have hE := gE_1 (g := g) h0 (fun h => hlen (by simpa using h.1))
      exact gc_val (pre_app _ _) (by simp [gN, hE, ren])
  · simp (maxSteps := 4000000) -implicitDefEqProofs -dsimp (disch := omega) only [↓AW_ops, ↓AW_seq, ↓AW_cond, ↓AW_ret, ↓AOps_nil, ↓AOps_pu, on_some, extK_same, condB_t, ↓then_normal, ↓then_ret, ↓Fin_ret, pval, rd_S, rd_C, put_S, resV, resL, List.replicate_succ, List.replicate_zero, List.set_cons_zero, List.set_cons_succ, List.getElem?_cons_zero, List.getElem?_cons_succ, Option.getD_some, Nat.reduceSub, List.cons_append, List.nil_append, bin_neq, decide_true, not_false_eq_true, h0]
    have hE := gE_v (g := g) h0
    exact gc_val (pre_app _ _) (by simp [gN, hE, h0, ren])
end Go.Proofs.Ytlmbobbefgcolaa

