/- What the law's proof rests on, part 3: for all that is said in each line. No conditions. -/
import Derived.Test.YtlmbobbefgcolaaRows
import Derived.Test.YtlmbobbefgcolaaEnB
namespace Go.Proofs.Ytlmbobbefgcolaa
open Go Go.Eng
/-- selion/selionlaw07.Long [loop [1, 3]] -/
def m17 : MFun := ⟨21, [1], [.mov (.s 2)],
 .seq (.ops [⟨(some 1), some (.junk), none, false, .pu (.bnew (.s 0))⟩,
   ⟨(some 2), some undefA, none, false, .pu (.mov (.c (.bool false)))⟩])
 (.seq (.seq (.ops [⟨(some 3), some undefA, none, false, .pu (.mov (.c (.int .i64 0)))⟩])
 (.block 0 (.loop (.seq (.seq (.ops [⟨(some 4), some undefA, none, false, .pu (.mov (.s 3))⟩,
     ⟨(some 5), some undefA, none, false, .pu (.badr none 1)⟩,
     ⟨(some 6), some undefA, none, false, .pu (.bget (some 5) 1 1 1 false)⟩,
     ⟨(some 7), some undefA, none, false, .pu (.len (.s 6))⟩,
     ⟨(some 8), some undefA, none, false, .pu (.bin .lss (.s 4) (.s 7))⟩])
   (.cond (.s 8) (.skip)
   (.exit 0)))
   (.seq (.block 1 (.seq (.ops [⟨(some 11), some undefA, none, false, .pu (.badr none 1)⟩,
      ⟨(some 12), some undefA, none, false, .pu (.bget (some 11) 1 1 1 false)⟩,
      ⟨(some 13), some undefA, none, false, .pu (.mov (.s 3))⟩,
      ⟨(some 14), some undefA, none, false, .pu (.idx 1 (.s 12) (.s 13))⟩,
      ⟨(some 15), some undefA, none, false, .ld (.ld 1 false (.s 14))⟩,
      ⟨(some 16), some undefA, none, false, .call 32 [(.s 15)]⟩])
    (.cond (.s 16) (.seq (.ops [⟨(some 2), some undefA, none, false, .pu (.mov (.c (.bool true)))⟩])
     (.ret))
    (.skip))))
   (.ops [⟨(some 9), some undefA, none, false, .pu (.mov (.s 3))⟩,
     ⟨(some 10), some undefA, none, false, .pu (.bin .add (.s 9) (.c (.int .i64 1)))⟩,
     ⟨(some 3), some undefA, none, false, .pu (.mov (.s 10))⟩]))))))
 (.seq (.ops [⟨(some 17), some undefA, none, false, .pu (.badr none 1)⟩,
   ⟨(some 18), some undefA, none, false, .pu (.bget (some 17) 1 1 1 false)⟩,
   ⟨(some 19), some undefA, none, false, .pu (.len (.s 18))⟩,
   ⟨(some 20), some undefA, none, false, .pu (.bin .gtr (.s 19) (.c (.int .i64 40)))⟩,
   ⟨(some 2), some undefA, none, false, .pu (.mov (.s 20))⟩])
 (.ret)))⟩
theorem t17 : trF Try.prog [1] [] Try.f17 = some m17 := by kernel_rfl
/-- selion/selionlaw07.known [] -/
def m18 : MFun := ⟨46, [], [.mov (.s 0)],
 .seq (.ops [⟨(some 0), some undefA, none, false, .pu (.mov (.c (.bool false)))⟩])
 (.seq (.ops [⟨(some 8), some undefA, none, false, .call 54 []⟩,
   ⟨(some 9), some undefA, none, false, .call 24 [(.s 8)]⟩,
   ⟨(some 7), some undefA, none, false, .pu (.mov (.s 9))⟩,
   ⟨(some 10), some undefA, none, false, .pu (.extr 0 (.s 7))⟩,
   ⟨(some 11), some undefA, none, false, .pu (.extr 1 (.s 7))⟩,
   ⟨(some 1), some undefA, none, false, .pu (.mov (.s 10))⟩,
   ⟨(some 2), some undefA, none, false, .pu (.mov (.s 11))⟩])
 (.seq (.ops [⟨(some 13), some undefA, none, false, .call 54 []⟩,
   ⟨(some 14), some undefA, none, false, .call 19 [(.s 13)]⟩,
   ⟨(some 12), some undefA, none, false, .pu (.mov (.s 14))⟩,
   ⟨(some 15), some undefA, none, false, .pu (.extr 0 (.s 12))⟩,
   ⟨(some 16), some undefA, none, false, .pu (.extr 1 (.s 12))⟩,
   ⟨(some 3), some undefA, none, false, .pu (.mov (.s 15))⟩,
   ⟨(some 4), some undefA, none, false, .pu (.mov (.s 16))⟩])
 (.seq (.ops [⟨(some 18), some undefA, none, false, .call 54 []⟩,
   ⟨(some 19), some undefA, none, false, .call 21 [(.s 18)]⟩,
   ⟨(some 17), some undefA, none, false, .pu (.mov (.s 19))⟩,
   ⟨(some 20), some undefA, none, false, .pu (.extr 0 (.s 17))⟩,
   ⟨(some 21), some undefA, none, false, .pu (.extr 1 (.s 17))⟩,
   ⟨(some 5), some undefA, none, false, .pu (.mov (.s 20))⟩,
   ⟨(some 6), some undefA, none, false, .pu (.mov (.s 21))⟩])
 (.seq (.ops [⟨(some 22), some undefA, none, false, .pu (.mov (.s 2))⟩,
   ⟨(some 23), some undefA, none, false, .pu (.bin .eql (.s 22) (.c (.int .i64 0)))⟩,
   ⟨(some 24), some undefA, none, false, .pu (.mov (.s 23))⟩,
   ⟨(some 25), some undefA, (some (24, true)), false, .pu (.mov (.s 1))⟩,
   ⟨(some 26), some undefA, (some (24, true)), false, .pu (.bin .eql (.s 25) (.c (.int .i64 2)))⟩,
   ⟨(some 27), some undefA, none, false, .pu (.pick (.s 24) (.s 26) (.c (.bool false)))⟩,
   ⟨(some 28), some undefA, none, false, .pu (.mov (.s 27))⟩,
   ⟨(some 29), some undefA, (some (28, true)), false, .pu (.mov (.s 4))⟩,
   ⟨(some 30), some undefA, (some (28, true)), false, .pu (.bin .eql (.s 29) (.c (.int .i64 0)))⟩,
   ⟨(some 31), some undefA, none, false, .pu (.pick (.s 28) (.s 30) (.c (.bool false)))⟩,
   ⟨(some 32), some undefA, none, false, .pu (.mov (.s 31))⟩,
   ⟨(some 33), some undefA, (some (32, true)), false, .pu (.mov (.s 3))⟩,
   ⟨(some 34), some undefA, (some (32, true)), false, .ha (.blds 1 1 [.int .i64 0] [(0, 1, (.c (.int .i64 0)))])⟩,
   ⟨(some 35), some undefA, (some (32, true)), false, .call 23 [(.s 33), (.s 34)]⟩,
   ⟨(some 36), some undefA, none, false, .pu (.pick (.s 32) (.s 35) (.c (.bool false)))⟩,
   ⟨(some 37), some undefA, none, false, .pu (.mov (.s 36))⟩,
   ⟨(some 38), some undefA, (some (37, true)), false, .pu (.mov (.s 6))⟩,
   ⟨(some 39), some undefA, (some (37, true)), false, .pu (.bin .eql (.s 38) (.c (.int .i64 0)))⟩,
   ⟨(some 40), some undefA, none, false, .pu (.pick (.s 37) (.s 39) (.c (.bool false)))⟩,
   ⟨(some 41), some undefA, none, false, .pu (.mov (.s 40))⟩,
   ⟨(some 42), some undefA, (some (41, true)), false, .pu (.mov (.s 5))⟩,
   ⟨(some 43), some undefA, (some (41, true)), false, .ha (.blds 1 2 [.int .i64 0] [(0, 1, (.c (.int .i64 0))), (1, 1, (.c (.int .i64 1)))])⟩,
   ⟨(some 44), some undefA, (some (41, true)), false, .call 23 [(.s 42), (.s 43)]⟩,
   ⟨(some 45), some undefA, none, false, .pu (.pick (.s 41) (.s 44) (.c (.bool false)))⟩,
   ⟨(some 0), some undefA, none, false, .pu (.mov (.s 45))⟩])
 (.ret)))))⟩
theorem t18 : trF Try.prog [] [] Try.f18 = some m18 := by kernel_rfl
/-- selion/wish.Sure [loop [1, 5, 15, 16]] -/
def m19 : MFun := ⟨40, [1, 7], [.mov (.s 2), .mov (.s 3)],
 .seq (.ops [⟨(some 1), some (.junk), none, false, .pu (.bnew (.s 0))⟩,
   ⟨(some 2), some undefA, none, false, .pu (.mov (.c (.nilS)))⟩,
   ⟨(some 3), some undefA, none, false, .pu (.mov (.c (.int .i64 0)))⟩])
 (.seq (.seq (.ops [⟨(some 8), some undefA, none, false, .pu (.bget none 1 0 2 true)⟩,
   ⟨(some 9), some undefA, none, false, .call 39 [(.s 8)]⟩,
   ⟨(some 4), some undefA, none, false, .pu (.mov (.s 9))⟩])
 (.seq (.ops [⟨(some 10), some undefA, none, false, .pu (.mov (.s 4))⟩,
   ⟨(some 11), some undefA, none, false, .pu (.bin .neq (.s 10) (.c (.int .i64 0)))⟩])
 (.cond (.s 11) (.seq (.ops [⟨(some 12), some undefA, none, false, .pu (.mov (.s 4))⟩,
    ⟨(some 2), some undefA, none, false, .pu (.mov (.c (.nilS)))⟩,
    ⟨(some 3), some undefA, none, false, .pu (.mov (.s 12))⟩])
  (.ret))
 (.skip))))
 (.seq (.ops [⟨(some 5), some undefA, none, false, .pu (.mov (.c (.nilS)))⟩])
 (.seq (.seq (.ops [⟨(some 13), some undefA, none, false, .pu (.badr none 1)⟩,
   ⟨(some 14), some undefA, none, false, .pu (.bget (some 13) 1 1 1 false)⟩,
   ⟨(some 15), some undefA, none, false, .pu (.len (.s 14))⟩,
   ⟨(some 16), some undefA, none, false, .pu (.mov (.c (.int .i64 0)))⟩])
 (.block 0 (.loop (.seq (.ops [⟨(some 17), some undefA, none, false, .pu (.bin .lss (.s 16) (.s 15))⟩])
   (.seq (.cond (.s 17) (.skip)
   (.exit 0))
   (.seq (.block 1 (.seq (.ops [⟨(some 18), some undefA, none, false, .pu (.mov (.s 16))⟩,
      ⟨(some 6), some undefA, none, false, .pu (.mov (.s 18))⟩])
    (.seq (.ops [⟨(some 19), some undefA, none, false, .pu (.badr none 1)⟩,
      ⟨(some 20), some undefA, none, false, .pu (.bget (some 19) 1 0 1 false)⟩,
      ⟨(some 21), some undefA, none, false, .pu (.badr none 1)⟩,
      ⟨(some 22), some undefA, none, false, .pu (.bget (some 21) 1 1 1 false)⟩,
      ⟨(some 23), some undefA, none, false, .call 55 [(.s 22)]⟩,
      ⟨(some 24), some undefA, none, false, .pu (.build [.int .i64 0, .nilS] [(0, 1, (.s 20)), (1, 1, (.s 23))])⟩,
      ⟨(some 7), some (.junk), none, false, .pu (.bnew (.c (.agg [.int .i64 0, .nilS])))⟩,
      ⟨(some 7), none, none, false, .pu (.bset none 7 0 2 (.s 24))⟩])
    (.seq (.ops [⟨(some 25), some undefA, none, false, .pu (.badr none 7)⟩,
      ⟨(some 26), some undefA, none, false, .pu (.bget (some 25) 7 1 1 false)⟩,
      ⟨(some 27), some undefA, none, false, .pu (.mov (.s 6))⟩,
      ⟨(some 28), some undefA, none, false, .pu (.idx 1 (.s 26) (.s 27))⟩,
      ⟨none, some undefA, none, false, .ha (.st 1 (.s 28) (.c (.nilS)))⟩])
    (.seq (.ops [⟨(some 29), some undefA, none, false, .pu (.bget none 7 0 2 true)⟩,
      ⟨(some 30), some undefA, none, false, .call 56 [(.s 29)]⟩,
      ⟨(some 31), some undefA, none, false, .pu (.bget none 1 0 2 true)⟩,
      ⟨(some 32), some undefA, none, false, .call 56 [(.s 31)]⟩,
      ⟨(some 33), some undefA, none, false, .pu (.bin .lss (.s 30) (.s 32))⟩])
    (.cond (.s 33) (.ops [⟨(some 34), some undefA, none, false, .pu (.mov (.s 5))⟩,
       ⟨(some 35), some undefA, none, false, .pu (.mov (.s 6))⟩,
       ⟨(some 36), some undefA, none, false, .ha (.blds 1 1 [.int .i64 0] [(0, 1, (.s 35))])⟩,
       ⟨(some 37), some undefA, none, false, .ha (.app 1 (.s 34) (.s 36))⟩,
       ⟨(some 5), some undefA, none, false, .pu (.mov (.s 37))⟩])
    (.skip)))))))
   (.ops [⟨(some 38), some undefA, none, false, .pu (.bin .add (.s 16) (.c (.int .i64 1)))⟩,
     ⟨(some 16), some undefA, none, false, .pu (.mov (.s 38))⟩])))))))
 (.seq (.ops [⟨(some 39), some undefA, none, false, .pu (.mov (.s 5))⟩,
   ⟨(some 2), some undefA, none, false, .pu (.mov (.s 39))⟩,
   ⟨(some 3), some undefA, none, false, .pu (.mov (.c (.int .i64 0)))⟩])
 (.ret)))))⟩
theorem t19 : trF Try.prog [1, 7] [] Try.f19 = some m19 := by kernel_rfl
/-- selion/wish.Needed [loop [1, 5, 13, 14]] -/
def m21 : MFun := ⟨30, [1], [.mov (.s 2), .mov (.s 3)],
 .seq (.ops [⟨(some 1), some (.junk), none, false, .pu (.bnew (.s 0))⟩,
   ⟨(some 2), some undefA, none, false, .pu (.mov (.c (.nilS)))⟩,
   ⟨(some 3), some undefA, none, false, .pu (.mov (.c (.int .i64 0)))⟩])
 (.seq (.seq (.ops [⟨(some 7), some undefA, none, false, .pu (.bget none 1 0 2 true)⟩,
   ⟨(some 8), some undefA, none, false, .call 39 [(.s 7)]⟩,
   ⟨(some 4), some undefA, none, false, .pu (.mov (.s 8))⟩])
 (.seq (.ops [⟨(some 9), some undefA, none, false, .pu (.mov (.s 4))⟩,
   ⟨(some 10), some undefA, none, false, .pu (.bin .neq (.s 9) (.c (.int .i64 0)))⟩])
 (.cond (.s 10) (.seq (.ops [⟨(some 11), some undefA, none, false, .pu (.mov (.s 4))⟩,
    ⟨(some 2), some undefA, none, false, .pu (.mov (.c (.nilS)))⟩,
    ⟨(some 3), some undefA, none, false, .pu (.mov (.s 11))⟩])
  (.ret))
 (.skip))))
 (.seq (.ops [⟨(some 5), some undefA, none, false, .pu (.mov (.c (.nilS)))⟩])
 (.seq (.seq (.ops [⟨(some 12), some undefA, none, false, .pu (.badr none 1)⟩,
   ⟨(some 13), some undefA, none, false, .pu (.bget (some 12) 1 0 1 false)⟩,
   ⟨(some 14), some undefA, none, false, .pu (.mov (.c (.int .i64 0)))⟩])
 (.block 0 (.loop (.seq (.ops [⟨(some 15), some undefA, none, false, .pu (.bin .lss (.s 14) (.s 13))⟩])
   (.seq (.cond (.s 15) (.skip)
   (.exit 0))
   (.seq (.block 1 (.seq (.ops [⟨(some 16), some undefA, none, false, .pu (.mov (.s 14))⟩,
      ⟨(some 6), some undefA, none, false, .pu (.mov (.s 16))⟩])
    (.seq (.ops [⟨(some 17), some undefA, none, false, .pu (.bget none 1 0 2 true)⟩,
      ⟨(some 18), some undefA, none, false, .pu (.mov (.s 6))⟩,
      ⟨(some 19), some undefA, none, false, .call 59 [(.s 17), (.s 18)]⟩,
      ⟨(some 20), some undefA, none, false, .call 56 [(.s 19)]⟩,
      ⟨(some 21), some undefA, none, false, .pu (.bget none 1 0 2 true)⟩,
      ⟨(some 22), some undefA, none, false, .call 56 [(.s 21)]⟩,
      ⟨(some 23), some undefA, none, false, .pu (.bin .lss (.s 20) (.s 22))⟩])
    (.cond (.s 23) (.ops [⟨(some 24), some undefA, none, false, .pu (.mov (.s 5))⟩,
       ⟨(some 25), some undefA, none, false, .pu (.mov (.s 6))⟩,
       ⟨(some 26), some undefA, none, false, .ha (.blds 1 1 [.int .i64 0] [(0, 1, (.s 25))])⟩,
       ⟨(some 27), some undefA, none, false, .ha (.app 1 (.s 24) (.s 26))⟩,
       ⟨(some 5), some undefA, none, false, .pu (.mov (.s 27))⟩])
    (.skip)))))
   (.ops [⟨(some 28), some undefA, none, false, .pu (.bin .add (.s 14) (.c (.int .i64 1)))⟩,
     ⟨(some 14), some undefA, none, false, .pu (.mov (.s 28))⟩])))))))
 (.seq (.ops [⟨(some 29), some undefA, none, false, .pu (.mov (.s 5))⟩,
   ⟨(some 2), some undefA, none, false, .pu (.mov (.s 29))⟩,
   ⟨(some 3), some undefA, none, false, .pu (.mov (.c (.int .i64 0)))⟩])
 (.ret)))))⟩
theorem t21 : trF Try.prog [1] [] Try.f21 = some m21 := by kernel_rfl
/-- selion/selionref07.Needed [loop [1, 5, 6, 7], loop [1, 5, 6, 7, 8, 9]] -/
def m22 : MFun := ⟨54, [1], [.mov (.s 2), .mov (.s 3)],
 .seq (.ops [⟨(some 1), some (.junk), none, false, .pu (.bnew (.s 0))⟩,
   ⟨(some 2), some undefA, none, false, .pu (.mov (.c (.nilS)))⟩,
   ⟨(some 3), some undefA, none, false, .pu (.mov (.c (.int .i64 0)))⟩])
 (.seq (.seq (.ops [⟨(some 10), some undefA, none, false, .pu (.bget none 1 0 2 true)⟩,
   ⟨(some 11), some undefA, none, false, .call 40 [(.s 10)]⟩,
   ⟨(some 4), some undefA, none, false, .pu (.mov (.s 11))⟩])
 (.seq (.ops [⟨(some 12), some undefA, none, false, .pu (.mov (.s 4))⟩,
   ⟨(some 13), some undefA, none, false, .pu (.bin .neq (.s 12) (.c (.int .i64 0)))⟩])
 (.cond (.s 13) (.seq (.ops [⟨(some 14), some undefA, none, false, .pu (.mov (.s 4))⟩,
    ⟨(some 2), some undefA, none, false, .pu (.mov (.c (.nilS)))⟩,
    ⟨(some 3), some undefA, none, false, .pu (.mov (.s 14))⟩])
  (.ret))
 (.skip))))
 (.seq (.ops [⟨(some 15), some undefA, none, false, .pu (.bget none 1 0 2 true)⟩,
   ⟨(some 16), some undefA, none, false, .call 58 [(.s 15), (.c (.int .i64 (-1)))]⟩,
   ⟨(some 5), some undefA, none, false, .pu (.mov (.s 16))⟩])
 (.seq (.ops [⟨(some 6), some undefA, none, false, .pu (.mov (.c (.nilS)))⟩])
 (.seq (.seq (.ops [⟨(some 7), some undefA, none, false, .pu (.mov (.c (.int .i64 0)))⟩])
 (.block 0 (.loop (.seq (.seq (.ops [⟨(some 17), some undefA, none, false, .pu (.mov (.s 7))⟩,
     ⟨(some 18), some undefA, none, false, .pu (.badr none 1)⟩,
     ⟨(some 19), some undefA, none, false, .pu (.bget (some 18) 1 0 1 false)⟩,
     ⟨(some 20), some undefA, none, false, .pu (.bin .lss (.s 17) (.s 19))⟩])
   (.cond (.s 20) (.skip)
   (.exit 0)))
   (.seq (.block 1 (.seq (.ops [⟨(some 8), some undefA, none, false, .pu (.mov (.c (.bool true)))⟩])
    (.seq (.seq (.ops [⟨(some 9), some undefA, none, false, .pu (.mov (.c (.int .i64 0)))⟩])
    (.block 2 (.loop (.seq (.seq (.ops [⟨(some 23), some undefA, none, false, .pu (.mov (.s 9))⟩,
        ⟨(some 24), some undefA, none, false, .pu (.mov (.s 5))⟩,
        ⟨(some 25), some undefA, none, false, .pu (.len (.s 24))⟩,
        ⟨(some 26), some undefA, none, false, .pu (.bin .lss (.s 23) (.s 25))⟩])
      (.cond (.s 26) (.skip)
      (.exit 2)))
      (.seq (.block 3 (.seq (.ops [⟨(some 29), some undefA, none, false, .pu (.mov (.s 5))⟩,
         ⟨(some 30), some undefA, none, false, .pu (.mov (.s 9))⟩,
         ⟨(some 31), some undefA, none, false, .pu (.idx 1 (.s 29) (.s 30))⟩,
         ⟨(some 32), some undefA, none, false, .ld (.ld 1 false (.s 31))⟩,
         ⟨(some 33), some undefA, none, false, .pu (.mov (.s 32))⟩,
         ⟨(some 34), some undefA, (some (33, true)), false, .pu (.mov (.s 9))⟩,
         ⟨(some 35), some undefA, (some (33, true)), false, .call 60 [(.s 34)]⟩,
         ⟨(some 36), some undefA, (some (33, true)), false, .pu (.mov (.s 5))⟩,
         ⟨(some 37), some undefA, (some (33, true)), false, .call 57 [(.s 36)]⟩,
         ⟨(some 38), some undefA, (some (33, true)), false, .pu (.bin .eql (.s 35) (.s 37))⟩,
         ⟨(some 39), some undefA, none, false, .pu (.pick (.s 33) (.s 38) (.c (.bool false)))⟩,
         ⟨(some 40), some undefA, none, false, .pu (.mov (.s 39))⟩,
         ⟨(some 41), some undefA, (some (40, true)), false, .pu (.mov (.s 9))⟩,
         ⟨(some 42), some undefA, (some (40, true)), false, .pu (.mov (.s 7))⟩,
         ⟨(some 43), some undefA, (some (40, true)), false, .pu (.conv .u64 (.s 42))⟩,
         ⟨(some 44), some undefA, (some (40, true)), false, .pu (.bin .shr (.s 41) (.s 43))⟩,
         ⟨(some 45), some undefA, (some (40, true)), false, .pu (.bin .and (.s 44) (.c (.int .i64 1)))⟩,
         ⟨(some 46), some undefA, (some (40, true)), false, .pu (.bin .eql (.s 45) (.c (.int .i64 0)))⟩,
         ⟨(some 47), some undefA, none, false, .pu (.pick (.s 40) (.s 46) (.c (.bool false)))⟩])
       (.cond (.s 47) (.ops [⟨(some 8), some undefA, none, false, .pu (.mov (.c (.bool false)))⟩])
       (.skip))))
      (.ops [⟨(some 27), some undefA, none, false, .pu (.mov (.s 9))⟩,
        ⟨(some 28), some undefA, none, false, .pu (.bin .add (.s 27) (.c (.int .i64 1)))⟩,
        ⟨(some 9), some undefA, none, false, .pu (.mov (.s 28))⟩]))))))
    (.seq (.ops [⟨(some 48), some undefA, none, false, .pu (.mov (.s 8))⟩])
    (.cond (.s 48) (.ops [⟨(some 49), some undefA, none, false, .pu (.mov (.s 6))⟩,
       ⟨(some 50), some undefA, none, false, .pu (.mov (.s 7))⟩,
       ⟨(some 51), some undefA, none, false, .ha (.blds 1 1 [.int .i64 0] [(0, 1, (.s 50))])⟩,
       ⟨(some 52), some undefA, none, false, .ha (.app 1 (.s 49) (.s 51))⟩,
       ⟨(some 6), some undefA, none, false, .pu (.mov (.s 52))⟩])
    (.skip))))))
   (.ops [⟨(some 21), some undefA, none, false, .pu (.mov (.s 7))⟩,
     ⟨(some 22), some undefA, none, false, .pu (.bin .add (.s 21) (.c (.int .i64 1)))⟩,
     ⟨(some 7), some undefA, none, false, .pu (.mov (.s 22))⟩]))))))
 (.seq (.ops [⟨(some 53), some undefA, none, false, .pu (.mov (.s 6))⟩,
   ⟨(some 2), some undefA, none, false, .pu (.mov (.s 53))⟩,
   ⟨(some 3), some undefA, none, false, .pu (.mov (.c (.int .i64 0)))⟩])
 (.ret))))))⟩
theorem t22 : trF Try.prog [1] [] Try.f22 = some m22 := by kernel_rfl
/-- selion/selionref01.SameInts [loop [0, 1, 5]] -/
def m23 : MFun := ⟨26, [], [.mov (.s 4)],
 .seq (.ops [⟨(some 4), some undefA, none, false, .pu (.mov (.c (.bool false)))⟩])
 (.seq (.seq (.ops [⟨(some 6), some undefA, none, false, .pu (.mov (.s 0))⟩,
   ⟨(some 7), some undefA, none, false, .pu (.len (.s 6))⟩,
   ⟨(some 8), some undefA, none, false, .pu (.mov (.s 1))⟩,
   ⟨(some 9), some undefA, none, false, .pu (.len (.s 8))⟩,
   ⟨(some 10), some undefA, none, false, .pu (.bin .neq (.s 7) (.s 9))⟩])
 (.cond (.s 10) (.seq (.ops [⟨(some 4), some undefA, none, false, .pu (.mov (.c (.bool false)))⟩])
  (.ret))
 (.skip)))
 (.seq (.seq (.ops [⟨(some 5), some undefA, none, false, .pu (.mov (.c (.int .i64 0)))⟩])
 (.block 0 (.loop (.seq (.seq (.ops [⟨(some 11), some undefA, none, false, .pu (.mov (.s 5))⟩,
     ⟨(some 12), some undefA, none, false, .pu (.mov (.s 0))⟩,
     ⟨(some 13), some undefA, none, false, .pu (.len (.s 12))⟩,
     ⟨(some 14), some undefA, none, false, .pu (.bin .lss (.s 11) (.s 13))⟩])
   (.cond (.s 14) (.skip)
   (.exit 0)))
   (.seq (.block 1 (.seq (.ops [⟨(some 17), some undefA, none, true, .pu (.mov (.s 0))⟩,
      ⟨(some 18), some undefA, none, true, .pu (.mov (.s 5))⟩,
      ⟨(some 19), some undefA, none, true, .pu (.idx 1 (.s 17) (.s 18))⟩,
      ⟨(some 20), some undefA, none, true, .ld (.ld 1 false (.s 19))⟩,
      ⟨(some 21), some undefA, none, true, .pu (.mov (.s 1))⟩,
      ⟨(some 22), some undefA, none, true, .pu (.mov (.s 5))⟩,
      ⟨(some 23), some undefA, none, true, .pu (.idx 1 (.s 21) (.s 22))⟩,
      ⟨(some 24), some undefA, none, true, .ld (.ld 1 false (.s 23))⟩,
      ⟨(some 25), some undefA, none, false, .pu (.bin .neq (.s 20) (.s 24))⟩])
    (.cond (.s 25) (.seq (.ops [⟨(some 4), some undefA, none, false, .pu (.mov (.c (.bool false)))⟩])
     (.ret))
    (.skip))))
   (.ops [⟨(some 15), some undefA, none, false, .pu (.mov (.s 5))⟩,
     ⟨(some 16), some undefA, none, false, .pu (.bin .add (.s 15) (.c (.int .i64 1)))⟩,
     ⟨(some 5), some undefA, none, false, .pu (.mov (.s 16))⟩]))))))
 (.seq (.ops [⟨(some 4), some undefA, none, false, .pu (.mov (.c (.bool true)))⟩])
 (.ret))))⟩
theorem t23 : trF Try.prog [] [] Try.f23 = some m23 := by kernel_rfl
/-- selion/wish.Most [] -/
def m24 : MFun := ⟨15, [1], [.mov (.s 2), .mov (.s 3)],
 .seq (.ops [⟨(some 1), some (.junk), none, false, .pu (.bnew (.s 0))⟩,
   ⟨(some 2), some undefA, none, false, .pu (.mov (.c (.int .i64 0)))⟩,
   ⟨(some 3), some undefA, none, false, .pu (.mov (.c (.int .i64 0)))⟩])
 (.seq (.seq (.ops [⟨(some 5), some undefA, none, false, .pu (.bget none 1 0 2 true)⟩,
   ⟨(some 6), some undefA, none, false, .call 39 [(.s 5)]⟩,
   ⟨(some 4), some undefA, none, false, .pu (.mov (.s 6))⟩])
 (.seq (.ops [⟨(some 7), some undefA, none, false, .pu (.mov (.s 4))⟩,
   ⟨(some 8), some undefA, none, false, .pu (.bin .neq (.s 7) (.c (.int .i64 0)))⟩])
 (.cond (.s 8) (.seq (.ops [⟨(some 9), some undefA, none, false, .pu (.mov (.s 4))⟩,
    ⟨(some 2), some undefA, none, false, .pu (.mov (.c (.int .i64 0)))⟩,
    ⟨(some 3), some undefA, none, false, .pu (.mov (.s 9))⟩])
  (.ret))
 (.skip))))
 (.seq (.ops [⟨(some 10), some undefA, none, false, .pu (.bget none 1 0 2 true)⟩,
   ⟨(some 11), some undefA, none, false, .call 63 [(.s 10)]⟩,
   ⟨(some 12), some undefA, none, false, .call 62 [(.s 11)]⟩,
   ⟨(some 13), some undefA, none, false, .pu (.part 2 1 false (.s 12))⟩,
   ⟨(some 14), some undefA, none, false, .call 61 [(.s 13)]⟩,
   ⟨(some 2), some undefA, none, false, .pu (.mov (.s 14))⟩,
   ⟨(some 3), some undefA, none, false, .pu (.mov (.c (.int .i64 0)))⟩])
 (.ret)))⟩
theorem t24 : trF Try.prog [1] [] Try.f24 = some m24 := by kernel_rfl
/-- selion/selionref07.Most [] -/
def m25 : MFun := ⟨13, [1], [.mov (.s 2), .mov (.s 3)],
 .seq (.ops [⟨(some 1), some (.junk), none, false, .pu (.bnew (.s 0))⟩,
   ⟨(some 2), some undefA, none, false, .pu (.mov (.c (.int .i64 0)))⟩,
   ⟨(some 3), some undefA, none, false, .pu (.mov (.c (.int .i64 0)))⟩])
 (.seq (.seq (.ops [⟨(some 5), some undefA, none, false, .pu (.bget none 1 0 2 true)⟩,
   ⟨(some 6), some undefA, none, false, .call 40 [(.s 5)]⟩,
   ⟨(some 4), some undefA, none, false, .pu (.mov (.s 6))⟩])
 (.seq (.ops [⟨(some 7), some undefA, none, false, .pu (.mov (.s 4))⟩,
   ⟨(some 8), some undefA, none, false, .pu (.bin .neq (.s 7) (.c (.int .i64 0)))⟩])
 (.cond (.s 8) (.seq (.ops [⟨(some 9), some undefA, none, false, .pu (.mov (.s 4))⟩,
    ⟨(some 2), some undefA, none, false, .pu (.mov (.c (.int .i64 0)))⟩,
    ⟨(some 3), some undefA, none, false, .pu (.mov (.s 9))⟩])
  (.ret))
 (.skip))))
 (.seq (.ops [⟨(some 10), some undefA, none, false, .pu (.bget none 1 0 2 true)⟩,
   ⟨(some 11), some undefA, none, false, .call 58 [(.s 10), (.c (.int .i64 (-1)))]⟩,
   ⟨(some 12), some undefA, none, false, .call 57 [(.s 11)]⟩,
   ⟨(some 2), some undefA, none, false, .pu (.mov (.s 12))⟩,
   ⟨(some 3), some undefA, none, false, .pu (.mov (.c (.int .i64 0)))⟩])
 (.ret)))⟩
theorem t25 : trF Try.prog [1] [] Try.f25 = some m25 := by kernel_rfl
/-- selion/selionlaw07.many [] -/
def m32 : MFun := ⟨6, [], [.mov (.s 2)],
 .seq (.ops [⟨(some 2), some undefA, none, false, .pu (.mov (.c (.bool false)))⟩])
 (.seq (.ops [⟨(some 3), some undefA, none, false, .pu (.mov (.s 0))⟩,
   ⟨(some 4), some undefA, none, false, .pu (.len (.s 3))⟩,
   ⟨(some 5), some undefA, none, false, .pu (.bin .gtr (.s 4) (.c (.int .i64 40)))⟩,
   ⟨(some 2), some undefA, none, false, .pu (.mov (.s 5))⟩])
 (.ret))⟩
theorem t32 : trF Try.prog [] [] Try.f32 = some m32 := by kernel_rfl
/-- selion/wish.CheckGiving [loop [1, 2, 27, 28, 29], loop [1, 47, 48, 49]] -/
def m33 : MFun := ⟨66, [], [.mov (.s 4), .mov (.s 5)],
 .seq (.ops [⟨(some 2), some undefA, none, false, .ha (.newv (.s 0))⟩,
   ⟨(some 4), some undefA, none, false, .pu (.mov (.c (.int .i64 0)))⟩,
   ⟨(some 5), some undefA, none, false, .pu (.mov (.c (.int .i64 0)))⟩])
 (.seq (.seq (.ops [⟨(some 11), some undefA, none, false, .ld (.ld 2 true (.s 2))⟩,
   ⟨(some 12), some undefA, none, false, .call 39 [(.s 11)]⟩,
   ⟨(some 6), some undefA, none, false, .pu (.mov (.s 12))⟩])
 (.seq (.ops [⟨(some 13), some undefA, none, false, .pu (.mov (.s 6))⟩,
   ⟨(some 14), some undefA, none, false, .pu (.bin .neq (.s 13) (.c (.int .i64 0)))⟩])
 (.cond (.s 14) (.seq (.ops [⟨(some 15), some undefA, none, false, .pu (.mov (.s 6))⟩,
    ⟨(some 4), some undefA, none, false, .pu (.mov (.c (.int .i64 0)))⟩,
    ⟨(some 5), some undefA, none, false, .pu (.mov (.s 15))⟩])
  (.ret))
 (.skip))))
 (.seq (.seq (.ops [⟨(some 16), some undefA, none, false, .pu (.mov (.s 1))⟩,
   ⟨(some 17), some undefA, none, false, .pu (.len (.s 16))⟩,
   ⟨(some 18), some undefA, none, false, .pu (.fad 1 (.s 2))⟩,
   ⟨(some 19), some undefA, none, false, .ld (.ld 1 false (.s 18))⟩,
   ⟨(some 20), some undefA, none, false, .pu (.len (.s 19))⟩,
   ⟨(some 21), some undefA, none, false, .pu (.bin .neq (.s 17) (.s 20))⟩,
   ⟨(some 22), some undefA, none, false, .pu (.mov (.s 21))⟩,
   ⟨(some 23), some undefA, (some (22, false)), false, .pu (.mov (.s 1))⟩,
   ⟨(some 24), some undefA, (some (22, false)), false, .pu (.mkf 70 [(.s 2)])⟩,
   ⟨(some 25), some undefA, (some (22, false)), false, .call 69 [(.s 23), (.s 24)]⟩,
   ⟨(some 26), some undefA, none, false, .pu (.pick (.s 22) (.c (.bool true)) (.s 25))⟩])
 (.cond (.s 26) (.seq (.ops [⟨(some 4), some undefA, none, false, .pu (.mov (.c (.int .i64 0)))⟩,
    ⟨(some 5), some undefA, none, false, .pu (.mov (.c (.int .i64 1)))⟩])
  (.ret))
 (.skip)))
 (.seq (.seq (.ops [⟨(some 27), some undefA, none, false, .pu (.mov (.s 1))⟩,
   ⟨(some 28), some undefA, none, false, .pu (.len (.s 27))⟩,
   ⟨(some 29), some undefA, none, false, .pu (.mov (.c (.int .i64 0)))⟩])
 (.block 0 (.loop (.seq (.ops [⟨(some 30), some undefA, none, false, .pu (.bin .lss (.s 29) (.s 28))⟩])
   (.seq (.cond (.s 30) (.skip)
   (.exit 0))
   (.seq (.block 1 (.seq (.ops [⟨(some 31), some undefA, none, false, .pu (.mov (.s 29))⟩,
      ⟨(some 32), some undefA, none, false, .pu (.idx 1 (.s 27) (.s 29))⟩,
      ⟨(some 33), some undefA, none, false, .ld (.ld 1 false (.s 32))⟩,
      ⟨(some 7), some undefA, none, false, .pu (.mov (.s 31))⟩,
      ⟨(some 8), some undefA, none, false, .pu (.mov (.s 33))⟩])
    (.seq (.ops [⟨(some 34), some undefA, none, false, .pu (.mov (.s 8))⟩,
      ⟨(some 35), some undefA, none, false, .pu (.bin .geq (.s 34) (.c (.int .i64 0)))⟩,
      ⟨(some 36), some undefA, none, false, .pu (.mov (.s 35))⟩,
      ⟨(some 37), some undefA, (some (36, true)), false, .pu (.fad 1 (.s 2))⟩,
      ⟨(some 38), some undefA, (some (36, true)), false, .ld (.ld 1 false (.s 37))⟩,
      ⟨(some 39), some undefA, (some (36, true)), false, .pu (.mov (.s 7))⟩,
      ⟨(some 40), some undefA, (some (36, true)), false, .pu (.idx 1 (.s 38) (.s 39))⟩,
      ⟨(some 41), some undefA, (some (36, true)), false, .ld (.ld 1 false (.s 40))⟩,
      ⟨(some 42), some undefA, (some (36, true)), false, .pu (.mov (.s 8))⟩,
      ⟨(some 43), some undefA, (some (36, true)), false, .call 71 [(.s 41), (.s 42)]⟩,
      ⟨(some 44), some undefA, (some (36, true)), false, .pu (.not (.s 43))⟩,
      ⟨(some 45), some undefA, none, false, .pu (.pick (.s 36) (.s 44) (.c (.bool false)))⟩])
    (.cond (.s 45) (.seq (.ops [⟨(some 4), some undefA, none, false, .pu (.mov (.c (.int .i64 0)))⟩,
       ⟨(some 5), some undefA, none, false, .pu (.mov (.c (.int .i64 8)))⟩])
     (.ret))
    (.skip)))))
   (.ops [⟨(some 46), some undefA, none, false, .pu (.bin .add (.s 29) (.c (.int .i64 1)))⟩,
     ⟨(some 29), some undefA, none, false, .pu (.mov (.s 46))⟩])))))))
 (.seq (.seq (.ops [⟨(some 47), some undefA, none, false, .pu (.mov (.s 1))⟩,
   ⟨(some 48), some undefA, none, false, .pu (.len (.s 47))⟩,
   ⟨(some 49), some undefA, none, false, .pu (.mov (.c (.int .i64 0)))⟩])
 (.block 2 (.loop (.seq (.ops [⟨(some 50), some undefA, none, false, .pu (.bin .lss (.s 49) (.s 48))⟩])
   (.seq (.cond (.s 50) (.skip)
   (.exit 2))
   (.seq (.block 3 (.seq (.ops [⟨(some 51), some undefA, none, false, .pu (.mov (.s 49))⟩,
      ⟨(some 52), some undefA, none, false, .pu (.idx 1 (.s 47) (.s 49))⟩,
      ⟨(some 53), some undefA, none, false, .ld (.ld 1 false (.s 52))⟩,
      ⟨(some 9), some undefA, none, false, .pu (.mov (.s 51))⟩,
      ⟨(some 10), some undefA, none, false, .pu (.mov (.s 53))⟩])
    (.seq (.ops [⟨(some 54), some undefA, none, false, .pu (.mov (.s 10))⟩,
      ⟨(some 55), some undefA, none, false, .pu (.bin .geq (.s 54) (.c (.int .i64 0)))⟩,
      ⟨(some 56), some undefA, none, false, .pu (.mov (.s 55))⟩,
      ⟨(some 57), some undefA, (some (56, true)), false, .pu (.mov (.s 1))⟩,
      ⟨(some 58), some undefA, (some (56, true)), false, .pu (.mov (.s 9))⟩,
      ⟨(some 59), some undefA, (some (56, true)), false, .pu (.slc 1 (.s 57) none (some (.s 58)) none)⟩,
      ⟨(some 60), some undefA, (some (56, true)), false, .pu (.mov (.s 10))⟩,
      ⟨(some 61), some undefA, (some (56, true)), false, .call 71 [(.s 59), (.s 60)]⟩,
      ⟨(some 62), some undefA, none, false, .pu (.pick (.s 56) (.s 61) (.c (.bool false)))⟩])
    (.cond (.s 62) (.seq (.ops [⟨(some 4), some undefA, none, false, .pu (.mov (.c (.int .i64 0)))⟩,
       ⟨(some 5), some undefA, none, false, .pu (.mov (.c (.int .i64 6)))⟩])
     (.ret))
    (.skip)))))
   (.ops [⟨(some 63), some undefA, none, false, .pu (.bin .add (.s 49) (.c (.int .i64 1)))⟩,
     ⟨(some 49), some undefA, none, false, .pu (.mov (.s 63))⟩])))))))
 (.seq (.ops [⟨(some 64), some undefA, none, false, .pu (.mov (.s 1))⟩,
   ⟨(some 65), some undefA, none, false, .call 61 [(.s 64)]⟩,
   ⟨(some 4), some undefA, none, false, .pu (.mov (.s 65))⟩,
   ⟨(some 5), some undefA, none, false, .pu (.mov (.c (.int .i64 0)))⟩])
 (.ret))))))⟩
theorem t33 : trF Try.prog [] [] Try.f33 = some m33 := by kernel_rfl
/-- selion/selionref07.Without [loop [1, 2, 4, 7, 8], loop [1, 2, 4, 7, 8, 9, 10]] -/
def m35 : MFun := ⟨99, [2, 4, 7], [.bget none 4 0 2 true, .mov (.s 5)],
 .seq (.ops [⟨(some 2), some (.junk), none, false, .pu (.bnew (.s 0))⟩,
   ⟨(some 4), some (.junk), none, false, .pu (.bnew (.c (.agg [.int .i64 0, .nilS])))⟩,
   ⟨(some 5), some undefA, none, false, .pu (.mov (.c (.int .i64 0)))⟩])
 (.seq (.seq (.ops [⟨(some 11), some undefA, none, false, .pu (.bget none 2 0 2 true)⟩,
   ⟨(some 12), some undefA, none, false, .call 40 [(.s 11)]⟩,
   ⟨(some 6), some undefA, none, false, .pu (.mov (.s 12))⟩])
 (.seq (.ops [⟨(some 13), some undefA, none, false, .pu (.mov (.s 6))⟩,
   ⟨(some 14), some undefA, none, false, .pu (.bin .neq (.s 13) (.c (.int .i64 0)))⟩])
 (.cond (.s 14) (.seq (.ops [⟨(some 15), some undefA, none, false, .pu (.build [.int .i64 0, .nilS] [])⟩,
    ⟨(some 16), some undefA, none, false, .pu (.mov (.s 6))⟩,
    ⟨(some 4), none, none, false, .pu (.bset none 4 0 2 (.s 15))⟩,
    ⟨(some 5), some undefA, none, false, .pu (.mov (.s 16))⟩])
  (.ret))
 (.skip))))
 (.seq (.seq (.ops [⟨(some 17), some undefA, none, false, .pu (.mov (.s 1))⟩,
   ⟨(some 18), some undefA, none, false, .pu (.badr none 2)⟩,
   ⟨(some 19), some undefA, none, false, .pu (.bget (some 18) 2 0 1 false)⟩,
   ⟨(some 20), some undefA, none, false, .pu (.bin .sub (.s 19) (.c (.int .i64 1)))⟩,
   ⟨(some 21), some undefA, none, false, .call 64 [(.s 17), (.c (.int .i64 0)), (.s 20)]⟩,
   ⟨(some 22), some undefA, none, false, .pu (.not (.s 21))⟩])
 (.cond (.s 22) (.seq (.ops [⟨(some 23), some undefA, none, false, .pu (.build [.int .i64 0, .nilS] [])⟩,
    ⟨(some 4), none, none, false, .pu (.bset none 4 0 2 (.s 23))⟩,
    ⟨(some 5), some undefA, none, false, .pu (.mov (.c (.int .i64 4)))⟩])
  (.ret))
 (.skip)))
 (.seq (.seq (.ops [⟨(some 24), some undefA, none, false, .pu (.badr none 2)⟩,
   ⟨(some 25), some undefA, none, false, .pu (.bget (some 24) 2 0 1 false)⟩,
   ⟨(some 26), some undefA, none, false, .pu (.bin .eql (.s 25) (.c (.int .i64 1)))⟩])
 (.cond (.s 26) (.seq (.ops [⟨(some 27), some undefA, none, false, .pu (.build [.int .i64 0, .nilS] [])⟩,
    ⟨(some 4), none, none, false, .pu (.bset none 4 0 2 (.s 27))⟩,
    ⟨(some 5), some undefA, none, false, .pu (.mov (.c (.int .i64 1)))⟩])
  (.ret))
 (.skip)))
 (.seq (.ops [⟨(some 28), some undefA, none, false, .pu (.badr none 2)⟩,
   ⟨(some 29), some undefA, none, false, .pu (.bget (some 28) 2 0 1 false)⟩,
   ⟨(some 30), some undefA, none, false, .pu (.bin .sub (.s 29) (.c (.int .i64 1)))⟩,
   ⟨(some 31), some undefA, none, false, .pu (.build [.int .i64 0, .nilS] [(0, 1, (.s 30))])⟩,
   ⟨(some 7), some (.junk), none, false, .pu (.bnew (.c (.agg [.int .i64 0, .nilS])))⟩,
   ⟨(some 7), none, none, false, .pu (.bset none 7 0 2 (.s 31))⟩])
 (.seq (.seq (.ops [⟨(some 8), some undefA, none, false, .pu (.mov (.c (.int .i64 0)))⟩])
 (.block 0 (.loop (.seq (.seq (.ops [⟨(some 32), some undefA, none, false, .pu (.mov (.s 8))⟩,
     ⟨(some 33), some undefA, none, false, .pu (.badr none 2)⟩,
     ⟨(some 34), some undefA, none, false, .pu (.bget (some 33) 2 1 1 false)⟩,
     ⟨(some 35), some undefA, none, false, .pu (.len (.s 34))⟩,
     ⟨(some 36), some undefA, none, false, .pu (.bin .lss (.s 32) (.s 35))⟩])
   (.cond (.s 36) (.skip)
   (.exit 0)))
   (.seq (.block 1 (.seq (.ops [⟨(some 9), some undefA, none, false, .pu (.mov (.c (.nilS)))⟩])
    (.seq (.seq (.ops [⟨(some 10), some undefA, none, false, .pu (.mov (.c (.int .i64 0)))⟩])
    (.block 2 (.loop (.seq (.seq (.ops [⟨(some 39), some undefA, none, false, .pu (.mov (.s 10))⟩,
        ⟨(some 40), some undefA, none, false, .pu (.badr none 2)⟩,
        ⟨(some 41), some undefA, none, false, .pu (.bget (some 40) 2 1 1 false)⟩,
        ⟨(some 42), some undefA, none, false, .pu (.mov (.s 8))⟩,
        ⟨(some 43), some undefA, none, false, .pu (.idx 1 (.s 41) (.s 42))⟩,
        ⟨(some 44), some undefA, none, false, .ld (.ld 1 false (.s 43))⟩,
        ⟨(some 45), some undefA, none, false, .pu (.len (.s 44))⟩,
        ⟨(some 46), some undefA, none, false, .pu (.bin .lss (.s 39) (.s 45))⟩])
      (.cond (.s 46) (.skip)
      (.exit 2)))
      (.seq (.block 3 (.seq (.seq (.ops [⟨(some 49), some undefA, none, false, .pu (.badr none 2)⟩,
         ⟨(some 50), some undefA, none, false, .pu (.bget (some 49) 2 1 1 false)⟩,
         ⟨(some 51), some undefA, none, false, .pu (.mov (.s 8))⟩,
         ⟨(some 52), some undefA, none, false, .pu (.idx 1 (.s 50) (.s 51))⟩,
         ⟨(some 53), some undefA, none, false, .ld (.ld 1 false (.s 52))⟩,
         ⟨(some 54), some undefA, none, false, .pu (.mov (.s 10))⟩,
         ⟨(some 55), some undefA, none, false, .pu (.idx 1 (.s 53) (.s 54))⟩,
         ⟨(some 56), some undefA, none, false, .ld (.ld 1 false (.s 55))⟩,
         ⟨(some 57), some undefA, none, false, .pu (.mov (.s 1))⟩,
         ⟨(some 58), some undefA, none, false, .pu (.bin .lss (.s 56) (.s 57))⟩])
       (.cond (.s 58) (.ops [⟨(some 59), some undefA, none, false, .pu (.mov (.s 9))⟩,
          ⟨(some 60), some undefA, none, false, .pu (.badr none 2)⟩,
          ⟨(some 61), some undefA, none, false, .pu (.bget (some 60) 2 1 1 false)⟩,
          ⟨(some 62), some undefA, none, false, .pu (.mov (.s 8))⟩,
          ⟨(some 63), some undefA, none, false, .pu (.idx 1 (.s 61) (.s 62))⟩,
          ⟨(some 64), some undefA, none, false, .ld (.ld 1 false (.s 63))⟩,
          ⟨(some 65), some undefA, none, false, .pu (.mov (.s 10))⟩,
          ⟨(some 66), some undefA, none, false, .pu (.idx 1 (.s 64) (.s 65))⟩,
          ⟨(some 67), some undefA, none, false, .ld (.ld 1 false (.s 66))⟩,
          ⟨(some 68), some undefA, none, false, .ha (.blds 1 1 [.int .i64 0] [(0, 1, (.s 67))])⟩,
          ⟨(some 69), some undefA, none, false, .ha (.app 1 (.s 59) (.s 68))⟩,
          ⟨(some 9), some undefA, none, false, .pu (.mov (.s 69))⟩])
       (.skip)))
       (.seq (.ops [⟨(some 70), some undefA, none, false, .pu (.badr none 2)⟩,
         ⟨(some 71), some undefA, none, false, .pu (.bget (some 70) 2 1 1 false)⟩,
         ⟨(some 72), some undefA, none, false, .pu (.mov (.s 8))⟩,
         ⟨(some 73), some undefA, none, false, .pu (.idx 1 (.s 71) (.s 72))⟩,
         ⟨(some 74), some undefA, none, false, .ld (.ld 1 false (.s 73))⟩,
         ⟨(some 75), some undefA, none, false, .pu (.mov (.s 10))⟩,
         ⟨(some 76), some undefA, none, false, .pu (.idx 1 (.s 74) (.s 75))⟩,
         ⟨(some 77), some undefA, none, false, .ld (.ld 1 false (.s 76))⟩,
         ⟨(some 78), some undefA, none, false, .pu (.mov (.s 1))⟩,
         ⟨(some 79), some undefA, none, false, .pu (.bin .gtr (.s 77) (.s 78))⟩])
       (.cond (.s 79) (.ops [⟨(some 80), some undefA, none, false, .pu (.mov (.s 9))⟩,
          ⟨(some 81), some undefA, none, false, .pu (.badr none 2)⟩,
          ⟨(some 82), some undefA, none, false, .pu (.bget (some 81) 2 1 1 false)⟩,
          ⟨(some 83), some undefA, none, false, .pu (.mov (.s 8))⟩,
          ⟨(some 84), some undefA, none, false, .pu (.idx 1 (.s 82) (.s 83))⟩,
          ⟨(some 85), some undefA, none, false, .ld (.ld 1 false (.s 84))⟩,
          ⟨(some 86), some undefA, none, false, .pu (.mov (.s 10))⟩,
          ⟨(some 87), some undefA, none, false, .pu (.idx 1 (.s 85) (.s 86))⟩,
          ⟨(some 88), some undefA, none, false, .ld (.ld 1 false (.s 87))⟩,
          ⟨(some 89), some undefA, none, false, .pu (.bin .sub (.s 88) (.c (.int .i64 1)))⟩,
          ⟨(some 90), some undefA, none, false, .ha (.blds 1 1 [.int .i64 0] [(0, 1, (.s 89))])⟩,
          ⟨(some 91), some undefA, none, false, .ha (.app 1 (.s 80) (.s 90))⟩,
          ⟨(some 9), some undefA, none, false, .pu (.mov (.s 91))⟩])
       (.skip)))))
      (.ops [⟨(some 47), some undefA, none, false, .pu (.mov (.s 10))⟩,
        ⟨(some 48), some undefA, none, false, .pu (.bin .add (.s 47) (.c (.int .i64 1)))⟩,
        ⟨(some 10), some undefA, none, false, .pu (.mov (.s 48))⟩]))))))
    (.ops [⟨(some 92), some undefA, none, false, .pu (.badr none 7)⟩,
      ⟨(some 93), some undefA, none, false, .pu (.bget (some 92) 7 1 1 false)⟩,
      ⟨(some 94), some undefA, none, false, .pu (.mov (.s 9))⟩,
      ⟨(some 95), some undefA, none, false, .ha (.blds 1 1 [.nilS] [(0, 1, (.s 94))])⟩,
      ⟨(some 96), some undefA, none, false, .ha (.app 1 (.s 93) (.s 95))⟩,
      ⟨(some 97), some undefA, none, false, .pu (.badr none 7)⟩,
      ⟨(some 7), none, none, false, .pu (.bset (some 97) 7 1 1 (.s 96))⟩]))))
   (.ops [⟨(some 37), some undefA, none, false, .pu (.mov (.s 8))⟩,
     ⟨(some 38), some undefA, none, false, .pu (.bin .add (.s 37) (.c (.int .i64 1)))⟩,
     ⟨(some 8), some undefA, none, false, .pu (.mov (.s 38))⟩]))))))
 (.seq (.ops [⟨(some 98), some undefA, none, false, .pu (.bget none 7 0 2 true)⟩,
   ⟨(some 4), none, none, false, .pu (.bset none 4 0 2 (.s 98))⟩,
   ⟨(some 5), some undefA, none, false, .pu (.mov (.c (.int .i64 0)))⟩])
 (.ret)))))))⟩
theorem t35 : trF Try.prog [2, 4, 7] [] Try.f35 = some m35 := by kernel_rfl
/-- selion/wish.Better [] -/
def m36 : MFun := ⟨29, [2], [.mov (.s 4), .mov (.s 5), .mov (.s 6)],
 .seq (.ops [⟨(some 2), some (.junk), none, false, .pu (.bnew (.s 0))⟩,
   ⟨(some 4), some undefA, none, false, .pu (.mov (.c (.nilS)))⟩,
   ⟨(some 5), some undefA, none, false, .pu (.mov (.c (.bool false)))⟩,
   ⟨(some 6), some undefA, none, false, .pu (.mov (.c (.int .i64 0)))⟩])
 (.seq (.ops [⟨(some 11), some undefA, none, false, .pu (.bget none 2 0 2 true)⟩,
   ⟨(some 12), some undefA, none, false, .pu (.mov (.s 1))⟩,
   ⟨(some 13), some undefA, none, false, .call 33 [(.s 11), (.s 12)]⟩,
   ⟨(some 10), some undefA, none, false, .pu (.mov (.s 13))⟩,
   ⟨(some 14), some undefA, none, false, .pu (.extr 0 (.s 10))⟩,
   ⟨(some 15), some undefA, none, false, .pu (.extr 1 (.s 10))⟩,
   ⟨(some 7), some undefA, none, false, .pu (.mov (.s 14))⟩,
   ⟨(some 8), some undefA, none, false, .pu (.mov (.s 15))⟩])
 (.seq (.seq (.ops [⟨(some 16), some undefA, none, false, .pu (.mov (.s 8))⟩,
   ⟨(some 17), some undefA, none, false, .pu (.bin .neq (.s 16) (.c (.int .i64 0)))⟩])
 (.cond (.s 17) (.seq (.ops [⟨(some 18), some undefA, none, false, .pu (.mov (.s 8))⟩,
    ⟨(some 4), some undefA, none, false, .pu (.mov (.c (.nilS)))⟩,
    ⟨(some 5), some undefA, none, false, .pu (.mov (.c (.bool false)))⟩,
    ⟨(some 6), some undefA, none, false, .pu (.mov (.s 18))⟩])
  (.ret))
 (.skip)))
 (.seq (.ops [⟨(some 19), some undefA, none, false, .pu (.bget none 2 0 2 true)⟩,
   ⟨(some 20), some undefA, none, false, .pu (.mov (.s 1))⟩,
   ⟨(some 21), some undefA, none, false, .pu (.build [.int .i64 0, .nilS, .nilS] [(0, 2, (.s 19)), (2, 1, (.s 20))])⟩,
   ⟨(some 22), some undefA, none, false, .call 62 [(.s 21)]⟩,
   ⟨(some 23), some undefA, none, false, .pu (.part 2 1 false (.s 22))⟩,
   ⟨(some 9), some undefA, none, false, .pu (.mov (.s 23))⟩])
 (.seq (.seq (.ops [⟨(some 24), some undefA, none, false, .pu (.mov (.s 9))⟩,
   ⟨(some 25), some undefA, none, false, .call 61 [(.s 24)]⟩,
   ⟨(some 26), some undefA, none, false, .pu (.mov (.s 7))⟩,
   ⟨(some 27), some undefA, none, false, .pu (.bin .eql (.s 25) (.s 26))⟩])
 (.cond (.s 27) (.seq (.ops [⟨(some 4), some undefA, none, false, .pu (.mov (.c (.nilS)))⟩,
    ⟨(some 5), some undefA, none, false, .pu (.mov (.c (.bool false)))⟩,
    ⟨(some 6), some undefA, none, false, .pu (.mov (.c (.int .i64 0)))⟩])
  (.ret))
 (.skip)))
 (.seq (.ops [⟨(some 28), some undefA, none, false, .pu (.mov (.s 9))⟩,
   ⟨(some 4), some undefA, none, false, .pu (.mov (.s 28))⟩,
   ⟨(some 5), some undefA, none, false, .pu (.mov (.c (.bool true)))⟩,
   ⟨(some 6), some undefA, none, false, .pu (.mov (.c (.int .i64 0)))⟩])
 (.ret))))))⟩
theorem t36 : trF Try.prog [2] [] Try.f36 = some m36 := by kernel_rfl
/-- selion/wish.Validate [loop [1, 20, 21, 22], loop [1, 4, 20, 21, 22, 31, 32, 33]] -/
def m39 : MFun := ⟨45, [1], [.mov (.s 2)],
 .seq (.ops [⟨(some 1), some (.junk), none, false, .pu (.bnew (.s 0))⟩,
   ⟨(some 2), some undefA, none, false, .pu (.mov (.c (.int .i64 0)))⟩])
 (.seq (.seq (.ops [⟨(some 7), some undefA, none, false, .pu (.badr none 1)⟩,
   ⟨(some 8), some undefA, none, false, .pu (.bget (some 7) 1 0 1 false)⟩,
   ⟨(some 9), some undefA, none, false, .pu (.bin .lss (.s 8) (.c (.int .i64 1)))⟩,
   ⟨(some 10), some undefA, none, false, .pu (.mov (.s 9))⟩,
   ⟨(some 11), some undefA, (some (10, false)), false, .pu (.badr none 1)⟩,
   ⟨(some 12), some undefA, (some (10, false)), false, .pu (.bget (some 11) 1 0 1 false)⟩,
   ⟨(some 13), some undefA, (some (10, false)), false, .pu (.bin .gtr (.s 12) (.c (.int .i64 7)))⟩,
   ⟨(some 14), some undefA, none, false, .pu (.pick (.s 10) (.c (.bool true)) (.s 13))⟩])
 (.cond (.s 14) (.seq (.ops [⟨(some 2), some undefA, none, false, .pu (.mov (.c (.int .i64 1)))⟩])
  (.ret))
 (.skip)))
 (.seq (.seq (.ops [⟨(some 15), some undefA, none, false, .pu (.badr none 1)⟩,
   ⟨(some 16), some undefA, none, false, .pu (.bget (some 15) 1 1 1 false)⟩,
   ⟨(some 17), some undefA, none, false, .pu (.len (.s 16))⟩,
   ⟨(some 18), some undefA, none, false, .pu (.bin .gtr (.s 17) (.c (.int .i64 7)))⟩])
 (.cond (.s 18) (.seq (.ops [⟨(some 2), some undefA, none, false, .pu (.mov (.c (.int .i64 3)))⟩])
  (.ret))
 (.skip)))
 (.seq (.seq (.ops [⟨(some 19), some undefA, none, false, .pu (.badr none 1)⟩,
   ⟨(some 20), some undefA, none, false, .pu (.bget (some 19) 1 1 1 false)⟩,
   ⟨(some 21), some undefA, none, false, .pu (.len (.s 20))⟩,
   ⟨(some 22), some undefA, none, false, .pu (.mov (.c (.int .i64 0)))⟩])
 (.block 0 (.loop (.seq (.ops [⟨(some 23), some undefA, none, false, .pu (.bin .lss (.s 22) (.s 21))⟩])
   (.seq (.cond (.s 23) (.skip)
   (.exit 0))
   (.seq (.block 1 (.seq (.ops [⟨(some 24), some undefA, none, false, .pu (.idx 1 (.s 20) (.s 22))⟩,
      ⟨(some 25), some undefA, none, false, .ld (.ld 1 false (.s 24))⟩,
      ⟨(some 4), some undefA, none, false, .pu (.mov (.s 25))⟩])
    (.seq (.seq (.ops [⟨(some 26), some undefA, none, false, .pu (.mov (.s 4))⟩,
      ⟨(some 27), some undefA, none, false, .pu (.badr none 1)⟩,
      ⟨(some 28), some undefA, none, false, .pu (.bget (some 27) 1 0 1 false)⟩,
      ⟨(some 29), some undefA, none, false, .call 73 [(.s 26), (.s 28)]⟩,
      ⟨(some 30), some undefA, none, false, .pu (.not (.s 29))⟩])
    (.cond (.s 30) (.seq (.ops [⟨(some 2), some undefA, none, false, .pu (.mov (.c (.int .i64 1)))⟩])
     (.ret))
    (.skip)))
    (.seq (.ops [⟨(some 31), some undefA, none, false, .pu (.mov (.s 4))⟩,
      ⟨(some 32), some undefA, none, false, .pu (.len (.s 31))⟩,
      ⟨(some 33), some undefA, none, false, .pu (.mov (.c (.int .i64 0)))⟩])
    (.block 2 (.loop (.seq (.ops [⟨(some 34), some undefA, none, false, .pu (.bin .lss (.s 33) (.s 32))⟩])
      (.seq (.cond (.s 34) (.skip)
      (.exit 2))
      (.seq (.block 3 (.seq (.ops [⟨(some 35), some undefA, none, false, .pu (.mov (.s 33))⟩,
         ⟨(some 36), some undefA, none, false, .pu (.idx 1 (.s 31) (.s 33))⟩,
         ⟨(some 37), some undefA, none, false, .ld (.ld 1 false (.s 36))⟩,
         ⟨(some 5), some undefA, none, false, .pu (.mov (.s 35))⟩,
         ⟨(some 6), some undefA, none, false, .pu (.mov (.s 37))⟩])
       (.seq (.ops [⟨(some 38), some undefA, none, false, .pu (.mov (.s 4))⟩,
         ⟨(some 39), some undefA, none, false, .pu (.mov (.s 5))⟩,
         ⟨(some 40), some undefA, none, false, .pu (.slc 1 (.s 38) none (some (.s 39)) none)⟩,
         ⟨(some 41), some undefA, none, false, .pu (.mov (.s 6))⟩,
         ⟨(some 42), some undefA, none, false, .call 71 [(.s 40), (.s 41)]⟩])
       (.cond (.s 42) (.seq (.ops [⟨(some 2), some undefA, none, false, .pu (.mov (.c (.int .i64 6)))⟩])
        (.ret))
       (.skip)))))
      (.ops [⟨(some 43), some undefA, none, false, .pu (.bin .add (.s 33) (.c (.int .i64 1)))⟩,
        ⟨(some 33), some undefA, none, false, .pu (.mov (.s 43))⟩]))))))))))
   (.ops [⟨(some 44), some undefA, none, false, .pu (.bin .add (.s 22) (.c (.int .i64 1)))⟩,
     ⟨(some 22), some undefA, none, false, .pu (.mov (.s 44))⟩])))))))
 (.seq (.ops [⟨(some 2), some undefA, none, false, .pu (.mov (.c (.int .i64 0)))⟩])
 (.ret)))))⟩
theorem t39 : trF Try.prog [1] [] Try.f39 = some m39 := by kernel_rfl
/-- selion/selionref07.Validate [loop [1, 3], loop [1, 3, 4], loop [1, 3, 5]] -/
def m40 : MFun := ⟨70, [1], [.mov (.s 2)],
 .seq (.ops [⟨(some 1), some (.junk), none, false, .pu (.bnew (.s 0))⟩,
   ⟨(some 2), some undefA, none, false, .pu (.mov (.c (.int .i64 0)))⟩])
 (.seq (.seq (.ops [⟨(some 6), some undefA, none, false, .pu (.badr none 1)⟩,
   ⟨(some 7), some undefA, none, false, .pu (.bget (some 6) 1 0 1 false)⟩,
   ⟨(some 8), some undefA, none, false, .call 64 [(.s 7), (.c (.int .i64 1)), (.c (.int .i64 7))]⟩,
   ⟨(some 9), some undefA, none, false, .pu (.not (.s 8))⟩])
 (.cond (.s 9) (.seq (.ops [⟨(some 2), some undefA, none, false, .pu (.mov (.c (.int .i64 1)))⟩])
  (.ret))
 (.skip)))
 (.seq (.seq (.ops [⟨(some 10), some undefA, none, false, .pu (.badr none 1)⟩,
   ⟨(some 11), some undefA, none, false, .pu (.bget (some 10) 1 1 1 false)⟩,
   ⟨(some 12), some undefA, none, false, .pu (.len (.s 11))⟩,
   ⟨(some 13), some undefA, none, false, .pu (.bin .gtr (.s 12) (.c (.int .i64 7)))⟩])
 (.cond (.s 13) (.seq (.ops [⟨(some 2), some undefA, none, false, .pu (.mov (.c (.int .i64 3)))⟩])
  (.ret))
 (.skip)))
 (.seq (.seq (.ops [⟨(some 3), some undefA, none, false, .pu (.mov (.c (.int .i64 0)))⟩])
 (.block 0 (.loop (.seq (.seq (.ops [⟨(some 14), some undefA, none, false, .pu (.mov (.s 3))⟩,
     ⟨(some 15), some undefA, none, false, .pu (.badr none 1)⟩,
     ⟨(some 16), some undefA, none, false, .pu (.bget (some 15) 1 1 1 false)⟩,
     ⟨(some 17), some undefA, none, false, .pu (.len (.s 16))⟩,
     ⟨(some 18), some undefA, none, false, .pu (.bin .lss (.s 14) (.s 17))⟩])
   (.cond (.s 18) (.skip)
   (.exit 0)))
   (.seq (.block 1 (.seq (.seq (.ops [⟨(some 4), some undefA, none, false, .pu (.mov (.c (.int .i64 0)))⟩])
    (.block 2 (.loop (.seq (.seq (.ops [⟨(some 21), some undefA, none, false, .pu (.mov (.s 4))⟩,
        ⟨(some 22), some undefA, none, false, .pu (.badr none 1)⟩,
        ⟨(some 23), some undefA, none, false, .pu (.bget (some 22) 1 1 1 false)⟩,
        ⟨(some 24), some undefA, none, false, .pu (.mov (.s 3))⟩,
        ⟨(some 25), some undefA, none, false, .pu (.idx 1 (.s 23) (.s 24))⟩,
        ⟨(some 26), some undefA, none, false, .ld (.ld 1 false (.s 25))⟩,
        ⟨(some 27), some undefA, none, false, .pu (.len (.s 26))⟩,
        ⟨(some 28), some undefA, none, false, .pu (.bin .lss (.s 21) (.s 27))⟩])
      (.cond (.s 28) (.skip)
      (.exit 2)))
      (.seq (.block 3 (.seq (.ops [⟨(some 31), some undefA, none, false, .pu (.badr none 1)⟩,
         ⟨(some 32), some undefA, none, false, .pu (.bget (some 31) 1 1 1 false)⟩,
         ⟨(some 33), some undefA, none, false, .pu (.mov (.s 3))⟩,
         ⟨(some 34), some undefA, none, false, .pu (.idx 1 (.s 32) (.s 33))⟩,
         ⟨(some 35), some undefA, none, true, .ld (.ld 1 false (.s 34))⟩,
         ⟨(some 36), some undefA, none, true, .pu (.mov (.s 4))⟩,
         ⟨(some 37), some undefA, none, false, .pu (.idx 1 (.s 35) (.s 36))⟩,
         ⟨(some 38), some undefA, none, true, .ld (.ld 1 false (.s 37))⟩,
         ⟨(some 39), some undefA, none, true, .pu (.badr none 1)⟩,
         ⟨(some 40), some undefA, none, true, .pu (.bget (some 39) 1 0 1 false)⟩,
         ⟨(some 41), some undefA, none, true, .pu (.bin .sub (.s 40) (.c (.int .i64 1)))⟩,
         ⟨(some 42), some undefA, none, false, .call 64 [(.s 38), (.c (.int .i64 0)), (.s 41)]⟩,
         ⟨(some 43), some undefA, none, false, .pu (.not (.s 42))⟩])
       (.cond (.s 43) (.seq (.ops [⟨(some 2), some undefA, none, false, .pu (.mov (.c (.int .i64 1)))⟩])
        (.ret))
       (.skip))))
      (.ops [⟨(some 29), some undefA, none, false, .pu (.mov (.s 4))⟩,
        ⟨(some 30), some undefA, none, false, .pu (.bin .add (.s 29) (.c (.int .i64 1)))⟩,
        ⟨(some 4), some undefA, none, false, .pu (.mov (.s 30))⟩]))))))
    (.seq (.ops [⟨(some 5), some undefA, none, false, .pu (.mov (.c (.int .i64 0)))⟩])
    (.block 4 (.loop (.seq (.seq (.ops [⟨(some 44), some undefA, none, false, .pu (.mov (.s 5))⟩,
        ⟨(some 45), some undefA, none, false, .pu (.badr none 1)⟩,
        ⟨(some 46), some undefA, none, false, .pu (.bget (some 45) 1 1 1 false)⟩,
        ⟨(some 47), some undefA, none, false, .pu (.mov (.s 3))⟩,
        ⟨(some 48), some undefA, none, false, .pu (.idx 1 (.s 46) (.s 47))⟩,
        ⟨(some 49), some undefA, none, false, .ld (.ld 1 false (.s 48))⟩,
        ⟨(some 50), some undefA, none, false, .pu (.len (.s 49))⟩,
        ⟨(some 51), some undefA, none, false, .pu (.bin .lss (.s 44) (.s 50))⟩])
      (.cond (.s 51) (.skip)
      (.exit 4)))
      (.seq (.block 5 (.seq (.ops [⟨(some 54), some undefA, none, true, .pu (.badr none 1)⟩,
         ⟨(some 55), some undefA, none, true, .pu (.bget (some 54) 1 1 1 false)⟩,
         ⟨(some 56), some undefA, none, true, .pu (.mov (.s 3))⟩,
         ⟨(some 57), some undefA, none, true, .pu (.idx 1 (.s 55) (.s 56))⟩,
         ⟨(some 58), some undefA, none, true, .ld (.ld 1 false (.s 57))⟩,
         ⟨(some 59), some undefA, none, true, .pu (.mov (.s 5))⟩,
         ⟨(some 60), some undefA, none, true, .pu (.slc 1 (.s 58) none (some (.s 59)) none)⟩,
         ⟨(some 61), some undefA, none, true, .pu (.badr none 1)⟩,
         ⟨(some 62), some undefA, none, true, .pu (.bget (some 61) 1 1 1 false)⟩,
         ⟨(some 63), some undefA, none, true, .pu (.mov (.s 3))⟩,
         ⟨(some 64), some undefA, none, true, .pu (.idx 1 (.s 62) (.s 63))⟩,
         ⟨(some 65), some undefA, none, true, .ld (.ld 1 false (.s 64))⟩,
         ⟨(some 66), some undefA, none, true, .pu (.mov (.s 5))⟩,
         ⟨(some 67), some undefA, none, true, .pu (.idx 1 (.s 65) (.s 66))⟩,
         ⟨(some 68), some undefA, none, true, .ld (.ld 1 false (.s 67))⟩,
         ⟨(some 69), some undefA, none, false, .call 65 [(.s 60), (.s 68)]⟩])
       (.cond (.s 69) (.seq (.ops [⟨(some 2), some undefA, none, false, .pu (.mov (.c (.int .i64 6)))⟩])
        (.ret))
       (.skip))))
      (.ops [⟨(some 52), some undefA, none, false, .pu (.mov (.s 5))⟩,
        ⟨(some 53), some undefA, none, false, .pu (.bin .add (.s 52) (.c (.int .i64 1)))⟩,
        ⟨(some 5), some undefA, none, false, .pu (.mov (.s 53))⟩]))))))))
   (.ops [⟨(some 19), some undefA, none, false, .pu (.mov (.s 3))⟩,
     ⟨(some 20), some undefA, none, false, .pu (.bin .add (.s 19) (.c (.int .i64 1)))⟩,
     ⟨(some 3), some undefA, none, false, .pu (.mov (.s 20))⟩]))))))
 (.seq (.ops [⟨(some 2), some undefA, none, false, .pu (.mov (.c (.int .i64 0)))⟩])
 (.ret)))))⟩
theorem t40 : trF Try.prog [1] [] Try.f40 = some m40 := by kernel_rfl
/-- selion/selionref01.Sum [loop [0, 3, 4]] -/
def m41 : MFun := ⟨18, [], [.mov (.s 2)],
 .seq (.ops [⟨(some 2), some undefA, none, false, .pu (.mov (.c (.int .i64 0)))⟩])
 (.seq (.ops [⟨(some 3), some undefA, none, false, .pu (.mov (.c (.int .i64 0)))⟩])
 (.seq (.seq (.ops [⟨(some 4), some undefA, none, false, .pu (.mov (.c (.int .i64 0)))⟩])
 (.block 0 (.loop (.seq (.seq (.ops [⟨(some 5), some undefA, none, false, .pu (.mov (.s 4))⟩,
     ⟨(some 6), some undefA, none, false, .pu (.mov (.s 0))⟩,
     ⟨(some 7), some undefA, none, false, .pu (.len (.s 6))⟩,
     ⟨(some 8), some undefA, none, false, .pu (.bin .lss (.s 5) (.s 7))⟩])
   (.cond (.s 8) (.skip)
   (.exit 0)))
   (.seq (.block 1 (.ops [⟨(some 11), some undefA, none, false, .pu (.mov (.s 3))⟩,
      ⟨(some 12), some undefA, none, false, .pu (.mov (.s 0))⟩,
      ⟨(some 13), some undefA, none, false, .pu (.mov (.s 4))⟩,
      ⟨(some 14), some undefA, none, false, .pu (.idx 1 (.s 12) (.s 13))⟩,
      ⟨(some 15), some undefA, none, false, .ld (.ld 1 false (.s 14))⟩,
      ⟨(some 16), some undefA, none, false, .pu (.bin .add (.s 11) (.s 15))⟩,
      ⟨(some 3), some undefA, none, false, .pu (.mov (.s 16))⟩]))
   (.ops [⟨(some 9), some undefA, none, false, .pu (.mov (.s 4))⟩,
     ⟨(some 10), some undefA, none, false, .pu (.bin .add (.s 9) (.c (.int .i64 1)))⟩,
     ⟨(some 4), some undefA, none, false, .pu (.mov (.s 10))⟩]))))))
 (.seq (.ops [⟨(some 17), some undefA, none, false, .pu (.mov (.s 3))⟩,
   ⟨(some 2), some undefA, none, false, .pu (.mov (.s 17))⟩])
 (.ret))))⟩
theorem t41 : trF Try.prog [] [] Try.f41 = some m41 := by kernel_rfl
/-- selion/wish.Lack [] -/
def m44 : MFun := ⟨20, [2], [.mov (.s 4), .mov (.s 5)],
 .seq (.ops [⟨(some 2), some (.junk), none, false, .pu (.bnew (.s 0))⟩,
   ⟨(some 4), some undefA, none, false, .pu (.mov (.c (.int .i64 0)))⟩,
   ⟨(some 5), some undefA, none, false, .pu (.mov (.c (.int .i64 0)))⟩])
 (.seq (.seq (.ops [⟨(some 7), some undefA, none, false, .pu (.bget none 2 0 2 true)⟩,
   ⟨(some 8), some undefA, none, false, .pu (.mov (.s 1))⟩,
   ⟨(some 9), some undefA, none, false, .call 74 [(.s 7), (.s 8)]⟩,
   ⟨(some 6), some undefA, none, false, .pu (.mov (.s 9))⟩])
 (.seq (.ops [⟨(some 10), some undefA, none, false, .pu (.mov (.s 6))⟩,
   ⟨(some 11), some undefA, none, false, .pu (.bin .neq (.s 10) (.c (.int .i64 0)))⟩])
 (.cond (.s 11) (.seq (.ops [⟨(some 12), some undefA, none, false, .pu (.mov (.s 6))⟩,
    ⟨(some 4), some undefA, none, false, .pu (.mov (.c (.int .i64 0)))⟩,
    ⟨(some 5), some undefA, none, false, .pu (.mov (.s 12))⟩])
  (.ret))
 (.skip))))
 (.seq (.ops [⟨(some 13), some undefA, none, false, .pu (.mov (.s 1))⟩,
   ⟨(some 14), some undefA, none, false, .pu (.len (.s 13))⟩,
   ⟨(some 15), some undefA, none, false, .pu (.bget none 2 0 2 true)⟩,
   ⟨(some 16), some undefA, none, false, .pu (.mov (.s 1))⟩,
   ⟨(some 17), some undefA, none, false, .call 75 [(.s 15), (.s 16)]⟩,
   ⟨(some 18), some undefA, none, false, .pu (.len (.s 17))⟩,
   ⟨(some 19), some undefA, none, false, .pu (.bin .sub (.s 14) (.s 18))⟩,
   ⟨(some 4), some undefA, none, false, .pu (.mov (.s 19))⟩,
   ⟨(some 5), some undefA, none, false, .pu (.mov (.c (.int .i64 0)))⟩])
 (.ret)))⟩
theorem t44 : trF Try.prog [2] [] Try.f44 = some m44 := by kernel_rfl
/-- selion/wish.CheckCover [loop [1, 5, 23, 24, 25]] -/
def m46 : MFun := ⟨45, [3], [.mov (.s 6), .mov (.s 7)],
 .seq (.ops [⟨(some 3), some (.junk), none, false, .pu (.bnew (.s 0))⟩,
   ⟨(some 5), some undefA, none, false, .ha (.newv (.s 2))⟩,
   ⟨(some 6), some undefA, none, false, .pu (.mov (.c (.int .i64 0)))⟩,
   ⟨(some 7), some undefA, none, false, .pu (.mov (.c (.int .i64 0)))⟩])
 (.seq (.seq (.ops [⟨(some 11), some undefA, none, false, .pu (.bget none 3 0 2 true)⟩,
   ⟨(some 12), some undefA, none, false, .pu (.mov (.s 1))⟩,
   ⟨(some 13), some undefA, none, false, .call 74 [(.s 11), (.s 12)]⟩,
   ⟨(some 8), some undefA, none, false, .pu (.mov (.s 13))⟩])
 (.seq (.ops [⟨(some 14), some undefA, none, false, .pu (.mov (.s 8))⟩,
   ⟨(some 15), some undefA, none, false, .pu (.bin .neq (.s 14) (.c (.int .i64 0)))⟩])
 (.cond (.s 15) (.seq (.ops [⟨(some 16), some undefA, none, false, .pu (.mov (.s 8))⟩,
    ⟨(some 6), some undefA, none, false, .pu (.mov (.c (.int .i64 0)))⟩,
    ⟨(some 7), some undefA, none, false, .pu (.mov (.s 16))⟩])
  (.ret))
 (.skip))))
 (.seq (.seq (.ops [⟨(some 17), some undefA, none, false, .ld (.ld 1 false (.s 5))⟩,
   ⟨(some 18), some undefA, none, false, .pu (.badr none 3)⟩,
   ⟨(some 19), some undefA, none, false, .pu (.bget (some 18) 3 0 1 false)⟩,
   ⟨(some 20), some undefA, none, false, .call 78 [(.s 17), (.s 19)]⟩,
   ⟨(some 21), some undefA, none, false, .pu (.not (.s 20))⟩])
 (.cond (.s 21) (.seq (.ops [⟨(some 6), some undefA, none, false, .pu (.mov (.c (.int .i64 0)))⟩,
    ⟨(some 7), some undefA, none, false, .pu (.mov (.c (.int .i64 1)))⟩])
  (.ret))
 (.skip)))
 (.seq (.seq (.ops [⟨(some 22), some undefA, none, false, .pu (.badr none 3)⟩,
   ⟨(some 23), some undefA, none, false, .pu (.bget (some 22) 3 1 1 false)⟩,
   ⟨(some 24), some undefA, none, false, .pu (.len (.s 23))⟩,
   ⟨(some 25), some undefA, none, false, .pu (.mov (.c (.int .i64 0)))⟩])
 (.block 0 (.loop (.seq (.ops [⟨(some 26), some undefA, none, false, .pu (.bin .lss (.s 25) (.s 24))⟩])
   (.seq (.cond (.s 26) (.skip)
   (.exit 0))
   (.seq (.block 1 (.seq (.ops [⟨(some 27), some undefA, none, false, .pu (.mov (.s 25))⟩,
      ⟨(some 28), some undefA, none, false, .pu (.idx 1 (.s 23) (.s 25))⟩,
      ⟨(some 29), some undefA, none, false, .ld (.ld 1 false (.s 28))⟩,
      ⟨(some 9), some undefA, none, false, .pu (.mov (.s 27))⟩,
      ⟨(some 10), some undefA, none, false, .pu (.mov (.s 29))⟩])
    (.seq (.ops [⟨(some 30), some undefA, none, false, .pu (.mov (.s 1))⟩,
      ⟨(some 31), some undefA, none, false, .pu (.mov (.s 9))⟩,
      ⟨(some 32), some undefA, none, false, .call 71 [(.s 30), (.s 31)]⟩,
      ⟨(some 33), some undefA, none, false, .pu (.not (.s 32))⟩,
      ⟨(some 34), some undefA, none, false, .pu (.mov (.s 33))⟩,
      ⟨(some 35), some undefA, (some (34, true)), false, .pu (.mov (.s 10))⟩,
      ⟨(some 36), some undefA, (some (34, true)), false, .pu (.mkf 79 [(.s 5)])⟩,
      ⟨(some 37), some undefA, (some (34, true)), false, .call 69 [(.s 35), (.s 36)]⟩,
      ⟨(some 38), some undefA, none, false, .pu (.pick (.s 34) (.s 37) (.c (.bool false)))⟩])
    (.cond (.s 38) (.seq (.ops [⟨(some 6), some undefA, none, false, .pu (.mov (.c (.int .i64 0)))⟩,
       ⟨(some 7), some undefA, none, false, .pu (.mov (.c (.int .i64 7)))⟩])
     (.ret))
    (.skip)))))
   (.ops [⟨(some 39), some undefA, none, false, .pu (.bin .add (.s 25) (.c (.int .i64 1)))⟩,
     ⟨(some 25), some undefA, none, false, .pu (.mov (.s 39))⟩])))))))
 (.seq (.ops [⟨(some 40), some undefA, none, false, .pu (.mov (.s 1))⟩,
   ⟨(some 41), some undefA, none, false, .pu (.len (.s 40))⟩,
   ⟨(some 42), some undefA, none, false, .ld (.ld 1 false (.s 5))⟩,
   ⟨(some 43), some undefA, none, false, .pu (.len (.s 42))⟩,
   ⟨(some 44), some undefA, none, false, .pu (.bin .add (.s 41) (.s 43))⟩,
   ⟨(some 6), some undefA, none, false, .pu (.mov (.s 44))⟩,
   ⟨(some 7), some undefA, none, false, .pu (.mov (.c (.int .i64 0)))⟩])
 (.ret)))))⟩
theorem t46 : trF Try.prog [3] [] Try.f46 = some m46 := by kernel_rfl
/-- selion/wish.Line [loop [2, 8, 36, 37, 38]] -/
def m52 : MFun := ⟨66, [2], [.mov (.s 4), .mov (.s 5)],
 .seq (.ops [⟨(some 2), some (.junk), none, false, .pu (.bnew (.s 0))⟩,
   ⟨(some 4), some undefA, none, false, .pu (.mov (.c (.nilS)))⟩,
   ⟨(some 5), some undefA, none, false, .pu (.mov (.c (.int .i64 0)))⟩])
 (.seq (.seq (.ops [⟨(some 12), some undefA, none, false, .pu (.bget none 2 0 2 true)⟩,
   ⟨(some 13), some undefA, none, false, .call 39 [(.s 12)]⟩,
   ⟨(some 6), some undefA, none, false, .pu (.mov (.s 13))⟩])
 (.seq (.ops [⟨(some 14), some undefA, none, false, .pu (.mov (.s 6))⟩,
   ⟨(some 15), some undefA, none, false, .pu (.bin .neq (.s 14) (.c (.int .i64 0)))⟩])
 (.cond (.s 15) (.seq (.ops [⟨(some 16), some undefA, none, false, .pu (.mov (.s 6))⟩,
    ⟨(some 4), some undefA, none, false, .pu (.mov (.c (.nilS)))⟩,
    ⟨(some 5), some undefA, none, false, .pu (.mov (.s 16))⟩])
  (.ret))
 (.skip))))
 (.seq (.seq (.ops [⟨(some 17), some undefA, none, false, .pu (.mov (.s 1))⟩,
   ⟨(some 18), some undefA, none, false, .call 86 [(.s 17)]⟩,
   ⟨(some 19), some undefA, none, false, .call 85 [(.s 18)]⟩,
   ⟨(some 7), some undefA, none, false, .pu (.mov (.s 19))⟩])
 (.seq (.ops [⟨(some 20), some undefA, none, false, .pu (.mov (.s 1))⟩,
   ⟨(some 21), some undefA, none, false, .pu (.len (.s 20))⟩,
   ⟨(some 22), some undefA, none, false, .pu (.badr none 2)⟩,
   ⟨(some 23), some undefA, none, false, .pu (.bget (some 22) 2 1 1 false)⟩,
   ⟨(some 24), some undefA, none, false, .pu (.len (.s 23))⟩,
   ⟨(some 25), some undefA, none, false, .pu (.bin .neq (.s 21) (.s 24))⟩,
   ⟨(some 26), some undefA, none, false, .pu (.mov (.s 25))⟩,
   ⟨(some 27), some undefA, (some (26, false)), false, .pu (.mov (.s 7))⟩,
   ⟨(some 28), some undefA, (some (26, false)), false, .pu (.badr none 2)⟩,
   ⟨(some 29), some undefA, (some (26, false)), false, .pu (.bget (some 28) 2 1 1 false)⟩,
   ⟨(some 30), some undefA, (some (26, false)), false, .pu (.len (.s 29))⟩,
   ⟨(some 31), some undefA, (some (26, false)), false, .call 78 [(.s 27), (.s 30)]⟩,
   ⟨(some 32), some undefA, (some (26, false)), false, .pu (.not (.s 31))⟩,
   ⟨(some 33), some undefA, none, false, .pu (.pick (.s 26) (.c (.bool true)) (.s 32))⟩])
 (.cond (.s 33) (.seq (.ops [⟨(some 4), some undefA, none, false, .pu (.mov (.c (.nilS)))⟩,
    ⟨(some 5), some undefA, none, false, .pu (.mov (.c (.int .i64 1)))⟩])
  (.ret))
 (.skip))))
 (.seq (.ops [⟨(some 34), some undefA, none, false, .pu (.bget none 2 0 2 true)⟩,
   ⟨(some 35), some undefA, none, false, .call 63 [(.s 34)]⟩,
   ⟨(some 8), some undefA, none, false, .ha (.newv (.c (.agg [.int .i64 0, .nilS, .nilS])))⟩,
   ⟨none, some undefA, none, false, .ha (.st 3 (.s 8) (.s 35))⟩])
 (.seq (.seq (.ops [⟨(some 36), some undefA, none, false, .pu (.mov (.s 1))⟩,
   ⟨(some 37), some undefA, none, false, .pu (.len (.s 36))⟩,
   ⟨(some 38), some undefA, none, false, .pu (.mov (.c (.int .i64 0)))⟩])
 (.block 0 (.loop (.seq (.ops [⟨(some 39), some undefA, none, false, .pu (.bin .lss (.s 38) (.s 37))⟩])
   (.seq (.cond (.s 39) (.skip)
   (.exit 0))
   (.seq (.block 1 (.seq (.ops [⟨(some 40), some undefA, none, false, .pu (.idx 1 (.s 36) (.s 38))⟩,
      ⟨(some 41), some undefA, none, false, .ld (.ld 1 false (.s 40))⟩,
      ⟨(some 10), some undefA, none, false, .pu (.mov (.s 41))⟩])
    (.seq (.ops [⟨(some 42), some undefA, none, false, .pu (.badr none 2)⟩,
      ⟨(some 43), some undefA, none, false, .pu (.bget (some 42) 2 1 1 false)⟩,
      ⟨(some 44), some undefA, none, false, .pu (.mov (.s 10))⟩,
      ⟨(some 45), some undefA, none, false, .pu (.idx 1 (.s 43) (.s 44))⟩,
      ⟨(some 46), some undefA, none, false, .ld (.ld 1 false (.s 45))⟩,
      ⟨(some 47), some undefA, none, false, .pu (.mkf 88 [(.s 8)])⟩,
      ⟨(some 48), some undefA, none, false, .call 87 [(.s 46), (.s 47)]⟩,
      ⟨(some 11), some undefA, none, false, .pu (.mov (.s 48))⟩])
    (.seq (.ops [⟨(some 49), some undefA, none, false, .pu (.mov (.s 11))⟩,
      ⟨(some 50), some undefA, none, false, .pu (.bin .geq (.s 49) (.c (.int .i64 0)))⟩])
    (.cond (.s 50) (.ops [⟨(some 51), some undefA, none, true, .pu (.fad 2 (.s 8))⟩,
       ⟨(some 52), some undefA, none, true, .ld (.ld 1 false (.s 51))⟩,
       ⟨(some 53), some undefA, none, true, .pu (.mov (.s 10))⟩,
       ⟨(some 54), some undefA, none, true, .pu (.badr none 2)⟩,
       ⟨(some 55), some undefA, none, true, .pu (.bget (some 54) 2 1 1 false)⟩,
       ⟨(some 56), some undefA, none, true, .pu (.mov (.s 10))⟩,
       ⟨(some 57), some undefA, none, true, .pu (.idx 1 (.s 55) (.s 56))⟩,
       ⟨(some 58), some undefA, none, true, .ld (.ld 1 false (.s 57))⟩,
       ⟨(some 59), some undefA, none, true, .pu (.mov (.s 11))⟩,
       ⟨(some 60), some undefA, none, true, .pu (.idx 1 (.s 58) (.s 59))⟩,
       ⟨(some 61), some undefA, none, true, .ld (.ld 1 false (.s 60))⟩,
       ⟨(some 62), some undefA, none, false, .pu (.idx 1 (.s 52) (.s 53))⟩,
       ⟨none, some undefA, none, false, .ha (.st 1 (.s 62) (.s 61))⟩])
    (.skip))))))
   (.ops [⟨(some 63), some undefA, none, false, .pu (.bin .add (.s 38) (.c (.int .i64 1)))⟩,
     ⟨(some 38), some undefA, none, false, .pu (.mov (.s 63))⟩])))))))
 (.seq (.ops [⟨(some 64), some undefA, none, false, .pu (.fad 2 (.s 8))⟩,
   ⟨(some 65), some undefA, none, false, .ld (.ld 1 false (.s 64))⟩,
   ⟨(some 4), some undefA, none, false, .pu (.mov (.s 65))⟩,
   ⟨(some 5), some undefA, none, false, .pu (.mov (.c (.int .i64 0)))⟩])
 (.ret))))))⟩
theorem t52 : trF Try.prog [2] [] Try.f52 = some m52 := by kernel_rfl
/-- selion/selionref07.Line [loop [1, 2, 7], loop [1, 2, 8, 9, 10], loop [1, 2, 8, 9, 10, 11, 12]] -/
def m53 : MFun := ⟨110, [2], [.mov (.s 4), .mov (.s 5)],
 .seq (.ops [⟨(some 2), some (.junk), none, false, .pu (.bnew (.s 0))⟩,
   ⟨(some 4), some undefA, none, false, .pu (.mov (.c (.nilS)))⟩,
   ⟨(some 5), some undefA, none, false, .pu (.mov (.c (.int .i64 0)))⟩])
 (.seq (.seq (.ops [⟨(some 13), some undefA, none, false, .pu (.bget none 2 0 2 true)⟩,
   ⟨(some 14), some undefA, none, false, .call 40 [(.s 13)]⟩,
   ⟨(some 6), some undefA, none, false, .pu (.mov (.s 14))⟩])
 (.seq (.ops [⟨(some 15), some undefA, none, false, .pu (.mov (.s 6))⟩,
   ⟨(some 16), some undefA, none, false, .pu (.bin .neq (.s 15) (.c (.int .i64 0)))⟩])
 (.cond (.s 16) (.seq (.ops [⟨(some 17), some undefA, none, false, .pu (.mov (.s 6))⟩,
    ⟨(some 4), some undefA, none, false, .pu (.mov (.c (.nilS)))⟩,
    ⟨(some 5), some undefA, none, false, .pu (.mov (.s 17))⟩])
  (.ret))
 (.skip))))
 (.seq (.seq (.ops [⟨(some 18), some undefA, none, false, .pu (.mov (.s 1))⟩,
   ⟨(some 19), some undefA, none, false, .pu (.len (.s 18))⟩,
   ⟨(some 20), some undefA, none, false, .pu (.badr none 2)⟩,
   ⟨(some 21), some undefA, none, false, .pu (.bget (some 20) 2 1 1 false)⟩,
   ⟨(some 22), some undefA, none, false, .pu (.len (.s 21))⟩,
   ⟨(some 23), some undefA, none, false, .pu (.bin .neq (.s 19) (.s 22))⟩])
 (.cond (.s 23) (.seq (.ops [⟨(some 4), some undefA, none, false, .pu (.mov (.c (.nilS)))⟩,
    ⟨(some 5), some undefA, none, false, .pu (.mov (.c (.int .i64 1)))⟩])
  (.ret))
 (.skip)))
 (.seq (.seq (.ops [⟨(some 7), some undefA, none, false, .pu (.mov (.c (.int .i64 0)))⟩])
 (.block 0 (.loop (.seq (.seq (.ops [⟨(some 24), some undefA, none, false, .pu (.mov (.s 7))⟩,
     ⟨(some 25), some undefA, none, false, .pu (.mov (.s 1))⟩,
     ⟨(some 26), some undefA, none, false, .pu (.len (.s 25))⟩,
     ⟨(some 27), some undefA, none, false, .pu (.bin .lss (.s 24) (.s 26))⟩])
   (.cond (.s 27) (.skip)
   (.exit 0)))
   (.seq (.block 1 (.seq (.ops [⟨(some 30), some undefA, none, false, .pu (.mov (.s 1))⟩,
      ⟨(some 31), some undefA, none, false, .pu (.mov (.s 7))⟩,
      ⟨(some 32), some undefA, none, false, .pu (.idx 1 (.s 30) (.s 31))⟩,
      ⟨(some 33), some undefA, none, true, .ld (.ld 1 false (.s 32))⟩,
      ⟨(some 34), some undefA, none, true, .pu (.badr none 2)⟩,
      ⟨(some 35), some undefA, none, true, .pu (.bget (some 34) 2 1 1 false)⟩,
      ⟨(some 36), some undefA, none, true, .pu (.len (.s 35))⟩,
      ⟨(some 37), some undefA, none, true, .pu (.bin .sub (.s 36) (.c (.int .i64 1)))⟩,
      ⟨(some 38), some undefA, none, false, .call 64 [(.s 33), (.c (.int .i64 0)), (.s 37)]⟩,
      ⟨(some 39), some undefA, none, false, .pu (.not (.s 38))⟩,
      ⟨(some 40), some undefA, none, false, .pu (.mov (.s 39))⟩,
      ⟨(some 41), some undefA, (some (40, false)), true, .pu (.mov (.s 1))⟩,
      ⟨(some 42), some undefA, (some (40, false)), true, .pu (.mov (.s 7))⟩,
      ⟨(some 43), some undefA, (some (40, false)), true, .pu (.slc 1 (.s 41) none (some (.s 42)) none)⟩,
      ⟨(some 44), some undefA, (some (40, false)), false, .pu (.mov (.s 1))⟩,
      ⟨(some 45), some undefA, (some (40, false)), false, .pu (.mov (.s 7))⟩,
      ⟨(some 46), some undefA, (some (40, false)), false, .pu (.idx 1 (.s 44) (.s 45))⟩,
      ⟨(some 47), some undefA, (some (40, false)), true, .ld (.ld 1 false (.s 46))⟩,
      ⟨(some 48), some undefA, (some (40, false)), false, .call 65 [(.s 43), (.s 47)]⟩,
      ⟨(some 49), some undefA, none, false, .pu (.pick (.s 40) (.c (.bool true)) (.s 48))⟩])
    (.cond (.s 49) (.seq (.ops [⟨(some 4), some undefA, none, false, .pu (.mov (.c (.nilS)))⟩,
       ⟨(some 5), some undefA, none, false, .pu (.mov (.c (.int .i64 1)))⟩])
     (.ret))
    (.skip))))
   (.ops [⟨(some 28), some undefA, none, false, .pu (.mov (.s 7))⟩,
     ⟨(some 29), some undefA, none, false, .pu (.bin .add (.s 28) (.c (.int .i64 1)))⟩,
     ⟨(some 7), some undefA, none, false, .pu (.mov (.s 29))⟩]))))))
 (.seq (.ops [⟨(some 50), some undefA, none, false, .pu (.badr none 2)⟩,
   ⟨(some 51), some undefA, none, false, .pu (.bget (some 50) 2 1 1 false)⟩,
   ⟨(some 52), some undefA, none, false, .pu (.len (.s 51))⟩,
   ⟨(some 53), some undefA, none, false, .ha (.mks 1 [.int .i64 0] (.s 52) (.s 52))⟩,
   ⟨(some 8), some undefA, none, false, .pu (.mov (.s 53))⟩])
 (.seq (.ops [⟨(some 9), some undefA, none, false, .pu (.mov (.c (.nilS)))⟩])
 (.seq (.seq (.ops [⟨(some 10), some undefA, none, false, .pu (.mov (.c (.int .i64 0)))⟩])
 (.block 2 (.loop (.seq (.seq (.ops [⟨(some 54), some undefA, none, false, .pu (.mov (.s 10))⟩,
     ⟨(some 55), some undefA, none, false, .pu (.mov (.s 1))⟩,
     ⟨(some 56), some undefA, none, false, .pu (.len (.s 55))⟩,
     ⟨(some 57), some undefA, none, false, .pu (.bin .lss (.s 54) (.s 56))⟩])
   (.cond (.s 57) (.skip)
   (.exit 2)))
   (.seq (.block 3 (.seq (.ops [⟨(some 60), some undefA, none, true, .pu (.badr none 2)⟩,
      ⟨(some 61), some undefA, none, true, .pu (.bget (some 60) 2 1 1 false)⟩,
      ⟨(some 62), some undefA, none, false, .pu (.mov (.s 1))⟩,
      ⟨(some 63), some undefA, none, false, .pu (.mov (.s 10))⟩,
      ⟨(some 64), some undefA, none, false, .pu (.idx 1 (.s 62) (.s 63))⟩,
      ⟨(some 65), some undefA, none, true, .ld (.ld 1 false (.s 64))⟩,
      ⟨(some 66), some undefA, none, false, .pu (.idx 1 (.s 61) (.s 65))⟩,
      ⟨(some 67), some undefA, none, true, .ld (.ld 1 false (.s 66))⟩,
      ⟨(some 11), some undefA, none, false, .pu (.mov (.s 67))⟩])
    (.seq (.ops [⟨(some 12), some undefA, none, false, .pu (.mov (.c (.int .i64 0)))⟩])
    (.seq (.block 4 (.loop (.seq (.seq (.ops [⟨(some 68), some undefA, none, false, .pu (.mov (.s 12))⟩,
        ⟨(some 69), some undefA, none, false, .pu (.mov (.s 11))⟩,
        ⟨(some 70), some undefA, none, false, .pu (.len (.s 69))⟩,
        ⟨(some 71), some undefA, none, false, .pu (.bin .lss (.s 68) (.s 70))⟩,
        ⟨(some 72), some undefA, none, false, .pu (.mov (.s 71))⟩,
        ⟨(some 73), some undefA, (some (72, true)), false, .pu (.mov (.s 9))⟩,
        ⟨(some 74), some undefA, (some (72, true)), false, .pu (.mov (.s 11))⟩,
        ⟨(some 75), some undefA, (some (72, true)), false, .pu (.mov (.s 12))⟩,
        ⟨(some 76), some undefA, (some (72, true)), false, .pu (.idx 1 (.s 74) (.s 75))⟩,
        ⟨(some 77), some undefA, (some (72, true)), false, .ld (.ld 1 false (.s 76))⟩,
        ⟨(some 78), some undefA, (some (72, true)), false, .call 65 [(.s 73), (.s 77)]⟩,
        ⟨(some 79), some undefA, none, false, .pu (.pick (.s 72) (.s 78) (.c (.bool false)))⟩])
      (.cond (.s 79) (.skip)
      (.exit 4)))
      (.block 5 (.ops [⟨(some 80), some undefA, none, false, .pu (.mov (.s 12))⟩,
         ⟨(some 81), some undefA, none, false, .pu (.bin .add (.s 80) (.c (.int .i64 1)))⟩,
         ⟨(some 12), some undefA, none, false, .pu (.mov (.s 81))⟩])))))
    (.seq (.ops [⟨(some 82), some undefA, none, false, .pu (.mov (.s 8))⟩,
      ⟨(some 83), some undefA, none, false, .pu (.mov (.s 1))⟩,
      ⟨(some 84), some undefA, none, false, .pu (.mov (.s 10))⟩,
      ⟨(some 85), some undefA, none, false, .pu (.idx 1 (.s 83) (.s 84))⟩,
      ⟨(some 86), some undefA, none, false, .ld (.ld 1 false (.s 85))⟩,
      ⟨(some 87), some undefA, none, false, .pu (.idx 1 (.s 82) (.s 86))⟩,
      ⟨none, some undefA, none, false, .ha (.st 1 (.s 87) (.c (.int .i64 (-1))))⟩])
    (.seq (.ops [⟨(some 88), some undefA, none, false, .pu (.mov (.s 12))⟩,
      ⟨(some 89), some undefA, none, false, .pu (.mov (.s 11))⟩,
      ⟨(some 90), some undefA, none, false, .pu (.len (.s 89))⟩,
      ⟨(some 91), some undefA, none, false, .pu (.bin .lss (.s 88) (.s 90))⟩])
    (.cond (.s 91) (.seq (.ops [⟨(some 92), some undefA, none, true, .pu (.mov (.s 8))⟩,
       ⟨(some 93), some undefA, none, true, .pu (.mov (.s 1))⟩,
       ⟨(some 94), some undefA, none, true, .pu (.mov (.s 10))⟩,
       ⟨(some 95), some undefA, none, true, .pu (.idx 1 (.s 93) (.s 94))⟩,
       ⟨(some 96), some undefA, none, true, .ld (.ld 1 false (.s 95))⟩,
       ⟨(some 97), some undefA, none, true, .pu (.mov (.s 11))⟩,
       ⟨(some 98), some undefA, none, true, .pu (.mov (.s 12))⟩,
       ⟨(some 99), some undefA, none, true, .pu (.idx 1 (.s 97) (.s 98))⟩,
       ⟨(some 100), some undefA, none, true, .ld (.ld 1 false (.s 99))⟩,
       ⟨(some 101), some undefA, none, false, .pu (.idx 1 (.s 92) (.s 96))⟩,
       ⟨none, some undefA, none, false, .ha (.st 1 (.s 101) (.s 100))⟩])
     (.ops [⟨(some 102), some undefA, none, false, .pu (.mov (.s 9))⟩,
       ⟨(some 103), some undefA, none, false, .pu (.mov (.s 11))⟩,
       ⟨(some 104), some undefA, none, false, .pu (.mov (.s 12))⟩,
       ⟨(some 105), some undefA, none, false, .pu (.idx 1 (.s 103) (.s 104))⟩,
       ⟨(some 106), some undefA, none, false, .ld (.ld 1 false (.s 105))⟩,
       ⟨(some 107), some undefA, none, false, .ha (.blds 1 1 [.int .i64 0] [(0, 1, (.s 106))])⟩,
       ⟨(some 108), some undefA, none, false, .ha (.app 1 (.s 102) (.s 107))⟩,
       ⟨(some 9), some undefA, none, false, .pu (.mov (.s 108))⟩]))
    (.skip))))))))
   (.ops [⟨(some 58), some undefA, none, false, .pu (.mov (.s 10))⟩,
     ⟨(some 59), some undefA, none, false, .pu (.bin .add (.s 58) (.c (.int .i64 1)))⟩,
     ⟨(some 10), some undefA, none, false, .pu (.mov (.s 59))⟩]))))))
 (.seq (.ops [⟨(some 109), some undefA, none, false, .pu (.mov (.s 8))⟩,
   ⟨(some 4), some undefA, none, false, .pu (.mov (.s 109))⟩,
   ⟨(some 5), some undefA, none, false, .pu (.mov (.c (.int .i64 0)))⟩])
 (.ret))))))))⟩
theorem t53 : trF Try.prog [2] [] Try.f53 = some m53 := by kernel_rfl
/-- selion/selionlaw07.first [] -/
def m54 : MFun := ⟨6, [0], [.bget none 0 0 2 true],
 .seq (.ops [⟨(some 0), some (.junk), none, false, .pu (.bnew (.c (.agg [.int .i64 0, .nilS])))⟩])
 (.seq (.ops [⟨(some 1), some undefA, none, false, .ha (.blds 1 2 [.int .i64 0] [(0, 1, (.c (.int .i64 0))), (1, 1, (.c (.int .i64 1)))])⟩,
   ⟨(some 2), some undefA, none, false, .ha (.blds 1 1 [.int .i64 0] [(0, 1, (.c (.int .i64 0)))])⟩,
   ⟨(some 3), some undefA, none, false, .ha (.blds 1 1 [.int .i64 0] [(0, 1, (.c (.int .i64 0)))])⟩,
   ⟨(some 4), some undefA, none, false, .ha (.blds 1 3 [.nilS] [(0, 1, (.s 1)), (1, 1, (.s 2)), (2, 1, (.s 3))])⟩,
   ⟨(some 5), some undefA, none, false, .pu (.build [.int .i64 0, .nilS] [(0, 1, (.c (.int .i64 3))), (1, 1, (.s 4))])⟩,
   ⟨(some 0), none, none, false, .pu (.bset none 0 0 2 (.s 5))⟩])
 (.ret))⟩
theorem t54 : trF Try.prog [0] [] Try.f54 = some m54 := by kernel_rfl
/-- slices.Clone[[][]int,[]int] [] -/
def m55 : MFun := ⟨8, [], [.mov (.s 2)],
 .seq (.ops [⟨(some 2), some undefA, none, false, .pu (.mov (.c (.nilS)))⟩])
 (.seq (.seq (.ops [⟨(some 3), some undefA, none, false, .pu (.mov (.s 0))⟩,
   ⟨(some 4), some undefA, none, false, .pu (.isnil false (.s 3))⟩])
 (.cond (.s 4) (.seq (.ops [⟨(some 2), some undefA, none, false, .pu (.mov (.c (.nilS)))⟩])
  (.ret))
 (.skip)))
 (.seq (.ops [⟨(some 5), some undefA, none, false, .ha (.blds 1 0 [.nilS] [])⟩,
   ⟨(some 6), some undefA, none, false, .pu (.mov (.s 0))⟩,
   ⟨(some 7), some undefA, none, false, .ha (.app 1 (.s 5) (.s 6))⟩,
   ⟨(some 2), some undefA, none, false, .pu (.mov (.s 7))⟩])
 (.ret)))⟩
theorem t55 : trF Try.prog [] [] Try.f55 = some m55 := by kernel_rfl
/-- selion/wish.most [] -/
def m56 : MFun := ⟨8, [1], [.mov (.s 2)],
 .seq (.ops [⟨(some 1), some (.junk), none, false, .pu (.bnew (.s 0))⟩,
   ⟨(some 2), some undefA, none, false, .pu (.mov (.c (.int .i64 0)))⟩])
 (.seq (.ops [⟨(some 3), some undefA, none, false, .pu (.bget none 1 0 2 true)⟩,
   ⟨(some 4), some undefA, none, false, .call 63 [(.s 3)]⟩,
   ⟨(some 5), some undefA, none, false, .call 62 [(.s 4)]⟩,
   ⟨(some 6), some undefA, none, false, .pu (.part 2 1 false (.s 5))⟩,
   ⟨(some 7), some undefA, none, false, .call 61 [(.s 6)]⟩,
   ⟨(some 2), some undefA, none, false, .pu (.mov (.s 7))⟩])
 (.ret))⟩
theorem t56 : trF Try.prog [1] [] Try.f56 = some m56 := by kernel_rfl
/-- selion/selionref07.most [loop [0, 3, 4]] -/
def m57 : MFun := ⟨20, [], [.mov (.s 2)],
 .seq (.ops [⟨(some 2), some undefA, none, false, .pu (.mov (.c (.int .i64 0)))⟩])
 (.seq (.ops [⟨(some 3), some undefA, none, false, .pu (.mov (.c (.int .i64 0)))⟩])
 (.seq (.seq (.ops [⟨(some 4), some undefA, none, false, .pu (.mov (.c (.int .i64 0)))⟩])
 (.block 0 (.loop (.seq (.seq (.ops [⟨(some 5), some undefA, none, false, .pu (.mov (.s 4))⟩,
     ⟨(some 6), some undefA, none, false, .pu (.mov (.s 0))⟩,
     ⟨(some 7), some undefA, none, false, .pu (.len (.s 6))⟩,
     ⟨(some 8), some undefA, none, false, .pu (.bin .lss (.s 5) (.s 7))⟩])
   (.cond (.s 8) (.skip)
   (.exit 0)))
   (.seq (.block 1 (.seq (.ops [⟨(some 11), some undefA, none, false, .pu (.mov (.s 0))⟩,
      ⟨(some 12), some undefA, none, false, .pu (.mov (.s 4))⟩,
      ⟨(some 13), some undefA, none, false, .pu (.idx 1 (.s 11) (.s 12))⟩,
      ⟨(some 14), some undefA, none, false, .ld (.ld 1 false (.s 13))⟩])
    (.cond (.s 14) (.ops [⟨(some 15), some undefA, none, false, .pu (.mov (.s 3))⟩,
       ⟨(some 16), some undefA, none, false, .pu (.mov (.s 4))⟩,
       ⟨(some 17), some undefA, none, false, .call 60 [(.s 16)]⟩,
       ⟨(some 18), some undefA, none, false, .pu (.mm true (.s 15) [(.s 17)])⟩,
       ⟨(some 3), some undefA, none, false, .pu (.mov (.s 18))⟩])
    (.skip))))
   (.ops [⟨(some 9), some undefA, none, false, .pu (.mov (.s 4))⟩,
     ⟨(some 10), some undefA, none, false, .pu (.bin .add (.s 9) (.c (.int .i64 1)))⟩,
     ⟨(some 4), some undefA, none, false, .pu (.mov (.s 10))⟩]))))))
 (.seq (.ops [⟨(some 19), some undefA, none, false, .pu (.mov (.s 3))⟩,
   ⟨(some 2), some undefA, none, false, .pu (.mov (.s 19))⟩])
 (.ret))))⟩
theorem t57 : trF Try.prog [] [] Try.f57 = some m57 := by kernel_rfl
/-- selion/wish.without [loop [3, 4, 5, 12, 13, 14]] -/
def m59 : MFun := ⟨29, [2, 4, 5], [.bget none 4 0 2 true],
 .seq (.ops [⟨(some 2), some (.junk), none, false, .pu (.bnew (.s 0))⟩,
   ⟨(some 3), some undefA, none, false, .ha (.newv (.s 1))⟩,
   ⟨(some 4), some (.junk), none, false, .pu (.bnew (.c (.agg [.int .i64 0, .nilS])))⟩])
 (.seq (.ops [⟨(some 8), some undefA, none, false, .pu (.badr none 2)⟩,
   ⟨(some 9), some undefA, none, false, .pu (.bget (some 8) 2 0 1 false)⟩,
   ⟨(some 10), some undefA, none, false, .pu (.build [.int .i64 0, .nilS] [(0, 1, (.s 9))])⟩,
   ⟨(some 5), some (.junk), none, false, .pu (.bnew (.c (.agg [.int .i64 0, .nilS])))⟩,
   ⟨(some 5), none, none, false, .pu (.bset none 5 0 2 (.s 10))⟩])
 (.seq (.seq (.ops [⟨(some 11), some undefA, none, false, .pu (.badr none 2)⟩,
   ⟨(some 12), some undefA, none, false, .pu (.bget (some 11) 2 1 1 false)⟩,
   ⟨(some 13), some undefA, none, false, .pu (.len (.s 12))⟩,
   ⟨(some 14), some undefA, none, false, .pu (.mov (.c (.int .i64 0)))⟩])
 (.block 0 (.loop (.seq (.ops [⟨(some 15), some undefA, none, false, .pu (.bin .lss (.s 14) (.s 13))⟩])
   (.seq (.cond (.s 15) (.skip)
   (.exit 0))
   (.seq (.block 1 (.seq (.ops [⟨(some 16), some undefA, none, false, .pu (.idx 1 (.s 12) (.s 14))⟩,
      ⟨(some 17), some undefA, none, false, .ld (.ld 1 false (.s 16))⟩,
      ⟨(some 7), some undefA, none, false, .pu (.mov (.s 17))⟩])
    (.ops [⟨(some 18), some undefA, none, false, .pu (.badr none 5)⟩,
      ⟨(some 19), some undefA, none, false, .pu (.bget (some 18) 5 1 1 false)⟩,
      ⟨(some 20), some undefA, none, false, .pu (.mov (.s 7))⟩,
      ⟨(some 21), some undefA, none, false, .call 83 [(.s 20)]⟩,
      ⟨(some 22), some undefA, none, false, .pu (.mkf 91 [(.s 3)])⟩,
      ⟨(some 23), some undefA, none, false, .call 90 [(.s 21), (.s 22)]⟩,
      ⟨(some 24), some undefA, none, false, .ha (.blds 1 1 [.nilS] [(0, 1, (.s 23))])⟩,
      ⟨(some 25), some undefA, none, false, .ha (.app 1 (.s 19) (.s 24))⟩,
      ⟨(some 26), some undefA, none, false, .pu (.badr none 5)⟩,
      ⟨(some 5), none, none, false, .pu (.bset (some 26) 5 1 1 (.s 25))⟩])))
   (.ops [⟨(some 27), some undefA, none, false, .pu (.bin .add (.s 14) (.c (.int .i64 1)))⟩,
     ⟨(some 14), some undefA, none, false, .pu (.mov (.s 27))⟩])))))))
 (.seq (.ops [⟨(some 28), some undefA, none, false, .pu (.bget none 5 0 2 true)⟩,
   ⟨(some 4), none, none, false, .pu (.bset none 4 0 2 (.s 28))⟩])
 (.ret))))⟩
theorem t59 : trF Try.prog [2, 4, 5] [] Try.f59 = some m59 := by kernel_rfl
/-- selion/wish.served [loop [3, 6, 7, 8]] -/
def m61 : MFun := ⟨18, [], [.mov (.s 2)],
 .seq (.ops [⟨(some 2), some undefA, none, false, .pu (.mov (.c (.int .i64 0)))⟩])
 (.seq (.ops [⟨(some 3), some undefA, none, false, .pu (.mov (.c (.int .i64 0)))⟩])
 (.seq (.seq (.ops [⟨(some 6), some undefA, none, false, .pu (.mov (.s 0))⟩,
   ⟨(some 7), some undefA, none, false, .pu (.len (.s 6))⟩,
   ⟨(some 8), some undefA, none, false, .pu (.mov (.c (.int .i64 0)))⟩])
 (.block 0 (.loop (.seq (.ops [⟨(some 9), some undefA, none, false, .pu (.bin .lss (.s 8) (.s 7))⟩])
   (.seq (.cond (.s 9) (.skip)
   (.exit 0))
   (.seq (.block 1 (.seq (.ops [⟨(some 10), some undefA, none, false, .pu (.idx 1 (.s 6) (.s 8))⟩,
      ⟨(some 11), some undefA, none, false, .ld (.ld 1 false (.s 10))⟩,
      ⟨(some 5), some undefA, none, false, .pu (.mov (.s 11))⟩])
    (.seq (.ops [⟨(some 12), some undefA, none, false, .pu (.mov (.s 5))⟩,
      ⟨(some 13), some undefA, none, false, .pu (.bin .geq (.s 12) (.c (.int .i64 0)))⟩])
    (.cond (.s 13) (.ops [⟨(some 14), some undefA, none, false, .pu (.mov (.s 3))⟩,
       ⟨(some 15), some undefA, none, false, .pu (.bin .add (.s 14) (.c (.int .i64 1)))⟩,
       ⟨(some 3), some undefA, none, false, .pu (.mov (.s 15))⟩])
    (.skip)))))
   (.ops [⟨(some 16), some undefA, none, false, .pu (.bin .add (.s 8) (.c (.int .i64 1)))⟩,
     ⟨(some 8), some undefA, none, false, .pu (.mov (.s 16))⟩])))))))
 (.seq (.ops [⟨(some 17), some undefA, none, false, .pu (.mov (.s 3))⟩,
   ⟨(some 2), some undefA, none, false, .pu (.mov (.s 17))⟩])
 (.ret))))⟩
theorem t61 : trF Try.prog [] [] Try.f61 = some m61 := by kernel_rfl
/-- selion/wish.filled [loop [1, 2, 10, 11]] -/
def m62 : MFun := ⟨25, [1, 2], [.bget none 2 0 3 true],
 .seq (.ops [⟨(some 1), some (.junk), none, false, .pu (.bnew (.s 0))⟩,
   ⟨(some 2), some (.junk), none, false, .pu (.bnew (.c (.agg [.int .i64 0, .nilS, .nilS])))⟩])
 (.seq (.ops [⟨(some 4), some undefA, none, false, .pu (.badr none 1)⟩,
   ⟨(some 5), some undefA, none, false, .pu (.bget (some 4) 1 2 1 false)⟩,
   ⟨(some 6), some undefA, none, false, .call 83 [(.s 5)]⟩,
   ⟨(some 7), some undefA, none, false, .pu (.badr none 1)⟩,
   ⟨(some 1), none, none, false, .pu (.bset (some 7) 1 2 1 (.s 6))⟩])
 (.seq (.seq (.ops [⟨(some 8), some undefA, none, false, .pu (.badr none 1)⟩,
   ⟨(some 9), some undefA, none, false, .pu (.bget (some 8) 1 2 1 false)⟩,
   ⟨(some 10), some undefA, none, false, .pu (.len (.s 9))⟩,
   ⟨(some 11), some undefA, none, false, .pu (.mov (.c (.int .i64 0)))⟩])
 (.block 0 (.loop (.seq (.ops [⟨(some 12), some undefA, none, false, .pu (.bin .lss (.s 11) (.s 10))⟩])
   (.seq (.cond (.s 12) (.skip)
   (.exit 0))
   (.seq (.block 1 (.seq (.ops [⟨(some 13), some undefA, none, false, .pu (.mov (.s 11))⟩,
      ⟨(some 3), some undefA, none, false, .pu (.mov (.s 13))⟩])
    (.seq (.ops [⟨(some 14), some undefA, none, false, .pu (.badr none 1)⟩,
      ⟨(some 15), some undefA, none, false, .pu (.bget (some 14) 1 2 1 false)⟩,
      ⟨(some 16), some undefA, none, false, .pu (.mov (.s 3))⟩,
      ⟨(some 17), some undefA, none, false, .pu (.idx 1 (.s 15) (.s 16))⟩,
      ⟨(some 18), some undefA, none, false, .ld (.ld 1 false (.s 17))⟩,
      ⟨(some 19), some undefA, none, false, .pu (.bin .lss (.s 18) (.c (.int .i64 0)))⟩])
    (.cond (.s 19) (.ops [⟨(some 20), some undefA, none, false, .pu (.bget none 1 0 3 true)⟩,
       ⟨(some 21), some undefA, none, false, .pu (.mov (.s 3))⟩,
       ⟨(some 22), some undefA, none, false, .call 92 [(.s 20), (.s 21)]⟩])
    (.skip)))))
   (.ops [⟨(some 23), some undefA, none, false, .pu (.bin .add (.s 11) (.c (.int .i64 1)))⟩,
     ⟨(some 11), some undefA, none, false, .pu (.mov (.s 23))⟩])))))))
 (.seq (.ops [⟨(some 24), some undefA, none, false, .pu (.bget none 1 0 3 true)⟩,
   ⟨(some 2), none, none, false, .pu (.bset none 2 0 3 (.s 24))⟩])
 (.ret))))⟩
theorem t62 : trF Try.prog [1, 2] [] Try.f62 = some m62 := by kernel_rfl
/-- selion/wish.none [] -/
def m63 : MFun := ⟨10, [1, 2], [.bget none 2 0 3 true],
 .seq (.ops [⟨(some 1), some (.junk), none, false, .pu (.bnew (.s 0))⟩,
   ⟨(some 2), some (.junk), none, false, .pu (.bnew (.c (.agg [.int .i64 0, .nilS, .nilS])))⟩])
 (.seq (.ops [⟨(some 3), some undefA, none, false, .pu (.bget none 1 0 2 true)⟩,
   ⟨(some 4), some undefA, none, false, .ha (.blds 1 1 [.int .i64 0] [(0, 1, (.c (.int .i64 (-1))))])⟩,
   ⟨(some 5), some undefA, none, false, .pu (.badr none 1)⟩,
   ⟨(some 6), some undefA, none, false, .pu (.bget (some 5) 1 1 1 false)⟩,
   ⟨(some 7), some undefA, none, false, .pu (.len (.s 6))⟩,
   ⟨(some 8), some undefA, none, false, .call 93 [(.s 4), (.s 7)]⟩,
   ⟨(some 9), some undefA, none, false, .pu (.build [.int .i64 0, .nilS, .nilS] [(0, 2, (.s 3)), (2, 1, (.s 8))])⟩,
   ⟨(some 2), none, none, false, .pu (.bset none 2 0 3 (.s 9))⟩])
 (.ret))⟩
theorem t63 : trF Try.prog [1, 2] [] Try.f63 = some m63 := by kernel_rfl
/-- selion/selionref01.Within [] -/
def m64 : MFun := ⟨15, [], [.mov (.s 6)],
 .seq (.ops [⟨(some 6), some undefA, none, false, .pu (.mov (.c (.bool false)))⟩])
 (.seq (.ops [⟨(some 7), some undefA, none, false, .pu (.mov (.s 0))⟩,
   ⟨(some 8), some undefA, none, false, .pu (.mov (.s 1))⟩,
   ⟨(some 9), some undefA, none, false, .pu (.bin .geq (.s 7) (.s 8))⟩,
   ⟨(some 10), some undefA, none, false, .pu (.mov (.s 9))⟩,
   ⟨(some 11), some undefA, (some (10, true)), false, .pu (.mov (.s 0))⟩,
   ⟨(some 12), some undefA, (some (10, true)), false, .pu (.mov (.s 2))⟩,
   ⟨(some 13), some undefA, (some (10, true)), false, .pu (.bin .leq (.s 11) (.s 12))⟩,
   ⟨(some 14), some undefA, none, false, .pu (.pick (.s 10) (.s 13) (.c (.bool false)))⟩,
   ⟨(some 6), some undefA, none, false, .pu (.mov (.s 14))⟩])
 (.ret))⟩
theorem t64 : trF Try.prog [] [] Try.f64 = some m64 := by kernel_rfl
/-- selion/selionref07.has [loop [0, 1, 5]] -/
def m65 : MFun := ⟨18, [], [.mov (.s 4)],
 .seq (.ops [⟨(some 4), some undefA, none, false, .pu (.mov (.c (.bool false)))⟩])
 (.seq (.seq (.ops [⟨(some 5), some undefA, none, false, .pu (.mov (.c (.int .i64 0)))⟩])
 (.block 0 (.loop (.seq (.seq (.ops [⟨(some 6), some undefA, none, false, .pu (.mov (.s 5))⟩,
     ⟨(some 7), some undefA, none, false, .pu (.mov (.s 0))⟩,
     ⟨(some 8), some undefA, none, false, .pu (.len (.s 7))⟩,
     ⟨(some 9), some undefA, none, false, .pu (.bin .lss (.s 6) (.s 8))⟩])
   (.cond (.s 9) (.skip)
   (.exit 0)))
   (.seq (.block 1 (.seq (.ops [⟨(some 12), some undefA, none, false, .pu (.mov (.s 0))⟩,
      ⟨(some 13), some undefA, none, false, .pu (.mov (.s 5))⟩,
      ⟨(some 14), some undefA, none, false, .pu (.idx 1 (.s 12) (.s 13))⟩,
      ⟨(some 15), some undefA, none, false, .ld (.ld 1 false (.s 14))⟩,
      ⟨(some 16), some undefA, none, false, .pu (.mov (.s 1))⟩,
      ⟨(some 17), some undefA, none, false, .pu (.bin .eql (.s 15) (.s 16))⟩])
    (.cond (.s 17) (.seq (.ops [⟨(some 4), some undefA, none, false, .pu (.mov (.c (.bool true)))⟩])
     (.ret))
    (.skip))))
   (.ops [⟨(some 10), some undefA, none, false, .pu (.mov (.s 5))⟩,
     ⟨(some 11), some undefA, none, false, .pu (.bin .add (.s 10) (.c (.int .i64 1)))⟩,
     ⟨(some 5), some undefA, none, false, .pu (.mov (.s 11))⟩]))))))
 (.seq (.ops [⟨(some 4), some undefA, none, false, .pu (.mov (.c (.bool false)))⟩])
 (.ret)))⟩
theorem t65 : trF Try.prog [] [] Try.f65 = some m65 := by kernel_rfl
/-- slices.ContainsFunc[[]int,int] [] -/
def m69 : MFun := ⟨9, [], [.mov (.s 4)],
 .seq (.ops [⟨(some 4), some undefA, none, false, .pu (.mov (.c (.bool false)))⟩])
 (.seq (.ops [⟨(some 5), some undefA, none, false, .pu (.mov (.s 0))⟩,
   ⟨(some 6), some undefA, none, false, .pu (.mov (.s 1))⟩,
   ⟨(some 7), some undefA, none, false, .call 87 [(.s 5), (.s 6)]⟩,
   ⟨(some 8), some undefA, none, false, .pu (.bin .geq (.s 7) (.c (.int .i64 0)))⟩,
   ⟨(some 4), some undefA, none, false, .pu (.mov (.s 8))⟩])
 (.ret))⟩
theorem t69 : trF Try.prog [] [] Try.f69 = some m69 := by kernel_rfl
/-- selion/wish.CheckGiving$1 [] -/
def m70 : MFun := ⟨12, [], [.mov (.s 3)],
 .seq (.ops [⟨(some 3), some undefA, none, false, .pu (.mov (.c (.bool false)))⟩])
 (.seq (.ops [⟨(some 4), some undefA, none, false, .pu (.mov (.s 0))⟩,
   ⟨(some 5), some undefA, none, false, .pu (.bin .lss (.s 4) (.c (.int .i64 (-1))))⟩,
   ⟨(some 6), some undefA, none, false, .pu (.mov (.s 5))⟩,
   ⟨(some 7), some undefA, (some (6, false)), false, .pu (.mov (.s 0))⟩,
   ⟨(some 8), some undefA, (some (6, false)), false, .pu (.fad 0 (.s 1))⟩,
   ⟨(some 9), some undefA, (some (6, false)), false, .ld (.ld 1 false (.s 8))⟩,
   ⟨(some 10), some undefA, (some (6, false)), false, .pu (.bin .geq (.s 7) (.s 9))⟩,
   ⟨(some 11), some undefA, none, false, .pu (.pick (.s 6) (.c (.bool true)) (.s 10))⟩,
   ⟨(some 3), some undefA, none, false, .pu (.mov (.s 11))⟩])
 (.ret))⟩
theorem t70 : trF Try.prog [] [] Try.f70 = some m70 := by kernel_rfl
/-- slices.Contains[[]int,int] [] -/
def m71 : MFun := ⟨9, [], [.mov (.s 4)],
 .seq (.ops [⟨(some 4), some undefA, none, false, .pu (.mov (.c (.bool false)))⟩])
 (.seq (.ops [⟨(some 5), some undefA, none, false, .pu (.mov (.s 0))⟩,
   ⟨(some 6), some undefA, none, false, .pu (.mov (.s 1))⟩,
   ⟨(some 7), some undefA, none, false, .call 94 [(.s 5), (.s 6)]⟩,
   ⟨(some 8), some undefA, none, false, .pu (.bin .geq (.s 7) (.c (.int .i64 0)))⟩,
   ⟨(some 4), some undefA, none, false, .pu (.mov (.s 8))⟩])
 (.ret))⟩
theorem t71 : trF Try.prog [] [] Try.f71 = some m71 := by kernel_rfl
/-- selion/wish.isPlaces [] -/
def m73 : MFun := ⟨9, [], [.mov (.s 4)],
 .seq (.ops [⟨(some 3), some undefA, none, false, .ha (.newv (.s 1))⟩,
   ⟨(some 4), some undefA, none, false, .pu (.mov (.c (.bool false)))⟩])
 (.seq (.ops [⟨(some 5), some undefA, none, false, .pu (.mov (.s 0))⟩,
   ⟨(some 6), some undefA, none, false, .pu (.mkf 95 [(.s 3)])⟩,
   ⟨(some 7), some undefA, none, false, .call 69 [(.s 5), (.s 6)]⟩,
   ⟨(some 8), some undefA, none, false, .pu (.not (.s 7))⟩,
   ⟨(some 4), some undefA, none, false, .pu (.mov (.s 8))⟩])
 (.ret))⟩
theorem t73 : trF Try.prog [] [] Try.f73 = some m73 := by kernel_rfl
/-- selion/wish.isSet [loop [0, 1, 5]] -/
def m78 : MFun := ⟨25, [], [.mov (.s 4)],
 .seq (.ops [⟨(some 4), some undefA, none, false, .pu (.mov (.c (.bool false)))⟩])
 (.seq (.seq (.ops [⟨(some 5), some undefA, none, false, .pu (.mov (.c (.int .i64 1)))⟩])
 (.block 0 (.loop (.seq (.seq (.ops [⟨(some 6), some undefA, none, false, .pu (.mov (.s 5))⟩,
     ⟨(some 7), some undefA, none, false, .pu (.mov (.s 0))⟩,
     ⟨(some 8), some undefA, none, false, .pu (.len (.s 7))⟩,
     ⟨(some 9), some undefA, none, false, .pu (.bin .lss (.s 6) (.s 8))⟩])
   (.cond (.s 9) (.skip)
   (.exit 0)))
   (.seq (.block 1 (.seq (.ops [⟨(some 12), some undefA, none, true, .pu (.mov (.s 0))⟩,
      ⟨(some 13), some undefA, none, true, .pu (.mov (.s 5))⟩,
      ⟨(some 14), some undefA, none, true, .pu (.bin .sub (.s 13) (.c (.int .i64 1)))⟩,
      ⟨(some 15), some undefA, none, true, .pu (.idx 1 (.s 12) (.s 14))⟩,
      ⟨(some 16), some undefA, none, true, .ld (.ld 1 false (.s 15))⟩,
      ⟨(some 17), some undefA, none, true, .pu (.mov (.s 0))⟩,
      ⟨(some 18), some undefA, none, true, .pu (.mov (.s 5))⟩,
      ⟨(some 19), some undefA, none, true, .pu (.idx 1 (.s 17) (.s 18))⟩,
      ⟨(some 20), some undefA, none, true, .ld (.ld 1 false (.s 19))⟩,
      ⟨(some 21), some undefA, none, false, .pu (.bin .geq (.s 16) (.s 20))⟩])
    (.cond (.s 21) (.seq (.ops [⟨(some 4), some undefA, none, false, .pu (.mov (.c (.bool false)))⟩])
     (.ret))
    (.skip))))
   (.ops [⟨(some 10), some undefA, none, false, .pu (.mov (.s 5))⟩,
     ⟨(some 11), some undefA, none, false, .pu (.bin .add (.s 10) (.c (.int .i64 1)))⟩,
     ⟨(some 5), some undefA, none, false, .pu (.mov (.s 11))⟩]))))))
 (.seq (.ops [⟨(some 22), some undefA, none, false, .pu (.mov (.s 0))⟩,
   ⟨(some 23), some undefA, none, false, .pu (.mov (.s 1))⟩,
   ⟨(some 24), some undefA, none, false, .call 73 [(.s 22), (.s 23)]⟩,
   ⟨(some 4), some undefA, none, false, .pu (.mov (.s 24))⟩])
 (.ret)))⟩
theorem t78 : trF Try.prog [] [] Try.f78 = some m78 := by kernel_rfl
/-- slices.Clone[[]int,int] [] -/
def m83 : MFun := ⟨8, [], [.mov (.s 2)],
 .seq (.ops [⟨(some 2), some undefA, none, false, .pu (.mov (.c (.nilS)))⟩])
 (.seq (.seq (.ops [⟨(some 3), some undefA, none, false, .pu (.mov (.s 0))⟩,
   ⟨(some 4), some undefA, none, false, .pu (.isnil false (.s 3))⟩])
 (.cond (.s 4) (.seq (.ops [⟨(some 2), some undefA, none, false, .pu (.mov (.c (.nilS)))⟩])
  (.ret))
 (.skip)))
 (.seq (.ops [⟨(some 5), some undefA, none, false, .ha (.blds 1 0 [.int .i64 0] [])⟩,
   ⟨(some 6), some undefA, none, false, .pu (.mov (.s 0))⟩,
   ⟨(some 7), some undefA, none, false, .ha (.app 1 (.s 5) (.s 6))⟩,
   ⟨(some 2), some undefA, none, false, .pu (.mov (.s 7))⟩])
 (.ret)))⟩
theorem t83 : trF Try.prog [] [] Try.f83 = some m83 := by kernel_rfl
/-- slices.Values[[]int,int] [] -/
def m86 : MFun := ⟨4, [], [.mov (.s 2)],
 .seq (.ops [⟨(some 1), some undefA, none, false, .ha (.newv (.s 0))⟩,
   ⟨(some 2), some undefA, none, false, .pu (.mov (.c (.nilF)))⟩])
 (.seq (.ops [⟨(some 3), some undefA, none, false, .pu (.mkf 100 [(.s 1)])⟩,
   ⟨(some 2), some undefA, none, false, .pu (.mov (.s 3))⟩])
 (.ret))⟩
theorem t86 : trF Try.prog [] [] Try.f86 = some m86 := by kernel_rfl
/-- slices.IndexFunc[[]int,int] [loop [0, 1, 7, 8]] -/
def m87 : MFun := ⟨19, [], [.mov (.s 4)],
 .seq (.ops [⟨(some 4), some undefA, none, false, .pu (.mov (.c (.int .i64 0)))⟩])
 (.seq (.seq (.ops [⟨(some 6), some undefA, none, false, .pu (.mov (.s 0))⟩,
   ⟨(some 7), some undefA, none, false, .pu (.len (.s 6))⟩,
   ⟨(some 8), some undefA, none, false, .pu (.mov (.c (.int .i64 0)))⟩])
 (.block 0 (.loop (.seq (.ops [⟨(some 9), some undefA, none, false, .pu (.bin .lss (.s 8) (.s 7))⟩])
   (.seq (.cond (.s 9) (.skip)
   (.exit 0))
   (.seq (.block 1 (.seq (.ops [⟨(some 10), some undefA, none, false, .pu (.mov (.s 8))⟩,
      ⟨(some 5), some undefA, none, false, .pu (.mov (.s 10))⟩])
    (.seq (.ops [⟨(some 11), some undefA, none, false, .pu (.mov (.s 1))⟩,
      ⟨(some 12), some undefA, none, false, .pu (.mov (.s 0))⟩,
      ⟨(some 13), some undefA, none, false, .pu (.mov (.s 5))⟩,
      ⟨(some 14), some undefA, none, false, .pu (.idx 1 (.s 12) (.s 13))⟩,
      ⟨(some 15), some undefA, none, false, .ld (.ld 1 false (.s 14))⟩,
      ⟨(some 16), some undefA, none, false, .callv (.s 11) [(.s 15)]⟩])
    (.cond (.s 16) (.seq (.ops [⟨(some 17), some undefA, none, false, .pu (.mov (.s 5))⟩,
       ⟨(some 4), some undefA, none, false, .pu (.mov (.s 17))⟩])
     (.ret))
    (.skip)))))
   (.ops [⟨(some 18), some undefA, none, false, .pu (.bin .add (.s 8) (.c (.int .i64 1)))⟩,
     ⟨(some 8), some undefA, none, false, .pu (.mov (.s 18))⟩])))))))
 (.seq (.ops [⟨(some 4), some undefA, none, false, .pu (.mov (.c (.int .i64 (-1))))⟩])
 (.ret)))⟩
theorem t87 : trF Try.prog [] [] Try.f87 = some m87 := by kernel_rfl
/-- selion/wish.Line$1 [] -/
def m88 : MFun := ⟨8, [], [.mov (.s 3)],
 .seq (.ops [⟨(some 3), some undefA, none, false, .pu (.mov (.c (.bool false)))⟩])
 (.seq (.ops [⟨(some 4), some undefA, none, false, .ld (.ld 3 true (.s 1))⟩,
   ⟨(some 5), some undefA, none, false, .pu (.mov (.s 0))⟩,
   ⟨(some 6), some undefA, none, false, .call 89 [(.s 4), (.s 5)]⟩,
   ⟨(some 7), some undefA, none, false, .pu (.bin .lss (.s 6) (.c (.int .i64 0)))⟩,
   ⟨(some 3), some undefA, none, false, .pu (.mov (.s 7))⟩])
 (.ret))⟩
theorem t88 : trF Try.prog [] [] Try.f88 = some m88 := by kernel_rfl
/-- (selion/wish.wished).holder [] -/
def m89 : MFun := ⟨9, [2], [.mov (.s 4)],
 .seq (.ops [⟨(some 2), some (.junk), none, false, .pu (.bnew (.s 0))⟩,
   ⟨(some 4), some undefA, none, false, .pu (.mov (.c (.int .i64 0)))⟩])
 (.seq (.ops [⟨(some 5), some undefA, none, false, .pu (.badr none 2)⟩,
   ⟨(some 6), some undefA, none, false, .pu (.bget (some 5) 2 2 1 false)⟩,
   ⟨(some 7), some undefA, none, false, .pu (.mov (.s 1))⟩,
   ⟨(some 8), some undefA, none, false, .call 94 [(.s 6), (.s 7)]⟩,
   ⟨(some 4), some undefA, none, false, .pu (.mov (.s 8))⟩])
 (.ret))⟩
theorem t89 : trF Try.prog [2] [] Try.f89 = some m89 := by kernel_rfl
/-- slices.DeleteFunc[[]int,int] [loop [0, 1, 5, 6]] -/
def m90 : MFun := ⟨42, [], [.mov (.s 4)],
 .seq (.ops [⟨(some 4), some undefA, none, false, .pu (.mov (.c (.nilS)))⟩])
 (.seq (.ops [⟨(some 8), some undefA, none, false, .pu (.mov (.s 0))⟩,
   ⟨(some 9), some undefA, none, false, .pu (.mov (.s 1))⟩,
   ⟨(some 10), some undefA, none, false, .call 87 [(.s 8), (.s 9)]⟩,
   ⟨(some 5), some undefA, none, false, .pu (.mov (.s 10))⟩])
 (.seq (.seq (.ops [⟨(some 11), some undefA, none, false, .pu (.mov (.s 5))⟩,
   ⟨(some 12), some undefA, none, false, .pu (.bin .eql (.s 11) (.c (.int .i64 (-1))))⟩])
 (.cond (.s 12) (.seq (.ops [⟨(some 13), some undefA, none, false, .pu (.mov (.s 0))⟩,
    ⟨(some 4), some undefA, none, false, .pu (.mov (.s 13))⟩])
  (.ret))
 (.skip)))
 (.seq (.seq (.ops [⟨(some 14), some undefA, none, false, .pu (.mov (.s 5))⟩,
   ⟨(some 15), some undefA, none, false, .pu (.bin .add (.s 14) (.c (.int .i64 1)))⟩,
   ⟨(some 6), some undefA, none, false, .pu (.mov (.s 15))⟩])
 (.block 0 (.loop (.seq (.seq (.ops [⟨(some 16), some undefA, none, false, .pu (.mov (.s 6))⟩,
     ⟨(some 17), some undefA, none, false, .pu (.mov (.s 0))⟩,
     ⟨(some 18), some undefA, none, false, .pu (.len (.s 17))⟩,
     ⟨(some 19), some undefA, none, false, .pu (.bin .lss (.s 16) (.s 18))⟩])
   (.cond (.s 19) (.skip)
   (.exit 0)))
   (.seq (.block 1 (.seq (.ops [⟨(some 22), some undefA, none, false, .pu (.mov (.s 0))⟩,
      ⟨(some 23), some undefA, none, false, .pu (.mov (.s 6))⟩,
      ⟨(some 24), some undefA, none, false, .pu (.idx 1 (.s 22) (.s 23))⟩,
      ⟨(some 25), some undefA, none, false, .ld (.ld 1 false (.s 24))⟩,
      ⟨(some 7), some undefA, none, false, .pu (.mov (.s 25))⟩])
    (.seq (.ops [⟨(some 26), some undefA, none, false, .pu (.mov (.s 1))⟩,
      ⟨(some 27), some undefA, none, false, .pu (.mov (.s 7))⟩,
      ⟨(some 28), some undefA, none, false, .callv (.s 26) [(.s 27)]⟩,
      ⟨(some 29), some undefA, none, false, .pu (.not (.s 28))⟩])
    (.cond (.s 29) (.seq (.ops [⟨(some 30), some undefA, none, false, .pu (.mov (.s 0))⟩,
       ⟨(some 31), some undefA, none, false, .pu (.mov (.s 5))⟩,
       ⟨(some 32), some undefA, none, false, .pu (.mov (.s 7))⟩,
       ⟨(some 33), some undefA, none, false, .pu (.idx 1 (.s 30) (.s 31))⟩,
       ⟨none, some undefA, none, false, .ha (.st 1 (.s 33) (.s 32))⟩])
     (.ops [⟨(some 34), some undefA, none, false, .pu (.mov (.s 5))⟩,
       ⟨(some 35), some undefA, none, false, .pu (.bin .add (.s 34) (.c (.int .i64 1)))⟩,
       ⟨(some 5), some undefA, none, false, .pu (.mov (.s 35))⟩]))
    (.skip)))))
   (.ops [⟨(some 20), some undefA, none, false, .pu (.mov (.s 6))⟩,
     ⟨(some 21), some undefA, none, false, .pu (.bin .add (.s 20) (.c (.int .i64 1)))⟩,
     ⟨(some 6), some undefA, none, false, .pu (.mov (.s 21))⟩]))))))
 (.seq (.ops [⟨(some 36), some undefA, none, false, .pu (.mov (.s 0))⟩,
   ⟨(some 37), some undefA, none, false, .pu (.mov (.s 5))⟩,
   ⟨(some 38), some undefA, none, false, .pu (.slc 1 (.s 36) (some (.s 37)) none none)⟩,
   ⟨none, some undefA, none, false, .ha (.clr 1 [.int .i64 0] (.s 38))⟩])
 (.seq (.ops [⟨(some 39), some undefA, none, false, .pu (.mov (.s 0))⟩,
   ⟨(some 40), some undefA, none, false, .pu (.mov (.s 5))⟩,
   ⟨(some 41), some undefA, none, false, .pu (.slc 1 (.s 39) none (some (.s 40)) none)⟩,
   ⟨(some 4), some undefA, none, false, .pu (.mov (.s 41))⟩])
 (.ret))))))⟩
theorem t90 : trF Try.prog [] [] Try.f90 = some m90 := by kernel_rfl
/-- selion/wish.without$1 [] -/
def m91 : MFun := ⟨7, [], [.mov (.s 3)],
 .seq (.ops [⟨(some 3), some undefA, none, false, .pu (.mov (.c (.bool false)))⟩])
 (.seq (.ops [⟨(some 4), some undefA, none, false, .pu (.mov (.s 0))⟩,
   ⟨(some 5), some undefA, none, false, .ld (.ld 1 false (.s 1))⟩,
   ⟨(some 6), some undefA, none, false, .pu (.bin .eql (.s 4) (.s 5))⟩,
   ⟨(some 3), some undefA, none, false, .pu (.mov (.s 6))⟩])
 (.ret))⟩
theorem t91 : trF Try.prog [] [] Try.f91 = some m91 := by kernel_rfl
/-- (selion/wish.wished).serve [] -/
def m92 : MFun := ⟨15, [], [.mov (.s 4)],
 .seq (.ops [⟨(some 2), some undefA, none, false, .ha (.newv (.s 0))⟩,
   ⟨(some 4), some undefA, none, false, .pu (.mov (.c (.bool false)))⟩])
 (.seq (.ops [⟨(some 7), some undefA, none, false, .pu (.fad 0 (.s 2))⟩,
   ⟨(some 8), some undefA, none, false, .pu (.fad 0 (.s 7))⟩,
   ⟨(some 9), some undefA, none, false, .ld (.ld 1 false (.s 8))⟩,
   ⟨(some 10), some undefA, none, false, .ha (.mks 1 [.bool false] (.s 9) (.s 9))⟩,
   ⟨(some 5), some undefA, none, false, .ha (.newv (.c (.nilS)))⟩,
   ⟨none, some undefA, none, false, .ha (.st 1 (.s 5) (.s 10))⟩])
 (.seq (.ops [⟨(some 6), some undefA, none, false, .ha (.newv (.c (.nilF)))⟩])
 (.seq (.ops [⟨(some 11), some undefA, none, false, .pu (.mkf 101 [(.s 2), (.s 5), (.s 6)])⟩,
   ⟨none, some undefA, none, false, .ha (.st 1 (.s 6) (.s 11))⟩])
 (.seq (.ops [⟨(some 12), some undefA, none, false, .ld (.ld 1 false (.s 6))⟩,
   ⟨(some 13), some undefA, none, false, .pu (.mov (.s 1))⟩,
   ⟨(some 14), some undefA, none, false, .callv (.s 12) [(.s 13)]⟩,
   ⟨(some 4), some undefA, none, false, .pu (.mov (.s 14))⟩])
 (.ret)))))⟩
theorem t92 : trF Try.prog [] [] Try.f92 = some m92 := by kernel_rfl
/-- slices.Repeat[[]int,int] [loop [7, 8]] -/
def m93 : MFun := ⟨48, [], [.mov (.s 4)],
 .seq (.ops [⟨(some 4), some undefA, none, false, .pu (.mov (.c (.nilS)))⟩])
 (.seq (.seq (.ops [⟨(some 9), some undefA, none, false, .pu (.mov (.s 1))⟩,
   ⟨(some 10), some undefA, none, false, .pu (.bin .lss (.s 9) (.c (.int .i64 0)))⟩])
 (.cond (.s 10) (.ops [⟨(some 11), some undefA, none, false, .pu (.fail)⟩,
    ⟨none, some undefA, none, false, .pu (.fail)⟩])
 (.skip)))
 (.seq (.ops [⟨(some 13), some undefA, none, false, .pu (.mov (.s 0))⟩,
   ⟨(some 14), some undefA, none, false, .pu (.len (.s 13))⟩,
   ⟨(some 15), some undefA, none, false, .pu (.conv .u64 (.s 14))⟩,
   ⟨(some 16), some undefA, none, false, .pu (.mov (.s 1))⟩,
   ⟨(some 17), some undefA, none, false, .pu (.conv .u64 (.s 16))⟩,
   ⟨(some 18), some undefA, none, false, .call 102 [(.s 15), (.s 17)]⟩,
   ⟨(some 12), some undefA, none, false, .pu (.mov (.s 18))⟩,
   ⟨(some 19), some undefA, none, false, .pu (.extr 0 (.s 12))⟩,
   ⟨(some 20), some undefA, none, false, .pu (.extr 1 (.s 12))⟩,
   ⟨(some 5), some undefA, none, false, .pu (.mov (.s 19))⟩,
   ⟨(some 6), some undefA, none, false, .pu (.mov (.s 20))⟩])
 (.seq (.seq (.ops [⟨(some 21), some undefA, none, false, .pu (.mov (.s 5))⟩,
   ⟨(some 22), some undefA, none, false, .pu (.bin .gtr (.s 21) (.c (.int .u64 0)))⟩,
   ⟨(some 23), some undefA, none, false, .pu (.mov (.s 22))⟩,
   ⟨(some 24), some undefA, (some (23, false)), false, .pu (.mov (.s 6))⟩,
   ⟨(some 25), some undefA, (some (23, false)), false, .pu (.bin .gtr (.s 24) (.c (.int .u64 9223372036854775807)))⟩,
   ⟨(some 26), some undefA, none, false, .pu (.pick (.s 23) (.c (.bool true)) (.s 25))⟩])
 (.cond (.s 26) (.ops [⟨(some 27), some undefA, none, false, .pu (.fail)⟩,
    ⟨none, some undefA, none, false, .pu (.fail)⟩])
 (.skip)))
 (.seq (.ops [⟨(some 28), some undefA, none, false, .pu (.mov (.s 6))⟩,
   ⟨(some 29), some undefA, none, false, .pu (.conv .i64 (.s 28))⟩,
   ⟨(some 30), some undefA, none, false, .ha (.mks 1 [.int .i64 0] (.s 29) (.s 29))⟩,
   ⟨(some 7), some undefA, none, false, .pu (.mov (.s 30))⟩])
 (.seq (.ops [⟨(some 31), some undefA, none, false, .pu (.mov (.s 7))⟩,
   ⟨(some 32), some undefA, none, false, .pu (.mov (.s 0))⟩,
   ⟨(some 33), some undefA, none, false, .ha (.cpy 1 (.s 31) (.s 32))⟩,
   ⟨(some 8), some undefA, none, false, .pu (.mov (.s 33))⟩])
 (.seq (.block 0 (.loop (.seq (.seq (.ops [⟨(some 34), some undefA, none, false, .pu (.mov (.s 8))⟩,
     ⟨(some 35), some undefA, none, false, .pu (.mov (.s 7))⟩,
     ⟨(some 36), some undefA, none, false, .pu (.len (.s 35))⟩,
     ⟨(some 37), some undefA, none, false, .pu (.bin .lss (.s 34) (.s 36))⟩])
   (.cond (.s 37) (.skip)
   (.exit 0)))
   (.block 1 (.ops [⟨(some 38), some undefA, none, false, .pu (.mov (.s 8))⟩,
      ⟨(some 39), some undefA, none, false, .pu (.mov (.s 7))⟩,
      ⟨(some 40), some undefA, none, false, .pu (.mov (.s 8))⟩,
      ⟨(some 41), some undefA, none, false, .pu (.slc 1 (.s 39) (some (.s 40)) none none)⟩,
      ⟨(some 42), some undefA, none, false, .pu (.mov (.s 7))⟩,
      ⟨(some 43), some undefA, none, false, .pu (.mov (.s 8))⟩,
      ⟨(some 44), some undefA, none, false, .pu (.slc 1 (.s 42) none (some (.s 43)) none)⟩,
      ⟨(some 45), some undefA, none, false, .ha (.cpy 1 (.s 41) (.s 44))⟩,
      ⟨(some 46), some undefA, none, false, .pu (.bin .add (.s 38) (.s 45))⟩,
      ⟨(some 8), some undefA, none, false, .pu (.mov (.s 46))⟩])))))
 (.seq (.ops [⟨(some 47), some undefA, none, false, .pu (.mov (.s 7))⟩,
   ⟨(some 4), some undefA, none, false, .pu (.mov (.s 47))⟩])
 (.ret))))))))⟩
theorem t93 : trF Try.prog [] [] Try.f93 = some m93 := by kernel_rfl
/-- slices.Index[[]int,int] [loop [0, 1, 7, 8]] -/
def m94 : MFun := ⟨19, [], [.mov (.s 4)],
 .seq (.ops [⟨(some 4), some undefA, none, false, .pu (.mov (.c (.int .i64 0)))⟩])
 (.seq (.seq (.ops [⟨(some 6), some undefA, none, false, .pu (.mov (.s 0))⟩,
   ⟨(some 7), some undefA, none, false, .pu (.len (.s 6))⟩,
   ⟨(some 8), some undefA, none, false, .pu (.mov (.c (.int .i64 0)))⟩])
 (.block 0 (.loop (.seq (.ops [⟨(some 9), some undefA, none, false, .pu (.bin .lss (.s 8) (.s 7))⟩])
   (.seq (.cond (.s 9) (.skip)
   (.exit 0))
   (.seq (.block 1 (.seq (.ops [⟨(some 10), some undefA, none, false, .pu (.mov (.s 8))⟩,
      ⟨(some 5), some undefA, none, false, .pu (.mov (.s 10))⟩])
    (.seq (.ops [⟨(some 11), some undefA, none, false, .pu (.mov (.s 1))⟩,
      ⟨(some 12), some undefA, none, false, .pu (.mov (.s 0))⟩,
      ⟨(some 13), some undefA, none, false, .pu (.mov (.s 5))⟩,
      ⟨(some 14), some undefA, none, false, .pu (.idx 1 (.s 12) (.s 13))⟩,
      ⟨(some 15), some undefA, none, false, .ld (.ld 1 false (.s 14))⟩,
      ⟨(some 16), some undefA, none, false, .pu (.bin .eql (.s 11) (.s 15))⟩])
    (.cond (.s 16) (.seq (.ops [⟨(some 17), some undefA, none, false, .pu (.mov (.s 5))⟩,
       ⟨(some 4), some undefA, none, false, .pu (.mov (.s 17))⟩])
     (.ret))
    (.skip)))))
   (.ops [⟨(some 18), some undefA, none, false, .pu (.bin .add (.s 8) (.c (.int .i64 1)))⟩,
     ⟨(some 8), some undefA, none, false, .pu (.mov (.s 18))⟩])))))))
 (.seq (.ops [⟨(some 4), some undefA, none, false, .pu (.mov (.c (.int .i64 (-1))))⟩])
 (.ret)))⟩
theorem t94 : trF Try.prog [] [] Try.f94 = some m94 := by kernel_rfl
/-- selion/wish.isPlaces$1 [] -/
def m95 : MFun := ⟨11, [], [.mov (.s 3)],
 .seq (.ops [⟨(some 3), some undefA, none, false, .pu (.mov (.c (.bool false)))⟩])
 (.seq (.ops [⟨(some 4), some undefA, none, false, .pu (.mov (.s 0))⟩,
   ⟨(some 5), some undefA, none, false, .pu (.bin .lss (.s 4) (.c (.int .i64 0)))⟩,
   ⟨(some 6), some undefA, none, false, .pu (.mov (.s 5))⟩,
   ⟨(some 7), some undefA, (some (6, false)), false, .pu (.mov (.s 0))⟩,
   ⟨(some 8), some undefA, (some (6, false)), false, .ld (.ld 1 false (.s 1))⟩,
   ⟨(some 9), some undefA, (some (6, false)), false, .pu (.bin .geq (.s 7) (.s 8))⟩,
   ⟨(some 10), some undefA, none, false, .pu (.pick (.s 6) (.c (.bool true)) (.s 9))⟩,
   ⟨(some 3), some undefA, none, false, .pu (.mov (.s 10))⟩])
 (.ret))⟩
theorem t95 : trF Try.prog [] [] Try.f95 = some m95 := by kernel_rfl
/-- (selion/wish.wished).serve$1 [loop [0, 1, 2, 3, 14, 15, 16]] -/
def m101 : MFun := ⟨43, [], [.mov (.s 5)],
 .seq (.ops [⟨(some 5), some undefA, none, false, .pu (.mov (.c (.bool false)))⟩])
 (.seq (.seq (.ops [⟨(some 9), some undefA, none, false, .pu (.fad 0 (.s 1))⟩,
   ⟨(some 10), some undefA, none, false, .pu (.fad 1 (.s 9))⟩,
   ⟨(some 11), some undefA, none, false, .ld (.ld 1 false (.s 10))⟩,
   ⟨(some 12), some undefA, none, false, .pu (.mov (.s 0))⟩,
   ⟨(some 13), some undefA, none, false, .pu (.idx 1 (.s 11) (.s 12))⟩,
   ⟨(some 14), some undefA, none, false, .ld (.ld 1 false (.s 13))⟩,
   ⟨(some 15), some undefA, none, false, .pu (.len (.s 14))⟩,
   ⟨(some 16), some undefA, none, false, .pu (.mov (.c (.int .i64 0)))⟩])
 (.block 0 (.loop (.seq (.ops [⟨(some 17), some undefA, none, false, .pu (.bin .lss (.s 16) (.s 15))⟩])
   (.seq (.cond (.s 17) (.skip)
   (.exit 0))
   (.seq (.block 1 (.seq (.ops [⟨(some 18), some undefA, none, false, .pu (.idx 1 (.s 14) (.s 16))⟩,
      ⟨(some 19), some undefA, none, false, .ld (.ld 1 false (.s 18))⟩,
      ⟨(some 7), some undefA, none, false, .pu (.mov (.s 19))⟩])
    (.seq (.seq (.ops [⟨(some 20), some undefA, none, false, .ld (.ld 1 false (.s 2))⟩,
      ⟨(some 21), some undefA, none, false, .pu (.mov (.s 7))⟩,
      ⟨(some 22), some undefA, none, false, .pu (.idx 1 (.s 20) (.s 21))⟩,
      ⟨(some 23), some undefA, none, false, .ld (.ld 1 false (.s 22))⟩])
    (.cond (.s 23) (.exit 1)
    (.skip)))
    (.seq (.ops [⟨(some 24), some undefA, none, false, .ld (.ld 1 false (.s 2))⟩,
      ⟨(some 25), some undefA, none, false, .pu (.mov (.s 7))⟩,
      ⟨(some 26), some undefA, none, false, .pu (.idx 1 (.s 24) (.s 25))⟩,
      ⟨none, some undefA, none, false, .ha (.st 1 (.s 26) (.c (.bool true)))⟩])
    (.seq (.ops [⟨(some 27), some undefA, none, false, .ld (.ld 3 true (.s 1))⟩,
      ⟨(some 28), some undefA, none, false, .pu (.mov (.s 7))⟩,
      ⟨(some 29), some undefA, none, false, .call 89 [(.s 27), (.s 28)]⟩,
      ⟨(some 8), some undefA, none, false, .pu (.mov (.s 29))⟩])
    (.seq (.ops [⟨(some 30), some undefA, none, false, .pu (.mov (.s 8))⟩,
      ⟨(some 31), some undefA, none, false, .pu (.bin .lss (.s 30) (.c (.int .i64 0)))⟩,
      ⟨(some 32), some undefA, none, false, .pu (.mov (.s 31))⟩,
      ⟨(some 33), some undefA, (some (32, false)), false, .ld (.ld 1 false (.s 3))⟩,
      ⟨(some 34), some undefA, (some (32, false)), false, .pu (.mov (.s 8))⟩,
      ⟨(some 35), some undefA, (some (32, false)), false, .callv (.s 33) [(.s 34)]⟩,
      ⟨(some 36), some undefA, none, false, .pu (.pick (.s 32) (.c (.bool true)) (.s 35))⟩])
    (.cond (.s 36) (.seq (.ops [⟨(some 37), some undefA, none, false, .pu (.fad 2 (.s 1))⟩,
       ⟨(some 38), some undefA, none, false, .ld (.ld 1 false (.s 37))⟩,
       ⟨(some 39), some undefA, none, false, .pu (.mov (.s 0))⟩,
       ⟨(some 40), some undefA, none, false, .pu (.mov (.s 7))⟩,
       ⟨(some 41), some undefA, none, false, .pu (.idx 1 (.s 38) (.s 39))⟩,
       ⟨none, some undefA, none, false, .ha (.st 1 (.s 41) (.s 40))⟩])
     (.seq (.ops [⟨(some 5), some undefA, none, false, .pu (.mov (.c (.bool true)))⟩])
     (.ret)))
    (.skip))))))))
   (.ops [⟨(some 42), some undefA, none, false, .pu (.bin .add (.s 16) (.c (.int .i64 1)))⟩,
     ⟨(some 16), some undefA, none, false, .pu (.mov (.s 42))⟩])))))))
 (.seq (.ops [⟨(some 5), some undefA, none, false, .pu (.mov (.c (.bool false)))⟩])
 (.ret)))⟩
theorem t101 : trF Try.prog [] [] Try.f101 = some m101 := by kernel_rfl
/-- math/bits.Mul [] -/
def m102 : MFun := ⟨30, [], [.mov (.s 4), .mov (.s 5)],
 .seq (.ops [⟨(some 4), some undefA, none, false, .pu (.mov (.c (.int .u64 0)))⟩,
   ⟨(some 5), some undefA, none, false, .pu (.mov (.c (.int .u64 0)))⟩])
 (.seq (.cond (.c (.bool false)) (.seq (.ops [⟨(some 11), some undefA, none, false, .pu (.mov (.s 0))⟩,
    ⟨(some 12), some undefA, none, false, .pu (.conv .u32 (.s 11))⟩,
    ⟨(some 13), some undefA, none, false, .pu (.mov (.s 1))⟩,
    ⟨(some 14), some undefA, none, false, .pu (.conv .u32 (.s 13))⟩,
    ⟨(some 15), some undefA, none, false, .call 107 [(.s 12), (.s 14)]⟩,
    ⟨(some 10), some undefA, none, false, .pu (.mov (.s 15))⟩,
    ⟨(some 16), some undefA, none, false, .pu (.extr 0 (.s 10))⟩,
    ⟨(some 17), some undefA, none, false, .pu (.extr 1 (.s 10))⟩,
    ⟨(some 6), some undefA, none, false, .pu (.mov (.s 16))⟩,
    ⟨(some 7), some undefA, none, false, .pu (.mov (.s 17))⟩])
  (.seq (.ops [⟨(some 18), some undefA, none, false, .pu (.mov (.s 6))⟩,
    ⟨(some 19), some undefA, none, false, .pu (.conv .u64 (.s 18))⟩,
    ⟨(some 20), some undefA, none, false, .pu (.mov (.s 7))⟩,
    ⟨(some 21), some undefA, none, false, .pu (.conv .u64 (.s 20))⟩,
    ⟨(some 4), some undefA, none, false, .pu (.mov (.s 19))⟩,
    ⟨(some 5), some undefA, none, false, .pu (.mov (.s 21))⟩])
  (.ret)))
 (.skip))
 (.seq (.ops [⟨(some 23), some undefA, none, false, .pu (.mov (.s 0))⟩,
   ⟨(some 24), some undefA, none, false, .pu (.mov (.s 1))⟩,
   ⟨(some 25), some undefA, none, false, .call 108 [(.s 23), (.s 24)]⟩,
   ⟨(some 22), some undefA, none, false, .pu (.mov (.s 25))⟩,
   ⟨(some 26), some undefA, none, false, .pu (.extr 0 (.s 22))⟩,
   ⟨(some 27), some undefA, none, false, .pu (.extr 1 (.s 22))⟩,
   ⟨(some 8), some undefA, none, false, .pu (.mov (.s 26))⟩,
   ⟨(some 9), some undefA, none, false, .pu (.mov (.s 27))⟩])
 (.seq (.ops [⟨(some 28), some undefA, none, false, .pu (.mov (.s 8))⟩,
   ⟨(some 29), some undefA, none, false, .pu (.mov (.s 9))⟩,
   ⟨(some 4), some undefA, none, false, .pu (.mov (.s 28))⟩,
   ⟨(some 5), some undefA, none, false, .pu (.mov (.s 29))⟩])
 (.ret))))⟩
theorem t102 : trF Try.prog [] [] Try.f102 = some m102 := by kernel_rfl
/-- math/bits.Mul32 [] -/
def m107 : MFun := ⟨17, [], [.mov (.s 4), .mov (.s 5)],
 .seq (.ops [⟨(some 4), some undefA, none, false, .pu (.mov (.c (.int .u32 0)))⟩,
   ⟨(some 5), some undefA, none, false, .pu (.mov (.c (.int .u32 0)))⟩])
 (.seq (.ops [⟨(some 7), some undefA, none, false, .pu (.mov (.s 0))⟩,
   ⟨(some 8), some undefA, none, false, .pu (.conv .u64 (.s 7))⟩,
   ⟨(some 9), some undefA, none, false, .pu (.mov (.s 1))⟩,
   ⟨(some 10), some undefA, none, false, .pu (.conv .u64 (.s 9))⟩,
   ⟨(some 11), some undefA, none, false, .pu (.bin .mul (.s 8) (.s 10))⟩,
   ⟨(some 6), some undefA, none, false, .pu (.mov (.s 11))⟩])
 (.seq (.ops [⟨(some 12), some undefA, none, false, .pu (.mov (.s 6))⟩,
   ⟨(some 13), some undefA, none, false, .pu (.bin .shr (.s 12) (.c (.int .u64 32)))⟩,
   ⟨(some 14), some undefA, none, false, .pu (.conv .u32 (.s 13))⟩,
   ⟨(some 15), some undefA, none, false, .pu (.mov (.s 6))⟩,
   ⟨(some 16), some undefA, none, false, .pu (.conv .u32 (.s 15))⟩,
   ⟨(some 4), some undefA, none, false, .pu (.mov (.s 14))⟩,
   ⟨(some 5), some undefA, none, false, .pu (.mov (.s 16))⟩])
 (.ret)))⟩
theorem t107 : trF Try.prog [] [] Try.f107 = some m107 := by kernel_rfl
/-- math/bits.Mul64 [] -/
def m108 : MFun := ⟨51, [], [.mov (.s 4), .mov (.s 5)],
 .seq (.ops [⟨(some 4), some undefA, none, false, .pu (.mov (.c (.int .u64 0)))⟩,
   ⟨(some 5), some undefA, none, false, .pu (.mov (.c (.int .u64 0)))⟩])
 (.seq (.ops [⟨(some 14), some undefA, none, false, .pu (.mov (.s 0))⟩,
   ⟨(some 15), some undefA, none, false, .pu (.bin .and (.s 14) (.c (.int .u64 4294967295)))⟩,
   ⟨(some 6), some undefA, none, false, .pu (.mov (.s 15))⟩])
 (.seq (.ops [⟨(some 16), some undefA, none, false, .pu (.mov (.s 0))⟩,
   ⟨(some 17), some undefA, none, false, .pu (.bin .shr (.s 16) (.c (.int .u64 32)))⟩,
   ⟨(some 7), some undefA, none, false, .pu (.mov (.s 17))⟩])
 (.seq (.ops [⟨(some 18), some undefA, none, false, .pu (.mov (.s 1))⟩,
   ⟨(some 19), some undefA, none, false, .pu (.bin .and (.s 18) (.c (.int .u64 4294967295)))⟩,
   ⟨(some 8), some undefA, none, false, .pu (.mov (.s 19))⟩])
 (.seq (.ops [⟨(some 20), some undefA, none, false, .pu (.mov (.s 1))⟩,
   ⟨(some 21), some undefA, none, false, .pu (.bin .shr (.s 20) (.c (.int .u64 32)))⟩,
   ⟨(some 9), some undefA, none, false, .pu (.mov (.s 21))⟩])
 (.seq (.ops [⟨(some 22), some undefA, none, false, .pu (.mov (.s 6))⟩,
   ⟨(some 23), some undefA, none, false, .pu (.mov (.s 8))⟩,
   ⟨(some 24), some undefA, none, false, .pu (.bin .mul (.s 22) (.s 23))⟩,
   ⟨(some 10), some undefA, none, false, .pu (.mov (.s 24))⟩])
 (.seq (.ops [⟨(some 25), some undefA, none, false, .pu (.mov (.s 7))⟩,
   ⟨(some 26), some undefA, none, false, .pu (.mov (.s 8))⟩,
   ⟨(some 27), some undefA, none, false, .pu (.bin .mul (.s 25) (.s 26))⟩,
   ⟨(some 28), some undefA, none, false, .pu (.mov (.s 10))⟩,
   ⟨(some 29), some undefA, none, false, .pu (.bin .shr (.s 28) (.c (.int .u64 32)))⟩,
   ⟨(some 30), some undefA, none, false, .pu (.bin .add (.s 27) (.s 29))⟩,
   ⟨(some 11), some undefA, none, false, .pu (.mov (.s 30))⟩])
 (.seq (.ops [⟨(some 31), some undefA, none, false, .pu (.mov (.s 11))⟩,
   ⟨(some 32), some undefA, none, false, .pu (.bin .and (.s 31) (.c (.int .u64 4294967295)))⟩,
   ⟨(some 12), some undefA, none, false, .pu (.mov (.s 32))⟩])
 (.seq (.ops [⟨(some 33), some undefA, none, false, .pu (.mov (.s 11))⟩,
   ⟨(some 34), some undefA, none, false, .pu (.bin .shr (.s 33) (.c (.int .u64 32)))⟩,
   ⟨(some 13), some undefA, none, false, .pu (.mov (.s 34))⟩])
 (.seq (.ops [⟨(some 35), some undefA, none, false, .pu (.mov (.s 12))⟩,
   ⟨(some 36), some undefA, none, false, .pu (.mov (.s 6))⟩,
   ⟨(some 37), some undefA, none, false, .pu (.mov (.s 9))⟩,
   ⟨(some 38), some undefA, none, false, .pu (.bin .mul (.s 36) (.s 37))⟩,
   ⟨(some 39), some undefA, none, false, .pu (.bin .add (.s 35) (.s 38))⟩,
   ⟨(some 12), some undefA, none, false, .pu (.mov (.s 39))⟩])
 (.seq (.ops [⟨(some 40), some undefA, none, false, .pu (.mov (.s 7))⟩,
   ⟨(some 41), some undefA, none, false, .pu (.mov (.s 9))⟩,
   ⟨(some 42), some undefA, none, false, .pu (.bin .mul (.s 40) (.s 41))⟩,
   ⟨(some 43), some undefA, none, false, .pu (.mov (.s 13))⟩,
   ⟨(some 44), some undefA, none, false, .pu (.bin .add (.s 42) (.s 43))⟩,
   ⟨(some 45), some undefA, none, false, .pu (.mov (.s 12))⟩,
   ⟨(some 46), some undefA, none, false, .pu (.bin .shr (.s 45) (.c (.int .u64 32)))⟩,
   ⟨(some 47), some undefA, none, false, .pu (.bin .add (.s 44) (.s 46))⟩,
   ⟨(some 4), some undefA, none, false, .pu (.mov (.s 47))⟩])
 (.seq (.ops [⟨(some 48), some undefA, none, false, .pu (.mov (.s 0))⟩,
   ⟨(some 49), some undefA, none, false, .pu (.mov (.s 1))⟩,
   ⟨(some 50), some undefA, none, false, .pu (.bin .mul (.s 48) (.s 49))⟩,
   ⟨(some 5), some undefA, none, false, .pu (.mov (.s 50))⟩])
 (.ret))))))))))))⟩
theorem t108 : trF Try.prog [] [] Try.f108 = some m108 := by kernel_rfl
end Go.Proofs.Ytlmbobbefgcolaa

namespace Go.Proofs.Ytlmbobbefgcolaa
open Go Go.Eng
theorem hmix : Try.prog.follows .mixedOrders = true := by kernel_rfl
def tab : List (Nat × MFun) := [(18, m18), (19, m19), (21, m21), (23, m23), (24, m24), (39, m39), (54, m54), (55, m55), (56, m56), (59, m59), (61, m61), (62, m62), (63, m63), (69, m69), (71, m71), (73, m73), (83, m83), (87, m87), (89, m89), (90, m90), (91, m91), (92, m92), (93, m93), (94, m94), (95, m95), (101, m101), (102, m102), (107, m107), (108, m108)]
theorem tabOK : TabOK Try.prog tab :=
  .cons Try.func18 (by kernel_rfl) t18 <| .cons Try.func19 (by kernel_rfl) t19 <| .cons Try.func21 (by kernel_rfl) t21 <| .cons Try.func23 (by kernel_rfl) t23 <| .cons Try.func24 (by kernel_rfl) t24 <| .cons Try.func39 (by kernel_rfl) t39 <| .cons Try.func54 (by kernel_rfl) t54 <| .cons Try.func55 (by kernel_rfl) t55 <| .cons Try.func56 (by kernel_rfl) t56 <| .cons Try.func59 (by kernel_rfl) t59 <| .cons Try.func61 (by kernel_rfl) t61 <| .cons Try.func62 (by kernel_rfl) t62 <| .cons Try.func63 (by kernel_rfl) t63 <| .cons Try.func69 (by kernel_rfl) t69 <| .cons Try.func71 (by kernel_rfl) t71 <| .cons Try.func73 (by kernel_rfl) t73 <| .cons Try.func83 (by kernel_rfl) t83 <| .cons Try.func87 (by kernel_rfl) t87 <| .cons Try.func89 (by kernel_rfl) t89 <| .cons Try.func90 (by kernel_rfl) t90 <| .cons Try.func91 (by kernel_rfl) t91 <| .cons Try.func92 (by kernel_rfl) t92 <| .cons Try.func93 (by kernel_rfl) t93 <| .cons Try.func94 (by kernel_rfl) t94 <| .cons Try.func95 (by kernel_rfl) t95 <| .cons Try.func101 (by kernel_rfl) t101 <| .cons Try.func102 (by kernel_rfl) t102 <| .cons Try.func107 (by kernel_rfl) t107 <| .cons Try.func108 (by kernel_rfl) t108 <| .nil
def isTrue : Option (AV × AHeap) → Bool
  | some (.bool true, _) => true
  | _ => false
set_option maxRecDepth 100000 in
theorem known_run : isTrue (runF tab 300 14 18 [] []) = true := by kernel_rfl
theorem known (A : AHeap) : ACalls Try.prog 18 [] A (B true) A := by
  cases h : runF tab 300 14 18 [] [] with
  | none => have := known_run; rw [h] at this; cases this
  | some p =>
    obtain ⟨v, A'⟩ := p
    have h1 := known_run
    rw [h] at h1
    have h2 : v = B true := by
      unfold isTrue at h1
      split at h1
      · rename_i e; cases e; rfl
      · cases h1
    subst h2
    exact (runF_ok hmix tabOK 300 14 18 [] [] _ _ h).lift (by simp) rfl A
end Go.Proofs.Ytlmbobbefgcolaa

namespace Go.Proofs.Ytlmbobbefgcolaa
open Go Go.Eng
/-- A number that a machine word holds. -/
abbrev W (a : Int) : Prop := -9223372036854775808 ≤ a ∧ a ≤ 9223372036854775807
/-- The first element's place, or -1. -/
def fpos (g : Int → Bool) (xs : List Int) : Int := match xs.findIdx? g with | some i => i | none => -1
theorem fpos_some {g : Int → Bool} {xs : List Int} {i : Nat} {z : Int} (h : ∀ y ∈ xs.take i, g y = false) (hz : xs[i]? = some z) (hg : g z = true) : fpos g xs = i := by
  have hi : i < xs.length := (List.getElem?_eq_some_iff.1 hz).1
  have he : xs[i] = z := (List.getElem?_eq_some_iff.1 hz).2
  have : xs.findIdx? g = some i := by
    rw [List.findIdx?_eq_some_iff_getElem]
    refine ⟨hi, by rw [he]; exact hg, fun j hj => ?_⟩
    have : xs[j]'(by omega) ∈ xs.take i := by
      rw [List.mem_take_iff_getElem]
      exact ⟨j, by omega, rfl⟩
    simp [h _ this]
  unfold fpos
  rw [this]
theorem fpos_none {g : Int → Bool} {xs : List Int} (h : ∀ y ∈ xs, g y = false) : fpos g xs = -1 := by
  have : xs.findIdx? g = none := by
    rw [List.findIdx?_eq_none_iff]
    exact h
  unfold fpos
  rw [this]
theorem fpos_iff (g : Int → Bool) (xs : List Int) : 0 ≤ fpos g xs ↔ xs.any g = true := by
  unfold fpos
  cases h : xs.findIdx? g with
  | some i =>
    rw [List.findIdx?_eq_some_iff_getElem] at h
    obtain ⟨hi, hg, _⟩ := h
    simp only [Int.natCast_nonneg, true_iff, List.any_eq_true]
    exact ⟨_, List.getElem_mem hi, hg⟩
  | none =>
    rw [List.findIdx?_eq_none_iff] at h
    constructor
    · intro h1; simp at h1
    · intro h1
      rw [List.any_eq_true] at h1
      obtain ⟨x, hx, hg⟩ := h1
      rw [h x hx] at hg; cases hg
theorem take_false {g : Int → Bool} {xs : List Int} {i : Nat} {z : Int} (h : ∀ y ∈ xs.take i, g y = false) (hz : xs[i]? = some z) (hg : g z = false) : ∀ y ∈ xs.take (i + 1), g y = false := by
  intro y hy
  rw [List.take_add_one, hz] at hy
  rcases List.mem_append.1 hy with hy | hy
  · exact h y hy
  · have : y = z := by simpa using hy
    rw [this]; exact hg
theorem c_Index {xs : List Int} {v : AV} {A : AHeap} (hx : L1 A v xs) (hl : xs.length ≤ 1000000) (p : Int) : ACalls Try.prog 94 [v, I p] A (I (fpos (fun y => decide (p = y)) xs)) A := by
  refine acalls hmix Try.func94 (by kernel_rfl) t94 2 rfl (by decide) ?_
  dsimp only [m94]
  simp (maxSteps := 4000000) -implicitDefEqProofs -dsimp (disch := omega) only [↓AW_ops, ↓AW_seq, ↓AW_block, ↓AOps_nil, ↓AOps_pu, on_some, ↓then_normal, pval, rd_S, rd_C, put_S, ↓AW_toLoop, List.replicate_succ, List.replicate_zero, List.set_cons_zero, List.set_cons_succ, List.getElem?_cons_zero, List.getElem?_cons_succ, Option.getD_some, Nat.reduceSub, List.cons_append, List.nil_append, hx.len]
  refine LoopK.by 19 (fun i : Nat => i ≤ xs.length ∧ ∀ y ∈ xs.take i, decide (p = y) = false) (fun i => [(0, v), (1, I p), (7, I xs.length), (8, I i)]) (fun _ => A) (fun i => xs.length - i) 0 ⟨by omega, by simp⟩ rfl (by simp [Has, rd_s]) rfl ?_
  rintro i ⟨hi, he⟩
  by_cases hlt : i < xs.length
  · obtain ⟨z, hz⟩ : ∃ z, xs[i]? = some z := ⟨_, List.getElem?_eq_getElem hlt⟩
    have hlt' : (i : Int) < xs.length := by omega
    by_cases h : p = z
    · simp (maxSteps := 4000000) -implicitDefEqProofs -dsimp (disch := omega) only [↓AW_skip, ↓AW_ops, ↓AW_seq, ↓AW_cond, ↓AW_block, ↓AW_ret, ↓AOps_nil, ↓AOps_pu, ↓AOps_ld, on_some, condB_t, ↓then_normal, ↓then_ret, ↓inBlock_ret, ↓Fin_ret, pval, lval, rd_S, put_S, resV, resL, partA, eq_self, mk, List.foldl_cons, List.foldl_nil, List.replicate_succ, List.replicate_zero, List.set_cons_zero, List.set_cons_succ, List.getElem?_cons_zero, List.getElem?_cons_succ, List.drop_zero, List.take_succ_cons, List.take_nil, Option.getD_some, List.length_cons, List.length_nil, Nat.reduceLeDiff, Nat.zero_add, bin_eql, bin_lss, if_true, if_false, Bool.false_eq_true, decide_true, Go.Eng.e1, hlt', hx.idx hlt, hx.ld0 hz 1 false (by decide), h]
      exact gc_same (by rw [← h, fpos_some he hz (by simp [h])])
    · simp (maxSteps := 4000000) -implicitDefEqProofs -dsimp (disch := omega) only [↓AW_skip, ↓AW_ops, ↓AW_seq, ↓AW_cond, ↓AW_block, ↓AOps_nil, ↓AOps_pu, ↓AOps_ld, on_some, condB_t, condB_f, ↓then_normal, ↓inBlock_normal, pval, lval, rd_S, rd_C, put_S, partA, eq_self, mk, List.foldl_cons, List.foldl_nil, List.replicate_succ, List.replicate_zero, List.set_cons_zero, List.set_cons_succ, List.getElem?_cons_zero, List.getElem?_cons_succ, List.drop_zero, List.take_succ_cons, List.take_nil, Option.getD_some, List.length_cons, List.length_nil, Nat.reduceAdd, Nat.reduceLeDiff, Nat.zero_add, bin_add, bin_eql, bin_lss, w64, if_true, if_false, Bool.false_eq_true, decide_true, decide_false, decide_eq_false_iff_not, Go.Eng.e1, true_and, hlt', hx.idx hlt, hx.ld0 hz 1 false (by decide), h]
      exact ⟨i + 1, ⟨hlt, by simpa using take_false he hz (by simp [h])⟩, by simp [Has, rd_s], by omega⟩
  · have hlt' : ¬ ((i : Int) < xs.length) := by omega
    simp (maxSteps := 4000000) -implicitDefEqProofs -dsimp (disch := omega) only [↓AW_ops, ↓AW_seq, ↓AW_cond, ↓AW_exit, ↓AW_ret, ↓AOps_nil, ↓AOps_pu, on_some, condB_f, ↓then_normal, ↓then_exit, ↓inBlock_exit, ↓Fin_ret, pval, rd_S, rd_C, put_S, resV, resL, eq_self, mk, List.foldl_cons, List.foldl_nil, List.replicate_succ, List.replicate_zero, List.set_cons_zero, List.set_cons_succ, List.getElem?_cons_zero, List.getElem?_cons_succ, Option.getD_some, bin_lss, if_true, decide_false, Int.reduceNeg, hlt']
    rw [List.take_of_length_le (by omega)] at he
    exact gc_same (by rw [fpos_none he])
theorem c_Contains {xs : List Int} {v : AV} {A : AHeap} (hx : L1 A v xs) (hl : xs.length ≤ 1000000) (p : Int) : ACalls Try.prog 71 [v, I p] A (B (decide (p ∈ xs))) A := by
  refine acalls hmix Try.func71 (by kernel_rfl) t71 2 rfl (by decide) ?_
  dsimp only [m71]
  simp (maxSteps := 4000000) -implicitDefEqProofs -dsimp (disch := omega) only [↓AW_ops, ↓AW_seq, ↓AOps_nil, ↓AOps_pu, ↓AOps_call, on_some, ↓then_normal, pval, rd_S, rd_C, put_S, List.replicate_succ, List.replicate_zero, List.set_cons_zero, List.set_cons_succ, List.getElem?_cons_zero, List.getElem?_cons_succ, Option.getD_some, map_c, map_n, Nat.reduceSub, List.cons_append, List.nil_append]
  refine CallK.of (c_Index hx hl p) ?_
  simp (maxSteps := 4000000) -implicitDefEqProofs -dsimp (disch := omega) only [↓AW_ret, ↓AOps_nil, ↓AOps_pu, on_some, extK_same, ↓then_normal, ↓Fin_ret, pval, rd_S, rd_C, put_S, resV, resL, List.replicate_succ, List.replicate_zero, List.set_cons_zero, List.set_cons_succ, List.getElem?_cons_zero, List.getElem?_cons_succ, Option.getD_some, Nat.reduceSub, List.cons_append, List.nil_append, bin_geq]
  refine gc_same ?_
  congr 1
  rw [decide_eq_decide, fpos_iff]
  simp
theorem c_IndexFunc {xs : List Int} {v : AV} {A : AHeap} (hx : L1 A v xs) (hl : xs.length ≤ 1000000) (f : FuncId) (cap : List AV) (g : Int → Bool) (hg : ∀ x ∈ xs, ACalls Try.prog f ([I x] ++ cap) A (B (g x)) A) : ACalls Try.prog 87 [v, .fn f cap] A (I (fpos g xs)) A := by
  refine acalls hmix Try.func87 (by kernel_rfl) t87 2 rfl (by decide) ?_
  dsimp only [m87]
  simp (maxSteps := 4000000) -implicitDefEqProofs -dsimp (disch := omega) only [↓AW_ops, ↓AW_seq, ↓AW_block, ↓AOps_nil, ↓AOps_pu, on_some, ↓then_normal, pval, rd_S, rd_C, put_S, ↓AW_toLoop, List.replicate_succ, List.replicate_zero, List.set_cons_zero, List.set_cons_succ, List.getElem?_cons_zero, List.getElem?_cons_succ, Option.getD_some, Nat.reduceSub, List.cons_append, List.nil_append, hx.len]
  refine LoopK.by 19 (fun i : Nat => i ≤ xs.length ∧ ∀ y ∈ xs.take i, g y = false) (fun i => [(0, v), (1, .fn f cap), (7, I xs.length), (8, I i)]) (fun _ => A) (fun i => xs.length - i) 0 ⟨by omega, by simp⟩ rfl (by simp [Has, rd_s]) rfl ?_
  rintro i ⟨hi, he⟩
  by_cases hlt : i < xs.length
  · obtain ⟨z, hz⟩ : ∃ z, xs[i]? = some z := ⟨_, List.getElem?_eq_getElem hlt⟩
    have hlt' : (i : Int) < xs.length := by omega
    simp (maxSteps := 4000000) -implicitDefEqProofs -dsimp (disch := omega) only [↓AW_skip, ↓AW_ops, ↓AW_seq, ↓AW_cond, ↓AW_block, ↓AOps_nil, ↓AOps_pu, ↓AOps_ld, ↓AOps_callv, on_some, CallF_fn, condB_t, ↓then_normal, pval, lval, rd_S, put_S, partA, eq_self, mk, List.foldl_cons, List.foldl_nil, List.replicate_succ, List.replicate_zero, List.set_cons_zero, List.set_cons_succ, List.getElem?_cons_zero, List.getElem?_cons_succ, List.drop_zero, List.take_succ_cons, List.take_nil, Option.getD_some, map_c, map_n, List.length_cons, List.length_nil, Nat.reduceLeDiff, Nat.zero_add, List.cons_append, List.nil_append, bin_lss, if_true, if_false, Bool.false_eq_true, decide_true, Go.Eng.e1, hlt', hx.idx hlt, hx.ld0 hz 1 false (by decide)]
    refine CallK.of (hg z (List.mem_of_getElem? hz)) ?_
    by_cases h : g z = true
    · simp (maxSteps := 4000000) -implicitDefEqProofs -dsimp (disch := omega) only [↓AW_ops, ↓AW_seq, ↓AW_cond, ↓AW_ret, ↓AOps_nil, ↓AOps_pu, on_some, extK_same, condB_t, ↓then_normal, ↓then_ret, ↓inBlock_ret, ↓Fin_ret, pval, rd_S, put_S, resV, resL, mk, List.foldl_cons, List.foldl_nil, List.replicate_succ, List.replicate_zero, List.set_cons_zero, List.set_cons_succ, List.getElem?_cons_zero, List.getElem?_cons_succ, Option.getD_some, h]
      exact gc_same (by rw [fpos_some he hz h])
    · have h : g z = false := by simpa using h
      simp (maxSteps := 4000000) -implicitDefEqProofs -dsimp (disch := omega) only [↓AW_skip, ↓AW_ops, ↓AW_cond, ↓AOps_nil, ↓AOps_pu, on_some, extK_same, condB_f, ↓then_normal, ↓inBlock_normal, pval, rd_S, rd_C, put_S, eq_self, mk, List.foldl_cons, List.foldl_nil, List.replicate_succ, List.replicate_zero, List.set_cons_zero, List.set_cons_succ, List.getElem?_cons_zero, List.getElem?_cons_succ, Option.getD_some, List.length_cons, List.length_nil, Nat.reduceAdd, Nat.zero_add, bin_add, w64, true_and, h]
      exact ⟨i + 1, ⟨hlt, take_false he hz h⟩, by simp [Has, rd_s], by omega⟩
  · have hlt' : ¬ ((i : Int) < xs.length) := by omega
    simp (maxSteps := 4000000) -implicitDefEqProofs -dsimp (disch := omega) only [↓AW_ops, ↓AW_seq, ↓AW_cond, ↓AW_exit, ↓AW_ret, ↓AOps_nil, ↓AOps_pu, on_some, condB_f, ↓then_normal, ↓then_exit, ↓inBlock_exit, ↓Fin_ret, pval, rd_S, rd_C, put_S, resV, resL, eq_self, mk, List.foldl_cons, List.foldl_nil, List.replicate_succ, List.replicate_zero, List.set_cons_zero, List.set_cons_succ, List.getElem?_cons_zero, List.getElem?_cons_succ, Option.getD_some, bin_lss, if_true, decide_false, Int.reduceNeg, hlt']
    rw [List.take_of_length_le (by omega)] at he
    exact gc_same (by rw [fpos_none he])
theorem c_ContainsFunc {xs : List Int} {v : AV} {A : AHeap} (hx : L1 A v xs) (hl : xs.length ≤ 1000000) (f : FuncId) (cap : List AV) (g : Int → Bool) (hg : ∀ x ∈ xs, ACalls Try.prog f ([I x] ++ cap) A (B (g x)) A) : ACalls Try.prog 69 [v, .fn f cap] A (B (xs.any g)) A := by
  refine acalls hmix Try.func69 (by kernel_rfl) t69 2 rfl (by decide) ?_
  dsimp only [m69]
  simp (maxSteps := 4000000) -implicitDefEqProofs -dsimp (disch := omega) only [↓AW_ops, ↓AW_seq, ↓AOps_nil, ↓AOps_pu, ↓AOps_call, on_some, ↓then_normal, pval, rd_S, rd_C, put_S, List.replicate_succ, List.replicate_zero, List.set_cons_zero, List.set_cons_succ, List.getElem?_cons_zero, List.getElem?_cons_succ, Option.getD_some, map_c, map_n, Nat.reduceSub, List.cons_append, List.nil_append]
  refine CallK.of (c_IndexFunc hx hl f cap g hg) ?_
  simp (maxSteps := 4000000) -implicitDefEqProofs -dsimp (disch := omega) only [↓AW_ret, ↓AOps_nil, ↓AOps_pu, on_some, extK_same, ↓then_normal, ↓Fin_ret, pval, rd_S, rd_C, put_S, resV, resL, List.replicate_succ, List.replicate_zero, List.set_cons_zero, List.set_cons_succ, List.getElem?_cons_zero, List.getElem?_cons_succ, Option.getD_some, Nat.reduceSub, List.cons_append, List.nil_append, bin_geq]
  refine gc_same ?_
  congr 1
  rw [Bool.eq_iff_iff, decide_eq_true_iff, fpos_iff]
/-- The front of a list. -/
theorem Ls_takeS {α : Type} {es : Nat} {e : α → List AV} {H : AHeap} {v : AV} {xs : List α} (h : Ls es e H v xs) (k : Nat) (hk : k ≤ xs.length) : ∃ v', slcA es v none (some (I k)) none = some v' ∧ Ls es e H v' (xs.take k) := by
  rcases h.inv with ⟨rfl, rfl⟩ | ⟨n, off, full, rw, l, rfl, h1, h2, h3⟩
  · have : k = 0 := by simpa using hk
    subst this
    exact ⟨.nilS, by simp [slcA, bnd], ⟨h.he, rfl⟩⟩
  · have hk' : (0 : Int) ≤ k ∧ (k : Int) ≤ xs.length := by omega
    refine ⟨.sl es n off k (full && (k == xs.length)), by simp [slcA, bnd, hk], ⟨h.he, ?_⟩⟩
    have hm : k * es ≤ xs.length * es := Nat.mul_le_mul_right _ hk
    simp only [slCells, cellsAt, h1, if_true]
    rw [if_pos (by omega)]
    simp only [Option.map_some, List.length_take, Nat.min_eq_left hk, Option.some.injEq, Prod.mk.injEq, true_and]
    have h4 : (xs.take k).flatMap e = (xs.flatMap e).take (k * es) := by
      conv => rhs; rw [← List.take_append_drop k xs, List.flatMap_append]
      have h5 := flatMap_length h.he (xs.take k)
      rw [List.length_take, Nat.min_eq_left hk] at h5
      rw [← h5, List.take_left]
    rw [h4, ← h3, List.take_take, Nat.min_eq_left hm]
theorem L1_nil (A : AHeap) : L1 A .nilS [] := ⟨e1_len, rfl⟩
theorem L1_one (A : AHeap) (x : Int) : L1 (A ++ [.cells true [I x]]) (.sl 1 A.length 0 1 true) [x] := ⟨e1_len, by simp [slCells, cellsAt, e1]⟩
theorem get_new (A : AHeap) (o : AObj) : (A ++ [o])[A.length]? = some o := by simp
theorem set_new (A : AHeap) (o o' : AObj) : (A ++ [o]).set A.length o' = A ++ [o'] := by simp
theorem AccL_ls {α : Type} {es : Nat} {e : α → List AV} {H H1 : AHeap} {v : AV} {xs : List α} (h : AccL es e H H1 v xs) (he : ∀ x, (e x).length = es) : Ls es e H1 v xs := by
  obtain ⟨h1, h2, h3⟩ := h
  refine ⟨he, ?_⟩
  rcases h3 with ⟨h4, rfl⟩ | ⟨h0, n, rfl, h5, h6⟩
  · have : xs = [] := List.eq_nil_of_length_eq_zero h4
    subst this; rfl
  · simp only [slCells, cellsAt, h6, if_true, Nat.zero_add]
    rw [if_pos (by omega)]
    simp only [List.drop_zero, Option.map_some, Option.some.injEq, Prod.mk.injEq, true_and]
    rw [← h2, List.take_length]
theorem take_mem {α : Type} {l : List α} {i : Nat} {z y : α} (hz : l[i]? = some z) : y ∈ l.take (i + 1) ↔ y ∈ l.take i ∨ y = z := by
  rw [List.take_add_one, hz, List.mem_append]
  simp
theorem split_at {α : Type} {l : List α} {i : Nat} {z : α} (hz : l[i]? = some z) : l = l.take i ++ z :: l.drop (i + 1) := by
  have hi : i < l.length := (List.getElem?_eq_some_iff.1 hz).1
  have := (List.getElem?_eq_some_iff.1 hz).2
  rw [← this, List.getElem_cons_drop, List.take_append_drop]
/-- Numbers that grow. -/
abbrev Up (l : List Int) : Prop := l.Pairwise (· < ·)
theorem up_step {l : List Int} {i : Nat} {a b : Int} (ha : l[i]? = some a) (hb : l[i + 1]? = some b) (h : Up (l.take (i + 1))) (hab : a < b) : Up (l.take (i + 1 + 1)) := by
  rw [List.take_add_one, hb, Option.toList_some, Up, List.pairwise_append]
  refine ⟨h, by simp, fun x hx y hy => ?_⟩
  have : y = b := by simpa using hy
  subst this
  rw [take_mem ha] at hx
  rcases hx with hx | rfl
  · rw [List.take_add_one, ha, Option.toList_some, Up, List.pairwise_append] at h
    have := h.2.2 x hx a (by simp)
    omega
  · exact hab
theorem up_bad {l : List Int} {i : Nat} {a b : Int} (ha : l[i]? = some a) (hb : l[i + 1]? = some b) (h : b ≤ a) : ¬ Up l := by
  intro hu
  rw [split_at hb, Up, List.pairwise_append] at hu
  have := hu.2.2 a ((take_mem ha).2 (.inr rfl)) b (by simp)
  omega
theorem up_one {l : List Int} : Up (l.take 1) := by
  cases l with
  | nil => simp
  | cons a l => simp [Up]
end Go.Proofs.Ytlmbobbefgcolaa

namespace Go.Proofs.Ytlmbobbefgcolaa
open Go Go.Eng
def e0 (x : AV × List Int) : List AV := [x.1]
/-- A list of lists in memory. -/
structure LL (A : AHeap) (v : AV) (ws : List (AV × List Int)) : Prop where
  ls : Ls 1 e0 A v ws
  inn : ∀ x ∈ ws, L1 A x.1 x.2
theorem LL.mono {A A' : AHeap} {v : AV} {ws : List (AV × List Int)} (h : LL A v ws) (hp : A <+: A') : LL A' v ws := ⟨h.ls.mono hp, fun x hx => (h.inn x hx).mono hp⟩
abbrev lists (ws : List (AV × List Int)) : List (List Int) := ws.map Prod.snd
/-- Lists that are not long. -/
def Sz (ws : List (AV × List Int)) : Prop := ws.length ≤ 40 ∧ ∀ x ∈ ws, x.2.length ≤ 40
theorem ld_new (A : AHeap) (x : AV) (l : List AV) : ldA 1 false (.ptr A.length 0) (A ++ [.cells true (x :: l)]) = some x := by
  simp [ldA, partA]
theorem ld_new1 (A : AHeap) (x y : AV) (l : List AV) : ldA 1 false (.ptr A.length 1) (A ++ [.cells true (x :: y :: l)]) = some y := by
  simp [ldA, partA]
theorem ld_new2 (A : AHeap) (x y : AV) : ldA 2 true (.ptr A.length 0) (A ++ [.cells true [x, y]]) = some (.agg [x, y]) := by
  simp [ldA, partA]
theorem s32 {xs : List Int} {v : AV} {A : AHeap} (hx : L1 A v xs) : ACalls Try.prog 32 [v] A (B (decide ((40 : Int) < xs.length))) A := by
  refine acalls hmix Try.func32 (by kernel_rfl) t32 1 rfl (by decide) ?_
  dsimp only [m32]
  simp (maxSteps := 4000000) -implicitDefEqProofs -dsimp (disch := omega) only [↓AW_ops, ↓AW_seq, ↓AW_ret, ↓AOps_nil, ↓AOps_pu, on_some, ↓then_normal, ↓Fin_ret, pval, rd_S, rd_C, put_S, resV, resL, List.replicate_succ, List.replicate_zero, List.set_cons_zero, List.set_cons_succ, List.getElem?_cons_zero, List.getElem?_cons_succ, Option.getD_some, Nat.reduceSub, List.cons_append, List.nil_append, bin_gtr, hx.len]
  exact gc_same rfl
def longW (ws : List (AV × List Int)) : Prop := (∃ x ∈ ws, (40 : Int) < x.2.length) ∨ (40 : Int) < ws.length
theorem Sz_of {ws : List (AV × List Int)} (h : ¬ longW ws) : Sz ws := by
  refine ⟨?_, fun x hx => ?_⟩
  · have : ¬ (40 : Int) < ws.length := fun h1 => h (.inr h1)
    omega
  · have : ¬ (40 : Int) < x.2.length := fun h1 => h (.inl ⟨x, hx, h1⟩)
    omega
instance (ws : List (AV × List Int)) : Decidable (longW ws) := by unfold longW; exact inferInstance
theorem s17 {P : Int} {ws : List (AV × List Int)} {v : AV} {A : AHeap} (hw : LL A v ws) (hl : ws.length ≤ 9223372036854775807) : ACalls Try.prog 17 [.agg [I P, v]] A (B (decide (longW ws))) A := by
  refine acalls hmix Try.func17 (by kernel_rfl) t17 1 rfl (by decide) ?_
  dsimp only [m17]
  simp (maxSteps := 4000000) -implicitDefEqProofs -dsimp (disch := omega) only [↓AW_ops, ↓AW_seq, ↓AW_block, ↓AOps_nil, ↓AOps_pu, on_some, ↓then_normal, pval, rd_S, rd_C, put_S, ↓AW_toLoop, AV.cells?, List.replicate_succ, List.replicate_zero, List.set_cons_zero, List.set_cons_succ, List.getElem?_cons_zero, Option.getD_some, Nat.reduceSub, List.cons_append, List.nil_append]
  refine LoopK.by 21 (fun i : Nat => i ≤ ws.length ∧ ∀ x ∈ ws.take i, ¬ (40 : Int) < x.2.length) (fun i => [(1, .agg [I P, v]), (3, I i)]) (fun _ => A) (fun i => ws.length - i) 0 ⟨by omega, by simp⟩ rfl (by simp [Has, rd_s]) rfl ?_
  rintro i ⟨hi, he⟩
  by_cases hlt : i < ws.length
  · obtain ⟨x, hz⟩ : ∃ z, ws[i]? = some z := ⟨_, List.getElem?_eq_getElem hlt⟩
    have hlt' : (i : Int) < ws.length := by omega
    have hm := List.mem_of_getElem? hz
    simp (maxSteps := 4000000) -implicitDefEqProofs -dsimp (disch := omega) only [↓AW_skip, ↓AW_ops, ↓AW_seq, ↓AW_cond, ↓AW_block, ↓AOps_nil, ↓AOps_pu, ↓AOps_ld, ↓AOps_call, on_some, condB_t, ↓then_normal, pval, lval, rd_S, put_S, chkd, isAdr, bgot, AV.cells?, partA, eq_self, mk, List.foldl_cons, List.foldl_nil, List.replicate_succ, List.replicate_zero, List.set_cons_zero, List.set_cons_succ, List.getElem?_cons_zero, List.getElem?_cons_succ, List.drop_zero, List.drop_succ_cons, List.take_succ_cons, List.take_nil, Option.getD_some, map_c, map_n, List.length_cons, List.length_nil, Nat.reduceAdd, Nat.reduceLeDiff, Nat.zero_add, bin_lss, if_true, if_false, Bool.false_eq_true, decide_true, hlt', hw.ls.len, hw.ls.idx hlt, hw.ls.ld0 hz 1 false (by decide), e0]
    refine CallK.of (s32 (hw.inn x hm)) ?_
    by_cases h : (40 : Int) < x.2.length
    · simp (maxSteps := 4000000) -implicitDefEqProofs -dsimp (disch := omega) only [↓AW_ops, ↓AW_seq, ↓AW_cond, ↓AW_ret, ↓AOps_nil, ↓AOps_pu, on_some, extK_same, condB_t, ↓then_normal, ↓then_ret, ↓inBlock_ret, ↓Fin_ret, pval, rd_S, rd_C, put_S, resV, resL, mk, List.foldl_cons, List.foldl_nil, List.replicate_succ, List.replicate_zero, List.set_cons_zero, List.set_cons_succ, List.getElem?_cons_zero, List.getElem?_cons_succ, Option.getD_some, decide_true, h]
      exact gc_same (by rw [decide_eq_true (show longW ws from .inl ⟨x, hm, h⟩)])
    · simp (maxSteps := 4000000) -implicitDefEqProofs -dsimp (disch := omega) only [↓AW_skip, ↓AW_ops, ↓AW_cond, ↓AOps_nil, ↓AOps_pu, on_some, extK_same, condB_f, ↓then_normal, ↓inBlock_normal, pval, rd_S, rd_C, put_S, eq_self, mk, List.foldl_cons, List.foldl_nil, List.replicate_succ, List.replicate_zero, List.set_cons_zero, List.set_cons_succ, List.getElem?_cons_zero, List.getElem?_cons_succ, Option.getD_some, List.length_cons, List.length_nil, Nat.reduceAdd, Nat.zero_add, bin_add, w64, decide_false, true_and, h]
      refine ⟨i + 1, ⟨hlt, fun y hy => ?_⟩, by simp [Has, rd_s], by omega⟩
      rw [List.take_add_one, hz] at hy
      rcases List.mem_append.1 hy with hy | hy
      · exact he y hy
      · have : y = x := by simpa using hy
        rw [this]; exact h
  · have hlt' : ¬ ((i : Int) < ws.length) := by omega
    simp (maxSteps := 4000000) -implicitDefEqProofs -dsimp (disch := omega) only [↓AW_ops, ↓AW_seq, ↓AW_cond, ↓AW_exit, ↓AW_ret, ↓AOps_nil, ↓AOps_pu, on_some, condB_f, ↓then_normal, ↓then_exit, ↓inBlock_exit, ↓Fin_ret, pval, rd_S, rd_C, put_S, resV, resL, chkd, isAdr, bgot, AV.cells?, partA, eq_self, mk, List.foldl_cons, List.foldl_nil, List.replicate_succ, List.replicate_zero, List.set_cons_zero, List.set_cons_succ, List.getElem?_cons_zero, List.getElem?_cons_succ, List.drop_zero, List.drop_succ_cons, List.take_succ_cons, List.take_nil, Option.getD_some, List.length_cons, List.length_nil, Nat.reduceAdd, Nat.reduceLeDiff, Nat.zero_add, bin_lss, bin_gtr, if_true, if_false, Bool.false_eq_true, decide_false, hlt', hw.ls.len]
    rw [List.take_of_length_le (by omega)] at he
    refine gc_same ?_
    congr 1
    rw [decide_eq_decide]
    constructor
    · exact fun h => .inr h
    · rintro (⟨x, hx, h⟩ | h)
      · exact absurd h (he x hx)
      · exact h
def inP (P : Int) (p : Int) : Prop := 0 ≤ p ∧ p < P
instance (P p : Int) : Decidable (inP P p) := by unfold inP; exact inferInstance
theorem s95 {n p : Int} {A : AHeap} {a o : Nat} (h : ldA 1 false (.ptr a o) A = some (I n)) : ACalls Try.prog 95 [I p, .ptr a o] A (B (!decide (inP n p))) A := by
  refine acalls hmix Try.func95 (by kernel_rfl) t95 2 rfl (by decide) ?_
  by_cases h1 : p < 0
  · dsimp only [m95]
    simp (maxSteps := 4000000) -implicitDefEqProofs -dsimp (disch := omega) only [↓AW_ops, ↓AW_seq, ↓AW_ret, ↓AOps_nil, ↓AOps_pu, ↓AOps_guard, on_some, guardB_tf, skipS_some, ↓then_normal, ↓Fin_ret, pval, rd_S, rd_C, put_S, resV, resL, eq_self, List.replicate_succ, List.replicate_zero, List.set_cons_zero, List.set_cons_succ, List.getElem?_cons_zero, List.getElem?_cons_succ, Option.getD_some, Nat.reduceSub, List.cons_append, List.nil_append, bin_lss, if_true, decide_true, h1]
    exact gc_same (by rw [decide_eq_false (fun h2 : inP n p => by have := h2.1; omega)]; rfl)
  · dsimp only [m95]
    simp (maxSteps := 4000000) -implicitDefEqProofs -dsimp (disch := omega) only [↓AW_ops, ↓AW_seq, ↓AW_ret, ↓AOps_nil, ↓AOps_pu, ↓AOps_ld, ↓AOps_guard, on_some, guardB_ff, ↓then_normal, ↓Fin_ret, pval, lval, rd_S, rd_C, put_S, resV, resL, List.replicate_succ, List.replicate_zero, List.set_cons_zero, List.set_cons_succ, List.getElem?_cons_zero, List.getElem?_cons_succ, Option.getD_some, Nat.reduceSub, List.cons_append, List.nil_append, bin_lss, bin_geq, if_false, Bool.false_eq_true, decide_false, h1, h]
    refine gc_same ?_
    have : inP n p ↔ ¬ n ≤ p := by unfold inP; omega
    congr 1
    rw [Bool.eq_iff_iff]
    simp [this]
theorem s73 {xs : List Int} {v : AV} {A : AHeap} (hx : L1 A v xs) (hl : xs.length ≤ 1000000) (n : Int) : ACalls Try.prog 73 [v, I n] A (B (decide (∀ p ∈ xs, inP n p))) A := by
  refine acalls hmix Try.func73 (by kernel_rfl) t73 2 rfl (by decide) ?_
  dsimp only [m73]
  simp (maxSteps := 4000000) -implicitDefEqProofs -dsimp (disch := omega) only [↓AW_ops, ↓AW_seq, ↓AOps_nil, ↓AOps_pu, ↓AOps_ha, ↓AOps_call, on_some, extK_app, ↓then_normal, pval, hval, rd_S, rd_C, put_S, AV.cells?, List.replicate_succ, List.replicate_zero, List.set_cons_zero, List.set_cons_succ, List.getElem?_cons_zero, List.getElem?_cons_succ, Option.getD_some, map_c, map_n, Nat.reduceSub, List.cons_append, List.nil_append]
  refine CallK.of (c_ContainsFunc (hx.mono (pre_app A [.cells true [I n]])) hl 95 [.ptr A.length 0] (fun p => !decide (inP n p)) (fun x _ => s95 (ld_new A _ _))) ?_
  simp (maxSteps := 4000000) -implicitDefEqProofs -dsimp (disch := omega) only [↓AW_ret, ↓AOps_nil, ↓AOps_pu, on_some, extK_same, ↓then_normal, ↓Fin_ret, pval, rd_S, put_S, resV, resL, List.replicate_succ, List.replicate_zero, List.set_cons_zero, List.set_cons_succ, List.getElem?_cons_zero, List.getElem?_cons_succ, Option.getD_some, Nat.reduceSub, List.cons_append, List.nil_append]
  refine gc_val (pre_app _ _) ?_
  simp only [ren]
  congr 1
  rw [Bool.eq_iff_iff]
  simp
/-- The error of a list of places. -/
def lE (P : Int) (l : List Int) : Int := if ∀ p ∈ l, inP P p then (if l.Nodup then 0 else 6) else 1
def lsE (P : Int) : List (List Int) → Int
  | [] => 0
  | l :: r => if lE P l = 0 then lsE P r else lE P l
/-- The error of wishes. -/
def vW (P : Int) (ls : List (List Int)) : Int := if ¬ (1 ≤ P ∧ P ≤ 7) then 1 else if 7 < ls.length then 3 else lsE P ls
theorem lsE_append (P : Int) : ∀ (a b : List (List Int)), lsE P (a ++ b) = if lsE P a = 0 then lsE P b else lsE P a
  | [], b => by simp [lsE]
  | l :: a, b => by
    by_cases h : lE P l = 0 <;> simp [lsE, h, lsE_append P a b]
theorem lsE_ok {P : Int} {ls : List (List Int)} {i : Nat} {l : List Int} (hl : ls[i]? = some l) (h : lsE P (ls.take i) = 0) (h2 : lE P l = 0) : lsE P (ls.take (i + 1)) = 0 := by
  rw [List.take_add_one, hl, lsE_append, if_pos h]
  simp [lsE, h2]
theorem lsE_bad {P : Int} {ls : List (List Int)} {i : Nat} {l : List Int} (hl : ls[i]? = some l) (h : lsE P (ls.take i) = 0) (h2 : lE P l ≠ 0) : lsE P ls = lE P l := by
  have hi : i < ls.length := (List.getElem?_eq_some_iff.1 hl).1
  have e : ls = ls.take i ++ l :: ls.drop (i + 1) := by
    have := (List.getElem?_eq_some_iff.1 hl).2
    rw [← this, List.getElem_cons_drop, List.take_append_drop]
  rw [e, lsE_append, if_pos h]
  simp [lsE, h2]
theorem ws_get {ws : List (AV × List Int)} {i : Nat} {x : AV × List Int} (hz : ws[i]? = some x) : (lists ws)[i]? = some x.2 := by
  rw [List.getElem?_map, hz]; rfl
theorem nodup_take {α : Type} {l : List α} {k : Nat} {p : α} (hp : l[k]? = some p) (h : (l.take k).Nodup) (hn : p ∉ l.take k) : (l.take (k + 1)).Nodup := by
  rw [List.take_add_one, hp, Option.toList_some, List.nodup_append]
  refine ⟨h, by simp, fun a ha b hb => ?_⟩
  have : b = p := by simpa using hb
  subst this
  rintro rfl
  exact hn ha
theorem not_nodup {α : Type} {l : List α} {k : Nat} {p : α} (hp : l[k]? = some p) (hn : p ∈ l.take k) : ¬ l.Nodup := by
  intro h
  have hi : k < l.length := (List.getElem?_eq_some_iff.1 hp).1
  have e : l = l.take k ++ p :: l.drop (k + 1) := by
    have := (List.getElem?_eq_some_iff.1 hp).2
    rw [← this, List.getElem_cons_drop, List.take_append_drop]
  rw [e, List.nodup_append] at h
  exact h.2.2 p hn p (by simp) rfl
theorem vW_P {P : Int} {ls : List (List Int)} (h : ¬ (1 ≤ P ∧ P ≤ 7)) : vW P ls = 1 := by unfold vW; rw [if_pos h]
theorem vW_n {P : Int} {ls : List (List Int)} (h : 1 ≤ P ∧ P ≤ 7) (h2 : 7 < ls.length) : vW P ls = 3 := by unfold vW; rw [if_neg (by omega), if_pos h2]
theorem vW_l {P : Int} {ls : List (List Int)} (h : 1 ≤ P ∧ P ≤ 7) (h2 : ¬ 7 < ls.length) : vW P ls = lsE P ls := by unfold vW; rw [if_neg (by omega), if_neg h2]
theorem s39 {P : Int} {ws : List (AV × List Int)} {v : AV} {A : AHeap} (hw : LL A v ws) (hs : Sz ws) : ACalls Try.prog 39 [.agg [I P, v]] A (I (vW P (lists ws))) A := by
  refine acalls hmix Try.func39 (by kernel_rfl) t39 1 rfl (by decide) ?_
  obtain ⟨hs1, hs2⟩ := hs
  by_cases h1 : P < 1
  · dsimp only [m39]
    simp (maxSteps := 4000000) -implicitDefEqProofs -dsimp (disch := omega) only [↓AW_ops, ↓AW_seq, ↓AW_cond, ↓AW_ret, ↓AOps_nil, ↓AOps_pu, ↓AOps_guard, on_some, guardB_tf, skipS_some, condB_t, ↓then_normal, ↓then_ret, ↓Fin_ret, pval, rd_S, rd_C, put_S, resV, resL, chkd, isAdr, bgot, AV.cells?, partA, eq_self, List.replicate_succ, List.replicate_zero, List.set_cons_zero, List.set_cons_succ, List.getElem?_cons_zero, List.getElem?_cons_succ, List.drop_zero, List.take_zero, List.take_succ_cons, Option.getD_some, List.length_cons, List.length_nil, Nat.reduceAdd, Nat.reduceSub, Nat.reduceLeDiff, Nat.zero_add, List.cons_append, List.nil_append, bin_lss, if_true, if_false, Bool.false_eq_true, decide_true, h1]
    exact gc_same (by rw [vW_P (by omega)])
  · by_cases h2 : 7 < P
    · dsimp only [m39]
      simp (maxSteps := 4000000) -implicitDefEqProofs -dsimp (disch := omega) only [↓AW_ops, ↓AW_seq, ↓AW_cond, ↓AW_ret, ↓AOps_nil, ↓AOps_pu, ↓AOps_guard, on_some, guardB_ff, condB_t, ↓then_normal, ↓then_ret, ↓Fin_ret, pval, rd_S, rd_C, put_S, resV, resL, chkd, isAdr, bgot, AV.cells?, partA, eq_self, List.replicate_succ, List.replicate_zero, List.set_cons_zero, List.set_cons_succ, List.getElem?_cons_zero, List.getElem?_cons_succ, List.drop_zero, List.take_zero, List.take_succ_cons, Option.getD_some, List.length_cons, List.length_nil, Nat.reduceAdd, Nat.reduceSub, Nat.reduceLeDiff, Nat.zero_add, List.cons_append, List.nil_append, bin_lss, bin_gtr, if_true, if_false, Bool.false_eq_true, decide_true, decide_false, h1, h2]
      exact gc_same (by rw [vW_P (by omega)])
    · by_cases h3 : (7 : Int) < ws.length
      · dsimp only [m39]
        simp (maxSteps := 4000000) -implicitDefEqProofs -dsimp (disch := omega) only [↓AW_skip, ↓AW_ops, ↓AW_seq, ↓AW_cond, ↓AW_ret, ↓AOps_nil, ↓AOps_pu, ↓AOps_guard, on_some, guardB_ff, condB_t, condB_f, ↓then_normal, ↓then_ret, ↓Fin_ret, pval, rd_S, rd_C, put_S, resV, resL, chkd, isAdr, bgot, AV.cells?, partA, eq_self, List.replicate_succ, List.replicate_zero, List.set_cons_zero, List.set_cons_succ, List.getElem?_cons_zero, List.getElem?_cons_succ, List.drop_zero, List.drop_succ_cons, List.take_zero, List.take_succ_cons, List.take_nil, Option.getD_some, List.length_cons, List.length_nil, Nat.reduceAdd, Nat.reduceSub, Nat.reduceLeDiff, Nat.zero_add, List.cons_append, List.nil_append, bin_lss, bin_gtr, if_true, if_false, Bool.false_eq_true, decide_true, decide_false, h1, h2, h3, hw.ls.len]
        exact gc_same (by rw [vW_n (by omega) (by simp; omega)])
      · dsimp only [m39]
        simp (maxSteps := 4000000) -implicitDefEqProofs -dsimp (disch := omega) only [↓AW_skip, ↓AW_ops, ↓AW_seq, ↓AW_cond, ↓AW_block, ↓AOps_nil, ↓AOps_pu, ↓AOps_guard, on_some, guardB_ff, condB_f, ↓then_normal, pval, rd_S, rd_C, put_S, ↓AW_toLoop, chkd, isAdr, bgot, AV.cells?, partA, eq_self, List.replicate_succ, List.replicate_zero, List.set_cons_zero, List.set_cons_succ, List.getElem?_cons_zero, List.getElem?_cons_succ, List.drop_zero, List.drop_succ_cons, List.take_zero, List.take_succ_cons, List.take_nil, Option.getD_some, List.length_cons, List.length_nil, Nat.reduceAdd, Nat.reduceSub, Nat.reduceLeDiff, Nat.zero_add, List.cons_append, List.nil_append, bin_lss, bin_gtr, if_true, if_false, Bool.false_eq_true, decide_false, h1, h2, h3, hw.ls.len]
        rw [vW_l (by omega) (by simp; omega)]
        refine LoopK.by 45 (fun i : Nat => i ≤ ws.length ∧ lsE P ((lists ws).take i) = 0) (fun i => [(1, .agg [I P, v]), (20, v), (21, I ws.length), (22, I i)]) (fun _ => A) (fun i => ws.length - i) 0 ⟨by omega, rfl⟩ rfl (by simp [Has, rd_s]) rfl ?_
        rintro i ⟨hi, he⟩
        by_cases hlt : i < ws.length
        · obtain ⟨x, hz⟩ : ∃ z, ws[i]? = some z := ⟨_, List.getElem?_eq_getElem hlt⟩
          have hlt' : (i : Int) < ws.length := by omega
          have hm := List.mem_of_getElem? hz
          have hx := hw.inn x hm
          have hx2 := hs2 x hm
          simp (maxSteps := 4000000) -implicitDefEqProofs -dsimp (disch := omega) only [↓AW_skip, ↓AW_ops, ↓AW_seq, ↓AW_cond, ↓AW_block, ↓AOps_nil, ↓AOps_pu, ↓AOps_ld, ↓AOps_call, on_some, condB_t, ↓then_normal, pval, lval, rd_S, put_S, chkd, isAdr, bgot, AV.cells?, partA, eq_self, mk, List.foldl_cons, List.foldl_nil, List.replicate_succ, List.replicate_zero, List.set_cons_zero, List.set_cons_succ, List.getElem?_cons_zero, List.getElem?_cons_succ, List.drop_zero, List.take_zero, List.take_succ_cons, List.take_nil, Option.getD_some, map_c, map_n, List.length_cons, List.length_nil, Nat.reduceAdd, Nat.reduceLeDiff, Nat.zero_add, bin_lss, if_true, if_false, Bool.false_eq_true, decide_true, hlt', hw.ls.idx hlt, hw.ls.ld0 hz 1 false (by decide), e0]
          refine CallK.of (s73 hx (by omega) P) ?_
          by_cases hp : ∀ p ∈ x.2, inP P p
          · rw [decide_eq_true hp]
            simp (maxSteps := 4000000) -implicitDefEqProofs -dsimp (disch := omega) only [↓AW_skip, ↓AW_ops, ↓AW_seq, ↓AW_cond, ↓AW_block, ↓AOps_nil, ↓AOps_pu, on_some, extK_same, condB_f, ↓then_normal, pval, rd_S, rd_C, put_S, ↓AW_toLoop, mk, List.foldl_cons, List.foldl_nil, List.replicate_succ, List.replicate_zero, List.set_cons_zero, List.set_cons_succ, List.getElem?_cons_zero, List.getElem?_cons_succ, Option.getD_some, Bool.not_true, hx.len]
            refine LoopK.by 45 (fun k : Nat => k ≤ x.2.length ∧ (x.2.take k).Nodup) (fun k => [(1, .agg [I P, v]), (4, x.1), (20, v), (21, I ws.length), (22, I i), (31, x.1), (32, I x.2.length), (33, I k)]) (fun _ => A) (fun k => x.2.length - k) 0 ⟨by omega, by simp⟩ rfl (by simp [Has, rd_s]) rfl ?_
            rintro k ⟨hk, hnd⟩
            by_cases hltk : k < x.2.length
            · obtain ⟨p, hzp⟩ : ∃ p, x.2[k]? = some p := ⟨_, List.getElem?_eq_getElem hltk⟩
              have hltk' : (k : Int) < x.2.length := by omega
              obtain ⟨v', hv', hL⟩ := Ls_takeS hx k (by omega)
              simp (maxSteps := 4000000) -implicitDefEqProofs -dsimp (disch := omega) only [↓AW_skip, ↓AW_ops, ↓AW_seq, ↓AW_cond, ↓AW_block, ↓AOps_nil, ↓AOps_pu, ↓AOps_ld, ↓AOps_call, on_some, condB_t, ↓then_normal, pval, lval, rd_S, put_S, partA, eq_self, mk, List.foldl_cons, List.foldl_nil, List.replicate_succ, List.replicate_zero, List.set_cons_zero, List.set_cons_succ, List.getElem?_cons_zero, List.getElem?_cons_succ, List.drop_zero, List.take_succ_cons, List.take_nil, Option.getD_some, Option.map_some, Option.map_none, map_c, map_n, List.length_cons, List.length_nil, Nat.reduceLeDiff, Nat.zero_add, bin_lss, if_true, if_false, Bool.false_eq_true, decide_true, Go.Eng.e1, hltk', hx.idx hltk, hx.ld0 hzp 1 false (by decide), hv']
              refine CallK.of (c_Contains hL (by rw [List.length_take]; omega) p) ?_
              by_cases hc : p ∈ x.2.take k
              · simp (maxSteps := 4000000) -implicitDefEqProofs -dsimp (disch := omega) only [↓AW_ops, ↓AW_seq, ↓AW_cond, ↓AW_ret, ↓AOps_nil, ↓AOps_pu, on_some, extK_same, condB_t, ↓then_normal, ↓then_ret, ↓inBlock_ret, ↓Fin_ret, pval, rd_S, rd_C, put_S, resV, resL, mk, List.foldl_cons, List.foldl_nil, List.replicate_succ, List.replicate_zero, List.set_cons_zero, List.set_cons_succ, List.getElem?_cons_zero, List.getElem?_cons_succ, Option.getD_some, decide_true, hc]
                have hb : lE P x.2 = 6 := by unfold lE; rw [if_pos hp, if_neg (not_nodup hzp hc)]
                exact gc_same (by rw [lsE_bad (ws_get hz) he (by rw [hb]; decide), hb])
              · simp (maxSteps := 4000000) -implicitDefEqProofs -dsimp (disch := omega) only [↓AW_skip, ↓AW_ops, ↓AW_cond, ↓AOps_nil, ↓AOps_pu, on_some, extK_same, condB_f, ↓then_normal, ↓inBlock_normal, pval, rd_S, rd_C, put_S, eq_self, mk, List.foldl_cons, List.foldl_nil, List.replicate_succ, List.replicate_zero, List.set_cons_zero, List.set_cons_succ, List.getElem?_cons_zero, List.getElem?_cons_succ, Option.getD_some, List.length_cons, List.length_nil, Nat.reduceAdd, Nat.zero_add, bin_add, w64, decide_false, true_and, hc]
                exact ⟨k + 1, ⟨hltk, nodup_take hzp hnd hc⟩, by simp [Has, rd_s], by omega⟩
            · have hltk' : ¬ ((k : Int) < x.2.length) := by omega
              rw [List.take_of_length_le (by omega)] at hnd
              simp (maxSteps := 4000000) -implicitDefEqProofs -dsimp (disch := omega) only [↓AW_ops, ↓AW_seq, ↓AW_cond, ↓AW_exit, ↓AW_ret, ↓AOps_nil, ↓AOps_pu, on_some, condB_f, ↓then_normal, ↓then_exit, ↓inBlock_normal, ↓inBlock_exit, ↓Fin_ret, pval, rd_S, rd_C, put_S, resV, resL, eq_self, mk, List.foldl_cons, List.foldl_nil, List.replicate_succ, List.replicate_zero, List.set_cons_zero, List.set_cons_succ, List.getElem?_cons_zero, List.getElem?_cons_succ, Option.getD_some, List.length_cons, List.length_nil, Nat.reduceAdd, Nat.reduceEqDiff, Nat.zero_add, bin_add, bin_lss, w64, if_true, if_false, decide_false, true_and, reduceCtorEq, hltk']
              exact ⟨i + 1, ⟨hlt, lsE_ok (ws_get hz) he (by unfold lE; rw [if_pos hp, if_pos hnd])⟩, by simp [Has, rd_s], by omega⟩
          · rw [decide_eq_false hp]
            simp (maxSteps := 4000000) -implicitDefEqProofs -dsimp (disch := omega) only [↓AW_ops, ↓AW_seq, ↓AW_cond, ↓AW_ret, ↓AOps_nil, ↓AOps_pu, on_some, extK_same, condB_t, ↓then_normal, ↓then_ret, ↓inBlock_ret, ↓Fin_ret, pval, rd_S, rd_C, put_S, resV, resL, mk, List.foldl_cons, List.foldl_nil, List.replicate_succ, List.replicate_zero, List.set_cons_zero, List.set_cons_succ, List.getElem?_cons_zero, List.getElem?_cons_succ, Option.getD_some, Bool.not_false]
            have hb : lE P x.2 = 1 := by unfold lE; rw [if_neg hp]
            exact gc_same (by rw [lsE_bad (ws_get hz) he (by rw [hb]; decide), hb])
        · have hlt' : ¬ ((i : Int) < ws.length) := by omega
          simp (maxSteps := 4000000) -implicitDefEqProofs -dsimp (disch := omega) only [↓AW_ops, ↓AW_seq, ↓AW_cond, ↓AW_exit, ↓AW_ret, ↓AOps_nil, ↓AOps_pu, on_some, condB_f, ↓then_normal, ↓then_exit, ↓inBlock_exit, ↓Fin_ret, pval, rd_S, rd_C, put_S, resV, resL, eq_self, mk, List.foldl_cons, List.foldl_nil, List.replicate_succ, List.replicate_zero, List.set_cons_zero, List.set_cons_succ, List.getElem?_cons_zero, List.getElem?_cons_succ, Option.getD_some, bin_lss, if_true, decide_false, hlt']
          rw [List.take_of_length_le (by simp; omega)] at he
          exact gc_same (by rw [he])
theorem s64 (n lo hi : Int) (A : AHeap) : ACalls Try.prog 64 [I n, I lo, I hi] A (B (decide (lo ≤ n ∧ n ≤ hi))) A := by
  refine acalls hmix Try.func64 (by kernel_rfl) t64 3 rfl (by decide) ?_
  by_cases h : lo ≤ n
  · dsimp only [m64]
    simp (maxSteps := 4000000) -implicitDefEqProofs -dsimp (disch := omega) only [↓AW_ops, ↓AW_seq, ↓AW_ret, ↓AOps_nil, ↓AOps_pu, ↓AOps_guard, on_some, guardB_tt, ↓then_normal, ↓Fin_ret, pval, rd_S, rd_C, put_S, resV, resL, eq_self, List.replicate_succ, List.replicate_zero, List.set_cons_zero, List.set_cons_succ, List.getElem?_cons_zero, List.getElem?_cons_succ, Option.getD_some, Nat.reduceSub, List.cons_append, List.nil_append, bin_leq, bin_geq, if_true, decide_true, true_and, h]
    exact gc_same rfl
  · dsimp only [m64]
    simp (maxSteps := 4000000) -implicitDefEqProofs -dsimp (disch := omega) only [↓AW_ops, ↓AW_seq, ↓AW_ret, ↓AOps_nil, ↓AOps_pu, ↓AOps_guard, on_some, guardB_ft, skipS_some, ↓then_normal, ↓Fin_ret, pval, rd_S, rd_C, put_S, resV, resL, List.replicate_succ, List.replicate_zero, List.set_cons_zero, List.set_cons_succ, List.getElem?_cons_zero, List.getElem?_cons_succ, Option.getD_some, Nat.reduceSub, List.cons_append, List.nil_append, bin_geq, if_false, Bool.false_eq_true, decide_false, h]
    exact gc_same rfl
theorem s65 {xs : List Int} {v : AV} {A : AHeap} (hx : L1 A v xs) (hl : xs.length ≤ 1000000) (p : Int) : ACalls Try.prog 65 [v, I p] A (B (decide (p ∈ xs))) A := by
  refine acalls hmix Try.func65 (by kernel_rfl) t65 2 rfl (by decide) ?_
  dsimp only [m65]
  simp (maxSteps := 4000000) -implicitDefEqProofs -dsimp (disch := omega) only [↓AW_ops, ↓AW_seq, ↓AW_block, ↓AOps_nil, ↓AOps_pu, on_some, ↓then_normal, pval, rd_C, put_S, ↓AW_toLoop, List.replicate_succ, List.replicate_zero, List.set_cons_zero, List.set_cons_succ, Nat.reduceSub, List.cons_append, List.nil_append]
  refine LoopK.by 18 (fun i : Nat => i ≤ xs.length ∧ p ∉ xs.take i) (fun i => [(0, v), (1, I p), (5, I i)]) (fun _ => A) (fun i => xs.length - i) 0 ⟨by omega, by simp⟩ rfl (by simp [Has, rd_s]) rfl ?_
  rintro i ⟨hi, he⟩
  by_cases hlt : i < xs.length
  · obtain ⟨z, hz⟩ : ∃ z, xs[i]? = some z := ⟨_, List.getElem?_eq_getElem hlt⟩
    have hlt' : (i : Int) < xs.length := by omega
    by_cases h : z = p
    · simp (maxSteps := 4000000) -implicitDefEqProofs -dsimp (disch := omega) only [↓AW_skip, ↓AW_ops, ↓AW_seq, ↓AW_cond, ↓AW_block, ↓AW_ret, ↓AOps_nil, ↓AOps_pu, ↓AOps_ld, on_some, condB_t, ↓then_normal, ↓then_ret, ↓inBlock_ret, ↓Fin_ret, pval, lval, rd_S, rd_C, put_S, resV, resL, partA, eq_self, mk, List.foldl_cons, List.foldl_nil, List.replicate_succ, List.replicate_zero, List.set_cons_zero, List.set_cons_succ, List.getElem?_cons_zero, List.getElem?_cons_succ, List.drop_zero, List.take_succ_cons, List.take_nil, Option.getD_some, List.length_cons, List.length_nil, Nat.reduceLeDiff, Nat.zero_add, bin_eql, bin_lss, if_true, if_false, Bool.false_eq_true, decide_true, Go.Eng.e1, hlt', hx.len, hx.idx hlt, hx.ld0 hz 1 false (by decide), h]
      exact gc_same (by rw [decide_eq_true (h ▸ List.mem_of_getElem? hz)])
    · simp (maxSteps := 4000000) -implicitDefEqProofs -dsimp (disch := omega) only [↓AW_skip, ↓AW_ops, ↓AW_seq, ↓AW_cond, ↓AW_block, ↓AOps_nil, ↓AOps_pu, ↓AOps_ld, on_some, condB_t, condB_f, ↓then_normal, ↓inBlock_normal, pval, lval, rd_S, rd_C, put_S, partA, eq_self, mk, List.foldl_cons, List.foldl_nil, List.replicate_succ, List.replicate_zero, List.set_cons_zero, List.set_cons_succ, List.getElem?_cons_zero, List.getElem?_cons_succ, List.drop_zero, List.take_succ_cons, List.take_nil, Option.getD_some, List.length_cons, List.length_nil, Nat.reduceAdd, Nat.reduceLeDiff, Nat.zero_add, bin_add, bin_eql, bin_lss, w64, if_true, if_false, Bool.false_eq_true, decide_true, decide_false, Go.Eng.e1, true_and, hlt', hx.len, hx.idx hlt, hx.ld0 hz 1 false (by decide), h]
      refine ⟨i + 1, ⟨hlt, fun hy => ?_⟩, by simp [Has, rd_s], by omega⟩
      rw [List.take_add_one, hz] at hy
      rcases List.mem_append.1 hy with hy | hy
      · exact he hy
      · have : p = z := by simpa using hy
        exact h this.symm
  · have hlt' : ¬ ((i : Int) < xs.length) := by omega
    simp (maxSteps := 4000000) -implicitDefEqProofs -dsimp (disch := omega) only [↓AW_ops, ↓AW_seq, ↓AW_cond, ↓AW_exit, ↓AW_ret, ↓AOps_nil, ↓AOps_pu, on_some, condB_f, ↓then_normal, ↓then_exit, ↓inBlock_exit, ↓Fin_ret, pval, rd_S, rd_C, put_S, resV, resL, eq_self, mk, List.foldl_cons, List.foldl_nil, List.replicate_succ, List.replicate_zero, List.set_cons_zero, List.set_cons_succ, List.getElem?_cons_zero, List.getElem?_cons_succ, Option.getD_some, bin_lss, if_true, decide_false, hlt', hx.len]
    rw [List.take_of_length_le (by omega)] at he
    exact gc_same (by rw [decide_eq_false he])
end Go.Proofs.Ytlmbobbefgcolaa

namespace Go.Proofs.Ytlmbobbefgcolaa
open Go Go.Eng
theorem all_take {α : Type} {p : α → Prop} {l : List α} {i : Nat} {z : α} (h : ∀ y ∈ l.take i, p y) (hz : l[i]? = some z) (hp : p z) : ∀ y ∈ l.take (i + 1), p y := by
  intro y hy
  rw [List.take_add_one, hz] at hy
  rcases List.mem_append.1 hy with hy | hy
  · exact h y hy
  · have : y = z := by simpa using hy
    rw [this]; exact hp
theorem s40 {P : Int} {ws : List (AV × List Int)} {v : AV} {A : AHeap} (hw : LL A v ws) (hs : Sz ws) : ACalls Try.prog 40 [.agg [I P, v]] A (I (vW P (lists ws))) A := by
  refine acalls hmix Try.func40 (by kernel_rfl) t40 1 rfl (by decide) ?_
  obtain ⟨hs1, hs2⟩ := hs
  dsimp only [m40]
  simp (maxSteps := 4000000) -implicitDefEqProofs -dsimp (disch := omega) only [↓AW_ops, ↓AW_seq, ↓AOps_nil, ↓AOps_pu, ↓AOps_call, on_some, ↓then_normal, pval, rd_S, rd_C, put_S, chkd, isAdr, bgot, AV.cells?, partA, eq_self, List.replicate_succ, List.replicate_zero, List.set_cons_zero, List.set_cons_succ, List.getElem?_cons_zero, List.getElem?_cons_succ, List.drop_zero, List.take_zero, List.take_succ_cons, Option.getD_some, map_c, map_n, List.length_cons, List.length_nil, Nat.reduceAdd, Nat.reduceSub, Nat.reduceLeDiff, Nat.zero_add, List.cons_append, List.nil_append, if_true, if_false, Bool.false_eq_true]
  refine CallK.of (s64 _ _ _ _) ?_
  by_cases h1 : 1 ≤ P ∧ P ≤ 7
  · simp (maxSteps := 4000000) -implicitDefEqProofs -dsimp (disch := omega) only [↓AW_skip, ↓AW_ops, ↓AW_seq, ↓AW_cond, ↓AOps_nil, ↓AOps_pu, on_some, extK_same, condB_f, ↓then_normal, pval, rd_S, rd_C, put_S, chkd, isAdr, bgot, AV.cells?, partA, eq_self, List.replicate_succ, List.replicate_zero, List.set_cons_zero, List.set_cons_succ, List.getElem?_cons_zero, List.getElem?_cons_succ, List.drop_zero, List.drop_succ_cons, List.take_succ_cons, List.take_nil, Option.getD_some, List.length_cons, List.length_nil, Nat.reduceAdd, Nat.reduceSub, Nat.reduceLeDiff, Nat.zero_add, List.cons_append, List.nil_append, bin_gtr, if_true, if_false, Bool.false_eq_true, Bool.not_true, decide_true, and_true, h1, hw.ls.len]
    by_cases h3 : (7 : Int) < ws.length
    · simp (maxSteps := 4000000) -implicitDefEqProofs -dsimp (disch := omega) only [↓AW_ops, ↓AW_seq, ↓AW_ret, ↓AOps_nil, ↓AOps_pu, on_some, condB_t, ↓then_normal, ↓then_ret, ↓Fin_ret, pval, rd_S, rd_C, put_S, resV, resL, List.replicate_succ, List.replicate_zero, List.set_cons_zero, List.set_cons_succ, List.getElem?_cons_zero, List.getElem?_cons_succ, Option.getD_some, Nat.reduceSub, List.cons_append, List.nil_append, decide_true, h3]
      exact gc_same (by rw [vW_n h1 (by simp; omega)])
    · simp (maxSteps := 4000000) -implicitDefEqProofs -dsimp (disch := omega) only [↓AW_skip, ↓AW_ops, ↓AW_seq, ↓AW_block, ↓AOps_nil, ↓AOps_pu, on_some, condB_f, ↓then_normal, pval, rd_C, put_S, ↓AW_toLoop, List.replicate_succ, List.replicate_zero, List.set_cons_zero, List.set_cons_succ, Nat.reduceSub, List.cons_append, List.nil_append, decide_false, h3]
      rw [vW_l h1 (by simp; omega)]
      refine LoopK.by 70 (fun i : Nat => i ≤ ws.length ∧ lsE P ((lists ws).take i) = 0) (fun i => [(1, .agg [I P, v]), (3, I i)]) (fun _ => A) (fun i => ws.length - i) 0 ⟨by omega, rfl⟩ rfl (by simp [Has, rd_s]) rfl ?_
      rintro i ⟨hi, he⟩
      by_cases hlt : i < ws.length
      · obtain ⟨x, hz⟩ : ∃ z, ws[i]? = some z := ⟨_, List.getElem?_eq_getElem hlt⟩
        have hlt' : (i : Int) < ws.length := by omega
        have hm := List.mem_of_getElem? hz
        have hx := hw.inn x hm
        have hx2 := hs2 x hm
        simp (maxSteps := 4000000) -implicitDefEqProofs -dsimp (disch := omega) only [↓AW_skip, ↓AW_ops, ↓AW_seq, ↓AW_cond, ↓AW_block, ↓AOps_nil, ↓AOps_pu, on_some, condB_t, ↓then_normal, pval, rd_S, rd_C, put_S, ↓AW_toLoop, chkd, isAdr, bgot, AV.cells?, partA, eq_self, mk, List.foldl_cons, List.foldl_nil, List.replicate_succ, List.replicate_zero, List.set_cons_zero, List.set_cons_succ, List.getElem?_cons_zero, List.getElem?_cons_succ, List.drop_zero, List.drop_succ_cons, List.take_succ_cons, List.take_nil, Option.getD_some, List.length_cons, List.length_nil, Nat.reduceAdd, Nat.reduceLeDiff, Nat.zero_add, bin_lss, if_true, if_false, Bool.false_eq_true, decide_true, hlt', hw.ls.len]
        refine LoopK.by 70 (fun k : Nat => k ≤ x.2.length ∧ ∀ p ∈ x.2.take k, inP P p) (fun k => [(1, .agg [I P, v]), (3, I i), (4, I k)]) (fun _ => A) (fun k => x.2.length - k) 0 ⟨by omega, by simp⟩ rfl (by simp [Has, rd_s]) rfl ?_
        rintro k ⟨hk, hnd⟩
        by_cases hltk : k < x.2.length
        · obtain ⟨p, hzp⟩ : ∃ p, x.2[k]? = some p := ⟨_, List.getElem?_eq_getElem hltk⟩
          have hltk' : (k : Int) < x.2.length := by omega
          simp (maxSteps := 4000000) -implicitDefEqProofs -dsimp (disch := omega) only [↓AW_skip, ↓AW_ops, ↓AW_seq, ↓AW_cond, ↓AW_block, ↓AOps_nil, ↓AOps_pu, ↓AOps_ld, ↓AOps_call, on_some, condB_t, ↓then_normal, pval, lval, rd_S, rd_C, put_S, chkd, isAdr, bgot, AV.cells?, partA, eq_self, mk, List.foldl_cons, List.foldl_nil, List.replicate_succ, List.replicate_zero, List.set_cons_zero, List.set_cons_succ, List.getElem?_cons_zero, List.getElem?_cons_succ, List.drop_zero, List.drop_succ_cons, List.take_zero, List.take_succ_cons, List.take_nil, Option.getD_some, map_c, map_n, List.length_cons, List.length_nil, Nat.reduceAdd, Nat.reduceLeDiff, Nat.zero_add, bin_sub, bin_lss, w64, if_true, if_false, Bool.false_eq_true, decide_true, Go.Eng.e1, hltk', hw.ls.idx hlt, hw.ls.ld0 hz 1 false (by decide), e0, hx.len, hx.idx hltk, hx.ld0 hzp 1 false (by decide)]
          refine CallK.of (s64 _ _ _ _) ?_
          by_cases hc : 0 ≤ p ∧ p ≤ P - 1
          · simp (maxSteps := 4000000) -implicitDefEqProofs -dsimp (disch := omega) only [↓AW_skip, ↓AW_ops, ↓AW_cond, ↓AOps_nil, ↓AOps_pu, on_some, extK_same, condB_f, ↓then_normal, ↓inBlock_normal, pval, rd_S, rd_C, put_S, eq_self, mk, List.foldl_cons, List.foldl_nil, List.replicate_succ, List.replicate_zero, List.set_cons_zero, List.set_cons_succ, List.getElem?_cons_zero, List.getElem?_cons_succ, Option.getD_some, List.length_cons, List.length_nil, Nat.reduceAdd, Nat.zero_add, bin_add, w64, Bool.not_true, decide_true, true_and, and_true, hc]
            exact ⟨k + 1, ⟨hltk, all_take hnd hzp ⟨by omega, by omega⟩⟩, by simp [Has, rd_s], by omega⟩
          · simp (maxSteps := 4000000) -implicitDefEqProofs -dsimp (disch := omega) only [↓AW_ops, ↓AW_seq, ↓AW_cond, ↓AW_ret, ↓AOps_nil, ↓AOps_pu, on_some, extK_same, condB_t, ↓then_normal, ↓then_ret, ↓inBlock_ret, ↓Fin_ret, pval, rd_S, rd_C, put_S, resV, resL, mk, List.foldl_cons, List.foldl_nil, List.replicate_succ, List.replicate_zero, List.set_cons_zero, List.set_cons_succ, List.getElem?_cons_zero, List.getElem?_cons_succ, Option.getD_some, Bool.not_false, decide_false, hc]
            have hb : lE P x.2 = 1 := by
              unfold lE; rw [if_neg]
              intro h
              have := h p (List.mem_of_getElem? hzp)
              exact hc ⟨this.1, by have := this.2; omega⟩
            exact gc_same (by rw [lsE_bad (ws_get hz) he (by rw [hb]; decide), hb])
        · have hltk' : ¬ ((k : Int) < x.2.length) := by omega
          rw [List.take_of_length_le (by omega)] at hnd
          simp (maxSteps := 4000000) -implicitDefEqProofs -dsimp (disch := omega) only [↓AW_ops, ↓AW_seq, ↓AW_cond, ↓AW_block, ↓AW_exit, ↓AW_ret, ↓AOps_nil, ↓AOps_pu, ↓AOps_ld, on_some, condB_f, ↓then_normal, ↓then_exit, ↓inBlock_exit, ↓Fin_ret, pval, lval, rd_S, rd_C, put_S, ↓AW_toLoop, resV, resL, chkd, isAdr, bgot, AV.cells?, partA, eq_self, mk, List.foldl_cons, List.foldl_nil, List.replicate_succ, List.replicate_zero, List.set_cons_zero, List.set_cons_succ, List.getElem?_cons_zero, List.getElem?_cons_succ, List.drop_zero, List.drop_succ_cons, List.take_succ_cons, List.take_nil, Option.getD_some, List.length_cons, List.length_nil, Nat.reduceAdd, Nat.reduceLeDiff, Nat.reduceEqDiff, Nat.zero_add, bin_add, bin_lss, w64, if_true, if_false, Bool.false_eq_true, decide_false, true_and, reduceCtorEq, hltk', hw.ls.idx hlt, hw.ls.ld0 hz 1 false (by decide), e0, hx.len]
          refine LoopK.by 70 (fun k : Nat => k ≤ x.2.length ∧ (x.2.take k).Nodup) (fun k => [(1, .agg [I P, v]), (3, I i), (5, I k)]) (fun _ => A) (fun k => x.2.length - k) 0 ⟨by omega, by simp⟩ rfl (by simp [Has, rd_s]) rfl ?_
          rintro k ⟨hk, hnd2⟩
          by_cases hltk : k < x.2.length
          · obtain ⟨p, hzp⟩ : ∃ p, x.2[k]? = some p := ⟨_, List.getElem?_eq_getElem hltk⟩
            have hltk' : (k : Int) < x.2.length := by omega
            obtain ⟨v', hv', hL⟩ := Ls_takeS hx k (by omega)
            simp (maxSteps := 4000000) -implicitDefEqProofs -dsimp (disch := omega) only [↓AW_skip, ↓AW_ops, ↓AW_seq, ↓AW_cond, ↓AW_block, ↓AOps_nil, ↓AOps_pu, ↓AOps_ld, ↓AOps_call, on_some, condB_t, ↓then_normal, pval, lval, rd_S, put_S, chkd, isAdr, bgot, AV.cells?, partA, eq_self, mk, List.foldl_cons, List.foldl_nil, List.replicate_succ, List.replicate_zero, List.set_cons_zero, List.set_cons_succ, List.getElem?_cons_zero, List.getElem?_cons_succ, List.drop_zero, List.drop_succ_cons, List.take_succ_cons, List.take_nil, Option.getD_some, Option.map_some, Option.map_none, map_c, map_n, List.length_cons, List.length_nil, Nat.reduceAdd, Nat.reduceLeDiff, Nat.zero_add, bin_lss, if_true, if_false, Bool.false_eq_true, decide_true, Go.Eng.e1, hltk', hw.ls.idx hlt, hw.ls.ld0 hz 1 false (by decide), e0, hx.len, hx.idx hltk, hx.ld0 hzp 1 false (by decide), hv']
            refine CallK.of (s65 hL (by rw [List.length_take]; omega) p) ?_
            by_cases hc : p ∈ x.2.take k
            · simp (maxSteps := 4000000) -implicitDefEqProofs -dsimp (disch := omega) only [↓AW_ops, ↓AW_seq, ↓AW_cond, ↓AW_ret, ↓AOps_nil, ↓AOps_pu, on_some, extK_same, condB_t, ↓then_normal, ↓then_ret, ↓inBlock_ret, ↓Fin_ret, pval, rd_S, rd_C, put_S, resV, resL, mk, List.foldl_cons, List.foldl_nil, List.replicate_succ, List.replicate_zero, List.set_cons_zero, List.set_cons_succ, List.getElem?_cons_zero, List.getElem?_cons_succ, Option.getD_some, decide_true, hc]
              have hb : lE P x.2 = 6 := by unfold lE; rw [if_pos hnd, if_neg (not_nodup hzp hc)]
              exact gc_same (by rw [lsE_bad (ws_get hz) he (by rw [hb]; decide), hb])
            · simp (maxSteps := 4000000) -implicitDefEqProofs -dsimp (disch := omega) only [↓AW_skip, ↓AW_ops, ↓AW_cond, ↓AOps_nil, ↓AOps_pu, on_some, extK_same, condB_f, ↓then_normal, ↓inBlock_normal, pval, rd_S, rd_C, put_S, eq_self, mk, List.foldl_cons, List.foldl_nil, List.replicate_succ, List.replicate_zero, List.set_cons_zero, List.set_cons_succ, List.getElem?_cons_zero, List.getElem?_cons_succ, Option.getD_some, List.length_cons, List.length_nil, Nat.reduceAdd, Nat.zero_add, bin_add, w64, decide_false, true_and, hc]
              exact ⟨k + 1, ⟨hltk, nodup_take hzp hnd2 hc⟩, by simp [Has, rd_s], by omega⟩
          · have hltk' : ¬ ((k : Int) < x.2.length) := by omega
            rw [List.take_of_length_le (by omega)] at hnd2
            simp (maxSteps := 4000000) -implicitDefEqProofs -dsimp (disch := omega) only [↓AW_ops, ↓AW_seq, ↓AW_cond, ↓AW_exit, ↓AW_ret, ↓AOps_nil, ↓AOps_pu, ↓AOps_ld, on_some, condB_f, ↓then_normal, ↓then_exit, ↓inBlock_normal, ↓inBlock_exit, ↓Fin_ret, pval, lval, rd_S, rd_C, put_S, resV, resL, chkd, isAdr, bgot, AV.cells?, partA, eq_self, mk, List.foldl_cons, List.foldl_nil, List.replicate_succ, List.replicate_zero, List.set_cons_zero, List.set_cons_succ, List.getElem?_cons_zero, List.getElem?_cons_succ, List.drop_zero, List.drop_succ_cons, List.take_succ_cons, List.take_nil, Option.getD_some, List.length_cons, List.length_nil, Nat.reduceAdd, Nat.reduceLeDiff, Nat.reduceEqDiff, Nat.zero_add, bin_add, bin_lss, w64, if_true, if_false, Bool.false_eq_true, decide_false, true_and, reduceCtorEq, hltk', hw.ls.idx hlt, hw.ls.ld0 hz 1 false (by decide), e0, hx.len]
            exact ⟨i + 1, ⟨hlt, lsE_ok (ws_get hz) he (by unfold lE; rw [if_pos hnd, if_pos hnd2])⟩, by simp [Has, rd_s], by omega⟩
      · have hlt' : ¬ ((i : Int) < ws.length) := by omega
        simp (maxSteps := 4000000) -implicitDefEqProofs -dsimp (disch := omega) only [↓AW_ops, ↓AW_seq, ↓AW_cond, ↓AW_exit, ↓AW_ret, ↓AOps_nil, ↓AOps_pu, on_some, condB_f, ↓then_normal, ↓then_exit, ↓inBlock_exit, ↓Fin_ret, pval, rd_S, rd_C, put_S, resV, resL, chkd, isAdr, bgot, AV.cells?, partA, eq_self, mk, List.foldl_cons, List.foldl_nil, List.replicate_succ, List.replicate_zero, List.set_cons_zero, List.set_cons_succ, List.getElem?_cons_zero, List.getElem?_cons_succ, List.drop_zero, List.drop_succ_cons, List.take_succ_cons, List.take_nil, Option.getD_some, List.length_cons, List.length_nil, Nat.reduceAdd, Nat.reduceLeDiff, Nat.zero_add, bin_lss, if_true, if_false, Bool.false_eq_true, decide_false, hlt', hw.ls.len]
        rw [List.take_of_length_le (by simp; omega)] at he
        exact gc_same (by rw [he])
  · simp (maxSteps := 4000000) -implicitDefEqProofs -dsimp (disch := omega) only [↓AW_ops, ↓AW_seq, ↓AW_cond, ↓AW_ret, ↓AOps_nil, ↓AOps_pu, on_some, extK_same, condB_t, ↓then_normal, ↓then_ret, ↓Fin_ret, pval, rd_S, rd_C, put_S, resV, resL, List.replicate_succ, List.replicate_zero, List.set_cons_zero, List.set_cons_succ, List.getElem?_cons_zero, List.getElem?_cons_succ, Option.getD_some, Nat.reduceSub, List.cons_append, List.nil_append, Bool.not_false, decide_false, h1]
    exact gc_same (by rw [vW_P h1])
/-- How many are served. -/
def srv (g : List Int) : Nat := g.countP (fun p => decide (0 ≤ p))
theorem srv_take {g : List Int} {i : Nat} {z : Int} (hz : g[i]? = some z) : srv (g.take (i + 1)) = srv (g.take i) + if 0 ≤ z then 1 else 0 := by
  unfold srv
  rw [List.take_add_one, hz, List.countP_append]
  simp [List.countP_cons]
theorem srv_le (g : List Int) : srv g ≤ g.length := List.countP_le_length
theorem s61 {g : List Int} {v : AV} {A : AHeap} (hx : L1 A v g) (hl : g.length ≤ 1000000) : ACalls Try.prog 61 [v] A (I (srv g)) A := by
  refine acalls hmix Try.func61 (by kernel_rfl) t61 1 rfl (by decide) ?_
  dsimp only [m61]
  simp (maxSteps := 4000000) -implicitDefEqProofs -dsimp (disch := omega) only [↓AW_ops, ↓AW_seq, ↓AW_block, ↓AOps_nil, ↓AOps_pu, on_some, ↓then_normal, pval, rd_S, rd_C, put_S, ↓AW_toLoop, List.replicate_succ, List.replicate_zero, List.set_cons_zero, List.set_cons_succ, List.getElem?_cons_zero, List.getElem?_cons_succ, Option.getD_some, Nat.reduceSub, List.cons_append, List.nil_append, hx.len]
  refine LoopK.by 18 (fun i : Nat => i ≤ g.length) (fun i => [(3, I (srv (g.take i))), (6, v), (7, I g.length), (8, I i)]) (fun _ => A) (fun i => g.length - i) 0 (by omega) rfl (by simp [Has, rd_s, srv]) rfl ?_
  intro i hi
  have hle := srv_le (g.take i)
  rw [List.length_take] at hle
  by_cases hlt : i < g.length
  · obtain ⟨z, hz⟩ : ∃ z, g[i]? = some z := ⟨_, List.getElem?_eq_getElem hlt⟩
    have hlt' : (i : Int) < g.length := by omega
    by_cases h : 0 ≤ z
    · simp (maxSteps := 4000000) -implicitDefEqProofs -dsimp (disch := omega) only [↓AW_skip, ↓AW_ops, ↓AW_seq, ↓AW_cond, ↓AW_block, ↓AOps_nil, ↓AOps_pu, ↓AOps_ld, on_some, condB_t, ↓then_normal, ↓inBlock_normal, pval, lval, rd_S, rd_C, put_S, partA, eq_self, mk, List.foldl_cons, List.foldl_nil, List.replicate_succ, List.replicate_zero, List.set_cons_zero, List.set_cons_succ, List.getElem?_cons_zero, List.getElem?_cons_succ, List.drop_zero, List.take_succ_cons, List.take_nil, Option.getD_some, List.length_cons, List.length_nil, Nat.reduceAdd, Nat.reduceLeDiff, Nat.zero_add, bin_add, bin_lss, bin_geq, w64, if_true, if_false, Bool.false_eq_true, decide_true, Go.Eng.e1, true_and, hlt', hx.idx hlt, hx.ld0 hz 1 false (by decide), h]
      exact ⟨i + 1, hlt, by simp [Has, rd_s, srv_take hz, h], by omega⟩
    · simp (maxSteps := 4000000) -implicitDefEqProofs -dsimp (disch := omega) only [↓AW_skip, ↓AW_ops, ↓AW_seq, ↓AW_cond, ↓AW_block, ↓AOps_nil, ↓AOps_pu, ↓AOps_ld, on_some, condB_t, condB_f, ↓then_normal, ↓inBlock_normal, pval, lval, rd_S, rd_C, put_S, partA, eq_self, mk, List.foldl_cons, List.foldl_nil, List.replicate_succ, List.replicate_zero, List.set_cons_zero, List.set_cons_succ, List.getElem?_cons_zero, List.getElem?_cons_succ, List.drop_zero, List.take_succ_cons, List.take_nil, Option.getD_some, List.length_cons, List.length_nil, Nat.reduceAdd, Nat.reduceLeDiff, Nat.zero_add, bin_add, bin_lss, bin_geq, w64, if_true, if_false, Bool.false_eq_true, decide_true, decide_false, Go.Eng.e1, true_and, hlt', hx.idx hlt, hx.ld0 hz 1 false (by decide), h]
      exact ⟨i + 1, hlt, by simp [Has, rd_s, srv_take hz, h], by omega⟩
  · have hlt' : ¬ ((i : Int) < g.length) := by omega
    simp (maxSteps := 4000000) -implicitDefEqProofs -dsimp (disch := omega) only [↓AW_ops, ↓AW_seq, ↓AW_cond, ↓AW_exit, ↓AW_ret, ↓AOps_nil, ↓AOps_pu, on_some, condB_f, ↓then_normal, ↓then_exit, ↓inBlock_exit, ↓Fin_ret, pval, rd_S, put_S, resV, resL, eq_self, mk, List.foldl_cons, List.foldl_nil, List.replicate_succ, List.replicate_zero, List.set_cons_zero, List.set_cons_succ, List.getElem?_cons_zero, List.getElem?_cons_succ, Option.getD_some, bin_lss, if_true, decide_false, hlt']
    exact gc_same (by rw [List.take_of_length_le (by omega)])
def gR (P : Int) (p : Int) : Prop := -1 ≤ p ∧ p < P
instance (P p : Int) : Decidable (gR P p) := by unfold gR; exact inferInstance
def okP (x : Int × List Int) : Prop := 0 ≤ x.1 → x.1 ∈ x.2
instance (x : Int × List Int) : Decidable (okP x) := by unfold okP; exact inferInstance
def given (g : List Int) : List Int := g.filter (fun p => decide (0 ≤ p))
/-- The error of a giving. -/
def gE (P : Int) (ls : List (List Int)) (g : List Int) : Int :=
  if vW P ls = 0 then (if g.length = ls.length ∧ ∀ p ∈ g, gR P p then (if ∀ x ∈ g.zip ls, okP x then (if (given g).Nodup then 0 else 6) else 8) else 1) else vW P ls
def gN (P : Int) (ls : List (List Int)) (g : List Int) : Int := if gE P ls g = 0 then srv g else 0
theorem gE_v {P : Int} {ls : List (List Int)} {g : List Int} (h : vW P ls ≠ 0) : gE P ls g = vW P ls := by unfold gE; rw [if_neg h]
theorem gE_1 {P : Int} {ls : List (List Int)} {g : List Int} (h : vW P ls = 0) (h1 : ¬ (g.length = ls.length ∧ ∀ p ∈ g, gR P p)) : gE P ls g = 1 := by unfold gE; rw [if_pos h, if_neg h1]
theorem gE_8 {P : Int} {ls : List (List Int)} {g : List Int} (h : vW P ls = 0) (h1 : g.length = ls.length ∧ ∀ p ∈ g, gR P p) (h2 : ¬ ∀ x ∈ g.zip ls, okP x) : gE P ls g = 8 := by unfold gE; rw [if_pos h, if_pos h1, if_neg h2]
theorem gE_6 {P : Int} {ls : List (List Int)} {g : List Int} (h : vW P ls = 0) (h1 : g.length = ls.length ∧ ∀ p ∈ g, gR P p) (h2 : ∀ x ∈ g.zip ls, okP x) (h3 : ¬ (given g).Nodup) : gE P ls g = 6 := by unfold gE; rw [if_pos h, if_pos h1, if_pos h2, if_neg h3]
theorem gE_0 {P : Int} {ls : List (List Int)} {g : List Int} (h : vW P ls = 0) (h1 : g.length = ls.length ∧ ∀ p ∈ g, gR P p) (h2 : ∀ x ∈ g.zip ls, okP x) (h3 : (given g).Nodup) : gE P ls g = 0 := by unfold gE; rw [if_pos h, if_pos h1, if_pos h2, if_pos h3]
theorem zip_get {g : List Int} {ls : List (List Int)} {i : Nat} {p : Int} {l : List Int} (h : g[i]? = some p) (k : ls[i]? = some l) : (g.zip ls)[i]? = some (p, l) := by
  rw [List.getElem?_zip_eq_some]
  exact ⟨h, k⟩
theorem given_take {g : List Int} {i : Nat} {z : Int} (hz : g[i]? = some z) : given (g.take (i + 1)) = given (g.take i) ++ if 0 ≤ z then [z] else [] := by
  unfold given
  rw [List.take_add_one, hz, List.filter_append]
  simp [List.filter_cons]
theorem given_mem {g : List Int} {z : Int} (h : 0 ≤ z) : z ∈ given g ↔ z ∈ g := by simp [given, h]
theorem given_bad {g : List Int} {i : Nat} {z : Int} (hz : g[i]? = some z) (h0 : 0 ≤ z) (h : z ∈ g.take i) : ¬ (given g).Nodup := by
  have hi : i < g.length := (List.getElem?_eq_some_iff.1 hz).1
  have e : g = g.take i ++ z :: g.drop (i + 1) := by
    have := (List.getElem?_eq_some_iff.1 hz).2
    rw [← this, List.getElem_cons_drop, List.take_append_drop]
  intro hn
  rw [e] at hn
  unfold given at hn
  rw [List.filter_append, List.nodup_append] at hn
  exact hn.2.2 z (by simp [h, h0]) z (by simp [h0]) rfl
theorem s70 {P p : Int} {v : AV} {A : AHeap} : ACalls Try.prog 70 [I p, .ptr A.length 0] (A ++ [.cells true [I P, v]]) (B (!decide (gR P p))) (A ++ [.cells true [I P, v]]) := by
  refine acalls hmix Try.func70 (by kernel_rfl) t70 2 rfl (by decide) ?_
  by_cases h1 : p < -1
  · dsimp only [m70]
    simp (maxSteps := 4000000) -implicitDefEqProofs -dsimp (disch := omega) only [↓AW_ops, ↓AW_seq, ↓AW_ret, ↓AOps_nil, ↓AOps_pu, ↓AOps_guard, on_some, guardB_tf, skipS_some, ↓then_normal, ↓Fin_ret, pval, rd_S, rd_C, put_S, resV, resL, eq_self, List.replicate_succ, List.replicate_zero, List.set_cons_zero, List.set_cons_succ, List.getElem?_cons_zero, List.getElem?_cons_succ, Option.getD_some, Nat.reduceSub, List.cons_append, List.nil_append, bin_lss, if_true, decide_true, Int.reduceNeg, h1]
    exact gc_same (by rw [decide_eq_false (fun h2 : gR P p => by have := h2.1; omega)]; rfl)
  · dsimp only [m70]
    simp (maxSteps := 4000000) -implicitDefEqProofs -dsimp (disch := omega) only [↓AW_ops, ↓AW_seq, ↓AW_ret, ↓AOps_nil, ↓AOps_pu, ↓AOps_ld, ↓AOps_guard, on_some, guardB_ff, ↓then_normal, ↓Fin_ret, pval, lval, rd_S, rd_C, put_S, resV, resL, List.replicate_succ, List.replicate_zero, List.set_cons_zero, List.set_cons_succ, List.getElem?_cons_zero, List.getElem?_cons_succ, Option.getD_some, Nat.reduceSub, Nat.add_zero, List.cons_append, List.nil_append, bin_lss, bin_geq, if_false, Bool.false_eq_true, decide_false, Int.reduceNeg, h1, ld_new]
    refine gc_same ?_
    have : gR P p ↔ ¬ P ≤ p := by unfold gR; omega
    congr 1
    rw [Bool.eq_iff_iff]
    simp [this]
theorem s33 {P : Int} {ws : List (AV × List Int)} {v : AV} {g : List Int} {u : AV} {A : AHeap} (hw : LL A v ws) (hs : Sz ws) (hg : L1 A u g) (hgl : g.length ≤ 1000000) : ACalls Try.prog 33 [.agg [I P, v], u] A (.tuple [I (gN P (lists ws) g), I (gE P (lists ws) g)]) A := by
  refine acalls hmix Try.func33 (by kernel_rfl) t33 2 rfl (by decide) ?_
  have hw2 := hw.mono (pre_app A [.cells true [I P, v]])
  have hg2 := hg.mono (pre_app A [.cells true [I P, v]])
  dsimp only [m33]
  simp (maxSteps := 4000000) -implicitDefEqProofs -dsimp (disch := omega) only [↓AW_ops, ↓AW_seq, ↓AOps_nil, ↓AOps_pu, ↓AOps_ld, ↓AOps_ha, ↓AOps_call, on_some, extK_app, ↓then_normal, pval, lval, hval, rd_S, rd_C, put_S, AV.cells?, List.replicate_succ, List.replicate_zero, List.set_cons_zero, List.set_cons_succ, List.getElem?_cons_zero, List.getElem?_cons_succ, Option.getD_some, map_c, map_n, Nat.reduceSub, List.cons_append, List.nil_append, ld_new2]
  refine CallK.of (s39 hw2 hs) ?_
  by_cases h0 : vW P (lists ws) = 0
  · by_cases hlen : g.length = ws.length
    · have hlen' : (g.length : Int) = ws.length := by omega
      simp (maxSteps := 4000000) -implicitDefEqProofs -dsimp (disch := omega) only [↓AW_skip, ↓AW_ops, ↓AW_seq, ↓AW_cond, ↓AOps_nil, ↓AOps_pu, ↓AOps_ld, ↓AOps_call, ↓AOps_guard, on_some, extK_same, guardB_ff, condB_f, ↓then_normal, pval, lval, rd_S, rd_C, put_S, eq_self, List.replicate_succ, List.replicate_zero, List.set_cons_zero, List.set_cons_succ, List.getElem?_cons_zero, List.getElem?_cons_succ, Option.getD_some, map_c, map_n, Nat.reduceSub, Nat.zero_add, List.cons_append, List.nil_append, bin_neq, decide_false, not_true_eq_false, h0, hg2.len, ld_new1, hw2.ls.len, hlen']
      refine CallK.of (c_ContainsFunc hg2 hgl 70 [.ptr A.length 0] (fun p => !decide (gR P p)) (fun x _ => s70)) ?_
      by_cases hr : ∀ p ∈ g, gR P p
      · have hr' : (g.any fun p => !decide (gR P p)) = false := by simpa using hr
        have h1 : g.length = (lists ws).length ∧ ∀ p ∈ g, gR P p := ⟨by simp [hlen], hr⟩
        simp (maxSteps := 4000000) -implicitDefEqProofs -dsimp (disch := omega) only [↓AW_skip, ↓AW_ops, ↓AW_seq, ↓AW_cond, ↓AW_block, ↓AOps_nil, ↓AOps_pu, on_some, extK_same, condB_f, ↓then_normal, pval, rd_S, rd_C, put_S, ↓AW_toLoop, List.replicate_succ, List.replicate_zero, List.set_cons_zero, List.set_cons_succ, List.getElem?_cons_zero, List.getElem?_cons_succ, Option.getD_some, Nat.reduceSub, List.cons_append, List.nil_append, if_false, Bool.false_eq_true, hr', hg2.len]
        refine LoopK.by 66 (fun i : Nat => i ≤ g.length ∧ ∀ x ∈ (g.zip (lists ws)).take i, okP x) (fun i => [(1, u), (2, .ptr A.length 0), (27, u), (28, I g.length), (29, I i)]) (fun _ => A ++ [.cells true [I P, v]]) (fun i => g.length - i) 0 ⟨by omega, by simp⟩ rfl (by simp [Has, rd_s, hlen]) rfl ?_
        rintro i ⟨hi, he⟩
        by_cases hlt : i < g.length
        · obtain ⟨z, hz⟩ : ∃ z, g[i]? = some z := ⟨_, List.getElem?_eq_getElem hlt⟩
          have hlt' : (i : Int) < g.length := by omega
          have hltw : i < ws.length := by omega
          obtain ⟨x, hx⟩ : ∃ x, ws[i]? = some x := ⟨_, List.getElem?_eq_getElem hltw⟩
          have hm := List.mem_of_getElem? hx
          have hzx := zip_get hz (ws_get hx)
          by_cases hz0 : 0 ≤ z
          · simp (maxSteps := 4000000) -implicitDefEqProofs -dsimp (disch := omega) only [↓AW_skip, ↓AW_ops, ↓AW_seq, ↓AW_cond, ↓AW_block, ↓AOps_nil, ↓AOps_pu, ↓AOps_ld, ↓AOps_call, ↓AOps_guard, on_some, guardB_tt, condB_t, ↓then_normal, pval, lval, rd_S, rd_C, put_S, partA, eq_self, mk, List.foldl_cons, List.foldl_nil, List.replicate_succ, List.replicate_zero, List.set_cons_zero, List.set_cons_succ, List.getElem?_cons_zero, List.getElem?_cons_succ, List.drop_zero, List.take_succ_cons, List.take_nil, Option.getD_some, map_c, map_n, List.length_cons, List.length_nil, Nat.reduceLeDiff, Nat.zero_add, bin_lss, bin_geq, if_true, if_false, Bool.false_eq_true, decide_true, Go.Eng.e1, hlt', hg2.idx hlt, hg2.ld0 hz 1 false (by decide), hz0, ld_new1, hw2.ls.idx hltw, hw2.ls.ld0 hx 1 false (by decide), e0]
            refine CallK.of (c_Contains (hw2.inn x hm) (by have := hs.2 x hm; omega) z) ?_
            by_cases hc : z ∈ x.2
            · simp (maxSteps := 4000000) -implicitDefEqProofs -dsimp (disch := omega) only [↓AW_skip, ↓AW_ops, ↓AW_cond, ↓AOps_nil, ↓AOps_pu, ↓AOps_guard, on_some, extK_same, guardB_tt, condB_f, ↓then_normal, ↓inBlock_normal, pval, rd_S, rd_C, put_S, eq_self, mk, List.foldl_cons, List.foldl_nil, List.replicate_succ, List.replicate_zero, List.set_cons_zero, List.set_cons_succ, List.getElem?_cons_zero, List.getElem?_cons_succ, Option.getD_some, List.length_cons, List.length_nil, Nat.reduceAdd, Nat.zero_add, bin_add, w64, if_true, Bool.not_true, decide_true, true_and, hc]
              exact ⟨i + 1, ⟨hlt, all_take he hzx (fun _ => hc)⟩, by simp [Has, rd_s], by omega⟩
            · simp (maxSteps := 4000000) -implicitDefEqProofs -dsimp (disch := omega) only [↓AW_ops, ↓AW_seq, ↓AW_cond, ↓AW_ret, ↓AOps_nil, ↓AOps_pu, ↓AOps_guard, on_some, extK_same, guardB_tt, condB_t, ↓then_normal, ↓then_ret, ↓inBlock_ret, ↓Fin_ret, pval, rd_S, rd_C, put_S, resV, resL, eq_self, mk, List.foldl_cons, List.foldl_nil, List.replicate_succ, List.replicate_zero, List.set_cons_zero, List.set_cons_succ, List.getElem?_cons_zero, List.getElem?_cons_succ, Option.getD_some, if_true, Bool.not_false, decide_false, hc]
              have hE := gE_8 h0 h1 (fun h => hc (h _ (List.mem_of_getElem? hzx) hz0))
              exact gc_val (pre_app _ _) (by simp [gN, hE, ren])
          · simp (maxSteps := 4000000) -implicitDefEqProofs -dsimp (disch := omega) only [↓AW_skip, ↓AW_ops, ↓AW_seq, ↓AW_cond, ↓AW_block, ↓AOps_nil, ↓AOps_pu, ↓AOps_ld, ↓AOps_guard, on_some, guardB_ft, skipS_some, condB_t, condB_f, ↓then_normal, ↓inBlock_normal, pval, lval, rd_S, rd_C, put_S, partA, eq_self, mk, List.foldl_cons, List.foldl_nil, List.replicate_succ, List.replicate_zero, List.set_cons_zero, List.set_cons_succ, List.getElem?_cons_zero, List.getElem?_cons_succ, List.drop_zero, List.take_succ_cons, List.take_nil, Option.getD_some, List.length_cons, List.length_nil, Nat.reduceAdd, Nat.reduceLeDiff, Nat.zero_add, bin_add, bin_lss, bin_geq, w64, if_true, if_false, Bool.false_eq_true, decide_true, decide_false, Go.Eng.e1, true_and, hlt', hg2.idx hlt, hg2.ld0 hz 1 false (by decide), hz0]
            exact ⟨i + 1, ⟨hlt, all_take he hzx (fun h => absurd h hz0)⟩, by simp [Has, rd_s], by omega⟩
        · have hlt' : ¬ ((i : Int) < g.length) := by omega
          rw [List.take_of_length_le (by rw [List.length_zip]; omega)] at he
          simp (maxSteps := 4000000) -implicitDefEqProofs -dsimp (disch := omega) only [↓AW_ops, ↓AW_seq, ↓AW_cond, ↓AW_block, ↓AW_exit, ↓AOps_nil, ↓AOps_pu, on_some, condB_f, ↓then_normal, ↓then_exit, ↓inBlock_exit, pval, rd_S, rd_C, put_S, ↓AW_toLoop, eq_self, mk, List.foldl_cons, List.foldl_nil, List.replicate_succ, List.replicate_zero, List.set_cons_zero, List.set_cons_succ, List.getElem?_cons_zero, List.getElem?_cons_succ, Option.getD_some, bin_lss, if_true, decide_false, hlt', hg2.len]
          refine LoopK.by 66 (fun i : Nat => i ≤ g.length ∧ (given (g.take i)).Nodup) (fun i => [(1, u), (47, u), (48, I g.length), (49, I i)]) (fun _ => A ++ [.cells true [I P, v]]) (fun i => g.length - i) 0 ⟨by omega, by simp [given]⟩ rfl (by simp [Has, rd_s]) rfl ?_
          rintro i ⟨hi, hnd⟩
          by_cases hlt : i < g.length
          · obtain ⟨z, hz⟩ : ∃ z, g[i]? = some z := ⟨_, List.getElem?_eq_getElem hlt⟩
            have hlt' : (i : Int) < g.length := by omega
            by_cases hz0 : 0 ≤ z
            · obtain ⟨v', hv', hL⟩ := Ls_takeS hg2 i (by omega)
              simp (maxSteps := 4000000) -implicitDefEqProofs -dsimp (disch := omega) only [↓AW_skip, ↓AW_ops, ↓AW_seq, ↓AW_cond, ↓AW_block, ↓AOps_nil, ↓AOps_pu, ↓AOps_ld, ↓AOps_call, ↓AOps_guard, on_some, guardB_tt, condB_t, ↓then_normal, pval, lval, rd_S, rd_C, put_S, partA, eq_self, mk, List.foldl_cons, List.foldl_nil, List.replicate_succ, List.replicate_zero, List.set_cons_zero, List.set_cons_succ, List.getElem?_cons_zero, List.getElem?_cons_succ, List.drop_zero, List.take_succ_cons, List.take_nil, Option.getD_some, Option.map_some, Option.map_none, map_c, map_n, List.length_cons, List.length_nil, Nat.reduceLeDiff, Nat.zero_add, bin_lss, bin_geq, if_true, if_false, Bool.false_eq_true, decide_true, Go.Eng.e1, hlt', hg2.idx hlt, hg2.ld0 hz 1 false (by decide), hz0, hv']
              refine CallK.of (c_Contains hL (by rw [List.length_take]; omega) z) ?_
              by_cases hc : z ∈ g.take i
              · simp (maxSteps := 4000000) -implicitDefEqProofs -dsimp (disch := omega) only [↓AW_ops, ↓AW_seq, ↓AW_cond, ↓AW_ret, ↓AOps_nil, ↓AOps_pu, on_some, extK_same, condB_t, ↓then_normal, ↓then_ret, ↓inBlock_ret, ↓Fin_ret, pval, rd_S, rd_C, put_S, resV, resL, eq_self, mk, List.foldl_cons, List.foldl_nil, List.replicate_succ, List.replicate_zero, List.set_cons_zero, List.set_cons_succ, List.getElem?_cons_zero, List.getElem?_cons_succ, Option.getD_some, if_true, decide_true, hc]
                have hE := gE_6 h0 h1 he (given_bad hz hz0 hc)
                exact gc_val (pre_app _ _) (by simp [gN, hE, ren])
              · simp (maxSteps := 4000000) -implicitDefEqProofs -dsimp (disch := omega) only [↓AW_skip, ↓AW_ops, ↓AW_cond, ↓AOps_nil, ↓AOps_pu, on_some, extK_same, condB_f, ↓then_normal, ↓inBlock_normal, pval, rd_S, rd_C, put_S, eq_self, mk, List.foldl_cons, List.foldl_nil, List.replicate_succ, List.replicate_zero, List.set_cons_zero, List.set_cons_succ, List.getElem?_cons_zero, List.getElem?_cons_succ, Option.getD_some, List.length_cons, List.length_nil, Nat.reduceAdd, Nat.zero_add, bin_add, w64, if_true, decide_false, true_and, hc]
                refine ⟨i + 1, ⟨hlt, ?_⟩, by simp [Has, rd_s], by omega⟩
                rw [given_take hz, if_pos hz0, List.nodup_append]
                refine ⟨hnd, by simp, fun a ha b hb => ?_⟩
                have hbz : b = z := by simpa using hb
                rw [hbz]
                rintro rfl
                exact hc ((given_mem hz0).1 ha)
            · simp (maxSteps := 4000000) -implicitDefEqProofs -dsimp (disch := omega) only [↓AW_skip, ↓AW_ops, ↓AW_seq, ↓AW_cond, ↓AW_block, ↓AOps_nil, ↓AOps_pu, ↓AOps_ld, ↓AOps_guard, on_some, guardB_ft, skipS_some, condB_t, condB_f, ↓then_normal, ↓inBlock_normal, pval, lval, rd_S, rd_C, put_S, partA, eq_self, mk, List.foldl_cons, List.foldl_nil, List.replicate_succ, List.replicate_zero, List.set_cons_zero, List.set_cons_succ, List.getElem?_cons_zero, List.getElem?_cons_succ, List.drop_zero, List.take_succ_cons, List.take_nil, Option.getD_some, List.length_cons, List.length_nil, Nat.reduceAdd, Nat.reduceLeDiff, Nat.zero_add, bin_add, bin_lss, bin_geq, w64, if_true, if_false, Bool.false_eq_true, decide_true, decide_false, Go.Eng.e1, true_and, hlt', hg2.idx hlt, hg2.ld0 hz 1 false (by decide), hz0]
              exact ⟨i + 1, ⟨hlt, by rw [given_take hz, if_neg hz0, List.append_nil]; exact hnd⟩, by simp [Has, rd_s], by omega⟩
          · have hlt' : ¬ ((i : Int) < g.length) := by omega
            rw [List.take_of_length_le (by omega)] at hnd
            simp (maxSteps := 4000000) -implicitDefEqProofs -dsimp (disch := omega) only [↓AW_ops, ↓AW_seq, ↓AW_cond, ↓AW_exit, ↓AOps_nil, ↓AOps_pu, ↓AOps_call, on_some, condB_f, ↓then_normal, ↓then_exit, ↓inBlock_exit, pval, rd_S, put_S, eq_self, mk, List.foldl_cons, List.foldl_nil, List.replicate_succ, List.replicate_zero, List.set_cons_zero, List.set_cons_succ, List.getElem?_cons_zero, List.getElem?_cons_succ, Option.getD_some, map_c, map_n, bin_lss, if_true, decide_false, hlt']
            refine CallK.of (s61 hg2 hgl) ?_
            simp (maxSteps := 4000000) -implicitDefEqProofs -dsimp (disch := omega) only [↓AW_ret, ↓AOps_nil, ↓AOps_pu, on_some, extK_same, ↓then_normal, ↓Fin_ret, pval, rd_S, rd_C, put_S, resV, resL, mk, List.foldl_cons, List.foldl_nil, List.replicate_succ, List.replicate_zero, List.set_cons_zero, List.set_cons_succ, List.getElem?_cons_zero, List.getElem?_cons_succ, Option.getD_some]
            have hE := gE_0 h0 h1 he hnd
            exact gc_val (pre_app _ _) (by simp [gN, hE, ren])
      · have hr' : (g.any fun p => !decide (gR P p)) = true := by simpa using hr
        simp (maxSteps := 4000000) -implicitDefEqProofs -dsimp (disch := omega) only [↓AW_ops, ↓AW_seq, ↓AW_cond, ↓AW_ret, ↓AOps_nil, ↓AOps_pu, on_some, extK_same, condB_t, ↓then_normal, ↓then_ret, ↓Fin_ret, pval, rd_S, rd_C, put_S, resV, resL, List.replicate_succ, List.replicate_zero, List.set_cons_zero, List.set_cons_succ, List.getElem?_cons_zero, List.getElem?_cons_succ, Option.getD_some, Nat.reduceSub, List.cons_append, List.nil_append, if_false, Bool.false_eq_true, hr']
        have hE := gE_1 h0 (fun h => hr h.2)
        exact gc_val (pre_app _ _) (by simp [gN, hE, ren])
    · have hlen' : ¬ (g.length : Int) = ws.length := by omega
      simp (maxSteps := 4000000) -implicitDefEqProofs -dsimp (disch := omega) only [↓AW_skip, ↓AW_ops, ↓AW_seq, ↓AW_cond, ↓AW_ret, ↓AOps_nil, ↓AOps_pu, ↓AOps_ld, ↓AOps_guard, on_some, extK_same, guardB_tf, skipS_some, condB_t, condB_f, ↓then_normal, ↓then_ret, ↓Fin_ret, pval, lval, rd_S, rd_C, put_S, resV, resL, eq_self, List.replicate_succ, List.replicate_zero, List.set_cons_zero, List.set_cons_succ, List.getElem?_cons_zero, List.getElem?_cons_succ, Option.getD_some, Nat.reduceSub, Nat.zero_add, List.cons_append, List.nil_append, bin_neq, if_true, decide_true, decide_false, not_true_eq_false, not_false_eq_true, h0, hg2.len, ld_new1, hw2.ls.len, hlen']
      have hE := gE_1 (g := g) h0 (fun h => hlen (by simpa using h.1))
      exact gc_val (pre_app _ _) (by simp [gN, hE, ren])
  · simp (maxSteps := 4000000) -implicitDefEqProofs -dsimp (disch := omega) only [↓AW_ops, ↓AW_seq, ↓AW_cond, ↓AW_ret, ↓AOps_nil, ↓AOps_pu, on_some, extK_same, condB_t, ↓then_normal, ↓then_ret, ↓Fin_ret, pval, rd_S, rd_C, put_S, resV, resL, List.replicate_succ, List.replicate_zero, List.set_cons_zero, List.set_cons_succ, List.getElem?_cons_zero, List.getElem?_cons_succ, Option.getD_some, Nat.reduceSub, List.cons_append, List.nil_append, bin_neq, decide_true, not_false_eq_true, h0]
    have hE := gE_v (g := g) h0
    exact gc_val (pre_app _ _) (by simp [gN, hE, h0, ren])
end Go.Proofs.Ytlmbobbefgcolaa

namespace Go.Proofs.Ytlmbobbefgcolaa
open Go Go.Eng
/-- A set of numbers from 0 to n - 1. -/
def isS (n : Int) (l : List Int) : Prop := (∀ p ∈ l, inP n p) ∧ Up l
instance (n : Int) (l : List Int) : Decidable (isS n l) := by unfold isS; exact inferInstance
theorem s78 {xs : List Int} {v : AV} {A : AHeap} (hx : L1 A v xs) (hl : xs.length ≤ 1000000) (n : Int) : ACalls Try.prog 78 [v, I n] A (B (decide (isS n xs))) A := by
  refine acalls hmix Try.func78 (by kernel_rfl) t78 2 rfl (by decide) ?_
  dsimp only [m78]
  simp (maxSteps := 4000000) -implicitDefEqProofs -dsimp (disch := omega) only [↓AW_ops, ↓AW_seq, ↓AW_block, ↓AOps_nil, ↓AOps_pu, on_some, ↓then_normal, pval, rd_C, put_S, ↓AW_toLoop, List.replicate_succ, List.replicate_zero, List.set_cons_zero, List.set_cons_succ, Nat.reduceSub, List.cons_append, List.nil_append]
  refine LoopK.by 25 (fun i : Nat => 1 ≤ i ∧ (i ≤ xs.length ∨ i = 1) ∧ Up (xs.take i)) (fun i => [(0, v), (1, I n), (5, I i)]) (fun _ => A) (fun i => xs.length - i) 1 ⟨by omega, .inr rfl, up_one⟩ rfl (by simp [Has, rd_s]) rfl ?_
  rintro i ⟨h1, hi, hu⟩
  by_cases hlt : i < xs.length
  · obtain ⟨b, hz⟩ : ∃ z, xs[i]? = some z := ⟨_, List.getElem?_eq_getElem hlt⟩
    have hlt' : (i : Int) < xs.length := by omega
    obtain ⟨k, rfl⟩ : ∃ k, i = k + 1 := ⟨i - 1, by omega⟩
    have hltk : k < xs.length := by omega
    obtain ⟨a, hza⟩ : ∃ a, xs[k]? = some a := ⟨_, List.getElem?_eq_getElem hltk⟩
    have hidx := hx.idxI (k := .i64) (i := ((k + 1 : Nat) : Int) - 1) (by omega) (by omega)
    have ek : (((k + 1 : Nat) : Int) - 1).toNat = k := by omega
    rw [ek] at hidx
    by_cases hab : b ≤ a
    · simp (maxSteps := 4000000) -implicitDefEqProofs -dsimp (disch := omega) only [↓AW_skip, ↓AW_ops, ↓AW_seq, ↓AW_cond, ↓AW_block, ↓AW_ret, ↓AOps_nil, ↓AOps_pu, ↓AOps_ld, on_some, condB_t, ↓then_normal, ↓then_ret, ↓inBlock_ret, ↓Fin_ret, pval, lval, rd_S, rd_C, put_S, resV, resL, partA, eq_self, mk, List.foldl_cons, List.foldl_nil, List.replicate_succ, List.replicate_zero, List.set_cons_zero, List.set_cons_succ, List.getElem?_cons_zero, List.getElem?_cons_succ, List.drop_zero, List.take_succ_cons, List.take_nil, Option.getD_some, List.length_cons, List.length_nil, Nat.reduceLeDiff, Nat.zero_add, bin_sub, bin_lss, bin_geq, w64, if_true, if_false, Bool.false_eq_true, decide_true, Go.Eng.e1, hlt', hx.len, hx.idx hlt, hx.ld0 hz 1 false (by decide), hidx, hx.ld0 hza 1 false (by decide), hab]
      exact gc_same (by rw [decide_eq_false (fun h : isS n xs => up_bad hza hz hab h.2)])
    · simp (maxSteps := 4000000) -implicitDefEqProofs -dsimp (disch := omega) only [↓AW_skip, ↓AW_ops, ↓AW_seq, ↓AW_cond, ↓AW_block, ↓AOps_nil, ↓AOps_pu, ↓AOps_ld, on_some, condB_t, condB_f, ↓then_normal, ↓inBlock_normal, pval, lval, rd_S, rd_C, put_S, partA, eq_self, mk, List.foldl_cons, List.foldl_nil, List.replicate_succ, List.replicate_zero, List.set_cons_zero, List.set_cons_succ, List.getElem?_cons_zero, List.getElem?_cons_succ, List.drop_zero, List.take_succ_cons, List.take_nil, Option.getD_some, List.length_cons, List.length_nil, Nat.reduceAdd, Nat.reduceLeDiff, Nat.zero_add, bin_add, bin_sub, bin_lss, bin_geq, w64, if_true, if_false, Bool.false_eq_true, decide_true, decide_false, Go.Eng.e1, true_and, hlt', hx.len, hx.idx hlt, hx.ld0 hz 1 false (by decide), hidx, hx.ld0 hza 1 false (by decide), hab]
      exact ⟨k + 1 + 1, ⟨by omega, .inl (by omega), up_step hza hz hu (by omega)⟩, by simp [Has, rd_s], by omega⟩
  · have hlt' : ¬ ((i : Int) < xs.length) := by omega
    simp (maxSteps := 4000000) -implicitDefEqProofs -dsimp (disch := omega) only [↓AW_ops, ↓AW_seq, ↓AW_cond, ↓AW_exit, ↓AOps_nil, ↓AOps_pu, ↓AOps_call, on_some, condB_f, ↓then_normal, ↓then_exit, ↓inBlock_exit, pval, rd_S, put_S, eq_self, mk, List.foldl_cons, List.foldl_nil, List.replicate_succ, List.replicate_zero, List.set_cons_zero, List.set_cons_succ, List.getElem?_cons_zero, List.getElem?_cons_succ, Option.getD_some, map_c, map_n, bin_lss, if_true, decide_false, hlt', hx.len]
    have hu2 : Up xs := by
      rwa [List.take_of_length_le (by omega)] at hu
    refine CallK.of (s73 hx hl n) ?_
    simp (maxSteps := 4000000) -implicitDefEqProofs -dsimp (disch := omega) only [↓AW_ret, ↓AOps_nil, ↓AOps_pu, on_some, extK_same, ↓then_normal, ↓Fin_ret, pval, rd_S, put_S, resV, resL, mk, List.foldl_cons, List.foldl_nil, List.replicate_succ, List.replicate_zero, List.set_cons_zero, List.set_cons_succ, List.getElem?_cons_zero, List.getElem?_cons_succ, Option.getD_some]
    refine gc_same ?_
    congr 1
    rw [decide_eq_decide]
    exact ⟨fun h => ⟨h, hu2⟩, fun h => h.1⟩
/-- What an owner wishes. -/
def lst (ls : List (List Int)) (i : Int) : List Int := (ls[i.toNat]?).getD []
def nums (n : Nat) : List Int := (List.range n).map (fun k : Nat => (k : Int))
theorem mem_nums {n : Nat} {p : Int} : p ∈ nums n ↔ 0 ≤ p ∧ p < n := by
  simp only [nums, List.mem_map, List.mem_range]
  constructor
  · rintro ⟨k, h, rfl⟩; omega
  · intro h; exact ⟨p.toNat, by omega, by omega⟩
theorem lst_get {ws : List (AV × List Int)} {i : Int} (h : inP ws.length i) : ∃ x, ws[i.toNat]? = some x ∧ lst (lists ws) i = x.2 := by
  have hlt : i.toNat < ws.length := by have := h.1; have := h.2; omega
  exact ⟨ws[i.toNat], List.getElem?_eq_getElem hlt, by simp [lst, hlt]⟩
end Go.Proofs.Ytlmbobbefgcolaa

namespace Go.Proofs.Ytlmbobbefgcolaa
open Go Go.Eng
theorem cells_agg (l : List AV) : (AV.agg l).cells? = some l := rfl
theorem cells_int (k : IntKind) (n : Int) : (AV.int k n).cells? = some [.int k n] := rfl
theorem cells_sl (a b c d : Nat) (e : Bool) : (AV.sl a b c d e).cells? = some [.sl a b c d e] := rfl
theorem cells_nilS : AV.nilS.cells? = some [.nilS] := rfl
theorem cells_nilF : AV.nilF.cells? = some [.nilF] := rfl
/-- A store. -/
def stA (sz : Nat) (p x : AV) (H : AHeap) : Option AHeap :=
  match p, x.cells? with
  | .ptr n off, some c => match H[n]? with
    | some (.cells true l) => if c.length = sz ∧ off + sz ≤ l.length then some (H.set n (.cells true (splice l off c))) else none
    | _ => none
  | _, _ => none
theorem hval_st (sz : Nat) (p x : Opd) (S : List AV) (H : AHeap) : hval (.st sz p x) S H = (stA sz (rd S p) (rd S x) H).map (fun H' => (undefA, H')) := by
  simp only [hval, stA]
  cases rd S p with
  | ptr n off =>
    cases (rd S x).cells? with
    | none => rfl
    | some c =>
      simp only
      cases H[n]? with
      | none => rfl
      | some o =>
        cases o with
        | cells rw l =>
          cases rw
          · rfl
          · simp only
            split <;> rfl
        | _ => rfl
  | _ => rfl
theorem hval_newv (x : Opd) (S : List AV) (H : AHeap) : hval (.newv x) S H = match (rd S x).cells? with | some c => some (.ptr H.length 0, H ++ [.cells true c]) | none => none := rfl
theorem hval_mks (es : Nat) (zero : List AV) (len cap : Opd) (S : List AV) (H : AHeap) : hval (.mks es zero len cap) S H = match rd S len, rd S cap with | .int _ l, .int _ c => if 0 ≤ l ∧ l ≤ c ∧ c ≤ lim then some (.sl es H.length 0 l.toNat (l == c), H ++ [.cells true (repl zero c.toNat)]) else none | _, _ => none := rfl
theorem hval_blds (es n : Nat) (zero : List AV) (parts : List (Nat × Nat × Opd)) (S : List AV) (H : AHeap) : hval (.blds es n zero parts) S H = match fillA (parts.map fun p => (p.1, p.2.1, rd S p.2.2)) (repl zero n) with | some l => some (.sl es H.length 0 n true, H ++ [.cells true l]) | none => none := rfl
theorem hval_app (es : Nat) (x y : Opd) (S : List AV) (H : AHeap) : hval (.app es x y) S H = appA es H (rd S x) (rd S y) := rfl
/-- A copy. -/
def cpA (es : Nat) (x y : AV) (H : AHeap) : Option (AV × AHeap) :=
  match x, slCells es H y with
    | .nilS, some _ => some (I 0, H)
    | .sl es' n off len _, some (k, new) => if es' = es then match H[n]? with
        | some (.cells true l) => if off + len * es ≤ l.length then some (I (min k len : Nat), H.set n (.cells true (splice l off (new.take (min k len * es))))) else none
        | _ => none
      else none
    | _, _ => none
theorem hval_cpy (es : Nat) (x y : Opd) (S : List AV) (H : AHeap) : hval (.cpy es x y) S H = cpA es (rd S x) (rd S y) H := rfl
theorem splice_flat {α : Type} {es : Nat} {e : α → List AV} (he : ∀ x, (e x).length = es) {xs : List α} {i : Nat} (hi : i < xs.length) (z : α) : splice (xs.flatMap e) (i * es) (e z) = (xs.set i z).flatMap e := by
  unfold splice
  have h1 := flatMap_length he (xs.take i)
  rw [List.length_take, Nat.min_eq_left (by omega)] at h1
  have h2 := flatMap_length he (xs.take (i + 1))
  rw [List.length_take, Nat.min_eq_left (by omega)] at h2
  have e1 : (xs.flatMap e).take (i * es) = (xs.take i).flatMap e := by
    conv => lhs; rw [← List.take_append_drop i xs, List.flatMap_append]
    rw [← h1, List.take_left]
  have e2 : (xs.flatMap e).drop (i * es + (e z).length) = (xs.drop (i + 1)).flatMap e := by
    conv => lhs; rw [← List.take_append_drop (i + 1) xs, List.flatMap_append]
    rw [he z, ← Nat.succ_mul, Nat.succ_eq_add_one, ← h2, List.drop_left]
  rw [e1, e2, List.set_eq_take_append_cons_drop, if_pos hi, List.flatMap_append, List.flatMap_cons, List.append_assoc]
/-- A list that the call itself has made and may write. -/
structure OL {α : Type} (es : Nat) (e : α → List AV) (A H : AHeap) (n : Nat) (v : AV) (xs : List α) : Prop where
  he : ∀ x, (e x).length = es
  pre : A <+: H
  new : A.length ≤ n
  ob : H[n]? = some (.cells true (xs.flatMap e))
  v : ∃ full, v = .sl es n 0 xs.length full
section
variable {α : Type} {es : Nat} {e : α → List AV} {A H : AHeap} {n : Nat} {v : AV} {xs : List α}
theorem OL.ls (h : OL es e A H n v xs) : Ls es e H v xs := by
  obtain ⟨he, h1, h2, h3, full, rfl⟩ := h
  refine ⟨he, ?_⟩
  have hl := flatMap_length he xs
  simp only [slCells, cellsAt, h3, if_true, Nat.zero_add]
  rw [if_pos (by omega)]
  simp only [List.drop_zero, Option.map_some, Option.some.injEq, Prod.mk.injEq, true_and]
  rw [← hl, List.take_length]
theorem OL.lt (h : OL es e A H n v xs) : n < H.length := (List.getElem?_eq_some_iff.1 h.ob).1
theorem OL.set (h : OL es e A H n v xs) (i : Nat) (z : α) : OL es e A (H.set n (.cells true ((xs.set i z).flatMap e))) n v (xs.set i z) := by
  have hn := h.lt
  obtain ⟨he, h1, h2, h3, full, rfl⟩ := h
  exact ⟨he, pre_set h1 h2 _, h2, by rw [List.getElem?_set_self hn], full, by simp⟩
theorem OL.st (h : OL es e A H n v xs) {i : Nat} (hi : i < xs.length) (x : AV) (z : α) (hx : x.cells? = some (e z)) : stA es (.ptr (nm v) (of v + i * es)) x H = some (H.set n (.cells true ((xs.set i z).flatMap e))) := by
  obtain ⟨he, h1, h2, h3, full, rfl⟩ := h
  have hl := flatMap_length he xs
  have hle : i * es + es ≤ xs.length * es := by
    rw [← Nat.succ_mul]; exact Nat.mul_le_mul_right _ hi
  simp only [stA, nm, of, hx, h3, Nat.zero_add]
  rw [if_pos ⟨he z, by omega⟩, splice_flat he hi z]
theorem OL.mono {H' : AHeap} (h : OL es e A H n v xs) (hp : H <+: H') : OL es e A H' n v xs := ⟨h.he, h.pre.trans hp, h.new, pre_get hp h.ob, h.v⟩
theorem OL.new_mk (he : ∀ x, (e x).length = es) (A : AHeap) (xs : List α) (full : Bool) : OL es e A (A ++ [.cells true (xs.flatMap e)]) A.length (.sl es A.length 0 xs.length full) xs :=
  ⟨he, pre_app _ _, Nat.le_refl _, by simp, full, rfl⟩
theorem gc_weak {v1 v1' v : AV} {H1 H' : AHeap} (h : ∀ ρ c, VR ρ v1 c → VR ρ v1' c) (g : GC A v1' H1 v H') : GC A v1 H1 v H' :=
  fun ρ w ρ1 w1 cv s0 s1 st hv => g ρ w ρ1 w1 cv s0 s1 st (h ρ1 cv hv)
theorem VR.unfull {ρ : Ren} {es n off len : Nat} {full : Bool} {c : Value} (h : VR ρ (.sl es n off len full) c) : VR ρ (.sl es n off len false) c := by
  cases h with
  | sl _ _ _ _ _ L a cap h1 h2 h3 h4 h5 => exact .sl es n off len false L a cap h1 h2 (fun e => by cases e) h4 h5
theorem OL.acc (h : OL es e A H n v xs) (h0 : 0 < xs.length) : AccL es e A H (.sl es n 0 xs.length false) xs :=
  ⟨h.pre, flatMap_length h.he xs, .inr ⟨h0, n, rfl, h.new, h.ob⟩⟩
theorem OL.gc (h : OL es e A H n v xs) (h0 : 0 < xs.length) (hf : ∀ x, ∀ y ∈ e x, flat y = true) : GC A v H (outV es A xs.length) (outH A (xs.flatMap e) xs.length) := by
  have h1 := (h.acc h0).gc hf
  obtain ⟨_, _, _, _, full, rfl⟩ := h
  exact gc_weak (fun ρ c => VR.unfull) h1
end
end Go.Proofs.Ytlmbobbefgcolaa

namespace Go.Proofs.Ytlmbobbefgcolaa
open Go Go.Eng
theorem vW_P7 {P : Int} {ls : List (List Int)} (h : vW P ls = 0) : 1 ≤ P ∧ P ≤ 7 := by
  rcases Decidable.em (1 ≤ P ∧ P ≤ 7) with h1 | h1
  · exact h1
  · rw [vW_P h1] at h; cases h
def covOk (ls : List (List Int)) (os ps : List Int) (i : Nat) : Prop := (i : Int) ∈ os ∨ ∀ p ∈ lst ls i, p ∈ ps
instance (ls : List (List Int)) (os ps : List Int) (i : Nat) : Decidable (covOk ls os ps i) := by unfold covOk; exact inferInstance
def cov (ls : List (List Int)) (os ps : List Int) : Prop := ∀ i, i < ls.length → covOk ls os ps i
instance (ls : List (List Int)) (os ps : List Int) : Decidable (cov ls os ps) := by unfold cov; exact inferInstance
theorem lst_at {ws : List (AV × List Int)} {i : Nat} {x : AV × List Int} (h : ws[i]? = some x) : lst (lists ws) i = x.2 := by
  simp [lst, h]
end Go.Proofs.Ytlmbobbefgcolaa

namespace Go.Proofs.Ytlmbobbefgcolaa
open Go Go.Eng
/-- A list without repetition in another one is no longer. -/
theorem nodup_len {α : Type} [DecidableEq α] : ∀ {l m : List α}, l.Nodup → (∀ x ∈ l, x ∈ m) → l.length ≤ m.length
  | [], _, _, _ => by simp
  | a :: l, m, hn, h => by
    rw [List.nodup_cons] at hn
    have ha := h a (by simp)
    have ih := nodup_len (l := l) (m := m.erase a) hn.2 (fun x hx => by
      have : x ≠ a := fun e => hn.1 (e ▸ hx)
      exact (List.mem_erase_of_ne this).2 (h x (by simp [hx])))
    rw [List.length_erase_of_mem ha] at ih
    have : 0 < m.length := List.length_pos_of_mem ha
    simp only [List.length_cons]
    omega
/-- What an owner has. -/
def has (g : List Int) (k : Nat) : Int := (g[k]?).getD (-1)
theorem has_get {g : List Int} {k : Nat} {p : Int} (h : g[k]? = some p) : has g k = p := by simp [has, h]
theorem map_has (g : List Int) : (List.range g.length).map (has g) = g := by
  apply List.ext_getElem?
  intro i
  rw [List.getElem?_map]
  by_cases h : i < g.length
  · simp [h, has]
  · simp [h]
/-- The owners who are served. -/
def sv (g : List Int) : List Nat := (List.range g.length).filter (fun k => decide (0 ≤ has g k))
theorem mem_sv {g : List Int} {k : Nat} : k ∈ sv g ↔ k < g.length ∧ 0 ≤ has g k := by simp [sv]
theorem given_sv (g : List Int) : given g = (sv g).map (has g) := by
  unfold given sv
  conv => lhs; rw [← map_has g]
  rw [List.filter_map]
  rfl
theorem srv_sv (g : List Int) : srv g = (sv g).length := by
  unfold srv
  rw [List.countP_eq_length_filter]
  have := given_sv g
  unfold given at this
  rw [this, List.length_map]
theorem sv_nodup (g : List Int) : (sv g).Nodup := List.Pairwise.filter _ List.nodup_range
/-- What a right giving is. -/
structure Good (P : Int) (ls : List (List Int)) (g : List Int) : Prop where
  len : g.length = ls.length
  rng : ∀ k, k < ls.length → -1 ≤ has g k ∧ has g k < P
  wish : ∀ k, k < ls.length → 0 ≤ has g k → has g k ∈ lst ls k
  inj : ∀ i j, i < ls.length → j < ls.length → 0 ≤ has g i → has g i = has g j → i = j
theorem nodup_map_inj {α β : Type} {f : α → β} : ∀ {l : List α}, l.Nodup → ((l.map f).Nodup ↔ ∀ a ∈ l, ∀ b ∈ l, f a = f b → a = b)
  | [], _ => by simp
  | x :: l, hn => by
    rw [List.nodup_cons] at hn
    rw [List.map_cons, List.nodup_cons, nodup_map_inj hn.2]
    constructor
    · rintro ⟨h1, h2⟩ a ha b hb hab
      rcases List.mem_cons.1 ha with ea | ha'
      · rcases List.mem_cons.1 hb with eb | hb'
        · rw [ea, eb]
        · exact absurd (List.mem_map.2 ⟨b, hb', by rw [← hab, ea]⟩) h1
      · rcases List.mem_cons.1 hb with eb | hb'
        · exact absurd (List.mem_map.2 ⟨a, ha', by rw [hab, eb]⟩) h1
        · exact h2 a ha' b hb' hab
    · intro h
      refine ⟨fun hx => ?_, fun a ha b hb => h a (by simp [ha]) b (by simp [hb])⟩
      obtain ⟨b, hb, hab⟩ := List.mem_map.1 hx
      have := h b (by simp [hb]) x (by simp) hab
      subst this
      exact hn.1 hb
theorem lst_nat {ls : List (List Int)} {k : Nat} : lst ls (k : Int) = (ls[k]?).getD [] := by simp [lst]
theorem good_iff {P : Int} {ls : List (List Int)} {g : List Int} : gE P ls g = 0 ↔ vW P ls = 0 ∧ Good P ls g := by
  constructor
  · intro h
    unfold gE at h
    split at h
    · rename_i hv
      split at h
      · rename_i h1
        split at h
        · rename_i h2
          split at h
          · rename_i h3
            refine ⟨hv, h1.1, fun k hk => ?_, fun k hk h0 => ?_, fun i j hi hj h0 hij => ?_⟩
            · obtain ⟨p, hp⟩ : ∃ p, g[k]? = some p := ⟨_, List.getElem?_eq_getElem (by omega)⟩
              rw [has_get hp]
              exact h1.2 p (List.mem_of_getElem? hp)
            · obtain ⟨p, hp⟩ : ∃ p, g[k]? = some p := ⟨_, List.getElem?_eq_getElem (by omega)⟩
              obtain ⟨l, hl⟩ : ∃ l, ls[k]? = some l := ⟨_, List.getElem?_eq_getElem hk⟩
              rw [has_get hp] at h0 ⊢
              rw [lst_nat, hl]
              exact h2 _ (List.mem_of_getElem? (zip_get hp hl)) h0
            · rw [given_sv, nodup_map_inj (sv_nodup g)] at h3
              exact h3 i (mem_sv.2 ⟨by omega, h0⟩) j (mem_sv.2 ⟨by omega, by omega⟩) hij
          · cases h
        · cases h
      · cases h
    · rename_i hv; exact absurd h hv
  · rintro ⟨hv, hg⟩
    refine gE_0 hv ⟨hg.len, fun p hp => ?_⟩ (fun x hx => ?_) ?_
    · obtain ⟨k, hk, rfl⟩ := List.mem_iff_getElem.1 hp
      have := hg.rng k (by rw [← hg.len]; exact hk)
      rwa [has_get (List.getElem?_eq_getElem hk)] at this
    · obtain ⟨k, hk⟩ := List.mem_iff_getElem?.1 hx
      rw [List.getElem?_zip_eq_some] at hk
      have hlt : k < ls.length := (List.getElem?_eq_some_iff.1 hk.2).1
      intro h0
      have := hg.wish k hlt (by rw [has_get hk.1]; exact h0)
      rw [has_get hk.1, lst_nat, hk.2] at this
      exact this
    · rw [given_sv, nodup_map_inj (sv_nodup g)]
      intro a ha b hb hab
      rw [mem_sv] at ha hb
      exact hg.inj a b (by rw [← hg.len]; exact ha.1) (by rw [← hg.len]; exact hb.1) ha.2 hab
theorem filter_split {α : Type} (p : α → Bool) (l : List α) : l.length = (l.filter p).length + (l.filter (fun x => !p x)).length := by
  induction l with
  | nil => rfl
  | cons a l ih => by_cases h : p a <;> simp [h] <;> omega
end Go.Proofs.Ytlmbobbefgcolaa

namespace Go.Proofs.Ytlmbobbefgcolaa
open Go Go.Eng
abbrev St := List Bool × List Int
/-- Whether a place has been seen. -/
def sn (b : List Bool) (p : Int) : Bool := (b[p.toNat]?).getD true
def goF (rec : Int → St → Bool × St) (i : Int) : List Int → St → Bool × St
  | [], s => (false, s)
  | p :: ps, s =>
    if sn s.1 p = true then goF rec i ps s
    else if fpos (fun y => decide (p = y)) s.2 < 0 then (true, (s.1.set p.toNat true, s.2.set i.toNat p))
    else if (rec (fpos (fun y => decide (p = y)) s.2) (s.1.set p.toNat true, s.2)).1 = true then
      (true, ((rec (fpos (fun y => decide (p = y)) s.2) (s.1.set p.toNat true, s.2)).2.1, (rec (fpos (fun y => decide (p = y)) s.2) (s.1.set p.toNat true, s.2)).2.2.set i.toNat p))
    else goF rec i ps (rec (fpos (fun y => decide (p = y)) s.2) (s.1.set p.toNat true, s.2)).2
/-- A chain of changes. -/
def chF (ls : List (List Int)) : Nat → Int → St → Bool × St
  | 0, _, s => (false, s)
  | m + 1, i, s => goF (chF ls m) i (lst ls i) s
def unseen (b : List Bool) : Nat := b.count false
theorem sn_set {b : List Bool} {p q : Int} (hq : 0 ≤ q) (hp : 0 ≤ p) : sn (b.set p.toNat true) q = (decide (q = p) || sn b q) := by
  unfold sn
  rw [List.getElem?_set]
  by_cases h : p.toNat = q.toNat
  · have : q = p := by omega
    subst this
    by_cases h2 : q.toNat < b.length <;> simp [h2]
  · have : q ≠ p := by omega
    simp [h, this]
theorem unseen_set {b : List Bool} {p : Int} (h : sn b p = false) : unseen (b.set p.toNat true) + 1 = unseen b := by
  unfold sn at h
  unfold unseen
  generalize p.toNat = k at *
  induction b generalizing k with
  | nil => simp at h
  | cons a b ih =>
    cases k with
    | zero =>
      simp at h
      subst h
      simp
    | succ k =>
      have := ih k (by simpa using h)
      rw [List.set_cons_succ]
      cases a <;> simp <;> omega
/-- What a call of the chain tells. -/
structure Post (P : Int) (ls : List (List Int)) (i : Int) (ps : List Int) (s : St) (r : Bool × St) : Prop where
  len : r.2.1.length = s.1.length
  mono : ∀ q, 0 ≤ q → sn s.1 q = true → sn r.2.1 q = true
  cnt : unseen r.2.1 ≤ unseen s.1
  no : r.1 = false → r.2.2 = s.2 ∧ (∀ p ∈ ps, sn r.2.1 p = true) ∧ ∀ p, 0 ≤ p → sn r.2.1 p = true → sn s.1 p = false → ∃ h : Nat, h < ls.length ∧ has s.2 h = p ∧ ∀ q ∈ lst ls h, sn r.2.1 q = true
  yes : r.1 = true → Good P ls r.2.2 ∧ (0 ≤ has r.2.2 i.toNat ∧ sn s.1 (has r.2.2 i.toNat) = false) ∧ ∀ k, k < ls.length → has r.2.2 k = has s.2 k ∨ (0 ≤ has r.2.2 k ∧ sn s.1 (has r.2.2 k) = false)
theorem has_set {g : List Int} {i k : Nat} {p : Int} (hi : i < g.length) : has (g.set i p) k = if k = i then p else has g k := by
  unfold has
  rw [List.getElem?_set]
  by_cases h : i = k
  · subst h; simp [hi]
  · have : k ≠ i := fun e => h e.symm
    simp [h, this]
theorem good_set {P : Int} {ls : List (List Int)} {g : List Int} (hg : Good P ls g) {i : Nat} {p : Int} (hi : i < ls.length) (hp : inP P p) (hw : p ∈ lst ls i) (hfree : ∀ k, k < ls.length → k ≠ i → has g k ≠ p) : Good P ls (g.set i p) := by
  have hi' : i < g.length := by rw [hg.len]; exact hi
  refine ⟨by simp [hg.len], fun k hk => ?_, fun k hk => ?_, fun a b ha hb => ?_⟩
  · rw [has_set hi']
    split
    · have := hp.1; have := hp.2; omega
    · exact hg.rng k hk
  · rw [has_set hi']
    split
    · rename_i h; subst h; intro _; exact hw
    · exact hg.wish k hk
  · rw [has_set hi', has_set hi']
    by_cases h1 : a = i
    · by_cases h2 : b = i
      · intro _ _; omega
      · rw [if_pos h1, if_neg h2]
        intro _ h; exact absurd h.symm (hfree b hb h2)
    · by_cases h2 : b = i
      · rw [if_neg h1, if_pos h2]
        intro _ h; exact absurd h (hfree a ha h1)
      · rw [if_neg h1, if_neg h2]
        exact hg.inj a b ha hb
theorem fpos_neg {p : Int} {g : List Int} (h : fpos (fun y => decide (p = y)) g < 0) : p ∉ g := by
  intro hp
  have := (fpos_iff (fun y => decide (p = y)) g).2 (by simpa using hp)
  omega
theorem fpos_get {p : Int} {g : List Int} (h : ¬ fpos (fun y => decide (p = y)) g < 0) : ∃ k : Nat, k < g.length ∧ fpos (fun y => decide (p = y)) g = k ∧ has g k = p := by
  unfold fpos at h ⊢
  cases hf : g.findIdx? (fun y => decide (p = y)) with
  | none => rw [hf] at h; simp at h
  | some k =>
    rw [List.findIdx?_eq_some_iff_getElem] at hf
    obtain ⟨h1, h2, _⟩ := hf
    have h3 : p = g[k] := by simpa using h2
    exact ⟨k, h1, rfl, by rw [h3]; exact has_get (List.getElem?_eq_getElem h1)⟩
theorem has_mem {g : List Int} {k : Nat} (hk : k < g.length) : has g k ∈ g := by
  rw [has_get (List.getElem?_eq_getElem hk)]; exact List.getElem_mem hk
theorem goF_spec {P : Int} {ls : List (List Int)} (hls : ∀ l ∈ ls, ∀ p ∈ l, inP P p) {rec : Int → St → Bool × St} {m : Nat}
    (hrec : ∀ (i : Int) (s : St), inP ls.length i → Good P ls s.2 → s.1.length = P.toNat → unseen s.1 < m → Post P ls i (lst ls i) s (rec i s)) {i : Int} (hi : inP ls.length i) :
    ∀ (ps : List Int) (s : St), (∀ p ∈ ps, p ∈ lst ls i ∧ inP P p) → Good P ls s.2 → s.1.length = P.toNat → unseen s.1 < m + 1 → Post P ls i ps s (goF rec i ps s)
  | [], s, _, _, _, _ => ⟨rfl, fun _ _ h => h, Nat.le_refl _, fun _ => ⟨rfl, by simp [goF], fun p hp h1 h2 => by simp [goF] at h1; rw [h1] at h2; cases h2⟩, fun h => by simp [goF] at h⟩
  | p :: ps, s, hps, hg, hlen, hcnt => by
    have hi0 : ((i.toNat : Nat) : Int) = i := by have := hi.1; omega
    have hil : i.toNat < ls.length := by have := hi.1; have := hi.2; omega
    have hp := hps p (by simp)
    have ih := fun s hg hlen hcnt => goF_spec hls hrec hi ps s (fun q hq => hps q (by simp [hq])) hg hlen hcnt
    unfold goF
    by_cases hsn : sn s.1 p = true
    · rw [if_pos hsn]
      have h := ih s hg hlen hcnt
      refine ⟨h.len, h.mono, h.cnt, fun e => ?_, h.yes⟩
      obtain ⟨h1, h2, h3⟩ := h.no e
      refine ⟨h1, fun q hq => ?_, h3⟩
      rcases List.mem_cons.1 hq with rfl | hq
      · exact h.mono _ hp.2.1 hsn
      · exact h2 q hq
    · rw [if_neg hsn]
      have hsn' : sn s.1 p = false := by simpa using hsn
      have hun := unseen_set hsn'
      have hmono1 : ∀ q, 0 ≤ q → sn s.1 q = true → sn (s.1.set p.toNat true) q = true := fun q hq h => by rw [sn_set hq hp.2.1, h, Bool.or_true]
      have hself : sn (s.1.set p.toNat true) p = true := by rw [sn_set hp.2.1 hp.2.1]; simp
      by_cases hf : fpos (fun y => decide (p = y)) s.2 < 0
      · rw [if_pos hf]
        have hnot := fpos_neg hf
        have hgs := good_set hg hil hp.2 (by rw [hi0]; exact hp.1) (fun k hk _ e => hnot (by rw [← e]; exact has_mem (by rw [hg.len]; exact hk)))
        have hi' : i.toNat < s.2.length := by rw [hg.len]; exact hil
        refine ⟨by simp, hmono1, by simp only; omega, fun e => by simp at e, fun _ => ⟨hgs, ?_, fun k hk => ?_⟩⟩
        · simp only
          rw [has_set hi', if_pos rfl]
          exact ⟨hp.2.1, hsn'⟩
        · simp only
          rw [has_set hi']
          split
          · exact .inr ⟨hp.2.1, hsn'⟩
          · exact .inl rfl
      · rw [if_neg hf]
        obtain ⟨h, hh1, hh2, hh3⟩ := fpos_get hf
        have hhl : h < ls.length := by rw [← hg.len]; exact hh1
        have hR := hrec (h : Int) (s.1.set p.toNat true, s.2) ⟨by omega, by omega⟩ hg (by simp [hlen]) (by simp only; omega)
        rw [hh2]
        generalize rec (h : Int) (s.1.set p.toNat true, s.2) = r at *
        by_cases hr : r.1 = true
        · rw [if_pos hr]
          obtain ⟨y1, y2, y3⟩ := hR.yes hr
          simp only at y2 y3
          rw [Int.toNat_natCast] at y2
          have hfree : ∀ k, k < ls.length → has r.2.2 k ≠ p := fun k hk e => by
            rcases y3 k hk with h4 | h4
            · have : k = h := hg.inj k h hk hhl (by rw [← h4, e]; exact hp.2.1) (by rw [← h4, e, hh3])
              subst this
              rw [e, hself] at y2
              cases y2.2
            · rw [e, hself] at h4; cases h4.2
          have hgs := good_set y1 hil hp.2 (by rw [hi0]; exact hp.1) (fun k hk _ => hfree k hk)
          have hi' : i.toNat < r.2.2.length := by rw [y1.len]; exact hil
          refine ⟨by simp only; rw [hR.len]; simp, fun q hq hs => hR.mono q hq (hmono1 q hq hs), by have := hR.cnt; simp only at *; omega, fun e => by simp at e, fun _ => ⟨hgs, ?_, fun k hk => ?_⟩⟩
          · simp only
            rw [has_set hi', if_pos rfl]
            exact ⟨hp.2.1, hsn'⟩
          · simp only
            rw [has_set hi']
            split
            · exact .inr ⟨hp.2.1, hsn'⟩
            · rcases y3 k hk with h4 | h4
              · exact .inl h4
              · refine .inr ⟨h4.1, ?_⟩
                cases hs : sn s.1 (has r.2.2 k) with
                | false => rfl
                | true => rw [hmono1 _ h4.1 hs] at h4; cases h4.2
        · rw [if_neg hr]
          have hr' : r.1 = false := by simpa using hr
          obtain ⟨n1, n2, n3⟩ := hR.no hr'
          simp only at n1 n3
          have hc := hR.cnt
          simp only at hc
          have h := ih r.2 (by rw [n1]; exact hg) (by rw [hR.len]; simp [hlen]) (by omega)
          have hm2 : ∀ q, 0 ≤ q → sn s.1 q = true → sn r.2.1 q = true := fun q hq hs => hR.mono q hq (hmono1 q hq hs)
          refine ⟨by rw [h.len, hR.len]; simp, fun q hq hs => h.mono q hq (hm2 q hq hs), by have := h.cnt; omega, fun e => ?_, fun e => ?_⟩
          · obtain ⟨k1, k2, k3⟩ := h.no e
            refine ⟨by rw [k1, n1], fun q hq => ?_, fun q hq h1 h2 => ?_⟩
            · rcases List.mem_cons.1 hq with rfl | hq
              · exact h.mono _ hp.2.1 (hR.mono _ hp.2.1 hself)
              · exact k2 q hq
            · by_cases h3 : sn r.2.1 q = true
              · have up : ∀ (t : Nat), (∀ w ∈ lst ls t, sn r.2.1 w = true) → t < ls.length → ∀ w ∈ lst ls t, sn (goF rec i ps r.2).2.1 w = true := fun t ht htl w hw => by
                  refine h.mono w ?_ (ht w hw)
                  have hml : lst ls t ∈ ls := by
                    rw [lst_nat, List.getElem?_eq_getElem htl]; exact List.getElem_mem htl
                  exact (hls _ hml w hw).1
                by_cases h4 : q = p
                · subst h4
                  exact ⟨_, hhl, hh3, up _ n2 hhl⟩
                · obtain ⟨t, t1, t2, t3⟩ := n3 q hq h3 (by rw [sn_set hq hp.2.1, h2]; simp [h4])
                  exact ⟨t, t1, t2, up t t3 t1⟩
              · obtain ⟨t, t1, t2, t3⟩ := k3 q hq h1 (by simpa using h3)
                exact ⟨t, t1, by rw [← n1]; exact t2, t3⟩
          · obtain ⟨k1, k2, k3⟩ := h.yes e
            have unsee : ∀ q, 0 ≤ q → sn r.2.1 q = false → sn s.1 q = false := fun q hq h1 => by
              cases hs : sn s.1 q with
              | false => rfl
              | true => rw [hm2 q hq hs] at h1; cases h1
            refine ⟨k1, ⟨k2.1, unsee _ k2.1 k2.2⟩, fun k hk => ?_⟩
            rcases k3 k hk with h4 | h4
            · exact .inl (by rw [h4, n1])
            · exact .inr ⟨h4.1, unsee _ h4.1 h4.2⟩
theorem lst_in {P : Int} {ls : List (List Int)} (hls : ∀ l ∈ ls, ∀ p ∈ l, inP P p) {i : Int} {p : Int} (h : p ∈ lst ls i) : inP P p := by
  unfold lst at h
  cases hl : ls[i.toNat]? with
  | none => rw [hl] at h; simp at h
  | some l => rw [hl] at h; exact hls l (List.mem_of_getElem? hl) p h
theorem chF_spec {P : Int} {ls : List (List Int)} (hls : ∀ l ∈ ls, ∀ p ∈ l, inP P p) : ∀ (m : Nat) (i : Int) (s : St), inP ls.length i → Good P ls s.2 → s.1.length = P.toNat → unseen s.1 < m → Post P ls i (lst ls i) s (chF ls m i s)
  | 0, _, _, _, _, _, h => by omega
  | m + 1, i, s, hi, hg, hlen, hcnt => goF_spec hls (chF_spec hls m) hi (lst ls i) s (fun p hp => ⟨hp, lst_in hls hp⟩) hg hlen hcnt
/-- Owners all of whose places are held by owners among them. -/
def Stuck (ls : List (List Int)) (g : List Int) (T : Nat → Prop) : Prop := ∀ i, i < ls.length → T i → ∀ p ∈ lst ls i, ∃ h, h < ls.length ∧ T h ∧ has g h = p
/-- A list without repetition in another one that is no longer has all of it. -/
theorem nodup_cover {α : Type} [DecidableEq α] {l m : List α} (hn : l.Nodup) (h : ∀ x ∈ l, x ∈ m) (hl : m.length ≤ l.length) : ∀ x ∈ m, x ∈ l := by
  intro x hx
  rcases Decidable.em (x ∈ l) with h1 | h1
  · exact h1
  · have := nodup_len hn (m := m.erase x) (fun y hy => (List.mem_erase_of_ne (show y ≠ x from fun e => h1 (e ▸ hy))).2 (h y hy))
    rw [List.length_erase_of_mem hx] at this
    have := List.length_pos_of_mem hx
    omega
noncomputable def dec (T : Nat → Prop) (k : Nat) : Bool := @decide (T k) (Classical.propDecidable _)
theorem dec_iff {T : Nat → Prop} {k : Nat} : dec T k = true ↔ T k := by unfold dec; exact @decide_eq_true_iff _ (Classical.propDecidable _)
/-- The served ones among some, and what they wish. -/
noncomputable def svT (g : List Int) (T : Nat → Prop) : List Nat := (sv g).filter (dec T)
noncomputable def wT (P : Int) (ls : List (List Int)) (T : Nat → Prop) : List Int := (nums P.toNat).filter (fun p => @decide (∃ i, i < ls.length ∧ T i ∧ p ∈ lst ls i) (Classical.propDecidable _))
theorem mem_wT {P : Int} {ls : List (List Int)} {T : Nat → Prop} {p : Int} : p ∈ wT P ls T ↔ inP P p ∧ ∃ i, i < ls.length ∧ T i ∧ p ∈ lst ls i := by
  unfold wT inP
  rw [List.mem_filter, mem_nums]
  rw [@decide_eq_true_iff _ (Classical.propDecidable _)]
  constructor
  · rintro ⟨h1, h2⟩; exact ⟨by omega, h2⟩
  · rintro ⟨h1, h2⟩; exact ⟨by omega, h2⟩
theorem mem_svT {P : Int} {ls : List (List Int)} {g : List Int} (hg : Good P ls g) {T : Nat → Prop} {k : Nat} : k ∈ svT g T ↔ k < ls.length ∧ 0 ≤ has g k ∧ T k := by
  unfold svT
  rw [List.mem_filter, mem_sv, dec_iff, hg.len, and_assoc]
theorem nums_nodup (n : Nat) : (nums n).Nodup := by
  unfold nums
  rw [nodup_map_inj List.nodup_range]
  intro a _ b _ h
  omega
theorem svT_map_nodup {P : Int} {ls : List (List Int)} {g : List Int} (hg : Good P ls g) (T : Nat → Prop) : ((svT g T).map (has g)).Nodup := by
  rw [nodup_map_inj (show (svT g T).Nodup from List.Pairwise.filter _ (sv_nodup g))]
  intro a ha b hb h
  have ha := (mem_svT hg).1 ha
  have hb := (mem_svT hg).1 hb
  exact hg.inj a b ha.1 hb.1 ha.2.1 h
theorem svT_sub {P : Int} {ls : List (List Int)} {g : List Int} (hg : Good P ls g) (T : Nat → Prop) : ∀ p ∈ (svT g T).map (has g), p ∈ wT P ls T := by
  intro p hp
  obtain ⟨k, hk, rfl⟩ := List.mem_map.1 hp
  have hk := (mem_svT hg).1 hk
  exact mem_wT.2 ⟨⟨hk.2.1, (hg.rng k hk.1).2⟩, k, hk.1, hk.2.2, hg.wish k hk.1 hk.2.1⟩
theorem stuck_len {P : Int} {ls : List (List Int)} {g : List Int} (hg : Good P ls g) {T : Nat → Prop} (hs : Stuck ls g T) : (wT P ls T).length ≤ (svT g T).length := by
  have := nodup_len (l := wT P ls T) (m := (svT g T).map (has g)) (List.Pairwise.filter _ (nums_nodup _)) (fun p hp => by
    obtain ⟨h1, i, hi, hT, hpi⟩ := mem_wT.1 hp
    obtain ⟨h, h2, h3, h4⟩ := hs i hi hT p hpi
    exact List.mem_map.2 ⟨h, (mem_svT hg).2 ⟨h2, by rw [h4]; exact h1.1, h3⟩, h4⟩)
  simpa using this
theorem filter_len_mono {α : Type} {p q : α → Bool} {l : List α} (h : ∀ x ∈ l, p x = true → q x = true) : (l.filter p).length ≤ (l.filter q).length := by
  induction l with
  | nil => simp
  | cons a l ih =>
    have ih := ih (fun x hx => h x (by simp [hx]))
    have ha := h a (by simp)
    simp only [List.filter_cons]
    by_cases h1 : p a = true
    · rw [if_pos h1, if_pos (ha h1)]; simpa using ih
    · rw [if_neg h1]
      split
      · simp only [List.length_cons]; omega
      · exact ih
theorem svT_filter {P : Int} {ls : List (List Int)} {g : List Int} (hg : Good P ls g) (T : Nat → Prop) : svT g T = (List.range ls.length).filter (fun k => decide (0 ≤ has g k) && dec T k) := by
  unfold svT sv
  rw [List.filter_filter, hg.len]
  congr 1
  funext k
  exact Bool.and_comm _ _
theorem stuck_keep {P : Int} {ls : List (List Int)} (hls : ∀ l ∈ ls, ∀ p ∈ l, inP P p) {g g' : List Int} (hg : Good P ls g) (hg' : Good P ls g') (hk : ∀ k, k < ls.length → 0 ≤ has g k → 0 ≤ has g' k) {T : Nat → Prop} (hs : Stuck ls g T) : Stuck ls g' T := by
  have h1 := stuck_len hg hs
  have h2 : (svT g T).length ≤ (svT g' T).length := by
    rw [svT_filter hg, svT_filter hg']
    refine filter_len_mono (fun k hk' h => ?_)
    simp only [Bool.and_eq_true, decide_eq_true_eq] at h ⊢
    exact ⟨hk k (List.mem_range.1 hk') h.1, h.2⟩
  intro i hi hT p hp
  have hc := nodup_cover (svT_map_nodup hg' T) (svT_sub hg' T) (by rw [List.length_map]; omega) p
  have hin : inP P p := lst_in hls hp
  obtain ⟨k, hk1, hk2⟩ := List.mem_map.1 (hc (mem_wT.2 ⟨hin, i, hi, hT, hp⟩))
  have hk1 := (mem_svT hg').1 hk1
  exact ⟨k, hk1.1, hk1.2.2, hk2⟩
end Go.Proofs.Ytlmbobbefgcolaa

namespace Go.Proofs.Ytlmbobbefgcolaa
open Go Go.Eng
def flStep (P : Int) (ls : List (List Int)) (g : List Int) (i : Nat) : List Int := if has g i < 0 then (chF ls (P.toNat + 1) i (List.replicate P.toNat false, g)).2.2 else g
/-- A giving, filled. -/
def flF (P : Int) (ls : List (List Int)) (g : List Int) : List Int := (List.range ls.length).foldl (flStep P ls) g
theorem sn_new {P p : Int} (h : inP P p) : sn (List.replicate P.toNat false) p = false := by
  unfold sn
  rw [List.getElem?_replicate, if_pos (by have := h.1; have := h.2; omega)]
  rfl
theorem fl_step {P : Int} {ls : List (List Int)} (hls : ∀ l ∈ ls, ∀ p ∈ l, inP P p) {g : List Int} (hg : Good P ls g) {i : Nat} (hi : i < ls.length) :
    Good P ls (flStep P ls g i) ∧ (∀ k, k < ls.length → 0 ≤ has g k → 0 ≤ has (flStep P ls g i) k) ∧ (has (flStep P ls g i) i < 0 → ∃ T : Nat → Prop, T i ∧ Stuck ls (flStep P ls g i) T) := by
  unfold flStep
  by_cases h : has g i < 0
  · rw [if_pos h]
    have hpost := chF_spec hls (P.toNat + 1) i (List.replicate P.toNat false, g) ⟨by omega, by omega⟩ hg (by simp) (by simp [unseen])
    generalize chF ls (P.toNat + 1) i (List.replicate P.toNat false, g) = r at *
    by_cases hr : r.1 = true
    · obtain ⟨y1, y2, y3⟩ := hpost.yes hr
      rw [Int.toNat_natCast] at y2
      refine ⟨y1, fun k hk h0 => ?_, fun h1 => absurd y2.1 (by omega)⟩
      rcases y3 k hk with h4 | h4
      · rw [h4]; exact h0
      · exact h4.1
    · obtain ⟨n1, n2, n3⟩ := hpost.no (by simpa using hr)
      simp only at n1 n3
      rw [n1]
      refine ⟨hg, fun k _ h0 => h0, fun _ => ⟨fun k => k = i ∨ (0 ≤ has g k ∧ sn r.2.1 (has g k) = true), .inl rfl, ?_⟩⟩
      have held : ∀ p, inP P p → sn r.2.1 p = true → ∃ h : Nat, h < ls.length ∧ has g h = p ∧ ∀ q ∈ lst ls h, sn r.2.1 q = true := fun p hp hs => n3 p hp.1 hs (sn_new hp)
      intro j hj hT p hp
      have hin := lst_in hls hp
      have hseen : sn r.2.1 p = true := by
        rcases hT with rfl | ⟨h0, hs⟩
        · exact n2 p hp
        · obtain ⟨t, t1, t2, t3⟩ := held (has g j) ⟨h0, (hg.rng j hj).2⟩ hs
          have : j = t := hg.inj j t hj t1 h0 t2.symm
          subst this
          exact t3 p hp
      obtain ⟨t, t1, t2, _⟩ := held p hin hseen
      exact ⟨t, t1, .inr ⟨by rw [t2]; exact hin.1, by rw [t2]; exact hseen⟩, t2⟩
  · rw [if_neg h]
    exact ⟨hg, fun k _ h0 => h0, fun h1 => absurd h1 h⟩
theorem fl_inv {P : Int} {ls : List (List Int)} (hls : ∀ l ∈ ls, ∀ p ∈ l, inP P p) {g : List Int} (hg : Good P ls g) : ∀ k, k ≤ ls.length →
    Good P ls ((List.range k).foldl (flStep P ls) g) ∧ (∀ i, i < ls.length → 0 ≤ has g i → 0 ≤ has ((List.range k).foldl (flStep P ls) g) i) ∧ (∀ i, i < k → has ((List.range k).foldl (flStep P ls) g) i < 0 → ∃ T : Nat → Prop, T i ∧ Stuck ls ((List.range k).foldl (flStep P ls) g) T)
  | 0, _ => ⟨hg, fun _ _ h => h, fun i h => by omega⟩
  | k + 1, hk => by
    obtain ⟨h1, h2, h3⟩ := fl_inv hls hg k (by omega)
    rw [List.range_succ, List.foldl_append, List.foldl_cons, List.foldl_nil]
    generalize (List.range k).foldl (flStep P ls) g = gk at *
    obtain ⟨s1, s2, s3⟩ := fl_step hls h1 (show k < ls.length by omega)
    refine ⟨s1, fun i hi h0 => s2 i hi (h2 i hi h0), fun i hi hn => ?_⟩
    by_cases hik : i = k
    · subst hik; exact s3 hn
    · have hn' : has gk i < 0 := by
        rcases Int.lt_or_le (has gk i) 0 with h | h
        · exact h
        · have := s2 i (by omega) h; omega
      obtain ⟨T, t1, t2⟩ := h3 i (by omega) hn'
      exact ⟨T, t1, stuck_keep hls h1 s1 s2 t2⟩
theorem stuck_max {P : Int} {ls : List (List Int)} {g : List Int} (hg : Good P ls g) {T : Nat → Prop} (hs : Stuck ls g T) (hT : ∀ i, i < ls.length → has g i < 0 → T i) {g2 : List Int} (hg2 : Good P ls g2) : srv g2 ≤ srv g := by
  have h1 := stuck_len hg hs
  have h2 : (svT g2 T).length ≤ (wT P ls T).length := by
    have := nodup_len (svT_map_nodup hg2 T) (svT_sub hg2 T)
    rwa [List.length_map] at this
  have e1 := filter_split (dec T) (sv g)
  have e2 := filter_split (dec T) (sv g2)
  have h3 : ((sv g2).filter (fun x => !dec T x)).length ≤ ((List.range ls.length).filter (fun x => !dec T x)).length := by
    unfold sv
    rw [List.filter_filter, hg2.len]
    exact filter_len_mono (fun x _ h => by simp only [Bool.and_eq_true] at h; exact h.1)
  have h4 : ((List.range ls.length).filter (fun x => !dec T x)).length ≤ ((sv g).filter (fun x => !dec T x)).length := by
    unfold sv
    rw [List.filter_filter, hg.len]
    refine filter_len_mono (fun x hx h => ?_)
    simp only [Bool.and_eq_true, decide_eq_true_eq]
    refine ⟨h, ?_⟩
    rcases Int.lt_or_le (has g x) 0 with h5 | h5
    · have := dec_iff.2 (hT x (List.mem_range.1 hx) h5)
      rw [this] at h; cases h
    · exact h5
  rw [srv_sv, srv_sv, e1, e2]
  show (svT g2 T).length + _ ≤ (svT g T).length + _
  omega
theorem stuck_union {ls : List (List Int)} {g : List Int} : Stuck ls g (fun k => ∃ T : Nat → Prop, Stuck ls g T ∧ T k) := by
  rintro i hi ⟨T, hT, hTi⟩ p hp
  obtain ⟨h, h1, h2, h3⟩ := hT i hi hTi p hp
  exact ⟨h, h1, ⟨T, hT, h2⟩, h3⟩
theorem fl_max {P : Int} {ls : List (List Int)} (hls : ∀ l ∈ ls, ∀ p ∈ l, inP P p) {g : List Int} (hg : Good P ls g) :
    Good P ls (flF P ls g) ∧ (∀ i, i < ls.length → 0 ≤ has g i → 0 ≤ has (flF P ls g) i) ∧ ∀ g2, Good P ls g2 → srv g2 ≤ srv (flF P ls g) := by
  obtain ⟨h1, h2, h3⟩ := fl_inv hls hg ls.length (Nat.le_refl _)
  refine ⟨h1, h2, fun g2 hg2 => stuck_max h1 stuck_union (fun i hi hn => ?_) hg2⟩
  obtain ⟨T, t1, t2⟩ := h3 i hi hn
  exact ⟨T, t2, t1⟩
theorem good_none (P : Int) (hP : 0 ≤ P) (ls : List (List Int)) : Good P ls (List.replicate ls.length (-1)) := by
  have h : ∀ k, has (List.replicate ls.length (-1)) k = -1 := by
    intro k
    unfold has
    rw [List.getElem?_replicate]
    split <;> rfl
  refine ⟨by simp, fun k _ => by rw [h]; omega, fun k _ h0 => by rw [h] at h0; omega, fun i j _ _ h0 => by rw [h] at h0; omega⟩
/-- The most. -/
def most (P : Int) (ls : List (List Int)) : Nat := srv (flF P ls (List.replicate ls.length (-1)))
theorem most_spec {P : Int} (hP : 0 ≤ P) {ls : List (List Int)} (hls : ∀ l ∈ ls, ∀ p ∈ l, inP P p) : (∃ g, Good P ls g ∧ srv g = most P ls) ∧ ∀ g, Good P ls g → srv g ≤ most P ls := by
  obtain ⟨h1, _, h3⟩ := fl_max hls (good_none P hP ls)
  exact ⟨⟨_, h1, rfl⟩, h3⟩
end Go.Proofs.Ytlmbobbefgcolaa

namespace Go.Proofs.Ytlmbobbefgcolaa
open Go Go.Eng
/-- How many bits. -/
def pc (s : Nat) : Nat := if h : s = 0 then 0 else s % 2 + pc (s / 2)
termination_by s
/-- A giving to the first owners. -/
structure Pre (ls : List (List Int)) (wo : Int) (i : Nat) (g : List Int) : Prop where
  len : g.length = i
  low : ∀ k, k < i → -1 ≤ has g k
  wish : ∀ k, k < i → 0 ≤ has g k → has g k ∈ lst ls k ∧ (k : Int) ≠ wo
  inj : ∀ a b, a < i → b < i → 0 ≤ has g a → has g a = has g b → a = b
/-- The greatest number of bits of those that can be given. -/
def mb (f : Nat → Bool) : Nat → Nat
  | 0 => 0
  | s + 1 => if f s = true then max (mb f s) (pc s) else mb f s
end Go.Proofs.Ytlmbobbefgcolaa

