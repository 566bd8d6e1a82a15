/- What the law's proof rests on, part 3: for all that is said in each line. No conditions. -/
import Derived.Test.YtgidfejkfdkflaaRows
import Derived.Test.YtgidfejkfdkflaaEnB
namespace Go.Proofs.Ytgidfejkfdkflaa
open Go Go.Eng
/-- selion/swap.Ranks [loop [0, 7, 16, 17, 18]] -/
def m4 : MFun := ⟨34, [], [.mov (.s 4), .mov (.s 5)],
 .seq (.ops [⟨(some 4), some undefA, none, false, .pu (.mov (.c (.nilS)))⟩,
   ⟨(some 5), some undefA, none, false, .pu (.mov (.c (.int .i64 0)))⟩])
 (.seq (.seq (.ops [⟨(some 10), some undefA, none, false, .pu (.mov (.s 0))⟩,
   ⟨(some 11), some undefA, none, false, .pu (.mov (.s 1))⟩,
   ⟨(some 12), some undefA, none, false, .call 17 [(.s 10), (.s 11)]⟩,
   ⟨(some 6), some undefA, none, false, .pu (.mov (.s 12))⟩])
 (.seq (.ops [⟨(some 13), some undefA, none, false, .pu (.mov (.s 6))⟩,
   ⟨(some 14), some undefA, none, false, .pu (.bin .neq (.s 13) (.c (.int .i64 0)))⟩])
 (.cond (.s 14) (.seq (.ops [⟨(some 15), some undefA, none, false, .pu (.mov (.s 6))⟩,
    ⟨(some 4), some undefA, none, false, .pu (.mov (.c (.nilS)))⟩,
    ⟨(some 5), some undefA, none, false, .pu (.mov (.s 15))⟩])
  (.ret))
 (.skip))))
 (.seq (.ops [⟨(some 7), some undefA, none, false, .pu (.mov (.c (.nilS)))⟩])
 (.seq (.seq (.ops [⟨(some 16), some undefA, none, false, .pu (.mov (.s 1))⟩,
   ⟨(some 17), some undefA, none, false, .pu (.len (.s 16))⟩,
   ⟨(some 18), some undefA, none, false, .pu (.mov (.c (.int .i64 0)))⟩])
 (.block 0 (.loop (.seq (.ops [⟨(some 19), some undefA, none, false, .pu (.bin .lss (.s 18) (.s 17))⟩])
   (.seq (.cond (.s 19) (.skip)
   (.exit 0))
   (.seq (.block 1 (.seq (.ops [⟨(some 20), some undefA, none, false, .pu (.mov (.s 18))⟩,
      ⟨(some 21), some undefA, none, false, .pu (.idx 1 (.s 16) (.s 18))⟩,
      ⟨(some 22), some undefA, none, false, .ld (.ld 1 false (.s 21))⟩,
      ⟨(some 8), some undefA, none, false, .pu (.mov (.s 20))⟩,
      ⟨(some 9), some undefA, none, false, .pu (.mov (.s 22))⟩])
    (.ops [⟨(some 23), some undefA, none, false, .pu (.mov (.s 7))⟩,
      ⟨(some 24), some undefA, none, false, .pu (.mov (.s 0))⟩,
      ⟨(some 25), some undefA, none, false, .pu (.mov (.s 8))⟩,
      ⟨(some 26), some undefA, none, false, .pu (.idx 1 (.s 24) (.s 25))⟩,
      ⟨(some 27), some undefA, none, false, .ld (.ld 1 false (.s 26))⟩,
      ⟨(some 28), some undefA, none, false, .pu (.mov (.s 9))⟩,
      ⟨(some 29), some undefA, none, false, .call 18 [(.s 27), (.s 28)]⟩,
      ⟨(some 30), some undefA, none, false, .ha (.blds 1 1 [.int .i64 0] [(0, 1, (.s 29))])⟩,
      ⟨(some 31), some undefA, none, false, .ha (.app 1 (.s 23) (.s 30))⟩,
      ⟨(some 7), some undefA, none, false, .pu (.mov (.s 31))⟩])))
   (.ops [⟨(some 32), some undefA, none, false, .pu (.bin .add (.s 18) (.c (.int .i64 1)))⟩,
     ⟨(some 18), some undefA, none, false, .pu (.mov (.s 32))⟩])))))))
 (.seq (.ops [⟨(some 33), some undefA, none, false, .pu (.mov (.s 7))⟩,
   ⟨(some 4), some undefA, none, false, .pu (.mov (.s 33))⟩,
   ⟨(some 5), some undefA, none, false, .pu (.mov (.c (.int .i64 0)))⟩])
 (.ret)))))⟩
theorem t4 : trF Try.prog [] [] Try.f4 = some m4 := by kernel_rfl
/-- selion/selionref01.SameInts [loop [0, 1, 5]] -/
def m5 : MFun := ⟨26, [], [.mov (.s 4)],
 .seq (.ops [⟨(some 4), some undefA, none, false, .pu (.mov (.c (.bool false)))⟩])
 (.seq (.seq (.ops [⟨(some 6), some undefA, none, false, .pu (.mov (.s 0))⟩,
   ⟨(some 7), some undefA, none, false, .pu (.len (.s 6))⟩,
   ⟨(some 8), some undefA, none, false, .pu (.mov (.s 1))⟩,
   ⟨(some 9), some undefA, none, false, .pu (.len (.s 8))⟩,
   ⟨(some 10), some undefA, none, false, .pu (.bin .neq (.s 7) (.s 9))⟩])
 (.cond (.s 10) (.seq (.ops [⟨(some 4), some undefA, none, false, .pu (.mov (.c (.bool false)))⟩])
  (.ret))
 (.skip)))
 (.seq (.seq (.ops [⟨(some 5), some undefA, none, false, .pu (.mov (.c (.int .i64 0)))⟩])
 (.block 0 (.loop (.seq (.seq (.ops [⟨(some 11), some undefA, none, false, .pu (.mov (.s 5))⟩,
     ⟨(some 12), some undefA, none, false, .pu (.mov (.s 0))⟩,
     ⟨(some 13), some undefA, none, false, .pu (.len (.s 12))⟩,
     ⟨(some 14), some undefA, none, false, .pu (.bin .lss (.s 11) (.s 13))⟩])
   (.cond (.s 14) (.skip)
   (.exit 0)))
   (.seq (.block 1 (.seq (.ops [⟨(some 17), some undefA, none, true, .pu (.mov (.s 0))⟩,
      ⟨(some 18), some undefA, none, true, .pu (.mov (.s 5))⟩,
      ⟨(some 19), some undefA, none, true, .pu (.idx 1 (.s 17) (.s 18))⟩,
      ⟨(some 20), some undefA, none, true, .ld (.ld 1 false (.s 19))⟩,
      ⟨(some 21), some undefA, none, true, .pu (.mov (.s 1))⟩,
      ⟨(some 22), some undefA, none, true, .pu (.mov (.s 5))⟩,
      ⟨(some 23), some undefA, none, true, .pu (.idx 1 (.s 21) (.s 22))⟩,
      ⟨(some 24), some undefA, none, true, .ld (.ld 1 false (.s 23))⟩,
      ⟨(some 25), some undefA, none, false, .pu (.bin .neq (.s 20) (.s 24))⟩])
    (.cond (.s 25) (.seq (.ops [⟨(some 4), some undefA, none, false, .pu (.mov (.c (.bool false)))⟩])
     (.ret))
    (.skip))))
   (.ops [⟨(some 15), some undefA, none, false, .pu (.mov (.s 5))⟩,
     ⟨(some 16), some undefA, none, false, .pu (.bin .add (.s 15) (.c (.int .i64 1)))⟩,
     ⟨(some 5), some undefA, none, false, .pu (.mov (.s 16))⟩]))))))
 (.seq (.ops [⟨(some 4), some undefA, none, false, .pu (.mov (.c (.bool true)))⟩])
 (.ret))))⟩
theorem t5 : trF Try.prog [] [] Try.f5 = some m5 := by kernel_rfl
/-- selion/selionlaw05.Long [loop [0, 3]] -/
def m6 : MFun := ⟨18, [], [.mov (.s 2)],
 .seq (.ops [⟨(some 2), some undefA, none, false, .pu (.mov (.c (.bool false)))⟩])
 (.seq (.seq (.ops [⟨(some 3), some undefA, none, false, .pu (.mov (.c (.int .i64 0)))⟩])
 (.block 0 (.loop (.seq (.seq (.ops [⟨(some 4), some undefA, none, false, .pu (.mov (.s 3))⟩,
     ⟨(some 5), some undefA, none, false, .pu (.mov (.s 0))⟩,
     ⟨(some 6), some undefA, none, false, .pu (.len (.s 5))⟩,
     ⟨(some 7), some undefA, none, false, .pu (.bin .lss (.s 4) (.s 6))⟩])
   (.cond (.s 7) (.skip)
   (.exit 0)))
   (.seq (.block 1 (.seq (.ops [⟨(some 10), some undefA, none, false, .pu (.mov (.s 0))⟩,
      ⟨(some 11), some undefA, none, false, .pu (.mov (.s 3))⟩,
      ⟨(some 12), some undefA, none, false, .pu (.idx 1 (.s 10) (.s 11))⟩,
      ⟨(some 13), some undefA, none, false, .ld (.ld 1 false (.s 12))⟩,
      ⟨(some 14), some undefA, none, false, .call 19 [(.s 13)]⟩])
    (.cond (.s 14) (.seq (.ops [⟨(some 2), some undefA, none, false, .pu (.mov (.c (.bool true)))⟩])
     (.ret))
    (.skip))))
   (.ops [⟨(some 8), some undefA, none, false, .pu (.mov (.s 3))⟩,
     ⟨(some 9), some undefA, none, false, .pu (.bin .add (.s 8) (.c (.int .i64 1)))⟩,
     ⟨(some 3), some undefA, none, false, .pu (.mov (.s 9))⟩]))))))
 (.seq (.ops [⟨(some 15), some undefA, none, false, .pu (.mov (.s 0))⟩,
   ⟨(some 16), some undefA, none, false, .pu (.len (.s 15))⟩,
   ⟨(some 17), some undefA, none, false, .pu (.bin .gtr (.s 16) (.c (.int .i64 40)))⟩,
   ⟨(some 2), some undefA, none, false, .pu (.mov (.s 17))⟩])
 (.ret)))⟩
theorem t6 : trF Try.prog [] [] Try.f6 = some m6 := by kernel_rfl
/-- selion/swap.Trade [] -/
def m7 : MFun := ⟨12, [], [.mov (.s 2), .mov (.s 3)],
 .seq (.ops [⟨(some 2), some undefA, none, false, .pu (.mov (.c (.nilS)))⟩,
   ⟨(some 3), some undefA, none, false, .pu (.mov (.c (.int .i64 0)))⟩])
 (.seq (.seq (.ops [⟨(some 5), some undefA, none, false, .pu (.mov (.s 0))⟩,
   ⟨(some 6), some undefA, none, false, .call 8 [(.s 5)]⟩,
   ⟨(some 4), some undefA, none, false, .pu (.mov (.s 6))⟩])
 (.seq (.ops [⟨(some 7), some undefA, none, false, .pu (.mov (.s 4))⟩,
   ⟨(some 8), some undefA, none, false, .pu (.bin .neq (.s 7) (.c (.int .i64 0)))⟩])
 (.cond (.s 8) (.seq (.ops [⟨(some 9), some undefA, none, false, .pu (.mov (.s 4))⟩,
    ⟨(some 2), some undefA, none, false, .pu (.mov (.c (.nilS)))⟩,
    ⟨(some 3), some undefA, none, false, .pu (.mov (.s 9))⟩])
  (.ret))
 (.skip))))
 (.seq (.ops [⟨(some 10), some undefA, none, false, .pu (.mov (.s 0))⟩,
   ⟨(some 11), some undefA, none, false, .call 20 [(.s 10)]⟩,
   ⟨(some 2), some undefA, none, false, .pu (.mov (.s 11))⟩,
   ⟨(some 3), some undefA, none, false, .pu (.mov (.c (.int .i64 0)))⟩])
 (.ret)))⟩
theorem t7 : trF Try.prog [] [] Try.f7 = some m7 := by kernel_rfl
/-- selion/swap.Validate [] -/
def m8 : MFun := ⟨16, [], [.mov (.s 2)],
 .seq (.ops [⟨(some 1), some undefA, none, false, .ha (.newv (.s 0))⟩,
   ⟨(some 2), some undefA, none, false, .pu (.mov (.c (.int .i64 0)))⟩])
 (.seq (.seq (.ops [⟨(some 3), some undefA, none, false, .ld (.ld 1 false (.s 1))⟩,
   ⟨(some 4), some undefA, none, false, .pu (.len (.s 3))⟩,
   ⟨(some 5), some undefA, none, false, .pu (.bin .lss (.s 4) (.c (.int .i64 1)))⟩,
   ⟨(some 6), some undefA, none, false, .pu (.mov (.s 5))⟩,
   ⟨(some 7), some undefA, (some (6, false)), false, .ld (.ld 1 false (.s 1))⟩,
   ⟨(some 8), some undefA, (some (6, false)), false, .pu (.len (.s 7))⟩,
   ⟨(some 9), some undefA, (some (6, false)), false, .pu (.bin .gtr (.s 8) (.c (.int .i64 5)))⟩,
   ⟨(some 10), some undefA, none, false, .pu (.pick (.s 6) (.c (.bool true)) (.s 9))⟩,
   ⟨(some 11), some undefA, none, false, .pu (.mov (.s 10))⟩,
   ⟨(some 12), some undefA, (some (11, false)), false, .ld (.ld 1 false (.s 1))⟩,
   ⟨(some 13), some undefA, (some (11, false)), false, .pu (.mkf 22 [(.s 1)])⟩,
   ⟨(some 14), some undefA, (some (11, false)), false, .call 21 [(.s 12), (.s 13)]⟩,
   ⟨(some 15), some undefA, none, false, .pu (.pick (.s 11) (.c (.bool true)) (.s 14))⟩])
 (.cond (.s 15) (.seq (.ops [⟨(some 2), some undefA, none, false, .pu (.mov (.c (.int .i64 1)))⟩])
  (.ret))
 (.skip)))
 (.seq (.ops [⟨(some 2), some undefA, none, false, .pu (.mov (.c (.int .i64 0)))⟩])
 (.ret)))⟩
theorem t8 : trF Try.prog [] [] Try.f8 = some m8 := by kernel_rfl
/-- selion/swap.IsStable [] -/
def m9 : MFun := ⟨25, [], [.mov (.s 4), .mov (.s 5)],
 .seq (.ops [⟨(some 4), some undefA, none, false, .pu (.mov (.c (.bool false)))⟩,
   ⟨(some 5), some undefA, none, false, .pu (.mov (.c (.int .i64 0)))⟩])
 (.seq (.seq (.ops [⟨(some 10), some undefA, none, false, .pu (.mov (.s 0))⟩,
   ⟨(some 11), some undefA, none, false, .pu (.mov (.s 1))⟩,
   ⟨(some 12), some undefA, none, false, .call 17 [(.s 10), (.s 11)]⟩,
   ⟨(some 6), some undefA, none, false, .pu (.mov (.s 12))⟩])
 (.seq (.ops [⟨(some 13), some undefA, none, false, .pu (.mov (.s 6))⟩,
   ⟨(some 14), some undefA, none, false, .pu (.bin .neq (.s 13) (.c (.int .i64 0)))⟩])
 (.cond (.s 14) (.seq (.ops [⟨(some 15), some undefA, none, false, .pu (.mov (.s 6))⟩,
    ⟨(some 4), some undefA, none, false, .pu (.mov (.c (.bool false)))⟩,
    ⟨(some 5), some undefA, none, false, .pu (.mov (.s 15))⟩])
  (.ret))
 (.skip))))
 (.seq (.ops [⟨(some 17), some undefA, none, false, .pu (.mov (.s 0))⟩,
   ⟨(some 18), some undefA, none, false, .pu (.mov (.s 1))⟩,
   ⟨(some 19), some undefA, none, false, .call 24 [(.s 17), (.s 18)]⟩,
   ⟨(some 16), some undefA, none, false, .pu (.mov (.s 19))⟩,
   ⟨(some 20), some undefA, none, false, .pu (.extr 0 (.s 16))⟩,
   ⟨(some 21), some undefA, none, false, .pu (.extr 1 (.s 16))⟩,
   ⟨(some 22), some undefA, none, false, .pu (.extr 2 (.s 16))⟩,
   ⟨(some 7), some undefA, none, false, .pu (.mov (.s 20))⟩,
   ⟨(some 8), some undefA, none, false, .pu (.mov (.s 21))⟩,
   ⟨(some 9), some undefA, none, false, .pu (.mov (.s 22))⟩])
 (.seq (.ops [⟨(some 23), some undefA, none, false, .pu (.mov (.s 9))⟩,
   ⟨(some 24), some undefA, none, false, .pu (.not (.s 23))⟩,
   ⟨(some 4), some undefA, none, false, .pu (.mov (.s 24))⟩,
   ⟨(some 5), some undefA, none, false, .pu (.mov (.c (.int .i64 0)))⟩])
 (.ret))))⟩
theorem t9 : trF Try.prog [] [] Try.f9 = some m9 := by kernel_rfl
/-- selion/swap.IsWilling [loop [0, 15, 16, 17]] -/
def m10 : MFun := ⟨28, [], [.mov (.s 4), .mov (.s 5)],
 .seq (.ops [⟨(some 4), some undefA, none, false, .pu (.mov (.c (.bool false)))⟩,
   ⟨(some 5), some undefA, none, false, .pu (.mov (.c (.int .i64 0)))⟩])
 (.seq (.seq (.ops [⟨(some 9), some undefA, none, false, .pu (.mov (.s 0))⟩,
   ⟨(some 10), some undefA, none, false, .pu (.mov (.s 1))⟩,
   ⟨(some 11), some undefA, none, false, .call 17 [(.s 9), (.s 10)]⟩,
   ⟨(some 6), some undefA, none, false, .pu (.mov (.s 11))⟩])
 (.seq (.ops [⟨(some 12), some undefA, none, false, .pu (.mov (.s 6))⟩,
   ⟨(some 13), some undefA, none, false, .pu (.bin .neq (.s 12) (.c (.int .i64 0)))⟩])
 (.cond (.s 13) (.seq (.ops [⟨(some 14), some undefA, none, false, .pu (.mov (.s 6))⟩,
    ⟨(some 4), some undefA, none, false, .pu (.mov (.c (.bool false)))⟩,
    ⟨(some 5), some undefA, none, false, .pu (.mov (.s 14))⟩])
  (.ret))
 (.skip))))
 (.seq (.seq (.ops [⟨(some 15), some undefA, none, false, .pu (.mov (.s 1))⟩,
   ⟨(some 16), some undefA, none, false, .pu (.len (.s 15))⟩,
   ⟨(some 17), some undefA, none, false, .pu (.mov (.c (.int .i64 0)))⟩])
 (.block 0 (.loop (.seq (.ops [⟨(some 18), some undefA, none, false, .pu (.bin .lss (.s 17) (.s 16))⟩])
   (.seq (.cond (.s 18) (.skip)
   (.exit 0))
   (.seq (.block 1 (.seq (.ops [⟨(some 19), some undefA, none, false, .pu (.mov (.s 17))⟩,
      ⟨(some 20), some undefA, none, false, .pu (.idx 1 (.s 15) (.s 17))⟩,
      ⟨(some 21), some undefA, none, false, .ld (.ld 1 false (.s 20))⟩,
      ⟨(some 7), some undefA, none, false, .pu (.mov (.s 19))⟩,
      ⟨(some 8), some undefA, none, false, .pu (.mov (.s 21))⟩])
    (.seq (.ops [⟨(some 22), some undefA, none, false, .pu (.mov (.s 0))⟩,
      ⟨(some 23), some undefA, none, false, .pu (.mov (.s 7))⟩,
      ⟨(some 24), some undefA, none, false, .pu (.mov (.s 7))⟩,
      ⟨(some 25), some undefA, none, false, .pu (.mov (.s 8))⟩,
      ⟨(some 26), some undefA, none, false, .call 25 [(.s 22), (.s 23), (.s 24), (.s 25)]⟩])
    (.cond (.s 26) (.seq (.ops [⟨(some 4), some undefA, none, false, .pu (.mov (.c (.bool false)))⟩,
       ⟨(some 5), some undefA, none, false, .pu (.mov (.c (.int .i64 0)))⟩])
     (.ret))
    (.skip)))))
   (.ops [⟨(some 27), some undefA, none, false, .pu (.bin .add (.s 17) (.c (.int .i64 1)))⟩,
     ⟨(some 17), some undefA, none, false, .pu (.mov (.s 27))⟩])))))))
 (.seq (.ops [⟨(some 4), some undefA, none, false, .pu (.mov (.c (.bool true)))⟩,
   ⟨(some 5), some undefA, none, false, .pu (.mov (.c (.int .i64 0)))⟩])
 (.ret))))⟩
theorem t10 : trF Try.prog [] [] Try.f10 = some m10 := by kernel_rfl
/-- selion/swap.CheckDeal [] -/
def m11 : MFun := ⟨8, [], [.mov (.s 4)],
 .seq (.ops [⟨(some 4), some undefA, none, false, .pu (.mov (.c (.int .i64 0)))⟩])
 (.seq (.ops [⟨(some 5), some undefA, none, false, .pu (.mov (.s 0))⟩,
   ⟨(some 6), some undefA, none, false, .pu (.mov (.s 1))⟩,
   ⟨(some 7), some undefA, none, false, .call 17 [(.s 5), (.s 6)]⟩,
   ⟨(some 4), some undefA, none, false, .pu (.mov (.s 7))⟩])
 (.ret))⟩
theorem t11 : trF Try.prog [] [] Try.f11 = some m11 := by kernel_rfl
/-- selion/swap.Improve [] -/
def m12 : MFun := ⟨24, [], [.mov (.s 4), .mov (.s 5), .mov (.s 6)],
 .seq (.ops [⟨(some 4), some undefA, none, false, .pu (.mov (.c (.nilS)))⟩,
   ⟨(some 5), some undefA, none, false, .pu (.mov (.c (.bool false)))⟩,
   ⟨(some 6), some undefA, none, false, .pu (.mov (.c (.int .i64 0)))⟩])
 (.seq (.seq (.ops [⟨(some 10), some undefA, none, false, .pu (.mov (.s 0))⟩,
   ⟨(some 11), some undefA, none, false, .pu (.mov (.s 1))⟩,
   ⟨(some 12), some undefA, none, false, .call 17 [(.s 10), (.s 11)]⟩,
   ⟨(some 7), some undefA, none, false, .pu (.mov (.s 12))⟩])
 (.seq (.ops [⟨(some 13), some undefA, none, false, .pu (.mov (.s 7))⟩,
   ⟨(some 14), some undefA, none, false, .pu (.bin .neq (.s 13) (.c (.int .i64 0)))⟩])
 (.cond (.s 14) (.seq (.ops [⟨(some 15), some undefA, none, false, .pu (.mov (.s 7))⟩,
    ⟨(some 4), some undefA, none, false, .pu (.mov (.c (.nilS)))⟩,
    ⟨(some 5), some undefA, none, false, .pu (.mov (.c (.bool false)))⟩,
    ⟨(some 6), some undefA, none, false, .pu (.mov (.s 15))⟩])
  (.ret))
 (.skip))))
 (.seq (.ops [⟨(some 17), some undefA, none, false, .pu (.mov (.s 0))⟩,
   ⟨(some 18), some undefA, none, false, .pu (.mov (.s 1))⟩,
   ⟨(some 19), some undefA, none, false, .call 26 [(.s 17), (.s 18)]⟩,
   ⟨(some 16), some undefA, none, false, .pu (.mov (.s 19))⟩,
   ⟨(some 20), some undefA, none, false, .pu (.extr 0 (.s 16))⟩,
   ⟨(some 21), some undefA, none, false, .pu (.extr 1 (.s 16))⟩,
   ⟨(some 8), some undefA, none, false, .pu (.mov (.s 20))⟩,
   ⟨(some 9), some undefA, none, false, .pu (.mov (.s 21))⟩])
 (.seq (.ops [⟨(some 22), some undefA, none, false, .pu (.mov (.s 8))⟩,
   ⟨(some 23), some undefA, none, false, .pu (.mov (.s 9))⟩,
   ⟨(some 4), some undefA, none, false, .pu (.mov (.s 22))⟩,
   ⟨(some 5), some undefA, none, false, .pu (.mov (.s 23))⟩,
   ⟨(some 6), some undefA, none, false, .pu (.mov (.c (.int .i64 0)))⟩])
 (.ret))))⟩
theorem t12 : trF Try.prog [] [] Try.f12 = some m12 := by kernel_rfl
/-- selion/selionref01.Sum [loop [0, 3, 4]] -/
def m13 : MFun := ⟨18, [], [.mov (.s 2)],
 .seq (.ops [⟨(some 2), some undefA, none, false, .pu (.mov (.c (.int .i64 0)))⟩])
 (.seq (.ops [⟨(some 3), some undefA, none, false, .pu (.mov (.c (.int .i64 0)))⟩])
 (.seq (.seq (.ops [⟨(some 4), some undefA, none, false, .pu (.mov (.c (.int .i64 0)))⟩])
 (.block 0 (.loop (.seq (.seq (.ops [⟨(some 5), some undefA, none, false, .pu (.mov (.s 4))⟩,
     ⟨(some 6), some undefA, none, false, .pu (.mov (.s 0))⟩,
     ⟨(some 7), some undefA, none, false, .pu (.len (.s 6))⟩,
     ⟨(some 8), some undefA, none, false, .pu (.bin .lss (.s 5) (.s 7))⟩])
   (.cond (.s 8) (.skip)
   (.exit 0)))
   (.seq (.block 1 (.ops [⟨(some 11), some undefA, none, false, .pu (.mov (.s 3))⟩,
      ⟨(some 12), some undefA, none, false, .pu (.mov (.s 0))⟩,
      ⟨(some 13), some undefA, none, false, .pu (.mov (.s 4))⟩,
      ⟨(some 14), some undefA, none, false, .pu (.idx 1 (.s 12) (.s 13))⟩,
      ⟨(some 15), some undefA, none, false, .ld (.ld 1 false (.s 14))⟩,
      ⟨(some 16), some undefA, none, false, .pu (.bin .add (.s 11) (.s 15))⟩,
      ⟨(some 3), some undefA, none, false, .pu (.mov (.s 16))⟩]))
   (.ops [⟨(some 9), some undefA, none, false, .pu (.mov (.s 4))⟩,
     ⟨(some 10), some undefA, none, false, .pu (.bin .add (.s 9) (.c (.int .i64 1)))⟩,
     ⟨(some 4), some undefA, none, false, .pu (.mov (.s 10))⟩]))))))
 (.seq (.ops [⟨(some 17), some undefA, none, false, .pu (.mov (.s 3))⟩,
   ⟨(some 2), some undefA, none, false, .pu (.mov (.s 17))⟩])
 (.ret))))⟩
theorem t13 : trF Try.prog [] [] Try.f13 = some m13 := by kernel_rfl
/-- selion/swap.IsPick [] -/
def m14 : MFun := ⟨18, [], [.mov (.s 4), .mov (.s 5)],
 .seq (.ops [⟨(some 2), some undefA, none, false, .ha (.newv (.s 0))⟩,
   ⟨(some 3), some undefA, none, false, .ha (.newv (.s 1))⟩,
   ⟨(some 4), some undefA, none, false, .pu (.mov (.c (.bool false)))⟩,
   ⟨(some 5), some undefA, none, false, .pu (.mov (.c (.int .i64 0)))⟩])
 (.seq (.seq (.ops [⟨(some 7), some undefA, none, false, .ld (.ld 1 false (.s 2))⟩,
   ⟨(some 8), some undefA, none, false, .ld (.ld 1 false (.s 3))⟩,
   ⟨(some 9), some undefA, none, false, .call 17 [(.s 7), (.s 8)]⟩,
   ⟨(some 6), some undefA, none, false, .pu (.mov (.s 9))⟩])
 (.seq (.ops [⟨(some 10), some undefA, none, false, .pu (.mov (.s 6))⟩,
   ⟨(some 11), some undefA, none, false, .pu (.bin .neq (.s 10) (.c (.int .i64 0)))⟩])
 (.cond (.s 11) (.seq (.ops [⟨(some 12), some undefA, none, false, .pu (.mov (.s 6))⟩,
    ⟨(some 4), some undefA, none, false, .pu (.mov (.c (.bool false)))⟩,
    ⟨(some 5), some undefA, none, false, .pu (.mov (.s 12))⟩])
  (.ret))
 (.skip))))
 (.seq (.ops [⟨(some 13), some undefA, none, false, .ld (.ld 1 false (.s 2))⟩,
   ⟨(some 14), some undefA, none, false, .call 28 [(.s 13)]⟩,
   ⟨(some 15), some undefA, none, false, .call 27 [(.s 14)]⟩,
   ⟨(some 16), some undefA, none, false, .pu (.mkf 29 [(.s 2), (.s 3)])⟩,
   ⟨(some 17), some undefA, none, false, .call 21 [(.s 15), (.s 16)]⟩,
   ⟨(some 4), some undefA, none, false, .pu (.mov (.s 17))⟩,
   ⟨(some 5), some undefA, none, false, .pu (.mov (.c (.int .i64 0)))⟩])
 (.ret)))⟩
theorem t14 : trF Try.prog [] [] Try.f14 = some m14 := by kernel_rfl
/-- selion/swap.Lie [loop [1, 2, 9, 30, 31, 32]] -/
def m15 : MFun := ⟨48, [], [.mov (.s 6), .mov (.s 7)],
 .seq (.ops [⟨(some 6), some undefA, none, false, .pu (.mov (.c (.nilS)))⟩,
   ⟨(some 7), some undefA, none, false, .pu (.mov (.c (.int .i64 0)))⟩])
 (.seq (.seq (.ops [⟨(some 12), some undefA, none, false, .pu (.mov (.s 0))⟩,
   ⟨(some 13), some undefA, none, false, .call 8 [(.s 12)]⟩,
   ⟨(some 8), some undefA, none, false, .pu (.mov (.s 13))⟩])
 (.seq (.ops [⟨(some 14), some undefA, none, false, .pu (.mov (.s 8))⟩,
   ⟨(some 15), some undefA, none, false, .pu (.bin .neq (.s 14) (.c (.int .i64 0)))⟩])
 (.cond (.s 15) (.seq (.ops [⟨(some 16), some undefA, none, false, .pu (.mov (.s 8))⟩,
    ⟨(some 6), some undefA, none, false, .pu (.mov (.c (.nilS)))⟩,
    ⟨(some 7), some undefA, none, false, .pu (.mov (.s 16))⟩])
  (.ret))
 (.skip))))
 (.seq (.seq (.ops [⟨(some 17), some undefA, none, false, .pu (.mov (.s 1))⟩,
   ⟨(some 18), some undefA, none, false, .pu (.bin .lss (.s 17) (.c (.int .i64 0)))⟩,
   ⟨(some 19), some undefA, none, false, .pu (.mov (.s 18))⟩,
   ⟨(some 20), some undefA, (some (19, false)), false, .pu (.mov (.s 1))⟩,
   ⟨(some 21), some undefA, (some (19, false)), false, .pu (.mov (.s 0))⟩,
   ⟨(some 22), some undefA, (some (19, false)), false, .pu (.len (.s 21))⟩,
   ⟨(some 23), some undefA, (some (19, false)), false, .pu (.bin .geq (.s 20) (.s 22))⟩,
   ⟨(some 24), some undefA, none, false, .pu (.pick (.s 19) (.c (.bool true)) (.s 23))⟩])
 (.cond (.s 24) (.seq (.ops [⟨(some 6), some undefA, none, false, .pu (.mov (.c (.nilS)))⟩,
    ⟨(some 7), some undefA, none, false, .pu (.mov (.c (.int .i64 4)))⟩])
  (.ret))
 (.skip)))
 (.seq (.seq (.ops [⟨(some 25), some undefA, none, false, .pu (.mov (.s 2))⟩,
   ⟨(some 26), some undefA, none, false, .pu (.mov (.s 0))⟩,
   ⟨(some 27), some undefA, none, false, .pu (.len (.s 26))⟩,
   ⟨(some 28), some undefA, none, false, .call 23 [(.s 25), (.s 27)]⟩,
   ⟨(some 29), some undefA, none, false, .pu (.not (.s 28))⟩])
 (.cond (.s 29) (.seq (.ops [⟨(some 6), some undefA, none, false, .pu (.mov (.c (.nilS)))⟩,
    ⟨(some 7), some undefA, none, false, .pu (.mov (.c (.int .i64 1)))⟩])
  (.ret))
 (.skip)))
 (.seq (.ops [⟨(some 9), some undefA, none, false, .pu (.mov (.c (.nilS)))⟩])
 (.seq (.seq (.ops [⟨(some 30), some undefA, none, false, .pu (.mov (.s 0))⟩,
   ⟨(some 31), some undefA, none, false, .pu (.len (.s 30))⟩,
   ⟨(some 32), some undefA, none, false, .pu (.mov (.c (.int .i64 0)))⟩])
 (.block 0 (.loop (.seq (.ops [⟨(some 33), some undefA, none, false, .pu (.bin .lss (.s 32) (.s 31))⟩])
   (.seq (.cond (.s 33) (.skip)
   (.exit 0))
   (.seq (.block 1 (.seq (.ops [⟨(some 34), some undefA, none, false, .pu (.mov (.s 32))⟩,
      ⟨(some 35), some undefA, none, false, .pu (.idx 1 (.s 30) (.s 32))⟩,
      ⟨(some 36), some undefA, none, false, .ld (.ld 1 false (.s 35))⟩,
      ⟨(some 10), some undefA, none, false, .pu (.mov (.s 34))⟩,
      ⟨(some 11), some undefA, none, false, .pu (.mov (.s 36))⟩])
    (.seq (.seq (.ops [⟨(some 37), some undefA, none, false, .pu (.mov (.s 10))⟩,
      ⟨(some 38), some undefA, none, false, .pu (.mov (.s 1))⟩,
      ⟨(some 39), some undefA, none, false, .pu (.bin .eql (.s 37) (.s 38))⟩])
    (.cond (.s 39) (.ops [⟨(some 40), some undefA, none, false, .pu (.mov (.s 2))⟩,
       ⟨(some 11), some undefA, none, false, .pu (.mov (.s 40))⟩])
    (.skip)))
    (.ops [⟨(some 41), some undefA, none, false, .pu (.mov (.s 9))⟩,
      ⟨(some 42), some undefA, none, false, .pu (.mov (.s 11))⟩,
      ⟨(some 43), some undefA, none, false, .call 32 [(.s 42)]⟩,
      ⟨(some 44), some undefA, none, false, .ha (.blds 1 1 [.nilS] [(0, 1, (.s 43))])⟩,
      ⟨(some 45), some undefA, none, false, .ha (.app 1 (.s 41) (.s 44))⟩,
      ⟨(some 9), some undefA, none, false, .pu (.mov (.s 45))⟩]))))
   (.ops [⟨(some 46), some undefA, none, false, .pu (.bin .add (.s 32) (.c (.int .i64 1)))⟩,
     ⟨(some 32), some undefA, none, false, .pu (.mov (.s 46))⟩])))))))
 (.seq (.ops [⟨(some 47), some undefA, none, false, .pu (.mov (.s 9))⟩,
   ⟨(some 6), some undefA, none, false, .pu (.mov (.s 47))⟩,
   ⟨(some 7), some undefA, none, false, .pu (.mov (.c (.int .i64 0)))⟩])
 (.ret)))))))⟩
theorem t15 : trF Try.prog [] [] Try.f15 = some m15 := by kernel_rfl
/-- selion/swap.Likes [loop [0, 1, 2, 3, 21, 22, 23]] -/
def m16 : MFun := ⟨41, [], [.mov (.s 8), .mov (.s 9)],
 .seq (.ops [⟨(some 8), some undefA, none, false, .pu (.mov (.c (.bool false)))⟩,
   ⟨(some 9), some undefA, none, false, .pu (.mov (.c (.int .i64 0)))⟩])
 (.seq (.seq (.ops [⟨(some 13), some undefA, none, false, .pu (.mov (.s 0))⟩,
   ⟨(some 14), some undefA, none, false, .call 8 [(.s 13)]⟩,
   ⟨(some 10), some undefA, none, false, .pu (.mov (.s 14))⟩])
 (.seq (.ops [⟨(some 15), some undefA, none, false, .pu (.mov (.s 10))⟩,
   ⟨(some 16), some undefA, none, false, .pu (.bin .neq (.s 15) (.c (.int .i64 0)))⟩])
 (.cond (.s 16) (.seq (.ops [⟨(some 17), some undefA, none, false, .pu (.mov (.s 10))⟩,
    ⟨(some 8), some undefA, none, false, .pu (.mov (.c (.bool false)))⟩,
    ⟨(some 9), some undefA, none, false, .pu (.mov (.s 17))⟩])
  (.ret))
 (.skip))))
 (.seq (.seq (.ops [⟨(some 18), some undefA, none, false, .pu (.mov (.s 1))⟩,
   ⟨(some 19), some undefA, none, false, .pu (.mov (.s 2))⟩,
   ⟨(some 20), some undefA, none, false, .pu (.mov (.s 3))⟩,
   ⟨(some 21), some undefA, none, false, .ha (.blds 1 3 [.int .i64 0] [(0, 1, (.s 18)), (1, 1, (.s 19)), (2, 1, (.s 20))])⟩,
   ⟨(some 22), some undefA, none, false, .pu (.len (.s 21))⟩,
   ⟨(some 23), some undefA, none, false, .pu (.mov (.c (.int .i64 0)))⟩])
 (.block 0 (.loop (.seq (.ops [⟨(some 24), some undefA, none, false, .pu (.bin .lss (.s 23) (.s 22))⟩])
   (.seq (.cond (.s 24) (.skip)
   (.exit 0))
   (.seq (.block 1 (.seq (.ops [⟨(some 25), some undefA, none, false, .pu (.idx 1 (.s 21) (.s 23))⟩,
      ⟨(some 26), some undefA, none, false, .ld (.ld 1 false (.s 25))⟩,
      ⟨(some 12), some undefA, none, false, .pu (.mov (.s 26))⟩])
    (.seq (.ops [⟨(some 27), some undefA, none, false, .pu (.mov (.s 12))⟩,
      ⟨(some 28), some undefA, none, false, .pu (.bin .lss (.s 27) (.c (.int .i64 0)))⟩,
      ⟨(some 29), some undefA, none, false, .pu (.mov (.s 28))⟩,
      ⟨(some 30), some undefA, (some (29, false)), false, .pu (.mov (.s 12))⟩,
      ⟨(some 31), some undefA, (some (29, false)), false, .pu (.mov (.s 0))⟩,
      ⟨(some 32), some undefA, (some (29, false)), false, .pu (.len (.s 31))⟩,
      ⟨(some 33), some undefA, (some (29, false)), false, .pu (.bin .geq (.s 30) (.s 32))⟩,
      ⟨(some 34), some undefA, none, false, .pu (.pick (.s 29) (.c (.bool true)) (.s 33))⟩])
    (.cond (.s 34) (.seq (.ops [⟨(some 8), some undefA, none, false, .pu (.mov (.c (.bool false)))⟩,
       ⟨(some 9), some undefA, none, false, .pu (.mov (.c (.int .i64 4)))⟩])
     (.ret))
    (.skip)))))
   (.ops [⟨(some 35), some undefA, none, false, .pu (.bin .add (.s 23) (.c (.int .i64 1)))⟩,
     ⟨(some 23), some undefA, none, false, .pu (.mov (.s 35))⟩])))))))
 (.seq (.ops [⟨(some 36), some undefA, none, false, .pu (.mov (.s 0))⟩,
   ⟨(some 37), some undefA, none, false, .pu (.mov (.s 1))⟩,
   ⟨(some 38), some undefA, none, false, .pu (.mov (.s 2))⟩,
   ⟨(some 39), some undefA, none, false, .pu (.mov (.s 3))⟩,
   ⟨(some 40), some undefA, none, false, .call 25 [(.s 36), (.s 37), (.s 38), (.s 39)]⟩,
   ⟨(some 8), some undefA, none, false, .pu (.mov (.s 40))⟩,
   ⟨(some 9), some undefA, none, false, .pu (.mov (.c (.int .i64 0)))⟩])
 (.ret))))⟩
theorem t16 : trF Try.prog [] [] Try.f16 = some m16 := by kernel_rfl
/-- selion/swap.ordered [] -/
def m17 : MFun := ⟨16, [], [.mov (.s 4)],
 .seq (.ops [⟨(some 4), some undefA, none, false, .pu (.mov (.c (.int .i64 0)))⟩])
 (.seq (.seq (.ops [⟨(some 6), some undefA, none, false, .pu (.mov (.s 0))⟩,
   ⟨(some 7), some undefA, none, false, .call 8 [(.s 6)]⟩,
   ⟨(some 5), some undefA, none, false, .pu (.mov (.s 7))⟩])
 (.seq (.ops [⟨(some 8), some undefA, none, false, .pu (.mov (.s 5))⟩,
   ⟨(some 9), some undefA, none, false, .pu (.bin .neq (.s 8) (.c (.int .i64 0)))⟩])
 (.cond (.s 9) (.seq (.ops [⟨(some 10), some undefA, none, false, .pu (.mov (.s 5))⟩,
    ⟨(some 4), some undefA, none, false, .pu (.mov (.s 10))⟩])
  (.ret))
 (.skip))))
 (.seq (.seq (.ops [⟨(some 11), some undefA, none, false, .pu (.mov (.s 1))⟩,
   ⟨(some 12), some undefA, none, false, .pu (.mov (.s 0))⟩,
   ⟨(some 13), some undefA, none, false, .pu (.len (.s 12))⟩,
   ⟨(some 14), some undefA, none, false, .call 23 [(.s 11), (.s 13)]⟩,
   ⟨(some 15), some undefA, none, false, .pu (.not (.s 14))⟩])
 (.cond (.s 15) (.seq (.ops [⟨(some 4), some undefA, none, false, .pu (.mov (.c (.int .i64 1)))⟩])
  (.ret))
 (.skip)))
 (.seq (.ops [⟨(some 4), some undefA, none, false, .pu (.mov (.c (.int .i64 0)))⟩])
 (.ret))))⟩
theorem t17 : trF Try.prog [] [] Try.f17 = some m17 := by kernel_rfl
/-- slices.Index[[]int,int] [loop [0, 1, 7, 8]] -/
def m18 : MFun := ⟨19, [], [.mov (.s 4)],
 .seq (.ops [⟨(some 4), some undefA, none, false, .pu (.mov (.c (.int .i64 0)))⟩])
 (.seq (.seq (.ops [⟨(some 6), some undefA, none, false, .pu (.mov (.s 0))⟩,
   ⟨(some 7), some undefA, none, false, .pu (.len (.s 6))⟩,
   ⟨(some 8), some undefA, none, false, .pu (.mov (.c (.int .i64 0)))⟩])
 (.block 0 (.loop (.seq (.ops [⟨(some 9), some undefA, none, false, .pu (.bin .lss (.s 8) (.s 7))⟩])
   (.seq (.cond (.s 9) (.skip)
   (.exit 0))
   (.seq (.block 1 (.seq (.ops [⟨(some 10), some undefA, none, false, .pu (.mov (.s 8))⟩,
      ⟨(some 5), some undefA, none, false, .pu (.mov (.s 10))⟩])
    (.seq (.ops [⟨(some 11), some undefA, none, false, .pu (.mov (.s 1))⟩,
      ⟨(some 12), some undefA, none, false, .pu (.mov (.s 0))⟩,
      ⟨(some 13), some undefA, none, false, .pu (.mov (.s 5))⟩,
      ⟨(some 14), some undefA, none, false, .pu (.idx 1 (.s 12) (.s 13))⟩,
      ⟨(some 15), some undefA, none, false, .ld (.ld 1 false (.s 14))⟩,
      ⟨(some 16), some undefA, none, false, .pu (.bin .eql (.s 11) (.s 15))⟩])
    (.cond (.s 16) (.seq (.ops [⟨(some 17), some undefA, none, false, .pu (.mov (.s 5))⟩,
       ⟨(some 4), some undefA, none, false, .pu (.mov (.s 17))⟩])
     (.ret))
    (.skip)))))
   (.ops [⟨(some 18), some undefA, none, false, .pu (.bin .add (.s 8) (.c (.int .i64 1)))⟩,
     ⟨(some 8), some undefA, none, false, .pu (.mov (.s 18))⟩])))))))
 (.seq (.ops [⟨(some 4), some undefA, none, false, .pu (.mov (.c (.int .i64 (-1))))⟩])
 (.ret)))⟩
theorem t18 : trF Try.prog [] [] Try.f18 = some m18 := by kernel_rfl
/-- selion/selionlaw05.many [] -/
def m19 : MFun := ⟨6, [], [.mov (.s 2)],
 .seq (.ops [⟨(some 2), some undefA, none, false, .pu (.mov (.c (.bool false)))⟩])
 (.seq (.ops [⟨(some 3), some undefA, none, false, .pu (.mov (.s 0))⟩,
   ⟨(some 4), some undefA, none, false, .pu (.len (.s 3))⟩,
   ⟨(some 5), some undefA, none, false, .pu (.bin .gtr (.s 4) (.c (.int .i64 40)))⟩,
   ⟨(some 2), some undefA, none, false, .pu (.mov (.s 5))⟩])
 (.ret))⟩
theorem t19 : trF Try.prog [] [] Try.f19 = some m19 := by kernel_rfl
/-- slices.ContainsFunc[[][]int,[]int] [] -/
def m21 : MFun := ⟨9, [], [.mov (.s 4)],
 .seq (.ops [⟨(some 4), some undefA, none, false, .pu (.mov (.c (.bool false)))⟩])
 (.seq (.ops [⟨(some 5), some undefA, none, false, .pu (.mov (.s 0))⟩,
   ⟨(some 6), some undefA, none, false, .pu (.mov (.s 1))⟩,
   ⟨(some 7), some undefA, none, false, .call 34 [(.s 5), (.s 6)]⟩,
   ⟨(some 8), some undefA, none, false, .pu (.bin .geq (.s 7) (.c (.int .i64 0)))⟩,
   ⟨(some 4), some undefA, none, false, .pu (.mov (.s 8))⟩])
 (.ret))⟩
theorem t21 : trF Try.prog [] [] Try.f21 = some m21 := by kernel_rfl
/-- selion/swap.Validate$1 [] -/
def m22 : MFun := ⟨9, [], [.mov (.s 3)],
 .seq (.ops [⟨(some 3), some undefA, none, false, .pu (.mov (.c (.bool false)))⟩])
 (.seq (.ops [⟨(some 4), some undefA, none, false, .pu (.mov (.s 0))⟩,
   ⟨(some 5), some undefA, none, false, .ld (.ld 1 false (.s 1))⟩,
   ⟨(some 6), some undefA, none, false, .pu (.len (.s 5))⟩,
   ⟨(some 7), some undefA, none, false, .call 23 [(.s 4), (.s 6)]⟩,
   ⟨(some 8), some undefA, none, false, .pu (.not (.s 7))⟩,
   ⟨(some 3), some undefA, none, false, .pu (.mov (.s 8))⟩])
 (.ret))⟩
theorem t22 : trF Try.prog [] [] Try.f22 = some m22 := by kernel_rfl
/-- selion/swap.isOrder [loop [0, 10, 11]] -/
def m23 : MFun := ⟨19, [], [.mov (.s 4)],
 .seq (.ops [⟨(some 4), some undefA, none, false, .pu (.mov (.c (.bool false)))⟩])
 (.seq (.seq (.ops [⟨(some 6), some undefA, none, false, .pu (.mov (.s 0))⟩,
   ⟨(some 7), some undefA, none, false, .pu (.len (.s 6))⟩,
   ⟨(some 8), some undefA, none, false, .pu (.mov (.s 1))⟩,
   ⟨(some 9), some undefA, none, false, .pu (.bin .neq (.s 7) (.s 8))⟩])
 (.cond (.s 9) (.seq (.ops [⟨(some 4), some undefA, none, false, .pu (.mov (.c (.bool false)))⟩])
  (.ret))
 (.skip)))
 (.seq (.seq (.ops [⟨(some 10), some undefA, none, false, .pu (.mov (.s 1))⟩,
   ⟨(some 11), some undefA, none, false, .pu (.mov (.c (.int .i64 0)))⟩])
 (.block 0 (.loop (.seq (.ops [⟨(some 12), some undefA, none, false, .pu (.bin .lss (.s 11) (.s 10))⟩])
   (.seq (.cond (.s 12) (.skip)
   (.exit 0))
   (.seq (.block 1 (.seq (.ops [⟨(some 13), some undefA, none, false, .pu (.mov (.s 11))⟩,
      ⟨(some 5), some undefA, none, false, .pu (.mov (.s 13))⟩])
    (.seq (.ops [⟨(some 14), some undefA, none, false, .pu (.mov (.s 0))⟩,
      ⟨(some 15), some undefA, none, false, .pu (.mov (.s 5))⟩,
      ⟨(some 16), some undefA, none, false, .call 35 [(.s 14), (.s 15)]⟩,
      ⟨(some 17), some undefA, none, false, .pu (.not (.s 16))⟩])
    (.cond (.s 17) (.seq (.ops [⟨(some 4), some undefA, none, false, .pu (.mov (.c (.bool false)))⟩])
     (.ret))
    (.skip)))))
   (.ops [⟨(some 18), some undefA, none, false, .pu (.bin .add (.s 11) (.c (.int .i64 1)))⟩,
     ⟨(some 11), some undefA, none, false, .pu (.mov (.s 18))⟩])))))))
 (.seq (.ops [⟨(some 4), some undefA, none, false, .pu (.mov (.c (.bool true)))⟩])
 (.ret))))⟩
theorem t23 : trF Try.prog [] [] Try.f23 = some m23 := by kernel_rfl
/-- selion/swap.block [loop [0, 1, 7], loop [0, 1, 7, 8, 24, 25, 26]] -/
def m24 : MFun := ⟨38, [], [.mov (.s 4), .mov (.s 5), .mov (.s 6)],
 .seq (.ops [⟨(some 4), some undefA, none, false, .pu (.mov (.c (.nilS)))⟩,
   ⟨(some 5), some undefA, none, false, .pu (.mov (.c (.nilS)))⟩,
   ⟨(some 6), some undefA, none, false, .pu (.mov (.c (.bool false)))⟩])
 (.seq (.seq (.ops [⟨(some 7), some undefA, none, false, .pu (.mov (.c (.int .i64 1)))⟩])
 (.block 0 (.loop (.seq (.seq (.ops [⟨(some 11), some undefA, none, false, .pu (.mov (.s 7))⟩,
     ⟨(some 12), some undefA, none, false, .pu (.mov (.s 0))⟩,
     ⟨(some 13), some undefA, none, false, .pu (.len (.s 12))⟩,
     ⟨(some 14), some undefA, none, false, .pu (.bin .shl (.c (.int .i64 1)) (.s 13))⟩,
     ⟨(some 15), some undefA, none, false, .pu (.bin .lss (.s 11) (.s 14))⟩])
   (.cond (.s 15) (.skip)
   (.exit 0)))
   (.seq (.block 1 (.seq (.ops [⟨(some 18), some undefA, none, false, .pu (.mov (.s 0))⟩,
      ⟨(some 19), some undefA, none, false, .pu (.len (.s 18))⟩,
      ⟨(some 20), some undefA, none, false, .pu (.mov (.s 7))⟩,
      ⟨(some 21), some undefA, none, false, .pu (.mkb 37 [(.s 20)])⟩,
      ⟨(some 22), some undefA, none, false, .call 36 [(.s 19), (.s 21)]⟩,
      ⟨(some 8), some undefA, none, false, .pu (.mov (.s 22))⟩])
    (.seq (.ops [⟨(some 23), some undefA, none, false, .pu (.mov (.s 8))⟩,
      ⟨(some 24), some undefA, none, false, .call 27 [(.s 23)]⟩,
      ⟨(some 25), some undefA, none, false, .pu (.len (.s 24))⟩,
      ⟨(some 26), some undefA, none, false, .pu (.mov (.c (.int .i64 0)))⟩])
    (.block 2 (.loop (.seq (.ops [⟨(some 27), some undefA, none, false, .pu (.bin .lss (.s 26) (.s 25))⟩])
      (.seq (.cond (.s 27) (.skip)
      (.exit 2))
      (.seq (.block 3 (.seq (.ops [⟨(some 28), some undefA, none, false, .pu (.idx 1 (.s 24) (.s 26))⟩,
         ⟨(some 29), some undefA, none, false, .ld (.ld 1 false (.s 28))⟩,
         ⟨(some 10), some undefA, none, false, .pu (.mov (.s 29))⟩])
       (.seq (.ops [⟨(some 30), some undefA, none, false, .pu (.mov (.s 0))⟩,
         ⟨(some 31), some undefA, none, false, .pu (.mov (.s 1))⟩,
         ⟨(some 32), some undefA, none, false, .pu (.mov (.s 8))⟩,
         ⟨(some 33), some undefA, none, false, .pu (.mov (.s 10))⟩,
         ⟨(some 34), some undefA, none, false, .call 38 [(.s 30), (.s 31), (.s 32), (.s 33)]⟩])
       (.cond (.s 34) (.seq (.ops [⟨(some 35), some undefA, none, false, .pu (.mov (.s 8))⟩,
          ⟨(some 36), some undefA, none, false, .pu (.mov (.s 10))⟩,
          ⟨(some 4), some undefA, none, false, .pu (.mov (.s 35))⟩,
          ⟨(some 5), some undefA, none, false, .pu (.mov (.s 36))⟩,
          ⟨(some 6), some undefA, none, false, .pu (.mov (.c (.bool true)))⟩])
        (.ret))
       (.skip)))))
      (.ops [⟨(some 37), some undefA, none, false, .pu (.bin .add (.s 26) (.c (.int .i64 1)))⟩,
        ⟨(some 26), some undefA, none, false, .pu (.mov (.s 37))⟩])))))))))
   (.ops [⟨(some 16), some undefA, none, false, .pu (.mov (.s 7))⟩,
     ⟨(some 17), some undefA, none, false, .pu (.bin .add (.s 16) (.c (.int .i64 1)))⟩,
     ⟨(some 7), some undefA, none, false, .pu (.mov (.s 17))⟩]))))))
 (.seq (.ops [⟨(some 4), some undefA, none, false, .pu (.mov (.c (.nilS)))⟩,
   ⟨(some 5), some undefA, none, false, .pu (.mov (.c (.nilS)))⟩,
   ⟨(some 6), some undefA, none, false, .pu (.mov (.c (.bool false)))⟩])
 (.ret)))⟩
theorem t24 : trF Try.prog [] [] Try.f24 = some m24 := by kernel_rfl
/-- selion/swap.likes [] -/
def m25 : MFun := ⟨22, [], [.mov (.s 8)],
 .seq (.ops [⟨(some 8), some undefA, none, false, .pu (.mov (.c (.bool false)))⟩])
 (.seq (.ops [⟨(some 9), some undefA, none, true, .pu (.mov (.s 0))⟩,
   ⟨(some 10), some undefA, none, true, .pu (.mov (.s 1))⟩,
   ⟨(some 11), some undefA, none, true, .pu (.idx 1 (.s 9) (.s 10))⟩,
   ⟨(some 12), some undefA, none, true, .ld (.ld 1 false (.s 11))⟩,
   ⟨(some 13), some undefA, none, true, .pu (.mov (.s 2))⟩,
   ⟨(some 14), some undefA, none, true, .call 18 [(.s 12), (.s 13)]⟩,
   ⟨(some 15), some undefA, none, true, .pu (.mov (.s 0))⟩,
   ⟨(some 16), some undefA, none, true, .pu (.mov (.s 1))⟩,
   ⟨(some 17), some undefA, none, true, .pu (.idx 1 (.s 15) (.s 16))⟩,
   ⟨(some 18), some undefA, none, true, .ld (.ld 1 false (.s 17))⟩,
   ⟨(some 19), some undefA, none, true, .pu (.mov (.s 3))⟩,
   ⟨(some 20), some undefA, none, false, .call 18 [(.s 18), (.s 19)]⟩,
   ⟨(some 21), some undefA, none, false, .pu (.bin .lss (.s 14) (.s 20))⟩,
   ⟨(some 8), some undefA, none, false, .pu (.mov (.s 21))⟩])
 (.ret))⟩
theorem t25 : trF Try.prog [] [] Try.f25 = some m25 := by kernel_rfl
/-- selion/swap.improve [loop [0, 1, 6, 12, 13, 14]] -/
def m26 : MFun := ⟨25, [], [.mov (.s 4), .mov (.s 5)],
 .seq (.ops [⟨(some 4), some undefA, none, false, .pu (.mov (.c (.nilS)))⟩,
   ⟨(some 5), some undefA, none, false, .pu (.mov (.c (.bool false)))⟩])
 (.seq (.ops [⟨(some 9), some undefA, none, false, .pu (.mov (.s 0))⟩,
   ⟨(some 10), some undefA, none, false, .call 28 [(.s 9)]⟩,
   ⟨(some 6), some undefA, none, false, .pu (.mov (.s 10))⟩])
 (.seq (.seq (.ops [⟨(some 11), some undefA, none, false, .pu (.mov (.s 6))⟩,
   ⟨(some 12), some undefA, none, false, .call 27 [(.s 11)]⟩,
   ⟨(some 13), some undefA, none, false, .pu (.len (.s 12))⟩,
   ⟨(some 14), some undefA, none, false, .pu (.mov (.c (.int .i64 0)))⟩])
 (.block 0 (.loop (.seq (.ops [⟨(some 15), some undefA, none, false, .pu (.bin .lss (.s 14) (.s 13))⟩])
   (.seq (.cond (.s 15) (.skip)
   (.exit 0))
   (.seq (.block 1 (.seq (.ops [⟨(some 16), some undefA, none, false, .pu (.idx 1 (.s 12) (.s 14))⟩,
      ⟨(some 17), some undefA, none, false, .ld (.ld 1 false (.s 16))⟩,
      ⟨(some 8), some undefA, none, false, .pu (.mov (.s 17))⟩])
    (.seq (.ops [⟨(some 18), some undefA, none, false, .pu (.mov (.s 0))⟩,
      ⟨(some 19), some undefA, none, false, .pu (.mov (.s 1))⟩,
      ⟨(some 20), some undefA, none, false, .pu (.mov (.s 6))⟩,
      ⟨(some 21), some undefA, none, false, .pu (.mov (.s 8))⟩,
      ⟨(some 22), some undefA, none, false, .call 38 [(.s 18), (.s 19), (.s 20), (.s 21)]⟩])
    (.cond (.s 22) (.seq (.ops [⟨(some 23), some undefA, none, false, .pu (.mov (.s 8))⟩,
       ⟨(some 4), some undefA, none, false, .pu (.mov (.s 23))⟩,
       ⟨(some 5), some undefA, none, false, .pu (.mov (.c (.bool true)))⟩])
     (.ret))
    (.skip)))))
   (.ops [⟨(some 24), some undefA, none, false, .pu (.bin .add (.s 14) (.c (.int .i64 1)))⟩,
     ⟨(some 14), some undefA, none, false, .pu (.mov (.s 24))⟩])))))))
 (.seq (.ops [⟨(some 4), some undefA, none, false, .pu (.mov (.c (.nilS)))⟩,
   ⟨(some 5), some undefA, none, false, .pu (.mov (.c (.bool false)))⟩])
 (.ret))))⟩
theorem t26 : trF Try.prog [] [] Try.f26 = some m26 := by kernel_rfl
/-- selion/swap.orders [loop [0, 3, 12, 13, 14], loop [0, 3, 5, 12, 13, 14, 28, 29, 30]] -/
def m27 : MFun := ⟨44, [], [.mov (.s 2)],
 .seq (.ops [⟨(some 2), some undefA, none, false, .pu (.mov (.c (.nilS)))⟩])
 (.seq (.seq (.ops [⟨(some 8), some undefA, none, false, .pu (.mov (.s 0))⟩,
   ⟨(some 9), some undefA, none, false, .pu (.len (.s 8))⟩,
   ⟨(some 10), some undefA, none, false, .pu (.bin .eql (.s 9) (.c (.int .i64 0)))⟩])
 (.cond (.s 10) (.seq (.ops [⟨(some 11), some undefA, none, false, .ha (.blds 1 1 [.nilS] [(0, 1, (.c (.nilS)))])⟩,
    ⟨(some 2), some undefA, none, false, .pu (.mov (.s 11))⟩])
  (.ret))
 (.skip)))
 (.seq (.ops [⟨(some 3), some undefA, none, false, .pu (.mov (.c (.nilS)))⟩])
 (.seq (.seq (.ops [⟨(some 12), some undefA, none, false, .pu (.mov (.s 0))⟩,
   ⟨(some 13), some undefA, none, false, .pu (.len (.s 12))⟩,
   ⟨(some 14), some undefA, none, false, .pu (.mov (.c (.int .i64 0)))⟩])
 (.block 0 (.loop (.seq (.ops [⟨(some 15), some undefA, none, false, .pu (.bin .lss (.s 14) (.s 13))⟩])
   (.seq (.cond (.s 15) (.skip)
   (.exit 0))
   (.seq (.block 1 (.seq (.ops [⟨(some 16), some undefA, none, false, .pu (.mov (.s 14))⟩,
      ⟨(some 17), some undefA, none, false, .pu (.idx 1 (.s 12) (.s 14))⟩,
      ⟨(some 18), some undefA, none, false, .ld (.ld 1 false (.s 17))⟩,
      ⟨(some 4), some undefA, none, false, .pu (.mov (.s 16))⟩,
      ⟨(some 5), some undefA, none, false, .pu (.mov (.s 18))⟩])
    (.seq (.ops [⟨(some 19), some undefA, none, false, .pu (.mov (.s 0))⟩,
      ⟨(some 20), some undefA, none, false, .pu (.mov (.s 4))⟩,
      ⟨(some 21), some undefA, none, false, .pu (.slc 1 (.s 19) none (some (.s 20)) none)⟩,
      ⟨(some 22), some undefA, none, false, .pu (.mov (.s 0))⟩,
      ⟨(some 23), some undefA, none, false, .pu (.mov (.s 4))⟩,
      ⟨(some 24), some undefA, none, false, .pu (.bin .add (.s 23) (.c (.int .i64 1)))⟩,
      ⟨(some 25), some undefA, none, false, .pu (.slc 1 (.s 22) (some (.s 24)) none none)⟩,
      ⟨(some 26), some undefA, none, false, .ha (.blds 1 2 [.nilS] [(0, 1, (.s 21)), (1, 1, (.s 25))])⟩,
      ⟨(some 27), some undefA, none, false, .call 39 [(.s 26)]⟩,
      ⟨(some 28), some undefA, none, false, .call 27 [(.s 27)]⟩,
      ⟨(some 29), some undefA, none, false, .pu (.len (.s 28))⟩,
      ⟨(some 30), some undefA, none, false, .pu (.mov (.c (.int .i64 0)))⟩])
    (.block 2 (.loop (.seq (.ops [⟨(some 31), some undefA, none, false, .pu (.bin .lss (.s 30) (.s 29))⟩])
      (.seq (.cond (.s 31) (.skip)
      (.exit 2))
      (.seq (.block 3 (.seq (.ops [⟨(some 32), some undefA, none, false, .pu (.idx 1 (.s 28) (.s 30))⟩,
         ⟨(some 33), some undefA, none, false, .ld (.ld 1 false (.s 32))⟩,
         ⟨(some 7), some undefA, none, false, .pu (.mov (.s 33))⟩])
       (.ops [⟨(some 34), some undefA, none, false, .pu (.mov (.s 3))⟩,
         ⟨(some 35), some undefA, none, false, .pu (.mov (.s 5))⟩,
         ⟨(some 36), some undefA, none, false, .ha (.blds 1 1 [.int .i64 0] [(0, 1, (.s 35))])⟩,
         ⟨(some 37), some undefA, none, false, .pu (.mov (.s 7))⟩,
         ⟨(some 38), some undefA, none, false, .ha (.app 1 (.s 36) (.s 37))⟩,
         ⟨(some 39), some undefA, none, false, .ha (.blds 1 1 [.nilS] [(0, 1, (.s 38))])⟩,
         ⟨(some 40), some undefA, none, false, .ha (.app 1 (.s 34) (.s 39))⟩,
         ⟨(some 3), some undefA, none, false, .pu (.mov (.s 40))⟩])))
      (.ops [⟨(some 41), some undefA, none, false, .pu (.bin .add (.s 30) (.c (.int .i64 1)))⟩,
        ⟨(some 30), some undefA, none, false, .pu (.mov (.s 41))⟩])))))))))
   (.ops [⟨(some 42), some undefA, none, false, .pu (.bin .add (.s 14) (.c (.int .i64 1)))⟩,
     ⟨(some 14), some undefA, none, false, .pu (.mov (.s 42))⟩])))))))
 (.seq (.ops [⟨(some 43), some undefA, none, false, .pu (.mov (.s 3))⟩,
   ⟨(some 2), some undefA, none, false, .pu (.mov (.s 43))⟩])
 (.ret)))))⟩
theorem t27 : trF Try.prog [] [] Try.f27 = some m27 := by kernel_rfl
/-- selion/swap.everybody [] -/
def m28 : MFun := ⟨6, [], [.mov (.s 2)],
 .seq (.ops [⟨(some 2), some undefA, none, false, .pu (.mov (.c (.nilS)))⟩])
 (.seq (.ops [⟨(some 3), some undefA, none, false, .pu (.mov (.s 0))⟩,
   ⟨(some 4), some undefA, none, false, .pu (.len (.s 3))⟩,
   ⟨(some 5), some undefA, none, false, .call 36 [(.s 4), (.c (.fn 40 []))]⟩,
   ⟨(some 2), some undefA, none, false, .pu (.mov (.s 5))⟩])
 (.ret))⟩
theorem t28 : trF Try.prog [] [] Try.f28 = some m28 := by kernel_rfl
/-- selion/swap.IsPick$1 [] -/
def m29 : MFun := ⟨10, [], [.mov (.s 4)],
 .seq (.ops [⟨(some 4), some undefA, none, false, .pu (.mov (.c (.bool false)))⟩])
 (.seq (.ops [⟨(some 5), some undefA, none, true, .ld (.ld 1 false (.s 1))⟩,
   ⟨(some 6), some undefA, none, true, .pu (.mov (.s 0))⟩,
   ⟨(some 7), some undefA, none, true, .call 31 [(.s 5), (.s 6)]⟩,
   ⟨(some 8), some undefA, none, true, .ld (.ld 1 false (.s 2))⟩,
   ⟨(some 9), some undefA, none, false, .call 30 [(.s 7), (.s 8)]⟩,
   ⟨(some 4), some undefA, none, false, .pu (.mov (.s 9))⟩])
 (.ret))⟩
theorem t29 : trF Try.prog [] [] Try.f29 = some m29 := by kernel_rfl
/-- slices.Equal[[]int,int] [loop [0, 1, 12, 13]] -/
def m30 : MFun := ⟨26, [], [.mov (.s 4)],
 .seq (.ops [⟨(some 4), some undefA, none, false, .pu (.mov (.c (.bool false)))⟩])
 (.seq (.seq (.ops [⟨(some 6), some undefA, none, false, .pu (.mov (.s 0))⟩,
   ⟨(some 7), some undefA, none, false, .pu (.len (.s 6))⟩,
   ⟨(some 8), some undefA, none, false, .pu (.mov (.s 1))⟩,
   ⟨(some 9), some undefA, none, false, .pu (.len (.s 8))⟩,
   ⟨(some 10), some undefA, none, false, .pu (.bin .neq (.s 7) (.s 9))⟩])
 (.cond (.s 10) (.seq (.ops [⟨(some 4), some undefA, none, false, .pu (.mov (.c (.bool false)))⟩])
  (.ret))
 (.skip)))
 (.seq (.seq (.ops [⟨(some 11), some undefA, none, false, .pu (.mov (.s 0))⟩,
   ⟨(some 12), some undefA, none, false, .pu (.len (.s 11))⟩,
   ⟨(some 13), some undefA, none, false, .pu (.mov (.c (.int .i64 0)))⟩])
 (.block 0 (.loop (.seq (.ops [⟨(some 14), some undefA, none, false, .pu (.bin .lss (.s 13) (.s 12))⟩])
   (.seq (.cond (.s 14) (.skip)
   (.exit 0))
   (.seq (.block 1 (.seq (.ops [⟨(some 15), some undefA, none, false, .pu (.mov (.s 13))⟩,
      ⟨(some 5), some undefA, none, false, .pu (.mov (.s 15))⟩])
    (.seq (.ops [⟨(some 16), some undefA, none, true, .pu (.mov (.s 0))⟩,
      ⟨(some 17), some undefA, none, true, .pu (.mov (.s 5))⟩,
      ⟨(some 18), some undefA, none, true, .pu (.idx 1 (.s 16) (.s 17))⟩,
      ⟨(some 19), some undefA, none, true, .ld (.ld 1 false (.s 18))⟩,
      ⟨(some 20), some undefA, none, true, .pu (.mov (.s 1))⟩,
      ⟨(some 21), some undefA, none, true, .pu (.mov (.s 5))⟩,
      ⟨(some 22), some undefA, none, true, .pu (.idx 1 (.s 20) (.s 21))⟩,
      ⟨(some 23), some undefA, none, true, .ld (.ld 1 false (.s 22))⟩,
      ⟨(some 24), some undefA, none, false, .pu (.bin .neq (.s 19) (.s 23))⟩])
    (.cond (.s 24) (.seq (.ops [⟨(some 4), some undefA, none, false, .pu (.mov (.c (.bool false)))⟩])
     (.ret))
    (.skip)))))
   (.ops [⟨(some 25), some undefA, none, false, .pu (.bin .add (.s 13) (.c (.int .i64 1)))⟩,
     ⟨(some 13), some undefA, none, false, .pu (.mov (.s 25))⟩])))))))
 (.seq (.ops [⟨(some 4), some undefA, none, false, .pu (.mov (.c (.bool true)))⟩])
 (.ret))))⟩
theorem t30 : trF Try.prog [] [] Try.f30 = some m30 := by kernel_rfl
/-- selion/swap.pick [loop [0, 5, 6, 12, 13, 14]] -/
def m31 : MFun := ⟨42, [], [.mov (.s 4)],
 .seq (.ops [⟨(some 4), some undefA, none, false, .pu (.mov (.c (.nilS)))⟩])
 (.seq (.ops [⟨(some 9), some undefA, none, false, .pu (.mov (.s 0))⟩,
   ⟨(some 10), some undefA, none, false, .pu (.len (.s 9))⟩,
   ⟨(some 11), some undefA, none, false, .ha (.mks 1 [.int .i64 0] (.s 10) (.s 10))⟩,
   ⟨(some 5), some undefA, none, false, .pu (.mov (.s 11))⟩])
 (.seq (.ops [⟨(some 6), some undefA, none, false, .ha (.newv (.c (.nilS)))⟩])
 (.seq (.seq (.ops [⟨(some 12), some undefA, none, false, .pu (.mov (.s 1))⟩,
   ⟨(some 13), some undefA, none, false, .pu (.len (.s 12))⟩,
   ⟨(some 14), some undefA, none, false, .pu (.mov (.c (.int .i64 0)))⟩])
 (.block 0 (.loop (.seq (.ops [⟨(some 15), some undefA, none, false, .pu (.bin .lss (.s 14) (.s 13))⟩])
   (.seq (.cond (.s 15) (.skip)
   (.exit 0))
   (.seq (.block 1 (.seq (.ops [⟨(some 16), some undefA, none, false, .pu (.idx 1 (.s 12) (.s 14))⟩,
      ⟨(some 17), some undefA, none, false, .ld (.ld 1 false (.s 16))⟩,
      ⟨(some 8), some undefA, none, false, .pu (.mov (.s 17))⟩])
    (.seq (.ops [⟨(some 18), some undefA, none, true, .pu (.mov (.s 5))⟩,
      ⟨(some 19), some undefA, none, true, .pu (.mov (.s 8))⟩,
      ⟨(some 20), some undefA, none, true, .pu (.mov (.s 0))⟩,
      ⟨(some 21), some undefA, none, true, .pu (.mov (.s 8))⟩,
      ⟨(some 22), some undefA, none, true, .pu (.idx 1 (.s 20) (.s 21))⟩,
      ⟨(some 23), some undefA, none, true, .ld (.ld 1 false (.s 22))⟩,
      ⟨(some 24), some undefA, none, true, .pu (.mov (.s 0))⟩,
      ⟨(some 25), some undefA, none, true, .pu (.mov (.s 8))⟩,
      ⟨(some 26), some undefA, none, true, .pu (.idx 1 (.s 24) (.s 25))⟩,
      ⟨(some 27), some undefA, none, true, .ld (.ld 1 false (.s 26))⟩,
      ⟨(some 28), some undefA, none, true, .pu (.mkf 42 [(.s 6)])⟩,
      ⟨(some 29), some undefA, none, true, .call 41 [(.s 27), (.s 28)]⟩,
      ⟨(some 30), some undefA, none, false, .pu (.idx 1 (.s 23) (.s 29))⟩,
      ⟨(some 31), some undefA, none, true, .ld (.ld 1 false (.s 30))⟩,
      ⟨(some 32), some undefA, none, false, .pu (.idx 1 (.s 18) (.s 19))⟩,
      ⟨none, some undefA, none, false, .ha (.st 1 (.s 32) (.s 31))⟩])
    (.ops [⟨(some 33), some undefA, none, true, .ld (.ld 1 false (.s 6))⟩,
      ⟨(some 34), some undefA, none, true, .pu (.mov (.s 5))⟩,
      ⟨(some 35), some undefA, none, true, .pu (.mov (.s 8))⟩,
      ⟨(some 36), some undefA, none, true, .pu (.idx 1 (.s 34) (.s 35))⟩,
      ⟨(some 37), some undefA, none, true, .ld (.ld 1 false (.s 36))⟩,
      ⟨(some 38), some undefA, none, true, .ha (.blds 1 1 [.int .i64 0] [(0, 1, (.s 37))])⟩,
      ⟨(some 39), some undefA, none, false, .ha (.app 1 (.s 33) (.s 38))⟩,
      ⟨none, some undefA, none, false, .ha (.st 1 (.s 6) (.s 39))⟩]))))
   (.ops [⟨(some 40), some undefA, none, false, .pu (.bin .add (.s 14) (.c (.int .i64 1)))⟩,
     ⟨(some 14), some undefA, none, false, .pu (.mov (.s 40))⟩])))))))
 (.seq (.ops [⟨(some 41), some undefA, none, false, .pu (.mov (.s 5))⟩,
   ⟨(some 4), some undefA, none, false, .pu (.mov (.s 41))⟩])
 (.ret)))))⟩
theorem t31 : trF Try.prog [] [] Try.f31 = some m31 := by kernel_rfl
/-- slices.Clone[[]int,int] [] -/
def m32 : MFun := ⟨8, [], [.mov (.s 2)],
 .seq (.ops [⟨(some 2), some undefA, none, false, .pu (.mov (.c (.nilS)))⟩])
 (.seq (.seq (.ops [⟨(some 3), some undefA, none, false, .pu (.mov (.s 0))⟩,
   ⟨(some 4), some undefA, none, false, .pu (.isnil false (.s 3))⟩])
 (.cond (.s 4) (.seq (.ops [⟨(some 2), some undefA, none, false, .pu (.mov (.c (.nilS)))⟩])
  (.ret))
 (.skip)))
 (.seq (.ops [⟨(some 5), some undefA, none, false, .ha (.blds 1 0 [.int .i64 0] [])⟩,
   ⟨(some 6), some undefA, none, false, .pu (.mov (.s 0))⟩,
   ⟨(some 7), some undefA, none, false, .ha (.app 1 (.s 5) (.s 6))⟩,
   ⟨(some 2), some undefA, none, false, .pu (.mov (.s 7))⟩])
 (.ret)))⟩
theorem t32 : trF Try.prog [] [] Try.f32 = some m32 := by kernel_rfl
/-- selion/swap.rounds [] -/
def m33 : MFun := ⟨4, [], [.mov (.s 2)],
 .seq (.ops [⟨(some 1), some undefA, none, false, .ha (.newv (.s 0))⟩,
   ⟨(some 2), some undefA, none, false, .pu (.mov (.c (.nilF)))⟩])
 (.seq (.ops [⟨(some 3), some undefA, none, false, .pu (.mkf 43 [(.s 1)])⟩,
   ⟨(some 2), some undefA, none, false, .pu (.mov (.s 3))⟩])
 (.ret))⟩
theorem t33 : trF Try.prog [] [] Try.f33 = some m33 := by kernel_rfl
/-- slices.IndexFunc[[][]int,[]int] [loop [0, 1, 7, 8]] -/
def m34 : MFun := ⟨19, [], [.mov (.s 4)],
 .seq (.ops [⟨(some 4), some undefA, none, false, .pu (.mov (.c (.int .i64 0)))⟩])
 (.seq (.seq (.ops [⟨(some 6), some undefA, none, false, .pu (.mov (.s 0))⟩,
   ⟨(some 7), some undefA, none, false, .pu (.len (.s 6))⟩,
   ⟨(some 8), some undefA, none, false, .pu (.mov (.c (.int .i64 0)))⟩])
 (.block 0 (.loop (.seq (.ops [⟨(some 9), some undefA, none, false, .pu (.bin .lss (.s 8) (.s 7))⟩])
   (.seq (.cond (.s 9) (.skip)
   (.exit 0))
   (.seq (.block 1 (.seq (.ops [⟨(some 10), some undefA, none, false, .pu (.mov (.s 8))⟩,
      ⟨(some 5), some undefA, none, false, .pu (.mov (.s 10))⟩])
    (.seq (.ops [⟨(some 11), some undefA, none, false, .pu (.mov (.s 1))⟩,
      ⟨(some 12), some undefA, none, false, .pu (.mov (.s 0))⟩,
      ⟨(some 13), some undefA, none, false, .pu (.mov (.s 5))⟩,
      ⟨(some 14), some undefA, none, false, .pu (.idx 1 (.s 12) (.s 13))⟩,
      ⟨(some 15), some undefA, none, false, .ld (.ld 1 false (.s 14))⟩,
      ⟨(some 16), some undefA, none, false, .callv (.s 11) [(.s 15)]⟩])
    (.cond (.s 16) (.seq (.ops [⟨(some 17), some undefA, none, false, .pu (.mov (.s 5))⟩,
       ⟨(some 4), some undefA, none, false, .pu (.mov (.s 17))⟩])
     (.ret))
    (.skip)))))
   (.ops [⟨(some 18), some undefA, none, false, .pu (.bin .add (.s 8) (.c (.int .i64 1)))⟩,
     ⟨(some 8), some undefA, none, false, .pu (.mov (.s 18))⟩])))))))
 (.seq (.ops [⟨(some 4), some undefA, none, false, .pu (.mov (.c (.int .i64 (-1))))⟩])
 (.ret)))⟩
theorem t34 : trF Try.prog [] [] Try.f34 = some m34 := by kernel_rfl
/-- slices.Contains[[]int,int] [] -/
def m35 : MFun := ⟨9, [], [.mov (.s 4)],
 .seq (.ops [⟨(some 4), some undefA, none, false, .pu (.mov (.c (.bool false)))⟩])
 (.seq (.ops [⟨(some 5), some undefA, none, false, .pu (.mov (.s 0))⟩,
   ⟨(some 6), some undefA, none, false, .pu (.mov (.s 1))⟩,
   ⟨(some 7), some undefA, none, false, .call 18 [(.s 5), (.s 6)]⟩,
   ⟨(some 8), some undefA, none, false, .pu (.bin .geq (.s 7) (.c (.int .i64 0)))⟩,
   ⟨(some 4), some undefA, none, false, .pu (.mov (.s 8))⟩])
 (.ret))⟩
theorem t35 : trF Try.prog [] [] Try.f35 = some m35 := by kernel_rfl
/-- selion/swap.members [loop [1, 5, 7, 8]] -/
def m36 : MFun := ⟨20, [], [.mov (.s 4)],
 .seq (.ops [⟨(some 4), some undefA, none, false, .pu (.mov (.c (.nilS)))⟩])
 (.seq (.ops [⟨(some 5), some undefA, none, false, .pu (.mov (.c (.nilS)))⟩])
 (.seq (.seq (.ops [⟨(some 7), some undefA, none, false, .pu (.mov (.s 0))⟩,
   ⟨(some 8), some undefA, none, false, .pu (.mov (.c (.int .i64 0)))⟩])
 (.block 0 (.loop (.seq (.ops [⟨(some 9), some undefA, none, false, .pu (.bin .lss (.s 8) (.s 7))⟩])
   (.seq (.cond (.s 9) (.skip)
   (.exit 0))
   (.seq (.block 1 (.seq (.ops [⟨(some 10), some undefA, none, false, .pu (.mov (.s 8))⟩,
      ⟨(some 6), some undefA, none, false, .pu (.mov (.s 10))⟩])
    (.seq (.ops [⟨(some 11), some undefA, none, false, .pu (.mov (.s 1))⟩,
      ⟨(some 12), some undefA, none, false, .pu (.mov (.s 6))⟩,
      ⟨(some 13), some undefA, none, false, .callv (.s 11) [(.s 12)]⟩])
    (.cond (.s 13) (.ops [⟨(some 14), some undefA, none, false, .pu (.mov (.s 5))⟩,
       ⟨(some 15), some undefA, none, false, .pu (.mov (.s 6))⟩,
       ⟨(some 16), some undefA, none, false, .ha (.blds 1 1 [.int .i64 0] [(0, 1, (.s 15))])⟩,
       ⟨(some 17), some undefA, none, false, .ha (.app 1 (.s 14) (.s 16))⟩,
       ⟨(some 5), some undefA, none, false, .pu (.mov (.s 17))⟩])
    (.skip)))))
   (.ops [⟨(some 18), some undefA, none, false, .pu (.bin .add (.s 8) (.c (.int .i64 1)))⟩,
     ⟨(some 8), some undefA, none, false, .pu (.mov (.s 18))⟩])))))))
 (.seq (.ops [⟨(some 19), some undefA, none, false, .pu (.mov (.s 5))⟩,
   ⟨(some 4), some undefA, none, false, .pu (.mov (.s 19))⟩])
 (.ret))))⟩
theorem t36 : trF Try.prog [] [] Try.f36 = some m36 := by kernel_rfl
/-- (selion/swap.bits).has [] -/
def m37 : MFun := ⟨10, [], [.mov (.s 4)],
 .seq (.ops [⟨(some 4), some undefA, none, false, .pu (.mov (.c (.bool false)))⟩])
 (.seq (.ops [⟨(some 5), some undefA, none, false, .pu (.mov (.s 0))⟩,
   ⟨(some 6), some undefA, none, false, .pu (.mov (.s 1))⟩,
   ⟨(some 7), some undefA, none, false, .pu (.bin .shr (.s 5) (.s 6))⟩,
   ⟨(some 8), some undefA, none, false, .pu (.bin .and (.s 7) (.c (.int .i64 1)))⟩,
   ⟨(some 9), some undefA, none, false, .pu (.bin .eql (.s 8) (.c (.int .i64 1)))⟩,
   ⟨(some 4), some undefA, none, false, .pu (.mov (.s 9))⟩])
 (.ret))⟩
theorem t37 : trF Try.prog [] [] Try.f37 = some m37 := by kernel_rfl
/-- selion/swap.gains [loop [0, 1, 3, 9, 12, 13, 14]] -/
def m38 : MFun := ⟨46, [], [.mov (.s 8)],
 .seq (.ops [⟨(some 8), some undefA, none, false, .pu (.mov (.c (.bool false)))⟩])
 (.seq (.ops [⟨(some 9), some undefA, none, false, .pu (.mov (.c (.bool false)))⟩])
 (.seq (.seq (.ops [⟨(some 12), some undefA, none, false, .pu (.mov (.s 2))⟩,
   ⟨(some 13), some undefA, none, false, .pu (.len (.s 12))⟩,
   ⟨(some 14), some undefA, none, false, .pu (.mov (.c (.int .i64 0)))⟩])
 (.block 0 (.loop (.seq (.ops [⟨(some 15), some undefA, none, false, .pu (.bin .lss (.s 14) (.s 13))⟩])
   (.seq (.cond (.s 15) (.skip)
   (.exit 0))
   (.seq (.block 1 (.seq (.ops [⟨(some 16), some undefA, none, false, .pu (.mov (.s 14))⟩,
      ⟨(some 17), some undefA, none, false, .pu (.idx 1 (.s 12) (.s 14))⟩,
      ⟨(some 18), some undefA, none, false, .ld (.ld 1 false (.s 17))⟩,
      ⟨(some 10), some undefA, none, false, .pu (.mov (.s 16))⟩,
      ⟨(some 11), some undefA, none, false, .pu (.mov (.s 18))⟩])
    (.seq (.seq (.ops [⟨(some 19), some undefA, none, true, .pu (.mov (.s 0))⟩,
      ⟨(some 20), some undefA, none, true, .pu (.mov (.s 11))⟩,
      ⟨(some 21), some undefA, none, true, .pu (.mov (.s 1))⟩,
      ⟨(some 22), some undefA, none, true, .pu (.mov (.s 11))⟩,
      ⟨(some 23), some undefA, none, true, .pu (.idx 1 (.s 21) (.s 22))⟩,
      ⟨(some 24), some undefA, none, true, .ld (.ld 1 false (.s 23))⟩,
      ⟨(some 25), some undefA, none, true, .pu (.mov (.s 3))⟩,
      ⟨(some 26), some undefA, none, true, .pu (.mov (.s 10))⟩,
      ⟨(some 27), some undefA, none, true, .pu (.idx 1 (.s 25) (.s 26))⟩,
      ⟨(some 28), some undefA, none, true, .ld (.ld 1 false (.s 27))⟩,
      ⟨(some 29), some undefA, none, false, .call 25 [(.s 19), (.s 20), (.s 24), (.s 28)]⟩])
    (.cond (.s 29) (.seq (.ops [⟨(some 8), some undefA, none, false, .pu (.mov (.c (.bool false)))⟩])
     (.ret))
    (.skip)))
    (.ops [⟨(some 30), some undefA, none, false, .pu (.mov (.s 9))⟩,
      ⟨(some 31), some undefA, none, false, .pu (.mov (.s 30))⟩,
      ⟨(some 32), some undefA, (some (31, false)), true, .pu (.mov (.s 0))⟩,
      ⟨(some 33), some undefA, (some (31, false)), true, .pu (.mov (.s 11))⟩,
      ⟨(some 34), some undefA, (some (31, false)), true, .pu (.mov (.s 3))⟩,
      ⟨(some 35), some undefA, (some (31, false)), true, .pu (.mov (.s 10))⟩,
      ⟨(some 36), some undefA, (some (31, false)), true, .pu (.idx 1 (.s 34) (.s 35))⟩,
      ⟨(some 37), some undefA, (some (31, false)), true, .ld (.ld 1 false (.s 36))⟩,
      ⟨(some 38), some undefA, (some (31, false)), true, .pu (.mov (.s 1))⟩,
      ⟨(some 39), some undefA, (some (31, false)), true, .pu (.mov (.s 11))⟩,
      ⟨(some 40), some undefA, (some (31, false)), true, .pu (.idx 1 (.s 38) (.s 39))⟩,
      ⟨(some 41), some undefA, (some (31, false)), true, .ld (.ld 1 false (.s 40))⟩,
      ⟨(some 42), some undefA, (some (31, false)), false, .call 25 [(.s 32), (.s 33), (.s 37), (.s 41)]⟩,
      ⟨(some 43), some undefA, none, false, .pu (.pick (.s 31) (.c (.bool true)) (.s 42))⟩,
      ⟨(some 9), some undefA, none, false, .pu (.mov (.s 43))⟩]))))
   (.ops [⟨(some 44), some undefA, none, false, .pu (.bin .add (.s 14) (.c (.int .i64 1)))⟩,
     ⟨(some 14), some undefA, none, false, .pu (.mov (.s 44))⟩])))))))
 (.seq (.ops [⟨(some 45), some undefA, none, false, .pu (.mov (.s 9))⟩,
   ⟨(some 8), some undefA, none, false, .pu (.mov (.s 45))⟩])
 (.ret))))⟩
theorem t38 : trF Try.prog [] [] Try.f38 = some m38 := by kernel_rfl
/-- slices.Concat[[]int,int] [loop [0, 3, 9, 10, 11], loop [6, 25, 26, 27]] -/
def m39 : MFun := ⟨36, [], [.mov (.s 2)],
 .seq (.ops [⟨(some 2), some undefA, none, false, .pu (.mov (.c (.nilS)))⟩])
 (.seq (.ops [⟨(some 3), some undefA, none, false, .pu (.mov (.c (.int .i64 0)))⟩])
 (.seq (.seq (.ops [⟨(some 9), some undefA, none, false, .pu (.mov (.s 0))⟩,
   ⟨(some 10), some undefA, none, false, .pu (.len (.s 9))⟩,
   ⟨(some 11), some undefA, none, false, .pu (.mov (.c (.int .i64 0)))⟩])
 (.block 0 (.loop (.seq (.ops [⟨(some 12), some undefA, none, false, .pu (.bin .lss (.s 11) (.s 10))⟩])
   (.seq (.cond (.s 12) (.skip)
   (.exit 0))
   (.seq (.block 1 (.seq (.ops [⟨(some 13), some undefA, none, false, .pu (.idx 1 (.s 9) (.s 11))⟩,
      ⟨(some 14), some undefA, none, false, .ld (.ld 1 false (.s 13))⟩,
      ⟨(some 5), some undefA, none, false, .pu (.mov (.s 14))⟩])
    (.seq (.ops [⟨(some 15), some undefA, none, false, .pu (.mov (.s 3))⟩,
      ⟨(some 16), some undefA, none, false, .pu (.mov (.s 5))⟩,
      ⟨(some 17), some undefA, none, false, .pu (.len (.s 16))⟩,
      ⟨(some 18), some undefA, none, false, .pu (.bin .add (.s 15) (.s 17))⟩,
      ⟨(some 3), some undefA, none, false, .pu (.mov (.s 18))⟩])
    (.seq (.ops [⟨(some 19), some undefA, none, false, .pu (.mov (.s 3))⟩,
      ⟨(some 20), some undefA, none, false, .pu (.bin .lss (.s 19) (.c (.int .i64 0)))⟩])
    (.cond (.s 20) (.ops [⟨(some 21), some undefA, none, false, .pu (.fail)⟩,
       ⟨none, some undefA, none, false, .pu (.fail)⟩])
    (.skip))))))
   (.ops [⟨(some 22), some undefA, none, false, .pu (.bin .add (.s 11) (.c (.int .i64 1)))⟩,
     ⟨(some 11), some undefA, none, false, .pu (.mov (.s 22))⟩])))))))
 (.seq (.ops [⟨(some 23), some undefA, none, false, .pu (.mov (.s 3))⟩,
   ⟨(some 24), some undefA, none, false, .call 47 [(.c (.nilS)), (.s 23)]⟩,
   ⟨(some 6), some undefA, none, false, .pu (.mov (.s 24))⟩])
 (.seq (.seq (.ops [⟨(some 25), some undefA, none, false, .pu (.mov (.s 0))⟩,
   ⟨(some 26), some undefA, none, false, .pu (.len (.s 25))⟩,
   ⟨(some 27), some undefA, none, false, .pu (.mov (.c (.int .i64 0)))⟩])
 (.block 2 (.loop (.seq (.ops [⟨(some 28), some undefA, none, false, .pu (.bin .lss (.s 27) (.s 26))⟩])
   (.seq (.cond (.s 28) (.skip)
   (.exit 2))
   (.seq (.block 3 (.seq (.ops [⟨(some 29), some undefA, none, false, .pu (.idx 1 (.s 25) (.s 27))⟩,
      ⟨(some 30), some undefA, none, false, .ld (.ld 1 false (.s 29))⟩,
      ⟨(some 8), some undefA, none, false, .pu (.mov (.s 30))⟩])
    (.ops [⟨(some 31), some undefA, none, false, .pu (.mov (.s 6))⟩,
      ⟨(some 32), some undefA, none, false, .pu (.mov (.s 8))⟩,
      ⟨(some 33), some undefA, none, false, .ha (.app 1 (.s 31) (.s 32))⟩,
      ⟨(some 6), some undefA, none, false, .pu (.mov (.s 33))⟩])))
   (.ops [⟨(some 34), some undefA, none, false, .pu (.bin .add (.s 27) (.c (.int .i64 1)))⟩,
     ⟨(some 27), some undefA, none, false, .pu (.mov (.s 34))⟩])))))))
 (.seq (.ops [⟨(some 35), some undefA, none, false, .pu (.mov (.s 6))⟩,
   ⟨(some 2), some undefA, none, false, .pu (.mov (.s 35))⟩])
 (.ret))))))⟩
theorem t39 : trF Try.prog [] [] Try.f39 = some m39 := by kernel_rfl
/-- selion/swap.everybody$1 [] -/
def m40 : MFun := ⟨3, [], [.mov (.s 2)],
 .seq (.ops [⟨(some 2), some undefA, none, false, .pu (.mov (.c (.bool false)))⟩])
 (.seq (.ops [⟨(some 2), some undefA, none, false, .pu (.mov (.c (.bool true)))⟩])
 (.ret))⟩
theorem t40 : trF Try.prog [] [] Try.f40 = some m40 := by kernel_rfl
/-- slices.IndexFunc[[]int,int] [loop [0, 1, 7, 8]] -/
def m41 : MFun := ⟨19, [], [.mov (.s 4)],
 .seq (.ops [⟨(some 4), some undefA, none, false, .pu (.mov (.c (.int .i64 0)))⟩])
 (.seq (.seq (.ops [⟨(some 6), some undefA, none, false, .pu (.mov (.s 0))⟩,
   ⟨(some 7), some undefA, none, false, .pu (.len (.s 6))⟩,
   ⟨(some 8), some undefA, none, false, .pu (.mov (.c (.int .i64 0)))⟩])
 (.block 0 (.loop (.seq (.ops [⟨(some 9), some undefA, none, false, .pu (.bin .lss (.s 8) (.s 7))⟩])
   (.seq (.cond (.s 9) (.skip)
   (.exit 0))
   (.seq (.block 1 (.seq (.ops [⟨(some 10), some undefA, none, false, .pu (.mov (.s 8))⟩,
      ⟨(some 5), some undefA, none, false, .pu (.mov (.s 10))⟩])
    (.seq (.ops [⟨(some 11), some undefA, none, false, .pu (.mov (.s 1))⟩,
      ⟨(some 12), some undefA, none, false, .pu (.mov (.s 0))⟩,
      ⟨(some 13), some undefA, none, false, .pu (.mov (.s 5))⟩,
      ⟨(some 14), some undefA, none, false, .pu (.idx 1 (.s 12) (.s 13))⟩,
      ⟨(some 15), some undefA, none, false, .ld (.ld 1 false (.s 14))⟩,
      ⟨(some 16), some undefA, none, false, .callv (.s 11) [(.s 15)]⟩])
    (.cond (.s 16) (.seq (.ops [⟨(some 17), some undefA, none, false, .pu (.mov (.s 5))⟩,
       ⟨(some 4), some undefA, none, false, .pu (.mov (.s 17))⟩])
     (.ret))
    (.skip)))))
   (.ops [⟨(some 18), some undefA, none, false, .pu (.bin .add (.s 8) (.c (.int .i64 1)))⟩,
     ⟨(some 8), some undefA, none, false, .pu (.mov (.s 18))⟩])))))))
 (.seq (.ops [⟨(some 4), some undefA, none, false, .pu (.mov (.c (.int .i64 (-1))))⟩])
 (.ret)))⟩
theorem t41 : trF Try.prog [] [] Try.f41 = some m41 := by kernel_rfl
/-- selion/swap.pick$1 [] -/
def m42 : MFun := ⟨8, [], [.mov (.s 3)],
 .seq (.ops [⟨(some 3), some undefA, none, false, .pu (.mov (.c (.bool false)))⟩])
 (.seq (.ops [⟨(some 4), some undefA, none, false, .ld (.ld 1 false (.s 1))⟩,
   ⟨(some 5), some undefA, none, false, .pu (.mov (.s 0))⟩,
   ⟨(some 6), some undefA, none, false, .call 35 [(.s 4), (.s 5)]⟩,
   ⟨(some 7), some undefA, none, false, .pu (.not (.s 6))⟩,
   ⟨(some 3), some undefA, none, false, .pu (.mov (.s 7))⟩])
 (.ret))⟩
theorem t42 : trF Try.prog [] [] Try.f42 = some m42 := by kernel_rfl
/-- slices.Contains[[]bool,bool] [] -/
def m44 : MFun := ⟨9, [], [.mov (.s 4)],
 .seq (.ops [⟨(some 4), some undefA, none, false, .pu (.mov (.c (.bool false)))⟩])
 (.seq (.ops [⟨(some 5), some undefA, none, false, .pu (.mov (.s 0))⟩,
   ⟨(some 6), some undefA, none, false, .pu (.mov (.s 1))⟩,
   ⟨(some 7), some undefA, none, false, .call 48 [(.s 5), (.s 6)]⟩,
   ⟨(some 8), some undefA, none, false, .pu (.bin .geq (.s 7) (.c (.int .i64 0)))⟩,
   ⟨(some 4), some undefA, none, false, .pu (.mov (.s 8))⟩])
 (.ret))⟩
theorem t44 : trF Try.prog [] [] Try.f44 = some m44 := by kernel_rfl
/-- selion/swap.rounds$1$1 [] -/
def m45 : MFun := ⟨8, [], [.mov (.s 3)],
 .seq (.ops [⟨(some 3), some undefA, none, false, .pu (.mov (.c (.bool false)))⟩])
 (.seq (.ops [⟨(some 4), some undefA, none, false, .ld (.ld 1 false (.s 1))⟩,
   ⟨(some 5), some undefA, none, false, .pu (.mov (.s 0))⟩,
   ⟨(some 6), some undefA, none, false, .pu (.idx 1 (.s 4) (.s 5))⟩,
   ⟨(some 7), some undefA, none, false, .ld (.ld 1 false (.s 6))⟩,
   ⟨(some 3), some undefA, none, false, .pu (.mov (.s 7))⟩])
 (.ret))⟩
theorem t45 : trF Try.prog [] [] Try.f45 = some m45 := by kernel_rfl
/-- selion/swap.rounds$1$2 [] -/
def m46 : MFun := ⟨7, [], [.mov (.s 3)],
 .seq (.ops [⟨(some 3), some undefA, none, false, .pu (.mov (.c (.bool false)))⟩])
 (.seq (.ops [⟨(some 4), some undefA, none, false, .pu (.mov (.s 0))⟩,
   ⟨(some 5), some undefA, none, false, .ld (.ld 1 false (.s 1))⟩,
   ⟨(some 6), some undefA, none, false, .call 35 [(.s 4), (.s 5)]⟩,
   ⟨(some 3), some undefA, none, false, .pu (.mov (.s 6))⟩])
 (.ret))⟩
theorem t46 : trF Try.prog [] [] Try.f46 = some m46 := by kernel_rfl
/-- slices.Grow[[]int,int] [] -/
def m47 : MFun := ⟨27, [], [.mov (.s 4)],
 .seq (.ops [⟨(some 4), some undefA, none, false, .pu (.mov (.c (.nilS)))⟩])
 (.seq (.seq (.ops [⟨(some 5), some undefA, none, false, .pu (.mov (.s 1))⟩,
   ⟨(some 6), some undefA, none, false, .pu (.bin .lss (.s 5) (.c (.int .i64 0)))⟩])
 (.cond (.s 6) (.ops [⟨(some 7), some undefA, none, false, .pu (.fail)⟩,
    ⟨none, some undefA, none, false, .pu (.fail)⟩])
 (.skip)))
 (.seq (.seq (.ops [⟨(some 8), some undefA, none, false, .pu (.mov (.s 1))⟩,
   ⟨(some 9), some undefA, none, false, .pu (.mov (.s 0))⟩,
   ⟨(some 10), some undefA, none, false, .pu (.cap (.s 9))⟩,
   ⟨(some 11), some undefA, none, false, .pu (.mov (.s 0))⟩,
   ⟨(some 12), some undefA, none, false, .pu (.len (.s 11))⟩,
   ⟨(some 13), some undefA, none, false, .pu (.bin .sub (.s 10) (.s 12))⟩,
   ⟨(some 14), some undefA, none, false, .pu (.bin .sub (.s 8) (.s 13))⟩,
   ⟨(some 1), some undefA, none, false, .pu (.mov (.s 14))⟩])
 (.seq (.ops [⟨(some 15), some undefA, none, false, .pu (.mov (.s 1))⟩,
   ⟨(some 16), some undefA, none, false, .pu (.bin .gtr (.s 15) (.c (.int .i64 0)))⟩])
 (.cond (.s 16) (.ops [⟨(some 17), some undefA, none, false, .pu (.mov (.s 0))⟩,
    ⟨(some 18), some undefA, none, false, .pu (.mov (.s 0))⟩,
    ⟨(some 19), some undefA, none, false, .pu (.cap (.s 18))⟩,
    ⟨(some 20), some undefA, none, false, .pu (.slc 1 (.s 17) none (some (.s 19)) none)⟩,
    ⟨(some 21), some undefA, none, false, .pu (.mov (.s 1))⟩,
    ⟨(some 22), some undefA, none, false, .ha (.appz 1 [.int .i64 0] (.s 20) (.s 21))⟩,
    ⟨(some 23), some undefA, none, false, .pu (.mov (.s 0))⟩,
    ⟨(some 24), some undefA, none, false, .pu (.len (.s 23))⟩,
    ⟨(some 25), some undefA, none, false, .pu (.slc 1 (.s 22) none (some (.s 24)) none)⟩,
    ⟨(some 0), some undefA, none, false, .pu (.mov (.s 25))⟩])
 (.skip))))
 (.seq (.ops [⟨(some 26), some undefA, none, false, .pu (.mov (.s 0))⟩,
   ⟨(some 4), some undefA, none, false, .pu (.mov (.s 26))⟩])
 (.ret))))⟩
theorem t47 : trF Try.prog [] [] Try.f47 = some m47 := by kernel_rfl
/-- slices.Index[[]bool,bool] [loop [0, 1, 7, 8]] -/
def m48 : MFun := ⟨19, [], [.mov (.s 4)],
 .seq (.ops [⟨(some 4), some undefA, none, false, .pu (.mov (.c (.int .i64 0)))⟩])
 (.seq (.seq (.ops [⟨(some 6), some undefA, none, false, .pu (.mov (.s 0))⟩,
   ⟨(some 7), some undefA, none, false, .pu (.len (.s 6))⟩,
   ⟨(some 8), some undefA, none, false, .pu (.mov (.c (.int .i64 0)))⟩])
 (.block 0 (.loop (.seq (.ops [⟨(some 9), some undefA, none, false, .pu (.bin .lss (.s 8) (.s 7))⟩])
   (.seq (.cond (.s 9) (.skip)
   (.exit 0))
   (.seq (.block 1 (.seq (.ops [⟨(some 10), some undefA, none, false, .pu (.mov (.s 8))⟩,
      ⟨(some 5), some undefA, none, false, .pu (.mov (.s 10))⟩])
    (.seq (.ops [⟨(some 11), some undefA, none, false, .pu (.mov (.s 1))⟩,
      ⟨(some 12), some undefA, none, false, .pu (.mov (.s 0))⟩,
      ⟨(some 13), some undefA, none, false, .pu (.mov (.s 5))⟩,
      ⟨(some 14), some undefA, none, false, .pu (.idx 1 (.s 12) (.s 13))⟩,
      ⟨(some 15), some undefA, none, false, .ld (.ld 1 false (.s 14))⟩,
      ⟨(some 16), some undefA, none, false, .pu (.eqb false (.s 11) (.s 15))⟩])
    (.cond (.s 16) (.seq (.ops [⟨(some 17), some undefA, none, false, .pu (.mov (.s 5))⟩,
       ⟨(some 4), some undefA, none, false, .pu (.mov (.s 17))⟩])
     (.ret))
    (.skip)))))
   (.ops [⟨(some 18), some undefA, none, false, .pu (.bin .add (.s 8) (.c (.int .i64 1)))⟩,
     ⟨(some 8), some undefA, none, false, .pu (.mov (.s 18))⟩])))))))
 (.seq (.ops [⟨(some 4), some undefA, none, false, .pu (.mov (.c (.int .i64 (-1))))⟩])
 (.ret)))⟩
theorem t48 : trF Try.prog [] [] Try.f48 = some m48 := by kernel_rfl
end Go.Proofs.Ytgidfejkfdkflaa

namespace Go.Proofs.Ytgidfejkfdkflaa
open Go Go.Eng
/-- selion/seliontop.TopSwaps [loop [0, 5, 9, 17, 18]] -/
def m3 : MFun := ⟨231, [5], [.mov (.s 6)],
 .seq (.ops [⟨(some 5), some (.junk), none, false, .pu (.bnew (.s 2))⟩,
   ⟨(some 6), some undefA, none, false, .pu (.mov (.c (.bool false)))⟩])
 (.seq (.seq (.ops [⟨(some 32), some undefA, none, false, .ha (.blds 1 2 [.int .i64 0] [(0, 1, (.c (.int .i64 1))), (1, 1, (.c (.int .i64 0)))])⟩,
   ⟨(some 33), some undefA, none, false, .ha (.blds 1 2 [.int .i64 0] [(0, 1, (.c (.int .i64 1))), (1, 1, (.c (.int .i64 0)))])⟩,
   ⟨(some 34), some undefA, none, false, .ha (.blds 1 2 [.nilS] [(0, 1, (.s 32)), (1, 1, (.s 33))])⟩,
   ⟨(some 35), some undefA, none, false, .ha (.blds 1 2 [.int .i64 0] [(0, 1, (.c (.int .i64 0))), (1, 1, (.c (.int .i64 1)))])⟩,
   ⟨(some 36), some undefA, none, false, .call 4 [(.s 34), (.s 35)]⟩,
   ⟨(some 31), some undefA, none, false, .pu (.mov (.s 36))⟩,
   ⟨(some 37), some undefA, none, false, .pu (.extr 0 (.s 31))⟩,
   ⟨(some 38), some undefA, none, false, .pu (.extr 1 (.s 31))⟩,
   ⟨(some 7), some undefA, none, false, .pu (.mov (.s 37))⟩,
   ⟨(some 8), some undefA, none, false, .pu (.mov (.s 38))⟩])
 (.seq (.ops [⟨(some 39), some undefA, none, false, .pu (.mov (.s 8))⟩,
   ⟨(some 40), some undefA, none, false, .pu (.bin .neq (.s 39) (.c (.int .i64 0)))⟩,
   ⟨(some 41), some undefA, none, false, .pu (.mov (.s 40))⟩,
   ⟨(some 42), some undefA, (some (41, false)), false, .pu (.mov (.s 7))⟩,
   ⟨(some 43), some undefA, (some (41, false)), false, .ha (.blds 1 2 [.int .i64 0] [(0, 1, (.c (.int .i64 1))), (1, 1, (.c (.int .i64 0)))])⟩,
   ⟨(some 44), some undefA, (some (41, false)), false, .call 5 [(.s 42), (.s 43)]⟩,
   ⟨(some 45), some undefA, (some (41, false)), false, .pu (.not (.s 44))⟩,
   ⟨(some 46), some undefA, none, false, .pu (.pick (.s 41) (.c (.bool true)) (.s 45))⟩])
 (.cond (.s 46) (.seq (.ops [⟨(some 6), some undefA, none, false, .pu (.mov (.c (.bool false)))⟩])
  (.ret))
 (.skip))))
 (.seq (.seq (.ops [⟨(some 47), some undefA, none, false, .pu (.mov (.s 0))⟩,
   ⟨(some 48), some undefA, none, false, .call 6 [(.s 47)]⟩,
   ⟨(some 49), some undefA, none, false, .pu (.mov (.s 48))⟩,
   ⟨(some 50), some undefA, (some (49, false)), false, .pu (.mov (.s 1))⟩,
   ⟨(some 51), some undefA, (some (49, false)), false, .pu (.len (.s 50))⟩,
   ⟨(some 52), some undefA, (some (49, false)), false, .pu (.bin .gtr (.s 51) (.c (.int .i64 40)))⟩,
   ⟨(some 53), some undefA, none, false, .pu (.pick (.s 49) (.c (.bool true)) (.s 52))⟩,
   ⟨(some 54), some undefA, none, false, .pu (.mov (.s 53))⟩,
   ⟨(some 55), some undefA, (some (54, false)), false, .pu (.badr none 5)⟩,
   ⟨(some 56), some undefA, (some (54, false)), false, .pu (.bget (some 55) 5 1 1 false)⟩,
   ⟨(some 57), some undefA, (some (54, false)), false, .pu (.len (.s 56))⟩,
   ⟨(some 58), some undefA, (some (54, false)), false, .pu (.bin .gtr (.s 57) (.c (.int .i64 40)))⟩,
   ⟨(some 59), some undefA, none, false, .pu (.pick (.s 54) (.c (.bool true)) (.s 58))⟩])
 (.cond (.s 59) (.seq (.ops [⟨(some 6), some undefA, none, false, .pu (.mov (.c (.bool true)))⟩])
  (.ret))
 (.skip)))
 (.seq (.ops [⟨(some 61), some undefA, none, false, .pu (.mov (.s 0))⟩,
   ⟨(some 62), some undefA, none, false, .call 7 [(.s 61)]⟩,
   ⟨(some 60), some undefA, none, false, .pu (.mov (.s 62))⟩,
   ⟨(some 63), some undefA, none, false, .pu (.extr 0 (.s 60))⟩,
   ⟨(some 64), some undefA, none, false, .pu (.extr 1 (.s 60))⟩,
   ⟨(some 9), some undefA, none, false, .pu (.mov (.s 63))⟩,
   ⟨(some 10), some undefA, none, false, .pu (.mov (.s 64))⟩])
 (.seq (.seq (.ops [⟨(some 65), some undefA, none, false, .pu (.mov (.s 10))⟩,
   ⟨(some 66), some undefA, none, false, .pu (.bin .neq (.s 65) (.c (.int .i64 0)))⟩])
 (.cond (.s 66) (.seq (.ops [⟨(some 67), some undefA, none, false, .pu (.mov (.s 0))⟩,
    ⟨(some 68), some undefA, none, false, .call 8 [(.s 67)]⟩,
    ⟨(some 69), some undefA, none, false, .pu (.mov (.s 10))⟩,
    ⟨(some 70), some undefA, none, false, .pu (.bin .eql (.s 68) (.s 69))⟩,
    ⟨(some 6), some undefA, none, false, .pu (.mov (.s 70))⟩])
  (.ret))
 (.skip)))
 (.seq (.ops [⟨(some 72), some undefA, none, false, .pu (.mov (.s 0))⟩,
   ⟨(some 73), some undefA, none, false, .pu (.mov (.s 9))⟩,
   ⟨(some 74), some undefA, none, false, .call 9 [(.s 72), (.s 73)]⟩,
   ⟨(some 71), some undefA, none, false, .pu (.mov (.s 74))⟩,
   ⟨(some 75), some undefA, none, false, .pu (.extr 0 (.s 71))⟩,
   ⟨(some 76), some undefA, none, false, .pu (.extr 1 (.s 71))⟩,
   ⟨(some 11), some undefA, none, false, .pu (.mov (.s 75))⟩,
   ⟨(some 12), some undefA, none, false, .pu (.mov (.s 76))⟩])
 (.seq (.ops [⟨(some 78), some undefA, none, false, .pu (.mov (.s 0))⟩,
   ⟨(some 79), some undefA, none, false, .pu (.mov (.s 9))⟩,
   ⟨(some 80), some undefA, none, false, .call 10 [(.s 78), (.s 79)]⟩,
   ⟨(some 77), some undefA, none, false, .pu (.mov (.s 80))⟩,
   ⟨(some 81), some undefA, none, false, .pu (.extr 0 (.s 77))⟩,
   ⟨(some 82), some undefA, none, false, .pu (.extr 1 (.s 77))⟩,
   ⟨(some 13), some undefA, none, false, .pu (.mov (.s 81))⟩,
   ⟨(some 14), some undefA, none, false, .pu (.mov (.s 82))⟩])
 (.seq (.seq (.ops [⟨(some 83), some undefA, none, false, .pu (.mov (.s 12))⟩,
   ⟨(some 84), some undefA, none, false, .pu (.bin .neq (.s 83) (.c (.int .i64 0)))⟩,
   ⟨(some 85), some undefA, none, false, .pu (.mov (.s 84))⟩,
   ⟨(some 86), some undefA, (some (85, false)), false, .pu (.mov (.s 14))⟩,
   ⟨(some 87), some undefA, (some (85, false)), false, .pu (.bin .neq (.s 86) (.c (.int .i64 0)))⟩,
   ⟨(some 88), some undefA, none, false, .pu (.pick (.s 85) (.c (.bool true)) (.s 87))⟩,
   ⟨(some 89), some undefA, none, false, .pu (.mov (.s 88))⟩,
   ⟨(some 90), some undefA, (some (89, false)), false, .pu (.mov (.s 11))⟩,
   ⟨(some 91), some undefA, (some (89, false)), false, .pu (.not (.s 90))⟩,
   ⟨(some 92), some undefA, none, false, .pu (.pick (.s 89) (.c (.bool true)) (.s 91))⟩,
   ⟨(some 93), some undefA, none, false, .pu (.mov (.s 92))⟩,
   ⟨(some 94), some undefA, (some (93, false)), false, .pu (.mov (.s 13))⟩,
   ⟨(some 95), some undefA, (some (93, false)), false, .pu (.not (.s 94))⟩,
   ⟨(some 96), some undefA, none, false, .pu (.pick (.s 93) (.c (.bool true)) (.s 95))⟩,
   ⟨(some 97), some undefA, none, false, .pu (.mov (.s 96))⟩,
   ⟨(some 98), some undefA, (some (97, false)), false, .pu (.mov (.s 9))⟩,
   ⟨(some 99), some undefA, (some (97, false)), false, .pu (.len (.s 98))⟩,
   ⟨(some 100), some undefA, (some (97, false)), false, .pu (.mov (.s 0))⟩,
   ⟨(some 101), some undefA, (some (97, false)), false, .pu (.len (.s 100))⟩,
   ⟨(some 102), some undefA, (some (97, false)), false, .pu (.bin .neq (.s 99) (.s 101))⟩,
   ⟨(some 103), some undefA, none, false, .pu (.pick (.s 97) (.c (.bool true)) (.s 102))⟩])
 (.cond (.s 103) (.seq (.ops [⟨(some 6), some undefA, none, false, .pu (.mov (.c (.bool false)))⟩])
  (.ret))
 (.skip)))
 (.seq (.seq (.ops [⟨(some 104), some undefA, none, false, .pu (.mov (.s 0))⟩,
   ⟨(some 105), some undefA, none, false, .pu (.mov (.s 1))⟩,
   ⟨(some 106), some undefA, none, false, .call 11 [(.s 104), (.s 105)]⟩,
   ⟨(some 107), some undefA, none, false, .pu (.bin .eql (.s 106) (.c (.int .i64 0)))⟩])
 (.cond (.s 107) (.seq (.ops [⟨(some 109), some undefA, none, false, .pu (.mov (.s 0))⟩,
    ⟨(some 110), some undefA, none, false, .pu (.mov (.s 1))⟩,
    ⟨(some 111), some undefA, none, false, .call 9 [(.s 109), (.s 110)]⟩,
    ⟨(some 108), some undefA, none, false, .pu (.mov (.s 111))⟩,
    ⟨(some 112), some undefA, none, false, .pu (.extr 0 (.s 108))⟩,
    ⟨(some 113), some undefA, none, false, .pu (.extr 1 (.s 108))⟩,
    ⟨(some 15), some undefA, none, false, .pu (.mov (.s 112))⟩,
    ⟨(some 16), some undefA, none, false, .pu (.mov (.s 113))⟩])
  (.seq (.seq (.ops [⟨(some 114), some undefA, none, false, .pu (.mov (.s 16))⟩,
    ⟨(some 115), some undefA, none, false, .pu (.bin .neq (.s 114) (.c (.int .i64 0)))⟩,
    ⟨(some 116), some undefA, none, false, .pu (.mov (.s 115))⟩,
    ⟨(some 117), some undefA, (some (116, false)), false, .pu (.mov (.s 15))⟩,
    ⟨(some 118), some undefA, (some (116, false)), false, .pu (.mov (.s 9))⟩,
    ⟨(some 119), some undefA, (some (116, false)), false, .pu (.mov (.s 1))⟩,
    ⟨(some 120), some undefA, (some (116, false)), false, .call 5 [(.s 118), (.s 119)]⟩,
    ⟨(some 121), some undefA, (some (116, false)), false, .pu (.eqb true (.s 117) (.s 120))⟩,
    ⟨(some 122), some undefA, none, false, .pu (.pick (.s 116) (.c (.bool true)) (.s 121))⟩])
  (.cond (.s 122) (.seq (.ops [⟨(some 6), some undefA, none, false, .pu (.mov (.c (.bool false)))⟩])
   (.ret))
  (.skip)))
  (.seq (.ops [⟨(some 123), some undefA, none, false, .ha (.blds 1 0 [.int .i64 0] [])⟩,
    ⟨(some 124), some undefA, none, false, .pu (.mov (.s 1))⟩,
    ⟨(some 125), some undefA, none, false, .ha (.app 1 (.s 123) (.s 124))⟩,
    ⟨(some 17), some undefA, none, false, .pu (.mov (.s 125))⟩])
  (.seq (.seq (.ops [⟨(some 18), some undefA, none, false, .pu (.mov (.c (.int .i64 0)))⟩])
  (.block 0 (.loop (.seq (.block 1 (.seq (.ops [⟨(some 129), some undefA, none, false, .pu (.mov (.s 0))⟩,
       ⟨(some 130), some undefA, none, false, .pu (.mov (.s 17))⟩,
       ⟨(some 131), some undefA, none, false, .call 12 [(.s 129), (.s 130)]⟩,
       ⟨(some 128), some undefA, none, false, .pu (.mov (.s 131))⟩,
       ⟨(some 132), some undefA, none, false, .pu (.extr 0 (.s 128))⟩,
       ⟨(some 133), some undefA, none, false, .pu (.extr 1 (.s 128))⟩,
       ⟨(some 134), some undefA, none, false, .pu (.extr 2 (.s 128))⟩,
       ⟨(some 19), some undefA, none, false, .pu (.mov (.s 132))⟩,
       ⟨(some 20), some undefA, none, false, .pu (.mov (.s 133))⟩,
       ⟨(some 21), some undefA, none, false, .pu (.mov (.s 134))⟩])
     (.seq (.seq (.ops [⟨(some 135), some undefA, none, false, .pu (.mov (.s 21))⟩,
       ⟨(some 136), some undefA, none, false, .pu (.bin .neq (.s 135) (.c (.int .i64 0)))⟩,
       ⟨(some 137), some undefA, none, false, .pu (.mov (.s 136))⟩,
       ⟨(some 138), some undefA, (some (137, false)), false, .pu (.mov (.s 18))⟩,
       ⟨(some 139), some undefA, (some (137, false)), false, .pu (.bin .gtr (.s 138) (.c (.int .i64 30)))⟩,
       ⟨(some 140), some undefA, none, false, .pu (.pick (.s 137) (.c (.bool true)) (.s 139))⟩])
     (.cond (.s 140) (.seq (.ops [⟨(some 6), some undefA, none, false, .pu (.mov (.c (.bool false)))⟩])
      (.ret))
     (.skip)))
     (.seq (.seq (.ops [⟨(some 141), some undefA, none, false, .pu (.mov (.s 20))⟩,
       ⟨(some 142), some undefA, none, false, .pu (.not (.s 141))⟩])
     (.cond (.s 142) (.exit 0)
     (.skip)))
     (.seq (.ops [⟨(some 144), some undefA, none, false, .pu (.mov (.s 0))⟩,
       ⟨(some 145), some undefA, none, false, .pu (.mov (.s 17))⟩,
       ⟨(some 146), some undefA, none, false, .call 4 [(.s 144), (.s 145)]⟩,
       ⟨(some 143), some undefA, none, false, .pu (.mov (.s 146))⟩,
       ⟨(some 147), some undefA, none, false, .pu (.extr 0 (.s 143))⟩,
       ⟨(some 148), some undefA, none, false, .pu (.extr 1 (.s 143))⟩,
       ⟨(some 22), some undefA, none, false, .pu (.mov (.s 147))⟩,
       ⟨(some 23), some undefA, none, false, .pu (.mov (.s 148))⟩])
     (.seq (.ops [⟨(some 150), some undefA, none, false, .pu (.mov (.s 0))⟩,
       ⟨(some 151), some undefA, none, false, .pu (.mov (.s 19))⟩,
       ⟨(some 152), some undefA, none, false, .call 4 [(.s 150), (.s 151)]⟩,
       ⟨(some 149), some undefA, none, false, .pu (.mov (.s 152))⟩,
       ⟨(some 153), some undefA, none, false, .pu (.extr 0 (.s 149))⟩,
       ⟨(some 154), some undefA, none, false, .pu (.extr 1 (.s 149))⟩,
       ⟨(some 24), some undefA, none, false, .pu (.mov (.s 153))⟩,
       ⟨(some 25), some undefA, none, false, .pu (.mov (.s 154))⟩])
     (.seq (.seq (.ops [⟨(some 155), some undefA, none, false, .pu (.mov (.s 23))⟩,
       ⟨(some 156), some undefA, none, false, .pu (.bin .neq (.s 155) (.c (.int .i64 0)))⟩,
       ⟨(some 157), some undefA, none, false, .pu (.mov (.s 156))⟩,
       ⟨(some 158), some undefA, (some (157, false)), false, .pu (.mov (.s 25))⟩,
       ⟨(some 159), some undefA, (some (157, false)), false, .pu (.bin .neq (.s 158) (.c (.int .i64 0)))⟩,
       ⟨(some 160), some undefA, none, false, .pu (.pick (.s 157) (.c (.bool true)) (.s 159))⟩,
       ⟨(some 161), some undefA, none, false, .pu (.mov (.s 160))⟩,
       ⟨(some 162), some undefA, (some (161, false)), false, .pu (.mov (.s 24))⟩,
       ⟨(some 163), some undefA, (some (161, false)), false, .call 13 [(.s 162)]⟩,
       ⟨(some 164), some undefA, (some (161, false)), false, .pu (.mov (.s 22))⟩,
       ⟨(some 165), some undefA, (some (161, false)), false, .call 13 [(.s 164)]⟩,
       ⟨(some 166), some undefA, (some (161, false)), false, .pu (.bin .geq (.s 163) (.s 165))⟩,
       ⟨(some 167), some undefA, none, false, .pu (.pick (.s 161) (.c (.bool true)) (.s 166))⟩])
     (.cond (.s 167) (.seq (.ops [⟨(some 6), some undefA, none, false, .pu (.mov (.c (.bool false)))⟩])
      (.ret))
     (.skip)))
     (.ops [⟨(some 168), some undefA, none, false, .ha (.blds 1 0 [.int .i64 0] [])⟩,
       ⟨(some 169), some undefA, none, false, .pu (.mov (.s 19))⟩,
       ⟨(some 170), some undefA, none, false, .ha (.app 1 (.s 168) (.s 169))⟩,
       ⟨(some 17), some undefA, none, false, .pu (.mov (.s 170))⟩]))))))))
    (.ops [⟨(some 126), some undefA, none, false, .pu (.mov (.s 18))⟩,
      ⟨(some 127), some undefA, none, false, .pu (.bin .add (.s 126) (.c (.int .i64 1)))⟩,
      ⟨(some 18), some undefA, none, false, .pu (.mov (.s 127))⟩])))))
  (.seq (.ops [⟨(some 172), some undefA, none, false, .pu (.mov (.s 0))⟩,
    ⟨(some 173), some undefA, none, false, .pu (.mov (.s 17))⟩,
    ⟨(some 174), some undefA, none, false, .call 14 [(.s 172), (.s 173)]⟩,
    ⟨(some 171), some undefA, none, false, .pu (.mov (.s 174))⟩,
    ⟨(some 175), some undefA, none, false, .pu (.extr 0 (.s 171))⟩,
    ⟨(some 176), some undefA, none, false, .pu (.extr 1 (.s 171))⟩,
    ⟨(some 26), some undefA, none, false, .pu (.mov (.s 175))⟩,
    ⟨(some 27), some undefA, none, false, .pu (.mov (.s 176))⟩])
  (.seq (.ops [⟨(some 177), some undefA, none, false, .pu (.mov (.s 27))⟩,
    ⟨(some 178), some undefA, none, false, .pu (.bin .neq (.s 177) (.c (.int .i64 0)))⟩,
    ⟨(some 179), some undefA, none, false, .pu (.mov (.s 178))⟩,
    ⟨(some 180), some undefA, (some (179, false)), false, .pu (.mov (.s 26))⟩,
    ⟨(some 181), some undefA, (some (179, false)), false, .pu (.not (.s 180))⟩,
    ⟨(some 182), some undefA, none, false, .pu (.pick (.s 179) (.c (.bool true)) (.s 181))⟩])
  (.cond (.s 182) (.seq (.ops [⟨(some 6), some undefA, none, false, .pu (.mov (.c (.bool false)))⟩])
   (.ret))
  (.skip))))))))
 (.skip)))
 (.seq (.ops [⟨(some 184), some undefA, none, false, .pu (.mov (.s 0))⟩,
   ⟨(some 185), some undefA, none, false, .pu (.badr none 5)⟩,
   ⟨(some 186), some undefA, none, false, .pu (.bget (some 185) 5 0 1 false)⟩,
   ⟨(some 187), some undefA, none, false, .pu (.badr none 5)⟩,
   ⟨(some 188), some undefA, none, false, .pu (.bget (some 187) 5 1 1 false)⟩,
   ⟨(some 189), some undefA, none, false, .call 15 [(.s 184), (.s 186), (.s 188)]⟩,
   ⟨(some 183), some undefA, none, false, .pu (.mov (.s 189))⟩,
   ⟨(some 190), some undefA, none, false, .pu (.extr 0 (.s 183))⟩,
   ⟨(some 191), some undefA, none, false, .pu (.extr 1 (.s 183))⟩,
   ⟨(some 28), some undefA, none, false, .pu (.mov (.s 190))⟩,
   ⟨(some 10), some undefA, none, false, .pu (.mov (.s 191))⟩])
 (.seq (.seq (.ops [⟨(some 192), some undefA, none, false, .pu (.mov (.s 10))⟩,
   ⟨(some 193), some undefA, none, false, .pu (.bin .neq (.s 192) (.c (.int .i64 0)))⟩])
 (.cond (.s 193) (.seq (.ops [⟨(some 6), some undefA, none, false, .pu (.mov (.c (.bool true)))⟩])
  (.ret))
 (.skip)))
 (.seq (.ops [⟨(some 195), some undefA, none, false, .pu (.mov (.s 28))⟩,
   ⟨(some 196), some undefA, none, false, .call 7 [(.s 195)]⟩,
   ⟨(some 194), some undefA, none, false, .pu (.mov (.s 196))⟩,
   ⟨(some 197), some undefA, none, false, .pu (.extr 0 (.s 194))⟩,
   ⟨(some 198), some undefA, none, false, .pu (.extr 1 (.s 194))⟩,
   ⟨(some 29), some undefA, none, false, .pu (.mov (.s 197))⟩,
   ⟨(some 12), some undefA, none, false, .pu (.mov (.s 198))⟩])
 (.seq (.seq (.ops [⟨(some 199), some undefA, none, false, .pu (.mov (.s 12))⟩,
   ⟨(some 200), some undefA, none, false, .pu (.bin .neq (.s 199) (.c (.int .i64 0)))⟩,
   ⟨(some 201), some undefA, none, false, .pu (.mov (.s 200))⟩,
   ⟨(some 202), some undefA, (some (201, false)), false, .pu (.mov (.s 29))⟩,
   ⟨(some 203), some undefA, (some (201, false)), false, .pu (.len (.s 202))⟩,
   ⟨(some 204), some undefA, (some (201, false)), false, .pu (.mov (.s 9))⟩,
   ⟨(some 205), some undefA, (some (201, false)), false, .pu (.len (.s 204))⟩,
   ⟨(some 206), some undefA, (some (201, false)), false, .pu (.bin .neq (.s 203) (.s 205))⟩,
   ⟨(some 207), some undefA, none, false, .pu (.pick (.s 201) (.c (.bool true)) (.s 206))⟩])
 (.cond (.s 207) (.seq (.ops [⟨(some 6), some undefA, none, false, .pu (.mov (.c (.bool false)))⟩])
  (.ret))
 (.skip)))
 (.seq (.ops [⟨(some 209), some undefA, none, true, .pu (.mov (.s 0))⟩,
   ⟨(some 210), some undefA, none, true, .pu (.badr none 5)⟩,
   ⟨(some 211), some undefA, none, true, .pu (.bget (some 210) 5 0 1 false)⟩,
   ⟨(some 212), some undefA, none, true, .pu (.mov (.s 29))⟩,
   ⟨(some 213), some undefA, none, true, .pu (.badr none 5)⟩,
   ⟨(some 214), some undefA, none, true, .pu (.bget (some 213) 5 0 1 false)⟩,
   ⟨(some 215), some undefA, none, true, .pu (.idx 1 (.s 212) (.s 214))⟩,
   ⟨(some 216), some undefA, none, true, .ld (.ld 1 false (.s 215))⟩,
   ⟨(some 217), some undefA, none, true, .pu (.mov (.s 9))⟩,
   ⟨(some 218), some undefA, none, true, .pu (.badr none 5)⟩,
   ⟨(some 219), some undefA, none, true, .pu (.bget (some 218) 5 0 1 false)⟩,
   ⟨(some 220), some undefA, none, true, .pu (.idx 1 (.s 217) (.s 219))⟩,
   ⟨(some 221), some undefA, none, true, .ld (.ld 1 false (.s 220))⟩,
   ⟨(some 222), some undefA, none, false, .call 16 [(.s 209), (.s 211), (.s 216), (.s 221)]⟩,
   ⟨(some 208), some undefA, none, false, .pu (.mov (.s 222))⟩,
   ⟨(some 223), some undefA, none, false, .pu (.extr 0 (.s 208))⟩,
   ⟨(some 224), some undefA, none, false, .pu (.extr 1 (.s 208))⟩,
   ⟨(some 30), some undefA, none, false, .pu (.mov (.s 223))⟩,
   ⟨(some 14), some undefA, none, false, .pu (.mov (.s 224))⟩])
 (.seq (.ops [⟨(some 225), some undefA, none, false, .pu (.mov (.s 14))⟩,
   ⟨(some 226), some undefA, none, false, .pu (.bin .eql (.s 225) (.c (.int .i64 0)))⟩,
   ⟨(some 227), some undefA, none, false, .pu (.mov (.s 226))⟩,
   ⟨(some 228), some undefA, (some (227, true)), false, .pu (.mov (.s 30))⟩,
   ⟨(some 229), some undefA, (some (227, true)), false, .pu (.not (.s 228))⟩,
   ⟨(some 230), some undefA, none, false, .pu (.pick (.s 227) (.s 229) (.c (.bool false)))⟩,
   ⟨(some 6), some undefA, none, false, .pu (.mov (.s 230))⟩])
 (.ret)))))))))))))))⟩
theorem t3 : trF Try.prog [5] [] Try.f3 = some m3 := by kernel_rfl
end Go.Proofs.Ytgidfejkfdkflaa

namespace Go.Eng
open Go
section
variable {P : Program} {α : Type}
theorem AOps_ex : ∀ (l : List MOp) {Q : α → List AV → AHeap → Prop} {S : List AV} {H : AHeap}, AOps P l (fun S H => ∃ x, Q x S H) S H → ∃ x, AOps P l (Q x) S H := by
  intro l
  induction l with
  | nil => intro Q S H h; exact h
  | cons o r ih =>
    intro Q S H h
    simp only [AOps] at h ⊢
    split at h
    · exact h.elim
    · rename_i t _
      cases t with
      | true =>
        simp only [if_true] at h ⊢
        obtain ⟨v, H1, h1, h2, h3⟩ := h
        obtain ⟨x, hx⟩ := ih h3
        exact ⟨x, v, H1, h1, h2, hx⟩
      | false =>
        simp only [Bool.false_eq_true, if_false] at h ⊢
        exact ih h
/-- A loop with a rank. -/
def LoopR (P : Program) (a : MCode) (Q : Post) (k : Nat) (S : List AV) (H : AHeap) : Prop :=
  ∃ (J : Nat → List AV → AHeap → Prop), J k S H ∧ ∀ k S H, J k S H → AW P a (MX.then (fun S' H' => ∃ k' S'', k' < k ∧ Forget S' S'' ∧ J k' S'' H') Q) S H
/-- One round, and then loops of a smaller rank. -/
theorem LoopR_step {a : MCode} {Q : Post} {k : Nat} {S : List AV} {H : AHeap} (h : AW P a (MX.then (fun S' H' => ∃ k' S'', k' < k ∧ Forget S' S'' ∧ LoopR P a Q k' S'' H') Q) S H) : LoopR P a Q k S H := by
  refine ⟨fun j S1 H1 => (j = k ∧ S1 = S ∧ H1 = H) ∨ (j < k ∧ LoopR P a Q j S1 H1), .inl ⟨rfl, rfl, rfl⟩, ?_⟩
  rintro j S1 H1 (⟨rfl, rfl, rfl⟩ | ⟨hj, J, h1, h2⟩)
  · refine AW_mono (fun e S' H' h' => ?_) h
    cases e with
    | normal =>
      obtain ⟨k', S'', g1, g2, g3⟩ := h'
      exact ⟨k', S'', g1, g2, .inr ⟨g1, g3⟩⟩
    | exit id => exact h'
    | ret => exact h'
  · refine AW_mono (fun e S' H' h' => ?_) (h2 j S1 H1 h1)
    cases e with
    | normal =>
      obtain ⟨k', S'', g1, g2, g3⟩ := h'
      exact ⟨k', S'', g1, g2, .inr ⟨by omega, J, g3, h2⟩⟩
    | exit id => exact h'
    | ret => exact h'
theorem inScope_mono {g : Nat} {K K' : List AV → AHeap → Prop} {Q : Post} {e : MX} {S : List AV} {H : AHeap} (hk : ∀ S H, K S H → K' S H) (h : MX.inScope g K Q e S H) : MX.inScope g K' Q e S H := by
  cases e with
  | normal => exact h
  | exit id =>
    simp only [MX.inScope] at h ⊢
    split at h
    · rename_i hi; rw [if_pos hi]; exact hk _ _ h
    · rename_i hi; rw [if_neg hi]; exact h
  | ret => exact h
theorem inScope_ex {g : Nat} {K : α → List AV → AHeap → Prop} {Q : α → Post} {e : MX} {S : List AV} {H : AHeap} (h : MX.inScope g (fun S H => ∃ x, K x S H) (fun e S H => ∃ x, Q x e S H) e S H) : ∃ x, MX.inScope g (K x) (Q x) e S H := by
  cases e with
  | normal => exact h
  | exit id =>
    simp only [MX.inScope] at h ⊢
    split at h
    · rename_i hi
      obtain ⟨x, hx⟩ := h
      exact ⟨x, by rw [if_pos hi]; exact hx⟩
    · rename_i hi
      split at h
      · exact h.elim
      · rename_i hj
        obtain ⟨x, hx⟩ := h
        exact ⟨x, by rw [if_neg hi, if_neg hj]; exact hx⟩
  | ret => exact h
/-- What stands behind a label, with a rank. -/
def ScopeR (P : Program) (g : Nat) (r : MCode) (Q : Post) (k : Nat) (S : List AV) (H : AHeap) : Prop :=
  ∃ (J : Nat → List AV → AHeap → Prop), J k S H ∧ ∀ k S H, J k S H → AW P r (MX.inScope g (fun S' H' => ∃ k' S'', k' < k ∧ Forget S' S'' ∧ J k' S'' H') Q) S H
theorem ScopeR_step {g : Nat} {r : MCode} {Q : Post} {k : Nat} {S : List AV} {H : AHeap} (h : AW P r (MX.inScope g (fun S' H' => ∃ k' S'', k' < k ∧ Forget S' S'' ∧ ScopeR P g r Q k' S'' H') Q) S H) : ScopeR P g r Q k S H := by
  refine ⟨fun j S1 H1 => (j = k ∧ S1 = S ∧ H1 = H) ∨ (j < k ∧ ScopeR P g r Q j S1 H1), .inl ⟨rfl, rfl, rfl⟩, ?_⟩
  rintro j S1 H1 (⟨rfl, rfl, rfl⟩ | ⟨hj, J, h1, h2⟩)
  · refine AW_mono (fun e S' H' h' => inScope_mono (fun S' H' h3 => ?_) h') h
    obtain ⟨k', S'', g1, g2, g3⟩ := h3
    exact ⟨k', S'', g1, g2, .inr ⟨g1, g3⟩⟩
  · refine AW_mono (fun e S' H' h' => inScope_mono (fun S' H' h3 => ?_) h') (h2 j S1 H1 h1)
    obtain ⟨k', S'', g1, g2, g3⟩ := h3
    exact ⟨k', S'', g1, g2, .inr ⟨by omega, J, g3, h2⟩⟩
/-- No region of two orders. -/
def noAlt : MCode → Bool
  | .ops2 _ _ => false
  | .seq a b => noAlt a && noAlt b
  | .cond _ a b => noAlt a && noAlt b
  | .block _ a => noAlt a
  | .loop a => noAlt a
  | .cut a => noAlt a
  | .scope _ a b => noAlt a && noAlt b
  | _ => true
theorem AW_ex : ∀ {m : MCode}, noAlt m = true → ∀ {Q : α → Post} {S : List AV} {H : AHeap}, AW P m (fun e S H => ∃ x, Q x e S H) S H → ∃ x, AW P m (Q x) S H := by
  intro m
  induction m with
  | skip => intro _ Q S H h; exact h
  | ops l => intro _ Q S H h; exact AOps_ex l h
  | ops2 l l' => intro hno; cases hno
  | seq a b iha ihb =>
    intro hno Q S H h
    simp only [noAlt, Bool.and_eq_true] at hno
    refine iha hno.1 (Q := fun x => MX.then (AW P b (Q x)) (Q x)) (AW_mono (fun e S H h => ?_) h)
    cases e with
    | normal => exact ihb hno.2 h
    | exit id => exact h
    | ret => exact h
  | cond c a b iha ihb =>
    intro hno Q S H h
    simp only [noAlt, Bool.and_eq_true] at hno
    simp only [AW] at h ⊢
    split at h
    · split at h
      · rename_i ht
        obtain ⟨x, hx⟩ := iha hno.1 h
        exact ⟨x, by rw [if_pos ht]; exact hx⟩
      · rename_i ht
        obtain ⟨x, hx⟩ := ihb hno.2 h
        exact ⟨x, by rw [if_neg ht]; exact hx⟩
    · exact h.elim
  | block id a iha =>
    intro hno Q S H h
    simp only [noAlt] at hno
    refine iha hno (Q := fun x => MX.inBlock id (Q x)) (AW_mono (fun e S H h => ?_) h)
    cases e with
    | normal => exact h
    | exit id' =>
      simp only [MX.inBlock] at h ⊢
      split at h
      · rename_i hi
        obtain ⟨x, hx⟩ := h
        exact ⟨x, by rw [if_pos hi]; exact hx⟩
      · rename_i hi
        obtain ⟨x, hx⟩ := h
        exact ⟨x, by rw [if_neg hi]; exact hx⟩
    | ret => exact h
  | loop a iha =>
    intro hno Q S H h
    simp only [noAlt] at hno
    obtain ⟨J, ⟨k0, S0, hf, hJ⟩, hstep⟩ := h
    have key : ∀ k S H, J k S H → ∃ x, LoopR P a (Q x) k S H := by
      intro k
      induction k using Nat.strongRecOn with
      | _ k ih =>
        intro S H hj
        have h1 := hstep k S H hj
        have h2 : ∃ x, AW P a (MX.then (fun S' H' => ∃ k' S'', k' < k ∧ Forget S' S'' ∧ LoopR P a (Q x) k' S'' H') (Q x)) S H := by
          refine iha hno (Q := fun x => MX.then (fun S' H' => ∃ k' S'', k' < k ∧ Forget S' S'' ∧ LoopR P a (Q x) k' S'' H') (Q x)) (AW_mono (fun e S' H' h' => ?_) h1)
          cases e with
          | normal =>
            obtain ⟨k', S'', g1, g2, g3⟩ := h'
            obtain ⟨x, hx⟩ := ih k' g1 S'' H' g3
            exact ⟨x, k', S'', g1, g2, hx⟩
          | exit id => exact h'
          | ret => exact h'
        obtain ⟨x, hx⟩ := h2
        exact ⟨x, LoopR_step hx⟩
    obtain ⟨x, J', h1, h2⟩ := key k0 S0 H hJ
    exact ⟨x, J', ⟨k0, S0, hf, h1⟩, h2⟩
  | exit id => intro _ Q S H h; exact h
  | cut a iha =>
    intro hno Q S H h
    simp only [noAlt] at hno
    obtain ⟨S0, h0, h1⟩ := h
    obtain ⟨x, hx⟩ := iha hno h1
    exact ⟨x, S0, h0, hx⟩
  | label l => intro _ Q S H h; exact h
  | scope g a r iha ihr =>
    intro hno Q S H h
    simp only [noAlt, Bool.and_eq_true] at hno
    obtain ⟨J, h0, hstep⟩ := h
    have key : ∀ k S H, J k S H → ∃ x, ScopeR P g r (Q x) k S H := by
      intro k
      induction k using Nat.strongRecOn with
      | _ k ih =>
        intro S H hj
        have h1 := hstep k S H hj
        have h2 : ∃ x, AW P r (MX.inScope g (fun S' H' => ∃ k' S'', k' < k ∧ Forget S' S'' ∧ ScopeR P g r (Q x) k' S'' H') (Q x)) S H := by
          refine ihr hno.2 (Q := fun x => MX.inScope g (fun S' H' => ∃ k' S'', k' < k ∧ Forget S' S'' ∧ ScopeR P g r (Q x) k' S'' H') (Q x)) (AW_mono (fun e S' H' h' => ?_) h1)
          refine inScope_ex (inScope_mono (fun S' H' h3 => ?_) h')
          obtain ⟨k', S'', g1, g2, g3⟩ := h3
          obtain ⟨x, hx⟩ := ih k' g1 S'' H' g3
          exact ⟨x, k', S'', g1, g2, hx⟩
        obtain ⟨x, hx⟩ := h2
        exact ⟨x, ScopeR_step hx⟩
    have h3 : ∃ x, AW P a (MX.inScope g (fun S' H' => ∃ k S'', Forget S' S'' ∧ ScopeR P g r (Q x) k S'' H') (Q x)) S H := by
      refine iha hno.1 (Q := fun x => MX.inScope g (fun S' H' => ∃ k S'', Forget S' S'' ∧ ScopeR P g r (Q x) k S'' H') (Q x)) (AW_mono (fun e S' H' h' => ?_) h0)
      refine inScope_ex (inScope_mono (fun S' H' h3 => ?_) h')
      obtain ⟨k, S'', g2, g3⟩ := h3
      obtain ⟨x, hx⟩ := key k S'' H' g3
      exact ⟨x, k, S'', g2, hx⟩
    obtain ⟨x, hx⟩ := h3
    refine ⟨x, fun k S H => ScopeR P g r (Q x) k S H, hx, ?_⟩
    rintro k S H ⟨J', j1, j2⟩
    refine AW_mono (fun e S' H' h' => inScope_mono (fun S' H' h3 => ?_) h') (j2 k S H j1)
    obtain ⟨k', S'', g1, g2, g3⟩ := h3
    exact ⟨k', S'', g1, g2, J', g3, j2⟩
  | ret => intro _ Q S H h; exact h
  | fail => intro _ Q S H h; exact h.elim
theorem AW_false : ∀ {m : MCode}, noAlt m = true → ∀ {S : List AV} {H : AHeap}, ¬ AW P m (fun _ _ _ => False) S H := by
  intro m hno S H h
  have h2 : AW P m (fun e S H => ∃ x : Empty, (fun (_ : Empty) (_ : MX) (_ : List AV) (_ : AHeap) => True) x e S H) S H := AW_mono (fun _ _ _ h => h.elim) h
  obtain ⟨x, _⟩ := AW_ex hno h2
  exact x.elim
/-- The end of a function, where what it hands back need not be known ahead. -/
def FinR (res : List PAct) (H : AHeap) (R : AV → AHeap → Prop) : Post := fun e S H1 => ∃ x : AV × AHeap, Fin res H x.1 x.2 e S H1 ∧ R x.1 x.2
theorem FinR_ret (res : List PAct) (H : AHeap) (R : AV → AHeap → Prop) (S : List AV) (H1 : AHeap) : FinR res H R .ret S H1 = on (resV res S) (fun v1 => ∃ v H', GC H v1 H1 v H' ∧ R v H') ⟨⟩ := by
  apply propext
  unfold FinR
  simp only [Fin_ret]
  unfold on
  cases resV res S with
  | none => simp
  | some v1 =>
    constructor
    · rintro ⟨x, h1, h2⟩; exact ⟨_, _, h1, h2⟩
    · rintro ⟨v, H', h1, h2⟩; exact ⟨(v, H'), h1, h2⟩
/-- A function's contract, where the result is told by what it is like. -/
theorem acallsR (hm : P.follows .mixedOrders = true) {f : FuncId} {fn : Func} (hf : P.funcs[f]? = some fn) (hn : (fn.name == "runtime.NumGoroutine") = false) {bx cs : List Nat} {m : MFun} (ht : trF P bx cs fn = some m) {args : List AV} {H : AHeap} (R : AV → AHeap → Prop) (n : Nat)
    (hl : args.length = n) (hb : m.bx.all (fun d => decide (n ≤ d)) = true) (hA : AW P m.body (FinR m.res H R) (args ++ List.replicate (m.nt - n) .junk) H) (hno : noAlt m.body = true := by rfl) : ∃ v H', ACalls P f args H v H' ∧ R v H' := by
  obtain ⟨x, hx⟩ := AW_ex hno (Q := fun (x : AV × AHeap) e S H1 => Fin m.res H x.1 x.2 e S H1 ∧ R x.1 x.2) hA
  have hR : R x.1 x.2 := by
    refine Classical.byContradiction (fun hn => ?_)
    have : AW P m.body (fun _ _ _ => False) (args ++ List.replicate (m.nt - n) .junk) H := AW_mono (fun _ _ _ h => hn h.2) hx
    exact AW_false hno this
  exact ⟨x.1, x.2, acalls hm hf hn ht n hl hb (AW_mono (fun _ _ _ h => h.1) hx), hR⟩
end
end Go.Eng

namespace Go.Proofs.Ytgidfejkfdkflaa
open Go Go.Eng
theorem hmix : Try.prog.follows .mixedOrders = true := by kernel_rfl
end Go.Proofs.Ytgidfejkfdkflaa

namespace Go.Proofs.Ytgidfejkfdkflaa
open Go Go.Eng
/-- The front of a list. -/
theorem Ls_takeS {α : Type} {es : Nat} {e : α → List AV} {H : AHeap} {v : AV} {xs : List α} (h : Ls es e H v xs) (k : Nat) (hk : k ≤ xs.length) : ∃ v', slcA es v none (some (I k)) none = some v' ∧ Ls es e H v' (xs.take k) := by
  rcases h.inv with ⟨rfl, rfl⟩ | ⟨n, off, full, rw, l, rfl, h1, h2, h3⟩
  · have : k = 0 := by simpa using hk
    subst this
    exact ⟨.nilS, by simp [slcA, bnd], ⟨h.he, rfl⟩⟩
  · have hk' : (0 : Int) ≤ k ∧ (k : Int) ≤ xs.length := by omega
    refine ⟨.sl es n off k (full && (k == xs.length)), by simp [slcA, bnd, hk], ⟨h.he, ?_⟩⟩
    have hm : k * es ≤ xs.length * es := Nat.mul_le_mul_right _ hk
    simp only [slCells, cellsAt, h1, if_true]
    rw [if_pos (by omega)]
    simp only [Option.map_some, List.length_take, Nat.min_eq_left hk, Option.some.injEq, Prod.mk.injEq, true_and]
    have h4 : (xs.take k).flatMap e = (xs.flatMap e).take (k * es) := by
      conv => rhs; rw [← List.take_append_drop k xs, List.flatMap_append]
      have h5 := flatMap_length h.he (xs.take k)
      rw [List.length_take, Nat.min_eq_left hk] at h5
      rw [← h5, List.take_left]
    rw [h4, ← h3, List.take_take, Nat.min_eq_left hm]
/-- The rest of a list. -/
theorem Ls_dropS {α : Type} {es : Nat} {e : α → List AV} {H : AHeap} {v : AV} {xs : List α} (h : Ls es e H v xs) (k : Nat) (hk : k ≤ xs.length) : ∃ v', slcA es v (some (I k)) none none = some v' ∧ Ls es e H v' (xs.drop k) := by
  rcases h.inv with ⟨rfl, rfl⟩ | ⟨n, off, full, rw, l, rfl, h1, h2, h3⟩
  · have : k = 0 := by simpa using hk
    subst this
    exact ⟨.nilS, by simp [slcA, bnd], ⟨h.he, rfl⟩⟩
  · have hk' : (0 : Int) ≤ k ∧ (k : Int) ≤ xs.length := by omega
    refine ⟨.sl es n (off + k * es) (xs.length - k) full, by simp [slcA, bnd]; exact hk, ⟨h.he, ?_⟩⟩
    have hm : k * es ≤ xs.length * es := Nat.mul_le_mul_right _ hk
    have hs : (xs.length - k) * es = xs.length * es - k * es := Nat.sub_mul _ _ _
    simp only [slCells, cellsAt, h1, if_true]
    rw [if_pos (by omega)]
    simp only [Option.map_some, List.length_drop, Option.some.injEq, Prod.mk.injEq, true_and]
    have h4 : (xs.drop k).flatMap e = (xs.flatMap e).drop (k * es) := by
      conv => rhs; rw [← List.take_append_drop k xs, List.flatMap_append]
      have h5 := flatMap_length h.he (xs.take k)
      rw [List.length_take, Nat.min_eq_left hk] at h5
      rw [← h5, List.drop_left]
    rw [h4, ← h3, List.drop_take, List.drop_drop, hs]
theorem ld_mono {A A' : AHeap} (hp : A <+: A') {sz : Nat} {ag : Bool} {p x : AV} (h : ldA sz ag p A = some x) : ldA sz ag p A' = some x := by
  unfold ldA at *
  split at h
  · rename_i n off
    split at h
    · rename_i rw l hn
      simp only [pre_get hp hn]
      exact h
    · cases h
  · cases h
theorem get_new (A : AHeap) (o : AObj) : (A ++ [o])[A.length]? = some o := by simp
theorem set_new (A : AHeap) (o o' : AObj) : (A ++ [o]).set A.length o' = A ++ [o'] := by simp
theorem AccL_ls {α : Type} {es : Nat} {e : α → List AV} {H H1 : AHeap} {v : AV} {xs : List α} (h : AccL es e H H1 v xs) (he : ∀ x, (e x).length = es) : Ls es e H1 v xs := by
  obtain ⟨h1, h2, h3⟩ := h
  refine ⟨he, ?_⟩
  rcases h3 with ⟨h4, rfl⟩ | ⟨h0, n, rfl, h5, h6⟩
  · have : xs = [] := List.eq_nil_of_length_eq_zero h4
    subst this; rfl
  · simp only [slCells, cellsAt, h6, if_true, Nat.zero_add]
    rw [if_pos (by omega)]
    simp only [List.drop_zero, Option.map_some, Option.some.injEq, Prod.mk.injEq, true_and]
    rw [← h2, List.take_length]
theorem cells_int (k : IntKind) (n : Int) : (AV.int k n).cells? = some [.int k n] := rfl
theorem cells_nilS : AV.nilS.cells? = some [.nilS] := rfl
/-- A store. -/
def stA (sz : Nat) (p x : AV) (H : AHeap) : Option AHeap :=
  match p, x.cells? with
  | .ptr n off, some c => match H[n]? with
    | some (.cells true l) => if c.length = sz ∧ off + sz ≤ l.length then some (H.set n (.cells true (splice l off c))) else none
    | _ => none
  | _, _ => none
theorem hval_st (sz : Nat) (p x : Opd) (S : List AV) (H : AHeap) : hval (.st sz p x) S H = (stA sz (rd S p) (rd S x) H).map (fun H' => (undefA, H')) := by
  simp only [hval, stA]
  cases rd S p with
  | ptr n off =>
    cases (rd S x).cells? with
    | none => rfl
    | some c =>
      simp only
      cases H[n]? with
      | none => rfl
      | some o =>
        cases o with
        | cells rw l =>
          cases rw
          · rfl
          · simp only
            split <;> rfl
        | _ => rfl
  | _ => rfl
theorem hval_newv (x : Opd) (S : List AV) (H : AHeap) : hval (.newv x) S H = match (rd S x).cells? with | some c => some (.ptr H.length 0, H ++ [.cells true c]) | none => none := rfl
theorem hval_mks (es : Nat) (zero : List AV) (len cap : Opd) (S : List AV) (H : AHeap) : hval (.mks es zero len cap) S H = match rd S len, rd S cap with | .int _ l, .int _ c => if 0 ≤ l ∧ l ≤ c ∧ c ≤ lim then some (.sl es H.length 0 l.toNat (l == c), H ++ [.cells true (repl zero c.toNat)]) else none | _, _ => none := rfl
theorem hval_blds (es n : Nat) (zero : List AV) (parts : List (Nat × Nat × Opd)) (S : List AV) (H : AHeap) : hval (.blds es n zero parts) S H = match fillA (parts.map fun p => (p.1, p.2.1, rd S p.2.2)) (repl zero n) with | some l => some (.sl es H.length 0 n true, H ++ [.cells true l]) | none => none := rfl
theorem hval_app (es : Nat) (x y : Opd) (S : List AV) (H : AHeap) : hval (.app es x y) S H = appA es H (rd S x) (rd S y) := rfl
theorem splice_flat {α : Type} {es : Nat} {e : α → List AV} (he : ∀ x, (e x).length = es) {xs : List α} {i : Nat} (hi : i < xs.length) (z : α) : splice (xs.flatMap e) (i * es) (e z) = (xs.set i z).flatMap e := by
  unfold splice
  have h1 := flatMap_length he (xs.take i)
  rw [List.length_take, Nat.min_eq_left (by omega)] at h1
  have h2 := flatMap_length he (xs.take (i + 1))
  rw [List.length_take, Nat.min_eq_left (by omega)] at h2
  have e1 : (xs.flatMap e).take (i * es) = (xs.take i).flatMap e := by
    conv => lhs; rw [← List.take_append_drop i xs, List.flatMap_append]
    rw [← h1, List.take_left]
  have e2 : (xs.flatMap e).drop (i * es + (e z).length) = (xs.drop (i + 1)).flatMap e := by
    conv => lhs; rw [← List.take_append_drop (i + 1) xs, List.flatMap_append]
    rw [he z, ← Nat.succ_mul, Nat.succ_eq_add_one, ← h2, List.drop_left]
  rw [e1, e2, List.set_eq_take_append_cons_drop, if_pos hi, List.flatMap_append, List.flatMap_cons, List.append_assoc]
/-- A list that the call itself has made and may write. -/
structure OL {α : Type} (es : Nat) (e : α → List AV) (A H : AHeap) (n : Nat) (v : AV) (xs : List α) : Prop where
  he : ∀ x, (e x).length = es
  pre : A <+: H
  new : A.length ≤ n
  ob : H[n]? = some (.cells true (xs.flatMap e))
  v : ∃ full, v = .sl es n 0 xs.length full
section
variable {α : Type} {es : Nat} {e : α → List AV} {A H : AHeap} {n : Nat} {v : AV} {xs : List α}
theorem OL.ls (h : OL es e A H n v xs) : Ls es e H v xs := by
  obtain ⟨he, h1, h2, h3, full, rfl⟩ := h
  refine ⟨he, ?_⟩
  have hl := flatMap_length he xs
  simp only [slCells, cellsAt, h3, if_true, Nat.zero_add]
  rw [if_pos (by omega)]
  simp only [List.drop_zero, Option.map_some, Option.some.injEq, Prod.mk.injEq, true_and]
  rw [← hl, List.take_length]
theorem OL.lt (h : OL es e A H n v xs) : n < H.length := (List.getElem?_eq_some_iff.1 h.ob).1
theorem OL.set (h : OL es e A H n v xs) (i : Nat) (z : α) : OL es e A (H.set n (.cells true ((xs.set i z).flatMap e))) n v (xs.set i z) := by
  have hn := h.lt
  obtain ⟨he, h1, h2, h3, full, rfl⟩ := h
  exact ⟨he, pre_set h1 h2 _, h2, by rw [List.getElem?_set_self hn], full, by simp⟩
theorem OL.st (h : OL es e A H n v xs) {i : Nat} (hi : i < xs.length) (x : AV) (z : α) (hx : x.cells? = some (e z)) : stA es (.ptr (nm v) (of v + i * es)) x H = some (H.set n (.cells true ((xs.set i z).flatMap e))) := by
  obtain ⟨he, h1, h2, h3, full, rfl⟩ := h
  have hl := flatMap_length he xs
  have hle : i * es + es ≤ xs.length * es := by
    rw [← Nat.succ_mul]; exact Nat.mul_le_mul_right _ hi
  simp only [stA, nm, of, hx, h3, Nat.zero_add]
  rw [if_pos ⟨he z, by omega⟩, splice_flat he hi z]
theorem OL.mono {H' : AHeap} (h : OL es e A H n v xs) (hp : H <+: H') : OL es e A H' n v xs := ⟨h.he, h.pre.trans hp, h.new, pre_get hp h.ob, h.v⟩
theorem OL.new_mk (he : ∀ x, (e x).length = es) (A : AHeap) (xs : List α) (full : Bool) : OL es e A (A ++ [.cells true (xs.flatMap e)]) A.length (.sl es A.length 0 xs.length full) xs :=
  ⟨he, pre_app _ _, Nat.le_refl _, by simp, full, rfl⟩
theorem gc_weak {v1 v1' v : AV} {H1 H' : AHeap} (h : ∀ ρ c, VR ρ v1 c → VR ρ v1' c) (g : GC A v1' H1 v H') : GC A v1 H1 v H' :=
  fun ρ w ρ1 w1 cv s0 s1 st hv => g ρ w ρ1 w1 cv s0 s1 st (h ρ1 cv hv)
theorem VR.unfull {ρ : Ren} {es n off len : Nat} {full : Bool} {c : Value} (h : VR ρ (.sl es n off len full) c) : VR ρ (.sl es n off len false) c := by
  cases h with
  | sl _ _ _ _ _ L a cap h1 h2 h3 h4 h5 => exact .sl es n off len false L a cap h1 h2 (fun e => by cases e) h4 h5
theorem OL.acc (h : OL es e A H n v xs) (h0 : 0 < xs.length) : AccL es e A H (.sl es n 0 xs.length false) xs :=
  ⟨h.pre, flatMap_length h.he xs, .inr ⟨h0, n, rfl, h.new, h.ob⟩⟩
theorem OL.gc (h : OL es e A H n v xs) (h0 : 0 < xs.length) (hf : ∀ x, ∀ y ∈ e x, flat y = true) : GC A v H (outV es A xs.length) (outH A (xs.flatMap e) xs.length) := by
  have h1 := (h.acc h0).gc hf
  obtain ⟨_, _, _, _, full, rfl⟩ := h
  exact gc_weak (fun ρ c => VR.unfull) h1
theorem OL.gc2 (h : OL es e A H n v xs) (h0 : 0 < xs.length) (hf : ∀ x, ∀ y ∈ e x, flat y = true) (c : AV) (hc : flat c = true) : GC A (.tuple [v, c]) H (.tuple [outV es A xs.length, c]) (outH A (xs.flatMap e) xs.length) := by
  have h1 := (h.acc h0).gc2 hf c hc
  obtain ⟨_, _, _, _, full, rfl⟩ := h
  refine gc_weak (fun ρ cv hv => ?_) h1
  cases hv with
  | tuple _ vs hl hh =>
    refine .tuple _ _ hl (fun i x u hx hu => ?_)
    match i with
    | 0 =>
      simp at hx
      subst hx
      exact VR.unfull (hh 0 _ u rfl hu)
    | i + 1 => exact hh (i + 1) x u (by simpa using hx) hu
end
end Go.Proofs.Ytgidfejkfdkflaa

namespace Go.Proofs.Ytgidfejkfdkflaa
open Go Go.Eng
/-- A number that a machine word holds. -/
abbrev W (a : Int) : Prop := -9223372036854775808 ≤ a ∧ a ≤ 9223372036854775807
/-- The first element's place, or -1. -/
def fpos (g : Int → Bool) (xs : List Int) : Int := match xs.findIdx? g with | some i => i | none => -1
theorem fpos_some {g : Int → Bool} {xs : List Int} {i : Nat} {z : Int} (h : ∀ y ∈ xs.take i, g y = false) (hz : xs[i]? = some z) (hg : g z = true) : fpos g xs = i := by
  have hi : i < xs.length := (List.getElem?_eq_some_iff.1 hz).1
  have he : xs[i] = z := (List.getElem?_eq_some_iff.1 hz).2
  have : xs.findIdx? g = some i := by
    rw [List.findIdx?_eq_some_iff_getElem]
    refine ⟨hi, by rw [he]; exact hg, fun j hj => ?_⟩
    have : xs[j]'(by omega) ∈ xs.take i := by
      rw [List.mem_take_iff_getElem]
      exact ⟨j, by omega, rfl⟩
    simp [h _ this]
  unfold fpos
  rw [this]
theorem fpos_none {g : Int → Bool} {xs : List Int} (h : ∀ y ∈ xs, g y = false) : fpos g xs = -1 := by
  have : xs.findIdx? g = none := by
    rw [List.findIdx?_eq_none_iff]
    exact h
  unfold fpos
  rw [this]
theorem fpos_iff (g : Int → Bool) (xs : List Int) : 0 ≤ fpos g xs ↔ xs.any g = true := by
  unfold fpos
  cases h : xs.findIdx? g with
  | some i =>
    rw [List.findIdx?_eq_some_iff_getElem] at h
    obtain ⟨hi, hg, _⟩ := h
    simp only [Int.natCast_nonneg, true_iff, List.any_eq_true]
    exact ⟨_, List.getElem_mem hi, hg⟩
  | none =>
    rw [List.findIdx?_eq_none_iff] at h
    constructor
    · intro h1; simp at h1
    · intro h1
      rw [List.any_eq_true] at h1
      obtain ⟨x, hx, hg⟩ := h1
      rw [h x hx] at hg; cases hg
theorem take_false {g : Int → Bool} {xs : List Int} {i : Nat} {z : Int} (h : ∀ y ∈ xs.take i, g y = false) (hz : xs[i]? = some z) (hg : g z = false) : ∀ y ∈ xs.take (i + 1), g y = false := by
  intro y hy
  rw [List.take_add_one, hz] at hy
  rcases List.mem_append.1 hy with hy | hy
  · exact h y hy
  · have : y = z := by simpa using hy
    rw [this]; exact hg
theorem c_Index {xs : List Int} {v : AV} {A : AHeap} (hx : L1 A v xs) (hl : xs.length ≤ 1000000) (p : Int) : ACalls Try.prog 18 [v, I p] A (I (fpos (fun y => decide (p = y)) xs)) A := by
  refine acalls hmix Try.func18 (by kernel_rfl) t18 2 rfl (by decide) ?_
  dsimp only [m18]
  simp (maxSteps := 4000000) -implicitDefEqProofs -dsimp (disch := omega) only [↓AW_ops, ↓AW_seq, ↓AW_block, ↓AOps_nil, ↓AOps_pu, on_some, ↓then_normal, pval, rd_S, rd_C, put_S, ↓AW_toLoop, List.replicate_succ, List.replicate_zero, List.set_cons_zero, List.set_cons_succ, List.getElem?_cons_zero, List.getElem?_cons_succ, Option.getD_some, Nat.reduceSub, List.cons_append, List.nil_append, hx.len]
  refine LoopK.by 19 (fun i : Nat => i ≤ xs.length ∧ ∀ y ∈ xs.take i, decide (p = y) = false) (fun i => [(0, v), (1, I p), (7, I xs.length), (8, I i)]) (fun _ => A) (fun i => xs.length - i) 0 ⟨by omega, by simp⟩ rfl (by simp [Has, rd_s]) rfl ?_
  rintro i ⟨hi, he⟩
  by_cases hlt : i < xs.length
  · obtain ⟨z, hz⟩ : ∃ z, xs[i]? = some z := ⟨_, List.getElem?_eq_getElem hlt⟩
    have hlt' : (i : Int) < xs.length := by omega
    by_cases h : p = z
    · simp (maxSteps := 4000000) -implicitDefEqProofs -dsimp (disch := omega) only [↓AW_skip, ↓AW_ops, ↓AW_seq, ↓AW_cond, ↓AW_block, ↓AW_ret, ↓AOps_nil, ↓AOps_pu, ↓AOps_ld, on_some, condB_t, ↓then_normal, ↓then_ret, ↓inBlock_ret, ↓Fin_ret, pval, lval, rd_S, put_S, resV, resL, partA, eq_self, mk, List.foldl_cons, List.foldl_nil, List.replicate_succ, List.replicate_zero, List.set_cons_zero, List.set_cons_succ, List.getElem?_cons_zero, List.getElem?_cons_succ, List.drop_zero, List.take_succ_cons, List.take_nil, Option.getD_some, List.length_cons, List.length_nil, Nat.reduceLeDiff, Nat.zero_add, bin_eql, bin_lss, if_true, if_false, Bool.false_eq_true, decide_true, Go.Eng.e1, hlt', hx.idx hlt, hx.ld0 hz 1 false (by decide), h]
      exact gc_same (by rw [← h, fpos_some he hz (by simp [h])])
    · simp (maxSteps := 4000000) -implicitDefEqProofs -dsimp (disch := omega) only [↓AW_skip, ↓AW_ops, ↓AW_seq, ↓AW_cond, ↓AW_block, ↓AOps_nil, ↓AOps_pu, ↓AOps_ld, on_some, condB_t, condB_f, ↓then_normal, ↓inBlock_normal, pval, lval, rd_S, rd_C, put_S, partA, eq_self, mk, List.foldl_cons, List.foldl_nil, List.replicate_succ, List.replicate_zero, List.set_cons_zero, List.set_cons_succ, List.getElem?_cons_zero, List.getElem?_cons_succ, List.drop_zero, List.take_succ_cons, List.take_nil, Option.getD_some, List.length_cons, List.length_nil, Nat.reduceAdd, Nat.reduceLeDiff, Nat.zero_add, bin_add, bin_eql, bin_lss, w64, if_true, if_false, Bool.false_eq_true, decide_true, decide_false, decide_eq_false_iff_not, Go.Eng.e1, true_and, hlt', hx.idx hlt, hx.ld0 hz 1 false (by decide), h]
      exact ⟨i + 1, ⟨hlt, by simpa using take_false he hz (by simp [h])⟩, by simp [Has, rd_s], by omega⟩
  · have hlt' : ¬ ((i : Int) < xs.length) := by omega
    simp (maxSteps := 4000000) -implicitDefEqProofs -dsimp (disch := omega) only [↓AW_ops, ↓AW_seq, ↓AW_cond, ↓AW_exit, ↓AW_ret, ↓AOps_nil, ↓AOps_pu, on_some, condB_f, ↓then_normal, ↓then_exit, ↓inBlock_exit, ↓Fin_ret, pval, rd_S, rd_C, put_S, resV, resL, eq_self, mk, List.foldl_cons, List.foldl_nil, List.replicate_succ, List.replicate_zero, List.set_cons_zero, List.set_cons_succ, List.getElem?_cons_zero, List.getElem?_cons_succ, Option.getD_some, bin_lss, if_true, decide_false, Int.reduceNeg, hlt']
    rw [List.take_of_length_le (by omega)] at he
    exact gc_same (by rw [fpos_none he])
theorem c_Contains {xs : List Int} {v : AV} {A : AHeap} (hx : L1 A v xs) (hl : xs.length ≤ 1000000) (p : Int) : ACalls Try.prog 35 [v, I p] A (B (decide (p ∈ xs))) A := by
  refine acalls hmix Try.func35 (by kernel_rfl) t35 2 rfl (by decide) ?_
  dsimp only [m35]
  simp (maxSteps := 4000000) -implicitDefEqProofs -dsimp (disch := omega) only [↓AW_ops, ↓AW_seq, ↓AOps_nil, ↓AOps_pu, ↓AOps_call, on_some, ↓then_normal, pval, rd_S, rd_C, put_S, List.replicate_succ, List.replicate_zero, List.set_cons_zero, List.set_cons_succ, List.getElem?_cons_zero, List.getElem?_cons_succ, Option.getD_some, map_c, map_n, Nat.reduceSub, List.cons_append, List.nil_append]
  refine CallK.of (c_Index hx hl p) ?_
  simp (maxSteps := 4000000) -implicitDefEqProofs -dsimp (disch := omega) only [↓AW_ret, ↓AOps_nil, ↓AOps_pu, on_some, extK_same, ↓then_normal, ↓Fin_ret, pval, rd_S, rd_C, put_S, resV, resL, List.replicate_succ, List.replicate_zero, List.set_cons_zero, List.set_cons_succ, List.getElem?_cons_zero, List.getElem?_cons_succ, Option.getD_some, Nat.reduceSub, List.cons_append, List.nil_append, bin_geq]
  refine gc_same ?_
  congr 1
  rw [decide_eq_decide, fpos_iff]
  simp
theorem c_IndexFunc {xs : List Int} {v : AV} {A : AHeap} (hx : L1 A v xs) (hl : xs.length ≤ 1000000) (f : FuncId) (cap : List AV) (g : Int → Bool) (hg : ∀ x ∈ xs, ACalls Try.prog f ([I x] ++ cap) A (B (g x)) A) : ACalls Try.prog 41 [v, .fn f cap] A (I (fpos g xs)) A := by
  refine acalls hmix Try.func41 (by kernel_rfl) t41 2 rfl (by decide) ?_
  dsimp only [m41]
  simp (maxSteps := 4000000) -implicitDefEqProofs -dsimp (disch := omega) only [↓AW_ops, ↓AW_seq, ↓AW_block, ↓AOps_nil, ↓AOps_pu, on_some, ↓then_normal, pval, rd_S, rd_C, put_S, ↓AW_toLoop, List.replicate_succ, List.replicate_zero, List.set_cons_zero, List.set_cons_succ, List.getElem?_cons_zero, List.getElem?_cons_succ, Option.getD_some, Nat.reduceSub, List.cons_append, List.nil_append, hx.len]
  refine LoopK.by 19 (fun i : Nat => i ≤ xs.length ∧ ∀ y ∈ xs.take i, g y = false) (fun i => [(0, v), (1, .fn f cap), (7, I xs.length), (8, I i)]) (fun _ => A) (fun i => xs.length - i) 0 ⟨by omega, by simp⟩ rfl (by simp [Has, rd_s]) rfl ?_
  rintro i ⟨hi, he⟩
  by_cases hlt : i < xs.length
  · obtain ⟨z, hz⟩ : ∃ z, xs[i]? = some z := ⟨_, List.getElem?_eq_getElem hlt⟩
    have hlt' : (i : Int) < xs.length := by omega
    simp (maxSteps := 4000000) -implicitDefEqProofs -dsimp (disch := omega) only [↓AW_skip, ↓AW_ops, ↓AW_seq, ↓AW_cond, ↓AW_block, ↓AOps_nil, ↓AOps_pu, ↓AOps_ld, ↓AOps_callv, on_some, CallF_fn, condB_t, ↓then_normal, pval, lval, rd_S, put_S, partA, eq_self, mk, List.foldl_cons, List.foldl_nil, List.replicate_succ, List.replicate_zero, List.set_cons_zero, List.set_cons_succ, List.getElem?_cons_zero, List.getElem?_cons_succ, List.drop_zero, List.take_succ_cons, List.take_nil, Option.getD_some, map_c, map_n, List.length_cons, List.length_nil, Nat.reduceLeDiff, Nat.zero_add, List.cons_append, List.nil_append, bin_lss, if_true, if_false, Bool.false_eq_true, decide_true, Go.Eng.e1, hlt', hx.idx hlt, hx.ld0 hz 1 false (by decide)]
    refine CallK.of (hg z (List.mem_of_getElem? hz)) ?_
    by_cases h : g z = true
    · simp (maxSteps := 4000000) -implicitDefEqProofs -dsimp (disch := omega) only [↓AW_ops, ↓AW_seq, ↓AW_cond, ↓AW_ret, ↓AOps_nil, ↓AOps_pu, on_some, extK_same, condB_t, ↓then_normal, ↓then_ret, ↓inBlock_ret, ↓Fin_ret, pval, rd_S, put_S, resV, resL, mk, List.foldl_cons, List.foldl_nil, List.replicate_succ, List.replicate_zero, List.set_cons_zero, List.set_cons_succ, List.getElem?_cons_zero, List.getElem?_cons_succ, Option.getD_some, h]
      exact gc_same (by rw [fpos_some he hz h])
    · have h : g z = false := by simpa using h
      simp (maxSteps := 4000000) -implicitDefEqProofs -dsimp (disch := omega) only [↓AW_skip, ↓AW_ops, ↓AW_cond, ↓AOps_nil, ↓AOps_pu, on_some, extK_same, condB_f, ↓then_normal, ↓inBlock_normal, pval, rd_S, rd_C, put_S, eq_self, mk, List.foldl_cons, List.foldl_nil, List.replicate_succ, List.replicate_zero, List.set_cons_zero, List.set_cons_succ, List.getElem?_cons_zero, List.getElem?_cons_succ, Option.getD_some, List.length_cons, List.length_nil, Nat.reduceAdd, Nat.zero_add, bin_add, w64, true_and, h]
      exact ⟨i + 1, ⟨hlt, take_false he hz h⟩, by simp [Has, rd_s], by omega⟩
  · have hlt' : ¬ ((i : Int) < xs.length) := by omega
    simp (maxSteps := 4000000) -implicitDefEqProofs -dsimp (disch := omega) only [↓AW_ops, ↓AW_seq, ↓AW_cond, ↓AW_exit, ↓AW_ret, ↓AOps_nil, ↓AOps_pu, on_some, condB_f, ↓then_normal, ↓then_exit, ↓inBlock_exit, ↓Fin_ret, pval, rd_S, rd_C, put_S, resV, resL, eq_self, mk, List.foldl_cons, List.foldl_nil, List.replicate_succ, List.replicate_zero, List.set_cons_zero, List.set_cons_succ, List.getElem?_cons_zero, List.getElem?_cons_succ, Option.getD_some, bin_lss, if_true, decide_false, Int.reduceNeg, hlt']
    rw [List.take_of_length_le (by omega)] at he
    exact gc_same (by rw [fpos_none he])
theorem L1_nil (A : AHeap) : L1 A .nilS [] := ⟨e1_len, rfl⟩
theorem take_mem {α : Type} {l : List α} {i : Nat} {z y : α} (hz : l[i]? = some z) : y ∈ l.take (i + 1) ↔ y ∈ l.take i ∨ y = z := by
  rw [List.take_add_one, hz, List.mem_append]
  simp
end Go.Proofs.Ytgidfejkfdkflaa

namespace Go.Eng
open Go
theorem AccL_push2 {α : Type} {es : Nat} {e : α → List AV} {H H1 : AHeap} {v : AV} {xs : List α} (h : AccL es e H H1 v xs) (he : ∀ x, (e x).length = es) (h0 : 0 < es) (x : α) (hl : xs.length + 1 ≤ lim) :
    ∃ v' H2, appA es (H1 ++ [.cells true (e x)]) v (.sl es H1.length 0 1 true) = some (v', H2) ∧ AccL es e H H2 v' (xs ++ [x]) ∧
      (∀ k o, H1[k]? = some o → (∀ n len, v = .sl es n 0 len false → k ≠ n) → H2[k]? = some o) ∧ ∃ n len, v' = .sl es n 0 len false ∧ H1.length ≤ n := by
  obtain ⟨v', H2, happ, hacc⟩ := h.push he x hl
  refine ⟨v', H2, happ, hacc, ?_⟩
  have hc := slCells_new (es := es) H1 (e x) (he x)
  rcases h.2.2 with ⟨h3, rfl⟩ | ⟨h3, n, rfl, h5, h6⟩
  · unfold appA at happ
    rw [hc] at happ
    simp [lim] at happ
    obtain ⟨rfl, rfl⟩ := happ
    refine ⟨fun k o hk _ => ?_, _, _, rfl, by simp⟩
    have hlt := (List.getElem?_eq_some_iff.1 hk).1
    first
      | (rw [List.getElem?_append_left hlt]; exact hk)
      | (rw [List.getElem?_append_left (by rw [List.length_append]; omega), List.getElem?_append_left hlt]; exact hk)
  · have hlt := (List.getElem?_eq_some_iff.1 h6).1
    have hget : (H1 ++ [AObj.cells true (e x)])[n]? = some (.cells true (xs.flatMap e)) := by rw [List.getElem?_append_left hlt]; exact h6
    have hfl := flatMap_length he xs
    unfold appA at happ
    rw [hc] at happ
    simp only [hget, Nat.one_ne_zero, if_false, if_true, true_and] at happ
    rw [if_pos hl, if_pos (by omega)] at happ
    simp only [Bool.false_eq_true, if_false, Option.some.injEq, Prod.mk.injEq] at happ
    obtain ⟨rfl, rfl⟩ := happ
    refine ⟨fun k o hk hne => ?_, _, _, rfl, by simp⟩
    have hk1 := (List.getElem?_eq_some_iff.1 hk).1
    have hkn := hne n xs.length rfl
    rw [List.getElem?_append_left (by simp; omega), List.getElem?_set_ne (Ne.symm hkn), List.getElem?_append_left hk1]
    exact hk
theorem AccL_base0 {α : Type} {es : Nat} {e : α → List AV} {A0 A H : AHeap} {v : AV} {xs : List α} (hp : A0 <+: A) (h : AccL es e A H v xs) : AccL es e A0 H v xs := by
  obtain ⟨h1, h2, h3⟩ := h
  refine ⟨hp.trans h1, h2, ?_⟩
  rcases h3 with h4 | ⟨h0, n, h4, h5, h6⟩
  · exact .inl h4
  · exact .inr ⟨h0, n, h4, Nat.le_trans hp.length_le h5, h6⟩
end Go.Eng

namespace Go.Proofs.Ytgidfejkfdkflaa
open Go Go.Eng
section
variable {α : Type} {es : Nat} {e : α → List AV} {A H : AHeap} {v : AV} {xs : List α}
end
end Go.Proofs.Ytgidfejkfdkflaa

namespace Go.Proofs.Ytgidfejkfdkflaa
open Go Go.Eng
def e0 (x : AV × List Int) : List AV := [x.1]
/-- A list of lists in memory. -/
structure LL (A : AHeap) (v : AV) (ws : List (AV × List Int)) : Prop where
  ls : Ls 1 e0 A v ws
  inn : ∀ x ∈ ws, L1 A x.1 x.2
theorem LL.mono {A A' : AHeap} {v : AV} {ws : List (AV × List Int)} (h : LL A v ws) (hp : A <+: A') : LL A' v ws := ⟨h.ls.mono hp, fun x hx => (h.inn x hx).mono hp⟩
abbrev lists (ws : List (AV × List Int)) : List (List Int) := ws.map Prod.snd
theorem mem_lists {ws : List (AV × List Int)} {w : AV × List Int} (h : w ∈ ws) : w.2 ∈ lists ws := List.mem_map_of_mem h
theorem nil_of {xs : List Int} {A : AHeap} (h : L1 A .nilS xs) : xs = [] := by
  have := h.hc
  simp [slCells] at this
  exact List.eq_nil_of_length_eq_zero this.1.symm
theorem e0_len (x : AV × List Int) : (e0 x).length = 1 := rfl
/-- Where the rows of a list of lists stand: each in an object of its own that the call has made, with more cells behind. -/
structure NR (A H : AHeap) (u : AV) (x : AV × List Int) : Prop where
  row : (x.1 = .nilS ∧ x.2 = []) ∨ ∃ n full cs, x.1 = .sl 1 n 0 x.2.length full ∧ A.length ≤ n ∧ H[n]? = some (.cells true (x.2.flatMap e1 ++ cs)) ∧ nm u ≠ n
theorem NR.l1 {A H : AHeap} {u : AV} {x : AV × List Int} (h : NR A H u x) : L1 H x.1 x.2 := by
  rcases h.row with ⟨h1, h2⟩ | ⟨n, full, cs, h1, _, h3, _⟩
  · rw [h1, h2]; exact L1_nil _
  · rw [h1]
    refine ⟨e1_len, ?_⟩
    have hl := flatMap_length e1_len x.2
    simp only [slCells, cellsAt, h3, if_true, Nat.zero_add]
    rw [if_pos (by rw [List.length_append]; omega)]
    simp only [List.drop_zero, Option.map_some, Option.some.injEq, Prod.mk.injEq, true_and]
    rw [← hl, List.take_left]
/-- Rows stand in different objects. -/
def Apart (ws : List (AV × List Int)) : Prop := ws.Pairwise (fun x y => x.1 = .nilS ∨ y.1 = .nilS ∨ nm x.1 ≠ nm y.1)
/-- A list of lists that the call has made. -/
structure NL (A H : AHeap) (u : AV) (ws : List (AV × List Int)) : Prop where
  acc : AccL 1 e0 A H u ws
  rows : ∀ x ∈ ws, NR A H u x
  apart : Apart ws
theorem NL.ll {A H : AHeap} {u : AV} {ws : List (AV × List Int)} (h : NL A H u ws) : LL H u ws := ⟨AccL_ls h.acc e0_len, fun x hx => (h.rows x hx).l1⟩
theorem NL.nil {A H : AHeap} (h : A <+: H) : NL A H .nilS [] := ⟨AccL.nil h, by simp, List.Pairwise.nil⟩
/-- One row more. -/
theorem NL.push {A H : AHeap} {u : AV} {ws : List (AV × List Int)} (h : NL A H u ws) (x : AV × List Int) (hx : (x.1 = .nilS ∧ x.2 = [] ∧ True) ∨ ∃ n full cs, x.1 = .sl 1 n 0 x.2.length full ∧ A.length ≤ n ∧ H[n]? = some (.cells true (x.2.flatMap e1 ++ cs)) ∧ nm u ≠ n ∧ ∀ y ∈ ws, y.1 = .nilS ∨ nm y.1 ≠ n) (hl : ws.length + 1 ≤ lim) :
    ∃ v' H2, appA 1 (H ++ [.cells true [x.1]]) u (.sl 1 H.length 0 1 true) = some (v', H2) ∧ NL A H2 v' (ws ++ [x]) := by
  obtain ⟨v', H2, h1, h2, h3, n', len', h4, h5⟩ := AccL_push2 h.acc e0_len (by omega) x hl
  have hold : ∀ (y : AV × List Int), NR A H u y → NR A H2 v' y := by
    intro y hy
    refine ⟨?_⟩
    rcases hy.row with h6 | ⟨n, full, cs, g1, g2, g3, g4⟩
    · exact .inl h6
    · have hn := (List.getElem?_eq_some_iff.1 g3).1
      refine .inr ⟨n, full, cs, g1, g2, h3 n _ g3 (fun k len hk hnk => ?_), ?_⟩
      · rw [hk] at g4; exact g4 hnk.symm
      · rw [h4]; simp only [nm]; omega
  have hxr : NR A H u x := by
    refine ⟨?_⟩
    rcases hx with ⟨a, b, _⟩ | ⟨n, full, cs, g1, g2, g3, g4, _⟩
    · exact .inl ⟨a, b⟩
    · exact .inr ⟨n, full, cs, g1, g2, g3, g4⟩
  refine ⟨v', H2, h1, h2, fun y hy => ?_, ?_⟩
  · rcases List.mem_append.1 hy with hy | hy
    · exact hold y (h.rows y hy)
    · have : y = x := by simpa using hy
      rw [this]; exact hold x hxr
  · unfold Apart
    rw [List.pairwise_append]
    refine ⟨h.apart, by simp, fun a ha b hb => ?_⟩
    have : b = x := by simpa using hb
    subst this
    rcases hx with ⟨g1, _⟩ | ⟨n, full, cs, g1, _, _, _, g5⟩
    · exact .inr (.inl g1)
    · rcases g5 a ha with g | g
      · exact .inl g
      · refine .inr (.inr ?_)
        rw [g1]; exact g
theorem NL.mono {A H H' : AHeap} {u : AV} {ws : List (AV × List Int)} (h : NL A H u ws) (hp : H <+: H') : NL A H' u ws := by
  refine ⟨h.acc.mono hp, fun x hx => ⟨?_⟩, h.apart⟩
  rcases (h.rows x hx).row with h6 | ⟨n, full, cs, g1, g2, g3, g4⟩
  · exact .inl h6
  · exact .inr ⟨n, full, cs, g1, g2, pre_get hp g3, g4⟩
theorem NL.lt {A H : AHeap} {u : AV} {ws : List (AV × List Int)} (h : NL A H u ws) : (∀ y ∈ ws, y.1 = .nilS ∨ nm y.1 < H.length) ∧ (ws = [] ∨ nm u < H.length) := by
  refine ⟨fun y hy => ?_, ?_⟩
  · rcases (h.rows y hy).row with ⟨h6, _⟩ | ⟨n, full, cs, g1, g2, g3, g4⟩
    · exact .inl h6
    · right; rw [g1]; exact (List.getElem?_eq_some_iff.1 g3).1
  · rcases h.acc.2.2 with ⟨h3, _⟩ | ⟨h3, n, h4, h5, h6⟩
    · exact .inl (List.eq_nil_of_length_eq_zero h3)
    · right; rw [h4]; exact (List.getElem?_eq_some_iff.1 h6).1
theorem NL.base {A0 A H : AHeap} {u : AV} {ws : List (AV × List Int)} (hp : A0 <+: A) (h : NL A H u ws) : NL A0 H u ws := by
  refine ⟨AccL_base0 hp h.acc, fun x hx => ⟨?_⟩, h.apart⟩
  rcases (h.rows x hx).row with h6 | ⟨n, full, cs, g1, g2, g3, g4⟩
  · exact .inl h6
  · exact .inr ⟨n, full, cs, g1, Nat.le_trans hp.length_le g2, g3, g4⟩
theorem Ls_cells {α : Type} {es : Nat} {e : α → List AV} {A : AHeap} {u : AV} {xs : List α} (h : Ls es e A u xs) : u.cells? = some [u] := by
  rcases h.inv with ⟨rfl, _⟩ | ⟨n, off, full, rw, l, rfl, _⟩ <;> rfl
theorem nm_ne_nil {A H : AHeap} {u : AV} {ws : List (AV × List Int)} (h : NL A H u ws) {n : Nat} (hn : H.length ≤ n) (hu : 0 < A.length) : nm u ≠ n := by
  rcases h.acc.2.2 with ⟨_, h4⟩ | ⟨_, m, h4, _, h6⟩
  · rw [h4]; simp only [nm]
    have := h.acc.1.length_le
    omega
  · rw [h4]; have := (List.getElem?_eq_some_iff.1 h6).1; simp only [nm]; omega
theorem splice_more {a c cs : List AV} {off : Nat} (h : off + c.length ≤ a.length) : splice (a ++ cs) off c = splice a off c ++ cs := by
  unfold splice
  rw [List.take_append_of_le_length (by omega), List.drop_append_of_le_length h]
  simp only [List.append_assoc]
theorem flat0 (ws : List (AV × List Int)) : ws.flatMap e0 = ws.map Prod.fst := by
  induction ws with
  | nil => rfl
  | cons x r ih => rw [List.flatMap_cons, ih]; rfl
theorem fst_set {ws : List (AV × List Int)} {i : Nat} {x : AV × List Int} (hz : ws[i]? = some x) (l : List Int) : (ws.set i (x.1, l)).map Prod.fst = ws.map Prod.fst := by
  apply List.ext_getElem?
  intro j
  rw [List.getElem?_map, List.getElem?_map, List.getElem?_set]
  by_cases hij : i = j
  · subst hij
    have := (List.getElem?_eq_some_iff.1 hz).1
    rw [if_pos rfl, if_pos this, hz]; rfl
  · rw [if_neg hij]
theorem Apart_fst {ws vs : List (AV × List Int)} (h : ws.map Prod.fst = vs.map Prod.fst) (ha : Apart vs) : Apart ws := by
  unfold Apart at *
  have h1 := (List.pairwise_map (f := Prod.fst) (R := fun a b : AV => a = .nilS ∨ b = .nilS ∨ nm a ≠ nm b) (l := vs)).2 ha
  rw [← h] at h1
  exact List.pairwise_map.1 h1
theorem Apart_ne {ws : List (AV × List Int)} (h : Apart ws) {i j : Nat} {x y : AV × List Int} (hi : ws[i]? = some x) (hj : ws[j]? = some y) (hij : i ≠ j) : x.1 = .nilS ∨ y.1 = .nilS ∨ nm x.1 ≠ nm y.1 := by
  obtain ⟨h1, rfl⟩ := List.getElem?_eq_some_iff.1 hi
  obtain ⟨h2, rfl⟩ := List.getElem?_eq_some_iff.1 hj
  rcases Nat.lt_or_gt_of_ne hij with h3 | h3
  · exact List.pairwise_iff_getElem.1 h i j h1 h2 h3
  · rcases List.pairwise_iff_getElem.1 h j i h2 h1 h3 with h4 | h4 | h4
    · exact .inr (.inl h4)
    · exact .inl h4
    · exact .inr (.inr (Ne.symm h4))
/-- A number of a row is written. -/
theorem NL.st {A H : AHeap} {u : AV} {ws : List (AV × List Int)} (h : NL A H u ws) {i : Nat} {x : AV × List Int} (hz : ws[i]? = some x) {k : Nat} (hk : k < x.2.length) (q : Int) :
    ∃ H2, stA 1 (.ptr (nm x.1) (of x.1 + k * 1)) (I q) H = some H2 ∧ NL A H2 u (ws.set i (x.1, x.2.set k q)) := by
  rcases (h.rows x (List.mem_of_getElem? hz)).row with ⟨_, h2⟩ | ⟨n, full, cs, g1, g2, g3, g4⟩
  · rw [h2] at hk; simp at hk
  · have hil := (List.getElem?_eq_some_iff.1 hz).1
    have hnl := (List.getElem?_eq_some_iff.1 g3).1
    have hfl := flatMap_length e1_len x.2
    have hsp : splice (x.2.flatMap e1 ++ cs) (k * 1) (e1 q) = (x.2.set k q).flatMap e1 ++ cs := by
      rw [splice_more (by rw [e1_len, hfl]; omega), splice_flat e1_len hk q]
    refine ⟨H.set n (.cells true ((x.2.set k q).flatMap e1 ++ cs)), ?_, ?_, ?_, ?_⟩
    · rw [g1]
      have hq : (I q).cells? = some (e1 q) := rfl
      simp only [stA, nm, of, hq, g3, Nat.zero_add]
      rw [if_pos ⟨e1_len q, by rw [List.length_append, hfl]; omega⟩, hsp]
    · have hlen : (ws.set i (x.1, x.2.set k q)).length = ws.length := List.length_set ..
      have hfm : (ws.set i (x.1, x.2.set k q)).flatMap e0 = ws.flatMap e0 := by rw [flat0, flat0, fst_set hz]
      unfold AccL
      rw [hlen, hfm]
      obtain ⟨a1, a2, a3⟩ := h.acc
      refine ⟨pre_set a1 g2 _, a2, ?_⟩
      rcases a3 with a4 | ⟨b0, m, b4, b5, b6⟩
      · exact .inl a4
      · refine .inr ⟨b0, m, b4, b5, ?_⟩
        rw [b4] at g4
        have g5 : m ≠ n := g4
        rw [List.getElem?_set_ne (Ne.symm g5)]
        exact b6
    · intro y hy
      obtain ⟨j, hj⟩ := List.mem_iff_getElem?.1 hy
      rw [List.getElem?_set] at hj
      by_cases hij : i = j
      · rw [if_pos hij, if_pos (by omega)] at hj
        have : (x.1, x.2.set k q) = y := Option.some.inj hj
        subst this
        refine ⟨.inr ⟨n, full, cs, ?_, g2, by rw [List.getElem?_set_self hnl], g4⟩⟩
        simp only [List.length_set]
        exact g1
      · rw [if_neg hij] at hj
        refine ⟨?_⟩
        rcases (h.rows y (List.mem_of_getElem? hj)).row with c1 | ⟨n', full', cs', c1, c2, c3, c4⟩
        · exact .inl c1
        · refine .inr ⟨n', full', cs', c1, c2, ?_, c4⟩
          rcases Apart_ne h.apart hz hj hij with d | d | d
          · rw [g1] at d; cases d
          · rw [c1] at d; cases d
          · rw [g1, c1] at d
            have d2 : n ≠ n' := d
            rw [List.getElem?_set_ne d2]
            exact c3
    · exact Apart_fst (fst_set hz _) h.apart
section
variable {α : Type} {f : α → α} {l : List α} {k : Nat} {z : α}
end
theorem L1_app_new {A : AHeap} {y : AV} {ys : List Int} (hy : L1 A y ys) (hl : ys.length ≤ lim) :
    ∃ v' n full H2, appA 1 (A ++ [.cells true []]) (.sl 1 A.length 0 0 true) y = some (v', H2) ∧ A <+: H2 ∧ A.length ≤ n ∧ v' = .sl 1 n 0 ys.length full ∧ H2[n]? = some (.cells true (ys.flatMap e1 ++ [])) := by
  have hc := (hy.mono (pre_app A [.cells true []])).hc
  by_cases h0 : ys.length = 0
  · have : ys = [] := List.eq_nil_of_length_eq_zero h0
    subst this
    refine ⟨.sl 1 A.length 0 0 true, A.length, true, A ++ [.cells true []], ?_, pre_app _ _, Nat.le_refl _, rfl, by simp⟩
    unfold appA
    rw [hc]
    simp
  · refine ⟨.sl 1 (A ++ [AObj.cells true []]).length 0 ys.length false, (A ++ [AObj.cells true []]).length, false, A ++ [AObj.cells true []] ++ [.cells true (ys.flatMap e1)], ?_, (pre_app A _).trans (pre_app _ _), by simp, rfl, by simp⟩
    unfold appA
    rw [hc]
    simp [h0, hl]
theorem LL.pos {A : AHeap} {v : AV} {ws : List (AV × List Int)} (h : LL A v ws) (h0 : 0 < ws.length) : 0 < A.length := by
  rcases h.ls.inv with ⟨_, rfl⟩ | ⟨n, off, full, rw, l, _, h1, _, _⟩
  · simp at h0
  · have := (List.getElem?_eq_some_iff.1 h1).1
    omega
end Go.Proofs.Ytgidfejkfdkflaa

namespace Go.Proofs.Ytgidfejkfdkflaa
open Go Go.Eng
/-- The first element's place, or -1. -/
def rpos (g : List Int → Bool) (xs : List (List Int)) : Int := match xs.findIdx? g with | some i => i | none => -1
theorem rpos_some {g : List Int → Bool} {xs : List (List Int)} {i : Nat} {z : List Int} (h : ∀ y ∈ xs.take i, g y = false) (hz : xs[i]? = some z) (hg : g z = true) : rpos g xs = i := by
  have hi : i < xs.length := (List.getElem?_eq_some_iff.1 hz).1
  have he : xs[i] = z := (List.getElem?_eq_some_iff.1 hz).2
  have : xs.findIdx? g = some i := by
    rw [List.findIdx?_eq_some_iff_getElem]
    refine ⟨hi, by rw [he]; exact hg, fun j hj => ?_⟩
    have : xs[j]'(by omega) ∈ xs.take i := by
      rw [List.mem_take_iff_getElem]
      exact ⟨j, by omega, rfl⟩
    simp [h _ this]
  unfold rpos
  rw [this]
theorem rpos_none {g : List Int → Bool} {xs : List (List Int)} (h : ∀ y ∈ xs, g y = false) : rpos g xs = -1 := by
  have : xs.findIdx? g = none := by
    rw [List.findIdx?_eq_none_iff]
    exact h
  unfold rpos
  rw [this]
theorem rpos_iff (g : List Int → Bool) (xs : List (List Int)) : 0 ≤ rpos g xs ↔ xs.any g = true := by
  unfold rpos
  cases h : xs.findIdx? g with
  | some i =>
    rw [List.findIdx?_eq_some_iff_getElem] at h
    obtain ⟨hi, hg, _⟩ := h
    simp only [Int.natCast_nonneg, true_iff, List.any_eq_true]
    exact ⟨_, List.getElem_mem hi, hg⟩
  | none =>
    rw [List.findIdx?_eq_none_iff] at h
    constructor
    · intro h1; simp at h1
    · intro h1
      rw [List.any_eq_true] at h1
      obtain ⟨x, hx, hg⟩ := h1
      rw [h x hx] at hg; cases hg
theorem take_falseR {g : List Int → Bool} {xs : List (List Int)} {i : Nat} {z : List Int} (h : ∀ y ∈ xs.take i, g y = false) (hz : xs[i]? = some z) (hg : g z = false) : ∀ y ∈ xs.take (i + 1), g y = false := by
  intro y hy
  rw [List.take_add_one, hz] at hy
  rcases List.mem_append.1 hy with hy | hy
  · exact h y hy
  · have : y = z := by simpa using hy
    rw [this]; exact hg
theorem ws_get {ws : List (AV × List Int)} {i : Nat} {x : AV × List Int} (hz : ws[i]? = some x) : (lists ws)[i]? = some x.2 := by
  simp [lists, hz]
/-- A list holds each of the numbers. -/
def isO (l : List Int) (n : Nat) : Prop := l.length = n ∧ ∀ i : Nat, i < n → (i : Int) ∈ l
instance (l : List Int) (n : Nat) : Decidable (isO l n) := by unfold isO; exact inferInstance
def gd (V : List (List Int)) : Prop := (1 ≤ V.length ∧ V.length ≤ 5) ∧ ∀ l ∈ V, isO l V.length
instance (V : List (List Int)) : Decidable (gd V) := by unfold gd; exact inferInstance
def vE (V : List (List Int)) : Int := if gd V then 0 else 1
def oE (V : List (List Int)) (l : List Int) : Int := if gd V ∧ isO l V.length then 0 else 1
structure Sz (ws : List (AV × List Int)) : Prop where
  v : ws.length ≤ 1000000
  w : ∀ w ∈ ws, w.2.length ≤ 1000000
theorem s19 {xs : List Int} {v : AV} {A : AHeap} (hx : L1 A v xs) : ACalls Try.prog 19 [v] A (B (decide ((40 : Int) < xs.length))) A := by
  refine acalls hmix Try.func19 (by kernel_rfl) t19 1 rfl (by decide) ?_
  dsimp only [m19]
  simp (maxSteps := 4000000) -implicitDefEqProofs -dsimp (disch := omega) only [↓AW_ops, ↓AW_seq, ↓AW_ret, ↓AOps_nil, ↓AOps_pu, on_some, ↓then_normal, ↓Fin_ret, pval, rd_S, rd_C, put_S, resV, resL, List.replicate_succ, List.replicate_zero, List.set_cons_zero, List.set_cons_succ, List.getElem?_cons_zero, List.getElem?_cons_succ, Option.getD_some, Nat.reduceSub, List.cons_append, List.nil_append, bin_gtr, hx.len]
  exact gc_same rfl
def longS (ws : List (AV × List Int)) : Prop := (∃ w ∈ ws, (40 : Int) < w.2.length) ∨ (40 : Int) < ws.length
instance (ws : List (AV × List Int)) : Decidable (longS ws) := by unfold longS; exact inferInstance
theorem Sz_of {ws : List (AV × List Int)} (h : ¬ longS ws) : Sz ws := by
  unfold longS at h
  refine ⟨by
    have : ¬ (40 : Int) < ws.length := fun e => h (.inr e)
    omega, fun w hw => ?_⟩
  have : ¬ (40 : Int) < w.2.length := fun e => h (.inl ⟨w, hw, e⟩)
  omega
theorem s6 {ws : List (AV × List Int)} {v : AV} {A : AHeap} (hV : LL A v ws) (hl : ws.length ≤ 9223372036854775807) : ACalls Try.prog 6 [v] A (B (decide (longS ws))) A := by
  refine acalls hmix Try.func6 (by kernel_rfl) t6 1 rfl (by decide) ?_
  dsimp only [m6]
  simp (maxSteps := 4000000) -implicitDefEqProofs -dsimp (disch := omega) only [↓AW_ops, ↓AW_seq, ↓AW_block, ↓AOps_nil, ↓AOps_pu, on_some, ↓then_normal, pval, rd_C, put_S, ↓AW_toLoop, List.replicate_succ, List.replicate_zero, List.set_cons_zero, List.set_cons_succ, Nat.reduceSub, List.cons_append, List.nil_append]
  refine LoopK.by 18 (fun i : Nat => i ≤ ws.length ∧ ∀ w ∈ ws.take i, ¬ (40 : Int) < w.2.length) (fun i => [(0, v), (3, I i)]) (fun _ => A) (fun i => ws.length - i) 0 ⟨by omega, by simp⟩ rfl (by simp [Has, rd_s]) rfl ?_
  rintro i ⟨hi, he⟩
  by_cases hlt : i < ws.length
  · obtain ⟨w, hz⟩ : ∃ z, ws[i]? = some z := ⟨_, List.getElem?_eq_getElem hlt⟩
    have hlt' : (i : Int) < ws.length := by omega
    have hm := List.mem_of_getElem? hz
    simp (maxSteps := 4000000) -implicitDefEqProofs -dsimp (disch := omega) only [↓AW_skip, ↓AW_ops, ↓AW_seq, ↓AW_cond, ↓AW_block, ↓AOps_nil, ↓AOps_pu, ↓AOps_ld, ↓AOps_call, on_some, condB_t, ↓then_normal, pval, lval, rd_S, put_S, partA, eq_self, mk, List.foldl_cons, List.foldl_nil, List.replicate_succ, List.replicate_zero, List.set_cons_zero, List.set_cons_succ, List.getElem?_cons_zero, List.getElem?_cons_succ, List.drop_zero, List.take_succ_cons, List.take_nil, Option.getD_some, map_c, map_n, List.length_cons, List.length_nil, Nat.reduceLeDiff, Nat.zero_add, bin_lss, if_true, if_false, Bool.false_eq_true, decide_true, hlt', hV.ls.len, hV.ls.idx hlt, hV.ls.ld0 hz 1 false (by decide), e0]
    refine CallK.of (s19 (hV.inn w hm)) ?_
    by_cases h : (40 : Int) < w.2.length
    · simp (maxSteps := 4000000) -implicitDefEqProofs -dsimp (disch := omega) only [↓AW_ops, ↓AW_seq, ↓AW_cond, ↓AW_ret, ↓AOps_nil, ↓AOps_pu, on_some, extK_same, condB_t, ↓then_normal, ↓then_ret, ↓inBlock_ret, ↓Fin_ret, pval, rd_S, rd_C, put_S, resV, resL, mk, List.foldl_cons, List.foldl_nil, List.replicate_succ, List.replicate_zero, List.set_cons_zero, List.set_cons_succ, List.getElem?_cons_zero, List.getElem?_cons_succ, Option.getD_some, decide_true, h]
      exact gc_same (by rw [decide_eq_true (show longS ws from .inl ⟨w, hm, h⟩)])
    · simp (maxSteps := 4000000) -implicitDefEqProofs -dsimp (disch := omega) only [↓AW_skip, ↓AW_ops, ↓AW_cond, ↓AOps_nil, ↓AOps_pu, on_some, extK_same, condB_f, ↓then_normal, ↓inBlock_normal, pval, rd_S, rd_C, put_S, eq_self, mk, List.foldl_cons, List.foldl_nil, List.replicate_succ, List.replicate_zero, List.set_cons_zero, List.set_cons_succ, List.getElem?_cons_zero, List.getElem?_cons_succ, Option.getD_some, List.length_cons, List.length_nil, Nat.reduceAdd, Nat.zero_add, bin_add, w64, decide_false, true_and, h]
      refine ⟨i + 1, ⟨hlt, fun u hu => ?_⟩, by simp [Has, rd_s], by omega⟩
      rcases (take_mem hz).1 hu with hu | rfl
      · exact he u hu
      · exact h
  · have hlt' : ¬ ((i : Int) < ws.length) := by omega
    rw [List.take_of_length_le (by omega)] at he
    simp (maxSteps := 4000000) -implicitDefEqProofs -dsimp (disch := omega) only [↓AW_ops, ↓AW_seq, ↓AW_cond, ↓AW_exit, ↓AW_ret, ↓AOps_nil, ↓AOps_pu, on_some, condB_f, ↓then_normal, ↓then_exit, ↓inBlock_exit, ↓Fin_ret, pval, rd_S, rd_C, put_S, resV, resL, eq_self, mk, List.foldl_cons, List.foldl_nil, List.replicate_succ, List.replicate_zero, List.set_cons_zero, List.set_cons_succ, List.getElem?_cons_zero, List.getElem?_cons_succ, Option.getD_some, bin_lss, bin_gtr, if_true, decide_false, hlt', hV.ls.len]
    by_cases h : (40 : Int) < ws.length
    · exact gc_same (by rw [decide_eq_true h, decide_eq_true (show longS ws from .inr h)])
    · refine gc_same ?_
      rw [decide_eq_false h, decide_eq_false]
      rintro (⟨w, hw, h1⟩ | h1)
      · exact he w hw h1
      · exact h h1
theorem s23 {l : List Int} {v : AV} {A : AHeap} (hx : L1 A v l) (hl : l.length ≤ 1000000) (n : Nat) (hn : n ≤ 1000000) : ACalls Try.prog 23 [v, I n] A (B (decide (isO l n))) A := by
  refine acalls hmix Try.func23 (by kernel_rfl) t23 2 rfl (by decide) ?_
  by_cases h : (l.length : Int) = n
  case neg =>
    dsimp only [m23]
    simp (maxSteps := 4000000) -implicitDefEqProofs -dsimp (disch := omega) only [↓AW_ops, ↓AW_seq, ↓AW_cond, ↓AW_ret, ↓AOps_nil, ↓AOps_pu, on_some, condB_t, ↓then_normal, ↓then_ret, ↓Fin_ret, pval, rd_S, rd_C, put_S, resV, resL, List.replicate_succ, List.replicate_zero, List.set_cons_zero, List.set_cons_succ, List.getElem?_cons_zero, List.getElem?_cons_succ, Option.getD_some, Nat.reduceSub, List.cons_append, List.nil_append, bin_neq, decide_true, not_false_eq_true, hx.len, h]
    exact gc_same (by rw [decide_eq_false (fun e : isO l n => h (by rw [e.1]))])
  have hln : l.length = n := by omega
  dsimp only [m23]
  simp (maxSteps := 4000000) -implicitDefEqProofs -dsimp (disch := omega) only [↓AW_skip, ↓AW_ops, ↓AW_seq, ↓AW_cond, ↓AW_block, ↓AOps_nil, ↓AOps_pu, on_some, condB_f, ↓then_normal, pval, rd_S, rd_C, put_S, ↓AW_toLoop, eq_self, List.replicate_succ, List.replicate_zero, List.set_cons_zero, List.set_cons_succ, List.getElem?_cons_zero, List.getElem?_cons_succ, Option.getD_some, Nat.reduceSub, List.cons_append, List.nil_append, bin_neq, decide_false, not_true_eq_false, hx.len, h]
  refine LoopK.by 19 (fun i : Nat => i ≤ n ∧ ∀ j : Nat, j < i → (j : Int) ∈ l) (fun i => [(0, v), (10, I n), (11, I i)]) (fun _ => A) (fun i => n - i) 0 ⟨by omega, fun j hj => by omega⟩ rfl (by simp [Has, rd_s]) rfl ?_
  rintro i ⟨hi, he⟩
  by_cases hlt : i < n
  · have hlt' : (i : Int) < n := by omega
    simp (maxSteps := 4000000) -implicitDefEqProofs -dsimp (disch := omega) only [↓AW_skip, ↓AW_ops, ↓AW_seq, ↓AW_cond, ↓AW_block, ↓AOps_nil, ↓AOps_pu, ↓AOps_call, on_some, condB_t, ↓then_normal, pval, rd_S, put_S, mk, List.foldl_cons, List.foldl_nil, List.replicate_succ, List.replicate_zero, List.set_cons_zero, List.set_cons_succ, List.getElem?_cons_zero, List.getElem?_cons_succ, Option.getD_some, map_c, map_n, bin_lss, decide_true, hlt']
    refine CallK.of (c_Contains hx hl (i : Int)) ?_
    by_cases hm : (i : Int) ∈ l
    · simp (maxSteps := 4000000) -implicitDefEqProofs -dsimp (disch := omega) only [↓AW_skip, ↓AW_ops, ↓AW_cond, ↓AOps_nil, ↓AOps_pu, on_some, extK_same, condB_f, ↓then_normal, ↓inBlock_normal, pval, rd_S, rd_C, put_S, eq_self, mk, List.foldl_cons, List.foldl_nil, List.replicate_succ, List.replicate_zero, List.set_cons_zero, List.set_cons_succ, List.getElem?_cons_zero, List.getElem?_cons_succ, Option.getD_some, List.length_cons, List.length_nil, Nat.reduceAdd, Nat.zero_add, bin_add, w64, Bool.not_true, decide_true, true_and, hm]
      refine ⟨i + 1, ⟨hlt, fun j hj => ?_⟩, by simp [Has, rd_s], by omega⟩
      rcases Nat.lt_or_ge j i with h1 | h1
      · exact he j h1
      · rw [show j = i by omega]; exact hm
    · simp (maxSteps := 4000000) -implicitDefEqProofs -dsimp (disch := omega) only [↓AW_ops, ↓AW_seq, ↓AW_cond, ↓AW_ret, ↓AOps_nil, ↓AOps_pu, on_some, extK_same, condB_t, ↓then_normal, ↓then_ret, ↓inBlock_ret, ↓Fin_ret, pval, rd_S, rd_C, put_S, resV, resL, mk, List.foldl_cons, List.foldl_nil, List.replicate_succ, List.replicate_zero, List.set_cons_zero, List.set_cons_succ, List.getElem?_cons_zero, List.getElem?_cons_succ, Option.getD_some, Bool.not_false, decide_false, hm]
      exact gc_same (by rw [decide_eq_false (fun e : isO l n => hm (e.2 i hlt))])
  · have hlt' : ¬ ((i : Int) < n) := by omega
    simp (maxSteps := 4000000) -implicitDefEqProofs -dsimp (disch := omega) only [↓AW_ops, ↓AW_seq, ↓AW_cond, ↓AW_exit, ↓AW_ret, ↓AOps_nil, ↓AOps_pu, on_some, condB_f, ↓then_normal, ↓then_exit, ↓inBlock_exit, ↓Fin_ret, pval, rd_S, rd_C, put_S, resV, resL, eq_self, mk, List.foldl_cons, List.foldl_nil, List.replicate_succ, List.replicate_zero, List.set_cons_zero, List.set_cons_succ, List.getElem?_cons_zero, List.getElem?_cons_succ, Option.getD_some, bin_lss, if_true, decide_false, hlt']
    have hin : i = n := by omega
    subst hin
    exact gc_same (by rw [decide_eq_true (show isO l i from ⟨hln, he⟩)])
end Go.Proofs.Ytgidfejkfdkflaa

namespace Go.Proofs.Ytgidfejkfdkflaa
open Go Go.Eng
theorem s22 {l : List Int} {v y : AV} {ws : List (AV × List Int)} {A : AHeap} {b : Nat} (hx : L1 A v l) (hl : l.length ≤ 1000000) (hV : LL A y ws) (hs : ws.length ≤ 1000000) (hb : ldA 1 false (.ptr b 0) A = some y) : ACalls Try.prog 22 [v, .ptr b 0] A (B (!decide (isO l ws.length))) A := by
  refine acalls hmix Try.func22 (by kernel_rfl) t22 2 rfl (by decide) ?_
  dsimp only [m22]
  simp (maxSteps := 4000000) -implicitDefEqProofs -dsimp (disch := omega) only [↓AW_ops, ↓AW_seq, ↓AOps_nil, ↓AOps_pu, ↓AOps_ld, ↓AOps_call, on_some, ↓then_normal, pval, lval, rd_S, rd_C, put_S, List.replicate_succ, List.replicate_zero, List.set_cons_zero, List.set_cons_succ, List.getElem?_cons_zero, List.getElem?_cons_succ, Option.getD_some, map_c, map_n, Nat.reduceSub, List.cons_append, List.nil_append, hb, hV.ls.len]
  refine CallK.of (s23 hx hl ws.length hs) ?_
  simp (maxSteps := 4000000) -implicitDefEqProofs -dsimp (disch := omega) only [↓AW_ret, ↓AOps_nil, ↓AOps_pu, on_some, extK_same, ↓then_normal, ↓Fin_ret, pval, rd_S, put_S, resV, resL, List.replicate_succ, List.replicate_zero, List.set_cons_zero, List.set_cons_succ, List.getElem?_cons_zero, List.getElem?_cons_succ, Option.getD_some, Nat.reduceSub, List.cons_append, List.nil_append]
  exact gc_same rfl
theorem s34 {ws : List (AV × List Int)} {v : AV} {A : AHeap} (hV : LL A v ws) (hl : ws.length ≤ 1000000) (f : FuncId) (cap : List AV) (g : List Int → Bool) (hg : ∀ x ∈ ws, ACalls Try.prog f ([x.1] ++ cap) A (B (g x.2)) A) : ACalls Try.prog 34 [v, .fn f cap] A (I (rpos g (lists ws))) A := by
  refine acalls hmix Try.func34 (by kernel_rfl) t34 2 rfl (by decide) ?_
  dsimp only [m34]
  simp (maxSteps := 4000000) -implicitDefEqProofs -dsimp (disch := omega) only [↓AW_ops, ↓AW_seq, ↓AW_block, ↓AOps_nil, ↓AOps_pu, on_some, ↓then_normal, pval, rd_S, rd_C, put_S, ↓AW_toLoop, List.replicate_succ, List.replicate_zero, List.set_cons_zero, List.set_cons_succ, List.getElem?_cons_zero, List.getElem?_cons_succ, Option.getD_some, Nat.reduceSub, List.cons_append, List.nil_append, hV.ls.len]
  refine LoopK.by 19 (fun i : Nat => i ≤ ws.length ∧ ∀ y ∈ (lists ws).take i, g y = false) (fun i => [(0, v), (1, .fn f cap), (7, I ws.length), (8, I i)]) (fun _ => A) (fun i => ws.length - i) 0 ⟨by omega, by simp⟩ rfl (by simp [Has, rd_s]) rfl ?_
  rintro i ⟨hi, he⟩
  by_cases hlt : i < ws.length
  · obtain ⟨z, hz⟩ : ∃ z, ws[i]? = some z := ⟨_, List.getElem?_eq_getElem hlt⟩
    have hlt' : (i : Int) < ws.length := by omega
    have hz2 := ws_get hz
    simp (maxSteps := 4000000) -implicitDefEqProofs -dsimp (disch := omega) only [↓AW_skip, ↓AW_ops, ↓AW_seq, ↓AW_cond, ↓AW_block, ↓AOps_nil, ↓AOps_pu, ↓AOps_ld, ↓AOps_callv, on_some, CallF_fn, condB_t, ↓then_normal, pval, lval, rd_S, put_S, partA, eq_self, mk, List.foldl_cons, List.foldl_nil, List.replicate_succ, List.replicate_zero, List.set_cons_zero, List.set_cons_succ, List.getElem?_cons_zero, List.getElem?_cons_succ, List.drop_zero, List.take_succ_cons, List.take_nil, Option.getD_some, map_c, map_n, List.length_cons, List.length_nil, Nat.reduceLeDiff, Nat.zero_add, List.cons_append, List.nil_append, bin_lss, if_true, if_false, Bool.false_eq_true, decide_true, hlt', hV.ls.idx hlt, hV.ls.ld0 hz 1 false (by decide), e0]
    refine CallK.of (hg z (List.mem_of_getElem? hz)) ?_
    by_cases h : g z.2 = true
    · simp (maxSteps := 4000000) -implicitDefEqProofs -dsimp (disch := omega) only [↓AW_ops, ↓AW_seq, ↓AW_cond, ↓AW_ret, ↓AOps_nil, ↓AOps_pu, on_some, extK_same, condB_t, ↓then_normal, ↓then_ret, ↓inBlock_ret, ↓Fin_ret, pval, rd_S, put_S, resV, resL, mk, List.foldl_cons, List.foldl_nil, List.replicate_succ, List.replicate_zero, List.set_cons_zero, List.set_cons_succ, List.getElem?_cons_zero, List.getElem?_cons_succ, Option.getD_some, h]
      exact gc_same (by rw [rpos_some he hz2 h])
    · have h : g z.2 = false := by simpa using h
      simp (maxSteps := 4000000) -implicitDefEqProofs -dsimp (disch := omega) only [↓AW_skip, ↓AW_ops, ↓AW_cond, ↓AOps_nil, ↓AOps_pu, on_some, extK_same, condB_f, ↓then_normal, ↓inBlock_normal, pval, rd_S, rd_C, put_S, eq_self, mk, List.foldl_cons, List.foldl_nil, List.replicate_succ, List.replicate_zero, List.set_cons_zero, List.set_cons_succ, List.getElem?_cons_zero, List.getElem?_cons_succ, Option.getD_some, List.length_cons, List.length_nil, Nat.reduceAdd, Nat.zero_add, bin_add, w64, true_and, h]
      exact ⟨i + 1, ⟨hlt, take_falseR he hz2 h⟩, by simp [Has, rd_s], by omega⟩
  · have hlt' : ¬ ((i : Int) < ws.length) := by omega
    simp (maxSteps := 4000000) -implicitDefEqProofs -dsimp (disch := omega) only [↓AW_ops, ↓AW_seq, ↓AW_cond, ↓AW_exit, ↓AW_ret, ↓AOps_nil, ↓AOps_pu, on_some, condB_f, ↓then_normal, ↓then_exit, ↓inBlock_exit, ↓Fin_ret, pval, rd_S, rd_C, put_S, resV, resL, eq_self, mk, List.foldl_cons, List.foldl_nil, List.replicate_succ, List.replicate_zero, List.set_cons_zero, List.set_cons_succ, List.getElem?_cons_zero, List.getElem?_cons_succ, Option.getD_some, bin_lss, if_true, decide_false, Int.reduceNeg, hlt']
    rw [List.take_of_length_le (by simp; omega)] at he
    exact gc_same (by rw [rpos_none he])
theorem s21 {ws : List (AV × List Int)} {v : AV} {A : AHeap} (hV : LL A v ws) (hl : ws.length ≤ 1000000) (f : FuncId) (cap : List AV) (g : List Int → Bool) (hg : ∀ x ∈ ws, ACalls Try.prog f ([x.1] ++ cap) A (B (g x.2)) A) : ACalls Try.prog 21 [v, .fn f cap] A (B ((lists ws).any g)) A := by
  refine acalls hmix Try.func21 (by kernel_rfl) t21 2 rfl (by decide) ?_
  dsimp only [m21]
  simp (maxSteps := 4000000) -implicitDefEqProofs -dsimp (disch := omega) only [↓AW_ops, ↓AW_seq, ↓AOps_nil, ↓AOps_pu, ↓AOps_call, on_some, ↓then_normal, pval, rd_S, rd_C, put_S, List.replicate_succ, List.replicate_zero, List.set_cons_zero, List.set_cons_succ, List.getElem?_cons_zero, List.getElem?_cons_succ, Option.getD_some, map_c, map_n, Nat.reduceSub, List.cons_append, List.nil_append]
  refine CallK.of (s34 hV hl f cap g hg) ?_
  simp (maxSteps := 4000000) -implicitDefEqProofs -dsimp (disch := omega) only [↓AW_ret, ↓AOps_nil, ↓AOps_pu, on_some, extK_same, ↓then_normal, ↓Fin_ret, pval, rd_S, rd_C, put_S, resV, resL, List.replicate_succ, List.replicate_zero, List.set_cons_zero, List.set_cons_succ, List.getElem?_cons_zero, List.getElem?_cons_succ, Option.getD_some, Nat.reduceSub, List.cons_append, List.nil_append, bin_geq]
  refine gc_same ?_
  congr 1
  rw [Bool.eq_iff_iff, decide_eq_true_iff, rpos_iff]
theorem s8 {ws : List (AV × List Int)} {v : AV} {A : AHeap} (hV : LL A v ws) (hs : Sz ws) : ACalls Try.prog 8 [v] A (I (vE (lists ws))) A := by
  refine acalls hmix Try.func8 (by kernel_rfl) t8 1 rfl (by decide) ?_
  have hc : v.cells? = some [v] := Ls_cells hV.ls
  have hp : A <+: A ++ [AObj.cells true [v]] := pre_app _ _
  have hV1 := hV.mono hp
  have hb : ldA 1 false (.ptr A.length 0) (A ++ [AObj.cells true [v]]) = some v := by simp [ldA, partA]
  have hll : (lists ws).length = ws.length := by simp
  have hsv := hs.v
  by_cases h1 : (ws.length : Int) < 1
  · dsimp only [m8]
    simp (maxSteps := 4000000) -implicitDefEqProofs -dsimp (disch := omega) only [↓AW_ops, ↓AW_seq, ↓AW_cond, ↓AW_ret, ↓AOps_nil, ↓AOps_pu, ↓AOps_ld, ↓AOps_ha, ↓AOps_guard, on_some, extK_app, guardB_tf, skipS_some, condB_t, ↓then_normal, ↓then_ret, ↓Fin_ret, pval, lval, hval_newv, rd_S, rd_C, put_S, resV, resL, eq_self, List.replicate_succ, List.replicate_zero, List.set_cons_zero, List.set_cons_succ, List.getElem?_cons_zero, List.getElem?_cons_succ, Option.getD_some, Nat.reduceSub, List.cons_append, List.nil_append, bin_lss, if_true, decide_true, hc, hb, hV1.ls.len, h1]
    refine gc_val hp ?_
    rw [vE, if_neg (by unfold gd; rw [hll]; omega)]
    rfl
  by_cases h2 : (ws.length : Int) > 5
  · dsimp only [m8]
    simp (maxSteps := 4000000) -implicitDefEqProofs -dsimp (disch := omega) only [↓AW_ops, ↓AW_seq, ↓AW_cond, ↓AW_ret, ↓AOps_nil, ↓AOps_pu, ↓AOps_ld, ↓AOps_ha, ↓AOps_guard, on_some, extK_app, guardB_tf, guardB_ff, skipS_some, condB_t, ↓then_normal, ↓then_ret, ↓Fin_ret, pval, lval, hval_newv, rd_S, rd_C, put_S, resV, resL, eq_self, List.replicate_succ, List.replicate_zero, List.set_cons_zero, List.set_cons_succ, List.getElem?_cons_zero, List.getElem?_cons_succ, Option.getD_some, Nat.reduceSub, List.cons_append, List.nil_append, bin_lss, bin_gtr, if_true, if_false, Bool.false_eq_true, decide_true, decide_false, hc, hb, hV1.ls.len, h1, h2]
    refine gc_val hp ?_
    rw [vE, if_neg (by unfold gd; rw [hll]; omega)]
    rfl
  dsimp only [m8]
  simp (maxSteps := 4000000) -implicitDefEqProofs -dsimp (disch := omega) only [↓AW_ops, ↓AW_seq, ↓AOps_nil, ↓AOps_pu, ↓AOps_ld, ↓AOps_ha, ↓AOps_call, ↓AOps_guard, on_some, extK_app, guardB_ff, ↓then_normal, pval, lval, hval_newv, rd_S, rd_C, put_S, List.replicate_succ, List.replicate_zero, List.set_cons_zero, List.set_cons_succ, List.getElem?_cons_zero, List.getElem?_cons_succ, Option.getD_some, map_c, map_n, Nat.reduceSub, List.cons_append, List.nil_append, bin_lss, bin_gtr, if_false, Bool.false_eq_true, decide_false, hc, hb, hV1.ls.len, h1, h2]
  refine CallK.of (s21 hV1 hs.v 22 [.ptr A.length 0] (fun l => !decide (isO l ws.length)) (fun x hx => s22 (hV1.inn x hx) (hs.w x hx) hV1 hs.v hb)) ?_
  by_cases h3 : (lists ws).any (fun l => !decide (isO l ws.length)) = true
  · simp (maxSteps := 4000000) -implicitDefEqProofs -dsimp (disch := omega) only [↓AW_ops, ↓AW_seq, ↓AW_cond, ↓AW_ret, ↓AOps_nil, ↓AOps_pu, on_some, extK_same, condB_t, ↓then_normal, ↓then_ret, ↓Fin_ret, pval, rd_S, rd_C, put_S, resV, resL, List.replicate_succ, List.replicate_zero, List.set_cons_zero, List.set_cons_succ, List.getElem?_cons_zero, List.getElem?_cons_succ, Option.getD_some, Nat.reduceSub, List.cons_append, List.nil_append, if_false, Bool.false_eq_true, h3]
    refine gc_val hp ?_
    rw [vE, if_neg]
    · rfl
    · rintro ⟨_, h4⟩
      obtain ⟨l, hl, h5⟩ := List.any_eq_true.1 h3
      have := h4 l hl
      rw [hll] at this
      simp [this] at h5
  · have h3 : (lists ws).any (fun l => !decide (isO l ws.length)) = false := by simpa using h3
    simp (maxSteps := 4000000) -implicitDefEqProofs -dsimp (disch := omega) only [↓AW_skip, ↓AW_ops, ↓AW_seq, ↓AW_cond, ↓AW_ret, ↓AOps_nil, ↓AOps_pu, on_some, extK_same, condB_f, ↓then_normal, ↓Fin_ret, pval, rd_S, rd_C, put_S, resV, resL, List.replicate_succ, List.replicate_zero, List.set_cons_zero, List.set_cons_succ, List.getElem?_cons_zero, List.getElem?_cons_succ, Option.getD_some, Nat.reduceSub, List.cons_append, List.nil_append, if_false, Bool.false_eq_true, h3]
    refine gc_val hp ?_
    rw [vE, if_pos]
    · rfl
    · refine ⟨by rw [hll]; omega, fun l hl => ?_⟩
      have := (List.any_eq_false.1 h3) l hl
      rw [hll]
      simpa using this
theorem s17 {ws : List (AV × List Int)} {v u : AV} {l : List Int} {A : AHeap} (hV : LL A v ws) (hs : Sz ws) (hx : L1 A u l) (hl : l.length ≤ 1000000) : ACalls Try.prog 17 [v, u] A (I (oE (lists ws) l)) A := by
  refine acalls hmix Try.func17 (by kernel_rfl) t17 2 rfl (by decide) ?_
  have hll : (lists ws).length = ws.length := by simp
  dsimp only [m17]
  simp (maxSteps := 4000000) -implicitDefEqProofs -dsimp (disch := omega) only [↓AW_ops, ↓AW_seq, ↓AOps_nil, ↓AOps_pu, ↓AOps_call, on_some, ↓then_normal, pval, rd_S, rd_C, put_S, List.replicate_succ, List.replicate_zero, List.set_cons_zero, List.set_cons_succ, List.getElem?_cons_zero, List.getElem?_cons_succ, Option.getD_some, map_c, map_n, Nat.reduceSub, List.cons_append, List.nil_append]
  refine CallK.of (s8 hV hs) ?_
  by_cases h : gd (lists ws)
  · have e : vE (lists ws) = 0 := if_pos h
    simp (maxSteps := 4000000) -implicitDefEqProofs -dsimp (disch := omega) only [↓AW_skip, ↓AW_ops, ↓AW_seq, ↓AW_cond, ↓AOps_nil, ↓AOps_pu, ↓AOps_call, on_some, extK_same, condB_f, ↓then_normal, pval, rd_S, rd_C, put_S, eq_self, List.replicate_succ, List.replicate_zero, List.set_cons_zero, List.set_cons_succ, List.getElem?_cons_zero, List.getElem?_cons_succ, Option.getD_some, map_c, map_n, Nat.reduceSub, List.cons_append, List.nil_append, bin_neq, decide_false, not_true_eq_false, e, hV.ls.len]
    refine CallK.of (s23 hx hl ws.length hs.v) ?_
    by_cases h2 : isO l ws.length
    · simp (maxSteps := 4000000) -implicitDefEqProofs -dsimp (disch := omega) only [↓AW_skip, ↓AW_ops, ↓AW_seq, ↓AW_cond, ↓AW_ret, ↓AOps_nil, ↓AOps_pu, on_some, extK_same, condB_f, ↓then_normal, ↓Fin_ret, pval, rd_S, rd_C, put_S, resV, resL, List.replicate_succ, List.replicate_zero, List.set_cons_zero, List.set_cons_succ, List.getElem?_cons_zero, List.getElem?_cons_succ, Option.getD_some, Nat.reduceSub, List.cons_append, List.nil_append, Bool.not_true, decide_true, h2]
      exact gc_same (by rw [oE, if_pos ⟨h, by rw [hll]; exact h2⟩])
    · simp (maxSteps := 4000000) -implicitDefEqProofs -dsimp (disch := omega) only [↓AW_ops, ↓AW_seq, ↓AW_cond, ↓AW_ret, ↓AOps_nil, ↓AOps_pu, on_some, extK_same, condB_t, ↓then_normal, ↓then_ret, ↓Fin_ret, pval, rd_S, rd_C, put_S, resV, resL, List.replicate_succ, List.replicate_zero, List.set_cons_zero, List.set_cons_succ, List.getElem?_cons_zero, List.getElem?_cons_succ, Option.getD_some, Nat.reduceSub, List.cons_append, List.nil_append, Bool.not_false, decide_false, h2]
      exact gc_same (by rw [oE, if_neg (fun e => h2 (by have := e.2; rwa [hll] at this))])
  · have e : vE (lists ws) = 1 := if_neg h
    simp (maxSteps := 4000000) -implicitDefEqProofs -dsimp (disch := omega) only [↓AW_ops, ↓AW_seq, ↓AW_cond, ↓AW_ret, ↓AOps_nil, ↓AOps_pu, on_some, extK_same, condB_t, ↓then_normal, ↓then_ret, ↓Fin_ret, pval, rd_S, rd_C, put_S, resV, resL, List.replicate_succ, List.replicate_zero, List.set_cons_zero, List.set_cons_succ, List.getElem?_cons_zero, List.getElem?_cons_succ, Option.getD_some, Nat.reduceSub, List.cons_append, List.nil_append, bin_neq, decide_true, not_false_eq_true, Int.reduceEq, e]
    exact gc_same (by rw [oE, if_neg (fun e => h e.1)])
theorem s11 {ws : List (AV × List Int)} {v u : AV} {l : List Int} {A : AHeap} (hV : LL A v ws) (hs : Sz ws) (hx : L1 A u l) (hl : l.length ≤ 1000000) : ACalls Try.prog 11 [v, u] A (I (oE (lists ws) l)) A := by
  refine acalls hmix Try.func11 (by kernel_rfl) t11 2 rfl (by decide) ?_
  dsimp only [m11]
  simp (maxSteps := 4000000) -implicitDefEqProofs -dsimp (disch := omega) only [↓AW_ops, ↓AW_seq, ↓AOps_nil, ↓AOps_pu, ↓AOps_call, on_some, ↓then_normal, pval, rd_S, rd_C, put_S, List.replicate_succ, List.replicate_zero, List.set_cons_zero, List.set_cons_succ, List.getElem?_cons_zero, List.getElem?_cons_succ, Option.getD_some, map_c, map_n, Nat.reduceSub, List.cons_append, List.nil_append]
  refine CallK.of (s17 hV hs hx hl) ?_
  simp (maxSteps := 4000000) -implicitDefEqProofs -dsimp (disch := omega) only [↓AW_ret, ↓AOps_nil, ↓AOps_pu, on_some, extK_same, ↓then_normal, ↓Fin_ret, pval, rd_S, put_S, resV, resL, List.replicate_succ, List.replicate_zero, List.set_cons_zero, List.set_cons_succ, List.getElem?_cons_zero, List.getElem?_cons_succ, Option.getD_some, Nat.reduceSub, List.cons_append, List.nil_append]
  exact gc_same rfl
/-- Where a plot stands in a list. -/
def pos (l : List Int) (p : Int) : Int := fpos (fun y => decide (p = y)) l
theorem s25 {ws : List (AV × List Int)} {v : AV} {A : AHeap} (hV : LL A v ws) (hs : Sz ws) {o : Nat} {w : AV × List Int} (ho : ws[o]? = some w) (a b : Int) : ACalls Try.prog 25 [v, I o, I a, I b] A (B (decide (pos w.2 a < pos w.2 b))) A := by
  refine acalls hmix Try.func25 (by kernel_rfl) t25 4 rfl (by decide) ?_
  have hol := (List.getElem?_eq_some_iff.1 ho).1
  have hm := List.mem_of_getElem? ho
  dsimp only [m25]
  simp (maxSteps := 4000000) -implicitDefEqProofs -dsimp (disch := omega) only [↓AW_ops, ↓AW_seq, ↓AOps_nil, ↓AOps_pu, ↓AOps_ld, ↓AOps_call, on_some, ↓then_normal, pval, lval, rd_S, rd_C, put_S, partA, eq_self, List.replicate_succ, List.replicate_zero, List.set_cons_zero, List.set_cons_succ, List.getElem?_cons_zero, List.getElem?_cons_succ, List.drop_zero, List.take_succ_cons, List.take_nil, Option.getD_some, map_c, map_n, List.length_cons, List.length_nil, Nat.reduceSub, Nat.reduceLeDiff, Nat.zero_add, List.cons_append, List.nil_append, if_true, if_false, Bool.false_eq_true, hV.ls.idx hol, hV.ls.ld0 ho 1 false (by decide), e0]
  refine CallK.of (c_Index (hV.inn w hm) (hs.w w hm) a) ?_
  simp (maxSteps := 4000000) -implicitDefEqProofs -dsimp (disch := omega) only [↓AOps_pu, ↓AOps_ld, ↓AOps_call, on_some, extK_same, pval, lval, rd_S, put_S, partA, eq_self, List.replicate_succ, List.replicate_zero, List.set_cons_zero, List.set_cons_succ, List.getElem?_cons_zero, List.getElem?_cons_succ, List.drop_zero, List.take_succ_cons, List.take_nil, Option.getD_some, map_c, map_n, List.length_cons, List.length_nil, Nat.reduceSub, Nat.reduceLeDiff, Nat.zero_add, List.cons_append, List.nil_append, if_true, if_false, Bool.false_eq_true, hV.ls.idx hol, hV.ls.ld0 ho 1 false (by decide), e0]
  refine CallK.of (c_Index (hV.inn w hm) (hs.w w hm) b) ?_
  simp (maxSteps := 4000000) -implicitDefEqProofs -dsimp (disch := omega) only [↓AW_ret, ↓AOps_nil, ↓AOps_pu, on_some, extK_same, ↓then_normal, ↓Fin_ret, pval, rd_S, put_S, resV, resL, List.replicate_succ, List.replicate_zero, List.set_cons_zero, List.set_cons_succ, List.getElem?_cons_zero, List.getElem?_cons_succ, Option.getD_some, Nat.reduceSub, List.cons_append, List.nil_append, bin_lss]
  exact gc_same rfl
end Go.Proofs.Ytgidfejkfdkflaa

namespace Go.Proofs.Ytgidfejkfdkflaa
open Go Go.Eng
/-- A list that grows, or that has room and no element yet. -/
def NS (A H : AHeap) (v : AV) (xs : List Int) : Prop :=
  AccL 1 e1 A H v xs ∨ (xs = [] ∧ A <+: H ∧ ∃ n l, v = .sl 1 n 0 0 false ∧ A.length ≤ n ∧ H[n]? = some (.cells true l))
theorem NS.pre {A H : AHeap} {v : AV} {xs : List Int} (h : NS A H v xs) : A <+: H := by
  rcases h with h | h
  · exact AccL.pre h
  · exact h.2.1
theorem NS.ls {A H : AHeap} {v : AV} {xs : List Int} (h : NS A H v xs) : L1 H v xs := by
  rcases h with h | ⟨rfl, _, n, l, rfl, _, hg⟩
  · exact AccL_ls h e1_len
  · exact ⟨e1_len, by simp [slCells, cellsAt, hg]⟩
theorem NS.push {A H : AHeap} {v y : AV} {xs ys : List Int} (h : NS A H v xs) (hy : L1 H y ys) (hl : xs.length + ys.length ≤ lim) : ∃ v' H', appA 1 H v y = some (v', H') ∧ NS A H' v' (xs ++ ys) := by
  rcases h with h | ⟨rfl, hp, n, l, rfl, hn, hg⟩
  · obtain ⟨v', H', h1, h2⟩ := h.pushes hy hl
    exact ⟨v', H', h1, .inl h2⟩
  · have hc := hy.hc
    by_cases h0 : ys.length = 0
    · have : ys = [] := List.eq_nil_of_length_eq_zero h0
      subst this
      refine ⟨.sl 1 n 0 0 false, H, ?_, .inr ⟨rfl, hp, n, l, rfl, hn, hg⟩⟩
      unfold appA
      rw [hc]
      simp
    · have hlim : ys.length ≤ lim := by simpa using hl
      refine ⟨.sl 1 H.length 0 ys.length false, H.set n .dead ++ [.cells true (ys.flatMap e1)], ?_, .inl ⟨(pre_set hp hn _).trans (pre_app _ _), ?_, .inr ⟨by simpa using (by omega : 0 < ys.length), H.length, by simp, hp.length_le, by simp⟩⟩⟩
      · unfold appA
        rw [hc]
        simp [h0, hlim, hg]
      · simpa using flatMap_length e1_len ys
theorem c_Grow (n : Nat) (hn : n ≤ 1000) (A : AHeap) : ∃ v H, ACalls Try.prog 47 [.nilS, I n] A v H ∧ NS A H v [] := by
  by_cases h0 : n = 0
  · subst h0
    refine ⟨.nilS, A, ?_, .inl (AccL.nil (List.prefix_refl _))⟩
    refine acalls hmix Try.func47 (by kernel_rfl) t47 2 rfl (by decide) ?_
    dsimp only [m47]
    simp (maxSteps := 4000000) -implicitDefEqProofs -dsimp (disch := omega) only [↓AW_skip, ↓AW_ops, ↓AW_seq, ↓AW_cond, ↓AW_ret, ↓AOps_nil, ↓AOps_pu, on_some, condB_f, ↓then_normal, ↓Fin_ret, pval, rd_S, rd_C, put_S, resV, resL, List.replicate_succ, List.replicate_zero, List.set_cons_zero, List.set_cons_succ, List.getElem?_cons_zero, List.getElem?_cons_succ, Option.getD_some, Nat.reduceSub, List.cons_append, List.nil_append, bin_sub, bin_lss, bin_gtr, w64, decide_false, Int.reduceLT, Int.reduceSub, capA, lenA, show ((0 : Nat) : Int) = 0 from rfl]
    exact gc_same rfl
  · refine ⟨.sl 1 A.length 0 0 false, A ++ [.cells true (repl [I 0] n)], ?_, .inr ⟨rfl, pre_app _ _, A.length, repl [I 0] n, rfl, Nat.le_refl _, by simp⟩⟩
    refine acalls hmix Try.func47 (by kernel_rfl) t47 2 rfl (by decide) ?_
    have h1 : ¬ (n : Int) < 0 := by omega
    have h2 : (0 : Int) < n := by omega
    have h3 : (0 : Int) < n ∧ (n : Int) ≤ ((lim : Nat) : Int) := by unfold lim; omega
    have h4 : slcA 1 .nilS none (some (.int .i64 0)) none = some .nilS := rfl
    have h5 : slcA 1 (.sl 1 A.length 0 n false) none (some (.int .i64 0)) none = some (.sl 1 A.length 0 0 false) := by simp [slcA, bnd]
    dsimp only [m47]
    simp (maxSteps := 4000000) -implicitDefEqProofs -dsimp (disch := omega) only [↓AW_skip, ↓AW_ops, ↓AW_seq, ↓AW_cond, ↓AW_ret, ↓AOps_nil, ↓AOps_pu, ↓AOps_ha, on_some, extK_app, condB_t, condB_f, ↓then_normal, ↓Fin_ret, pval, hval, rd_S, rd_C, put_S, resV, resL, List.replicate_succ, List.replicate_zero, List.set_cons_zero, List.set_cons_succ, List.getElem?_cons_zero, List.getElem?_cons_succ, Option.getD_some, Option.map_some, Option.map_none, Nat.reduceSub, List.cons_append, List.nil_append, bin_sub, bin_lss, bin_gtr, w64, if_true, decide_true, decide_false, and_true, capA, appzA, lenA, h1, Int.sub_zero, Int.sub_self, h2, h4, appzA, h3, Int.toNat_natCast, h5]
    exact gc_all
def catZ (zs : List (AV × List Int)) : List Int := zs.flatMap Prod.snd
def lenZ (zs : List (AV × List Int)) : Int := (zs.map fun z => (z.2.length : Int)).sum
theorem catZ_take {zs : List (AV × List Int)} {i : Nat} {z : AV × List Int} (hz : zs[i]? = some z) : catZ (zs.take (i + 1)) = catZ (zs.take i) ++ z.2 := by
  rw [List.take_add_one, hz]; simp [catZ]
theorem lenZ_take {zs : List (AV × List Int)} {i : Nat} {z : AV × List Int} (hz : zs[i]? = some z) : lenZ (zs.take (i + 1)) = lenZ (zs.take i) + z.2.length := by
  rw [List.take_add_one, hz]; simp [lenZ]
theorem lenZ_bound : ∀ {zs : List (AV × List Int)}, (∀ z ∈ zs, z.2.length ≤ 100) → 0 ≤ lenZ zs ∧ lenZ zs ≤ 100 * zs.length ∧ ((catZ zs).length : Int) = lenZ zs
  | [], _ => by simp [lenZ, catZ]
  | z :: zs, h => by
    have ih := lenZ_bound (zs := zs) (fun y hy => h y (by simp [hy]))
    have hz := h z (by simp)
    have q1 : lenZ (z :: zs) = z.2.length + lenZ zs := by simp [lenZ]
    have q2 : (catZ (z :: zs)).length = z.2.length + (catZ zs).length := by simp [catZ]
    rw [q1, q2, List.length_cons]
    omega
def eS (z : AV × List Int) : List AV := [z.1]
theorem eS_len (z : AV × List Int) : (eS z).length = 1 := rfl
theorem c_Concat {zs : List (AV × List Int)} {u : AV} {A : AHeap} (hz0 : Ls 1 eS A u zs) (hin : ∀ z ∈ zs, L1 A z.1 z.2) (hl : zs.length ≤ 8) (hb : ∀ z ∈ zs, z.2.length ≤ 100) :
    ∃ r H, ACalls Try.prog 39 [u] A r H ∧ A <+: H ∧ L1 H r (catZ zs) := by
  refine acallsR hmix Try.func39 (by kernel_rfl) t39 _ 1 rfl (by decide) ?_
  have hbt : ∀ i, 0 ≤ lenZ (zs.take i) ∧ lenZ (zs.take i) ≤ 800 := fun i => by
    have := lenZ_bound (zs := zs.take i) (fun z hz => hb z (List.mem_of_mem_take hz))
    rw [List.length_take] at this
    omega
  dsimp only [m39]
  simp (maxSteps := 4000000) -implicitDefEqProofs -dsimp (disch := omega) only [↓AW_ops, ↓AW_seq, ↓AW_block, ↓AOps_nil, ↓AOps_pu, on_some, ↓then_normal, pval, rd_S, rd_C, put_S, ↓AW_toLoop, List.replicate_succ, List.replicate_zero, List.set_cons_zero, List.set_cons_succ, List.getElem?_cons_zero, List.getElem?_cons_succ, Option.getD_some, Nat.reduceSub, List.cons_append, List.nil_append, hz0.len]
  refine LoopK.by 36 (fun i : Nat => i ≤ zs.length) (fun i => [(0, u), (3, I (lenZ (zs.take i))), (9, u), (10, I zs.length), (11, I i)]) (fun _ => A) (fun i => zs.length - i) 0 (by omega) rfl (by simp [Has, rd_s, lenZ]) rfl ?_
  intro i hi
  by_cases hlt : i < zs.length
  · obtain ⟨z, hz⟩ : ∃ z, zs[i]? = some z := ⟨_, List.getElem?_eq_getElem hlt⟩
    have hlt' : (i : Int) < zs.length := by omega
    have h1 := hbt i
    have h2 := hbt (i + 1)
    have ht := lenZ_take hz
    have h3 : ¬ lenZ (zs.take i) + z.2.length < 0 := by omega
    simp (maxSteps := 4000000) -implicitDefEqProofs -dsimp (disch := omega) only [↓AW_skip, ↓AW_ops, ↓AW_seq, ↓AW_cond, ↓AW_block, ↓AOps_nil, ↓AOps_pu, ↓AOps_ld, on_some, condB_t, condB_f, ↓then_normal, ↓inBlock_normal, pval, lval, rd_S, rd_C, put_S, partA, eq_self, mk, List.foldl_cons, List.foldl_nil, List.replicate_succ, List.replicate_zero, List.set_cons_zero, List.set_cons_succ, List.getElem?_cons_zero, List.getElem?_cons_succ, List.drop_zero, List.take_succ_cons, List.take_nil, Option.getD_some, List.length_cons, List.length_nil, Nat.reduceAdd, Nat.reduceLeDiff, Nat.zero_add, bin_add, bin_lss, w64, if_true, if_false, Bool.false_eq_true, decide_true, decide_false, true_and, hlt', hz0.idx hlt, hz0.ld0 hz 1 false (by decide), eS, (hin z (List.mem_of_getElem? hz)).len, h3]
    exact ⟨i + 1, hlt, by simp [Has, rd_s, ht], by omega⟩
  have hlt' : ¬ ((i : Int) < zs.length) := by omega
  have h1 := hbt zs.length
  rw [List.take_length] at h1
  rw [List.take_of_length_le (by omega)]
  obtain ⟨N, hN⟩ : ∃ N : Nat, lenZ zs = N := ⟨(lenZ zs).toNat, by omega⟩
  rw [hN] at h1 ⊢
  obtain ⟨v, H, hc, hns⟩ := c_Grow N (by omega) A
  simp (maxSteps := 4000000) -implicitDefEqProofs -dsimp (disch := omega) only [↓AW_ops, ↓AW_seq, ↓AW_cond, ↓AW_exit, ↓AOps_nil, ↓AOps_pu, ↓AOps_call, on_some, condB_f, ↓then_normal, ↓then_exit, ↓inBlock_exit, pval, rd_S, rd_C, put_S, eq_self, mk, List.foldl_cons, List.foldl_nil, List.replicate_succ, List.replicate_zero, List.set_cons_zero, List.set_cons_succ, List.getElem?_cons_zero, List.getElem?_cons_succ, Option.getD_some, map_c, map_n, bin_lss, if_true, decide_false, hlt']
  refine CallK.of (hc) ?_
  simp (maxSteps := 4000000) -implicitDefEqProofs -dsimp (disch := omega) only [↓AW_ops, ↓AW_seq, ↓AW_block, ↓AOps_nil, ↓AOps_pu, on_some, extK_false, ↓then_normal, pval, rd_S, rd_C, put_S, ↓AW_toLoop, mk, List.foldl_cons, List.foldl_nil, List.replicate_succ, List.replicate_zero, List.set_cons_zero, List.set_cons_succ, List.getElem?_cons_zero, List.getElem?_cons_succ, Option.getD_some, hz0.len]
  have hcl : ∀ i, ((catZ (zs.take i)).length : Int) ≤ 800 := fun i => by
    have := lenZ_bound (zs := zs.take i) (fun z hz => hb z (List.mem_of_mem_take hz))
    rw [List.length_take] at this
    omega
  refine LoopK.by 36 (fun x : Nat × AV × AHeap => x.1 ≤ zs.length ∧ NS A x.2.2 x.2.1 (catZ (zs.take x.1))) (fun x => [(6, x.2.1), (25, u), (26, I zs.length), (27, I x.1)]) (fun x => x.2.2) (fun x => zs.length - x.1) (0, v, H) ⟨by simp only; omega, hns⟩ rfl (by simp [Has, rd_s]) rfl ?_
  rintro ⟨j, w, H1⟩ ⟨hj, hw⟩
  simp only at hj hw
  by_cases hlt2 : j < zs.length
  · obtain ⟨z, hz⟩ : ∃ z, zs[j]? = some z := ⟨_, List.getElem?_eq_getElem hlt2⟩
    have hlt2' : (j : Int) < zs.length := by omega
    have hz1 := hz0.mono hw.pre
    have hzl := hb z (List.mem_of_getElem? hz)
    have hc2 := hcl j
    obtain ⟨w', H2, happ, hw'⟩ := hw.push ((hin z (List.mem_of_getElem? hz)).mono hw.pre) (by simp [lim]; omega)
    simp (maxSteps := 4000000) -implicitDefEqProofs -dsimp (disch := omega) only [↓AW_skip, ↓AW_ops, ↓AW_seq, ↓AW_cond, ↓AW_block, ↓AOps_nil, ↓AOps_pu, ↓AOps_ld, ↓AOps_ha, on_some, extK_false, condB_t, ↓then_normal, ↓inBlock_normal, pval, lval, hval_app, rd_S, rd_C, put_S, partA, eq_self, mk, List.foldl_cons, List.foldl_nil, List.replicate_succ, List.replicate_zero, List.set_cons_zero, List.set_cons_succ, List.getElem?_cons_zero, List.getElem?_cons_succ, List.drop_zero, List.take_succ_cons, List.take_nil, Option.getD_some, List.length_cons, List.length_nil, Nat.reduceAdd, Nat.reduceLeDiff, Nat.zero_add, bin_add, bin_lss, w64, if_true, if_false, Bool.false_eq_true, decide_true, true_and, hlt2', hz1.idx hlt2, hz1.ld0 hz 1 false (by decide), eS, happ]
    exact ⟨(j + 1, w', H2), ⟨hlt2, by rw [catZ_take hz]; exact hw'⟩, by simp [Has, rd_s], rfl, by simp only; omega⟩
  · have hlt2' : ¬ ((j : Int) < zs.length) := by omega
    rw [List.take_of_length_le (by omega)] at hw
    simp (maxSteps := 4000000) -implicitDefEqProofs -dsimp (disch := omega) only [↓AW_ops, ↓AW_seq, ↓AW_cond, ↓AW_exit, ↓AW_ret, ↓AOps_nil, ↓AOps_pu, on_some, condB_f, ↓then_normal, ↓then_exit, ↓inBlock_exit, ↓FinR_ret, pval, rd_S, put_S, resV, resL, eq_self, mk, List.foldl_cons, List.foldl_nil, List.replicate_succ, List.replicate_zero, List.set_cons_zero, List.set_cons_succ, List.getElem?_cons_zero, List.getElem?_cons_succ, Option.getD_some, bin_lss, if_true, decide_false, hlt2']
    exact ⟨_, _, gc_all, hw.pre, hw.ls⟩
theorem take_succ_eq {α : Type} {xs ys : List α} {i : Nat} {z w : α} (hz : xs[i]? = some z) (hw : ys[i]? = some w) : xs.take (i + 1) = ys.take (i + 1) ↔ xs.take i = ys.take i ∧ z = w := by
  rw [List.take_add_one, List.take_add_one, hz, hw]
  have hi : i < xs.length := (List.getElem?_eq_some_iff.1 hz).1
  have hj : i < ys.length := (List.getElem?_eq_some_iff.1 hw).1
  constructor
  · intro h
    have := List.append_inj h (by simp; omega)
    exact ⟨this.1, by simpa using this.2⟩
  · rintro ⟨h1, rfl⟩
    rw [h1]
theorem c_SameInts {xs ys : List Int} {v u : AV} {A : AHeap} (hx : L1 A v xs) (hy : L1 A u ys) (hl : xs.length ≤ 1000000) : ACalls Try.prog 5 [v, u] A (B (decide (xs = ys))) A := by
  refine acalls hmix Try.func5 (by kernel_rfl) t5 2 rfl (by decide) ?_
  by_cases hle : xs.length = ys.length
  · have hle' : (xs.length : Int) = ys.length := by omega
    dsimp only [m5]
    simp (maxSteps := 4000000) -implicitDefEqProofs -dsimp (disch := omega) only [↓AW_skip, ↓AW_ops, ↓AW_seq, ↓AW_cond, ↓AW_block, ↓AOps_nil, ↓AOps_pu, on_some, condB_f, ↓then_normal, pval, rd_S, rd_C, put_S, ↓AW_toLoop, eq_self, List.replicate_succ, List.replicate_zero, List.set_cons_zero, List.set_cons_succ, List.getElem?_cons_zero, List.getElem?_cons_succ, Option.getD_some, Nat.reduceSub, List.cons_append, List.nil_append, bin_neq, decide_false, not_true_eq_false, hx.len, hy.len, hle']
    refine LoopK.by 26 (fun i : Nat => i ≤ xs.length ∧ xs.take i = ys.take i) (fun i => [(0, v), (1, u), (5, I i)]) (fun _ => A) (fun i => xs.length - i) 0 ⟨by omega, rfl⟩ rfl (by simp [Has, rd_s]) rfl ?_
    rintro i ⟨hi, he⟩
    by_cases hlt : i < xs.length
    · obtain ⟨z, hz⟩ : ∃ z, xs[i]? = some z := ⟨_, List.getElem?_eq_getElem hlt⟩
      have hlt' : (i : Int) < xs.length := by omega
      have hlt2 : i < ys.length := by omega
      obtain ⟨w, hw⟩ : ∃ w, ys[i]? = some w := ⟨_, List.getElem?_eq_getElem hlt2⟩
      by_cases hzw : z = w
      · subst hzw
        simp (maxSteps := 4000000) -implicitDefEqProofs -dsimp (disch := omega) only [↓AW_skip, ↓AW_ops, ↓AW_seq, ↓AW_cond, ↓AW_block, ↓AOps_nil, ↓AOps_pu, ↓AOps_ld, on_some, condB_t, condB_f, ↓then_normal, ↓inBlock_normal, pval, lval, rd_S, rd_C, put_S, partA, eq_self, mk, List.foldl_cons, List.foldl_nil, List.replicate_succ, List.replicate_zero, List.set_cons_zero, List.set_cons_succ, List.getElem?_cons_zero, List.getElem?_cons_succ, List.drop_zero, List.take_succ_cons, List.take_nil, Option.getD_some, List.length_cons, List.length_nil, Nat.reduceAdd, Nat.reduceLeDiff, Nat.zero_add, bin_add, bin_neq, bin_lss, w64, if_true, if_false, Bool.false_eq_true, decide_true, decide_false, Go.Eng.e1, true_and, not_true_eq_false, hlt', hx.len, hx.idx hlt, hx.ld0 hz 1 false (by decide), hy.idx hlt2, hy.ld0 hw 1 false (by decide)]
        exact ⟨i + 1, ⟨hlt, (take_succ_eq hz hw).2 ⟨he, rfl⟩⟩, by simp [Has, rd_s], by omega⟩
      · simp (maxSteps := 4000000) -implicitDefEqProofs -dsimp (disch := omega) only [↓AW_skip, ↓AW_ops, ↓AW_seq, ↓AW_cond, ↓AW_block, ↓AW_ret, ↓AOps_nil, ↓AOps_pu, ↓AOps_ld, on_some, condB_t, ↓then_normal, ↓then_ret, ↓inBlock_ret, ↓Fin_ret, pval, lval, rd_S, rd_C, put_S, resV, resL, partA, eq_self, mk, List.foldl_cons, List.foldl_nil, List.replicate_succ, List.replicate_zero, List.set_cons_zero, List.set_cons_succ, List.getElem?_cons_zero, List.getElem?_cons_succ, List.drop_zero, List.take_succ_cons, List.take_nil, Option.getD_some, List.length_cons, List.length_nil, Nat.reduceLeDiff, Nat.zero_add, bin_neq, bin_lss, if_true, if_false, Bool.false_eq_true, decide_true, Go.Eng.e1, not_false_eq_true, hlt', hx.len, hx.idx hlt, hx.ld0 hz 1 false (by decide), hy.idx hlt2, hy.ld0 hw 1 false (by decide), hzw]
        refine gc_same ?_
        have : ¬ xs = ys := by rintro rfl; rw [hz] at hw; exact hzw (Option.some.inj hw)
        simp [this]
    · have hlt' : ¬ ((i : Int) < xs.length) := by omega
      simp (maxSteps := 4000000) -implicitDefEqProofs -dsimp (disch := omega) only [↓AW_ops, ↓AW_seq, ↓AW_cond, ↓AW_exit, ↓AW_ret, ↓AOps_nil, ↓AOps_pu, on_some, condB_f, ↓then_normal, ↓then_exit, ↓inBlock_exit, ↓Fin_ret, pval, rd_S, rd_C, put_S, resV, resL, eq_self, mk, List.foldl_cons, List.foldl_nil, List.replicate_succ, List.replicate_zero, List.set_cons_zero, List.set_cons_succ, List.getElem?_cons_zero, List.getElem?_cons_succ, Option.getD_some, bin_lss, if_true, decide_false, hlt', hx.len]
      rw [List.take_of_length_le (by omega), List.take_of_length_le (by omega)] at he
      exact gc_same (by simp [he])
  · have hle' : ¬ (xs.length : Int) = ys.length := by omega
    dsimp only [m5]
    simp (maxSteps := 4000000) -implicitDefEqProofs -dsimp (disch := omega) only [↓AW_ops, ↓AW_seq, ↓AW_cond, ↓AW_ret, ↓AOps_nil, ↓AOps_pu, on_some, condB_t, ↓then_normal, ↓then_ret, ↓Fin_ret, pval, rd_S, rd_C, put_S, resV, resL, List.replicate_succ, List.replicate_zero, List.set_cons_zero, List.set_cons_succ, List.getElem?_cons_zero, List.getElem?_cons_succ, Option.getD_some, Nat.reduceSub, List.cons_append, List.nil_append, bin_neq, decide_true, not_false_eq_true, hx.len, hy.len, hle']
    have : ¬ xs = ys := by rintro rfl; exact hle rfl
    exact gc_same (by simp [this])
theorem s13 {xs : List Int} {v : AV} {A : AHeap} (hx : L1 A v xs) (hl : xs.length ≤ 1000) (hb : ∀ y ∈ xs, 0 ≤ y ∧ y ≤ 1000) : ACalls Try.prog 13 [v] A (I xs.sum) A := by
  refine acalls hmix Try.func13 (by kernel_rfl) t13 1 rfl (by decide) ?_
  dsimp only [m13]
  simp (maxSteps := 4000000) -implicitDefEqProofs -dsimp (disch := omega) only [↓AW_ops, ↓AW_seq, ↓AW_block, ↓AOps_nil, ↓AOps_pu, on_some, ↓then_normal, pval, rd_C, put_S, ↓AW_toLoop, List.replicate_succ, List.replicate_zero, List.set_cons_zero, List.set_cons_succ, Nat.reduceSub, List.cons_append, List.nil_append]
  refine LoopK.by 18 (fun i : Nat => i ≤ xs.length) (fun i => [(0, v), (3, I (xs.take i).sum), (4, I i)]) (fun _ => A) (fun i => xs.length - i) 0 (by omega) rfl (by simp [Has, rd_s]) rfl ?_
  intro i hi
  have hs : 0 ≤ (xs.take i).sum ∧ (xs.take i).sum ≤ 1000 * (xs.take i).length := by
    have : ∀ l : List Int, (∀ y ∈ l, 0 ≤ y ∧ y ≤ 1000) → 0 ≤ l.sum ∧ l.sum ≤ 1000 * l.length := by
      intro l
      induction l with
      | nil => intro _; simp
      | cons a l ih =>
        intro h
        have h1 := ih (fun y hy => h y (by simp [hy]))
        have h2 := h a (by simp)
        simp only [List.sum_cons, List.length_cons]
        omega
    exact this _ (fun y hy => hb y (List.mem_of_mem_take hy))
  rw [List.length_take] at hs
  by_cases hlt : i < xs.length
  · obtain ⟨z, hz⟩ : ∃ z, xs[i]? = some z := ⟨_, List.getElem?_eq_getElem hlt⟩
    have hlt' : (i : Int) < xs.length := by omega
    have hz1 := hb z (List.mem_of_getElem? hz)
    simp (maxSteps := 4000000) -implicitDefEqProofs -dsimp (disch := omega) only [↓AW_skip, ↓AW_ops, ↓AW_seq, ↓AW_cond, ↓AW_block, ↓AOps_nil, ↓AOps_pu, ↓AOps_ld, on_some, condB_t, ↓then_normal, ↓inBlock_normal, pval, lval, rd_S, rd_C, put_S, partA, eq_self, mk, List.foldl_cons, List.foldl_nil, List.replicate_succ, List.replicate_zero, List.set_cons_zero, List.set_cons_succ, List.getElem?_cons_zero, List.getElem?_cons_succ, List.drop_zero, List.take_succ_cons, List.take_nil, Option.getD_some, List.length_cons, List.length_nil, Nat.reduceAdd, Nat.reduceLeDiff, Nat.zero_add, bin_add, bin_lss, w64, if_true, if_false, Bool.false_eq_true, decide_true, Go.Eng.e1, true_and, hlt', hx.len, hx.idx hlt, hx.ld0 hz 1 false (by decide)]
    exact ⟨i + 1, hlt, by simp [Has, rd_s, List.take_add_one, hz], by omega⟩
  · have hlt' : ¬ ((i : Int) < xs.length) := by omega
    simp (maxSteps := 4000000) -implicitDefEqProofs -dsimp (disch := omega) only [↓AW_ops, ↓AW_seq, ↓AW_cond, ↓AW_exit, ↓AW_ret, ↓AOps_nil, ↓AOps_pu, on_some, condB_f, ↓then_normal, ↓then_exit, ↓inBlock_exit, ↓Fin_ret, pval, rd_S, put_S, resV, resL, eq_self, mk, List.foldl_cons, List.foldl_nil, List.replicate_succ, List.replicate_zero, List.set_cons_zero, List.set_cons_succ, List.getElem?_cons_zero, List.getElem?_cons_succ, Option.getD_some, bin_lss, if_true, decide_false, hlt', hx.len]
    exact gc_same (by rw [List.take_of_length_le (by omega)])
open Classical in
theorem s10 {ws : List (AV × List Int)} {v u : AV} {l : List Int} {A : AHeap} (hV : LL A v ws) (hs : Sz ws) (hx : L1 A u l) (hl : l.length ≤ 1000000) (hg : gd (lists ws)) (ho : isO l ws.length) : ACalls Try.prog 10 [v, u] A (.tuple [B (decide (∀ (i : Nat) (w : AV × List Int) (p : Int), ws[i]? = some w → l[i]? = some p → ¬ pos w.2 i < pos w.2 p)), I 0]) A := by
  refine acalls hmix Try.func10 (by kernel_rfl) t10 2 rfl (by decide) ?_
  have hE : oE (lists ws) l = 0 := by rw [oE, if_pos ⟨hg, by simpa using ho⟩]
  dsimp only [m10]
  simp (maxSteps := 4000000) -implicitDefEqProofs -dsimp (disch := omega) only [↓AW_ops, ↓AW_seq, ↓AOps_nil, ↓AOps_pu, ↓AOps_call, on_some, ↓then_normal, pval, rd_S, rd_C, put_S, List.replicate_succ, List.replicate_zero, List.set_cons_zero, List.set_cons_succ, List.getElem?_cons_zero, List.getElem?_cons_succ, Option.getD_some, map_c, map_n, Nat.reduceSub, List.cons_append, List.nil_append]
  refine CallK.of (s17 hV hs hx hl) ?_
  simp (maxSteps := 4000000) -implicitDefEqProofs -dsimp (disch := omega) only [↓AW_skip, ↓AW_ops, ↓AW_seq, ↓AW_cond, ↓AW_block, ↓AOps_nil, ↓AOps_pu, on_some, extK_same, condB_f, ↓then_normal, pval, rd_S, rd_C, put_S, ↓AW_toLoop, eq_self, List.replicate_succ, List.replicate_zero, List.set_cons_zero, List.set_cons_succ, List.getElem?_cons_zero, List.getElem?_cons_succ, Option.getD_some, Nat.reduceSub, List.cons_append, List.nil_append, bin_neq, decide_false, not_true_eq_false, hE, hx.len]
  have hlen := ho.1
  refine LoopK.by 28 (fun i : Nat => i ≤ l.length ∧ ∀ (j : Nat) (w : AV × List Int) (p : Int), j < i → ws[j]? = some w → l[j]? = some p → ¬ pos w.2 j < pos w.2 p) (fun i => [(0, v), (15, u), (16, I l.length), (17, I i)]) (fun _ => A) (fun i => l.length - i) 0 ⟨by omega, fun j w p hj => by omega⟩ rfl (by simp [Has, rd_s]) rfl ?_
  rintro i ⟨hi, he⟩
  by_cases hlt : i < l.length
  · obtain ⟨p, hz⟩ : ∃ z, l[i]? = some z := ⟨_, List.getElem?_eq_getElem hlt⟩
    have hlt' : (i : Int) < l.length := by omega
    obtain ⟨w, hw⟩ : ∃ w, ws[i]? = some w := ⟨_, List.getElem?_eq_getElem (by omega)⟩
    simp (maxSteps := 4000000) -implicitDefEqProofs -dsimp (disch := omega) only [↓AW_skip, ↓AW_ops, ↓AW_seq, ↓AW_cond, ↓AW_block, ↓AOps_nil, ↓AOps_pu, ↓AOps_ld, ↓AOps_call, on_some, condB_t, ↓then_normal, pval, lval, rd_S, put_S, partA, eq_self, mk, List.foldl_cons, List.foldl_nil, List.replicate_succ, List.replicate_zero, List.set_cons_zero, List.set_cons_succ, List.getElem?_cons_zero, List.getElem?_cons_succ, List.drop_zero, List.take_succ_cons, List.take_nil, Option.getD_some, map_c, map_n, List.length_cons, List.length_nil, Nat.reduceLeDiff, Nat.zero_add, bin_lss, if_true, if_false, Bool.false_eq_true, decide_true, Go.Eng.e1, hlt', hx.idx hlt, hx.ld0 hz 1 false (by decide)]
    refine CallK.of (s25 hV hs hw (i : Int) p) ?_
    by_cases h : pos w.2 i < pos w.2 p
    · simp (maxSteps := 4000000) -implicitDefEqProofs -dsimp (disch := omega) only [↓AW_ops, ↓AW_seq, ↓AW_cond, ↓AW_ret, ↓AOps_nil, ↓AOps_pu, on_some, extK_same, condB_t, ↓then_normal, ↓then_ret, ↓inBlock_ret, ↓Fin_ret, pval, rd_S, rd_C, put_S, resV, resL, mk, List.foldl_cons, List.foldl_nil, List.replicate_succ, List.replicate_zero, List.set_cons_zero, List.set_cons_succ, List.getElem?_cons_zero, List.getElem?_cons_succ, Option.getD_some, decide_true, h]
      refine gc_same ?_
      rw [decide_eq_false]
      intro h2
      exact h2 i w p hw hz h
    · simp (maxSteps := 4000000) -implicitDefEqProofs -dsimp (disch := omega) only [↓AW_skip, ↓AW_ops, ↓AW_cond, ↓AOps_nil, ↓AOps_pu, on_some, extK_same, condB_f, ↓then_normal, ↓inBlock_normal, pval, rd_S, rd_C, put_S, eq_self, mk, List.foldl_cons, List.foldl_nil, List.replicate_succ, List.replicate_zero, List.set_cons_zero, List.set_cons_succ, List.getElem?_cons_zero, List.getElem?_cons_succ, Option.getD_some, List.length_cons, List.length_nil, Nat.reduceAdd, Nat.zero_add, bin_add, w64, decide_false, true_and, h]
      refine ⟨i + 1, ⟨hlt, fun j w' p' hj hw' hp' => ?_⟩, by simp [Has, rd_s], by omega⟩
      rcases Nat.lt_or_ge j i with h1 | h1
      · exact he j w' p' h1 hw' hp'
      · have e : j = i := by omega
        subst e
        rw [hw] at hw'
        rw [hz] at hp'
        cases hw'
        cases hp'
        exact h
  · have hlt' : ¬ ((i : Int) < l.length) := by omega
    simp (maxSteps := 4000000) -implicitDefEqProofs -dsimp (disch := omega) only [↓AW_ops, ↓AW_seq, ↓AW_cond, ↓AW_exit, ↓AW_ret, ↓AOps_nil, ↓AOps_pu, on_some, condB_f, ↓then_normal, ↓then_exit, ↓inBlock_exit, ↓Fin_ret, pval, rd_S, rd_C, put_S, resV, resL, eq_self, mk, List.foldl_cons, List.foldl_nil, List.replicate_succ, List.replicate_zero, List.set_cons_zero, List.set_cons_succ, List.getElem?_cons_zero, List.getElem?_cons_succ, Option.getD_some, bin_lss, if_true, decide_false, hlt']
    refine gc_same ?_
    rw [decide_eq_true]
    intro j w p hw hp
    exact he j w p (by have := (List.getElem?_eq_some_iff.1 hp).1; omega) hw hp
end Go.Proofs.Ytgidfejkfdkflaa

namespace Go.Proofs.Ytgidfejkfdkflaa
open Go Go.Eng
theorem c_Equal {xs ys : List Int} {v u : AV} {A : AHeap} (hx : L1 A v xs) (hy : L1 A u ys) (hl : xs.length ≤ 1000000) : ACalls Try.prog 30 [v, u] A (B (decide (xs = ys))) A := by
  refine acalls hmix Try.func30 (by kernel_rfl) t30 2 rfl (by decide) ?_
  by_cases hle : xs.length = ys.length
  · have hle' : (xs.length : Int) = ys.length := by omega
    dsimp only [m30]
    simp (maxSteps := 4000000) -implicitDefEqProofs -dsimp (disch := omega) only [↓AW_skip, ↓AW_ops, ↓AW_seq, ↓AW_cond, ↓AW_block, ↓AOps_nil, ↓AOps_pu, on_some, condB_f, ↓then_normal, pval, rd_S, rd_C, put_S, ↓AW_toLoop, eq_self, List.replicate_succ, List.replicate_zero, List.set_cons_zero, List.set_cons_succ, List.getElem?_cons_zero, List.getElem?_cons_succ, Option.getD_some, Nat.reduceSub, List.cons_append, List.nil_append, bin_neq, decide_false, not_true_eq_false, hx.len, hy.len, hle']
    refine LoopK.by 26 (fun i : Nat => i ≤ xs.length ∧ xs.take i = ys.take i) (fun i => [(0, v), (1, u), (12, I ys.length), (13, I i)]) (fun _ => A) (fun i => xs.length - i) 0 ⟨by omega, rfl⟩ rfl (by simp [Has, rd_s]) rfl ?_
    rintro i ⟨hi, he⟩
    by_cases hlt : i < xs.length
    · obtain ⟨z, hz⟩ : ∃ z, xs[i]? = some z := ⟨_, List.getElem?_eq_getElem hlt⟩
      have hlt2 : i < ys.length := by omega
      have hlt' : (i : Int) < ys.length := by omega
      obtain ⟨w, hw⟩ : ∃ w, ys[i]? = some w := ⟨_, List.getElem?_eq_getElem hlt2⟩
      by_cases hzw : z = w
      · subst hzw
        simp (maxSteps := 4000000) -implicitDefEqProofs -dsimp (disch := omega) only [↓AW_skip, ↓AW_ops, ↓AW_seq, ↓AW_cond, ↓AW_block, ↓AOps_nil, ↓AOps_pu, ↓AOps_ld, on_some, condB_t, condB_f, ↓then_normal, ↓inBlock_normal, pval, lval, rd_S, rd_C, put_S, partA, eq_self, mk, List.foldl_cons, List.foldl_nil, List.replicate_succ, List.replicate_zero, List.set_cons_zero, List.set_cons_succ, List.getElem?_cons_zero, List.getElem?_cons_succ, List.drop_zero, List.take_succ_cons, List.take_nil, Option.getD_some, List.length_cons, List.length_nil, Nat.reduceAdd, Nat.reduceLeDiff, Nat.zero_add, bin_add, bin_neq, bin_lss, w64, if_true, if_false, Bool.false_eq_true, decide_true, decide_false, Go.Eng.e1, true_and, not_true_eq_false, hlt', hx.idx hlt, hx.ld0 hz 1 false (by decide), hy.idx hlt2, hy.ld0 hw 1 false (by decide)]
        exact ⟨i + 1, ⟨hlt, (take_succ_eq hz hw).2 ⟨he, rfl⟩⟩, by simp [Has, rd_s], by omega⟩
      · simp (maxSteps := 4000000) -implicitDefEqProofs -dsimp (disch := omega) only [↓AW_skip, ↓AW_ops, ↓AW_seq, ↓AW_cond, ↓AW_block, ↓AW_ret, ↓AOps_nil, ↓AOps_pu, ↓AOps_ld, on_some, condB_t, ↓then_normal, ↓then_ret, ↓inBlock_ret, ↓Fin_ret, pval, lval, rd_S, rd_C, put_S, resV, resL, partA, eq_self, mk, List.foldl_cons, List.foldl_nil, List.replicate_succ, List.replicate_zero, List.set_cons_zero, List.set_cons_succ, List.getElem?_cons_zero, List.getElem?_cons_succ, List.drop_zero, List.take_succ_cons, List.take_nil, Option.getD_some, List.length_cons, List.length_nil, Nat.reduceLeDiff, Nat.zero_add, bin_neq, bin_lss, if_true, if_false, Bool.false_eq_true, decide_true, Go.Eng.e1, not_false_eq_true, hlt', hx.idx hlt, hx.ld0 hz 1 false (by decide), hy.idx hlt2, hy.ld0 hw 1 false (by decide), hzw]
        refine gc_same ?_
        have : ¬ xs = ys := by rintro rfl; rw [hz] at hw; exact hzw (Option.some.inj hw)
        simp [this]
    · have hlt' : ¬ ((i : Int) < ys.length) := by omega
      simp (maxSteps := 4000000) -implicitDefEqProofs -dsimp (disch := omega) only [↓AW_ops, ↓AW_seq, ↓AW_cond, ↓AW_exit, ↓AW_ret, ↓AOps_nil, ↓AOps_pu, on_some, condB_f, ↓then_normal, ↓then_exit, ↓inBlock_exit, ↓Fin_ret, pval, rd_S, rd_C, put_S, resV, resL, eq_self, mk, List.foldl_cons, List.foldl_nil, List.replicate_succ, List.replicate_zero, List.set_cons_zero, List.set_cons_succ, List.getElem?_cons_zero, List.getElem?_cons_succ, Option.getD_some, bin_lss, if_true, decide_false, hlt']
      rw [List.take_of_length_le (by omega), List.take_of_length_le (by omega)] at he
      exact gc_same (by simp [he])
  · have hle' : ¬ (xs.length : Int) = ys.length := by omega
    dsimp only [m30]
    simp (maxSteps := 4000000) -implicitDefEqProofs -dsimp (disch := omega) only [↓AW_ops, ↓AW_seq, ↓AW_cond, ↓AW_ret, ↓AOps_nil, ↓AOps_pu, on_some, condB_t, ↓then_normal, ↓then_ret, ↓Fin_ret, pval, rd_S, rd_C, put_S, resV, resL, List.replicate_succ, List.replicate_zero, List.set_cons_zero, List.set_cons_succ, List.getElem?_cons_zero, List.getElem?_cons_succ, Option.getD_some, Nat.reduceSub, List.cons_append, List.nil_append, bin_neq, decide_true, not_false_eq_true, hx.len, hy.len, hle']
    have : ¬ xs = ys := by rintro rfl; exact hle rfl
    exact gc_same (by simp [this])
theorem c_Clone {xs : List Int} {v : AV} {A : AHeap} (hx : L1 A v xs) (hn : v ≠ .nilS) (hl : xs.length ≤ 1000000) :
    ∃ r H', ACalls Try.prog 32 [v] A r H' ∧ ∃ n full, A <+: H' ∧ A.length ≤ n ∧ r = .sl 1 n 0 xs.length full ∧ H'[n]? = some (.cells true (xs.flatMap e1 ++ [])) := by
  refine acallsR hmix Try.func32 (by kernel_rfl) t32 _ 1 rfl (by decide) ?_
  obtain ⟨v', n, full, H2, happ, hp, hle, rfl, hg⟩ := L1_app_new hx (by simp [lim]; omega)
  rcases hx.inv with ⟨rfl, _⟩ | ⟨n', off, full', rw, l, rfl, _⟩
  · exact absurd rfl hn
  · dsimp only [m32]
    simp (maxSteps := 4000000) -implicitDefEqProofs -dsimp (disch := omega) only [↓AW_skip, ↓AW_ops, ↓AW_seq, ↓AW_cond, ↓AW_ret, ↓AOps_nil, ↓AOps_pu, ↓AOps_ha, on_some, extK_false, extK_app, condB_f, ↓then_normal, ↓FinR_ret, pval, hval_blds, hval_app, rd_S, rd_C, put_S, resV, resL, fillA, repl, List.replicate_succ, List.replicate_zero, List.set_cons_zero, List.set_cons_succ, List.getElem?_cons_zero, List.getElem?_cons_succ, Option.getD_some, map_n, Nat.reduceSub, List.cons_append, List.nil_append, List.append_nil, List.replicate_zero, repl, happ]
    exact ⟨_, _, gc_all, n, full, hp, hle, rfl, by simpa using hg⟩
/-- How each owner likes what it gets. -/
def rkL (V : List (List Int)) (l : List Int) : List Int := List.zipWith pos V l
theorem s4 {ws : List (AV × List Int)} {v u : AV} {l : List Int} {A : AHeap} (hV : LL A v ws) (hs : Sz ws) (hx : L1 A u l) (hl : l.length ≤ 1000000) (hg : gd (lists ws)) (ho : isO l ws.length) : ACalls Try.prog 4 [v, u] A (.tuple [outV 1 A (rkL (lists ws) l).length, I 0]) (outH A ((rkL (lists ws) l).flatMap e1) (rkL (lists ws) l).length) := by
  refine acalls hmix Try.func4 (by kernel_rfl) t4 2 rfl (by decide) ?_
  have hE : oE (lists ws) l = 0 := by rw [oE, if_pos ⟨hg, by simpa using ho⟩]
  have hlen := ho.1
  have hn5 := hg.1.2
  have hll : (lists ws).length = ws.length := by simp
  rw [hll] at hn5
  dsimp only [m4]
  simp (maxSteps := 4000000) -implicitDefEqProofs -dsimp (disch := omega) only [↓AW_ops, ↓AW_seq, ↓AOps_nil, ↓AOps_pu, ↓AOps_call, on_some, ↓then_normal, pval, rd_S, rd_C, put_S, List.replicate_succ, List.replicate_zero, List.set_cons_zero, List.set_cons_succ, List.getElem?_cons_zero, List.getElem?_cons_succ, Option.getD_some, map_c, map_n, Nat.reduceSub, List.cons_append, List.nil_append]
  refine CallK.of (s17 hV hs hx hl) ?_
  simp (maxSteps := 4000000) -implicitDefEqProofs -dsimp (disch := omega) only [↓AW_skip, ↓AW_ops, ↓AW_seq, ↓AW_cond, ↓AW_block, ↓AOps_nil, ↓AOps_pu, on_some, extK_same, condB_f, ↓then_normal, pval, rd_S, rd_C, put_S, ↓AW_toLoop, eq_self, List.replicate_succ, List.replicate_zero, List.set_cons_zero, List.set_cons_succ, List.getElem?_cons_zero, List.getElem?_cons_succ, Option.getD_some, Nat.reduceSub, List.cons_append, List.nil_append, bin_neq, decide_false, not_true_eq_false, hE, hx.len]
  refine LoopK.by 34 (fun x : Nat × AV × AHeap => x.1 ≤ l.length ∧ AccL 1 e1 A x.2.2 x.2.1 ((rkL (lists ws) l).take x.1)) (fun x => [(0, v), (7, x.2.1), (16, u), (17, I l.length), (18, I x.1)]) (fun x => x.2.2) (fun x => l.length - x.1) (0, .nilS, A) ⟨by simp only; omega, AccL.nil (List.prefix_refl _)⟩ rfl (by simp [Has, rd_s]) rfl ?_
  rintro ⟨i, y, H⟩ ⟨hi, hy⟩
  simp only at hi hy
  have hx1 := hx.mono hy.pre
  have hV1 := hV.mono hy.pre
  have hrl : (rkL (lists ws) l).length = l.length := by simp [rkL]; omega
  by_cases hlt : i < l.length
  · obtain ⟨p, hz⟩ : ∃ z, l[i]? = some z := ⟨_, List.getElem?_eq_getElem hlt⟩
    have hlt' : (i : Int) < l.length := by omega
    obtain ⟨w, hw⟩ : ∃ w, ws[i]? = some w := ⟨_, List.getElem?_eq_getElem (by omega)⟩
    have hwm := List.mem_of_getElem? hw
    have hwi : i < ws.length := by omega
    obtain ⟨v3, H3, happ, h3⟩ := hy.push e1_len (pos w.2 p) (by rw [List.length_take]; simp [lim]; omega)
    simp only [e1] at happ
    simp (maxSteps := 4000000) -implicitDefEqProofs -dsimp (disch := omega) only [↓AW_skip, ↓AW_ops, ↓AW_seq, ↓AW_cond, ↓AW_block, ↓AOps_nil, ↓AOps_pu, ↓AOps_ld, ↓AOps_call, on_some, condB_t, ↓then_normal, pval, lval, rd_S, put_S, partA, eq_self, mk, List.foldl_cons, List.foldl_nil, List.replicate_succ, List.replicate_zero, List.set_cons_zero, List.set_cons_succ, List.getElem?_cons_zero, List.getElem?_cons_succ, List.drop_zero, List.take_succ_cons, List.take_nil, Option.getD_some, map_c, map_n, List.length_cons, List.length_nil, Nat.reduceLeDiff, Nat.zero_add, bin_lss, if_true, if_false, Bool.false_eq_true, decide_true, Go.Eng.e1, hlt', hx1.idx hlt, hx1.ld0 hz 1 false (by decide), hV1.ls.idx hwi, hV1.ls.ld0 hw 1 false (by decide), e0]
    refine CallK.of (c_Index (hV1.inn w hwm) (hs.w w hwm) p) ?_
    rw [show fpos (fun y => decide (p = y)) w.2 = pos w.2 p from rfl]
    simp (maxSteps := 4000000) -implicitDefEqProofs -dsimp (disch := omega) only [↓AW_ops, ↓AOps_nil, ↓AOps_pu, ↓AOps_ha, on_some, extK_false, extK_app, extK_same, ↓then_normal, ↓inBlock_normal, pval, hval_blds, hval_app, rd_S, rd_C, put_S, cells_int, splice, fillA, repl, eq_self, mk, List.foldl_cons, List.foldl_nil, List.replicate_succ, List.replicate_zero, List.set_cons_zero, List.set_cons_succ, List.getElem?_cons_zero, List.getElem?_cons_succ, List.drop_succ_cons, List.drop_nil, List.take_zero, Option.getD_some, map_c, map_n, List.length_cons, List.length_nil, Nat.reduceAdd, Nat.reduceLeDiff, Nat.zero_add, List.nil_append, List.append_nil, bin_add, w64, if_true, true_and, and_true, happ]
    refine ⟨(i + 1, v3, H3), ⟨hlt, ?_⟩, by simp [Has, rd_s], rfl, by simp only; omega⟩
    simp only
    have e : (rkL (lists ws) l)[i]? = some (pos w.2 p) := by
      unfold rkL
      rw [List.getElem?_zipWith, ws_get hw, hz]
    rw [List.take_add_one, e]
    exact h3
  · have hlt' : ¬ ((i : Int) < l.length) := by omega
    rw [List.take_of_length_le (by omega)] at hy
    simp (maxSteps := 4000000) -implicitDefEqProofs -dsimp (disch := omega) only [↓AW_ops, ↓AW_seq, ↓AW_cond, ↓AW_exit, ↓AW_ret, ↓AOps_nil, ↓AOps_pu, on_some, condB_f, ↓then_normal, ↓then_exit, ↓inBlock_exit, ↓Fin_ret, pval, rd_S, rd_C, put_S, resV, resL, eq_self, mk, List.foldl_cons, List.foldl_nil, List.replicate_succ, List.replicate_zero, List.set_cons_zero, List.set_cons_succ, List.getElem?_cons_zero, List.getElem?_cons_succ, Option.getD_some, bin_lss, if_true, decide_false, hlt']
    exact hy.gc2 flat_e1 (I 0) rfl
theorem s16 {ws : List (AV × List Int)} {v : AV} {A : AHeap} (hV : LL A v ws) (hs : Sz ws) (hg : gd (lists ws)) {o a b : Nat} (ho : o < ws.length) (ha : a < ws.length) (hb : b < ws.length) {w : AV × List Int} (hw : ws[o]? = some w) : ACalls Try.prog 16 [v, I o, I a, I b] A (.tuple [B (decide (pos w.2 a < pos w.2 b)), I 0]) A := by
  refine acalls hmix Try.func16 (by kernel_rfl) t16 4 rfl (by decide) ?_
  have hE : vE (lists ws) = 0 := if_pos hg
  have hsv := hs.v
  dsimp only [m16]
  simp (maxSteps := 4000000) -implicitDefEqProofs -dsimp (disch := omega) only [↓AW_ops, ↓AW_seq, ↓AOps_nil, ↓AOps_pu, ↓AOps_call, on_some, ↓then_normal, pval, rd_S, rd_C, put_S, List.replicate_succ, List.replicate_zero, List.set_cons_zero, List.set_cons_succ, List.getElem?_cons_zero, List.getElem?_cons_succ, Option.getD_some, map_c, map_n, Nat.reduceSub, List.cons_append, List.nil_append]
  have hln : lenA (.sl 1 A.length 0 3 true) = some (I 3) := rfl
  refine CallK.of (s8 hV hs) ?_
  simp (maxSteps := 4000000) -implicitDefEqProofs -dsimp (disch := omega) only [↓AW_skip, ↓AW_ops, ↓AW_seq, ↓AW_cond, ↓AW_block, ↓AOps_nil, ↓AOps_pu, ↓AOps_ha, on_some, extK_app, extK_same, condB_f, ↓then_normal, pval, hval, rd_S, rd_C, put_S, ↓AW_toLoop, AV.cells?, splice, fillA, repl, eq_self, List.replicate_succ, List.replicate_zero, List.set_cons_zero, List.set_cons_succ, List.getElem?_cons_zero, List.getElem?_cons_succ, List.drop_zero, List.drop_succ_cons, List.drop_nil, List.take_zero, List.take_succ_cons, Option.getD_some, map_c, map_n, List.length_cons, List.length_nil, Nat.reduceAdd, Nat.reduceSub, Nat.reduceLeDiff, Nat.zero_add, List.cons_append, List.nil_append, List.append_nil, bin_neq, if_true, decide_false, and_true, not_true_eq_false, hE, hln]
  have hp : A <+: A ++ [AObj.cells true [I (o : Int), I (a : Int), I (b : Int)]] := pre_app _ _
  have h3 : L1 (A ++ [AObj.cells true [I (o : Int), I (a : Int), I (b : Int)]]) (.sl 1 A.length 0 3 true) [(o : Int), a, b] := (OL.new_mk e1_len A [(o : Int), (a : Int), (b : Int)] true).ls
  have hV1 := hV.mono hp
  generalize A ++ [AObj.cells true [I (o : Int), I (a : Int), I (b : Int)]] = A1 at *
  refine LoopK.by 41 (fun i : Nat => i ≤ 3) (fun i => [(0, v), (1, I o), (2, I a), (3, I b), (21, .sl 1 A.length 0 3 true), (22, I 3), (23, I i)]) (fun _ => A1) (fun i => 3 - i) 0 (by omega) rfl (by simp [Has, rd_s]) rfl ?_
  intro i hi
  by_cases hlt : i < 3
  · have hlt' : (i : Int) < 3 := by omega
    obtain ⟨z, hz⟩ : ∃ z, [(o : Int), (a : Int), (b : Int)][i]? = some z := ⟨_, List.getElem?_eq_getElem hlt⟩
    have hzb : 0 ≤ z ∧ z < ws.length := by
      have := List.mem_of_getElem? hz
      simp at this
      omega
    have hz0 : ¬ z < 0 := by omega
    have hz1 : ¬ z ≥ ws.length := by omega
    have hz2 : ¬ (ws.length : Int) ≤ z := by omega
    simp (maxSteps := 4000000) -implicitDefEqProofs -dsimp (disch := omega) only [↓AW_skip, ↓AW_ops, ↓AW_seq, ↓AW_cond, ↓AW_block, ↓AOps_nil, ↓AOps_pu, ↓AOps_ld, ↓AOps_guard, on_some, guardB_ff, condB_t, condB_f, ↓then_normal, ↓inBlock_normal, pval, lval, rd_S, rd_C, put_S, partA, eq_self, mk, List.foldl_cons, List.foldl_nil, List.replicate_succ, List.replicate_zero, List.set_cons_zero, List.set_cons_succ, List.getElem?_cons_zero, List.getElem?_cons_succ, List.drop_zero, List.take_succ_cons, List.take_nil, Option.getD_some, List.length_cons, List.length_nil, Nat.reduceAdd, Nat.reduceLeDiff, Nat.zero_add, bin_add, bin_lss, bin_geq, w64, if_true, if_false, Bool.false_eq_true, decide_true, decide_false, Go.Eng.e1, true_and, hlt', h3.idx hlt, h3.ld0 hz 1 false (by decide), hV1.ls.len, hz0, hz1, e1]
    exact ⟨i + 1, hlt, by simp [Has, rd_s], by omega⟩
  · have hi3 : i = 3 := by omega
    subst hi3
    have hlt' : ¬ ((3 : Nat) : Int) < 3 := by omega
    simp (maxSteps := 4000000) -implicitDefEqProofs -dsimp (disch := omega) only [↓AW_ops, ↓AW_seq, ↓AW_cond, ↓AW_exit, ↓AOps_nil, ↓AOps_pu, ↓AOps_call, on_some, condB_f, ↓then_normal, ↓then_exit, ↓inBlock_exit, pval, rd_S, put_S, eq_self, mk, List.foldl_cons, List.foldl_nil, List.replicate_succ, List.replicate_zero, List.set_cons_zero, List.set_cons_succ, List.getElem?_cons_zero, List.getElem?_cons_succ, Option.getD_some, map_c, map_n, bin_lss, if_true, decide_false, hlt']
    refine CallK.of (s25 hV1 hs hw (a : Int) (b : Int)) ?_
    simp (maxSteps := 4000000) -implicitDefEqProofs -dsimp (disch := omega) only [↓AW_ret, ↓AOps_nil, ↓AOps_pu, on_some, extK_same, ↓then_normal, ↓Fin_ret, pval, rd_S, rd_C, put_S, resV, resL, mk, List.foldl_cons, List.foldl_nil, List.replicate_succ, List.replicate_zero, List.set_cons_zero, List.set_cons_succ, List.getElem?_cons_zero, List.getElem?_cons_succ, Option.getD_some]
    exact gc_val hp rfl
end Go.Proofs.Ytgidfejkfdkflaa

namespace Go.Proofs.Ytgidfejkfdkflaa
open Go Go.Eng
def rw' (V : List (List Int)) (i : Int) : List Int := (V[i.toNat]?).getD []
def dg (d : List Int) (i : Int) : Int := (d[i.toNat]?).getD 0
/-- Whether all do as well with what they are given, and one better. -/
def gnB (V : List (List Int)) (d : List Int) : List (Int × Int) → Bool → Bool
  | [], m => m
  | (i, p) :: r, m => if pos (rw' V i) (dg d i) < pos (rw' V i) p then false else gnB V d r (m || decide (pos (rw' V i) p < pos (rw' V i) (dg d i)))
theorem gnB_iff (V : List (List Int)) (d : List Int) : ∀ (l : List (Int × Int)) (m : Bool), gnB V d l m = true ↔ (∀ x ∈ l, ¬ pos (rw' V x.1) (dg d x.1) < pos (rw' V x.1) x.2) ∧ (m = true ∨ ∃ x ∈ l, pos (rw' V x.1) x.2 < pos (rw' V x.1) (dg d x.1))
  | [], m => by simp [gnB]
  | (i, p) :: r, m => by
    rw [gnB]
    by_cases h : pos (rw' V i) (dg d i) < pos (rw' V i) p
    · rw [if_pos h]
      exact ⟨(fun e => by cases e), (fun e => absurd h (e.1 (i, p) (by simp)))⟩
    · rw [if_neg h, gnB_iff V d r]
      simp only [List.mem_cons, forall_eq_or_imp, h, not_false_eq_true, true_and, exists_eq_or_imp, Bool.or_eq_true, decide_eq_true_eq, or_assoc]
theorem s38 {ws : List (AV × List Int)} {v u g h : AV} {d gr gv : List Int} {A : AHeap} (hV : LL A v ws) (hs : Sz ws) (hd : L1 A u d) (hgr : L1 A g gr) (hgv : L1 A h gv) (hl : gr.length = gv.length) (hl2 : gr.length ≤ 1000) (hdl : d.length = ws.length) (hin : ∀ i ∈ gr, 0 ≤ i ∧ i < ws.length) :
    ACalls Try.prog 38 [v, u, g, h] A (B (gnB (lists ws) d (gr.zip gv) false)) A := by
  refine acalls hmix Try.func38 (by kernel_rfl) t38 4 rfl (by decide) ?_
  dsimp only [m38]
  simp (maxSteps := 4000000) -implicitDefEqProofs -dsimp (disch := omega) only [↓AW_ops, ↓AW_seq, ↓AW_block, ↓AOps_nil, ↓AOps_pu, on_some, ↓then_normal, pval, rd_S, rd_C, put_S, ↓AW_toLoop, List.replicate_succ, List.replicate_zero, List.set_cons_zero, List.set_cons_succ, List.getElem?_cons_zero, List.getElem?_cons_succ, Option.getD_some, Nat.reduceSub, List.cons_append, List.nil_append, hgr.len]
  refine LoopK.by 46 (fun x : Nat × Bool => x.1 ≤ gr.length ∧ gnB (lists ws) d (gr.zip gv) false = gnB (lists ws) d ((gr.zip gv).drop x.1) x.2) (fun x => [(0, v), (1, u), (3, h), (9, .bool x.2), (12, g), (13, I gr.length), (14, I x.1)]) (fun _ => A) (fun x => gr.length - x.1) (0, false) ⟨by simp only; omega, by simp⟩ rfl (by simp [Has, rd_s]) rfl ?_
  rintro ⟨k, m⟩ ⟨hk, he⟩
  simp only at hk he
  by_cases hlt : k < gr.length
  · obtain ⟨i, hz⟩ : ∃ z, gr[k]? = some z := ⟨_, List.getElem?_eq_getElem hlt⟩
    have hlt' : (k : Int) < gr.length := by omega
    have hkv : k < gv.length := by omega
    obtain ⟨p, hp⟩ : ∃ p, gv[k]? = some p := ⟨_, List.getElem?_eq_getElem hkv⟩
    obtain ⟨i0, i1⟩ := hin i (List.mem_of_getElem? hz)
    obtain ⟨o, rfl⟩ : ∃ o : Nat, i = o := ⟨i.toNat, by omega⟩
    have ho : o < ws.length := by omega
    have hod : o < d.length := by omega
    obtain ⟨w, hw⟩ : ∃ w, ws[o]? = some w := ⟨_, List.getElem?_eq_getElem ho⟩
    obtain ⟨q, hq⟩ : ∃ q, d[o]? = some q := ⟨_, List.getElem?_eq_getElem hod⟩
    have hrw : rw' (lists ws) (o : Int) = w.2 := by unfold rw'; rw [Int.toNat_natCast, ws_get hw]; rfl
    have hdg : dg d (o : Int) = q := by unfold dg; rw [Int.toNat_natCast, hq]; rfl
    have hzip : (gr.zip gv)[k]? = some ((o : Int), p) := by rw [List.getElem?_zip_eq_some]; exact ⟨hz, hp⟩
    have hdrop : (gr.zip gv).drop k = ((o : Int), p) :: (gr.zip gv).drop (k + 1) := by
      have hzl := (List.getElem?_eq_some_iff.1 hzip).1
      have := (List.getElem?_eq_some_iff.1 hzip).2
      rw [List.drop_eq_getElem_cons hzl, this]
    rw [hdrop, gnB, hrw, hdg] at he
    simp (maxSteps := 4000000) -implicitDefEqProofs -dsimp (disch := omega) only [↓AW_skip, ↓AW_ops, ↓AW_seq, ↓AW_cond, ↓AW_block, ↓AOps_nil, ↓AOps_pu, ↓AOps_ld, ↓AOps_call, on_some, condB_t, ↓then_normal, pval, lval, rd_S, put_S, partA, eq_self, mk, List.foldl_cons, List.foldl_nil, List.replicate_succ, List.replicate_zero, List.set_cons_zero, List.set_cons_succ, List.getElem?_cons_zero, List.getElem?_cons_succ, List.drop_zero, List.take_succ_cons, List.take_nil, Option.getD_some, map_c, map_n, List.length_cons, List.length_nil, Nat.reduceLeDiff, Nat.zero_add, bin_lss, if_true, if_false, Bool.false_eq_true, decide_true, Go.Eng.e1, hlt', hgr.idx hlt, hgr.ld0 hz 1 false (by decide), hd.idx hod, hd.ld0 hq 1 false (by decide), hgv.idx hkv, hgv.ld0 hp 1 false (by decide)]
    refine CallK.of (s25 hV hs hw q p) ?_
    by_cases h1 : pos w.2 q < pos w.2 p
    · rw [if_pos h1] at he
      simp (maxSteps := 4000000) -implicitDefEqProofs -dsimp (disch := omega) only [↓AW_ops, ↓AW_seq, ↓AW_cond, ↓AW_ret, ↓AOps_nil, ↓AOps_pu, on_some, extK_same, condB_t, ↓then_normal, ↓then_ret, ↓inBlock_ret, ↓Fin_ret, pval, rd_S, rd_C, put_S, resV, resL, mk, List.foldl_cons, List.foldl_nil, List.replicate_succ, List.replicate_zero, List.set_cons_zero, List.set_cons_succ, List.getElem?_cons_zero, List.getElem?_cons_succ, Option.getD_some, decide_true, h1]
      exact gc_same (by rw [he])
    · rw [if_neg h1] at he
      cases m with
      | true =>
        simp (maxSteps := 4000000) -implicitDefEqProofs -dsimp (disch := omega) only [↓AW_skip, ↓AW_ops, ↓AW_cond, ↓AOps_nil, ↓AOps_pu, ↓AOps_guard, on_some, extK_same, guardB_tf, skipS_some, condB_f, ↓then_normal, ↓inBlock_normal, pval, rd_S, rd_C, put_S, eq_self, mk, List.foldl_cons, List.foldl_nil, List.replicate_succ, List.replicate_zero, List.set_cons_zero, List.set_cons_succ, List.getElem?_cons_zero, List.getElem?_cons_succ, Option.getD_some, List.length_cons, List.length_nil, Nat.reduceAdd, Nat.zero_add, bin_add, w64, if_true, decide_false, true_and, h1]
        refine ⟨(k + 1, true), ⟨hlt, ?_⟩, by simp [Has, rd_s], by simp only; omega⟩
        simp only
        rw [he, Bool.true_or]
      | false =>
        simp (maxSteps := 4000000) -implicitDefEqProofs -dsimp (disch := omega) only [↓AW_skip, ↓AW_ops, ↓AW_cond, ↓AOps_nil, ↓AOps_pu, ↓AOps_ld, ↓AOps_call, ↓AOps_guard, on_some, extK_same, guardB_ff, condB_f, ↓then_normal, pval, lval, rd_S, put_S, partA, eq_self, mk, List.foldl_cons, List.foldl_nil, List.replicate_succ, List.replicate_zero, List.set_cons_zero, List.set_cons_succ, List.getElem?_cons_zero, List.getElem?_cons_succ, List.drop_zero, List.take_succ_cons, List.take_nil, Option.getD_some, map_c, map_n, List.length_cons, List.length_nil, Nat.reduceLeDiff, Nat.zero_add, if_true, if_false, Bool.false_eq_true, decide_false, Go.Eng.e1, h1, hd.idx hod, hd.ld0 hq 1 false (by decide), hgv.idx hkv, hgv.ld0 hp 1 false (by decide), e1]
        refine CallK.of (s25 hV hs hw p q) ?_
        simp (maxSteps := 4000000) -implicitDefEqProofs -dsimp (disch := omega) only [↓AW_ops, ↓AOps_nil, ↓AOps_pu, on_some, extK_same, ↓then_normal, ↓inBlock_normal, pval, rd_S, rd_C, put_S, eq_self, mk, List.foldl_cons, List.foldl_nil, List.replicate_succ, List.replicate_zero, List.set_cons_zero, List.set_cons_succ, List.getElem?_cons_zero, List.getElem?_cons_succ, Option.getD_some, List.length_cons, List.length_nil, Nat.reduceAdd, Nat.zero_add, bin_add, w64, if_false, Bool.false_eq_true, true_and]
        refine ⟨(k + 1, decide (pos w.2 p < pos w.2 q)), ⟨hlt, ?_⟩, by simp [Has, rd_s], by simp only; omega⟩
        simp only
        rw [he, Bool.false_or]
  · have hlt' : ¬ ((k : Int) < gr.length) := by omega
    rw [List.drop_eq_nil_of_le (by simp; omega), gnB] at he
    simp (maxSteps := 4000000) -implicitDefEqProofs -dsimp (disch := omega) only [↓AW_ops, ↓AW_seq, ↓AW_cond, ↓AW_exit, ↓AW_ret, ↓AOps_nil, ↓AOps_pu, on_some, condB_f, ↓then_normal, ↓then_exit, ↓inBlock_exit, ↓Fin_ret, pval, rd_S, put_S, resV, resL, eq_self, mk, List.foldl_cons, List.foldl_nil, List.replicate_succ, List.replicate_zero, List.set_cons_zero, List.set_cons_succ, List.getElem?_cons_zero, List.getElem?_cons_succ, Option.getD_some, bin_lss, if_true, decide_false, hlt']
    exact gc_same (by rw [he])
/-- The members of a group, given by a function. -/
theorem s36 {f : FuncId} {cap : List AV} {A : AHeap} (n : Nat) (hn : n ≤ 1000) (g : Nat → Bool) (hg : ∀ (i : Nat) (H : AHeap), i < n → A <+: H → ACalls Try.prog f ([I i] ++ cap) H (B (g i)) H) : ACalls Try.prog 36 [I n, .fn f cap] A (outV 1 A (((List.range n).filter g).map (fun i : Nat => (i : Int))).length) (outH A ((((List.range n).filter g).map (fun i : Nat => (i : Int))).flatMap e1) (((List.range n).filter g).map (fun i : Nat => (i : Int))).length) := by
  refine acalls hmix Try.func36 (by kernel_rfl) t36 2 rfl (by decide) ?_
  dsimp only [m36]
  simp (maxSteps := 4000000) -implicitDefEqProofs -dsimp (disch := omega) only [↓AW_ops, ↓AW_seq, ↓AW_block, ↓AOps_nil, ↓AOps_pu, on_some, ↓then_normal, pval, rd_S, rd_C, put_S, ↓AW_toLoop, List.replicate_succ, List.replicate_zero, List.set_cons_zero, List.set_cons_succ, List.getElem?_cons_zero, Option.getD_some, Nat.reduceSub, List.cons_append, List.nil_append]
  refine LoopK.by 20 (fun x : Nat × AV × AHeap => x.1 ≤ n ∧ AccL 1 e1 A x.2.2 x.2.1 (((List.range x.1).filter g).map (fun i : Nat => (i : Int)))) (fun x => [(1, .fn f cap), (5, x.2.1), (7, I n), (8, I x.1)]) (fun x => x.2.2) (fun x => n - x.1) (0, .nilS, A) ⟨by simp only; omega, AccL.nil (List.prefix_refl _)⟩ rfl (by simp [Has, rd_s]) rfl ?_
  rintro ⟨i, y, H⟩ ⟨hi, hy⟩
  simp only at hi hy
  by_cases hlt : i < n
  · have hlt' : (i : Int) < n := by omega
    simp (maxSteps := 4000000) -implicitDefEqProofs -dsimp (disch := omega) only [↓AW_skip, ↓AW_ops, ↓AW_seq, ↓AW_cond, ↓AW_block, ↓AOps_nil, ↓AOps_pu, ↓AOps_callv, on_some, CallF_fn, condB_t, ↓then_normal, pval, rd_S, put_S, mk, List.foldl_cons, List.foldl_nil, List.replicate_succ, List.replicate_zero, List.set_cons_zero, List.set_cons_succ, List.getElem?_cons_zero, List.getElem?_cons_succ, Option.getD_some, map_c, map_n, List.cons_append, List.nil_append, bin_lss, decide_true, hlt']
    refine CallK.of (hg i H hlt hy.pre) ?_
    have hll : ((List.range i).filter g).length ≤ i := by
      have := List.length_filter_le g (List.range i)
      simpa using this
    by_cases h : g i = true
    · obtain ⟨v3, H3, happ, h3⟩ := hy.push e1_len (i : Int) (by rw [List.length_map]; simp [lim]; omega)
      simp only [e1] at happ
      simp (maxSteps := 4000000) -implicitDefEqProofs -dsimp (disch := omega) only [↓AW_ops, ↓AW_cond, ↓AOps_nil, ↓AOps_pu, ↓AOps_ha, on_some, extK_false, extK_app, extK_same, condB_t, ↓then_normal, ↓inBlock_normal, pval, hval_blds, hval_app, rd_S, rd_C, put_S, cells_int, splice, fillA, repl, eq_self, mk, List.foldl_cons, List.foldl_nil, List.replicate_succ, List.replicate_zero, List.set_cons_zero, List.set_cons_succ, List.getElem?_cons_zero, List.getElem?_cons_succ, List.drop_succ_cons, List.drop_nil, List.take_zero, Option.getD_some, map_c, map_n, List.length_cons, List.length_nil, Nat.reduceAdd, Nat.reduceLeDiff, Nat.zero_add, List.nil_append, List.append_nil, bin_add, w64, if_true, true_and, and_true, h, happ]
      refine ⟨(i + 1, v3, H3), ⟨hlt, ?_⟩, by simp [Has, rd_s], rfl, by simp only; omega⟩
      simp only
      rw [List.range_succ, List.filter_append, List.map_append]
      simpa [h] using h3
    · have h : g i = false := by simpa using h
      simp (maxSteps := 4000000) -implicitDefEqProofs -dsimp (disch := omega) only [↓AW_skip, ↓AW_ops, ↓AW_cond, ↓AOps_nil, ↓AOps_pu, on_some, extK_same, condB_f, ↓then_normal, ↓inBlock_normal, pval, rd_S, rd_C, put_S, eq_self, mk, List.foldl_cons, List.foldl_nil, List.replicate_succ, List.replicate_zero, List.set_cons_zero, List.set_cons_succ, List.getElem?_cons_zero, List.getElem?_cons_succ, Option.getD_some, List.length_cons, List.length_nil, Nat.reduceAdd, Nat.zero_add, bin_add, w64, true_and, h]
      refine ⟨(i + 1, y, H), ⟨hlt, ?_⟩, by simp [Has, rd_s], rfl, by simp only; omega⟩
      simp only
      rw [List.range_succ, List.filter_append, List.map_append]
      simpa [h] using hy
  · have hlt' : ¬ ((i : Int) < n) := by omega
    have hin : i = n := by omega
    subst hin
    simp (maxSteps := 4000000) -implicitDefEqProofs -dsimp (disch := omega) only [↓AW_ops, ↓AW_seq, ↓AW_cond, ↓AW_exit, ↓AW_ret, ↓AOps_nil, ↓AOps_pu, on_some, condB_f, ↓then_normal, ↓then_exit, ↓inBlock_exit, ↓Fin_ret, pval, rd_S, put_S, resV, resL, eq_self, mk, List.foldl_cons, List.foldl_nil, List.replicate_succ, List.replicate_zero, List.set_cons_zero, List.set_cons_succ, List.getElem?_cons_zero, List.getElem?_cons_succ, Option.getD_some, bin_lss, if_true, decide_false, hlt']
    exact hy.gc flat_e1
end Go.Proofs.Ytgidfejkfdkflaa

namespace Go.Proofs.Ytgidfejkfdkflaa
open Go Go.Eng
theorem s40 (i : Int) (A : AHeap) : ACalls Try.prog 40 [I i] A (B true) A := by
  refine acalls hmix Try.func40 (by kernel_rfl) t40 1 rfl (by decide) ?_
  dsimp only [m40]
  simp (maxSteps := 4000000) -implicitDefEqProofs -dsimp (disch := omega) only [↓AW_ops, ↓AW_seq, ↓AW_ret, ↓AOps_nil, ↓AOps_pu, on_some, ↓then_normal, ↓Fin_ret, pval, rd_S, rd_C, put_S, resV, resL, List.replicate_succ, List.replicate_zero, List.set_cons_zero, List.set_cons_succ, List.getElem?_cons_zero, List.getElem?_cons_succ, Option.getD_some, Nat.reduceSub, List.cons_append, List.nil_append]
  exact gc_same rfl
def nums (n : Nat) : List Int := (List.range n).map (fun i : Nat => (i : Int))
theorem s28 {ws : List (AV × List Int)} {v : AV} {A : AHeap} (hV : LL A v ws) (hn : ws.length ≤ 1000) : ACalls Try.prog 28 [v] A (outV 1 A (nums ws.length).length) (outH A ((nums ws.length).flatMap e1) (nums ws.length).length) := by
  refine acalls hmix Try.func28 (by kernel_rfl) t28 1 rfl (by decide) ?_
  have h := s36 (f := 40) (cap := []) (A := A) ws.length hn (fun _ => true) (fun i H _ _ => s40 i H)
  have e : (List.range ws.length).filter (fun _ => true) = List.range ws.length := List.filter_eq_self.2 (fun _ _ => rfl)
  rw [e] at h
  dsimp only [m28]
  simp (maxSteps := 4000000) -implicitDefEqProofs -dsimp (disch := omega) only [↓AW_ops, ↓AW_seq, ↓AOps_nil, ↓AOps_pu, ↓AOps_call, on_some, ↓then_normal, pval, rd_S, rd_C, put_S, List.replicate_succ, List.replicate_zero, List.set_cons_zero, List.set_cons_succ, List.getElem?_cons_zero, List.getElem?_cons_succ, Option.getD_some, map_c, map_n, Nat.reduceSub, List.cons_append, List.nil_append, hV.ls.len]
  refine CallK.of h ?_
  simp (maxSteps := 4000000) -implicitDefEqProofs -dsimp (disch := omega) only [↓AW_ret, ↓AOps_nil, ↓AOps_pu, on_some, extK_false, ↓then_normal, ↓Fin_ret, pval, rd_S, put_S, resV, resL, List.replicate_succ, List.replicate_zero, List.set_cons_zero, List.set_cons_succ, List.getElem?_cons_zero, List.getElem?_cons_succ, Option.getD_some, Nat.reduceSub, List.cons_append, List.nil_append]
  exact gc_all
/-- All orders of a list, as the program lists them. -/
def ordF : Nat → List Int → List (List Int)
  | 0, _ => [[]]
  | m + 1, l => (List.range l.length).flatMap fun i => (ordF m (l.take i ++ l.drop (i + 1))).map fun r => (l[i]?).getD 0 :: r
theorem ordF_len : ∀ (m : Nat) (l : List Int), l.length = m → ∀ o ∈ ordF m l, o.Perm l
  | 0, l, hl, o, ho => by
    have : l = [] := List.eq_nil_of_length_eq_zero hl
    subst this
    have : o = [] := by simpa [ordF] using ho
    subst this
    exact List.Perm.refl _
  | m + 1, l, hl, o, ho => by
    simp only [ordF, List.mem_flatMap, List.mem_range, List.mem_map] at ho
    obtain ⟨i, hi, r, hr, rfl⟩ := ho
    have := ordF_len m (l.take i ++ l.drop (i + 1)) (by rw [List.length_append, List.length_take, List.length_drop]; omega) r hr
    rw [List.getElem?_eq_getElem hi]
    refine (List.Perm.cons _ this).trans ?_
    have e : l = l.take i ++ l[i] :: l.drop (i + 1) := by rw [List.getElem_cons_drop, List.take_append_drop]
    conv => rhs; rw [e]
    exact List.perm_middle.symm
theorem ordF_all : ∀ (m : Nat) (l : List Int), l.length = m → ∀ o : List Int, o.Perm l → o ∈ ordF m l
  | 0, l, hl, o, ho => by
    have : l = [] := List.eq_nil_of_length_eq_zero hl
    subst this
    have : o = [] := List.Perm.eq_nil ho
    subst this
    simp [ordF]
  | m + 1, l, hl, o, ho => by
    cases o with
    | nil => have := ho.length_eq; simp at this; omega
    | cons x r =>
      have hx : x ∈ l := ho.mem_iff.1 (by simp)
      obtain ⟨i, hi, hix⟩ := List.mem_iff_getElem.1 hx
      have e : l = l.take i ++ l[i] :: l.drop (i + 1) := by rw [List.getElem_cons_drop, List.take_append_drop]
      have hr : r.Perm (l.take i ++ l.drop (i + 1)) := by
        have h1 : (x :: r).Perm (x :: (l.take i ++ l.drop (i + 1))) := by
          refine ho.trans ?_
          conv => lhs; rw [e]
          rw [hix]
          exact List.perm_middle
        exact List.Perm.cons_inv h1
      simp only [ordF, List.mem_flatMap, List.mem_range, List.mem_map]
      exact ⟨i, hi, r, ordF_all m _ (by rw [List.length_append, List.length_take, List.length_drop]; omega) r hr, by rw [List.getElem?_eq_getElem hi, hix]; rfl⟩
end Go.Proofs.Ytgidfejkfdkflaa

namespace Go.Proofs.Ytgidfejkfdkflaa
open Go Go.Eng
theorem app_keep {es : Nat} {H H' : AHeap} {x y v' : AV} (h : appA es H x y = some (v', H')) {n : Nat} {o : AObj} (hn : H[n]? = some o) (hx : x = .nilS ∨ nm x ≠ n) : H'[n]? = some o := by
  have hl := (List.getElem?_eq_some_iff.1 hn).1
  unfold appA at h
  split at h
  · cases h
  · split at h
    · split at h
      · cases h; exact hn
      · split at h
        · cases h; rw [List.getElem?_append_left hl]; exact hn
        · cases h
    · rename_i n0 off len full
      have hne : n0 ≠ n := by
        rcases hx with hx | hx
        · cases hx
        · exact hx
      split at h
      · cases h; exact hn
      · split at h
        · split at h
          · split at h
            · split at h
              · cases h; rw [List.getElem?_append_left hl]; exact hn
              · split at h
                · cases h; rw [List.getElem?_append_left (by simpa using hl), List.getElem?_set_ne hne]; exact hn
                · cases h
            · cases h
          · cases h
        · cases h
    · cases h
theorem app_nm {es : Nat} {H H' : AHeap} {x y v' : AV} (h : appA es H x y = some (v', H')) : v' = x ∨ nm v' = H.length := by
  unfold appA at h
  split at h
  · cases h
  · split at h
    · split at h
      · cases h; exact .inl rfl
      · split at h
        · cases h; exact .inr rfl
        · cases h
    · split at h
      · cases h; exact .inl rfl
      · split at h
        · split at h
          · split at h
            · split at h
              · cases h; exact .inr rfl
              · split at h
                · cases h; exact .inr rfl
                · cases h
            · cases h
          · cases h
        · cases h
    · cases h
theorem app_len {es : Nat} {H H' : AHeap} {x y v' : AV} (h : appA es H x y = some (v', H')) : H.length ≤ H'.length := by
  rcases Nat.lt_or_ge H'.length H.length with h1 | h1
  · exfalso
    unfold appA at h
    split at h
    · cases h
    · split at h
      · split at h
        · cases h; omega
        · split at h
          · cases h; simp at h1; omega
          · cases h
      · split at h
        · cases h; omega
        · split at h
          · split at h
            · split at h
              · split at h
                · cases h; simp at h1; omega
                · split at h
                  · cases h; simp at h1; omega
                  · cases h
              · cases h
            · cases h
          · cases h
      · cases h
  · exact h1
theorem NL.keepLL {B H H5 : AHeap} {r : AV} {ws : List (AV × List Int)} (h : NL B H r ws) (hl : B.length ≤ H5.length) (hk : ∀ (n : Nat) (o : AObj), B.length ≤ n → H[n]? = some o → H5[n]? = some o) : LL H5 r ws := by
  have hlen : (H5.take B.length).length = B.length := by rw [List.length_take]; omega
  have : NL (H5.take B.length) H5 r ws := by
    refine ⟨⟨List.take_prefix _ _, h.acc.2.1, ?_⟩, fun x hx => ⟨?_⟩, h.apart⟩
    · rcases h.acc.2.2 with h1 | ⟨h0, m, h1, h2, h3⟩
      · exact .inl h1
      · exact .inr ⟨h0, m, h1, by omega, hk _ _ h2 h3⟩
    · rcases (h.rows x hx).row with h1 | ⟨n, full, cs, g1, g2, g3, g4⟩
      · exact .inl h1
      · exact .inr ⟨n, full, cs, g1, by omega, hk _ _ g2 g3, g4⟩
  exact this.ll
theorem flen {α β : Type} {f : α → List β} {b : Nat} : ∀ (L : List α), (∀ x ∈ L, (f x).length ≤ b) → (L.flatMap f).length ≤ L.length * b
  | [], _ => by simp
  | x :: L, h => by
    rw [List.flatMap_cons, List.length_append, List.length_cons, Nat.add_mul]
    have := flen L (fun y hy => h y (by simp [hy]))
    have := h x (by simp)
    omega
theorem ordF_cnt : ∀ (m : Nat) (l : List Int), l.length = m → m ≤ 5 → (ordF m l).length ≤ 5 ^ m
  | 0, _, _, _ => by simp [ordF]
  | m + 1, l, hl, hm => by
    have h := flen (f := fun i => (ordF m (l.take i ++ l.drop (i + 1))).map fun r => (l[i]?).getD 0 :: r) (b := 5 ^ m) (List.range l.length) (fun i hi => by
      have := List.mem_range.1 hi
      rw [List.length_map]
      exact ordF_cnt m _ (by rw [List.length_append, List.length_take, List.length_drop]; omega) (by omega))
    rw [List.length_range] at h
    show ((List.range l.length).flatMap _).length ≤ _
    refine Nat.le_trans h ?_
    rw [Nat.pow_succ, Nat.mul_comm]
    exact Nat.mul_le_mul_left _ (by omega)
/-- One element, and then a list. -/
theorem app_one {H : AHeap} {w : AV} {ys : List Int} (hy : L1 H w ys) (z : Int) (hl : ys.length ≤ 1000) : ∃ v' n full H7, appA 1 (H ++ [.cells true [I z]]) (.sl 1 H.length 0 1 true) w = some (v', H7) ∧ H <+: H7 ∧ H.length ≤ n ∧ v' = .sl 1 n 0 (z :: ys).length full ∧ H7[n]? = some (.cells true ((z :: ys).flatMap e1 ++ [])) := by
  have hc := (hy.mono (pre_app H [.cells true [I z]])).hc
  by_cases h0 : ys.length = 0
  · have : ys = [] := List.eq_nil_of_length_eq_zero h0
    subst this
    refine ⟨.sl 1 H.length 0 1 true, H.length, true, H ++ [.cells true [I z]], ?_, pre_app _ _, Nat.le_refl _, rfl, by simp [e1]⟩
    unfold appA
    rw [hc]
    simp
  · refine ⟨.sl 1 (H ++ [AObj.cells true [I z]]).length 0 (1 + ys.length) false, (H ++ [AObj.cells true [I z]]).length, false, H ++ [AObj.cells true [I z]] ++ [.cells true ([I z] ++ ys.flatMap e1)], ?_, (pre_app _ _).trans (pre_app _ _), by simp, by simp only [List.length_cons]; rw [Nat.add_comm], ?_⟩
    · unfold appA
      rw [hc]
      have : 1 + ys.length ≤ lim := by simp [lim]; omega
      simp [h0, this]
    · rw [get_new]
      simp [e1]
end Go.Proofs.Ytgidfejkfdkflaa

namespace Go.Proofs.Ytgidfejkfdkflaa
open Go Go.Eng
def ordG (m : Nat) (l : List Int) (i : Nat) : List (List Int) := (ordF m (l.take i ++ l.drop (i + 1))).map fun r => (l[i]?).getD 0 :: r
theorem ordF_succ (m : Nat) (l : List Int) : ordF (m + 1) l = (List.range l.length).flatMap (ordG m l) := rfl
set_option maxRecDepth 20000 in
set_option maxHeartbeats 8000000 in
theorem s27 : ∀ (m : Nat) (l : List Int) (v : AV) (A : AHeap), l.length = m → m ≤ 5 → 0 < A.length → L1 A v l → ∃ r H', ACalls Try.prog 27 [v] A r H' ∧ ∃ ws', NL A H' r ws' ∧ lists ws' = ordF m l
  | 0, l, v, A, hl, _, _, hx => by
    refine acallsR hmix Try.func27 (by kernel_rfl) t27 _ 1 rfl (by decide) ?_
    have hl0 : (l.length : Int) = 0 := by omega
    dsimp only [m27]
    simp (maxSteps := 4000000) -implicitDefEqProofs -dsimp (disch := omega) only [↓AW_ops, ↓AW_seq, ↓AW_cond, ↓AW_ret, ↓AOps_nil, ↓AOps_pu, ↓AOps_ha, on_some, extK_app, condB_t, ↓then_normal, ↓then_ret, ↓FinR_ret, pval, hval_blds, rd_S, rd_C, put_S, resV, resL, cells_nilS, splice, fillA, repl, eq_self, List.replicate_succ, List.replicate_zero, List.set_cons_zero, List.set_cons_succ, List.getElem?_cons_zero, List.getElem?_cons_succ, List.drop_succ_cons, List.drop_nil, List.take_zero, Option.getD_some, map_c, map_n, List.length_cons, List.length_nil, Nat.reduceSub, Nat.reduceLeDiff, Nat.zero_add, List.cons_append, List.nil_append, List.append_nil, bin_eql, if_true, decide_true, and_true, hx.len, hl0, List.replicate_zero, repl]
    refine ⟨.sl 1 A.length 0 1 false, _, gc_weak (fun ρ c => VR.unfull) gc_all, [(.nilS, [])], ⟨⟨pre_app _ _, by simp [e0], .inr ⟨by simp, A.length, rfl, Nat.le_refl _, by rw [get_new]; rfl⟩⟩, fun x hx => ⟨.inl ?_⟩, by simp [Apart]⟩, rfl⟩
    have : x = (.nilS, []) := by simpa using hx
    subst this
    exact ⟨rfl, rfl⟩
  | m + 1, l, v, A, hl, hm, hA, hx => by
    refine acallsR hmix Try.func27 (by kernel_rfl) t27 _ 1 rfl (by decide) ?_
    have hl0 : ¬ (l.length : Int) = 0 := by omega
    dsimp only [m27]
    simp (maxSteps := 4000000) -implicitDefEqProofs -dsimp (disch := omega) only [↓AW_skip, ↓AW_ops, ↓AW_seq, ↓AW_cond, ↓AW_block, ↓AOps_nil, ↓AOps_pu, on_some, condB_f, ↓then_normal, pval, rd_S, rd_C, put_S, ↓AW_toLoop, List.replicate_succ, List.replicate_zero, List.set_cons_zero, List.set_cons_succ, List.getElem?_cons_zero, List.getElem?_cons_succ, Option.getD_some, Nat.reduceSub, List.cons_append, List.nil_append, bin_eql, decide_false, hx.len, hl0]
    refine LoopK.by 44 (fun x : Nat × AV × AHeap × List (AV × List Int) => x.1 ≤ l.length ∧ NL A x.2.2.1 x.2.1 x.2.2.2 ∧ lists x.2.2.2 = (List.range x.1).flatMap (ordG m l)) (fun x => [(0, v), (3, x.2.1), (12, v), (13, I l.length), (14, I x.1)]) (fun x => x.2.2.1) (fun x => l.length - x.1) (0, .nilS, A, []) ⟨by simp only; omega, NL.nil (List.prefix_refl _), by simp⟩ rfl (by simp [Has, rd_s]) rfl ?_
    rintro ⟨i, u, H, ws⟩ ⟨hi, hn, hw⟩
    simp only at hi hn hw
    have hx1 := hx.mono hn.acc.1
    by_cases hlt : i < l.length
    case neg =>
      have hlt' : ¬ ((i : Int) < l.length) := by omega
      have hin : i = l.length := by omega
      subst hin
      simp (maxSteps := 4000000) -implicitDefEqProofs -dsimp (disch := omega) only [↓AW_ops, ↓AW_seq, ↓AW_cond, ↓AW_exit, ↓AW_ret, ↓AOps_nil, ↓AOps_pu, on_some, condB_f, ↓then_normal, ↓then_exit, ↓inBlock_exit, ↓FinR_ret, pval, rd_S, put_S, resV, resL, eq_self, mk, List.foldl_cons, List.foldl_nil, List.replicate_succ, List.replicate_zero, List.set_cons_zero, List.set_cons_succ, List.getElem?_cons_zero, List.getElem?_cons_succ, Option.getD_some, bin_lss, if_true, decide_false, hlt']
      exact ⟨_, _, gc_all, ws, hn, by rw [ordF_succ]; exact hw⟩
    obtain ⟨z, hz⟩ : ∃ z, l[i]? = some z := ⟨_, List.getElem?_eq_getElem hlt⟩
    have hlt' : (i : Int) < l.length := by omega
    obtain ⟨v1, hs1, hL1⟩ := Ls_takeS hx1 i (by omega)
    obtain ⟨v2, hs2, hL2⟩ := Ls_dropS hx1 (i + 1) (by omega)
    rw [show ((i + 1 : Nat) : Int) = (i : Int) + 1 by omega] at hs2
    have hq1 := Ls_cells hL1
    have hq2 := Ls_cells hL2
    simp (maxSteps := 4000000) -implicitDefEqProofs -dsimp (disch := omega) only [↓AW_skip, ↓AW_ops, ↓AW_seq, ↓AW_cond, ↓AW_block, ↓AOps_nil, ↓AOps_pu, ↓AOps_ld, ↓AOps_ha, ↓AOps_call, on_some, extK_app, condB_t, ↓then_normal, pval, lval, hval_blds, rd_S, rd_C, put_S, splice, partA, fillA, repl, eq_self, mk, List.foldl_cons, List.foldl_nil, List.replicate_succ, List.replicate_zero, List.set_cons_zero, List.set_cons_succ, List.getElem?_cons_zero, List.getElem?_cons_succ, List.drop_zero, List.drop_succ_cons, List.drop_nil, List.take_zero, List.take_succ_cons, List.take_nil, Option.getD_some, Option.map_some, Option.map_none, map_c, map_n, List.length_cons, List.length_nil, Nat.reduceAdd, Nat.reduceLeDiff, Nat.zero_add, List.cons_append, List.nil_append, List.append_nil, bin_add, bin_lss, w64, if_true, if_false, Bool.false_eq_true, decide_true, Go.Eng.e1, and_true, hlt', hx1.idx hlt, hx1.ld0 hz 1 false (by decide), hs1, hs2, hq1, hq2, List.replicate_zero, repl]
    have hin : ∀ z ∈ [(v1, l.take i), (v2, l.drop (i + 1))], L1 (H ++ [.cells true [v1, v2]]) z.1 z.2 := by
      intro z hz
      rcases List.mem_cons.1 hz with h | h
      · rw [h]; exact hL1.mono (pre_app _ _)
      · rw [List.mem_singleton.1 h]; exact hL2.mono (pre_app _ _)
    have hlz : ∀ z ∈ [(v1, l.take i), (v2, l.drop (i + 1))], z.2.length ≤ 100 := by
      intro z hz
      rcases List.mem_cons.1 hz with h | h
      · rw [h]; simp; omega
      · rw [List.mem_singleton.1 h]; simp; omega
    obtain ⟨r3, H3, c3, p3, hM⟩ := c_Concat (u := .sl 1 H.length 0 2 true) (A := H ++ [.cells true [v1, v2]]) (zs := [(v1, l.take i), (v2, l.drop (i + 1))]) ⟨eS_len, by simp [slCells, cellsAt, eS]⟩ hin (by simp) hlz
    have hcat : catZ [(v1, l.take i), (v2, l.drop (i + 1))] = l.take i ++ l.drop (i + 1) := by simp [catZ]
    rw [hcat] at hM
    have pH3 : H <+: H3 := (pre_app _ _).trans p3
    have hH3 : A.length ≤ H3.length := (hn.acc.1.trans pH3).length_le
    obtain ⟨r4, H4, c4, ws4, hn4, hw4⟩ := s27 m (l.take i ++ l.drop (i + 1)) r3 H3 (by rw [List.length_append, List.length_take, List.length_drop]; omega) (by omega) (by omega) hM
    refine CallK.of c3 ?_
    simp (maxSteps := 4000000) -implicitDefEqProofs -dsimp (disch := omega) only [↓AOps_call, extK_false, rd_S, put_S, mk, List.foldl_cons, List.foldl_nil, List.replicate_succ, List.replicate_zero, List.set_cons_zero, List.set_cons_succ, List.getElem?_cons_zero, List.getElem?_cons_succ, Option.getD_some, map_c, map_n]
    refine CallK.of c4 ?_
    have hw4l : ∀ w ∈ ws4, w.2.length ≤ 5 := fun w hw => by
      have h1 : w.2 ∈ ordF m (l.take i ++ l.drop (i + 1)) := by rw [← hw4]; exact mem_lists hw
      have := (ordF_len m _ (by rw [List.length_append, List.length_take, List.length_drop]; omega) _ h1).length_eq
      rw [this, List.length_append, List.length_take, List.length_drop]
      omega
    simp (maxSteps := 4000000) -implicitDefEqProofs -dsimp (disch := omega) only [↓AW_block, ↓AOps_nil, ↓AOps_pu, on_some, extK_false, ↓then_normal, pval, rd_S, rd_C, put_S, ↓AW_toLoop, mk, List.foldl_cons, List.foldl_nil, List.replicate_succ, List.replicate_zero, List.set_cons_zero, List.set_cons_succ, List.getElem?_cons_zero, List.getElem?_cons_succ, Option.getD_some, hn4.ll.ls.len]
    have hlt4 : nm u < H.length ∨ u = .nilS := by
      rcases hn.acc.2.2 with ⟨_, h1⟩ | ⟨_, k, h1, _, h3⟩
      · exact .inr h1
      · left; rw [h1]; exact (List.getElem?_eq_some_iff.1 h3).1
    have hpw : 5 ^ m ≤ 625 := by
      have : 5 ^ m ≤ 5 ^ 4 := Nat.pow_le_pow_right (by omega) (by omega)
      exact this
    have hcnt4 : ws4.length ≤ 625 := by
      have := ordF_cnt m (l.take i ++ l.drop (i + 1)) (by rw [List.length_append, List.length_take, List.length_drop]; omega) (by omega)
      rw [← hw4, List.length_map] at this
      omega
    have hcnt : ws.length ≤ 3125 := by
      have h := flen (f := ordG m l) (b := 5 ^ m) (List.range i) (fun j hj => by
        have := List.mem_range.1 hj
        unfold ordG
        rw [List.length_map]
        exact ordF_cnt m _ (by rw [List.length_append, List.length_take, List.length_drop]; omega) (by omega))
      rw [← hw, List.length_map, List.length_range] at h
      have : i * 5 ^ m ≤ 5 * 625 := Nat.mul_le_mul (by omega) hpw
      omega
    have pH4 : H <+: H4 := pH3.trans hn4.acc.1
    have hH34 : H3.length ≤ H4.length := hn4.acc.1.length_le
    have hHH3 : H.length ≤ H3.length := pH3.length_le
    refine LoopK.by 44 (fun x : Nat × AV × AHeap × List (AV × List Int) => (x.1 ≤ ws4.length ∧ x.2.2.2.length = ws.length + x.1) ∧ NL A x.2.2.1 x.2.1 x.2.2.2 ∧ lists x.2.2.2 = lists ws ++ ((lists ws4).take x.1).map (fun r => z :: r) ∧ (∀ (n : Nat) (o : AObj), H3.length ≤ n → H4[n]? = some o → x.2.2.1[n]? = some o) ∧ ((nm x.2.1 < H.length ∨ x.2.1 = .nilS) ∨ H4.length ≤ nm x.2.1) ∧ H4.length ≤ x.2.2.1.length)
      (fun x => [(0, v), (3, x.2.1), (5, I z), (12, v), (13, I l.length), (14, I i), (28, r4), (29, I ws4.length), (30, I x.1)]) (fun x => x.2.2.1) (fun x => ws4.length - x.1) (0, u, H4, ws) ⟨⟨Nat.zero_le _, rfl⟩, hn.mono pH4, by simp, fun n o _ h => h, .inl hlt4, Nat.le_refl _⟩ rfl (by simp [Has, rd_s]) rfl ?_
    rintro ⟨k, u5, H5, ws5⟩ ⟨⟨hk, hl5⟩, hn5, hw5, hkeep, hpos, hle⟩
    simp only at hk hl5 hn5 hw5 hkeep hpos hle
    have hLL := hn4.keepLL (H5 := H5) (by omega) hkeep
    by_cases hlt2 : k < ws4.length
    case neg =>
      have hlt2' : ¬ ((k : Int) < ws4.length) := by omega
      have hkk : k = ws4.length := by omega
      subst hkk
      simp (maxSteps := 4000000) -implicitDefEqProofs -dsimp (disch := omega) only [↓AW_ops, ↓AW_seq, ↓AW_cond, ↓AW_exit, ↓AW_ret, ↓AOps_nil, ↓AOps_pu, on_some, condB_f, ↓then_normal, ↓then_exit, ↓inBlock_normal, ↓inBlock_exit, ↓FinR_ret, pval, rd_S, rd_C, put_S, resV, resL, eq_self, mk, List.foldl_cons, List.foldl_nil, List.replicate_succ, List.replicate_zero, List.set_cons_zero, List.set_cons_succ, List.getElem?_cons_zero, List.getElem?_cons_succ, Option.getD_some, List.length_cons, List.length_nil, Nat.reduceAdd, Nat.reduceEqDiff, Nat.zero_add, bin_add, bin_lss, w64, if_true, if_false, decide_false, true_and, reduceCtorEq, hlt2']
      refine ⟨(i + 1, u5, H5, ws5), ⟨hlt, hn5, ?_⟩, by simp [Has, rd_s], rfl, by simp only; omega⟩
      simp only
      rw [hw5, hw, List.range_succ, List.flatMap_append, List.flatMap_cons, List.flatMap_nil, List.append_nil, List.take_of_length_le (by simp), hw4]
      unfold ordG
      rw [hz]
      rfl
    obtain ⟨w, hwk⟩ : ∃ w, ws4[k]? = some w := ⟨_, List.getElem?_eq_getElem hlt2⟩
    have hlt2' : (k : Int) < ws4.length := by omega
    have hwm := List.mem_of_getElem? hwk
    obtain ⟨v', n, full, H7, happ1, p7, hn7, hv', ho7⟩ := app_one (hLL.inn w hwm) z (by have := hw4l w hwm; omega)
    have hH5A : A.length ≤ H5.length := hn5.acc.1.length_le
    have hu5n : nm u5 ≠ n := by
      have h1 := hn5.lt.2
      rcases h1 with h1 | h1
      · rcases hn5.acc.2.2 with ⟨_, h2⟩ | ⟨h2, _⟩
        · rw [h2]; simp only [nm]; omega
        · rw [h1] at h2; simp at h2
      · omega
    obtain ⟨v9, H9, happ2, hn9⟩ := (hn5.mono p7).push (v', z :: w.2) (.inr ⟨n, full, [], hv', by omega, ho7, hu5n, fun y hy => (hn5.lt.1 y hy).imp id (fun h => by omega)⟩) (by simp [lim]; omega)
    simp only at happ2
    have hv'c : v'.cells? = some [v'] := by rw [hv']; rfl
    simp (maxSteps := 4000000) -implicitDefEqProofs -dsimp (disch := omega) only [↓AW_skip, ↓AW_ops, ↓AW_seq, ↓AW_cond, ↓AW_block, ↓AOps_nil, ↓AOps_pu, ↓AOps_ld, ↓AOps_ha, on_some, extK_false, extK_app, condB_t, ↓then_normal, ↓inBlock_normal, pval, lval, hval_blds, hval_app, rd_S, rd_C, put_S, cells_int, splice, partA, fillA, repl, eq_self, mk, List.foldl_cons, List.foldl_nil, List.replicate_succ, List.replicate_zero, List.set_cons_zero, List.set_cons_succ, List.getElem?_cons_zero, List.getElem?_cons_succ, List.drop_zero, List.drop_succ_cons, List.drop_nil, List.take_zero, List.take_succ_cons, List.take_nil, Option.getD_some, map_c, map_n, List.length_cons, List.length_nil, Nat.reduceAdd, Nat.reduceLeDiff, Nat.zero_add, List.nil_append, List.append_nil, bin_add, bin_lss, w64, if_true, if_false, Bool.false_eq_true, decide_true, true_and, and_true, hlt2', hLL.ls.idx hlt2, hLL.ls.ld0 hwk 1 false (by decide), e0, List.replicate_zero, repl, happ1, happ2, hv'c]
    have hlen7 := p7.length_le
    refine ⟨(k + 1, v9, H9, ws5 ++ [(v', z :: w.2)]), ⟨⟨hlt2, by simp only [List.length_append, List.length_cons, List.length_nil]; omega⟩, hn9, ?_, fun n' o hn' ho => ?_, ?_, ?_⟩, by simp [Has, rd_s], rfl, by simp only; omega⟩
    · simp only [lists, List.map_append, List.map_cons, List.map_nil]
      rw [show List.map Prod.snd ws5 = lists ws5 from rfl, hw5, List.take_add_one, show (List.map Prod.snd ws4)[k]? = some w.2 from ws_get hwk]
      simp [lists]
    · have h1 := pre_get (p7.trans (pre_app H7 [AObj.cells true [v']])) (hkeep n' o hn' ho)
      have hn'4 := (List.getElem?_eq_some_iff.1 ho).1
      refine app_keep happ2 h1 ?_
      rcases hpos with (h2 | h2) | h2
      · right; omega
      · exact .inl h2
      · right; omega
    · rcases app_nm happ2 with h2 | h2
      · simp only; rw [h2]; exact hpos
      · right
        simp only
        rw [h2]
        simp
        omega
    · have := app_len happ2
      simp at this
      simp only
      omega
end Go.Proofs.Ytgidfejkfdkflaa

namespace Go.Proofs.Ytgidfejkfdkflaa
open Go Go.Eng
/-- Whether a deal is as good for all, and better for one. -/
def imB (V : List (List Int)) (d o : List Int) : Bool := gnB V d ((nums V.length).zip o) false
def IM (V : List (List Int)) (d : List Int) (A H : AHeap) (y : AV) (b : Bool) : Prop :=
  A <+: H ∧ ((b = false ∧ y = .nilS ∧ ∀ o : List Int, o.Perm (nums V.length) → imB V d o = false) ∨ (b = true ∧ ∃ o : List Int, o.Perm (nums V.length) ∧ imB V d o = true ∧ L1 H y o))
theorem nums_len (n : Nat) : (nums n).length = n := by simp [nums]
set_option maxHeartbeats 4000000 in
theorem s26 {ws : List (AV × List Int)} {v u : AV} {d : List Int} {A : AHeap} (hV : LL A v ws) (hs : Sz ws) (hd : L1 A u d) (h1 : 1 ≤ ws.length) (h5 : ws.length ≤ 5) (hdl : d.length = ws.length) :
    ∃ r H', ACalls Try.prog 26 [v, u] A r H' ∧ ∃ y b, r = .tuple [y, B b] ∧ IM (lists ws) d A H' y b := by
  refine acallsR hmix Try.func26 (by kernel_rfl) t26 _ 2 rfl (by decide) ?_
  have hll : (lists ws).length = ws.length := by simp
  have hA : 0 < A.length := hV.pos (by omega)
  have c28 := s28 hV (by omega)
  have p1 := pre_out A ((nums ws.length).flatMap e1) (nums ws.length).length
  have q1 := Ls_out A e1_len (nums ws.length)
  generalize outV 1 A (nums ws.length).length = v1 at *
  generalize outH A ((nums ws.length).flatMap e1) (nums ws.length).length = A1 at *
  obtain ⟨r2, A2, c27, ws2, n2, w2⟩ := s27 ws.length (nums ws.length) v1 A1 (nums_len _) h5 (by have := p1.length_le; omega) q1
  dsimp only [m26]
  simp (maxSteps := 4000000) -implicitDefEqProofs -dsimp (disch := omega) only [↓AW_ops, ↓AW_seq, ↓AOps_nil, ↓AOps_pu, ↓AOps_call, on_some, ↓then_normal, pval, rd_S, rd_C, put_S, List.replicate_succ, List.replicate_zero, List.set_cons_zero, List.set_cons_succ, List.getElem?_cons_zero, List.getElem?_cons_succ, Option.getD_some, map_c, map_n, Nat.reduceSub, List.cons_append, List.nil_append]
  refine CallK.of c28 ?_
  simp (maxSteps := 4000000) -implicitDefEqProofs -dsimp (disch := omega) only [↓AW_ops, ↓AW_seq, ↓AOps_nil, ↓AOps_pu, ↓AOps_call, on_some, extK_false, ↓then_normal, pval, rd_S, put_S, List.replicate_succ, List.replicate_zero, List.set_cons_zero, List.set_cons_succ, List.getElem?_cons_zero, List.getElem?_cons_succ, Option.getD_some, map_c, map_n, Nat.reduceSub, List.cons_append, List.nil_append]
  refine CallK.of c27 ?_
  have p2 := p1.trans n2.acc.1
  have hV2 := hV.mono p2
  have hd2 := hd.mono p2
  have q2 := q1.mono n2.acc.1
  have hLL := n2.ll
  have hcnt : ws2.length ≤ 3125 := by
    have := ordF_cnt ws.length (nums ws.length) (nums_len _) h5
    rw [← w2, List.length_map] at this
    have h3 : 5 ^ ws.length ≤ 5 ^ 5 := Nat.pow_le_pow_right (by omega) h5
    omega
  simp (maxSteps := 4000000) -implicitDefEqProofs -dsimp (disch := omega) only [↓AW_block, ↓AOps_nil, ↓AOps_pu, on_some, extK_false, ↓then_normal, pval, rd_S, rd_C, put_S, ↓AW_toLoop, List.replicate_succ, List.replicate_zero, List.set_cons_zero, List.set_cons_succ, List.getElem?_cons_zero, List.getElem?_cons_succ, Option.getD_some, Nat.reduceSub, List.cons_append, List.nil_append, hLL.ls.len]
  refine LoopK.by 25 (fun k : Nat => k ≤ ws2.length ∧ ∀ x ∈ ws2.take k, imB (lists ws) d x.2 = false) (fun k => [(0, v), (1, u), (6, v1), (12, r2), (13, I ws2.length), (14, I k)]) (fun _ => A2) (fun k => ws2.length - k) 0 ⟨Nat.zero_le _, by simp⟩ rfl (by simp [Has, rd_s]) rfl ?_
  rintro k ⟨hk, he⟩
  by_cases hlt : k < ws2.length
  · obtain ⟨w, hz⟩ : ∃ z, ws2[k]? = some z := ⟨_, List.getElem?_eq_getElem hlt⟩
    have hlt' : (k : Int) < ws2.length := by omega
    have hwm := List.mem_of_getElem? hz
    have hperm : w.2.Perm (nums ws.length) := ordF_len _ _ (nums_len _) _ (by rw [← w2]; exact mem_lists hwm)
    simp (maxSteps := 4000000) -implicitDefEqProofs -dsimp (disch := omega) only [↓AW_skip, ↓AW_ops, ↓AW_seq, ↓AW_cond, ↓AW_block, ↓AOps_nil, ↓AOps_pu, ↓AOps_ld, ↓AOps_call, on_some, condB_t, ↓then_normal, pval, lval, rd_S, put_S, partA, eq_self, mk, List.foldl_cons, List.foldl_nil, List.replicate_succ, List.replicate_zero, List.set_cons_zero, List.set_cons_succ, List.getElem?_cons_zero, List.getElem?_cons_succ, List.drop_zero, List.take_succ_cons, List.take_nil, Option.getD_some, map_c, map_n, List.length_cons, List.length_nil, Nat.reduceLeDiff, Nat.zero_add, bin_lss, if_true, if_false, Bool.false_eq_true, decide_true, hlt', hLL.ls.idx hlt, hLL.ls.ld0 hz 1 false (by decide), e0]
    refine CallK.of (s38 hV2 hs hd2 q2 (hLL.inn w hwm) (by rw [hperm.length_eq]) (by rw [nums_len]; omega) hdl (fun i hi => by
      unfold nums at hi
      obtain ⟨j, hj, rfl⟩ := List.mem_map.1 hi
      have := List.mem_range.1 hj
      omega)) ?_
    have hB : gnB (lists ws) d ((nums ws.length).zip w.2) false = imB (lists ws) d w.2 := by unfold imB; rw [hll]
    rw [hB]
    by_cases h : imB (lists ws) d w.2 = true
    · simp (maxSteps := 4000000) -implicitDefEqProofs -dsimp (disch := omega) only [↓AW_ops, ↓AW_seq, ↓AW_cond, ↓AW_ret, ↓AOps_nil, ↓AOps_pu, on_some, extK_same, condB_t, ↓then_normal, ↓then_ret, ↓inBlock_ret, ↓FinR_ret, pval, rd_S, rd_C, put_S, resV, resL, mk, List.foldl_cons, List.foldl_nil, List.replicate_succ, List.replicate_zero, List.set_cons_zero, List.set_cons_succ, List.getElem?_cons_zero, List.getElem?_cons_succ, Option.getD_some, h]
      exact ⟨_, _, gc_all, w.1, true, rfl, p2, .inr ⟨rfl, w.2, by rw [hll]; exact hperm, h, hLL.inn w hwm⟩⟩
    · have h : imB (lists ws) d w.2 = false := by simpa using h
      simp (maxSteps := 4000000) -implicitDefEqProofs -dsimp (disch := omega) only [↓AW_skip, ↓AW_ops, ↓AW_cond, ↓AOps_nil, ↓AOps_pu, on_some, extK_same, condB_f, ↓then_normal, ↓inBlock_normal, pval, rd_S, rd_C, put_S, eq_self, mk, List.foldl_cons, List.foldl_nil, List.replicate_succ, List.replicate_zero, List.set_cons_zero, List.set_cons_succ, List.getElem?_cons_zero, List.getElem?_cons_succ, Option.getD_some, List.length_cons, List.length_nil, Nat.reduceAdd, Nat.zero_add, bin_add, w64, true_and, h]
      refine ⟨k + 1, ⟨hlt, fun x hx => ?_⟩, by simp [Has, rd_s], by omega⟩
      rcases (take_mem hz).1 hx with hx | rfl
      · exact he x hx
      · exact h
  · have hlt' : ¬ ((k : Int) < ws2.length) := by omega
    rw [List.take_of_length_le (by omega)] at he
    simp (maxSteps := 4000000) -implicitDefEqProofs -dsimp (disch := omega) only [↓AW_ops, ↓AW_seq, ↓AW_cond, ↓AW_exit, ↓AW_ret, ↓AOps_nil, ↓AOps_pu, on_some, condB_f, ↓then_normal, ↓then_exit, ↓inBlock_exit, ↓FinR_ret, pval, rd_S, rd_C, put_S, resV, resL, eq_self, mk, List.foldl_cons, List.foldl_nil, List.replicate_succ, List.replicate_zero, List.set_cons_zero, List.set_cons_succ, List.getElem?_cons_zero, List.getElem?_cons_succ, Option.getD_some, bin_lss, if_true, decide_false, hlt']
    refine ⟨_, _, gc_all, .nilS, false, rfl, p2, .inl ⟨rfl, rfl, fun o ho => ?_⟩⟩
    rw [hll] at ho
    have := ordF_all _ _ (nums_len ws.length) o ho
    rw [← w2] at this
    obtain ⟨x, hx, rfl⟩ := List.mem_map.1 this
    exact he x hx
theorem s12 {ws : List (AV × List Int)} {v u : AV} {d : List Int} {A : AHeap} (hV : LL A v ws) (hs : Sz ws) (hd : L1 A u d) (hg : gd (lists ws)) (ho : isO d ws.length) :
    ∃ r H', ACalls Try.prog 12 [v, u] A r H' ∧ ∃ y b, r = .tuple [y, B b, I 0] ∧ IM (lists ws) d A H' y b := by
  refine acallsR hmix Try.func12 (by kernel_rfl) t12 _ 2 rfl (by decide) ?_
  have hll : (lists ws).length = ws.length := by simp
  have hn := hg.1
  rw [hll] at hn
  have hE : oE (lists ws) d = 0 := by rw [oE, if_pos ⟨hg, by rw [hll]; exact ho⟩]
  obtain ⟨r, H, hc, y, b, rfl, him⟩ := s26 hV hs hd hn.1 hn.2 ho.1
  dsimp only [m12]
  simp (maxSteps := 4000000) -implicitDefEqProofs -dsimp (disch := omega) only [↓AW_ops, ↓AW_seq, ↓AOps_nil, ↓AOps_pu, ↓AOps_call, on_some, ↓then_normal, pval, rd_S, rd_C, put_S, List.replicate_succ, List.replicate_zero, List.set_cons_zero, List.set_cons_succ, List.getElem?_cons_zero, List.getElem?_cons_succ, Option.getD_some, map_c, map_n, Nat.reduceSub, List.cons_append, List.nil_append]
  refine CallK.of (s17 hV hs hd (by have := ho.1; omega)) ?_
  simp (maxSteps := 4000000) -implicitDefEqProofs -dsimp (disch := omega) only [↓AW_skip, ↓AW_ops, ↓AW_seq, ↓AW_cond, ↓AOps_nil, ↓AOps_pu, ↓AOps_call, on_some, extK_same, condB_f, ↓then_normal, pval, rd_S, rd_C, put_S, eq_self, List.replicate_succ, List.replicate_zero, List.set_cons_zero, List.set_cons_succ, List.getElem?_cons_zero, List.getElem?_cons_succ, Option.getD_some, map_c, map_n, Nat.reduceSub, List.cons_append, List.nil_append, bin_neq, decide_false, not_true_eq_false, hE]
  refine CallK.of hc ?_
  simp (maxSteps := 4000000) -implicitDefEqProofs -dsimp (disch := omega) only [↓AW_ops, ↓AW_seq, ↓AW_ret, ↓AOps_nil, ↓AOps_pu, on_some, extK_false, ↓then_normal, ↓FinR_ret, pval, rd_S, rd_C, put_S, resV, resL, List.replicate_succ, List.replicate_zero, List.set_cons_zero, List.set_cons_succ, List.getElem?_cons_zero, List.getElem?_cons_succ, Option.getD_some, Nat.reduceSub, List.cons_append, List.nil_append]
  exact ⟨_, _, gc_all, y, b, rfl, him⟩
end Go.Proofs.Ytgidfejkfdkflaa

