/- What the law's proof rests on, part 4: for all that is said in each line. No conditions. -/
import Derived.Test.YtnnbggcckabhdaaRows
import Derived.Test.YtnnbggcckabhdaaCdA
namespace Go.Proofs.Ytnnbggcckabhdaa
open Go Go.Eng
/-- selion/selionref02.SameField [loop [0, 1, 5]] -/
def m43 : MFun := ⟨26, [], [.mov (.s 4)],
 .seq (.ops [⟨(some 4), some undefA, none, false, .pu (.mov (.c (.bool false)))⟩])
 (.seq (.seq (.ops [⟨(some 6), some undefA, none, false, .pu (.mov (.s 0))⟩,
   ⟨(some 7), some undefA, none, false, .pu (.len (.s 6))⟩,
   ⟨(some 8), some undefA, none, false, .pu (.mov (.s 1))⟩,
   ⟨(some 9), some undefA, none, false, .pu (.len (.s 8))⟩,
   ⟨(some 10), some undefA, none, false, .pu (.bin .neq (.s 7) (.s 9))⟩])
 (.cond (.s 10) (.seq (.ops [⟨(some 4), some undefA, none, false, .pu (.mov (.c (.bool false)))⟩])
  (.ret))
 (.skip)))
 (.seq (.seq (.ops [⟨(some 5), some undefA, none, false, .pu (.mov (.c (.int .i64 0)))⟩])
 (.block 0 (.loop (.seq (.seq (.ops [⟨(some 11), some undefA, none, false, .pu (.mov (.s 5))⟩,
     ⟨(some 12), some undefA, none, false, .pu (.mov (.s 0))⟩,
     ⟨(some 13), some undefA, none, false, .pu (.len (.s 12))⟩,
     ⟨(some 14), some undefA, none, false, .pu (.bin .lss (.s 11) (.s 13))⟩])
   (.cond (.s 14) (.skip)
   (.exit 0)))
   (.seq (.block 1 (.seq (.ops [⟨(some 17), some undefA, none, true, .pu (.mov (.s 0))⟩,
      ⟨(some 18), some undefA, none, true, .pu (.mov (.s 5))⟩,
      ⟨(some 19), some undefA, none, true, .pu (.idx 2 (.s 17) (.s 18))⟩,
      ⟨(some 20), some undefA, none, true, .ld (.ld 2 true (.s 19))⟩,
      ⟨(some 21), some undefA, none, true, .pu (.mov (.s 1))⟩,
      ⟨(some 22), some undefA, none, true, .pu (.mov (.s 5))⟩,
      ⟨(some 23), some undefA, none, true, .pu (.idx 2 (.s 21) (.s 22))⟩,
      ⟨(some 24), some undefA, none, true, .ld (.ld 2 true (.s 23))⟩,
      ⟨(some 25), some undefA, none, false, .pu (.eqs true [true, true] (.s 20) (.s 24))⟩])
    (.cond (.s 25) (.seq (.ops [⟨(some 4), some undefA, none, false, .pu (.mov (.c (.bool false)))⟩])
     (.ret))
    (.skip))))
   (.ops [⟨(some 15), some undefA, none, false, .pu (.mov (.s 5))⟩,
     ⟨(some 16), some undefA, none, false, .pu (.bin .add (.s 15) (.c (.int .i64 1)))⟩,
     ⟨(some 5), some undefA, none, false, .pu (.mov (.s 16))⟩]))))))
 (.seq (.ops [⟨(some 4), some undefA, none, false, .pu (.mov (.c (.bool true)))⟩])
 (.ret))))⟩
theorem t43 : trF Try.prog [] [] Try.f43 = some m43 := by kernel_rfl
/-- selion/soil.Sum [loop [7, 8, 9]] -/
def m57 : MFun := ⟨88, [], [.mov (.s 4), .mov (.s 5)],
 .seq (.ops [⟨(some 4), some undefA, none, false, .pu (.mov (.c (.nilS)))⟩,
   ⟨(some 5), some undefA, none, false, .pu (.mov (.c (.int .i64 0)))⟩])
 (.seq (.seq (.ops [⟨(some 11), some undefA, none, false, .pu (.mov (.s 0))⟩,
   ⟨(some 12), some undefA, none, false, .pu (.mov (.s 1))⟩,
   ⟨(some 13), some undefA, none, false, .call 82 [(.s 11), (.s 12)]⟩,
   ⟨(some 6), some undefA, none, false, .pu (.mov (.s 13))⟩])
 (.seq (.ops [⟨(some 14), some undefA, none, false, .pu (.mov (.s 6))⟩,
   ⟨(some 15), some undefA, none, false, .pu (.bin .neq (.s 14) (.c (.int .i64 0)))⟩])
 (.cond (.s 15) (.seq (.ops [⟨(some 16), some undefA, none, false, .pu (.mov (.s 6))⟩,
    ⟨(some 4), some undefA, none, false, .pu (.mov (.c (.nilS)))⟩,
    ⟨(some 5), some undefA, none, false, .pu (.mov (.s 16))⟩])
  (.ret))
 (.skip))))
 (.seq (.seq (.ops [⟨(some 17), some undefA, none, false, .pu (.mov (.s 0))⟩,
   ⟨(some 18), some undefA, none, false, .call 77 [(.s 17)]⟩,
   ⟨(some 19), some undefA, none, false, .pu (.mov (.s 1))⟩,
   ⟨(some 20), some undefA, none, false, .call 77 [(.s 19)]⟩,
   ⟨(some 21), some undefA, none, false, .pu (.bin .neq (.s 18) (.s 20))⟩])
 (.cond (.s 21) (.seq (.ops [⟨(some 4), some undefA, none, false, .pu (.mov (.c (.nilS)))⟩,
    ⟨(some 5), some undefA, none, false, .pu (.mov (.c (.int .i64 5)))⟩])
  (.ret))
 (.skip)))
 (.seq (.ops [⟨(some 22), some undefA, none, false, .pu (.mov (.s 0))⟩,
   ⟨(some 23), some undefA, none, false, .call 92 [(.s 22)]⟩,
   ⟨(some 24), some undefA, none, false, .pu (.mov (.s 1))⟩,
   ⟨(some 25), some undefA, none, false, .call 92 [(.s 24)]⟩,
   ⟨(some 7), some undefA, none, false, .pu (.mov (.s 23))⟩,
   ⟨(some 8), some undefA, none, false, .pu (.mov (.s 25))⟩])
 (.seq (.ops [⟨(some 9), some undefA, none, false, .pu (.mov (.c (.nilS)))⟩])
 (.seq (.block 0 (.loop (.seq (.seq (.ops [⟨(some 26), some undefA, none, false, .pu (.mov (.s 7))⟩,
     ⟨(some 27), some undefA, none, false, .pu (.len (.s 26))⟩,
     ⟨(some 28), some undefA, none, false, .pu (.bin .gtr (.s 27) (.c (.int .i64 0)))⟩])
   (.cond (.s 28) (.skip)
   (.exit 0)))
   (.block 1 (.seq (.ops [⟨(some 29), some undefA, none, true, .pu (.mov (.s 7))⟩,
      ⟨(some 30), some undefA, none, true, .pu (.idx 2 (.s 29) (.c (.int .i64 0)))⟩,
      ⟨(some 31), some undefA, none, true, .pu (.fad 0 (.s 30))⟩,
      ⟨(some 32), some undefA, none, true, .ld (.ld 1 false (.s 31))⟩,
      ⟨(some 33), some undefA, none, true, .pu (.mov (.s 8))⟩,
      ⟨(some 34), some undefA, none, true, .pu (.idx 2 (.s 33) (.c (.int .i64 0)))⟩,
      ⟨(some 35), some undefA, none, true, .pu (.fad 0 (.s 34))⟩,
      ⟨(some 36), some undefA, none, true, .ld (.ld 1 false (.s 35))⟩,
      ⟨(some 37), some undefA, none, false, .pu (.mm false (.s 32) [(.s 36)])⟩,
      ⟨(some 10), some undefA, none, false, .pu (.mov (.s 37))⟩])
    (.seq (.ops [⟨(some 38), some undefA, none, true, .pu (.mov (.s 9))⟩,
      ⟨(some 39), some undefA, none, true, .pu (.mov (.s 10))⟩,
      ⟨(some 40), some undefA, none, true, .pu (.mov (.s 7))⟩,
      ⟨(some 41), some undefA, none, true, .pu (.idx 2 (.s 40) (.c (.int .i64 0)))⟩,
      ⟨(some 42), some undefA, none, true, .pu (.fad 1 (.s 41))⟩,
      ⟨(some 43), some undefA, none, true, .ld (.ld 1 false (.s 42))⟩,
      ⟨(some 44), some undefA, none, true, .pu (.mov (.s 8))⟩,
      ⟨(some 45), some undefA, none, true, .pu (.idx 2 (.s 44) (.c (.int .i64 0)))⟩,
      ⟨(some 46), some undefA, none, true, .pu (.fad 1 (.s 45))⟩,
      ⟨(some 47), some undefA, none, true, .ld (.ld 1 false (.s 46))⟩,
      ⟨(some 48), some undefA, none, false, .pu (.bin .add (.s 43) (.s 47))⟩,
      ⟨(some 49), some undefA, none, false, .pu (.build [.int .i64 0, .int .i64 0] [(0, 1, (.s 39)), (1, 1, (.s 48))])⟩,
      ⟨(some 50), some undefA, none, false, .ha (.blds 2 1 [.int .i64 0, .int .i64 0] [(0, 2, (.s 49))])⟩,
      ⟨(some 51), some undefA, none, false, .ha (.app 2 (.s 38) (.s 50))⟩,
      ⟨(some 9), some undefA, none, false, .pu (.mov (.s 51))⟩])
    (.seq (.ops [⟨(some 52), some undefA, none, false, .pu (.mov (.s 7))⟩,
      ⟨(some 53), some undefA, none, false, .pu (.idx 2 (.s 52) (.c (.int .i64 0)))⟩,
      ⟨(some 54), some undefA, none, false, .pu (.fad 0 (.s 53))⟩,
      ⟨(some 55), some undefA, none, false, .ld (.ld 1 false (.s 54))⟩,
      ⟨(some 56), some undefA, none, false, .pu (.mov (.s 10))⟩,
      ⟨(some 57), some undefA, none, false, .pu (.bin .sub (.s 55) (.s 56))⟩,
      ⟨(some 58), some undefA, none, false, .pu (.idx 2 (.s 52) (.c (.int .i64 0)))⟩,
      ⟨(some 59), some undefA, none, false, .pu (.fad 0 (.s 58))⟩,
      ⟨none, some undefA, none, false, .ha (.st 1 (.s 59) (.s 57))⟩])
    (.seq (.ops [⟨(some 60), some undefA, none, false, .pu (.mov (.s 8))⟩,
      ⟨(some 61), some undefA, none, false, .pu (.idx 2 (.s 60) (.c (.int .i64 0)))⟩,
      ⟨(some 62), some undefA, none, false, .pu (.fad 0 (.s 61))⟩,
      ⟨(some 63), some undefA, none, false, .ld (.ld 1 false (.s 62))⟩,
      ⟨(some 64), some undefA, none, false, .pu (.mov (.s 10))⟩,
      ⟨(some 65), some undefA, none, false, .pu (.bin .sub (.s 63) (.s 64))⟩,
      ⟨(some 66), some undefA, none, false, .pu (.idx 2 (.s 60) (.c (.int .i64 0)))⟩,
      ⟨(some 67), some undefA, none, false, .pu (.fad 0 (.s 66))⟩,
      ⟨none, some undefA, none, false, .ha (.st 1 (.s 67) (.s 65))⟩])
    (.seq (.seq (.ops [⟨(some 68), some undefA, none, false, .pu (.mov (.s 7))⟩,
      ⟨(some 69), some undefA, none, false, .pu (.idx 2 (.s 68) (.c (.int .i64 0)))⟩,
      ⟨(some 70), some undefA, none, false, .pu (.fad 0 (.s 69))⟩,
      ⟨(some 71), some undefA, none, false, .ld (.ld 1 false (.s 70))⟩,
      ⟨(some 72), some undefA, none, false, .pu (.bin .eql (.s 71) (.c (.int .i64 0)))⟩])
    (.cond (.s 72) (.ops [⟨(some 73), some undefA, none, false, .pu (.mov (.s 7))⟩,
       ⟨(some 74), some undefA, none, false, .pu (.slc 2 (.s 73) (some (.c (.int .i64 1))) none none)⟩,
       ⟨(some 7), some undefA, none, false, .pu (.mov (.s 74))⟩])
    (.skip)))
    (.seq (.ops [⟨(some 75), some undefA, none, false, .pu (.mov (.s 8))⟩,
      ⟨(some 76), some undefA, none, false, .pu (.idx 2 (.s 75) (.c (.int .i64 0)))⟩,
      ⟨(some 77), some undefA, none, false, .pu (.fad 0 (.s 76))⟩,
      ⟨(some 78), some undefA, none, false, .ld (.ld 1 false (.s 77))⟩,
      ⟨(some 79), some undefA, none, false, .pu (.bin .eql (.s 78) (.c (.int .i64 0)))⟩])
    (.cond (.s 79) (.ops [⟨(some 80), some undefA, none, false, .pu (.mov (.s 8))⟩,
       ⟨(some 81), some undefA, none, false, .pu (.slc 2 (.s 80) (some (.c (.int .i64 1))) none none)⟩,
       ⟨(some 8), some undefA, none, false, .pu (.mov (.s 81))⟩])
    (.skip))))))))))))
 (.seq (.seq (.ops [⟨(some 82), some undefA, none, false, .pu (.mov (.s 9))⟩,
   ⟨(some 83), some undefA, none, false, .call 95 [(.s 82), (.c (.fn 96 []))]⟩])
 (.cond (.s 83) (.seq (.ops [⟨(some 4), some undefA, none, false, .pu (.mov (.c (.nilS)))⟩,
    ⟨(some 5), some undefA, none, false, .pu (.mov (.c (.int .i64 1)))⟩])
  (.ret))
 (.skip)))
 (.seq (.seq (.ops [⟨(some 84), some undefA, none, false, .pu (.mov (.s 9))⟩,
   ⟨(some 85), some undefA, none, false, .pu (.len (.s 84))⟩,
   ⟨(some 86), some undefA, none, false, .pu (.bin .gtr (.s 85) (.c (.int .i64 6)))⟩])
 (.cond (.s 86) (.seq (.ops [⟨(some 4), some undefA, none, false, .pu (.mov (.c (.nilS)))⟩,
    ⟨(some 5), some undefA, none, false, .pu (.mov (.c (.int .i64 3)))⟩])
  (.ret))
 (.skip)))
 (.seq (.ops [⟨(some 87), some undefA, none, false, .pu (.mov (.s 9))⟩,
   ⟨(some 4), some undefA, none, false, .pu (.mov (.s 87))⟩,
   ⟨(some 5), some undefA, none, false, .pu (.mov (.c (.int .i64 0)))⟩])
 (.ret)))))))))⟩
theorem t57 : trF Try.prog [] [] Try.f57 = some m57 := by kernel_rfl
/-- selion/selionref02.Sum [loop [7, 8, 9, 10, 11, 12]] -/
def m58 : MFun := ⟨85, [], [.mov (.s 4), .mov (.s 5)],
 .seq (.ops [⟨(some 4), some undefA, none, false, .pu (.mov (.c (.nilS)))⟩,
   ⟨(some 5), some undefA, none, false, .pu (.mov (.c (.int .i64 0)))⟩])
 (.seq (.ops [⟨(some 13), some undefA, none, false, .pu (.mov (.s 0))⟩,
   ⟨(some 14), some undefA, none, false, .pu (.mov (.s 1))⟩,
   ⟨(some 15), some undefA, none, false, .call 84 [(.s 13), (.s 14)]⟩,
   ⟨(some 6), some undefA, none, false, .pu (.mov (.s 15))⟩])
 (.seq (.seq (.ops [⟨(some 16), some undefA, none, false, .pu (.mov (.s 6))⟩,
   ⟨(some 17), some undefA, none, false, .pu (.bin .neq (.s 16) (.c (.int .i64 0)))⟩])
 (.cond (.s 17) (.seq (.ops [⟨(some 18), some undefA, none, false, .pu (.mov (.s 6))⟩,
    ⟨(some 4), some undefA, none, false, .pu (.mov (.c (.nilS)))⟩,
    ⟨(some 5), some undefA, none, false, .pu (.mov (.s 18))⟩])
  (.ret))
 (.skip)))
 (.seq (.ops [⟨(some 19), some undefA, none, false, .pu (.mov (.s 0))⟩,
   ⟨(some 20), some undefA, none, false, .call 68 [(.s 19)]⟩,
   ⟨(some 21), some undefA, none, false, .pu (.mov (.s 1))⟩,
   ⟨(some 22), some undefA, none, false, .call 68 [(.s 21)]⟩,
   ⟨(some 7), some undefA, none, false, .pu (.mov (.s 20))⟩,
   ⟨(some 8), some undefA, none, false, .pu (.mov (.s 22))⟩])
 (.seq (.seq (.ops [⟨(some 23), some undefA, none, false, .pu (.mov (.s 7))⟩,
   ⟨(some 24), some undefA, none, false, .pu (.len (.s 23))⟩,
   ⟨(some 25), some undefA, none, false, .pu (.mov (.s 8))⟩,
   ⟨(some 26), some undefA, none, false, .pu (.len (.s 25))⟩,
   ⟨(some 27), some undefA, none, false, .pu (.bin .neq (.s 24) (.s 26))⟩])
 (.cond (.s 27) (.seq (.ops [⟨(some 4), some undefA, none, false, .pu (.mov (.c (.nilS)))⟩,
    ⟨(some 5), some undefA, none, false, .pu (.mov (.c (.int .i64 5)))⟩])
  (.ret))
 (.skip)))
 (.seq (.ops [⟨(some 28), some undefA, none, false, .pu (.mov (.s 0))⟩,
   ⟨(some 29), some undefA, none, false, .call 97 [(.s 28)]⟩,
   ⟨(some 30), some undefA, none, false, .pu (.mov (.s 1))⟩,
   ⟨(some 31), some undefA, none, false, .call 97 [(.s 30)]⟩,
   ⟨(some 9), some undefA, none, false, .pu (.mov (.s 29))⟩,
   ⟨(some 10), some undefA, none, false, .pu (.mov (.s 31))⟩])
 (.seq (.ops [⟨(some 11), some undefA, none, false, .pu (.mov (.c (.nilS)))⟩])
 (.seq (.seq (.ops [⟨(some 12), some undefA, none, false, .pu (.mov (.c (.int .i64 0)))⟩])
 (.block 0 (.loop (.seq (.seq (.ops [⟨(some 32), some undefA, none, false, .pu (.mov (.s 12))⟩,
     ⟨(some 33), some undefA, none, false, .pu (.mov (.s 7))⟩,
     ⟨(some 34), some undefA, none, false, .pu (.len (.s 33))⟩,
     ⟨(some 35), some undefA, none, false, .pu (.bin .lss (.s 32) (.s 34))⟩])
   (.cond (.s 35) (.skip)
   (.exit 0)))
   (.seq (.block 1 (.seq (.seq (.ops [⟨(some 38), some undefA, none, true, .pu (.mov (.s 7))⟩,
      ⟨(some 39), some undefA, none, true, .pu (.mov (.s 12))⟩,
      ⟨(some 40), some undefA, none, true, .pu (.idx 1 (.s 38) (.s 39))⟩,
      ⟨(some 41), some undefA, none, true, .ld (.ld 1 false (.s 40))⟩,
      ⟨(some 42), some undefA, none, true, .pu (.mov (.s 8))⟩,
      ⟨(some 43), some undefA, none, true, .pu (.mov (.s 12))⟩,
      ⟨(some 44), some undefA, none, true, .pu (.idx 1 (.s 42) (.s 43))⟩,
      ⟨(some 45), some undefA, none, true, .ld (.ld 1 false (.s 44))⟩,
      ⟨(some 46), some undefA, none, false, .pu (.bin .add (.s 41) (.s 45))⟩,
      ⟨(some 47), some undefA, none, false, .pu (.bin .gtr (.s 46) (.c (.int .i64 20)))⟩])
    (.cond (.s 47) (.seq (.ops [⟨(some 4), some undefA, none, false, .pu (.mov (.c (.nilS)))⟩,
       ⟨(some 5), some undefA, none, false, .pu (.mov (.c (.int .i64 1)))⟩])
     (.ret))
    (.skip)))
    (.seq (.seq (.ops [⟨(some 48), some undefA, none, false, .pu (.mov (.s 9))⟩,
      ⟨(some 49), some undefA, none, false, .pu (.mov (.s 12))⟩,
      ⟨(some 50), some undefA, none, false, .pu (.idx 1 (.s 48) (.s 49))⟩,
      ⟨(some 51), some undefA, none, false, .ld (.ld 1 false (.s 50))⟩,
      ⟨(some 52), some undefA, none, false, .pu (.mov (.s 51))⟩,
      ⟨(some 53), some undefA, (some (52, false)), false, .pu (.mov (.s 10))⟩,
      ⟨(some 54), some undefA, (some (52, false)), false, .pu (.mov (.s 12))⟩,
      ⟨(some 55), some undefA, (some (52, false)), false, .pu (.idx 1 (.s 53) (.s 54))⟩,
      ⟨(some 56), some undefA, (some (52, false)), false, .ld (.ld 1 false (.s 55))⟩,
      ⟨(some 57), some undefA, none, false, .pu (.pick (.s 52) (.c (.bool true)) (.s 56))⟩])
    (.cond (.s 57) (.ops [⟨(some 58), some undefA, none, true, .pu (.mov (.s 11))⟩,
       ⟨(some 59), some undefA, none, true, .pu (.mov (.s 7))⟩,
       ⟨(some 60), some undefA, none, true, .pu (.mov (.s 12))⟩,
       ⟨(some 61), some undefA, none, true, .pu (.idx 1 (.s 59) (.s 60))⟩,
       ⟨(some 62), some undefA, none, true, .ld (.ld 1 false (.s 61))⟩,
       ⟨(some 63), some undefA, none, true, .pu (.mov (.s 8))⟩,
       ⟨(some 64), some undefA, none, true, .pu (.mov (.s 12))⟩,
       ⟨(some 65), some undefA, none, true, .pu (.idx 1 (.s 63) (.s 64))⟩,
       ⟨(some 66), some undefA, none, true, .ld (.ld 1 false (.s 65))⟩,
       ⟨(some 67), some undefA, none, false, .pu (.bin .add (.s 62) (.s 66))⟩,
       ⟨(some 68), some undefA, none, false, .pu (.build [.int .i64 0, .int .i64 0] [(1, 1, (.s 67))])⟩,
       ⟨(some 69), some undefA, none, false, .ha (.blds 2 1 [.int .i64 0, .int .i64 0] [(0, 2, (.s 68))])⟩,
       ⟨(some 70), some undefA, none, false, .ha (.app 2 (.s 58) (.s 69))⟩,
       ⟨(some 11), some undefA, none, false, .pu (.mov (.s 70))⟩])
    (.skip)))
    (.ops [⟨(some 71), some undefA, none, false, .pu (.mov (.s 11))⟩,
      ⟨(some 72), some undefA, none, false, .pu (.mov (.s 11))⟩,
      ⟨(some 73), some undefA, none, false, .pu (.len (.s 72))⟩,
      ⟨(some 74), some undefA, none, false, .pu (.bin .sub (.s 73) (.c (.int .i64 1)))⟩,
      ⟨(some 75), some undefA, none, false, .pu (.idx 2 (.s 71) (.s 74))⟩,
      ⟨(some 76), some undefA, none, false, .pu (.fad 0 (.s 75))⟩,
      ⟨(some 77), some undefA, none, false, .ld (.ld 1 false (.s 76))⟩,
      ⟨(some 78), some undefA, none, false, .pu (.bin .add (.s 77) (.c (.int .i64 1)))⟩,
      ⟨(some 79), some undefA, none, false, .pu (.idx 2 (.s 71) (.s 74))⟩,
      ⟨(some 80), some undefA, none, false, .pu (.fad 0 (.s 79))⟩,
      ⟨none, some undefA, none, false, .ha (.st 1 (.s 80) (.s 78))⟩]))))
   (.ops [⟨(some 36), some undefA, none, false, .pu (.mov (.s 12))⟩,
     ⟨(some 37), some undefA, none, false, .pu (.bin .add (.s 36) (.c (.int .i64 1)))⟩,
     ⟨(some 12), some undefA, none, false, .pu (.mov (.s 37))⟩]))))))
 (.seq (.seq (.ops [⟨(some 81), some undefA, none, false, .pu (.mov (.s 11))⟩,
   ⟨(some 82), some undefA, none, false, .pu (.len (.s 81))⟩,
   ⟨(some 83), some undefA, none, false, .pu (.bin .gtr (.s 82) (.c (.int .i64 6)))⟩])
 (.cond (.s 83) (.seq (.ops [⟨(some 4), some undefA, none, false, .pu (.mov (.c (.nilS)))⟩,
    ⟨(some 5), some undefA, none, false, .pu (.mov (.c (.int .i64 3)))⟩])
  (.ret))
 (.skip)))
 (.seq (.ops [⟨(some 84), some undefA, none, false, .pu (.mov (.s 11))⟩,
   ⟨(some 4), some undefA, none, false, .pu (.mov (.s 84))⟩,
   ⟨(some 5), some undefA, none, false, .pu (.mov (.c (.int .i64 0)))⟩])
 (.ret))))))))))⟩
theorem t58 : trF Try.prog [] [] Try.f58 = some m58 := by kernel_rfl
/-- selion/soil.both [] -/
def m82 : MFun := ⟨11, [], [.mov (.s 4)],
 .seq (.ops [⟨(some 4), some undefA, none, false, .pu (.mov (.c (.int .i64 0)))⟩])
 (.seq (.ops [⟨(some 5), some undefA, none, false, .pu (.mov (.s 0))⟩,
   ⟨(some 6), some undefA, none, false, .call 37 [(.s 5)]⟩,
   ⟨(some 7), some undefA, none, false, .pu (.mov (.s 1))⟩,
   ⟨(some 8), some undefA, none, false, .call 37 [(.s 7)]⟩,
   ⟨(some 9), some undefA, none, false, .ha (.blds 1 2 [.int .i64 0] [(0, 1, (.s 6)), (1, 1, (.s 8))])⟩,
   ⟨(some 10), some undefA, none, false, .call 113 [(.s 9)]⟩,
   ⟨(some 4), some undefA, none, false, .pu (.mov (.s 10))⟩])
 (.ret))⟩
theorem t82 : trF Try.prog [] [] Try.f82 = some m82 := by kernel_rfl
/-- selion/selionref02.two [] -/
def m84 : MFun := ⟨13, [], [.mov (.s 4)],
 .seq (.ops [⟨(some 4), some undefA, none, false, .pu (.mov (.c (.int .i64 0)))⟩])
 (.seq (.ops [⟨(some 6), some undefA, none, false, .pu (.mov (.s 0))⟩,
   ⟨(some 7), some undefA, none, false, .call 38 [(.s 6)]⟩,
   ⟨(some 5), some undefA, none, false, .pu (.mov (.s 7))⟩])
 (.seq (.seq (.ops [⟨(some 8), some undefA, none, false, .pu (.mov (.s 5))⟩,
   ⟨(some 9), some undefA, none, false, .pu (.bin .neq (.s 8) (.c (.int .i64 0)))⟩])
 (.cond (.s 9) (.seq (.ops [⟨(some 10), some undefA, none, false, .pu (.mov (.s 5))⟩,
    ⟨(some 4), some undefA, none, false, .pu (.mov (.s 10))⟩])
  (.ret))
 (.skip)))
 (.seq (.ops [⟨(some 11), some undefA, none, false, .pu (.mov (.s 1))⟩,
   ⟨(some 12), some undefA, none, false, .call 38 [(.s 11)]⟩,
   ⟨(some 4), some undefA, none, false, .pu (.mov (.s 12))⟩])
 (.ret))))⟩
theorem t84 : trF Try.prog [] [] Try.f84 = some m84 := by kernel_rfl
/-- slices.Clone[[]selion/api.Zone,selion/api.Zone] [] -/
def m92 : MFun := ⟨8, [], [.mov (.s 2)],
 .seq (.ops [⟨(some 2), some undefA, none, false, .pu (.mov (.c (.nilS)))⟩])
 (.seq (.seq (.ops [⟨(some 3), some undefA, none, false, .pu (.mov (.s 0))⟩,
   ⟨(some 4), some undefA, none, false, .pu (.isnil false (.s 3))⟩])
 (.cond (.s 4) (.seq (.ops [⟨(some 2), some undefA, none, false, .pu (.mov (.c (.nilS)))⟩])
  (.ret))
 (.skip)))
 (.seq (.ops [⟨(some 5), some undefA, none, false, .ha (.blds 2 0 [.int .i64 0, .int .i64 0] [])⟩,
   ⟨(some 6), some undefA, none, false, .pu (.mov (.s 0))⟩,
   ⟨(some 7), some undefA, none, false, .ha (.app 2 (.s 5) (.s 6))⟩,
   ⟨(some 2), some undefA, none, false, .pu (.mov (.s 7))⟩])
 (.ret)))⟩
theorem t92 : trF Try.prog [] [] Try.f92 = some m92 := by kernel_rfl
/-- slices.ContainsFunc[[]selion/api.Zone,selion/api.Zone] [] -/
def m95 : MFun := ⟨9, [], [.mov (.s 4)],
 .seq (.ops [⟨(some 4), some undefA, none, false, .pu (.mov (.c (.bool false)))⟩])
 (.seq (.ops [⟨(some 5), some undefA, none, false, .pu (.mov (.s 0))⟩,
   ⟨(some 6), some undefA, none, false, .pu (.mov (.s 1))⟩,
   ⟨(some 7), some undefA, none, false, .call 117 [(.s 5), (.s 6)]⟩,
   ⟨(some 8), some undefA, none, false, .pu (.bin .geq (.s 7) (.c (.int .i64 0)))⟩,
   ⟨(some 4), some undefA, none, false, .pu (.mov (.s 8))⟩])
 (.ret))⟩
theorem t95 : trF Try.prog [] [] Try.f95 = some m95 := by kernel_rfl
/-- selion/soil.Sum$1 [] -/
def m96 : MFun := ⟨6, [1], [.mov (.s 2)],
 .seq (.ops [⟨(some 1), some (.junk), none, false, .pu (.bnew (.s 0))⟩,
   ⟨(some 2), some undefA, none, false, .pu (.mov (.c (.bool false)))⟩])
 (.seq (.ops [⟨(some 3), some undefA, none, false, .pu (.badr none 1)⟩,
   ⟨(some 4), some undefA, none, false, .pu (.bget (some 3) 1 1 1 false)⟩,
   ⟨(some 5), some undefA, none, false, .pu (.bin .gtr (.s 4) (.c (.int .i64 20)))⟩,
   ⟨(some 2), some undefA, none, false, .pu (.mov (.s 5))⟩])
 (.ret))⟩
theorem t96 : trF Try.prog [1] [] Try.f96 = some m96 := by kernel_rfl
/-- selion/selionref02.borders [loop [0, 3, 4], loop [0, 3, 4, 5]] -/
def m97 : MFun := ⟨27, [], [.mov (.s 2)],
 .seq (.ops [⟨(some 2), some undefA, none, false, .pu (.mov (.c (.nilS)))⟩])
 (.seq (.ops [⟨(some 3), some undefA, none, false, .pu (.mov (.c (.nilS)))⟩])
 (.seq (.seq (.ops [⟨(some 4), some undefA, none, false, .pu (.mov (.c (.int .i64 0)))⟩])
 (.block 0 (.loop (.seq (.seq (.ops [⟨(some 6), some undefA, none, false, .pu (.mov (.s 4))⟩,
     ⟨(some 7), some undefA, none, false, .pu (.mov (.s 0))⟩,
     ⟨(some 8), some undefA, none, false, .pu (.len (.s 7))⟩,
     ⟨(some 9), some undefA, none, false, .pu (.bin .lss (.s 6) (.s 8))⟩])
   (.cond (.s 9) (.skip)
   (.exit 0)))
   (.seq (.block 1 (.seq (.ops [⟨(some 5), some undefA, none, false, .pu (.mov (.c (.int .i64 0)))⟩])
    (.block 2 (.loop (.seq (.seq (.ops [⟨(some 12), some undefA, none, false, .pu (.mov (.s 5))⟩,
        ⟨(some 13), some undefA, none, false, .pu (.mov (.s 0))⟩,
        ⟨(some 14), some undefA, none, false, .pu (.mov (.s 4))⟩,
        ⟨(some 15), some undefA, none, false, .pu (.idx 2 (.s 13) (.s 14))⟩,
        ⟨(some 16), some undefA, none, false, .pu (.fad 0 (.s 15))⟩,
        ⟨(some 17), some undefA, none, false, .ld (.ld 1 false (.s 16))⟩,
        ⟨(some 18), some undefA, none, false, .pu (.bin .lss (.s 12) (.s 17))⟩])
      (.cond (.s 18) (.skip)
      (.exit 2)))
      (.seq (.block 3 (.ops [⟨(some 21), some undefA, none, false, .pu (.mov (.s 3))⟩,
         ⟨(some 22), some undefA, none, false, .pu (.mov (.s 5))⟩,
         ⟨(some 23), some undefA, none, false, .pu (.bin .eql (.s 22) (.c (.int .i64 0)))⟩,
         ⟨(some 24), some undefA, none, false, .ha (.blds 1 1 [.bool false] [(0, 1, (.s 23))])⟩,
         ⟨(some 25), some undefA, none, false, .ha (.app 1 (.s 21) (.s 24))⟩,
         ⟨(some 3), some undefA, none, false, .pu (.mov (.s 25))⟩]))
      (.ops [⟨(some 19), some undefA, none, false, .pu (.mov (.s 5))⟩,
        ⟨(some 20), some undefA, none, false, .pu (.bin .add (.s 19) (.c (.int .i64 1)))⟩,
        ⟨(some 5), some undefA, none, false, .pu (.mov (.s 20))⟩])))))))
   (.ops [⟨(some 10), some undefA, none, false, .pu (.mov (.s 4))⟩,
     ⟨(some 11), some undefA, none, false, .pu (.bin .add (.s 10) (.c (.int .i64 1)))⟩,
     ⟨(some 4), some undefA, none, false, .pu (.mov (.s 11))⟩]))))))
 (.seq (.ops [⟨(some 26), some undefA, none, false, .pu (.mov (.s 3))⟩,
   ⟨(some 2), some undefA, none, false, .pu (.mov (.s 26))⟩])
 (.ret))))⟩
theorem t97 : trF Try.prog [] [] Try.f97 = some m97 := by kernel_rfl
/-- slices.IndexFunc[[]selion/api.Zone,selion/api.Zone] [loop [0, 1, 7, 8]] -/
def m117 : MFun := ⟨19, [], [.mov (.s 4)],
 .seq (.ops [⟨(some 4), some undefA, none, false, .pu (.mov (.c (.int .i64 0)))⟩])
 (.seq (.seq (.ops [⟨(some 6), some undefA, none, false, .pu (.mov (.s 0))⟩,
   ⟨(some 7), some undefA, none, false, .pu (.len (.s 6))⟩,
   ⟨(some 8), some undefA, none, false, .pu (.mov (.c (.int .i64 0)))⟩])
 (.block 0 (.loop (.seq (.ops [⟨(some 9), some undefA, none, false, .pu (.bin .lss (.s 8) (.s 7))⟩])
   (.seq (.cond (.s 9) (.skip)
   (.exit 0))
   (.seq (.block 1 (.seq (.ops [⟨(some 10), some undefA, none, false, .pu (.mov (.s 8))⟩,
      ⟨(some 5), some undefA, none, false, .pu (.mov (.s 10))⟩])
    (.seq (.ops [⟨(some 11), some undefA, none, false, .pu (.mov (.s 1))⟩,
      ⟨(some 12), some undefA, none, false, .pu (.mov (.s 0))⟩,
      ⟨(some 13), some undefA, none, false, .pu (.mov (.s 5))⟩,
      ⟨(some 14), some undefA, none, false, .pu (.idx 2 (.s 12) (.s 13))⟩,
      ⟨(some 15), some undefA, none, false, .ld (.ld 2 true (.s 14))⟩,
      ⟨(some 16), some undefA, none, false, .callv (.s 11) [(.s 15)]⟩])
    (.cond (.s 16) (.seq (.ops [⟨(some 17), some undefA, none, false, .pu (.mov (.s 5))⟩,
       ⟨(some 4), some undefA, none, false, .pu (.mov (.s 17))⟩])
     (.ret))
    (.skip)))))
   (.ops [⟨(some 18), some undefA, none, false, .pu (.bin .add (.s 8) (.c (.int .i64 1)))⟩,
     ⟨(some 8), some undefA, none, false, .pu (.mov (.s 18))⟩])))))))
 (.seq (.ops [⟨(some 4), some undefA, none, false, .pu (.mov (.c (.int .i64 (-1))))⟩])
 (.ret)))⟩
theorem t117 : trF Try.prog [] [] Try.f117 = some m117 := by kernel_rfl
end Go.Proofs.Ytnnbggcckabhdaa

namespace Go.Proofs.Ytnnbggcckabhdaa
open Go Go.Eng
theorem take_succ_eq {α : Type} {xs ys : List α} {i : Nat} {z w : α} (hz : xs[i]? = some z) (hw : ys[i]? = some w) : xs.take (i + 1) = ys.take (i + 1) ↔ xs.take i = ys.take i ∧ z = w := by
  rw [List.take_add_one, List.take_add_one, hz, hw]
  have hi : i < xs.length := (List.getElem?_eq_some_iff.1 hz).1
  have hj : i < ys.length := (List.getElem?_eq_some_iff.1 hw).1
  constructor
  · intro h
    have := List.append_inj h (by simp; omega)
    exact ⟨this.1, by simpa using this.2⟩
  · rintro ⟨h1, rfl⟩
    rw [h1]
theorem pair_beq {z w : Int × Int} (h : z ≠ w) : (z.1 == w.1 && z.2 == w.2) = false := by
  cases hb : (z.1 == w.1 && z.2 == w.2) with
  | false => rfl
  | true => simp at hb; exact absurd (Prod.ext hb.1 hb.2) h
theorem s43 {xs ys : List (Int × Int)} {v u : AV} {A : AHeap} (hx : L2 A v xs) (hy : L2 A u ys) (hl : xs.length ≤ 1000000) : ACalls Try.prog 43 [v, u] A (B (decide (xs = ys))) A := by
  refine acalls hmix Try.func43 (by kernel_rfl) t43 2 rfl (by decide) ?_
  by_cases hle : xs.length = ys.length
  · have hle' : (xs.length : Int) = ys.length := by omega
    dsimp only [m43]
    simp (maxSteps := 4000000) -implicitDefEqProofs -dsimp (disch := omega) only [↓AW_skip, ↓AW_ops, ↓AW_seq, ↓AW_cond, ↓AW_block, ↓AOps_nil, ↓AOps_pu, on_some, condB_f, ↓then_normal, pval, rd_S, rd_C, put_S, ↓AW_toLoop, eq_self, List.replicate_succ, List.replicate_zero, List.set_cons_zero, List.set_cons_succ, List.getElem?_cons_zero, List.getElem?_cons_succ, Option.getD_some, Nat.reduceSub, List.cons_append, List.nil_append, bin_neq, decide_false, not_true_eq_false, hx.len, hy.len, hle']
    refine LoopK.by 26 (fun i : Nat => i ≤ xs.length ∧ xs.take i = ys.take i) (fun i => [(0, v), (1, u), (5, I i)]) (fun _ => A) (fun i => xs.length - i) 0 ⟨by omega, rfl⟩ rfl (by simp [Has, rd_s]) rfl ?_
    rintro i ⟨hi, he⟩
    by_cases hlt : i < xs.length
    · obtain ⟨z, hz⟩ : ∃ z, xs[i]? = some z := ⟨_, List.getElem?_eq_getElem hlt⟩
      have hlt' : (i : Int) < xs.length := by omega
      have hlt2 : i < ys.length := by omega
      obtain ⟨w, hw⟩ : ∃ w, ys[i]? = some w := ⟨_, List.getElem?_eq_getElem hlt2⟩
      by_cases hzw : z = w
      · subst hzw
        simp (maxSteps := 4000000) -implicitDefEqProofs -dsimp (disch := omega) only [↓AW_skip, ↓AW_ops, ↓AW_seq, ↓AW_cond, ↓AW_block, ↓AOps_nil, ↓AOps_pu, ↓AOps_ld, on_some, condB_t, condB_f, ↓then_normal, ↓inBlock_normal, pval, lval, rd_S, rd_C, put_S, partA, eqc, beq_self_eq_true, eq_self, mk, List.foldl_cons, List.foldl_nil, List.replicate_succ, List.replicate_zero, List.set_cons_zero, List.set_cons_succ, List.getElem?_cons_zero, List.getElem?_cons_succ, List.drop_zero, List.take_succ_cons, List.take_nil, Option.getD_some, Option.map_some, List.length_cons, List.length_nil, Nat.reduceAdd, Nat.reduceLeDiff, Nat.reduceEqDiff, Nat.zero_add, bin_add, bin_lss, w64, if_true, if_false, Bool.not_true, Bool.true_and, decide_true, Go.Eng.e2, true_and, hlt', hx.len, hx.idx hlt, hx.ld0 hz 2 true (by decide), hy.idx hlt2, hy.ld0 hw 2 true (by decide)]
        exact ⟨i + 1, ⟨hlt, (take_succ_eq hz hw).2 ⟨he, rfl⟩⟩, by simp [Has, rd_s], by omega⟩
      · have hb := pair_beq hzw
        simp (maxSteps := 4000000) -implicitDefEqProofs -dsimp (disch := omega) only [↓AW_skip, ↓AW_ops, ↓AW_seq, ↓AW_cond, ↓AW_block, ↓AW_ret, ↓AOps_nil, ↓AOps_pu, ↓AOps_ld, on_some, condB_t, ↓then_normal, ↓then_ret, ↓inBlock_ret, ↓Fin_ret, pval, lval, rd_S, rd_C, put_S, resV, resL, partA, eqc, Bool.and_true, eq_self, mk, List.foldl_cons, List.foldl_nil, List.replicate_succ, List.replicate_zero, List.set_cons_zero, List.set_cons_succ, List.getElem?_cons_zero, List.getElem?_cons_succ, List.drop_zero, List.take_succ_cons, List.take_nil, Option.getD_some, Option.map_some, List.length_cons, List.length_nil, Nat.reduceAdd, Nat.reduceLeDiff, Nat.reduceEqDiff, Nat.zero_add, bin_lss, if_true, if_false, Bool.not_false, decide_true, Go.Eng.e2, hlt', hx.len, hx.idx hlt, hx.ld0 hz 2 true (by decide), hy.idx hlt2, hy.ld0 hw 2 true (by decide), hb]
        refine gc_same ?_
        have : ¬ xs = ys := by rintro rfl; rw [hz] at hw; exact hzw (Option.some.inj hw)
        simp [this]
    · have hlt' : ¬ ((i : Int) < xs.length) := by omega
      simp (maxSteps := 4000000) -implicitDefEqProofs -dsimp (disch := omega) only [↓AW_ops, ↓AW_seq, ↓AW_cond, ↓AW_exit, ↓AW_ret, ↓AOps_nil, ↓AOps_pu, on_some, condB_f, ↓then_normal, ↓then_exit, ↓inBlock_exit, ↓Fin_ret, pval, rd_S, rd_C, put_S, resV, resL, eq_self, mk, List.foldl_cons, List.foldl_nil, List.replicate_succ, List.replicate_zero, List.set_cons_zero, List.set_cons_succ, List.getElem?_cons_zero, List.getElem?_cons_succ, Option.getD_some, bin_lss, if_true, decide_false, hlt', hx.len]
      rw [List.take_of_length_le (by omega), List.take_of_length_le (by omega)] at he
      exact gc_same (by simp [he])
  · have hle' : ¬ (xs.length : Int) = ys.length := by omega
    dsimp only [m43]
    simp (maxSteps := 4000000) -implicitDefEqProofs -dsimp (disch := omega) only [↓AW_ops, ↓AW_seq, ↓AW_cond, ↓AW_ret, ↓AOps_nil, ↓AOps_pu, on_some, condB_t, ↓then_normal, ↓then_ret, ↓Fin_ret, pval, rd_S, rd_C, put_S, resV, resL, List.replicate_succ, List.replicate_zero, List.set_cons_zero, List.set_cons_succ, List.getElem?_cons_zero, List.getElem?_cons_succ, Option.getD_some, Nat.reduceSub, List.cons_append, List.nil_append, bin_neq, decide_true, not_false_eq_true, hx.len, hy.len, hle']
    have : ¬ xs = ys := by rintro rfl; exact hle rfl
    exact gc_same (by simp [this])
def fairR (r : Int × Int) : Prop := (1 ≤ r.2 ∧ r.2 ≤ 1073741824) ∧ (-35184372088832 ≤ r.1 ∧ r.1 ≤ 35184372088832)
instance (r : Int × Int) : Decidable (fairR r) := by unfold fairR; exact inferInstance
theorem s23 {xs : List (Int × Int)} {v : AV} {A : AHeap} (hx : L2 A v xs) (hl : xs.length ≤ 1000000) : ACalls Try.prog 23 [v] A (B (decide (∀ r ∈ xs, fairR r))) A := by
  refine acalls hmix Try.func23 (by kernel_rfl) t23 1 rfl (by decide) ?_
  dsimp only [m23]
  simp (maxSteps := 4000000) -implicitDefEqProofs -dsimp (disch := omega) only [↓AW_ops, ↓AW_seq, ↓AW_block, ↓AOps_nil, ↓AOps_pu, on_some, ↓then_normal, pval, rd_C, put_S, ↓AW_toLoop, List.replicate_succ, List.replicate_zero, List.set_cons_zero, List.set_cons_succ, Nat.reduceSub, List.cons_append, List.nil_append]
  refine LoopK.by 40 (fun i : Nat => i ≤ xs.length ∧ ∀ r ∈ xs.take i, fairR r) (fun i => [(0, v), (3, I i)]) (fun _ => A) (fun i => xs.length - i) 0 ⟨by omega, by simp⟩ rfl (by simp [Has, rd_s]) rfl ?_
  rintro i ⟨hi, he⟩
  by_cases hlt : i < xs.length
  · obtain ⟨z, hz⟩ : ∃ z, xs[i]? = some z := ⟨_, List.getElem?_eq_getElem hlt⟩
    have hlt' : (i : Int) < xs.length := by omega
    have bad : ¬ fairR z → decide (∀ r ∈ xs, fairR r) = false := fun h => by
      rw [decide_eq_false_iff_not]
      exact fun h2 => h (h2 z (List.mem_of_getElem? hz))
    by_cases h1 : z.2 < 1
    · simp (maxSteps := 4000000) -implicitDefEqProofs -dsimp (disch := omega) only [↓AW_skip, ↓AW_ops, ↓AW_seq, ↓AW_cond, ↓AW_block, ↓AW_ret, ↓AOps_nil, ↓AOps_pu, ↓AOps_ld, ↓AOps_guard, on_some, guardB_tf, skipS_some, condB_t, ↓then_normal, ↓then_ret, ↓inBlock_ret, ↓Fin_ret, pval, lval, rd_S, rd_C, put_S, resV, resL, partA, eq_self, mk, List.foldl_cons, List.foldl_nil, List.replicate_succ, List.replicate_zero, List.set_cons_zero, List.set_cons_succ, List.getElem?_cons_zero, List.getElem?_cons_succ, List.drop_zero, List.drop_succ_cons, List.take_succ_cons, List.take_nil, Option.getD_some, List.length_cons, List.length_nil, Nat.reduceAdd, Nat.reduceLeDiff, Nat.zero_add, bin_lss, if_true, if_false, Bool.false_eq_true, decide_true, Go.Eng.e2, Int.reduceNeg, hlt', hx.len, hx.idx hlt, hx.ld hz 1 1 false (by decide), h1]
      exact gc_same (by rw [bad (fun h => by have := h.1.1; omega)])
    · by_cases h2 : 1073741824 < z.2
      · simp (maxSteps := 4000000) -implicitDefEqProofs -dsimp (disch := omega) only [↓AW_skip, ↓AW_ops, ↓AW_seq, ↓AW_cond, ↓AW_block, ↓AW_ret, ↓AOps_nil, ↓AOps_pu, ↓AOps_ld, ↓AOps_guard, on_some, guardB_tf, guardB_ff, skipS_some, condB_t, ↓then_normal, ↓then_ret, ↓inBlock_ret, ↓Fin_ret, pval, lval, rd_S, rd_C, put_S, resV, resL, partA, eq_self, mk, List.foldl_cons, List.foldl_nil, List.replicate_succ, List.replicate_zero, List.set_cons_zero, List.set_cons_succ, List.getElem?_cons_zero, List.getElem?_cons_succ, List.drop_zero, List.drop_succ_cons, List.take_succ_cons, List.take_nil, Option.getD_some, List.length_cons, List.length_nil, Nat.reduceAdd, Nat.reduceLeDiff, Nat.zero_add, bin_lss, bin_gtr, if_true, if_false, Bool.false_eq_true, decide_true, decide_false, Go.Eng.e2, Int.reduceNeg, hlt', hx.len, hx.idx hlt, hx.ld hz 1 1 false (by decide), h1, h2]
        exact gc_same (by rw [bad (fun h => by have := h.1.2; omega)])
      · by_cases h3 : 35184372088832 < z.1
        · simp (maxSteps := 4000000) -implicitDefEqProofs -dsimp (disch := omega) only [↓AW_skip, ↓AW_ops, ↓AW_seq, ↓AW_cond, ↓AW_block, ↓AW_ret, ↓AOps_nil, ↓AOps_pu, ↓AOps_ld, ↓AOps_guard, on_some, guardB_tf, guardB_ff, skipS_some, condB_t, ↓then_normal, ↓then_ret, ↓inBlock_ret, ↓Fin_ret, pval, lval, rd_S, rd_C, put_S, resV, resL, partA, eq_self, mk, List.foldl_cons, List.foldl_nil, List.replicate_succ, List.replicate_zero, List.set_cons_zero, List.set_cons_succ, List.getElem?_cons_zero, List.getElem?_cons_succ, List.drop_zero, List.drop_succ_cons, List.take_zero, List.take_succ_cons, List.take_nil, Option.getD_some, List.length_cons, List.length_nil, Nat.reduceAdd, Nat.reduceLeDiff, Nat.zero_add, Nat.add_zero, bin_lss, bin_gtr, if_true, if_false, Bool.false_eq_true, decide_true, decide_false, Go.Eng.e2, Int.reduceNeg, hlt', hx.len, hx.idx hlt, hx.ld hz 1 1 false (by decide), hx.ld0 hz 1 false (by decide), h1, h2, h3]
          exact gc_same (by rw [bad (fun h => by have := h.2.2; omega)])
        · by_cases h4 : z.1 < -35184372088832
          · simp (maxSteps := 4000000) -implicitDefEqProofs -dsimp (disch := omega) only [↓AW_skip, ↓AW_ops, ↓AW_seq, ↓AW_cond, ↓AW_block, ↓AW_ret, ↓AOps_nil, ↓AOps_pu, ↓AOps_ld, ↓AOps_guard, on_some, guardB_ff, condB_t, ↓then_normal, ↓then_ret, ↓inBlock_ret, ↓Fin_ret, pval, lval, rd_S, rd_C, put_S, resV, resL, partA, eq_self, mk, List.foldl_cons, List.foldl_nil, List.replicate_succ, List.replicate_zero, List.set_cons_zero, List.set_cons_succ, List.getElem?_cons_zero, List.getElem?_cons_succ, List.drop_zero, List.drop_succ_cons, List.take_zero, List.take_succ_cons, List.take_nil, Option.getD_some, List.length_cons, List.length_nil, Nat.reduceAdd, Nat.reduceLeDiff, Nat.zero_add, Nat.add_zero, bin_lss, bin_gtr, if_true, if_false, Bool.false_eq_true, decide_true, decide_false, Go.Eng.e2, Int.reduceNeg, hlt', hx.len, hx.idx hlt, hx.ld hz 1 1 false (by decide), hx.ld0 hz 1 false (by decide), h1, h2, h3, h4]
            exact gc_same (by rw [bad (fun h => by have := h.2.1; omega)])
          · simp (maxSteps := 4000000) -implicitDefEqProofs -dsimp (disch := omega) only [↓AW_skip, ↓AW_ops, ↓AW_seq, ↓AW_cond, ↓AW_block, ↓AOps_nil, ↓AOps_pu, ↓AOps_ld, ↓AOps_guard, on_some, guardB_ff, condB_t, condB_f, ↓then_normal, ↓inBlock_normal, pval, lval, rd_S, rd_C, put_S, partA, eq_self, mk, List.foldl_cons, List.foldl_nil, List.replicate_succ, List.replicate_zero, List.set_cons_zero, List.set_cons_succ, List.getElem?_cons_zero, List.getElem?_cons_succ, List.drop_zero, List.drop_succ_cons, List.take_zero, List.take_succ_cons, List.take_nil, Option.getD_some, List.length_cons, List.length_nil, Nat.reduceAdd, Nat.reduceLeDiff, Nat.zero_add, Nat.add_zero, bin_add, bin_lss, bin_gtr, w64, if_true, if_false, Bool.false_eq_true, decide_true, decide_false, Go.Eng.e2, true_and, Int.reduceNeg, hlt', hx.len, hx.idx hlt, hx.ld hz 1 1 false (by decide), hx.ld0 hz 1 false (by decide), h1, h2, h3, h4]
            refine ⟨i + 1, ⟨hlt, fun r hr => ?_⟩, by simp [Has, rd_s], by omega⟩
            rw [List.take_add_one, hz] at hr
            rcases List.mem_append.1 hr with hr | hr
            · exact he r hr
            · have : r = z := by simpa using hr
              subst this
              exact ⟨by omega, by omega⟩
  · have hlt' : ¬ ((i : Int) < xs.length) := by omega
    simp (maxSteps := 4000000) -implicitDefEqProofs -dsimp (disch := omega) only [↓AW_ops, ↓AW_seq, ↓AW_cond, ↓AW_exit, ↓AW_ret, ↓AOps_nil, ↓AOps_pu, on_some, condB_f, ↓then_normal, ↓then_exit, ↓inBlock_exit, ↓Fin_ret, pval, rd_S, rd_C, put_S, resV, resL, eq_self, mk, List.foldl_cons, List.foldl_nil, List.replicate_succ, List.replicate_zero, List.set_cons_zero, List.set_cons_succ, List.getElem?_cons_zero, List.getElem?_cons_succ, Option.getD_some, bin_lss, if_true, decide_false, hlt', hx.len]
    rw [List.take_of_length_le (by omega)] at he
    exact gc_same (by rw [decide_eq_true he])
theorem L2_three (A : AHeap) (r s t : Int × Int) : L2 (A ++ [.cells true [I r.1, I r.2, I s.1, I s.2, I t.1, I t.2]]) (.sl 2 A.length 0 3 true) [r, s, t] := ⟨e2_len, by simp [slCells, cellsAt, e2]⟩
theorem clamp_mono {x y a b : Rat} (h : x ≤ y) (hab : a ≤ b) : clamp x a b ≤ clamp y a b := by
  unfold clamp
  grind
theorem upTo_mono {p q : Rat} (h : p ≤ q) : ∀ (f : List (Int × Int)) (b : Int), f.all vz = true → upTo b f p ≤ upTo b f q
  | [], _, _ => Rat.le_refl
  | z :: f, b, hv => by
    simp only [List.all_cons, Bool.and_eq_true] at hv
    have hz := (vz_iff z).1 hv.1
    have ih := upTo_mono h f (b + z.1) hv.2
    have hc := clamp_mono h (show (b : Rat) ≤ ((b + z.1 : Int) : Rat) from Rat.intCast_le_intCast.2 (by omega))
    have z0 : (0 : Rat) ≤ (z.2 : Rat) := by rw [← int0]; exact Rat.intCast_le_intCast.2 hz.2.1
    have := Rat.mul_le_mul_of_nonneg_right (show clamp p (b : Rat) ((b + z.1 : Int) : Rat) - (b : Rat) ≤ clamp q (b : Rat) ((b + z.1 : Int) : Rat) - (b : Rat) by grind) z0
    rw [upTo, upTo]
    grind
/-- What lies between two places is a fraction of this size. -/
theorem wV_num {f : List (Int × Int)} {r s : Int × Int} (h : wE f r s = 0) :
    ∃ a : Rat, wV f r s = R a ∧ a = upTo 0 f (qr s) - upTo 0 f (qr r) ∧ 0 ≤ a ∧ a.num.natAbs ≤ 2400000000 ∧ (a.den : Int) ≤ 1000000 := by
  obtain ⟨h0, h1, h2, h3⟩ := wE_0 h
  have hg := (good_of h0).1
  refine ⟨_, by simp [wV, h], rfl, ?_, ?_⟩
  · have := upTo_mono h3 f 0 hg.2; grind
  · have e1 := (isP_R h1).1
    have e2 := (isP_R h2).1
    obtain ⟨d1, d2⟩ := R_inj e1.symm
    obtain ⟨d3, d4⟩ := R_inj e2.symm
    have k1 := h1.1.1
    have k2 := h2.1.1
    rw [← d2] at k1
    rw [← d4] at k2
    generalize qr r = p at *
    generalize qr s = q at *
    have hp := den_pos p
    have hq := den_pos q
    have hD : (0 : Int) < p.den * q.den := Int.mul_pos hp hq
    have hD2 : (p.den : Int) * q.den ≤ 1000 * 1000 := Int.mul_le_mul k1.2 k2.2 (by omega) (by omega)
    have b1 := upTo_bounds hg 0 p
    have b2 := upTo_bounds hg 0 q
    have hm := upTo_mono h3 f 0 hg.2
    have hn := num_le (M := 2400) hD (((upTo_Dv (Dv_self q) f 0).dvd (Int.dvd_mul_left _ _)).sub ((upTo_Dv (Dv_self p) f 0).dvd (Int.dvd_mul_right _ _))) (int_neg_le_zero (by omega) (by grind)) (by grind)
    omega
theorem fair_num {a : Rat} (h : a.num.natAbs ≤ 2400000000 ∧ (a.den : Int) ≤ 1000000) : fairR (a.num, (a.den : Int)) := by
  have := den_pos a
  exact ⟨by simp only; omega, by simp only; omega⟩
end Go.Proofs.Ytnnbggcckabhdaa

namespace Go.Proofs.Ytnnbggcckabhdaa
open Go Go.Eng
/-- What a piece of a length is worth, from a whole place on. -/
def sm (us : List Int) (n a : Nat) : Int := (us.take (a + n)).sum - (us.take a).sum
end Go.Proofs.Ytnnbggcckabhdaa

namespace Go.Proofs.Ytnnbggcckabhdaa
open Go Go.Eng
theorem AccL_ls {α : Type} {es : Nat} {e : α → List AV} {H H1 : AHeap} {v : AV} {xs : List α} (h : AccL es e H H1 v xs) (he : ∀ x, (e x).length = es) : Ls es e H1 v xs := by
  obtain ⟨h1, h2, h3⟩ := h
  refine ⟨he, ?_⟩
  rcases h3 with ⟨h4, rfl⟩ | ⟨h0, n, rfl, h5, h6⟩
  · have : xs = [] := List.eq_nil_of_length_eq_zero h4
    subst this; rfl
  · simp only [slCells, cellsAt, h6, if_true, Nat.zero_add]
    rw [if_pos (by omega)]
    simp only [List.drop_zero, Option.map_some, Option.some.injEq, Prod.mk.injEq, true_and]
    rw [← h2, List.take_length]
theorem AccL_base {α : Type} {es : Nat} {e : α → List AV} {H0 H H1 : AHeap} {v : AV} {xs : List α} (hp : H0 <+: H) (h : AccL es e H H1 v xs) : AccL es e H0 H1 v xs := by
  obtain ⟨h1, h2, h3⟩ := h
  refine ⟨hp.trans h1, h2, ?_⟩
  rcases h3 with h4 | ⟨h0, n, h4, h5, h6⟩
  · exact .inl h4
  · exact .inr ⟨h0, n, h4, Nat.le_trans hp.length_le h5, h6⟩
theorem cells_agg (l : List AV) : (AV.agg l).cells? = some l := rfl
theorem cells_int (k : IntKind) (n : Int) : (AV.int k n).cells? = some [.int k n] := rfl
/-- A store. -/
def stA (sz : Nat) (p x : AV) (H : AHeap) : Option AHeap :=
  match p, x.cells? with
  | .ptr n off, some c => match H[n]? with
    | some (.cells true l) => if c.length = sz ∧ off + sz ≤ l.length then some (H.set n (.cells true (splice l off c))) else none
    | _ => none
  | _, _ => none
theorem hval_st (sz : Nat) (p x : Opd) (S : List AV) (H : AHeap) : hval (.st sz p x) S H = (stA sz (rd S p) (rd S x) H).map (fun H' => (undefA, H')) := by
  simp only [hval, stA]
  cases rd S p with
  | ptr n off =>
    cases (rd S x).cells? with
    | none => rfl
    | some c =>
      simp only
      cases H[n]? with
      | none => rfl
      | some o =>
        cases o with
        | cells rw l =>
          cases rw
          · rfl
          · simp only
            split <;> rfl
        | _ => rfl
  | _ => rfl
theorem hval_blds (es n : Nat) (zero : List AV) (parts : List (Nat × Nat × Opd)) (S : List AV) (H : AHeap) : hval (.blds es n zero parts) S H = match fillA (parts.map fun p => (p.1, p.2.1, rd S p.2.2)) (repl zero n) with | some l => some (.sl es H.length 0 n true, H ++ [.cells true l]) | none => none := rfl
theorem hval_app (es : Nat) (x y : Opd) (S : List AV) (H : AHeap) : hval (.app es x y) S H = appA es H (rd S x) (rd S y) := rfl
theorem splice_flat {α : Type} {es : Nat} {e : α → List AV} (he : ∀ x, (e x).length = es) {xs : List α} {i : Nat} (hi : i < xs.length) (z : α) : splice (xs.flatMap e) (i * es) (e z) = (xs.set i z).flatMap e := by
  unfold splice
  have h1 := flatMap_length he (xs.take i)
  rw [List.length_take, Nat.min_eq_left (by omega)] at h1
  have h2 := flatMap_length he (xs.take (i + 1))
  rw [List.length_take, Nat.min_eq_left (by omega)] at h2
  have e1 : (xs.flatMap e).take (i * es) = (xs.take i).flatMap e := by
    conv => lhs; rw [← List.take_append_drop i xs, List.flatMap_append]
    rw [← h1, List.take_left]
  have e2 : (xs.flatMap e).drop (i * es + (e z).length) = (xs.drop (i + 1)).flatMap e := by
    conv => lhs; rw [← List.take_append_drop (i + 1) xs, List.flatMap_append]
    rw [he z, ← Nat.succ_mul, Nat.succ_eq_add_one, ← h2, List.drop_left]
  rw [e1, e2, List.set_eq_take_append_cons_drop, if_pos hi, List.flatMap_append, List.flatMap_cons, List.append_assoc]
/-- A list that the call itself has made and may write. -/
structure OL {α : Type} (es : Nat) (e : α → List AV) (A H : AHeap) (n : Nat) (v : AV) (xs : List α) : Prop where
  he : ∀ x, (e x).length = es
  pre : A <+: H
  new : A.length ≤ n
  ob : H[n]? = some (.cells true (xs.flatMap e))
  v : ∃ full, v = .sl es n 0 xs.length full
section
variable {α : Type} {es : Nat} {e : α → List AV} {A H : AHeap} {n : Nat} {v : AV} {xs : List α}
theorem OL.ls (h : OL es e A H n v xs) : Ls es e H v xs := by
  obtain ⟨he, h1, h2, h3, full, rfl⟩ := h
  refine ⟨he, ?_⟩
  have hl := flatMap_length he xs
  simp only [slCells, cellsAt, h3, if_true, Nat.zero_add]
  rw [if_pos (by omega)]
  simp only [List.drop_zero, Option.map_some, Option.some.injEq, Prod.mk.injEq, true_and]
  rw [← hl, List.take_length]
theorem OL.lt (h : OL es e A H n v xs) : n < H.length := (List.getElem?_eq_some_iff.1 h.ob).1
theorem OL.set (h : OL es e A H n v xs) (i : Nat) (z : α) : OL es e A (H.set n (.cells true ((xs.set i z).flatMap e))) n v (xs.set i z) := by
  have hn := h.lt
  obtain ⟨he, h1, h2, h3, full, rfl⟩ := h
  exact ⟨he, pre_set h1 h2 _, h2, by rw [List.getElem?_set_self hn], full, by simp⟩
theorem OL.st (h : OL es e A H n v xs) {i : Nat} (hi : i < xs.length) (x : AV) (z : α) (hx : x.cells? = some (e z)) : stA es (.ptr (nm v) (of v + i * es)) x H = some (H.set n (.cells true ((xs.set i z).flatMap e))) := by
  obtain ⟨he, h1, h2, h3, full, rfl⟩ := h
  have hl := flatMap_length he xs
  have hle : i * es + es ≤ xs.length * es := by
    rw [← Nat.succ_mul]; exact Nat.mul_le_mul_right _ hi
  simp only [stA, nm, of, hx, h3, Nat.zero_add]
  rw [if_pos ⟨he z, by omega⟩, splice_flat he hi z]
theorem OL.mono {H' : AHeap} (h : OL es e A H n v xs) (hp : H <+: H') : OL es e A H' n v xs := ⟨h.he, h.pre.trans hp, h.new, pre_get hp h.ob, h.v⟩
theorem gc_weak {v1 v1' v : AV} {H1 H' : AHeap} (h : ∀ ρ c, VR ρ v1 c → VR ρ v1' c) (g : GC A v1' H1 v H') : GC A v1 H1 v H' :=
  fun ρ w ρ1 w1 cv s0 s1 st hv => g ρ w ρ1 w1 cv s0 s1 st (h ρ1 cv hv)
theorem VR.unfull {ρ : Ren} {es n off len : Nat} {full : Bool} {c : Value} (h : VR ρ (.sl es n off len full) c) : VR ρ (.sl es n off len false) c := by
  cases h with
  | sl _ _ _ _ _ L a cap h1 h2 h3 h4 h5 => exact .sl es n off len false L a cap h1 h2 (fun e => by cases e) h4 h5
theorem OL.acc (h : OL es e A H n v xs) (h0 : 0 < xs.length) : AccL es e A H (.sl es n 0 xs.length false) xs :=
  ⟨h.pre, flatMap_length h.he xs, .inr ⟨h0, n, rfl, h.new, h.ob⟩⟩
theorem OL.gc (h : OL es e A H n v xs) (h0 : 0 < xs.length) (hf : ∀ x, ∀ y ∈ e x, flat y = true) : GC A v H (outV es A xs.length) (outH A (xs.flatMap e) xs.length) := by
  have h1 := (h.acc h0).gc hf
  obtain ⟨_, _, _, _, full, rfl⟩ := h
  exact gc_weak (fun ρ c => VR.unfull) h1
theorem OL.gc2 (h : OL es e A H n v xs) (h0 : 0 < xs.length) (hf : ∀ x, ∀ y ∈ e x, flat y = true) (c : AV) (hc : flat c = true) : GC A (.tuple [v, c]) H (.tuple [outV es A xs.length, c]) (outH A (xs.flatMap e) xs.length) := by
  have h1 := (h.acc h0).gc2 hf c hc
  obtain ⟨_, _, _, _, full, rfl⟩ := h
  refine gc_weak (fun ρ cv hv => ?_) h1
  cases hv with
  | tuple _ vs hl hh =>
    refine .tuple _ _ hl (fun i x u hx hu => ?_)
    match i with
    | 0 =>
      simp at hx
      subst hx
      exact VR.unfull (hh 0 _ u rfl hu)
    | i + 1 => exact hh (i + 1) x u (by simpa using hx) hu
end
end Go.Proofs.Ytnnbggcckabhdaa

namespace Go.Proofs.Ytnnbggcckabhdaa
open Go Go.Eng
section
variable {α : Type} {es : Nat} {e : α → List AV} {A H : AHeap} {v : AV} {xs : List α}
theorem AccL_ol (h : AccL es e A H v xs) (he : ∀ x, (e x).length = es) (h0 : 0 < xs.length) : ∃ n, OL es e A H n v xs ∧ v = .sl es n 0 xs.length false := by
  obtain ⟨h1, h2, h3⟩ := h
  rcases h3 with ⟨h4, _⟩ | ⟨_, n, rfl, h5, h6⟩
  · omega
  · exact ⟨n, ⟨he, h1, h5, h6, false, rfl⟩, rfl⟩
theorem splice_part {l c : List AV} {es fo p : Nat} (hf : fo + c.length ≤ es) (hp : p + es ≤ l.length) : splice l (p + fo) c = splice l p (splice ((l.drop p).take es) fo c) := by
  unfold splice
  have h1 : ((l.drop p).take es).take fo = (l.drop p).take fo := by rw [List.take_take]; congr 1; omega
  have h2 : ((l.drop p).take es).drop (fo + c.length) = (l.drop (p + fo + c.length)).take (es - (fo + c.length)) := by
    rw [List.drop_take, List.drop_drop]; congr 2; omega
  rw [h1, h2]
  have h3 : ((l.drop p).take fo ++ c ++ (l.drop (p + fo + c.length)).take (es - (fo + c.length))).length = es := by
    simp only [List.length_append, List.length_take, List.length_drop]; omega
  rw [h3, List.take_add]
  have h4 : l.drop (p + fo + c.length) = (l.drop (p + fo + c.length)).take (es - (fo + c.length)) ++ l.drop (p + es) := by
    conv => lhs; rw [← List.take_append_drop (es - (fo + c.length)) (l.drop (p + fo + c.length))]
    rw [List.drop_drop]; congr 2; omega
  rw [h4]
  simp only [List.append_assoc]
  congr 3
  rw [List.take_append_of_le_length (by simp only [List.length_take, List.length_drop]; omega), List.take_take, Nat.min_self]
theorem OL_stF {n : Nat} (h : OL es e A H n v xs) {i : Nat} (hi : i < xs.length) (fo sz : Nat) (x : AV) (c : List AV) (z : α) (hx : x.cells? = some c) (hc : c.length = sz) (hfo : fo + sz ≤ es) (hz : splice (e xs[i]) fo c = e z) :
    stA sz (.ptr (nm v) (of v + i * es + fo)) x H = some (H.set n (.cells true ((xs.set i z).flatMap e))) := by
  obtain ⟨he, h1, h2, h3, full, rfl⟩ := h
  have hl := flatMap_length he xs
  have hle : i * es + es ≤ xs.length * es := by
    rw [← Nat.succ_mul]; exact Nat.mul_le_mul_right _ hi
  have hat := flatMap_at he xs i xs[i] (List.getElem?_eq_getElem hi)
  simp only [stA, nm, of, hx, h3, Nat.zero_add]
  rw [if_pos ⟨hc, by omega⟩, splice_part (es := es) (by omega) (by omega), hat, hz, splice_flat he hi z]
/-- A store into a part of an element of a list that grows. -/
theorem AccL_stF (h : AccL es e A H v xs) (he : ∀ x, (e x).length = es) {i : Nat} (hi : i < xs.length) (fo sz : Nat) (x : AV) (c : List AV) (z : α) (hx : x.cells? = some c) (hc : c.length = sz) (hfo : fo + sz ≤ es) (hz : splice (e xs[i]) fo c = e z) :
    ∃ H2, stA sz (.ptr (nm v) (of v + i * es + fo)) x H = some H2 ∧ AccL es e A H2 v (xs.set i z) := by
  obtain ⟨n, h1, rfl⟩ := AccL_ol h he (by omega)
  refine ⟨_, OL_stF h1 hi fo sz x c z hx hc hfo hz, ?_⟩
  have h2 := (h1.set i z).acc (by simp; omega)
  simpa using h2
theorem OL_st0 {n : Nat} (h : OL es e A H n v xs) {i : Nat} (hi : i < xs.length) (sz : Nat) (x : AV) (c : List AV) (z : α) (hx : x.cells? = some c) (hc : c.length = sz) (hfo : sz ≤ es) (hz : splice (e xs[i]) 0 c = e z) :
    stA sz (.ptr (nm v) (of v + i * es)) x H = some (H.set n (.cells true ((xs.set i z).flatMap e))) :=
  OL_stF h hi 0 sz x c z hx hc (by omega) hz
theorem AccL_st0 (h : AccL es e A H v xs) (he : ∀ x, (e x).length = es) {i : Nat} (hi : i < xs.length) (sz : Nat) (x : AV) (c : List AV) (z : α) (hx : x.cells? = some c) (hc : c.length = sz) (hfo : sz ≤ es) (hz : splice (e xs[i]) 0 c = e z) :
    ∃ H2, stA sz (.ptr (nm v) (of v + i * es)) x H = some H2 ∧ AccL es e A H2 v (xs.set i z) :=
  AccL_stF h he hi 0 sz x c z hx hc (by omega) hz
end
/-- What is appended to an empty list that has just been made. -/
theorem app_new {α : Type} {es : Nat} {e : α → List AV} {A : AHeap} {y : AV} {ys : List α} (hy : Ls es e A y ys) (hl : ys.length ≤ lim) :
    ∃ v' n H2, appA es (A ++ [.cells true []]) (.sl es A.length 0 0 true) y = some (v', H2) ∧ OL es e A H2 n v' ys := by
  have hc := (hy.mono (pre_app A [.cells true []])).hc
  by_cases h0 : ys.length = 0
  · have : ys = [] := List.eq_nil_of_length_eq_zero h0
    subst this
    refine ⟨.sl es A.length 0 0 true, A.length, A ++ [.cells true []], ?_, hy.he, pre_app _ _, Nat.le_refl _, by simp, true, rfl⟩
    unfold appA
    rw [hc]
    simp
  · refine ⟨.sl es (A ++ [AObj.cells true []]).length 0 ys.length false, (A ++ [AObj.cells true []]).length, A ++ [AObj.cells true []] ++ [.cells true (ys.flatMap e)], ?_, hy.he, (pre_app A _).trans (pre_app _ _), by simp, by simp, false, rfl⟩
    unfold appA
    rw [hc]
    simp [h0, hl]
theorem Ls_nn {α : Type} {es : Nat} {e : α → List AV} {A : AHeap} {v : AV} {xs : List α} (h : Ls es e A v xs) (h0 : 0 < xs.length) : v ≠ .nilS := by
  rintro rfl
  have := h.hc
  simp [slCells] at this
  omega
/-- A list that grows, when another object is written. -/
theorem AccL_other {α : Type} {es : Nat} {e : α → List AV} {A H : AHeap} {v : AV} {xs : List α} (h : AccL es e A H v xs) {m : Nat} (hm : A.length ≤ m) (hne : ∀ n len, v = .sl es n 0 len false → n ≠ m) (o : AObj) : AccL es e A (H.set m o) v xs := by
  obtain ⟨h1, h2, h3⟩ := h
  refine ⟨pre_set h1 hm o, h2, ?_⟩
  rcases h3 with h4 | ⟨h0, n, h4, h5, h6⟩
  · exact .inl h4
  · exact .inr ⟨h0, n, h4, h5, by rw [List.getElem?_set_ne (Ne.symm (hne n _ h4))]; exact h6⟩
theorem gc_old2 {A H : AHeap} (h : A <+: H) {a b : AV} (ha : flat a = true) (hb : flat b = true) : GC A (.tuple [a, b]) H (.tuple [a, b]) A := gc_val h (by simp [ren, ren_flat _ 2 a ha, ren_flat _ 2 b hb])
end Go.Proofs.Ytnnbggcckabhdaa

namespace Go.Proofs.Ytnnbggcckabhdaa
open Go Go.Eng
theorem set_last {α : Type} (l : List α) (w y : α) : (l ++ [w]).set ((l ++ [w]).length - 1) y = l ++ [y] := by
  rw [List.set_append_right (h := by simp)]
  simp
theorem get_last {α : Type} (l : List α) (w : α) : (l ++ [w])[(l ++ [w]).length - 1]? = some w := by simp
theorem units_app (f g : List (Int × Int)) : units (f ++ g) = units f ++ units g := by simp [units]
theorem units_one (z : Int × Int) : units [z] = List.replicate z.1.toNat z.2 := by simp [units]
/-- The units of a zone, and whether a zone begins there. -/
def bz (z : Int × Int) : List (Int × Bool) := match z.1.toNat with
  | 0 => []
  | n + 1 => (z.2, true) :: List.replicate n (z.2, false)
def bu (f : List (Int × Int)) : List (Int × Bool) := f.flatMap bz
def sm2 (a b : Int × Bool) : Int × Bool := (a.1 + b.1, a.2 || b.2)
def zz (f g : List (Int × Int)) : List (Int × Bool) := List.zipWith sm2 (bu f) (bu g)
/-- One unit more. -/
def gst (out : List (Int × Int)) (s : Int × Bool) : List (Int × Int) :=
  if s.2 then out ++ [(1, s.1)] else match out[out.length - 1]? with
    | some w => out.set (out.length - 1) (w.1 + 1, w.2)
    | none => out
def grp (out : List (Int × Int)) (l : List (Int × Bool)) : List (Int × Int) := l.foldl gst out
theorem grp_rep (s : Int) (o : List (Int × Int)) : ∀ (n : Nat) (m : Int) (l : List (Int × Bool)), grp (o ++ [(m, s)]) (List.replicate n (s, false) ++ l) = grp (o ++ [(m + n, s)]) l
  | 0, m, l => by simp
  | n + 1, m, l => by
    rw [List.replicate_succ, List.cons_append]
    have : gst (o ++ [(m, s)]) (s, false) = o ++ [(m + 1, s)] := by
      unfold gst
      rw [get_last]
      simp only [Bool.false_eq_true, if_false]
      rw [set_last]
    show grp (gst (o ++ [(m, s)]) (s, false)) _ = _
    rw [this, grp_rep s o n (m + 1) l]
    congr 3
    simp only [Prod.mk.injEq, and_true]
    omega
theorem grp_run (s : Int) (o : List (Int × Int)) (n : Nat) (l : List (Int × Bool)) : grp o ((s, true) :: List.replicate n (s, false) ++ l) = grp (o ++ [((n : Int) + 1, s)]) l := by
  have : gst o (s, true) = o ++ [(1, s)] := rfl
  show grp (gst o (s, true)) (List.replicate n (s, false) ++ l) = _
  rw [this, grp_rep, Int.add_comm]
theorem bz_pos {z : Int × Int} (h : 1 ≤ z.1) : bz z = (z.2, true) :: List.replicate (z.1.toNat - 1) (z.2, false) := by
  unfold bz
  obtain ⟨n, hn⟩ : ∃ n, z.1.toNat = n + 1 := ⟨z.1.toNat - 1, by omega⟩
  rw [hn]
  rfl
theorem bu_cons {z : Int × Int} {f : List (Int × Int)} (h : 1 ≤ z.1) : bu (z :: f) = (z.2, true) :: List.replicate (z.1.toNat - 1) (z.2, false) ++ bu f := by
  unfold bu
  rw [List.flatMap_cons, bz_pos h]
/-- Where one of both begins a zone, the other one may as well. -/
theorem zz_head (w : Int) (r : List (Int × Bool)) {x : List (Int × Int)} (hx : ∀ z ∈ x, 1 ≤ z.1) :
    List.zipWith sm2 (bu x) ((w, false) :: r) = List.zipWith sm2 (bu x) ((w, true) :: r) ∧ List.zipWith sm2 ((w, false) :: r) (bu x) = List.zipWith sm2 ((w, true) :: r) (bu x) := by
  cases x with
  | nil => exact ⟨rfl, rfl⟩
  | cons z x =>
    rw [bu_cons (hx z (by simp)), List.cons_append]
    exact ⟨rfl, rfl⟩
theorem zz_rest (n : Nat) (w : Int) {x y : List (Int × Int)} (hn : 1 ≤ n) (hx : ∀ z ∈ x, 1 ≤ z.1) :
    List.zipWith sm2 (bu x) (List.replicate n (w, false) ++ bu y) = zz x (((n : Int), w) :: y) ∧ List.zipWith sm2 (List.replicate n (w, false) ++ bu y) (bu x) = zz (((n : Int), w) :: y) x := by
  obtain ⟨m, rfl⟩ : ∃ m, n = m + 1 := ⟨n - 1, by omega⟩
  unfold zz
  rw [bu_cons (by simp only; omega), List.replicate_succ, List.cons_append, List.cons_append]
  have h := zz_head w (List.replicate m (w, false) ++ bu y) hx
  rw [h.1, h.2]
  simp
theorem rep_zip (k : Nat) (v w : Int) : List.zipWith sm2 ((v, true) :: List.replicate k (v, false)) ((w, true) :: List.replicate k (w, false)) = (v + w, true) :: List.replicate k (v + w, false) := by
  rw [List.zipWith_cons_cons, List.zipWith_replicate']
  rfl
def rest (n : Int) (z : Int × Int) (x : List (Int × Int)) : List (Int × Int) := if z.1 - n = 0 then x else (z.1 - n, z.2) :: x
theorem zz_step {a b : Int × Int} {x y : List (Int × Int)} (ha : 1 ≤ a.1) (hb : 1 ≤ b.1) (hx : ∀ z ∈ x, 1 ≤ z.1) (hy : ∀ z ∈ y, 1 ≤ z.1) :
    zz (a :: x) (b :: y) = (a.2 + b.2, true) :: List.replicate ((min a.1 b.1).toNat - 1) (a.2 + b.2, false) ++ zz (rest (min a.1 b.1) a x) (rest (min a.1 b.1) b y) := by
  unfold rest
  conv => lhs; unfold zz
  rw [bu_cons ha, bu_cons hb]
  rcases Int.lt_trichotomy a.1 b.1 with h | h | h
  · have hm : min a.1 b.1 = a.1 := by omega
    rw [hm, if_pos (by omega), if_neg (by omega)]
    have e : List.replicate (b.1.toNat - 1) (b.2, false) = List.replicate (a.1.toNat - 1) (b.2, false) ++ List.replicate (b.1 - a.1).toNat (b.2, false) := by
      rw [List.replicate_append_replicate]; congr 1; omega
    rw [e, ← List.cons_append, List.append_assoc, List.zipWith_append (by simp), rep_zip]
    have := (zz_rest (b.1 - a.1).toNat b.2 (x := x) (y := y) (by omega) hx).1
    rw [this, show (((b.1 - a.1).toNat : Nat) : Int) = b.1 - a.1 by omega]
  · have hm : min a.1 b.1 = a.1 := by omega
    rw [hm, if_pos (by omega), if_pos (by omega), ← h, List.zipWith_append (by simp), rep_zip]
    rfl
  · have hm : min a.1 b.1 = b.1 := by omega
    rw [hm, if_neg (by omega), if_pos (by omega)]
    have e : List.replicate (a.1.toNat - 1) (a.2, false) = List.replicate (b.1.toNat - 1) (a.2, false) ++ List.replicate (a.1 - b.1).toNat (a.2, false) := by
      rw [List.replicate_append_replicate]; congr 1; omega
    rw [e, ← List.cons_append, List.append_assoc, List.zipWith_append (by simp), rep_zip]
    have := (zz_rest (a.1 - b.1).toNat a.2 (x := y) (y := x) (by omega) hy).2
    rw [this, show (((a.1 - b.1).toNat : Nat) : Int) = a.1 - b.1 by omega]
theorem grp_step {a b : Int × Int} {x y : List (Int × Int)} (out : List (Int × Int)) (ha : 1 ≤ a.1) (hb : 1 ≤ b.1) (hx : ∀ z ∈ x, 1 ≤ z.1) (hy : ∀ z ∈ y, 1 ≤ z.1) :
    grp out (zz (a :: x) (b :: y)) = grp (out ++ [(min a.1 b.1, a.2 + b.2)]) (zz (rest (min a.1 b.1) a x) (rest (min a.1 b.1) b y)) := by
  rw [zz_step ha hb hx hy, grp_run]
  congr 4
  omega
end Go.Proofs.Ytnnbggcckabhdaa

namespace Go.Proofs.Ytnnbggcckabhdaa
open Go Go.Eng
end Go.Proofs.Ytnnbggcckabhdaa

namespace Go.Proofs.Ytnnbggcckabhdaa
open Go Go.Eng
end Go.Proofs.Ytnnbggcckabhdaa

namespace Go.Proofs.Ytnnbggcckabhdaa
open Go Go.Eng
end Go.Proofs.Ytnnbggcckabhdaa

namespace Go.Proofs.Ytnnbggcckabhdaa
open Go Go.Eng
theorem OL_gcS {α : Type} {es : Nat} {e : α → List AV} {A H : AHeap} {n : Nat} {v : AV} {xs : List α} (h : OL es e A H n v xs) (hf : ∀ x, ∀ y ∈ e x, flat y = true) : GC A v H (.sl es A.length 0 xs.length false) (A ++ [.cells true (xs.flatMap e)]) := by
  obtain ⟨he, h1, h2, h3, full, rfl⟩ := h
  have hfl : ∀ y ∈ xs.flatMap e, flat y = true := fun y hy => by
    obtain ⟨x, _, hx⟩ := List.mem_flatMap.1 hy
    exact hf x y hx
  refine gc_weak (fun ρ c => VR.unfull) ?_
  have hk := Keep.add (keep_old h1) (n := n) (o := .cells true (xs.flatMap e)) h2 (by simp; omega) h3
  simp only [renO, ren_flats _ 3 _ hfl] at hk
  exact gc_keep hk (by simp [ren])
end Go.Proofs.Ytnnbggcckabhdaa

namespace Go.Proofs.Ytnnbggcckabhdaa
open Go Go.Eng
end Go.Proofs.Ytnnbggcckabhdaa

namespace Go.Proofs.Ytnnbggcckabhdaa
open Go Go.Eng
theorem L1_two (A : AHeap) (x y : Int) : L1 (A ++ [.cells true [I x, I y]]) (.sl 1 A.length 0 2 true) [x, y] := ⟨e1_len, by simp [slCells, cellsAt, e1]⟩
theorem take_all2 {α : Type} {p : α → Prop} {l : List α} {i : Nat} {z : α} (h : ∀ y ∈ l.take i, p y) (hz : l[i]? = some z) (hp : p z) : ∀ y ∈ l.take (i + 1), p y := by
  intro y hy
  rw [List.take_add_one, hz] at hy
  rcases List.mem_append.1 hy with hy | hy
  · exact h y hy
  · have : y = z := by simpa using hy
    rw [this]; exact hp
def v2E (f g : List (Int × Int)) : Int := if vE f = 0 then vE g else vE f
def orL : List Int → Int
  | [] => 0
  | x :: r => if x = 0 then orL r else x
theorem orL_at : ∀ (xs : List Int) (i : Nat) (z : Int), (∀ y ∈ xs.take i, y = 0) → xs[i]? = some z → z ≠ 0 → orL xs = z
  | [], _, _, _, h, _ => by simp at h
  | x :: r, 0, z, _, h, hz => by
    have : x = z := by simpa using h
    rw [orL, if_neg (by rw [this]; exact hz), this]
  | x :: r, i + 1, z, ha, h, hz => by
    have hx : x = 0 := ha x (by simp)
    rw [orL, if_pos hx]
    exact orL_at r i z (fun y hy => ha y (by simp [hy])) (by simpa using h) hz
theorem orL_none : ∀ (xs : List Int), (∀ y ∈ xs, y = 0) → orL xs = 0
  | [], _ => rfl
  | x :: r, h => by
    rw [orL, if_pos (h x (by simp))]
    exact orL_none r (fun y hy => h y (by simp [hy]))
theorem s113 {xs : List Int} {v : AV} {A : AHeap} (hx : L1 A v xs) (hl : xs.length ≤ 1000) : ACalls Try.prog 113 [v] A (I (orL xs)) A := by
  refine acalls hmix Try.func113 (by kernel_rfl) t113 1 rfl (by decide) ?_
  dsimp only [m113]
  simp (maxSteps := 4000000) -implicitDefEqProofs -dsimp (disch := omega) only [↓AW_ops, ↓AW_seq, ↓AW_block, ↓AOps_nil, ↓AOps_pu, on_some, ↓then_normal, pval, rd_S, rd_C, put_S, ↓AW_toLoop, List.replicate_succ, List.replicate_zero, List.set_cons_zero, List.set_cons_succ, List.getElem?_cons_zero, List.getElem?_cons_succ, Option.getD_some, Nat.reduceSub, List.cons_append, List.nil_append, hx.len]
  refine LoopK.by 18 (fun i : Nat => i ≤ xs.length ∧ ∀ y ∈ xs.take i, y = 0) (fun i => [(3, I 0), (6, v), (7, I xs.length), (8, I i)]) (fun _ => A) (fun i => xs.length - i) 0 ⟨by omega, by simp⟩ rfl (by simp [Has, rd_s]) rfl ?_
  rintro i ⟨hi, h1⟩
  by_cases hlt : i < xs.length
  · obtain ⟨z, hz⟩ : ∃ z, xs[i]? = some z := ⟨_, List.getElem?_eq_getElem hlt⟩
    have hlt' : (i : Int) < xs.length := by omega
    by_cases h : z = 0
    · have h1' := take_all2 h1 hz h
      subst h
      simp (maxSteps := 4000000) -implicitDefEqProofs -dsimp (disch := omega) only [↓AW_skip, ↓AW_ops, ↓AW_seq, ↓AW_cond, ↓AW_block, ↓AOps_nil, ↓AOps_pu, ↓AOps_ld, on_some, condB_t, condB_f, ↓then_normal, ↓inBlock_normal, pval, lval, rd_S, rd_C, put_S, partA, eq_self, mk, List.foldl_cons, List.foldl_nil, List.replicate_succ, List.replicate_zero, List.set_cons_zero, List.set_cons_succ, List.getElem?_cons_zero, List.getElem?_cons_succ, List.drop_zero, List.take_succ_cons, List.take_nil, Option.getD_some, List.length_cons, List.length_nil, Nat.reduceAdd, Nat.reduceLeDiff, Nat.zero_add, bin_add, bin_neq, bin_lss, w64, if_true, if_false, Bool.false_eq_true, decide_true, decide_false, Go.Eng.e1, true_and, not_true_eq_false, hlt', hx.idx hlt, hx.ld0 hz 1 false (by decide)]
      exact ⟨i + 1, ⟨hlt, h1'⟩, by simp [Has, rd_s], by omega⟩
    · simp (maxSteps := 4000000) -implicitDefEqProofs -dsimp (disch := omega) only [↓AW_skip, ↓AW_ops, ↓AW_seq, ↓AW_cond, ↓AW_block, ↓AW_ret, ↓AOps_nil, ↓AOps_pu, ↓AOps_ld, on_some, condB_t, ↓then_normal, ↓then_ret, ↓inBlock_ret, ↓Fin_ret, pval, lval, rd_S, put_S, resV, resL, partA, eq_self, mk, List.foldl_cons, List.foldl_nil, List.replicate_succ, List.replicate_zero, List.set_cons_zero, List.set_cons_succ, List.getElem?_cons_zero, List.getElem?_cons_succ, List.drop_zero, List.take_succ_cons, List.take_nil, Option.getD_some, List.length_cons, List.length_nil, Nat.reduceLeDiff, Nat.zero_add, bin_neq, bin_lss, if_true, if_false, Bool.false_eq_true, decide_true, Go.Eng.e1, not_false_eq_true, hlt', hx.idx hlt, hx.ld0 hz 1 false (by decide), h]
      exact gc_same (by rw [orL_at xs i z h1 hz h])
  · have hlt' : ¬ ((i : Int) < xs.length) := by omega
    simp (maxSteps := 4000000) -implicitDefEqProofs -dsimp (disch := omega) only [↓AW_ops, ↓AW_seq, ↓AW_cond, ↓AW_exit, ↓AW_ret, ↓AOps_nil, ↓AOps_pu, on_some, condB_f, ↓then_normal, ↓then_exit, ↓inBlock_exit, ↓Fin_ret, pval, rd_S, put_S, resV, resL, eq_self, mk, List.foldl_cons, List.foldl_nil, List.replicate_succ, List.replicate_zero, List.set_cons_zero, List.set_cons_succ, List.getElem?_cons_zero, List.getElem?_cons_succ, Option.getD_some, bin_lss, if_true, decide_false, hlt']
    rw [List.take_of_length_le (by omega)] at h1
    exact gc_same (by rw [orL_none xs h1])
theorem s82 {f g : List (Int × Int)} {v u : AV} {A : AHeap} (hf : L2 A v f) (hg : L2 A u g) : ACalls Try.prog 82 [v, u] A (I (v2E f g)) A := by
  refine acalls hmix Try.func82 (by kernel_rfl) t82 2 rfl (by decide) ?_
  dsimp only [m82]
  simp (maxSteps := 4000000) -implicitDefEqProofs -dsimp (disch := omega) only [↓AW_ops, ↓AW_seq, ↓AOps_nil, ↓AOps_pu, ↓AOps_call, on_some, ↓then_normal, pval, rd_S, rd_C, put_S, List.replicate_succ, List.replicate_zero, List.set_cons_zero, List.set_cons_succ, List.getElem?_cons_zero, List.getElem?_cons_succ, Option.getD_some, map_c, map_n, Nat.reduceSub, List.cons_append, List.nil_append]
  refine CallK.of (s37 hf) ?_
  simp (maxSteps := 4000000) -implicitDefEqProofs -dsimp (disch := omega) only [↓AOps_pu, ↓AOps_call, on_some, extK_same, pval, rd_S, put_S, List.replicate_succ, List.replicate_zero, List.set_cons_zero, List.set_cons_succ, List.getElem?_cons_zero, List.getElem?_cons_succ, Option.getD_some, map_c, map_n, Nat.reduceSub, List.cons_append, List.nil_append]
  refine CallK.of (s37 hg) ?_
  simp (maxSteps := 4000000) -implicitDefEqProofs -dsimp (disch := omega) only [↓AOps_ha, ↓AOps_call, on_some, extK_app, extK_same, hval, rd_S, put_S, AV.cells?, splice, fillA, repl, eq_self, List.replicate_succ, List.replicate_zero, List.set_cons_zero, List.set_cons_succ, List.getElem?_cons_zero, List.getElem?_cons_succ, List.drop_zero, List.drop_succ_cons, List.drop_nil, List.take_zero, List.take_succ_cons, Option.getD_some, map_c, map_n, List.length_cons, List.length_nil, Nat.reduceAdd, Nat.reduceSub, Nat.reduceLeDiff, Nat.zero_add, List.cons_append, List.nil_append, List.append_nil, if_true, and_true]
  refine CallK.of (s113 (L1_two A (vE f) (vE g)) (by simp)) ?_
  simp (maxSteps := 4000000) -implicitDefEqProofs -dsimp (disch := omega) only [↓AW_ret, ↓AOps_nil, ↓AOps_pu, on_some, extK_same, ↓then_normal, ↓Fin_ret, pval, rd_S, put_S, resV, resL, List.replicate_succ, List.replicate_zero, List.set_cons_zero, List.set_cons_succ, List.getElem?_cons_zero, List.getElem?_cons_succ, Option.getD_some, Nat.reduceSub, List.cons_append, List.nil_append]
  refine gc_val (pre_app A _) ?_
  by_cases h0 : vE f = 0
  · by_cases h1 : vE g = 0 <;> simp [orL, v2E, h0, h1, ren]
  · simp [orL, v2E, h0, ren]
theorem s84 {f g : List (Int × Int)} {v u : AV} {A : AHeap} (hf : L2 A v f) (hg : L2 A u g) : ACalls Try.prog 84 [v, u] A (I (v2E f g)) A := by
  refine acalls hmix Try.func84 (by kernel_rfl) t84 2 rfl (by decide) ?_
  dsimp only [m84]
  simp (maxSteps := 4000000) -implicitDefEqProofs -dsimp (disch := omega) only [↓AW_ops, ↓AW_seq, ↓AOps_nil, ↓AOps_pu, ↓AOps_call, on_some, ↓then_normal, pval, rd_S, rd_C, put_S, List.replicate_succ, List.replicate_zero, List.set_cons_zero, List.set_cons_succ, List.getElem?_cons_zero, List.getElem?_cons_succ, Option.getD_some, map_c, map_n, Nat.reduceSub, List.cons_append, List.nil_append]
  refine CallK.of (s38 hf) ?_
  by_cases h0 : vE f = 0
  · simp (maxSteps := 4000000) -implicitDefEqProofs -dsimp (disch := omega) only [↓AW_skip, ↓AW_ops, ↓AW_seq, ↓AW_cond, ↓AOps_nil, ↓AOps_pu, ↓AOps_call, on_some, extK_same, condB_f, ↓then_normal, pval, rd_S, rd_C, put_S, eq_self, List.replicate_succ, List.replicate_zero, List.set_cons_zero, List.set_cons_succ, List.getElem?_cons_zero, List.getElem?_cons_succ, Option.getD_some, map_c, map_n, Nat.reduceSub, List.cons_append, List.nil_append, bin_neq, decide_false, not_true_eq_false, h0]
    refine CallK.of (s38 hg) ?_
    simp (maxSteps := 4000000) -implicitDefEqProofs -dsimp (disch := omega) only [↓AW_ret, ↓AOps_nil, ↓AOps_pu, on_some, extK_same, ↓then_normal, ↓Fin_ret, pval, rd_S, put_S, resV, resL, List.replicate_succ, List.replicate_zero, List.set_cons_zero, List.set_cons_succ, List.getElem?_cons_zero, List.getElem?_cons_succ, Option.getD_some, Nat.reduceSub, List.cons_append, List.nil_append]
    exact gc_same (by simp [v2E, h0])
  · simp (maxSteps := 4000000) -implicitDefEqProofs -dsimp (disch := omega) only [↓AW_ops, ↓AW_seq, ↓AW_cond, ↓AW_ret, ↓AOps_nil, ↓AOps_pu, on_some, extK_same, condB_t, ↓then_normal, ↓then_ret, ↓Fin_ret, pval, rd_S, rd_C, put_S, resV, resL, List.replicate_succ, List.replicate_zero, List.set_cons_zero, List.set_cons_succ, List.getElem?_cons_zero, List.getElem?_cons_succ, Option.getD_some, Nat.reduceSub, List.cons_append, List.nil_append, bin_neq, decide_true, not_false_eq_true, h0]
    exact gc_same (by simp [v2E, h0])
theorem v2E_0 {f g : List (Int × Int)} (h : v2E f g = 0) : vE f = 0 ∧ vE g = 0 := by
  unfold v2E at h
  split at h
  · exact ⟨by assumption, h⟩
  · rename_i h1; exact absurd h h1
end Go.Proofs.Ytnnbggcckabhdaa

namespace Go.Proofs.Ytnnbggcckabhdaa
open Go Go.Eng
end Go.Proofs.Ytnnbggcckabhdaa

namespace Go.Proofs.Ytnnbggcckabhdaa
open Go Go.Eng
end Go.Proofs.Ytnnbggcckabhdaa

namespace Go.Proofs.Ytnnbggcckabhdaa
open Go Go.Eng
theorem len_cons (z : Int × Int) (f : List (Int × Int)) : len (z :: f) = z.1 + len f := by simp [len, sumZ]
end Go.Proofs.Ytnnbggcckabhdaa

namespace Go.Proofs.Ytnnbggcckabhdaa
open Go Go.Eng
theorem c_CloneZ {xs : List (Int × Int)} {v : AV} {A : AHeap} (hx : L2 A v xs) (hn : v ≠ .nilS) (hl : xs.length ≤ 1000000) : ACalls Try.prog 92 [v] A (.sl 2 A.length 0 xs.length false) (A ++ [.cells true (xs.flatMap e2)]) := by
  refine acalls hmix Try.func92 (by kernel_rfl) t92 1 rfl (by decide) ?_
  obtain ⟨v', n, H2, happ, ho⟩ := app_new hx (by simp [lim]; omega)
  rcases hx.inv with ⟨rfl, _⟩ | ⟨n', off, full, rw, l, rfl, _⟩
  · exact absurd rfl hn
  · dsimp only [m92]
    simp (maxSteps := 4000000) -implicitDefEqProofs -dsimp (disch := omega) only [↓AW_skip, ↓AW_ops, ↓AW_seq, ↓AW_cond, ↓AW_ret, ↓AOps_nil, ↓AOps_pu, ↓AOps_ha, on_some, extK_false, extK_app, condB_f, ↓then_normal, ↓Fin_ret, pval, hval_blds, hval_app, rd_S, rd_C, put_S, resV, resL, fillA, repl, List.replicate_succ, List.replicate_zero, List.set_cons_zero, List.set_cons_succ, List.getElem?_cons_zero, List.getElem?_cons_succ, Option.getD_some, map_n, Nat.reduceSub, List.cons_append, List.nil_append, List.replicate_zero, repl, happ]
    exact OL_gcS ho flat_e2
end Go.Proofs.Ytnnbggcckabhdaa

namespace Go.Proofs.Ytnnbggcckabhdaa
open Go Go.Eng
def ebb (b : Bool) : List AV := [.bool b]
theorem ebb_len (b : Bool) : (ebb b).length = 1 := rfl
theorem flat_ebb (b : Bool) : ∀ y ∈ ebb b, flat y = true := by simp [ebb, flat]
def bo (f : List (Int × Int)) : List Bool := (bu f).map Prod.snd
theorem bu_app (f g : List (Int × Int)) : bu (f ++ g) = bu f ++ bu g := by simp [bu]
theorem bz_snd {z : Int × Int} (h : 1 ≤ z.1) : (bz z).map Prod.snd = (List.range z.1.toNat).map (fun k => decide (k = 0)) := by
  rw [bz_pos h]
  obtain ⟨n, hn⟩ : ∃ n, z.1.toNat = n + 1 := ⟨z.1.toNat - 1, by omega⟩
  rw [hn, List.range_succ_eq_map, List.map_cons, List.map_cons, List.map_map]
  simp only [Nat.add_sub_cancel, decide_true, List.cons.injEq, true_and, List.map_replicate]
  have hr : ∀ n : Nat, (List.range n).map (fun _ => false) = List.replicate n false := by
    intro n
    induction n with
    | zero => rfl
    | succ n ih => rw [List.range_succ, List.map_append, ih, List.replicate_succ']; rfl
  rw [List.map_congr_left (g := fun _ => false) (fun k _ => by simp), hr]
theorem bo_take {f : List (Int × Int)} {i : Nat} {z : Int × Int} (hz : f[i]? = some z) (h : 1 ≤ z.1) : bo (f.take (i + 1)) = bo (f.take i) ++ (List.range z.1.toNat).map (fun k => decide (k = 0)) := by
  unfold bo
  rw [List.take_add_one, hz, Option.toList_some, bu_app, List.map_append, ← bz_snd h]
  simp [bu]
theorem bu_fst : ∀ {f : List (Int × Int)}, (∀ z ∈ f, 1 ≤ z.1) → (bu f).map Prod.fst = units f
  | [], _ => rfl
  | z :: f, h => by
    have ih := bu_fst (f := f) (fun y hy => h y (by simp [hy]))
    have hz := h z (by simp)
    rw [bu_cons hz, List.map_append, ih]
    obtain ⟨n, hn⟩ : ∃ n, z.1.toNat = n + 1 := ⟨z.1.toNat - 1, by omega⟩
    have : units (z :: f) = List.replicate z.1.toNat z.2 ++ units f := rfl
    rw [this, hn]
    simp [List.replicate_succ]
theorem bu_length {f : List (Int × Int)} (h : ∀ z ∈ f, 1 ≤ z.1) : (bu f).length = (units f).length := by
  have := congrArg List.length (bu_fst h)
  simpa using this
theorem s97 {f : List (Int × Int)} {v : AV} {A : AHeap} (hf : L2 A v f) (h : good f) : ACalls Try.prog 97 [v] A (outV 1 A (bo f).length) (outH A ((bo f).flatMap ebb) (bo f).length) := by
  refine acalls hmix Try.func97 (by kernel_rfl) t97 1 rfl (by decide) ?_
  dsimp only [m97]
  simp (maxSteps := 4000000) -implicitDefEqProofs -dsimp (disch := omega) only [↓AW_ops, ↓AW_seq, ↓AW_block, ↓AOps_nil, ↓AOps_pu, on_some, ↓then_normal, pval, rd_C, put_S, ↓AW_toLoop, List.replicate_succ, List.replicate_zero, List.set_cons_zero, List.set_cons_succ, Nat.reduceSub, List.cons_append, List.nil_append]
  refine LoopK.by 27 (fun x : Nat × AV × AHeap => x.1 ≤ f.length ∧ AccL 1 ebb A x.2.2 x.2.1 (bo (f.take x.1))) (fun x => [(0, v), (3, x.2.1), (4, I x.1)]) (fun x => x.2.2) (fun x => f.length - x.1) (0, .nilS, A) ⟨by omega, AccL.nil (List.prefix_refl _)⟩ rfl (by simp [Has, rd_s]) rfl ?_
  rintro ⟨i, u, A1⟩ ⟨hi, hu⟩
  simp only at hi hu
  by_cases hlt : i < f.length
  · obtain ⟨z, hz⟩ : ∃ z, f[i]? = some z := ⟨_, List.getElem?_eq_getElem hlt⟩
    have hlt' : (i : Int) < f.length := by omega
    have hvz := (vz_iff z).1 (all_get h.2 hz)
    have hb := len_bound (good_take h i)
    have hb' := len_units (good_take h i).2
    have hb2 := bu_length (all_pos (good_take h i).2)
    have hb3 : (bo (f.take i)).length = (units (f.take i)).length := by rw [← hb2]; simp [bo]
    have hl6 := h.1
    simp (maxSteps := 4000000) -implicitDefEqProofs -dsimp (disch := omega) only [↓AW_skip, ↓AW_ops, ↓AW_seq, ↓AW_cond, ↓AW_block, ↓AOps_nil, ↓AOps_pu, on_some, condB_t, ↓then_normal, pval, rd_S, rd_C, put_S, ↓AW_toLoop, mk, List.foldl_cons, List.foldl_nil, List.replicate_succ, List.replicate_zero, List.set_cons_zero, List.set_cons_succ, List.getElem?_cons_zero, List.getElem?_cons_succ, Option.getD_some, bin_lss, decide_true, hlt', hf.len]
    refine LoopK.by 27 (fun x : Nat × AV × AHeap => (x.1 : Int) ≤ z.1 ∧ AccL 1 ebb A x.2.2 x.2.1 (bo (f.take i) ++ (List.range x.1).map (fun k => decide (k = 0)))) (fun x => [(0, v), (3, x.2.1), (4, I i), (5, I x.1)]) (fun x => x.2.2) (fun x => z.1.toNat - x.1) (0, u, A1) ⟨by simp; omega, by simpa using hu⟩ rfl (by simp [Has, rd_s]) rfl ?_
    rintro ⟨k, u2, A2⟩ ⟨hk, hu2⟩
    simp only at hk hu2
    have hf2 := hf.mono hu2.pre
    by_cases hkz : (k : Int) < z.1
    · obtain ⟨u3, A3, happ, hu3⟩ := hu2.push ebb_len (decide ((k : Int) = 0)) (by simp [lim]; omega)
      simp only [ebb] at happ
      simp (maxSteps := 4000000) -implicitDefEqProofs -dsimp (disch := omega) only [↓AW_skip, ↓AW_ops, ↓AW_seq, ↓AW_cond, ↓AW_block, ↓AOps_nil, ↓AOps_pu, ↓AOps_ld, ↓AOps_ha, on_some, extK_false, extK_app, condB_t, ↓then_normal, ↓inBlock_normal, pval, lval, hval, rd_S, rd_C, put_S, AV.cells?, splice, partA, fillA, repl, eq_self, mk, List.foldl_cons, List.foldl_nil, List.replicate_succ, List.replicate_zero, List.set_cons_zero, List.set_cons_succ, List.getElem?_cons_zero, List.getElem?_cons_succ, List.drop_zero, List.drop_succ_cons, List.drop_nil, List.take_zero, List.take_succ_cons, Option.getD_some, map_c, map_n, List.length_cons, List.length_nil, Nat.reduceAdd, Nat.reduceLeDiff, Nat.zero_add, Nat.add_zero, List.nil_append, List.append_nil, bin_add, bin_eql, bin_lss, w64, if_true, if_false, Bool.false_eq_true, decide_true, Go.Eng.e2, true_and, and_true, hkz, hf2.idx hlt, hf2.ld0 hz 1 false (by decide), happ]
      refine ⟨(k + 1, u3, A3), ⟨by simp only; omega, ?_⟩, by simp [Has, rd_s], rfl, by simp only; omega⟩
      simp only
      rw [List.range_succ, List.map_append, ← List.append_assoc]
      have : decide ((k : Int) = 0) = decide (k = 0) := by rw [decide_eq_decide]; omega
      rw [this] at hu3
      exact hu3
    · simp (maxSteps := 4000000) -implicitDefEqProofs -dsimp (disch := omega) only [↓AW_ops, ↓AW_seq, ↓AW_cond, ↓AW_exit, ↓AW_ret, ↓AOps_nil, ↓AOps_pu, ↓AOps_ld, on_some, condB_f, ↓then_normal, ↓then_exit, ↓inBlock_normal, ↓inBlock_exit, ↓Fin_ret, pval, lval, rd_S, rd_C, put_S, resV, resL, partA, eq_self, mk, List.foldl_cons, List.foldl_nil, List.replicate_succ, List.replicate_zero, List.set_cons_zero, List.set_cons_succ, List.getElem?_cons_zero, List.getElem?_cons_succ, List.drop_zero, List.take_zero, List.take_succ_cons, Option.getD_some, List.length_cons, List.length_nil, Nat.reduceAdd, Nat.reduceLeDiff, Nat.reduceEqDiff, Nat.zero_add, Nat.add_zero, bin_add, bin_lss, w64, if_true, if_false, Bool.false_eq_true, decide_false, Go.Eng.e2, true_and, reduceCtorEq, hkz, hf2.idx hlt, hf2.ld0 hz 1 false (by decide)]
      have hkz' : k = z.1.toNat := by omega
      subst hkz'
      exact ⟨(i + 1, u2, A2), ⟨hlt, by rw [bo_take hz (by omega)]; exact hu2⟩, by simp [Has, rd_s], rfl, by simp only; omega⟩
  · have hlt' : ¬ ((i : Int) < f.length) := by omega
    simp (maxSteps := 4000000) -implicitDefEqProofs -dsimp (disch := omega) only [↓AW_ops, ↓AW_seq, ↓AW_cond, ↓AW_exit, ↓AW_ret, ↓AOps_nil, ↓AOps_pu, on_some, condB_f, ↓then_normal, ↓then_exit, ↓inBlock_exit, ↓Fin_ret, pval, rd_S, put_S, resV, resL, eq_self, mk, List.foldl_cons, List.foldl_nil, List.replicate_succ, List.replicate_zero, List.set_cons_zero, List.set_cons_succ, List.getElem?_cons_zero, List.getElem?_cons_succ, Option.getD_some, bin_lss, if_true, decide_false, hlt', hf.len]
    rw [List.take_of_length_le (by omega)] at hu
    exact hu.gc flat_ebb
/-- A unit's sum is too great. -/
def big (l : List (Int × Bool)) : Prop := ∃ y ∈ l, 20 < y.1
instance (l : List (Int × Bool)) : Decidable (big l) := by unfold big; exact inferInstance
def suE (f g : List (Int × Int)) : Int :=
  if v2E f g = 0 then (if len f = len g then (if big (zz f g) then 1 else if 6 < (grp [] (zz f g)).length then 3 else 0) else 5) else v2E f g
def suL (f g : List (Int × Int)) : List (Int × Int) := if suE f g = 0 then grp [] (zz f g) else []
theorem gst_len {m : Int} {out : List (Int × Int)} {s : Int × Bool} (h : ∀ w ∈ out, 0 ≤ w.1 ∧ w.1 ≤ m) (hm : 0 ≤ m) : ∀ w ∈ gst out s, 0 ≤ w.1 ∧ w.1 ≤ m + 1 := by
  intro w hw
  unfold gst at hw
  split at hw
  · rcases List.mem_append.1 hw with hw | hw
    · have := h w hw; omega
    · have : w = (1, s.1) := by simpa using hw
      rw [this]; simp only; omega
  · split at hw
    · rename_i y hy
      have := h y (List.mem_of_getElem? hy)
      rcases List.mem_or_eq_of_mem_set hw with hw | rfl
      · have := h w hw; omega
      · simp only; omega
    · have := h w hw; omega
theorem grp_len {m : Int} : ∀ (l : List (Int × Bool)) (out : List (Int × Int)), 0 ≤ m → (∀ w ∈ out, 0 ≤ w.1 ∧ w.1 ≤ m) → ∀ w ∈ grp out l, 0 ≤ w.1 ∧ w.1 ≤ m + l.length
  | [], out, _, h => by simpa [grp] using h
  | s :: l, out, hm, h => by
    have := grp_len (m := m + 1) l (gst out s) (by omega) (gst_len h hm)
    intro w hw
    have h1 := this w hw
    simp only [List.length_cons]
    omega
theorem gst_out (out : List (Int × Int)) (s : Int × Bool) : (gst out s).length ≤ out.length + 1 ∧ (s.2 = true ∨ 0 < out.length → 0 < (gst out s).length) := by
  unfold gst
  split
  · simp
  · rename_i hs
    split
    · rw [List.length_set]; exact ⟨by omega, fun h => by rcases h with h | h; exact absurd h hs; exact h⟩
    · exact ⟨by omega, fun h => by rcases h with h | h; exact absurd h hs; exact h⟩
theorem grp_out : ∀ (l : List (Int × Bool)) (out : List (Int × Int)), (grp out l).length ≤ out.length + l.length
  | [], out => by simp [grp]
  | s :: l, out => by
    have h1 := grp_out l (gst out s)
    have h2 := (gst_out out s).1
    simp only [List.length_cons]
    have : grp out (s :: l) = grp (gst out s) l := rfl
    rw [this]; omega
theorem grp_take {l : List (Int × Bool)} {i : Nat} {s : Int × Bool} (h : l[i]? = some s) : grp [] (l.take (i + 1)) = gst (grp [] (l.take i)) s := by
  unfold grp
  rw [List.take_add_one, h, Option.toList_some, List.foldl_append]
  rfl
theorem zz_get {f g : List (Int × Int)} {i : Nat} {p q : Int × Bool} (hp : (bu f)[i]? = some p) (hq : (bu g)[i]? = some q) : (zz f g)[i]? = some (p.1 + q.1, p.2 || q.2) := by
  unfold zz
  rw [List.getElem?_zipWith, hp, hq]
  rfl
theorem zz_first {f g : List (Int × Int)} (hf : ∀ z ∈ f, 1 ≤ z.1) (hg : ∀ z ∈ g, 1 ≤ z.1) {s : Int × Bool} (h : (zz f g)[0]? = some s) : s.2 = true := by
  cases f with
  | nil => simp [zz, bu] at h
  | cons a x =>
    cases g with
    | nil => simp [zz, bu] at h
    | cons b y =>
      rw [zz_step (hf a (by simp)) (hg b (by simp)) (fun z hz => hf z (by simp [hz])) (fun z hz => hg z (by simp [hz]))] at h
      simp at h
      rw [← h]
theorem grp_pos {f g : List (Int × Int)} (hf : ∀ z ∈ f, 1 ≤ z.1) (hg : ∀ z ∈ g, 1 ≤ z.1) : ∀ i, 0 < i → i ≤ (zz f g).length → 0 < (grp [] ((zz f g).take i)).length
  | 0, h, _ => by omega
  | i + 1, _, hi => by
    obtain ⟨s, hs⟩ : ∃ s, (zz f g)[i]? = some s := ⟨_, List.getElem?_eq_getElem (by omega)⟩
    rw [grp_take hs]
    refine (gst_out _ s).2 ?_
    rcases Nat.eq_zero_or_pos i with h | h
    · subst h; exact .inl (zz_first hf hg hs)
    · exact .inr (grp_pos hf hg i h (by omega))
theorem big_take {l : List (Int × Bool)} {i : Nat} {s : Int × Bool} (h : l[i]? = some s) (hs : ¬ 20 < s.1) (hb : ¬ big (l.take i)) : ¬ big (l.take (i + 1)) := by
  rintro ⟨y, hy, hy2⟩
  rw [List.take_add_one, h] at hy
  rcases List.mem_append.1 hy with hy | hy
  · exact hb ⟨y, hy, hy2⟩
  · have : y = s := by simpa using hy
    rw [this] at hy2
    exact hs hy2
theorem eb_get {f : List (Int × Int)} {i : Nat} {p : Int × Bool} (hf : ∀ z ∈ f, 1 ≤ z.1) (h : (bu f)[i]? = some p) : (units f)[i]? = some p.1 ∧ (bo f)[i]? = some p.2 := by
  rw [← bu_fst hf, bo, List.getElem?_map, List.getElem?_map, h]
  exact ⟨rfl, rfl⟩
set_option maxRecDepth 100000 in
set_option maxHeartbeats 1000000 in
theorem s58 {f g : List (Int × Int)} {v u : AV} {A : AHeap} (hf : L2 A v f) (hg : L2 A u g) : ACalls Try.prog 58 [v, u] A (.tuple [outV 2 A (suL f g).length, I (suE f g)]) (outH A ((suL f g).flatMap e2) (suL f g).length) := by
  refine acalls hmix Try.func58 (by kernel_rfl) t58 2 rfl (by decide) ?_
  dsimp only [m58]
  simp (maxSteps := 4000000) -implicitDefEqProofs -dsimp (disch := omega) only [↓AW_ops, ↓AW_seq, ↓AOps_nil, ↓AOps_pu, ↓AOps_call, on_some, ↓then_normal, pval, rd_S, rd_C, put_S, List.replicate_succ, List.replicate_zero, List.set_cons_zero, List.set_cons_succ, List.getElem?_cons_zero, List.getElem?_cons_succ, Option.getD_some, map_c, map_n, Nat.reduceSub, List.cons_append, List.nil_append]
  refine CallK.of (s84 hf hg) ?_
  by_cases h0 : v2E f g = 0
  · obtain ⟨hvf, hvg⟩ := v2E_0 h0
    obtain ⟨hgf, hf1⟩ := good_of hvf
    have hgg := (good_of hvg).1
    have hpf := all_pos hgf.2
    have hpg := all_pos hgg.2
    have hlf := len_units hgf.2
    have hlg := len_units hgg.2
    have hbf := len_bound hgf
    simp (maxSteps := 4000000) -implicitDefEqProofs -dsimp (disch := omega) only [↓AW_skip, ↓AW_ops, ↓AW_seq, ↓AW_cond, ↓AOps_nil, ↓AOps_pu, ↓AOps_call, on_some, extK_same, condB_f, ↓then_normal, pval, rd_S, rd_C, put_S, eq_self, List.replicate_succ, List.replicate_zero, List.set_cons_zero, List.set_cons_succ, List.getElem?_cons_zero, List.getElem?_cons_succ, Option.getD_some, map_c, map_n, Nat.reduceSub, List.cons_append, List.nil_append, bin_neq, decide_false, not_true_eq_false, h0]
    refine CallK.of (s68 hf hgf) ?_
    have p1 := pre_out A ((units f).flatMap Go.Eng.e1) (units f).length
    have hL1 := Ls_out A e1_len (units f)
    generalize outH A ((units f).flatMap Go.Eng.e1) (units f).length = A1 at *
    generalize outV 1 A (units f).length = y1 at *
    simp (maxSteps := 4000000) -implicitDefEqProofs -dsimp (disch := omega) only [↓AOps_pu, ↓AOps_call, on_some, extK_false, pval, rd_S, put_S, List.replicate_succ, List.replicate_zero, List.set_cons_zero, List.set_cons_succ, List.getElem?_cons_zero, List.getElem?_cons_succ, Option.getD_some, map_c, map_n, Nat.reduceSub, List.cons_append, List.nil_append]
    refine CallK.of (s68 (hg.mono p1) hgg) ?_
    have p2 := pre_out A1 ((units g).flatMap Go.Eng.e1) (units g).length
    have hL2 := Ls_out A1 e1_len (units g)
    generalize outH A1 ((units g).flatMap Go.Eng.e1) (units g).length = A2 at *
    generalize outV 1 A1 (units g).length = y2 at *
    have hL := hL1.mono p2
    by_cases h1 : len f = len g
    · have h1' : ((units f).length : Int) = (units g).length := by omega
      have hblf := bu_length hpf
      have hblg := bu_length hpg
      have hzl : (zz f g).length = (units f).length := by unfold zz; rw [List.length_zipWith]; omega
      simp (maxSteps := 4000000) -implicitDefEqProofs -dsimp (disch := omega) only [↓AW_skip, ↓AW_ops, ↓AW_seq, ↓AW_cond, ↓AOps_nil, ↓AOps_pu, ↓AOps_call, on_some, extK_false, condB_f, ↓then_normal, pval, rd_S, put_S, eq_self, List.replicate_succ, List.replicate_zero, List.set_cons_zero, List.set_cons_succ, List.getElem?_cons_zero, List.getElem?_cons_succ, Option.getD_some, map_c, map_n, Nat.reduceSub, List.cons_append, List.nil_append, bin_neq, decide_false, not_true_eq_false, hL.len, hL2.len, h1']
      refine CallK.of (s97 (hf.mono (p1.trans p2)) hgf) ?_
      have p3 := pre_out A2 ((bo f).flatMap ebb) (bo f).length
      have hB1 := Ls_out A2 ebb_len (bo f)
      generalize outH A2 ((bo f).flatMap ebb) (bo f).length = A3 at *
      generalize outV 1 A2 (bo f).length = y3 at *
      simp (maxSteps := 4000000) -implicitDefEqProofs -dsimp (disch := omega) only [↓AOps_pu, ↓AOps_call, on_some, extK_false, pval, rd_S, put_S, List.replicate_succ, List.replicate_zero, List.set_cons_zero, List.set_cons_succ, List.getElem?_cons_zero, List.getElem?_cons_succ, Option.getD_some, map_c, map_n, Nat.reduceSub, List.cons_append, List.nil_append]
      refine CallK.of (s97 (hg.mono ((p1.trans p2).trans p3)) hgg) ?_
      have p4 := pre_out A3 ((bo g).flatMap ebb) (bo g).length
      have hB2 := Ls_out A3 ebb_len (bo g)
      generalize outH A3 ((bo g).flatMap ebb) (bo g).length = A4 at *
      generalize outV 1 A3 (bo g).length = y4 at *
      have hpA := ((p1.trans p2).trans p3).trans p4
      simp (maxSteps := 4000000) -implicitDefEqProofs -dsimp (disch := omega) only [↓AW_ops, ↓AW_seq, ↓AW_block, ↓AOps_nil, ↓AOps_pu, on_some, extK_false, ↓then_normal, pval, rd_S, rd_C, put_S, ↓AW_toLoop, List.replicate_succ, List.replicate_zero, List.set_cons_zero, List.set_cons_succ, List.getElem?_cons_zero, List.getElem?_cons_succ, Option.getD_some, Nat.reduceSub, List.cons_append, List.nil_append]
      have hE : suE f g = if big (zz f g) then 1 else if 6 < (grp [] (zz f g)).length then 3 else 0 := by simp [suE, h0, h1]
      refine LoopK.by 85 (fun x : Nat × AV × AHeap => x.1 ≤ (units f).length ∧ ¬ big ((zz f g).take x.1) ∧ AccL 2 e2 A4 x.2.2 x.2.1 (grp [] ((zz f g).take x.1))) (fun x => [(7, y1), (8, y2), (9, y3), (10, y4), (11, x.2.1), (12, I x.1)]) (fun x => x.2.2) (fun x => (units f).length - x.1) (0, .nilS, A4) ⟨by simp only; omega, by simp [big], AccL.nil (List.prefix_refl _)⟩ rfl (by simp [Has, rd_s]) rfl ?_
      rintro ⟨i, o, A5⟩ ⟨hi, hnb, hu⟩
      simp only at hi hnb hu
      have q := hu.pre
      have hLa := hL1.mono (p2.trans (p3.trans (p4.trans q)))
      have hLb := hL2.mono (p3.trans (p4.trans q))
      have hBa := hB1.mono (p4.trans q)
      have hBb := hB2.mono q
      by_cases hlt : i < (units f).length
      · have hlt' : (i : Int) < (units f).length := by omega
        obtain ⟨p, hp⟩ : ∃ p, (bu f)[i]? = some p := ⟨_, List.getElem?_eq_getElem (by omega)⟩
        obtain ⟨r, hr⟩ : ∃ r, (bu g)[i]? = some r := ⟨_, List.getElem?_eq_getElem (by omega)⟩
        obtain ⟨e1', e2'⟩ := eb_get hpf hp
        obtain ⟨e3', e4'⟩ := eb_get hpg hr
        have hzr := zz_get hp hr
        have k1 := units_le hgf.2 p.1 (List.mem_of_getElem? e1')
        have k2 := units_le hgg.2 r.1 (List.mem_of_getElem? e3')
        have i1 : i < (units g).length := by omega
        have i2 : i < (bo f).length := (List.getElem?_eq_some_iff.1 e2').1
        have i3 : i < (bo g).length := (List.getElem?_eq_some_iff.1 e4').1
        by_cases hbig : 20 < p.1 + r.1
        · simp (maxSteps := 4000000) -implicitDefEqProofs -dsimp (disch := omega) only [↓AW_skip, ↓AW_ops, ↓AW_seq, ↓AW_cond, ↓AW_block, ↓AW_ret, ↓AOps_nil, ↓AOps_pu, ↓AOps_ld, on_some, condB_t, ↓then_normal, ↓then_ret, ↓inBlock_ret, ↓Fin_ret, pval, lval, rd_S, rd_C, put_S, resV, resL, partA, eq_self, mk, List.foldl_cons, List.foldl_nil, List.replicate_succ, List.replicate_zero, List.set_cons_zero, List.set_cons_succ, List.getElem?_cons_zero, List.getElem?_cons_succ, List.drop_zero, List.take_succ_cons, List.take_nil, Option.getD_some, List.length_cons, List.length_nil, Nat.reduceLeDiff, Nat.zero_add, bin_add, bin_lss, bin_gtr, w64, if_true, if_false, Bool.false_eq_true, decide_true, Go.Eng.e1, hlt', hLa.len, hLa.idx hlt, hLa.ld0 e1' 1 false (by decide), hLb.idx i1, hLb.ld0 e3' 1 false (by decide), hbig]
          have hb : big (zz f g) := ⟨_, List.mem_of_getElem? hzr, hbig⟩
          have hE1 : suE f g = 1 := by rw [hE, if_pos hb]
          have hL0 : suL f g = [] := by simp [suL, hE1]
          rw [hE1, hL0]
          exact gc_old2 (hpA.trans q) rfl rfl
        · have hnb2 := big_take hzr hbig hnb
          have hgt := grp_take hzr
          have hgl := grp_out ((zz f g).take i) []
          rw [List.length_take, List.length_nil] at hgl
          have hgb := grp_len (m := 0) ((zz f g).take i) [] (by omega) (by simp)
          rw [List.length_take] at hgb
          have hgp := grp_pos hpf hpg i
          by_cases hbo : (p.2 || r.2) = true
          · obtain ⟨o3, A6, happ, h3⟩ := hu.push e2_len (0, p.1 + r.1) (by simp [lim]; omega)
            simp only [Go.Eng.e2] at happ
            have h3' := AccL_ls h3 e2_len
            have hlen : lenA o3 = some (I (((grp [] ((zz f g).take i)).length : Int) + 1)) := by rw [h3'.len, List.length_append]; rfl
            have hgs : gst (grp [] ((zz f g).take i)) (p.1 + r.1, p.2 || r.2) = grp [] ((zz f g).take i) ++ [(1, p.1 + r.1)] := by unfold gst; rw [if_pos hbo]
            rw [hgs] at hgt
            generalize grp [] ((zz f g).take i) = out at *
            have hkl : out.length < (out ++ [(0, p.1 + r.1)]).length := by simp
            have hke : (out ++ [((0 : Int), p.1 + r.1)])[out.length]? = some (0, p.1 + r.1) := by simp
            have hkx : (out ++ [((0 : Int), p.1 + r.1)])[out.length] = (0, p.1 + r.1) := by simp
            have hk1 : (out.length : Int) + 1 - 1 = out.length := by omega
            obtain ⟨A7, hst, h4⟩ := AccL_st0 h3 e2_len hkl 1 (I (0 + 1)) [I (0 + 1)] (1, p.1 + r.1) rfl rfl (by decide) (by rw [hkx]; rfl)
            have hset : (out ++ [((0 : Int), p.1 + r.1)]).set out.length (1, p.1 + r.1) = out ++ [(1, p.1 + r.1)] := by simp
            rw [hset] at h4
            have hp6 := h3.pre
            have fin : ∃ y : Nat × AV × AHeap, (y.1 ≤ (units f).length ∧ ¬ big ((zz f g).take y.1) ∧ AccL 2 e2 A4 y.2.2 y.2.1 (grp [] ((zz f g).take y.1))) ∧ y = (i + 1, o3, A7) := ⟨(i + 1, o3, A7), ⟨hlt, hnb2, by simp only; rw [hgt]; exact h4⟩, rfl⟩
            obtain ⟨y, hy, hye⟩ := fin
            have z1 : (0 : Int) + 1 = 1 := rfl
            rw [z1] at hst
            by_cases hb1 : p.2 = true
            · simp (maxSteps := 4000000) -implicitDefEqProofs -dsimp (disch := omega) only [↓AW_skip, ↓AW_ops, ↓AW_seq, ↓AW_cond, ↓AW_block, ↓AOps_nil, ↓AOps_pu, ↓AOps_ld, ↓AOps_ha, ↓AOps_guard, on_some, extK_false, extK_app, guardB_tf, skipS_some, condB_t, condB_f, ↓then_normal, ↓inBlock_normal, pval, lval, hval_st, hval_blds, hval_app, rd_S, rd_C, put_S, putS_none, cells_agg, cells_int, splice, partA, fillA, repl, eq_self, mk, List.foldl_cons, List.foldl_nil, List.replicate_succ, List.replicate_zero, List.set_cons_zero, List.set_cons_succ, List.getElem?_cons_zero, List.getElem?_cons_succ, List.drop_zero, List.drop_succ_cons, List.drop_nil, List.take_zero, List.take_succ_cons, List.take_nil, Option.getD_some, Option.map_some, map_c, map_n, List.length_cons, List.length_nil, Nat.reduceAdd, Nat.reduceLeDiff, Nat.zero_add, Nat.add_zero, List.cons_append, List.nil_append, List.append_nil, bin_add, bin_sub, bin_lss, bin_gtr, w64, if_true, if_false, Bool.false_eq_true, decide_true, decide_false, Go.Eng.e1, Go.Eng.e2, true_and, and_true, Int.reduceAdd, hlt', hLa.len, hLa.idx hlt, hLa.ld0 e1' 1 false (by decide), hLb.idx i1, hLb.ld0 e3' 1 false (by decide), hbig, hBa.idx i2, hBa.ld0 e2' 1 false (by decide), ebb, hb1, happ, hlen, hk1, h3'.idx hkl, h3'.ld0 hke 1 false (by decide), hst]
              exact ⟨y, hy, by simp [Has, rd_s, hye], by rw [hye], by rw [hye]; simp only; omega⟩
            · have hb1' : p.2 = false := by simpa using hb1
              have hb2' : r.2 = true := by rw [hb1'] at hbo; simpa using hbo
              simp (maxSteps := 4000000) -implicitDefEqProofs -dsimp (disch := omega) only [↓AW_skip, ↓AW_ops, ↓AW_seq, ↓AW_cond, ↓AW_block, ↓AOps_nil, ↓AOps_pu, ↓AOps_ld, ↓AOps_ha, ↓AOps_guard, on_some, extK_false, extK_app, guardB_ff, condB_t, condB_f, ↓then_normal, ↓inBlock_normal, pval, lval, hval_st, hval_blds, hval_app, rd_S, rd_C, put_S, putS_none, cells_agg, cells_int, splice, partA, fillA, repl, eq_self, mk, List.foldl_cons, List.foldl_nil, List.replicate_succ, List.replicate_zero, List.set_cons_zero, List.set_cons_succ, List.getElem?_cons_zero, List.getElem?_cons_succ, List.drop_zero, List.drop_succ_cons, List.drop_nil, List.take_zero, List.take_succ_cons, List.take_nil, Option.getD_some, Option.map_some, map_c, map_n, List.length_cons, List.length_nil, Nat.reduceAdd, Nat.reduceLeDiff, Nat.zero_add, Nat.add_zero, List.cons_append, List.nil_append, List.append_nil, bin_add, bin_sub, bin_lss, bin_gtr, w64, if_true, if_false, Bool.false_eq_true, decide_true, decide_false, Go.Eng.e1, Go.Eng.e2, true_and, and_true, Int.reduceAdd, hlt', hLa.len, hLa.idx hlt, hLa.ld0 e1' 1 false (by decide), hLb.idx i1, hLb.ld0 e3' 1 false (by decide), hbig, hBa.idx i2, hBa.ld0 e2' 1 false (by decide), hBb.idx i3, hBb.ld0 e4' 1 false (by decide), ebb, hb1', hb2', happ, hlen, hk1, h3'.idx hkl, h3'.ld0 hke 1 false (by decide), hst]
              exact ⟨y, hy, by simp [Has, rd_s, hye], by rw [hye], by rw [hye]; simp only; omega⟩
          · have hbo' : p.2 = false ∧ r.2 = false := by simpa using hbo
            have hi0 : 0 < i := by
              rcases Nat.eq_zero_or_pos i with h | h
              · subst h
                have := zz_first hpf hpg hzr
                exact absurd this hbo
              · exact h
            have hop := hgp hi0 (by omega)
            have hgs : gst (grp [] ((zz f g).take i)) (p.1 + r.1, p.2 || r.2) = match (grp [] ((zz f g).take i))[(grp [] ((zz f g).take i)).length - 1]? with
                | some w => (grp [] ((zz f g).take i)).set ((grp [] ((zz f g).take i)).length - 1) (w.1 + 1, w.2)
                | none => grp [] ((zz f g).take i) := by unfold gst; exact if_neg hbo
            rw [hgs] at hgt
            have hu' := AccL_ls hu e2_len
            generalize grp [] ((zz f g).take i) = out at *
            obtain ⟨k, hk⟩ : ∃ k, out.length = k + 1 := ⟨out.length - 1, by omega⟩
            have hkl : k < out.length := by omega
            obtain ⟨w, hw⟩ : ∃ w, out[k]? = some w := ⟨_, List.getElem?_eq_getElem hkl⟩
            have hwe : out[k] = w := (List.getElem?_eq_some_iff.1 hw).2
            have hk3 : out.length - 1 = k := by omega
            rw [hk3, hw] at hgt
            simp only at hgt
            have hwb := hgb w (List.mem_of_getElem? hw)
            have hlen : lenA o = some (I ((k : Int) + 1)) := by rw [hu'.len, hk]; rfl
            have hk1 : (k : Int) + 1 - 1 = k := by omega
            obtain ⟨A7, hst, h4⟩ := AccL_st0 hu e2_len hkl 1 (I (w.1 + 1)) [I (w.1 + 1)] (w.1 + 1, w.2) rfl rfl (by decide) (by rw [hwe]; rfl)
            simp (maxSteps := 4000000) -implicitDefEqProofs -dsimp (disch := omega) only [↓AW_skip, ↓AW_ops, ↓AW_seq, ↓AW_cond, ↓AW_block, ↓AOps_nil, ↓AOps_pu, ↓AOps_ld, ↓AOps_ha, ↓AOps_guard, on_some, extK_false, guardB_ff, condB_t, condB_f, ↓then_normal, ↓inBlock_normal, pval, lval, hval_st, rd_S, rd_C, put_S, putS_none, partA, eq_self, mk, List.foldl_cons, List.foldl_nil, List.replicate_succ, List.replicate_zero, List.set_cons_zero, List.set_cons_succ, List.getElem?_cons_zero, List.getElem?_cons_succ, List.drop_zero, List.take_zero, List.take_succ_cons, List.take_nil, Option.getD_some, Option.map_some, List.length_cons, List.length_nil, Nat.reduceAdd, Nat.reduceLeDiff, Nat.zero_add, Nat.add_zero, bin_add, bin_sub, bin_lss, bin_gtr, w64, if_true, if_false, Bool.false_eq_true, decide_true, decide_false, Go.Eng.e1, Go.Eng.e2, true_and, hlt', hLa.len, hLa.idx hlt, hLa.ld0 e1' 1 false (by decide), hLb.idx i1, hLb.ld0 e3' 1 false (by decide), hbig, hBa.idx i2, hBa.ld0 e2' 1 false (by decide), hBb.idx i3, hBb.ld0 e4' 1 false (by decide), ebb, hbo', hlen, hk1, hu'.idx hkl, hu'.ld0 hw 1 false (by decide), hst]
            exact ⟨(i + 1, o, A7), ⟨hlt, hnb2, by simp only; rw [hgt]; exact h4⟩, by simp [Has, rd_s], rfl, by simp only; omega⟩
      · have hlt' : ¬ ((i : Int) < (units f).length) := by omega
        rw [List.take_of_length_le (by omega)] at hu hnb
        have hu' := AccL_ls hu e2_len
        by_cases h6 : (6 : Int) < (grp [] (zz f g)).length
        · have hE1 : suE f g = 3 := by rw [hE, if_neg hnb, if_pos (by omega)]
          have hL0 : suL f g = [] := by simp [suL, hE1]
          rw [hE1, hL0]
          simp (maxSteps := 4000000) -implicitDefEqProofs -dsimp (disch := omega) only [↓AW_ops, ↓AW_seq, ↓AW_cond, ↓AW_exit, ↓AW_ret, ↓AOps_nil, ↓AOps_pu, on_some, condB_t, condB_f, ↓then_normal, ↓then_exit, ↓then_ret, ↓inBlock_exit, ↓Fin_ret, pval, rd_S, rd_C, put_S, resV, resL, eq_self, mk, List.foldl_cons, List.foldl_nil, List.replicate_succ, List.replicate_zero, List.set_cons_zero, List.set_cons_succ, List.getElem?_cons_zero, List.getElem?_cons_succ, Option.getD_some, List.length_nil, bin_lss, bin_gtr, if_true, decide_true, decide_false, hlt', hLa.len, hu'.len, h6]
          exact gc_old2 (hpA.trans q) rfl rfl
        · have hE1 : suE f g = 0 := by rw [hE, if_neg hnb, if_neg (by omega)]
          have hL0 : suL f g = grp [] (zz f g) := by simp [suL, hE1]
          rw [hE1, hL0]
          simp (maxSteps := 4000000) -implicitDefEqProofs -dsimp (disch := omega) only [↓AW_skip, ↓AW_ops, ↓AW_seq, ↓AW_cond, ↓AW_exit, ↓AW_ret, ↓AOps_nil, ↓AOps_pu, on_some, condB_f, ↓then_normal, ↓then_exit, ↓inBlock_exit, ↓Fin_ret, pval, rd_S, rd_C, put_S, resV, resL, eq_self, mk, List.foldl_cons, List.foldl_nil, List.replicate_succ, List.replicate_zero, List.set_cons_zero, List.set_cons_succ, List.getElem?_cons_zero, List.getElem?_cons_succ, Option.getD_some, bin_lss, bin_gtr, if_true, decide_false, hlt', hLa.len, hu'.len, h6]
          exact (AccL_base hpA hu).gc2 flat_e2 (I 0) rfl
    · have h1' : ¬ ((units f).length : Int) = (units g).length := by omega
      have hE : suE f g = 5 := by simp [suE, h0, h1]
      have hL0 : suL f g = [] := by simp [suL, hE]
      rw [hE, hL0]
      simp (maxSteps := 4000000) -implicitDefEqProofs -dsimp (disch := omega) only [↓AW_ops, ↓AW_seq, ↓AW_cond, ↓AW_ret, ↓AOps_nil, ↓AOps_pu, on_some, extK_false, condB_t, ↓then_normal, ↓then_ret, ↓Fin_ret, pval, rd_S, rd_C, put_S, resV, resL, List.replicate_succ, List.replicate_zero, List.set_cons_zero, List.set_cons_succ, List.getElem?_cons_zero, List.getElem?_cons_succ, Option.getD_some, List.length_nil, Nat.reduceSub, List.cons_append, List.nil_append, bin_neq, decide_true, not_false_eq_true, hL.len, hL2.len, h1']
      exact gc_old2 (p1.trans p2) rfl rfl
  · have hE : suE f g = v2E f g := by simp [suE, h0]
    have hL0 : suL f g = [] := by simp [suL, hE, h0]
    rw [hE, hL0]
    simp (maxSteps := 4000000) -implicitDefEqProofs -dsimp (disch := omega) only [↓AW_ops, ↓AW_seq, ↓AW_cond, ↓AW_ret, ↓AOps_nil, ↓AOps_pu, on_some, extK_same, condB_t, ↓then_normal, ↓then_ret, ↓Fin_ret, pval, rd_S, rd_C, put_S, resV, resL, List.replicate_succ, List.replicate_zero, List.set_cons_zero, List.set_cons_succ, List.getElem?_cons_zero, List.getElem?_cons_succ, Option.getD_some, List.length_nil, Nat.reduceSub, List.cons_append, List.nil_append, bin_neq, decide_true, not_false_eq_true, h0]
    exact gc_same_all rfl rfl
end Go.Proofs.Ytnnbggcckabhdaa

namespace Go.Eng
open Go
section
variable {P : Program} {α : Type}
end
end Go.Eng

namespace Go.Eng
open Go
theorem AccL_push2 {α : Type} {es : Nat} {e : α → List AV} {H H1 : AHeap} {v : AV} {xs : List α} (h : AccL es e H H1 v xs) (he : ∀ x, (e x).length = es) (h0 : 0 < es) (x : α) (hl : xs.length + 1 ≤ lim) :
    ∃ v' H2, appA es (H1 ++ [.cells true (e x)]) v (.sl es H1.length 0 1 true) = some (v', H2) ∧ AccL es e H H2 v' (xs ++ [x]) ∧
      (∀ k o, H1[k]? = some o → (∀ n len, v = .sl es n 0 len false → k ≠ n) → H2[k]? = some o) ∧ ∃ n len, v' = .sl es n 0 len false ∧ H1.length ≤ n := by
  obtain ⟨v', H2, happ, hacc⟩ := h.push he x hl
  refine ⟨v', H2, happ, hacc, ?_⟩
  have hc := slCells_new (es := es) H1 (e x) (he x)
  rcases h.2.2 with ⟨h3, rfl⟩ | ⟨h3, n, rfl, h5, h6⟩
  · unfold appA at happ
    rw [hc] at happ
    simp [lim] at happ
    obtain ⟨rfl, rfl⟩ := happ
    refine ⟨fun k o hk _ => ?_, _, _, rfl, by simp⟩
    have hlt := (List.getElem?_eq_some_iff.1 hk).1
    first
      | (rw [List.getElem?_append_left hlt]; exact hk)
      | (rw [List.getElem?_append_left (by rw [List.length_append]; omega), List.getElem?_append_left hlt]; exact hk)
  · have hlt := (List.getElem?_eq_some_iff.1 h6).1
    have hget : (H1 ++ [AObj.cells true (e x)])[n]? = some (.cells true (xs.flatMap e)) := by rw [List.getElem?_append_left hlt]; exact h6
    have hfl := flatMap_length he xs
    unfold appA at happ
    rw [hc] at happ
    simp only [hget, Nat.one_ne_zero, if_false, if_true, true_and] at happ
    rw [if_pos hl, if_pos (by omega)] at happ
    simp only [Bool.false_eq_true, if_false, Option.some.injEq, Prod.mk.injEq] at happ
    obtain ⟨rfl, rfl⟩ := happ
    refine ⟨fun k o hk hne => ?_, _, _, rfl, by simp⟩
    have hk1 := (List.getElem?_eq_some_iff.1 hk).1
    have hkn := hne n xs.length rfl
    rw [List.getElem?_append_left (by simp; omega), List.getElem?_set_ne (Ne.symm hkn), List.getElem?_append_left hk1]
    exact hk
end Go.Eng

namespace Go.Proofs.Ytnnbggcckabhdaa
open Go Go.Eng
def zpos (g : (Int × Int) → Bool) (xs : List (Int × Int)) : Int := match xs.findIdx? g with | some i => i | none => -1
theorem zpos_some {g : (Int × Int) → Bool} {xs : List (Int × Int)} {i : Nat} {z : Int × Int} (h : ∀ y ∈ xs.take i, g y = false) (hz : xs[i]? = some z) (hg : g z = true) : zpos g xs = i := by
  have hi : i < xs.length := (List.getElem?_eq_some_iff.1 hz).1
  have he : xs[i] = z := (List.getElem?_eq_some_iff.1 hz).2
  have : xs.findIdx? g = some i := by
    rw [List.findIdx?_eq_some_iff_getElem]
    refine ⟨hi, by rw [he]; exact hg, fun j hj => ?_⟩
    have : xs[j]'(by omega) ∈ xs.take i := by
      rw [List.mem_take_iff_getElem]
      exact ⟨j, by omega, rfl⟩
    simp [h _ this]
  unfold zpos
  rw [this]
theorem zpos_none {g : (Int × Int) → Bool} {xs : List (Int × Int)} (h : ∀ y ∈ xs, g y = false) : zpos g xs = -1 := by
  have : xs.findIdx? g = none := by
    rw [List.findIdx?_eq_none_iff]
    exact h
  unfold zpos
  rw [this]
theorem zpos_iff (g : (Int × Int) → Bool) (xs : List (Int × Int)) : 0 ≤ zpos g xs ↔ xs.any g = true := by
  unfold zpos
  cases h : xs.findIdx? g with
  | some i =>
    rw [List.findIdx?_eq_some_iff_getElem] at h
    obtain ⟨hi, hg, _⟩ := h
    simp only [Int.natCast_nonneg, true_iff, List.any_eq_true]
    exact ⟨_, List.getElem_mem hi, hg⟩
  | none =>
    rw [List.findIdx?_eq_none_iff] at h
    constructor
    · intro h1; simp at h1
    · intro h1
      rw [List.any_eq_true] at h1
      obtain ⟨x, hx, hg⟩ := h1
      rw [h x hx] at hg; cases hg
theorem c_IndexFuncZ {xs : List (Int × Int)} {v : AV} {A : AHeap} (hx : L2 A v xs) (hl : xs.length ≤ 1000000) (f : FuncId) (cap : List AV) (g : (Int × Int) → Bool) (hg : ∀ x ∈ xs, ACalls Try.prog f ([.agg [I x.1, I x.2]] ++ cap) A (B (g x)) A) : ACalls Try.prog 117 [v, .fn f cap] A (I (zpos g xs)) A := by
  refine acalls hmix Try.func117 (by kernel_rfl) t117 2 rfl (by decide) ?_
  dsimp only [m117]
  simp (maxSteps := 4000000) -implicitDefEqProofs -dsimp (disch := omega) only [↓AW_ops, ↓AW_seq, ↓AW_block, ↓AOps_nil, ↓AOps_pu, on_some, ↓then_normal, pval, rd_S, rd_C, put_S, ↓AW_toLoop, List.replicate_succ, List.replicate_zero, List.set_cons_zero, List.set_cons_succ, List.getElem?_cons_zero, List.getElem?_cons_succ, Option.getD_some, Nat.reduceSub, List.cons_append, List.nil_append, hx.len]
  refine LoopK.by 19 (fun i : Nat => i ≤ xs.length ∧ ∀ y ∈ xs.take i, g y = false) (fun i => [(0, v), (1, .fn f cap), (7, I xs.length), (8, I i)]) (fun _ => A) (fun i => xs.length - i) 0 ⟨by omega, by simp⟩ rfl (by simp [Has, rd_s]) rfl ?_
  rintro i ⟨hi, he⟩
  by_cases hlt : i < xs.length
  · obtain ⟨z, hz⟩ : ∃ z, xs[i]? = some z := ⟨_, List.getElem?_eq_getElem hlt⟩
    have hlt' : (i : Int) < xs.length := by omega
    simp (maxSteps := 4000000) -implicitDefEqProofs -dsimp (disch := omega) only [↓AW_skip, ↓AW_ops, ↓AW_seq, ↓AW_cond, ↓AW_block, ↓AOps_nil, ↓AOps_pu, ↓AOps_ld, ↓AOps_callv, on_some, CallF_fn, condB_t, ↓then_normal, pval, lval, rd_S, put_S, partA, eq_self, mk, List.foldl_cons, List.foldl_nil, List.replicate_succ, List.replicate_zero, List.set_cons_zero, List.set_cons_succ, List.getElem?_cons_zero, List.getElem?_cons_succ, List.drop_zero, List.take_succ_cons, List.take_nil, Option.getD_some, map_c, map_n, List.length_cons, List.length_nil, Nat.reduceAdd, Nat.reduceLeDiff, Nat.reduceEqDiff, Nat.zero_add, List.cons_append, List.nil_append, bin_lss, if_true, if_false, decide_true, Go.Eng.e2, hlt', hx.idx hlt, hx.ld0 hz 2 true (by decide)]
    refine CallK.of (hg z (List.mem_of_getElem? hz)) ?_
    by_cases h : g z = true
    · simp (maxSteps := 4000000) -implicitDefEqProofs -dsimp (disch := omega) only [↓AW_ops, ↓AW_seq, ↓AW_cond, ↓AW_ret, ↓AOps_nil, ↓AOps_pu, on_some, extK_same, condB_t, ↓then_normal, ↓then_ret, ↓inBlock_ret, ↓Fin_ret, pval, rd_S, put_S, resV, resL, mk, List.foldl_cons, List.foldl_nil, List.replicate_succ, List.replicate_zero, List.set_cons_zero, List.set_cons_succ, List.getElem?_cons_zero, List.getElem?_cons_succ, Option.getD_some, h]
      exact gc_same (by rw [zpos_some he hz h])
    · have h : g z = false := by simpa using h
      simp (maxSteps := 4000000) -implicitDefEqProofs -dsimp (disch := omega) only [↓AW_skip, ↓AW_ops, ↓AW_cond, ↓AOps_nil, ↓AOps_pu, on_some, extK_same, condB_f, ↓then_normal, ↓inBlock_normal, pval, rd_S, rd_C, put_S, eq_self, mk, List.foldl_cons, List.foldl_nil, List.replicate_succ, List.replicate_zero, List.set_cons_zero, List.set_cons_succ, List.getElem?_cons_zero, List.getElem?_cons_succ, Option.getD_some, List.length_cons, List.length_nil, Nat.reduceAdd, Nat.zero_add, bin_add, w64, true_and, h]
      exact ⟨i + 1, ⟨hlt, take_all2 he hz h⟩, by simp [Has, rd_s], by omega⟩
  · have hlt' : ¬ ((i : Int) < xs.length) := by omega
    simp (maxSteps := 4000000) -implicitDefEqProofs -dsimp (disch := omega) only [↓AW_ops, ↓AW_seq, ↓AW_cond, ↓AW_exit, ↓AW_ret, ↓AOps_nil, ↓AOps_pu, on_some, condB_f, ↓then_normal, ↓then_exit, ↓inBlock_exit, ↓Fin_ret, pval, rd_S, rd_C, put_S, resV, resL, eq_self, mk, List.foldl_cons, List.foldl_nil, List.replicate_succ, List.replicate_zero, List.set_cons_zero, List.set_cons_succ, List.getElem?_cons_zero, List.getElem?_cons_succ, Option.getD_some, bin_lss, if_true, decide_false, Int.reduceNeg, hlt']
    rw [List.take_of_length_le (by omega)] at he
    exact gc_same (by rw [zpos_none he])
theorem c_ContainsFuncZ {xs : List (Int × Int)} {v : AV} {A : AHeap} (hx : L2 A v xs) (hl : xs.length ≤ 1000000) (f : FuncId) (cap : List AV) (g : (Int × Int) → Bool) (hg : ∀ x ∈ xs, ACalls Try.prog f ([.agg [I x.1, I x.2]] ++ cap) A (B (g x)) A) : ACalls Try.prog 95 [v, .fn f cap] A (B (xs.any g)) A := by
  refine acalls hmix Try.func95 (by kernel_rfl) t95 2 rfl (by decide) ?_
  dsimp only [m95]
  simp (maxSteps := 4000000) -implicitDefEqProofs -dsimp (disch := omega) only [↓AW_ops, ↓AW_seq, ↓AOps_nil, ↓AOps_pu, ↓AOps_call, on_some, ↓then_normal, pval, rd_S, rd_C, put_S, List.replicate_succ, List.replicate_zero, List.set_cons_zero, List.set_cons_succ, List.getElem?_cons_zero, List.getElem?_cons_succ, Option.getD_some, map_c, map_n, Nat.reduceSub, List.cons_append, List.nil_append]
  refine CallK.of (c_IndexFuncZ hx hl f cap g hg) ?_
  simp (maxSteps := 4000000) -implicitDefEqProofs -dsimp (disch := omega) only [↓AW_ret, ↓AOps_nil, ↓AOps_pu, on_some, extK_same, ↓then_normal, ↓Fin_ret, pval, rd_S, rd_C, put_S, resV, resL, List.replicate_succ, List.replicate_zero, List.set_cons_zero, List.set_cons_succ, List.getElem?_cons_zero, List.getElem?_cons_succ, Option.getD_some, Nat.reduceSub, List.cons_append, List.nil_append, bin_geq]
  refine gc_same ?_
  congr 1
  rw [Bool.eq_iff_iff, decide_eq_true_iff, zpos_iff]
theorem s96 (z : Int × Int) (A : AHeap) : ACalls Try.prog 96 [.agg [I z.1, I z.2]] A (B (decide (20 < z.2))) A := by
  refine acalls hmix Try.func96 (by kernel_rfl) t96 1 rfl (by decide) ?_
  dsimp only [m96]
  simp (maxSteps := 4000000) -implicitDefEqProofs -dsimp (disch := omega) only [↓AW_ops, ↓AW_seq, ↓AW_ret, ↓AOps_nil, ↓AOps_pu, on_some, ↓then_normal, ↓Fin_ret, pval, rd_S, rd_C, put_S, resV, resL, chkd, isAdr, bgot, AV.cells?, partA, eq_self, List.replicate_succ, List.replicate_zero, List.set_cons_zero, List.set_cons_succ, List.getElem?_cons_zero, List.getElem?_cons_succ, List.drop_zero, List.drop_succ_cons, List.take_succ_cons, List.take_nil, Option.getD_some, List.length_cons, List.length_nil, Nat.reduceAdd, Nat.reduceSub, Nat.reduceLeDiff, Nat.zero_add, List.cons_append, List.nil_append, bin_gtr, if_true, if_false, Bool.false_eq_true]
  exact gc_same rfl
theorem zz_nil (g : List (Int × Int)) : zz [] g = [] := by unfold zz; simp [bu]
/-- What the sum's zones are like. -/
theorem zz_big {f g : List (Int × Int)} : ∀ (m : Nat) (x y : List (Int × Int)) (out : List (Int × Int)), x.length + y.length ≤ m → (∀ z ∈ x, 1 ≤ z.1) → (∀ z ∈ y, 1 ≤ z.1) → len x = len y →
    ∃ zs, grp out (zz x y) = out ++ zs ∧ (big (zz x y) ↔ ∃ z ∈ zs, 20 < z.2) ∧ (∀ z ∈ zs, 1 ≤ z.1 ∧ (∃ a ∈ x, z.1 ≤ a.1) ∧ ∃ a ∈ x, ∃ b ∈ y, z.2 = a.2 + b.2) ∧ units zs = (zz x y).map Prod.fst ∧ (x ≠ [] → zs ≠ [])
  | m, [], y, out, _, _, _, _ => ⟨[], by simp [zz_nil, grp], by simp [zz_nil, big], by simp, by simp [zz_nil, units], by simp⟩
  | m, a :: x, [], out, _, hx, _, hl => by
    have h1 := len_nonneg (fun z hz => hx z (List.mem_cons_of_mem a hz))
    have h2 := hx a (by simp)
    rw [len_cons] at hl
    simp [len, sumZ] at hl
    simp only [len, sumZ] at h1
    omega
  | 0, a :: x, b :: y, out, hm, _, _, _ => by simp at hm
  | m + 1, a :: x, b :: y, out, hm, hx, hy, hl => by
    have ha := hx a (by simp)
    have hb := hy b (by simp)
    have hx' : ∀ z ∈ x, 1 ≤ z.1 := fun z hz => hx z (by simp [hz])
    have hy' : ∀ z ∈ y, 1 ≤ z.1 := fun z hz => hy z (by simp [hz])
    simp only [List.length_cons] at hm
    have hr : ∀ (c : Int × Int) (w : List (Int × Int)), (rest (min a.1 b.1) c w).length ≤ w.length + 1 := fun c w => by unfold rest; split <;> simp
    have hrp : ∀ (c : Int × Int) (w : List (Int × Int)), min a.1 b.1 ≤ c.1 → (∀ z ∈ w, 1 ≤ z.1) → ∀ z ∈ rest (min a.1 b.1) c w, 1 ≤ z.1 := fun c w hc hw z hz => by
      unfold rest at hz
      split at hz
      · exact hw z hz
      · rcases List.mem_cons.1 hz with rfl | hz
        · simp only; omega
        · exact hw z hz
    have hrl : ∀ (c : Int × Int) (w : List (Int × Int)), len (rest (min a.1 b.1) c w) = c.1 - min a.1 b.1 + len w := fun c w => by
      unfold rest
      split
      · omega
      · rw [len_cons]
    have hmeas : (rest (min a.1 b.1) a x).length + (rest (min a.1 b.1) b y).length ≤ m := by
      unfold rest
      rcases Int.le_total a.1 b.1 with h | h
      · have : a.1 - min a.1 b.1 = 0 := by omega
        rw [if_pos this]
        split <;> simp <;> omega
      · have : b.1 - min a.1 b.1 = 0 := by omega
        rw [if_pos this]
        split <;> simp <;> omega
    rw [len_cons, len_cons] at hl
    obtain ⟨zs, g1, g2, g3, g4, _⟩ := zz_big (f := f) (g := g) m (rest (min a.1 b.1) a x) (rest (min a.1 b.1) b y) (out ++ [(min a.1 b.1, a.2 + b.2)]) hmeas (hrp a x (by omega) hx') (hrp b y (by omega) hy') (by rw [hrl, hrl]; omega)
    have hmem : ∀ (c : Int × Int) (w : List (Int × Int)) (z : Int × Int), z ∈ rest (min a.1 b.1) c w → ∃ d ∈ c :: w, z.1 ≤ d.1 ∧ z.2 = d.2 := fun c w z hz => by
      unfold rest at hz
      split at hz
      · exact ⟨z, by simp [hz], Int.le_refl _, rfl⟩
      · rcases List.mem_cons.1 hz with rfl | hz
        · exact ⟨c, by simp, by simp only; omega, rfl⟩
        · exact ⟨z, by simp [hz], Int.le_refl _, rfl⟩
    refine ⟨(min a.1 b.1, a.2 + b.2) :: zs, ?_, ?_, ?_, ?_, by simp⟩
    · rw [grp_step out ha hb hx' hy', g1, List.append_assoc]; rfl
    · rw [zz_step ha hb hx' hy']
      constructor
      · rintro ⟨w, hw, hw2⟩
        rw [List.cons_append] at hw
        rcases List.mem_cons.1 hw with rfl | hw
        · exact ⟨(min a.1 b.1, a.2 + b.2), by simp, hw2⟩
        · rcases List.mem_append.1 hw with hw | hw
          · have := (List.mem_replicate.1 hw).2
            rw [this] at hw2
            exact ⟨(min a.1 b.1, a.2 + b.2), by simp, hw2⟩
          · obtain ⟨z, hz, hz2⟩ := g2.1 ⟨w, hw, hw2⟩
            exact ⟨z, by simp [hz], hz2⟩
      · rintro ⟨z, hz, hz2⟩
        rcases List.mem_cons.1 hz with rfl | hz
        · exact ⟨(a.2 + b.2, true), by simp, hz2⟩
        · obtain ⟨w, hw, hw2⟩ := g2.2 ⟨z, hz, hz2⟩
          exact ⟨w, by simp [hw], hw2⟩
    · intro z hz
      rcases List.mem_cons.1 hz with rfl | hz
      · exact ⟨by simp only; omega, ⟨a, by simp, by simp only; omega⟩, a, by simp, b, by simp, rfl⟩
      · obtain ⟨k1, ⟨c, hc, k2⟩, d, hd, e, he, k3⟩ := g3 z hz
        obtain ⟨c', hc', k4, _⟩ := hmem a x c hc
        obtain ⟨d', hd', _, k5⟩ := hmem a x d hd
        obtain ⟨e', he', _, k6⟩ := hmem b y e he
        exact ⟨k1, ⟨c', hc', by omega⟩, d', hd', e', he', by rw [k3, k5, k6]⟩
    · rw [zz_step ha hb hx' hy', List.map_append, ← g4, List.map_cons, List.map_replicate]
      show units ([_] ++ zs) = _
      rw [units_app, units_one]
      simp only
      obtain ⟨n, hn⟩ : ∃ n, (min a.1 b.1).toNat = n + 1 := ⟨(min a.1 b.1).toNat - 1, by omega⟩
      rw [hn, List.replicate_succ]
      rfl
theorem zz_units {f g : List (Int × Int)} (hf : ∀ z ∈ f, 1 ≤ z.1) (hg : ∀ z ∈ g, 1 ≤ z.1) : (zz f g).map Prod.fst = List.zipWith (· + ·) (units f) (units g) := by
  unfold zz
  rw [List.map_zipWith, ← bu_fst hf, ← bu_fst hg, List.zipWith_map]
  rfl
theorem upToU_add (x : Rat) : ∀ (us ws : List Int) (b : Int), us.length = ws.length → upToU b (List.zipWith (· + ·) us ws) x = upToU b us x + upToU b ws x
  | [], [], b, _ => by simp [upToU]; grind
  | u :: us, w :: ws, b, h => by
    have ih := upToU_add x us ws (b + 1) (by simpa using h)
    rw [List.zipWith_cons_cons, upToU, upToU, upToU, ih, Rat.intCast_add]
    grind
  | [], _ :: _, _, h => by simp at h
  | _ :: _, [], _, h => by simp at h
/-- What is known of a sum. -/
theorem suL_facts {f g : List (Int × Int)} (h : suE f g = 0) : vE f = 0 ∧ vE g = 0 ∧ len f = len g ∧ vE (suL f g) = 0 ∧ units (suL f g) = List.zipWith (· + ·) (units f) (units g) ∧ (suL f g).length ≤ 6 := by
  have h0 : v2E f g = 0 := by
    unfold suE at h
    split at h
    · assumption
    · exact h
  obtain ⟨hvf, hvg⟩ := v2E_0 h0
  obtain ⟨hgf, hf1⟩ := good_of hvf
  obtain ⟨hgg, hg1⟩ := good_of hvg
  have h1 : len f = len g := by
    unfold suE at h
    rw [if_pos h0] at h
    split at h
    · assumption
    · cases h
  have h2 : ¬ big (zz f g) ∧ ¬ 6 < (grp [] (zz f g)).length := by
    unfold suE at h
    rw [if_pos h0, if_pos h1] at h
    split at h
    · cases h
    · rename_i h2
      split at h
      · cases h
      · rename_i h3; exact ⟨h2, h3⟩
  have hL : suL f g = grp [] (zz f g) := by unfold suL; rw [if_pos h]
  obtain ⟨zs, g1, g2, g3, g4, g5⟩ := zz_big (f := f) (g := g) _ f g [] (Nat.le_refl _) (all_pos hgf.2) (all_pos hgg.2) h1
  rw [List.nil_append] at g1
  rw [hL, g1]
  have hne : zs ≠ [] := g5 (by rintro rfl; simp at hf1)
  have hlen : 1 ≤ zs.length := List.length_pos_iff.2 hne
  have h6 : zs.length ≤ 6 := by rw [← g1]; omega
  refine ⟨hvf, hvg, h1, vE_good (by omega) (List.all_eq_true.2 fun z hz => ?_), by rw [g4, zz_units (all_pos hgf.2) (all_pos hgg.2)], h6⟩
  obtain ⟨k1, ⟨c, hc, k2⟩, a, ha, b, hb, k3⟩ := g3 z hz
  have c1 := (vz_iff c).1 (List.all_eq_true.1 hgf.2 c hc)
  have c2 := (vz_iff a).1 (List.all_eq_true.1 hgf.2 a ha)
  have c3 := (vz_iff b).1 (List.all_eq_true.1 hgg.2 b hb)
  rw [vz_iff]
  refine ⟨by omega, by omega, ?_⟩
  rcases Int.lt_or_le 20 z.2 with h | h
  · exact absurd (g2.2 ⟨z, hz, h⟩) h2.1
  · exact h
end Go.Proofs.Ytnnbggcckabhdaa

namespace Go.Proofs.Ytnnbggcckabhdaa
open Go Go.Eng
theorem grp_nilr (o : List (Int × Int)) : grp o [] = o := rfl
theorem rest_drop {xs : List (Int × Int)} {k : Nat} {a : Int × Int} (ha : xs[k]? = some a) (m : Int) :
    (a.1 - m = 0 → (xs.set k (a.1 - m, a.2)).drop (k + 1) = rest m a (xs.drop (k + 1))) ∧ (¬ a.1 - m = 0 → (xs.set k (a.1 - m, a.2)).drop k = rest m a (xs.drop (k + 1))) := by
  have hk : k < xs.length := (List.getElem?_eq_some_iff.1 ha).1
  refine ⟨fun h => ?_, fun h => ?_⟩
  · unfold rest
    rw [if_pos h, List.drop_set_of_lt (by omega)]
  · unfold rest
    rw [if_neg h]
    have h2 : k < (xs.set k (a.1 - m, a.2)).length := by simpa using hk
    rw [List.drop_eq_getElem_cons h2, List.getElem_set_self, List.drop_set_of_lt (by omega)]
theorem drop_cons {xs : List (Int × Int)} {k : Nat} {a : Int × Int} (ha : xs[k]? = some a) : xs.drop k = a :: xs.drop (k + 1) := by
  have hk : k < xs.length := (List.getElem?_eq_some_iff.1 ha).1
  have := (List.getElem?_eq_some_iff.1 ha).2
  rw [← this]; exact List.drop_eq_getElem_cons hk
/-- The lists that are eaten up. -/
structure Eat (A : AHeap) (nx : Nat) (H : AHeap) (xs : List (Int × Int)) : Prop where
  pre : A <+: H
  new : A.length ≤ nx
  ob : H[nx]? = some (.cells true (xs.flatMap e2))
theorem Eat.ol {A H : AHeap} {nx : Nat} {xs : List (Int × Int)} (h : Eat A nx H xs) : OL 2 e2 A H nx (.sl 2 nx 0 xs.length false) xs := ⟨e2_len, h.pre, h.new, h.ob, false, rfl⟩
theorem Eat.l0 {A H : AHeap} {nx k : Nat} {xs : List (Int × Int)} {a : Int × Int} (h : Eat A nx H xs) (ha : xs[k]? = some a) : ldA 1 false (.ptr nx (k * 2)) H = some (I a.1) := by
  have := h.ol.ls.ld0 ha 1 false (by decide)
  rw [part_e20] at this
  simpa [nm, of] using this
theorem Eat.l1 {A H : AHeap} {nx k : Nat} {xs : List (Int × Int)} {a : Int × Int} (h : Eat A nx H xs) (ha : xs[k]? = some a) : ldA 1 false (.ptr nx (k * 2 + 1)) H = some (I a.2) := by
  have := h.ol.ls.ld ha 1 1 false (by decide)
  rw [part_e21] at this
  simpa [nm, of] using this
theorem Eat.st {A H : AHeap} {nx k : Nat} {xs : List (Int × Int)} {a : Int × Int} (h : Eat A nx H xs) (ha : xs[k]? = some a) (n : Int) : stA 1 (.ptr nx (k * 2)) (I n) H = some (H.set nx (.cells true ((xs.set k (n, a.2)).flatMap e2))) := by
  have hk : k < xs.length := (List.getElem?_eq_some_iff.1 ha).1
  have he := (List.getElem?_eq_some_iff.1 ha).2
  have := OL_st0 h.ol hk 1 (I n) [I n] (n, a.2) rfl rfl (by decide) (by rw [he]; rfl)
  simpa [nm, of] using this
theorem Eat.set {A H : AHeap} {nx : Nat} {xs : List (Int × Int)} (h : Eat A nx H xs) (ys : List (Int × Int)) : Eat A nx (H.set nx (.cells true (ys.flatMap e2))) ys :=
  ⟨pre_set h.pre h.new _, h.new, by rw [List.getElem?_set_self (List.getElem?_eq_some_iff.1 h.ob).1]⟩
theorem Eat.other {A H : AHeap} {nx m : Nat} {xs : List (Int × Int)} (h : Eat A nx H xs) (hm : A.length ≤ m) (hne : m ≠ nx) (o : AObj) : Eat A nx (H.set m o) xs :=
  ⟨pre_set h.pre hm _, h.new, by rw [List.getElem?_set_ne hne]; exact h.ob⟩
set_option maxRecDepth 100000 in
set_option maxHeartbeats 2000000 in
theorem s57 {f g : List (Int × Int)} {v u : AV} {A : AHeap} (hf : L2 A v f) (hg : L2 A u g) : ACalls Try.prog 57 [v, u] A (.tuple [outV 2 A (suL f g).length, I (suE f g)]) (outH A ((suL f g).flatMap e2) (suL f g).length) := by
  refine acalls hmix Try.func57 (by kernel_rfl) t57 2 rfl (by decide) ?_
  dsimp only [m57]
  simp (maxSteps := 4000000) -implicitDefEqProofs -dsimp (disch := omega) only [↓AW_ops, ↓AW_seq, ↓AOps_nil, ↓AOps_pu, ↓AOps_call, on_some, ↓then_normal, pval, rd_S, rd_C, put_S, List.replicate_succ, List.replicate_zero, List.set_cons_zero, List.set_cons_succ, List.getElem?_cons_zero, List.getElem?_cons_succ, Option.getD_some, map_c, map_n, Nat.reduceSub, List.cons_append, List.nil_append]
  refine CallK.of (s82 hf hg) ?_
  by_cases h0 : v2E f g = 0
  · obtain ⟨hvf, hvg⟩ := v2E_0 h0
    obtain ⟨hgf, hf1⟩ := good_of hvf
    obtain ⟨hgg, hg1⟩ := good_of hvg
    have hf6 := hgf.1
    have hg6 := hgg.1
    simp (maxSteps := 4000000) -implicitDefEqProofs -dsimp (disch := omega) only [↓AW_skip, ↓AW_ops, ↓AW_seq, ↓AW_cond, ↓AOps_nil, ↓AOps_pu, ↓AOps_call, on_some, extK_same, condB_f, ↓then_normal, pval, rd_S, rd_C, put_S, eq_self, List.replicate_succ, List.replicate_zero, List.set_cons_zero, List.set_cons_succ, List.getElem?_cons_zero, List.getElem?_cons_succ, Option.getD_some, map_c, map_n, Nat.reduceSub, List.cons_append, List.nil_append, bin_neq, decide_false, not_true_eq_false, h0]
    refine CallK.of (s77 hf hgf) ?_
    simp (maxSteps := 4000000) -implicitDefEqProofs -dsimp (disch := omega) only [↓AOps_pu, ↓AOps_call, on_some, extK_same, pval, rd_S, put_S, List.replicate_succ, List.replicate_zero, List.set_cons_zero, List.set_cons_succ, List.getElem?_cons_zero, List.getElem?_cons_succ, Option.getD_some, map_c, map_n, Nat.reduceSub, List.cons_append, List.nil_append]
    refine CallK.of (s77 hg hgg) ?_
    by_cases h1 : len f = len g
    · simp (maxSteps := 4000000) -implicitDefEqProofs -dsimp (disch := omega) only [↓AW_skip, ↓AW_ops, ↓AW_seq, ↓AW_cond, ↓AOps_nil, ↓AOps_pu, ↓AOps_call, on_some, extK_same, condB_f, ↓then_normal, pval, rd_S, put_S, eq_self, List.replicate_succ, List.replicate_zero, List.set_cons_zero, List.set_cons_succ, List.getElem?_cons_zero, List.getElem?_cons_succ, Option.getD_some, map_c, map_n, Nat.reduceSub, List.cons_append, List.nil_append, bin_neq, decide_false, not_true_eq_false, h1]
      refine CallK.of (c_CloneZ hf (Ls_nn hf hf1) (by omega)) ?_
      simp (maxSteps := 4000000) -implicitDefEqProofs -dsimp (disch := omega) only [↓AOps_pu, ↓AOps_call, on_some, extK_app, pval, rd_S, put_S, List.replicate_succ, List.replicate_zero, List.set_cons_zero, List.set_cons_succ, List.getElem?_cons_zero, List.getElem?_cons_succ, Option.getD_some, map_c, map_n, Nat.reduceSub, List.cons_append, List.nil_append]
      have p1 := pre_app A [AObj.cells true (f.flatMap Go.Eng.e2)]
      refine CallK.of (c_CloneZ (hg.mono p1) (Ls_nn hg hg1) (by omega)) ?_
      have hEx0 : Eat A A.length (A ++ [AObj.cells true (f.flatMap Go.Eng.e2)] ++ [AObj.cells true (g.flatMap Go.Eng.e2)]) f := ⟨p1.trans (pre_app _ _), Nat.le_refl _, by simp⟩
      have hEy0 : Eat A (A ++ [AObj.cells true (f.flatMap Go.Eng.e2)]).length (A ++ [AObj.cells true (f.flatMap Go.Eng.e2)] ++ [AObj.cells true (g.flatMap Go.Eng.e2)]) g := ⟨p1.trans (pre_app _ _), by simp, by simp⟩
      have hny : (A ++ [AObj.cells true (f.flatMap Go.Eng.e2)]).length = A.length + 1 := by simp
      rw [hny] at hEy0 ⊢
      generalize A ++ [AObj.cells true (f.flatMap Go.Eng.e2)] ++ [AObj.cells true (g.flatMap Go.Eng.e2)] = A2 at *
      simp (maxSteps := 4000000) -implicitDefEqProofs -dsimp (disch := omega) only [↓AW_ops, ↓AW_seq, ↓AW_block, ↓AOps_nil, ↓AOps_pu, on_some, extK_false, ↓then_normal, pval, rd_S, rd_C, put_S, ↓AW_toLoop, List.replicate_succ, List.replicate_zero, List.set_cons_zero, List.set_cons_succ, List.getElem?_cons_zero, List.getElem?_cons_succ, Option.getD_some, Nat.reduceSub, List.cons_append, List.nil_append]
      have hE : suE f g = if big (zz f g) then 1 else if 6 < (grp [] (zz f g)).length then 3 else 0 := by simp [suE, h0, h1]
      refine LoopK.by 88 (fun x : Nat × Nat × List (Int × Int) × List (Int × Int) × AV × AHeap × List (Int × Int) =>
          ((x.2.2.1.length = f.length ∧ x.1 ≤ f.length) ∧ (x.2.2.2.1.length = g.length ∧ x.2.1 ≤ g.length)) ∧ Eat A A.length x.2.2.2.2.2.1 x.2.2.1 ∧ Eat A (A.length + 1) x.2.2.2.2.2.1 x.2.2.2.1 ∧
          AccL 2 e2 A x.2.2.2.2.2.1 x.2.2.2.2.1 x.2.2.2.2.2.2 ∧ (∀ n len, x.2.2.2.2.1 = .sl 2 n 0 len false → n ≠ A.length ∧ n ≠ A.length + 1) ∧
          ((x.2.2.1.drop x.1).all vz = true ∧ (x.2.2.2.1.drop x.2.1).all vz = true) ∧ len (x.2.2.1.drop x.1) = len (x.2.2.2.1.drop x.2.1) ∧
          grp x.2.2.2.2.2.2 (zz (x.2.2.1.drop x.1) (x.2.2.2.1.drop x.2.1)) = grp [] (zz f g) ∧ x.2.2.2.2.2.2.length + (f.length - x.1) + (g.length - x.2.1) ≤ 12)
        (fun x => [(7, .sl 2 A.length (x.1 * 2) (f.length - x.1) false), (8, .sl 2 (A.length + 1) (x.2.1 * 2) (g.length - x.2.1) false), (9, x.2.2.2.2.1)]) (fun x => x.2.2.2.2.2.1) (fun x => (f.length - x.1) + (g.length - x.2.1)) (0, 0, f, g, .nilS, A2, [])
        ⟨⟨⟨rfl, by simp⟩, ⟨rfl, by simp⟩⟩, hEx0, hEy0, AccL.nil hEx0.pre, by simp, ⟨hgf.2, hgg.2⟩, h1, rfl, by simp only [List.length_nil]; omega⟩ rfl (by simp [Has, rd_s]) rfl ?_
      rintro ⟨k, l, xs, ys, o, H, outs⟩ ⟨⟨⟨hxl, hk⟩, ⟨hyl, hl⟩⟩, hEx, hEy, hu, hno, ⟨hvx, hvy⟩, hlen, hgr, hms⟩
      simp only at hxl hk hyl hl hEx hEy hu hno hvx hvy hlen hgr hms
      have hlnx : lenA (.sl 2 A.length (k * 2) (f.length - k) false) = some (I ((f.length - k : Nat) : Int)) := rfl
      by_cases hlt : k < f.length
      · have hpos : (0 : Int) < ((f.length - k : Nat) : Int) := by omega
        obtain ⟨a, ha⟩ : ∃ a, xs[k]? = some a := ⟨_, List.getElem?_eq_getElem (by omega)⟩
        have hdx := drop_cons ha
        rw [hdx] at hvx hlen hgr
        have hvx2 : vz a = true ∧ (xs.drop (k + 1)).all vz = true := by simpa using hvx
        have hza := (vz_iff a).1 hvx2.1
        have hpx := all_pos hvx2.2
        have hnx := len_nonneg hpx
        rw [len_cons] at hlen
        have hll : l < g.length := by
          rcases Nat.lt_or_ge l g.length with h | h
          · exact h
          · have hz0 : len ([] : List (Int × Int)) = 0 := by simp [len, sumZ]
            rw [List.drop_of_length_le (show ys.length ≤ l by omega), hz0] at hlen
            omega
        obtain ⟨b, hb⟩ : ∃ b, ys[l]? = some b := ⟨_, List.getElem?_eq_getElem (by omega)⟩
        have hdy := drop_cons hb
        rw [hdy] at hvy hlen hgr
        have hvy2 : vz b = true ∧ (ys.drop (l + 1)).all vz = true := by simpa using hvy
        have hzb := (vz_iff b).1 hvy2.1
        have hpy := all_pos hvy2.2
        rw [len_cons] at hlen
        rw [grp_step outs (by omega) (by omega) hpx hpy] at hgr
        have hix : idxA 2 (.sl 2 A.length (k * 2) (f.length - k) false) (.int .i64 0) = some (.ptr A.length (k * 2)) := by
          have : 0 < f.length - k := by omega
          simp [idxA, this]
        have hiy : idxA 2 (.sl 2 (A.length + 1) (l * 2) (g.length - l) false) (.int .i64 0) = some (.ptr (A.length + 1) (l * 2)) := by
          have : 0 < g.length - l := by omega
          simp [idxA, this]
        have hsx : slcA 2 (.sl 2 A.length (k * 2) (f.length - k) false) (some (.int .i64 1)) none none = some (.sl 2 A.length ((k + 1) * 2) (f.length - (k + 1)) false) := by
          have h2 : (1 : Int) ≤ ((f.length - k : Nat) : Int) := by omega
          have h3 : k * 2 + 2 = (k + 1) * 2 := by omega
          have h4 : f.length - k - 1 = f.length - (k + 1) := by omega
          simp [slcA, bnd, h2, h3, h4]
        have hsy : slcA 2 (.sl 2 (A.length + 1) (l * 2) (g.length - l) false) (some (.int .i64 1)) none none = some (.sl 2 (A.length + 1) ((l + 1) * 2) (g.length - (l + 1)) false) := by
          have h2 : (1 : Int) ≤ ((g.length - l : Nat) : Int) := by omega
          have h3 : l * 2 + 2 = (l + 1) * 2 := by omega
          have h4 : g.length - l - 1 = g.length - (l + 1) := by omega
          simp [slcA, bnd, h2, h3, h4]
        obtain ⟨o3, H2, happ, hu2, hkeep, n3, len3, ho3, hn3⟩ := AccL_push2 hu e2_len (by decide) (min a.1 b.1, a.2 + b.2) (by simp [lim]; omega)
        simp only [Go.Eng.e2] at happ
        have hEx2 : Eat A A.length H2 xs := ⟨hu2.pre, hEx.new, hkeep _ _ hEx.ob (fun n len hn he => (hno n len hn).1 he.symm)⟩
        have hEy2 : Eat A (A.length + 1) H2 ys := ⟨hu2.pre, hEy.new, hkeep _ _ hEy.ob (fun n len hn he => (hno n len hn).2 he.symm)⟩
        have hxlt := (List.getElem?_eq_some_iff.1 hEy.ob).1
        have hno2 : ∀ n len, o3 = .sl 2 n 0 len false → n ≠ A.length ∧ n ≠ A.length + 1 := by
          intro n len hn
          rw [ho3] at hn
          have : n3 = n := congrArg nm hn
          omega
        have s1 := hEx2.st ha (a.1 - min a.1 b.1)
        have hEx3 := hEx2.set (xs.set k (a.1 - min a.1 b.1, a.2))
        have hEy3 := hEy2.other (m := A.length) (Nat.le_refl _) (by omega) (.cells true ((xs.set k (a.1 - min a.1 b.1, a.2)).flatMap Go.Eng.e2))
        have hu3 := AccL_other hu2 (Nat.le_refl A.length) (fun n len hn => (hno2 n len hn).1) (.cells true ((xs.set k (a.1 - min a.1 b.1, a.2)).flatMap Go.Eng.e2))
        generalize hH3 : H2.set A.length (.cells true ((xs.set k (a.1 - min a.1 b.1, a.2)).flatMap Go.Eng.e2)) = H3 at *
        have s2 := hEy3.st hb (b.1 - min a.1 b.1)
        have hEy4 := hEy3.set (ys.set l (b.1 - min a.1 b.1, b.2))
        have hEx4 := hEx3.other (m := A.length + 1) (by omega) (by omega) (.cells true ((ys.set l (b.1 - min a.1 b.1, b.2)).flatMap Go.Eng.e2))
        have hu4 := AccL_other hu3 (Nat.le_succ A.length) (fun n len hn => (hno2 n len hn).2) (.cells true ((ys.set l (b.1 - min a.1 b.1, b.2)).flatMap Go.Eng.e2))
        generalize hH4 : H3.set (A.length + 1) (.cells true ((ys.set l (b.1 - min a.1 b.1, b.2)).flatMap Go.Eng.e2)) = H4 at *
        have ha4 : (xs.set k (a.1 - min a.1 b.1, a.2))[k]? = some (a.1 - min a.1 b.1, a.2) := List.getElem?_set_self (by omega)
        have hb4 : (ys.set l (b.1 - min a.1 b.1, b.2))[l]? = some (b.1 - min a.1 b.1, b.2) := List.getElem?_set_self (by omega)
        have lx4 := hEx4.l0 ha4
        have ly4 := hEy4.l0 hb4
        simp only at lx4 ly4
        obtain ⟨rx1, rx2⟩ := rest_drop ha (min a.1 b.1)
        obtain ⟨ry1, ry2⟩ := rest_drop hb (min a.1 b.1)
        have rvz : ∀ (c : Int × Int) (w : List (Int × Int)), vz c = true → min a.1 b.1 ≤ c.1 → w.all vz = true → (rest (min a.1 b.1) c w).all vz = true := fun c w hc hm hw => by
          unfold rest
          split
          · exact hw
          · rw [List.all_cons, hw, Bool.and_true, vz_iff]
            have := (vz_iff c).1 hc
            exact ⟨by simp only; omega, this.2⟩
        have rlen : ∀ (c : Int × Int) (w : List (Int × Int)), len (rest (min a.1 b.1) c w) = c.1 - min a.1 b.1 + len w := fun c w => by
          unfold rest
          split
          · omega
          · rw [len_cons]
        have rx := rvz a _ hvx2.1 (by omega) hvx2.2
        have ry := rvz b _ hvy2.1 (by omega) hvy2.2
        have rl : len (rest (min a.1 b.1) a (xs.drop (k + 1))) = len (rest (min a.1 b.1) b (ys.drop (l + 1))) := by rw [rlen, rlen]; omega
        have hol : (outs ++ [(min a.1 b.1, a.2 + b.2)]).length = outs.length + 1 := by simp
        by_cases c1 : a.1 - min a.1 b.1 = 0
        · have s1' := s1
          have lx4' := lx4
          rw [c1] at s1' lx4'
          by_cases c2 : b.1 - min a.1 b.1 = 0
          · have s2' := s2
            have ly4' := ly4
            rw [c2] at s2' ly4'
            simp (maxSteps := 4000000) -implicitDefEqProofs -dsimp (disch := omega) only [↓AW_skip, ↓AW_ops, ↓AW_seq, ↓AW_cond, ↓AW_block, ↓AOps_nil, ↓AOps_pu, ↓AOps_ld, ↓AOps_ha, on_some, extK_false, extK_app, condB_t, ↓then_normal, ↓inBlock_normal, pval, lval, hval_st, hval_blds, hval_app, rd_S, rd_C, put_S, putS_none, cells_agg, cells_int, splice, fillA, repl, eq_self, mk, List.foldl_cons, List.foldl_nil, List.replicate_succ, List.replicate_zero, List.set_cons_zero, List.set_cons_succ, List.getElem?_cons_zero, List.getElem?_cons_succ, List.drop_zero, List.drop_succ_cons, List.drop_nil, List.take_zero, List.take_succ_cons, Option.getD_some, Option.map_some, Option.map_none, map_c, map_n, List.length_cons, List.length_nil, Nat.reduceAdd, Nat.reduceLeDiff, Nat.zero_add, Nat.add_zero, List.cons_append, List.nil_append, List.append_nil, bin_add, bin_sub, bin_eql, bin_gtr, mm_min, w64, if_true, decide_true, true_and, and_true, ne_eq, hlnx, hpos, hix, hiy, hEx.l0 ha, hEy.l0 hb, hEx.l1 ha, hEy.l1 hb, happ, hEx2.l0 ha, s1', hEy3.l0 hb, s2', lx4', ly4', c1, c2, hsx, hsy]
            refine ⟨(k + 1, l + 1, xs.set k (a.1 - min a.1 b.1, a.2), ys.set l (b.1 - min a.1 b.1, b.2), o3, H4, outs ++ [(min a.1 b.1, a.2 + b.2)]), ⟨⟨⟨by simp [hxl], hlt⟩, ⟨by simp [hyl], hll⟩⟩, hEx4, hEy4, hu4, hno2, ?_, ?_, ?_, ?_⟩, by simp [Has, rd_s], rfl, by simp only; omega⟩
            · simp only; rw [rx1 c1, ry1 c2]; exact ⟨rx, ry⟩
            · simp only; rw [rx1 c1, ry1 c2]; exact rl
            · simp only; rw [rx1 c1, ry1 c2]; exact hgr
            · simp only; rw [hol]; omega
          · simp (maxSteps := 4000000) -implicitDefEqProofs -dsimp (disch := omega) only [↓AW_skip, ↓AW_ops, ↓AW_seq, ↓AW_cond, ↓AW_block, ↓AOps_nil, ↓AOps_pu, ↓AOps_ld, ↓AOps_ha, on_some, extK_false, extK_app, condB_t, condB_f, ↓then_normal, ↓inBlock_normal, pval, lval, hval_st, hval_blds, hval_app, rd_S, rd_C, put_S, putS_none, cells_agg, cells_int, splice, fillA, repl, eq_self, mk, List.foldl_cons, List.foldl_nil, List.replicate_succ, List.replicate_zero, List.set_cons_zero, List.set_cons_succ, List.getElem?_cons_zero, List.getElem?_cons_succ, List.drop_zero, List.drop_succ_cons, List.drop_nil, List.take_zero, List.take_succ_cons, Option.getD_some, Option.map_some, Option.map_none, map_c, map_n, List.length_cons, List.length_nil, Nat.reduceAdd, Nat.reduceLeDiff, Nat.zero_add, Nat.add_zero, List.cons_append, List.nil_append, List.append_nil, bin_add, bin_sub, bin_eql, bin_gtr, mm_min, w64, if_true, decide_true, decide_false, true_and, and_true, ne_eq, hlnx, hpos, hix, hiy, hEx.l0 ha, hEy.l0 hb, hEx.l1 ha, hEy.l1 hb, happ, hEx2.l0 ha, s1', hEy3.l0 hb, s2, lx4', ly4, c1, c2, hsx]
            refine ⟨(k + 1, l, xs.set k (a.1 - min a.1 b.1, a.2), ys.set l (b.1 - min a.1 b.1, b.2), o3, H4, outs ++ [(min a.1 b.1, a.2 + b.2)]), ⟨⟨⟨by simp [hxl], hlt⟩, ⟨by simp [hyl], hl⟩⟩, hEx4, hEy4, hu4, hno2, ?_, ?_, ?_, ?_⟩, by simp [Has, rd_s], rfl, by simp only; omega⟩
            · simp only; rw [rx1 c1, ry2 c2]; exact ⟨rx, ry⟩
            · simp only; rw [rx1 c1, ry2 c2]; exact rl
            · simp only; rw [rx1 c1, ry2 c2]; exact hgr
            · simp only; rw [hol]; omega
        · have c2 : b.1 - min a.1 b.1 = 0 := by omega
          have s2' := s2
          have ly4' := ly4
          rw [c2] at s2' ly4'
          simp (maxSteps := 4000000) -implicitDefEqProofs -dsimp (disch := omega) only [↓AW_skip, ↓AW_ops, ↓AW_seq, ↓AW_cond, ↓AW_block, ↓AOps_nil, ↓AOps_pu, ↓AOps_ld, ↓AOps_ha, on_some, extK_false, extK_app, condB_t, condB_f, ↓then_normal, ↓inBlock_normal, pval, lval, hval_st, hval_blds, hval_app, rd_S, rd_C, put_S, putS_none, cells_agg, cells_int, splice, fillA, repl, eq_self, mk, List.foldl_cons, List.foldl_nil, List.replicate_succ, List.replicate_zero, List.set_cons_zero, List.set_cons_succ, List.getElem?_cons_zero, List.getElem?_cons_succ, List.drop_zero, List.drop_succ_cons, List.drop_nil, List.take_zero, List.take_succ_cons, Option.getD_some, Option.map_some, Option.map_none, map_c, map_n, List.length_cons, List.length_nil, Nat.reduceAdd, Nat.reduceLeDiff, Nat.zero_add, Nat.add_zero, List.cons_append, List.nil_append, List.append_nil, bin_add, bin_sub, bin_eql, bin_gtr, mm_min, w64, if_true, decide_true, decide_false, true_and, and_true, ne_eq, hlnx, hpos, hix, hiy, hEx.l0 ha, hEy.l0 hb, hEx.l1 ha, hEy.l1 hb, happ, hEx2.l0 ha, s1, hEy3.l0 hb, s2', lx4, ly4', c1, c2, hsy]
          refine ⟨(k, l + 1, xs.set k (a.1 - min a.1 b.1, a.2), ys.set l (b.1 - min a.1 b.1, b.2), o3, H4, outs ++ [(min a.1 b.1, a.2 + b.2)]), ⟨⟨⟨by simp [hxl], hk⟩, ⟨by simp [hyl], hll⟩⟩, hEx4, hEy4, hu4, hno2, ?_, ?_, ?_, ?_⟩, by simp [Has, rd_s], rfl, by simp only; omega⟩
          · simp only; rw [rx2 c1, ry1 c2]; exact ⟨rx, ry⟩
          · simp only; rw [rx2 c1, ry1 c2]; exact rl
          · simp only; rw [rx2 c1, ry1 c2]; exact hgr
          · simp only; rw [hol]; omega
      · have hpos : ¬ (0 : Int) < ((f.length - k : Nat) : Int) := by omega
        rw [List.drop_of_length_le (by omega), zz_nil, grp_nilr] at hgr
        subst hgr
        have hu' := AccL_ls hu e2_len
        obtain ⟨zs, g1, g2, _⟩ := zz_big (f := f) (g := g) _ f g [] (Nat.le_refl _) (all_pos hgf.2) (all_pos hgg.2) h1
        rw [List.nil_append] at g1
        rw [← g1] at g2
        have hlo : (grp [] (zz f g)).length ≤ 12 := by omega
        simp (maxSteps := 4000000) -implicitDefEqProofs -dsimp (disch := omega) only [↓AW_ops, ↓AW_seq, ↓AW_cond, ↓AW_exit, ↓AOps_nil, ↓AOps_pu, ↓AOps_call, on_some, condB_f, ↓then_normal, ↓then_exit, ↓inBlock_exit, pval, rd_S, rd_C, put_S, eq_self, mk, List.foldl_cons, List.foldl_nil, List.replicate_succ, List.replicate_zero, List.set_cons_zero, List.set_cons_succ, List.getElem?_cons_zero, List.getElem?_cons_succ, Option.getD_some, map_c, map_n, bin_gtr, if_true, decide_false, hlnx, hpos]
        refine CallK.of (c_ContainsFuncZ hu' (by omega) 96 [] (fun z => decide (20 < z.2)) (fun z _ => s96 z _)) ?_
        by_cases hb : big (zz f g)
        · have hany : (grp [] (zz f g)).any (fun z => decide (20 < z.2)) = true := by
            rw [List.any_eq_true]
            obtain ⟨z, hz, hz2⟩ := g2.1 hb
            exact ⟨z, hz, by simpa using hz2⟩
          have hE1 : suE f g = 1 := by rw [hE, if_pos hb]
          have hL0 : suL f g = [] := by simp [suL, hE1]
          rw [hE1, hL0]
          simp (maxSteps := 4000000) -implicitDefEqProofs -dsimp (disch := omega) only [↓AW_ops, ↓AW_seq, ↓AW_cond, ↓AW_ret, ↓AOps_nil, ↓AOps_pu, on_some, extK_same, condB_t, ↓then_normal, ↓then_ret, ↓Fin_ret, pval, rd_S, rd_C, put_S, resV, resL, mk, List.foldl_cons, List.foldl_nil, List.replicate_succ, List.replicate_zero, List.set_cons_zero, List.set_cons_succ, List.getElem?_cons_zero, List.getElem?_cons_succ, Option.getD_some, List.length_nil, hany]
          exact gc_old2 hEx.pre rfl rfl
        · have hany : (grp [] (zz f g)).any (fun z => decide (20 < z.2)) = false := by
            rw [List.any_eq_false]
            intro z hz h
            exact hb (g2.2 ⟨z, hz, by simpa using h⟩)
          by_cases h6 : (6 : Int) < (grp [] (zz f g)).length
          · have hE1 : suE f g = 3 := by rw [hE, if_neg hb, if_pos (by omega)]
            have hL0 : suL f g = [] := by simp [suL, hE1]
            rw [hE1, hL0]
            simp (maxSteps := 4000000) -implicitDefEqProofs -dsimp (disch := omega) only [↓AW_skip, ↓AW_ops, ↓AW_seq, ↓AW_cond, ↓AW_ret, ↓AOps_nil, ↓AOps_pu, on_some, extK_same, condB_t, condB_f, ↓then_normal, ↓then_ret, ↓Fin_ret, pval, rd_S, rd_C, put_S, resV, resL, mk, List.foldl_cons, List.foldl_nil, List.replicate_succ, List.replicate_zero, List.set_cons_zero, List.set_cons_succ, List.getElem?_cons_zero, List.getElem?_cons_succ, Option.getD_some, List.length_nil, bin_gtr, decide_true, hany, hu'.len, h6]
            exact gc_old2 hEx.pre rfl rfl
          · have hE1 : suE f g = 0 := by rw [hE, if_neg hb, if_neg (by omega)]
            have hL0 : suL f g = grp [] (zz f g) := by simp [suL, hE1]
            rw [hE1, hL0]
            simp (maxSteps := 4000000) -implicitDefEqProofs -dsimp (disch := omega) only [↓AW_skip, ↓AW_ops, ↓AW_seq, ↓AW_cond, ↓AW_ret, ↓AOps_nil, ↓AOps_pu, on_some, extK_same, condB_f, ↓then_normal, ↓Fin_ret, pval, rd_S, rd_C, put_S, resV, resL, mk, List.foldl_cons, List.foldl_nil, List.replicate_succ, List.replicate_zero, List.set_cons_zero, List.set_cons_succ, List.getElem?_cons_zero, List.getElem?_cons_succ, Option.getD_some, bin_gtr, decide_false, hany, hu'.len, h6]
            exact hu.gc2 flat_e2 (I 0) rfl
    · have hE : suE f g = 5 := by simp [suE, h0, h1]
      have hL0 : suL f g = [] := by simp [suL, hE]
      rw [hE, hL0]
      simp (maxSteps := 4000000) -implicitDefEqProofs -dsimp (disch := omega) only [↓AW_ops, ↓AW_seq, ↓AW_cond, ↓AW_ret, ↓AOps_nil, ↓AOps_pu, on_some, extK_same, condB_t, ↓then_normal, ↓then_ret, ↓Fin_ret, pval, rd_S, rd_C, put_S, resV, resL, List.replicate_succ, List.replicate_zero, List.set_cons_zero, List.set_cons_succ, List.getElem?_cons_zero, List.getElem?_cons_succ, Option.getD_some, List.length_nil, Nat.reduceSub, List.cons_append, List.nil_append, bin_neq, decide_true, not_false_eq_true, h1]
      exact gc_same_all rfl rfl
  · have hE : suE f g = v2E f g := by simp [suE, h0]
    have hL0 : suL f g = [] := by simp [suL, hE, h0]
    rw [hE, hL0]
    simp (maxSteps := 4000000) -implicitDefEqProofs -dsimp (disch := omega) only [↓AW_ops, ↓AW_seq, ↓AW_cond, ↓AW_ret, ↓AOps_nil, ↓AOps_pu, on_some, extK_same, condB_t, ↓then_normal, ↓then_ret, ↓Fin_ret, pval, rd_S, rd_C, put_S, resV, resL, List.replicate_succ, List.replicate_zero, List.set_cons_zero, List.set_cons_succ, List.getElem?_cons_zero, List.getElem?_cons_succ, Option.getD_some, List.length_nil, Nat.reduceSub, List.cons_append, List.nil_append, bin_neq, decide_true, not_false_eq_true, h0]
    exact gc_same_all rfl rfl
end Go.Proofs.Ytnnbggcckabhdaa

namespace Go.Proofs.Ytnnbggcckabhdaa
open Go Go.Eng
/-- selion/selionlaw02.SoilSums [] -/
def m15 : MFun := ⟨109, [5, 11, 13, 15], [.mov (.s 6)],
 .seq (.ops [⟨(some 5), some (.junk), none, false, .pu (.bnew (.s 2))⟩,
   ⟨(some 6), some undefA, none, false, .pu (.mov (.c (.bool false)))⟩])
 (.seq (.seq (.ops [⟨(some 17), some undefA, none, false, .pu (.mov (.s 0))⟩,
   ⟨(some 18), some undefA, none, false, .pu (.mov (.s 1))⟩,
   ⟨(some 19), some undefA, none, false, .call 18 [(.s 17), (.s 18)]⟩])
 (.cond (.s 19) (.seq (.ops [⟨(some 20), some undefA, none, false, .call 19 []⟩,
    ⟨(some 6), some undefA, none, false, .pu (.mov (.s 20))⟩])
  (.ret))
 (.skip)))
 (.seq (.ops [⟨(some 22), some undefA, none, false, .pu (.mov (.s 0))⟩,
   ⟨(some 23), some undefA, none, false, .pu (.mov (.s 1))⟩,
   ⟨(some 24), some undefA, none, false, .call 57 [(.s 22), (.s 23)]⟩,
   ⟨(some 21), some undefA, none, false, .pu (.mov (.s 24))⟩,
   ⟨(some 25), some undefA, none, false, .pu (.extr 0 (.s 21))⟩,
   ⟨(some 26), some undefA, none, false, .pu (.extr 1 (.s 21))⟩,
   ⟨(some 7), some undefA, none, false, .pu (.mov (.s 25))⟩,
   ⟨(some 8), some undefA, none, false, .pu (.mov (.s 26))⟩])
 (.seq (.ops [⟨(some 28), some undefA, none, false, .pu (.mov (.s 0))⟩,
   ⟨(some 29), some undefA, none, false, .pu (.mov (.s 1))⟩,
   ⟨(some 30), some undefA, none, false, .call 58 [(.s 28), (.s 29)]⟩,
   ⟨(some 27), some undefA, none, false, .pu (.mov (.s 30))⟩,
   ⟨(some 31), some undefA, none, false, .pu (.extr 0 (.s 27))⟩,
   ⟨(some 32), some undefA, none, false, .pu (.extr 1 (.s 27))⟩,
   ⟨(some 9), some undefA, none, false, .pu (.mov (.s 31))⟩,
   ⟨(some 10), some undefA, none, false, .pu (.mov (.s 32))⟩])
 (.seq (.seq (.ops [⟨(some 33), some undefA, none, false, .pu (.mov (.s 8))⟩,
   ⟨(some 34), some undefA, none, false, .pu (.mov (.s 10))⟩,
   ⟨(some 35), some undefA, none, false, .pu (.bin .neq (.s 33) (.s 34))⟩,
   ⟨(some 36), some undefA, none, false, .pu (.mov (.s 35))⟩,
   ⟨(some 37), some undefA, (some (36, false)), false, .pu (.mov (.s 7))⟩,
   ⟨(some 38), some undefA, (some (36, false)), false, .pu (.mov (.s 9))⟩,
   ⟨(some 39), some undefA, (some (36, false)), false, .call 43 [(.s 37), (.s 38)]⟩,
   ⟨(some 40), some undefA, (some (36, false)), false, .pu (.not (.s 39))⟩,
   ⟨(some 41), some undefA, none, false, .pu (.pick (.s 36) (.c (.bool true)) (.s 40))⟩])
 (.cond (.s 41) (.seq (.ops [⟨(some 6), some undefA, none, false, .pu (.mov (.c (.bool false)))⟩])
  (.ret))
 (.skip)))
 (.seq (.ops [⟨(some 43), some undefA, none, false, .pu (.mov (.s 0))⟩,
   ⟨(some 44), some undefA, none, false, .pu (.badr none 5)⟩,
   ⟨(some 45), some undefA, none, false, .pu (.bget (some 44) 5 0 2 true)⟩,
   ⟨(some 46), some undefA, none, false, .pu (.badr none 5)⟩,
   ⟨(some 47), some undefA, none, false, .pu (.bget (some 46) 5 2 2 true)⟩,
   ⟨(some 48), some undefA, none, false, .call 25 [(.s 43), (.s 45), (.s 47)]⟩,
   ⟨(some 42), some undefA, none, false, .pu (.mov (.s 48))⟩,
   ⟨(some 49), some undefA, none, false, .pu (.extr 0 (.s 42))⟩,
   ⟨(some 50), some undefA, none, false, .pu (.extr 1 (.s 42))⟩,
   ⟨(some 11), some (.junk), none, false, .pu (.bnew (.c (.agg [.int .i64 0, .int .i64 0])))⟩,
   ⟨(some 11), none, none, false, .pu (.bset none 11 0 2 (.s 49))⟩,
   ⟨(some 12), some undefA, none, false, .pu (.mov (.s 50))⟩])
 (.seq (.ops [⟨(some 52), some undefA, none, false, .pu (.mov (.s 1))⟩,
   ⟨(some 53), some undefA, none, false, .pu (.badr none 5)⟩,
   ⟨(some 54), some undefA, none, false, .pu (.bget (some 53) 5 0 2 true)⟩,
   ⟨(some 55), some undefA, none, false, .pu (.badr none 5)⟩,
   ⟨(some 56), some undefA, none, false, .pu (.bget (some 55) 5 2 2 true)⟩,
   ⟨(some 57), some undefA, none, false, .call 25 [(.s 52), (.s 54), (.s 56)]⟩,
   ⟨(some 51), some undefA, none, false, .pu (.mov (.s 57))⟩,
   ⟨(some 58), some undefA, none, false, .pu (.extr 0 (.s 51))⟩,
   ⟨(some 59), some undefA, none, false, .pu (.extr 1 (.s 51))⟩,
   ⟨(some 13), some (.junk), none, false, .pu (.bnew (.c (.agg [.int .i64 0, .int .i64 0])))⟩,
   ⟨(some 13), none, none, false, .pu (.bset none 13 0 2 (.s 58))⟩,
   ⟨(some 14), some undefA, none, false, .pu (.mov (.s 59))⟩])
 (.seq (.ops [⟨(some 61), some undefA, none, false, .pu (.mov (.s 7))⟩,
   ⟨(some 62), some undefA, none, false, .pu (.badr none 5)⟩,
   ⟨(some 63), some undefA, none, false, .pu (.bget (some 62) 5 0 2 true)⟩,
   ⟨(some 64), some undefA, none, false, .pu (.badr none 5)⟩,
   ⟨(some 65), some undefA, none, false, .pu (.bget (some 64) 5 2 2 true)⟩,
   ⟨(some 66), some undefA, none, false, .call 25 [(.s 61), (.s 63), (.s 65)]⟩,
   ⟨(some 60), some undefA, none, false, .pu (.mov (.s 66))⟩,
   ⟨(some 67), some undefA, none, false, .pu (.extr 0 (.s 60))⟩,
   ⟨(some 68), some undefA, none, false, .pu (.extr 1 (.s 60))⟩,
   ⟨(some 15), some (.junk), none, false, .pu (.bnew (.c (.agg [.int .i64 0, .int .i64 0])))⟩,
   ⟨(some 15), none, none, false, .pu (.bset none 15 0 2 (.s 67))⟩,
   ⟨(some 16), some undefA, none, false, .pu (.mov (.s 68))⟩])
 (.seq (.seq (.ops [⟨(some 69), some undefA, none, false, .pu (.mov (.s 8))⟩,
   ⟨(some 70), some undefA, none, false, .pu (.bin .neq (.s 69) (.c (.int .i64 0)))⟩,
   ⟨(some 71), some undefA, none, false, .pu (.mov (.s 70))⟩,
   ⟨(some 72), some undefA, (some (71, false)), false, .pu (.mov (.s 12))⟩,
   ⟨(some 73), some undefA, (some (71, false)), false, .pu (.bin .neq (.s 72) (.c (.int .i64 0)))⟩,
   ⟨(some 74), some undefA, none, false, .pu (.pick (.s 71) (.c (.bool true)) (.s 73))⟩])
 (.cond (.s 74) (.seq (.ops [⟨(some 75), some undefA, none, false, .call 19 []⟩,
    ⟨(some 6), some undefA, none, false, .pu (.mov (.s 75))⟩])
  (.ret))
 (.skip)))
 (.seq (.ops [⟨(some 76), some undefA, none, false, .pu (.mov (.s 14))⟩,
   ⟨(some 77), some undefA, none, false, .pu (.bin .eql (.s 76) (.c (.int .i64 0)))⟩,
   ⟨(some 78), some undefA, none, false, .pu (.mov (.s 77))⟩,
   ⟨(some 79), some undefA, (some (78, true)), false, .pu (.mov (.s 16))⟩,
   ⟨(some 80), some undefA, (some (78, true)), false, .pu (.bin .eql (.s 79) (.c (.int .i64 0)))⟩,
   ⟨(some 81), some undefA, none, false, .pu (.pick (.s 78) (.s 80) (.c (.bool false)))⟩,
   ⟨(some 82), some undefA, none, false, .pu (.mov (.s 81))⟩,
   ⟨(some 83), some undefA, (some (82, true)), false, .pu (.badr none 11)⟩,
   ⟨(some 84), some undefA, (some (82, true)), false, .pu (.bget (some 83) 11 1 1 false)⟩,
   ⟨(some 85), some undefA, (some (82, true)), false, .pu (.bin .gtr (.s 84) (.c (.int .i64 0)))⟩,
   ⟨(some 86), some undefA, none, false, .pu (.pick (.s 82) (.s 85) (.c (.bool false)))⟩,
   ⟨(some 87), some undefA, none, false, .pu (.mov (.s 86))⟩,
   ⟨(some 88), some undefA, (some (87, true)), false, .pu (.badr none 13)⟩,
   ⟨(some 89), some undefA, (some (87, true)), false, .pu (.bget (some 88) 13 1 1 false)⟩,
   ⟨(some 90), some undefA, (some (87, true)), false, .pu (.bin .gtr (.s 89) (.c (.int .i64 0)))⟩,
   ⟨(some 91), some undefA, none, false, .pu (.pick (.s 87) (.s 90) (.c (.bool false)))⟩,
   ⟨(some 92), some undefA, none, false, .pu (.mov (.s 91))⟩,
   ⟨(some 93), some undefA, (some (92, true)), false, .pu (.bget none 11 0 2 true)⟩,
   ⟨(some 94), some undefA, (some (92, true)), false, .pu (.bget none 13 0 2 true)⟩,
   ⟨(some 95), some undefA, (some (92, true)), false, .pu (.bget none 15 0 2 true)⟩,
   ⟨(some 96), some undefA, (some (92, true)), false, .ha (.blds 2 3 [.int .i64 0, .int .i64 0] [(0, 2, (.s 93)), (2, 2, (.s 94)), (4, 2, (.s 95))])⟩,
   ⟨(some 97), some undefA, (some (92, true)), false, .call 23 [(.s 96)]⟩,
   ⟨(some 98), some undefA, none, false, .pu (.pick (.s 92) (.s 97) (.c (.bool false)))⟩,
   ⟨(some 99), some undefA, none, false, .pu (.mov (.s 98))⟩,
   ⟨(some 100), some undefA, (some (99, true)), false, .pu (.bget none 11 0 2 true)⟩,
   ⟨(some 101), some undefA, (some (99, true)), false, .pu (.bget none 13 0 2 true)⟩,
   ⟨(some 102), some undefA, (some (99, true)), false, .call 27 [(.s 100), (.s 101)]⟩,
   ⟨(some 103), some undefA, (some (99, true)), false, .pu (.bget none 15 0 2 true)⟩,
   ⟨(some 104), some undefA, (some (99, true)), false, .pu (.eqs false [true, true] (.s 102) (.s 103))⟩,
   ⟨(some 105), some undefA, none, false, .pu (.pick (.s 99) (.s 104) (.c (.bool false)))⟩,
   ⟨(some 106), some undefA, none, false, .pu (.mov (.s 105))⟩,
   ⟨(some 107), some undefA, (some (106, true)), false, .call 19 []⟩,
   ⟨(some 108), some undefA, none, false, .pu (.pick (.s 106) (.s 107) (.c (.bool false)))⟩,
   ⟨(some 6), some undefA, none, false, .pu (.mov (.s 108))⟩])
 (.ret))))))))))⟩
theorem t15 : trF Try.prog [5, 11, 13, 15] [] Try.f15 = some m15 := by kernel_rfl
end Go.Proofs.Ytnnbggcckabhdaa

namespace Go.Proofs.Ytnnbggcckabhdaa
open Go Go.Eng
set_option maxRecDepth 100000 in
set_option maxHeartbeats 4000000 in
theorem s15 {f g : List (Int × Int)} {v u : AV} {A : AHeap} (hf : L2 A v f) (hg : L2 A u g) (a b c d : Int) (ha : W a) (hc : W c) : ACalls Try.prog 15 [v, u, .agg [I a, I b, I c, I d]] A (B true) A := by
  refine acalls hmix Try.func15 (by kernel_rfl) t15 3 rfl (by decide) ?_
  dsimp only [m15]
  simp (maxSteps := 4000000) -implicitDefEqProofs -dsimp (disch := omega) only [↓AW_ops, ↓AW_seq, ↓AOps_nil, ↓AOps_pu, ↓AOps_call, on_some, ↓then_normal, pval, rd_S, rd_C, put_S, AV.cells?, List.replicate_succ, List.replicate_zero, List.set_cons_zero, List.set_cons_succ, List.getElem?_cons_zero, List.getElem?_cons_succ, Option.getD_some, map_c, map_n, Nat.reduceSub, List.cons_append, List.nil_append]
  refine CallK.of (s18 hf hg) ?_
  by_cases h : (100 : Int) < f.length ∨ (100 : Int) < g.length
  · simp (maxSteps := 4000000) -implicitDefEqProofs -dsimp (disch := omega) only [↓AW_ops, ↓AW_seq, ↓AW_cond, ↓AOps_nil, ↓AOps_call, extK_same, condB_t, ↓then_normal, rd_S, put_S, List.replicate_succ, List.replicate_zero, List.set_cons_zero, List.set_cons_succ, List.getElem?_cons_zero, List.getElem?_cons_succ, Option.getD_some, map_n, Nat.reduceSub, List.cons_append, List.nil_append, decide_true, h]
    refine CallK.of (known A) ?_
    simp (maxSteps := 4000000) -implicitDefEqProofs -dsimp (disch := omega) only [↓AW_ret, ↓AOps_nil, ↓AOps_pu, on_some, extK_same, ↓then_normal, ↓then_ret, ↓Fin_ret, pval, rd_S, put_S, resV, resL, List.replicate_succ, List.replicate_zero, List.set_cons_zero, List.set_cons_succ, List.getElem?_cons_zero, List.getElem?_cons_succ, Option.getD_some, Nat.reduceSub, List.cons_append, List.nil_append]
    exact gc_same rfl
  · have hle : (suL f g).length ≤ 100 := by
      by_cases hE : suE f g = 0
      · have := (suL_facts hE).2.2.2.2.2; omega
      · simp [suL, hE]
    simp (maxSteps := 4000000) -implicitDefEqProofs -dsimp (disch := omega) only [↓AW_skip, ↓AW_ops, ↓AW_seq, ↓AW_cond, ↓AOps_nil, ↓AOps_pu, ↓AOps_call, on_some, extK_same, condB_f, ↓then_normal, pval, rd_S, put_S, List.replicate_succ, List.replicate_zero, List.set_cons_zero, List.set_cons_succ, List.getElem?_cons_zero, List.getElem?_cons_succ, Option.getD_some, map_c, map_n, Nat.reduceSub, List.cons_append, List.nil_append, decide_false, h]
    refine CallK.of (s57 hf hg) ?_
    have p1 := pre_out A ((suL f g).flatMap Go.Eng.e2) (suL f g).length
    have hL1 := Ls_out A e2_len (suL f g)
    generalize outH A ((suL f g).flatMap Go.Eng.e2) (suL f g).length = A1 at *
    generalize outV 2 A (suL f g).length = y1 at *
    simp (maxSteps := 4000000) -implicitDefEqProofs -dsimp (disch := omega) only [↓AW_ops, ↓AW_seq, ↓AOps_nil, ↓AOps_pu, ↓AOps_call, on_some, extK_false, ↓then_normal, pval, rd_S, put_S, List.replicate_succ, List.replicate_zero, List.set_cons_zero, List.set_cons_succ, List.getElem?_cons_zero, List.getElem?_cons_succ, Option.getD_some, map_c, map_n, Nat.reduceSub, List.cons_append, List.nil_append]
    refine CallK.of (s58 (hf.mono p1) (hg.mono p1)) ?_
    have p2 := pre_out A1 ((suL f g).flatMap Go.Eng.e2) (suL f g).length
    have hL2 := Ls_out A1 e2_len (suL f g)
    generalize outH A1 ((suL f g).flatMap Go.Eng.e2) (suL f g).length = A2 at *
    generalize outV 2 A1 (suL f g).length = y2 at *
    have hL := hL1.mono p2
    have p12 := p1.trans p2
    have hf2 := hf.mono p12
    have hg2 := hg.mono p12
    simp (maxSteps := 4000000) -implicitDefEqProofs -dsimp (disch := omega) only [↓AW_ops, ↓AW_seq, ↓AOps_nil, ↓AOps_pu, ↓AOps_call, ↓AOps_guard, on_some, extK_false, guardB_ff, ↓then_normal, pval, rd_S, put_S, eq_self, List.replicate_succ, List.replicate_zero, List.set_cons_zero, List.set_cons_succ, List.getElem?_cons_zero, List.getElem?_cons_succ, Option.getD_some, map_c, map_n, Nat.reduceSub, List.cons_append, List.nil_append, bin_neq, decide_false, not_true_eq_false]
    refine CallK.of (s43 hL hL2 (by omega)) ?_
    rw [decide_eq_true (rfl : suL f g = suL f g)]
    obtain ⟨x1, x2, hm1⟩ := wV_agg f (a, b) (c, d)
    obtain ⟨x3, x4, hm2⟩ := wV_agg g (a, b) (c, d)
    obtain ⟨x5, x6, hm3⟩ := wV_agg (suL f g) (a, b) (c, d)
    by_cases hE : suE f g = 0
    · by_cases hw : wE f (a, b) (c, d) = 0
      · obtain ⟨hvf, hvg, hll, hvs, hus, _⟩ := suL_facts hE
        obtain ⟨w0, w1, w2, w3⟩ := wE_0 hw
        have hgf := (good_of hvf).1
        have hgg := (good_of hvg).1
        have hgs := (good_of hvs).1
        have hlf := len_units hgf.2
        have hlg := len_units hgg.2
        have hls := len_units hgs.2
        rw [hus, List.length_zipWith] at hls
        have hl3 : len f = len (suL f g) := by omega
        have hwg : wE g (a, b) (c, d) = 0 := wE_ok hvg ⟨w1.1, by rw [← hll]; exact w1.2⟩ ⟨w2.1, by rw [← hll]; exact w2.2⟩ w3
        have hws : wE (suL f g) (a, b) (c, d) = 0 := wE_ok hvs ⟨w1.1, by rw [← hl3]; exact w1.2⟩ ⟨w2.1, by rw [← hl3]; exact w2.2⟩ w3
        obtain ⟨p, e1', e2', e3', e4'⟩ := wV_num hw
        obtain ⟨q, e5', e6', e7', e8'⟩ := wV_num hwg
        obtain ⟨r, e9', e10', e11', e12'⟩ := wV_num hws
        have hup : ∀ x, upTo 0 (suL f g) x = upTo 0 f x + upTo 0 g x := fun x => by
          rw [← upTo_units x (suL f g) 0 hgs.2, hus, upToU_add x _ _ 0 (by omega), upTo_units x f 0 hgf.2, upTo_units x g 0 hgg.2]
        have hsum : p + q = r := by
          rw [e2', e6', e10', hup, hup]
          grind
        simp (maxSteps := 4000000) -implicitDefEqProofs -dsimp (disch := omega) only [↓AW_skip, ↓AW_ops, ↓AW_seq, ↓AW_cond, ↓AOps_nil, ↓AOps_pu, ↓AOps_call, ↓AOps_guard, on_some, extK_same, guardB_ff, condB_f, ↓then_normal, pval, rd_S, rd_C, put_S, chkd, isAdr, bgot, AV.cells?, partA, eq_self, List.replicate_succ, List.replicate_zero, List.set_cons_zero, List.set_cons_succ, List.getElem?_cons_zero, List.getElem?_cons_succ, List.drop_zero, List.drop_succ_cons, List.take_zero, List.take_succ_cons, List.take_nil, Option.getD_some, map_c, map_n, List.length_cons, List.length_nil, Nat.reduceAdd, Nat.reduceSub, Nat.reduceLeDiff, Nat.reduceEqDiff, Nat.zero_add, List.cons_append, List.nil_append, if_true, if_false, Bool.false_eq_true, Bool.not_true, hE]
        refine CallK.of (s25 hf2 (a, b) (c, d) ha hc) ?_
        rw [e1']
        simp (maxSteps := 4000000) -implicitDefEqProofs -dsimp (disch := omega) only [↓AW_ops, ↓AW_seq, ↓AOps_nil, ↓AOps_pu, ↓AOps_call, on_some, extK_same, ↓then_normal, pval, rd_S, rd_C, put_S, chkd, isAdr, bput, bgot, AV.cells?, splice, partA, eq_self, List.replicate_succ, List.replicate_zero, List.set_cons_zero, List.set_cons_succ, List.getElem?_cons_zero, List.getElem?_cons_succ, List.drop_zero, List.drop_succ_cons, List.drop_nil, List.take_zero, List.take_succ_cons, List.take_nil, Option.getD_some, map_c, map_n, List.length_cons, List.length_nil, Nat.reduceAdd, Nat.reduceSub, Nat.reduceLeDiff, Nat.reduceEqDiff, Nat.zero_add, List.cons_append, List.nil_append, List.append_nil, if_true, if_false, ne_eq, not_true_eq_false, hw]
        refine CallK.of (s25 hg2 (a, b) (c, d) ha hc) ?_
        rw [e5']
        simp (maxSteps := 4000000) -implicitDefEqProofs -dsimp (disch := omega) only [↓AW_ops, ↓AW_seq, ↓AOps_nil, ↓AOps_pu, ↓AOps_call, on_some, extK_same, ↓then_normal, pval, rd_S, rd_C, put_S, chkd, isAdr, bput, bgot, AV.cells?, splice, partA, eq_self, List.replicate_succ, List.replicate_zero, List.set_cons_zero, List.set_cons_succ, List.getElem?_cons_zero, List.getElem?_cons_succ, List.drop_zero, List.drop_succ_cons, List.drop_nil, List.take_zero, List.take_succ_cons, List.take_nil, Option.getD_some, map_c, map_n, List.length_cons, List.length_nil, Nat.reduceAdd, Nat.reduceSub, Nat.reduceLeDiff, Nat.reduceEqDiff, Nat.zero_add, List.cons_append, List.nil_append, List.append_nil, if_true, if_false, ne_eq, not_true_eq_false, hwg]
        refine CallK.of (s25 hL (a, b) (c, d) ha hc) ?_
        rw [e9']
        simp (maxSteps := 4000000) -implicitDefEqProofs -dsimp (disch := omega) only [↓AW_skip, ↓AW_ops, ↓AW_seq, ↓AW_cond, ↓AOps_nil, ↓AOps_pu, ↓AOps_ha, ↓AOps_call, ↓AOps_guard, on_some, extK_app, extK_same, guardB_tt, guardB_ff, condB_f, ↓then_normal, pval, hval, rd_S, rd_C, put_S, chkd, isAdr, bput, bgot, AV.cells?, splice, partA, fillA, repl, eq_self, List.replicate_succ, List.replicate_zero, List.set_cons_zero, List.set_cons_succ, List.getElem?_cons_zero, List.getElem?_cons_succ, List.drop_zero, List.drop_succ_cons, List.drop_nil, List.take_zero, List.take_succ_cons, List.take_nil, Option.getD_some, map_c, map_n, List.length_cons, List.length_nil, Nat.reduceAdd, Nat.reduceSub, Nat.reduceLeDiff, Nat.reduceEqDiff, Nat.zero_add, List.cons_append, List.nil_append, List.append_nil, bin_eql, bin_neq, bin_gtr, if_true, if_false, Bool.false_eq_true, decide_true, decide_false, and_true, ne_eq, not_true_eq_false, hE, hw, hwg, hws, den_pos p, den_pos q]
        refine CallK.of (s23 (L2_three A2 (p.num, p.den) (q.num, q.den) (r.num, r.den)) (by simp)) ?_
        have hfair : ∀ r' ∈ [(p.num, (p.den : Int)), (q.num, (q.den : Int)), (r.num, (r.den : Int))], fairR r' := by
          simp only [List.mem_cons, List.not_mem_nil, or_false]
          rintro r' (rfl | rfl | rfl)
          · exact fair_num e4'
          · exact fair_num e8'
          · exact fair_num e12'
        rw [decide_eq_true hfair]
        simp (maxSteps := 4000000) -implicitDefEqProofs -dsimp (disch := omega) only [↓AOps_pu, ↓AOps_call, ↓AOps_guard, on_some, extK_same, guardB_tt, pval, rd_S, rd_C, put_S, chkd, bgot, partA, eq_self, List.replicate_succ, List.replicate_zero, List.set_cons_zero, List.set_cons_succ, List.getElem?_cons_zero, List.getElem?_cons_succ, List.drop_zero, List.take_succ_cons, List.take_nil, Option.getD_some, map_c, map_n, List.length_cons, List.length_nil, Nat.reduceAdd, Nat.reduceSub, Nat.reduceLeDiff, Nat.reduceEqDiff, Nat.zero_add, List.cons_append, List.nil_append, if_true, if_false]
        refine CallK.of (s27g p q _ (Fit_of 2400000000 2400000000 1000000 1000000 e4'.1 (by omega) e8'.1 (by omega) (by decide) (by decide))) ?_
        simp (maxSteps := 4000000) -implicitDefEqProofs -dsimp (disch := omega) only [↓AOps_pu, ↓AOps_call, ↓AOps_guard, on_some, extK_same, guardB_tt, pval, rd_S, rd_C, put_S, chkd, bgot, partA, eqc, beq_self_eq_true, eq_self, List.replicate_succ, List.replicate_zero, List.set_cons_zero, List.set_cons_succ, List.getElem?_cons_zero, List.getElem?_cons_succ, List.drop_zero, List.take_succ_cons, List.take_nil, Option.getD_some, Option.map_some, map_n, List.length_cons, List.length_nil, Nat.reduceAdd, Nat.reduceSub, Nat.reduceLeDiff, Nat.reduceEqDiff, Nat.zero_add, List.cons_append, List.nil_append, if_true, if_false, Bool.false_eq_true, Bool.true_and, hsum]
        refine CallK.of (known _) ?_
        simp (maxSteps := 4000000) -implicitDefEqProofs -dsimp (disch := omega) only [↓AW_ret, ↓AOps_nil, ↓AOps_pu, on_some, extK_same, ↓then_normal, ↓Fin_ret, pval, rd_S, rd_C, put_S, resV, resL, eq_self, List.replicate_succ, List.replicate_zero, List.set_cons_zero, List.set_cons_succ, List.getElem?_cons_zero, List.getElem?_cons_succ, Option.getD_some, Nat.reduceSub, List.cons_append, List.nil_append, if_true]
        exact gc_val (p12.trans (pre_app A2 _)) rfl
      · simp (maxSteps := 4000000) -implicitDefEqProofs -dsimp (disch := omega) only [↓AW_skip, ↓AW_ops, ↓AW_seq, ↓AW_cond, ↓AOps_nil, ↓AOps_pu, ↓AOps_call, ↓AOps_guard, on_some, extK_same, guardB_ff, condB_f, ↓then_normal, pval, rd_S, rd_C, put_S, chkd, isAdr, bgot, AV.cells?, partA, eq_self, List.replicate_succ, List.replicate_zero, List.set_cons_zero, List.set_cons_succ, List.getElem?_cons_zero, List.getElem?_cons_succ, List.drop_zero, List.drop_succ_cons, List.take_zero, List.take_succ_cons, List.take_nil, Option.getD_some, map_c, map_n, List.length_cons, List.length_nil, Nat.reduceAdd, Nat.reduceSub, Nat.reduceLeDiff, Nat.reduceEqDiff, Nat.zero_add, List.cons_append, List.nil_append, if_true, if_false, Bool.false_eq_true, Bool.not_true, hE]
        refine CallK.of (s25 hf2 (a, b) (c, d) ha hc) ?_
        simp (maxSteps := 4000000) -implicitDefEqProofs -dsimp (disch := omega) only [↓AW_ops, ↓AW_seq, ↓AOps_nil, ↓AOps_pu, ↓AOps_call, on_some, extK_same, ↓then_normal, pval, rd_S, rd_C, put_S, chkd, isAdr, bput, bgot, AV.cells?, splice, partA, eq_self, List.replicate_succ, List.replicate_zero, List.set_cons_zero, List.set_cons_succ, List.getElem?_cons_zero, List.getElem?_cons_succ, List.drop_zero, List.drop_succ_cons, List.drop_nil, List.take_zero, List.take_succ_cons, List.take_nil, Option.getD_some, map_c, map_n, List.length_cons, List.length_nil, Nat.reduceAdd, Nat.reduceSub, Nat.reduceLeDiff, Nat.reduceEqDiff, Nat.zero_add, List.cons_append, List.nil_append, List.append_nil, if_true, if_false, ne_eq, not_true_eq_false, hm1]
        refine CallK.of (s25 hg2 (a, b) (c, d) ha hc) ?_
        simp (maxSteps := 4000000) -implicitDefEqProofs -dsimp (disch := omega) only [↓AW_ops, ↓AW_seq, ↓AOps_nil, ↓AOps_pu, ↓AOps_call, on_some, extK_same, ↓then_normal, pval, rd_S, rd_C, put_S, chkd, isAdr, bput, bgot, AV.cells?, splice, partA, eq_self, List.replicate_succ, List.replicate_zero, List.set_cons_zero, List.set_cons_succ, List.getElem?_cons_zero, List.getElem?_cons_succ, List.drop_zero, List.drop_succ_cons, List.drop_nil, List.take_zero, List.take_succ_cons, List.take_nil, Option.getD_some, map_c, map_n, List.length_cons, List.length_nil, Nat.reduceAdd, Nat.reduceSub, Nat.reduceLeDiff, Nat.reduceEqDiff, Nat.zero_add, List.cons_append, List.nil_append, List.append_nil, if_true, if_false, ne_eq, not_true_eq_false, hm2]
        refine CallK.of (s25 hL (a, b) (c, d) ha hc) ?_
        simp (maxSteps := 4000000) -implicitDefEqProofs -dsimp (disch := omega) only [↓AW_ops, ↓AW_seq, ↓AW_cond, ↓AOps_nil, ↓AOps_pu, ↓AOps_call, ↓AOps_guard, on_some, extK_same, guardB_ff, condB_t, ↓then_normal, pval, rd_S, rd_C, put_S, chkd, bput, AV.cells?, splice, eq_self, List.replicate_succ, List.replicate_zero, List.set_cons_zero, List.set_cons_succ, List.getElem?_cons_zero, List.getElem?_cons_succ, List.drop_succ_cons, List.drop_nil, List.take_zero, Option.getD_some, map_n, List.length_cons, List.length_nil, Nat.reduceAdd, Nat.reduceSub, Nat.reduceLeDiff, Nat.zero_add, List.cons_append, List.nil_append, List.append_nil, bin_neq, if_true, if_false, Bool.false_eq_true, decide_true, decide_false, ne_eq, not_true_eq_false, not_false_eq_true, hm3, hE, hw]
        refine CallK.of (known _) ?_
        simp (maxSteps := 4000000) -implicitDefEqProofs -dsimp (disch := omega) only [↓AW_ret, ↓AOps_nil, ↓AOps_pu, on_some, extK_same, ↓then_normal, ↓then_ret, ↓Fin_ret, pval, rd_S, put_S, resV, resL, List.replicate_succ, List.replicate_zero, List.set_cons_zero, List.set_cons_succ, List.getElem?_cons_zero, List.getElem?_cons_succ, Option.getD_some, Nat.reduceSub, List.cons_append, List.nil_append]
        exact gc_val p12 rfl
    · simp (maxSteps := 4000000) -implicitDefEqProofs -dsimp (disch := omega) only [↓AW_skip, ↓AW_ops, ↓AW_seq, ↓AW_cond, ↓AOps_nil, ↓AOps_pu, ↓AOps_call, ↓AOps_guard, on_some, extK_same, guardB_ff, condB_f, ↓then_normal, pval, rd_S, rd_C, put_S, chkd, isAdr, bgot, AV.cells?, partA, eq_self, List.replicate_succ, List.replicate_zero, List.set_cons_zero, List.set_cons_succ, List.getElem?_cons_zero, List.getElem?_cons_succ, List.drop_zero, List.drop_succ_cons, List.take_zero, List.take_succ_cons, List.take_nil, Option.getD_some, map_c, map_n, List.length_cons, List.length_nil, Nat.reduceAdd, Nat.reduceSub, Nat.reduceLeDiff, Nat.reduceEqDiff, Nat.zero_add, List.cons_append, List.nil_append, if_true, if_false, Bool.false_eq_true, Bool.not_true]
      refine CallK.of (s25 hf2 (a, b) (c, d) ha hc) ?_
      simp (maxSteps := 4000000) -implicitDefEqProofs -dsimp (disch := omega) only [↓AW_ops, ↓AW_seq, ↓AOps_nil, ↓AOps_pu, ↓AOps_call, on_some, extK_same, ↓then_normal, pval, rd_S, rd_C, put_S, chkd, isAdr, bput, bgot, AV.cells?, splice, partA, eq_self, List.replicate_succ, List.replicate_zero, List.set_cons_zero, List.set_cons_succ, List.getElem?_cons_zero, List.getElem?_cons_succ, List.drop_zero, List.drop_succ_cons, List.drop_nil, List.take_zero, List.take_succ_cons, List.take_nil, Option.getD_some, map_c, map_n, List.length_cons, List.length_nil, Nat.reduceAdd, Nat.reduceSub, Nat.reduceLeDiff, Nat.reduceEqDiff, Nat.zero_add, List.cons_append, List.nil_append, List.append_nil, if_true, if_false, ne_eq, not_true_eq_false, hm1]
      refine CallK.of (s25 hg2 (a, b) (c, d) ha hc) ?_
      simp (maxSteps := 4000000) -implicitDefEqProofs -dsimp (disch := omega) only [↓AW_ops, ↓AW_seq, ↓AOps_nil, ↓AOps_pu, ↓AOps_call, on_some, extK_same, ↓then_normal, pval, rd_S, rd_C, put_S, chkd, isAdr, bput, bgot, AV.cells?, splice, partA, eq_self, List.replicate_succ, List.replicate_zero, List.set_cons_zero, List.set_cons_succ, List.getElem?_cons_zero, List.getElem?_cons_succ, List.drop_zero, List.drop_succ_cons, List.drop_nil, List.take_zero, List.take_succ_cons, List.take_nil, Option.getD_some, map_c, map_n, List.length_cons, List.length_nil, Nat.reduceAdd, Nat.reduceSub, Nat.reduceLeDiff, Nat.reduceEqDiff, Nat.zero_add, List.cons_append, List.nil_append, List.append_nil, if_true, if_false, ne_eq, not_true_eq_false, hm2]
      refine CallK.of (s25 hL (a, b) (c, d) ha hc) ?_
      simp (maxSteps := 4000000) -implicitDefEqProofs -dsimp (disch := omega) only [↓AW_ops, ↓AW_seq, ↓AW_cond, ↓AOps_nil, ↓AOps_pu, ↓AOps_call, ↓AOps_guard, on_some, extK_same, guardB_tf, skipS_some, condB_t, ↓then_normal, pval, rd_S, rd_C, put_S, chkd, bput, AV.cells?, splice, eq_self, List.replicate_succ, List.replicate_zero, List.set_cons_zero, List.set_cons_succ, List.getElem?_cons_zero, List.getElem?_cons_succ, List.drop_succ_cons, List.drop_nil, List.take_zero, Option.getD_some, map_n, List.length_cons, List.length_nil, Nat.reduceAdd, Nat.reduceSub, Nat.reduceLeDiff, Nat.zero_add, List.cons_append, List.nil_append, List.append_nil, bin_neq, if_true, if_false, decide_true, ne_eq, not_true_eq_false, not_false_eq_true, hm3, hE]
      refine CallK.of (known _) ?_
      simp (maxSteps := 4000000) -implicitDefEqProofs -dsimp (disch := omega) only [↓AW_ret, ↓AOps_nil, ↓AOps_pu, on_some, extK_same, skipS_some, ↓then_normal, ↓then_ret, ↓Fin_ret, pval, rd_S, put_S, resV, resL, List.replicate_succ, List.replicate_zero, List.set_cons_zero, List.set_cons_succ, List.getElem?_cons_zero, List.getElem?_cons_succ, Option.getD_some, Nat.reduceSub, List.cons_append, List.nil_append]
      exact gc_val p12 rfl
end Go.Proofs.Ytnnbggcckabhdaa

