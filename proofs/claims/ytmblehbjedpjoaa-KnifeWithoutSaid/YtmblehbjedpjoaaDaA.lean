/- What the law's proof rests on, part 3: for all that is said in each line. No conditions. -/
import Derived.Test.YtmblehbjedpjoaaRows
import Derived.Shelf.SlicesE.Delete
import Derived.Test.YtmblehbjedpjoaaEnB
namespace Go.Proofs.Ytmblehbjedpjoaa
open Go Go.Eng
/-- selion/selionlaw06.Long [loop [1, 3]] -/
def m13 : MFun := ⟨28, [1], [.mov (.s 2)],
 .seq (.ops [⟨(some 1), some (.junk), none, false, .pu (.bnew (.s 0))⟩,
   ⟨(some 2), some undefA, none, false, .pu (.mov (.c (.bool false)))⟩])
 (.seq (.seq (.ops [⟨(some 4), some undefA, none, false, .pu (.badr none 1)⟩,
   ⟨(some 5), some undefA, none, false, .pu (.bget (some 4) 1 0 1 false)⟩,
   ⟨(some 6), some undefA, none, false, .pu (.len (.s 5))⟩,
   ⟨(some 7), some undefA, none, false, .pu (.bin .gtr (.s 6) (.c (.int .i64 100)))⟩,
   ⟨(some 8), some undefA, none, false, .pu (.mov (.s 7))⟩,
   ⟨(some 9), some undefA, (some (8, false)), false, .pu (.badr none 1)⟩,
   ⟨(some 10), some undefA, (some (8, false)), false, .pu (.bget (some 9) 1 1 1 false)⟩,
   ⟨(some 11), some undefA, (some (8, false)), false, .pu (.len (.s 10))⟩,
   ⟨(some 12), some undefA, (some (8, false)), false, .pu (.bin .gtr (.s 11) (.c (.int .i64 100)))⟩,
   ⟨(some 13), some undefA, none, false, .pu (.pick (.s 8) (.c (.bool true)) (.s 12))⟩])
 (.cond (.s 13) (.seq (.ops [⟨(some 2), some undefA, none, false, .pu (.mov (.c (.bool true)))⟩])
  (.ret))
 (.skip)))
 (.seq (.seq (.ops [⟨(some 3), some undefA, none, false, .pu (.mov (.c (.int .i64 0)))⟩])
 (.block 0 (.loop (.seq (.seq (.ops [⟨(some 14), some undefA, none, false, .pu (.mov (.s 3))⟩,
     ⟨(some 15), some undefA, none, false, .pu (.badr none 1)⟩,
     ⟨(some 16), some undefA, none, false, .pu (.bget (some 15) 1 1 1 false)⟩,
     ⟨(some 17), some undefA, none, false, .pu (.len (.s 16))⟩,
     ⟨(some 18), some undefA, none, false, .pu (.bin .lss (.s 14) (.s 17))⟩])
   (.cond (.s 18) (.skip)
   (.exit 0)))
   (.seq (.block 1 (.seq (.ops [⟨(some 21), some undefA, none, false, .pu (.badr none 1)⟩,
      ⟨(some 22), some undefA, none, false, .pu (.bget (some 21) 1 1 1 false)⟩,
      ⟨(some 23), some undefA, none, false, .pu (.mov (.s 3))⟩,
      ⟨(some 24), some undefA, none, false, .pu (.idx 1 (.s 22) (.s 23))⟩,
      ⟨(some 25), some undefA, none, false, .ld (.ld 1 false (.s 24))⟩,
      ⟨(some 26), some undefA, none, false, .pu (.len (.s 25))⟩,
      ⟨(some 27), some undefA, none, false, .pu (.bin .gtr (.s 26) (.c (.int .i64 100)))⟩])
    (.cond (.s 27) (.seq (.ops [⟨(some 2), some undefA, none, false, .pu (.mov (.c (.bool true)))⟩])
     (.ret))
    (.skip))))
   (.ops [⟨(some 19), some undefA, none, false, .pu (.mov (.s 3))⟩,
     ⟨(some 20), some undefA, none, false, .pu (.bin .add (.s 19) (.c (.int .i64 1)))⟩,
     ⟨(some 3), some undefA, none, false, .pu (.mov (.s 20))⟩]))))))
 (.seq (.ops [⟨(some 2), some undefA, none, false, .pu (.mov (.c (.bool false)))⟩])
 (.ret))))⟩
theorem t13 : trF Try.prog [1] [] Try.f13 = some m13 := by kernel_rfl
/-- selion/selionlaw06.known [] -/
def m14 : MFun := ⟨51, [1, 2, 3, 4], [.mov (.s 0)],
 .seq (.ops [⟨(some 0), some undefA, none, false, .pu (.mov (.c (.bool false)))⟩])
 (.seq (.ops [⟨(some 9), some undefA, none, false, .pu (.build [.int .i64 0, .int .i64 0] [(0, 1, (.c (.int .i64 0))), (1, 1, (.c (.int .i64 1)))])⟩,
   ⟨(some 10), some undefA, none, false, .pu (.build [.int .i64 0, .int .i64 0] [(0, 1, (.c (.int .i64 4))), (1, 1, (.c (.int .i64 1)))])⟩,
   ⟨(some 1), some (.junk), none, false, .pu (.bnew (.c (.agg [.int .i64 0, .int .i64 0])))⟩,
   ⟨(some 2), some (.junk), none, false, .pu (.bnew (.c (.agg [.int .i64 0, .int .i64 0])))⟩,
   ⟨(some 1), none, none, false, .pu (.bset none 1 0 2 (.s 9))⟩,
   ⟨(some 2), none, none, false, .pu (.bset none 2 0 2 (.s 10))⟩])
 (.seq (.ops [⟨(some 11), some undefA, none, false, .pu (.build [.int .i64 0, .int .i64 0] [(0, 1, (.c (.int .i64 4))), (1, 1, (.c (.int .i64 3)))])⟩,
   ⟨(some 12), some undefA, none, false, .pu (.build [.int .i64 0, .int .i64 0] [(0, 1, (.c (.int .i64 8))), (1, 1, (.c (.int .i64 5)))])⟩,
   ⟨(some 3), some (.junk), none, false, .pu (.bnew (.c (.agg [.int .i64 0, .int .i64 0])))⟩,
   ⟨(some 4), some (.junk), none, false, .pu (.bnew (.c (.agg [.int .i64 0, .int .i64 0])))⟩,
   ⟨(some 3), none, none, false, .pu (.bset none 3 0 2 (.s 11))⟩,
   ⟨(some 4), none, none, false, .pu (.bset none 4 0 2 (.s 12))⟩])
 (.seq (.ops [⟨(some 14), some undefA, none, false, .call 50 []⟩,
   ⟨(some 15), some undefA, none, false, .call 32 [(.s 14)]⟩,
   ⟨(some 13), some undefA, none, false, .pu (.mov (.s 15))⟩,
   ⟨(some 16), some undefA, none, false, .pu (.extr 0 (.s 13))⟩,
   ⟨(some 17), some undefA, none, false, .pu (.extr 1 (.s 13))⟩,
   ⟨(some 5), some undefA, none, false, .pu (.mov (.s 16))⟩,
   ⟨(some 6), some undefA, none, false, .pu (.mov (.s 17))⟩])
 (.seq (.ops [⟨(some 19), some undefA, none, false, .call 50 []⟩,
   ⟨(some 20), some undefA, none, false, .call 28 [(.s 19)]⟩,
   ⟨(some 18), some undefA, none, false, .pu (.mov (.s 20))⟩,
   ⟨(some 21), some undefA, none, false, .pu (.extr 0 (.s 18))⟩,
   ⟨(some 22), some undefA, none, false, .pu (.extr 1 (.s 18))⟩,
   ⟨(some 7), some undefA, none, false, .pu (.mov (.s 21))⟩,
   ⟨(some 8), some undefA, none, false, .pu (.mov (.s 22))⟩])
 (.seq (.ops [⟨(some 23), some undefA, none, false, .pu (.mov (.s 6))⟩,
   ⟨(some 24), some undefA, none, false, .pu (.bin .eql (.s 23) (.c (.int .i64 0)))⟩,
   ⟨(some 25), some undefA, none, false, .pu (.mov (.s 24))⟩,
   ⟨(some 26), some undefA, (some (25, true)), false, .pu (.mov (.s 5))⟩,
   ⟨(some 27), some undefA, (some (25, true)), false, .pu (.bget none 1 0 2 true)⟩,
   ⟨(some 28), some undefA, (some (25, true)), false, .pu (.bget none 3 0 2 true)⟩,
   ⟨(some 29), some undefA, (some (25, true)), false, .pu (.build [.int .i64 0, .int .i64 0, .int .i64 0, .int .i64 0, .int .i64 0] [(0, 1, (.c (.int .i64 1))), (1, 2, (.s 27)), (3, 2, (.s 28))])⟩,
   ⟨(some 30), some undefA, (some (25, true)), false, .pu (.bget none 3 0 2 true)⟩,
   ⟨(some 31), some undefA, (some (25, true)), false, .pu (.bget none 2 0 2 true)⟩,
   ⟨(some 32), some undefA, (some (25, true)), false, .pu (.build [.int .i64 0, .int .i64 0, .int .i64 0, .int .i64 0, .int .i64 0] [(0, 1, (.c (.int .i64 0))), (1, 2, (.s 30)), (3, 2, (.s 31))])⟩,
   ⟨(some 33), some undefA, (some (25, true)), false, .ha (.blds 5 2 [.int .i64 0, .int .i64 0, .int .i64 0, .int .i64 0, .int .i64 0] [(0, 5, (.s 29)), (5, 5, (.s 32))])⟩,
   ⟨(some 34), some undefA, (some (25, true)), false, .call 30 [(.s 26), (.s 33)]⟩,
   ⟨(some 35), some undefA, none, false, .pu (.pick (.s 25) (.s 34) (.c (.bool false)))⟩,
   ⟨(some 36), some undefA, none, false, .pu (.mov (.s 35))⟩,
   ⟨(some 37), some undefA, (some (36, true)), false, .pu (.mov (.s 8))⟩,
   ⟨(some 38), some undefA, (some (36, true)), false, .pu (.bin .eql (.s 37) (.c (.int .i64 0)))⟩,
   ⟨(some 39), some undefA, none, false, .pu (.pick (.s 36) (.s 38) (.c (.bool false)))⟩,
   ⟨(some 40), some undefA, none, false, .pu (.mov (.s 39))⟩,
   ⟨(some 41), some undefA, (some (40, true)), false, .pu (.mov (.s 7))⟩,
   ⟨(some 42), some undefA, (some (40, true)), false, .pu (.bget none 1 0 2 true)⟩,
   ⟨(some 43), some undefA, (some (40, true)), false, .pu (.bget none 4 0 2 true)⟩,
   ⟨(some 44), some undefA, (some (40, true)), false, .pu (.build [.int .i64 0, .int .i64 0, .int .i64 0, .int .i64 0, .int .i64 0] [(0, 1, (.c (.int .i64 0))), (1, 2, (.s 42)), (3, 2, (.s 43))])⟩,
   ⟨(some 45), some undefA, (some (40, true)), false, .pu (.bget none 4 0 2 true)⟩,
   ⟨(some 46), some undefA, (some (40, true)), false, .pu (.bget none 2 0 2 true)⟩,
   ⟨(some 47), some undefA, (some (40, true)), false, .pu (.build [.int .i64 0, .int .i64 0, .int .i64 0, .int .i64 0, .int .i64 0] [(0, 1, (.c (.int .i64 1))), (1, 2, (.s 45)), (3, 2, (.s 46))])⟩,
   ⟨(some 48), some undefA, (some (40, true)), false, .ha (.blds 5 2 [.int .i64 0, .int .i64 0, .int .i64 0, .int .i64 0, .int .i64 0] [(0, 5, (.s 44)), (5, 5, (.s 47))])⟩,
   ⟨(some 49), some undefA, (some (40, true)), false, .call 30 [(.s 41), (.s 48)]⟩,
   ⟨(some 50), some undefA, none, false, .pu (.pick (.s 40) (.s 49) (.c (.bool false)))⟩,
   ⟨(some 0), some undefA, none, false, .pu (.mov (.s 50))⟩])
 (.ret))))))⟩
theorem t14 : trF Try.prog [1, 2, 3, 4] [] Try.f14 = some m14 := by kernel_rfl
/-- selion/knife.Calls [] -/
def m15 : MFun := ⟨19, [2, 3], [.mov (.s 4), .mov (.s 5)],
 .seq (.ops [⟨(some 2), some (.junk), none, false, .pu (.bnew (.s 0))⟩,
   ⟨(some 3), some (.junk), none, false, .pu (.bnew (.s 1))⟩,
   ⟨(some 4), some undefA, none, false, .pu (.mov (.c (.nilS)))⟩,
   ⟨(some 5), some undefA, none, false, .pu (.mov (.c (.int .i64 0)))⟩])
 (.seq (.seq (.ops [⟨(some 7), some undefA, none, false, .pu (.bget none 2 0 2 true)⟩,
   ⟨(some 8), some undefA, none, false, .call 26 [(.s 7)]⟩,
   ⟨(some 6), some undefA, none, false, .pu (.mov (.s 8))⟩])
 (.seq (.ops [⟨(some 9), some undefA, none, false, .pu (.mov (.s 6))⟩,
   ⟨(some 10), some undefA, none, false, .pu (.bin .neq (.s 9) (.c (.int .i64 0)))⟩])
 (.cond (.s 10) (.seq (.ops [⟨(some 11), some undefA, none, false, .pu (.mov (.s 6))⟩,
    ⟨(some 4), some undefA, none, false, .pu (.mov (.c (.nilS)))⟩,
    ⟨(some 5), some undefA, none, false, .pu (.mov (.s 11))⟩])
  (.ret))
 (.skip))))
 (.seq (.seq (.ops [⟨(some 12), some undefA, none, false, .pu (.bget none 2 0 2 true)⟩,
   ⟨(some 13), some undefA, none, false, .pu (.bget none 3 0 2 true)⟩,
   ⟨(some 14), some undefA, none, false, .call 51 [(.s 12), (.s 13)]⟩,
   ⟨(some 15), some undefA, none, false, .pu (.not (.s 14))⟩])
 (.cond (.s 15) (.seq (.ops [⟨(some 4), some undefA, none, false, .pu (.mov (.c (.nilS)))⟩,
    ⟨(some 5), some undefA, none, false, .pu (.mov (.c (.int .i64 1)))⟩])
  (.ret))
 (.skip)))
 (.seq (.ops [⟨(some 16), some undefA, none, false, .pu (.bget none 2 0 2 true)⟩,
   ⟨(some 17), some undefA, none, false, .pu (.bget none 3 0 2 true)⟩,
   ⟨(some 18), some undefA, none, false, .call 52 [(.s 16), (.s 17)]⟩,
   ⟨(some 4), some undefA, none, false, .pu (.mov (.s 18))⟩,
   ⟨(some 5), some undefA, none, false, .pu (.mov (.c (.int .i64 0)))⟩])
 (.ret))))⟩
theorem t15 : trF Try.prog [2, 3] [] Try.f15 = some m15 := by kernel_rfl
/-- selion/selionref06.Calls [loop [2, 3, 7, 8]] -/
def m16 : MFun := ⟨33, [2, 3], [.mov (.s 4), .mov (.s 5)],
 .seq (.ops [⟨(some 2), some (.junk), none, false, .pu (.bnew (.s 0))⟩,
   ⟨(some 3), some (.junk), none, false, .pu (.bnew (.s 1))⟩,
   ⟨(some 4), some undefA, none, false, .pu (.mov (.c (.nilS)))⟩,
   ⟨(some 5), some undefA, none, false, .pu (.mov (.c (.int .i64 0)))⟩])
 (.seq (.ops [⟨(some 9), some undefA, none, false, .pu (.bget none 2 0 2 true)⟩,
   ⟨(some 10), some undefA, none, false, .call 27 [(.s 9)]⟩,
   ⟨(some 6), some undefA, none, false, .pu (.mov (.s 10))⟩])
 (.seq (.seq (.ops [⟨(some 11), some undefA, none, false, .pu (.mov (.s 6))⟩,
   ⟨(some 12), some undefA, none, false, .pu (.bin .neq (.s 11) (.c (.int .i64 0)))⟩])
 (.cond (.s 12) (.seq (.ops [⟨(some 13), some undefA, none, false, .pu (.mov (.s 6))⟩,
    ⟨(some 4), some undefA, none, false, .pu (.mov (.c (.nilS)))⟩,
    ⟨(some 5), some undefA, none, false, .pu (.mov (.s 13))⟩])
  (.ret))
 (.skip)))
 (.seq (.seq (.ops [⟨(some 14), some undefA, none, false, .pu (.bget none 2 0 2 true)⟩,
   ⟨(some 15), some undefA, none, false, .pu (.bget none 3 0 2 true)⟩,
   ⟨(some 16), some undefA, none, false, .call 53 [(.s 14), (.s 15)]⟩,
   ⟨(some 17), some undefA, none, false, .pu (.not (.s 16))⟩])
 (.cond (.s 17) (.seq (.ops [⟨(some 4), some undefA, none, false, .pu (.mov (.c (.nilS)))⟩,
    ⟨(some 5), some undefA, none, false, .pu (.mov (.c (.int .i64 1)))⟩])
  (.ret))
 (.skip)))
 (.seq (.ops [⟨(some 7), some undefA, none, false, .pu (.mov (.c (.nilS)))⟩])
 (.seq (.seq (.ops [⟨(some 8), some undefA, none, false, .pu (.mov (.c (.int .i64 0)))⟩])
 (.block 0 (.loop (.seq (.seq (.ops [⟨(some 18), some undefA, none, false, .pu (.mov (.s 8))⟩,
     ⟨(some 19), some undefA, none, false, .pu (.badr none 2)⟩,
     ⟨(some 20), some undefA, none, false, .pu (.bget (some 19) 2 1 1 false)⟩,
     ⟨(some 21), some undefA, none, false, .pu (.len (.s 20))⟩,
     ⟨(some 22), some undefA, none, false, .pu (.bin .lss (.s 18) (.s 21))⟩])
   (.cond (.s 22) (.skip)
   (.exit 0)))
   (.seq (.block 1 (.ops [⟨(some 25), some undefA, none, false, .pu (.mov (.s 7))⟩,
      ⟨(some 26), some undefA, none, false, .pu (.bget none 2 0 2 true)⟩,
      ⟨(some 27), some undefA, none, false, .pu (.mov (.s 8))⟩,
      ⟨(some 28), some undefA, none, false, .pu (.bget none 3 0 2 true)⟩,
      ⟨(some 29), some undefA, none, false, .call 54 [(.s 26), (.s 27), (.s 28)]⟩,
      ⟨(some 30), some undefA, none, false, .ha (.blds 2 1 [.int .i64 0, .int .i64 0] [(0, 2, (.s 29))])⟩,
      ⟨(some 31), some undefA, none, false, .ha (.app 2 (.s 25) (.s 30))⟩,
      ⟨(some 7), some undefA, none, false, .pu (.mov (.s 31))⟩]))
   (.ops [⟨(some 23), some undefA, none, false, .pu (.mov (.s 8))⟩,
     ⟨(some 24), some undefA, none, false, .pu (.bin .add (.s 23) (.c (.int .i64 1)))⟩,
     ⟨(some 8), some undefA, none, false, .pu (.mov (.s 24))⟩]))))))
 (.seq (.ops [⟨(some 32), some undefA, none, false, .pu (.mov (.s 7))⟩,
   ⟨(some 4), some undefA, none, false, .pu (.mov (.s 32))⟩,
   ⟨(some 5), some undefA, none, false, .pu (.mov (.c (.int .i64 0)))⟩])
 (.ret)))))))⟩
theorem t16 : trF Try.prog [2, 3] [] Try.f16 = some m16 := by kernel_rfl
/-- selion/selionref02.SameRats [loop [0, 1, 5]] -/
def m17 : MFun := ⟨26, [], [.mov (.s 4)],
 .seq (.ops [⟨(some 4), some undefA, none, false, .pu (.mov (.c (.bool false)))⟩])
 (.seq (.seq (.ops [⟨(some 6), some undefA, none, false, .pu (.mov (.s 0))⟩,
   ⟨(some 7), some undefA, none, false, .pu (.len (.s 6))⟩,
   ⟨(some 8), some undefA, none, false, .pu (.mov (.s 1))⟩,
   ⟨(some 9), some undefA, none, false, .pu (.len (.s 8))⟩,
   ⟨(some 10), some undefA, none, false, .pu (.bin .neq (.s 7) (.s 9))⟩])
 (.cond (.s 10) (.seq (.ops [⟨(some 4), some undefA, none, false, .pu (.mov (.c (.bool false)))⟩])
  (.ret))
 (.skip)))
 (.seq (.seq (.ops [⟨(some 5), some undefA, none, false, .pu (.mov (.c (.int .i64 0)))⟩])
 (.block 0 (.loop (.seq (.seq (.ops [⟨(some 11), some undefA, none, false, .pu (.mov (.s 5))⟩,
     ⟨(some 12), some undefA, none, false, .pu (.mov (.s 0))⟩,
     ⟨(some 13), some undefA, none, false, .pu (.len (.s 12))⟩,
     ⟨(some 14), some undefA, none, false, .pu (.bin .lss (.s 11) (.s 13))⟩])
   (.cond (.s 14) (.skip)
   (.exit 0)))
   (.seq (.block 1 (.seq (.ops [⟨(some 17), some undefA, none, true, .pu (.mov (.s 0))⟩,
      ⟨(some 18), some undefA, none, true, .pu (.mov (.s 5))⟩,
      ⟨(some 19), some undefA, none, true, .pu (.idx 2 (.s 17) (.s 18))⟩,
      ⟨(some 20), some undefA, none, true, .ld (.ld 2 true (.s 19))⟩,
      ⟨(some 21), some undefA, none, true, .pu (.mov (.s 1))⟩,
      ⟨(some 22), some undefA, none, true, .pu (.mov (.s 5))⟩,
      ⟨(some 23), some undefA, none, true, .pu (.idx 2 (.s 21) (.s 22))⟩,
      ⟨(some 24), some undefA, none, true, .ld (.ld 2 true (.s 23))⟩,
      ⟨(some 25), some undefA, none, false, .pu (.eqs true [true, true] (.s 20) (.s 24))⟩])
    (.cond (.s 25) (.seq (.ops [⟨(some 4), some undefA, none, false, .pu (.mov (.c (.bool false)))⟩])
     (.ret))
    (.skip))))
   (.ops [⟨(some 15), some undefA, none, false, .pu (.mov (.s 5))⟩,
     ⟨(some 16), some undefA, none, false, .pu (.bin .add (.s 15) (.c (.int .i64 1)))⟩,
     ⟨(some 5), some undefA, none, false, .pu (.mov (.s 16))⟩]))))))
 (.seq (.ops [⟨(some 4), some undefA, none, false, .pu (.mov (.c (.bool true)))⟩])
 (.ret))))⟩
theorem t17 : trF Try.prog [] [] Try.f17 = some m17 := by kernel_rfl
/-- selion/selionlaw06.fair [loop [0, 3]] -/
def m18 : MFun := ⟨40, [], [.mov (.s 2)],
 .seq (.ops [⟨(some 2), some undefA, none, false, .pu (.mov (.c (.bool false)))⟩])
 (.seq (.seq (.ops [⟨(some 3), some undefA, none, false, .pu (.mov (.c (.int .i64 0)))⟩])
 (.block 0 (.loop (.seq (.seq (.ops [⟨(some 4), some undefA, none, false, .pu (.mov (.s 3))⟩,
     ⟨(some 5), some undefA, none, false, .pu (.mov (.s 0))⟩,
     ⟨(some 6), some undefA, none, false, .pu (.len (.s 5))⟩,
     ⟨(some 7), some undefA, none, false, .pu (.bin .lss (.s 4) (.s 6))⟩])
   (.cond (.s 7) (.skip)
   (.exit 0)))
   (.seq (.block 1 (.seq (.ops [⟨(some 10), some undefA, none, false, .pu (.mov (.s 0))⟩,
      ⟨(some 11), some undefA, none, false, .pu (.mov (.s 3))⟩,
      ⟨(some 12), some undefA, none, false, .pu (.idx 2 (.s 10) (.s 11))⟩,
      ⟨(some 13), some undefA, none, false, .pu (.fad 1 (.s 12))⟩,
      ⟨(some 14), some undefA, none, false, .ld (.ld 1 false (.s 13))⟩,
      ⟨(some 15), some undefA, none, false, .pu (.bin .lss (.s 14) (.c (.int .i64 1)))⟩,
      ⟨(some 16), some undefA, none, false, .pu (.mov (.s 15))⟩,
      ⟨(some 17), some undefA, (some (16, false)), false, .pu (.mov (.s 0))⟩,
      ⟨(some 18), some undefA, (some (16, false)), false, .pu (.mov (.s 3))⟩,
      ⟨(some 19), some undefA, (some (16, false)), false, .pu (.idx 2 (.s 17) (.s 18))⟩,
      ⟨(some 20), some undefA, (some (16, false)), false, .pu (.fad 1 (.s 19))⟩,
      ⟨(some 21), some undefA, (some (16, false)), false, .ld (.ld 1 false (.s 20))⟩,
      ⟨(some 22), some undefA, (some (16, false)), false, .pu (.bin .gtr (.s 21) (.c (.int .i64 4294967296)))⟩,
      ⟨(some 23), some undefA, none, false, .pu (.pick (.s 16) (.c (.bool true)) (.s 22))⟩,
      ⟨(some 24), some undefA, none, false, .pu (.mov (.s 23))⟩,
      ⟨(some 25), some undefA, (some (24, false)), false, .pu (.mov (.s 0))⟩,
      ⟨(some 26), some undefA, (some (24, false)), false, .pu (.mov (.s 3))⟩,
      ⟨(some 27), some undefA, (some (24, false)), false, .pu (.idx 2 (.s 25) (.s 26))⟩,
      ⟨(some 28), some undefA, (some (24, false)), false, .pu (.fad 0 (.s 27))⟩,
      ⟨(some 29), some undefA, (some (24, false)), false, .ld (.ld 1 false (.s 28))⟩,
      ⟨(some 30), some undefA, (some (24, false)), false, .pu (.bin .gtr (.s 29) (.c (.int .i64 35184372088832)))⟩,
      ⟨(some 31), some undefA, none, false, .pu (.pick (.s 24) (.c (.bool true)) (.s 30))⟩,
      ⟨(some 32), some undefA, none, false, .pu (.mov (.s 31))⟩,
      ⟨(some 33), some undefA, (some (32, false)), false, .pu (.mov (.s 0))⟩,
      ⟨(some 34), some undefA, (some (32, false)), false, .pu (.mov (.s 3))⟩,
      ⟨(some 35), some undefA, (some (32, false)), false, .pu (.idx 2 (.s 33) (.s 34))⟩,
      ⟨(some 36), some undefA, (some (32, false)), false, .pu (.fad 0 (.s 35))⟩,
      ⟨(some 37), some undefA, (some (32, false)), false, .ld (.ld 1 false (.s 36))⟩,
      ⟨(some 38), some undefA, (some (32, false)), false, .pu (.bin .lss (.s 37) (.c (.int .i64 (-35184372088832))))⟩,
      ⟨(some 39), some undefA, none, false, .pu (.pick (.s 32) (.c (.bool true)) (.s 38))⟩])
    (.cond (.s 39) (.seq (.ops [⟨(some 2), some undefA, none, false, .pu (.mov (.c (.bool false)))⟩])
     (.ret))
    (.skip))))
   (.ops [⟨(some 8), some undefA, none, false, .pu (.mov (.s 3))⟩,
     ⟨(some 9), some undefA, none, false, .pu (.bin .add (.s 8) (.c (.int .i64 1)))⟩,
     ⟨(some 3), some undefA, none, false, .pu (.mov (.s 9))⟩]))))))
 (.seq (.ops [⟨(some 2), some undefA, none, false, .pu (.mov (.c (.bool true)))⟩])
 (.ret)))⟩
theorem t18 : trF Try.prog [] [] Try.f18 = some m18 := by kernel_rfl
/-- selion/selionref02.Less [] -/
def m19 : MFun := ⟨10, [2, 3], [.mov (.s 4)],
 .seq (.ops [⟨(some 2), some (.junk), none, false, .pu (.bnew (.s 0))⟩,
   ⟨(some 3), some (.junk), none, false, .pu (.bnew (.s 1))⟩,
   ⟨(some 4), some undefA, none, false, .pu (.mov (.c (.bool false)))⟩])
 (.seq (.ops [⟨(some 5), some undefA, none, false, .pu (.bget none 2 0 2 true)⟩,
   ⟨(some 6), some undefA, none, false, .pu (.bget none 3 0 2 true)⟩,
   ⟨(some 7), some undefA, none, false, .call 55 [(.s 5), (.s 6)]⟩,
   ⟨(some 8), some undefA, none, false, .pu (.part 0 1 false (.s 7))⟩,
   ⟨(some 9), some undefA, none, false, .pu (.bin .lss (.s 8) (.c (.int .i64 0)))⟩,
   ⟨(some 4), some undefA, none, false, .pu (.mov (.s 9))⟩])
 (.ret))⟩
theorem t19 : trF Try.prog [2, 3] [] Try.f19 = some m19 := by kernel_rfl
/-- selion/knife.Half [] -/
def m22 : MFun := ⟨17, [2, 4], [.bget none 4 0 2 true, .mov (.s 5)],
 .seq (.ops [⟨(some 2), some (.junk), none, false, .pu (.bnew (.s 0))⟩,
   ⟨(some 4), some (.junk), none, false, .pu (.bnew (.c (.agg [.int .i64 0, .int .i64 0])))⟩,
   ⟨(some 5), some undefA, none, false, .pu (.mov (.c (.int .i64 0)))⟩])
 (.seq (.seq (.ops [⟨(some 7), some undefA, none, false, .pu (.bget none 2 0 2 true)⟩,
   ⟨(some 8), some undefA, none, false, .pu (.mov (.s 1))⟩,
   ⟨(some 9), some undefA, none, false, .call 56 [(.s 7), (.s 8)]⟩,
   ⟨(some 6), some undefA, none, false, .pu (.mov (.s 9))⟩])
 (.seq (.ops [⟨(some 10), some undefA, none, false, .pu (.mov (.s 6))⟩,
   ⟨(some 11), some undefA, none, false, .pu (.bin .neq (.s 10) (.c (.int .i64 0)))⟩])
 (.cond (.s 11) (.seq (.ops [⟨(some 12), some undefA, none, false, .pu (.build [.int .i64 0, .int .i64 0] [])⟩,
    ⟨(some 13), some undefA, none, false, .pu (.mov (.s 6))⟩,
    ⟨(some 4), none, none, false, .pu (.bset none 4 0 2 (.s 12))⟩,
    ⟨(some 5), some undefA, none, false, .pu (.mov (.s 13))⟩])
  (.ret))
 (.skip))))
 (.seq (.ops [⟨(some 14), some undefA, none, false, .pu (.bget none 2 0 2 true)⟩,
   ⟨(some 15), some undefA, none, false, .pu (.mov (.s 1))⟩,
   ⟨(some 16), some undefA, none, false, .call 64 [(.s 14), (.s 15)]⟩,
   ⟨(some 4), none, none, false, .pu (.bset none 4 0 2 (.s 16))⟩,
   ⟨(some 5), some undefA, none, false, .pu (.mov (.c (.int .i64 0)))⟩])
 (.ret)))⟩
theorem t22 : trF Try.prog [2, 4] [] Try.f22 = some m22 := by kernel_rfl
/-- selion/knife.Worth [] -/
def m24 : MFun := ⟨40, [4, 6, 7, 8], [.bget none 8 0 2 true, .mov (.s 9)],
 .seq (.ops [⟨(some 4), some (.junk), none, false, .pu (.bnew (.s 0))⟩,
   ⟨(some 6), some (.junk), none, false, .pu (.bnew (.s 2))⟩,
   ⟨(some 7), some (.junk), none, false, .pu (.bnew (.s 3))⟩,
   ⟨(some 8), some (.junk), none, false, .pu (.bnew (.c (.agg [.int .i64 0, .int .i64 0])))⟩,
   ⟨(some 9), some undefA, none, false, .pu (.mov (.c (.int .i64 0)))⟩])
 (.seq (.seq (.ops [⟨(some 11), some undefA, none, false, .pu (.bget none 4 0 2 true)⟩,
   ⟨(some 12), some undefA, none, false, .pu (.mov (.s 1))⟩,
   ⟨(some 13), some undefA, none, false, .call 56 [(.s 11), (.s 12)]⟩,
   ⟨(some 10), some undefA, none, false, .pu (.mov (.s 13))⟩])
 (.seq (.ops [⟨(some 14), some undefA, none, false, .pu (.mov (.s 10))⟩,
   ⟨(some 15), some undefA, none, false, .pu (.bin .neq (.s 14) (.c (.int .i64 0)))⟩])
 (.cond (.s 15) (.seq (.ops [⟨(some 16), some undefA, none, false, .pu (.build [.int .i64 0, .int .i64 0] [])⟩,
    ⟨(some 17), some undefA, none, false, .pu (.mov (.s 10))⟩,
    ⟨(some 8), none, none, false, .pu (.bset none 8 0 2 (.s 16))⟩,
    ⟨(some 9), some undefA, none, false, .pu (.mov (.s 17))⟩])
  (.ret))
 (.skip))))
 (.seq (.seq (.ops [⟨(some 18), some undefA, none, false, .pu (.bget none 4 0 2 true)⟩,
   ⟨(some 19), some undefA, none, false, .pu (.bget none 6 0 2 true)⟩,
   ⟨(some 20), some undefA, none, false, .call 51 [(.s 18), (.s 19)]⟩,
   ⟨(some 21), some undefA, none, false, .pu (.not (.s 20))⟩,
   ⟨(some 22), some undefA, none, false, .pu (.mov (.s 21))⟩,
   ⟨(some 23), some undefA, (some (22, false)), false, .pu (.bget none 4 0 2 true)⟩,
   ⟨(some 24), some undefA, (some (22, false)), false, .pu (.bget none 7 0 2 true)⟩,
   ⟨(some 25), some undefA, (some (22, false)), false, .call 51 [(.s 23), (.s 24)]⟩,
   ⟨(some 26), some undefA, (some (22, false)), false, .pu (.not (.s 25))⟩,
   ⟨(some 27), some undefA, none, false, .pu (.pick (.s 22) (.c (.bool true)) (.s 26))⟩,
   ⟨(some 28), some undefA, none, false, .pu (.mov (.s 27))⟩,
   ⟨(some 29), some undefA, (some (28, false)), false, .pu (.bget none 6 0 2 true)⟩,
   ⟨(some 30), some undefA, (some (28, false)), false, .pu (.bget none 7 0 2 true)⟩,
   ⟨(some 31), some undefA, (some (28, false)), false, .call 65 [(.s 29), (.s 30)]⟩,
   ⟨(some 32), some undefA, (some (28, false)), false, .pu (.bin .gtr (.s 31) (.c (.int .i64 0)))⟩,
   ⟨(some 33), some undefA, none, false, .pu (.pick (.s 28) (.c (.bool true)) (.s 32))⟩])
 (.cond (.s 33) (.seq (.ops [⟨(some 34), some undefA, none, false, .pu (.build [.int .i64 0, .int .i64 0] [])⟩,
    ⟨(some 8), none, none, false, .pu (.bset none 8 0 2 (.s 34))⟩,
    ⟨(some 9), some undefA, none, false, .pu (.mov (.c (.int .i64 1)))⟩])
  (.ret))
 (.skip)))
 (.seq (.ops [⟨(some 35), some undefA, none, false, .pu (.bget none 4 0 2 true)⟩,
   ⟨(some 36), some undefA, none, false, .pu (.mov (.s 1))⟩,
   ⟨(some 37), some undefA, none, false, .pu (.bget none 6 0 2 true)⟩,
   ⟨(some 38), some undefA, none, false, .pu (.bget none 7 0 2 true)⟩,
   ⟨(some 39), some undefA, none, false, .call 66 [(.s 35), (.s 36), (.s 37), (.s 38)]⟩,
   ⟨(some 8), none, none, false, .pu (.bset none 8 0 2 (.s 39))⟩,
   ⟨(some 9), some undefA, none, false, .pu (.mov (.c (.int .i64 0)))⟩])
 (.ret))))⟩
theorem t24 : trF Try.prog [4, 6, 7, 8] [] Try.f24 = some m24 := by kernel_rfl
/-- selion/knife.Validate [loop [1, 21, 22, 23]] -/
def m26 : MFun := ⟨43, [1], [.mov (.s 2)],
 .seq (.ops [⟨(some 1), some (.junk), none, false, .pu (.bnew (.s 0))⟩,
   ⟨(some 2), some undefA, none, false, .pu (.mov (.c (.int .i64 0)))⟩])
 (.seq (.seq (.ops [⟨(some 5), some undefA, none, false, .pu (.badr none 1)⟩,
   ⟨(some 6), some undefA, none, false, .pu (.bget (some 5) 1 0 1 false)⟩,
   ⟨(some 7), some undefA, none, false, .pu (.len (.s 6))⟩,
   ⟨(some 8), some undefA, none, false, .call 57 [(.s 7), (.c (.int .i64 1)), (.c (.int .i64 6))]⟩,
   ⟨(some 9), some undefA, none, false, .pu (.not (.s 8))⟩,
   ⟨(some 10), some undefA, none, false, .pu (.mov (.s 9))⟩,
   ⟨(some 11), some undefA, (some (10, false)), false, .pu (.badr none 1)⟩,
   ⟨(some 12), some undefA, (some (10, false)), false, .pu (.bget (some 11) 1 1 1 false)⟩,
   ⟨(some 13), some undefA, (some (10, false)), false, .pu (.len (.s 12))⟩,
   ⟨(some 14), some undefA, (some (10, false)), false, .call 57 [(.s 13), (.c (.int .i64 1)), (.c (.int .i64 5))]⟩,
   ⟨(some 15), some undefA, (some (10, false)), false, .pu (.not (.s 14))⟩,
   ⟨(some 16), some undefA, none, false, .pu (.pick (.s 10) (.c (.bool true)) (.s 15))⟩])
 (.cond (.s 16) (.seq (.ops [⟨(some 2), some undefA, none, false, .pu (.mov (.c (.int .i64 3)))⟩])
  (.ret))
 (.skip)))
 (.seq (.seq (.ops [⟨(some 17), some undefA, none, false, .pu (.badr none 1)⟩,
   ⟨(some 18), some undefA, none, false, .pu (.bget (some 17) 1 0 1 false)⟩,
   ⟨(some 19), some undefA, none, false, .call 69 [(.s 18), (.c (.fn 70 []))]⟩])
 (.cond (.s 19) (.seq (.ops [⟨(some 2), some undefA, none, false, .pu (.mov (.c (.int .i64 1)))⟩])
  (.ret))
 (.skip)))
 (.seq (.seq (.ops [⟨(some 20), some undefA, none, false, .pu (.badr none 1)⟩,
   ⟨(some 21), some undefA, none, false, .pu (.bget (some 20) 1 1 1 false)⟩,
   ⟨(some 22), some undefA, none, false, .pu (.len (.s 21))⟩,
   ⟨(some 23), some undefA, none, false, .pu (.mov (.c (.int .i64 0)))⟩])
 (.block 0 (.loop (.seq (.ops [⟨(some 24), some undefA, none, false, .pu (.bin .lss (.s 23) (.s 22))⟩])
   (.seq (.cond (.s 24) (.skip)
   (.exit 0))
   (.seq (.block 1 (.seq (.ops [⟨(some 25), some undefA, none, false, .pu (.idx 1 (.s 21) (.s 23))⟩,
      ⟨(some 26), some undefA, none, false, .ld (.ld 1 false (.s 25))⟩,
      ⟨(some 4), some undefA, none, false, .pu (.mov (.s 26))⟩])
    (.seq (.ops [⟨(some 27), some undefA, none, false, .pu (.mov (.s 4))⟩,
      ⟨(some 28), some undefA, none, false, .pu (.len (.s 27))⟩,
      ⟨(some 29), some undefA, none, false, .pu (.badr none 1)⟩,
      ⟨(some 30), some undefA, none, false, .pu (.bget (some 29) 1 0 1 false)⟩,
      ⟨(some 31), some undefA, none, false, .pu (.len (.s 30))⟩,
      ⟨(some 32), some undefA, none, false, .pu (.bin .neq (.s 28) (.s 31))⟩,
      ⟨(some 33), some undefA, none, false, .pu (.mov (.s 32))⟩,
      ⟨(some 34), some undefA, (some (33, false)), false, .pu (.mov (.s 4))⟩,
      ⟨(some 35), some undefA, (some (33, false)), false, .call 69 [(.s 34), (.c (.fn 71 []))]⟩,
      ⟨(some 36), some undefA, none, false, .pu (.pick (.s 33) (.c (.bool true)) (.s 35))⟩,
      ⟨(some 37), some undefA, none, false, .pu (.mov (.s 36))⟩,
      ⟨(some 38), some undefA, (some (37, false)), false, .pu (.mov (.s 4))⟩,
      ⟨(some 39), some undefA, (some (37, false)), false, .call 72 [(.s 38)]⟩,
      ⟨(some 40), some undefA, (some (37, false)), false, .pu (.bin .eql (.s 39) (.c (.int .i64 0)))⟩,
      ⟨(some 41), some undefA, none, false, .pu (.pick (.s 37) (.c (.bool true)) (.s 40))⟩])
    (.cond (.s 41) (.seq (.ops [⟨(some 2), some undefA, none, false, .pu (.mov (.c (.int .i64 1)))⟩])
     (.ret))
    (.skip)))))
   (.ops [⟨(some 42), some undefA, none, false, .pu (.bin .add (.s 23) (.c (.int .i64 1)))⟩,
     ⟨(some 23), some undefA, none, false, .pu (.mov (.s 42))⟩])))))))
 (.seq (.ops [⟨(some 2), some undefA, none, false, .pu (.mov (.c (.int .i64 0)))⟩])
 (.ret)))))⟩
theorem t26 : trF Try.prog [1] [] Try.f26 = some m26 := by kernel_rfl
/-- selion/selionref06.Validate [loop [1, 3], loop [1, 4], loop [1, 4, 5, 6]] -/
def m27 : MFun := ⟨79, [1], [.mov (.s 2)],
 .seq (.ops [⟨(some 1), some (.junk), none, false, .pu (.bnew (.s 0))⟩,
   ⟨(some 2), some undefA, none, false, .pu (.mov (.c (.int .i64 0)))⟩])
 (.seq (.seq (.ops [⟨(some 7), some undefA, none, false, .pu (.badr none 1)⟩,
   ⟨(some 8), some undefA, none, false, .pu (.bget (some 7) 1 0 1 false)⟩,
   ⟨(some 9), some undefA, none, false, .pu (.len (.s 8))⟩,
   ⟨(some 10), some undefA, none, false, .call 62 [(.s 9), (.c (.int .i64 1)), (.c (.int .i64 6))]⟩,
   ⟨(some 11), some undefA, none, false, .pu (.not (.s 10))⟩,
   ⟨(some 12), some undefA, none, false, .pu (.mov (.s 11))⟩,
   ⟨(some 13), some undefA, (some (12, false)), false, .pu (.badr none 1)⟩,
   ⟨(some 14), some undefA, (some (12, false)), false, .pu (.bget (some 13) 1 1 1 false)⟩,
   ⟨(some 15), some undefA, (some (12, false)), false, .pu (.len (.s 14))⟩,
   ⟨(some 16), some undefA, (some (12, false)), false, .call 62 [(.s 15), (.c (.int .i64 1)), (.c (.int .i64 5))]⟩,
   ⟨(some 17), some undefA, (some (12, false)), false, .pu (.not (.s 16))⟩,
   ⟨(some 18), some undefA, none, false, .pu (.pick (.s 12) (.c (.bool true)) (.s 17))⟩])
 (.cond (.s 18) (.seq (.ops [⟨(some 2), some undefA, none, false, .pu (.mov (.c (.int .i64 3)))⟩])
  (.ret))
 (.skip)))
 (.seq (.seq (.ops [⟨(some 3), some undefA, none, false, .pu (.mov (.c (.int .i64 0)))⟩])
 (.block 0 (.loop (.seq (.seq (.ops [⟨(some 19), some undefA, none, false, .pu (.mov (.s 3))⟩,
     ⟨(some 20), some undefA, none, false, .pu (.badr none 1)⟩,
     ⟨(some 21), some undefA, none, false, .pu (.bget (some 20) 1 0 1 false)⟩,
     ⟨(some 22), some undefA, none, false, .pu (.len (.s 21))⟩,
     ⟨(some 23), some undefA, none, false, .pu (.bin .lss (.s 19) (.s 22))⟩])
   (.cond (.s 23) (.skip)
   (.exit 0)))
   (.seq (.block 1 (.seq (.ops [⟨(some 26), some undefA, none, false, .pu (.badr none 1)⟩,
      ⟨(some 27), some undefA, none, false, .pu (.bget (some 26) 1 0 1 false)⟩,
      ⟨(some 28), some undefA, none, false, .pu (.mov (.s 3))⟩,
      ⟨(some 29), some undefA, none, false, .pu (.idx 1 (.s 27) (.s 28))⟩,
      ⟨(some 30), some undefA, none, false, .ld (.ld 1 false (.s 29))⟩,
      ⟨(some 31), some undefA, none, false, .call 62 [(.s 30), (.c (.int .i64 1)), (.c (.int .i64 20))]⟩,
      ⟨(some 32), some undefA, none, false, .pu (.not (.s 31))⟩])
    (.cond (.s 32) (.seq (.ops [⟨(some 2), some undefA, none, false, .pu (.mov (.c (.int .i64 1)))⟩])
     (.ret))
    (.skip))))
   (.ops [⟨(some 24), some undefA, none, false, .pu (.mov (.s 3))⟩,
     ⟨(some 25), some undefA, none, false, .pu (.bin .add (.s 24) (.c (.int .i64 1)))⟩,
     ⟨(some 3), some undefA, none, false, .pu (.mov (.s 25))⟩]))))))
 (.seq (.seq (.ops [⟨(some 4), some undefA, none, false, .pu (.mov (.c (.int .i64 0)))⟩])
 (.block 2 (.loop (.seq (.seq (.ops [⟨(some 33), some undefA, none, false, .pu (.mov (.s 4))⟩,
     ⟨(some 34), some undefA, none, false, .pu (.badr none 1)⟩,
     ⟨(some 35), some undefA, none, false, .pu (.bget (some 34) 1 1 1 false)⟩,
     ⟨(some 36), some undefA, none, false, .pu (.len (.s 35))⟩,
     ⟨(some 37), some undefA, none, false, .pu (.bin .lss (.s 33) (.s 36))⟩])
   (.cond (.s 37) (.skip)
   (.exit 2)))
   (.seq (.block 3 (.seq (.seq (.ops [⟨(some 40), some undefA, none, false, .pu (.badr none 1)⟩,
      ⟨(some 41), some undefA, none, false, .pu (.bget (some 40) 1 1 1 false)⟩,
      ⟨(some 42), some undefA, none, false, .pu (.mov (.s 4))⟩,
      ⟨(some 43), some undefA, none, false, .pu (.idx 1 (.s 41) (.s 42))⟩,
      ⟨(some 44), some undefA, none, true, .ld (.ld 1 false (.s 43))⟩,
      ⟨(some 45), some undefA, none, false, .pu (.len (.s 44))⟩,
      ⟨(some 46), some undefA, none, true, .pu (.badr none 1)⟩,
      ⟨(some 47), some undefA, none, true, .pu (.bget (some 46) 1 0 1 false)⟩,
      ⟨(some 48), some undefA, none, true, .pu (.len (.s 47))⟩,
      ⟨(some 49), some undefA, none, false, .pu (.bin .neq (.s 45) (.s 48))⟩])
    (.cond (.s 49) (.seq (.ops [⟨(some 2), some undefA, none, false, .pu (.mov (.c (.int .i64 1)))⟩])
     (.ret))
    (.skip)))
    (.seq (.ops [⟨(some 5), some undefA, none, false, .pu (.mov (.c (.int .i64 0)))⟩])
    (.seq (.seq (.ops [⟨(some 6), some undefA, none, false, .pu (.mov (.c (.int .i64 0)))⟩])
    (.block 4 (.loop (.seq (.seq (.ops [⟨(some 50), some undefA, none, false, .pu (.mov (.s 6))⟩,
        ⟨(some 51), some undefA, none, false, .pu (.badr none 1)⟩,
        ⟨(some 52), some undefA, none, false, .pu (.bget (some 51) 1 0 1 false)⟩,
        ⟨(some 53), some undefA, none, false, .pu (.len (.s 52))⟩,
        ⟨(some 54), some undefA, none, false, .pu (.bin .lss (.s 50) (.s 53))⟩])
      (.cond (.s 54) (.skip)
      (.exit 4)))
      (.seq (.block 5 (.seq (.seq (.ops [⟨(some 57), some undefA, none, false, .pu (.badr none 1)⟩,
         ⟨(some 58), some undefA, none, false, .pu (.bget (some 57) 1 1 1 false)⟩,
         ⟨(some 59), some undefA, none, false, .pu (.mov (.s 4))⟩,
         ⟨(some 60), some undefA, none, false, .pu (.idx 1 (.s 58) (.s 59))⟩,
         ⟨(some 61), some undefA, none, false, .ld (.ld 1 false (.s 60))⟩,
         ⟨(some 62), some undefA, none, false, .pu (.mov (.s 6))⟩,
         ⟨(some 63), some undefA, none, false, .pu (.idx 1 (.s 61) (.s 62))⟩,
         ⟨(some 64), some undefA, none, false, .ld (.ld 1 false (.s 63))⟩,
         ⟨(some 65), some undefA, none, false, .call 62 [(.s 64), (.c (.int .i64 0)), (.c (.int .i64 20))]⟩,
         ⟨(some 66), some undefA, none, false, .pu (.not (.s 65))⟩])
       (.cond (.s 66) (.seq (.ops [⟨(some 2), some undefA, none, false, .pu (.mov (.c (.int .i64 1)))⟩])
        (.ret))
       (.skip)))
       (.ops [⟨(some 67), some undefA, none, false, .pu (.mov (.s 5))⟩,
         ⟨(some 68), some undefA, none, false, .pu (.badr none 1)⟩,
         ⟨(some 69), some undefA, none, false, .pu (.bget (some 68) 1 1 1 false)⟩,
         ⟨(some 70), some undefA, none, false, .pu (.mov (.s 4))⟩,
         ⟨(some 71), some undefA, none, false, .pu (.idx 1 (.s 69) (.s 70))⟩,
         ⟨(some 72), some undefA, none, false, .ld (.ld 1 false (.s 71))⟩,
         ⟨(some 73), some undefA, none, false, .pu (.mov (.s 6))⟩,
         ⟨(some 74), some undefA, none, false, .pu (.idx 1 (.s 72) (.s 73))⟩,
         ⟨(some 75), some undefA, none, false, .ld (.ld 1 false (.s 74))⟩,
         ⟨(some 76), some undefA, none, false, .pu (.bin .add (.s 67) (.s 75))⟩,
         ⟨(some 5), some undefA, none, false, .pu (.mov (.s 76))⟩])))
      (.ops [⟨(some 55), some undefA, none, false, .pu (.mov (.s 6))⟩,
        ⟨(some 56), some undefA, none, false, .pu (.bin .add (.s 55) (.c (.int .i64 1)))⟩,
        ⟨(some 6), some undefA, none, false, .pu (.mov (.s 56))⟩]))))))
    (.seq (.ops [⟨(some 77), some undefA, none, false, .pu (.mov (.s 5))⟩,
      ⟨(some 78), some undefA, none, false, .pu (.bin .eql (.s 77) (.c (.int .i64 0)))⟩])
    (.cond (.s 78) (.seq (.ops [⟨(some 2), some undefA, none, false, .pu (.mov (.c (.int .i64 1)))⟩])
     (.ret))
    (.skip)))))))
   (.ops [⟨(some 38), some undefA, none, false, .pu (.mov (.s 4))⟩,
     ⟨(some 39), some undefA, none, false, .pu (.bin .add (.s 38) (.c (.int .i64 1)))⟩,
     ⟨(some 4), some undefA, none, false, .pu (.mov (.s 39))⟩]))))))
 (.seq (.ops [⟨(some 2), some undefA, none, false, .pu (.mov (.c (.int .i64 0)))⟩])
 (.ret)))))⟩
theorem t27 : trF Try.prog [1] [] Try.f27 = some m27 := by kernel_rfl
/-- selion/knife.Even [loop [1, 5, 6, 7, 8, 9, 26, 27, 28]] -/
def m28 : MFun := ⟨102, [1, 14], [.mov (.s 2), .mov (.s 3)],
 .seq (.ops [⟨(some 1), some (.junk), none, false, .pu (.bnew (.s 0))⟩,
   ⟨(some 2), some undefA, none, false, .pu (.mov (.c (.nilS)))⟩,
   ⟨(some 3), some undefA, none, false, .pu (.mov (.c (.int .i64 0)))⟩])
 (.seq (.seq (.ops [⟨(some 15), some undefA, none, false, .pu (.bget none 1 0 2 true)⟩,
   ⟨(some 16), some undefA, none, false, .call 73 [(.s 15)]⟩,
   ⟨(some 4), some undefA, none, false, .pu (.mov (.s 16))⟩])
 (.seq (.ops [⟨(some 17), some undefA, none, false, .pu (.mov (.s 4))⟩,
   ⟨(some 18), some undefA, none, false, .pu (.bin .neq (.s 17) (.c (.int .i64 0)))⟩])
 (.cond (.s 18) (.seq (.ops [⟨(some 19), some undefA, none, false, .pu (.mov (.s 4))⟩,
    ⟨(some 2), some undefA, none, false, .pu (.mov (.c (.nilS)))⟩,
    ⟨(some 3), some undefA, none, false, .pu (.mov (.s 19))⟩])
  (.ret))
 (.skip))))
 (.seq (.ops [⟨(some 20), some undefA, none, false, .pu (.bget none 1 0 2 true)⟩,
   ⟨(some 21), some undefA, none, false, .call 60 [(.s 20), (.c (.int .i64 0))]⟩,
   ⟨(some 22), some undefA, none, false, .pu (.bget none 1 0 2 true)⟩,
   ⟨(some 23), some undefA, none, false, .call 60 [(.s 22), (.c (.int .i64 1))]⟩,
   ⟨(some 5), some undefA, none, false, .pu (.mov (.s 21))⟩,
   ⟨(some 6), some undefA, none, false, .pu (.mov (.s 23))⟩])
 (.seq (.ops [⟨(some 24), some undefA, none, false, .pu (.mov (.s 6))⟩,
   ⟨(some 7), some undefA, none, false, .pu (.mov (.c (.int .i64 0)))⟩,
   ⟨(some 8), some undefA, none, false, .pu (.mov (.s 24))⟩])
 (.seq (.ops [⟨(some 9), some undefA, none, false, .pu (.mov (.c (.int .i64 0)))⟩])
 (.seq (.seq (.ops [⟨(some 25), some undefA, none, false, .pu (.badr none 1)⟩,
   ⟨(some 26), some undefA, none, false, .pu (.bget (some 25) 1 0 1 false)⟩,
   ⟨(some 27), some undefA, none, false, .pu (.len (.s 26))⟩,
   ⟨(some 28), some undefA, none, false, .pu (.mov (.c (.int .i64 0)))⟩])
 (.block 0 (.loop (.seq (.ops [⟨(some 29), some undefA, none, false, .pu (.bin .lss (.s 28) (.s 27))⟩])
   (.seq (.cond (.s 29) (.skip)
   (.exit 0))
   (.seq (.block 1 (.seq (.ops [⟨(some 30), some undefA, none, false, .pu (.mov (.s 28))⟩,
      ⟨(some 31), some undefA, none, false, .pu (.idx 1 (.s 26) (.s 28))⟩,
      ⟨(some 32), some undefA, none, false, .ld (.ld 1 false (.s 31))⟩,
      ⟨(some 10), some undefA, none, false, .pu (.mov (.s 30))⟩,
      ⟨(some 11), some undefA, none, false, .pu (.mov (.s 32))⟩])
    (.seq (.ops [⟨(some 33), some undefA, none, true, .pu (.badr none 1)⟩,
      ⟨(some 34), some undefA, none, true, .pu (.bget (some 33) 1 1 1 false)⟩,
      ⟨(some 35), some undefA, none, true, .pu (.idx 1 (.s 34) (.c (.int .i64 0)))⟩,
      ⟨(some 36), some undefA, none, true, .ld (.ld 1 false (.s 35))⟩,
      ⟨(some 37), some undefA, none, true, .pu (.mov (.s 10))⟩,
      ⟨(some 38), some undefA, none, true, .pu (.idx 1 (.s 36) (.s 37))⟩,
      ⟨(some 39), some undefA, none, true, .ld (.ld 1 false (.s 38))⟩,
      ⟨(some 40), some undefA, none, true, .pu (.badr none 1)⟩,
      ⟨(some 41), some undefA, none, true, .pu (.bget (some 40) 1 1 1 false)⟩,
      ⟨(some 42), some undefA, none, true, .pu (.idx 1 (.s 41) (.c (.int .i64 1)))⟩,
      ⟨(some 43), some undefA, none, true, .ld (.ld 1 false (.s 42))⟩,
      ⟨(some 44), some undefA, none, true, .pu (.mov (.s 10))⟩,
      ⟨(some 45), some undefA, none, true, .pu (.idx 1 (.s 43) (.s 44))⟩,
      ⟨(some 46), some undefA, none, true, .ld (.ld 1 false (.s 45))⟩,
      ⟨(some 12), some undefA, none, true, .pu (.mov (.s 39))⟩,
      ⟨(some 13), some undefA, none, false, .pu (.mov (.s 46))⟩])
    (.seq (.seq (.ops [⟨(some 47), some undefA, none, false, .pu (.mov (.s 7))⟩,
      ⟨(some 48), some undefA, none, false, .pu (.mov (.s 12))⟩,
      ⟨(some 49), some undefA, none, false, .pu (.mov (.s 11))⟩,
      ⟨(some 50), some undefA, none, false, .pu (.bin .mul (.s 48) (.s 49))⟩,
      ⟨(some 51), some undefA, none, false, .pu (.bin .add (.s 47) (.s 50))⟩,
      ⟨(some 52), some undefA, none, false, .pu (.mov (.s 6))⟩,
      ⟨(some 53), some undefA, none, false, .pu (.bin .mul (.s 51) (.s 52))⟩,
      ⟨(some 54), some undefA, none, false, .pu (.mov (.s 8))⟩,
      ⟨(some 55), some undefA, none, false, .pu (.mov (.s 13))⟩,
      ⟨(some 56), some undefA, none, false, .pu (.mov (.s 11))⟩,
      ⟨(some 57), some undefA, none, false, .pu (.bin .mul (.s 55) (.s 56))⟩,
      ⟨(some 58), some undefA, none, false, .pu (.bin .sub (.s 54) (.s 57))⟩,
      ⟨(some 59), some undefA, none, false, .pu (.mov (.s 5))⟩,
      ⟨(some 60), some undefA, none, false, .pu (.bin .mul (.s 58) (.s 59))⟩,
      ⟨(some 61), some undefA, none, false, .pu (.bin .geq (.s 53) (.s 60))⟩])
    (.cond (.s 61) (.seq (.ops [⟨(some 62), some undefA, none, false, .pu (.mov (.s 8))⟩,
       ⟨(some 63), some undefA, none, false, .pu (.mov (.s 5))⟩,
       ⟨(some 64), some undefA, none, false, .pu (.bin .mul (.s 62) (.s 63))⟩,
       ⟨(some 65), some undefA, none, false, .pu (.mov (.s 7))⟩,
       ⟨(some 66), some undefA, none, false, .pu (.mov (.s 6))⟩,
       ⟨(some 67), some undefA, none, false, .pu (.bin .mul (.s 65) (.s 66))⟩,
       ⟨(some 68), some undefA, none, false, .pu (.bin .sub (.s 64) (.s 67))⟩,
       ⟨(some 69), some undefA, none, false, .pu (.mov (.s 12))⟩,
       ⟨(some 70), some undefA, none, false, .pu (.mov (.s 6))⟩,
       ⟨(some 71), some undefA, none, false, .pu (.bin .mul (.s 69) (.s 70))⟩,
       ⟨(some 72), some undefA, none, false, .pu (.mov (.s 13))⟩,
       ⟨(some 73), some undefA, none, false, .pu (.mov (.s 5))⟩,
       ⟨(some 74), some undefA, none, false, .pu (.bin .mul (.s 72) (.s 73))⟩,
       ⟨(some 75), some undefA, none, false, .pu (.bin .add (.s 71) (.s 74))⟩,
       ⟨(some 76), some undefA, none, false, .call 59 [(.s 68), (.s 75)]⟩,
       ⟨(some 14), some (.junk), none, false, .pu (.bnew (.c (.agg [.int .i64 0, .int .i64 0])))⟩,
       ⟨(some 14), none, none, false, .pu (.bset none 14 0 2 (.s 76))⟩])
     (.seq (.ops [⟨(some 77), some undefA, none, false, .pu (.bget none 1 0 2 true)⟩,
       ⟨(some 78), some undefA, none, false, .pu (.mov (.s 9))⟩,
       ⟨(some 79), some undefA, none, false, .call 76 [(.s 78)]⟩,
       ⟨(some 80), some undefA, none, false, .pu (.bget none 14 0 2 true)⟩,
       ⟨(some 81), some undefA, none, false, .call 75 [(.s 79), (.s 80)]⟩,
       ⟨(some 82), some undefA, none, false, .call 74 [(.s 77), (.s 81), (.c (.int .i64 0))]⟩,
       ⟨(some 2), some undefA, none, false, .pu (.mov (.s 82))⟩,
       ⟨(some 3), some undefA, none, false, .pu (.mov (.c (.int .i64 0)))⟩])
     (.ret)))
    (.skip)))
    (.seq (.ops [⟨(some 83), some undefA, none, false, .pu (.mov (.s 7))⟩,
      ⟨(some 84), some undefA, none, false, .pu (.mov (.s 12))⟩,
      ⟨(some 85), some undefA, none, false, .pu (.mov (.s 11))⟩,
      ⟨(some 86), some undefA, none, false, .pu (.bin .mul (.s 84) (.s 85))⟩,
      ⟨(some 87), some undefA, none, false, .pu (.bin .add (.s 83) (.s 86))⟩,
      ⟨(some 7), some undefA, none, false, .pu (.mov (.s 87))⟩])
    (.seq (.ops [⟨(some 88), some undefA, none, false, .pu (.mov (.s 8))⟩,
      ⟨(some 89), some undefA, none, false, .pu (.mov (.s 13))⟩,
      ⟨(some 90), some undefA, none, false, .pu (.mov (.s 11))⟩,
      ⟨(some 91), some undefA, none, false, .pu (.bin .mul (.s 89) (.s 90))⟩,
      ⟨(some 92), some undefA, none, false, .pu (.bin .sub (.s 88) (.s 91))⟩,
      ⟨(some 8), some undefA, none, false, .pu (.mov (.s 92))⟩])
    (.ops [⟨(some 93), some undefA, none, false, .pu (.mov (.s 9))⟩,
      ⟨(some 94), some undefA, none, false, .pu (.mov (.s 11))⟩,
      ⟨(some 95), some undefA, none, false, .pu (.bin .add (.s 93) (.s 94))⟩,
      ⟨(some 9), some undefA, none, false, .pu (.mov (.s 95))⟩])))))))
   (.ops [⟨(some 96), some undefA, none, false, .pu (.bin .add (.s 28) (.c (.int .i64 1)))⟩,
     ⟨(some 28), some undefA, none, false, .pu (.mov (.s 96))⟩])))))))
 (.seq (.ops [⟨(some 97), some undefA, none, false, .pu (.bget none 1 0 2 true)⟩,
   ⟨(some 98), some undefA, none, false, .pu (.bget none 1 0 2 true)⟩,
   ⟨(some 99), some undefA, none, false, .call 77 [(.s 98)]⟩,
   ⟨(some 100), some undefA, none, false, .call 76 [(.s 99)]⟩,
   ⟨(some 101), some undefA, none, false, .call 74 [(.s 97), (.s 100), (.c (.int .i64 0))]⟩,
   ⟨(some 2), some undefA, none, false, .pu (.mov (.s 101))⟩,
   ⟨(some 3), some undefA, none, false, .pu (.mov (.c (.int .i64 0)))⟩])
 (.ret)))))))⟩
theorem t28 : trF Try.prog [1, 14] [] Try.f28 = some m28 := by kernel_rfl
/-- selion/selionref06.SamePieces [loop [0, 1, 5]] -/
def m30 : MFun := ⟨26, [], [.mov (.s 4)],
 .seq (.ops [⟨(some 4), some undefA, none, false, .pu (.mov (.c (.bool false)))⟩])
 (.seq (.seq (.ops [⟨(some 6), some undefA, none, false, .pu (.mov (.s 0))⟩,
   ⟨(some 7), some undefA, none, false, .pu (.len (.s 6))⟩,
   ⟨(some 8), some undefA, none, false, .pu (.mov (.s 1))⟩,
   ⟨(some 9), some undefA, none, false, .pu (.len (.s 8))⟩,
   ⟨(some 10), some undefA, none, false, .pu (.bin .neq (.s 7) (.s 9))⟩])
 (.cond (.s 10) (.seq (.ops [⟨(some 4), some undefA, none, false, .pu (.mov (.c (.bool false)))⟩])
  (.ret))
 (.skip)))
 (.seq (.seq (.ops [⟨(some 5), some undefA, none, false, .pu (.mov (.c (.int .i64 0)))⟩])
 (.block 0 (.loop (.seq (.seq (.ops [⟨(some 11), some undefA, none, false, .pu (.mov (.s 5))⟩,
     ⟨(some 12), some undefA, none, false, .pu (.mov (.s 0))⟩,
     ⟨(some 13), some undefA, none, false, .pu (.len (.s 12))⟩,
     ⟨(some 14), some undefA, none, false, .pu (.bin .lss (.s 11) (.s 13))⟩])
   (.cond (.s 14) (.skip)
   (.exit 0)))
   (.seq (.block 1 (.seq (.ops [⟨(some 17), some undefA, none, true, .pu (.mov (.s 0))⟩,
      ⟨(some 18), some undefA, none, true, .pu (.mov (.s 5))⟩,
      ⟨(some 19), some undefA, none, true, .pu (.idx 5 (.s 17) (.s 18))⟩,
      ⟨(some 20), some undefA, none, true, .ld (.ld 5 true (.s 19))⟩,
      ⟨(some 21), some undefA, none, true, .pu (.mov (.s 1))⟩,
      ⟨(some 22), some undefA, none, true, .pu (.mov (.s 5))⟩,
      ⟨(some 23), some undefA, none, true, .pu (.idx 5 (.s 21) (.s 22))⟩,
      ⟨(some 24), some undefA, none, true, .ld (.ld 5 true (.s 23))⟩,
      ⟨(some 25), some undefA, none, false, .pu (.eqs true [true, true, true, true, true] (.s 20) (.s 24))⟩])
    (.cond (.s 25) (.seq (.ops [⟨(some 4), some undefA, none, false, .pu (.mov (.c (.bool false)))⟩])
     (.ret))
    (.skip))))
   (.ops [⟨(some 15), some undefA, none, false, .pu (.mov (.s 5))⟩,
     ⟨(some 16), some undefA, none, false, .pu (.bin .add (.s 15) (.c (.int .i64 1)))⟩,
     ⟨(some 5), some undefA, none, false, .pu (.mov (.s 16))⟩]))))))
 (.seq (.ops [⟨(some 4), some undefA, none, false, .pu (.mov (.c (.bool true)))⟩])
 (.ret))))⟩
theorem t30 : trF Try.prog [] [] Try.f30 = some m30 := by kernel_rfl
/-- selion/knife.Knife [scope [1, 5, 7, 8], loop [1, 5, 18, 19]] -/
def m32 : MFun := ⟨65, [1, 8], [.mov (.s 2), .mov (.s 3)],
 .seq (.ops [⟨(some 1), some (.junk), none, false, .pu (.bnew (.s 0))⟩,
   ⟨(some 2), some undefA, none, false, .pu (.mov (.c (.nilS)))⟩,
   ⟨(some 3), some undefA, none, false, .pu (.mov (.c (.int .i64 0)))⟩])
 (.scope 1000000 (.seq (.seq (.ops [⟨(some 11), some undefA, none, false, .pu (.bget none 1 0 2 true)⟩,
    ⟨(some 12), some undefA, none, false, .call 26 [(.s 11)]⟩,
    ⟨(some 4), some undefA, none, false, .pu (.mov (.s 12))⟩])
  (.seq (.ops [⟨(some 13), some undefA, none, false, .pu (.mov (.s 4))⟩,
    ⟨(some 14), some undefA, none, false, .pu (.bin .neq (.s 13) (.c (.int .i64 0)))⟩])
  (.cond (.s 14) (.seq (.ops [⟨(some 15), some undefA, none, false, .pu (.mov (.s 4))⟩,
     ⟨(some 2), some undefA, none, false, .pu (.mov (.c (.nilS)))⟩,
     ⟨(some 3), some undefA, none, false, .pu (.mov (.s 15))⟩])
   (.ret))
  (.skip))))
  (.seq (.ops [⟨(some 5), some undefA, none, false, .pu (.mov (.c (.nilS)))⟩])
  (.seq (.seq (.ops [⟨(some 16), some undefA, none, false, .pu (.badr none 1)⟩,
    ⟨(some 17), some undefA, none, false, .pu (.bget (some 16) 1 1 1 false)⟩,
    ⟨(some 18), some undefA, none, false, .pu (.len (.s 17))⟩,
    ⟨(some 19), some undefA, none, false, .pu (.mov (.c (.int .i64 0)))⟩])
  (.block 0 (.loop (.seq (.ops [⟨(some 20), some undefA, none, false, .pu (.bin .lss (.s 19) (.s 18))⟩])
    (.seq (.cond (.s 20) (.skip)
    (.exit 0))
    (.seq (.block 1 (.seq (.ops [⟨(some 21), some undefA, none, false, .pu (.mov (.s 19))⟩,
       ⟨(some 6), some undefA, none, false, .pu (.mov (.s 21))⟩])
     (.ops [⟨(some 22), some undefA, none, false, .pu (.mov (.s 5))⟩,
       ⟨(some 23), some undefA, none, false, .pu (.mov (.s 6))⟩,
       ⟨(some 24), some undefA, none, false, .ha (.blds 1 1 [.int .i64 0] [(0, 1, (.s 23))])⟩,
       ⟨(some 25), some undefA, none, false, .ha (.app 1 (.s 22) (.s 24))⟩,
       ⟨(some 5), some undefA, none, false, .pu (.mov (.s 25))⟩])))
    (.ops [⟨(some 26), some undefA, none, false, .pu (.bin .add (.s 19) (.c (.int .i64 1)))⟩,
      ⟨(some 19), some undefA, none, false, .pu (.mov (.s 26))⟩])))))))
  (.seq (.ops [⟨(some 7), some undefA, none, false, .pu (.mov (.c (.nilS)))⟩])
  (.seq (.ops [⟨(some 27), some undefA, none, false, .call 76 [(.c (.int .i64 0))]⟩,
    ⟨(some 8), some (.junk), none, false, .pu (.bnew (.c (.agg [.int .i64 0, .int .i64 0])))⟩,
    ⟨(some 8), none, none, false, .pu (.bset none 8 0 2 (.s 27))⟩])
  (.seq (.label 0)
  (.seq (.seq (.ops [⟨(some 28), some undefA, none, false, .pu (.mov (.s 5))⟩,
    ⟨(some 29), some undefA, none, false, .pu (.len (.s 28))⟩,
    ⟨(some 30), some undefA, none, false, .pu (.bin .gtr (.s 29) (.c (.int .i64 1)))⟩])
  (.cond (.s 30) (.seq (.ops [⟨(some 31), some undefA, none, false, .pu (.bget none 1 0 2 true)⟩,
     ⟨(some 32), some undefA, none, false, .pu (.bget none 8 0 2 true)⟩,
     ⟨(some 33), some undefA, none, false, .call 52 [(.s 31), (.s 32)]⟩,
     ⟨(some 9), some undefA, none, false, .ha (.newv (.c (.nilS)))⟩,
     ⟨none, some undefA, none, false, .ha (.st 1 (.s 9) (.s 33))⟩])
   (.seq (.ops [⟨(some 34), some undefA, none, false, .pu (.mov (.s 5))⟩,
     ⟨(some 35), some undefA, none, false, .pu (.mkf 84 [(.s 9)])⟩,
     ⟨(some 36), some undefA, none, false, .call 83 [(.s 34), (.s 35), (.c (.fn 65 []))]⟩,
     ⟨(some 10), some undefA, none, false, .ha (.newv (.c (.int .i64 0)))⟩,
     ⟨none, some undefA, none, false, .ha (.st 1 (.s 10) (.s 36))⟩])
   (.seq (.ops [⟨(some 37), some undefA, none, true, .pu (.mov (.s 7))⟩,
     ⟨(some 38), some undefA, none, true, .ld (.ld 1 false (.s 10))⟩,
     ⟨(some 39), some undefA, none, true, .pu (.bget none 8 0 2 true)⟩,
     ⟨(some 40), some undefA, none, true, .ld (.ld 1 false (.s 9))⟩,
     ⟨(some 41), some undefA, none, true, .ld (.ld 1 false (.s 10))⟩,
     ⟨(some 42), some undefA, none, true, .pu (.idx 2 (.s 40) (.s 41))⟩,
     ⟨(some 43), some undefA, none, true, .ld (.ld 2 true (.s 42))⟩,
     ⟨(some 44), some undefA, none, false, .pu (.build [.int .i64 0, .int .i64 0, .int .i64 0, .int .i64 0, .int .i64 0] [(0, 1, (.s 38)), (1, 2, (.s 39)), (3, 2, (.s 43))])⟩,
     ⟨(some 45), some undefA, none, false, .ha (.blds 5 1 [.int .i64 0, .int .i64 0, .int .i64 0, .int .i64 0, .int .i64 0] [(0, 5, (.s 44))])⟩,
     ⟨(some 46), some undefA, none, false, .ha (.app 5 (.s 37) (.s 45))⟩,
     ⟨(some 7), some undefA, none, false, .pu (.mov (.s 46))⟩])
   (.seq (.ops [⟨(some 47), some undefA, none, false, .ld (.ld 1 false (.s 9))⟩,
     ⟨(some 48), some undefA, none, false, .ld (.ld 1 false (.s 10))⟩,
     ⟨(some 49), some undefA, none, false, .pu (.idx 2 (.s 47) (.s 48))⟩,
     ⟨(some 50), some undefA, none, false, .ld (.ld 2 true (.s 49))⟩,
     ⟨(some 8), none, none, false, .pu (.bset none 8 0 2 (.s 50))⟩])
   (.seq (.ops [⟨(some 51), some undefA, none, false, .pu (.mov (.s 5))⟩,
     ⟨(some 52), some undefA, none, false, .pu (.mkf 86 [(.s 10)])⟩,
     ⟨(some 53), some undefA, none, false, .call 85 [(.s 51), (.s 52)]⟩,
     ⟨(some 5), some undefA, none, false, .pu (.mov (.s 53))⟩])
   (.exit 1000000))))))
  (.skip)))
  (.seq (.ops [⟨(some 54), some undefA, none, true, .pu (.mov (.s 7))⟩,
    ⟨(some 55), some undefA, none, false, .pu (.mov (.s 5))⟩,
    ⟨(some 56), some undefA, none, false, .pu (.idx 1 (.s 55) (.c (.int .i64 0)))⟩,
    ⟨(some 57), some undefA, none, true, .ld (.ld 1 false (.s 56))⟩,
    ⟨(some 58), some undefA, none, true, .pu (.bget none 8 0 2 true)⟩,
    ⟨(some 59), some undefA, none, true, .pu (.bget none 1 0 2 true)⟩,
    ⟨(some 60), some undefA, none, true, .call 77 [(.s 59)]⟩,
    ⟨(some 61), some undefA, none, true, .call 76 [(.s 60)]⟩,
    ⟨(some 62), some undefA, none, false, .pu (.build [.int .i64 0, .int .i64 0, .int .i64 0, .int .i64 0, .int .i64 0] [(0, 1, (.s 57)), (1, 2, (.s 58)), (3, 2, (.s 61))])⟩,
    ⟨(some 63), some undefA, none, false, .ha (.blds 5 1 [.int .i64 0, .int .i64 0, .int .i64 0, .int .i64 0, .int .i64 0] [(0, 5, (.s 62))])⟩,
    ⟨(some 64), some undefA, none, false, .ha (.app 5 (.s 54) (.s 63))⟩,
    ⟨(some 2), some undefA, none, false, .pu (.mov (.s 64))⟩,
    ⟨(some 3), some undefA, none, false, .pu (.mov (.c (.int .i64 0)))⟩])
  (.ret)))))))))
 (.seq (.skip)
  (.seq (.seq (.ops [⟨(some 28), some undefA, none, false, .pu (.mov (.s 5))⟩,
    ⟨(some 29), some undefA, none, false, .pu (.len (.s 28))⟩,
    ⟨(some 30), some undefA, none, false, .pu (.bin .gtr (.s 29) (.c (.int .i64 1)))⟩])
  (.cond (.s 30) (.seq (.ops [⟨(some 31), some undefA, none, false, .pu (.bget none 1 0 2 true)⟩,
     ⟨(some 32), some undefA, none, false, .pu (.bget none 8 0 2 true)⟩,
     ⟨(some 33), some undefA, none, false, .call 52 [(.s 31), (.s 32)]⟩,
     ⟨(some 9), some undefA, none, false, .ha (.newv (.c (.nilS)))⟩,
     ⟨none, some undefA, none, false, .ha (.st 1 (.s 9) (.s 33))⟩])
   (.seq (.ops [⟨(some 34), some undefA, none, false, .pu (.mov (.s 5))⟩,
     ⟨(some 35), some undefA, none, false, .pu (.mkf 84 [(.s 9)])⟩,
     ⟨(some 36), some undefA, none, false, .call 83 [(.s 34), (.s 35), (.c (.fn 65 []))]⟩,
     ⟨(some 10), some undefA, none, false, .ha (.newv (.c (.int .i64 0)))⟩,
     ⟨none, some undefA, none, false, .ha (.st 1 (.s 10) (.s 36))⟩])
   (.seq (.ops [⟨(some 37), some undefA, none, true, .pu (.mov (.s 7))⟩,
     ⟨(some 38), some undefA, none, true, .ld (.ld 1 false (.s 10))⟩,
     ⟨(some 39), some undefA, none, true, .pu (.bget none 8 0 2 true)⟩,
     ⟨(some 40), some undefA, none, true, .ld (.ld 1 false (.s 9))⟩,
     ⟨(some 41), some undefA, none, true, .ld (.ld 1 false (.s 10))⟩,
     ⟨(some 42), some undefA, none, true, .pu (.idx 2 (.s 40) (.s 41))⟩,
     ⟨(some 43), some undefA, none, true, .ld (.ld 2 true (.s 42))⟩,
     ⟨(some 44), some undefA, none, false, .pu (.build [.int .i64 0, .int .i64 0, .int .i64 0, .int .i64 0, .int .i64 0] [(0, 1, (.s 38)), (1, 2, (.s 39)), (3, 2, (.s 43))])⟩,
     ⟨(some 45), some undefA, none, false, .ha (.blds 5 1 [.int .i64 0, .int .i64 0, .int .i64 0, .int .i64 0, .int .i64 0] [(0, 5, (.s 44))])⟩,
     ⟨(some 46), some undefA, none, false, .ha (.app 5 (.s 37) (.s 45))⟩,
     ⟨(some 7), some undefA, none, false, .pu (.mov (.s 46))⟩])
   (.seq (.ops [⟨(some 47), some undefA, none, false, .ld (.ld 1 false (.s 9))⟩,
     ⟨(some 48), some undefA, none, false, .ld (.ld 1 false (.s 10))⟩,
     ⟨(some 49), some undefA, none, false, .pu (.idx 2 (.s 47) (.s 48))⟩,
     ⟨(some 50), some undefA, none, false, .ld (.ld 2 true (.s 49))⟩,
     ⟨(some 8), none, none, false, .pu (.bset none 8 0 2 (.s 50))⟩])
   (.seq (.ops [⟨(some 51), some undefA, none, false, .pu (.mov (.s 5))⟩,
     ⟨(some 52), some undefA, none, false, .pu (.mkf 86 [(.s 10)])⟩,
     ⟨(some 53), some undefA, none, false, .call 85 [(.s 51), (.s 52)]⟩,
     ⟨(some 5), some undefA, none, false, .pu (.mov (.s 53))⟩])
   (.exit 1000000))))))
  (.skip)))
  (.seq (.ops [⟨(some 54), some undefA, none, true, .pu (.mov (.s 7))⟩,
    ⟨(some 55), some undefA, none, false, .pu (.mov (.s 5))⟩,
    ⟨(some 56), some undefA, none, false, .pu (.idx 1 (.s 55) (.c (.int .i64 0)))⟩,
    ⟨(some 57), some undefA, none, true, .ld (.ld 1 false (.s 56))⟩,
    ⟨(some 58), some undefA, none, true, .pu (.bget none 8 0 2 true)⟩,
    ⟨(some 59), some undefA, none, true, .pu (.bget none 1 0 2 true)⟩,
    ⟨(some 60), some undefA, none, true, .call 77 [(.s 59)]⟩,
    ⟨(some 61), some undefA, none, true, .call 76 [(.s 60)]⟩,
    ⟨(some 62), some undefA, none, false, .pu (.build [.int .i64 0, .int .i64 0, .int .i64 0, .int .i64 0, .int .i64 0] [(0, 1, (.s 57)), (1, 2, (.s 58)), (3, 2, (.s 61))])⟩,
    ⟨(some 63), some undefA, none, false, .ha (.blds 5 1 [.int .i64 0, .int .i64 0, .int .i64 0, .int .i64 0, .int .i64 0] [(0, 5, (.s 62))])⟩,
    ⟨(some 64), some undefA, none, false, .ha (.app 5 (.s 54) (.s 63))⟩,
    ⟨(some 2), some undefA, none, false, .pu (.mov (.s 64))⟩,
    ⟨(some 3), some undefA, none, false, .pu (.mov (.c (.int .i64 0)))⟩])
  (.ret)))))⟩
theorem t32 : trF Try.prog [1, 8] [] Try.f32 = some m32 := by kernel_rfl
/-- selion/selionref02.Whole [] -/
def m36 : MFun := ⟨5, [2], [.bget none 2 0 2 true],
 .seq (.ops [⟨(some 2), some (.junk), none, false, .pu (.bnew (.c (.agg [.int .i64 0, .int .i64 0])))⟩])
 (.seq (.ops [⟨(some 3), some undefA, none, false, .pu (.mov (.s 0))⟩,
   ⟨(some 4), some undefA, none, false, .pu (.build [.int .i64 0, .int .i64 0] [(0, 1, (.s 3)), (1, 1, (.c (.int .i64 1)))])⟩,
   ⟨(some 2), none, none, false, .pu (.bset none 2 0 2 (.s 4))⟩])
 (.ret))⟩
theorem t36 : trF Try.prog [2] [] Try.f36 = some m36 := by kernel_rfl
/-- selion/selionref02.Add [] -/
def m37 : MFun := ⟨34, [2, 3, 4], [.bget none 4 0 2 true],
 .seq (.ops [⟨(some 2), some (.junk), none, false, .pu (.bnew (.s 0))⟩,
   ⟨(some 3), some (.junk), none, false, .pu (.bnew (.s 1))⟩,
   ⟨(some 4), some (.junk), none, false, .pu (.bnew (.c (.agg [.int .i64 0, .int .i64 0])))⟩])
 (.seq (.ops [⟨(some 6), some undefA, none, false, .pu (.badr none 2)⟩,
   ⟨(some 7), some undefA, none, false, .pu (.bget (some 6) 2 1 1 false)⟩,
   ⟨(some 8), some undefA, none, false, .pu (.badr none 3)⟩,
   ⟨(some 9), some undefA, none, false, .pu (.bget (some 8) 3 1 1 false)⟩,
   ⟨(some 10), some undefA, none, false, .call 91 [(.s 7), (.s 9)]⟩,
   ⟨(some 5), some undefA, none, false, .pu (.mov (.s 10))⟩])
 (.seq (.ops [⟨(some 11), some undefA, none, false, .pu (.badr none 2)⟩,
   ⟨(some 12), some undefA, none, false, .pu (.bget (some 11) 2 0 1 false)⟩,
   ⟨(some 13), some undefA, none, false, .pu (.badr none 3)⟩,
   ⟨(some 14), some undefA, none, false, .pu (.bget (some 13) 3 1 1 false)⟩,
   ⟨(some 15), some undefA, none, false, .pu (.mov (.s 5))⟩,
   ⟨(some 16), some undefA, none, false, .pu (.bin .quo (.s 14) (.s 15))⟩,
   ⟨(some 17), some undefA, none, false, .pu (.bin .mul (.s 12) (.s 16))⟩,
   ⟨(some 18), some undefA, none, false, .pu (.badr none 3)⟩,
   ⟨(some 19), some undefA, none, false, .pu (.bget (some 18) 3 0 1 false)⟩,
   ⟨(some 20), some undefA, none, false, .pu (.badr none 2)⟩,
   ⟨(some 21), some undefA, none, false, .pu (.bget (some 20) 2 1 1 false)⟩,
   ⟨(some 22), some undefA, none, false, .pu (.mov (.s 5))⟩,
   ⟨(some 23), some undefA, none, false, .pu (.bin .quo (.s 21) (.s 22))⟩,
   ⟨(some 24), some undefA, none, false, .pu (.bin .mul (.s 19) (.s 23))⟩,
   ⟨(some 25), some undefA, none, false, .pu (.bin .add (.s 17) (.s 24))⟩,
   ⟨(some 26), some undefA, none, false, .pu (.badr none 2)⟩,
   ⟨(some 27), some undefA, none, false, .pu (.bget (some 26) 2 1 1 false)⟩,
   ⟨(some 28), some undefA, none, false, .pu (.mov (.s 5))⟩,
   ⟨(some 29), some undefA, none, false, .pu (.bin .quo (.s 27) (.s 28))⟩,
   ⟨(some 30), some undefA, none, false, .pu (.badr none 3)⟩,
   ⟨(some 31), some undefA, none, false, .pu (.bget (some 30) 3 1 1 false)⟩,
   ⟨(some 32), some undefA, none, false, .pu (.bin .mul (.s 29) (.s 31))⟩,
   ⟨(some 33), some undefA, none, false, .call 80 [(.s 25), (.s 32)]⟩,
   ⟨(some 4), none, none, false, .pu (.bset none 4 0 2 (.s 33))⟩])
 (.ret)))⟩
theorem t37 : trF Try.prog [2, 3, 4] [] Try.f37 = some m37 := by kernel_rfl
/-- selion/selionref06.Copy [loop [1, 2, 3, 4]] -/
def m40 : MFun := ⟨30, [1, 2, 3], [.bget none 2 0 2 true],
 .seq (.ops [⟨(some 1), some (.junk), none, false, .pu (.bnew (.s 0))⟩,
   ⟨(some 2), some (.junk), none, false, .pu (.bnew (.c (.agg [.nilS, .nilS])))⟩])
 (.seq (.ops [⟨(some 5), some undefA, none, false, .ha (.blds 1 0 [.int .i64 0] [])⟩,
   ⟨(some 6), some undefA, none, false, .pu (.badr none 1)⟩,
   ⟨(some 7), some undefA, none, false, .pu (.bget (some 6) 1 0 1 false)⟩,
   ⟨(some 8), some undefA, none, false, .ha (.app 1 (.s 5) (.s 7))⟩,
   ⟨(some 9), some undefA, none, false, .pu (.build [.nilS, .nilS] [(0, 1, (.s 8))])⟩,
   ⟨(some 3), some (.junk), none, false, .pu (.bnew (.c (.agg [.nilS, .nilS])))⟩,
   ⟨(some 3), none, none, false, .pu (.bset none 3 0 2 (.s 9))⟩])
 (.seq (.seq (.ops [⟨(some 4), some undefA, none, false, .pu (.mov (.c (.int .i64 0)))⟩])
 (.block 0 (.loop (.seq (.seq (.ops [⟨(some 10), some undefA, none, false, .pu (.mov (.s 4))⟩,
     ⟨(some 11), some undefA, none, false, .pu (.badr none 1)⟩,
     ⟨(some 12), some undefA, none, false, .pu (.bget (some 11) 1 1 1 false)⟩,
     ⟨(some 13), some undefA, none, false, .pu (.len (.s 12))⟩,
     ⟨(some 14), some undefA, none, false, .pu (.bin .lss (.s 10) (.s 13))⟩])
   (.cond (.s 14) (.skip)
   (.exit 0)))
   (.seq (.block 1 (.ops [⟨(some 17), some undefA, none, true, .pu (.badr none 3)⟩,
      ⟨(some 18), some undefA, none, true, .pu (.bget (some 17) 3 1 1 false)⟩,
      ⟨(some 19), some undefA, none, true, .ha (.blds 1 0 [.int .i64 0] [])⟩,
      ⟨(some 20), some undefA, none, false, .pu (.badr none 1)⟩,
      ⟨(some 21), some undefA, none, false, .pu (.bget (some 20) 1 1 1 false)⟩,
      ⟨(some 22), some undefA, none, false, .pu (.mov (.s 4))⟩,
      ⟨(some 23), some undefA, none, false, .pu (.idx 1 (.s 21) (.s 22))⟩,
      ⟨(some 24), some undefA, none, true, .ld (.ld 1 false (.s 23))⟩,
      ⟨(some 25), some undefA, none, false, .ha (.app 1 (.s 19) (.s 24))⟩,
      ⟨(some 26), some undefA, none, false, .ha (.blds 1 1 [.nilS] [(0, 1, (.s 25))])⟩,
      ⟨(some 27), some undefA, none, false, .ha (.app 1 (.s 18) (.s 26))⟩,
      ⟨(some 28), some undefA, none, false, .pu (.badr none 3)⟩,
      ⟨(some 3), none, none, false, .pu (.bset (some 28) 3 1 1 (.s 27))⟩]))
   (.ops [⟨(some 15), some undefA, none, false, .pu (.mov (.s 4))⟩,
     ⟨(some 16), some undefA, none, false, .pu (.bin .add (.s 15) (.c (.int .i64 1)))⟩,
     ⟨(some 4), some undefA, none, false, .pu (.mov (.s 16))⟩]))))))
 (.seq (.ops [⟨(some 29), some undefA, none, false, .pu (.bget none 3 0 2 true)⟩,
   ⟨(some 2), none, none, false, .pu (.bset none 2 0 2 (.s 29))⟩])
 (.ret))))⟩
theorem t40 : trF Try.prog [1, 2, 3] [] Try.f40 = some m40 := by kernel_rfl
/-- selion/knife.Without [] -/
def m43 : MFun := ⟨30, [2, 4, 7], [.bget none 4 0 2 true, .mov (.s 5)],
 .seq (.ops [⟨(some 2), some (.junk), none, false, .pu (.bnew (.s 0))⟩,
   ⟨(some 4), some (.junk), none, false, .pu (.bnew (.c (.agg [.nilS, .nilS])))⟩,
   ⟨(some 5), some undefA, none, false, .pu (.mov (.c (.int .i64 0)))⟩])
 (.seq (.seq (.ops [⟨(some 8), some undefA, none, false, .pu (.bget none 2 0 2 true)⟩,
   ⟨(some 9), some undefA, none, false, .pu (.mov (.s 1))⟩,
   ⟨(some 10), some undefA, none, false, .call 56 [(.s 8), (.s 9)]⟩,
   ⟨(some 6), some undefA, none, false, .pu (.mov (.s 10))⟩])
 (.seq (.ops [⟨(some 11), some undefA, none, false, .pu (.mov (.s 6))⟩,
   ⟨(some 12), some undefA, none, false, .pu (.bin .neq (.s 11) (.c (.int .i64 0)))⟩])
 (.cond (.s 12) (.seq (.ops [⟨(some 13), some undefA, none, false, .pu (.build [.nilS, .nilS] [])⟩,
    ⟨(some 14), some undefA, none, false, .pu (.mov (.s 6))⟩,
    ⟨(some 4), none, none, false, .pu (.bset none 4 0 2 (.s 13))⟩,
    ⟨(some 5), some undefA, none, false, .pu (.mov (.s 14))⟩])
  (.ret))
 (.skip))))
 (.seq (.seq (.ops [⟨(some 15), some undefA, none, false, .pu (.badr none 2)⟩,
   ⟨(some 16), some undefA, none, false, .pu (.bget (some 15) 2 1 1 false)⟩,
   ⟨(some 17), some undefA, none, false, .pu (.len (.s 16))⟩,
   ⟨(some 18), some undefA, none, false, .pu (.bin .eql (.s 17) (.c (.int .i64 1)))⟩])
 (.cond (.s 18) (.seq (.ops [⟨(some 19), some undefA, none, false, .pu (.build [.nilS, .nilS] [])⟩,
    ⟨(some 4), none, none, false, .pu (.bset none 4 0 2 (.s 19))⟩,
    ⟨(some 5), some undefA, none, false, .pu (.mov (.c (.int .i64 5)))⟩])
  (.ret))
 (.skip)))
 (.seq (.ops [⟨(some 20), some undefA, none, false, .pu (.bget none 2 0 2 true)⟩,
   ⟨(some 21), some undefA, none, false, .call 92 [(.s 20)]⟩,
   ⟨(some 7), some (.junk), none, false, .pu (.bnew (.c (.agg [.nilS, .nilS])))⟩,
   ⟨(some 7), none, none, false, .pu (.bset none 7 0 2 (.s 21))⟩])
 (.seq (.ops [⟨(some 22), some undefA, none, false, .pu (.badr none 7)⟩,
   ⟨(some 23), some undefA, none, false, .pu (.bget (some 22) 7 1 1 false)⟩,
   ⟨(some 24), some undefA, none, false, .pu (.mov (.s 1))⟩,
   ⟨(some 25), some undefA, none, false, .pu (.mov (.s 1))⟩,
   ⟨(some 26), some undefA, none, false, .pu (.bin .add (.s 25) (.c (.int .i64 1)))⟩,
   ⟨(some 27), some undefA, none, false, .call 102 [(.s 23), (.s 24), (.s 26)]⟩,
   ⟨(some 28), some undefA, none, false, .pu (.badr none 7)⟩,
   ⟨(some 7), none, none, false, .pu (.bset (some 28) 7 1 1 (.s 27))⟩])
 (.seq (.ops [⟨(some 29), some undefA, none, false, .pu (.bget none 7 0 2 true)⟩,
   ⟨(some 4), none, none, false, .pu (.bset none 4 0 2 (.s 29))⟩,
   ⟨(some 5), some undefA, none, false, .pu (.mov (.c (.int .i64 0)))⟩])
 (.ret))))))⟩
theorem t43 : trF Try.prog [2, 4, 7] [] Try.f43 = some m43 := by kernel_rfl
/-- selion/selionref06.Without [loop [1, 2, 4, 7, 8, 9]] -/
def m44 : MFun := ⟨49, [2, 4, 7, 8], [.bget none 4 0 2 true, .mov (.s 5)],
 .seq (.ops [⟨(some 2), some (.junk), none, false, .pu (.bnew (.s 0))⟩,
   ⟨(some 4), some (.junk), none, false, .pu (.bnew (.c (.agg [.nilS, .nilS])))⟩,
   ⟨(some 5), some undefA, none, false, .pu (.mov (.c (.int .i64 0)))⟩])
 (.seq (.ops [⟨(some 10), some undefA, none, false, .pu (.bget none 2 0 2 true)⟩,
   ⟨(some 11), some undefA, none, false, .pu (.mov (.s 1))⟩,
   ⟨(some 12), some undefA, none, false, .ha (.blds 1 1 [.int .i64 0] [(0, 1, (.s 11))])⟩,
   ⟨(some 13), some undefA, none, false, .call 61 [(.s 10), (.s 12)]⟩,
   ⟨(some 6), some undefA, none, false, .pu (.mov (.s 13))⟩])
 (.seq (.seq (.ops [⟨(some 14), some undefA, none, false, .pu (.mov (.s 6))⟩,
   ⟨(some 15), some undefA, none, false, .pu (.bin .neq (.s 14) (.c (.int .i64 0)))⟩])
 (.cond (.s 15) (.seq (.ops [⟨(some 16), some undefA, none, false, .pu (.build [.nilS, .nilS] [])⟩,
    ⟨(some 17), some undefA, none, false, .pu (.mov (.s 6))⟩,
    ⟨(some 4), none, none, false, .pu (.bset none 4 0 2 (.s 16))⟩,
    ⟨(some 5), some undefA, none, false, .pu (.mov (.s 17))⟩])
  (.ret))
 (.skip)))
 (.seq (.seq (.ops [⟨(some 18), some undefA, none, false, .pu (.badr none 2)⟩,
   ⟨(some 19), some undefA, none, false, .pu (.bget (some 18) 2 1 1 false)⟩,
   ⟨(some 20), some undefA, none, false, .pu (.len (.s 19))⟩,
   ⟨(some 21), some undefA, none, false, .pu (.bin .eql (.s 20) (.c (.int .i64 1)))⟩])
 (.cond (.s 21) (.seq (.ops [⟨(some 22), some undefA, none, false, .pu (.build [.nilS, .nilS] [])⟩,
    ⟨(some 4), none, none, false, .pu (.bset none 4 0 2 (.s 22))⟩,
    ⟨(some 5), some undefA, none, false, .pu (.mov (.c (.int .i64 5)))⟩])
  (.ret))
 (.skip)))
 (.seq (.ops [⟨(some 23), some undefA, none, false, .pu (.bget none 2 0 2 true)⟩,
   ⟨(some 24), some undefA, none, false, .call 40 [(.s 23)]⟩,
   ⟨(some 7), some (.junk), none, false, .pu (.bnew (.c (.agg [.nilS, .nilS])))⟩,
   ⟨(some 7), none, none, false, .pu (.bset none 7 0 2 (.s 24))⟩])
 (.seq (.ops [⟨(some 25), some undefA, none, false, .pu (.badr none 7)⟩,
   ⟨(some 26), some undefA, none, false, .pu (.bget (some 25) 7 0 1 false)⟩,
   ⟨(some 27), some undefA, none, false, .pu (.build [.nilS, .nilS] [(0, 1, (.s 26))])⟩,
   ⟨(some 8), some (.junk), none, false, .pu (.bnew (.c (.agg [.nilS, .nilS])))⟩,
   ⟨(some 8), none, none, false, .pu (.bset none 8 0 2 (.s 27))⟩])
 (.seq (.seq (.ops [⟨(some 9), some undefA, none, false, .pu (.mov (.c (.int .i64 0)))⟩])
 (.block 0 (.loop (.seq (.seq (.ops [⟨(some 28), some undefA, none, false, .pu (.mov (.s 9))⟩,
     ⟨(some 29), some undefA, none, false, .pu (.badr none 2)⟩,
     ⟨(some 30), some undefA, none, false, .pu (.bget (some 29) 2 1 1 false)⟩,
     ⟨(some 31), some undefA, none, false, .pu (.len (.s 30))⟩,
     ⟨(some 32), some undefA, none, false, .pu (.bin .lss (.s 28) (.s 31))⟩])
   (.cond (.s 32) (.skip)
   (.exit 0)))
   (.seq (.block 1 (.seq (.ops [⟨(some 35), some undefA, none, false, .pu (.mov (.s 9))⟩,
      ⟨(some 36), some undefA, none, false, .pu (.mov (.s 1))⟩,
      ⟨(some 37), some undefA, none, false, .pu (.bin .neq (.s 35) (.s 36))⟩])
    (.cond (.s 37) (.ops [⟨(some 38), some undefA, none, true, .pu (.badr none 8)⟩,
       ⟨(some 39), some undefA, none, true, .pu (.bget (some 38) 8 1 1 false)⟩,
       ⟨(some 40), some undefA, none, false, .pu (.badr none 7)⟩,
       ⟨(some 41), some undefA, none, false, .pu (.bget (some 40) 7 1 1 false)⟩,
       ⟨(some 42), some undefA, none, false, .pu (.mov (.s 9))⟩,
       ⟨(some 43), some undefA, none, false, .pu (.idx 1 (.s 41) (.s 42))⟩,
       ⟨(some 44), some undefA, none, true, .ld (.ld 1 false (.s 43))⟩,
       ⟨(some 45), some undefA, none, false, .ha (.blds 1 1 [.nilS] [(0, 1, (.s 44))])⟩,
       ⟨(some 46), some undefA, none, false, .ha (.app 1 (.s 39) (.s 45))⟩,
       ⟨(some 47), some undefA, none, false, .pu (.badr none 8)⟩,
       ⟨(some 8), none, none, false, .pu (.bset (some 47) 8 1 1 (.s 46))⟩])
    (.skip))))
   (.ops [⟨(some 33), some undefA, none, false, .pu (.mov (.s 9))⟩,
     ⟨(some 34), some undefA, none, false, .pu (.bin .add (.s 33) (.c (.int .i64 1)))⟩,
     ⟨(some 9), some undefA, none, false, .pu (.mov (.s 34))⟩]))))))
 (.seq (.ops [⟨(some 48), some undefA, none, false, .pu (.bget none 8 0 2 true)⟩,
   ⟨(some 4), none, none, false, .pu (.bset none 4 0 2 (.s 48))⟩,
   ⟨(some 5), some undefA, none, false, .pu (.mov (.c (.int .i64 0)))⟩])
 (.ret))))))))⟩
theorem t44 : trF Try.prog [2, 4, 7, 8] [] Try.f44 = some m44 := by kernel_rfl
/-- selion/selionref06.Same [loop [2, 3, 5]] -/
def m45 : MFun := ⟨40, [2, 3], [.mov (.s 4)],
 .seq (.ops [⟨(some 2), some (.junk), none, false, .pu (.bnew (.s 0))⟩,
   ⟨(some 3), some (.junk), none, false, .pu (.bnew (.s 1))⟩,
   ⟨(some 4), some undefA, none, false, .pu (.mov (.c (.bool false)))⟩])
 (.seq (.seq (.ops [⟨(some 6), some undefA, none, false, .pu (.badr none 2)⟩,
   ⟨(some 7), some undefA, none, false, .pu (.bget (some 6) 2 0 1 false)⟩,
   ⟨(some 8), some undefA, none, false, .pu (.badr none 3)⟩,
   ⟨(some 9), some undefA, none, false, .pu (.bget (some 8) 3 0 1 false)⟩,
   ⟨(some 10), some undefA, none, false, .call 103 [(.s 7), (.s 9)]⟩,
   ⟨(some 11), some undefA, none, false, .pu (.not (.s 10))⟩,
   ⟨(some 12), some undefA, none, false, .pu (.mov (.s 11))⟩,
   ⟨(some 13), some undefA, (some (12, false)), false, .pu (.badr none 2)⟩,
   ⟨(some 14), some undefA, (some (12, false)), false, .pu (.bget (some 13) 2 1 1 false)⟩,
   ⟨(some 15), some undefA, (some (12, false)), false, .pu (.len (.s 14))⟩,
   ⟨(some 16), some undefA, (some (12, false)), false, .pu (.badr none 3)⟩,
   ⟨(some 17), some undefA, (some (12, false)), false, .pu (.bget (some 16) 3 1 1 false)⟩,
   ⟨(some 18), some undefA, (some (12, false)), false, .pu (.len (.s 17))⟩,
   ⟨(some 19), some undefA, (some (12, false)), false, .pu (.bin .neq (.s 15) (.s 18))⟩,
   ⟨(some 20), some undefA, none, false, .pu (.pick (.s 12) (.c (.bool true)) (.s 19))⟩])
 (.cond (.s 20) (.seq (.ops [⟨(some 4), some undefA, none, false, .pu (.mov (.c (.bool false)))⟩])
  (.ret))
 (.skip)))
 (.seq (.seq (.ops [⟨(some 5), some undefA, none, false, .pu (.mov (.c (.int .i64 0)))⟩])
 (.block 0 (.loop (.seq (.seq (.ops [⟨(some 21), some undefA, none, false, .pu (.mov (.s 5))⟩,
     ⟨(some 22), some undefA, none, false, .pu (.badr none 2)⟩,
     ⟨(some 23), some undefA, none, false, .pu (.bget (some 22) 2 1 1 false)⟩,
     ⟨(some 24), some undefA, none, false, .pu (.len (.s 23))⟩,
     ⟨(some 25), some undefA, none, false, .pu (.bin .lss (.s 21) (.s 24))⟩])
   (.cond (.s 25) (.skip)
   (.exit 0)))
   (.seq (.block 1 (.seq (.ops [⟨(some 28), some undefA, none, true, .pu (.badr none 2)⟩,
      ⟨(some 29), some undefA, none, true, .pu (.bget (some 28) 2 1 1 false)⟩,
      ⟨(some 30), some undefA, none, true, .pu (.mov (.s 5))⟩,
      ⟨(some 31), some undefA, none, true, .pu (.idx 1 (.s 29) (.s 30))⟩,
      ⟨(some 32), some undefA, none, true, .ld (.ld 1 false (.s 31))⟩,
      ⟨(some 33), some undefA, none, true, .pu (.badr none 3)⟩,
      ⟨(some 34), some undefA, none, true, .pu (.bget (some 33) 3 1 1 false)⟩,
      ⟨(some 35), some undefA, none, true, .pu (.mov (.s 5))⟩,
      ⟨(some 36), some undefA, none, true, .pu (.idx 1 (.s 34) (.s 35))⟩,
      ⟨(some 37), some undefA, none, true, .ld (.ld 1 false (.s 36))⟩,
      ⟨(some 38), some undefA, none, false, .call 103 [(.s 32), (.s 37)]⟩,
      ⟨(some 39), some undefA, none, false, .pu (.not (.s 38))⟩])
    (.cond (.s 39) (.seq (.ops [⟨(some 4), some undefA, none, false, .pu (.mov (.c (.bool false)))⟩])
     (.ret))
    (.skip))))
   (.ops [⟨(some 26), some undefA, none, false, .pu (.mov (.s 5))⟩,
     ⟨(some 27), some undefA, none, false, .pu (.bin .add (.s 26) (.c (.int .i64 1)))⟩,
     ⟨(some 5), some undefA, none, false, .pu (.mov (.s 27))⟩]))))))
 (.seq (.ops [⟨(some 4), some undefA, none, false, .pu (.mov (.c (.bool true)))⟩])
 (.ret))))⟩
theorem t45 : trF Try.prog [2, 3] [] Try.f45 = some m45 := by kernel_rfl
/-- selion/selionlaw06.example [] -/
def m50 : MFun := ⟨6, [0], [.bget none 0 0 2 true],
 .seq (.ops [⟨(some 0), some (.junk), none, false, .pu (.bnew (.c (.agg [.nilS, .nilS])))⟩])
 (.seq (.ops [⟨(some 1), some undefA, none, false, .ha (.blds 1 2 [.int .i64 0] [(0, 1, (.c (.int .i64 2))), (1, 1, (.c (.int .i64 2)))])⟩,
   ⟨(some 2), some undefA, none, false, .ha (.blds 1 2 [.int .i64 0] [(0, 1, (.c (.int .i64 1))), (1, 1, (.c (.int .i64 1)))])⟩,
   ⟨(some 3), some undefA, none, false, .ha (.blds 1 2 [.int .i64 0] [(0, 1, (.c (.int .i64 3))), (1, 1, (.c (.int .i64 1)))])⟩,
   ⟨(some 4), some undefA, none, false, .ha (.blds 1 2 [.nilS] [(0, 1, (.s 2)), (1, 1, (.s 3))])⟩,
   ⟨(some 5), some undefA, none, false, .pu (.build [.nilS, .nilS] [(0, 1, (.s 1)), (1, 1, (.s 4))])⟩,
   ⟨(some 0), none, none, false, .pu (.bset none 0 0 2 (.s 5))⟩])
 (.ret))⟩
theorem t50 : trF Try.prog [0] [] Try.f50 = some m50 := by kernel_rfl
/-- selion/knife.isPlace [] -/
def m51 : MFun := ⟨17, [2, 3], [.mov (.s 4)],
 .seq (.ops [⟨(some 2), some (.junk), none, false, .pu (.bnew (.s 0))⟩,
   ⟨(some 3), some (.junk), none, false, .pu (.bnew (.s 1))⟩,
   ⟨(some 4), some undefA, none, false, .pu (.mov (.c (.bool false)))⟩])
 (.seq (.ops [⟨(some 5), some undefA, none, false, .pu (.bget none 3 0 2 true)⟩,
   ⟨(some 6), some undefA, none, false, .call 105 [(.s 5), (.c (.int .i64 1000000))]⟩,
   ⟨(some 7), some undefA, none, false, .pu (.mov (.s 6))⟩,
   ⟨(some 8), some undefA, (some (7, true)), false, .pu (.badr none 3)⟩,
   ⟨(some 9), some undefA, (some (7, true)), false, .pu (.bget (some 8) 3 0 1 false)⟩,
   ⟨(some 10), some undefA, (some (7, true)), false, .pu (.bget none 2 0 2 true)⟩,
   ⟨(some 11), some undefA, (some (7, true)), false, .call 77 [(.s 10)]⟩,
   ⟨(some 12), some undefA, (some (7, true)), false, .pu (.badr none 3)⟩,
   ⟨(some 13), some undefA, (some (7, true)), false, .pu (.bget (some 12) 3 1 1 false)⟩,
   ⟨(some 14), some undefA, (some (7, true)), false, .pu (.bin .mul (.s 11) (.s 13))⟩,
   ⟨(some 15), some undefA, (some (7, true)), false, .call 57 [(.s 9), (.c (.int .i64 0)), (.s 14)]⟩,
   ⟨(some 16), some undefA, none, false, .pu (.pick (.s 7) (.s 15) (.c (.bool false)))⟩,
   ⟨(some 4), some undefA, none, false, .pu (.mov (.s 16))⟩])
 (.ret))⟩
theorem t51 : trF Try.prog [2, 3] [] Try.f51 = some m51 := by kernel_rfl
/-- selion/knife.calls [loop [2, 3, 5, 11, 12]] -/
def m52 : MFun := ⟨40, [2, 3, 7], [.mov (.s 4)],
 .seq (.ops [⟨(some 2), some (.junk), none, false, .pu (.bnew (.s 0))⟩,
   ⟨(some 3), some (.junk), none, false, .pu (.bnew (.s 1))⟩,
   ⟨(some 4), some undefA, none, false, .pu (.mov (.c (.nilS)))⟩])
 (.seq (.ops [⟨(some 5), some undefA, none, false, .pu (.mov (.c (.nilS)))⟩])
 (.seq (.seq (.ops [⟨(some 9), some undefA, none, false, .pu (.badr none 2)⟩,
   ⟨(some 10), some undefA, none, false, .pu (.bget (some 9) 2 1 1 false)⟩,
   ⟨(some 11), some undefA, none, false, .pu (.len (.s 10))⟩,
   ⟨(some 12), some undefA, none, false, .pu (.mov (.c (.int .i64 0)))⟩])
 (.block 0 (.loop (.seq (.ops [⟨(some 13), some undefA, none, false, .pu (.bin .lss (.s 12) (.s 11))⟩])
   (.seq (.cond (.s 13) (.skip)
   (.exit 0))
   (.seq (.block 1 (.seq (.ops [⟨(some 14), some undefA, none, false, .pu (.mov (.s 12))⟩,
      ⟨(some 6), some undefA, none, false, .pu (.mov (.s 14))⟩])
    (.seq (.ops [⟨(some 16), some undefA, none, false, .pu (.bget none 2 0 2 true)⟩,
      ⟨(some 17), some undefA, none, false, .pu (.mov (.s 6))⟩,
      ⟨(some 18), some undefA, none, false, .pu (.bget none 3 0 2 true)⟩,
      ⟨(some 19), some undefA, none, false, .pu (.bget none 2 0 2 true)⟩,
      ⟨(some 20), some undefA, none, false, .pu (.mov (.s 6))⟩,
      ⟨(some 21), some undefA, none, false, .call 60 [(.s 19), (.s 20)]⟩,
      ⟨(some 22), some undefA, none, false, .pu (.badr none 2)⟩,
      ⟨(some 23), some undefA, none, false, .pu (.bget (some 22) 2 1 1 false)⟩,
      ⟨(some 24), some undefA, none, false, .pu (.len (.s 23))⟩,
      ⟨(some 25), some undefA, none, false, .call 59 [(.s 21), (.s 24)]⟩,
      ⟨(some 26), some undefA, none, false, .call 58 [(.s 16), (.s 17), (.s 18), (.s 25)]⟩,
      ⟨(some 15), some undefA, none, false, .pu (.mov (.s 26))⟩,
      ⟨(some 27), some undefA, none, false, .pu (.extr 0 (.s 15))⟩,
      ⟨(some 28), some undefA, none, false, .pu (.extr 1 (.s 15))⟩,
      ⟨(some 7), some (.junk), none, false, .pu (.bnew (.c (.agg [.int .i64 0, .int .i64 0])))⟩,
      ⟨(some 7), none, none, false, .pu (.bset none 7 0 2 (.s 27))⟩,
      ⟨(some 8), some undefA, none, false, .pu (.mov (.s 28))⟩])
    (.seq (.seq (.ops [⟨(some 29), some undefA, none, false, .pu (.mov (.s 8))⟩,
      ⟨(some 30), some undefA, none, false, .pu (.not (.s 29))⟩])
    (.cond (.s 30) (.ops [⟨(some 31), some undefA, none, false, .pu (.bget none 2 0 2 true)⟩,
       ⟨(some 32), some undefA, none, false, .call 77 [(.s 31)]⟩,
       ⟨(some 33), some undefA, none, false, .call 76 [(.s 32)]⟩,
       ⟨(some 7), none, none, false, .pu (.bset none 7 0 2 (.s 33))⟩])
    (.skip)))
    (.ops [⟨(some 34), some undefA, none, false, .pu (.mov (.s 5))⟩,
      ⟨(some 35), some undefA, none, false, .pu (.bget none 7 0 2 true)⟩,
      ⟨(some 36), some undefA, none, false, .ha (.blds 2 1 [.int .i64 0, .int .i64 0] [(0, 2, (.s 35))])⟩,
      ⟨(some 37), some undefA, none, false, .ha (.app 2 (.s 34) (.s 36))⟩,
      ⟨(some 5), some undefA, none, false, .pu (.mov (.s 37))⟩])))))
   (.ops [⟨(some 38), some undefA, none, false, .pu (.bin .add (.s 12) (.c (.int .i64 1)))⟩,
     ⟨(some 12), some undefA, none, false, .pu (.mov (.s 38))⟩])))))))
 (.seq (.ops [⟨(some 39), some undefA, none, false, .pu (.mov (.s 5))⟩,
   ⟨(some 4), some undefA, none, false, .pu (.mov (.s 39))⟩])
 (.ret))))⟩
theorem t52 : trF Try.prog [2, 3, 7] [] Try.f52 = some m52 := by kernel_rfl
/-- selion/selionref06.isPlace [] -/
def m53 : MFun := ⟨13, [2, 3], [.mov (.s 4)],
 .seq (.ops [⟨(some 2), some (.junk), none, false, .pu (.bnew (.s 0))⟩,
   ⟨(some 3), some (.junk), none, false, .pu (.bnew (.s 1))⟩,
   ⟨(some 4), some undefA, none, false, .pu (.mov (.c (.bool false)))⟩])
 (.seq (.ops [⟨(some 5), some undefA, none, false, .pu (.bget none 3 0 2 true)⟩,
   ⟨(some 6), some undefA, none, false, .call 106 [(.s 5), (.c (.int .i64 1000000))]⟩,
   ⟨(some 7), some undefA, none, false, .pu (.mov (.s 6))⟩,
   ⟨(some 8), some undefA, (some (7, true)), false, .pu (.bget none 2 0 2 true)⟩,
   ⟨(some 9), some undefA, (some (7, true)), false, .call 68 [(.s 8), (.c (.int .i64 0))]⟩,
   ⟨(some 10), some undefA, (some (7, true)), false, .pu (.bget none 3 0 2 true)⟩,
   ⟨(some 11), some undefA, (some (7, true)), false, .call 107 [(.s 9), (.s 10)]⟩,
   ⟨(some 12), some undefA, none, false, .pu (.pick (.s 7) (.s 11) (.c (.bool false)))⟩,
   ⟨(some 4), some undefA, none, false, .pu (.mov (.s 12))⟩])
 (.ret))⟩
theorem t53 : trF Try.prog [2, 3] [] Try.f53 = some m53 := by kernel_rfl
/-- selion/selionref06.call [] -/
def m54 : MFun := ⟨24, [3, 5, 6, 7], [.bget none 6 0 2 true],
 .seq (.ops [⟨(some 3), some (.junk), none, false, .pu (.bnew (.s 0))⟩,
   ⟨(some 5), some (.junk), none, false, .pu (.bnew (.s 2))⟩,
   ⟨(some 6), some (.junk), none, false, .pu (.bnew (.c (.agg [.int .i64 0, .int .i64 0])))⟩])
 (.seq (.ops [⟨(some 10), some undefA, none, false, .pu (.bget none 3 0 2 true)⟩,
   ⟨(some 11), some undefA, none, false, .pu (.mov (.s 1))⟩,
   ⟨(some 12), some undefA, none, false, .pu (.bget none 5 0 2 true)⟩,
   ⟨(some 13), some undefA, none, false, .pu (.badr none 3)⟩,
   ⟨(some 14), some undefA, none, false, .pu (.bget (some 13) 3 1 1 false)⟩,
   ⟨(some 15), some undefA, none, false, .pu (.len (.s 14))⟩,
   ⟨(some 16), some undefA, none, false, .call 63 [(.s 10), (.s 11), (.s 12), (.c (.int .i64 1)), (.s 15)]⟩,
   ⟨(some 9), some undefA, none, false, .pu (.mov (.s 16))⟩,
   ⟨(some 17), some undefA, none, false, .pu (.extr 0 (.s 9))⟩,
   ⟨(some 18), some undefA, none, false, .pu (.extr 1 (.s 9))⟩,
   ⟨(some 7), some (.junk), none, false, .pu (.bnew (.c (.agg [.int .i64 0, .int .i64 0])))⟩,
   ⟨(some 7), none, none, false, .pu (.bset none 7 0 2 (.s 17))⟩,
   ⟨(some 8), some undefA, none, false, .pu (.mov (.s 18))⟩])
 (.seq (.seq (.ops [⟨(some 19), some undefA, none, false, .pu (.mov (.s 8))⟩,
   ⟨(some 20), some undefA, none, false, .pu (.not (.s 19))⟩])
 (.cond (.s 20) (.seq (.ops [⟨(some 21), some undefA, none, false, .pu (.bget none 3 0 2 true)⟩,
    ⟨(some 22), some undefA, none, false, .call 87 [(.s 21)]⟩,
    ⟨(some 6), none, none, false, .pu (.bset none 6 0 2 (.s 22))⟩])
  (.ret))
 (.skip)))
 (.seq (.ops [⟨(some 23), some undefA, none, false, .pu (.bget none 7 0 2 true)⟩,
   ⟨(some 6), none, none, false, .pu (.bset none 6 0 2 (.s 23))⟩])
 (.ret))))⟩
theorem t54 : trF Try.prog [3, 5, 6, 7] [] Try.f54 = some m54 := by kernel_rfl
/-- selion/selionref02.Sub [] -/
def m55 : MFun := ⟨13, [2, 3, 4], [.bget none 4 0 2 true],
 .seq (.ops [⟨(some 2), some (.junk), none, false, .pu (.bnew (.s 0))⟩,
   ⟨(some 3), some (.junk), none, false, .pu (.bnew (.s 1))⟩,
   ⟨(some 4), some (.junk), none, false, .pu (.bnew (.c (.agg [.int .i64 0, .int .i64 0])))⟩])
 (.seq (.ops [⟨(some 5), some undefA, none, false, .pu (.bget none 2 0 2 true)⟩,
   ⟨(some 6), some undefA, none, false, .pu (.badr none 3)⟩,
   ⟨(some 7), some undefA, none, false, .pu (.bget (some 6) 3 0 1 false)⟩,
   ⟨(some 8), some undefA, none, false, .pu (.neg (.s 7))⟩,
   ⟨(some 9), some undefA, none, false, .pu (.badr none 3)⟩,
   ⟨(some 10), some undefA, none, false, .pu (.bget (some 9) 3 1 1 false)⟩,
   ⟨(some 11), some undefA, none, false, .pu (.build [.int .i64 0, .int .i64 0] [(0, 1, (.s 8)), (1, 1, (.s 10))])⟩,
   ⟨(some 12), some undefA, none, false, .call 37 [(.s 5), (.s 11)]⟩,
   ⟨(some 4), none, none, false, .pu (.bset none 4 0 2 (.s 12))⟩])
 (.ret))⟩
theorem t55 : trF Try.prog [2, 3, 4] [] Try.f55 = some m55 := by kernel_rfl
/-- selion/knife.owned [] -/
def m56 : MFun := ⟨18, [2], [.mov (.s 4)],
 .seq (.ops [⟨(some 2), some (.junk), none, false, .pu (.bnew (.s 0))⟩,
   ⟨(some 4), some undefA, none, false, .pu (.mov (.c (.int .i64 0)))⟩])
 (.seq (.seq (.ops [⟨(some 6), some undefA, none, false, .pu (.bget none 2 0 2 true)⟩,
   ⟨(some 7), some undefA, none, false, .call 26 [(.s 6)]⟩,
   ⟨(some 5), some undefA, none, false, .pu (.mov (.s 7))⟩])
 (.seq (.ops [⟨(some 8), some undefA, none, false, .pu (.mov (.s 5))⟩,
   ⟨(some 9), some undefA, none, false, .pu (.bin .neq (.s 8) (.c (.int .i64 0)))⟩])
 (.cond (.s 9) (.seq (.ops [⟨(some 10), some undefA, none, false, .pu (.mov (.s 5))⟩,
    ⟨(some 4), some undefA, none, false, .pu (.mov (.s 10))⟩])
  (.ret))
 (.skip))))
 (.seq (.seq (.ops [⟨(some 11), some undefA, none, false, .pu (.mov (.s 1))⟩,
   ⟨(some 12), some undefA, none, false, .pu (.badr none 2)⟩,
   ⟨(some 13), some undefA, none, false, .pu (.bget (some 12) 2 1 1 false)⟩,
   ⟨(some 14), some undefA, none, false, .pu (.len (.s 13))⟩,
   ⟨(some 15), some undefA, none, false, .pu (.bin .sub (.s 14) (.c (.int .i64 1)))⟩,
   ⟨(some 16), some undefA, none, false, .call 57 [(.s 11), (.c (.int .i64 0)), (.s 15)]⟩,
   ⟨(some 17), some undefA, none, false, .pu (.not (.s 16))⟩])
 (.cond (.s 17) (.seq (.ops [⟨(some 4), some undefA, none, false, .pu (.mov (.c (.int .i64 4)))⟩])
  (.ret))
 (.skip)))
 (.seq (.ops [⟨(some 4), some undefA, none, false, .pu (.mov (.c (.int .i64 0)))⟩])
 (.ret))))⟩
theorem t56 : trF Try.prog [2] [] Try.f56 = some m56 := by kernel_rfl
/-- selion/knife.within [] -/
def m57 : MFun := ⟨15, [], [.mov (.s 6)],
 .seq (.ops [⟨(some 6), some undefA, none, false, .pu (.mov (.c (.bool false)))⟩])
 (.seq (.ops [⟨(some 7), some undefA, none, false, .pu (.mov (.s 0))⟩,
   ⟨(some 8), some undefA, none, false, .pu (.mov (.s 1))⟩,
   ⟨(some 9), some undefA, none, false, .pu (.bin .geq (.s 7) (.s 8))⟩,
   ⟨(some 10), some undefA, none, false, .pu (.mov (.s 9))⟩,
   ⟨(some 11), some undefA, (some (10, true)), false, .pu (.mov (.s 0))⟩,
   ⟨(some 12), some undefA, (some (10, true)), false, .pu (.mov (.s 2))⟩,
   ⟨(some 13), some undefA, (some (10, true)), false, .pu (.bin .leq (.s 11) (.s 12))⟩,
   ⟨(some 14), some undefA, none, false, .pu (.pick (.s 10) (.s 13) (.c (.bool false)))⟩,
   ⟨(some 6), some undefA, none, false, .pu (.mov (.s 14))⟩])
 (.ret))⟩
theorem t57 : trF Try.prog [] [] Try.f57 = some m57 := by kernel_rfl
/-- selion/knife.mark [loop [1, 4, 6, 7, 8, 10, 21, 22, 23]] -/
def m58 : MFun := ⟨76, [4, 6, 7, 8, 13, 14, 15], [.bget none 8 0 2 true, .mov (.s 9)],
 .seq (.ops [⟨(some 4), some (.junk), none, false, .pu (.bnew (.s 0))⟩,
   ⟨(some 6), some (.junk), none, false, .pu (.bnew (.s 2))⟩,
   ⟨(some 7), some (.junk), none, false, .pu (.bnew (.s 3))⟩,
   ⟨(some 8), some (.junk), none, false, .pu (.bnew (.c (.agg [.int .i64 0, .int .i64 0])))⟩,
   ⟨(some 9), some undefA, none, false, .pu (.mov (.c (.bool false)))⟩])
 (.seq (.seq (.ops [⟨(some 16), some undefA, none, false, .pu (.badr none 7)⟩,
   ⟨(some 17), some undefA, none, false, .pu (.bget (some 16) 7 0 1 false)⟩,
   ⟨(some 18), some undefA, none, false, .pu (.bin .eql (.s 17) (.c (.int .i64 0)))⟩])
 (.cond (.s 18) (.seq (.ops [⟨(some 19), some undefA, none, false, .pu (.bget none 6 0 2 true)⟩,
    ⟨(some 8), none, none, false, .pu (.bset none 8 0 2 (.s 19))⟩,
    ⟨(some 9), some undefA, none, false, .pu (.mov (.c (.bool true)))⟩])
  (.ret))
 (.skip)))
 (.seq (.ops [⟨(some 10), some undefA, none, false, .pu (.mov (.c (.int .i64 0)))⟩])
 (.seq (.seq (.ops [⟨(some 20), some undefA, none, false, .pu (.badr none 4)⟩,
   ⟨(some 21), some undefA, none, false, .pu (.bget (some 20) 4 0 1 false)⟩,
   ⟨(some 22), some undefA, none, false, .pu (.len (.s 21))⟩,
   ⟨(some 23), some undefA, none, false, .pu (.mov (.c (.int .i64 0)))⟩])
 (.block 0 (.loop (.seq (.ops [⟨(some 24), some undefA, none, false, .pu (.bin .lss (.s 23) (.s 22))⟩])
   (.seq (.cond (.s 24) (.skip)
   (.exit 0))
   (.seq (.block 1 (.seq (.ops [⟨(some 25), some undefA, none, false, .pu (.mov (.s 23))⟩,
      ⟨(some 26), some undefA, none, false, .pu (.idx 1 (.s 21) (.s 23))⟩,
      ⟨(some 27), some undefA, none, false, .ld (.ld 1 false (.s 26))⟩,
      ⟨(some 11), some undefA, none, false, .pu (.mov (.s 25))⟩,
      ⟨(some 12), some undefA, none, false, .pu (.mov (.s 27))⟩])
    (.seq (.ops [⟨(some 28), some undefA, none, false, .pu (.bget none 6 0 2 true)⟩,
      ⟨(some 29), some undefA, none, false, .pu (.mov (.s 10))⟩,
      ⟨(some 30), some undefA, none, false, .call 76 [(.s 29)]⟩,
      ⟨(some 31), some undefA, none, false, .call 108 [(.s 28), (.s 30)]⟩,
      ⟨(some 32), some undefA, none, false, .pu (.mov (.s 10))⟩,
      ⟨(some 33), some undefA, none, false, .pu (.mov (.s 12))⟩,
      ⟨(some 34), some undefA, none, false, .pu (.bin .add (.s 32) (.s 33))⟩,
      ⟨(some 35), some undefA, none, false, .call 76 [(.s 34)]⟩,
      ⟨(some 13), some (.junk), none, false, .pu (.bnew (.c (.agg [.int .i64 0, .int .i64 0])))⟩,
      ⟨(some 14), some (.junk), none, false, .pu (.bnew (.c (.agg [.int .i64 0, .int .i64 0])))⟩,
      ⟨(some 13), none, none, false, .pu (.bset none 13 0 2 (.s 31))⟩,
      ⟨(some 14), none, none, false, .pu (.bset none 14 0 2 (.s 35))⟩])
    (.seq (.ops [⟨(some 36), some undefA, none, false, .pu (.mov (.s 10))⟩,
      ⟨(some 37), some undefA, none, false, .pu (.mov (.s 12))⟩,
      ⟨(some 38), some undefA, none, false, .pu (.bin .add (.s 36) (.s 37))⟩,
      ⟨(some 10), some undefA, none, false, .pu (.mov (.s 38))⟩])
    (.seq (.seq (.ops [⟨(some 39), some undefA, none, false, .pu (.bget none 13 0 2 true)⟩,
      ⟨(some 40), some undefA, none, false, .pu (.bget none 14 0 2 true)⟩,
      ⟨(some 41), some undefA, none, false, .call 65 [(.s 39), (.s 40)]⟩,
      ⟨(some 42), some undefA, none, false, .pu (.bin .geq (.s 41) (.c (.int .i64 0)))⟩])
    (.cond (.s 42) (.exit 1)
    (.skip)))
    (.seq (.ops [⟨(some 43), some undefA, none, true, .pu (.bget none 14 0 2 true)⟩,
      ⟨(some 44), some undefA, none, true, .pu (.bget none 13 0 2 true)⟩,
      ⟨(some 45), some undefA, none, true, .call 95 [(.s 43), (.s 44)]⟩,
      ⟨(some 46), some undefA, none, false, .pu (.badr none 4)⟩,
      ⟨(some 47), some undefA, none, false, .pu (.bget (some 46) 4 1 1 false)⟩,
      ⟨(some 48), some undefA, none, false, .pu (.mov (.s 1))⟩,
      ⟨(some 49), some undefA, none, false, .pu (.idx 1 (.s 47) (.s 48))⟩,
      ⟨(some 50), some undefA, none, true, .ld (.ld 1 false (.s 49))⟩,
      ⟨(some 51), some undefA, none, true, .pu (.mov (.s 11))⟩,
      ⟨(some 52), some undefA, none, false, .pu (.idx 1 (.s 50) (.s 51))⟩,
      ⟨(some 53), some undefA, none, true, .ld (.ld 1 false (.s 52))⟩,
      ⟨(some 54), some undefA, none, false, .call 109 [(.s 45), (.s 53)]⟩,
      ⟨(some 15), some (.junk), none, true, .pu (.bnew (.c (.agg [.int .i64 0, .int .i64 0])))⟩,
      ⟨(some 15), none, none, false, .pu (.bset none 15 0 2 (.s 54))⟩])
    (.seq (.seq (.ops [⟨(some 55), some undefA, none, false, .pu (.bget none 15 0 2 true)⟩,
      ⟨(some 56), some undefA, none, false, .pu (.bget none 7 0 2 true)⟩,
      ⟨(some 57), some undefA, none, false, .call 65 [(.s 55), (.s 56)]⟩,
      ⟨(some 58), some undefA, none, false, .pu (.bin .geq (.s 57) (.c (.int .i64 0)))⟩])
    (.cond (.s 58) (.seq (.ops [⟨(some 59), some undefA, none, true, .pu (.bget none 13 0 2 true)⟩,
       ⟨(some 60), some undefA, none, true, .pu (.bget none 7 0 2 true)⟩,
       ⟨(some 61), some undefA, none, false, .pu (.badr none 4)⟩,
       ⟨(some 62), some undefA, none, false, .pu (.bget (some 61) 4 1 1 false)⟩,
       ⟨(some 63), some undefA, none, false, .pu (.mov (.s 1))⟩,
       ⟨(some 64), some undefA, none, false, .pu (.idx 1 (.s 62) (.s 63))⟩,
       ⟨(some 65), some undefA, none, true, .ld (.ld 1 false (.s 64))⟩,
       ⟨(some 66), some undefA, none, true, .pu (.mov (.s 11))⟩,
       ⟨(some 67), some undefA, none, false, .pu (.idx 1 (.s 65) (.s 66))⟩,
       ⟨(some 68), some undefA, none, true, .ld (.ld 1 false (.s 67))⟩,
       ⟨(some 69), some undefA, none, false, .call 110 [(.s 60), (.s 68)]⟩,
       ⟨(some 70), some undefA, none, false, .call 75 [(.s 59), (.s 69)]⟩,
       ⟨(some 8), none, none, false, .pu (.bset none 8 0 2 (.s 70))⟩,
       ⟨(some 9), some undefA, none, false, .pu (.mov (.c (.bool true)))⟩])
     (.ret))
    (.skip)))
    (.ops [⟨(some 71), some undefA, none, false, .pu (.bget none 7 0 2 true)⟩,
      ⟨(some 72), some undefA, none, false, .pu (.bget none 15 0 2 true)⟩,
      ⟨(some 73), some undefA, none, false, .call 95 [(.s 71), (.s 72)]⟩,
      ⟨(some 7), none, none, false, .pu (.bset none 7 0 2 (.s 73))⟩]))))))))
   (.ops [⟨(some 74), some undefA, none, false, .pu (.bin .add (.s 23) (.c (.int .i64 1)))⟩,
     ⟨(some 23), some undefA, none, false, .pu (.mov (.s 74))⟩])))))))
 (.seq (.ops [⟨(some 75), some undefA, none, false, .pu (.build [.int .i64 0, .int .i64 0] [])⟩,
   ⟨(some 8), none, none, false, .pu (.bset none 8 0 2 (.s 75))⟩,
   ⟨(some 9), some undefA, none, false, .pu (.mov (.c (.bool false)))⟩])
 (.ret)))))⟩
theorem t58 : trF Try.prog [4, 6, 7, 8, 13, 14, 15] [] Try.f58 = some m58 := by kernel_rfl
/-- selion/frac.Of [] -/
def m59 : MFun := ⟨20, [4], [.bget none 4 0 2 true],
 .seq (.ops [⟨(some 4), some (.junk), none, false, .pu (.bnew (.c (.agg [.int .i64 0, .int .i64 0])))⟩])
 (.seq (.ops [⟨(some 6), some undefA, none, false, .pu (.mov (.s 0))⟩,
   ⟨(some 7), some undefA, none, false, .pu (.mov (.s 1))⟩,
   ⟨(some 8), some undefA, none, false, .call 111 [(.s 6), (.s 7)]⟩,
   ⟨(some 5), some undefA, none, false, .pu (.mov (.s 8))⟩])
 (.seq (.seq (.ops [⟨(some 9), some undefA, none, false, .pu (.mov (.s 1))⟩,
   ⟨(some 10), some undefA, none, false, .pu (.bin .lss (.s 9) (.c (.int .i64 0)))⟩])
 (.cond (.s 10) (.ops [⟨(some 11), some undefA, none, false, .pu (.mov (.s 5))⟩,
    ⟨(some 12), some undefA, none, false, .pu (.neg (.s 11))⟩,
    ⟨(some 5), some undefA, none, false, .pu (.mov (.s 12))⟩])
 (.skip)))
 (.seq (.ops [⟨(some 13), some undefA, none, false, .pu (.mov (.s 0))⟩,
   ⟨(some 14), some undefA, none, false, .pu (.mov (.s 5))⟩,
   ⟨(some 15), some undefA, none, false, .pu (.bin .quo (.s 13) (.s 14))⟩,
   ⟨(some 16), some undefA, none, false, .pu (.mov (.s 1))⟩,
   ⟨(some 17), some undefA, none, false, .pu (.mov (.s 5))⟩,
   ⟨(some 18), some undefA, none, false, .pu (.bin .quo (.s 16) (.s 17))⟩,
   ⟨(some 19), some undefA, none, false, .pu (.build [.int .i64 0, .int .i64 0] [(0, 1, (.s 15)), (1, 1, (.s 18))])⟩,
   ⟨(some 4), none, none, false, .pu (.bset none 4 0 2 (.s 19))⟩])
 (.ret))))⟩
theorem t59 : trF Try.prog [4] [] Try.f59 = some m59 := by kernel_rfl
/-- selion/knife.whole [loop [1, 2, 5, 9, 10, 11]] -/
def m60 : MFun := ⟨30, [2], [.mov (.s 4)],
 .seq (.ops [⟨(some 2), some (.junk), none, false, .pu (.bnew (.s 0))⟩,
   ⟨(some 4), some undefA, none, false, .pu (.mov (.c (.int .i64 0)))⟩])
 (.seq (.ops [⟨(some 5), some undefA, none, false, .pu (.mov (.c (.int .i64 0)))⟩])
 (.seq (.seq (.ops [⟨(some 8), some undefA, none, false, .pu (.badr none 2)⟩,
   ⟨(some 9), some undefA, none, false, .pu (.bget (some 8) 2 0 1 false)⟩,
   ⟨(some 10), some undefA, none, false, .pu (.len (.s 9))⟩,
   ⟨(some 11), some undefA, none, false, .pu (.mov (.c (.int .i64 0)))⟩])
 (.block 0 (.loop (.seq (.ops [⟨(some 12), some undefA, none, false, .pu (.bin .lss (.s 11) (.s 10))⟩])
   (.seq (.cond (.s 12) (.skip)
   (.exit 0))
   (.seq (.block 1 (.seq (.ops [⟨(some 13), some undefA, none, false, .pu (.mov (.s 11))⟩,
      ⟨(some 14), some undefA, none, false, .pu (.idx 1 (.s 9) (.s 11))⟩,
      ⟨(some 15), some undefA, none, false, .ld (.ld 1 false (.s 14))⟩,
      ⟨(some 6), some undefA, none, false, .pu (.mov (.s 13))⟩,
      ⟨(some 7), some undefA, none, false, .pu (.mov (.s 15))⟩])
    (.ops [⟨(some 16), some undefA, none, false, .pu (.mov (.s 5))⟩,
      ⟨(some 17), some undefA, none, false, .pu (.mov (.s 7))⟩,
      ⟨(some 18), some undefA, none, false, .pu (.badr none 2)⟩,
      ⟨(some 19), some undefA, none, false, .pu (.bget (some 18) 2 1 1 false)⟩,
      ⟨(some 20), some undefA, none, false, .pu (.mov (.s 1))⟩,
      ⟨(some 21), some undefA, none, false, .pu (.idx 1 (.s 19) (.s 20))⟩,
      ⟨(some 22), some undefA, none, false, .ld (.ld 1 false (.s 21))⟩,
      ⟨(some 23), some undefA, none, false, .pu (.mov (.s 6))⟩,
      ⟨(some 24), some undefA, none, false, .pu (.idx 1 (.s 22) (.s 23))⟩,
      ⟨(some 25), some undefA, none, false, .ld (.ld 1 false (.s 24))⟩,
      ⟨(some 26), some undefA, none, false, .pu (.bin .mul (.s 17) (.s 25))⟩,
      ⟨(some 27), some undefA, none, false, .pu (.bin .add (.s 16) (.s 26))⟩,
      ⟨(some 5), some undefA, none, false, .pu (.mov (.s 27))⟩])))
   (.ops [⟨(some 28), some undefA, none, false, .pu (.bin .add (.s 11) (.c (.int .i64 1)))⟩,
     ⟨(some 11), some undefA, none, false, .pu (.mov (.s 28))⟩])))))))
 (.seq (.ops [⟨(some 29), some undefA, none, false, .pu (.mov (.s 5))⟩,
   ⟨(some 4), some undefA, none, false, .pu (.mov (.s 29))⟩])
 (.ret))))⟩
theorem t60 : trF Try.prog [2] [] Try.f60 = some m60 := by kernel_rfl
/-- selion/selionref06.owned [loop [1, 2, 6]] -/
def m61 : MFun := ⟨28, [2], [.mov (.s 4)],
 .seq (.ops [⟨(some 2), some (.junk), none, false, .pu (.bnew (.s 0))⟩,
   ⟨(some 4), some undefA, none, false, .pu (.mov (.c (.int .i64 0)))⟩])
 (.seq (.ops [⟨(some 7), some undefA, none, false, .pu (.bget none 2 0 2 true)⟩,
   ⟨(some 8), some undefA, none, false, .call 27 [(.s 7)]⟩,
   ⟨(some 5), some undefA, none, false, .pu (.mov (.s 8))⟩])
 (.seq (.seq (.ops [⟨(some 9), some undefA, none, false, .pu (.mov (.s 5))⟩,
   ⟨(some 10), some undefA, none, false, .pu (.bin .neq (.s 9) (.c (.int .i64 0)))⟩])
 (.cond (.s 10) (.seq (.ops [⟨(some 11), some undefA, none, false, .pu (.mov (.s 5))⟩,
    ⟨(some 4), some undefA, none, false, .pu (.mov (.s 11))⟩])
  (.ret))
 (.skip)))
 (.seq (.seq (.ops [⟨(some 6), some undefA, none, false, .pu (.mov (.c (.int .i64 0)))⟩])
 (.block 0 (.loop (.seq (.seq (.ops [⟨(some 12), some undefA, none, false, .pu (.mov (.s 6))⟩,
     ⟨(some 13), some undefA, none, false, .pu (.mov (.s 1))⟩,
     ⟨(some 14), some undefA, none, false, .pu (.len (.s 13))⟩,
     ⟨(some 15), some undefA, none, false, .pu (.bin .lss (.s 12) (.s 14))⟩])
   (.cond (.s 15) (.skip)
   (.exit 0)))
   (.seq (.block 1 (.seq (.ops [⟨(some 18), some undefA, none, false, .pu (.mov (.s 1))⟩,
      ⟨(some 19), some undefA, none, false, .pu (.mov (.s 6))⟩,
      ⟨(some 20), some undefA, none, false, .pu (.idx 1 (.s 18) (.s 19))⟩,
      ⟨(some 21), some undefA, none, true, .ld (.ld 1 false (.s 20))⟩,
      ⟨(some 22), some undefA, none, true, .pu (.badr none 2)⟩,
      ⟨(some 23), some undefA, none, true, .pu (.bget (some 22) 2 1 1 false)⟩,
      ⟨(some 24), some undefA, none, true, .pu (.len (.s 23))⟩,
      ⟨(some 25), some undefA, none, true, .pu (.bin .sub (.s 24) (.c (.int .i64 1)))⟩,
      ⟨(some 26), some undefA, none, false, .call 62 [(.s 21), (.c (.int .i64 0)), (.s 25)]⟩,
      ⟨(some 27), some undefA, none, false, .pu (.not (.s 26))⟩])
    (.cond (.s 27) (.seq (.ops [⟨(some 4), some undefA, none, false, .pu (.mov (.c (.int .i64 4)))⟩])
     (.ret))
    (.skip))))
   (.ops [⟨(some 16), some undefA, none, false, .pu (.mov (.s 6))⟩,
     ⟨(some 17), some undefA, none, false, .pu (.bin .add (.s 16) (.c (.int .i64 1)))⟩,
     ⟨(some 6), some undefA, none, false, .pu (.mov (.s 17))⟩]))))))
 (.seq (.ops [⟨(some 4), some undefA, none, false, .pu (.mov (.c (.int .i64 0)))⟩])
 (.ret)))))⟩
theorem t61 : trF Try.prog [2] [] Try.f61 = some m61 := by kernel_rfl
/-- selion/selionref06.within [] -/
def m62 : MFun := ⟨15, [], [.mov (.s 6)],
 .seq (.ops [⟨(some 6), some undefA, none, false, .pu (.mov (.c (.bool false)))⟩])
 (.seq (.ops [⟨(some 7), some undefA, none, false, .pu (.mov (.s 0))⟩,
   ⟨(some 8), some undefA, none, false, .pu (.mov (.s 1))⟩,
   ⟨(some 9), some undefA, none, false, .pu (.bin .geq (.s 7) (.s 8))⟩,
   ⟨(some 10), some undefA, none, false, .pu (.mov (.s 9))⟩,
   ⟨(some 11), some undefA, (some (10, true)), false, .pu (.mov (.s 0))⟩,
   ⟨(some 12), some undefA, (some (10, true)), false, .pu (.mov (.s 2))⟩,
   ⟨(some 13), some undefA, (some (10, true)), false, .pu (.bin .leq (.s 11) (.s 12))⟩,
   ⟨(some 14), some undefA, none, false, .pu (.pick (.s 10) (.s 13) (.c (.bool false)))⟩,
   ⟨(some 6), some undefA, none, false, .pu (.mov (.s 14))⟩])
 (.ret))⟩
theorem t62 : trF Try.prog [] [] Try.f62 = some m62 := by kernel_rfl
/-- selion/selionref06.mark [] -/
def m63 : MFun := ⟨26, [5, 7, 10], [.bget none 10 0 2 true, .mov (.s 11)],
 .seq (.ops [⟨(some 5), some (.junk), none, false, .pu (.bnew (.s 0))⟩,
   ⟨(some 7), some (.junk), none, false, .pu (.bnew (.s 2))⟩,
   ⟨(some 10), some (.junk), none, false, .pu (.bnew (.c (.agg [.int .i64 0, .int .i64 0])))⟩,
   ⟨(some 11), some undefA, none, false, .pu (.mov (.c (.bool false)))⟩])
 (.seq (.ops [⟨(some 12), some undefA, none, false, .pu (.bget none 5 0 2 true)⟩,
   ⟨(some 13), some undefA, none, false, .pu (.mov (.s 1))⟩,
   ⟨(some 14), some undefA, none, false, .call 68 [(.s 12), (.s 13)]⟩,
   ⟨(some 15), some undefA, none, false, .pu (.bget none 7 0 2 true)⟩,
   ⟨(some 16), some undefA, none, false, .pu (.mov (.s 3))⟩,
   ⟨(some 17), some undefA, none, false, .pu (.bget none 5 0 2 true)⟩,
   ⟨(some 18), some undefA, none, false, .pu (.mov (.s 1))⟩,
   ⟨(some 19), some undefA, none, false, .call 79 [(.s 17), (.s 18)]⟩,
   ⟨(some 20), some undefA, none, false, .pu (.bin .mul (.s 16) (.s 19))⟩,
   ⟨(some 21), some undefA, none, false, .pu (.mov (.s 4))⟩,
   ⟨(some 22), some undefA, none, false, .call 80 [(.s 20), (.s 21)]⟩,
   ⟨(some 23), some undefA, none, false, .call 112 [(.s 14), (.s 15), (.s 22)]⟩,
   ⟨(some 24), some undefA, none, false, .pu (.extr 0 (.s 23))⟩,
   ⟨(some 25), some undefA, none, false, .pu (.extr 1 (.s 23))⟩,
   ⟨(some 10), none, none, false, .pu (.bset none 10 0 2 (.s 24))⟩,
   ⟨(some 11), some undefA, none, false, .pu (.mov (.s 25))⟩])
 (.ret))⟩
theorem t63 : trF Try.prog [5, 7, 10] [] Try.f63 = some m63 := by kernel_rfl
/-- selion/frac.Cmp [] -/
def m65 : MFun := ⟨9, [2, 3], [.mov (.s 4)],
 .seq (.ops [⟨(some 2), some (.junk), none, false, .pu (.bnew (.s 0))⟩,
   ⟨(some 3), some (.junk), none, false, .pu (.bnew (.s 1))⟩,
   ⟨(some 4), some undefA, none, false, .pu (.mov (.c (.int .i64 0)))⟩])
 (.seq (.ops [⟨(some 5), some undefA, none, false, .pu (.bget none 2 0 2 true)⟩,
   ⟨(some 6), some undefA, none, false, .pu (.bget none 3 0 2 true)⟩,
   ⟨(some 7), some undefA, none, false, .call 95 [(.s 5), (.s 6)]⟩,
   ⟨(some 8), some undefA, none, false, .pu (.part 0 1 false (.s 7))⟩,
   ⟨(some 4), some undefA, none, false, .pu (.mov (.s 8))⟩])
 (.ret))⟩
theorem t65 : trF Try.prog [2, 3] [] Try.f65 = some m65 := by kernel_rfl
/-- selion/knife.worth [loop [1, 4, 6, 7, 8, 9, 10, 17, 18, 19]] -/
def m66 : MFun := ⟨57, [4, 6, 7, 8, 9, 13, 14], [.bget none 8 0 2 true],
 .seq (.ops [⟨(some 4), some (.junk), none, false, .pu (.bnew (.s 0))⟩,
   ⟨(some 6), some (.junk), none, false, .pu (.bnew (.s 2))⟩,
   ⟨(some 7), some (.junk), none, false, .pu (.bnew (.s 3))⟩,
   ⟨(some 8), some (.junk), none, false, .pu (.bnew (.c (.agg [.int .i64 0, .int .i64 0])))⟩])
 (.seq (.ops [⟨(some 15), some undefA, none, false, .call 76 [(.c (.int .i64 0))]⟩,
   ⟨(some 9), some (.junk), none, false, .pu (.bnew (.c (.agg [.int .i64 0, .int .i64 0])))⟩,
   ⟨(some 9), none, none, false, .pu (.bset none 9 0 2 (.s 15))⟩])
 (.seq (.ops [⟨(some 10), some undefA, none, false, .pu (.mov (.c (.int .i64 0)))⟩])
 (.seq (.seq (.ops [⟨(some 16), some undefA, none, false, .pu (.badr none 4)⟩,
   ⟨(some 17), some undefA, none, false, .pu (.bget (some 16) 4 0 1 false)⟩,
   ⟨(some 18), some undefA, none, false, .pu (.len (.s 17))⟩,
   ⟨(some 19), some undefA, none, false, .pu (.mov (.c (.int .i64 0)))⟩])
 (.block 0 (.loop (.seq (.ops [⟨(some 20), some undefA, none, false, .pu (.bin .lss (.s 19) (.s 18))⟩])
   (.seq (.cond (.s 20) (.skip)
   (.exit 0))
   (.seq (.block 1 (.seq (.ops [⟨(some 21), some undefA, none, false, .pu (.mov (.s 19))⟩,
      ⟨(some 22), some undefA, none, false, .pu (.idx 1 (.s 17) (.s 19))⟩,
      ⟨(some 23), some undefA, none, false, .ld (.ld 1 false (.s 22))⟩,
      ⟨(some 11), some undefA, none, false, .pu (.mov (.s 21))⟩,
      ⟨(some 12), some undefA, none, false, .pu (.mov (.s 23))⟩])
    (.seq (.ops [⟨(some 24), some undefA, none, false, .pu (.bget none 6 0 2 true)⟩,
      ⟨(some 25), some undefA, none, false, .pu (.mov (.s 10))⟩,
      ⟨(some 26), some undefA, none, false, .call 76 [(.s 25)]⟩,
      ⟨(some 27), some undefA, none, false, .call 108 [(.s 24), (.s 26)]⟩,
      ⟨(some 28), some undefA, none, false, .pu (.bget none 7 0 2 true)⟩,
      ⟨(some 29), some undefA, none, false, .pu (.mov (.s 10))⟩,
      ⟨(some 30), some undefA, none, false, .pu (.mov (.s 12))⟩,
      ⟨(some 31), some undefA, none, false, .pu (.bin .add (.s 29) (.s 30))⟩,
      ⟨(some 32), some undefA, none, false, .call 76 [(.s 31)]⟩,
      ⟨(some 33), some undefA, none, false, .call 113 [(.s 28), (.s 32)]⟩,
      ⟨(some 13), some (.junk), none, false, .pu (.bnew (.c (.agg [.int .i64 0, .int .i64 0])))⟩,
      ⟨(some 14), some (.junk), none, false, .pu (.bnew (.c (.agg [.int .i64 0, .int .i64 0])))⟩,
      ⟨(some 13), none, none, false, .pu (.bset none 13 0 2 (.s 27))⟩,
      ⟨(some 14), none, none, false, .pu (.bset none 14 0 2 (.s 33))⟩])
    (.seq (.seq (.ops [⟨(some 34), some undefA, none, false, .pu (.bget none 13 0 2 true)⟩,
      ⟨(some 35), some undefA, none, false, .pu (.bget none 14 0 2 true)⟩,
      ⟨(some 36), some undefA, none, false, .call 65 [(.s 34), (.s 35)]⟩,
      ⟨(some 37), some undefA, none, false, .pu (.bin .lss (.s 36) (.c (.int .i64 0)))⟩])
    (.cond (.s 37) (.ops [⟨(some 38), some undefA, none, true, .pu (.bget none 9 0 2 true)⟩,
       ⟨(some 39), some undefA, none, true, .pu (.bget none 14 0 2 true)⟩,
       ⟨(some 40), some undefA, none, true, .pu (.bget none 13 0 2 true)⟩,
       ⟨(some 41), some undefA, none, true, .call 95 [(.s 39), (.s 40)]⟩,
       ⟨(some 42), some undefA, none, false, .pu (.badr none 4)⟩,
       ⟨(some 43), some undefA, none, false, .pu (.bget (some 42) 4 1 1 false)⟩,
       ⟨(some 44), some undefA, none, false, .pu (.mov (.s 1))⟩,
       ⟨(some 45), some undefA, none, false, .pu (.idx 1 (.s 43) (.s 44))⟩,
       ⟨(some 46), some undefA, none, true, .ld (.ld 1 false (.s 45))⟩,
       ⟨(some 47), some undefA, none, true, .pu (.mov (.s 11))⟩,
       ⟨(some 48), some undefA, none, false, .pu (.idx 1 (.s 46) (.s 47))⟩,
       ⟨(some 49), some undefA, none, true, .ld (.ld 1 false (.s 48))⟩,
       ⟨(some 50), some undefA, none, false, .call 109 [(.s 41), (.s 49)]⟩,
       ⟨(some 51), some undefA, none, false, .call 75 [(.s 38), (.s 50)]⟩,
       ⟨(some 9), none, none, false, .pu (.bset none 9 0 2 (.s 51))⟩])
    (.skip)))
    (.ops [⟨(some 52), some undefA, none, false, .pu (.mov (.s 10))⟩,
      ⟨(some 53), some undefA, none, false, .pu (.mov (.s 12))⟩,
      ⟨(some 54), some undefA, none, false, .pu (.bin .add (.s 52) (.s 53))⟩,
      ⟨(some 10), some undefA, none, false, .pu (.mov (.s 54))⟩])))))
   (.ops [⟨(some 55), some undefA, none, false, .pu (.bin .add (.s 19) (.c (.int .i64 1)))⟩,
     ⟨(some 19), some undefA, none, false, .pu (.mov (.s 55))⟩])))))))
 (.seq (.ops [⟨(some 56), some undefA, none, false, .pu (.bget none 9 0 2 true)⟩,
   ⟨(some 8), none, none, false, .pu (.bset none 8 0 2 (.s 56))⟩])
 (.ret)))))⟩
theorem t66 : trF Try.prog [4, 6, 7, 8, 9, 13, 14] [] Try.f66 = some m66 := by kernel_rfl
end Go.Proofs.Ytmblehbjedpjoaa

namespace Go.Proofs.Ytmblehbjedpjoaa
open Go Go.Eng
/-- selion/selionref06.units [loop [1, 2, 5, 6], loop [1, 2, 5, 6, 7]] -/
def m68 : MFun := ⟨36, [2], [.mov (.s 4)],
 .seq (.ops [⟨(some 2), some (.junk), none, false, .pu (.bnew (.s 0))⟩,
   ⟨(some 4), some undefA, none, false, .pu (.mov (.c (.nilS)))⟩])
 (.seq (.ops [⟨(some 5), some undefA, none, false, .pu (.mov (.c (.nilS)))⟩])
 (.seq (.seq (.ops [⟨(some 6), some undefA, none, false, .pu (.mov (.c (.int .i64 0)))⟩])
 (.block 0 (.loop (.seq (.seq (.ops [⟨(some 8), some undefA, none, false, .pu (.mov (.s 6))⟩,
     ⟨(some 9), some undefA, none, false, .pu (.badr none 2)⟩,
     ⟨(some 10), some undefA, none, false, .pu (.bget (some 9) 2 0 1 false)⟩,
     ⟨(some 11), some undefA, none, false, .pu (.len (.s 10))⟩,
     ⟨(some 12), some undefA, none, false, .pu (.bin .lss (.s 8) (.s 11))⟩])
   (.cond (.s 12) (.skip)
   (.exit 0)))
   (.seq (.block 1 (.seq (.ops [⟨(some 7), some undefA, none, false, .pu (.mov (.c (.int .i64 0)))⟩])
    (.block 2 (.loop (.seq (.seq (.ops [⟨(some 15), some undefA, none, false, .pu (.mov (.s 7))⟩,
        ⟨(some 16), some undefA, none, false, .pu (.badr none 2)⟩,
        ⟨(some 17), some undefA, none, false, .pu (.bget (some 16) 2 0 1 false)⟩,
        ⟨(some 18), some undefA, none, false, .pu (.mov (.s 6))⟩,
        ⟨(some 19), some undefA, none, false, .pu (.idx 1 (.s 17) (.s 18))⟩,
        ⟨(some 20), some undefA, none, false, .ld (.ld 1 false (.s 19))⟩,
        ⟨(some 21), some undefA, none, false, .pu (.bin .lss (.s 15) (.s 20))⟩])
      (.cond (.s 21) (.skip)
      (.exit 2)))
      (.seq (.block 3 (.ops [⟨(some 24), some undefA, none, false, .pu (.mov (.s 5))⟩,
         ⟨(some 25), some undefA, none, false, .pu (.badr none 2)⟩,
         ⟨(some 26), some undefA, none, false, .pu (.bget (some 25) 2 1 1 false)⟩,
         ⟨(some 27), some undefA, none, false, .pu (.mov (.s 1))⟩,
         ⟨(some 28), some undefA, none, false, .pu (.idx 1 (.s 26) (.s 27))⟩,
         ⟨(some 29), some undefA, none, false, .ld (.ld 1 false (.s 28))⟩,
         ⟨(some 30), some undefA, none, false, .pu (.mov (.s 6))⟩,
         ⟨(some 31), some undefA, none, false, .pu (.idx 1 (.s 29) (.s 30))⟩,
         ⟨(some 32), some undefA, none, false, .ld (.ld 1 false (.s 31))⟩,
         ⟨(some 33), some undefA, none, false, .ha (.blds 1 1 [.int .i64 0] [(0, 1, (.s 32))])⟩,
         ⟨(some 34), some undefA, none, false, .ha (.app 1 (.s 24) (.s 33))⟩,
         ⟨(some 5), some undefA, none, false, .pu (.mov (.s 34))⟩]))
      (.ops [⟨(some 22), some undefA, none, false, .pu (.mov (.s 7))⟩,
        ⟨(some 23), some undefA, none, false, .pu (.bin .add (.s 22) (.c (.int .i64 1)))⟩,
        ⟨(some 7), some undefA, none, false, .pu (.mov (.s 23))⟩])))))))
   (.ops [⟨(some 13), some undefA, none, false, .pu (.mov (.s 6))⟩,
     ⟨(some 14), some undefA, none, false, .pu (.bin .add (.s 13) (.c (.int .i64 1)))⟩,
     ⟨(some 6), some undefA, none, false, .pu (.mov (.s 14))⟩]))))))
 (.seq (.ops [⟨(some 35), some undefA, none, false, .pu (.mov (.s 5))⟩,
   ⟨(some 4), some undefA, none, false, .pu (.mov (.s 35))⟩])
 (.ret))))⟩
theorem t68 : trF Try.prog [2] [] Try.f68 = some m68 := by kernel_rfl
/-- slices.ContainsFunc[[]int,int] [] -/
def m69 : MFun := ⟨9, [], [.mov (.s 4)],
 .seq (.ops [⟨(some 4), some undefA, none, false, .pu (.mov (.c (.bool false)))⟩])
 (.seq (.ops [⟨(some 5), some undefA, none, false, .pu (.mov (.s 0))⟩,
   ⟨(some 6), some undefA, none, false, .pu (.mov (.s 1))⟩,
   ⟨(some 7), some undefA, none, false, .call 114 [(.s 5), (.s 6)]⟩,
   ⟨(some 8), some undefA, none, false, .pu (.bin .geq (.s 7) (.c (.int .i64 0)))⟩,
   ⟨(some 4), some undefA, none, false, .pu (.mov (.s 8))⟩])
 (.ret))⟩
theorem t69 : trF Try.prog [] [] Try.f69 = some m69 := by kernel_rfl
/-- selion/knife.Validate$1 [] -/
def m70 : MFun := ⟨6, [], [.mov (.s 2)],
 .seq (.ops [⟨(some 2), some undefA, none, false, .pu (.mov (.c (.bool false)))⟩])
 (.seq (.ops [⟨(some 3), some undefA, none, false, .pu (.mov (.s 0))⟩,
   ⟨(some 4), some undefA, none, false, .call 57 [(.s 3), (.c (.int .i64 1)), (.c (.int .i64 20))]⟩,
   ⟨(some 5), some undefA, none, false, .pu (.not (.s 4))⟩,
   ⟨(some 2), some undefA, none, false, .pu (.mov (.s 5))⟩])
 (.ret))⟩
theorem t70 : trF Try.prog [] [] Try.f70 = some m70 := by kernel_rfl
/-- selion/knife.Validate$2 [] -/
def m71 : MFun := ⟨6, [], [.mov (.s 2)],
 .seq (.ops [⟨(some 2), some undefA, none, false, .pu (.mov (.c (.bool false)))⟩])
 (.seq (.ops [⟨(some 3), some undefA, none, false, .pu (.mov (.s 0))⟩,
   ⟨(some 4), some undefA, none, false, .call 57 [(.s 3), (.c (.int .i64 0)), (.c (.int .i64 20))]⟩,
   ⟨(some 5), some undefA, none, false, .pu (.not (.s 4))⟩,
   ⟨(some 2), some undefA, none, false, .pu (.mov (.s 5))⟩])
 (.ret))⟩
theorem t71 : trF Try.prog [] [] Try.f71 = some m71 := by kernel_rfl
/-- slices.Max[[]int,int] [loop [0, 3, 4]] -/
def m72 : MFun := ⟨25, [], [.mov (.s 2)],
 .seq (.ops [⟨(some 2), some undefA, none, false, .pu (.mov (.c (.int .i64 0)))⟩])
 (.seq (.seq (.ops [⟨(some 5), some undefA, none, false, .pu (.mov (.s 0))⟩,
   ⟨(some 6), some undefA, none, false, .pu (.len (.s 5))⟩,
   ⟨(some 7), some undefA, none, false, .pu (.bin .lss (.s 6) (.c (.int .i64 1)))⟩])
 (.cond (.s 7) (.ops [⟨(some 8), some undefA, none, false, .pu (.fail)⟩,
    ⟨none, some undefA, none, false, .pu (.fail)⟩])
 (.skip)))
 (.seq (.ops [⟨(some 9), some undefA, none, false, .pu (.mov (.s 0))⟩,
   ⟨(some 10), some undefA, none, false, .pu (.idx 1 (.s 9) (.c (.int .i64 0)))⟩,
   ⟨(some 11), some undefA, none, false, .ld (.ld 1 false (.s 10))⟩,
   ⟨(some 3), some undefA, none, false, .pu (.mov (.s 11))⟩])
 (.seq (.seq (.ops [⟨(some 4), some undefA, none, false, .pu (.mov (.c (.int .i64 1)))⟩])
 (.block 0 (.loop (.seq (.seq (.ops [⟨(some 12), some undefA, none, false, .pu (.mov (.s 4))⟩,
     ⟨(some 13), some undefA, none, false, .pu (.mov (.s 0))⟩,
     ⟨(some 14), some undefA, none, false, .pu (.len (.s 13))⟩,
     ⟨(some 15), some undefA, none, false, .pu (.bin .lss (.s 12) (.s 14))⟩])
   (.cond (.s 15) (.skip)
   (.exit 0)))
   (.seq (.block 1 (.ops [⟨(some 18), some undefA, none, false, .pu (.mov (.s 3))⟩,
      ⟨(some 19), some undefA, none, false, .pu (.mov (.s 0))⟩,
      ⟨(some 20), some undefA, none, false, .pu (.mov (.s 4))⟩,
      ⟨(some 21), some undefA, none, false, .pu (.idx 1 (.s 19) (.s 20))⟩,
      ⟨(some 22), some undefA, none, false, .ld (.ld 1 false (.s 21))⟩,
      ⟨(some 23), some undefA, none, false, .pu (.mm true (.s 18) [(.s 22)])⟩,
      ⟨(some 3), some undefA, none, false, .pu (.mov (.s 23))⟩]))
   (.ops [⟨(some 16), some undefA, none, false, .pu (.mov (.s 4))⟩,
     ⟨(some 17), some undefA, none, false, .pu (.bin .add (.s 16) (.c (.int .i64 1)))⟩,
     ⟨(some 4), some undefA, none, false, .pu (.mov (.s 17))⟩]))))))
 (.seq (.ops [⟨(some 24), some undefA, none, false, .pu (.mov (.s 3))⟩,
   ⟨(some 2), some undefA, none, false, .pu (.mov (.s 24))⟩])
 (.ret)))))⟩
theorem t72 : trF Try.prog [] [] Try.f72 = some m72 := by kernel_rfl
/-- selion/knife.two [] -/
def m73 : MFun := ⟨13, [1], [.mov (.s 2)],
 .seq (.ops [⟨(some 1), some (.junk), none, false, .pu (.bnew (.s 0))⟩,
   ⟨(some 2), some undefA, none, false, .pu (.mov (.c (.int .i64 0)))⟩])
 (.seq (.seq (.ops [⟨(some 4), some undefA, none, false, .pu (.bget none 1 0 2 true)⟩,
   ⟨(some 5), some undefA, none, false, .call 26 [(.s 4)]⟩,
   ⟨(some 3), some undefA, none, false, .pu (.mov (.s 5))⟩])
 (.seq (.ops [⟨(some 6), some undefA, none, false, .pu (.mov (.s 3))⟩,
   ⟨(some 7), some undefA, none, false, .pu (.bin .neq (.s 6) (.c (.int .i64 0)))⟩])
 (.cond (.s 7) (.seq (.ops [⟨(some 8), some undefA, none, false, .pu (.mov (.s 3))⟩,
    ⟨(some 2), some undefA, none, false, .pu (.mov (.s 8))⟩])
  (.ret))
 (.skip))))
 (.seq (.seq (.ops [⟨(some 9), some undefA, none, false, .pu (.badr none 1)⟩,
   ⟨(some 10), some undefA, none, false, .pu (.bget (some 9) 1 1 1 false)⟩,
   ⟨(some 11), some undefA, none, false, .pu (.len (.s 10))⟩,
   ⟨(some 12), some undefA, none, false, .pu (.bin .neq (.s 11) (.c (.int .i64 2)))⟩])
 (.cond (.s 12) (.seq (.ops [⟨(some 2), some undefA, none, false, .pu (.mov (.c (.int .i64 5)))⟩])
  (.ret))
 (.skip)))
 (.seq (.ops [⟨(some 2), some undefA, none, false, .pu (.mov (.c (.int .i64 0)))⟩])
 (.ret))))⟩
theorem t73 : trF Try.prog [1] [] Try.f73 = some m73 := by kernel_rfl
/-- selion/knife.halves [] -/
def m74 : MFun := ⟨19, [3, 4], [.mov (.s 6)],
 .seq (.ops [⟨(some 3), some (.junk), none, false, .pu (.bnew (.s 0))⟩,
   ⟨(some 4), some (.junk), none, false, .pu (.bnew (.s 1))⟩,
   ⟨(some 6), some undefA, none, false, .pu (.mov (.c (.nilS)))⟩])
 (.seq (.ops [⟨(some 7), some undefA, none, false, .pu (.mov (.s 2))⟩,
   ⟨(some 8), some undefA, none, false, .call 76 [(.c (.int .i64 0))]⟩,
   ⟨(some 9), some undefA, none, false, .pu (.bget none 4 0 2 true)⟩,
   ⟨(some 10), some undefA, none, false, .pu (.build [.int .i64 0, .int .i64 0, .int .i64 0, .int .i64 0, .int .i64 0] [(0, 1, (.s 7)), (1, 2, (.s 8)), (3, 2, (.s 9))])⟩,
   ⟨(some 11), some undefA, none, false, .pu (.mov (.s 2))⟩,
   ⟨(some 12), some undefA, none, false, .pu (.bin .sub (.c (.int .i64 1)) (.s 11))⟩,
   ⟨(some 13), some undefA, none, false, .pu (.bget none 4 0 2 true)⟩,
   ⟨(some 14), some undefA, none, false, .pu (.bget none 3 0 2 true)⟩,
   ⟨(some 15), some undefA, none, false, .call 77 [(.s 14)]⟩,
   ⟨(some 16), some undefA, none, false, .call 76 [(.s 15)]⟩,
   ⟨(some 17), some undefA, none, false, .pu (.build [.int .i64 0, .int .i64 0, .int .i64 0, .int .i64 0, .int .i64 0] [(0, 1, (.s 12)), (1, 2, (.s 13)), (3, 2, (.s 16))])⟩,
   ⟨(some 18), some undefA, none, false, .ha (.blds 5 2 [.int .i64 0, .int .i64 0, .int .i64 0, .int .i64 0, .int .i64 0] [(0, 5, (.s 10)), (5, 5, (.s 17))])⟩,
   ⟨(some 6), some undefA, none, false, .pu (.mov (.s 18))⟩])
 (.ret))⟩
theorem t74 : trF Try.prog [3, 4] [] Try.f74 = some m74 := by kernel_rfl
/-- selion/frac.Add [] -/
def m75 : MFun := ⟨34, [2, 3, 4], [.bget none 4 0 2 true],
 .seq (.ops [⟨(some 2), some (.junk), none, false, .pu (.bnew (.s 0))⟩,
   ⟨(some 3), some (.junk), none, false, .pu (.bnew (.s 1))⟩,
   ⟨(some 4), some (.junk), none, false, .pu (.bnew (.c (.agg [.int .i64 0, .int .i64 0])))⟩])
 (.seq (.ops [⟨(some 6), some undefA, none, false, .pu (.badr none 2)⟩,
   ⟨(some 7), some undefA, none, false, .pu (.bget (some 6) 2 1 1 false)⟩,
   ⟨(some 8), some undefA, none, false, .pu (.badr none 3)⟩,
   ⟨(some 9), some undefA, none, false, .pu (.bget (some 8) 3 1 1 false)⟩,
   ⟨(some 10), some undefA, none, false, .call 111 [(.s 7), (.s 9)]⟩,
   ⟨(some 5), some undefA, none, false, .pu (.mov (.s 10))⟩])
 (.seq (.ops [⟨(some 11), some undefA, none, false, .pu (.badr none 2)⟩,
   ⟨(some 12), some undefA, none, false, .pu (.bget (some 11) 2 0 1 false)⟩,
   ⟨(some 13), some undefA, none, false, .pu (.badr none 3)⟩,
   ⟨(some 14), some undefA, none, false, .pu (.bget (some 13) 3 1 1 false)⟩,
   ⟨(some 15), some undefA, none, false, .pu (.mov (.s 5))⟩,
   ⟨(some 16), some undefA, none, false, .pu (.bin .quo (.s 14) (.s 15))⟩,
   ⟨(some 17), some undefA, none, false, .pu (.bin .mul (.s 12) (.s 16))⟩,
   ⟨(some 18), some undefA, none, false, .pu (.badr none 3)⟩,
   ⟨(some 19), some undefA, none, false, .pu (.bget (some 18) 3 0 1 false)⟩,
   ⟨(some 20), some undefA, none, false, .pu (.badr none 2)⟩,
   ⟨(some 21), some undefA, none, false, .pu (.bget (some 20) 2 1 1 false)⟩,
   ⟨(some 22), some undefA, none, false, .pu (.mov (.s 5))⟩,
   ⟨(some 23), some undefA, none, false, .pu (.bin .quo (.s 21) (.s 22))⟩,
   ⟨(some 24), some undefA, none, false, .pu (.bin .mul (.s 19) (.s 23))⟩,
   ⟨(some 25), some undefA, none, false, .pu (.bin .add (.s 17) (.s 24))⟩,
   ⟨(some 26), some undefA, none, false, .pu (.badr none 2)⟩,
   ⟨(some 27), some undefA, none, false, .pu (.bget (some 26) 2 1 1 false)⟩,
   ⟨(some 28), some undefA, none, false, .pu (.mov (.s 5))⟩,
   ⟨(some 29), some undefA, none, false, .pu (.bin .quo (.s 27) (.s 28))⟩,
   ⟨(some 30), some undefA, none, false, .pu (.badr none 3)⟩,
   ⟨(some 31), some undefA, none, false, .pu (.bget (some 30) 3 1 1 false)⟩,
   ⟨(some 32), some undefA, none, false, .pu (.bin .mul (.s 29) (.s 31))⟩,
   ⟨(some 33), some undefA, none, false, .call 59 [(.s 25), (.s 32)]⟩,
   ⟨(some 4), none, none, false, .pu (.bset none 4 0 2 (.s 33))⟩])
 (.ret)))⟩
theorem t75 : trF Try.prog [2, 3, 4] [] Try.f75 = some m75 := by kernel_rfl
/-- selion/frac.Int [] -/
def m76 : MFun := ⟨5, [2], [.bget none 2 0 2 true],
 .seq (.ops [⟨(some 2), some (.junk), none, false, .pu (.bnew (.c (.agg [.int .i64 0, .int .i64 0])))⟩])
 (.seq (.ops [⟨(some 3), some undefA, none, false, .pu (.mov (.s 0))⟩,
   ⟨(some 4), some undefA, none, false, .pu (.build [.int .i64 0, .int .i64 0] [(0, 1, (.s 3)), (1, 1, (.c (.int .i64 1)))])⟩,
   ⟨(some 2), none, none, false, .pu (.bset none 2 0 2 (.s 4))⟩])
 (.ret))⟩
theorem t76 : trF Try.prog [2] [] Try.f76 = some m76 := by kernel_rfl
/-- selion/knife.end [loop [3, 7, 8, 9]] -/
def m77 : MFun := ⟨18, [1], [.mov (.s 2)],
 .seq (.ops [⟨(some 1), some (.junk), none, false, .pu (.bnew (.s 0))⟩,
   ⟨(some 2), some undefA, none, false, .pu (.mov (.c (.int .i64 0)))⟩])
 (.seq (.ops [⟨(some 3), some undefA, none, false, .pu (.mov (.c (.int .i64 0)))⟩])
 (.seq (.seq (.ops [⟨(some 6), some undefA, none, false, .pu (.badr none 1)⟩,
   ⟨(some 7), some undefA, none, false, .pu (.bget (some 6) 1 0 1 false)⟩,
   ⟨(some 8), some undefA, none, false, .pu (.len (.s 7))⟩,
   ⟨(some 9), some undefA, none, false, .pu (.mov (.c (.int .i64 0)))⟩])
 (.block 0 (.loop (.seq (.ops [⟨(some 10), some undefA, none, false, .pu (.bin .lss (.s 9) (.s 8))⟩])
   (.seq (.cond (.s 10) (.skip)
   (.exit 0))
   (.seq (.block 1 (.seq (.ops [⟨(some 11), some undefA, none, false, .pu (.idx 1 (.s 7) (.s 9))⟩,
      ⟨(some 12), some undefA, none, false, .ld (.ld 1 false (.s 11))⟩,
      ⟨(some 5), some undefA, none, false, .pu (.mov (.s 12))⟩])
    (.ops [⟨(some 13), some undefA, none, false, .pu (.mov (.s 3))⟩,
      ⟨(some 14), some undefA, none, false, .pu (.mov (.s 5))⟩,
      ⟨(some 15), some undefA, none, false, .pu (.bin .add (.s 13) (.s 14))⟩,
      ⟨(some 3), some undefA, none, false, .pu (.mov (.s 15))⟩])))
   (.ops [⟨(some 16), some undefA, none, false, .pu (.bin .add (.s 9) (.c (.int .i64 1)))⟩,
     ⟨(some 9), some undefA, none, false, .pu (.mov (.s 16))⟩])))))))
 (.seq (.ops [⟨(some 17), some undefA, none, false, .pu (.mov (.s 3))⟩,
   ⟨(some 2), some undefA, none, false, .pu (.mov (.s 17))⟩])
 (.ret))))⟩
theorem t77 : trF Try.prog [1] [] Try.f77 = some m77 := by kernel_rfl
/-- selion/selionref06.all [loop [5, 6, 7]] -/
def m79 : MFun := ⟨24, [2], [.mov (.s 4)],
 .seq (.ops [⟨(some 2), some (.junk), none, false, .pu (.bnew (.s 0))⟩,
   ⟨(some 4), some undefA, none, false, .pu (.mov (.c (.int .i64 0)))⟩])
 (.seq (.ops [⟨(some 5), some undefA, none, false, .pu (.mov (.c (.int .i64 0)))⟩])
 (.seq (.ops [⟨(some 8), some undefA, none, false, .pu (.bget none 2 0 2 true)⟩,
   ⟨(some 9), some undefA, none, false, .pu (.mov (.s 1))⟩,
   ⟨(some 10), some undefA, none, false, .call 68 [(.s 8), (.s 9)]⟩,
   ⟨(some 6), some undefA, none, false, .pu (.mov (.s 10))⟩])
 (.seq (.seq (.ops [⟨(some 7), some undefA, none, false, .pu (.mov (.c (.int .i64 0)))⟩])
 (.block 0 (.loop (.seq (.seq (.ops [⟨(some 11), some undefA, none, false, .pu (.mov (.s 7))⟩,
     ⟨(some 12), some undefA, none, false, .pu (.mov (.s 6))⟩,
     ⟨(some 13), some undefA, none, false, .pu (.len (.s 12))⟩,
     ⟨(some 14), some undefA, none, false, .pu (.bin .lss (.s 11) (.s 13))⟩])
   (.cond (.s 14) (.skip)
   (.exit 0)))
   (.seq (.block 1 (.ops [⟨(some 17), some undefA, none, false, .pu (.mov (.s 5))⟩,
      ⟨(some 18), some undefA, none, false, .pu (.mov (.s 6))⟩,
      ⟨(some 19), some undefA, none, false, .pu (.mov (.s 7))⟩,
      ⟨(some 20), some undefA, none, false, .pu (.idx 1 (.s 18) (.s 19))⟩,
      ⟨(some 21), some undefA, none, false, .ld (.ld 1 false (.s 20))⟩,
      ⟨(some 22), some undefA, none, false, .pu (.bin .add (.s 17) (.s 21))⟩,
      ⟨(some 5), some undefA, none, false, .pu (.mov (.s 22))⟩]))
   (.ops [⟨(some 15), some undefA, none, false, .pu (.mov (.s 7))⟩,
     ⟨(some 16), some undefA, none, false, .pu (.bin .add (.s 15) (.c (.int .i64 1)))⟩,
     ⟨(some 7), some undefA, none, false, .pu (.mov (.s 16))⟩]))))))
 (.seq (.ops [⟨(some 23), some undefA, none, false, .pu (.mov (.s 5))⟩,
   ⟨(some 4), some undefA, none, false, .pu (.mov (.s 23))⟩])
 (.ret)))))⟩
theorem t79 : trF Try.prog [2] [] Try.f79 = some m79 := by kernel_rfl
/-- selion/selionref02.Ratio [] -/
def m80 : MFun := ⟨16, [4], [.bget none 4 0 2 true],
 .seq (.ops [⟨(some 4), some (.junk), none, false, .pu (.bnew (.c (.agg [.int .i64 0, .int .i64 0])))⟩])
 (.seq (.ops [⟨(some 6), some undefA, none, false, .pu (.mov (.s 0))⟩,
   ⟨(some 7), some undefA, none, false, .pu (.mov (.s 1))⟩,
   ⟨(some 8), some undefA, none, false, .call 91 [(.s 6), (.s 7)]⟩,
   ⟨(some 5), some undefA, none, false, .pu (.mov (.s 8))⟩])
 (.seq (.ops [⟨(some 9), some undefA, none, false, .pu (.mov (.s 0))⟩,
   ⟨(some 10), some undefA, none, false, .pu (.mov (.s 5))⟩,
   ⟨(some 11), some undefA, none, false, .pu (.bin .quo (.s 9) (.s 10))⟩,
   ⟨(some 12), some undefA, none, false, .pu (.mov (.s 1))⟩,
   ⟨(some 13), some undefA, none, false, .pu (.mov (.s 5))⟩,
   ⟨(some 14), some undefA, none, false, .pu (.bin .quo (.s 12) (.s 13))⟩,
   ⟨(some 15), some undefA, none, false, .pu (.build [.int .i64 0, .int .i64 0] [(0, 1, (.s 11)), (1, 1, (.s 14))])⟩,
   ⟨(some 4), none, none, false, .pu (.bset none 4 0 2 (.s 15))⟩])
 (.ret)))⟩
theorem t80 : trF Try.prog [4] [] Try.f80 = some m80 := by kernel_rfl
/-- selion/knife.first[selion/api.Rat] [loop [1, 2, 7, 13, 14, 15]] -/
def m83 : MFun := ⟨31, [], [.mov (.s 6)],
 .seq (.ops [⟨(some 6), some undefA, none, false, .pu (.mov (.c (.int .i64 0)))⟩])
 (.seq (.ops [⟨(some 10), some undefA, none, false, .pu (.mov (.s 0))⟩,
   ⟨(some 11), some undefA, none, false, .pu (.idx 1 (.s 10) (.c (.int .i64 0)))⟩,
   ⟨(some 12), some undefA, none, false, .ld (.ld 1 false (.s 11))⟩,
   ⟨(some 7), some undefA, none, false, .pu (.mov (.s 12))⟩])
 (.seq (.seq (.ops [⟨(some 13), some undefA, none, false, .pu (.mov (.s 0))⟩,
   ⟨(some 14), some undefA, none, false, .pu (.len (.s 13))⟩,
   ⟨(some 15), some undefA, none, false, .pu (.mov (.c (.int .i64 0)))⟩])
 (.block 0 (.loop (.seq (.ops [⟨(some 16), some undefA, none, false, .pu (.bin .lss (.s 15) (.s 14))⟩])
   (.seq (.cond (.s 16) (.skip)
   (.exit 0))
   (.seq (.block 1 (.seq (.ops [⟨(some 17), some undefA, none, false, .pu (.idx 1 (.s 13) (.s 15))⟩,
      ⟨(some 18), some undefA, none, false, .ld (.ld 1 false (.s 17))⟩,
      ⟨(some 9), some undefA, none, false, .pu (.mov (.s 18))⟩])
    (.seq (.ops [⟨(some 19), some undefA, none, false, .pu (.mov (.s 2))⟩,
      ⟨(some 20), some undefA, none, false, .pu (.mov (.s 1))⟩,
      ⟨(some 21), some undefA, none, false, .pu (.mov (.s 9))⟩,
      ⟨(some 22), some undefA, none, false, .callv (.s 20) [(.s 21)]⟩,
      ⟨(some 23), some undefA, none, false, .pu (.mov (.s 1))⟩,
      ⟨(some 24), some undefA, none, false, .pu (.mov (.s 7))⟩,
      ⟨(some 25), some undefA, none, false, .callv (.s 23) [(.s 24)]⟩,
      ⟨(some 26), some undefA, none, false, .callv (.s 19) [(.s 22), (.s 25)]⟩,
      ⟨(some 27), some undefA, none, false, .pu (.bin .lss (.s 26) (.c (.int .i64 0)))⟩])
    (.cond (.s 27) (.ops [⟨(some 28), some undefA, none, false, .pu (.mov (.s 9))⟩,
       ⟨(some 7), some undefA, none, false, .pu (.mov (.s 28))⟩])
    (.skip)))))
   (.ops [⟨(some 29), some undefA, none, false, .pu (.bin .add (.s 15) (.c (.int .i64 1)))⟩,
     ⟨(some 15), some undefA, none, false, .pu (.mov (.s 29))⟩])))))))
 (.seq (.ops [⟨(some 30), some undefA, none, false, .pu (.mov (.s 7))⟩,
   ⟨(some 6), some undefA, none, false, .pu (.mov (.s 30))⟩])
 (.ret))))⟩
theorem t83 : trF Try.prog [] [] Try.f83 = some m83 := by kernel_rfl
/-- selion/knife.Knife$1 [] -/
def m84 : MFun := ⟨8, [3], [.bget none 3 0 2 true],
 .seq (.ops [⟨(some 3), some (.junk), none, false, .pu (.bnew (.c (.agg [.int .i64 0, .int .i64 0])))⟩])
 (.seq (.ops [⟨(some 4), some undefA, none, false, .ld (.ld 1 false (.s 1))⟩,
   ⟨(some 5), some undefA, none, false, .pu (.mov (.s 0))⟩,
   ⟨(some 6), some undefA, none, false, .pu (.idx 2 (.s 4) (.s 5))⟩,
   ⟨(some 7), some undefA, none, false, .ld (.ld 2 true (.s 6))⟩,
   ⟨(some 3), none, none, false, .pu (.bset none 3 0 2 (.s 7))⟩])
 (.ret))⟩
theorem t84 : trF Try.prog [3] [] Try.f84 = some m84 := by kernel_rfl
/-- slices.DeleteFunc[[]int,int] [loop [0, 1, 5, 6]] -/
def m85 : MFun := ⟨42, [], [.mov (.s 4)],
 .seq (.ops [⟨(some 4), some undefA, none, false, .pu (.mov (.c (.nilS)))⟩])
 (.seq (.ops [⟨(some 8), some undefA, none, false, .pu (.mov (.s 0))⟩,
   ⟨(some 9), some undefA, none, false, .pu (.mov (.s 1))⟩,
   ⟨(some 10), some undefA, none, false, .call 114 [(.s 8), (.s 9)]⟩,
   ⟨(some 5), some undefA, none, false, .pu (.mov (.s 10))⟩])
 (.seq (.seq (.ops [⟨(some 11), some undefA, none, false, .pu (.mov (.s 5))⟩,
   ⟨(some 12), some undefA, none, false, .pu (.bin .eql (.s 11) (.c (.int .i64 (-1))))⟩])
 (.cond (.s 12) (.seq (.ops [⟨(some 13), some undefA, none, false, .pu (.mov (.s 0))⟩,
    ⟨(some 4), some undefA, none, false, .pu (.mov (.s 13))⟩])
  (.ret))
 (.skip)))
 (.seq (.seq (.ops [⟨(some 14), some undefA, none, false, .pu (.mov (.s 5))⟩,
   ⟨(some 15), some undefA, none, false, .pu (.bin .add (.s 14) (.c (.int .i64 1)))⟩,
   ⟨(some 6), some undefA, none, false, .pu (.mov (.s 15))⟩])
 (.block 0 (.loop (.seq (.seq (.ops [⟨(some 16), some undefA, none, false, .pu (.mov (.s 6))⟩,
     ⟨(some 17), some undefA, none, false, .pu (.mov (.s 0))⟩,
     ⟨(some 18), some undefA, none, false, .pu (.len (.s 17))⟩,
     ⟨(some 19), some undefA, none, false, .pu (.bin .lss (.s 16) (.s 18))⟩])
   (.cond (.s 19) (.skip)
   (.exit 0)))
   (.seq (.block 1 (.seq (.ops [⟨(some 22), some undefA, none, false, .pu (.mov (.s 0))⟩,
      ⟨(some 23), some undefA, none, false, .pu (.mov (.s 6))⟩,
      ⟨(some 24), some undefA, none, false, .pu (.idx 1 (.s 22) (.s 23))⟩,
      ⟨(some 25), some undefA, none, false, .ld (.ld 1 false (.s 24))⟩,
      ⟨(some 7), some undefA, none, false, .pu (.mov (.s 25))⟩])
    (.seq (.ops [⟨(some 26), some undefA, none, false, .pu (.mov (.s 1))⟩,
      ⟨(some 27), some undefA, none, false, .pu (.mov (.s 7))⟩,
      ⟨(some 28), some undefA, none, false, .callv (.s 26) [(.s 27)]⟩,
      ⟨(some 29), some undefA, none, false, .pu (.not (.s 28))⟩])
    (.cond (.s 29) (.seq (.ops [⟨(some 30), some undefA, none, false, .pu (.mov (.s 0))⟩,
       ⟨(some 31), some undefA, none, false, .pu (.mov (.s 5))⟩,
       ⟨(some 32), some undefA, none, false, .pu (.mov (.s 7))⟩,
       ⟨(some 33), some undefA, none, false, .pu (.idx 1 (.s 30) (.s 31))⟩,
       ⟨none, some undefA, none, false, .ha (.st 1 (.s 33) (.s 32))⟩])
     (.ops [⟨(some 34), some undefA, none, false, .pu (.mov (.s 5))⟩,
       ⟨(some 35), some undefA, none, false, .pu (.bin .add (.s 34) (.c (.int .i64 1)))⟩,
       ⟨(some 5), some undefA, none, false, .pu (.mov (.s 35))⟩]))
    (.skip)))))
   (.ops [⟨(some 20), some undefA, none, false, .pu (.mov (.s 6))⟩,
     ⟨(some 21), some undefA, none, false, .pu (.bin .add (.s 20) (.c (.int .i64 1)))⟩,
     ⟨(some 6), some undefA, none, false, .pu (.mov (.s 21))⟩]))))))
 (.seq (.ops [⟨(some 36), some undefA, none, false, .pu (.mov (.s 0))⟩,
   ⟨(some 37), some undefA, none, false, .pu (.mov (.s 5))⟩,
   ⟨(some 38), some undefA, none, false, .pu (.slc 1 (.s 36) (some (.s 37)) none none)⟩,
   ⟨none, some undefA, none, false, .ha (.clr 1 [.int .i64 0] (.s 38))⟩])
 (.seq (.ops [⟨(some 39), some undefA, none, false, .pu (.mov (.s 0))⟩,
   ⟨(some 40), some undefA, none, false, .pu (.mov (.s 5))⟩,
   ⟨(some 41), some undefA, none, false, .pu (.slc 1 (.s 39) none (some (.s 40)) none)⟩,
   ⟨(some 4), some undefA, none, false, .pu (.mov (.s 41))⟩])
 (.ret))))))⟩
theorem t85 : trF Try.prog [] [] Try.f85 = some m85 := by kernel_rfl
/-- selion/knife.Knife$2 [] -/
def m86 : MFun := ⟨7, [], [.mov (.s 3)],
 .seq (.ops [⟨(some 3), some undefA, none, false, .pu (.mov (.c (.bool false)))⟩])
 (.seq (.ops [⟨(some 4), some undefA, none, false, .pu (.mov (.s 0))⟩,
   ⟨(some 5), some undefA, none, false, .ld (.ld 1 false (.s 1))⟩,
   ⟨(some 6), some undefA, none, false, .pu (.bin .eql (.s 4) (.s 5))⟩,
   ⟨(some 3), some undefA, none, false, .pu (.mov (.s 6))⟩])
 (.ret))⟩
theorem t86 : trF Try.prog [] [] Try.f86 = some m86 := by kernel_rfl
/-- selion/selionref06.end [] -/
def m87 : MFun := ⟨7, [1, 2], [.bget none 2 0 2 true],
 .seq (.ops [⟨(some 1), some (.junk), none, false, .pu (.bnew (.s 0))⟩,
   ⟨(some 2), some (.junk), none, false, .pu (.bnew (.c (.agg [.int .i64 0, .int .i64 0])))⟩])
 (.seq (.ops [⟨(some 3), some undefA, none, false, .pu (.bget none 1 0 2 true)⟩,
   ⟨(some 4), some undefA, none, false, .call 68 [(.s 3), (.c (.int .i64 0))]⟩,
   ⟨(some 5), some undefA, none, false, .pu (.len (.s 4))⟩,
   ⟨(some 6), some undefA, none, false, .call 36 [(.s 5)]⟩,
   ⟨(some 2), none, none, false, .pu (.bset none 2 0 2 (.s 6))⟩])
 (.ret))⟩
theorem t87 : trF Try.prog [1, 2] [] Try.f87 = some m87 := by kernel_rfl
/-- selion/selionref02.gcd [loop [5, 6]] -/
def m91 : MFun := ⟨24, [], [.mov (.s 4)],
 .seq (.ops [⟨(some 4), some undefA, none, false, .pu (.mov (.c (.int .i64 0)))⟩])
 (.seq (.ops [⟨(some 8), some undefA, none, false, .pu (.mov (.s 0))⟩,
   ⟨(some 9), some undefA, none, false, .pu (.mov (.s 0))⟩,
   ⟨(some 10), some undefA, none, false, .pu (.neg (.s 9))⟩,
   ⟨(some 11), some undefA, none, false, .pu (.mm true (.s 8) [(.s 10)])⟩,
   ⟨(some 12), some undefA, none, false, .pu (.mov (.s 1))⟩,
   ⟨(some 13), some undefA, none, false, .pu (.mov (.s 1))⟩,
   ⟨(some 14), some undefA, none, false, .pu (.neg (.s 13))⟩,
   ⟨(some 15), some undefA, none, false, .pu (.mm true (.s 12) [(.s 14)])⟩,
   ⟨(some 5), some undefA, none, false, .pu (.mov (.s 11))⟩,
   ⟨(some 6), some undefA, none, false, .pu (.mov (.s 15))⟩])
 (.seq (.block 0 (.loop (.seq (.seq (.ops [⟨(some 16), some undefA, none, false, .pu (.mov (.s 6))⟩,
     ⟨(some 17), some undefA, none, false, .pu (.bin .gtr (.s 16) (.c (.int .i64 0)))⟩])
   (.cond (.s 17) (.skip)
   (.exit 0)))
   (.block 1 (.seq (.ops [⟨(some 18), some undefA, none, false, .pu (.mov (.s 5))⟩,
      ⟨(some 19), some undefA, none, false, .pu (.mov (.s 6))⟩,
      ⟨(some 20), some undefA, none, false, .pu (.bin .rem (.s 18) (.s 19))⟩,
      ⟨(some 7), some undefA, none, false, .pu (.mov (.s 20))⟩])
    (.seq (.ops [⟨(some 21), some undefA, none, false, .pu (.mov (.s 6))⟩,
      ⟨(some 5), some undefA, none, false, .pu (.mov (.s 21))⟩])
    (.ops [⟨(some 22), some undefA, none, false, .pu (.mov (.s 7))⟩,
      ⟨(some 6), some undefA, none, false, .pu (.mov (.s 22))⟩])))))))
 (.seq (.ops [⟨(some 23), some undefA, none, false, .pu (.mov (.s 5))⟩,
   ⟨(some 4), some undefA, none, false, .pu (.mov (.s 23))⟩])
 (.ret))))⟩
theorem t91 : trF Try.prog [] [] Try.f91 = some m91 := by kernel_rfl
/-- selion/knife.copied [loop [2, 3, 11, 12, 13]] -/
def m92 : MFun := ⟨26, [1, 2, 3], [.bget none 2 0 2 true],
 .seq (.ops [⟨(some 1), some (.junk), none, false, .pu (.bnew (.s 0))⟩,
   ⟨(some 2), some (.junk), none, false, .pu (.bnew (.c (.agg [.nilS, .nilS])))⟩])
 (.seq (.ops [⟨(some 6), some undefA, none, false, .pu (.badr none 1)⟩,
   ⟨(some 7), some undefA, none, false, .pu (.bget (some 6) 1 0 1 false)⟩,
   ⟨(some 8), some undefA, none, false, .call 116 [(.s 7)]⟩,
   ⟨(some 9), some undefA, none, false, .pu (.build [.nilS, .nilS] [(0, 1, (.s 8))])⟩,
   ⟨(some 3), some (.junk), none, false, .pu (.bnew (.c (.agg [.nilS, .nilS])))⟩,
   ⟨(some 3), none, none, false, .pu (.bset none 3 0 2 (.s 9))⟩])
 (.seq (.seq (.ops [⟨(some 10), some undefA, none, false, .pu (.badr none 1)⟩,
   ⟨(some 11), some undefA, none, false, .pu (.bget (some 10) 1 1 1 false)⟩,
   ⟨(some 12), some undefA, none, false, .pu (.len (.s 11))⟩,
   ⟨(some 13), some undefA, none, false, .pu (.mov (.c (.int .i64 0)))⟩])
 (.block 0 (.loop (.seq (.ops [⟨(some 14), some undefA, none, false, .pu (.bin .lss (.s 13) (.s 12))⟩])
   (.seq (.cond (.s 14) (.skip)
   (.exit 0))
   (.seq (.block 1 (.seq (.ops [⟨(some 15), some undefA, none, false, .pu (.idx 1 (.s 11) (.s 13))⟩,
      ⟨(some 16), some undefA, none, false, .ld (.ld 1 false (.s 15))⟩,
      ⟨(some 5), some undefA, none, false, .pu (.mov (.s 16))⟩])
    (.ops [⟨(some 17), some undefA, none, false, .pu (.badr none 3)⟩,
      ⟨(some 18), some undefA, none, false, .pu (.bget (some 17) 3 1 1 false)⟩,
      ⟨(some 19), some undefA, none, false, .pu (.mov (.s 5))⟩,
      ⟨(some 20), some undefA, none, false, .call 116 [(.s 19)]⟩,
      ⟨(some 21), some undefA, none, false, .ha (.blds 1 1 [.nilS] [(0, 1, (.s 20))])⟩,
      ⟨(some 22), some undefA, none, false, .ha (.app 1 (.s 18) (.s 21))⟩,
      ⟨(some 23), some undefA, none, false, .pu (.badr none 3)⟩,
      ⟨(some 3), none, none, false, .pu (.bset (some 23) 3 1 1 (.s 22))⟩])))
   (.ops [⟨(some 24), some undefA, none, false, .pu (.bin .add (.s 13) (.c (.int .i64 1)))⟩,
     ⟨(some 13), some undefA, none, false, .pu (.mov (.s 24))⟩])))))))
 (.seq (.ops [⟨(some 25), some undefA, none, false, .pu (.bget none 3 0 2 true)⟩,
   ⟨(some 2), none, none, false, .pu (.bset none 2 0 2 (.s 25))⟩])
 (.ret))))⟩
theorem t92 : trF Try.prog [1, 2, 3] [] Try.f92 = some m92 := by kernel_rfl
/-- selion/frac.Sub [] -/
def m95 : MFun := ⟨13, [2, 3, 4], [.bget none 4 0 2 true],
 .seq (.ops [⟨(some 2), some (.junk), none, false, .pu (.bnew (.s 0))⟩,
   ⟨(some 3), some (.junk), none, false, .pu (.bnew (.s 1))⟩,
   ⟨(some 4), some (.junk), none, false, .pu (.bnew (.c (.agg [.int .i64 0, .int .i64 0])))⟩])
 (.seq (.ops [⟨(some 5), some undefA, none, false, .pu (.bget none 2 0 2 true)⟩,
   ⟨(some 6), some undefA, none, false, .pu (.badr none 3)⟩,
   ⟨(some 7), some undefA, none, false, .pu (.bget (some 6) 3 0 1 false)⟩,
   ⟨(some 8), some undefA, none, false, .pu (.neg (.s 7))⟩,
   ⟨(some 9), some undefA, none, false, .pu (.badr none 3)⟩,
   ⟨(some 10), some undefA, none, false, .pu (.bget (some 9) 3 1 1 false)⟩,
   ⟨(some 11), some undefA, none, false, .pu (.build [.int .i64 0, .int .i64 0] [(0, 1, (.s 8)), (1, 1, (.s 10))])⟩,
   ⟨(some 12), some undefA, none, false, .call 75 [(.s 5), (.s 11)]⟩,
   ⟨(some 4), none, none, false, .pu (.bset none 4 0 2 (.s 12))⟩])
 (.ret))⟩
theorem t95 : trF Try.prog [2, 3, 4] [] Try.f95 = some m95 := by kernel_rfl
/-- selion/selionref02.SameInts [loop [0, 1, 5]] -/
def m103 : MFun := ⟨26, [], [.mov (.s 4)],
 .seq (.ops [⟨(some 4), some undefA, none, false, .pu (.mov (.c (.bool false)))⟩])
 (.seq (.seq (.ops [⟨(some 6), some undefA, none, false, .pu (.mov (.s 0))⟩,
   ⟨(some 7), some undefA, none, false, .pu (.len (.s 6))⟩,
   ⟨(some 8), some undefA, none, false, .pu (.mov (.s 1))⟩,
   ⟨(some 9), some undefA, none, false, .pu (.len (.s 8))⟩,
   ⟨(some 10), some undefA, none, false, .pu (.bin .neq (.s 7) (.s 9))⟩])
 (.cond (.s 10) (.seq (.ops [⟨(some 4), some undefA, none, false, .pu (.mov (.c (.bool false)))⟩])
  (.ret))
 (.skip)))
 (.seq (.seq (.ops [⟨(some 5), some undefA, none, false, .pu (.mov (.c (.int .i64 0)))⟩])
 (.block 0 (.loop (.seq (.seq (.ops [⟨(some 11), some undefA, none, false, .pu (.mov (.s 5))⟩,
     ⟨(some 12), some undefA, none, false, .pu (.mov (.s 0))⟩,
     ⟨(some 13), some undefA, none, false, .pu (.len (.s 12))⟩,
     ⟨(some 14), some undefA, none, false, .pu (.bin .lss (.s 11) (.s 13))⟩])
   (.cond (.s 14) (.skip)
   (.exit 0)))
   (.seq (.block 1 (.seq (.ops [⟨(some 17), some undefA, none, true, .pu (.mov (.s 0))⟩,
      ⟨(some 18), some undefA, none, true, .pu (.mov (.s 5))⟩,
      ⟨(some 19), some undefA, none, true, .pu (.idx 1 (.s 17) (.s 18))⟩,
      ⟨(some 20), some undefA, none, true, .ld (.ld 1 false (.s 19))⟩,
      ⟨(some 21), some undefA, none, true, .pu (.mov (.s 1))⟩,
      ⟨(some 22), some undefA, none, true, .pu (.mov (.s 5))⟩,
      ⟨(some 23), some undefA, none, true, .pu (.idx 1 (.s 21) (.s 22))⟩,
      ⟨(some 24), some undefA, none, true, .ld (.ld 1 false (.s 23))⟩,
      ⟨(some 25), some undefA, none, false, .pu (.bin .neq (.s 20) (.s 24))⟩])
    (.cond (.s 25) (.seq (.ops [⟨(some 4), some undefA, none, false, .pu (.mov (.c (.bool false)))⟩])
     (.ret))
    (.skip))))
   (.ops [⟨(some 15), some undefA, none, false, .pu (.mov (.s 5))⟩,
     ⟨(some 16), some undefA, none, false, .pu (.bin .add (.s 15) (.c (.int .i64 1)))⟩,
     ⟨(some 5), some undefA, none, false, .pu (.mov (.s 16))⟩]))))))
 (.seq (.ops [⟨(some 4), some undefA, none, false, .pu (.mov (.c (.bool true)))⟩])
 (.ret))))⟩
theorem t103 : trF Try.prog [] [] Try.f103 = some m103 := by kernel_rfl
/-- selion/selionref02.Before [loop [0, 3, 4, 5, 6, 7]] -/
def m104 : MFun := ⟨46, [3, 4], [.bget none 4 0 2 true],
 .seq (.ops [⟨(some 3), some (.junk), none, false, .pu (.bnew (.s 1))⟩,
   ⟨(some 4), some (.junk), none, false, .pu (.bnew (.c (.agg [.int .i64 0, .int .i64 0])))⟩])
 (.seq (.ops [⟨(some 8), some undefA, none, false, .pu (.badr none 3)⟩,
   ⟨(some 9), some undefA, none, false, .pu (.bget (some 8) 3 0 1 false)⟩,
   ⟨(some 10), some undefA, none, false, .pu (.badr none 3)⟩,
   ⟨(some 11), some undefA, none, false, .pu (.bget (some 10) 3 1 1 false)⟩,
   ⟨(some 12), some undefA, none, false, .pu (.bin .quo (.s 9) (.s 11))⟩,
   ⟨(some 5), some undefA, none, false, .pu (.mov (.s 12))⟩])
 (.seq (.ops [⟨(some 6), some undefA, none, false, .pu (.mov (.c (.int .i64 0)))⟩])
 (.seq (.seq (.ops [⟨(some 7), some undefA, none, false, .pu (.mov (.c (.int .i64 0)))⟩])
 (.block 0 (.loop (.seq (.seq (.ops [⟨(some 13), some undefA, none, false, .pu (.mov (.s 7))⟩,
     ⟨(some 14), some undefA, none, false, .pu (.mov (.s 5))⟩,
     ⟨(some 15), some undefA, none, false, .pu (.bin .lss (.s 13) (.s 14))⟩])
   (.cond (.s 15) (.skip)
   (.exit 0)))
   (.seq (.block 1 (.ops [⟨(some 18), some undefA, none, false, .pu (.mov (.s 6))⟩,
      ⟨(some 19), some undefA, none, false, .pu (.mov (.s 0))⟩,
      ⟨(some 20), some undefA, none, false, .pu (.mov (.s 7))⟩,
      ⟨(some 21), some undefA, none, false, .pu (.idx 1 (.s 19) (.s 20))⟩,
      ⟨(some 22), some undefA, none, false, .ld (.ld 1 false (.s 21))⟩,
      ⟨(some 23), some undefA, none, false, .pu (.bin .add (.s 18) (.s 22))⟩,
      ⟨(some 6), some undefA, none, false, .pu (.mov (.s 23))⟩]))
   (.ops [⟨(some 16), some undefA, none, false, .pu (.mov (.s 7))⟩,
     ⟨(some 17), some undefA, none, false, .pu (.bin .add (.s 16) (.c (.int .i64 1)))⟩,
     ⟨(some 7), some undefA, none, false, .pu (.mov (.s 17))⟩]))))))
 (.seq (.seq (.ops [⟨(some 24), some undefA, none, false, .pu (.mov (.s 5))⟩,
   ⟨(some 25), some undefA, none, false, .pu (.mov (.s 0))⟩,
   ⟨(some 26), some undefA, none, false, .pu (.len (.s 25))⟩,
   ⟨(some 27), some undefA, none, false, .pu (.bin .eql (.s 24) (.s 26))⟩])
 (.cond (.s 27) (.seq (.ops [⟨(some 28), some undefA, none, false, .pu (.mov (.s 6))⟩,
    ⟨(some 29), some undefA, none, false, .call 36 [(.s 28)]⟩,
    ⟨(some 4), none, none, false, .pu (.bset none 4 0 2 (.s 29))⟩])
  (.ret))
 (.skip)))
 (.seq (.ops [⟨(some 30), some undefA, none, true, .pu (.mov (.s 6))⟩,
   ⟨(some 31), some undefA, none, true, .call 36 [(.s 30)]⟩,
   ⟨(some 32), some undefA, none, false, .pu (.mov (.s 0))⟩,
   ⟨(some 33), some undefA, none, false, .pu (.mov (.s 5))⟩,
   ⟨(some 34), some undefA, none, false, .pu (.idx 1 (.s 32) (.s 33))⟩,
   ⟨(some 35), some undefA, none, true, .ld (.ld 1 false (.s 34))⟩,
   ⟨(some 36), some undefA, none, true, .pu (.badr none 3)⟩,
   ⟨(some 37), some undefA, none, true, .pu (.bget (some 36) 3 0 1 false)⟩,
   ⟨(some 38), some undefA, none, true, .pu (.badr none 3)⟩,
   ⟨(some 39), some undefA, none, true, .pu (.bget (some 38) 3 1 1 false)⟩,
   ⟨(some 40), some undefA, none, true, .pu (.bin .rem (.s 37) (.s 39))⟩,
   ⟨(some 41), some undefA, none, true, .pu (.badr none 3)⟩,
   ⟨(some 42), some undefA, none, true, .pu (.bget (some 41) 3 1 1 false)⟩,
   ⟨(some 43), some undefA, none, true, .call 80 [(.s 40), (.s 42)]⟩,
   ⟨(some 44), some undefA, none, false, .call 124 [(.s 35), (.s 43)]⟩,
   ⟨(some 45), some undefA, none, false, .call 37 [(.s 31), (.s 44)]⟩,
   ⟨(some 4), none, none, false, .pu (.bset none 4 0 2 (.s 45))⟩])
 (.ret))))))⟩
theorem t104 : trF Try.prog [3, 4] [] Try.f104 = some m104 := by kernel_rfl
/-- selion/frac.Valid [] -/
def m105 : MFun := ⟨22, [2], [.mov (.s 4)],
 .seq (.ops [⟨(some 2), some (.junk), none, false, .pu (.bnew (.s 0))⟩,
   ⟨(some 4), some undefA, none, false, .pu (.mov (.c (.bool false)))⟩])
 (.seq (.ops [⟨(some 5), some undefA, none, false, .pu (.badr none 2)⟩,
   ⟨(some 6), some undefA, none, false, .pu (.bget (some 5) 2 1 1 false)⟩,
   ⟨(some 7), some undefA, none, false, .pu (.bin .geq (.s 6) (.c (.int .i64 1)))⟩,
   ⟨(some 8), some undefA, none, false, .pu (.mov (.s 7))⟩,
   ⟨(some 9), some undefA, (some (8, true)), false, .pu (.badr none 2)⟩,
   ⟨(some 10), some undefA, (some (8, true)), false, .pu (.bget (some 9) 2 1 1 false)⟩,
   ⟨(some 11), some undefA, (some (8, true)), false, .pu (.mov (.s 1))⟩,
   ⟨(some 12), some undefA, (some (8, true)), false, .pu (.bin .leq (.s 10) (.s 11))⟩,
   ⟨(some 13), some undefA, none, false, .pu (.pick (.s 8) (.s 12) (.c (.bool false)))⟩,
   ⟨(some 14), some undefA, none, false, .pu (.mov (.s 13))⟩,
   ⟨(some 15), some undefA, (some (14, true)), false, .pu (.badr none 2)⟩,
   ⟨(some 16), some undefA, (some (14, true)), false, .pu (.bget (some 15) 2 0 1 false)⟩,
   ⟨(some 17), some undefA, (some (14, true)), false, .pu (.badr none 2)⟩,
   ⟨(some 18), some undefA, (some (14, true)), false, .pu (.bget (some 17) 2 1 1 false)⟩,
   ⟨(some 19), some undefA, (some (14, true)), false, .call 111 [(.s 16), (.s 18)]⟩,
   ⟨(some 20), some undefA, (some (14, true)), false, .pu (.bin .eql (.s 19) (.c (.int .i64 1)))⟩,
   ⟨(some 21), some undefA, none, false, .pu (.pick (.s 14) (.s 20) (.c (.bool false)))⟩,
   ⟨(some 4), some undefA, none, false, .pu (.mov (.s 21))⟩])
 (.ret))⟩
theorem t105 : trF Try.prog [2] [] Try.f105 = some m105 := by kernel_rfl
/-- selion/selionref02.IsValid [] -/
def m106 : MFun := ⟨17, [2], [.mov (.s 4)],
 .seq (.ops [⟨(some 2), some (.junk), none, false, .pu (.bnew (.s 0))⟩,
   ⟨(some 4), some undefA, none, false, .pu (.mov (.c (.bool false)))⟩])
 (.seq (.ops [⟨(some 5), some undefA, none, false, .pu (.badr none 2)⟩,
   ⟨(some 6), some undefA, none, false, .pu (.bget (some 5) 2 1 1 false)⟩,
   ⟨(some 7), some undefA, none, false, .pu (.mov (.s 1))⟩,
   ⟨(some 8), some undefA, none, false, .call 125 [(.s 6), (.c (.int .i64 1)), (.s 7)]⟩,
   ⟨(some 9), some undefA, none, false, .pu (.mov (.s 8))⟩,
   ⟨(some 10), some undefA, (some (9, true)), false, .pu (.badr none 2)⟩,
   ⟨(some 11), some undefA, (some (9, true)), false, .pu (.bget (some 10) 2 0 1 false)⟩,
   ⟨(some 12), some undefA, (some (9, true)), false, .pu (.badr none 2)⟩,
   ⟨(some 13), some undefA, (some (9, true)), false, .pu (.bget (some 12) 2 1 1 false)⟩,
   ⟨(some 14), some undefA, (some (9, true)), false, .call 91 [(.s 11), (.s 13)]⟩,
   ⟨(some 15), some undefA, (some (9, true)), false, .pu (.bin .eql (.s 14) (.c (.int .i64 1)))⟩,
   ⟨(some 16), some undefA, none, false, .pu (.pick (.s 9) (.s 15) (.c (.bool false)))⟩,
   ⟨(some 4), some undefA, none, false, .pu (.mov (.s 16))⟩])
 (.ret))⟩
theorem t106 : trF Try.prog [2] [] Try.f106 = some m106 := by kernel_rfl
/-- selion/selionref02.IsPlace [] -/
def m107 : MFun := ⟨26, [3], [.mov (.s 4)],
 .seq (.ops [⟨(some 3), some (.junk), none, false, .pu (.bnew (.s 1))⟩,
   ⟨(some 4), some undefA, none, false, .pu (.mov (.c (.bool false)))⟩])
 (.seq (.ops [⟨(some 5), some undefA, none, false, .pu (.badr none 3)⟩,
   ⟨(some 6), some undefA, none, false, .pu (.bget (some 5) 3 0 1 false)⟩,
   ⟨(some 7), some undefA, none, false, .pu (.bin .geq (.s 6) (.c (.int .i64 0)))⟩,
   ⟨(some 8), some undefA, none, false, .pu (.mov (.s 7))⟩,
   ⟨(some 9), some undefA, (some (8, true)), false, .pu (.badr none 3)⟩,
   ⟨(some 10), some undefA, (some (8, true)), false, .pu (.bget (some 9) 3 0 1 false)⟩,
   ⟨(some 11), some undefA, (some (8, true)), false, .pu (.badr none 3)⟩,
   ⟨(some 12), some undefA, (some (8, true)), false, .pu (.bget (some 11) 3 1 1 false)⟩,
   ⟨(some 13), some undefA, (some (8, true)), false, .pu (.bin .quo (.s 10) (.s 12))⟩,
   ⟨(some 14), some undefA, (some (8, true)), false, .pu (.mov (.s 0))⟩,
   ⟨(some 15), some undefA, (some (8, true)), false, .pu (.len (.s 14))⟩,
   ⟨(some 16), some undefA, (some (8, true)), false, .pu (.bin .leq (.s 13) (.s 15))⟩,
   ⟨(some 17), some undefA, none, false, .pu (.pick (.s 8) (.s 16) (.c (.bool false)))⟩,
   ⟨(some 18), some undefA, none, false, .pu (.mov (.s 17))⟩,
   ⟨(some 19), some undefA, (some (18, true)), false, .pu (.mov (.s 0))⟩,
   ⟨(some 20), some undefA, (some (18, true)), false, .pu (.len (.s 19))⟩,
   ⟨(some 21), some undefA, (some (18, true)), false, .call 36 [(.s 20)]⟩,
   ⟨(some 22), some undefA, (some (18, true)), false, .pu (.bget none 3 0 2 true)⟩,
   ⟨(some 23), some undefA, (some (18, true)), false, .call 19 [(.s 21), (.s 22)]⟩,
   ⟨(some 24), some undefA, (some (18, true)), false, .pu (.not (.s 23))⟩,
   ⟨(some 25), some undefA, none, false, .pu (.pick (.s 18) (.s 24) (.c (.bool false)))⟩,
   ⟨(some 4), some undefA, none, false, .pu (.mov (.s 25))⟩])
 (.ret))⟩
theorem t107 : trF Try.prog [3] [] Try.f107 = some m107 := by kernel_rfl
/-- selion/frac.Max [] -/
def m108 : MFun := ⟨11, [2, 3, 4], [.bget none 4 0 2 true],
 .seq (.ops [⟨(some 2), some (.junk), none, false, .pu (.bnew (.s 0))⟩,
   ⟨(some 3), some (.junk), none, false, .pu (.bnew (.s 1))⟩,
   ⟨(some 4), some (.junk), none, false, .pu (.bnew (.c (.agg [.int .i64 0, .int .i64 0])))⟩])
 (.seq (.seq (.ops [⟨(some 5), some undefA, none, false, .pu (.bget none 2 0 2 true)⟩,
   ⟨(some 6), some undefA, none, false, .pu (.bget none 3 0 2 true)⟩,
   ⟨(some 7), some undefA, none, false, .call 65 [(.s 5), (.s 6)]⟩,
   ⟨(some 8), some undefA, none, false, .pu (.bin .gtr (.s 7) (.c (.int .i64 0)))⟩])
 (.cond (.s 8) (.seq (.ops [⟨(some 9), some undefA, none, false, .pu (.bget none 2 0 2 true)⟩,
    ⟨(some 4), none, none, false, .pu (.bset none 4 0 2 (.s 9))⟩])
  (.ret))
 (.skip)))
 (.seq (.ops [⟨(some 10), some undefA, none, false, .pu (.bget none 3 0 2 true)⟩,
   ⟨(some 4), none, none, false, .pu (.bset none 4 0 2 (.s 10))⟩])
 (.ret)))⟩
theorem t108 : trF Try.prog [2, 3, 4] [] Try.f108 = some m108 := by kernel_rfl
/-- selion/frac.Mul [] -/
def m109 : MFun := ⟨18, [2, 4, 5], [.bget none 4 0 2 true],
 .seq (.ops [⟨(some 2), some (.junk), none, false, .pu (.bnew (.s 0))⟩,
   ⟨(some 4), some (.junk), none, false, .pu (.bnew (.c (.agg [.int .i64 0, .int .i64 0])))⟩])
 (.seq (.ops [⟨(some 6), some undefA, none, false, .pu (.mov (.s 1))⟩,
   ⟨(some 7), some undefA, none, false, .pu (.badr none 2)⟩,
   ⟨(some 8), some undefA, none, false, .pu (.bget (some 7) 2 1 1 false)⟩,
   ⟨(some 9), some undefA, none, false, .call 59 [(.s 6), (.s 8)]⟩,
   ⟨(some 5), some (.junk), none, false, .pu (.bnew (.c (.agg [.int .i64 0, .int .i64 0])))⟩,
   ⟨(some 5), none, none, false, .pu (.bset none 5 0 2 (.s 9))⟩])
 (.seq (.ops [⟨(some 10), some undefA, none, false, .pu (.badr none 2)⟩,
   ⟨(some 11), some undefA, none, false, .pu (.bget (some 10) 2 0 1 false)⟩,
   ⟨(some 12), some undefA, none, false, .pu (.badr none 5)⟩,
   ⟨(some 13), some undefA, none, false, .pu (.bget (some 12) 5 0 1 false)⟩,
   ⟨(some 14), some undefA, none, false, .pu (.bin .mul (.s 11) (.s 13))⟩,
   ⟨(some 15), some undefA, none, false, .pu (.badr none 5)⟩,
   ⟨(some 16), some undefA, none, false, .pu (.bget (some 15) 5 1 1 false)⟩,
   ⟨(some 17), some undefA, none, false, .call 59 [(.s 14), (.s 16)]⟩,
   ⟨(some 4), none, none, false, .pu (.bset none 4 0 2 (.s 17))⟩])
 (.ret)))⟩
theorem t109 : trF Try.prog [2, 4, 5] [] Try.f109 = some m109 := by kernel_rfl
/-- selion/frac.Div [] -/
def m110 : MFun := ⟨18, [2, 4, 5], [.bget none 4 0 2 true],
 .seq (.ops [⟨(some 2), some (.junk), none, false, .pu (.bnew (.s 0))⟩,
   ⟨(some 4), some (.junk), none, false, .pu (.bnew (.c (.agg [.int .i64 0, .int .i64 0])))⟩])
 (.seq (.ops [⟨(some 6), some undefA, none, false, .pu (.badr none 2)⟩,
   ⟨(some 7), some undefA, none, false, .pu (.bget (some 6) 2 0 1 false)⟩,
   ⟨(some 8), some undefA, none, false, .pu (.mov (.s 1))⟩,
   ⟨(some 9), some undefA, none, false, .call 59 [(.s 7), (.s 8)]⟩,
   ⟨(some 5), some (.junk), none, false, .pu (.bnew (.c (.agg [.int .i64 0, .int .i64 0])))⟩,
   ⟨(some 5), none, none, false, .pu (.bset none 5 0 2 (.s 9))⟩])
 (.seq (.ops [⟨(some 10), some undefA, none, false, .pu (.badr none 5)⟩,
   ⟨(some 11), some undefA, none, false, .pu (.bget (some 10) 5 0 1 false)⟩,
   ⟨(some 12), some undefA, none, false, .pu (.badr none 5)⟩,
   ⟨(some 13), some undefA, none, false, .pu (.bget (some 12) 5 1 1 false)⟩,
   ⟨(some 14), some undefA, none, false, .pu (.badr none 2)⟩,
   ⟨(some 15), some undefA, none, false, .pu (.bget (some 14) 2 1 1 false)⟩,
   ⟨(some 16), some undefA, none, false, .pu (.bin .mul (.s 13) (.s 15))⟩,
   ⟨(some 17), some undefA, none, false, .call 59 [(.s 11), (.s 16)]⟩,
   ⟨(some 4), none, none, false, .pu (.bset none 4 0 2 (.s 17))⟩])
 (.ret)))⟩
theorem t110 : trF Try.prog [2, 4, 5] [] Try.f110 = some m110 := by kernel_rfl
/-- selion/frac.divisor [loop [0, 1]] -/
def m111 : MFun := ⟨15, [], [.mov (.s 4)],
 .seq (.ops [⟨(some 4), some undefA, none, false, .pu (.mov (.c (.int .i64 0)))⟩])
 (.seq (.block 0 (.loop (.seq (.seq (.ops [⟨(some 5), some undefA, none, false, .pu (.mov (.s 1))⟩,
     ⟨(some 6), some undefA, none, false, .pu (.bin .neq (.s 5) (.c (.int .i64 0)))⟩])
   (.cond (.s 6) (.skip)
   (.exit 0)))
   (.block 1 (.ops [⟨(some 7), some undefA, none, false, .pu (.mov (.s 1))⟩,
      ⟨(some 8), some undefA, none, false, .pu (.mov (.s 0))⟩,
      ⟨(some 9), some undefA, none, false, .pu (.mov (.s 1))⟩,
      ⟨(some 10), some undefA, none, false, .pu (.bin .rem (.s 8) (.s 9))⟩,
      ⟨(some 0), some undefA, none, false, .pu (.mov (.s 7))⟩,
      ⟨(some 1), some undefA, none, false, .pu (.mov (.s 10))⟩])))))
 (.seq (.ops [⟨(some 11), some undefA, none, false, .pu (.mov (.s 0))⟩,
   ⟨(some 12), some undefA, none, false, .pu (.mov (.s 0))⟩,
   ⟨(some 13), some undefA, none, false, .pu (.neg (.s 12))⟩,
   ⟨(some 14), some undefA, none, false, .pu (.mm true (.s 11) [(.s 13)])⟩,
   ⟨(some 4), some undefA, none, false, .pu (.mov (.s 14))⟩])
 (.ret)))⟩
theorem t111 : trF Try.prog [] [] Try.f111 = some m111 := by kernel_rfl
/-- selion/selionref02.Reach [loop [0, 6, 8, 9, 10]] -/
def m112 : MFun := ⟨55, [4, 5, 6, 8], [.bget none 6 0 2 true, .mov (.s 7)],
 .seq (.ops [⟨(some 4), some (.junk), none, false, .pu (.bnew (.s 1))⟩,
   ⟨(some 5), some (.junk), none, false, .pu (.bnew (.s 2))⟩,
   ⟨(some 6), some (.junk), none, false, .pu (.bnew (.c (.agg [.int .i64 0, .int .i64 0])))⟩,
   ⟨(some 7), some undefA, none, false, .pu (.mov (.c (.bool false)))⟩])
 (.seq (.seq (.ops [⟨(some 11), some undefA, none, false, .pu (.badr none 5)⟩,
   ⟨(some 12), some undefA, none, false, .pu (.bget (some 11) 5 0 1 false)⟩,
   ⟨(some 13), some undefA, none, false, .pu (.bin .leq (.s 12) (.c (.int .i64 0)))⟩])
 (.cond (.s 13) (.seq (.ops [⟨(some 14), some undefA, none, false, .pu (.bget none 4 0 2 true)⟩,
    ⟨(some 6), none, none, false, .pu (.bset none 6 0 2 (.s 14))⟩,
    ⟨(some 7), some undefA, none, false, .pu (.mov (.c (.bool true)))⟩])
  (.ret))
 (.skip)))
 (.seq (.ops [⟨(some 15), some undefA, none, false, .pu (.mov (.s 0))⟩,
   ⟨(some 16), some undefA, none, false, .pu (.bget none 4 0 2 true)⟩,
   ⟨(some 17), some undefA, none, false, .call 104 [(.s 15), (.s 16)]⟩,
   ⟨(some 18), some undefA, none, false, .pu (.bget none 5 0 2 true)⟩,
   ⟨(some 19), some undefA, none, false, .call 37 [(.s 17), (.s 18)]⟩,
   ⟨(some 8), some (.junk), none, false, .pu (.bnew (.c (.agg [.int .i64 0, .int .i64 0])))⟩,
   ⟨(some 8), none, none, false, .pu (.bset none 8 0 2 (.s 19))⟩])
 (.seq (.ops [⟨(some 9), some undefA, none, false, .pu (.mov (.c (.int .i64 0)))⟩])
 (.seq (.seq (.ops [⟨(some 10), some undefA, none, false, .pu (.mov (.c (.int .i64 0)))⟩])
 (.block 0 (.loop (.seq (.seq (.ops [⟨(some 20), some undefA, none, false, .pu (.mov (.s 10))⟩,
     ⟨(some 21), some undefA, none, false, .pu (.mov (.s 0))⟩,
     ⟨(some 22), some undefA, none, false, .pu (.len (.s 21))⟩,
     ⟨(some 23), some undefA, none, false, .pu (.bin .lss (.s 20) (.s 22))⟩])
   (.cond (.s 23) (.skip)
   (.exit 0)))
   (.seq (.block 1 (.seq (.seq (.ops [⟨(some 26), some undefA, none, true, .pu (.mov (.s 9))⟩,
      ⟨(some 27), some undefA, none, false, .pu (.mov (.s 0))⟩,
      ⟨(some 28), some undefA, none, false, .pu (.mov (.s 10))⟩,
      ⟨(some 29), some undefA, none, false, .pu (.idx 1 (.s 27) (.s 28))⟩,
      ⟨(some 30), some undefA, none, true, .ld (.ld 1 false (.s 29))⟩,
      ⟨(some 31), some undefA, none, false, .pu (.bin .add (.s 26) (.s 30))⟩,
      ⟨(some 32), some undefA, none, false, .call 36 [(.s 31)]⟩,
      ⟨(some 33), some undefA, none, true, .pu (.bget none 8 0 2 true)⟩,
      ⟨(some 34), some undefA, none, false, .call 19 [(.s 32), (.s 33)]⟩,
      ⟨(some 35), some undefA, none, false, .pu (.not (.s 34))⟩])
    (.cond (.s 35) (.seq (.ops [⟨(some 36), some undefA, none, true, .pu (.mov (.s 10))⟩,
       ⟨(some 37), some undefA, none, true, .call 36 [(.s 36)]⟩,
       ⟨(some 38), some undefA, none, true, .pu (.bget none 8 0 2 true)⟩,
       ⟨(some 39), some undefA, none, true, .pu (.mov (.s 9))⟩,
       ⟨(some 40), some undefA, none, true, .call 36 [(.s 39)]⟩,
       ⟨(some 41), some undefA, none, true, .call 55 [(.s 38), (.s 40)]⟩,
       ⟨(some 42), some undefA, none, false, .pu (.mov (.s 0))⟩,
       ⟨(some 43), some undefA, none, false, .pu (.mov (.s 10))⟩,
       ⟨(some 44), some undefA, none, false, .pu (.idx 1 (.s 42) (.s 43))⟩,
       ⟨(some 45), some undefA, none, true, .ld (.ld 1 false (.s 44))⟩,
       ⟨(some 46), some undefA, none, false, .call 126 [(.s 41), (.s 45)]⟩,
       ⟨(some 47), some undefA, none, false, .call 37 [(.s 37), (.s 46)]⟩,
       ⟨(some 6), none, none, false, .pu (.bset none 6 0 2 (.s 47))⟩,
       ⟨(some 7), some undefA, none, false, .pu (.mov (.c (.bool true)))⟩])
     (.ret))
    (.skip)))
    (.ops [⟨(some 48), some undefA, none, false, .pu (.mov (.s 9))⟩,
      ⟨(some 49), some undefA, none, false, .pu (.mov (.s 0))⟩,
      ⟨(some 50), some undefA, none, false, .pu (.mov (.s 10))⟩,
      ⟨(some 51), some undefA, none, false, .pu (.idx 1 (.s 49) (.s 50))⟩,
      ⟨(some 52), some undefA, none, false, .ld (.ld 1 false (.s 51))⟩,
      ⟨(some 53), some undefA, none, false, .pu (.bin .add (.s 48) (.s 52))⟩,
      ⟨(some 9), some undefA, none, false, .pu (.mov (.s 53))⟩])))
   (.ops [⟨(some 24), some undefA, none, false, .pu (.mov (.s 10))⟩,
     ⟨(some 25), some undefA, none, false, .pu (.bin .add (.s 24) (.c (.int .i64 1)))⟩,
     ⟨(some 10), some undefA, none, false, .pu (.mov (.s 25))⟩]))))))
 (.seq (.ops [⟨(some 54), some undefA, none, false, .pu (.build [.int .i64 0, .int .i64 0] [])⟩,
   ⟨(some 6), none, none, false, .pu (.bset none 6 0 2 (.s 54))⟩,
   ⟨(some 7), some undefA, none, false, .pu (.mov (.c (.bool false)))⟩])
 (.ret))))))⟩
theorem t112 : trF Try.prog [4, 5, 6, 8] [] Try.f112 = some m112 := by kernel_rfl
/-- selion/frac.Min [] -/
def m113 : MFun := ⟨11, [2, 3, 4], [.bget none 4 0 2 true],
 .seq (.ops [⟨(some 2), some (.junk), none, false, .pu (.bnew (.s 0))⟩,
   ⟨(some 3), some (.junk), none, false, .pu (.bnew (.s 1))⟩,
   ⟨(some 4), some (.junk), none, false, .pu (.bnew (.c (.agg [.int .i64 0, .int .i64 0])))⟩])
 (.seq (.seq (.ops [⟨(some 5), some undefA, none, false, .pu (.bget none 2 0 2 true)⟩,
   ⟨(some 6), some undefA, none, false, .pu (.bget none 3 0 2 true)⟩,
   ⟨(some 7), some undefA, none, false, .call 65 [(.s 5), (.s 6)]⟩,
   ⟨(some 8), some undefA, none, false, .pu (.bin .lss (.s 7) (.c (.int .i64 0)))⟩])
 (.cond (.s 8) (.seq (.ops [⟨(some 9), some undefA, none, false, .pu (.bget none 2 0 2 true)⟩,
    ⟨(some 4), none, none, false, .pu (.bset none 4 0 2 (.s 9))⟩])
  (.ret))
 (.skip)))
 (.seq (.ops [⟨(some 10), some undefA, none, false, .pu (.bget none 3 0 2 true)⟩,
   ⟨(some 4), none, none, false, .pu (.bset none 4 0 2 (.s 10))⟩])
 (.ret)))⟩
theorem t113 : trF Try.prog [2, 3, 4] [] Try.f113 = some m113 := by kernel_rfl
/-- slices.IndexFunc[[]int,int] [loop [0, 1, 7, 8]] -/
def m114 : MFun := ⟨19, [], [.mov (.s 4)],
 .seq (.ops [⟨(some 4), some undefA, none, false, .pu (.mov (.c (.int .i64 0)))⟩])
 (.seq (.seq (.ops [⟨(some 6), some undefA, none, false, .pu (.mov (.s 0))⟩,
   ⟨(some 7), some undefA, none, false, .pu (.len (.s 6))⟩,
   ⟨(some 8), some undefA, none, false, .pu (.mov (.c (.int .i64 0)))⟩])
 (.block 0 (.loop (.seq (.ops [⟨(some 9), some undefA, none, false, .pu (.bin .lss (.s 8) (.s 7))⟩])
   (.seq (.cond (.s 9) (.skip)
   (.exit 0))
   (.seq (.block 1 (.seq (.ops [⟨(some 10), some undefA, none, false, .pu (.mov (.s 8))⟩,
      ⟨(some 5), some undefA, none, false, .pu (.mov (.s 10))⟩])
    (.seq (.ops [⟨(some 11), some undefA, none, false, .pu (.mov (.s 1))⟩,
      ⟨(some 12), some undefA, none, false, .pu (.mov (.s 0))⟩,
      ⟨(some 13), some undefA, none, false, .pu (.mov (.s 5))⟩,
      ⟨(some 14), some undefA, none, false, .pu (.idx 1 (.s 12) (.s 13))⟩,
      ⟨(some 15), some undefA, none, false, .ld (.ld 1 false (.s 14))⟩,
      ⟨(some 16), some undefA, none, false, .callv (.s 11) [(.s 15)]⟩])
    (.cond (.s 16) (.seq (.ops [⟨(some 17), some undefA, none, false, .pu (.mov (.s 5))⟩,
       ⟨(some 4), some undefA, none, false, .pu (.mov (.s 17))⟩])
     (.ret))
    (.skip)))))
   (.ops [⟨(some 18), some undefA, none, false, .pu (.bin .add (.s 8) (.c (.int .i64 1)))⟩,
     ⟨(some 8), some undefA, none, false, .pu (.mov (.s 18))⟩])))))))
 (.seq (.ops [⟨(some 4), some undefA, none, false, .pu (.mov (.c (.int .i64 (-1))))⟩])
 (.ret)))⟩
theorem t114 : trF Try.prog [] [] Try.f114 = some m114 := by kernel_rfl
/-- slices.Clone[[]int,int] [] -/
def m116 : MFun := ⟨8, [], [.mov (.s 2)],
 .seq (.ops [⟨(some 2), some undefA, none, false, .pu (.mov (.c (.nilS)))⟩])
 (.seq (.seq (.ops [⟨(some 3), some undefA, none, false, .pu (.mov (.s 0))⟩,
   ⟨(some 4), some undefA, none, false, .pu (.isnil false (.s 3))⟩])
 (.cond (.s 4) (.seq (.ops [⟨(some 2), some undefA, none, false, .pu (.mov (.c (.nilS)))⟩])
  (.ret))
 (.skip)))
 (.seq (.ops [⟨(some 5), some undefA, none, false, .ha (.blds 1 0 [.int .i64 0] [])⟩,
   ⟨(some 6), some undefA, none, false, .pu (.mov (.s 0))⟩,
   ⟨(some 7), some undefA, none, false, .ha (.app 1 (.s 5) (.s 6))⟩,
   ⟨(some 2), some undefA, none, false, .pu (.mov (.s 7))⟩])
 (.ret)))⟩
theorem t116 : trF Try.prog [] [] Try.f116 = some m116 := by kernel_rfl
/-- selion/selionref02.Times [] -/
def m124 : MFun := ⟨18, [3, 4, 5], [.bget none 4 0 2 true],
 .seq (.ops [⟨(some 3), some (.junk), none, false, .pu (.bnew (.s 1))⟩,
   ⟨(some 4), some (.junk), none, false, .pu (.bnew (.c (.agg [.int .i64 0, .int .i64 0])))⟩])
 (.seq (.ops [⟨(some 6), some undefA, none, false, .pu (.mov (.s 0))⟩,
   ⟨(some 7), some undefA, none, false, .pu (.badr none 3)⟩,
   ⟨(some 8), some undefA, none, false, .pu (.bget (some 7) 3 1 1 false)⟩,
   ⟨(some 9), some undefA, none, false, .call 80 [(.s 6), (.s 8)]⟩,
   ⟨(some 5), some (.junk), none, false, .pu (.bnew (.c (.agg [.int .i64 0, .int .i64 0])))⟩,
   ⟨(some 5), none, none, false, .pu (.bset none 5 0 2 (.s 9))⟩])
 (.seq (.ops [⟨(some 10), some undefA, none, false, .pu (.badr none 5)⟩,
   ⟨(some 11), some undefA, none, false, .pu (.bget (some 10) 5 0 1 false)⟩,
   ⟨(some 12), some undefA, none, false, .pu (.badr none 3)⟩,
   ⟨(some 13), some undefA, none, false, .pu (.bget (some 12) 3 0 1 false)⟩,
   ⟨(some 14), some undefA, none, false, .pu (.bin .mul (.s 11) (.s 13))⟩,
   ⟨(some 15), some undefA, none, false, .pu (.badr none 5)⟩,
   ⟨(some 16), some undefA, none, false, .pu (.bget (some 15) 5 1 1 false)⟩,
   ⟨(some 17), some undefA, none, false, .call 80 [(.s 14), (.s 16)]⟩,
   ⟨(some 4), none, none, false, .pu (.bset none 4 0 2 (.s 17))⟩])
 (.ret)))⟩
theorem t124 : trF Try.prog [3, 4, 5] [] Try.f124 = some m124 := by kernel_rfl
/-- selion/selionref02.within [] -/
def m125 : MFun := ⟨15, [], [.mov (.s 6)],
 .seq (.ops [⟨(some 6), some undefA, none, false, .pu (.mov (.c (.bool false)))⟩])
 (.seq (.ops [⟨(some 7), some undefA, none, false, .pu (.mov (.s 0))⟩,
   ⟨(some 8), some undefA, none, false, .pu (.mov (.s 1))⟩,
   ⟨(some 9), some undefA, none, false, .pu (.bin .geq (.s 7) (.s 8))⟩,
   ⟨(some 10), some undefA, none, false, .pu (.mov (.s 9))⟩,
   ⟨(some 11), some undefA, (some (10, true)), false, .pu (.mov (.s 0))⟩,
   ⟨(some 12), some undefA, (some (10, true)), false, .pu (.mov (.s 2))⟩,
   ⟨(some 13), some undefA, (some (10, true)), false, .pu (.bin .leq (.s 11) (.s 12))⟩,
   ⟨(some 14), some undefA, none, false, .pu (.pick (.s 10) (.s 13) (.c (.bool false)))⟩,
   ⟨(some 6), some undefA, none, false, .pu (.mov (.s 14))⟩])
 (.ret))⟩
theorem t125 : trF Try.prog [] [] Try.f125 = some m125 := by kernel_rfl
/-- selion/selionref02.Over [] -/
def m126 : MFun := ⟨24, [2, 4], [.bget none 4 0 2 true],
 .seq (.ops [⟨(some 2), some (.junk), none, false, .pu (.bnew (.s 0))⟩,
   ⟨(some 4), some (.junk), none, false, .pu (.bnew (.c (.agg [.int .i64 0, .int .i64 0])))⟩])
 (.seq (.ops [⟨(some 6), some undefA, none, false, .pu (.badr none 2)⟩,
   ⟨(some 7), some undefA, none, false, .pu (.bget (some 6) 2 0 1 false)⟩,
   ⟨(some 8), some undefA, none, false, .pu (.mov (.s 1))⟩,
   ⟨(some 9), some undefA, none, false, .call 91 [(.s 7), (.s 8)]⟩,
   ⟨(some 5), some undefA, none, false, .pu (.mov (.s 9))⟩])
 (.seq (.seq (.ops [⟨(some 10), some undefA, none, false, .pu (.mov (.s 5))⟩,
   ⟨(some 11), some undefA, none, false, .pu (.bin .eql (.s 10) (.c (.int .i64 0)))⟩])
 (.cond (.s 11) (.seq (.ops [⟨(some 12), some undefA, none, false, .pu (.bget none 2 0 2 true)⟩,
    ⟨(some 4), none, none, false, .pu (.bset none 4 0 2 (.s 12))⟩])
  (.ret))
 (.skip)))
 (.seq (.ops [⟨(some 13), some undefA, none, false, .pu (.badr none 2)⟩,
   ⟨(some 14), some undefA, none, false, .pu (.bget (some 13) 2 0 1 false)⟩,
   ⟨(some 15), some undefA, none, false, .pu (.mov (.s 5))⟩,
   ⟨(some 16), some undefA, none, false, .pu (.bin .quo (.s 14) (.s 15))⟩,
   ⟨(some 17), some undefA, none, false, .pu (.badr none 2)⟩,
   ⟨(some 18), some undefA, none, false, .pu (.bget (some 17) 2 1 1 false)⟩,
   ⟨(some 19), some undefA, none, false, .pu (.mov (.s 1))⟩,
   ⟨(some 20), some undefA, none, false, .pu (.mov (.s 5))⟩,
   ⟨(some 21), some undefA, none, false, .pu (.bin .quo (.s 19) (.s 20))⟩,
   ⟨(some 22), some undefA, none, false, .pu (.bin .mul (.s 18) (.s 21))⟩,
   ⟨(some 23), some undefA, none, false, .call 80 [(.s 16), (.s 22)]⟩,
   ⟨(some 4), none, none, false, .pu (.bset none 4 0 2 (.s 23))⟩])
 (.ret))))⟩
theorem t126 : trF Try.prog [2, 4] [] Try.f126 = some m126 := by kernel_rfl
end Go.Proofs.Ytmblehbjedpjoaa

namespace Go.Proofs.Ytmblehbjedpjoaa
open Go Go.Eng
theorem hmix : Try.prog.follows .mixedOrders = true := by kernel_rfl
def tab : List (Nat × MFun) := [(14, m14), (26, m26), (28, m28), (30, m30), (32, m32), (50, m50), (52, m52), (57, m57), (58, m58), (59, m59), (60, m60), (65, m65), (69, m69), (70, m70), (71, m71), (72, m72), (73, m73), (74, m74), (75, m75), (76, m76), (77, m77), (83, m83), (84, m84), (85, m85), (86, m86), (95, m95), (108, m108), (109, m109), (110, m110), (111, m111), (114, m114)]
theorem tabOK : TabOK Try.prog tab :=
  .cons Try.func14 (by kernel_rfl) t14 <| .cons Try.func26 (by kernel_rfl) t26 <| .cons Try.func28 (by kernel_rfl) t28 <| .cons Try.func30 (by kernel_rfl) t30 <| .cons Try.func32 (by kernel_rfl) t32 <| .cons Try.func50 (by kernel_rfl) t50 <| .cons Try.func52 (by kernel_rfl) t52 <| .cons Try.func57 (by kernel_rfl) t57 <| .cons Try.func58 (by kernel_rfl) t58 <| .cons Try.func59 (by kernel_rfl) t59 <| .cons Try.func60 (by kernel_rfl) t60 <| .cons Try.func65 (by kernel_rfl) t65 <| .cons Try.func69 (by kernel_rfl) t69 <| .cons Try.func70 (by kernel_rfl) t70 <| .cons Try.func71 (by kernel_rfl) t71 <| .cons Try.func72 (by kernel_rfl) t72 <| .cons Try.func73 (by kernel_rfl) t73 <| .cons Try.func74 (by kernel_rfl) t74 <| .cons Try.func75 (by kernel_rfl) t75 <| .cons Try.func76 (by kernel_rfl) t76 <| .cons Try.func77 (by kernel_rfl) t77 <| .cons Try.func83 (by kernel_rfl) t83 <| .cons Try.func84 (by kernel_rfl) t84 <| .cons Try.func85 (by kernel_rfl) t85 <| .cons Try.func86 (by kernel_rfl) t86 <| .cons Try.func95 (by kernel_rfl) t95 <| .cons Try.func108 (by kernel_rfl) t108 <| .cons Try.func109 (by kernel_rfl) t109 <| .cons Try.func110 (by kernel_rfl) t110 <| .cons Try.func111 (by kernel_rfl) t111 <| .cons Try.func114 (by kernel_rfl) t114 <| .nil
def isTrue : Option (AV × AHeap) → Bool
  | some (.bool true, _) => true
  | _ => false
set_option maxRecDepth 100000 in
theorem known_run : isTrue (runF tab 300 14 14 [] []) = true := by kernel_rfl
theorem known (A : AHeap) : ACalls Try.prog 14 [] A (B true) A := by
  cases h : runF tab 300 14 14 [] [] with
  | none => have := known_run; rw [h] at this; cases this
  | some p =>
    obtain ⟨v, A'⟩ := p
    have h1 := known_run
    rw [h] at h1
    have h2 : v = B true := by
      unfold isTrue at h1
      split at h1
      · rename_i e; cases e; rfl
      · cases h1
    subst h2
    exact (runF_ok hmix tabOK 300 14 14 [] [] _ _ h).lift (by simp) rfl A
end Go.Proofs.Ytmblehbjedpjoaa

namespace Go.Proofs.Ytmblehbjedpjoaa
open Go Go.Eng
def dR : Go.Shelf.Ren := ⟨fun n => if n = 45 then 102 else n, fun t => if t = 22 then 23 else if t = 23 then 22 else t, fun g => g⟩
theorem zr_run {P : Program} {t : TypeId} {i : TypeInfo} {v : Value} (hi : P.info? t = some i) (hz : i.zero = some v) (w : World) : (zeroValue t).run P w = .ok v w := by
  simp [zeroValue, typeInfo, hi, hz]
theorem info_zero {P : Program} {t : TypeId} {v : Value} (h : (P.info? t).bind (·.zero) = some v) (w : World) : (zeroValue t).run P w = .ok v w := by
  cases hi : P.info? t with
  | none => rw [hi] at h; cases h
  | some i => rw [hi] at h; exact zr_run hi h w
theorem delL : SlLaysE.n45 Try.prog dR where
  mixed := hmix
  f45 := ⟨ "slices.Delete[[][]int,[]int]", by decide, by kernel_rfl⟩
  t0 := by kernel_rfl
  a0 := Go.Eng.run_isAgg (by kernel_rfl)
  z0 := Go.Eng.run_sizeOf (by kernel_rfl)
  v0 := info_zero (by kernel_rfl)
  t3 := by kernel_rfl
  a3 := Go.Eng.run_isAgg (by kernel_rfl)
  z3 := Go.Eng.run_sizeOf (by kernel_rfl)
  v3 := info_zero (by kernel_rfl)
  t4 := by kernel_rfl
  a4 := Go.Eng.run_isAgg (by kernel_rfl)
  z4 := Go.Eng.run_sizeOf (by kernel_rfl)
  v4 := info_zero (by kernel_rfl)
  t22 := by kernel_rfl
  a22 := Go.Eng.run_isAgg (by kernel_rfl)
  z22 := Go.Eng.run_sizeOf (by kernel_rfl)
  v22 := info_zero (by kernel_rfl)
  a23 := Go.Eng.run_isAgg (by kernel_rfl)
  z23 := Go.Eng.run_sizeOf (by kernel_rfl)
/-- Values of one cell. -/
abbrev CV := {v : Value // v.oneCell' = true}
instance : Inhabited CV := ⟨⟨.slice none 0 0, rfl⟩⟩
def enV (x : CV) : Value := x.1
theorem enV1 : OneCell enV := fun x => x.2
def nilCV : CV := ⟨.slice none 0 0, rfl⟩
open Go.Shelf Go.RowKit Go.Lib Go.Sort in
set_option maxHeartbeats 4000000 in
set_option maxRecDepth 1000000 in
/-- One row is taken out of a list of rows: what was behind it moves up, and the last cell holds no row. -/
theorem del_calls (blk off cap i : Nat) (d : Array CV) (w : World) (hH : Holds enV w blk off d) (hcap : d.size ≤ cap) (hsz : d.size ≤ 1000000) (hi : i < d.size) :
    Calls Try.prog 102 #[.slice (some ⟨blk, off, none⟩) d.size cap, .int .i64 i, .int .i64 ((i + 1 : Nat) : Int)] w fun e w' => e = .returned (.slice (some ⟨blk, off, none⟩) (d.size - 1) cap) ∧ ∃ q, w' = putRow enV (Sort.ahead w q) blk off (d.toList.take i ++ d.toList.drop (i + 1) ++ List.replicate 1 nilCV).toArray := by
  have L := delL
  have mixed := L.mixed; have t0 := L.t0; have a0 := L.a0; have z0 := L.z0; have v0 := L.v0; have t3 := L.t3; have a3 := L.a3; have z3 := L.z3; have v3 := L.v3; have t4 := L.t4; have a4 := L.a4; have z4 := L.z4; have v4 := L.v4; have t22 := L.t22; have a22 := L.a22; have z22 := L.z22; have v22 := L.v22; have a23 := L.a23; have z23 := L.z23
  have v23 : ∀ w, (zeroValue (dR.t 23)).run Try.prog w = .ok (enV nilCV) w := info_zero (by kernel_rfl)
  obtain ⟨i0, hi0, hz1⟩ : ∃ i0, Try.prog.info? (dR.t 23) = some i0 ∧ i0.size = 1 := ⟨_, rfl, by kernel_rfl⟩
  generalize hj' : i + 1 = j at *
  have hij : i ≤ j := by omega
  have hj : j ≤ d.size := by omega
  have hd1 : j - i = 1 := by omega
  -- the rows behind it
  obtain ⟨news, hnews⟩ : ∃ news, news = (d.toList.drop j).map enV := ⟨_, rfl⟩
  have hlen : news.length = d.size - j := by rw [hnews]; simp
  have hget : ∀ t, t < d.size - j → news[t]? = some (enV d[j + t]!) := by
    intro t ht
    rw [hnews, List.getElem?_map, List.getElem?_drop, Array.getElem?_toList, getElem!_pos d (j + t) (by omega), Array.getElem?_eq_getElem (by omega)]
    rfl
  obtain ⟨A, hA, hsrc⟩ : ∃ A : Addr, (if cap = j then some (⟨blk, off, none⟩ : Addr) else some ⟨blk, off + j, none⟩) = some A ∧ Hid (∀ t u, news[t]? = some u → w.drew.cell? (A.add t) = some u) := by
    by_cases h : cap = j
    · refine ⟨⟨blk, off, none⟩, by simp [h], fun t u hu => ?_⟩
      have h0 : news.length = 0 := by rw [hlen]; omega
      rw [List.length_eq_zero_iff.1 h0] at hu
      simp at hu
    · refine ⟨⟨blk, off + j, none⟩, by simp [h], fun t u hu => ?_⟩
      have ht : t < d.size - j := by
        have := (List.getElem?_eq_some_iff.1 hu).1
        rwa [hlen] at this
      rw [hget t ht] at hu
      rw [Addr.add_lit, show off + j + t = off + (j + t) by omega]
      exact (hH (j + t) (by omega)).1.trans hu
  have s1 : Hid (news.length = (d.size - j) * 1) := by rw [Nat.mul_one]; exact hlen
  have s2 : Hid (∀ u ∈ news, u.oneCell' = true) := by
    intro u hu
    rw [hnews] at hu
    obtain ⟨x, _, rfl⟩ := List.mem_map.1 hu
    exact enV1 x
  have s3 : Hid (∀ t, t < news.length → (w.drew.cell? ⟨blk, off + i * 1 + t, none⟩).isSome = true ∧ w.drew.frozen? ⟨blk, off + i * 1 + t, none⟩ = false) := by
    intro t ht
    rw [hlen] at ht
    rw [Nat.mul_one, Nat.add_assoc]
    exact ⟨by show (w.cell? _).isSome = true; rw [(hH (i + t) (by omega)).1]; rfl, (hH (i + t) (by omega)).2⟩
  obtain ⟨W1, hW1⟩ : ∃ W1, W1 = w.drew.setCells blk (off + i * 1) news := ⟨_, rfl⟩
  have hW1' : W1 = putRow enV (Sort.ahead w 1) blk off (lay d i (d.toList.drop j)) := by
    rw [hW1, hnews, Nat.mul_one, ← putRow_setCells enV (Sort.ahead w 1) blk off _ d i (by simp; omega), putRow_self enV (Sort.ahead w 1) blk off d (holds_ahead enV w 1 blk off d hH)]
    rfl
  have hH1 : Holds enV W1 blk off (lay d i (d.toList.drop j)) := by rw [hW1']; exact holds_putRow enV _ blk off d _ (holds_ahead enV w 1 blk off d hH) (lay_size _ _ _)
  have hcl : ∀ ty, (Builtin.clear_ #[dR.t 22] ty #[.slice (some ⟨blk, off + (i + (d.size - j)), none⟩) (d.size - (i + (d.size - j))) (cap - (i + (d.size - j)))]).run Try.prog W1 = .ok (.tuple #[]) (W1.setCells blk (off + (i + (d.size - j))) (List.replicate (d.size - (i + (d.size - j))) (enV nilCV))) :=
    fun ty => Lib.run_clear_slice W1 _ _ ty _ t22 v23 (enV1.cells nilCV) (enV1 nilCV) blk (off + (i + (d.size - j))) _ _ (by omega) (fun t ht => by rw [show off + (i + (d.size - j)) + t = off + (i + (d.size - j) + t) by omega, (hH1 _ (by rw [lay_size]; omega)).1]; rfl) (fun t ht => by rw [show off + (i + (d.size - j)) + t = off + (i + (d.size - j) + t) by omega]; exact (hH1 _ (by rw [lay_size]; omega)).2)
  have X : Aside (W1 = putRow enV (Sort.ahead w 1) blk off (lay d i (d.toList.drop j))) := hW1'
  have hW : Hid (W1 = w.drew.setCells blk (off + i * 1) news) := hW1
  have hic : i ≤ cap := by omega
  have hjc : j ≤ cap := by omega
  clear hW1 hW1' hH1 hH hget hnews hlen
  obtain ⟨_, _, FG⟩ := L.f45
  show Calls Try.prog (dR.f 45) _ _ _
  go_enter FG, SlBodyN.n45_ntmps dR
  go_wp2_with fail
  go_region_law_o (refine step_append_room rfl (.tmp 22) (.tmp 25) (dR.t 22) rfl (dR.t 23) i0 1 t22 hi0 hz1 blk off i cap (by simp [Act.eval, Act.put]) A (d.size - j) (cap - j) news (by simp [Act.eval, Act.put]) s1.out hsrc.out s2.out (by omega) s3.out ?_; rw [← hW.out])
  go_wp2
  go_ret
  refine ⟨by rw [show d.size - 1 = i + (d.size - j) by omega]; rfl, 1, ?_⟩
  have hda := delete_arr d i j nilCV hij hj
  rw [hd1] at hda
  rw [← hda, ← putRow_setCells enV _ blk off _ _ (i + (d.size - j)) (by rw [lay_size]; simp; omega), ← X.out, List.map_replicate, show d.size - (i + (d.size - j)) = 1 by omega]
end Go.Proofs.Ytmblehbjedpjoaa

namespace Go.Eng
open Go
section
variable {P : Program} {α : Type}
theorem AOps_ex : ∀ (l : List MOp) {Q : α → List AV → AHeap → Prop} {S : List AV} {H : AHeap}, AOps P l (fun S H => ∃ x, Q x S H) S H → ∃ x, AOps P l (Q x) S H := by
  intro l
  induction l with
  | nil => intro Q S H h; exact h
  | cons o r ih =>
    intro Q S H h
    simp only [AOps] at h ⊢
    split at h
    · exact h.elim
    · rename_i t _
      cases t with
      | true =>
        simp only [if_true] at h ⊢
        obtain ⟨v, H1, h1, h2, h3⟩ := h
        obtain ⟨x, hx⟩ := ih h3
        exact ⟨x, v, H1, h1, h2, hx⟩
      | false =>
        simp only [Bool.false_eq_true, if_false] at h ⊢
        exact ih h
/-- A loop with a rank. -/
def LoopR (P : Program) (a : MCode) (Q : Post) (k : Nat) (S : List AV) (H : AHeap) : Prop :=
  ∃ (J : Nat → List AV → AHeap → Prop), J k S H ∧ ∀ k S H, J k S H → AW P a (MX.then (fun S' H' => ∃ k' S'', k' < k ∧ Forget S' S'' ∧ J k' S'' H') Q) S H
/-- One round, and then loops of a smaller rank. -/
theorem LoopR_step {a : MCode} {Q : Post} {k : Nat} {S : List AV} {H : AHeap} (h : AW P a (MX.then (fun S' H' => ∃ k' S'', k' < k ∧ Forget S' S'' ∧ LoopR P a Q k' S'' H') Q) S H) : LoopR P a Q k S H := by
  refine ⟨fun j S1 H1 => (j = k ∧ S1 = S ∧ H1 = H) ∨ (j < k ∧ LoopR P a Q j S1 H1), .inl ⟨rfl, rfl, rfl⟩, ?_⟩
  rintro j S1 H1 (⟨rfl, rfl, rfl⟩ | ⟨hj, J, h1, h2⟩)
  · refine AW_mono (fun e S' H' h' => ?_) h
    cases e with
    | normal =>
      obtain ⟨k', S'', g1, g2, g3⟩ := h'
      exact ⟨k', S'', g1, g2, .inr ⟨g1, g3⟩⟩
    | exit id => exact h'
    | ret => exact h'
  · refine AW_mono (fun e S' H' h' => ?_) (h2 j S1 H1 h1)
    cases e with
    | normal =>
      obtain ⟨k', S'', g1, g2, g3⟩ := h'
      exact ⟨k', S'', g1, g2, .inr ⟨by omega, J, g3, h2⟩⟩
    | exit id => exact h'
    | ret => exact h'
theorem inScope_mono {g : Nat} {K K' : List AV → AHeap → Prop} {Q : Post} {e : MX} {S : List AV} {H : AHeap} (hk : ∀ S H, K S H → K' S H) (h : MX.inScope g K Q e S H) : MX.inScope g K' Q e S H := by
  cases e with
  | normal => exact h
  | exit id =>
    simp only [MX.inScope] at h ⊢
    split at h
    · rename_i hi; rw [if_pos hi]; exact hk _ _ h
    · rename_i hi; rw [if_neg hi]; exact h
  | ret => exact h
theorem inScope_ex {g : Nat} {K : α → List AV → AHeap → Prop} {Q : α → Post} {e : MX} {S : List AV} {H : AHeap} (h : MX.inScope g (fun S H => ∃ x, K x S H) (fun e S H => ∃ x, Q x e S H) e S H) : ∃ x, MX.inScope g (K x) (Q x) e S H := by
  cases e with
  | normal => exact h
  | exit id =>
    simp only [MX.inScope] at h ⊢
    split at h
    · rename_i hi
      obtain ⟨x, hx⟩ := h
      exact ⟨x, by rw [if_pos hi]; exact hx⟩
    · rename_i hi
      split at h
      · exact h.elim
      · rename_i hj
        obtain ⟨x, hx⟩ := h
        exact ⟨x, by rw [if_neg hi, if_neg hj]; exact hx⟩
  | ret => exact h
/-- What stands behind a label, with a rank. -/
def ScopeR (P : Program) (g : Nat) (r : MCode) (Q : Post) (k : Nat) (S : List AV) (H : AHeap) : Prop :=
  ∃ (J : Nat → List AV → AHeap → Prop), J k S H ∧ ∀ k S H, J k S H → AW P r (MX.inScope g (fun S' H' => ∃ k' S'', k' < k ∧ Forget S' S'' ∧ J k' S'' H') Q) S H
theorem ScopeR_step {g : Nat} {r : MCode} {Q : Post} {k : Nat} {S : List AV} {H : AHeap} (h : AW P r (MX.inScope g (fun S' H' => ∃ k' S'', k' < k ∧ Forget S' S'' ∧ ScopeR P g r Q k' S'' H') Q) S H) : ScopeR P g r Q k S H := by
  refine ⟨fun j S1 H1 => (j = k ∧ S1 = S ∧ H1 = H) ∨ (j < k ∧ ScopeR P g r Q j S1 H1), .inl ⟨rfl, rfl, rfl⟩, ?_⟩
  rintro j S1 H1 (⟨rfl, rfl, rfl⟩ | ⟨hj, J, h1, h2⟩)
  · refine AW_mono (fun e S' H' h' => inScope_mono (fun S' H' h3 => ?_) h') h
    obtain ⟨k', S'', g1, g2, g3⟩ := h3
    exact ⟨k', S'', g1, g2, .inr ⟨g1, g3⟩⟩
  · refine AW_mono (fun e S' H' h' => inScope_mono (fun S' H' h3 => ?_) h') (h2 j S1 H1 h1)
    obtain ⟨k', S'', g1, g2, g3⟩ := h3
    exact ⟨k', S'', g1, g2, .inr ⟨by omega, J, g3, h2⟩⟩
/-- No region of two orders. -/
def noAlt : MCode → Bool
  | .ops2 _ _ => false
  | .seq a b => noAlt a && noAlt b
  | .cond _ a b => noAlt a && noAlt b
  | .block _ a => noAlt a
  | .loop a => noAlt a
  | .cut a => noAlt a
  | .scope _ a b => noAlt a && noAlt b
  | _ => true
theorem AW_ex : ∀ {m : MCode}, noAlt m = true → ∀ {Q : α → Post} {S : List AV} {H : AHeap}, AW P m (fun e S H => ∃ x, Q x e S H) S H → ∃ x, AW P m (Q x) S H := by
  intro m
  induction m with
  | skip => intro _ Q S H h; exact h
  | ops l => intro _ Q S H h; exact AOps_ex l h
  | ops2 l l' => intro hno; cases hno
  | seq a b iha ihb =>
    intro hno Q S H h
    simp only [noAlt, Bool.and_eq_true] at hno
    refine iha hno.1 (Q := fun x => MX.then (AW P b (Q x)) (Q x)) (AW_mono (fun e S H h => ?_) h)
    cases e with
    | normal => exact ihb hno.2 h
    | exit id => exact h
    | ret => exact h
  | cond c a b iha ihb =>
    intro hno Q S H h
    simp only [noAlt, Bool.and_eq_true] at hno
    simp only [AW] at h ⊢
    split at h
    · split at h
      · rename_i ht
        obtain ⟨x, hx⟩ := iha hno.1 h
        exact ⟨x, by rw [if_pos ht]; exact hx⟩
      · rename_i ht
        obtain ⟨x, hx⟩ := ihb hno.2 h
        exact ⟨x, by rw [if_neg ht]; exact hx⟩
    · exact h.elim
  | block id a iha =>
    intro hno Q S H h
    simp only [noAlt] at hno
    refine iha hno (Q := fun x => MX.inBlock id (Q x)) (AW_mono (fun e S H h => ?_) h)
    cases e with
    | normal => exact h
    | exit id' =>
      simp only [MX.inBlock] at h ⊢
      split at h
      · rename_i hi
        obtain ⟨x, hx⟩ := h
        exact ⟨x, by rw [if_pos hi]; exact hx⟩
      · rename_i hi
        obtain ⟨x, hx⟩ := h
        exact ⟨x, by rw [if_neg hi]; exact hx⟩
    | ret => exact h
  | loop a iha =>
    intro hno Q S H h
    simp only [noAlt] at hno
    obtain ⟨J, ⟨k0, S0, hf, hJ⟩, hstep⟩ := h
    have key : ∀ k S H, J k S H → ∃ x, LoopR P a (Q x) k S H := by
      intro k
      induction k using Nat.strongRecOn with
      | _ k ih =>
        intro S H hj
        have h1 := hstep k S H hj
        have h2 : ∃ x, AW P a (MX.then (fun S' H' => ∃ k' S'', k' < k ∧ Forget S' S'' ∧ LoopR P a (Q x) k' S'' H') (Q x)) S H := by
          refine iha hno (Q := fun x => MX.then (fun S' H' => ∃ k' S'', k' < k ∧ Forget S' S'' ∧ LoopR P a (Q x) k' S'' H') (Q x)) (AW_mono (fun e S' H' h' => ?_) h1)
          cases e with
          | normal =>
            obtain ⟨k', S'', g1, g2, g3⟩ := h'
            obtain ⟨x, hx⟩ := ih k' g1 S'' H' g3
            exact ⟨x, k', S'', g1, g2, hx⟩
          | exit id => exact h'
          | ret => exact h'
        obtain ⟨x, hx⟩ := h2
        exact ⟨x, LoopR_step hx⟩
    obtain ⟨x, J', h1, h2⟩ := key k0 S0 H hJ
    exact ⟨x, J', ⟨k0, S0, hf, h1⟩, h2⟩
  | exit id => intro _ Q S H h; exact h
  | cut a iha =>
    intro hno Q S H h
    simp only [noAlt] at hno
    obtain ⟨S0, h0, h1⟩ := h
    obtain ⟨x, hx⟩ := iha hno h1
    exact ⟨x, S0, h0, hx⟩
  | label l => intro _ Q S H h; exact h
  | scope g a r iha ihr =>
    intro hno Q S H h
    simp only [noAlt, Bool.and_eq_true] at hno
    obtain ⟨J, h0, hstep⟩ := h
    have key : ∀ k S H, J k S H → ∃ x, ScopeR P g r (Q x) k S H := by
      intro k
      induction k using Nat.strongRecOn with
      | _ k ih =>
        intro S H hj
        have h1 := hstep k S H hj
        have h2 : ∃ x, AW P r (MX.inScope g (fun S' H' => ∃ k' S'', k' < k ∧ Forget S' S'' ∧ ScopeR P g r (Q x) k' S'' H') (Q x)) S H := by
          refine ihr hno.2 (Q := fun x => MX.inScope g (fun S' H' => ∃ k' S'', k' < k ∧ Forget S' S'' ∧ ScopeR P g r (Q x) k' S'' H') (Q x)) (AW_mono (fun e S' H' h' => ?_) h1)
          refine inScope_ex (inScope_mono (fun S' H' h3 => ?_) h')
          obtain ⟨k', S'', g1, g2, g3⟩ := h3
          obtain ⟨x, hx⟩ := ih k' g1 S'' H' g3
          exact ⟨x, k', S'', g1, g2, hx⟩
        obtain ⟨x, hx⟩ := h2
        exact ⟨x, ScopeR_step hx⟩
    have h3 : ∃ x, AW P a (MX.inScope g (fun S' H' => ∃ k S'', Forget S' S'' ∧ ScopeR P g r (Q x) k S'' H') (Q x)) S H := by
      refine iha hno.1 (Q := fun x => MX.inScope g (fun S' H' => ∃ k S'', Forget S' S'' ∧ ScopeR P g r (Q x) k S'' H') (Q x)) (AW_mono (fun e S' H' h' => ?_) h0)
      refine inScope_ex (inScope_mono (fun S' H' h3 => ?_) h')
      obtain ⟨k, S'', g2, g3⟩ := h3
      obtain ⟨x, hx⟩ := key k S'' H' g3
      exact ⟨x, k, S'', g2, hx⟩
    obtain ⟨x, hx⟩ := h3
    refine ⟨x, fun k S H => ScopeR P g r (Q x) k S H, hx, ?_⟩
    rintro k S H ⟨J', j1, j2⟩
    refine AW_mono (fun e S' H' h' => inScope_mono (fun S' H' h3 => ?_) h') (j2 k S H j1)
    obtain ⟨k', S'', g1, g2, g3⟩ := h3
    exact ⟨k', S'', g1, g2, J', g3, j2⟩
  | ret => intro _ Q S H h; exact h
  | fail => intro _ Q S H h; exact h.elim
theorem AW_false : ∀ {m : MCode}, noAlt m = true → ∀ {S : List AV} {H : AHeap}, ¬ AW P m (fun _ _ _ => False) S H := by
  intro m hno S H h
  have h2 : AW P m (fun e S H => ∃ x : Empty, (fun (_ : Empty) (_ : MX) (_ : List AV) (_ : AHeap) => True) x e S H) S H := AW_mono (fun _ _ _ h => h.elim) h
  obtain ⟨x, _⟩ := AW_ex hno h2
  exact x.elim
/-- The end of a function, where what it hands back need not be known ahead. -/
def FinR (res : List PAct) (H : AHeap) (R : AV → AHeap → Prop) : Post := fun e S H1 => ∃ x : AV × AHeap, Fin res H x.1 x.2 e S H1 ∧ R x.1 x.2
theorem FinR_ret (res : List PAct) (H : AHeap) (R : AV → AHeap → Prop) (S : List AV) (H1 : AHeap) : FinR res H R .ret S H1 = on (resV res S) (fun v1 => ∃ v H', GC H v1 H1 v H' ∧ R v H') ⟨⟩ := by
  apply propext
  unfold FinR
  simp only [Fin_ret]
  unfold on
  cases resV res S with
  | none => simp
  | some v1 =>
    constructor
    · rintro ⟨x, h1, h2⟩; exact ⟨_, _, h1, h2⟩
    · rintro ⟨v, H', h1, h2⟩; exact ⟨(v, H'), h1, h2⟩
/-- A function's contract, where the result is told by what it is like. -/
theorem acallsR (hm : P.follows .mixedOrders = true) {f : FuncId} {fn : Func} (hf : P.funcs[f]? = some fn) (hn : (fn.name == "runtime.NumGoroutine") = false) {bx cs : List Nat} {m : MFun} (ht : trF P bx cs fn = some m) {args : List AV} {H : AHeap} (R : AV → AHeap → Prop) (n : Nat)
    (hl : args.length = n) (hb : m.bx.all (fun d => decide (n ≤ d)) = true) (hA : AW P m.body (FinR m.res H R) (args ++ List.replicate (m.nt - n) .junk) H) (hno : noAlt m.body = true := by rfl) : ∃ v H', ACalls P f args H v H' ∧ R v H' := by
  obtain ⟨x, hx⟩ := AW_ex hno (Q := fun (x : AV × AHeap) e S H1 => Fin m.res H x.1 x.2 e S H1 ∧ R x.1 x.2) hA
  have hR : R x.1 x.2 := by
    refine Classical.byContradiction (fun hn => ?_)
    have : AW P m.body (fun _ _ _ => False) (args ++ List.replicate (m.nt - n) .junk) H := AW_mono (fun _ _ _ h => hn h.2) hx
    exact AW_false hno this
  exact ⟨x.1, x.2, acalls hm hf hn ht n hl hb (AW_mono (fun _ _ _ h => h.1) hx), hR⟩
end
end Go.Eng

namespace Go.Eng
open Go
theorem AccL_push2 {α : Type} {es : Nat} {e : α → List AV} {H H1 : AHeap} {v : AV} {xs : List α} (h : AccL es e H H1 v xs) (he : ∀ x, (e x).length = es) (h0 : 0 < es) (x : α) (hl : xs.length + 1 ≤ lim) :
    ∃ v' H2, appA es (H1 ++ [.cells true (e x)]) v (.sl es H1.length 0 1 true) = some (v', H2) ∧ AccL es e H H2 v' (xs ++ [x]) ∧
      (∀ k o, H1[k]? = some o → (∀ n len, v = .sl es n 0 len false → k ≠ n) → H2[k]? = some o) ∧ ∃ n len, v' = .sl es n 0 len false ∧ H1.length ≤ n := by
  obtain ⟨v', H2, happ, hacc⟩ := h.push he x hl
  refine ⟨v', H2, happ, hacc, ?_⟩
  have hc := slCells_new (es := es) H1 (e x) (he x)
  rcases h.2.2 with ⟨h3, rfl⟩ | ⟨h3, n, rfl, h5, h6⟩
  · unfold appA at happ
    rw [hc] at happ
    simp [lim] at happ
    obtain ⟨rfl, rfl⟩ := happ
    refine ⟨fun k o hk _ => ?_, _, _, rfl, by simp⟩
    have hlt := (List.getElem?_eq_some_iff.1 hk).1
    first
      | (rw [List.getElem?_append_left hlt]; exact hk)
      | (rw [List.getElem?_append_left (by rw [List.length_append]; omega), List.getElem?_append_left hlt]; exact hk)
  · have hlt := (List.getElem?_eq_some_iff.1 h6).1
    have hget : (H1 ++ [AObj.cells true (e x)])[n]? = some (.cells true (xs.flatMap e)) := by rw [List.getElem?_append_left hlt]; exact h6
    have hfl := flatMap_length he xs
    unfold appA at happ
    rw [hc] at happ
    simp only [hget, Nat.one_ne_zero, if_false, if_true, true_and] at happ
    rw [if_pos hl, if_pos (by omega)] at happ
    simp only [Bool.false_eq_true, if_false, Option.some.injEq, Prod.mk.injEq] at happ
    obtain ⟨rfl, rfl⟩ := happ
    refine ⟨fun k o hk hne => ?_, _, _, rfl, by simp⟩
    have hk1 := (List.getElem?_eq_some_iff.1 hk).1
    have hkn := hne n xs.length rfl
    rw [List.getElem?_append_left (by simp; omega), List.getElem?_set_ne (Ne.symm hkn), List.getElem?_append_left hk1]
    exact hk
theorem AccL_base0 {α : Type} {es : Nat} {e : α → List AV} {A0 A H : AHeap} {v : AV} {xs : List α} (hp : A0 <+: A) (h : AccL es e A H v xs) : AccL es e A0 H v xs := by
  obtain ⟨h1, h2, h3⟩ := h
  refine ⟨hp.trans h1, h2, ?_⟩
  rcases h3 with h4 | ⟨h0, n, h4, h5, h6⟩
  · exact .inl h4
  · exact .inr ⟨h0, n, h4, Nat.le_trans hp.length_le h5, h6⟩
end Go.Eng

namespace Go.Proofs.Ytmblehbjedpjoaa
open Go Go.Eng
theorem AccL_ls {α : Type} {es : Nat} {e : α → List AV} {H H1 : AHeap} {v : AV} {xs : List α} (h : AccL es e H H1 v xs) (he : ∀ x, (e x).length = es) : Ls es e H1 v xs := by
  obtain ⟨h1, h2, h3⟩ := h
  refine ⟨he, ?_⟩
  rcases h3 with ⟨h4, rfl⟩ | ⟨h0, n, rfl, h5, h6⟩
  · have : xs = [] := List.eq_nil_of_length_eq_zero h4
    subst this; rfl
  · simp only [slCells, cellsAt, h6, if_true, Nat.zero_add]
    rw [if_pos (by omega)]
    simp only [List.drop_zero, Option.map_some, Option.some.injEq, Prod.mk.injEq, true_and]
    rw [← h2, List.take_length]
theorem cells_agg (l : List AV) : (AV.agg l).cells? = some l := rfl
theorem cells_int (k : IntKind) (n : Int) : (AV.int k n).cells? = some [.int k n] := rfl
theorem cells_sl (a b c d : Nat) (e : Bool) : (AV.sl a b c d e).cells? = some [.sl a b c d e] := rfl
/-- A store. -/
def stA (sz : Nat) (p x : AV) (H : AHeap) : Option AHeap :=
  match p, x.cells? with
  | .ptr n off, some c => match H[n]? with
    | some (.cells true l) => if c.length = sz ∧ off + sz ≤ l.length then some (H.set n (.cells true (splice l off c))) else none
    | _ => none
  | _, _ => none
theorem hval_blds (es n : Nat) (zero : List AV) (parts : List (Nat × Nat × Opd)) (S : List AV) (H : AHeap) : hval (.blds es n zero parts) S H = match fillA (parts.map fun p => (p.1, p.2.1, rd S p.2.2)) (repl zero n) with | some l => some (.sl es H.length 0 n true, H ++ [.cells true l]) | none => none := rfl
theorem hval_app (es : Nat) (x y : Opd) (S : List AV) (H : AHeap) : hval (.app es x y) S H = appA es H (rd S x) (rd S y) := rfl
theorem splice_flat {α : Type} {es : Nat} {e : α → List AV} (he : ∀ x, (e x).length = es) {xs : List α} {i : Nat} (hi : i < xs.length) (z : α) : splice (xs.flatMap e) (i * es) (e z) = (xs.set i z).flatMap e := by
  unfold splice
  have h1 := flatMap_length he (xs.take i)
  rw [List.length_take, Nat.min_eq_left (by omega)] at h1
  have h2 := flatMap_length he (xs.take (i + 1))
  rw [List.length_take, Nat.min_eq_left (by omega)] at h2
  have e1 : (xs.flatMap e).take (i * es) = (xs.take i).flatMap e := by
    conv => lhs; rw [← List.take_append_drop i xs, List.flatMap_append]
    rw [← h1, List.take_left]
  have e2 : (xs.flatMap e).drop (i * es + (e z).length) = (xs.drop (i + 1)).flatMap e := by
    conv => lhs; rw [← List.take_append_drop (i + 1) xs, List.flatMap_append]
    rw [he z, ← Nat.succ_mul, Nat.succ_eq_add_one, ← h2, List.drop_left]
  rw [e1, e2, List.set_eq_take_append_cons_drop, if_pos hi, List.flatMap_append, List.flatMap_cons, List.append_assoc]
/-- A list that the call itself has made and may write. -/
structure OL {α : Type} (es : Nat) (e : α → List AV) (A H : AHeap) (n : Nat) (v : AV) (xs : List α) : Prop where
  he : ∀ x, (e x).length = es
  pre : A <+: H
  new : A.length ≤ n
  ob : H[n]? = some (.cells true (xs.flatMap e))
  v : ∃ full, v = .sl es n 0 xs.length full
section
variable {α : Type} {es : Nat} {e : α → List AV} {A H : AHeap} {n : Nat} {v : AV} {xs : List α}
theorem OL.ls (h : OL es e A H n v xs) : Ls es e H v xs := by
  obtain ⟨he, h1, h2, h3, full, rfl⟩ := h
  refine ⟨he, ?_⟩
  have hl := flatMap_length he xs
  simp only [slCells, cellsAt, h3, if_true, Nat.zero_add]
  rw [if_pos (by omega)]
  simp only [List.drop_zero, Option.map_some, Option.some.injEq, Prod.mk.injEq, true_and]
  rw [← hl, List.take_length]
theorem OL.lt (h : OL es e A H n v xs) : n < H.length := (List.getElem?_eq_some_iff.1 h.ob).1
theorem OL.set (h : OL es e A H n v xs) (i : Nat) (z : α) : OL es e A (H.set n (.cells true ((xs.set i z).flatMap e))) n v (xs.set i z) := by
  have hn := h.lt
  obtain ⟨he, h1, h2, h3, full, rfl⟩ := h
  exact ⟨he, pre_set h1 h2 _, h2, by rw [List.getElem?_set_self hn], full, by simp⟩
theorem OL.st (h : OL es e A H n v xs) {i : Nat} (hi : i < xs.length) (x : AV) (z : α) (hx : x.cells? = some (e z)) : stA es (.ptr (nm v) (of v + i * es)) x H = some (H.set n (.cells true ((xs.set i z).flatMap e))) := by
  obtain ⟨he, h1, h2, h3, full, rfl⟩ := h
  have hl := flatMap_length he xs
  have hle : i * es + es ≤ xs.length * es := by
    rw [← Nat.succ_mul]; exact Nat.mul_le_mul_right _ hi
  simp only [stA, nm, of, hx, h3, Nat.zero_add]
  rw [if_pos ⟨he z, by omega⟩, splice_flat he hi z]
theorem OL.mono {H' : AHeap} (h : OL es e A H n v xs) (hp : H <+: H') : OL es e A H' n v xs := ⟨h.he, h.pre.trans hp, h.new, pre_get hp h.ob, h.v⟩
theorem gc_weak {v1 v1' v : AV} {H1 H' : AHeap} (h : ∀ ρ c, VR ρ v1 c → VR ρ v1' c) (g : GC A v1' H1 v H') : GC A v1 H1 v H' :=
  fun ρ w ρ1 w1 cv s0 s1 st hv => g ρ w ρ1 w1 cv s0 s1 st (h ρ1 cv hv)
theorem VR.unfull {ρ : Ren} {es n off len : Nat} {full : Bool} {c : Value} (h : VR ρ (.sl es n off len full) c) : VR ρ (.sl es n off len false) c := by
  cases h with
  | sl _ _ _ _ _ L a cap h1 h2 h3 h4 h5 => exact .sl es n off len false L a cap h1 h2 (fun e => by cases e) h4 h5
theorem OL.acc (h : OL es e A H n v xs) (h0 : 0 < xs.length) : AccL es e A H (.sl es n 0 xs.length false) xs :=
  ⟨h.pre, flatMap_length h.he xs, .inr ⟨h0, n, rfl, h.new, h.ob⟩⟩
theorem OL.gc (h : OL es e A H n v xs) (h0 : 0 < xs.length) (hf : ∀ x, ∀ y ∈ e x, flat y = true) : GC A v H (outV es A xs.length) (outH A (xs.flatMap e) xs.length) := by
  have h1 := (h.acc h0).gc hf
  obtain ⟨_, _, _, _, full, rfl⟩ := h
  exact gc_weak (fun ρ c => VR.unfull) h1
theorem OL.gc2 (h : OL es e A H n v xs) (h0 : 0 < xs.length) (hf : ∀ x, ∀ y ∈ e x, flat y = true) (c : AV) (hc : flat c = true) : GC A (.tuple [v, c]) H (.tuple [outV es A xs.length, c]) (outH A (xs.flatMap e) xs.length) := by
  have h1 := (h.acc h0).gc2 hf c hc
  obtain ⟨_, _, _, _, full, rfl⟩ := h
  refine gc_weak (fun ρ cv hv => ?_) h1
  cases hv with
  | tuple _ vs hl hh =>
    refine .tuple _ _ hl (fun i x u hx hu => ?_)
    match i with
    | 0 =>
      simp at hx
      subst hx
      exact VR.unfull (hh 0 _ u rfl hu)
    | i + 1 => exact hh (i + 1) x u (by simpa using hx) hu
end
end Go.Proofs.Ytmblehbjedpjoaa

namespace Go.Proofs.Ytmblehbjedpjoaa
open Go Go.Eng
/-- A number that a machine word holds. -/
abbrev W (a : Int) : Prop := -9223372036854775808 ≤ a ∧ a ≤ 9223372036854775807
/-- The first element's place, or -1. -/
def fpos (g : Int → Bool) (xs : List Int) : Int := match xs.findIdx? g with | some i => i | none => -1
theorem fpos_some {g : Int → Bool} {xs : List Int} {i : Nat} {z : Int} (h : ∀ y ∈ xs.take i, g y = false) (hz : xs[i]? = some z) (hg : g z = true) : fpos g xs = i := by
  have hi : i < xs.length := (List.getElem?_eq_some_iff.1 hz).1
  have he : xs[i] = z := (List.getElem?_eq_some_iff.1 hz).2
  have : xs.findIdx? g = some i := by
    rw [List.findIdx?_eq_some_iff_getElem]
    refine ⟨hi, by rw [he]; exact hg, fun j hj => ?_⟩
    have : xs[j]'(by omega) ∈ xs.take i := by
      rw [List.mem_take_iff_getElem]
      exact ⟨j, by omega, rfl⟩
    simp [h _ this]
  unfold fpos
  rw [this]
theorem fpos_none {g : Int → Bool} {xs : List Int} (h : ∀ y ∈ xs, g y = false) : fpos g xs = -1 := by
  have : xs.findIdx? g = none := by
    rw [List.findIdx?_eq_none_iff]
    exact h
  unfold fpos
  rw [this]
theorem fpos_iff (g : Int → Bool) (xs : List Int) : 0 ≤ fpos g xs ↔ xs.any g = true := by
  unfold fpos
  cases h : xs.findIdx? g with
  | some i =>
    rw [List.findIdx?_eq_some_iff_getElem] at h
    obtain ⟨hi, hg, _⟩ := h
    simp only [Int.natCast_nonneg, true_iff, List.any_eq_true]
    exact ⟨_, List.getElem_mem hi, hg⟩
  | none =>
    rw [List.findIdx?_eq_none_iff] at h
    constructor
    · intro h1; simp at h1
    · intro h1
      rw [List.any_eq_true] at h1
      obtain ⟨x, hx, hg⟩ := h1
      rw [h x hx] at hg; cases hg
theorem take_false {g : Int → Bool} {xs : List Int} {i : Nat} {z : Int} (h : ∀ y ∈ xs.take i, g y = false) (hz : xs[i]? = some z) (hg : g z = false) : ∀ y ∈ xs.take (i + 1), g y = false := by
  intro y hy
  rw [List.take_add_one, hz] at hy
  rcases List.mem_append.1 hy with hy | hy
  · exact h y hy
  · have : y = z := by simpa using hy
    rw [this]; exact hg
theorem c_IndexFunc {xs : List Int} {v : AV} {A : AHeap} (hx : L1 A v xs) (hl : xs.length ≤ 1000000) (f : FuncId) (cap : List AV) (g : Int → Bool) (hg : ∀ x ∈ xs, ACalls Try.prog f ([I x] ++ cap) A (B (g x)) A) : ACalls Try.prog 114 [v, .fn f cap] A (I (fpos g xs)) A := by
  refine acalls hmix Try.func114 (by kernel_rfl) t114 2 rfl (by decide) ?_
  dsimp only [m114]
  simp (maxSteps := 4000000) -implicitDefEqProofs -dsimp (disch := omega) only [↓AW_ops, ↓AW_seq, ↓AW_block, ↓AOps_nil, ↓AOps_pu, on_some, ↓then_normal, pval, rd_S, rd_C, put_S, ↓AW_toLoop, List.replicate_succ, List.replicate_zero, List.set_cons_zero, List.set_cons_succ, List.getElem?_cons_zero, List.getElem?_cons_succ, Option.getD_some, Nat.reduceSub, List.cons_append, List.nil_append, hx.len]
  refine LoopK.by 19 (fun i : Nat => i ≤ xs.length ∧ ∀ y ∈ xs.take i, g y = false) (fun i => [(0, v), (1, .fn f cap), (7, I xs.length), (8, I i)]) (fun _ => A) (fun i => xs.length - i) 0 ⟨by omega, by simp⟩ rfl (by simp [Has, rd_s]) rfl ?_
  rintro i ⟨hi, he⟩
  by_cases hlt : i < xs.length
  · obtain ⟨z, hz⟩ : ∃ z, xs[i]? = some z := ⟨_, List.getElem?_eq_getElem hlt⟩
    have hlt' : (i : Int) < xs.length := by omega
    simp (maxSteps := 4000000) -implicitDefEqProofs -dsimp (disch := omega) only [↓AW_skip, ↓AW_ops, ↓AW_seq, ↓AW_cond, ↓AW_block, ↓AOps_nil, ↓AOps_pu, ↓AOps_ld, ↓AOps_callv, on_some, CallF_fn, condB_t, ↓then_normal, pval, lval, rd_S, put_S, partA, eq_self, mk, List.foldl_cons, List.foldl_nil, List.replicate_succ, List.replicate_zero, List.set_cons_zero, List.set_cons_succ, List.getElem?_cons_zero, List.getElem?_cons_succ, List.drop_zero, List.take_succ_cons, List.take_nil, Option.getD_some, map_c, map_n, List.length_cons, List.length_nil, Nat.reduceLeDiff, Nat.zero_add, List.cons_append, List.nil_append, bin_lss, if_true, if_false, Bool.false_eq_true, decide_true, Go.Eng.e1, hlt', hx.idx hlt, hx.ld0 hz 1 false (by decide)]
    refine CallK.of (hg z (List.mem_of_getElem? hz)) ?_
    by_cases h : g z = true
    · simp (maxSteps := 4000000) -implicitDefEqProofs -dsimp (disch := omega) only [↓AW_ops, ↓AW_seq, ↓AW_cond, ↓AW_ret, ↓AOps_nil, ↓AOps_pu, on_some, extK_same, condB_t, ↓then_normal, ↓then_ret, ↓inBlock_ret, ↓Fin_ret, pval, rd_S, put_S, resV, resL, mk, List.foldl_cons, List.foldl_nil, List.replicate_succ, List.replicate_zero, List.set_cons_zero, List.set_cons_succ, List.getElem?_cons_zero, List.getElem?_cons_succ, Option.getD_some, h]
      exact gc_same (by rw [fpos_some he hz h])
    · have h : g z = false := by simpa using h
      simp (maxSteps := 4000000) -implicitDefEqProofs -dsimp (disch := omega) only [↓AW_skip, ↓AW_ops, ↓AW_cond, ↓AOps_nil, ↓AOps_pu, on_some, extK_same, condB_f, ↓then_normal, ↓inBlock_normal, pval, rd_S, rd_C, put_S, eq_self, mk, List.foldl_cons, List.foldl_nil, List.replicate_succ, List.replicate_zero, List.set_cons_zero, List.set_cons_succ, List.getElem?_cons_zero, List.getElem?_cons_succ, Option.getD_some, List.length_cons, List.length_nil, Nat.reduceAdd, Nat.zero_add, bin_add, w64, true_and, h]
      exact ⟨i + 1, ⟨hlt, take_false he hz h⟩, by simp [Has, rd_s], by omega⟩
  · have hlt' : ¬ ((i : Int) < xs.length) := by omega
    simp (maxSteps := 4000000) -implicitDefEqProofs -dsimp (disch := omega) only [↓AW_ops, ↓AW_seq, ↓AW_cond, ↓AW_exit, ↓AW_ret, ↓AOps_nil, ↓AOps_pu, on_some, condB_f, ↓then_normal, ↓then_exit, ↓inBlock_exit, ↓Fin_ret, pval, rd_S, rd_C, put_S, resV, resL, eq_self, mk, List.foldl_cons, List.foldl_nil, List.replicate_succ, List.replicate_zero, List.set_cons_zero, List.set_cons_succ, List.getElem?_cons_zero, List.getElem?_cons_succ, Option.getD_some, bin_lss, if_true, decide_false, Int.reduceNeg, hlt']
    rw [List.take_of_length_le (by omega)] at he
    exact gc_same (by rw [fpos_none he])
theorem c_ContainsFunc {xs : List Int} {v : AV} {A : AHeap} (hx : L1 A v xs) (hl : xs.length ≤ 1000000) (f : FuncId) (cap : List AV) (g : Int → Bool) (hg : ∀ x ∈ xs, ACalls Try.prog f ([I x] ++ cap) A (B (g x)) A) : ACalls Try.prog 69 [v, .fn f cap] A (B (xs.any g)) A := by
  refine acalls hmix Try.func69 (by kernel_rfl) t69 2 rfl (by decide) ?_
  dsimp only [m69]
  simp (maxSteps := 4000000) -implicitDefEqProofs -dsimp (disch := omega) only [↓AW_ops, ↓AW_seq, ↓AOps_nil, ↓AOps_pu, ↓AOps_call, on_some, ↓then_normal, pval, rd_S, rd_C, put_S, List.replicate_succ, List.replicate_zero, List.set_cons_zero, List.set_cons_succ, List.getElem?_cons_zero, List.getElem?_cons_succ, Option.getD_some, map_c, map_n, Nat.reduceSub, List.cons_append, List.nil_append]
  refine CallK.of (c_IndexFunc hx hl f cap g hg) ?_
  simp (maxSteps := 4000000) -implicitDefEqProofs -dsimp (disch := omega) only [↓AW_ret, ↓AOps_nil, ↓AOps_pu, on_some, extK_same, ↓then_normal, ↓Fin_ret, pval, rd_S, rd_C, put_S, resV, resL, List.replicate_succ, List.replicate_zero, List.set_cons_zero, List.set_cons_succ, List.getElem?_cons_zero, List.getElem?_cons_succ, Option.getD_some, Nat.reduceSub, List.cons_append, List.nil_append, bin_geq]
  refine gc_same ?_
  congr 1
  rw [Bool.eq_iff_iff, decide_eq_true_iff, fpos_iff]
theorem L1_nil (A : AHeap) : L1 A .nilS [] := ⟨e1_len, rfl⟩
theorem L1_one (A : AHeap) (x : Int) : L1 (A ++ [.cells true [I x]]) (.sl 1 A.length 0 1 true) [x] := ⟨e1_len, by simp [slCells, cellsAt, e1]⟩
theorem take_mem {α : Type} {l : List α} {i : Nat} {z y : α} (hz : l[i]? = some z) : y ∈ l.take (i + 1) ↔ y ∈ l.take i ∨ y = z := by
  rw [List.take_add_one, hz, List.mem_append]
  simp
end Go.Proofs.Ytmblehbjedpjoaa

namespace Go.Proofs.Ytmblehbjedpjoaa
open Go Go.Eng
theorem gcd_step (x y : Int) : Int.gcd y (x.tmod y) = Int.gcd x y := by
  unfold Int.gcd
  rw [Int.natAbs_tmod, Nat.gcd_comm y.natAbs, ← Nat.gcd_rec, Nat.gcd_comm]
theorem gcd_pos {a b : Int} (hb : 0 < b) : 0 < Int.gcd a b ∧ (Int.gcd a b : Int) ≤ b := by
  have h1 : 0 < Int.gcd a b := Int.gcd_pos_of_ne_zero_right a (by omega)
  have h2 : (Int.gcd a b : Int) ∣ b := Int.gcd_dvd_right a b
  exact ⟨h1, Int.le_of_dvd hb h2⟩
theorem s111 {a b : Int} (A : AHeap) (ha : W a) (hb0 : 0 < b) (hb : b ≤ 9223372036854775807) : ACalls Try.prog 111 [I a, I b] A (I (Int.gcd a b)) A := by
  refine acalls hmix Try.func111 (by kernel_rfl) t111 2 rfl (by decide) ?_
  dsimp only [m111]
  simp (maxSteps := 4000000) -implicitDefEqProofs -dsimp (disch := omega) only [↓AW_ops, ↓AW_seq, ↓AW_block, ↓AOps_nil, ↓AOps_pu, on_some, ↓then_normal, pval, rd_C, put_S, ↓AW_toLoop, List.replicate_succ, List.replicate_zero, List.set_cons_zero, List.set_cons_succ, Nat.reduceSub, List.cons_append, List.nil_append]
  obtain ⟨g1, g2⟩ := gcd_pos (a := a) hb0
  refine LoopK.by 15 (fun x : Int × Int => Int.gcd x.1 x.2 = Int.gcd a b ∧ W x.1 ∧ W x.2) (fun x => [(0, I x.1), (1, I x.2)]) (fun _ => A) (fun x => x.2.natAbs) (a, b) ⟨rfl, ha, by omega, hb⟩ rfl (by simp [Has, rd_s]) rfl ?_
  rintro ⟨x, y⟩ ⟨hxy, hx, hy⟩
  simp only at hxy hx hy
  by_cases hy0 : y = 0
  · subst hy0
    have hx1 : x.natAbs = Int.gcd a b := by rw [← hxy]; simp
    simp (maxSteps := 4000000) -implicitDefEqProofs -dsimp (disch := omega) only [↓AW_ops, ↓AW_seq, ↓AW_cond, ↓AW_exit, ↓AW_ret, ↓AOps_nil, ↓AOps_pu, on_some, condB_f, ↓then_normal, ↓then_exit, ↓inBlock_exit, ↓Fin_ret, pval, rd_S, rd_C, put_S, resV, resL, eq_self, mk, List.foldl_cons, List.foldl_nil, List.replicate_succ, List.replicate_zero, List.set_cons_zero, List.set_cons_succ, List.getElem?_cons_zero, List.getElem?_cons_succ, Option.getD_some, map_c, map_n, bin_neq, mm_max, w64, if_true, decide_false, not_true_eq_false]
    exact gc_same (by congr 1; omega)
  · simp (maxSteps := 4000000) -implicitDefEqProofs -dsimp (disch := omega) only [↓AW_skip, ↓AW_ops, ↓AW_seq, ↓AW_cond, ↓AW_block, ↓AOps_nil, ↓AOps_pu, on_some, condB_t, ↓then_normal, ↓inBlock_normal, pval, rd_S, rd_C, put_S, eq_self, mk, List.foldl_cons, List.foldl_nil, List.replicate_succ, List.replicate_zero, List.set_cons_zero, List.set_cons_succ, List.getElem?_cons_zero, List.getElem?_cons_succ, Option.getD_some, List.length_cons, List.length_nil, Nat.reduceAdd, Nat.zero_add, bin_rem, bin_neq, if_false, decide_true, true_and, not_false_eq_true, hy0]
    have hm : (x.tmod y).natAbs < y.natAbs := by rw [Int.natAbs_tmod]; exact Nat.mod_lt _ (by omega)
    exact ⟨(y, x.tmod y), ⟨by rw [gcd_step]; exact hxy, hy, by omega⟩, by simp [Has, rd_s], hm⟩
theorem s91 {a b : Int} (A : AHeap) (ha : W a) (ha' : a ≠ -9223372036854775808) (hb0 : 0 < b) (hb : b ≤ 9223372036854775807) : ACalls Try.prog 91 [I a, I b] A (I (Int.gcd a b)) A := by
  refine acalls hmix Try.func91 (by kernel_rfl) t91 2 rfl (by decide) ?_
  dsimp only [m91]
  simp (maxSteps := 4000000) -implicitDefEqProofs -dsimp (disch := omega) only [↓AW_ops, ↓AW_seq, ↓AW_block, ↓AOps_nil, ↓AOps_pu, on_some, ↓then_normal, pval, rd_S, rd_C, put_S, ↓AW_toLoop, List.replicate_succ, List.replicate_zero, List.set_cons_zero, List.set_cons_succ, List.getElem?_cons_zero, List.getElem?_cons_succ, Option.getD_some, map_c, map_n, Nat.reduceSub, List.cons_append, List.nil_append, mm_max, w64]
  obtain ⟨g1, g2⟩ := gcd_pos (a := a) hb0
  have key : Int.gcd (max a (0 - a)) (max b (0 - b)) = Int.gcd a b := by
    unfold Int.gcd
    congr 1 <;> omega
  refine LoopK.by 24 (fun x : Int × Int => Int.gcd x.1 x.2 = Int.gcd a b ∧ (0 ≤ x.1 ∧ W x.1) ∧ (0 ≤ x.2 ∧ W x.2)) (fun x => [(5, I x.1), (6, I x.2)]) (fun _ => A) (fun x => x.2.natAbs) (max a (0 - a), max b (0 - b)) ⟨key, by omega, by omega⟩ rfl (by simp [Has, rd_s]) rfl ?_
  rintro ⟨x, y⟩ ⟨hxy, hx, hy⟩
  simp only at hxy hx hy
  by_cases hy0 : 0 < y
  · have hne : ¬ y = 0 := by omega
    simp (maxSteps := 4000000) -implicitDefEqProofs -dsimp (disch := omega) only [↓AW_skip, ↓AW_ops, ↓AW_seq, ↓AW_cond, ↓AW_block, ↓AOps_nil, ↓AOps_pu, on_some, condB_t, ↓then_normal, ↓inBlock_normal, pval, rd_S, rd_C, put_S, eq_self, mk, List.foldl_cons, List.foldl_nil, List.replicate_succ, List.replicate_zero, List.set_cons_zero, List.set_cons_succ, List.getElem?_cons_zero, List.getElem?_cons_succ, Option.getD_some, List.length_cons, List.length_nil, Nat.reduceAdd, Nat.zero_add, bin_rem, bin_gtr, if_false, decide_true, true_and, hy0, hne]
    have hm : (x.tmod y).natAbs < y.natAbs := by rw [Int.natAbs_tmod]; exact Nat.mod_lt _ (by omega)
    have hm0 : 0 ≤ x.tmod y := Int.tmod_nonneg y hx.1
    exact ⟨(y, x.tmod y), ⟨by rw [gcd_step]; exact hxy, hy, by omega⟩, by simp [Has, rd_s], hm⟩
  · have hy1 : y = 0 := by omega
    subst hy1
    have hx1 : x.natAbs = Int.gcd a b := by rw [← hxy]; simp
    simp (maxSteps := 4000000) -implicitDefEqProofs -dsimp (disch := omega) only [↓AW_ops, ↓AW_seq, ↓AW_cond, ↓AW_exit, ↓AW_ret, ↓AOps_nil, ↓AOps_pu, on_some, condB_f, ↓then_normal, ↓then_exit, ↓inBlock_exit, ↓Fin_ret, pval, rd_S, rd_C, put_S, resV, resL, eq_self, mk, List.foldl_cons, List.foldl_nil, List.replicate_succ, List.replicate_zero, List.set_cons_zero, List.set_cons_succ, List.getElem?_cons_zero, List.getElem?_cons_succ, Option.getD_some, bin_gtr, if_true, decide_false, hy0]
    exact gc_same (by congr 1; omega)
theorem tdiv_W {a : Int} (ha : W a) {g : Int} (hg : 0 < g) : W (a.tdiv g) := by
  have h : (a.tdiv g).natAbs ≤ a.natAbs := by rw [Int.natAbs_tdiv]; exact Nat.div_le_self _ _
  rcases Int.le_total 0 a with h0 | h0
  · have := Int.tdiv_nonneg h0 (by omega : 0 ≤ g); omega
  · have := Int.tdiv_nonneg (a := -a) (b := g) (by omega) (by omega)
    rw [Int.neg_tdiv] at this; omega
theorem s59 {a b : Int} (A : AHeap) (ha : W a) (hb0 : 0 < b) (hb : b ≤ 9223372036854775807) : ACalls Try.prog 59 [I a, I b] A (.agg [I (a.tdiv (Int.gcd a b)), I (b.tdiv (Int.gcd a b))]) A := by
  refine acalls hmix Try.func59 (by kernel_rfl) t59 2 rfl (by decide) ?_
  dsimp only [m59]
  simp (maxSteps := 4000000) -implicitDefEqProofs -dsimp (disch := omega) only [↓AW_ops, ↓AW_seq, ↓AOps_nil, ↓AOps_pu, ↓AOps_call, on_some, ↓then_normal, pval, rd_S, rd_C, put_S, AV.cells?, List.replicate_succ, List.replicate_zero, List.set_cons_zero, List.set_cons_succ, List.getElem?_cons_zero, List.getElem?_cons_succ, Option.getD_some, map_c, map_n, Nat.reduceSub, List.cons_append, List.nil_append]
  refine CallK.of (s111 _ ha hb0 hb) ?_
  have hn : ¬ b < 0 := by omega
  obtain ⟨g1, g2⟩ := gcd_pos (a := a) hb0
  have hg : ¬ (Int.gcd a b : Int) = 0 := by omega
  have h1 := tdiv_W ha (g := Int.gcd a b) (by omega)
  have h2 := tdiv_W (a := b) ⟨by omega, hb⟩ (g := Int.gcd a b) (by omega)
  simp (maxSteps := 4000000) -implicitDefEqProofs -dsimp (disch := omega) only [↓AW_skip, ↓AW_ops, ↓AW_seq, ↓AW_cond, ↓AW_ret, ↓AOps_nil, ↓AOps_pu, on_some, extK_same, condB_f, ↓then_normal, ↓Fin_ret, pval, rd_S, rd_C, put_S, resV, resL, chkd, bput, bgot, AV.cells?, splice, partA, fillA, eq_self, List.replicate_succ, List.replicate_zero, List.set_cons_zero, List.set_cons_succ, List.getElem?_cons_zero, List.getElem?_cons_succ, List.drop_zero, List.drop_succ_cons, List.drop_nil, List.take_zero, List.take_succ_cons, List.take_nil, Option.getD_some, Option.map_some, map_c, map_n, List.length_cons, List.length_nil, Nat.reduceAdd, Nat.reduceSub, Nat.reduceLeDiff, Nat.reduceEqDiff, Nat.zero_add, List.cons_append, List.nil_append, List.append_nil, bin_quo, bin_lss, w64, if_true, if_false, decide_false, and_true, ne_eq, not_true_eq_false, hn, hg]
  exact gc_same rfl
theorem s80 {a b : Int} (A : AHeap) (ha : W a) (ha' : a ≠ -9223372036854775808) (hb0 : 0 < b) (hb : b ≤ 9223372036854775807) : ACalls Try.prog 80 [I a, I b] A (.agg [I (a.tdiv (Int.gcd a b)), I (b.tdiv (Int.gcd a b))]) A := by
  refine acalls hmix Try.func80 (by kernel_rfl) t80 2 rfl (by decide) ?_
  dsimp only [m80]
  simp (maxSteps := 4000000) -implicitDefEqProofs -dsimp (disch := omega) only [↓AW_ops, ↓AW_seq, ↓AOps_nil, ↓AOps_pu, ↓AOps_call, on_some, ↓then_normal, pval, rd_S, rd_C, put_S, AV.cells?, List.replicate_succ, List.replicate_zero, List.set_cons_zero, List.set_cons_succ, List.getElem?_cons_zero, List.getElem?_cons_succ, Option.getD_some, map_c, map_n, Nat.reduceSub, List.cons_append, List.nil_append]
  refine CallK.of (s91 _ ha ha' hb0 hb) ?_
  obtain ⟨g1, g2⟩ := gcd_pos (a := a) hb0
  have hg : ¬ (Int.gcd a b : Int) = 0 := by omega
  have h1 := tdiv_W ha (g := Int.gcd a b) (by omega)
  have h2 := tdiv_W (a := b) ⟨by omega, hb⟩ (g := Int.gcd a b) (by omega)
  simp (maxSteps := 4000000) -implicitDefEqProofs -dsimp (disch := omega) only [↓AW_ops, ↓AW_seq, ↓AW_ret, ↓AOps_nil, ↓AOps_pu, on_some, extK_same, ↓then_normal, ↓Fin_ret, pval, rd_S, put_S, resV, resL, chkd, bput, bgot, AV.cells?, splice, partA, fillA, eq_self, List.replicate_succ, List.replicate_zero, List.set_cons_zero, List.set_cons_succ, List.getElem?_cons_zero, List.getElem?_cons_succ, List.drop_zero, List.drop_succ_cons, List.drop_nil, List.take_zero, List.take_succ_cons, List.take_nil, Option.getD_some, Option.map_some, map_c, map_n, List.length_cons, List.length_nil, Nat.reduceAdd, Nat.reduceSub, Nat.reduceLeDiff, Nat.reduceEqDiff, Nat.zero_add, List.cons_append, List.nil_append, List.append_nil, bin_quo, w64, if_true, if_false, and_true, ne_eq, not_true_eq_false, hg]
  exact gc_same rfl
def nrm (a b : Int) : AV := .agg [I (a.tdiv (Int.gcd a b)), I (b.tdiv (Int.gcd a b))]
def zeroR : AV := .agg [I 0, I 0]
abbrev R (q : Rat) : AV := .agg [I q.num, I (q.den : Int)]
/-- A fraction with which words do not overflow. -/
def Sm (q : Rat) : Prop := (-1099511627776 ≤ q.num ∧ q.num ≤ 1099511627776) ∧ (q.den : Int) ≤ 1048576
theorem tdiv_eq {n : Int} {g : Nat} (h : (g : Int) ∣ n) : n.tdiv g = n / g := by
  rw [Int.tdiv_eq_ediv_of_dvd h]
theorem den_pos (q : Rat) : 0 < (q.den : Int) := by have := q.den_pos; omega
theorem nrm_R (n d : Int) (hd : 0 < d) : nrm n d = R ((n : Rat) / (d : Rat)) := by
  have h0 : d.toNat ≠ 0 := by omega
  have hg : d.toNat.gcd n.natAbs = Int.gcd n d := by
    unfold Int.gcd
    rw [Nat.gcd_comm]; congr 1; omega
  have e : (n : Rat) / (d : Rat) = mkRat n d.toNat := by
    rw [Rat.mkRat_eq_div]
    have : ((d.toNat : Nat) : Rat) = ((d : Int) : Rat) := by
      rw [← Rat.intCast_natCast, Int.toNat_of_nonneg (by omega)]
    rw [this]
  rw [e]
  unfold nrm
  have h1 : (mkRat n d.toNat).num = n.tdiv (Int.gcd n d) := by
    rw [Rat.num_mkRat, if_neg h0, hg, tdiv_eq (Int.gcd_dvd_left n d)]
  have h2 : ((mkRat n d.toNat).den : Int) = d.tdiv (Int.gcd n d) := by
    rw [Rat.den_mkRat, if_neg h0, hg, tdiv_eq (Int.gcd_dvd_right n d), Int.natCast_ediv]
    congr 1; omega
  show _ = AV.agg [I (mkRat n d.toNat).num, I ((mkRat n d.toNat).den : Int)]
  rw [h1, h2]
theorem R_self (q : Rat) : q = (q.num : Rat) / ((q.den : Int) : Rat) := by
  have := Rat.mkRat_self q
  rw [Rat.mkRat_eq_div] at this
  rw [Rat.intCast_natCast]
  exact this.symm
theorem s59R {a b : Int} (A : AHeap) (ha : W a) (hb0 : 0 < b) (hb : b ≤ 9223372036854775807) : ACalls Try.prog 59 [I a, I b] A (R ((a : Rat) / (b : Rat))) A := by
  rw [← nrm_R a b hb0]; exact s59 A ha hb0 hb
theorem s80R {a b : Int} (A : AHeap) (ha : W a) (ha' : a ≠ -9223372036854775808) (hb0 : 0 < b) (hb : b ≤ 9223372036854775807) : ACalls Try.prog 80 [I a, I b] A (R ((a : Rat) / (b : Rat))) A := by
  rw [← nrm_R a b hb0]; exact s80 A ha ha' hb0 hb
theorem mul_bound {x y X Y : Int} (hx : -X ≤ x ∧ x ≤ X) (hy : 0 ≤ y ∧ y ≤ Y) : -(X * Y) ≤ x * y ∧ x * y ≤ X * Y := by
  have hX : 0 ≤ X := by omega
  have h1 : x * y ≤ X * y := Int.mul_le_mul_of_nonneg_right hx.2 hy.1
  have h2 : X * y ≤ X * Y := Int.mul_le_mul_of_nonneg_left hy.2 hX
  have h3 : -X * y ≤ x * y := Int.mul_le_mul_of_nonneg_right hx.1 hy.1
  rw [Int.neg_mul] at h3
  omega
/-- The parts of a sum. -/
theorem add_parts (p q : Rat) (hp : Sm p) (hq : Sm q) :
    ∃ d1 d2 : Int, (p.den : Int).tdiv (Int.gcd p.den q.den) = d1 ∧ (q.den : Int).tdiv (Int.gcd p.den q.den) = d2 ∧ (0 < d1 ∧ d1 ≤ 1048576) ∧ (0 < d2 ∧ d2 ≤ 1048576) ∧
      ((p.num * d2 + q.num * d1 : Int) : Rat) / ((d1 * q.den : Int) : Rat) = p + q := by
  have hp0 := den_pos p
  have hq0 := den_pos q
  have hg : 0 < Int.gcd p.den q.den := Int.gcd_pos_of_ne_zero_right _ (by omega)
  obtain ⟨d1, h1⟩ := Int.gcd_dvd_left (p.den : Int) (q.den : Int)
  obtain ⟨d2, h2⟩ := Int.gcd_dvd_right (p.den : Int) (q.den : Int)
  generalize (Int.gcd p.den q.den : Nat) = g at *
  have hg' : (0 : Int) < (g : Int) := by omega
  have p1 : 0 < d1 := by
    rcases Int.lt_or_le 0 d1 with h | h
    · exact h
    · have := Int.mul_nonpos_of_nonneg_of_nonpos (Int.le_of_lt hg') h; omega
  have p2 : 0 < d2 := by
    rcases Int.lt_or_le 0 d2 with h | h
    · exact h
    · have := Int.mul_nonpos_of_nonneg_of_nonpos (Int.le_of_lt hg') h; omega
  have b1 : d1 ≤ (g : Int) * d1 := by have := Int.mul_le_mul_of_nonneg_right (show (1 : Int) ≤ g by omega) (Int.le_of_lt p1); omega
  have b2 : d2 ≤ (g : Int) * d2 := by have := Int.mul_le_mul_of_nonneg_right (show (1 : Int) ≤ g by omega) (Int.le_of_lt p2); omega
  refine ⟨d1, d2, by rw [h1, Int.mul_tdiv_cancel_left _ (by omega)], by rw [h2, Int.mul_tdiv_cancel_left _ (by omega)], ⟨p1, by have := hp.2; omega⟩, ⟨p2, by have := hq.2; omega⟩, ?_⟩
  have e1 := R_self p
  have e2 := R_self q
  rw [h1, Rat.intCast_mul] at e1
  rw [h2, Rat.intCast_mul] at e2
  rw [h2]
  simp only [Rat.intCast_add, Rat.intCast_mul]
  have n1 : (d1 : Rat) ≠ 0 := by intro h; have : d1 = 0 := Rat.intCast_inj.1 (by simpa using h); omega
  have n2 : (d2 : Rat) ≠ 0 := by intro h; have : d2 = 0 := Rat.intCast_inj.1 (by simpa using h); omega
  have n3 : ((g : Int) : Rat) ≠ 0 := by intro h; have : (g : Int) = 0 := Rat.intCast_inj.1 (by simpa using h); omega
  generalize (p.num : Rat) = a at *
  generalize (q.num : Rat) = b at *
  generalize (d1 : Rat) = x at *
  generalize (d2 : Rat) = y at *
  generalize ((g : Int) : Rat) = z at *
  subst e1
  grind
theorem s75 (p q : Rat) (A : AHeap) (hp : Sm p) (hq : Sm q) : ACalls Try.prog 75 [R p, R q] A (R (p + q)) A := by
  refine acalls hmix Try.func75 (by kernel_rfl) t75 2 rfl (by decide) ?_
  have hp0 := den_pos p
  have hq0 := den_pos q
  obtain ⟨d1, d2, e1, e2, b1, b2, e3⟩ := add_parts p q hp hq
  obtain ⟨⟨l1, l2⟩, l3⟩ := hp
  obtain ⟨⟨l4, l5⟩, l6⟩ := hq
  have m1 := mul_bound (x := p.num) (y := d2) (X := 1099511627776) (Y := 1048576) ⟨l1, l2⟩ ⟨by omega, b2.2⟩
  have m2 := mul_bound (x := q.num) (y := d1) (X := 1099511627776) (Y := 1048576) ⟨l4, l5⟩ ⟨by omega, b1.2⟩
  have m3 := mul_bound (x := d1) (y := q.den) (X := 1048576) (Y := 1048576) ⟨by omega, b1.2⟩ ⟨by omega, l6⟩
  have m4 : 0 < d1 * q.den := Int.mul_pos b1.1 hq0
  have hg : 0 < Int.gcd p.den q.den := Int.gcd_pos_of_ne_zero_right _ (by omega)
  have hg0 : ¬ (Int.gcd p.den q.den : Int) = 0 := by omega
  dsimp only [m75]
  simp (maxSteps := 4000000) -implicitDefEqProofs -dsimp (disch := omega) only [↓AW_ops, ↓AW_seq, ↓AOps_nil, ↓AOps_pu, ↓AOps_call, on_some, ↓then_normal, pval, rd_S, rd_C, put_S, chkd, isAdr, bgot, AV.cells?, partA, eq_self, List.replicate_succ, List.replicate_zero, List.set_cons_zero, List.set_cons_succ, List.getElem?_cons_zero, List.getElem?_cons_succ, List.drop_zero, List.drop_succ_cons, List.take_succ_cons, List.take_nil, Option.getD_some, map_c, map_n, List.length_cons, List.length_nil, Nat.reduceAdd, Nat.reduceSub, Nat.reduceLeDiff, Nat.zero_add, List.cons_append, List.nil_append, if_true, if_false, Bool.false_eq_true]
  refine CallK.of (s111 _ ⟨by omega, by omega⟩ hq0 (by omega)) ?_
  simp (maxSteps := 4000000) -implicitDefEqProofs -dsimp (disch := omega) only [↓AW_ops, ↓AW_seq, ↓AOps_nil, ↓AOps_pu, ↓AOps_call, on_some, extK_same, ↓then_normal, pval, rd_S, put_S, chkd, isAdr, bgot, AV.cells?, partA, eq_self, List.replicate_succ, List.replicate_zero, List.set_cons_zero, List.set_cons_succ, List.getElem?_cons_zero, List.getElem?_cons_succ, List.drop_zero, List.drop_succ_cons, List.take_zero, List.take_succ_cons, List.take_nil, Option.getD_some, map_c, map_n, List.length_cons, List.length_nil, Nat.reduceAdd, Nat.reduceSub, Nat.reduceLeDiff, Nat.zero_add, List.cons_append, List.nil_append, bin_add, bin_mul, bin_quo, w64, if_true, if_false, Bool.false_eq_true, hg0, e1, e2]
  refine CallK.of (s59R _ ⟨by omega, by omega⟩ m4 (by omega)) ?_
  simp (maxSteps := 4000000) -implicitDefEqProofs -dsimp (disch := omega) only [↓AW_ret, ↓AOps_nil, ↓AOps_pu, on_some, extK_same, ↓then_normal, ↓Fin_ret, pval, rd_S, put_S, resV, resL, chkd, bput, bgot, AV.cells?, splice, partA, eq_self, List.replicate_succ, List.replicate_zero, List.set_cons_zero, List.set_cons_succ, List.getElem?_cons_zero, List.getElem?_cons_succ, List.drop_zero, List.drop_succ_cons, List.drop_nil, List.take_zero, List.take_succ_cons, List.take_nil, Option.getD_some, List.length_cons, List.length_nil, Nat.reduceAdd, Nat.reduceSub, Nat.reduceLeDiff, Nat.reduceEqDiff, Nat.zero_add, List.cons_append, List.nil_append, List.append_nil, if_true, if_false, ne_eq, not_true_eq_false]
  exact gc_same (by rw [e3])
theorem s37 (p q : Rat) (A : AHeap) (hp : Sm p) (hq : Sm q) : ACalls Try.prog 37 [R p, R q] A (R (p + q)) A := by
  refine acalls hmix Try.func37 (by kernel_rfl) t37 2 rfl (by decide) ?_
  have hp0 := den_pos p
  have hq0 := den_pos q
  obtain ⟨d1, d2, e1, e2, b1, b2, e3⟩ := add_parts p q hp hq
  obtain ⟨⟨l1, l2⟩, l3⟩ := hp
  obtain ⟨⟨l4, l5⟩, l6⟩ := hq
  have m1 := mul_bound (x := p.num) (y := d2) (X := 1099511627776) (Y := 1048576) ⟨l1, l2⟩ ⟨by omega, b2.2⟩
  have m2 := mul_bound (x := q.num) (y := d1) (X := 1099511627776) (Y := 1048576) ⟨l4, l5⟩ ⟨by omega, b1.2⟩
  have m3 := mul_bound (x := d1) (y := q.den) (X := 1048576) (Y := 1048576) ⟨by omega, b1.2⟩ ⟨by omega, l6⟩
  have m4 : 0 < d1 * q.den := Int.mul_pos b1.1 hq0
  have hg : 0 < Int.gcd p.den q.den := Int.gcd_pos_of_ne_zero_right _ (by omega)
  have hg0 : ¬ (Int.gcd p.den q.den : Int) = 0 := by omega
  dsimp only [m37]
  simp (maxSteps := 4000000) -implicitDefEqProofs -dsimp (disch := omega) only [↓AW_ops, ↓AW_seq, ↓AOps_nil, ↓AOps_pu, ↓AOps_call, on_some, ↓then_normal, pval, rd_S, rd_C, put_S, chkd, isAdr, bgot, AV.cells?, partA, eq_self, List.replicate_succ, List.replicate_zero, List.set_cons_zero, List.set_cons_succ, List.getElem?_cons_zero, List.getElem?_cons_succ, List.drop_zero, List.drop_succ_cons, List.take_succ_cons, List.take_nil, Option.getD_some, map_c, map_n, List.length_cons, List.length_nil, Nat.reduceAdd, Nat.reduceSub, Nat.reduceLeDiff, Nat.zero_add, List.cons_append, List.nil_append, if_true, if_false, Bool.false_eq_true]
  refine CallK.of (s91 _ ⟨by omega, by omega⟩ (by omega) hq0 (by omega)) ?_
  simp (maxSteps := 4000000) -implicitDefEqProofs -dsimp (disch := omega) only [↓AW_ops, ↓AW_seq, ↓AOps_nil, ↓AOps_pu, ↓AOps_call, on_some, extK_same, ↓then_normal, pval, rd_S, put_S, chkd, isAdr, bgot, AV.cells?, partA, eq_self, List.replicate_succ, List.replicate_zero, List.set_cons_zero, List.set_cons_succ, List.getElem?_cons_zero, List.getElem?_cons_succ, List.drop_zero, List.drop_succ_cons, List.take_zero, List.take_succ_cons, List.take_nil, Option.getD_some, map_c, map_n, List.length_cons, List.length_nil, Nat.reduceAdd, Nat.reduceSub, Nat.reduceLeDiff, Nat.zero_add, List.cons_append, List.nil_append, bin_add, bin_mul, bin_quo, w64, if_true, if_false, Bool.false_eq_true, hg0, e1, e2]
  refine CallK.of (s80R _ ⟨by omega, by omega⟩ (by omega) m4 (by omega)) ?_
  simp (maxSteps := 4000000) -implicitDefEqProofs -dsimp (disch := omega) only [↓AW_ret, ↓AOps_nil, ↓AOps_pu, on_some, extK_same, ↓then_normal, ↓Fin_ret, pval, rd_S, put_S, resV, resL, chkd, bput, bgot, AV.cells?, splice, partA, eq_self, List.replicate_succ, List.replicate_zero, List.set_cons_zero, List.set_cons_succ, List.getElem?_cons_zero, List.getElem?_cons_succ, List.drop_zero, List.drop_succ_cons, List.drop_nil, List.take_zero, List.take_succ_cons, List.take_nil, Option.getD_some, List.length_cons, List.length_nil, Nat.reduceAdd, Nat.reduceSub, Nat.reduceLeDiff, Nat.reduceEqDiff, Nat.zero_add, List.cons_append, List.nil_append, List.append_nil, if_true, if_false, ne_eq, not_true_eq_false]
  exact gc_same (by rw [e3])
theorem neg_num (q : Rat) : (-q).num = -q.num := rfl
theorem neg_den (q : Rat) : (-q).den = q.den := rfl
theorem Sm_neg {q : Rat} (h : Sm q) : Sm (-q) := by
  obtain ⟨⟨h1, h2⟩, h3⟩ := h
  exact ⟨by rw [neg_num]; omega, h3⟩
theorem R_neg (q : Rat) : R (-q) = .agg [.int .i64 (0 - q.num), I (q.den : Int)] := by
  show AV.agg [I (-q.num), I (q.den : Int)] = _
  rw [Int.zero_sub]
theorem s95 (p q : Rat) (A : AHeap) (hp : Sm p) (hq : Sm q) : ACalls Try.prog 95 [R p, R q] A (R (p - q)) A := by
  refine acalls hmix Try.func95 (by kernel_rfl) t95 2 rfl (by decide) ?_
  obtain ⟨⟨l4, l5⟩, l6⟩ := id hq
  dsimp only [m95]
  simp (maxSteps := 4000000) -implicitDefEqProofs -dsimp (disch := omega) only [↓AW_ops, ↓AW_seq, ↓AOps_nil, ↓AOps_pu, ↓AOps_call, on_some, ↓then_normal, pval, rd_S, rd_C, put_S, chkd, isAdr, bgot, AV.cells?, splice, partA, fillA, eq_self, List.replicate_succ, List.replicate_zero, List.set_cons_zero, List.set_cons_succ, List.getElem?_cons_zero, List.getElem?_cons_succ, List.drop_zero, List.drop_succ_cons, List.drop_nil, List.take_zero, List.take_succ_cons, List.take_nil, Option.getD_some, Option.map_some, map_c, map_n, List.length_cons, List.length_nil, Nat.reduceAdd, Nat.reduceSub, Nat.reduceLeDiff, Nat.reduceEqDiff, Nat.zero_add, List.cons_append, List.nil_append, List.append_nil, w64, if_true, if_false, Bool.false_eq_true, and_true]
  have h := s75 p (-q) A hp (Sm_neg hq)
  rw [R_neg] at h
  refine CallK.of h ?_
  simp (maxSteps := 4000000) -implicitDefEqProofs -dsimp (disch := omega) only [↓AW_ret, ↓AOps_nil, ↓AOps_pu, on_some, extK_same, ↓then_normal, ↓Fin_ret, pval, rd_S, put_S, resV, resL, chkd, bput, bgot, AV.cells?, splice, partA, eq_self, List.replicate_succ, List.replicate_zero, List.set_cons_zero, List.set_cons_succ, List.getElem?_cons_zero, List.getElem?_cons_succ, List.drop_zero, List.drop_succ_cons, List.drop_nil, List.take_zero, List.take_succ_cons, List.take_nil, Option.getD_some, List.length_cons, List.length_nil, Nat.reduceAdd, Nat.reduceSub, Nat.reduceLeDiff, Nat.reduceEqDiff, Nat.zero_add, List.cons_append, List.nil_append, List.append_nil, if_true, if_false, ne_eq, not_true_eq_false]
  exact gc_same (by rw [Rat.sub_eq_add_neg])
theorem s55 (p q : Rat) (A : AHeap) (hp : Sm p) (hq : Sm q) : ACalls Try.prog 55 [R p, R q] A (R (p - q)) A := by
  refine acalls hmix Try.func55 (by kernel_rfl) t55 2 rfl (by decide) ?_
  obtain ⟨⟨l4, l5⟩, l6⟩ := id hq
  dsimp only [m55]
  simp (maxSteps := 4000000) -implicitDefEqProofs -dsimp (disch := omega) only [↓AW_ops, ↓AW_seq, ↓AOps_nil, ↓AOps_pu, ↓AOps_call, on_some, ↓then_normal, pval, rd_S, rd_C, put_S, chkd, isAdr, bgot, AV.cells?, splice, partA, fillA, eq_self, List.replicate_succ, List.replicate_zero, List.set_cons_zero, List.set_cons_succ, List.getElem?_cons_zero, List.getElem?_cons_succ, List.drop_zero, List.drop_succ_cons, List.drop_nil, List.take_zero, List.take_succ_cons, List.take_nil, Option.getD_some, Option.map_some, map_c, map_n, List.length_cons, List.length_nil, Nat.reduceAdd, Nat.reduceSub, Nat.reduceLeDiff, Nat.reduceEqDiff, Nat.zero_add, List.cons_append, List.nil_append, List.append_nil, w64, if_true, if_false, Bool.false_eq_true, and_true]
  have h := s37 p (-q) A hp (Sm_neg hq)
  rw [R_neg] at h
  refine CallK.of h ?_
  simp (maxSteps := 4000000) -implicitDefEqProofs -dsimp (disch := omega) only [↓AW_ret, ↓AOps_nil, ↓AOps_pu, on_some, extK_same, ↓then_normal, ↓Fin_ret, pval, rd_S, put_S, resV, resL, chkd, bput, bgot, AV.cells?, splice, partA, eq_self, List.replicate_succ, List.replicate_zero, List.set_cons_zero, List.set_cons_succ, List.getElem?_cons_zero, List.getElem?_cons_succ, List.drop_zero, List.drop_succ_cons, List.drop_nil, List.take_zero, List.take_succ_cons, List.take_nil, Option.getD_some, List.length_cons, List.length_nil, Nat.reduceAdd, Nat.reduceSub, Nat.reduceLeDiff, Nat.reduceEqDiff, Nat.zero_add, List.cons_append, List.nil_append, List.append_nil, if_true, if_false, ne_eq, not_true_eq_false]
  exact gc_same (by rw [Rat.sub_eq_add_neg])
theorem num_neg_iff (q : Rat) : q.num < 0 ↔ q < 0 := by
  rw [Rat.lt_iff]; simp
theorem num_pos_iff (q : Rat) : 0 < q.num ↔ 0 < q := by
  rw [Rat.lt_iff]; simp
theorem s65 (p q : Rat) (A : AHeap) (hp : Sm p) (hq : Sm q) : ACalls Try.prog 65 [R p, R q] A (I (p - q).num) A := by
  refine acalls hmix Try.func65 (by kernel_rfl) t65 2 rfl (by decide) ?_
  dsimp only [m65]
  simp (maxSteps := 4000000) -implicitDefEqProofs -dsimp (disch := omega) only [↓AW_ops, ↓AW_seq, ↓AOps_nil, ↓AOps_pu, ↓AOps_call, on_some, ↓then_normal, pval, rd_S, rd_C, put_S, chkd, bgot, AV.cells?, partA, eq_self, List.replicate_succ, List.replicate_zero, List.set_cons_zero, List.set_cons_succ, List.getElem?_cons_zero, List.getElem?_cons_succ, List.drop_zero, List.take_succ_cons, List.take_nil, Option.getD_some, map_c, map_n, List.length_cons, List.length_nil, Nat.reduceAdd, Nat.reduceSub, Nat.reduceLeDiff, Nat.reduceEqDiff, Nat.zero_add, List.cons_append, List.nil_append, if_true, if_false]
  refine CallK.of (s95 p q A hp hq) ?_
  simp (maxSteps := 4000000) -implicitDefEqProofs -dsimp (disch := omega) only [↓AW_ret, ↓AOps_nil, ↓AOps_pu, on_some, extK_same, ↓then_normal, ↓Fin_ret, pval, rd_S, put_S, resV, resL, partA, eq_self, List.replicate_succ, List.replicate_zero, List.set_cons_zero, List.set_cons_succ, List.getElem?_cons_zero, List.getElem?_cons_succ, List.drop_zero, List.take_zero, List.take_succ_cons, Option.getD_some, List.length_cons, List.length_nil, Nat.reduceAdd, Nat.reduceSub, Nat.reduceLeDiff, Nat.zero_add, List.cons_append, List.nil_append, if_true, if_false, Bool.false_eq_true]
  exact gc_same rfl
theorem s19 (p q : Rat) (A : AHeap) (hp : Sm p) (hq : Sm q) : ACalls Try.prog 19 [R p, R q] A (B (decide (p < q))) A := by
  refine acalls hmix Try.func19 (by kernel_rfl) t19 2 rfl (by decide) ?_
  dsimp only [m19]
  simp (maxSteps := 4000000) -implicitDefEqProofs -dsimp (disch := omega) only [↓AW_ops, ↓AW_seq, ↓AOps_nil, ↓AOps_pu, ↓AOps_call, on_some, ↓then_normal, pval, rd_S, rd_C, put_S, chkd, bgot, AV.cells?, partA, eq_self, List.replicate_succ, List.replicate_zero, List.set_cons_zero, List.set_cons_succ, List.getElem?_cons_zero, List.getElem?_cons_succ, List.drop_zero, List.take_succ_cons, List.take_nil, Option.getD_some, map_c, map_n, List.length_cons, List.length_nil, Nat.reduceAdd, Nat.reduceSub, Nat.reduceLeDiff, Nat.reduceEqDiff, Nat.zero_add, List.cons_append, List.nil_append, if_true, if_false]
  refine CallK.of (s55 p q A hp hq) ?_
  simp (maxSteps := 4000000) -implicitDefEqProofs -dsimp (disch := omega) only [↓AW_ret, ↓AOps_nil, ↓AOps_pu, on_some, extK_same, ↓then_normal, ↓Fin_ret, pval, rd_S, rd_C, put_S, resV, resL, partA, eq_self, List.replicate_succ, List.replicate_zero, List.set_cons_zero, List.set_cons_succ, List.getElem?_cons_zero, List.getElem?_cons_succ, List.drop_zero, List.take_zero, List.take_succ_cons, Option.getD_some, List.length_cons, List.length_nil, Nat.reduceAdd, Nat.reduceSub, Nat.reduceLeDiff, Nat.zero_add, List.cons_append, List.nil_append, bin_lss, if_true, if_false, Bool.false_eq_true]
  refine gc_same ?_
  have : (p - q).num < 0 ↔ p < q := by rw [num_neg_iff]; constructor <;> intro h <;> grind
  simp [this]
theorem s108 (p q : Rat) (A : AHeap) (hp : Sm p) (hq : Sm q) : ACalls Try.prog 108 [R p, R q] A (R (if q < p then p else q)) A := by
  refine acalls hmix Try.func108 (by kernel_rfl) t108 2 rfl (by decide) ?_
  dsimp only [m108]
  simp (maxSteps := 4000000) -implicitDefEqProofs -dsimp (disch := omega) only [↓AW_ops, ↓AW_seq, ↓AOps_nil, ↓AOps_pu, ↓AOps_call, on_some, ↓then_normal, pval, rd_S, rd_C, put_S, chkd, bgot, AV.cells?, partA, eq_self, List.replicate_succ, List.replicate_zero, List.set_cons_zero, List.set_cons_succ, List.getElem?_cons_zero, List.getElem?_cons_succ, List.drop_zero, List.take_succ_cons, List.take_nil, Option.getD_some, map_c, map_n, List.length_cons, List.length_nil, Nat.reduceAdd, Nat.reduceSub, Nat.reduceLeDiff, Nat.reduceEqDiff, Nat.zero_add, List.cons_append, List.nil_append, if_true, if_false]
  refine CallK.of (s65 p q A hp hq) ?_
  have : 0 < (p - q).num ↔ q < p := by rw [num_pos_iff]; constructor <;> intro h <;> grind
  by_cases h : q < p
  · have h' := this.2 h
    simp (maxSteps := 4000000) -implicitDefEqProofs -dsimp (disch := omega) only [↓AW_ops, ↓AW_seq, ↓AW_cond, ↓AW_ret, ↓AOps_nil, ↓AOps_pu, on_some, extK_same, condB_t, ↓then_normal, ↓then_ret, ↓Fin_ret, pval, rd_S, rd_C, put_S, resV, resL, chkd, bput, bgot, AV.cells?, splice, partA, eq_self, List.replicate_succ, List.replicate_zero, List.set_cons_zero, List.set_cons_succ, List.getElem?_cons_zero, List.getElem?_cons_succ, List.drop_zero, List.drop_succ_cons, List.drop_nil, List.take_zero, List.take_succ_cons, List.take_nil, Option.getD_some, List.length_cons, List.length_nil, Nat.reduceAdd, Nat.reduceSub, Nat.reduceLeDiff, Nat.reduceEqDiff, Nat.zero_add, List.cons_append, List.nil_append, List.append_nil, bin_gtr, if_true, if_false, decide_true, ne_eq, not_true_eq_false, h', h]
    exact gc_same rfl
  · have h' : ¬ 0 < (p - q).num := fun x => h (this.1 x)
    simp (maxSteps := 4000000) -implicitDefEqProofs -dsimp (disch := omega) only [↓AW_skip, ↓AW_ops, ↓AW_seq, ↓AW_cond, ↓AW_ret, ↓AOps_nil, ↓AOps_pu, on_some, extK_same, condB_f, ↓then_normal, ↓Fin_ret, pval, rd_S, rd_C, put_S, resV, resL, chkd, bput, bgot, AV.cells?, splice, partA, eq_self, List.replicate_succ, List.replicate_zero, List.set_cons_zero, List.set_cons_succ, List.getElem?_cons_zero, List.getElem?_cons_succ, List.drop_zero, List.drop_succ_cons, List.drop_nil, List.take_zero, List.take_succ_cons, List.take_nil, Option.getD_some, List.length_cons, List.length_nil, Nat.reduceAdd, Nat.reduceSub, Nat.reduceLeDiff, Nat.reduceEqDiff, Nat.zero_add, List.cons_append, List.nil_append, List.append_nil, bin_gtr, if_true, if_false, decide_false, ne_eq, not_true_eq_false, h', h]
    exact gc_same rfl
theorem s113 (p q : Rat) (A : AHeap) (hp : Sm p) (hq : Sm q) : ACalls Try.prog 113 [R p, R q] A (R (if p < q then p else q)) A := by
  refine acalls hmix Try.func113 (by kernel_rfl) t113 2 rfl (by decide) ?_
  dsimp only [m113]
  simp (maxSteps := 4000000) -implicitDefEqProofs -dsimp (disch := omega) only [↓AW_ops, ↓AW_seq, ↓AOps_nil, ↓AOps_pu, ↓AOps_call, on_some, ↓then_normal, pval, rd_S, rd_C, put_S, chkd, bgot, AV.cells?, partA, eq_self, List.replicate_succ, List.replicate_zero, List.set_cons_zero, List.set_cons_succ, List.getElem?_cons_zero, List.getElem?_cons_succ, List.drop_zero, List.take_succ_cons, List.take_nil, Option.getD_some, map_c, map_n, List.length_cons, List.length_nil, Nat.reduceAdd, Nat.reduceSub, Nat.reduceLeDiff, Nat.reduceEqDiff, Nat.zero_add, List.cons_append, List.nil_append, if_true, if_false]
  refine CallK.of (s65 p q A hp hq) ?_
  have : (p - q).num < 0 ↔ p < q := by rw [num_neg_iff]; constructor <;> intro h <;> grind
  by_cases h : p < q
  · have h' := this.2 h
    simp (maxSteps := 4000000) -implicitDefEqProofs -dsimp (disch := omega) only [↓AW_ops, ↓AW_seq, ↓AW_cond, ↓AW_ret, ↓AOps_nil, ↓AOps_pu, on_some, extK_same, condB_t, ↓then_normal, ↓then_ret, ↓Fin_ret, pval, rd_S, rd_C, put_S, resV, resL, chkd, bput, bgot, AV.cells?, splice, partA, eq_self, List.replicate_succ, List.replicate_zero, List.set_cons_zero, List.set_cons_succ, List.getElem?_cons_zero, List.getElem?_cons_succ, List.drop_zero, List.drop_succ_cons, List.drop_nil, List.take_zero, List.take_succ_cons, List.take_nil, Option.getD_some, List.length_cons, List.length_nil, Nat.reduceAdd, Nat.reduceSub, Nat.reduceLeDiff, Nat.reduceEqDiff, Nat.zero_add, List.cons_append, List.nil_append, List.append_nil, bin_lss, if_true, if_false, decide_true, ne_eq, not_true_eq_false, h', h]
    exact gc_same rfl
  · have h' : ¬ (p - q).num < 0 := fun x => h (this.1 x)
    simp (maxSteps := 4000000) -implicitDefEqProofs -dsimp (disch := omega) only [↓AW_skip, ↓AW_ops, ↓AW_seq, ↓AW_cond, ↓AW_ret, ↓AOps_nil, ↓AOps_pu, on_some, extK_same, condB_f, ↓then_normal, ↓Fin_ret, pval, rd_S, rd_C, put_S, resV, resL, chkd, bput, bgot, AV.cells?, splice, partA, eq_self, List.replicate_succ, List.replicate_zero, List.set_cons_zero, List.set_cons_succ, List.getElem?_cons_zero, List.getElem?_cons_succ, List.drop_zero, List.drop_succ_cons, List.drop_nil, List.take_zero, List.take_succ_cons, List.take_nil, Option.getD_some, List.length_cons, List.length_nil, Nat.reduceAdd, Nat.reduceSub, Nat.reduceLeDiff, Nat.reduceEqDiff, Nat.zero_add, List.cons_append, List.nil_append, List.append_nil, bin_lss, if_true, if_false, decide_false, ne_eq, not_true_eq_false, h', h]
    exact gc_same rfl
theorem s76 (n : Int) (A : AHeap) : ACalls Try.prog 76 [I n] A (R (n : Rat)) A := by
  refine acalls hmix Try.func76 (by kernel_rfl) t76 1 rfl (by decide) ?_
  dsimp only [m76]
  simp (maxSteps := 4000000) -implicitDefEqProofs -dsimp (disch := omega) only [↓AW_ops, ↓AW_seq, ↓AW_ret, ↓AOps_nil, ↓AOps_pu, on_some, ↓then_normal, ↓Fin_ret, pval, rd_S, rd_C, put_S, resV, resL, chkd, bput, bgot, AV.cells?, splice, partA, fillA, eq_self, List.replicate_succ, List.replicate_zero, List.set_cons_zero, List.set_cons_succ, List.getElem?_cons_zero, List.getElem?_cons_succ, List.drop_zero, List.drop_succ_cons, List.drop_nil, List.take_zero, List.take_succ_cons, List.take_nil, Option.getD_some, Option.map_some, map_c, map_n, List.length_cons, List.length_nil, Nat.reduceAdd, Nat.reduceSub, Nat.reduceLeDiff, Nat.reduceEqDiff, Nat.zero_add, List.cons_append, List.nil_append, List.append_nil, if_true, if_false, and_true, ne_eq, not_true_eq_false]
  exact gc_same rfl
theorem s36 (n : Int) (A : AHeap) : ACalls Try.prog 36 [I n] A (R (n : Rat)) A := by
  refine acalls hmix Try.func36 (by kernel_rfl) t36 1 rfl (by decide) ?_
  dsimp only [m36]
  simp (maxSteps := 4000000) -implicitDefEqProofs -dsimp (disch := omega) only [↓AW_ops, ↓AW_seq, ↓AW_ret, ↓AOps_nil, ↓AOps_pu, on_some, ↓then_normal, ↓Fin_ret, pval, rd_S, rd_C, put_S, resV, resL, chkd, bput, bgot, AV.cells?, splice, partA, fillA, eq_self, List.replicate_succ, List.replicate_zero, List.set_cons_zero, List.set_cons_succ, List.getElem?_cons_zero, List.getElem?_cons_succ, List.drop_zero, List.drop_succ_cons, List.drop_nil, List.take_zero, List.take_succ_cons, List.take_nil, Option.getD_some, Option.map_some, map_c, map_n, List.length_cons, List.length_nil, Nat.reduceAdd, Nat.reduceSub, Nat.reduceLeDiff, Nat.reduceEqDiff, Nat.zero_add, List.cons_append, List.nil_append, List.append_nil, if_true, if_false, and_true, ne_eq, not_true_eq_false]
  exact gc_same rfl
theorem R_inj {p : Rat} {a b : Int} (h : R p = .agg [I a, I b]) : p.num = a ∧ (p.den : Int) = b := by
  injection h with h
  injection h with h1 h2
  injection h2 with h2 _
  injection h1 with _ h1
  injection h2 with _ h2
  exact ⟨h1, h2⟩
theorem ratio_le (n d : Int) (hd : 0 < d) : ((n : Rat) / (d : Rat)).num.natAbs ≤ n.natAbs ∧ (((n : Rat) / (d : Rat)).den : Int) ≤ d := by
  have h := nrm_R n d hd
  obtain ⟨h1, h2⟩ := R_inj h.symm
  rw [h1, h2]
  refine ⟨by rw [Int.natAbs_tdiv]; exact Nat.div_le_self _ _, ?_⟩
  have h3 : (d.tdiv (Int.gcd n d)).natAbs ≤ d.natAbs := by rw [Int.natAbs_tdiv]; exact Nat.div_le_self _ _
  omega
theorem cast_ne {d : Int} (h : d ≠ 0) : (d : Rat) ≠ 0 := fun e => h (Rat.intCast_inj.1 (by simpa using e))
theorem mul_parts (a : Rat) (n : Int) : ((a.num * ((n : Rat) / ((a.den : Int) : Rat)).num : Int) : Rat) / ((((n : Rat) / ((a.den : Int) : Rat)).den : Int) : Rat) = a * n := by
  have h1 := R_self a
  have h2 := R_self ((n : Rat) / ((a.den : Int) : Rat))
  have h3 := cast_ne (show ((a.den : Int)) ≠ 0 by have := den_pos a; omega)
  generalize hf : ((n : Rat) / ((a.den : Int) : Rat)) = f at *
  have h4 := cast_ne (show ((f.den : Int)) ≠ 0 by have := den_pos f; omega)
  rw [Rat.intCast_mul]
  generalize ((f.num : Int) : Rat) = fn at *
  generalize ((f.den : Int) : Rat) = fd at *
  generalize ((a.num : Int) : Rat) = an at *
  generalize ((a.den : Int) : Rat) = ad at *
  grind
theorem s109 (a : Rat) (n : Int) (A : AHeap) (ha : Sm a) (hn : -1048576 ≤ n ∧ n ≤ 1048576) : ACalls Try.prog 109 [R a, I n] A (R (a * n)) A := by
  refine acalls hmix Try.func109 (by kernel_rfl) t109 2 rfl (by decide) ?_
  have h0 := den_pos a
  obtain ⟨h1, h2⟩ := id ha
  dsimp only [m109]
  simp (maxSteps := 4000000) -implicitDefEqProofs -dsimp (disch := omega) only [↓AW_ops, ↓AW_seq, ↓AOps_nil, ↓AOps_pu, ↓AOps_call, on_some, ↓then_normal, pval, rd_S, rd_C, put_S, chkd, isAdr, bgot, AV.cells?, partA, eq_self, List.replicate_succ, List.replicate_zero, List.set_cons_zero, List.set_cons_succ, List.getElem?_cons_zero, List.getElem?_cons_succ, List.drop_zero, List.drop_succ_cons, List.take_succ_cons, List.take_nil, Option.getD_some, map_c, map_n, List.length_cons, List.length_nil, Nat.reduceAdd, Nat.reduceSub, Nat.reduceLeDiff, Nat.zero_add, List.cons_append, List.nil_append, if_true, if_false, Bool.false_eq_true]
  refine CallK.of (s59R _ ⟨by omega, by omega⟩ h0 (by omega)) ?_
  have hm := mul_parts a n
  have hl := ratio_le n a.den h0
  have hp := den_pos ((n : Rat) / ((a.den : Int) : Rat))
  generalize ((n : Rat) / ((a.den : Int) : Rat)) = f at *
  have m1 := mul_bound (x := f.num) (y := a.num.natAbs) (X := 1048576) (Y := 1099511627776) (by omega) (by omega)
  have m2 : -1152921504606846976 ≤ a.num * f.num ∧ a.num * f.num ≤ 1152921504606846976 := by
    have e : (a.num * f.num).natAbs = a.num.natAbs * f.num.natAbs := Int.natAbs_mul _ _
    have : a.num.natAbs * f.num.natAbs ≤ 1099511627776 * 1048576 := Nat.mul_le_mul (by omega) (by omega)
    omega
  simp (maxSteps := 4000000) -implicitDefEqProofs -dsimp (disch := omega) only [↓AW_ops, ↓AW_seq, ↓AOps_nil, ↓AOps_pu, ↓AOps_call, on_some, extK_same, ↓then_normal, pval, rd_S, rd_C, put_S, chkd, isAdr, bput, bgot, AV.cells?, splice, partA, eq_self, List.replicate_succ, List.replicate_zero, List.set_cons_zero, List.set_cons_succ, List.getElem?_cons_zero, List.getElem?_cons_succ, List.drop_zero, List.drop_succ_cons, List.drop_nil, List.take_zero, List.take_succ_cons, List.take_nil, Option.getD_some, map_c, map_n, List.length_cons, List.length_nil, Nat.reduceAdd, Nat.reduceSub, Nat.reduceLeDiff, Nat.zero_add, List.cons_append, List.nil_append, List.append_nil, bin_mul, w64, if_true, if_false, Bool.false_eq_true, ne_eq, not_true_eq_false]
  refine CallK.of (s59R _ ⟨by omega, by omega⟩ hp (by omega)) ?_
  simp (maxSteps := 4000000) -implicitDefEqProofs -dsimp (disch := omega) only [↓AW_ret, ↓AOps_nil, ↓AOps_pu, on_some, extK_same, ↓then_normal, ↓Fin_ret, pval, rd_S, put_S, resV, resL, chkd, bput, bgot, AV.cells?, splice, partA, eq_self, List.replicate_succ, List.replicate_zero, List.set_cons_zero, List.set_cons_succ, List.getElem?_cons_zero, List.getElem?_cons_succ, List.drop_zero, List.drop_succ_cons, List.drop_nil, List.take_zero, List.take_succ_cons, List.take_nil, Option.getD_some, List.length_cons, List.length_nil, Nat.reduceAdd, Nat.reduceSub, Nat.reduceLeDiff, Nat.reduceEqDiff, Nat.zero_add, List.cons_append, List.nil_append, List.append_nil, if_true, if_false, ne_eq, not_true_eq_false]
  exact gc_same (by rw [hm])
theorem s124 (a : Rat) (n : Int) (A : AHeap) (ha : Sm a) (hn : -1048576 ≤ n ∧ n ≤ 1048576) : ACalls Try.prog 124 [I n, R a] A (R (a * n)) A := by
  refine acalls hmix Try.func124 (by kernel_rfl) t124 2 rfl (by decide) ?_
  have h0 := den_pos a
  obtain ⟨h1, h2⟩ := id ha
  dsimp only [m124]
  simp (maxSteps := 4000000) -implicitDefEqProofs -dsimp (disch := omega) only [↓AW_ops, ↓AW_seq, ↓AOps_nil, ↓AOps_pu, ↓AOps_call, on_some, ↓then_normal, pval, rd_S, rd_C, put_S, chkd, isAdr, bgot, AV.cells?, partA, eq_self, List.replicate_succ, List.replicate_zero, List.set_cons_zero, List.set_cons_succ, List.getElem?_cons_zero, List.getElem?_cons_succ, List.drop_zero, List.drop_succ_cons, List.take_succ_cons, List.take_nil, Option.getD_some, map_c, map_n, List.length_cons, List.length_nil, Nat.reduceAdd, Nat.reduceSub, Nat.reduceLeDiff, Nat.zero_add, List.cons_append, List.nil_append, if_true, if_false, Bool.false_eq_true]
  refine CallK.of (s80R _ ⟨by omega, by omega⟩ (by omega) h0 (by omega)) ?_
  have hm := mul_parts a n
  have hl := ratio_le n a.den h0
  have hp := den_pos ((n : Rat) / ((a.den : Int) : Rat))
  generalize ((n : Rat) / ((a.den : Int) : Rat)) = f at *
  have m2 : -1152921504606846976 ≤ f.num * a.num ∧ f.num * a.num ≤ 1152921504606846976 := by
    have e : (f.num * a.num).natAbs = f.num.natAbs * a.num.natAbs := Int.natAbs_mul _ _
    have : f.num.natAbs * a.num.natAbs ≤ 1048576 * 1099511627776 := Nat.mul_le_mul (by omega) (by omega)
    omega
  simp (maxSteps := 4000000) -implicitDefEqProofs -dsimp (disch := omega) only [↓AW_ops, ↓AW_seq, ↓AOps_nil, ↓AOps_pu, ↓AOps_call, on_some, extK_same, ↓then_normal, pval, rd_S, rd_C, put_S, chkd, isAdr, bput, bgot, AV.cells?, splice, partA, eq_self, List.replicate_succ, List.replicate_zero, List.set_cons_zero, List.set_cons_succ, List.getElem?_cons_zero, List.getElem?_cons_succ, List.drop_zero, List.drop_succ_cons, List.drop_nil, List.take_zero, List.take_succ_cons, List.take_nil, Option.getD_some, map_c, map_n, List.length_cons, List.length_nil, Nat.reduceAdd, Nat.reduceSub, Nat.reduceLeDiff, Nat.zero_add, List.cons_append, List.nil_append, List.append_nil, bin_mul, w64, if_true, if_false, Bool.false_eq_true, ne_eq, not_true_eq_false]
  refine CallK.of (s80R _ ⟨by omega, by omega⟩ (by omega) hp (by omega)) ?_
  simp (maxSteps := 4000000) -implicitDefEqProofs -dsimp (disch := omega) only [↓AW_ret, ↓AOps_nil, ↓AOps_pu, on_some, extK_same, ↓then_normal, ↓Fin_ret, pval, rd_S, put_S, resV, resL, chkd, bput, bgot, AV.cells?, splice, partA, eq_self, List.replicate_succ, List.replicate_zero, List.set_cons_zero, List.set_cons_succ, List.getElem?_cons_zero, List.getElem?_cons_succ, List.drop_zero, List.drop_succ_cons, List.drop_nil, List.take_zero, List.take_succ_cons, List.take_nil, Option.getD_some, List.length_cons, List.length_nil, Nat.reduceAdd, Nat.reduceSub, Nat.reduceLeDiff, Nat.reduceEqDiff, Nat.zero_add, List.cons_append, List.nil_append, List.append_nil, if_true, if_false, ne_eq, not_true_eq_false]
  exact gc_same (by rw [Int.mul_comm, hm])
theorem div_parts (a : Rat) (n : Int) (hn : 0 < n) : ((((a.num : Rat) / (n : Rat)).num : Int) : Rat) / (((((a.num : Rat) / (n : Rat)).den : Int) * (a.den : Int) : Int) : Rat) = a / n := by
  have h1 := R_self a
  have h2 := R_self ((a.num : Rat) / (n : Rat))
  have h3 := cast_ne (show ((a.den : Int)) ≠ 0 by have := den_pos a; omega)
  have h5 := cast_ne (show n ≠ 0 by omega)
  generalize hf : ((a.num : Rat) / (n : Rat)) = f at *
  have h4 := cast_ne (show ((f.den : Int)) ≠ 0 by have := den_pos f; omega)
  rw [Rat.intCast_mul]
  generalize ((f.num : Int) : Rat) = fn at *
  generalize ((f.den : Int) : Rat) = fd at *
  generalize ((a.num : Int) : Rat) = an at *
  generalize ((a.den : Int) : Rat) = ad at *
  grind
/-- A fraction in lowest terms, as an argument holds it. -/
def valid (r : Int × Int) (most : Int) : Prop := (1 ≤ r.2 ∧ r.2 ≤ most) ∧ Int.gcd r.1 r.2 = 1
theorem s105 (r : Int × Int) (most : Int) (A : AHeap) (h : W r.1) (hm : most ≤ 1048576) : ACalls Try.prog 105 [.agg [I r.1, I r.2], I most] A (B (decide ((1 ≤ r.2 ∧ r.2 ≤ most) ∧ Int.gcd r.1 r.2 = 1))) A := by
  refine acalls hmix Try.func105 (by kernel_rfl) t105 2 rfl (by decide) ?_
  by_cases h1 : 1 ≤ r.2
  · by_cases h2 : r.2 ≤ most
    · dsimp only [m105]
      simp (maxSteps := 4000000) -implicitDefEqProofs -dsimp (disch := omega) only [↓AW_ops, ↓AW_seq, ↓AOps_nil, ↓AOps_pu, ↓AOps_call, ↓AOps_guard, on_some, guardB_tt, ↓then_normal, pval, rd_S, rd_C, put_S, chkd, isAdr, bgot, AV.cells?, partA, eq_self, List.replicate_succ, List.replicate_zero, List.set_cons_zero, List.set_cons_succ, List.getElem?_cons_zero, List.getElem?_cons_succ, List.drop_zero, List.drop_succ_cons, List.take_zero, List.take_succ_cons, List.take_nil, Option.getD_some, map_c, map_n, List.length_cons, List.length_nil, Nat.reduceAdd, Nat.reduceSub, Nat.reduceLeDiff, Nat.zero_add, List.cons_append, List.nil_append, bin_leq, bin_geq, if_true, if_false, Bool.false_eq_true, decide_true, h1, h2]
      refine CallK.of (s111 _ h (by omega) (by omega)) ?_
      simp (maxSteps := 4000000) -implicitDefEqProofs -dsimp (disch := omega) only [↓AW_ret, ↓AOps_nil, ↓AOps_pu, ↓AOps_guard, on_some, extK_same, guardB_tt, ↓then_normal, ↓Fin_ret, pval, rd_S, rd_C, put_S, resV, resL, eq_self, List.replicate_succ, List.replicate_zero, List.set_cons_zero, List.set_cons_succ, List.getElem?_cons_zero, List.getElem?_cons_succ, Option.getD_some, Nat.reduceSub, List.cons_append, List.nil_append, bin_eql, if_true, true_and, and_true, h1, h2]
      exact gc_same (by congr 1; simp; omega)
    · dsimp only [m105]
      simp (maxSteps := 4000000) -implicitDefEqProofs -dsimp (disch := omega) only [↓AW_ops, ↓AW_seq, ↓AW_ret, ↓AOps_nil, ↓AOps_pu, ↓AOps_guard, on_some, guardB_tt, guardB_ft, skipS_some, ↓then_normal, ↓Fin_ret, pval, rd_S, rd_C, put_S, resV, resL, chkd, isAdr, bgot, AV.cells?, partA, eq_self, List.replicate_succ, List.replicate_zero, List.set_cons_zero, List.set_cons_succ, List.getElem?_cons_zero, List.getElem?_cons_succ, List.drop_zero, List.drop_succ_cons, List.take_succ_cons, List.take_nil, Option.getD_some, List.length_cons, List.length_nil, Nat.reduceAdd, Nat.reduceSub, Nat.reduceLeDiff, Nat.zero_add, List.cons_append, List.nil_append, bin_leq, bin_geq, if_true, if_false, Bool.false_eq_true, decide_true, decide_false, true_and, h1, h2]
      exact gc_same (by simp)
  · dsimp only [m105]
    simp (maxSteps := 4000000) -implicitDefEqProofs -dsimp (disch := omega) only [↓AW_ops, ↓AW_seq, ↓AW_ret, ↓AOps_nil, ↓AOps_pu, ↓AOps_guard, on_some, guardB_ft, skipS_some, ↓then_normal, ↓Fin_ret, pval, rd_S, rd_C, put_S, resV, resL, chkd, isAdr, bgot, AV.cells?, partA, eq_self, List.replicate_succ, List.replicate_zero, List.set_cons_zero, List.set_cons_succ, List.getElem?_cons_zero, List.getElem?_cons_succ, List.drop_zero, List.drop_succ_cons, List.take_succ_cons, List.take_nil, Option.getD_some, List.length_cons, List.length_nil, Nat.reduceAdd, Nat.reduceSub, Nat.reduceLeDiff, Nat.zero_add, List.cons_append, List.nil_append, bin_geq, if_true, if_false, Bool.false_eq_true, decide_false, h1]
    exact gc_same (by simp)
end Go.Proofs.Ytmblehbjedpjoaa

