/- What the law's proof rests on, part 4: for all that is said in each line. No conditions. -/
import Derived.Test.YtnnbggcckabhdaaRows
import Derived.Test.YtnnbggcckabhdaaCeA
namespace Go.Proofs.Ytnnbggcckabhdaa
open Go Go.Eng
/-- selion/soil.Place [] -/
def m39 : MFun := ⟨52, [4, 5, 6, 9], [.bget none 6 0 2 true, .mov (.s 7)],
 .seq (.ops [⟨(some 4), some (.junk), none, false, .pu (.bnew (.s 1))⟩,
   ⟨(some 5), some (.junk), none, false, .pu (.bnew (.s 2))⟩,
   ⟨(some 6), some (.junk), none, false, .pu (.bnew (.c (.agg [.int .i64 0, .int .i64 0])))⟩,
   ⟨(some 7), some undefA, none, false, .pu (.mov (.c (.int .i64 0)))⟩])
 (.seq (.seq (.ops [⟨(some 11), some undefA, none, false, .pu (.mov (.s 0))⟩,
   ⟨(some 12), some undefA, none, false, .call 37 [(.s 11)]⟩,
   ⟨(some 8), some undefA, none, false, .pu (.mov (.s 12))⟩])
 (.seq (.ops [⟨(some 13), some undefA, none, false, .pu (.mov (.s 8))⟩,
   ⟨(some 14), some undefA, none, false, .pu (.bin .neq (.s 13) (.c (.int .i64 0)))⟩])
 (.cond (.s 14) (.seq (.ops [⟨(some 15), some undefA, none, false, .pu (.build [.int .i64 0, .int .i64 0] [])⟩,
    ⟨(some 16), some undefA, none, false, .pu (.mov (.s 8))⟩,
    ⟨(some 6), none, none, false, .pu (.bset none 6 0 2 (.s 15))⟩,
    ⟨(some 7), some undefA, none, false, .pu (.mov (.s 16))⟩])
  (.ret))
 (.skip))))
 (.seq (.seq (.ops [⟨(some 17), some undefA, none, false, .pu (.mov (.s 0))⟩,
   ⟨(some 18), some undefA, none, false, .pu (.bget none 4 0 2 true)⟩,
   ⟨(some 19), some undefA, none, false, .call 71 [(.s 17), (.s 18), (.c (.int .i64 1000))]⟩,
   ⟨(some 20), some undefA, none, false, .pu (.not (.s 19))⟩,
   ⟨(some 21), some undefA, none, false, .pu (.mov (.s 20))⟩,
   ⟨(some 22), some undefA, (some (21, false)), false, .pu (.bget none 5 0 2 true)⟩,
   ⟨(some 23), some undefA, (some (21, false)), false, .call 79 [(.s 22), (.c (.int .i64 1000))]⟩,
   ⟨(some 24), some undefA, (some (21, false)), false, .pu (.not (.s 23))⟩,
   ⟨(some 25), some undefA, none, false, .pu (.pick (.s 21) (.c (.bool true)) (.s 24))⟩,
   ⟨(some 26), some undefA, none, false, .pu (.mov (.s 25))⟩,
   ⟨(some 27), some undefA, (some (26, false)), false, .pu (.badr none 5)⟩,
   ⟨(some 28), some undefA, (some (26, false)), false, .pu (.bget (some 27) 5 0 1 false)⟩,
   ⟨(some 29), some undefA, (some (26, false)), false, .pu (.bin .lss (.s 28) (.c (.int .i64 0)))⟩,
   ⟨(some 30), some undefA, none, false, .pu (.pick (.s 26) (.c (.bool true)) (.s 29))⟩])
 (.cond (.s 30) (.seq (.ops [⟨(some 31), some undefA, none, false, .pu (.build [.int .i64 0, .int .i64 0] [])⟩,
    ⟨(some 6), none, none, false, .pu (.bset none 6 0 2 (.s 31))⟩,
    ⟨(some 7), some undefA, none, false, .pu (.mov (.c (.int .i64 1)))⟩])
  (.ret))
 (.skip)))
 (.seq (.seq (.ops [⟨(some 32), some undefA, none, false, .pu (.badr none 5)⟩,
   ⟨(some 33), some undefA, none, false, .pu (.bget (some 32) 5 0 1 false)⟩,
   ⟨(some 34), some undefA, none, false, .pu (.badr none 5)⟩,
   ⟨(some 35), some undefA, none, false, .pu (.bget (some 34) 5 1 1 false)⟩,
   ⟨(some 36), some undefA, none, false, .pu (.mov (.s 0))⟩,
   ⟨(some 37), some undefA, none, false, .call 65 [(.s 36)]⟩,
   ⟨(some 38), some undefA, none, false, .pu (.bin .mul (.s 35) (.s 37))⟩,
   ⟨(some 39), some undefA, none, false, .pu (.bin .gtr (.s 33) (.s 38))⟩])
 (.cond (.s 39) (.seq (.ops [⟨(some 40), some undefA, none, false, .pu (.build [.int .i64 0, .int .i64 0] [])⟩,
    ⟨(some 6), none, none, false, .pu (.bset none 6 0 2 (.s 40))⟩,
    ⟨(some 7), some undefA, none, false, .pu (.mov (.c (.int .i64 8)))⟩])
  (.ret))
 (.skip)))
 (.seq (.ops [⟨(some 42), some undefA, none, false, .pu (.mov (.s 0))⟩,
   ⟨(some 43), some undefA, none, false, .pu (.bget none 4 0 2 true)⟩,
   ⟨(some 44), some undefA, none, false, .pu (.bget none 5 0 2 true)⟩,
   ⟨(some 45), some undefA, none, false, .call 80 [(.s 42), (.s 43), (.s 44)]⟩,
   ⟨(some 41), some undefA, none, false, .pu (.mov (.s 45))⟩,
   ⟨(some 46), some undefA, none, false, .pu (.extr 0 (.s 41))⟩,
   ⟨(some 47), some undefA, none, false, .pu (.extr 1 (.s 41))⟩,
   ⟨(some 9), some (.junk), none, false, .pu (.bnew (.c (.agg [.int .i64 0, .int .i64 0])))⟩,
   ⟨(some 9), none, none, false, .pu (.bset none 9 0 2 (.s 46))⟩,
   ⟨(some 10), some undefA, none, false, .pu (.mov (.s 47))⟩])
 (.seq (.seq (.ops [⟨(some 48), some undefA, none, false, .pu (.mov (.s 10))⟩,
   ⟨(some 49), some undefA, none, false, .pu (.not (.s 48))⟩])
 (.cond (.s 49) (.seq (.ops [⟨(some 50), some undefA, none, false, .pu (.build [.int .i64 0, .int .i64 0] [])⟩,
    ⟨(some 6), none, none, false, .pu (.bset none 6 0 2 (.s 50))⟩,
    ⟨(some 7), some undefA, none, false, .pu (.mov (.c (.int .i64 8)))⟩])
  (.ret))
 (.skip)))
 (.seq (.ops [⟨(some 51), some undefA, none, false, .pu (.bget none 9 0 2 true)⟩,
   ⟨(some 6), none, none, false, .pu (.bset none 6 0 2 (.s 51))⟩,
   ⟨(some 7), some undefA, none, false, .pu (.mov (.c (.int .i64 0)))⟩])
 (.ret)))))))⟩
theorem t39 : trF Try.prog [4, 5, 6, 9] [] Try.f39 = some m39 := by kernel_rfl
/-- selion/soil.Cut [loop [0, 7, 20, 21, 22]] -/
def m50 : MFun := ⟨35, [], [.mov (.s 4), .mov (.s 5)],
 .seq (.ops [⟨(some 4), some undefA, none, false, .pu (.mov (.c (.nilS)))⟩,
   ⟨(some 5), some undefA, none, false, .pu (.mov (.c (.int .i64 0)))⟩])
 (.seq (.seq (.ops [⟨(some 10), some undefA, none, false, .pu (.mov (.s 0))⟩,
   ⟨(some 11), some undefA, none, false, .pu (.mov (.s 1))⟩,
   ⟨(some 12), some undefA, none, false, .call 87 [(.s 10), (.s 11)]⟩,
   ⟨(some 6), some undefA, none, false, .pu (.mov (.s 12))⟩])
 (.seq (.ops [⟨(some 13), some undefA, none, false, .pu (.mov (.s 6))⟩,
   ⟨(some 14), some undefA, none, false, .pu (.bin .neq (.s 13) (.c (.int .i64 0)))⟩])
 (.cond (.s 14) (.seq (.ops [⟨(some 15), some undefA, none, false, .pu (.mov (.s 6))⟩,
    ⟨(some 4), some undefA, none, false, .pu (.mov (.c (.nilS)))⟩,
    ⟨(some 5), some undefA, none, false, .pu (.mov (.s 15))⟩])
  (.ret))
 (.skip))))
 (.seq (.ops [⟨(some 7), some undefA, none, false, .pu (.mov (.c (.nilS)))⟩])
 (.seq (.seq (.ops [⟨(some 16), some undefA, none, false, .pu (.mov (.s 1))⟩,
   ⟨(some 17), some undefA, none, false, .pu (.mov (.s 1))⟩,
   ⟨(some 18), some undefA, none, false, .pu (.len (.s 17))⟩,
   ⟨(some 19), some undefA, none, false, .pu (.bin .sub (.s 18) (.c (.int .i64 1)))⟩,
   ⟨(some 20), some undefA, none, false, .pu (.slc 1 (.s 16) none (some (.s 19)) none)⟩,
   ⟨(some 21), some undefA, none, false, .pu (.len (.s 20))⟩,
   ⟨(some 22), some undefA, none, false, .pu (.mov (.c (.int .i64 0)))⟩])
 (.block 0 (.loop (.seq (.ops [⟨(some 23), some undefA, none, false, .pu (.bin .lss (.s 22) (.s 21))⟩])
   (.seq (.cond (.s 23) (.skip)
   (.exit 0))
   (.seq (.block 1 (.seq (.ops [⟨(some 24), some undefA, none, false, .pu (.idx 1 (.s 20) (.s 22))⟩,
      ⟨(some 25), some undefA, none, false, .ld (.ld 1 false (.s 24))⟩,
      ⟨(some 9), some undefA, none, false, .pu (.mov (.s 25))⟩])
    (.ops [⟨(some 26), some undefA, none, false, .pu (.mov (.s 7))⟩,
      ⟨(some 27), some undefA, none, false, .pu (.mov (.s 9))⟩,
      ⟨(some 28), some undefA, none, false, .call 78 [(.s 27)]⟩,
      ⟨(some 29), some undefA, none, false, .ha (.blds 2 1 [.int .i64 0, .int .i64 0] [(0, 2, (.s 28))])⟩,
      ⟨(some 30), some undefA, none, false, .ha (.app 2 (.s 26) (.s 29))⟩,
      ⟨(some 7), some undefA, none, false, .pu (.mov (.s 30))⟩])))
   (.ops [⟨(some 31), some undefA, none, false, .pu (.bin .add (.s 22) (.c (.int .i64 1)))⟩,
     ⟨(some 22), some undefA, none, false, .pu (.mov (.s 31))⟩])))))))
 (.seq (.ops [⟨(some 32), some undefA, none, false, .pu (.mov (.s 0))⟩,
   ⟨(some 33), some undefA, none, false, .pu (.mov (.s 7))⟩,
   ⟨(some 34), some undefA, none, false, .call 62 [(.s 32), (.s 33)]⟩,
   ⟨(some 4), some undefA, none, false, .pu (.mov (.s 34))⟩,
   ⟨(some 5), some undefA, none, false, .pu (.mov (.c (.int .i64 0)))⟩])
 (.ret)))))⟩
theorem t50 : trF Try.prog [] [] Try.f50 = some m50 := by kernel_rfl
/-- selion/soil.CheckCut [loop [1, 3, 9, 40, 41, 42]] -/
def m51 : MFun := ⟨59, [9, 11], [.mov (.s 6)],
 .seq (.ops [⟨(some 3), some undefA, none, false, .ha (.newv (.s 0))⟩,
   ⟨(some 6), some undefA, none, false, .pu (.mov (.c (.int .i64 0)))⟩])
 (.seq (.seq (.ops [⟨(some 12), some undefA, none, false, .ld (.ld 1 false (.s 3))⟩,
   ⟨(some 13), some undefA, none, false, .pu (.mov (.s 1))⟩,
   ⟨(some 14), some undefA, none, false, .call 87 [(.s 12), (.s 13)]⟩,
   ⟨(some 7), some undefA, none, false, .pu (.mov (.s 14))⟩])
 (.seq (.ops [⟨(some 15), some undefA, none, false, .pu (.mov (.s 7))⟩,
   ⟨(some 16), some undefA, none, false, .pu (.bin .neq (.s 15) (.c (.int .i64 0)))⟩])
 (.cond (.s 16) (.seq (.ops [⟨(some 17), some undefA, none, false, .pu (.mov (.s 7))⟩,
    ⟨(some 6), some undefA, none, false, .pu (.mov (.s 17))⟩])
  (.ret))
 (.skip))))
 (.seq (.seq (.ops [⟨(some 18), some undefA, none, false, .pu (.mov (.s 2))⟩,
   ⟨(some 19), some undefA, none, false, .pu (.len (.s 18))⟩,
   ⟨(some 20), some undefA, none, false, .pu (.mov (.s 1))⟩,
   ⟨(some 21), some undefA, none, false, .pu (.len (.s 20))⟩,
   ⟨(some 22), some undefA, none, false, .pu (.bin .sub (.s 21) (.c (.int .i64 1)))⟩,
   ⟨(some 23), some undefA, none, false, .pu (.bin .neq (.s 19) (.s 22))⟩,
   ⟨(some 24), some undefA, none, false, .pu (.mov (.s 23))⟩,
   ⟨(some 25), some undefA, (some (24, false)), false, .pu (.mov (.s 2))⟩,
   ⟨(some 26), some undefA, (some (24, false)), false, .pu (.mkf 89 [(.s 3)])⟩,
   ⟨(some 27), some undefA, (some (24, false)), false, .call 88 [(.s 25), (.s 26)]⟩,
   ⟨(some 28), some undefA, none, false, .pu (.pick (.s 24) (.c (.bool true)) (.s 27))⟩])
 (.cond (.s 28) (.seq (.ops [⟨(some 6), some undefA, none, false, .pu (.mov (.c (.int .i64 1)))⟩])
  (.ret))
 (.skip)))
 (.seq (.ops [⟨(some 29), some undefA, none, true, .pu (.mov (.s 2))⟩,
   ⟨(some 30), some undefA, none, true, .call 90 [(.s 29)]⟩,
   ⟨(some 31), some undefA, none, true, .ld (.ld 1 false (.s 3))⟩,
   ⟨(some 32), some undefA, none, false, .call 77 [(.s 31)]⟩,
   ⟨(some 33), some undefA, none, false, .call 78 [(.s 32)]⟩,
   ⟨(some 34), some undefA, none, false, .ha (.blds 2 1 [.int .i64 0, .int .i64 0] [(0, 2, (.s 33))])⟩,
   ⟨(some 35), some undefA, none, false, .ha (.app 2 (.s 30) (.s 34))⟩,
   ⟨(some 8), some undefA, none, false, .pu (.mov (.s 35))⟩])
 (.seq (.seq (.ops [⟨(some 36), some undefA, none, false, .pu (.mov (.s 8))⟩,
   ⟨(some 37), some undefA, none, false, .call 91 [(.s 36), (.c (.fn 72 []))]⟩,
   ⟨(some 38), some undefA, none, false, .pu (.not (.s 37))⟩])
 (.cond (.s 38) (.seq (.ops [⟨(some 6), some undefA, none, false, .pu (.mov (.c (.int .i64 7)))⟩])
  (.ret))
 (.skip)))
 (.seq (.ops [⟨(some 39), some undefA, none, false, .call 78 [(.c (.int .i64 0))]⟩,
   ⟨(some 9), some (.junk), none, false, .pu (.bnew (.c (.agg [.int .i64 0, .int .i64 0])))⟩,
   ⟨(some 9), none, none, false, .pu (.bset none 9 0 2 (.s 39))⟩])
 (.seq (.seq (.ops [⟨(some 40), some undefA, none, false, .pu (.mov (.s 8))⟩,
   ⟨(some 41), some undefA, none, false, .pu (.len (.s 40))⟩,
   ⟨(some 42), some undefA, none, false, .pu (.mov (.c (.int .i64 0)))⟩])
 (.block 0 (.loop (.seq (.ops [⟨(some 43), some undefA, none, false, .pu (.bin .lss (.s 42) (.s 41))⟩])
   (.seq (.cond (.s 43) (.skip)
   (.exit 0))
   (.seq (.block 1 (.seq (.ops [⟨(some 44), some undefA, none, false, .pu (.mov (.s 42))⟩,
      ⟨(some 45), some undefA, none, false, .pu (.idx 2 (.s 40) (.s 42))⟩,
      ⟨(some 46), some undefA, none, false, .ld (.ld 2 true (.s 45))⟩,
      ⟨(some 11), some (.junk), none, false, .pu (.bnew (.c (.agg [.int .i64 0, .int .i64 0])))⟩,
      ⟨(some 10), some undefA, none, false, .pu (.mov (.s 44))⟩,
      ⟨(some 11), none, none, false, .pu (.bset none 11 0 2 (.s 46))⟩])
    (.seq (.seq (.ops [⟨(some 47), some undefA, none, true, .ld (.ld 1 false (.s 3))⟩,
      ⟨(some 48), some undefA, none, true, .pu (.bget none 9 0 2 true)⟩,
      ⟨(some 49), some undefA, none, true, .pu (.bget none 11 0 2 true)⟩,
      ⟨(some 50), some undefA, none, true, .call 73 [(.s 47), (.s 48), (.s 49)]⟩,
      ⟨(some 51), some undefA, none, true, .pu (.mov (.s 1))⟩,
      ⟨(some 52), some undefA, none, true, .pu (.mov (.s 10))⟩,
      ⟨(some 53), some undefA, none, true, .pu (.idx 1 (.s 51) (.s 52))⟩,
      ⟨(some 54), some undefA, none, true, .ld (.ld 1 false (.s 53))⟩,
      ⟨(some 55), some undefA, none, false, .call 78 [(.s 54)]⟩,
      ⟨(some 56), some undefA, none, false, .pu (.eqs true [true, true] (.s 50) (.s 55))⟩])
    (.cond (.s 56) (.seq (.ops [⟨(some 6), some undefA, none, false, .pu (.mov (.c (.int .i64 7)))⟩])
     (.ret))
    (.skip)))
    (.ops [⟨(some 57), some undefA, none, false, .pu (.bget none 11 0 2 true)⟩,
      ⟨(some 9), none, none, false, .pu (.bset none 9 0 2 (.s 57))⟩]))))
   (.ops [⟨(some 58), some undefA, none, false, .pu (.bin .add (.s 42) (.c (.int .i64 1)))⟩,
     ⟨(some 42), some undefA, none, false, .pu (.mov (.s 58))⟩])))))))
 (.seq (.ops [⟨(some 6), some undefA, none, false, .pu (.mov (.c (.int .i64 0)))⟩])
 (.ret))))))))⟩
theorem t51 : trF Try.prog [9, 11] [] Try.f51 = some m51 := by kernel_rfl
/-- selion/soil.Turn [] -/
def m52 : MFun := ⟨16, [], [.mov (.s 2), .mov (.s 3)],
 .seq (.ops [⟨(some 2), some undefA, none, false, .pu (.mov (.c (.nilS)))⟩,
   ⟨(some 3), some undefA, none, false, .pu (.mov (.c (.int .i64 0)))⟩])
 (.seq (.seq (.ops [⟨(some 6), some undefA, none, false, .pu (.mov (.s 0))⟩,
   ⟨(some 7), some undefA, none, false, .call 37 [(.s 6)]⟩,
   ⟨(some 4), some undefA, none, false, .pu (.mov (.s 7))⟩])
 (.seq (.ops [⟨(some 8), some undefA, none, false, .pu (.mov (.s 4))⟩,
   ⟨(some 9), some undefA, none, false, .pu (.bin .neq (.s 8) (.c (.int .i64 0)))⟩])
 (.cond (.s 9) (.seq (.ops [⟨(some 10), some undefA, none, false, .pu (.mov (.s 4))⟩,
    ⟨(some 2), some undefA, none, false, .pu (.mov (.c (.nilS)))⟩,
    ⟨(some 3), some undefA, none, false, .pu (.mov (.s 10))⟩])
  (.ret))
 (.skip))))
 (.seq (.ops [⟨(some 11), some undefA, none, false, .pu (.mov (.s 0))⟩,
   ⟨(some 12), some undefA, none, false, .call 92 [(.s 11)]⟩,
   ⟨(some 5), some undefA, none, false, .pu (.mov (.s 12))⟩])
 (.seq (.ops [⟨(some 13), some undefA, none, false, .pu (.mov (.s 5))⟩,
   ⟨(some 14), some undefA, none, false, .call 93 [(.s 13)]⟩])
 (.seq (.ops [⟨(some 15), some undefA, none, false, .pu (.mov (.s 5))⟩,
   ⟨(some 2), some undefA, none, false, .pu (.mov (.s 15))⟩,
   ⟨(some 3), some undefA, none, false, .pu (.mov (.c (.int .i64 0)))⟩])
 (.ret)))))⟩
theorem t52 : trF Try.prog [] [] Try.f52 = some m52 := by kernel_rfl
/-- selion/soil.areParts [loop [0, 6, 18, 19, 20]] -/
def m87 : MFun := ⟨35, [], [.mov (.s 4)],
 .seq (.ops [⟨(some 4), some undefA, none, false, .pu (.mov (.c (.int .i64 0)))⟩])
 (.seq (.seq (.ops [⟨(some 9), some undefA, none, false, .pu (.mov (.s 0))⟩,
   ⟨(some 10), some undefA, none, false, .call 37 [(.s 9)]⟩,
   ⟨(some 5), some undefA, none, false, .pu (.mov (.s 10))⟩])
 (.seq (.ops [⟨(some 11), some undefA, none, false, .pu (.mov (.s 5))⟩,
   ⟨(some 12), some undefA, none, false, .pu (.bin .neq (.s 11) (.c (.int .i64 0)))⟩])
 (.cond (.s 12) (.seq (.ops [⟨(some 13), some undefA, none, false, .pu (.mov (.s 5))⟩,
    ⟨(some 4), some undefA, none, false, .pu (.mov (.s 13))⟩])
  (.ret))
 (.skip))))
 (.seq (.seq (.ops [⟨(some 14), some undefA, none, false, .pu (.mov (.s 1))⟩,
   ⟨(some 15), some undefA, none, false, .pu (.len (.s 14))⟩,
   ⟨(some 16), some undefA, none, false, .call 61 [(.s 15), (.c (.int .i64 1)), (.c (.int .i64 8))]⟩,
   ⟨(some 17), some undefA, none, false, .pu (.not (.s 16))⟩])
 (.cond (.s 17) (.seq (.ops [⟨(some 4), some undefA, none, false, .pu (.mov (.c (.int .i64 3)))⟩])
  (.ret))
 (.skip)))
 (.seq (.ops [⟨(some 6), some undefA, none, false, .pu (.mov (.c (.int .i64 0)))⟩])
 (.seq (.seq (.ops [⟨(some 18), some undefA, none, false, .pu (.mov (.s 1))⟩,
   ⟨(some 19), some undefA, none, false, .pu (.len (.s 18))⟩,
   ⟨(some 20), some undefA, none, false, .pu (.mov (.c (.int .i64 0)))⟩])
 (.block 0 (.loop (.seq (.ops [⟨(some 21), some undefA, none, false, .pu (.bin .lss (.s 20) (.s 19))⟩])
   (.seq (.cond (.s 21) (.skip)
   (.exit 0))
   (.seq (.block 1 (.seq (.ops [⟨(some 22), some undefA, none, false, .pu (.idx 1 (.s 18) (.s 20))⟩,
      ⟨(some 23), some undefA, none, false, .ld (.ld 1 false (.s 22))⟩,
      ⟨(some 8), some undefA, none, false, .pu (.mov (.s 23))⟩])
    (.seq (.seq (.ops [⟨(some 24), some undefA, none, false, .pu (.mov (.s 8))⟩,
      ⟨(some 25), some undefA, none, false, .call 61 [(.s 24), (.c (.int .i64 0)), (.c (.int .i64 10000))]⟩,
      ⟨(some 26), some undefA, none, false, .pu (.not (.s 25))⟩])
    (.cond (.s 26) (.seq (.ops [⟨(some 4), some undefA, none, false, .pu (.mov (.c (.int .i64 1)))⟩])
     (.ret))
    (.skip)))
    (.ops [⟨(some 27), some undefA, none, false, .pu (.mov (.s 6))⟩,
      ⟨(some 28), some undefA, none, false, .pu (.mov (.s 8))⟩,
      ⟨(some 29), some undefA, none, false, .pu (.bin .add (.s 27) (.s 28))⟩,
      ⟨(some 6), some undefA, none, false, .pu (.mov (.s 29))⟩]))))
   (.ops [⟨(some 30), some undefA, none, false, .pu (.bin .add (.s 20) (.c (.int .i64 1)))⟩,
     ⟨(some 20), some undefA, none, false, .pu (.mov (.s 30))⟩])))))))
 (.seq (.seq (.ops [⟨(some 31), some undefA, none, false, .pu (.mov (.s 6))⟩,
   ⟨(some 32), some undefA, none, false, .pu (.mov (.s 0))⟩,
   ⟨(some 33), some undefA, none, false, .call 65 [(.s 32)]⟩,
   ⟨(some 34), some undefA, none, false, .pu (.bin .neq (.s 31) (.s 33))⟩])
 (.cond (.s 34) (.seq (.ops [⟨(some 4), some undefA, none, false, .pu (.mov (.c (.int .i64 5)))⟩])
  (.ret))
 (.skip)))
 (.seq (.ops [⟨(some 4), some undefA, none, false, .pu (.mov (.c (.int .i64 0)))⟩])
 (.ret)))))))⟩
theorem t87 : trF Try.prog [] [] Try.f87 = some m87 := by kernel_rfl
/-- slices.ContainsFunc[[]selion/api.Rat,selion/api.Rat] [] -/
def m88 : MFun := ⟨9, [], [.mov (.s 4)],
 .seq (.ops [⟨(some 4), some undefA, none, false, .pu (.mov (.c (.bool false)))⟩])
 (.seq (.ops [⟨(some 5), some undefA, none, false, .pu (.mov (.s 0))⟩,
   ⟨(some 6), some undefA, none, false, .pu (.mov (.s 1))⟩,
   ⟨(some 7), some undefA, none, false, .call 115 [(.s 5), (.s 6)]⟩,
   ⟨(some 8), some undefA, none, false, .pu (.bin .geq (.s 7) (.c (.int .i64 0)))⟩,
   ⟨(some 4), some undefA, none, false, .pu (.mov (.s 8))⟩])
 (.ret))⟩
theorem t88 : trF Try.prog [] [] Try.f88 = some m88 := by kernel_rfl
/-- selion/soil.CheckCut$1 [] -/
def m89 : MFun := ⟨8, [2], [.mov (.s 3)],
 .seq (.ops [⟨(some 2), some (.junk), none, false, .pu (.bnew (.s 0))⟩,
   ⟨(some 3), some undefA, none, false, .pu (.mov (.c (.bool false)))⟩])
 (.seq (.ops [⟨(some 4), some undefA, none, false, .ld (.ld 1 false (.s 1))⟩,
   ⟨(some 5), some undefA, none, false, .pu (.bget none 2 0 2 true)⟩,
   ⟨(some 6), some undefA, none, false, .call 71 [(.s 4), (.s 5), (.c (.int .i64 1000000))]⟩,
   ⟨(some 7), some undefA, none, false, .pu (.not (.s 6))⟩,
   ⟨(some 3), some undefA, none, false, .pu (.mov (.s 7))⟩])
 (.ret))⟩
theorem t89 : trF Try.prog [2] [] Try.f89 = some m89 := by kernel_rfl
/-- slices.Clone[[]selion/api.Rat,selion/api.Rat] [] -/
def m90 : MFun := ⟨8, [], [.mov (.s 2)],
 .seq (.ops [⟨(some 2), some undefA, none, false, .pu (.mov (.c (.nilS)))⟩])
 (.seq (.seq (.ops [⟨(some 3), some undefA, none, false, .pu (.mov (.s 0))⟩,
   ⟨(some 4), some undefA, none, false, .pu (.isnil false (.s 3))⟩])
 (.cond (.s 4) (.seq (.ops [⟨(some 2), some undefA, none, false, .pu (.mov (.c (.nilS)))⟩])
  (.ret))
 (.skip)))
 (.seq (.ops [⟨(some 5), some undefA, none, false, .ha (.blds 2 0 [.int .i64 0, .int .i64 0] [])⟩,
   ⟨(some 6), some undefA, none, false, .pu (.mov (.s 0))⟩,
   ⟨(some 7), some undefA, none, false, .ha (.app 2 (.s 5) (.s 6))⟩,
   ⟨(some 2), some undefA, none, false, .pu (.mov (.s 7))⟩])
 (.ret)))⟩
theorem t90 : trF Try.prog [] [] Try.f90 = some m90 := by kernel_rfl
/-- selion/soil.ordered[selion/api.Rat] [loop [0, 1, 5]] -/
def m91 : MFun := ⟨24, [], [.mov (.s 4)],
 .seq (.ops [⟨(some 4), some undefA, none, false, .pu (.mov (.c (.bool false)))⟩])
 (.seq (.seq (.ops [⟨(some 5), some undefA, none, false, .pu (.mov (.c (.int .i64 1)))⟩])
 (.block 0 (.loop (.seq (.seq (.ops [⟨(some 6), some undefA, none, false, .pu (.mov (.s 5))⟩,
     ⟨(some 7), some undefA, none, false, .pu (.mov (.s 0))⟩,
     ⟨(some 8), some undefA, none, false, .pu (.len (.s 7))⟩,
     ⟨(some 9), some undefA, none, false, .pu (.bin .lss (.s 6) (.s 8))⟩])
   (.cond (.s 9) (.skip)
   (.exit 0)))
   (.seq (.block 1 (.seq (.ops [⟨(some 12), some undefA, none, true, .pu (.mov (.s 1))⟩,
      ⟨(some 13), some undefA, none, true, .pu (.mov (.s 0))⟩,
      ⟨(some 14), some undefA, none, true, .pu (.mov (.s 5))⟩,
      ⟨(some 15), some undefA, none, true, .pu (.bin .sub (.s 14) (.c (.int .i64 1)))⟩,
      ⟨(some 16), some undefA, none, true, .pu (.idx 2 (.s 13) (.s 15))⟩,
      ⟨(some 17), some undefA, none, true, .ld (.ld 2 true (.s 16))⟩,
      ⟨(some 18), some undefA, none, true, .pu (.mov (.s 0))⟩,
      ⟨(some 19), some undefA, none, true, .pu (.mov (.s 5))⟩,
      ⟨(some 20), some undefA, none, true, .pu (.idx 2 (.s 18) (.s 19))⟩,
      ⟨(some 21), some undefA, none, true, .ld (.ld 2 true (.s 20))⟩,
      ⟨(some 22), some undefA, none, false, .callv (.s 12) [(.s 17), (.s 21)]⟩,
      ⟨(some 23), some undefA, none, false, .pu (.bin .gtr (.s 22) (.c (.int .i64 0)))⟩])
    (.cond (.s 23) (.seq (.ops [⟨(some 4), some undefA, none, false, .pu (.mov (.c (.bool false)))⟩])
     (.ret))
    (.skip))))
   (.ops [⟨(some 10), some undefA, none, false, .pu (.mov (.s 5))⟩,
     ⟨(some 11), some undefA, none, false, .pu (.bin .add (.s 10) (.c (.int .i64 1)))⟩,
     ⟨(some 5), some undefA, none, false, .pu (.mov (.s 11))⟩]))))))
 (.seq (.ops [⟨(some 4), some undefA, none, false, .pu (.mov (.c (.bool true)))⟩])
 (.ret)))⟩
theorem t91 : trF Try.prog [] [] Try.f91 = some m91 := by kernel_rfl
/-- slices.Clone[[]selion/api.Zone,selion/api.Zone] [] -/
def m92 : MFun := ⟨8, [], [.mov (.s 2)],
 .seq (.ops [⟨(some 2), some undefA, none, false, .pu (.mov (.c (.nilS)))⟩])
 (.seq (.seq (.ops [⟨(some 3), some undefA, none, false, .pu (.mov (.s 0))⟩,
   ⟨(some 4), some undefA, none, false, .pu (.isnil false (.s 3))⟩])
 (.cond (.s 4) (.seq (.ops [⟨(some 2), some undefA, none, false, .pu (.mov (.c (.nilS)))⟩])
  (.ret))
 (.skip)))
 (.seq (.ops [⟨(some 5), some undefA, none, false, .ha (.blds 2 0 [.int .i64 0, .int .i64 0] [])⟩,
   ⟨(some 6), some undefA, none, false, .pu (.mov (.s 0))⟩,
   ⟨(some 7), some undefA, none, false, .ha (.app 2 (.s 5) (.s 6))⟩,
   ⟨(some 2), some undefA, none, false, .pu (.mov (.s 7))⟩])
 (.ret)))⟩
theorem t92 : trF Try.prog [] [] Try.f92 = some m92 := by kernel_rfl
/-- slices.Reverse[[]selion/api.Zone,selion/api.Zone] [loop [0, 2, 3]] -/
def m93 : MFun := ⟨28, [], [],
 .seq (.ops [⟨(some 4), some undefA, none, false, .pu (.mov (.s 0))⟩,
   ⟨(some 5), some undefA, none, false, .pu (.len (.s 4))⟩,
   ⟨(some 6), some undefA, none, false, .pu (.bin .sub (.s 5) (.c (.int .i64 1)))⟩,
   ⟨(some 2), some undefA, none, false, .pu (.mov (.c (.int .i64 0)))⟩,
   ⟨(some 3), some undefA, none, false, .pu (.mov (.s 6))⟩])
 (.block 0 (.loop (.seq (.seq (.ops [⟨(some 7), some undefA, none, false, .pu (.mov (.s 2))⟩,
     ⟨(some 8), some undefA, none, false, .pu (.mov (.s 3))⟩,
     ⟨(some 9), some undefA, none, false, .pu (.bin .lss (.s 7) (.s 8))⟩])
   (.cond (.s 9) (.skip)
   (.exit 0)))
   (.seq (.block 1 (.ops [⟨(some 14), some undefA, none, true, .pu (.mov (.s 0))⟩,
      ⟨(some 15), some undefA, none, true, .pu (.mov (.s 2))⟩,
      ⟨(some 16), some undefA, none, true, .pu (.mov (.s 0))⟩,
      ⟨(some 17), some undefA, none, true, .pu (.mov (.s 3))⟩,
      ⟨(some 18), some undefA, none, true, .pu (.mov (.s 0))⟩,
      ⟨(some 19), some undefA, none, true, .pu (.mov (.s 3))⟩,
      ⟨(some 20), some undefA, none, true, .pu (.idx 2 (.s 18) (.s 19))⟩,
      ⟨(some 21), some undefA, none, true, .ld (.ld 2 true (.s 20))⟩,
      ⟨(some 22), some undefA, none, true, .pu (.mov (.s 0))⟩,
      ⟨(some 23), some undefA, none, true, .pu (.mov (.s 2))⟩,
      ⟨(some 24), some undefA, none, true, .pu (.idx 2 (.s 22) (.s 23))⟩,
      ⟨(some 25), some undefA, none, true, .ld (.ld 2 true (.s 24))⟩,
      ⟨(some 26), some undefA, none, false, .pu (.idx 2 (.s 14) (.s 15))⟩,
      ⟨none, some undefA, none, false, .ha (.st 2 (.s 26) (.s 21))⟩,
      ⟨(some 27), some undefA, none, false, .pu (.idx 2 (.s 16) (.s 17))⟩,
      ⟨none, some undefA, none, false, .ha (.st 2 (.s 27) (.s 25))⟩]))
   (.ops [⟨(some 10), some undefA, none, false, .pu (.mov (.s 2))⟩,
     ⟨(some 11), some undefA, none, false, .pu (.bin .add (.s 10) (.c (.int .i64 1)))⟩,
     ⟨(some 12), some undefA, none, false, .pu (.mov (.s 3))⟩,
     ⟨(some 13), some undefA, none, false, .pu (.bin .sub (.s 12) (.c (.int .i64 1)))⟩,
     ⟨(some 2), some undefA, none, false, .pu (.mov (.s 11))⟩,
     ⟨(some 3), some undefA, none, false, .pu (.mov (.s 13))⟩])))))⟩
theorem t93 : trF Try.prog [] [] Try.f93 = some m93 := by kernel_rfl
/-- slices.IndexFunc[[]selion/api.Rat,selion/api.Rat] [loop [0, 1, 7, 8]] -/
def m115 : MFun := ⟨19, [], [.mov (.s 4)],
 .seq (.ops [⟨(some 4), some undefA, none, false, .pu (.mov (.c (.int .i64 0)))⟩])
 (.seq (.seq (.ops [⟨(some 6), some undefA, none, false, .pu (.mov (.s 0))⟩,
   ⟨(some 7), some undefA, none, false, .pu (.len (.s 6))⟩,
   ⟨(some 8), some undefA, none, false, .pu (.mov (.c (.int .i64 0)))⟩])
 (.block 0 (.loop (.seq (.ops [⟨(some 9), some undefA, none, false, .pu (.bin .lss (.s 8) (.s 7))⟩])
   (.seq (.cond (.s 9) (.skip)
   (.exit 0))
   (.seq (.block 1 (.seq (.ops [⟨(some 10), some undefA, none, false, .pu (.mov (.s 8))⟩,
      ⟨(some 5), some undefA, none, false, .pu (.mov (.s 10))⟩])
    (.seq (.ops [⟨(some 11), some undefA, none, false, .pu (.mov (.s 1))⟩,
      ⟨(some 12), some undefA, none, false, .pu (.mov (.s 0))⟩,
      ⟨(some 13), some undefA, none, false, .pu (.mov (.s 5))⟩,
      ⟨(some 14), some undefA, none, false, .pu (.idx 2 (.s 12) (.s 13))⟩,
      ⟨(some 15), some undefA, none, false, .ld (.ld 2 true (.s 14))⟩,
      ⟨(some 16), some undefA, none, false, .callv (.s 11) [(.s 15)]⟩])
    (.cond (.s 16) (.seq (.ops [⟨(some 17), some undefA, none, false, .pu (.mov (.s 5))⟩,
       ⟨(some 4), some undefA, none, false, .pu (.mov (.s 17))⟩])
     (.ret))
    (.skip)))))
   (.ops [⟨(some 18), some undefA, none, false, .pu (.bin .add (.s 8) (.c (.int .i64 1)))⟩,
     ⟨(some 8), some undefA, none, false, .pu (.mov (.s 18))⟩])))))))
 (.seq (.ops [⟨(some 4), some undefA, none, false, .pu (.mov (.c (.int .i64 (-1))))⟩])
 (.ret)))⟩
theorem t115 : trF Try.prog [] [] Try.f115 = some m115 := by kernel_rfl
end Go.Proofs.Ytnnbggcckabhdaa

namespace Go.Proofs.Ytnnbggcckabhdaa
open Go Go.Eng
theorem clamp_mono {x y a b : Rat} (h : x ≤ y) (hab : a ≤ b) : clamp x a b ≤ clamp y a b := by
  unfold clamp
  grind
theorem upTo_mono {p q : Rat} (h : p ≤ q) : ∀ (f : List (Int × Int)) (b : Int), f.all vz = true → upTo b f p ≤ upTo b f q
  | [], _, _ => Rat.le_refl
  | z :: f, b, hv => by
    simp only [List.all_cons, Bool.and_eq_true] at hv
    have hz := (vz_iff z).1 hv.1
    have ih := upTo_mono h f (b + z.1) hv.2
    have hc := clamp_mono h (show (b : Rat) ≤ ((b + z.1 : Int) : Rat) from Rat.intCast_le_intCast.2 (by omega))
    have z0 : (0 : Rat) ≤ (z.2 : Rat) := by rw [← int0]; exact Rat.intCast_le_intCast.2 hz.2.1
    have := Rat.mul_le_mul_of_nonneg_right (show clamp p (b : Rat) ((b + z.1 : Int) : Rat) - (b : Rat) ≤ clamp q (b : Rat) ((b + z.1 : Int) : Rat) - (b : Rat) by grind) z0
    rw [upTo, upTo]
    grind
end Go.Proofs.Ytnnbggcckabhdaa

namespace Go.Proofs.Ytnnbggcckabhdaa
open Go Go.Eng
theorem upToU_nat (us : List Int) (n : Nat) (hn : n ≤ us.length) : upToU 0 us ((n : Int) : Rat) = (((us.take n).sum : Int) : Rat) := by
  have h := upToU_at ((n : Int) : Rat) us 0 n (by rw [Int.zero_add]; exact Rat.le_refl) (by rw [Int.zero_add]; exact Rat.intCast_lt_intCast.2 (by omega)) hn
  rw [h, Int.zero_add]
  split
  · grind
  · grind
theorem upTo_nat {f : List (Int × Int)} (hg : good f) (n : Nat) (hn : (n : Int) ≤ len f) : upTo 0 f ((n : Int) : Rat) = ((((units f).take n).sum : Int) : Rat) := by
  have hl := len_units hg.2
  rw [← upTo_units _ f 0 hg.2]
  exact upToU_nat _ n (by omega)
/-- What a piece of a length is worth, from a whole place on. -/
def sm (us : List Int) (n a : Nat) : Int := (us.take (a + n)).sum - (us.take a).sum
/-- The first best one. -/
def bst (us : List Int) (n : Nat) : Nat → Nat × Int
  | 0 => (0, sm us n 0)
  | k + 1 => if (bst us n k).2 < sm us n (k + 1) then (k + 1, sm us n (k + 1)) else bst us n k
theorem bst_at (us : List Int) (n : Nat) : ∀ k, (bst us n k).1 ≤ k ∧ (bst us n k).2 = sm us n (bst us n k).1
  | 0 => ⟨Nat.le_refl _, rfl⟩
  | k + 1 => by
    have := bst_at us n k
    unfold bst
    split
    · exact ⟨Nat.le_refl _, rfl⟩
    · exact ⟨by omega, this.2⟩
theorem sum_take_add (us : List Int) (a n : Nat) : (us.take (a + n)).sum = (us.take a).sum + ((us.drop a).take n).sum := by
  rw [List.take_add, List.sum_append]
theorem sm_bounds {us : List Int} (hb : ∀ y ∈ us, 0 ≤ y ∧ y ≤ 20) (hl : us.length ≤ 120) (n a : Nat) : 0 ≤ sm us n a ∧ sm us n a ≤ 2400 := by
  unfold sm
  rw [sum_take_add]
  have := sumB (l := (us.drop a).take n) (fun y hy => hb y (List.mem_of_mem_drop (List.mem_of_mem_take hy)))
  have hl2 : ((us.drop a).take n).length ≤ 120 := by rw [List.length_take, List.length_drop]; omega
  omega
def dE (f : List (Int × Int)) (L : Int) : Int := if vE f = 0 then (if 0 ≤ L ∧ L ≤ len f then 0 else 1) else vE f
def dP (f : List (Int × Int)) (L : Int) : AV := if dE f L = 0 then R (((bst (units f) L.toNat (len f - L).toNat).1 : Int) : Rat) else zeroR
def dW (f : List (Int × Int)) (L : Int) : AV := if dE f L = 0 then R (((bst (units f) L.toNat (len f - L).toNat).2 : Int) : Rat) else zeroR
theorem Pl_int {f : List (Int × Int)} {n : Int} (h0 : 0 ≤ n) (h1 : n ≤ len f) : Pl f (n : Rat) := by
  refine ⟨⟨h0, ?_⟩, ?_⟩
  · show n ≤ len f * (1 : Int)
    omega
  · show (1 : Int) ≤ 1048576
    decide
theorem s73n {f : List (Int × Int)} {v : AV} {A : AHeap} (hf : L2 A v f) (hg : good f) (a n : Nat) (h : (a : Int) + n ≤ len f) : ACalls Try.prog 73 [v, R ((a : Int) : Rat), R (((a : Int) + n : Int) : Rat)] A (R ((sm (units f) n a : Int) : Rat)) A := by
  have h1 := s73 hf hg ((a : Int) : Rat) (((a : Int) + n : Int) : Rat) (Pl_int (by omega) (by omega)) (Pl_int (by omega) h) (Rat.intCast_le_intCast.2 (by omega))
  have e1 := upTo_nat hg a (by omega)
  have e2 := upTo_nat hg (a + n) (by omega)
  rw [Int.natCast_add] at e2
  rw [e1, e2, ← Rat.intCast_sub] at h1
  exact h1
theorem s28 {f : List (Int × Int)} {v : AV} {A : AHeap} (hf : L2 A v f) (L : Int) (hL : W L) : ACalls Try.prog 28 [v, I L] A (.tuple [dP f L, dW f L, I (dE f L)]) A := by
  refine acalls hmix Try.func28 (by kernel_rfl) t28 2 rfl (by decide) ?_
  dsimp only [m28]
  simp (maxSteps := 4000000) -implicitDefEqProofs -dsimp (disch := omega) only [↓AW_ops, ↓AW_seq, ↓AOps_nil, ↓AOps_pu, ↓AOps_call, on_some, ↓then_normal, pval, rd_S, rd_C, put_S, AV.cells?, List.replicate_succ, List.replicate_zero, List.set_cons_zero, List.set_cons_succ, List.getElem?_cons_zero, List.getElem?_cons_succ, Option.getD_some, map_c, map_n, Nat.reduceSub, List.cons_append, List.nil_append]
  refine CallK.of (s37 hf) ?_
  by_cases h0 : vE f = 0
  · have hg := (good_of h0).1
    have hlb := len_bound hg
    have hlu := len_units hg.2
    have hub := units_le hg.2
    simp (maxSteps := 4000000) -implicitDefEqProofs -dsimp (disch := omega) only [↓AW_skip, ↓AW_ops, ↓AW_seq, ↓AW_cond, ↓AOps_nil, ↓AOps_pu, ↓AOps_call, on_some, extK_same, condB_f, ↓then_normal, pval, rd_S, rd_C, put_S, eq_self, List.replicate_succ, List.replicate_zero, List.set_cons_zero, List.set_cons_succ, List.getElem?_cons_zero, List.getElem?_cons_succ, Option.getD_some, map_c, map_n, Nat.reduceSub, List.cons_append, List.nil_append, bin_neq, decide_false, not_true_eq_false, h0]
    refine CallK.of (s77 hf hg) ?_
    simp (maxSteps := 4000000) -implicitDefEqProofs -dsimp (disch := omega) only [↓AOps_call, extK_same, rd_S, rd_C, put_S, List.replicate_succ, List.replicate_zero, List.set_cons_zero, List.set_cons_succ, List.getElem?_cons_zero, List.getElem?_cons_succ, Option.getD_some, map_c, map_n, Nat.reduceSub, List.cons_append, List.nil_append]
    refine CallK.of (s61 _ _ _ _) ?_
    by_cases h1 : 0 ≤ L ∧ L ≤ len f
    · have hE : dE f L = 0 := by simp [dE, h0, h1]
      obtain ⟨n, rfl⟩ : ∃ n : Nat, L = n := ⟨L.toNat, by omega⟩
      simp (maxSteps := 4000000) -implicitDefEqProofs -dsimp (disch := omega) only [↓AW_skip, ↓AW_ops, ↓AW_seq, ↓AW_cond, ↓AOps_nil, ↓AOps_pu, ↓AOps_call, on_some, extK_same, condB_f, ↓then_normal, pval, rd_S, rd_C, put_S, List.replicate_succ, List.replicate_zero, List.set_cons_zero, List.set_cons_succ, List.getElem?_cons_zero, List.getElem?_cons_succ, Option.getD_some, map_c, map_n, Nat.reduceSub, List.cons_append, List.nil_append, Bool.not_true, decide_true, and_true, h1]
      refine CallK.of (s78 _ _) ?_
      simp (maxSteps := 4000000) -implicitDefEqProofs -dsimp (disch := omega) only [↓AOps_pu, ↓AOps_call, on_some, extK_same, pval, rd_S, rd_C, put_S, List.replicate_succ, List.replicate_zero, List.set_cons_zero, List.set_cons_succ, List.getElem?_cons_zero, Option.getD_some, map_c, map_n, Nat.reduceSub, List.cons_append, List.nil_append]
      refine CallK.of (s78 _ _) ?_
      simp (maxSteps := 4000000) -implicitDefEqProofs -dsimp (disch := omega) only [↓AOps_pu, ↓AOps_call, on_some, extK_same, pval, rd_S, put_S, List.replicate_succ, List.replicate_zero, List.set_cons_zero, List.set_cons_succ, List.getElem?_cons_zero, List.getElem?_cons_succ, Option.getD_some, map_c, map_n, Nat.reduceSub, List.cons_append, List.nil_append]
      refine CallK.of (s78 _ _) ?_
      simp (maxSteps := 4000000) -implicitDefEqProofs -dsimp (disch := omega) only [↓AOps_call, extK_same, rd_S, put_S, List.replicate_succ, List.replicate_zero, List.set_cons_zero, List.set_cons_succ, List.getElem?_cons_zero, List.getElem?_cons_succ, Option.getD_some, map_c, map_n, Nat.reduceSub, List.cons_append, List.nil_append]
      have h73 := s73n hf hg 0 n (by omega)
      rw [show (((0 : Nat) : Int) + (n : Int)) = (n : Int) by omega] at h73
      refine CallK.of h73 ?_
      simp (maxSteps := 4000000) -implicitDefEqProofs -dsimp (disch := omega) only [↓AW_ops, ↓AW_seq, ↓AW_block, ↓AOps_nil, ↓AOps_pu, on_some, extK_same, ↓then_normal, pval, rd_S, rd_C, put_S, ↓AW_toLoop, chkd, bput, AV.cells?, splice, eq_self, List.replicate_succ, List.replicate_zero, List.set_cons_zero, List.set_cons_succ, List.getElem?_cons_zero, List.getElem?_cons_succ, List.drop_succ_cons, List.drop_nil, List.take_zero, Option.getD_some, List.length_cons, List.length_nil, Nat.reduceAdd, Nat.reduceSub, Nat.reduceLeDiff, Nat.zero_add, List.cons_append, List.nil_append, List.append_nil, if_true, if_false, ne_eq, not_true_eq_false]
      refine LoopK.by 57 (fun k : Nat => (k : Int) + n ≤ len f) (fun k => [(0, v), (1, I n), (4, .agg [I 0, I 0]), (5, .agg [I 0, I 0]), (8, R (((bst (units f) n k).1 : Int) : Rat)), (9, R (((bst (units f) n k).2 : Int) : Rat)), (10, I (k + 1))]) (fun _ => A) (fun k => (len f).toNat - k) 0 (by omega) rfl (by simp [Has, rd_s, bst]) rfl ?_
      intro k hk
      have hbb := bst_at (units f) n k
      have hsb := sm_bounds hub (by omega) n (bst (units f) n k).1
      have hsk := sm_bounds hub (by omega) n (k + 1)
      simp (maxSteps := 4000000) -implicitDefEqProofs -dsimp (disch := omega) only [↓AW_ops, ↓AW_seq, ↓AOps_pu, ↓AOps_call, on_some, pval, rd_S, put_S, mk, List.foldl_cons, List.foldl_nil, List.replicate_succ, List.replicate_zero, List.set_cons_zero, List.set_cons_succ, List.getElem?_cons_zero, List.getElem?_cons_succ, Option.getD_some, map_c, map_n, bin_add, w64]
      refine CallK.of (s77 hf hg) ?_
      simp (maxSteps := 4000000) -implicitDefEqProofs -dsimp (disch := omega) only [↓AW_cond, ↓AOps_nil, ↓AOps_pu, on_some, extK_same, ↓then_normal, pval, rd_S, put_S, mk, List.foldl_cons, List.foldl_nil, List.replicate_succ, List.replicate_zero, List.set_cons_zero, List.set_cons_succ, List.getElem?_cons_zero, List.getElem?_cons_succ, Option.getD_some, bin_leq]
      by_cases h2 : (k : Int) + 1 + n ≤ len f
      · simp (maxSteps := 4000000) -implicitDefEqProofs -dsimp (disch := omega) only [↓AW_skip, ↓AW_ops, ↓AW_seq, ↓AW_block, ↓AOps_pu, ↓AOps_call, on_some, condB_t, ↓then_normal, pval, rd_S, put_S, mk, List.foldl_cons, List.foldl_nil, List.replicate_succ, List.replicate_zero, List.set_cons_zero, List.set_cons_succ, List.getElem?_cons_zero, List.getElem?_cons_succ, Option.getD_some, map_c, map_n, decide_true, h2]
        refine CallK.of (s78 _ _) ?_
        simp (maxSteps := 4000000) -implicitDefEqProofs -dsimp (disch := omega) only [↓AOps_pu, ↓AOps_call, on_some, extK_same, pval, rd_S, put_S, mk, List.foldl_cons, List.foldl_nil, List.replicate_succ, List.replicate_zero, List.set_cons_zero, List.set_cons_succ, List.getElem?_cons_zero, List.getElem?_cons_succ, Option.getD_some, map_c, map_n, bin_add, w64]
        refine CallK.of (s78 _ _) ?_
        simp (maxSteps := 4000000) -implicitDefEqProofs -dsimp (disch := omega) only [↓AOps_call, extK_same, rd_S, put_S, mk, List.foldl_cons, List.foldl_nil, List.replicate_succ, List.replicate_zero, List.set_cons_zero, List.set_cons_succ, List.getElem?_cons_zero, List.getElem?_cons_succ, Option.getD_some, map_c, map_n]
        have h73 := s73n hf hg (k + 1) n (by omega)
        rw [Int.natCast_add] at h73
        refine CallK.of h73 ?_
        simp (maxSteps := 4000000) -implicitDefEqProofs -dsimp (disch := omega) only [↓AW_ops, ↓AW_seq, ↓AOps_nil, ↓AOps_pu, ↓AOps_call, on_some, extK_same, ↓then_normal, pval, rd_S, rd_C, put_S, chkd, bput, bgot, AV.cells?, splice, partA, eq_self, mk, List.foldl_cons, List.foldl_nil, List.replicate_succ, List.replicate_zero, List.set_cons_zero, List.set_cons_succ, List.getElem?_cons_zero, List.getElem?_cons_succ, List.drop_zero, List.drop_succ_cons, List.drop_nil, List.take_zero, List.take_succ_cons, List.take_nil, Option.getD_some, map_c, map_n, List.length_cons, List.length_nil, Nat.reduceAdd, Nat.reduceLeDiff, Nat.reduceEqDiff, Nat.zero_add, List.nil_append, List.append_nil, if_true, if_false, ne_eq, not_true_eq_false]
        refine CallK.of (s72 _ _ _ (Sm_int (by omega)) (Sm_int (by omega))) ?_
        by_cases h3 : (bst (units f) n k).2 < sm (units f) n (k + 1)
        · have hn := (sub_pos_iff ((sm (units f) n (k + 1) : Int) : Rat) (((bst (units f) n k).2 : Int) : Rat)).2 (Rat.intCast_lt_intCast.2 h3)
          have hbs : bst (units f) n (k + 1) = (k + 1, sm (units f) n (k + 1)) := by rw [bst, if_pos h3]
          simp (maxSteps := 4000000) -implicitDefEqProofs -dsimp (disch := omega) only [↓AW_ops, ↓AW_cond, ↓AOps_nil, ↓AOps_pu, ↓AOps_call, on_some, extK_same, condB_t, ↓then_normal, pval, rd_S, rd_C, put_S, mk, List.foldl_cons, List.foldl_nil, List.replicate_succ, List.replicate_zero, List.set_cons_zero, List.set_cons_succ, List.getElem?_cons_zero, List.getElem?_cons_succ, Option.getD_some, map_c, map_n, bin_gtr, decide_true, hn]
          refine CallK.of (s78 _ _) ?_
          simp (maxSteps := 4000000) -implicitDefEqProofs -dsimp (disch := omega) only [↓AW_ops, ↓AOps_nil, ↓AOps_pu, on_some, extK_same, ↓then_normal, ↓inBlock_normal, pval, rd_S, rd_C, put_S, chkd, bput, bgot, AV.cells?, splice, partA, eq_self, mk, List.foldl_cons, List.foldl_nil, List.replicate_succ, List.replicate_zero, List.set_cons_zero, List.set_cons_succ, List.getElem?_cons_zero, List.getElem?_cons_succ, List.drop_zero, List.drop_succ_cons, List.drop_nil, List.take_zero, List.take_succ_cons, List.take_nil, Option.getD_some, List.length_cons, List.length_nil, Nat.reduceAdd, Nat.reduceLeDiff, Nat.reduceEqDiff, Nat.zero_add, List.nil_append, List.append_nil, bin_add, w64, if_true, if_false, true_and, ne_eq, not_true_eq_false]
          exact ⟨k + 1, by omega, by simp [Has, rd_s, hbs], by omega⟩
        · have hn : ¬ 0 < (((sm (units f) n (k + 1) : Int) : Rat) - (((bst (units f) n k).2 : Int) : Rat)).num := fun x => h3 (Rat.intCast_lt_intCast.1 ((sub_pos_iff _ _).1 x))
          have hbs : bst (units f) n (k + 1) = bst (units f) n k := by rw [bst, if_neg h3]
          simp (maxSteps := 4000000) -implicitDefEqProofs -dsimp (disch := omega) only [↓AW_skip, ↓AW_ops, ↓AW_cond, ↓AOps_nil, ↓AOps_pu, on_some, extK_same, condB_f, ↓then_normal, ↓inBlock_normal, pval, rd_S, rd_C, put_S, eq_self, mk, List.foldl_cons, List.foldl_nil, List.replicate_succ, List.replicate_zero, List.set_cons_zero, List.set_cons_succ, List.getElem?_cons_zero, List.getElem?_cons_succ, Option.getD_some, List.length_cons, List.length_nil, Nat.reduceAdd, Nat.zero_add, bin_add, bin_gtr, w64, decide_false, true_and, hn]
          exact ⟨k + 1, by omega, by simp [Has, rd_s, hbs], by omega⟩
      · have hk2 : (len f - (n : Int)).toNat = k := by omega
        simp (maxSteps := 4000000) -implicitDefEqProofs -dsimp (disch := omega) only [↓AW_ops, ↓AW_seq, ↓AW_exit, ↓AW_ret, ↓AOps_nil, ↓AOps_pu, on_some, condB_f, ↓then_normal, ↓then_exit, ↓inBlock_exit, ↓Fin_ret, pval, rd_S, rd_C, put_S, resV, resL, chkd, bput, bgot, AV.cells?, splice, partA, eq_self, mk, List.foldl_cons, List.foldl_nil, List.replicate_succ, List.replicate_zero, List.set_cons_zero, List.set_cons_succ, List.getElem?_cons_zero, List.getElem?_cons_succ, List.drop_zero, List.drop_succ_cons, List.drop_nil, List.take_zero, List.take_succ_cons, List.take_nil, Option.getD_some, List.length_cons, List.length_nil, Nat.reduceAdd, Nat.reduceLeDiff, Nat.reduceEqDiff, Nat.zero_add, List.nil_append, List.append_nil, if_true, if_false, decide_false, ne_eq, not_true_eq_false, h2]
        exact gc_same (by simp [dP, dW, hE, hk2])
    · simp (maxSteps := 4000000) -implicitDefEqProofs -dsimp (disch := omega) only [↓AW_ops, ↓AW_seq, ↓AW_cond, ↓AW_ret, ↓AOps_nil, ↓AOps_pu, on_some, extK_same, condB_t, ↓then_normal, ↓then_ret, ↓Fin_ret, pval, rd_S, rd_C, put_S, resV, resL, chkd, bput, bgot, AV.cells?, splice, partA, fillA, eq_self, List.replicate_succ, List.replicate_zero, List.set_cons_zero, List.set_cons_succ, List.getElem?_cons_zero, List.getElem?_cons_succ, List.drop_zero, List.drop_succ_cons, List.drop_nil, List.take_zero, List.take_succ_cons, List.take_nil, Option.getD_some, Option.map_some, map_n, List.length_cons, List.length_nil, Nat.reduceAdd, Nat.reduceSub, Nat.reduceLeDiff, Nat.reduceEqDiff, Nat.zero_add, List.cons_append, List.nil_append, List.append_nil, if_true, if_false, Bool.not_false, decide_false, ne_eq, not_true_eq_false, h1]
      have hE : dE f L = 1 := by simp [dE, h0, h1]
      exact gc_same (by simp [dP, dW, hE, zeroR])
  · simp (maxSteps := 4000000) -implicitDefEqProofs -dsimp (disch := omega) only [↓AW_ops, ↓AW_seq, ↓AW_cond, ↓AW_ret, ↓AOps_nil, ↓AOps_pu, on_some, extK_same, condB_t, ↓then_normal, ↓then_ret, ↓Fin_ret, pval, rd_S, rd_C, put_S, resV, resL, chkd, bput, bgot, AV.cells?, splice, partA, fillA, eq_self, List.replicate_succ, List.replicate_zero, List.set_cons_zero, List.set_cons_succ, List.getElem?_cons_zero, List.getElem?_cons_succ, List.drop_zero, List.drop_succ_cons, List.drop_nil, List.take_zero, List.take_succ_cons, List.take_nil, Option.getD_some, Option.map_some, map_n, List.length_cons, List.length_nil, Nat.reduceAdd, Nat.reduceSub, Nat.reduceLeDiff, Nat.reduceEqDiff, Nat.zero_add, List.cons_append, List.nil_append, List.append_nil, bin_neq, if_true, if_false, decide_true, ne_eq, not_true_eq_false, not_false_eq_true, h0]
    have hE : dE f L = vE f := by simp [dE, h0]
    exact gc_same (by simp [dP, dW, hE, h0, zeroR])
end Go.Proofs.Ytnnbggcckabhdaa

namespace Go.Proofs.Ytnnbggcckabhdaa
open Go Go.Eng
/-- The front of a list. -/
theorem Ls_takeS {α : Type} {es : Nat} {e : α → List AV} {H : AHeap} {v : AV} {xs : List α} (h : Ls es e H v xs) (k : Nat) (hk : k ≤ xs.length) : ∃ v', slcA es v none (some (I k)) none = some v' ∧ Ls es e H v' (xs.take k) := by
  rcases h.inv with ⟨rfl, rfl⟩ | ⟨n, off, full, rw, l, rfl, h1, h2, h3⟩
  · have : k = 0 := by simpa using hk
    subst this
    exact ⟨.nilS, by simp [slcA, bnd], ⟨h.he, rfl⟩⟩
  · have hk' : (0 : Int) ≤ k ∧ (k : Int) ≤ xs.length := by omega
    refine ⟨.sl es n off k (full && (k == xs.length)), by simp [slcA, bnd, hk], ⟨h.he, ?_⟩⟩
    have hm : k * es ≤ xs.length * es := Nat.mul_le_mul_right _ hk
    simp only [slCells, cellsAt, h1, if_true]
    rw [if_pos (by omega)]
    simp only [Option.map_some, List.length_take, Nat.min_eq_left hk, Option.some.injEq, Prod.mk.injEq, true_and]
    have h4 : (xs.take k).flatMap e = (xs.flatMap e).take (k * es) := by
      conv => rhs; rw [← List.take_append_drop k xs, List.flatMap_append]
      have h5 := flatMap_length h.he (xs.take k)
      rw [List.length_take, Nat.min_eq_left hk] at h5
      rw [← h5, List.take_left]
    rw [h4, ← h3, List.take_take, Nat.min_eq_left hm]
theorem ld_mono {A A' : AHeap} (hp : A <+: A') {sz : Nat} {ag : Bool} {p x : AV} (h : ldA sz ag p A = some x) : ldA sz ag p A' = some x := by
  unfold ldA at *
  split at h
  · rename_i n off
    split at h
    · rename_i rw l hn
      simp only [pre_get hp hn]
      exact h
    · cases h
  · cases h
theorem set_new (A : AHeap) (o o' : AObj) : (A ++ [o]).set A.length o' = A ++ [o'] := by simp
theorem AccL_ls {α : Type} {es : Nat} {e : α → List AV} {H H1 : AHeap} {v : AV} {xs : List α} (h : AccL es e H H1 v xs) (he : ∀ x, (e x).length = es) : Ls es e H1 v xs := by
  obtain ⟨h1, h2, h3⟩ := h
  refine ⟨he, ?_⟩
  rcases h3 with ⟨h4, rfl⟩ | ⟨h0, n, rfl, h5, h6⟩
  · have : xs = [] := List.eq_nil_of_length_eq_zero h4
    subst this; rfl
  · simp only [slCells, cellsAt, h6, if_true, Nat.zero_add]
    rw [if_pos (by omega)]
    simp only [List.drop_zero, Option.map_some, Option.some.injEq, Prod.mk.injEq, true_and]
    rw [← h2, List.take_length]
theorem cells_agg (l : List AV) : (AV.agg l).cells? = some l := rfl
/-- A store. -/
def stA (sz : Nat) (p x : AV) (H : AHeap) : Option AHeap :=
  match p, x.cells? with
  | .ptr n off, some c => match H[n]? with
    | some (.cells true l) => if c.length = sz ∧ off + sz ≤ l.length then some (H.set n (.cells true (splice l off c))) else none
    | _ => none
  | _, _ => none
theorem hval_st (sz : Nat) (p x : Opd) (S : List AV) (H : AHeap) : hval (.st sz p x) S H = (stA sz (rd S p) (rd S x) H).map (fun H' => (undefA, H')) := by
  simp only [hval, stA]
  cases rd S p with
  | ptr n off =>
    cases (rd S x).cells? with
    | none => rfl
    | some c =>
      simp only
      cases H[n]? with
      | none => rfl
      | some o =>
        cases o with
        | cells rw l =>
          cases rw
          · rfl
          · simp only
            split <;> rfl
        | _ => rfl
  | _ => rfl
theorem hval_newv (x : Opd) (S : List AV) (H : AHeap) : hval (.newv x) S H = match (rd S x).cells? with | some c => some (.ptr H.length 0, H ++ [.cells true c]) | none => none := rfl
theorem hval_blds (es n : Nat) (zero : List AV) (parts : List (Nat × Nat × Opd)) (S : List AV) (H : AHeap) : hval (.blds es n zero parts) S H = match fillA (parts.map fun p => (p.1, p.2.1, rd S p.2.2)) (repl zero n) with | some l => some (.sl es H.length 0 n true, H ++ [.cells true l]) | none => none := rfl
theorem hval_app (es : Nat) (x y : Opd) (S : List AV) (H : AHeap) : hval (.app es x y) S H = appA es H (rd S x) (rd S y) := rfl
theorem splice_flat {α : Type} {es : Nat} {e : α → List AV} (he : ∀ x, (e x).length = es) {xs : List α} {i : Nat} (hi : i < xs.length) (z : α) : splice (xs.flatMap e) (i * es) (e z) = (xs.set i z).flatMap e := by
  unfold splice
  have h1 := flatMap_length he (xs.take i)
  rw [List.length_take, Nat.min_eq_left (by omega)] at h1
  have h2 := flatMap_length he (xs.take (i + 1))
  rw [List.length_take, Nat.min_eq_left (by omega)] at h2
  have e1 : (xs.flatMap e).take (i * es) = (xs.take i).flatMap e := by
    conv => lhs; rw [← List.take_append_drop i xs, List.flatMap_append]
    rw [← h1, List.take_left]
  have e2 : (xs.flatMap e).drop (i * es + (e z).length) = (xs.drop (i + 1)).flatMap e := by
    conv => lhs; rw [← List.take_append_drop (i + 1) xs, List.flatMap_append]
    rw [he z, ← Nat.succ_mul, Nat.succ_eq_add_one, ← h2, List.drop_left]
  rw [e1, e2, List.set_eq_take_append_cons_drop, if_pos hi, List.flatMap_append, List.flatMap_cons, List.append_assoc]
/-- A list that the call itself has made and may write. -/
structure OL {α : Type} (es : Nat) (e : α → List AV) (A H : AHeap) (n : Nat) (v : AV) (xs : List α) : Prop where
  he : ∀ x, (e x).length = es
  pre : A <+: H
  new : A.length ≤ n
  ob : H[n]? = some (.cells true (xs.flatMap e))
  v : ∃ full, v = .sl es n 0 xs.length full
section
variable {α : Type} {es : Nat} {e : α → List AV} {A H : AHeap} {n : Nat} {v : AV} {xs : List α}
theorem OL.ls (h : OL es e A H n v xs) : Ls es e H v xs := by
  obtain ⟨he, h1, h2, h3, full, rfl⟩ := h
  refine ⟨he, ?_⟩
  have hl := flatMap_length he xs
  simp only [slCells, cellsAt, h3, if_true, Nat.zero_add]
  rw [if_pos (by omega)]
  simp only [List.drop_zero, Option.map_some, Option.some.injEq, Prod.mk.injEq, true_and]
  rw [← hl, List.take_length]
theorem OL.lt (h : OL es e A H n v xs) : n < H.length := (List.getElem?_eq_some_iff.1 h.ob).1
theorem OL.set (h : OL es e A H n v xs) (i : Nat) (z : α) : OL es e A (H.set n (.cells true ((xs.set i z).flatMap e))) n v (xs.set i z) := by
  have hn := h.lt
  obtain ⟨he, h1, h2, h3, full, rfl⟩ := h
  exact ⟨he, pre_set h1 h2 _, h2, by rw [List.getElem?_set_self hn], full, by simp⟩
theorem OL.st (h : OL es e A H n v xs) {i : Nat} (hi : i < xs.length) (x : AV) (z : α) (hx : x.cells? = some (e z)) : stA es (.ptr (nm v) (of v + i * es)) x H = some (H.set n (.cells true ((xs.set i z).flatMap e))) := by
  obtain ⟨he, h1, h2, h3, full, rfl⟩ := h
  have hl := flatMap_length he xs
  have hle : i * es + es ≤ xs.length * es := by
    rw [← Nat.succ_mul]; exact Nat.mul_le_mul_right _ hi
  simp only [stA, nm, of, hx, h3, Nat.zero_add]
  rw [if_pos ⟨he z, by omega⟩, splice_flat he hi z]
theorem OL.mono {H' : AHeap} (h : OL es e A H n v xs) (hp : H <+: H') : OL es e A H' n v xs := ⟨h.he, h.pre.trans hp, h.new, pre_get hp h.ob, h.v⟩
theorem OL.new_mk (he : ∀ x, (e x).length = es) (A : AHeap) (xs : List α) (full : Bool) : OL es e A (A ++ [.cells true (xs.flatMap e)]) A.length (.sl es A.length 0 xs.length full) xs :=
  ⟨he, pre_app _ _, Nat.le_refl _, by simp, full, rfl⟩
theorem gc_weak {v1 v1' v : AV} {H1 H' : AHeap} (h : ∀ ρ c, VR ρ v1 c → VR ρ v1' c) (g : GC A v1' H1 v H') : GC A v1 H1 v H' :=
  fun ρ w ρ1 w1 cv s0 s1 st hv => g ρ w ρ1 w1 cv s0 s1 st (h ρ1 cv hv)
theorem VR.unfull {ρ : Ren} {es n off len : Nat} {full : Bool} {c : Value} (h : VR ρ (.sl es n off len full) c) : VR ρ (.sl es n off len false) c := by
  cases h with
  | sl _ _ _ _ _ L a cap h1 h2 h3 h4 h5 => exact .sl es n off len false L a cap h1 h2 (fun e => by cases e) h4 h5
theorem OL.acc (h : OL es e A H n v xs) (h0 : 0 < xs.length) : AccL es e A H (.sl es n 0 xs.length false) xs :=
  ⟨h.pre, flatMap_length h.he xs, .inr ⟨h0, n, rfl, h.new, h.ob⟩⟩
theorem OL.gc (h : OL es e A H n v xs) (h0 : 0 < xs.length) (hf : ∀ x, ∀ y ∈ e x, flat y = true) : GC A v H (outV es A xs.length) (outH A (xs.flatMap e) xs.length) := by
  have h1 := (h.acc h0).gc hf
  obtain ⟨_, _, _, _, full, rfl⟩ := h
  exact gc_weak (fun ρ c => VR.unfull) h1
theorem OL.gc2 (h : OL es e A H n v xs) (h0 : 0 < xs.length) (hf : ∀ x, ∀ y ∈ e x, flat y = true) (c : AV) (hc : flat c = true) : GC A (.tuple [v, c]) H (.tuple [outV es A xs.length, c]) (outH A (xs.flatMap e) xs.length) := by
  have h1 := (h.acc h0).gc2 hf c hc
  obtain ⟨_, _, _, _, full, rfl⟩ := h
  refine gc_weak (fun ρ cv hv => ?_) h1
  cases hv with
  | tuple _ vs hl hh =>
    refine .tuple _ _ hl (fun i x u hx hu => ?_)
    match i with
    | 0 =>
      simp at hx
      subst hx
      exact VR.unfull (hh 0 _ u rfl hu)
    | i + 1 => exact hh (i + 1) x u (by simpa using hx) hu
end
theorem OL_setAll {α : Type} {es : Nat} {e : α → List AV} {A H : AHeap} {n : Nat} {v : AV} {xs : List α} (h : OL es e A H n v xs) (xs' : List α) (hl : xs'.length = xs.length) : OL es e A (H.set n (.cells true (xs'.flatMap e))) n v xs' := by
  have hn := h.lt
  obtain ⟨he, h1, h2, h3, full, rfl⟩ := h
  exact ⟨he, pre_set h1 h2 _, h2, by rw [List.getElem?_set_self hn], full, by rw [hl]⟩
end Go.Proofs.Ytnnbggcckabhdaa

namespace Go.Proofs.Ytnnbggcckabhdaa
open Go Go.Eng
section
variable {α : Type} {es : Nat} {e : α → List AV} {A H : AHeap} {v : AV} {xs : List α}
end
/-- What is appended to an empty list that has just been made. -/
theorem app_new {α : Type} {es : Nat} {e : α → List AV} {A : AHeap} {y : AV} {ys : List α} (hy : Ls es e A y ys) (hl : ys.length ≤ lim) :
    ∃ v' n H2, appA es (A ++ [.cells true []]) (.sl es A.length 0 0 true) y = some (v', H2) ∧ OL es e A H2 n v' ys := by
  have hc := (hy.mono (pre_app A [.cells true []])).hc
  by_cases h0 : ys.length = 0
  · have : ys = [] := List.eq_nil_of_length_eq_zero h0
    subst this
    refine ⟨.sl es A.length 0 0 true, A.length, A ++ [.cells true []], ?_, hy.he, pre_app _ _, Nat.le_refl _, by simp, true, rfl⟩
    unfold appA
    rw [hc]
    simp
  · refine ⟨.sl es (A ++ [AObj.cells true []]).length 0 ys.length false, (A ++ [AObj.cells true []]).length, A ++ [AObj.cells true []] ++ [.cells true (ys.flatMap e)], ?_, hy.he, (pre_app A _).trans (pre_app _ _), by simp, by simp, false, rfl⟩
    unfold appA
    rw [hc]
    simp [h0, hl]
theorem Ls_nn {α : Type} {es : Nat} {e : α → List AV} {A : AHeap} {v : AV} {xs : List α} (h : Ls es e A v xs) (h0 : 0 < xs.length) : v ≠ .nilS := by
  rintro rfl
  have := h.hc
  simp [slCells] at this
  omega
theorem set_same {α : Type} {l : List α} {n : Nat} {x : α} (h : l[n]? = some x) : l.set n x = l := by
  have hlt := (List.getElem?_eq_some_iff.1 h).1
  have hx := (List.getElem?_eq_some_iff.1 h).2
  rw [← hx]
  exact List.set_getElem_self hlt
end Go.Proofs.Ytnnbggcckabhdaa

namespace Go.Proofs.Ytnnbggcckabhdaa
open Go Go.Eng
end Go.Proofs.Ytnnbggcckabhdaa

namespace Go.Proofs.Ytnnbggcckabhdaa
open Go Go.Eng
/-- The first place up to which it is worth so much, unit by unit. -/
def rch : Int → Int → List Int → Rat → Option Rat
  | _, _, [], _ => none
  | b, a, u :: us, x => if x ≤ ((a + u : Int) : Rat) then some ((b : Rat) + (x - (a : Rat)) / (u : Rat)) else rch (b + 1) (a + u) us x
/-- The same, zone by zone. -/
def rz : Int → Int → List (Int × Int) → Rat → Option Rat
  | _, _, [], _ => none
  | b, a, z :: f, x => if x ≤ ((a + z.1 * z.2 : Int) : Rat) then some ((b : Rat) + (x - (a : Rat)) / (z.2 : Rat)) else rz (b + z.1) (a + z.1 * z.2) f x
theorem rat_lt_le {a b c : Rat} (h : a < b) (k : b ≤ c) : a < c := by grind
theorem cast_nonneg {n : Int} (h : 0 ≤ n) : (0 : Rat) ≤ (n : Rat) := by rw [← int0]; exact Rat.intCast_le_intCast.2 h
theorem cast_pos {n : Int} (h : 0 < n) : (0 : Rat) < (n : Rat) := by rw [← int0]; exact Rat.intCast_lt_intCast.2 h
theorem rch_rep (v : Int) (hv : 0 ≤ v) (us : List Int) (x : Rat) : ∀ (n : Nat) (b a : Int), (a : Rat) < x →
    rch b a (List.replicate n v ++ us) x = if x ≤ ((a + n * v : Int) : Rat) then some ((b : Rat) + (x - (a : Rat)) / (v : Rat)) else rch (b + n) (a + n * v) us x
  | 0, b, a, h => by
    have : ¬ x ≤ (a : Rat) := Rat.not_le.2 h
    simp [this]
  | n + 1, b, a, h => by
    have e : a + ((n + 1 : Nat) : Int) * v = a + v + n * v := by rw [Int.natCast_add, Int.add_mul]; omega
    have e2 : b + ((n + 1 : Nat) : Int) = b + 1 + n := by omega
    rw [List.replicate_succ, List.cons_append, rch, e, e2]
    have hnv : 0 ≤ (n : Int) * v := Int.mul_nonneg (by omega) hv
    by_cases h1 : x ≤ ((a + v : Int) : Rat)
    · have h2 : x ≤ ((a + v + n * v : Int) : Rat) := Rat.le_trans h1 (Rat.intCast_le_intCast.2 (by omega))
      rw [if_pos h1, if_pos h2]
    · rw [if_neg h1, rch_rep v hv us x n (b + 1) (a + v) (Rat.not_le.1 h1)]
      split
      · rename_i h2
        have hvp : v ≠ 0 := by
          rintro rfl
          simp at h1 h2
          exact absurd h2 h1
        have := cast_ne hvp
        congr 1
        rw [Rat.intCast_add, Rat.intCast_add]
        have := int1
        generalize (v : Rat) = v' at *
        generalize (a : Rat) = a' at *
        generalize (b : Rat) = b' at *
        grind
      · rfl
theorem rch_units (x : Rat) : ∀ (f : List (Int × Int)) (b a : Int), f.all vz = true → (a : Rat) < x → rch b a (units f) x = rz b a f x
  | [], _, _, _, _ => rfl
  | z :: f, b, a, h, hx => by
    simp only [List.all_cons, Bool.and_eq_true] at h
    have hz := (vz_iff z).1 h.1
    have e : ((z.1.toNat : Nat) : Int) = z.1 := Int.toNat_of_nonneg (by omega)
    have : units (z :: f) = List.replicate z.1.toNat z.2 ++ units f := rfl
    rw [this, rch_rep z.2 hz.2.1 _ x _ b a hx, e, rz]
    split
    · rfl
    · rename_i h1
      exact rch_units x f _ _ h.2 (Rat.not_le.1 h1)
/-- What is found. -/
theorem rch_some (x : Rat) : ∀ (us : List Int) (b a : Int) (y : Rat), (∀ u ∈ us, 0 ≤ u ∧ u ≤ 20) → (a : Rat) < x → rch b a us x = some y →
    (∃ v : Int, (1 ≤ v ∧ v ≤ 20) ∧ ∃ b' a' : Int, y = (b' : Rat) + (x - (a' : Rat)) / (v : Rat)) ∧ ((b : Rat) ≤ y ∧ y ≤ ((b + us.length : Int) : Rat)) ∧ upToU b us y = x - (a : Rat)
  | [], _, _, _, _, _, h => by simp [rch] at h
  | u :: us, b, a, y, hu, hx, h => by
    have hu0 := hu u (by simp)
    have e2 : b + ((u :: us).length : Int) = b + 1 + us.length := by simp; omega
    rw [rch] at h
    split at h
    · rename_i h1
      have hy : (b : Rat) + (x - (a : Rat)) / (u : Rat) = y := Option.some.inj h
      have hup : 0 < u := by
        have : (a : Rat) < ((a + u : Int) : Rat) := rat_lt_le hx h1
        have := Rat.intCast_lt_intCast.1 this
        omega
      have hup' := cast_pos hup
      have d0 : 0 ≤ (x - (a : Rat)) / (u : Rat) := by rw [Rat.div_def]; exact Rat.mul_nonneg (by grind) (Rat.le_of_lt (Rat.inv_pos.2 hup'))
      have d2 : (x - (a : Rat)) / (u : Rat) * (u : Rat) = x - (a : Rat) := Rat.div_mul_cancel (cast_ne (by omega))
      have d1 : (x - (a : Rat)) / (u : Rat) ≤ 1 := by
        rcases Rat.le_total (a := (x - (a : Rat)) / (u : Rat)) (b := 1) with h | h
        · exact h
        · have := Rat.mul_le_mul_of_nonneg_right h (Rat.le_of_lt hup')
          rw [d2, Rat.one_mul] at this
          rw [Rat.intCast_add] at h1
          have e : x - (a : Rat) = (u : Rat) := by grind
          have hne := cast_ne (show u ≠ 0 by omega)
          generalize (x - (a : Rat)) / (u : Rat) = t at *
          rw [e] at d2
          have : t = 1 := by grind
          rw [this]
          exact Rat.le_refl
      have hb1 : ((b + 1 : Int) : Rat) = (b : Rat) + 1 := by rw [Rat.intCast_add]; rfl
      have hle : ((b + 1 : Int) : Rat) ≤ ((b + 1 + us.length : Int) : Rat) := Rat.intCast_le_intCast.2 (by omega)
      refine ⟨⟨u, ⟨by omega, hu0.2⟩, b, a, hy.symm⟩, ⟨by grind, by rw [e2]; grind⟩, ?_⟩
      rw [upToU, upToU_zero y us (b + 1) (by grind)]
      have : clamp y (b : Rat) ((b + 1 : Int) : Rat) = y := by unfold clamp; grind
      rw [this, ← hy]
      grind
    · rename_i h1
      obtain ⟨h2, ⟨h3, h4⟩, h5⟩ := rch_some x us (b + 1) (a + u) y (fun w hw => hu w (by simp [hw])) (Rat.not_le.1 h1) h
      have hb : (b : Rat) ≤ ((b + 1 : Int) : Rat) := Rat.intCast_le_intCast.2 (by omega)
      refine ⟨h2, ⟨Rat.le_trans hb h3, by rw [e2]; exact h4⟩, ?_⟩
      rw [upToU, h5]
      have : clamp y (b : Rat) ((b + 1 : Int) : Rat) = ((b + 1 : Int) : Rat) := by unfold clamp; grind
      have hb1 : ((b + 1 : Int) : Rat) = (b : Rat) + 1 := by rw [Rat.intCast_add]; rfl
      rw [this, hb1, Rat.intCast_add]
      grind
/-- The place of a worth from a place on. -/
def plc (f : List (Int × Int)) (p w : Rat) : Option Rat := if w.num = 0 then some p else rch 0 0 (units f) (upTo 0 f p + w)
def oR : Option Rat → AV
  | some x => R x
  | none => zeroR
theorem div_num {D v : Int} {q : Rat} (hD : 0 < D) (hD2 : D ≤ 1048576) (hv : 1 ≤ v ∧ v ≤ 20) (h : Dv D q) (h0 : 0 ≤ q) (h1 : q ≤ ((20 * v : Int) : Rat)) : ((q / (v : Rat)).num.natAbs ≤ 20 * 1048576 * 20) ∧ ((q / (v : Rat)).den ≤ 1048576 * 20) := by
  have hd := h.div v (by omega)
  have hvp := cast_pos (show 0 < v by omega)
  have d0 : 0 ≤ q / (v : Rat) := by rw [Rat.div_def]; exact Rat.mul_nonneg h0 (Rat.le_of_lt (Rat.inv_pos.2 hvp))
  have d2 : q / (v : Rat) * (v : Rat) = q := Rat.div_mul_cancel (cast_ne (by omega))
  have d1 : q / (v : Rat) ≤ ((20 : Int) : Rat) := by
    rcases Rat.le_total (a := q / (v : Rat)) (b := ((20 : Int) : Rat)) with h | h
    · exact h
    · have h3 := Rat.mul_le_mul_of_nonneg_right h (Rat.le_of_lt hvp)
      rw [d2, ← Rat.intCast_mul] at h3
      have e : q = ((20 * v : Int) : Rat) := Rat.le_antisymm h1 h3
      rw [e, Rat.intCast_mul, Rat.mul_div_cancel (cast_ne (by omega))]
      exact Rat.le_refl
  have hDv : D * v ≤ 1048576 * 20 := Int.mul_le_mul hD2 hv.2 (by omega) (by omega)
  have hDv0 : 0 < D * v := Int.mul_pos hD (by omega)
  have := num_le (M := 20) hDv0 hd (int_neg_le_zero (by omega) d0) d1
  omega
end Go.Proofs.Ytnnbggcckabhdaa

namespace Go.Proofs.Ytnnbggcckabhdaa
open Go Go.Eng
theorem split_f {α : Type} {l : List α} {i : Nat} {z : α} (hz : l[i]? = some z) : l = l.take i ++ z :: l.drop (i + 1) := by
  have hi : i < l.length := (List.getElem?_eq_some_iff.1 hz).1
  have := (List.getElem?_eq_some_iff.1 hz).2
  rw [← this, List.getElem_cons_drop, List.take_append_drop]
theorem tot_take {f : List (Int × Int)} {i : Nat} {z : Int × Int} (hz : f[i]? = some z) : tot (f.take (i + 1)) = tot (f.take i) + z.1 * z.2 := sumZ_take hz
/-- What lies before a place in a zone. -/
theorem cum_in {f : List (Int × Int)} (hg : good f) {i : Nat} {z : Int × Int} (hz : f[i]? = some z) {x : Rat} (h0 : ((len (f.take i) : Int) : Rat) ≤ x) (h1 : x ≤ ((len (f.take i) + z.1 : Int) : Rat)) :
    upTo 0 f x = ((tot (f.take i) : Int) : Rat) + (x - ((len (f.take i) : Int) : Rat)) * (z.2 : Rat) := by
  have hvz := (vz_iff z).1 (all_get hg.2 hz)
  have hd : ∀ y ∈ f.drop (i + 1), 1 ≤ y.1 := fun y hy => all_pos hg.2 y (List.mem_of_mem_drop hy)
  have e : upTo 0 f x = upTo 0 (f.take i ++ z :: f.drop (i + 1)) x := by rw [← split_f hz]
  rw [e, upTo_append, Int.zero_add, upTo_full x _ 0 (all_pos (good_take hg i).2) (by rw [Int.zero_add]; exact h0), upTo, upTo_none x _ _ hd h1, Rat.add_zero]
  have : clamp x ((len (f.take i) : Int) : Rat) ((len (f.take i) + z.1 : Int) : Rat) = x := by unfold clamp; grind
  rw [this]
theorem s80 {f : List (Int × Int)} {v : AV} {A : AHeap} (hf : L2 A v f) (hg : good f) (p w : Rat) (hp : Pl f p) (D : Int) (hD : 0 < D ∧ D ≤ 1048576) (hDp : Dv D (upTo 0 f p)) (hDw : Dv D w) (hw0 : 0 ≤ w) (hw1 : w ≤ ((10000 : Int) : Rat)) :
    ACalls Try.prog 80 [v, R p, R w] A (.tuple [oR (plc f p w), B (plc f p w).isSome]) A := by
  refine acalls hmix Try.func80 (by kernel_rfl) t80 3 rfl (by decide) ?_
  have hlb := len_bound hg
  have hn0 := Rat.num_nonneg.2 hw0
  by_cases hz : w.num = 0
  · dsimp only [m80]
    simp (maxSteps := 4000000) -implicitDefEqProofs -dsimp (disch := omega) only [↓AW_ops, ↓AW_seq, ↓AW_cond, ↓AW_ret, ↓AOps_nil, ↓AOps_pu, on_some, condB_t, ↓then_normal, ↓then_ret, ↓Fin_ret, pval, rd_S, rd_C, put_S, resV, resL, chkd, isAdr, bput, bgot, AV.cells?, splice, partA, eq_self, List.replicate_succ, List.replicate_zero, List.set_cons_zero, List.set_cons_succ, List.getElem?_cons_zero, List.getElem?_cons_succ, List.drop_zero, List.drop_succ_cons, List.drop_nil, List.take_zero, List.take_succ_cons, List.take_nil, Option.getD_some, List.length_cons, List.length_nil, Nat.reduceAdd, Nat.reduceSub, Nat.reduceLeDiff, Nat.reduceEqDiff, Nat.zero_add, List.cons_append, List.nil_append, List.append_nil, bin_eql, if_true, if_false, Bool.false_eq_true, decide_true, ne_eq, not_true_eq_false, hz]
    exact gc_same (by simp [plc, hz, oR])
  · have hwp : 0 < w := num_pos_iff w |>.1 (by omega)
    dsimp only [m80]
    simp (maxSteps := 4000000) -implicitDefEqProofs -dsimp (disch := omega) only [↓AW_skip, ↓AW_ops, ↓AW_seq, ↓AW_cond, ↓AW_block, ↓AOps_nil, ↓AOps_pu, on_some, condB_f, ↓then_normal, pval, rd_S, rd_C, put_S, ↓AW_toLoop, chkd, isAdr, bgot, AV.cells?, partA, eq_self, List.replicate_succ, List.replicate_zero, List.set_cons_zero, List.set_cons_succ, List.getElem?_cons_zero, List.getElem?_cons_succ, List.drop_zero, List.take_zero, List.take_succ_cons, Option.getD_some, List.length_cons, List.length_nil, Nat.reduceAdd, Nat.reduceSub, Nat.reduceLeDiff, Nat.zero_add, List.cons_append, List.nil_append, bin_eql, if_true, if_false, Bool.false_eq_true, decide_false, hz, hf.len]
    have hbp := upTo_bounds hg 0 p
    have hpl0 := hp.le
    have hSp := hp.sm hg
    have hpl : plc f p w = rz 0 0 f (upTo 0 f p + w) := by
      unfold plc
      rw [if_neg hz, rch_units _ f 0 0 hg.2 (by have : ((0 : Int) : Rat) = 0 := rfl; grind)]
    rw [hpl]
    have hDx := hDp.add hDw
    have hxp : upTo 0 f p < upTo 0 f p + w := by grind
    have hx1 : upTo 0 f p + w ≤ ((12400 : Int) : Rat) := by
      have : ((12400 : Int) : Rat) = ((2400 : Int) : Rat) + ((10000 : Int) : Rat) := by rw [← Rat.intCast_add]; rfl
      grind
    have hwx : w = upTo 0 f p + w - upTo 0 f p := by grind
    generalize upTo 0 f p + w = x at *
    have hx0 : 0 < x := by grind
    refine LoopK.by 62 (fun y : Nat × Rat => y.1 ≤ f.length ∧ y.2 = x - upTo 0 f (if ((len (f.take y.1) : Int) : Rat) < p then p else ((len (f.take y.1) : Int) : Rat)) ∧ ((tot (f.take y.1) : Int) : Rat) < x ∧ rz 0 0 f x = rz (len (f.take y.1)) (tot (f.take y.1)) (f.drop y.1) x)
      (fun y => [(4, R p), (5, R y.2), (6, .agg [I 0, I 0]), (8, I (len (f.take y.1))), (18, v), (19, I f.length), (20, I y.1)]) (fun _ => A) (fun y => f.length - y.1) (0, w) ⟨by simp, ?_, by simpa [tot, sumZ] using hx0, by simp [len, tot, sumZ]⟩ rfl (by simp [Has, rd_s, len, sumZ]) rfl ?_
    · have h0 : ∀ b : Rat, b = 0 → w = x - upTo 0 f (if b < p then p else b) := by
        rintro b rfl
        by_cases h : 0 < p
        · rw [if_pos h]; exact hwx
        · rw [if_neg h]
          have : p = 0 := by grind
          rw [this] at hwx; exact hwx
      exact h0 _ (by simp [len, sumZ])
    rintro ⟨i, left⟩ ⟨hi, hlf, hax, hrz⟩
    simp only at hi hlf hax hrz
    by_cases hlt : i < f.length
    · obtain ⟨z, hz⟩ : ∃ z, f[i]? = some z := ⟨_, List.getElem?_eq_getElem hlt⟩
      have hlt' : (i : Int) < f.length := by omega
      have hl6 := hg.1
      have hgt := good_take hg i
      have hgt' := good_take hg (i + 1)
      have hvz := all_get hg.2 hz
      have hz' := (vz_iff z).1 hvz
      have hlbt := len_bound hgt
      have hlbt' := len_bound hgt'
      have hlt2 := len_take hz
      have htt := tot_take hz
      have hdr : f.drop i = z :: f.drop (i + 1) := by
        have := (List.getElem?_eq_some_iff.1 hz).2
        rw [← this]; exact List.drop_eq_getElem_cons hlt
      rw [hdr, rz] at hrz
      rw [hlt2] at hlbt'
      have hbe : ((len (f.take i) : Int) : Rat) < ((len (f.take i) + z.1 : Int) : Rat) := Rat.intCast_lt_intCast.2 (by omega)
      have hce := cum_in hg hz (Rat.le_of_lt hbe) Rat.le_refl
      have hcev : upTo 0 f ((len (f.take i) + z.1 : Int) : Rat) = ((tot (f.take i) + z.1 * z.2 : Int) : Rat) := by
        rw [hce]
        simp only [Rat.intCast_add, Rat.intCast_mul]
        grind
      have hSb : Sm ((len (f.take i) : Int) : Rat) := Sm_int (by omega)
      have hSe : Sm ((len (f.take i) + z.1 : Int) : Rat) := Sm_int (by omega)
      have hend : ((len (f.take i) + z.1 : Int) : Rat) ≤ ((120 : Int) : Rat) := Rat.intCast_le_intCast.2 (by omega)
      have hb0 := cast_nonneg hlbt.1
      simp (maxSteps := 4000000) -implicitDefEqProofs -dsimp (disch := omega) only [↓AW_skip, ↓AW_ops, ↓AW_seq, ↓AW_cond, ↓AW_block, ↓AOps_nil, ↓AOps_pu, ↓AOps_ld, ↓AOps_call, on_some, condB_t, ↓then_normal, pval, lval, rd_S, rd_C, put_S, chkd, bput, bgot, AV.cells?, splice, partA, eq_self, mk, List.foldl_cons, List.foldl_nil, List.replicate_succ, List.replicate_zero, List.set_cons_zero, List.set_cons_succ, List.getElem?_cons_zero, List.getElem?_cons_succ, List.drop_zero, List.drop_succ_cons, List.drop_nil, List.take_zero, List.take_succ_cons, List.take_nil, Option.getD_some, map_c, map_n, List.length_cons, List.length_nil, Nat.reduceAdd, Nat.reduceLeDiff, Nat.reduceEqDiff, Nat.zero_add, List.nil_append, List.append_nil, bin_lss, if_true, if_false, decide_true, Go.Eng.e2, ne_eq, not_true_eq_false, hlt', hf.idx hlt, hf.ld0 hz 2 true (by decide)]
      refine CallK.of (s78 _ _) ?_
      simp (maxSteps := 4000000) -implicitDefEqProofs -dsimp (disch := omega) only [↓AOps_call, extK_same, rd_S, put_S, mk, List.foldl_cons, List.foldl_nil, List.replicate_succ, List.replicate_zero, List.set_cons_zero, List.set_cons_succ, List.getElem?_cons_zero, List.getElem?_cons_succ, Option.getD_some, map_c, map_n]
      refine CallK.of (s107 _ _ _ hSp hSb) ?_
      simp (maxSteps := 4000000) -implicitDefEqProofs -dsimp (disch := omega) only [↓AOps_pu, ↓AOps_call, on_some, extK_same, pval, rd_S, put_S, chkd, isAdr, bgot, AV.cells?, partA, eq_self, mk, List.foldl_cons, List.foldl_nil, List.replicate_succ, List.replicate_zero, List.set_cons_zero, List.set_cons_succ, List.getElem?_cons_zero, List.getElem?_cons_succ, List.drop_zero, List.take_zero, List.take_succ_cons, Option.getD_some, map_c, map_n, List.length_cons, List.length_nil, Nat.reduceAdd, Nat.reduceLeDiff, Nat.zero_add, bin_add, w64, if_true, if_false, Bool.false_eq_true]
      refine CallK.of (s78 _ _) ?_
      simp (maxSteps := 4000000) -implicitDefEqProofs -dsimp (disch := omega) only [↓AW_ops, ↓AW_seq, ↓AOps_nil, ↓AOps_pu, ↓AOps_call, on_some, extK_same, ↓then_normal, pval, rd_S, rd_C, put_S, chkd, isAdr, bput, bgot, AV.cells?, splice, partA, eq_self, mk, List.foldl_cons, List.foldl_nil, List.replicate_succ, List.replicate_zero, List.set_cons_zero, List.set_cons_succ, List.getElem?_cons_zero, List.getElem?_cons_succ, List.drop_zero, List.drop_succ_cons, List.drop_nil, List.take_zero, List.take_succ_cons, List.take_nil, Option.getD_some, map_c, map_n, List.length_cons, List.length_nil, Nat.reduceAdd, Nat.reduceLeDiff, Nat.reduceEqDiff, Nat.zero_add, List.nil_append, List.append_nil, bin_add, w64, if_true, if_false, Bool.false_eq_true, ne_eq, not_true_eq_false]
      have hlo : ((len (f.take i) : Int) : Rat) ≤ (if ((len (f.take i) : Int) : Rat) < p then p else ((len (f.take i) : Int) : Rat)) := by split <;> grind
      have hSlo : Sm (if ((len (f.take i) : Int) : Rat) < p then p else ((len (f.take i) : Int) : Rat)) := by split <;> assumption
      have hDlo : Dv p.den (if ((len (f.take i) : Int) : Rat) < p then p else ((len (f.take i) : Int) : Rat)) := by
        split
        · exact Dv_self p
        · exact Dv_int _ _
      have hplo : p ≤ (if ((len (f.take i) : Int) : Rat) < p then p else ((len (f.take i) : Int) : Rat)) := by split <;> grind
      have hor : (if ((len (f.take i) : Int) : Rat) < p then p else ((len (f.take i) : Int) : Rat)) = p ∨ (if ((len (f.take i) : Int) : Rat) < p then p else ((len (f.take i) : Int) : Rat)) = ((len (f.take i) : Int) : Rat) := by split <;> simp
      generalize hlod : (if ((len (f.take i) : Int) : Rat) < p then p else ((len (f.take i) : Int) : Rat)) = lo at *
      refine CallK.of (s72 lo _ _ hSlo hSe) ?_
      by_cases h1 : lo < ((len (f.take i) + z.1 : Int) : Rat)
      · have hn1 : ¬ 0 ≤ (lo - ((len (f.take i) + z.1 : Int) : Rat)).num := by have := (sub_neg_iff lo _).2 h1; omega
        have hclo := cum_in hg hz hlo (Rat.le_of_lt h1)
        have hDclo : Dv D (upTo 0 f lo) := by
          rcases hor with h | h
          · rw [h]; exact hDp
          · rw [hclo, h]
            have : ((len (f.take i) : Int) : Rat) - ((len (f.take i) : Int) : Rat) = 0 := by grind
            rw [this, Rat.zero_mul, Rat.add_zero]
            exact Dv_int _ _
        have hbc := upTo_bounds hg 0 lo
        have hmono := upTo_mono (Rat.le_of_lt h1) f 0 hg.2
        have hbce := upTo_bounds hg 0 ((len (f.take i) + z.1 : Int) : Rat)
        have hall : (((len (f.take i) + z.1 : Int) : Rat) - lo) * (z.2 : Rat) = upTo 0 f ((len (f.take i) + z.1 : Int) : Rat) - upTo 0 f lo := by
          rw [hce, hclo]; grind
        have hDd := (Dv_int p.den (len (f.take i) + z.1)).sub hDlo
        have hd0 : 0 ≤ ((len (f.take i) + z.1 : Int) : Rat) - lo := by grind
        have hd1 : ((len (f.take i) + z.1 : Int) : Rat) - lo ≤ ((120 : Int) : Rat) := by grind
        have hSd : Sm (((len (f.take i) + z.1 : Int) : Rat) - lo) := Sm_of (M := 120) (den_pos p) hp.2 (by omega) hDd (int_neg_le_zero (by omega) hd0) hd1
        have hDall : Dv D ((((len (f.take i) + z.1 : Int) : Rat) - lo) * (z.2 : Rat)) := by
          rw [hall, hcev]; exact (Dv_int _ _).sub hDclo
        have hall0 : 0 ≤ (((len (f.take i) + z.1 : Int) : Rat) - lo) * (z.2 : Rat) := by rw [hall]; grind
        have hall1 : (((len (f.take i) + z.1 : Int) : Rat) - lo) * (z.2 : Rat) ≤ ((2400 : Int) : Rat) := by rw [hall]; grind
        have hSall : Sm ((((len (f.take i) + z.1 : Int) : Rat) - lo) * (z.2 : Rat)) := Sm_of (M := 2400) hD.1 hD.2 (by omega) hDall (int_neg_le_zero (by omega) hall0) hall1
        have hDl : Dv D left := by rw [hlf]; exact hDx.sub hDclo
        have hl0 : 0 < left := by
          rw [hlf]
          rcases hor with h | h
          · rw [h]; grind
          · rw [hclo, h]
            have : ((len (f.take i) : Int) : Rat) - ((len (f.take i) : Int) : Rat) = 0 := by grind
            rw [this, Rat.zero_mul, Rat.add_zero]
            grind
        have hl1 : left ≤ ((12400 : Int) : Rat) := by rw [hlf]; grind
        have hSl : Sm left := Sm_of (M := 12400) hD.1 hD.2 (by omega) hDl (int_neg_le_zero (by omega) (Rat.le_of_lt hl0)) hl1
        simp (maxSteps := 4000000) -implicitDefEqProofs -dsimp (disch := omega) only [↓AW_skip, ↓AW_ops, ↓AW_seq, ↓AW_cond, ↓AOps_nil, ↓AOps_pu, ↓AOps_call, on_some, extK_same, condB_f, ↓then_normal, pval, rd_S, rd_C, put_S, chkd, bgot, partA, eq_self, mk, List.foldl_cons, List.foldl_nil, List.replicate_succ, List.replicate_zero, List.set_cons_zero, List.set_cons_succ, List.getElem?_cons_zero, List.getElem?_cons_succ, List.drop_zero, List.take_succ_cons, List.take_nil, Option.getD_some, map_c, map_n, List.length_cons, List.length_nil, Nat.reduceAdd, Nat.reduceLeDiff, Nat.reduceEqDiff, Nat.zero_add, bin_geq, if_true, if_false, decide_false, hn1]
        refine CallK.of (s106g _ _ _ (hSe.fit hSlo)) ?_
        simp (maxSteps := 4000000) -implicitDefEqProofs -dsimp (disch := omega) only [↓AOps_pu, ↓AOps_call, on_some, extK_same, pval, rd_S, put_S, chkd, isAdr, bgot, AV.cells?, partA, eq_self, mk, List.foldl_cons, List.foldl_nil, List.replicate_succ, List.replicate_zero, List.set_cons_zero, List.set_cons_succ, List.getElem?_cons_zero, List.getElem?_cons_succ, List.drop_zero, List.drop_succ_cons, List.take_succ_cons, List.take_nil, Option.getD_some, map_c, map_n, List.length_cons, List.length_nil, Nat.reduceAdd, Nat.reduceLeDiff, Nat.zero_add, if_true, if_false, Bool.false_eq_true]
        refine CallK.of (s110 _ _ _ hSd (by omega)) ?_
        simp (maxSteps := 4000000) -implicitDefEqProofs -dsimp (disch := omega) only [↓AW_ops, ↓AW_seq, ↓AOps_nil, ↓AOps_pu, ↓AOps_call, on_some, extK_same, ↓then_normal, pval, rd_S, rd_C, put_S, chkd, bput, bgot, AV.cells?, splice, partA, eq_self, mk, List.foldl_cons, List.foldl_nil, List.replicate_succ, List.replicate_zero, List.set_cons_zero, List.set_cons_succ, List.getElem?_cons_zero, List.getElem?_cons_succ, List.drop_zero, List.drop_succ_cons, List.drop_nil, List.take_zero, List.take_succ_cons, List.take_nil, Option.getD_some, map_c, map_n, List.length_cons, List.length_nil, Nat.reduceAdd, Nat.reduceLeDiff, Nat.reduceEqDiff, Nat.zero_add, List.nil_append, List.append_nil, if_true, if_false, ne_eq, not_true_eq_false]
        refine CallK.of (s72 _ _ _ hSall hSl) ?_
        by_cases h2 : (((len (f.take i) + z.1 : Int) : Rat) - lo) * (z.2 : Rat) < left
        · have hn2 : ¬ 0 ≤ ((((len (f.take i) + z.1 : Int) : Rat) - lo) * (z.2 : Rat) - left).num := by have := (sub_neg_iff _ _).2 h2; omega
          simp (maxSteps := 4000000) -implicitDefEqProofs -dsimp (disch := omega) only [↓AW_skip, ↓AW_ops, ↓AW_cond, ↓AOps_nil, ↓AOps_pu, ↓AOps_call, on_some, extK_same, condB_f, ↓then_normal, pval, rd_S, rd_C, put_S, chkd, bgot, partA, eq_self, mk, List.foldl_cons, List.foldl_nil, List.replicate_succ, List.replicate_zero, List.set_cons_zero, List.set_cons_succ, List.getElem?_cons_zero, List.getElem?_cons_succ, List.drop_zero, List.take_succ_cons, List.take_nil, Option.getD_some, map_c, map_n, List.length_cons, List.length_nil, Nat.reduceAdd, Nat.reduceLeDiff, Nat.reduceEqDiff, Nat.zero_add, bin_geq, if_true, if_false, decide_false, hn2]
          refine CallK.of (s106g _ _ _ (hSl.fit hSall)) ?_
          simp (maxSteps := 4000000) -implicitDefEqProofs -dsimp (disch := omega) only [↓AW_ops, ↓AOps_nil, ↓AOps_pu, on_some, extK_same, ↓then_normal, ↓inBlock_normal, pval, rd_S, rd_C, put_S, chkd, bput, AV.cells?, splice, eq_self, mk, List.foldl_cons, List.foldl_nil, List.replicate_succ, List.replicate_zero, List.set_cons_zero, List.set_cons_succ, List.getElem?_cons_zero, List.getElem?_cons_succ, List.drop_succ_cons, List.drop_nil, List.take_zero, Option.getD_some, List.length_cons, List.length_nil, Nat.reduceAdd, Nat.reduceLeDiff, Nat.zero_add, List.nil_append, List.append_nil, bin_add, w64, if_true, if_false, true_and, ne_eq, not_true_eq_false]
          have hnx : ¬ x ≤ ((tot (f.take i) + z.1 * z.2 : Int) : Rat) := by
            rw [← hcev]
            exact Rat.not_le.2 (by rw [hall, hlf] at h2; grind)
          rw [if_neg hnx] at hrz
          refine ⟨(i + 1, left - (((len (f.take i) + z.1 : Int) : Rat) - lo) * (z.2 : Rat)), ⟨hlt, ?_, by rw [htt]; exact Rat.not_le.1 hnx, by rw [hrz, hlt2, htt]⟩, by simp [Has, rd_s, hlt2], by simp only; omega⟩
          simp only
          rw [hlt2, if_neg (Rat.not_lt.2 (by grind)), hall, hlf]
          grind
        · have hn2 : 0 ≤ ((((len (f.take i) + z.1 : Int) : Rat) - lo) * (z.2 : Rat) - left).num := by
            have : ¬ ((((len (f.take i) + z.1 : Int) : Rat) - lo) * (z.2 : Rat) - left).num < 0 := fun h => h2 ((sub_neg_iff _ _).1 h)
            omega
          have hxle : x ≤ ((tot (f.take i) + z.1 * z.2 : Int) : Rat) := by
            rw [← hcev]
            have h3 := Rat.not_lt.1 h2
            rw [hall, hlf] at h3; grind
          rw [if_pos hxle] at hrz
          have hvp : 1 ≤ z.2 := by
            by_cases h0 : z.2 = 0
            · rw [h0] at h2
              exact absurd (show (((len (f.take i) + z.1 : Int) : Rat) - lo) * ((0 : Int) : Rat) < left by rw [int0, Rat.mul_zero]; exact hl0) h2
            · omega
          have hle20 : left ≤ ((20 * z.2 : Int) : Rat) := by
            have h3 := Rat.not_lt.1 h2
            have h4 : ((len (f.take i) + z.1 : Int) : Rat) - lo ≤ ((20 : Int) : Rat) := by
              have : ((z.1 : Int) : Rat) ≤ ((20 : Int) : Rat) := Rat.intCast_le_intCast.2 hz'.1.2
              rw [Rat.intCast_add]; grind
            have h5 := Rat.mul_le_mul_of_nonneg_right h4 (cast_nonneg hz'.2.1)
            rw [Rat.intCast_mul]
            exact Rat.le_trans h3 h5
          have hdn := div_num hD.1 hD.2 ⟨hvp, hz'.2.2⟩ hDl (Rat.le_of_lt hl0) hle20
          simp (maxSteps := 4000000) -implicitDefEqProofs -dsimp (disch := omega) only [↓AW_ops, ↓AW_seq, ↓AW_cond, ↓AOps_nil, ↓AOps_pu, ↓AOps_call, on_some, extK_same, condB_t, ↓then_normal, pval, rd_S, rd_C, put_S, chkd, isAdr, bgot, AV.cells?, partA, eq_self, mk, List.foldl_cons, List.foldl_nil, List.replicate_succ, List.replicate_zero, List.set_cons_zero, List.set_cons_succ, List.getElem?_cons_zero, List.getElem?_cons_succ, List.drop_zero, List.drop_succ_cons, List.take_succ_cons, List.take_nil, Option.getD_some, map_c, map_n, List.length_cons, List.length_nil, Nat.reduceAdd, Nat.reduceLeDiff, Nat.reduceEqDiff, Nat.zero_add, bin_geq, if_true, if_false, Bool.false_eq_true, decide_true, hn2]
          refine CallK.of (s112 _ z.2 _ hSl ⟨by omega, by omega⟩) ?_
          simp (maxSteps := 4000000) -implicitDefEqProofs -dsimp (disch := omega) only [↓AOps_call, extK_same, rd_S, put_S, mk, List.foldl_cons, List.foldl_nil, List.replicate_succ, List.replicate_zero, List.set_cons_zero, List.set_cons_succ, List.getElem?_cons_zero, List.getElem?_cons_succ, Option.getD_some, map_c, map_n]
          have hlon : lo.num.natAbs ≤ 120 * 1048576 ∧ lo.den ≤ 1048576 := by
            have := num_le (M := 120) (den_pos p) hDlo (int_neg_le_zero (by omega) (by grind)) (by grind)
            have := hp.2
            omega
          refine CallK.of (s109g _ _ _ (Fit_of (120 * 1048576) (20 * 1048576 * 20) 1048576 (1048576 * 20) hlon.1 hlon.2 hdn.1 hdn.2 (by decide) (by decide))) ?_
          simp (maxSteps := 4000000) -implicitDefEqProofs -dsimp (disch := omega) only [↓AW_ret, ↓AOps_nil, ↓AOps_pu, on_some, extK_same, ↓then_normal, ↓then_ret, ↓inBlock_ret, ↓Fin_ret, pval, rd_S, rd_C, put_S, resV, resL, chkd, bput, bgot, AV.cells?, splice, partA, eq_self, mk, List.foldl_cons, List.foldl_nil, List.replicate_succ, List.replicate_zero, List.set_cons_zero, List.set_cons_succ, List.getElem?_cons_zero, List.getElem?_cons_succ, List.drop_zero, List.drop_succ_cons, List.drop_nil, List.take_zero, List.take_succ_cons, List.take_nil, Option.getD_some, List.length_cons, List.length_nil, Nat.reduceAdd, Nat.reduceLeDiff, Nat.reduceEqDiff, Nat.zero_add, List.nil_append, List.append_nil, if_true, if_false, ne_eq, not_true_eq_false]
          refine gc_same ?_
          have heq : ((len (f.take i) : Int) : Rat) + (x - ((tot (f.take i) : Int) : Rat)) / (z.2 : Rat) = lo + left / (z.2 : Rat) := by
            have hne := cast_ne (show z.2 ≠ 0 by omega)
            rw [hlf, hclo]
            generalize (z.2 : Rat) = vv at *
            generalize ((len (f.take i) : Int) : Rat) = bb at *
            generalize ((tot (f.take i) : Int) : Rat) = aa at *
            grind
          rw [hrz, heq]
          rfl
      · have hn1 : 0 ≤ (lo - ((len (f.take i) + z.1 : Int) : Rat)).num := by
          have : ¬ (lo - ((len (f.take i) + z.1 : Int) : Rat)).num < 0 := fun h => h1 ((sub_neg_iff _ _).1 h)
          omega
        have h1' := Rat.not_lt.1 h1
        have hlop : lo = p := by
          rcases hor with h | h
          · exact h
          · rw [h] at h1'; exact absurd hbe (Rat.not_lt.2 h1')
        subst hlop
        simp (maxSteps := 4000000) -implicitDefEqProofs -dsimp (disch := omega) only [↓AW_ops, ↓AW_seq, ↓AW_cond, ↓AW_exit, ↓AW_ret, ↓AOps_nil, ↓AOps_pu, on_some, extK_same, condB_t, ↓then_normal, ↓then_exit, ↓inBlock_exit, ↓Fin_ret, pval, rd_S, rd_C, put_S, resV, resL, chkd, bput, bgot, AV.cells?, splice, partA, fillA, eq_self, mk, List.foldl_cons, List.foldl_nil, List.replicate_succ, List.replicate_zero, List.set_cons_zero, List.set_cons_succ, List.getElem?_cons_zero, List.getElem?_cons_succ, List.drop_zero, List.drop_succ_cons, List.drop_nil, List.take_zero, List.take_succ_cons, List.take_nil, Option.getD_some, Option.map_some, map_n, List.length_cons, List.length_nil, Nat.reduceAdd, Nat.reduceLeDiff, Nat.reduceEqDiff, Nat.zero_add, List.nil_append, List.append_nil, bin_add, bin_geq, w64, if_true, if_false, decide_true, true_and, reduceCtorEq, ne_eq, not_true_eq_false, hn1]
        have hnx : ¬ x ≤ ((tot (f.take i) + z.1 * z.2 : Int) : Rat) := by
          rw [← hcev]
          have := upTo_mono h1' f 0 hg.2
          exact Rat.not_le.2 (by grind)
        rw [if_neg hnx] at hrz
        refine ⟨(i + 1, left), ⟨hlt, ?_, by rw [htt]; exact Rat.not_le.1 hnx, by rw [hrz, hlt2, htt]⟩, by simp [Has, rd_s, hlt2], by simp only; omega⟩
        simp only
        rw [hlt2, hlf]
        congr 2
        split <;> grind
    · have hlt' : ¬ ((i : Int) < f.length) := by omega
      rw [List.drop_of_length_le (by omega)] at hrz
      simp (maxSteps := 4000000) -implicitDefEqProofs -dsimp (disch := omega) only [↓AW_ops, ↓AW_seq, ↓AW_cond, ↓AW_exit, ↓AW_ret, ↓AOps_nil, ↓AOps_pu, on_some, condB_f, ↓then_normal, ↓then_exit, ↓inBlock_exit, ↓Fin_ret, pval, rd_S, rd_C, put_S, resV, resL, chkd, bput, bgot, AV.cells?, splice, partA, fillA, eq_self, mk, List.foldl_cons, List.foldl_nil, List.replicate_succ, List.replicate_zero, List.set_cons_zero, List.set_cons_succ, List.getElem?_cons_zero, List.getElem?_cons_succ, List.drop_zero, List.drop_succ_cons, List.drop_nil, List.take_zero, List.take_succ_cons, List.take_nil, Option.getD_some, Option.map_some, map_n, List.length_cons, List.length_nil, Nat.reduceAdd, Nat.reduceLeDiff, Nat.reduceEqDiff, Nat.zero_add, List.nil_append, List.append_nil, bin_lss, if_true, if_false, decide_false, ne_eq, not_true_eq_false, hlt']
      exact gc_same (by rw [hrz]; rfl)
end Go.Proofs.Ytnnbggcckabhdaa

namespace Go.Proofs.Ytnnbggcckabhdaa
open Go Go.Eng
/-- A worth that may be asked. -/
def isW (s : Int × Int) : Prop := ((1 ≤ s.2 ∧ s.2 ≤ 1000) ∧ Int.gcd s.1 s.2 = 1) ∧ 0 ≤ s.1
instance (s : Int × Int) : Decidable (isW s) := by unfold isW; exact inferInstance
theorem aE1 {f : List (Int × Int)} {r : Int × Int} (h0 : vE f = 0) : aE f [r] = if isP f r then 0 else 1 := by
  unfold aE
  rw [if_pos h0]
  congr 1
  simp
def plE (f : List (Int × Int)) (r s : Int × Int) : Int := if aE f [r] = 0 then (if isW s then (if (plc f (qr r) (qr s)).isSome then 0 else 8) else 1) else aE f [r]
def plV (f : List (Int × Int)) (r s : Int × Int) : AV := if plE f r s = 0 then oR (plc f (qr r) (qr s)) else zeroR
theorem isW_R {s : Int × Int} (h : isW s) : AV.agg [I s.1, I s.2] = R (qr s) ∧ (qr s).num = s.1 ∧ ((qr s).den : Int) = s.2 := by
  obtain ⟨⟨⟨h1, h2⟩, h3⟩, h4⟩ := h
  have e := R_of (a := s.1) (b := s.2) (by omega) h3
  exact ⟨e, R_inj e.symm⟩
theorem rat_le_lt {a b c : Rat} (h : a ≤ b) (k : b < c) : a < c := by grind
theorem rch_none (x : Rat) : ∀ (us : List Int) (b a : Int), (∀ u ∈ us, 0 ≤ u) → (((a + us.sum : Int) : Rat) < x) → rch b a us x = none
  | [], _, _, _, _ => rfl
  | u :: us, b, a, hu, h => by
    have h0 : 0 ≤ us.sum := by
      have : ∀ l : List Int, (∀ u ∈ l, 0 ≤ u) → 0 ≤ l.sum := by
        intro l
        induction l with
        | nil => intro _; simp
        | cons y l ih => intro h; have := ih (fun z hz => h z (by simp [hz])); have := h y (by simp); simp only [List.sum_cons]; omega
      exact this us (fun z hz => hu z (by simp [hz]))
    have hx : ¬ x ≤ ((a + u : Int) : Rat) := by
      refine Rat.not_le.2 (rat_le_lt (Rat.intCast_le_intCast.2 ?_) h)
      simp only [List.sum_cons]; omega
    rw [rch, if_neg hx]
    refine rch_none x us _ _ (fun z hz => hu z (by simp [hz])) ?_
    rw [show a + u + us.sum = a + (u :: us).sum by simp only [List.sum_cons]; omega]
    exact h
/-- Nothing is found for what is worth more than all. -/
theorem plc_none {f : List (Int × Int)} (hg : good f) {p w : Rat} (hp : 0 ≤ upTo 0 f p) (hw : ((tot f : Int) : Rat) < w) : plc f p w = none := by
  have ht := tot_bound hg
  have h0 : w.num ≠ 0 := by
    have : 0 < w := rat_le_lt (cast_nonneg ht.1) hw
    have h1 := num_pos_iff w |>.2 this
    omega
  unfold plc
  rw [if_neg h0]
  refine rch_none _ _ _ _ (fun u hu => (units_le hg.2 u hu).1) ?_
  rw [sum_units hg.2, Int.zero_add]
  grind
theorem qr_le {s : Int × Int} {n : Int} (hs : 0 < s.2) : qr s ≤ (n : Rat) ↔ s.1 ≤ n * s.2 := by
  have h1 : qr s * (s.2 : Rat) = (s.1 : Rat) := Rat.div_mul_cancel (cast_ne (by omega))
  constructor
  · intro h
    exact rat_le_int hs h1 h
  · intro h
    rcases Rat.le_total (a := qr s) (b := (n : Rat)) with h2 | h2
    · exact h2
    · have h3 := int_le_rat hs h1 h2
      have h4 : s.1 = n * s.2 := by omega
      have : qr s = (n : Rat) := by
        have hne := cast_ne (show s.2 ≠ 0 by omega)
        rw [h4, Rat.intCast_mul] at h1
        generalize (s.2 : Rat) = d at *
        generalize qr s = q at *
        grind
      rw [this]; exact Rat.le_refl
/-- What is known of a worth that is not too great. -/
theorem ask_facts {f : List (Int × Int)} (hg : good f) {r s : Int × Int} (h1 : isP f r) (h2 : isW s) :
    ∃ D : Int, (0 < D ∧ D ≤ 1048576) ∧ Dv D (upTo 0 f (qr r)) ∧ Dv D (qr s) ∧ 0 ≤ qr s := by
  obtain ⟨er, p1⟩ := isP_R h1
  obtain ⟨es, n1, n2⟩ := isW_R h2
  have d1 := (R_inj er.symm).2
  have k1 := h1.1.1
  have k2 := h2.1.1
  refine ⟨(qr r).den * (qr s).den, ⟨Int.mul_pos (den_pos _) (den_pos _), ?_⟩, (upTo_Dv (Dv_self _) f 0).dvd (Int.dvd_mul_right _ _), (Dv_self _).dvd (Int.dvd_mul_left _ _), ?_⟩
  · have : ((qr r).den : Int) * (qr s).den ≤ 1000 * 1000 := Int.mul_le_mul (by omega) (by omega) (by omega) (by omega)
    omega
  · exact Rat.num_nonneg.1 (by rw [n1]; exact h2.2)
theorem s39 {f : List (Int × Int)} {v : AV} {A : AHeap} (hf : L2 A v f) (r s : Int × Int) (hr : W r.1) (hs : W s.1) :
    ACalls Try.prog 39 [v, .agg [I r.1, I r.2], .agg [I s.1, I s.2]] A (.tuple [plV f r s, I (plE f r s)]) A := by
  refine acalls hmix Try.func39 (by kernel_rfl) t39 3 rfl (by decide) ?_
  dsimp only [m39]
  simp (maxSteps := 4000000) -implicitDefEqProofs -dsimp (disch := omega) only [↓AW_ops, ↓AW_seq, ↓AOps_nil, ↓AOps_pu, ↓AOps_call, on_some, ↓then_normal, pval, rd_S, rd_C, put_S, AV.cells?, List.replicate_succ, List.replicate_zero, List.set_cons_zero, List.set_cons_succ, List.getElem?_cons_zero, List.getElem?_cons_succ, Option.getD_some, map_c, map_n, Nat.reduceSub, List.cons_append, List.nil_append]
  refine CallK.of (s37 hf) ?_
  by_cases h0 : vE f = 0
  · have hg := (good_of h0).1
    have ht := tot_bound hg
    simp (maxSteps := 4000000) -implicitDefEqProofs -dsimp (disch := omega) only [↓AW_skip, ↓AW_ops, ↓AW_seq, ↓AW_cond, ↓AOps_nil, ↓AOps_pu, ↓AOps_call, on_some, extK_same, condB_f, ↓then_normal, pval, rd_S, rd_C, put_S, chkd, bgot, partA, eq_self, List.replicate_succ, List.replicate_zero, List.set_cons_zero, List.set_cons_succ, List.getElem?_cons_zero, List.getElem?_cons_succ, List.drop_zero, List.take_succ_cons, List.take_nil, Option.getD_some, map_c, map_n, List.length_cons, List.length_nil, Nat.reduceAdd, Nat.reduceSub, Nat.reduceLeDiff, Nat.reduceEqDiff, Nat.zero_add, List.cons_append, List.nil_append, bin_neq, if_true, if_false, decide_false, not_true_eq_false, h0]
    refine CallK.of (s71P hf hg r hr) ?_
    by_cases h1 : isP f r
    · simp (maxSteps := 4000000) -implicitDefEqProofs -dsimp (disch := omega) only [↓AOps_pu, ↓AOps_call, ↓AOps_guard, on_some, extK_same, guardB_ff, pval, rd_S, rd_C, put_S, chkd, bgot, partA, eq_self, List.replicate_succ, List.replicate_zero, List.set_cons_zero, List.set_cons_succ, List.getElem?_cons_zero, List.getElem?_cons_succ, List.drop_zero, List.take_succ_cons, List.take_nil, Option.getD_some, map_c, map_n, List.length_cons, List.length_nil, Nat.reduceAdd, Nat.reduceSub, Nat.reduceLeDiff, Nat.reduceEqDiff, Nat.zero_add, List.cons_append, List.nil_append, if_true, if_false, Bool.not_true, decide_true, h1]
      refine CallK.of (s79 s 1000 _ hs (by omega)) ?_
      by_cases h2 : (1 ≤ s.2 ∧ s.2 ≤ 1000) ∧ Int.gcd s.1 s.2 = 1
      · by_cases h3 : s.1 < 0
        · have hW : ¬ isW s := fun h => by have := h.2; omega
          simp (maxSteps := 4000000) -implicitDefEqProofs -dsimp (disch := omega) only [↓AW_ops, ↓AW_seq, ↓AW_cond, ↓AW_ret, ↓AOps_nil, ↓AOps_pu, ↓AOps_guard, on_some, extK_same, guardB_ff, condB_t, ↓then_normal, ↓then_ret, ↓Fin_ret, pval, rd_S, rd_C, put_S, resV, resL, chkd, isAdr, bput, bgot, AV.cells?, splice, partA, fillA, eq_self, List.replicate_succ, List.replicate_zero, List.set_cons_zero, List.set_cons_succ, List.getElem?_cons_zero, List.getElem?_cons_succ, List.drop_zero, List.drop_succ_cons, List.drop_nil, List.take_zero, List.take_succ_cons, List.take_nil, Option.getD_some, Option.map_some, map_n, List.length_cons, List.length_nil, Nat.reduceAdd, Nat.reduceSub, Nat.reduceLeDiff, Nat.reduceEqDiff, Nat.zero_add, List.cons_append, List.nil_append, List.append_nil, bin_lss, if_true, if_false, Bool.false_eq_true, Bool.not_true, decide_true, and_true, ne_eq, not_true_eq_false, h2, h3]
          exact gc_same (by simp [plV, plE, aE1 h0, h1, hW, zeroR])
        · have hW : isW s := ⟨h2, by omega⟩
          simp (maxSteps := 4000000) -implicitDefEqProofs -dsimp (disch := omega) only [↓AW_skip, ↓AW_ops, ↓AW_seq, ↓AW_cond, ↓AOps_nil, ↓AOps_pu, ↓AOps_call, ↓AOps_guard, on_some, extK_same, guardB_ff, condB_f, ↓then_normal, pval, rd_S, rd_C, put_S, chkd, isAdr, bgot, AV.cells?, partA, eq_self, List.replicate_succ, List.replicate_zero, List.set_cons_zero, List.set_cons_succ, List.getElem?_cons_zero, List.getElem?_cons_succ, List.drop_zero, List.drop_succ_cons, List.take_zero, List.take_succ_cons, List.take_nil, Option.getD_some, map_c, map_n, List.length_cons, List.length_nil, Nat.reduceAdd, Nat.reduceSub, Nat.reduceLeDiff, Nat.zero_add, List.cons_append, List.nil_append, bin_lss, if_true, if_false, Bool.false_eq_true, Bool.not_true, decide_true, decide_false, and_true, h2, h3]
          refine CallK.of (s65 hf hg) ?_
          have hm := mul_bound (x := tot f) (y := s.2) (X := 2400) (Y := 1000) (by omega) (by omega)
          have hcm : s.2 * tot f = tot f * s.2 := Int.mul_comm _ _
          obtain ⟨er, p1⟩ := isP_R h1
          obtain ⟨es, n1, n2⟩ := isW_R hW
          obtain ⟨D, hD, d1, d2, d3⟩ := ask_facts hg h1 hW
          have hbp := upTo_bounds hg 0 (qr r)
          have hle := qr_le (n := tot f) (s := s) (by omega)
          have hE : plE f r s = if (plc f (qr r) (qr s)).isSome then 0 else 8 := by simp [plE, aE1 h0, h1, hW]
          by_cases h4 : s.2 * tot f < s.1
          · simp (maxSteps := 4000000) -implicitDefEqProofs -dsimp (disch := omega) only [↓AW_ops, ↓AW_seq, ↓AW_cond, ↓AW_ret, ↓AOps_nil, ↓AOps_pu, on_some, extK_same, condB_t, ↓then_normal, ↓then_ret, ↓Fin_ret, pval, rd_S, rd_C, put_S, resV, resL, chkd, bput, bgot, AV.cells?, splice, partA, fillA, eq_self, List.replicate_succ, List.replicate_zero, List.set_cons_zero, List.set_cons_succ, List.getElem?_cons_zero, List.getElem?_cons_succ, List.drop_zero, List.drop_succ_cons, List.drop_nil, List.take_zero, List.take_succ_cons, List.take_nil, Option.getD_some, Option.map_some, map_n, List.length_cons, List.length_nil, Nat.reduceAdd, Nat.reduceSub, Nat.reduceLeDiff, Nat.reduceEqDiff, Nat.zero_add, List.cons_append, List.nil_append, List.append_nil, bin_mul, bin_gtr, w64, if_true, if_false, decide_true, ne_eq, not_true_eq_false, h4]
            have hn : plc f (qr r) (qr s) = none := plc_none hg hbp.1 (Rat.not_le.1 (fun h => by have := hle.1 h; omega))
            exact gc_same (by simp [plV, hE, hn, zeroR])
          · simp (maxSteps := 4000000) -implicitDefEqProofs -dsimp (disch := omega) only [↓AW_skip, ↓AW_ops, ↓AW_seq, ↓AW_cond, ↓AOps_nil, ↓AOps_pu, ↓AOps_call, on_some, extK_same, condB_f, ↓then_normal, pval, rd_S, put_S, chkd, bgot, partA, eq_self, List.replicate_succ, List.replicate_zero, List.set_cons_zero, List.set_cons_succ, List.getElem?_cons_zero, List.getElem?_cons_succ, List.drop_zero, List.take_succ_cons, List.take_nil, Option.getD_some, map_c, map_n, List.length_cons, List.length_nil, Nat.reduceAdd, Nat.reduceSub, Nat.reduceLeDiff, Nat.reduceEqDiff, Nat.zero_add, List.cons_append, List.nil_append, bin_mul, bin_gtr, w64, if_true, if_false, decide_false, h4]
            have hw1 : qr s ≤ ((10000 : Int) : Rat) := Rat.le_trans (hle.2 (by omega)) (Rat.intCast_le_intCast.2 (by omega))
            rw [er, es]
            refine CallK.of (s80 hf hg (qr r) (qr s) p1 D hD d1 d2 d3 hw1) ?_
            cases hpl : plc f (qr r) (qr s) with
            | some x =>
              have hE0 : plE f r s = 0 := by rw [hE, hpl]; rfl
              have hV : plV f r s = R x := by simp [plV, hE0, hpl, oR]
              rw [hE0, hV]
              simp (maxSteps := 4000000) -implicitDefEqProofs -dsimp (disch := omega) only [↓AW_skip, ↓AW_ops, ↓AW_seq, ↓AW_cond, ↓AW_ret, ↓AOps_nil, ↓AOps_pu, on_some, extK_same, condB_f, ↓then_normal, ↓Fin_ret, pval, rd_S, rd_C, put_S, resV, resL, chkd, bput, bgot, AV.cells?, splice, partA, eq_self, List.replicate_succ, List.replicate_zero, List.set_cons_zero, List.set_cons_succ, List.getElem?_cons_zero, List.getElem?_cons_succ, List.drop_zero, List.drop_succ_cons, List.drop_nil, List.take_zero, List.take_succ_cons, List.take_nil, Option.getD_some, List.length_cons, List.length_nil, Nat.reduceAdd, Nat.reduceSub, Nat.reduceLeDiff, Nat.reduceEqDiff, Nat.zero_add, List.cons_append, List.nil_append, List.append_nil, if_true, if_false, Bool.not_true, ne_eq, not_true_eq_false, oR, Option.isSome_some]
              exact gc_same rfl
            | none =>
              have hE0 : plE f r s = 8 := by rw [hE, hpl]; rfl
              have hV : plV f r s = zeroR := by simp [plV, hE0]
              rw [hE0, hV]
              simp (maxSteps := 4000000) -implicitDefEqProofs -dsimp (disch := omega) only [↓AW_ops, ↓AW_seq, ↓AW_cond, ↓AW_ret, ↓AOps_nil, ↓AOps_pu, on_some, extK_same, condB_t, ↓then_normal, ↓then_ret, ↓Fin_ret, pval, rd_S, rd_C, put_S, resV, resL, chkd, bput, bgot, AV.cells?, splice, partA, fillA, eq_self, List.replicate_succ, List.replicate_zero, List.set_cons_zero, List.set_cons_succ, List.getElem?_cons_zero, List.getElem?_cons_succ, List.drop_zero, List.drop_succ_cons, List.drop_nil, List.take_zero, List.take_succ_cons, List.take_nil, Option.getD_some, Option.map_some, map_n, List.length_cons, List.length_nil, Nat.reduceAdd, Nat.reduceSub, Nat.reduceLeDiff, Nat.reduceEqDiff, Nat.zero_add, List.cons_append, List.nil_append, List.append_nil, if_true, if_false, Bool.not_false, ne_eq, not_true_eq_false, oR, zeroR, Option.isSome_none]
              exact gc_same rfl
      · have hW : ¬ isW s := fun h => h2 h.1
        simp (maxSteps := 4000000) -implicitDefEqProofs -dsimp (disch := omega) only [↓AW_ops, ↓AW_seq, ↓AW_cond, ↓AW_ret, ↓AOps_nil, ↓AOps_pu, ↓AOps_guard, on_some, extK_same, guardB_tf, guardB_ff, skipS_some, condB_t, ↓then_normal, ↓then_ret, ↓Fin_ret, pval, rd_S, rd_C, put_S, resV, resL, chkd, bput, bgot, AV.cells?, splice, partA, fillA, eq_self, List.replicate_succ, List.replicate_zero, List.set_cons_zero, List.set_cons_succ, List.getElem?_cons_zero, List.getElem?_cons_succ, List.drop_zero, List.drop_succ_cons, List.drop_nil, List.take_zero, List.take_succ_cons, List.take_nil, Option.getD_some, Option.map_some, map_n, List.length_cons, List.length_nil, Nat.reduceAdd, Nat.reduceSub, Nat.reduceLeDiff, Nat.reduceEqDiff, Nat.zero_add, List.cons_append, List.nil_append, List.append_nil, if_true, if_false, Bool.false_eq_true, Bool.not_false, decide_false, ne_eq, not_true_eq_false, h2]
        exact gc_same (by simp [plV, plE, aE1 h0, h1, hW, zeroR])
    · simp (maxSteps := 4000000) -implicitDefEqProofs -dsimp (disch := omega) only [↓AW_ops, ↓AW_seq, ↓AW_cond, ↓AW_ret, ↓AOps_nil, ↓AOps_pu, ↓AOps_guard, on_some, extK_same, guardB_tf, skipS_some, condB_t, ↓then_normal, ↓then_ret, ↓Fin_ret, pval, rd_S, rd_C, put_S, resV, resL, chkd, bput, bgot, AV.cells?, splice, partA, fillA, eq_self, List.replicate_succ, List.replicate_zero, List.set_cons_zero, List.set_cons_succ, List.getElem?_cons_zero, List.getElem?_cons_succ, List.drop_zero, List.drop_succ_cons, List.drop_nil, List.take_zero, List.take_succ_cons, List.take_nil, Option.getD_some, Option.map_some, map_n, List.length_cons, List.length_nil, Nat.reduceAdd, Nat.reduceSub, Nat.reduceLeDiff, Nat.reduceEqDiff, Nat.zero_add, List.cons_append, List.nil_append, List.append_nil, if_true, if_false, Bool.not_false, decide_false, ne_eq, not_true_eq_false, h1]
      exact gc_same (by simp [plV, plE, aE1 h0, h1, zeroR])
  · simp (maxSteps := 4000000) -implicitDefEqProofs -dsimp (disch := omega) only [↓AW_ops, ↓AW_seq, ↓AW_cond, ↓AW_ret, ↓AOps_nil, ↓AOps_pu, on_some, extK_same, condB_t, ↓then_normal, ↓then_ret, ↓Fin_ret, pval, rd_S, rd_C, put_S, resV, resL, chkd, bput, bgot, AV.cells?, splice, partA, fillA, eq_self, List.replicate_succ, List.replicate_zero, List.set_cons_zero, List.set_cons_succ, List.getElem?_cons_zero, List.getElem?_cons_succ, List.drop_zero, List.drop_succ_cons, List.drop_nil, List.take_zero, List.take_succ_cons, List.take_nil, Option.getD_some, Option.map_some, map_n, List.length_cons, List.length_nil, Nat.reduceAdd, Nat.reduceSub, Nat.reduceLeDiff, Nat.reduceEqDiff, Nat.zero_add, List.cons_append, List.nil_append, List.append_nil, bin_neq, if_true, if_false, decide_true, ne_eq, not_true_eq_false, not_false_eq_true, h0]
    exact gc_same (by simp [plV, plE, aE, h0, zeroR])
theorem zero_lt_agg {q : Rat} (h : q.num = 0) : q = 0 := Rat.num_eq_zero.1 h
/-- What lies up to the place is worth what was asked. -/
theorem plc_worth {f : List (Int × Int)} (hg : good f) {p w x : Rat} (hp0 : 0 ≤ p) (hp1 : p ≤ ((len f : Int) : Rat)) (hw0 : 0 ≤ w) (h : plc f p w = some x) :
    p ≤ x ∧ x ≤ ((len f : Int) : Rat) ∧ upTo 0 f x = upTo 0 f p + w := by
  unfold plc at h
  split at h
  · rename_i h0
    have : p = x := Option.some.inj h
    subst this
    rw [zero_lt_agg h0, Rat.add_zero]
    exact ⟨Rat.le_refl, hp1, rfl⟩
  · rename_i h0
    have hwp : 0 < w := by
      have := Rat.num_nonneg.2 hw0
      exact num_pos_iff w |>.1 (by omega)
    have hbp := upTo_bounds hg 0 p
    have hl := len_units hg.2
    obtain ⟨_, ⟨h2, h3⟩, h4⟩ := rch_some _ (units f) 0 0 x (units_le hg.2) (by have : ((0 : Int) : Rat) = 0 := rfl; grind) h
    rw [upTo_units x f 0 hg.2] at h4
    have h5 : upTo 0 f x = upTo 0 f p + w := by rw [h4]; have : ((0 : Int) : Rat) = 0 := rfl; grind
    refine ⟨?_, by rw [Int.zero_add, hl] at h3; exact h3, h5⟩
    rcases Rat.le_total (a := p) (b := x) with h6 | h6
    · exact h6
    · have := upTo_mono h6 f 0 hg.2
      grind
end Go.Proofs.Ytnnbggcckabhdaa

namespace Go.Proofs.Ytnnbggcckabhdaa
open Go Go.Eng
theorem OL_gcS {α : Type} {es : Nat} {e : α → List AV} {A H : AHeap} {n : Nat} {v : AV} {xs : List α} (h : OL es e A H n v xs) (hf : ∀ x, ∀ y ∈ e x, flat y = true) : GC A v H (.sl es A.length 0 xs.length false) (A ++ [.cells true (xs.flatMap e)]) := by
  obtain ⟨he, h1, h2, h3, full, rfl⟩ := h
  have hfl : ∀ y ∈ xs.flatMap e, flat y = true := fun y hy => by
    obtain ⟨x, _, hx⟩ := List.mem_flatMap.1 hy
    exact hf x y hx
  refine gc_weak (fun ρ c => VR.unfull) ?_
  have hk := Keep.add (keep_old h1) (n := n) (o := .cells true (xs.flatMap e)) h2 (by simp; omega) h3
  simp only [renO, ren_flats _ 3 _ hfl] at hk
  exact gc_keep hk (by simp [ren])
end Go.Proofs.Ytnnbggcckabhdaa

namespace Go.Proofs.Ytnnbggcckabhdaa
open Go Go.Eng
theorem s30i (n : Int) (A : AHeap) : ACalls Try.prog 30 [I n] A (.agg [I n, I 1]) A := s30 n A
end Go.Proofs.Ytnnbggcckabhdaa

namespace Go.Proofs.Ytnnbggcckabhdaa
open Go Go.Eng
theorem take_all2 {α : Type} {p : α → Prop} {l : List α} {i : Nat} {z : α} (h : ∀ y ∈ l.take i, p y) (hz : l[i]? = some z) (hp : p z) : ∀ y ∈ l.take (i + 1), p y := by
  intro y hy
  rw [List.take_add_one, hz] at hy
  rcases List.mem_append.1 hy with hy | hy
  · exact h y hy
  · have : y = z := by simpa using hy
    rw [this]; exact hp
end Go.Proofs.Ytnnbggcckabhdaa

namespace Go.Proofs.Ytnnbggcckabhdaa
open Go Go.Eng
end Go.Proofs.Ytnnbggcckabhdaa

namespace Go.Proofs.Ytnnbggcckabhdaa
open Go Go.Eng
abbrev pR (q : Rat) : Int × Int := (q.num, (q.den : Int))
theorem upTo_0 {f : List (Int × Int)} (hg : good f) : upTo 0 f 0 = 0 := upTo_none 0 f 0 (all_pos hg.2) Rat.le_refl
theorem rch_ok (x : Rat) : ∀ (us : List Int) (b a : Int), (a : Rat) < x → x ≤ ((a + us.sum : Int) : Rat) → ∃ y, rch b a us x = some y
  | [], b, a, h1, h2 => by
    simp at h2
    exact absurd h1 (Rat.not_lt.2 h2)
  | u :: us, b, a, h1, h2 => by
    rw [rch]
    by_cases h : x ≤ ((a + u : Int) : Rat)
    · exact ⟨_, if_pos h⟩
    · rw [if_neg h]
      exact rch_ok x us _ _ (Rat.not_le.1 h) (by rw [show a + u + us.sum = a + (u :: us).sum by simp only [List.sum_cons]; omega]; exact h2)
theorem plc_ok {f : List (Int × Int)} (hg : good f) {p w : Rat} (hw0 : 0 ≤ w) (h : upTo 0 f p + w ≤ ((tot f : Int) : Rat)) : ∃ y, plc f p w = some y := by
  unfold plc
  split
  · exact ⟨_, rfl⟩
  · rename_i h0
    have hwp : 0 < w := by
      have := Rat.num_nonneg.2 hw0
      exact num_pos_iff w |>.1 (by omega)
    have hbp := upTo_bounds hg 0 p
    refine rch_ok _ _ 0 0 (by have : ((0 : Int) : Rat) = 0 := rfl; grind) ?_
    rw [sum_units hg.2, Int.zero_add]
    exact h
theorem plc_den {f : List (Int × Int)} (hg : good f) {p w x : Rat} (D : Int) (hD : 0 < D) (hp : 0 ≤ p ∧ p ≤ ((len f : Int) : Rat)) (hpd : (p.den : Int) ≤ D * 20) (hDx : Dv D (upTo 0 f p + w)) (hw0 : 0 ≤ w) (h : plc f p w = some x) : (x.den : Int) ≤ D * 20 := by
  obtain ⟨g1, g2, g3⟩ := plc_worth hg hp.1 hp.2 hw0 h
  unfold plc at h
  split at h
  · have : p = x := Option.some.inj h
    subst this; exact hpd
  · rename_i h0
    have hwp : 0 < w := by
      have := Rat.num_nonneg.2 hw0
      exact num_pos_iff w |>.1 (by omega)
    have hbp := upTo_bounds hg 0 p
    have hlb := len_bound hg
    obtain ⟨⟨v, hv, b', a', hx⟩, _, _⟩ := rch_some _ (units f) 0 0 x (units_le hg.2) (by have : ((0 : Int) : Rat) = 0 := rfl; grind) h
    have h1 : Dv (D * v) x := by
      rw [hx]
      exact (Dv_int _ _).add ((hDx.sub (Dv_int D a')).div v (by omega))
    have h2 := num_le (M := 120) (Int.mul_pos hD (by omega)) h1 (int_neg_le_zero (by omega) (Rat.le_trans hp.1 g1)) (Rat.le_trans g2 (Rat.intCast_le_intCast.2 hlb.2))
    have h3 : D * v ≤ D * 20 := Int.mul_le_mul_of_nonneg_left hv.2 (by omega)
    omega
theorem s62 {f : List (Int × Int)} {v y : AV} {ws : List Rat} {A : AHeap} (hf : L2 A v f) (hg : good f) (hy : L2 A y (ws.map pR)) (hl : ws.length ≤ 100) (D : Int) (hD : 0 < D ∧ D ≤ 1048576) (ats : Nat → Rat) (h0 : ats 0 = 0)
    (hs : ∀ k w, ws[k]? = some w → Pl f (ats k) ∧ Dv D (upTo 0 f (ats k)) ∧ Dv D w ∧ 0 ≤ w ∧ w ≤ ((10000 : Int) : Rat) ∧ plc f (ats k) w = some (ats (k + 1))) :
    ACalls Try.prog 62 [v, y] A (outV 2 A ws.length) (outH A (((List.range ws.length).map (fun k => pR (ats (k + 1)))).flatMap e2) ws.length) := by
  refine acalls hmix Try.func62 (by kernel_rfl) t62 2 rfl (by decide) ?_
  dsimp only [m62]
  simp (maxSteps := 4000000) -implicitDefEqProofs -dsimp (disch := omega) only [↓AW_ops, ↓AW_seq, ↓AOps_nil, ↓AOps_pu, ↓AOps_call, on_some, ↓then_normal, pval, rd_C, put_S, List.replicate_succ, List.replicate_zero, List.set_cons_zero, List.set_cons_succ, map_c, map_n, Nat.reduceSub, List.cons_append, List.nil_append]
  refine CallK.of (s78 0 _) ?_
  simp (maxSteps := 4000000) -implicitDefEqProofs -dsimp (disch := omega) only [↓AW_ops, ↓AW_seq, ↓AW_block, ↓AOps_nil, ↓AOps_pu, on_some, extK_same, ↓then_normal, pval, rd_S, rd_C, put_S, ↓AW_toLoop, chkd, bput, AV.cells?, splice, eq_self, List.replicate_succ, List.replicate_zero, List.set_cons_zero, List.set_cons_succ, List.getElem?_cons_zero, List.getElem?_cons_succ, List.drop_succ_cons, List.drop_nil, List.take_zero, Option.getD_some, List.length_cons, List.length_nil, Nat.reduceAdd, Nat.reduceSub, Nat.reduceLeDiff, Nat.zero_add, List.cons_append, List.nil_append, List.append_nil, if_true, if_false, ne_eq, not_true_eq_false, hy.len, List.length_map]
  refine LoopK.by 29 (fun x : Nat × AV × AHeap => x.1 ≤ ws.length ∧ AccL 2 e2 A x.2.2 x.2.1 ((List.range x.1).map (fun k => pR (ats (k + 1))))) (fun x => [(0, v), (5, x.2.1), (6, R (ats x.1)), (10, y), (11, I ws.length), (12, I x.1)]) (fun x => x.2.2) (fun x => ws.length - x.1) (0, .nilS, A) ⟨by simp only; omega, AccL.nil (List.prefix_refl _)⟩ rfl (by simp only [h0]; simp [Has, rd_s]) rfl ?_
  rintro ⟨i, u, A1⟩ ⟨hi, hu⟩
  simp only at hi hu
  by_cases hlt : i < ws.length
  · obtain ⟨w, hz⟩ : ∃ z, ws[i]? = some z := ⟨_, List.getElem?_eq_getElem hlt⟩
    have hlt' : (i : Int) < ws.length := by omega
    have hlm : i < (ws.map pR).length := by simpa using hlt
    have hzm : (ws.map pR)[i]? = some (pR w) := by rw [List.getElem?_map, hz]; rfl
    obtain ⟨g1, g2, g3, g4, g5, g6⟩ := hs i w hz
    have hy1 := hy.mono hu.pre
    simp (maxSteps := 4000000) -implicitDefEqProofs -dsimp (disch := omega) only [↓AW_skip, ↓AW_ops, ↓AW_seq, ↓AW_cond, ↓AW_block, ↓AOps_nil, ↓AOps_pu, ↓AOps_ld, ↓AOps_call, on_some, condB_t, ↓then_normal, pval, lval, rd_S, rd_C, put_S, chkd, bput, bgot, AV.cells?, splice, partA, eq_self, mk, List.foldl_cons, List.foldl_nil, List.replicate_succ, List.replicate_zero, List.set_cons_zero, List.set_cons_succ, List.getElem?_cons_zero, List.getElem?_cons_succ, List.drop_zero, List.drop_succ_cons, List.drop_nil, List.take_zero, List.take_succ_cons, List.take_nil, Option.getD_some, map_c, map_n, List.length_cons, List.length_nil, Nat.reduceAdd, Nat.reduceLeDiff, Nat.reduceEqDiff, Nat.zero_add, List.nil_append, List.append_nil, bin_lss, if_true, if_false, decide_true, Go.Eng.e2, ne_eq, not_true_eq_false, hlt', hy1.idx hlm, hy1.ld0 hzm 2 true (by decide)]
    refine CallK.of (s80 (hf.mono hu.pre) hg (ats i) w g1 D hD g2 g3 g4 g5) ?_
    rw [g6]
    obtain ⟨v3, A3, happ, h3⟩ := hu.push e2_len (pR (ats (i + 1))) (by simp [lim]; omega)
    simp only [Go.Eng.e2] at happ
    simp (maxSteps := 4000000) -implicitDefEqProofs -dsimp (disch := omega) only [↓AW_ops, ↓AOps_nil, ↓AOps_pu, ↓AOps_ha, on_some, extK_false, extK_app, extK_same, ↓then_normal, ↓inBlock_normal, pval, hval, rd_S, rd_C, put_S, chkd, bput, bgot, AV.cells?, splice, partA, fillA, repl, eq_self, mk, List.foldl_cons, List.foldl_nil, List.replicate_succ, List.replicate_zero, List.set_cons_zero, List.set_cons_succ, List.getElem?_cons_zero, List.getElem?_cons_succ, List.drop_zero, List.drop_succ_cons, List.drop_nil, List.take_zero, List.take_succ_cons, List.take_nil, Option.getD_some, map_c, map_n, List.length_cons, List.length_nil, Nat.reduceAdd, Nat.reduceLeDiff, Nat.reduceEqDiff, Nat.zero_add, List.nil_append, List.append_nil, bin_add, w64, if_true, if_false, true_and, and_true, ne_eq, not_true_eq_false, oR, Option.isSome_some, happ]
    refine ⟨(i + 1, v3, A3), ⟨hlt, ?_⟩, by simp [Has, rd_s], rfl, by simp only; omega⟩
    simp only
    rw [List.range_succ, List.map_append]
    exact h3
  · have hlt' : ¬ ((i : Int) < ws.length) := by omega
    have hii : i = ws.length := by omega
    subst hii
    simp (maxSteps := 4000000) -implicitDefEqProofs -dsimp (disch := omega) only [↓AW_ops, ↓AW_seq, ↓AW_cond, ↓AW_exit, ↓AW_ret, ↓AOps_nil, ↓AOps_pu, on_some, condB_f, ↓then_normal, ↓then_exit, ↓inBlock_exit, ↓Fin_ret, pval, rd_S, put_S, resV, resL, eq_self, mk, List.foldl_cons, List.foldl_nil, List.replicate_succ, List.replicate_zero, List.set_cons_zero, List.set_cons_succ, List.getElem?_cons_zero, List.getElem?_cons_succ, Option.getD_some, bin_lss, if_true, decide_false, hlt']
    have := hu.gc flat_e2
    simpa using this
theorem AccL_out {α : Type} {es : Nat} {e : α → List AV} {A H : AHeap} (hp : A <+: H) (he : ∀ x, (e x).length = es) (xs : List α) : AccL es e A (outH H (xs.flatMap e) xs.length) (outV es H xs.length) xs := by
  refine ⟨hp.trans (pre_out _ _ _), flatMap_length he xs, ?_⟩
  unfold outV outH
  by_cases h : xs.length = 0
  · rw [if_pos h, if_pos h]; exact .inl ⟨h, rfl⟩
  · rw [if_neg h, if_neg h]
    exact .inr ⟨by omega, H.length, rfl, hp.length_le, by simp⟩
end Go.Proofs.Ytnnbggcckabhdaa

namespace Go.Proofs.Ytnnbggcckabhdaa
open Go Go.Eng
def prs (ps : List Int) (k : Nat) : Int := (ps.take k).sum
/-- Parts that make up a field. -/
def fits (f : List (Int × Int)) (ps : List Int) : Prop := (∀ p ∈ ps, 0 ≤ p ∧ p ≤ 10000) ∧ ps.sum = tot f
def cA (f : List (Int × Int)) (ps : List Int) : Nat → Rat
  | 0 => 0
  | k + 1 => (plc f (cA f ps k) (((ps[k]?).getD 0 : Int) : Rat)).getD 0
theorem prs_0 (ps : List Int) : prs ps 0 = 0 := by simp [prs]
theorem prs_succ {ps : List Int} {k : Nat} {p : Int} (h : ps[k]? = some p) : prs ps (k + 1) = prs ps k + p := by
  unfold prs
  rw [List.take_add_one, h]; simp
theorem sum_nonneg {l : List Int} (h : ∀ p ∈ l, 0 ≤ p) : 0 ≤ l.sum := by
  induction l with
  | nil => simp
  | cons a l ih =>
    have := ih (fun p hp => h p (by simp [hp]))
    have := h a (by simp)
    simp only [List.sum_cons]; omega
theorem prs_bounds {f : List (Int × Int)} {ps : List Int} (h : fits f ps) (k : Nat) : 0 ≤ prs ps k ∧ prs ps k ≤ tot f := by
  have h1 := sum_nonneg (l := ps.take k) (fun p hp => (h.1 p (List.mem_of_mem_take hp)).1)
  have h2 := sum_nonneg (l := ps.drop k) (fun p hp => (h.1 p (List.mem_of_mem_drop hp)).1)
  have h3 : (ps.take k).sum + (ps.drop k).sum = ps.sum := by rw [← List.sum_append, List.take_append_drop]
  have := h.2
  unfold prs
  omega
theorem cA_facts {f : List (Int × Int)} (hg : good f) {ps : List Int} (h : fits f ps) : ∀ k, k ≤ ps.length →
    (0 ≤ cA f ps k ∧ cA f ps k ≤ ((len f : Int) : Rat)) ∧ upTo 0 f (cA f ps k) = ((prs ps k : Int) : Rat) ∧ ((cA f ps k).den : Int) ≤ 20
  | 0, _ => by
    have hlb := len_bound hg
    refine ⟨⟨Rat.le_refl, cast_nonneg hlb.1⟩, ?_, ?_⟩
    · rw [prs_0]; exact upTo_0 hg
    · show (1 : Int) ≤ 20; decide
  | k + 1, hk => by
    obtain ⟨h1, h2, h3⟩ := cA_facts hg h k (by omega)
    obtain ⟨p, hp⟩ : ∃ p, ps[k]? = some p := ⟨_, List.getElem?_eq_getElem (by omega)⟩
    have hp0 := h.1 p (List.mem_of_getElem? hp)
    have hps := prs_succ hp
    have hb := prs_bounds h (k + 1)
    have hw0 : (0 : Rat) ≤ (p : Rat) := cast_nonneg hp0.1
    have hle : upTo 0 f (cA f ps k) + (p : Rat) ≤ ((tot f : Int) : Rat) := by
      rw [h2, ← Rat.intCast_add, ← hps]; exact Rat.intCast_le_intCast.2 hb.2
    obtain ⟨y, hy⟩ := plc_ok (p := cA f ps k) hg hw0 hle
    have e : cA f ps (k + 1) = y := by rw [cA, hp, Option.getD_some, hy]; rfl
    obtain ⟨g1, g2, g3⟩ := plc_worth hg h1.1 h1.2 hw0 hy
    have hd := plc_den hg 1 (by omega) h1 (by omega) (by rw [h2]; exact (Dv_int 1 _).add (Dv_int 1 _)) hw0 hy
    rw [e]
    exact ⟨⟨Rat.le_trans h1.1 g1, g2⟩, by rw [g3, h2, hps, Rat.intCast_add], by omega⟩
theorem cA_step {f : List (Int × Int)} (hg : good f) {ps : List Int} (h : fits f ps) {k : Nat} {p : Int} (hp : ps[k]? = some p) :
    plc f (cA f ps k) (p : Rat) = some (cA f ps (k + 1)) ∧ cA f ps k ≤ cA f ps (k + 1) := by
  have hk : k < ps.length := (List.getElem?_eq_some_iff.1 hp).1
  obtain ⟨h1, h2, h3⟩ := cA_facts hg h k (by omega)
  have hp0 := h.1 p (List.mem_of_getElem? hp)
  have hps := prs_succ hp
  have hb := prs_bounds h (k + 1)
  have hw0 : (0 : Rat) ≤ (p : Rat) := cast_nonneg hp0.1
  have hle : upTo 0 f (cA f ps k) + (p : Rat) ≤ ((tot f : Int) : Rat) := by
    rw [h2, ← Rat.intCast_add, ← hps]; exact Rat.intCast_le_intCast.2 hb.2
  obtain ⟨y, hy⟩ := plc_ok (p := cA f ps k) hg hw0 hle
  have e : cA f ps (k + 1) = y := by rw [cA, hp, Option.getD_some, hy]; rfl
  rw [e]
  exact ⟨hy, (plc_worth hg h1.1 h1.2 hw0 hy).1⟩
/-- From 'a' on, the pieces up to each of 'cs' are worth 'ps'. -/
def okC (f : List (Int × Int)) : Rat → List Rat → List Int → Prop
  | _, [], [] => True
  | a, c :: cs, p :: ps => (a ≤ c ∧ upTo 0 f c - upTo 0 f a = (p : Rat)) ∧ okC f c cs ps
  | _, _, _ => False
theorem tot_app (f g : List (Int × Int)) : tot (f ++ g) = tot f + tot g := by simp [tot, sumZ]
theorem len_app (f g : List (Int × Int)) : len (f ++ g) = len f + len g := by simp [len, sumZ]
theorem tot_cons (z : Int × Int) (f : List (Int × Int)) : tot (z :: f) = z.1 * z.2 + tot f := by simp [tot, sumZ]
theorem len_cons (z : Int × Int) (f : List (Int × Int)) : len (z :: f) = z.1 + len f := by simp [len, sumZ]
theorem len_rev : ∀ f : List (Int × Int), len f.reverse = len f
  | [] => rfl
  | z :: f => by rw [List.reverse_cons, len_app, len_rev f, len_cons, len_cons]; simp [len, sumZ]; omega
theorem tot_rev : ∀ f : List (Int × Int), tot f.reverse = tot f
  | [] => rfl
  | z :: f => by rw [List.reverse_cons, tot_app, tot_rev f, tot_cons, tot_cons]; simp [tot, sumZ]; omega
theorem upTo_shift (c : Int) (x : Rat) : ∀ (f : List (Int × Int)) (b : Int), upTo (b + c) f (x + (c : Rat)) = upTo b f x
  | [], _ => rfl
  | z :: f, b => by
    have e : b + c + z.1 = b + z.1 + c := by omega
    rw [upTo, upTo, e, upTo_shift c x f (b + z.1)]
    have h : clamp (x + (c : Rat)) ((b + c : Int) : Rat) ((b + z.1 + c : Int) : Rat) = clamp x (b : Rat) ((b + z.1 : Int) : Rat) + (c : Rat) := by
      rw [Rat.intCast_add, Rat.intCast_add _ c]
      unfold clamp
      grind
    rw [h, Rat.intCast_add b c]
    grind
theorem clamp_turn (x a l : Rat) (hl : 0 ≤ l) : l - clamp (a + l - x) 0 l = clamp x a (a + l) - a := by
  unfold clamp
  grind
theorem upTo_rev (x : Rat) : ∀ (f : List (Int × Int)), (∀ z ∈ f, 1 ≤ z.1) → upTo 0 f.reverse x = ((tot f : Int) : Rat) - upTo 0 f (((len f : Int) : Rat) - x)
  | [], _ => by simp [upTo, tot, sumZ, Rat.sub_self]
  | z :: f, h => by
    have hz := h z (by simp)
    have ih := upTo_rev x f (fun y hy => h y (by simp [hy]))
    rw [List.reverse_cons, upTo_append, Int.zero_add, len_rev, ih, upTo, upTo, Rat.add_zero, tot_cons, len_cons, upTo]
    have hs := upTo_shift z.1 (((len f : Int) : Rat) - x) f 0
    have e1 : ((len f : Int) : Rat) - x + (z.1 : Rat) = ((z.1 + len f : Int) : Rat) - x := by rw [Rat.intCast_add]; grind
    rw [e1] at hs
    rw [Int.zero_add] at hs ⊢
    rw [hs]
    have hc := clamp_turn x ((len f : Int) : Rat) (z.1 : Rat) (cast_nonneg (by omega))
    have e2 : ((len f : Int) : Rat) + (z.1 : Rat) - x = ((z.1 + len f : Int) : Rat) - x := by rw [Rat.intCast_add]; grind
    have e3 : ((len f : Int) : Rat) + (z.1 : Rat) = ((len f + z.1 : Int) : Rat) := by rw [Rat.intCast_add]
    rw [e2, e3, ← int0] at hc
    rw [← hc]
    simp only [Rat.intCast_add, Rat.intCast_mul]
    have := int0
    generalize clamp ((z.1 : Rat) + ((len f : Int) : Rat) - x) ((0 : Int) : Rat) (z.1 : Rat) = c at *
    generalize upTo 0 f (((len f : Int) : Rat) - x) = d at *
    grind
/-- The cuts that are made are right. -/
theorem okC_own {f : List (Int × Int)} (hg : good f) {ps : List Int} (h : fits f ps) (ats : Nat → Rat) (ha : ∀ k, k ≤ ps.length → (0 ≤ ats k ∧ ats k ≤ ((len f : Int) : Rat)) ∧ upTo 0 f (ats k) = ((prs ps k : Int) : Rat)) (hm : ∀ k, k + 1 ≤ ps.length → ats k ≤ ats (k + 1)) : ∀ (n k : Nat), k + n = ps.length →
    okC f (ats k) ((List.range n).map (fun j => ats (k + 1 + j))) (ps.drop k)
  | 0, k, hk => by
    rw [List.drop_of_length_le (by omega)]
    trivial
  | n + 1, k, hk => by
    obtain ⟨p, hp⟩ : ∃ p, ps[k]? = some p := ⟨_, List.getElem?_eq_getElem (by omega)⟩
    have hdr : ps.drop k = p :: ps.drop (k + 1) := by
      have := (List.getElem?_eq_some_iff.1 hp).2
      rw [← this]; exact List.drop_eq_getElem_cons (by omega)
    have hr : (List.range (n + 1)).map (fun j => ats (k + 1 + j)) = ats (k + 1) :: (List.range n).map (fun j => ats (k + 1 + 1 + j)) := by
      rw [List.range_succ_eq_map, List.map_cons, List.map_map]
      congr 1
      refine List.map_congr_left (fun j _ => ?_)
      simp only [Function.comp]
      congr 1; omega
    rw [hdr, hr, okC]
    refine ⟨⟨hm k (by omega), ?_⟩, okC_own hg h ats ha hm n (k + 1) (by omega)⟩
    rw [(ha k (by omega)).2, (ha (k + 1) (by omega)).2, prs_succ hp, Rat.intCast_add]
    grind
theorem agg_eq (a b : Rat) : (a.num == b.num && (a.den : Int) == (b.den : Int)) = decide (a = b) := by
  rw [Bool.eq_iff_iff]
  simp only [Bool.and_eq_true, beq_iff_eq, decide_eq_true_eq]
  constructor
  · rintro ⟨h1, h2⟩
    exact Rat.ext h1 (by omega)
  · rintro rfl
    exact ⟨rfl, rfl⟩
end Go.Proofs.Ytnnbggcckabhdaa

namespace Go.Proofs.Ytnnbggcckabhdaa
open Go Go.Eng
theorem c_CloneZ {xs : List (Int × Int)} {v : AV} {A : AHeap} (hx : L2 A v xs) (hn : v ≠ .nilS) (hl : xs.length ≤ 1000000) : ACalls Try.prog 92 [v] A (.sl 2 A.length 0 xs.length false) (A ++ [.cells true (xs.flatMap e2)]) := by
  refine acalls hmix Try.func92 (by kernel_rfl) t92 1 rfl (by decide) ?_
  obtain ⟨v', n, H2, happ, ho⟩ := app_new hx (by simp [lim]; omega)
  rcases hx.inv with ⟨rfl, _⟩ | ⟨n', off, full, rw, l, rfl, _⟩
  · exact absurd rfl hn
  · dsimp only [m92]
    simp (maxSteps := 4000000) -implicitDefEqProofs -dsimp (disch := omega) only [↓AW_skip, ↓AW_ops, ↓AW_seq, ↓AW_cond, ↓AW_ret, ↓AOps_nil, ↓AOps_pu, ↓AOps_ha, on_some, extK_false, extK_app, condB_f, ↓then_normal, ↓Fin_ret, pval, hval_blds, hval_app, rd_S, rd_C, put_S, resV, resL, fillA, repl, List.replicate_succ, List.replicate_zero, List.set_cons_zero, List.set_cons_succ, List.getElem?_cons_zero, List.getElem?_cons_succ, Option.getD_some, map_n, Nat.reduceSub, List.cons_append, List.nil_append, List.replicate_zero, repl, happ]
    exact OL_gcS ho flat_e2
/-- What stands at a place of a list that is half turned. -/
def hrev {α : Type} (xs zs : List α) (i : Nat) : Prop := zs.length = xs.length ∧ ∀ k, k < xs.length → zs[k]? = if k < i ∨ xs.length - 1 - i < k then xs[xs.length - 1 - k]? else xs[k]?
theorem hrev_0 {α : Type} (xs : List α) : hrev xs xs 0 := ⟨rfl, fun k hk => by rw [if_neg (by omega)]⟩
theorem hrev_end {α : Type} {xs zs : List α} {i : Nat} (h : hrev xs zs i) (hi : xs.length ≤ 2 * i + 1) : zs = xs.reverse := by
  refine List.ext_getElem? (fun k => ?_)
  by_cases hk : k < xs.length
  · rw [h.2 k hk, List.getElem?_reverse hk]
    split
    · rfl
    · have : xs.length - 1 - k = k := by omega
      rw [this]
  · rw [List.getElem?_eq_none (by rw [h.1]; omega), List.getElem?_eq_none (by simp; omega)]
theorem hrev_step {α : Type} {xs zs : List α} {i : Nat} (h : hrev xs zs i) (hi : 2 * i + 1 < xs.length) {a b : α} (ha : zs[i]? = some a) (hb : zs[xs.length - 1 - i]? = some b) :
    hrev xs ((zs.set i b).set (xs.length - 1 - i) a) (i + 1) := by
  refine ⟨by simp [h.1], fun k hk => ?_⟩
  have h1 := h.2 i (by omega)
  rw [if_neg (by omega), ha] at h1
  have h2 := h.2 (xs.length - 1 - i) (by omega)
  rw [if_neg (by omega), hb] at h2
  by_cases hk1 : k = xs.length - 1 - i
  · subst hk1
    rw [List.getElem?_set_self (by simp [h.1]; omega), if_pos (by omega), h1]
    congr 1
    omega
  · rw [List.getElem?_set_ne (Ne.symm hk1)]
    by_cases hk2 : k = i
    · subst hk2
      rw [List.getElem?_set_self (by rw [h.1]; omega), if_pos (by omega), h2]
    · rw [List.getElem?_set_ne (Ne.symm hk2), h.2 k hk]
      by_cases h3 : k < i ∨ xs.length - 1 - i < k
      · rw [if_pos h3, if_pos (by omega)]
      · rw [if_neg h3, if_neg (by omega)]
theorem c_ReverseZ {xs : List (Int × Int)} {v : AV} {A H : AHeap} {n : Nat} (h : OL 2 e2 A H n v xs) (hl : xs.length ≤ 1000000) : ACalls Try.prog 93 [v] H (.tuple []) (H.set n (.cells true (xs.reverse.flatMap e2))) := by
  refine acalls hmix Try.func93 (by kernel_rfl) t93 1 rfl (by decide) ?_
  dsimp only [m93]
  simp (maxSteps := 4000000) -implicitDefEqProofs -dsimp (disch := omega) only [↓AW_ops, ↓AW_seq, ↓AW_block, ↓AOps_nil, ↓AOps_pu, on_some, ↓then_normal, pval, rd_S, rd_C, put_S, ↓AW_toLoop, List.replicate_succ, List.replicate_zero, List.set_cons_zero, List.set_cons_succ, List.getElem?_cons_zero, List.getElem?_cons_succ, Option.getD_some, Nat.reduceSub, List.cons_append, List.nil_append, bin_sub, w64, h.ls.len]
  refine LoopK.by 28 (fun x : Nat × List (Int × Int) => (2 * x.1 ≤ xs.length + 1 ∧ hrev xs x.2 x.1)) (fun x => [(0, v), (2, I x.1), (3, I ((xs.length : Int) - 1 - x.1))]) (fun x => H.set n (.cells true (x.2.flatMap e2))) (fun x => xs.length - x.1) (0, xs) ⟨by simp only; omega, hrev_0 xs⟩ rfl (by simp [Has, rd_s]) (by simp only; rw [set_same h.ob]) ?_
  rintro ⟨i, zs⟩ ⟨hi, hz⟩
  simp only at hi hz
  have ho := OL_setAll h zs hz.1
  by_cases hlt : (i : Int) < (xs.length : Int) - 1 - i
  · have hin : i < xs.length := by omega
    have hjl : xs.length - 1 - i < zs.length := by rw [hz.1]; omega
    have hil : i < zs.length := by rw [hz.1]; omega
    have hj : (xs.length : Int) - 1 - i = ((xs.length - 1 - i : Nat) : Int) := by omega
    obtain ⟨a, ha⟩ : ∃ a, zs[i]? = some a := ⟨_, List.getElem?_eq_getElem hil⟩
    obtain ⟨b, hb⟩ : ∃ b, zs[xs.length - 1 - i]? = some b := ⟨_, List.getElem?_eq_getElem hjl⟩
    have hlt' := hlt
    rw [hj] at hlt'
    have h1 := ho.st hil (.agg [I b.1, I b.2]) b rfl
    rw [List.set_set] at h1
    have ho2 := OL_setAll h (zs.set i b) (by simp [hz.1])
    have hjl2 : xs.length - 1 - i < (zs.set i b).length := by simpa using hjl
    have h2 := ho2.st hjl2 (.agg [I a.1, I a.2]) a rfl
    rw [List.set_set] at h2
    have hst := hrev_step hz (by omega) ha hb
    generalize hJ : xs.length - 1 - i = j at *
    simp (maxSteps := 4000000) -implicitDefEqProofs -dsimp (disch := omega) only [↓AW_skip, ↓AW_ops, ↓AW_seq, ↓AW_cond, ↓AW_block, ↓AOps_nil, ↓AOps_pu, ↓AOps_ld, ↓AOps_ha, on_some, extK_false, condB_t, ↓then_normal, ↓inBlock_normal, pval, lval, hval_st, rd_S, rd_C, put_S, putS_none, partA, eq_self, mk, List.foldl_cons, List.foldl_nil, List.replicate_succ, List.replicate_zero, List.set_cons_zero, List.set_cons_succ, List.getElem?_cons_zero, List.getElem?_cons_succ, List.drop_zero, List.take_succ_cons, List.take_nil, Option.getD_some, Option.map_some, List.length_cons, List.length_nil, Nat.reduceAdd, Nat.reduceLeDiff, Nat.reduceEqDiff, Nat.zero_add, bin_add, bin_sub, bin_lss, w64, if_true, if_false, decide_true, Go.Eng.e2, true_and, hj, hlt', ho.ls.idx hil, ho.ls.idx hjl, ho.ls.ld0 ha 2 true (by decide), ho.ls.ld0 hb 2 true (by decide), h1, h2]
    refine ⟨(i + 1, _), ⟨by simp only; omega, hst⟩, by simp [Has, rd_s]; omega, rfl, by simp only; omega⟩
  · have he := hrev_end hz (by omega)
    simp (maxSteps := 4000000) -implicitDefEqProofs -dsimp (disch := omega) only [↓AW_ops, ↓AW_seq, ↓AW_cond, ↓AW_exit, ↓AOps_nil, ↓AOps_pu, on_some, condB_f, ↓then_normal, ↓then_exit, ↓inBlock_exit, ↓Fin_normal, pval, rd_S, put_S, resV, resL, eq_self, mk, List.foldl_cons, List.foldl_nil, List.replicate_succ, List.replicate_zero, List.set_cons_zero, List.set_cons_succ, List.getElem?_cons_zero, List.getElem?_cons_succ, Option.getD_some, bin_lss, if_true, decide_false, hlt]
    rw [he] at ho ⊢
    exact gc_same_all rfl rfl
def tuL (f : List (Int × Int)) : List (Int × Int) := if vE f = 0 then f.reverse else []
theorem s52 {f : List (Int × Int)} {v : AV} {A : AHeap} (hf : L2 A v f) : ACalls Try.prog 52 [v] A (.tuple [outV 2 A (tuL f).length, I (vE f)]) (outH A ((tuL f).flatMap e2) (tuL f).length) := by
  refine acalls hmix Try.func52 (by kernel_rfl) t52 1 rfl (by decide) ?_
  dsimp only [m52]
  simp (maxSteps := 4000000) -implicitDefEqProofs -dsimp (disch := omega) only [↓AW_ops, ↓AW_seq, ↓AOps_nil, ↓AOps_pu, ↓AOps_call, on_some, ↓then_normal, pval, rd_S, rd_C, put_S, List.replicate_succ, List.replicate_zero, List.set_cons_zero, List.set_cons_succ, List.getElem?_cons_zero, List.getElem?_cons_succ, Option.getD_some, map_c, map_n, Nat.reduceSub, List.cons_append, List.nil_append]
  refine CallK.of (s37 hf) ?_
  by_cases h0 : vE f = 0
  · obtain ⟨hg, h1⟩ := good_of h0
    have hl6 := hg.1
    have hL : tuL f = f.reverse := by unfold tuL; rw [if_pos h0]
    rw [hL, h0]
    simp (maxSteps := 4000000) -implicitDefEqProofs -dsimp (disch := omega) only [↓AW_skip, ↓AW_ops, ↓AW_seq, ↓AW_cond, ↓AOps_nil, ↓AOps_pu, ↓AOps_call, on_some, extK_same, condB_f, ↓then_normal, pval, rd_S, rd_C, put_S, eq_self, List.replicate_succ, List.replicate_zero, List.set_cons_zero, List.set_cons_succ, List.getElem?_cons_zero, List.getElem?_cons_succ, Option.getD_some, map_c, map_n, Nat.reduceSub, List.cons_append, List.nil_append, bin_neq, decide_false, not_true_eq_false]
    refine CallK.of (c_CloneZ hf (Ls_nn hf h1) (by omega)) ?_
    have ho := OL.new_mk e2_len A f false
    generalize hvv : AV.sl 2 A.length 0 f.length false = vv at *
    have hr := c_ReverseZ ho (by omega)
    rw [set_new] at hr
    simp (maxSteps := 4000000) -implicitDefEqProofs -dsimp (disch := omega) only [↓AW_ops, ↓AW_seq, ↓AOps_nil, ↓AOps_pu, ↓AOps_call, on_some, extK_app, ↓then_normal, pval, rd_S, put_S, List.replicate_succ, List.replicate_zero, List.set_cons_zero, List.set_cons_succ, List.getElem?_cons_zero, List.getElem?_cons_succ, Option.getD_some, map_c, map_n, Nat.reduceSub, List.cons_append, List.nil_append]
    refine CallK.of hr ?_
    simp (maxSteps := 4000000) -implicitDefEqProofs -dsimp (disch := omega) only [↓AW_ops, ↓AW_seq, ↓AW_ret, ↓AOps_nil, ↓AOps_pu, on_some, extK_false, ↓then_normal, ↓Fin_ret, pval, rd_S, rd_C, put_S, resV, resL, List.replicate_succ, List.replicate_zero, List.set_cons_zero, List.set_cons_succ, List.getElem?_cons_zero, List.getElem?_cons_succ, Option.getD_some, Nat.reduceSub, List.cons_append, List.nil_append]
    have ho2 := OL_setAll ho f.reverse (by simp)
    rw [set_new] at ho2
    exact ho2.gc2 (by simp; omega) flat_e2 (I 0) rfl
  · have hL : tuL f = [] := by simp [tuL, h0]
    rw [hL]
    simp (maxSteps := 4000000) -implicitDefEqProofs -dsimp (disch := omega) only [↓AW_ops, ↓AW_seq, ↓AW_cond, ↓AW_ret, ↓AOps_nil, ↓AOps_pu, on_some, extK_same, condB_t, ↓then_normal, ↓then_ret, ↓Fin_ret, pval, rd_S, rd_C, put_S, resV, resL, List.replicate_succ, List.replicate_zero, List.set_cons_zero, List.set_cons_succ, List.getElem?_cons_zero, List.getElem?_cons_succ, Option.getD_some, List.length_nil, Nat.reduceSub, List.cons_append, List.nil_append, bin_neq, decide_true, not_false_eq_true, h0]
    exact gc_same_all rfl rfl
end Go.Proofs.Ytnnbggcckabhdaa

namespace Go.Proofs.Ytnnbggcckabhdaa
open Go Go.Eng
def inQ (p : Int) : Prop := 0 ≤ p ∧ p ≤ 10000
instance (p : Int) : Decidable (inQ p) := by unfold inQ; exact inferInstance
/-- The error of a field and of parts. -/
def paE (f : List (Int × Int)) (ps : List Int) : Int :=
  if vE f = 0 then (if (1 : Int) ≤ ps.length ∧ (ps.length : Int) ≤ 8 then (if ∀ p ∈ ps, inQ p then (if ps.sum = tot f then 0 else 5) else 1) else 3) else vE f
theorem paE_0 {f : List (Int × Int)} {ps : List Int} (h : paE f ps = 0) : vE f = 0 ∧ (1 ≤ ps.length ∧ ps.length ≤ 8) ∧ fits f ps := by
  unfold paE at h
  split at h
  · rename_i h0
    split at h
    · rename_i h1
      split at h
      · rename_i h2
        split at h
        · rename_i h3; exact ⟨h0, by omega, h2, h3⟩
        · cases h
      · cases h
    · cases h
  · rename_i h0; exact absurd h h0
theorem prs_le {ps : List Int} (h : ∀ p ∈ ps, inQ p) : ∀ i, i ≤ ps.length → 0 ≤ prs ps i ∧ prs ps i ≤ 10000 * i
  | 0, _ => by simp [prs]
  | i + 1, hi => by
    have h1 := prs_le h i (by omega)
    obtain ⟨z, hz⟩ : ∃ z, ps[i]? = some z := ⟨_, List.getElem?_eq_getElem (by omega)⟩
    have h2 := h z (List.mem_of_getElem? hz)
    unfold inQ at h2
    rw [prs_succ hz]
    omega
theorem prs_take (ps : List Int) {i j : Nat} (h : i ≤ j) : prs (ps.take j) i = prs ps i := by
  unfold prs
  rw [List.take_take, Nat.min_eq_left h]
theorem s87 {f : List (Int × Int)} {ps : List Int} {v u : AV} {A : AHeap} (hf : L2 A v f) (hp : L1 A u ps) : ACalls Try.prog 87 [v, u] A (I (paE f ps)) A := by
  refine acalls hmix Try.func87 (by kernel_rfl) t87 2 rfl (by decide) ?_
  dsimp only [m87]
  simp (maxSteps := 4000000) -implicitDefEqProofs -dsimp (disch := omega) only [↓AW_ops, ↓AW_seq, ↓AOps_nil, ↓AOps_pu, ↓AOps_call, on_some, ↓then_normal, pval, rd_S, rd_C, put_S, List.replicate_succ, List.replicate_zero, List.set_cons_zero, List.set_cons_succ, List.getElem?_cons_zero, List.getElem?_cons_succ, Option.getD_some, map_c, map_n, Nat.reduceSub, List.cons_append, List.nil_append]
  refine CallK.of (s37 hf) ?_
  by_cases h0 : vE f = 0
  · have hg := (good_of h0).1
    have ht := tot_bound hg
    simp (maxSteps := 4000000) -implicitDefEqProofs -dsimp (disch := omega) only [↓AW_skip, ↓AW_ops, ↓AW_seq, ↓AW_cond, ↓AOps_nil, ↓AOps_pu, ↓AOps_call, on_some, extK_same, condB_f, ↓then_normal, pval, rd_S, rd_C, put_S, eq_self, List.replicate_succ, List.replicate_zero, List.set_cons_zero, List.set_cons_succ, List.getElem?_cons_zero, List.getElem?_cons_succ, Option.getD_some, map_c, map_n, Nat.reduceSub, List.cons_append, List.nil_append, bin_neq, decide_false, not_true_eq_false, h0, hp.len]
    refine CallK.of (s61 _ _ _ _) ?_
    by_cases h1 : (1 : Int) ≤ ps.length ∧ (ps.length : Int) ≤ 8
    · simp (maxSteps := 4000000) -implicitDefEqProofs -dsimp (disch := omega) only [↓AW_skip, ↓AW_ops, ↓AW_seq, ↓AW_cond, ↓AW_block, ↓AOps_nil, ↓AOps_pu, on_some, extK_same, condB_f, ↓then_normal, pval, rd_S, rd_C, put_S, ↓AW_toLoop, List.replicate_succ, List.replicate_zero, List.set_cons_zero, List.set_cons_succ, List.getElem?_cons_zero, List.getElem?_cons_succ, Option.getD_some, Nat.reduceSub, List.cons_append, List.nil_append, Bool.not_true, decide_true, and_true, h1, hp.len]
      refine LoopK.by 35 (fun i : Nat => i ≤ ps.length ∧ ∀ y ∈ ps.take i, inQ y) (fun i => [(0, v), (6, I (prs ps i)), (18, u), (19, I ps.length), (20, I i)]) (fun _ => A) (fun i => ps.length - i) 0 ⟨by omega, by simp⟩ rfl (by simp [Has, rd_s, prs]) rfl ?_
      rintro i ⟨hi, he⟩
      by_cases hlt : i < ps.length
      · obtain ⟨z, hz⟩ : ∃ z, ps[i]? = some z := ⟨_, List.getElem?_eq_getElem hlt⟩
        have hlt' : (i : Int) < ps.length := by omega
        have hb := prs_le he i (by simp; omega)
        rw [prs_take ps (Nat.le_refl i)] at hb
        simp (maxSteps := 4000000) -implicitDefEqProofs -dsimp (disch := omega) only [↓AW_skip, ↓AW_ops, ↓AW_seq, ↓AW_cond, ↓AW_block, ↓AOps_nil, ↓AOps_pu, ↓AOps_ld, ↓AOps_call, on_some, condB_t, ↓then_normal, pval, lval, rd_S, rd_C, put_S, partA, eq_self, mk, List.foldl_cons, List.foldl_nil, List.replicate_succ, List.replicate_zero, List.set_cons_zero, List.set_cons_succ, List.getElem?_cons_zero, List.getElem?_cons_succ, List.drop_zero, List.take_succ_cons, List.take_nil, Option.getD_some, map_c, map_n, List.length_cons, List.length_nil, Nat.reduceLeDiff, Nat.zero_add, bin_lss, if_true, if_false, Bool.false_eq_true, decide_true, Go.Eng.e1, hlt', hp.idx hlt, hp.ld0 hz 1 false (by decide)]
        refine CallK.of (s61 _ _ _ _) ?_
        by_cases h2 : inQ z
        · have h2' : 0 ≤ z ∧ z ≤ 10000 := h2
          simp (maxSteps := 4000000) -implicitDefEqProofs -dsimp (disch := omega) only [↓AW_skip, ↓AW_ops, ↓AW_cond, ↓AOps_nil, ↓AOps_pu, on_some, extK_same, condB_f, ↓then_normal, ↓inBlock_normal, pval, rd_S, rd_C, put_S, eq_self, mk, List.foldl_cons, List.foldl_nil, List.replicate_succ, List.replicate_zero, List.set_cons_zero, List.set_cons_succ, List.getElem?_cons_zero, List.getElem?_cons_succ, Option.getD_some, List.length_cons, List.length_nil, Nat.reduceAdd, Nat.zero_add, bin_add, w64, Bool.not_true, decide_true, true_and, and_true, h2']
          exact ⟨i + 1, ⟨hlt, take_all2 he hz h2⟩, by simp [Has, rd_s, prs_succ hz], by omega⟩
        · have h2' : ¬ (0 ≤ z ∧ z ≤ 10000) := h2
          simp (maxSteps := 4000000) -implicitDefEqProofs -dsimp (disch := omega) only [↓AW_ops, ↓AW_seq, ↓AW_cond, ↓AW_ret, ↓AOps_nil, ↓AOps_pu, on_some, extK_same, condB_t, ↓then_normal, ↓then_ret, ↓inBlock_ret, ↓Fin_ret, pval, rd_S, rd_C, put_S, resV, resL, mk, List.foldl_cons, List.foldl_nil, List.replicate_succ, List.replicate_zero, List.set_cons_zero, List.set_cons_succ, List.getElem?_cons_zero, List.getElem?_cons_succ, Option.getD_some, Bool.not_false, decide_false, h2']
          have : ¬ ∀ p ∈ ps, inQ p := fun h => h2 (h z (List.mem_of_getElem? hz))
          exact gc_same (by simp only [paE, h0, if_true, h1, and_self, this, if_false])
      · have hlt' : ¬ ((i : Int) < ps.length) := by omega
        have hii : i = ps.length := by omega
        rw [List.take_of_length_le (by omega)] at he
        have hsum : prs ps i = ps.sum := by unfold prs; rw [List.take_of_length_le (by omega)]
        rw [hsum]
        simp (maxSteps := 4000000) -implicitDefEqProofs -dsimp (disch := omega) only [↓AW_ops, ↓AW_seq, ↓AW_cond, ↓AW_exit, ↓AOps_nil, ↓AOps_pu, ↓AOps_call, on_some, condB_f, ↓then_normal, ↓then_exit, ↓inBlock_exit, pval, rd_S, put_S, eq_self, mk, List.foldl_cons, List.foldl_nil, List.replicate_succ, List.replicate_zero, List.set_cons_zero, List.set_cons_succ, List.getElem?_cons_zero, List.getElem?_cons_succ, Option.getD_some, map_c, map_n, bin_lss, if_true, decide_false, hlt']
        refine CallK.of (s65 hf hg) ?_
        by_cases h3 : ps.sum = tot f
        · simp (maxSteps := 4000000) -implicitDefEqProofs -dsimp (disch := omega) only [↓AW_skip, ↓AW_ops, ↓AW_seq, ↓AW_cond, ↓AW_ret, ↓AOps_nil, ↓AOps_pu, on_some, extK_same, condB_f, ↓then_normal, ↓Fin_ret, pval, rd_S, rd_C, put_S, resV, resL, eq_self, mk, List.foldl_cons, List.foldl_nil, List.replicate_succ, List.replicate_zero, List.set_cons_zero, List.set_cons_succ, List.getElem?_cons_zero, List.getElem?_cons_succ, Option.getD_some, bin_neq, decide_false, not_true_eq_false, h3]
          exact gc_same (by simp [paE, h0, h1, h3]; exact he)
        · simp (maxSteps := 4000000) -implicitDefEqProofs -dsimp (disch := omega) only [↓AW_ops, ↓AW_seq, ↓AW_cond, ↓AW_ret, ↓AOps_nil, ↓AOps_pu, on_some, extK_same, condB_t, ↓then_normal, ↓then_ret, ↓Fin_ret, pval, rd_S, rd_C, put_S, resV, resL, mk, List.foldl_cons, List.foldl_nil, List.replicate_succ, List.replicate_zero, List.set_cons_zero, List.set_cons_succ, List.getElem?_cons_zero, List.getElem?_cons_succ, Option.getD_some, bin_neq, decide_true, not_false_eq_true, h3]
          exact gc_same (by simp [paE, h0, h1, h3]; exact he)
    · simp (maxSteps := 4000000) -implicitDefEqProofs -dsimp (disch := omega) only [↓AW_ops, ↓AW_seq, ↓AW_cond, ↓AW_ret, ↓AOps_nil, ↓AOps_pu, on_some, extK_same, condB_t, ↓then_normal, ↓then_ret, ↓Fin_ret, pval, rd_S, rd_C, put_S, resV, resL, List.replicate_succ, List.replicate_zero, List.set_cons_zero, List.set_cons_succ, List.getElem?_cons_zero, List.getElem?_cons_succ, Option.getD_some, Nat.reduceSub, List.cons_append, List.nil_append, Bool.not_false, decide_false, h1]
      exact gc_same (by simp only [paE, h0, if_true, h1, if_false])
  · simp (maxSteps := 4000000) -implicitDefEqProofs -dsimp (disch := omega) only [↓AW_ops, ↓AW_seq, ↓AW_cond, ↓AW_ret, ↓AOps_nil, ↓AOps_pu, on_some, extK_same, condB_t, ↓then_normal, ↓then_ret, ↓Fin_ret, pval, rd_S, rd_C, put_S, resV, resL, List.replicate_succ, List.replicate_zero, List.set_cons_zero, List.set_cons_succ, List.getElem?_cons_zero, List.getElem?_cons_succ, Option.getD_some, Nat.reduceSub, List.cons_append, List.nil_append, bin_neq, decide_true, not_false_eq_true, h0]
    exact gc_same (by simp only [paE, h0, if_false])
def cuL (f : List (Int × Int)) (ps : List Int) : List (Int × Int) := if paE f ps = 0 then (List.range (ps.length - 1)).map (fun k => pR (cA f ps (k + 1))) else []
theorem s50 {f : List (Int × Int)} {ps : List Int} {v u : AV} {A : AHeap} (hf : L2 A v f) (hp : L1 A u ps) : ACalls Try.prog 50 [v, u] A (.tuple [outV 2 A (cuL f ps).length, I (paE f ps)]) (outH A ((cuL f ps).flatMap e2) (cuL f ps).length) := by
  refine acalls hmix Try.func50 (by kernel_rfl) t50 2 rfl (by decide) ?_
  dsimp only [m50]
  simp (maxSteps := 4000000) -implicitDefEqProofs -dsimp (disch := omega) only [↓AW_ops, ↓AW_seq, ↓AOps_nil, ↓AOps_pu, ↓AOps_call, on_some, ↓then_normal, pval, rd_S, rd_C, put_S, List.replicate_succ, List.replicate_zero, List.set_cons_zero, List.set_cons_succ, List.getElem?_cons_zero, List.getElem?_cons_succ, Option.getD_some, map_c, map_n, Nat.reduceSub, List.cons_append, List.nil_append]
  refine CallK.of (s87 hf hp) ?_
  by_cases hE : paE f ps = 0
  · obtain ⟨h0, h1, hfit⟩ := paE_0 hE
    have hg := (good_of h0).1
    have hL : cuL f ps = (List.range (ps.length - 1)).map (fun k => pR (cA f ps (k + 1))) := by unfold cuL; rw [if_pos hE]
    rw [hL, hE]
    obtain ⟨w, hw, hLw⟩ := Ls_takeS hp (ps.length - 1) (by omega)
    have hk : (ps.length : Int) - 1 = ((ps.length - 1 : Nat) : Int) := by omega
    have hwl : (ps.take (ps.length - 1)).length = ps.length - 1 := by rw [List.length_take]; omega
    have hlen := hLw.len
    rw [hwl] at hlen
    generalize hm : ps.length - 1 = m at *
    simp (maxSteps := 4000000) -implicitDefEqProofs -dsimp (disch := omega) only [↓AW_skip, ↓AW_ops, ↓AW_seq, ↓AW_cond, ↓AW_block, ↓AOps_nil, ↓AOps_pu, on_some, extK_same, condB_f, ↓then_normal, pval, rd_S, rd_C, put_S, ↓AW_toLoop, eq_self, List.replicate_succ, List.replicate_zero, List.set_cons_zero, List.set_cons_succ, List.getElem?_cons_zero, List.getElem?_cons_succ, Option.getD_some, Option.map_some, Option.map_none, Nat.reduceSub, List.cons_append, List.nil_append, bin_sub, bin_neq, w64, decide_false, not_true_eq_false, hp.len, hk, hw, hlen]
    refine LoopK.by 35 (fun x : Nat × AV × AHeap => x.1 ≤ m ∧ AccL 2 e2 A x.2.2 x.2.1 (((ps.take x.1).map (fun (p : Int) => (p : Rat))).map pR)) (fun x => [(0, v), (7, x.2.1), (20, w), (21, I m), (22, I x.1)]) (fun x => x.2.2) (fun x => m - x.1) (0, .nilS, A) ⟨by simp only; omega, by simpa using AccL.nil (List.prefix_refl _)⟩ rfl (by simp [Has, rd_s]) rfl ?_
    rintro ⟨i, o, A1⟩ ⟨hi, ho⟩
    simp only at hi ho
    by_cases hlt : i < m
    · have hlt' : (i : Int) < m := by omega
      obtain ⟨z, hz⟩ : ∃ z, ps[i]? = some z := ⟨_, List.getElem?_eq_getElem (by omega)⟩
      have hzw : (ps.take m)[i]? = some z := by rw [List.getElem?_take, if_pos hlt]; exact hz
      have hil : i < (ps.take m).length := by omega
      have hw1 := hLw.mono ho.pre
      simp (maxSteps := 4000000) -implicitDefEqProofs -dsimp (disch := omega) only [↓AW_skip, ↓AW_ops, ↓AW_seq, ↓AW_cond, ↓AW_block, ↓AOps_nil, ↓AOps_pu, ↓AOps_ld, ↓AOps_call, on_some, condB_t, ↓then_normal, pval, lval, rd_S, put_S, partA, eq_self, mk, List.foldl_cons, List.foldl_nil, List.replicate_succ, List.replicate_zero, List.set_cons_zero, List.set_cons_succ, List.getElem?_cons_zero, List.getElem?_cons_succ, List.drop_zero, List.take_succ_cons, List.take_nil, Option.getD_some, map_c, map_n, List.length_cons, List.length_nil, Nat.reduceLeDiff, Nat.zero_add, bin_lss, if_true, if_false, Bool.false_eq_true, decide_true, Go.Eng.e1, hlt', hw1.idx hil, hw1.ld0 hzw 1 false (by decide)]
      obtain ⟨v3, A3, happ, h3⟩ := ho.push e2_len (pR (z : Rat)) (by simp [lim]; omega)
      simp only [Go.Eng.e2] at happ
      refine CallK.of (s78 _ _) ?_
      simp (maxSteps := 4000000) -implicitDefEqProofs -dsimp (disch := omega) only [↓AW_ops, ↓AOps_nil, ↓AOps_pu, ↓AOps_ha, on_some, extK_false, extK_app, extK_same, ↓then_normal, ↓inBlock_normal, pval, hval, rd_S, rd_C, put_S, AV.cells?, splice, fillA, repl, eq_self, mk, List.foldl_cons, List.foldl_nil, List.replicate_succ, List.replicate_zero, List.set_cons_zero, List.set_cons_succ, List.getElem?_cons_zero, List.getElem?_cons_succ, List.drop_succ_cons, List.drop_nil, List.take_zero, Option.getD_some, map_c, map_n, List.length_cons, List.length_nil, Nat.reduceAdd, Nat.reduceLeDiff, Nat.zero_add, List.nil_append, List.append_nil, bin_add, w64, if_true, true_and, and_true, happ]
      refine ⟨(i + 1, v3, A3), ⟨hlt, ?_⟩, by simp [Has, rd_s], rfl, by simp only; omega⟩
      simp only
      rw [List.take_add_one, hz, Option.toList_some, List.map_append, List.map_append]
      exact h3
    · have him : i = m := by omega
      subst him
      have hlt' : ¬ ((i : Int) < i) := by omega
      have hy := AccL_ls ho e2_len
      simp (maxSteps := 4000000) -implicitDefEqProofs -dsimp (disch := omega) only [↓AW_ops, ↓AW_seq, ↓AW_cond, ↓AW_exit, ↓AOps_nil, ↓AOps_pu, ↓AOps_call, on_some, condB_f, ↓then_normal, ↓then_exit, ↓inBlock_exit, pval, rd_S, put_S, eq_self, mk, List.foldl_cons, List.foldl_nil, List.replicate_succ, List.replicate_zero, List.set_cons_zero, List.set_cons_succ, List.getElem?_cons_zero, List.getElem?_cons_succ, Option.getD_some, map_c, map_n, bin_lss, if_true, decide_false, hlt']
      have hwsl : ((ps.take i).map (fun (p : Int) => (p : Rat))).length = i := by rw [List.length_map]; exact hwl
      have h62 := s62 (hf.mono ho.pre) hg hy (by rw [hwsl]; omega) 1 (by omega) (cA f ps) rfl (fun k w hk => by
        rw [List.getElem?_map, Option.map_eq_some_iff] at hk
        obtain ⟨p, hkp, rfl⟩ := hk
        have hki : k < i := by have := (List.getElem?_eq_some_iff.1 hkp).1; omega
        have hkp : ps[k]? = some p := by rw [List.getElem?_take, if_pos hki] at hkp; exact hkp
        have hq := hfit.1 p (List.mem_of_getElem? hkp)
        obtain ⟨b1, b2, b3⟩ := cA_facts hg hfit k (by omega)
        exact ⟨Pl.of b1.1 b1.2 (by omega), by rw [b2]; exact Dv_int 1 _, Dv_int 1 _, cast_nonneg hq.1, Rat.intCast_le_intCast.2 hq.2, (cA_step hg hfit hkp).1⟩)
      rw [hwsl] at h62
      refine CallK.of h62 ?_
      simp (maxSteps := 4000000) -implicitDefEqProofs -dsimp (disch := omega) only [↓AW_ret, ↓AOps_nil, ↓AOps_pu, on_some, extK_false, ↓then_normal, ↓Fin_ret, pval, rd_S, rd_C, put_S, resV, resL, mk, List.foldl_cons, List.foldl_nil, List.replicate_succ, List.replicate_zero, List.set_cons_zero, List.set_cons_succ, List.getElem?_cons_zero, List.getElem?_cons_succ, Option.getD_some]
      have hacc := AccL_out ho.pre e2_len ((List.range i).map (fun k => pR (cA f ps (k + 1))))
      simp only [List.length_map, List.length_range] at hacc
      have := hacc.gc2 flat_e2 (I 0) rfl
      simpa using this
  · have hL : cuL f ps = [] := by unfold cuL; rw [if_neg hE]
    rw [hL]
    simp (maxSteps := 4000000) -implicitDefEqProofs -dsimp (disch := omega) only [↓AW_ops, ↓AW_seq, ↓AW_cond, ↓AW_ret, ↓AOps_nil, ↓AOps_pu, on_some, extK_same, condB_t, ↓then_normal, ↓then_ret, ↓Fin_ret, pval, rd_S, rd_C, put_S, resV, resL, List.replicate_succ, List.replicate_zero, List.set_cons_zero, List.set_cons_succ, List.getElem?_cons_zero, List.getElem?_cons_succ, Option.getD_some, List.length_nil, Nat.reduceSub, List.cons_append, List.nil_append, bin_neq, decide_true, not_false_eq_true, hE]
    exact gc_same_all rfl rfl
end Go.Proofs.Ytnnbggcckabhdaa

namespace Go.Proofs.Ytnnbggcckabhdaa
open Go Go.Eng
end Go.Proofs.Ytnnbggcckabhdaa

namespace Go.Eng
open Go
section
variable {P : Program} {α : Type}
end
end Go.Eng

namespace Go.Eng
open Go
end Go.Eng

namespace Go.Proofs.Ytnnbggcckabhdaa
open Go Go.Eng
def zpos (g : (Int × Int) → Bool) (xs : List (Int × Int)) : Int := match xs.findIdx? g with | some i => i | none => -1
theorem zpos_some {g : (Int × Int) → Bool} {xs : List (Int × Int)} {i : Nat} {z : Int × Int} (h : ∀ y ∈ xs.take i, g y = false) (hz : xs[i]? = some z) (hg : g z = true) : zpos g xs = i := by
  have hi : i < xs.length := (List.getElem?_eq_some_iff.1 hz).1
  have he : xs[i] = z := (List.getElem?_eq_some_iff.1 hz).2
  have : xs.findIdx? g = some i := by
    rw [List.findIdx?_eq_some_iff_getElem]
    refine ⟨hi, by rw [he]; exact hg, fun j hj => ?_⟩
    have : xs[j]'(by omega) ∈ xs.take i := by
      rw [List.mem_take_iff_getElem]
      exact ⟨j, by omega, rfl⟩
    simp [h _ this]
  unfold zpos
  rw [this]
theorem zpos_none {g : (Int × Int) → Bool} {xs : List (Int × Int)} (h : ∀ y ∈ xs, g y = false) : zpos g xs = -1 := by
  have : xs.findIdx? g = none := by
    rw [List.findIdx?_eq_none_iff]
    exact h
  unfold zpos
  rw [this]
theorem zpos_iff (g : (Int × Int) → Bool) (xs : List (Int × Int)) : 0 ≤ zpos g xs ↔ xs.any g = true := by
  unfold zpos
  cases h : xs.findIdx? g with
  | some i =>
    rw [List.findIdx?_eq_some_iff_getElem] at h
    obtain ⟨hi, hg, _⟩ := h
    simp only [Int.natCast_nonneg, true_iff, List.any_eq_true]
    exact ⟨_, List.getElem_mem hi, hg⟩
  | none =>
    rw [List.findIdx?_eq_none_iff] at h
    constructor
    · intro h1; simp at h1
    · intro h1
      rw [List.any_eq_true] at h1
      obtain ⟨x, hx, hg⟩ := h1
      rw [h x hx] at hg; cases hg
end Go.Proofs.Ytnnbggcckabhdaa

namespace Go.Proofs.Ytnnbggcckabhdaa
open Go Go.Eng
/-- A place, as a cut may be. -/
def isM (f : List (Int × Int)) (r : Int × Int) : Prop := ((1 ≤ r.2 ∧ r.2 ≤ 1000000) ∧ Int.gcd r.1 r.2 = 1) ∧ (0 ≤ r.1 ∧ r.1 ≤ len f * r.2)
instance (f : List (Int × Int)) (r : Int × Int) : Decidable (isM f r) := by unfold isM; exact inferInstance
theorem isM_R {f : List (Int × Int)} {r : Int × Int} (h : isM f r) : r = pR (qr r) ∧ Pl f (qr r) := by
  obtain ⟨⟨⟨h1, h2⟩, h3⟩, h4, h5⟩ := h
  have e := R_of (a := r.1) (b := r.2) (by omega) h3
  obtain ⟨e1, e2⟩ := R_inj e.symm
  refine ⟨Prod.ext e1.symm e2.symm, ⟨by rw [e1]; exact h4, by rw [e1, e2]; exact h5⟩, by rw [e2]; omega⟩
theorem isM_of {f : List (Int × Int)} {q : Rat} (h0 : 0 ≤ q) (h1 : q ≤ ((len f : Int) : Rat)) (hd : (q.den : Int) ≤ 1000000) : isM f (pR q) := by
  have hp := Pl.of (f := f) h0 h1 (by omega)
  have := den_pos q
  refine ⟨⟨⟨by simp only; omega, hd⟩, ?_⟩, hp.1⟩
  have := q.reduced
  simpa [Int.gcd] using this
theorem qr_pR (q : Rat) : qr (pR q) = q := (R_self q).symm
theorem L2_cells {α : Type} {es : Nat} {e : α → List AV} {A : AHeap} {u : AV} {xs : List α} (h : Ls es e A u xs) : u.cells? = some [u] := by
  rcases h.inv with ⟨rfl, _⟩ | ⟨n, off, full, rw, l, rfl, _⟩ <;> rfl
theorem ld_new (A : AHeap) (x : AV) (l : List AV) : ldA 1 false (.ptr A.length 0) (A ++ [.cells true (x :: l)]) = some x := by
  simp [ldA, partA]
theorem s89 {f : List (Int × Int)} {v : AV} {A : AHeap} {n : Nat} (hf : L2 A v f) (hg : good f) (hl : ldA 1 false (.ptr n 0) A = some v) (r : Int × Int) (h : W r.1) : ACalls Try.prog 89 [.agg [I r.1, I r.2], .ptr n 0] A (B (!decide (isM f r))) A := by
  refine acalls hmix Try.func89 (by kernel_rfl) t89 2 rfl (by decide) ?_
  dsimp only [m89]
  simp (maxSteps := 4000000) -implicitDefEqProofs -dsimp (disch := omega) only [↓AW_ops, ↓AW_seq, ↓AOps_nil, ↓AOps_pu, ↓AOps_ld, ↓AOps_call, on_some, ↓then_normal, pval, lval, rd_S, rd_C, put_S, chkd, bgot, AV.cells?, partA, eq_self, List.replicate_succ, List.replicate_zero, List.set_cons_zero, List.set_cons_succ, List.getElem?_cons_zero, List.getElem?_cons_succ, List.drop_zero, List.take_succ_cons, List.take_nil, Option.getD_some, map_c, map_n, List.length_cons, List.length_nil, Nat.reduceAdd, Nat.reduceSub, Nat.reduceLeDiff, Nat.reduceEqDiff, Nat.zero_add, List.cons_append, List.nil_append, if_true, if_false, hl]
  refine CallK.of (s71 hf hg r 1000000 h (by omega)) ?_
  simp (maxSteps := 4000000) -implicitDefEqProofs -dsimp (disch := omega) only [↓AW_ret, ↓AOps_nil, ↓AOps_pu, on_some, extK_same, ↓then_normal, ↓Fin_ret, pval, rd_S, put_S, resV, resL, List.replicate_succ, List.replicate_zero, List.set_cons_zero, List.set_cons_succ, List.getElem?_cons_zero, List.getElem?_cons_succ, Option.getD_some, Nat.reduceSub, List.cons_append, List.nil_append]
  exact gc_same rfl
theorem c_IndexFuncR {xs : List (Int × Int)} {v : AV} {A : AHeap} (hx : L2 A v xs) (hl : xs.length ≤ 1000000) (f : FuncId) (cap : List AV) (g : (Int × Int) → Bool) (hg : ∀ x ∈ xs, ACalls Try.prog f ([.agg [I x.1, I x.2]] ++ cap) A (B (g x)) A) : ACalls Try.prog 115 [v, .fn f cap] A (I (zpos g xs)) A := by
  refine acalls hmix Try.func115 (by kernel_rfl) t115 2 rfl (by decide) ?_
  dsimp only [m115]
  simp (maxSteps := 4000000) -implicitDefEqProofs -dsimp (disch := omega) only [↓AW_ops, ↓AW_seq, ↓AW_block, ↓AOps_nil, ↓AOps_pu, on_some, ↓then_normal, pval, rd_S, rd_C, put_S, ↓AW_toLoop, List.replicate_succ, List.replicate_zero, List.set_cons_zero, List.set_cons_succ, List.getElem?_cons_zero, List.getElem?_cons_succ, Option.getD_some, Nat.reduceSub, List.cons_append, List.nil_append, hx.len]
  refine LoopK.by 19 (fun i : Nat => i ≤ xs.length ∧ ∀ y ∈ xs.take i, g y = false) (fun i => [(0, v), (1, .fn f cap), (7, I xs.length), (8, I i)]) (fun _ => A) (fun i => xs.length - i) 0 ⟨by omega, by simp⟩ rfl (by simp [Has, rd_s]) rfl ?_
  rintro i ⟨hi, he⟩
  by_cases hlt : i < xs.length
  · obtain ⟨z, hz⟩ : ∃ z, xs[i]? = some z := ⟨_, List.getElem?_eq_getElem hlt⟩
    have hlt' : (i : Int) < xs.length := by omega
    simp (maxSteps := 4000000) -implicitDefEqProofs -dsimp (disch := omega) only [↓AW_skip, ↓AW_ops, ↓AW_seq, ↓AW_cond, ↓AW_block, ↓AOps_nil, ↓AOps_pu, ↓AOps_ld, ↓AOps_callv, on_some, CallF_fn, condB_t, ↓then_normal, pval, lval, rd_S, put_S, partA, eq_self, mk, List.foldl_cons, List.foldl_nil, List.replicate_succ, List.replicate_zero, List.set_cons_zero, List.set_cons_succ, List.getElem?_cons_zero, List.getElem?_cons_succ, List.drop_zero, List.take_succ_cons, List.take_nil, Option.getD_some, map_c, map_n, List.length_cons, List.length_nil, Nat.reduceAdd, Nat.reduceLeDiff, Nat.reduceEqDiff, Nat.zero_add, List.cons_append, List.nil_append, bin_lss, if_true, if_false, decide_true, Go.Eng.e2, hlt', hx.idx hlt, hx.ld0 hz 2 true (by decide)]
    refine CallK.of (hg z (List.mem_of_getElem? hz)) ?_
    by_cases h : g z = true
    · simp (maxSteps := 4000000) -implicitDefEqProofs -dsimp (disch := omega) only [↓AW_ops, ↓AW_seq, ↓AW_cond, ↓AW_ret, ↓AOps_nil, ↓AOps_pu, on_some, extK_same, condB_t, ↓then_normal, ↓then_ret, ↓inBlock_ret, ↓Fin_ret, pval, rd_S, put_S, resV, resL, mk, List.foldl_cons, List.foldl_nil, List.replicate_succ, List.replicate_zero, List.set_cons_zero, List.set_cons_succ, List.getElem?_cons_zero, List.getElem?_cons_succ, Option.getD_some, h]
      exact gc_same (by rw [zpos_some he hz h])
    · have h : g z = false := by simpa using h
      simp (maxSteps := 4000000) -implicitDefEqProofs -dsimp (disch := omega) only [↓AW_skip, ↓AW_ops, ↓AW_cond, ↓AOps_nil, ↓AOps_pu, on_some, extK_same, condB_f, ↓then_normal, ↓inBlock_normal, pval, rd_S, rd_C, put_S, eq_self, mk, List.foldl_cons, List.foldl_nil, List.replicate_succ, List.replicate_zero, List.set_cons_zero, List.set_cons_succ, List.getElem?_cons_zero, List.getElem?_cons_succ, Option.getD_some, List.length_cons, List.length_nil, Nat.reduceAdd, Nat.zero_add, bin_add, w64, true_and, h]
      exact ⟨i + 1, ⟨hlt, take_all2 he hz h⟩, by simp [Has, rd_s], by omega⟩
  · have hlt' : ¬ ((i : Int) < xs.length) := by omega
    simp (maxSteps := 4000000) -implicitDefEqProofs -dsimp (disch := omega) only [↓AW_ops, ↓AW_seq, ↓AW_cond, ↓AW_exit, ↓AW_ret, ↓AOps_nil, ↓AOps_pu, on_some, condB_f, ↓then_normal, ↓then_exit, ↓inBlock_exit, ↓Fin_ret, pval, rd_S, rd_C, put_S, resV, resL, eq_self, mk, List.foldl_cons, List.foldl_nil, List.replicate_succ, List.replicate_zero, List.set_cons_zero, List.set_cons_succ, List.getElem?_cons_zero, List.getElem?_cons_succ, Option.getD_some, bin_lss, if_true, decide_false, Int.reduceNeg, hlt']
    rw [List.take_of_length_le (by omega)] at he
    exact gc_same (by rw [zpos_none he])
theorem c_ContainsFuncR {xs : List (Int × Int)} {v : AV} {A : AHeap} (hx : L2 A v xs) (hl : xs.length ≤ 1000000) (f : FuncId) (cap : List AV) (g : (Int × Int) → Bool) (hg : ∀ x ∈ xs, ACalls Try.prog f ([.agg [I x.1, I x.2]] ++ cap) A (B (g x)) A) : ACalls Try.prog 88 [v, .fn f cap] A (B (xs.any g)) A := by
  refine acalls hmix Try.func88 (by kernel_rfl) t88 2 rfl (by decide) ?_
  dsimp only [m88]
  simp (maxSteps := 4000000) -implicitDefEqProofs -dsimp (disch := omega) only [↓AW_ops, ↓AW_seq, ↓AOps_nil, ↓AOps_pu, ↓AOps_call, on_some, ↓then_normal, pval, rd_S, rd_C, put_S, List.replicate_succ, List.replicate_zero, List.set_cons_zero, List.set_cons_succ, List.getElem?_cons_zero, List.getElem?_cons_succ, Option.getD_some, map_c, map_n, Nat.reduceSub, List.cons_append, List.nil_append]
  refine CallK.of (c_IndexFuncR hx hl f cap g hg) ?_
  simp (maxSteps := 4000000) -implicitDefEqProofs -dsimp (disch := omega) only [↓AW_ret, ↓AOps_nil, ↓AOps_pu, on_some, extK_same, ↓then_normal, ↓Fin_ret, pval, rd_S, rd_C, put_S, resV, resL, List.replicate_succ, List.replicate_zero, List.set_cons_zero, List.set_cons_succ, List.getElem?_cons_zero, List.getElem?_cons_succ, Option.getD_some, Nat.reduceSub, List.cons_append, List.nil_append, bin_geq]
  refine gc_same ?_
  congr 1
  rw [Bool.eq_iff_iff, decide_eq_true_iff, zpos_iff]
/-- A list of fractions is copied, and one is put behind it. -/
theorem c_CloneR {xs : List (Int × Int)} {v : AV} {A : AHeap} (hx : L2 A v xs) (hl : xs.length ≤ 1000000) :
    ∃ y A1, ACalls Try.prog 90 [v] A y A1 ∧ A <+: A1 ∧ ∀ x : Int × Int, ∃ y2 A2, appA 2 (A1 ++ [.cells true [I x.1, I x.2]]) y (.sl 2 A1.length 0 1 true) = some (y2, A2) ∧ AccL 2 e2 A A2 y2 (xs ++ [x]) := by
  rcases hx.inv with ⟨rfl, rfl⟩ | ⟨n', off, full, rw, l, rfl, _⟩
  · refine ⟨.nilS, A, ?_, List.prefix_refl _, fun x => ?_⟩
    · refine acalls hmix Try.func90 (by kernel_rfl) t90 1 rfl (by decide) ?_
      dsimp only [m90]
      simp (maxSteps := 4000000) -implicitDefEqProofs -dsimp (disch := omega) only [↓AW_ops, ↓AW_seq, ↓AW_cond, ↓AW_ret, ↓AOps_nil, ↓AOps_pu, on_some, condB_t, ↓then_normal, ↓then_ret, ↓Fin_ret, pval, rd_S, rd_C, put_S, resV, resL, List.replicate_succ, List.replicate_zero, List.set_cons_zero, List.set_cons_succ, List.getElem?_cons_zero, List.getElem?_cons_succ, Option.getD_some, Nat.reduceSub, List.cons_append, List.nil_append, Bool.not_false]
      exact gc_same rfl
    · obtain ⟨v', H2, h1, h2⟩ := (AccL.nil (es := 2) (e := e2) (List.prefix_refl A)).push e2_len x (by simp [lim])
      exact ⟨v', H2, h1, h2⟩
  · refine ⟨.sl 2 A.length 0 xs.length false, A ++ [.cells true (xs.flatMap e2)], ?_, pre_app _ _, fun x => ?_⟩
    · refine acalls hmix Try.func90 (by kernel_rfl) t90 1 rfl (by decide) ?_
      obtain ⟨v', n, H2, happ, ho⟩ := app_new hx (by simp [lim]; omega)
      dsimp only [m90]
      simp (maxSteps := 4000000) -implicitDefEqProofs -dsimp (disch := omega) only [↓AW_skip, ↓AW_ops, ↓AW_seq, ↓AW_cond, ↓AW_ret, ↓AOps_nil, ↓AOps_pu, ↓AOps_ha, on_some, extK_false, extK_app, condB_f, ↓then_normal, ↓Fin_ret, pval, hval_blds, hval_app, rd_S, rd_C, put_S, resV, resL, fillA, repl, List.replicate_succ, List.replicate_zero, List.set_cons_zero, List.set_cons_succ, List.getElem?_cons_zero, List.getElem?_cons_succ, Option.getD_some, map_n, Nat.reduceSub, List.cons_append, List.nil_append, List.replicate_zero, repl, happ]
      exact OL_gcS ho flat_e2
    · have ho := OL.new_mk e2_len A xs false
      by_cases h0 : 0 < xs.length
      · obtain ⟨v', H2, h1, h2⟩ := (ho.acc h0).push e2_len x (by simp [lim]; omega)
        exact ⟨v', H2, h1, h2⟩
      · have : xs = [] := List.eq_nil_of_length_eq_zero (by omega)
        subst this
        have hc := slCells_new (es := 2) (A ++ [AObj.cells true (([] : List (Int × Int)).flatMap e2)]) [I x.1, I x.2] rfl
        refine ⟨.sl 2 (A.length + 2) 0 1 false, ((A ++ [AObj.cells true []]) ++ [AObj.cells true [I x.1, I x.2]]).set A.length .dead ++ [AObj.cells true [I x.1, I x.2]], ?_, ?_, rfl, .inr ⟨by simp, A.length + 2, rfl, by omega, by simp; rfl⟩⟩
        · unfold appA
          rw [hc]
          simp [lim]
        · refine (pre_set ?_ (Nat.le_refl _) _).trans (pre_app _ _)
          rw [List.append_assoc]
          exact pre_app _ _
/-- Each one is at most the next one. -/
def srtB : List Rat → Bool
  | a :: b :: l => decide (a ≤ b) && srtB (b :: l)
  | _ => true
theorem srtB_step : ∀ (l : List Rat) (i : Nat) (a b : Rat), l[i]? = some a → l[i + 1]? = some b → srtB (l.take (i + 1 + 1)) = (srtB (l.take (i + 1)) && decide (a ≤ b))
  | [], _, _, _, h, _ => by simp at h
  | [x], i, a, b, _, hb => by simp at hb
  | x :: y :: l, 0, a, b, ha, hb => by
    have h1 : x = a := by simpa using ha
    have h2 : y = b := by simpa using hb
    subst h1
    subst h2
    simp [srtB]
  | x :: y :: l, i + 1, a, b, ha, hb => by
    have ih := srtB_step (y :: l) i a b (by simpa using ha) (by simpa using hb)
    simp only [List.take_succ_cons, srtB] at ih ⊢
    rw [ih, Bool.and_assoc]
theorem srtB_pre : ∀ (l : List Rat) (i : Nat), srtB l = true → srtB (l.take i) = true
  | [], i, _ => by simp [srtB]
  | [x], i, _ => by cases i <;> simp [srtB]
  | x :: y :: l, 0, _ => by simp [srtB]
  | x :: y :: l, 1, _ => by simp [srtB]
  | x :: y :: l, i + 2, h => by
    simp only [srtB, Bool.and_eq_true] at h
    have ih := srtB_pre (y :: l) (i + 1) h.2
    simp only [List.take_succ_cons, srtB, Bool.and_eq_true] at ih ⊢
    exact ⟨h.1, ih⟩
theorem srtB_le {l : List Rat} (h : srtB l = true) {i : Nat} {a b : Rat} (ha : l[i]? = some a) (hb : l[i + 1]? = some b) : a ≤ b := by
  have h1 := srtB_pre l (i + 1 + 1) h
  rw [srtB_step l i a b ha hb, Bool.and_eq_true] at h1
  simpa using h1.2
theorem s91 {qs : List Rat} {v : AV} {A : AHeap} (hx : L2 A v (qs.map pR)) (hs : ∀ q ∈ qs, Sm q) (hl : qs.length ≤ 1000) : ACalls Try.prog 91 [v, .fn 72 []] A (B (srtB qs)) A := by
  refine acalls hmix Try.func91 (by kernel_rfl) t91 2 rfl (by decide) ?_
  dsimp only [m91]
  simp (maxSteps := 4000000) -implicitDefEqProofs -dsimp (disch := omega) only [↓AW_ops, ↓AW_seq, ↓AW_block, ↓AOps_nil, ↓AOps_pu, on_some, ↓then_normal, pval, rd_C, put_S, ↓AW_toLoop, List.replicate_succ, List.replicate_zero, List.set_cons_zero, List.set_cons_succ, Nat.reduceSub, List.cons_append, List.nil_append]
  refine LoopK.by 24 (fun i : Nat => srtB (qs.take (i + 1)) = true ∧ i ≤ qs.length) (fun i => [(0, v), (1, .fn 72 []), (5, I ((i : Int) + 1))]) (fun _ => A) (fun i => qs.length - i) 0 ⟨by cases qs <;> simp [srtB], by omega⟩ rfl (by simp [Has, rd_s]) rfl ?_
  rintro i ⟨he, hi⟩
  have hlen := hx.len
  rw [List.length_map] at hlen
  by_cases hlt : i + 1 < qs.length
  · have hlt' : (i : Int) + 1 < qs.length := by omega
    obtain ⟨a, ha⟩ : ∃ a, qs[i]? = some a := ⟨_, List.getElem?_eq_getElem (by omega)⟩
    obtain ⟨b, hb⟩ : ∃ b, qs[i + 1]? = some b := ⟨_, List.getElem?_eq_getElem hlt⟩
    have ha' : (qs.map pR)[i]? = some (pR a) := by rw [List.getElem?_map, ha]; rfl
    have hb' : (qs.map pR)[i + 1]? = some (pR b) := by rw [List.getElem?_map, hb]; rfl
    have i1 : i < (qs.map pR).length := by simp; omega
    have i2 : i + 1 < (qs.map pR).length := by simpa using hlt
    have hk : (i : Int) + 1 - 1 = i := by omega
    have hk2 : (i : Int) + 1 = ((i + 1 : Nat) : Int) := by omega
    have hidx2 := hx.idx (k := .i64) i2
    rw [← hk2] at hidx2
    have hst := srtB_step qs i a b ha hb
    simp (maxSteps := 4000000) -implicitDefEqProofs -dsimp (disch := omega) only [↓AW_skip, ↓AW_ops, ↓AW_seq, ↓AW_cond, ↓AW_block, ↓AOps_nil, ↓AOps_pu, ↓AOps_ld, ↓AOps_callv, on_some, CallF_fn, condB_t, ↓then_normal, pval, lval, rd_S, rd_C, put_S, partA, eq_self, mk, List.foldl_cons, List.foldl_nil, List.replicate_succ, List.replicate_zero, List.set_cons_zero, List.set_cons_succ, List.getElem?_cons_zero, List.getElem?_cons_succ, List.drop_zero, List.take_succ_cons, List.take_nil, Option.getD_some, map_c, map_n, List.length_cons, List.length_nil, Nat.reduceAdd, Nat.reduceLeDiff, Nat.reduceEqDiff, Nat.zero_add, List.append_nil, bin_sub, bin_lss, w64, if_true, if_false, decide_true, Go.Eng.e2, hlt', hlen, hk, hx.idx i1, hidx2, hx.ld0 ha' 2 true (by decide), hx.ld0 hb' 2 true (by decide)]
    refine CallK.of (s72 a b A (hs a (List.mem_of_getElem? ha)) (hs b (List.mem_of_getElem? hb))) ?_
    by_cases h : a ≤ b
    · have hn : ¬ 0 < (a - b).num := fun x => absurd h (Rat.not_le.2 ((sub_pos_iff a b).1 x))
      simp (maxSteps := 4000000) -implicitDefEqProofs -dsimp (disch := omega) only [↓AW_skip, ↓AW_ops, ↓AW_cond, ↓AOps_nil, ↓AOps_pu, on_some, extK_same, condB_f, ↓then_normal, ↓inBlock_normal, pval, rd_S, rd_C, put_S, eq_self, mk, List.foldl_cons, List.foldl_nil, List.replicate_succ, List.replicate_zero, List.set_cons_zero, List.set_cons_succ, List.getElem?_cons_zero, List.getElem?_cons_succ, Option.getD_some, List.length_cons, List.length_nil, Nat.reduceAdd, Nat.zero_add, bin_add, bin_gtr, w64, decide_false, true_and, hn]
      refine ⟨i + 1, ⟨by rw [hst, he]; simpa using h, by omega⟩, by simp [Has, rd_s], by omega⟩
    · have hn : 0 < (a - b).num := (sub_pos_iff a b).2 (Rat.not_le.1 h)
      simp (maxSteps := 4000000) -implicitDefEqProofs -dsimp (disch := omega) only [↓AW_ops, ↓AW_seq, ↓AW_cond, ↓AW_ret, ↓AOps_nil, ↓AOps_pu, on_some, extK_same, condB_t, ↓then_normal, ↓then_ret, ↓inBlock_ret, ↓Fin_ret, pval, rd_S, rd_C, put_S, resV, resL, mk, List.foldl_cons, List.foldl_nil, List.replicate_succ, List.replicate_zero, List.set_cons_zero, List.set_cons_succ, List.getElem?_cons_zero, List.getElem?_cons_succ, Option.getD_some, bin_gtr, decide_true, hn]
      refine gc_same ?_
      congr 1
      cases hsr : srtB qs with
      | false => rfl
      | true => exact absurd (srtB_le hsr ha hb) h
  · have hlt' : ¬ ((i : Int) + 1 < qs.length) := by omega
    simp (maxSteps := 4000000) -implicitDefEqProofs -dsimp (disch := omega) only [↓AW_ops, ↓AW_seq, ↓AW_cond, ↓AW_exit, ↓AW_ret, ↓AOps_nil, ↓AOps_pu, on_some, condB_f, ↓then_normal, ↓then_exit, ↓inBlock_exit, ↓Fin_ret, pval, rd_S, rd_C, put_S, resV, resL, eq_self, mk, List.foldl_cons, List.foldl_nil, List.replicate_succ, List.replicate_zero, List.set_cons_zero, List.set_cons_succ, List.getElem?_cons_zero, List.getElem?_cons_succ, Option.getD_some, bin_lss, if_true, decide_false, hlt', hlen]
    rw [List.take_of_length_le (by omega)] at he
    exact gc_same (by rw [he])
/-- The pieces from 'a' on are worth 'ps'. -/
def okB (f : List (Int × Int)) : Rat → List Rat → List Int → Bool
  | _, [], [] => true
  | a, c :: cs, p :: ps => (decide (a ≤ c) && decide (upTo 0 f c - upTo 0 f a = (p : Rat))) && okB f c cs ps
  | _, _, _ => false
theorem okB_iff (f : List (Int × Int)) : ∀ (cs : List Rat) (a : Rat) (ps : List Int), okB f a cs ps = true ↔ okC f a cs ps
  | [], a, [] => by simp [okB, okC]
  | [], a, _ :: _ => by simp [okB, okC]
  | _ :: _, a, [] => by simp [okB, okC]
  | c :: cs, a, p :: ps => by simp [okB, okC, okB_iff f cs c ps]
theorem okB_srt (f : List (Int × Int)) : ∀ (cs : List Rat) (a : Rat) (ps : List Int), okB f a cs ps = true → srtB cs = true
  | [], _, _, _ => rfl
  | [c], _, _, _ => rfl
  | c :: d :: cs, a, p :: q :: ps, h => by
    simp only [okB, Bool.and_eq_true] at h
    have := okB_srt f (d :: cs) c (q :: ps) (by simp only [okB, Bool.and_eq_true]; exact h.2)
    simp only [srtB, Bool.and_eq_true]
    exact ⟨h.2.1.1, this⟩
  | c :: d :: cs, a, [], h => by simp [okB] at h
  | c :: d :: cs, a, [p], h => by simp [okB] at h
def ends (f : List (Int × Int)) (cs : List (Int × Int)) : List Rat := cs.map qr ++ [((len f : Int) : Rat)]
/-- The error of cuts. -/
def ckE (f : List (Int × Int)) (ps : List Int) (cs : List (Int × Int)) : Int :=
  if paE f ps = 0 then (if cs.length + 1 = ps.length ∧ ∀ r ∈ cs, isM f r then (if okB f 0 (ends f cs) ps = true then 0 else 7) else 1) else paE f ps
theorem ends_Pl {f : List (Int × Int)} {cs : List (Int × Int)} (hg : good f) (h : ∀ r ∈ cs, isM f r) : ∀ q ∈ ends f cs, Pl f q := by
  intro q hq
  have hlb := len_bound hg
  rcases List.mem_append.1 hq with hq | hq
  · obtain ⟨r, hr, rfl⟩ := List.mem_map.1 hq
    exact (isM_R (h r hr)).2
  · have : q = ((len f : Int) : Rat) := by simpa using hq
    rw [this]
    exact Pl_int hlb.1 (Int.le_refl _)
theorem ends_map {f : List (Int × Int)} {cs : List (Int × Int)} (h : ∀ r ∈ cs, isM f r) : (ends f cs).map pR = cs ++ [pR ((len f : Int) : Rat)] := by
  unfold ends
  rw [List.map_append, List.map_map]
  congr 1
  have hm : cs.map (pR ∘ qr) = cs.map id := List.map_congr_left (fun r hr => (isM_R (h r hr)).1.symm)
  rw [hm, List.map_id]
theorem drop_at {α : Type} {l : List α} {k : Nat} {a : α} (ha : l[k]? = some a) : l.drop k = a :: l.drop (k + 1) := by
  have hk : k < l.length := (List.getElem?_eq_some_iff.1 ha).1
  have := (List.getElem?_eq_some_iff.1 ha).2
  rw [← this]; exact List.drop_eq_getElem_cons hk
/-- The place before the k-th end. -/
def bef (es : List Rat) : Nat → Rat
  | 0 => 0
  | k + 1 => (es[k]?).getD 0
theorem bef_le {f : List (Int × Int)} {es : List Rat} (hp : ∀ q ∈ es, Pl f q) (hs : srtB es = true) {k : Nat} {q : Rat} (hq : es[k]? = some q) : bef es k ≤ q := by
  cases k with
  | zero => exact (hp q (List.mem_of_getElem? hq)).le.1
  | succ k =>
    have hk : k < es.length := by have := (List.getElem?_eq_some_iff.1 hq).1; omega
    obtain ⟨a, ha⟩ : ∃ a, es[k]? = some a := ⟨_, List.getElem?_eq_getElem hk⟩
    have : bef es (k + 1) = a := by show (es[k]?).getD 0 = a; rw [ha]; rfl
    rw [this]
    exact srtB_le hs ha hq
theorem bef_Pl {f : List (Int × Int)} {es : List Rat} (hg : good f) (hp : ∀ q ∈ es, Pl f q) {k : Nat} (hk : k ≤ es.length) : Pl f (bef es k) := by
  cases k with
  | zero => exact Pl_int (n := 0) (by omega) (len_bound hg).1
  | succ k =>
    obtain ⟨a, ha⟩ : ∃ a, es[k]? = some a := ⟨_, List.getElem?_eq_getElem (by omega)⟩
    have : bef es (k + 1) = a := by show (es[k]?).getD 0 = a; rw [ha]; rfl
    rw [this]
    exact hp a (List.mem_of_getElem? ha)
set_option maxRecDepth 100000 in
set_option maxHeartbeats 1000000 in
theorem s51 {f cs : List (Int × Int)} {ps : List Int} {v u t : AV} {A : AHeap} (hf : L2 A v f) (hp : L1 A u ps) (hc : L2 A t cs) (hcl : cs.length ≤ 1000) (hcw : ∀ r ∈ cs, W r.1) : ACalls Try.prog 51 [v, u, t] A (I (ckE f ps cs)) A := by
  refine acalls hmix Try.func51 (by kernel_rfl) t51 3 rfl (by decide) ?_
  have hcell := L2_cells hf
  have p0 := pre_app A [AObj.cells true [v]]
  have hf0 := hf.mono p0
  have hp0 := hp.mono p0
  have hc0 := hc.mono p0
  have hld := ld_new A v []
  dsimp only [m51]
  simp (maxSteps := 4000000) -implicitDefEqProofs -dsimp (disch := omega) only [↓AW_ops, ↓AW_seq, ↓AOps_nil, ↓AOps_pu, ↓AOps_ld, ↓AOps_ha, ↓AOps_call, on_some, extK_app, ↓then_normal, pval, lval, hval_newv, rd_S, rd_C, put_S, List.replicate_succ, List.replicate_zero, List.set_cons_zero, List.set_cons_succ, List.getElem?_cons_zero, List.getElem?_cons_succ, Option.getD_some, map_c, map_n, Nat.reduceSub, List.cons_append, List.nil_append, hcell, hld]
  refine CallK.of (s87 hf0 hp0) ?_
  by_cases hE : paE f ps = 0
  · obtain ⟨h0, h1, hfit⟩ := paE_0 hE
    have hg := (good_of h0).1
    have hlb := len_bound hg
    have hck : ckE f ps cs = if cs.length + 1 = ps.length ∧ ∀ r ∈ cs, isM f r then (if okB f 0 (ends f cs) ps = true then 0 else 7) else 1 := by unfold ckE; rw [if_pos hE]
    rw [hck]
    by_cases h2 : cs.length + 1 = ps.length
    · have h2' : (cs.length : Int) = (ps.length : Int) - 1 := by omega
      have h2'' : ((ps.length : Int) - 1 = (cs.length : Int)) := by omega
      simp (maxSteps := 4000000) -implicitDefEqProofs -dsimp (disch := omega) only [↓AW_skip, ↓AW_ops, ↓AW_seq, ↓AW_cond, ↓AOps_nil, ↓AOps_pu, ↓AOps_call, ↓AOps_guard, on_some, extK_same, guardB_ff, condB_f, ↓then_normal, pval, rd_S, rd_C, put_S, eq_self, List.replicate_succ, List.replicate_zero, List.set_cons_zero, List.set_cons_succ, List.getElem?_cons_zero, List.getElem?_cons_succ, Option.getD_some, map_c, map_n, Nat.reduceSub, List.cons_append, List.nil_append, bin_sub, bin_neq, w64, decide_false, not_true_eq_false, hE, hc0.len, hp0.len, h2'']
      refine CallK.of (c_ContainsFuncR hc0 (by omega) 89 [.ptr A.length 0] (fun r => !decide (isM f r)) (fun r hr => s89 hf0 hg hld r (hcw r hr))) ?_
      by_cases h3 : ∀ r ∈ cs, isM f r
      · have hany : cs.any (fun r => !decide (isM f r)) = false := by
          rw [List.any_eq_false]; intro r hr; simp [h3 r hr]
        rw [if_pos ⟨h2, h3⟩]
        simp (maxSteps := 4000000) -implicitDefEqProofs -dsimp (disch := omega) only [↓AW_skip, ↓AW_ops, ↓AW_seq, ↓AW_cond, ↓AOps_nil, ↓AOps_pu, ↓AOps_call, on_some, extK_same, condB_f, ↓then_normal, pval, rd_S, rd_C, put_S, List.replicate_succ, List.replicate_zero, List.set_cons_zero, List.set_cons_succ, List.getElem?_cons_zero, List.getElem?_cons_succ, Option.getD_some, map_c, map_n, Nat.reduceSub, List.cons_append, List.nil_append, if_false, Bool.false_eq_true, hany]
        obtain ⟨y, A1, hcl1, hp1, happ⟩ := c_CloneR hc0 (by omega)
        have hf1 := hf0.mono hp1
        have hld1 := ld_mono hp1 hld
        refine CallK.of hcl1 ?_
        simp (maxSteps := 4000000) -implicitDefEqProofs -dsimp (disch := omega) only [↓AOps_ld, ↓AOps_call, on_some, lval, rd_S, put_S, List.replicate_succ, List.replicate_zero, List.set_cons_zero, List.set_cons_succ, List.getElem?_cons_zero, List.getElem?_cons_succ, Option.getD_some, map_c, map_n, Nat.reduceSub, List.cons_append, List.nil_append, extK_of hp1, hld1]
        refine CallK.of (s77 hf1 hg) ?_
        simp (maxSteps := 4000000) -implicitDefEqProofs -dsimp (disch := omega) only [↓AOps_call, extK_same, rd_S, put_S, List.replicate_succ, List.replicate_zero, List.set_cons_zero, List.set_cons_succ, List.getElem?_cons_zero, List.getElem?_cons_succ, Option.getD_some, map_c, map_n, Nat.reduceSub, List.cons_append, List.nil_append]
        refine CallK.of (s78 _ _) ?_
        obtain ⟨y2, A2, happ2, hacc⟩ := happ (pR ((len f : Int) : Rat))
        simp only at happ2
        simp (maxSteps := 4000000) -implicitDefEqProofs -dsimp (disch := omega) only [↓AW_ops, ↓AW_seq, ↓AOps_nil, ↓AOps_pu, ↓AOps_ha, ↓AOps_call, on_some, extK_false, extK_app, extK_same, ↓then_normal, pval, hval_blds, hval_app, rd_S, rd_C, put_S, cells_agg, splice, fillA, repl, eq_self, List.replicate_succ, List.replicate_zero, List.set_cons_zero, List.set_cons_succ, List.getElem?_cons_zero, List.getElem?_cons_succ, List.drop_succ_cons, List.drop_nil, List.take_zero, Option.getD_some, map_c, map_n, List.length_cons, List.length_nil, Nat.reduceAdd, Nat.reduceSub, Nat.reduceLeDiff, Nat.zero_add, List.cons_append, List.nil_append, List.append_nil, if_true, and_true, happ2]
        have hL := AccL_ls hacc e2_len
        rw [← ends_map h3] at hL
        have hpl := ends_Pl hg h3
        have hel : (ends f cs).length = ps.length := by unfold ends; simp; omega
        have hf2 := hf0.mono hacc.pre
        have hpp := hp0.mono hacc.pre
        have hld2 := ld_mono hacc.pre hld
        refine CallK.of (s91 hL (fun q hq => (hpl q hq).sm hg) (by omega)) ?_
        by_cases h4 : srtB (ends f cs) = true
        · have hlen := hL.len
          rw [List.length_map, hel] at hlen
          simp (maxSteps := 4000000) -implicitDefEqProofs -dsimp (disch := omega) only [↓AW_skip, ↓AW_ops, ↓AW_seq, ↓AW_cond, ↓AOps_nil, ↓AOps_pu, ↓AOps_call, on_some, extK_same, condB_f, ↓then_normal, pval, rd_S, rd_C, put_S, List.replicate_succ, List.replicate_zero, List.set_cons_zero, List.set_cons_succ, List.getElem?_cons_zero, List.getElem?_cons_succ, Option.getD_some, map_c, map_n, Nat.reduceSub, List.cons_append, List.nil_append, Bool.not_true, h4]
          refine CallK.of (s78 0 _) ?_
          simp (maxSteps := 4000000) -implicitDefEqProofs -dsimp (disch := omega) only [↓AW_ops, ↓AW_seq, ↓AW_block, ↓AOps_nil, ↓AOps_pu, on_some, extK_same, ↓then_normal, pval, rd_S, rd_C, put_S, ↓AW_toLoop, chkd, bput, cells_agg, splice, eq_self, List.replicate_succ, List.replicate_zero, List.set_cons_zero, List.set_cons_succ, List.getElem?_cons_zero, List.getElem?_cons_succ, List.drop_succ_cons, List.drop_nil, List.take_zero, Option.getD_some, List.length_cons, List.length_nil, Nat.reduceAdd, Nat.reduceSub, Nat.reduceLeDiff, Nat.zero_add, List.cons_append, List.nil_append, List.append_nil, if_true, if_false, ne_eq, not_true_eq_false, hlen]
          have hz : R ((0 : Int) : Rat) = R (bef (ends f cs) 0) := rfl
          refine LoopK.by 59 (fun k : Nat => k ≤ ps.length ∧ okB f 0 (ends f cs) ps = okB f (bef (ends f cs) k) ((ends f cs).drop k) (ps.drop k)) (fun k => [(1, u), (3, .ptr A.length 0), (9, R (bef (ends f cs) k)), (40, y2), (41, I ps.length), (42, I k)]) (fun _ => A2) (fun k => ps.length - k) 0 ⟨by omega, rfl⟩ rfl (by simp only [← hz]; simp [Has, rd_s]) rfl ?_
          rintro k ⟨hk, he⟩
          by_cases hlt : k < ps.length
          · have hlt' : (k : Int) < ps.length := by omega
            obtain ⟨p, hpk⟩ : ∃ p, ps[k]? = some p := ⟨_, List.getElem?_eq_getElem hlt⟩
            obtain ⟨q, hqk⟩ : ∃ q, (ends f cs)[k]? = some q := ⟨_, List.getElem?_eq_getElem (by omega)⟩
            have hqk' : ((ends f cs).map pR)[k]? = some (pR q) := by rw [List.getElem?_map, hqk]; rfl
            have i1 : k < ((ends f cs).map pR).length := by rw [List.length_map]; omega
            have hle := bef_le hpl h4 hqk
            have hbp := bef_Pl hg hpl (k := k) (by omega)
            have hqp := hpl q (List.mem_of_getElem? hqk)
            have hbs : bef (ends f cs) (k + 1) = q := by show ((ends f cs)[k]?).getD 0 = q; rw [hqk]; rfl
            rw [drop_at hqk, drop_at hpk, okB, decide_eq_true hle, Bool.true_and] at he
            simp (maxSteps := 4000000) -implicitDefEqProofs -dsimp (disch := omega) only [↓AW_skip, ↓AW_ops, ↓AW_seq, ↓AW_cond, ↓AW_block, ↓AOps_nil, ↓AOps_pu, ↓AOps_ld, ↓AOps_call, on_some, condB_t, ↓then_normal, pval, lval, rd_S, rd_C, put_S, chkd, bput, bgot, cells_agg, splice, partA, eq_self, mk, List.foldl_cons, List.foldl_nil, List.replicate_succ, List.replicate_zero, List.set_cons_zero, List.set_cons_succ, List.getElem?_cons_zero, List.getElem?_cons_succ, List.drop_zero, List.drop_succ_cons, List.drop_nil, List.take_zero, List.take_succ_cons, List.take_nil, Option.getD_some, map_c, map_n, List.length_cons, List.length_nil, Nat.reduceAdd, Nat.reduceLeDiff, Nat.reduceEqDiff, Nat.zero_add, List.nil_append, List.append_nil, bin_lss, if_true, if_false, decide_true, Go.Eng.e2, ne_eq, not_true_eq_false, hlt', hL.idx i1, hL.ld0 hqk' 2 true (by decide), hld2]
            refine CallK.of (s73 hf2 hg _ q hbp hqp hle) ?_
            simp (maxSteps := 4000000) -implicitDefEqProofs -dsimp (disch := omega) only [↓AOps_pu, ↓AOps_ld, ↓AOps_call, on_some, extK_same, pval, lval, rd_S, put_S, partA, eq_self, mk, List.foldl_cons, List.foldl_nil, List.replicate_succ, List.replicate_zero, List.set_cons_zero, List.set_cons_succ, List.getElem?_cons_zero, List.getElem?_cons_succ, List.drop_zero, List.take_succ_cons, List.take_nil, Option.getD_some, map_c, map_n, List.length_cons, List.length_nil, Nat.reduceLeDiff, Nat.zero_add, if_true, if_false, Bool.false_eq_true, Go.Eng.e1, hpp.idx hlt, hpp.ld0 hpk 1 false (by decide)]
            refine CallK.of (s78 p _) ?_
            generalize hx : upTo 0 f q - upTo 0 f (bef (ends f cs) k) = x at *
            generalize hw : ((p : Int) : Rat) = w at *
            by_cases h5 : x = w
            · subst h5
              rw [decide_eq_true rfl, Bool.true_and] at he
              simp (maxSteps := 4000000) -implicitDefEqProofs -dsimp (disch := omega) only [↓AW_skip, ↓AW_ops, ↓AW_cond, ↓AOps_nil, ↓AOps_pu, on_some, extK_same, condB_f, ↓then_normal, ↓inBlock_normal, pval, rd_S, rd_C, put_S, chkd, bput, bgot, cells_agg, splice, partA, eqc, beq_self_eq_true, eq_self, mk, List.foldl_cons, List.foldl_nil, List.replicate_succ, List.replicate_zero, List.set_cons_zero, List.set_cons_succ, List.getElem?_cons_zero, List.getElem?_cons_succ, List.drop_zero, List.drop_succ_cons, List.drop_nil, List.take_zero, List.take_succ_cons, List.take_nil, Option.getD_some, Option.map_some, List.length_cons, List.length_nil, Nat.reduceAdd, Nat.reduceLeDiff, Nat.reduceEqDiff, Nat.zero_add, List.nil_append, List.append_nil, bin_add, w64, if_true, if_false, Bool.not_true, Bool.true_and, true_and, ne_eq, not_true_eq_false]
              exact ⟨k + 1, ⟨hlt, by rw [he, hbs]⟩, by simp [Has, rd_s, hbs], by omega⟩
            · have hne : (x.num == w.num && (x.den : Int) == (w.den : Int)) = false := by rw [agg_eq]; simp [h5]
              rw [decide_eq_false h5, Bool.false_and] at he
              rw [if_neg (by rw [he]; simp)]
              simp (maxSteps := 4000000) -implicitDefEqProofs -dsimp (disch := omega) only [↓AW_ops, ↓AW_seq, ↓AW_cond, ↓AW_ret, ↓AOps_nil, ↓AOps_pu, on_some, extK_same, condB_t, ↓then_normal, ↓then_ret, ↓inBlock_ret, ↓Fin_ret, pval, rd_S, rd_C, put_S, resV, resL, eqc, Bool.and_true, eq_self, mk, List.foldl_cons, List.foldl_nil, List.replicate_succ, List.replicate_zero, List.set_cons_zero, List.set_cons_succ, List.getElem?_cons_zero, List.getElem?_cons_succ, Option.getD_some, Option.map_some, if_true, Bool.not_false, hne]
              exact gc_val (p0.trans hacc.pre) rfl
          · have hlt' : ¬ ((k : Int) < ps.length) := by omega
            rw [List.drop_of_length_le (by omega), List.drop_of_length_le (by omega), okB] at he
            rw [if_pos he]
            simp (maxSteps := 4000000) -implicitDefEqProofs -dsimp (disch := omega) only [↓AW_ops, ↓AW_seq, ↓AW_cond, ↓AW_exit, ↓AW_ret, ↓AOps_nil, ↓AOps_pu, on_some, condB_f, ↓then_normal, ↓then_exit, ↓inBlock_exit, ↓Fin_ret, pval, rd_S, rd_C, put_S, resV, resL, eq_self, mk, List.foldl_cons, List.foldl_nil, List.replicate_succ, List.replicate_zero, List.set_cons_zero, List.set_cons_succ, List.getElem?_cons_zero, List.getElem?_cons_succ, Option.getD_some, bin_lss, if_true, decide_false, hlt']
            exact gc_val (p0.trans hacc.pre) rfl
        · have h4' : srtB (ends f cs) = false := by simpa using h4
          rw [if_neg (fun h => h4 (okB_srt f _ _ _ h))]
          simp (maxSteps := 4000000) -implicitDefEqProofs -dsimp (disch := omega) only [↓AW_ops, ↓AW_seq, ↓AW_cond, ↓AW_ret, ↓AOps_nil, ↓AOps_pu, on_some, extK_same, condB_t, ↓then_normal, ↓then_ret, ↓Fin_ret, pval, rd_S, rd_C, put_S, resV, resL, List.replicate_succ, List.replicate_zero, List.set_cons_zero, List.set_cons_succ, List.getElem?_cons_zero, List.getElem?_cons_succ, Option.getD_some, Nat.reduceSub, List.cons_append, List.nil_append, Bool.not_false, h4']
          exact gc_val (p0.trans hacc.pre) rfl
      · have hany : cs.any (fun r => !decide (isM f r)) = true := by
          rw [List.any_eq_true]
          refine Classical.byContradiction fun hn => h3 fun r hr => ?_
          refine Classical.byContradiction fun hm => hn ⟨r, hr, by simp [hm]⟩
        rw [if_neg (fun h => h3 h.2)]
        simp (maxSteps := 4000000) -implicitDefEqProofs -dsimp (disch := omega) only [↓AW_ops, ↓AW_seq, ↓AW_cond, ↓AW_ret, ↓AOps_nil, ↓AOps_pu, on_some, extK_same, condB_t, ↓then_normal, ↓then_ret, ↓Fin_ret, pval, rd_S, rd_C, put_S, resV, resL, List.replicate_succ, List.replicate_zero, List.set_cons_zero, List.set_cons_succ, List.getElem?_cons_zero, List.getElem?_cons_succ, Option.getD_some, Nat.reduceSub, List.cons_append, List.nil_append, if_false, Bool.false_eq_true, hany]
        exact gc_val p0 rfl
    · have h2' : ¬ ((cs.length : Int) = (ps.length : Int) - 1) := by omega
      rw [if_neg (fun h => h2 h.1)]
      simp (maxSteps := 4000000) -implicitDefEqProofs -dsimp (disch := omega) only [↓AW_skip, ↓AW_ops, ↓AW_seq, ↓AW_cond, ↓AW_ret, ↓AOps_nil, ↓AOps_pu, ↓AOps_guard, on_some, extK_same, guardB_tf, skipS_some, condB_t, condB_f, ↓then_normal, ↓then_ret, ↓Fin_ret, pval, rd_S, rd_C, put_S, resV, resL, eq_self, List.replicate_succ, List.replicate_zero, List.set_cons_zero, List.set_cons_succ, List.getElem?_cons_zero, List.getElem?_cons_succ, Option.getD_some, Nat.reduceSub, List.cons_append, List.nil_append, bin_sub, bin_neq, w64, if_true, decide_true, decide_false, not_true_eq_false, not_false_eq_true, hE, hc0.len, hp0.len, h2']
      exact gc_val p0 rfl
  · have hck : ckE f ps cs = paE f ps := by unfold ckE; rw [if_neg hE]
    rw [hck]
    simp (maxSteps := 4000000) -implicitDefEqProofs -dsimp (disch := omega) only [↓AW_ops, ↓AW_seq, ↓AW_cond, ↓AW_ret, ↓AOps_nil, ↓AOps_pu, on_some, extK_same, condB_t, ↓then_normal, ↓then_ret, ↓Fin_ret, pval, rd_S, rd_C, put_S, resV, resL, List.replicate_succ, List.replicate_zero, List.set_cons_zero, List.set_cons_succ, List.getElem?_cons_zero, List.getElem?_cons_succ, Option.getD_some, Nat.reduceSub, List.cons_append, List.nil_append, bin_neq, decide_true, not_false_eq_true, hE]
    exact gc_val p0 rfl
end Go.Proofs.Ytnnbggcckabhdaa

namespace Go.Proofs.Ytnnbggcckabhdaa
open Go Go.Eng
/-- selion/seliontop.TopSoil [loop [0, 1, 7, 16, 17, 18], loop [0, 1, 7, 8, 16, 22, 23, 24], loop [0, 1, 7, 25, 26, 27]] -/
def m12 : MFun := ⟨242, [5, 11, 13, 14, 17, 19, 20], [.mov (.s 4)],
 .seq (.ops [⟨(some 4), some undefA, none, false, .pu (.mov (.c (.bool false)))⟩])
 (.seq (.seq (.ops [⟨(some 29), some undefA, none, false, .pu (.build [.int .i64 0, .int .i64 0] [(0, 1, (.c (.int .i64 4))), (1, 1, (.c (.int .i64 3)))])⟩,
   ⟨(some 30), some undefA, none, false, .pu (.build [.int .i64 0, .int .i64 0] [(0, 1, (.c (.int .i64 2))), (1, 1, (.c (.int .i64 6)))])⟩,
   ⟨(some 31), some undefA, none, false, .ha (.blds 2 2 [.int .i64 0, .int .i64 0] [(0, 2, (.s 29)), (2, 2, (.s 30))])⟩,
   ⟨(some 32), some undefA, none, false, .call 30 [(.c (.int .i64 0))]⟩,
   ⟨(some 33), some undefA, none, false, .call 30 [(.c (.int .i64 15))]⟩,
   ⟨(some 34), some undefA, none, false, .call 39 [(.s 31), (.s 32), (.s 33)]⟩,
   ⟨(some 28), some undefA, none, false, .pu (.mov (.s 34))⟩,
   ⟨(some 35), some undefA, none, false, .pu (.extr 0 (.s 28))⟩,
   ⟨(some 36), some undefA, none, false, .pu (.extr 1 (.s 28))⟩,
   ⟨(some 5), some (.junk), none, false, .pu (.bnew (.c (.agg [.int .i64 0, .int .i64 0])))⟩,
   ⟨(some 5), none, none, false, .pu (.bset none 5 0 2 (.s 35))⟩,
   ⟨(some 6), some undefA, none, false, .pu (.mov (.s 36))⟩])
 (.seq (.ops [⟨(some 37), some undefA, none, false, .pu (.mov (.s 6))⟩,
   ⟨(some 38), some undefA, none, false, .pu (.bin .neq (.s 37) (.c (.int .i64 0)))⟩,
   ⟨(some 39), some undefA, none, false, .pu (.mov (.s 38))⟩,
   ⟨(some 40), some undefA, (some (39, false)), false, .pu (.bget none 5 0 2 true)⟩,
   ⟨(some 41), some undefA, (some (39, false)), false, .pu (.build [.int .i64 0, .int .i64 0] [(0, 1, (.c (.int .i64 9))), (1, 1, (.c (.int .i64 2)))])⟩,
   ⟨(some 42), some undefA, (some (39, false)), false, .pu (.eqs true [true, true] (.s 40) (.s 41))⟩,
   ⟨(some 43), some undefA, none, false, .pu (.pick (.s 39) (.c (.bool true)) (.s 42))⟩])
 (.cond (.s 43) (.seq (.ops [⟨(some 4), some undefA, none, false, .pu (.mov (.c (.bool false)))⟩])
  (.ret))
 (.skip))))
 (.seq (.seq (.ops [⟨(some 44), some undefA, none, false, .pu (.mov (.s 0))⟩,
   ⟨(some 45), some undefA, none, false, .call 18 [(.s 44), (.c (.nilS))]⟩,
   ⟨(some 46), some undefA, none, false, .pu (.mov (.s 45))⟩,
   ⟨(some 47), some undefA, (some (46, false)), false, .pu (.mov (.s 1))⟩,
   ⟨(some 48), some undefA, (some (46, false)), false, .pu (.len (.s 47))⟩,
   ⟨(some 49), some undefA, (some (46, false)), false, .pu (.bin .gtr (.s 48) (.c (.int .i64 100)))⟩,
   ⟨(some 50), some undefA, none, false, .pu (.pick (.s 46) (.c (.bool true)) (.s 49))⟩])
 (.cond (.s 50) (.seq (.ops [⟨(some 4), some undefA, none, false, .pu (.mov (.c (.bool true)))⟩])
  (.ret))
 (.skip)))
 (.seq (.ops [⟨(some 52), some undefA, none, false, .pu (.mov (.s 0))⟩,
   ⟨(some 53), some undefA, none, false, .call 31 [(.s 52)]⟩,
   ⟨(some 51), some undefA, none, false, .pu (.mov (.s 53))⟩,
   ⟨(some 54), some undefA, none, false, .pu (.extr 0 (.s 51))⟩,
   ⟨(some 55), some undefA, none, false, .pu (.extr 1 (.s 51))⟩,
   ⟨(some 7), some undefA, none, false, .pu (.mov (.s 54))⟩,
   ⟨(some 8), some undefA, none, false, .pu (.mov (.s 55))⟩])
 (.seq (.ops [⟨(some 57), some undefA, none, false, .pu (.mov (.s 0))⟩,
   ⟨(some 58), some undefA, none, false, .call 33 [(.s 57)]⟩,
   ⟨(some 56), some undefA, none, false, .pu (.mov (.s 58))⟩,
   ⟨(some 59), some undefA, none, false, .pu (.extr 0 (.s 56))⟩,
   ⟨(some 60), some undefA, none, false, .pu (.extr 1 (.s 56))⟩,
   ⟨(some 9), some undefA, none, false, .pu (.mov (.s 59))⟩,
   ⟨(some 10), some undefA, none, false, .pu (.mov (.s 60))⟩])
 (.seq (.seq (.ops [⟨(some 61), some undefA, none, false, .pu (.mov (.s 8))⟩,
   ⟨(some 62), some undefA, none, false, .pu (.bin .neq (.s 61) (.c (.int .i64 0)))⟩])
 (.cond (.s 62) (.seq (.ops [⟨(some 63), some undefA, none, false, .pu (.mov (.s 10))⟩,
    ⟨(some 64), some undefA, none, false, .pu (.mov (.s 8))⟩,
    ⟨(some 65), some undefA, none, false, .pu (.bin .eql (.s 63) (.s 64))⟩,
    ⟨(some 66), some undefA, none, false, .pu (.mov (.s 65))⟩,
    ⟨(some 67), some undefA, (some (66, true)), false, .pu (.mov (.s 0))⟩,
    ⟨(some 68), some undefA, (some (66, true)), false, .call 37 [(.s 67)]⟩,
    ⟨(some 69), some undefA, (some (66, true)), false, .pu (.mov (.s 8))⟩,
    ⟨(some 70), some undefA, (some (66, true)), false, .pu (.bin .eql (.s 68) (.s 69))⟩,
    ⟨(some 71), some undefA, none, false, .pu (.pick (.s 66) (.s 70) (.c (.bool false)))⟩,
    ⟨(some 4), some undefA, none, false, .pu (.mov (.s 71))⟩])
  (.ret))
 (.skip)))
 (.seq (.ops [⟨(some 73), some undefA, none, false, .pu (.mov (.s 0))⟩,
   ⟨(some 74), some undefA, none, false, .call 30 [(.c (.int .i64 0))]⟩,
   ⟨(some 75), some undefA, none, false, .pu (.mov (.s 7))⟩,
   ⟨(some 76), some undefA, none, false, .call 30 [(.s 75)]⟩,
   ⟨(some 77), some undefA, none, false, .call 25 [(.s 73), (.s 74), (.s 76)]⟩,
   ⟨(some 72), some undefA, none, false, .pu (.mov (.s 77))⟩,
   ⟨(some 78), some undefA, none, false, .pu (.extr 0 (.s 72))⟩,
   ⟨(some 79), some undefA, none, false, .pu (.extr 1 (.s 72))⟩,
   ⟨(some 11), some (.junk), none, false, .pu (.bnew (.c (.agg [.int .i64 0, .int .i64 0])))⟩,
   ⟨(some 11), none, none, false, .pu (.bset none 11 0 2 (.s 78))⟩,
   ⟨(some 12), some undefA, none, false, .pu (.mov (.s 79))⟩])
 (.seq (.ops [⟨(some 81), some undefA, none, false, .pu (.mov (.s 0))⟩,
   ⟨(some 82), some undefA, none, false, .pu (.mov (.s 7))⟩,
   ⟨(some 83), some undefA, none, false, .call 28 [(.s 81), (.s 82)]⟩,
   ⟨(some 80), some undefA, none, false, .pu (.mov (.s 83))⟩,
   ⟨(some 84), some undefA, none, false, .pu (.extr 0 (.s 80))⟩,
   ⟨(some 85), some undefA, none, false, .pu (.extr 1 (.s 80))⟩,
   ⟨(some 86), some undefA, none, false, .pu (.extr 2 (.s 80))⟩,
   ⟨(some 13), some (.junk), none, false, .pu (.bnew (.c (.agg [.int .i64 0, .int .i64 0])))⟩,
   ⟨(some 14), some (.junk), none, false, .pu (.bnew (.c (.agg [.int .i64 0, .int .i64 0])))⟩,
   ⟨(some 13), none, none, false, .pu (.bset none 13 0 2 (.s 84))⟩,
   ⟨(some 14), none, none, false, .pu (.bset none 14 0 2 (.s 85))⟩,
   ⟨(some 15), some undefA, none, false, .pu (.mov (.s 86))⟩])
 (.seq (.seq (.ops [⟨(some 87), some undefA, none, false, .pu (.mov (.s 10))⟩,
   ⟨(some 88), some undefA, none, false, .pu (.bin .neq (.s 87) (.c (.int .i64 0)))⟩,
   ⟨(some 89), some undefA, none, false, .pu (.mov (.s 88))⟩,
   ⟨(some 90), some undefA, (some (89, false)), false, .pu (.mov (.s 12))⟩,
   ⟨(some 91), some undefA, (some (89, false)), false, .pu (.bin .neq (.s 90) (.c (.int .i64 0)))⟩,
   ⟨(some 92), some undefA, none, false, .pu (.pick (.s 89) (.c (.bool true)) (.s 91))⟩,
   ⟨(some 93), some undefA, none, false, .pu (.mov (.s 92))⟩,
   ⟨(some 94), some undefA, (some (93, false)), false, .pu (.mov (.s 15))⟩,
   ⟨(some 95), some undefA, (some (93, false)), false, .pu (.bin .neq (.s 94) (.c (.int .i64 0)))⟩,
   ⟨(some 96), some undefA, none, false, .pu (.pick (.s 93) (.c (.bool true)) (.s 95))⟩,
   ⟨(some 97), some undefA, none, false, .pu (.mov (.s 96))⟩,
   ⟨(some 98), some undefA, (some (97, false)), false, .pu (.bget none 11 0 2 true)⟩,
   ⟨(some 99), some undefA, (some (97, false)), false, .pu (.mov (.s 9))⟩,
   ⟨(some 100), some undefA, (some (97, false)), false, .call 30 [(.s 99)]⟩,
   ⟨(some 101), some undefA, (some (97, false)), false, .pu (.eqs true [true, true] (.s 98) (.s 100))⟩,
   ⟨(some 102), some undefA, none, false, .pu (.pick (.s 97) (.c (.bool true)) (.s 101))⟩,
   ⟨(some 103), some undefA, none, false, .pu (.mov (.s 102))⟩,
   ⟨(some 104), some undefA, (some (103, false)), false, .pu (.bget none 14 0 2 true)⟩,
   ⟨(some 105), some undefA, (some (103, false)), false, .pu (.bget none 11 0 2 true)⟩,
   ⟨(some 106), some undefA, (some (103, false)), false, .pu (.eqs true [true, true] (.s 104) (.s 105))⟩,
   ⟨(some 107), some undefA, none, false, .pu (.pick (.s 103) (.c (.bool true)) (.s 106))⟩])
 (.cond (.s 107) (.seq (.ops [⟨(some 4), some undefA, none, false, .pu (.mov (.c (.bool false)))⟩])
  (.ret))
 (.skip)))
 (.seq (.ops [⟨(some 109), some undefA, none, false, .pu (.mov (.s 0))⟩,
   ⟨(some 110), some undefA, none, false, .pu (.mov (.s 1))⟩,
   ⟨(some 111), some undefA, none, false, .call 50 [(.s 109), (.s 110)]⟩,
   ⟨(some 108), some undefA, none, false, .pu (.mov (.s 111))⟩,
   ⟨(some 112), some undefA, none, false, .pu (.extr 0 (.s 108))⟩,
   ⟨(some 113), some undefA, none, false, .pu (.extr 1 (.s 108))⟩,
   ⟨(some 16), some undefA, none, false, .pu (.mov (.s 112))⟩,
   ⟨(some 8), some undefA, none, false, .pu (.mov (.s 113))⟩])
 (.seq (.seq (.ops [⟨(some 114), some undefA, none, false, .pu (.mov (.s 8))⟩,
   ⟨(some 115), some undefA, none, false, .pu (.bin .neq (.s 114) (.c (.int .i64 0)))⟩])
 (.cond (.s 115) (.seq (.ops [⟨(some 116), some undefA, none, false, .pu (.mov (.s 16))⟩,
    ⟨(some 117), some undefA, none, false, .pu (.len (.s 116))⟩,
    ⟨(some 118), some undefA, none, false, .pu (.bin .eql (.s 117) (.c (.int .i64 0)))⟩,
    ⟨(some 4), some undefA, none, false, .pu (.mov (.s 118))⟩])
  (.ret))
 (.skip)))
 (.seq (.seq (.ops [⟨(some 119), some undefA, none, false, .pu (.mov (.s 16))⟩,
   ⟨(some 120), some undefA, none, false, .pu (.len (.s 119))⟩,
   ⟨(some 121), some undefA, none, false, .pu (.mov (.s 1))⟩,
   ⟨(some 122), some undefA, none, false, .pu (.len (.s 121))⟩,
   ⟨(some 123), some undefA, none, false, .pu (.bin .sub (.s 122) (.c (.int .i64 1)))⟩,
   ⟨(some 124), some undefA, none, false, .pu (.bin .neq (.s 120) (.s 123))⟩,
   ⟨(some 125), some undefA, none, false, .pu (.mov (.s 124))⟩,
   ⟨(some 126), some undefA, (some (125, false)), false, .pu (.mov (.s 0))⟩,
   ⟨(some 127), some undefA, (some (125, false)), false, .pu (.mov (.s 1))⟩,
   ⟨(some 128), some undefA, (some (125, false)), false, .pu (.mov (.s 16))⟩,
   ⟨(some 129), some undefA, (some (125, false)), false, .call 51 [(.s 126), (.s 127), (.s 128)]⟩,
   ⟨(some 130), some undefA, (some (125, false)), false, .pu (.bin .neq (.s 129) (.c (.int .i64 0)))⟩,
   ⟨(some 131), some undefA, none, false, .pu (.pick (.s 125) (.c (.bool true)) (.s 130))⟩])
 (.cond (.s 131) (.seq (.ops [⟨(some 4), some undefA, none, false, .pu (.mov (.c (.bool false)))⟩])
  (.ret))
 (.skip)))
 (.seq (.ops [⟨(some 132), some undefA, none, false, .call 30 [(.c (.int .i64 0))]⟩,
   ⟨(some 17), some (.junk), none, false, .pu (.bnew (.c (.agg [.int .i64 0, .int .i64 0])))⟩,
   ⟨(some 17), none, none, false, .pu (.bset none 17 0 2 (.s 132))⟩])
 (.seq (.seq (.ops [⟨(some 18), some undefA, none, false, .pu (.mov (.c (.int .i64 0)))⟩])
 (.block 0 (.loop (.seq (.seq (.ops [⟨(some 133), some undefA, none, false, .pu (.mov (.s 18))⟩,
     ⟨(some 134), some undefA, none, false, .pu (.mov (.s 1))⟩,
     ⟨(some 135), some undefA, none, false, .pu (.len (.s 134))⟩,
     ⟨(some 136), some undefA, none, false, .pu (.bin .lss (.s 133) (.s 135))⟩])
   (.cond (.s 136) (.skip)
   (.exit 0)))
   (.seq (.block 1 (.seq (.ops [⟨(some 139), some undefA, none, false, .pu (.mov (.s 7))⟩,
      ⟨(some 140), some undefA, none, false, .call 30 [(.s 139)]⟩,
      ⟨(some 19), some (.junk), none, false, .pu (.bnew (.c (.agg [.int .i64 0, .int .i64 0])))⟩,
      ⟨(some 19), none, none, false, .pu (.bset none 19 0 2 (.s 140))⟩])
    (.seq (.seq (.ops [⟨(some 141), some undefA, none, false, .pu (.mov (.s 18))⟩,
      ⟨(some 142), some undefA, none, false, .pu (.mov (.s 16))⟩,
      ⟨(some 143), some undefA, none, false, .pu (.len (.s 142))⟩,
      ⟨(some 144), some undefA, none, false, .pu (.bin .lss (.s 141) (.s 143))⟩])
    (.cond (.s 144) (.ops [⟨(some 145), some undefA, none, false, .pu (.mov (.s 16))⟩,
       ⟨(some 146), some undefA, none, false, .pu (.mov (.s 18))⟩,
       ⟨(some 147), some undefA, none, false, .pu (.idx 2 (.s 145) (.s 146))⟩,
       ⟨(some 148), some undefA, none, false, .ld (.ld 2 true (.s 147))⟩,
       ⟨(some 19), none, none, false, .pu (.bset none 19 0 2 (.s 148))⟩])
    (.skip)))
    (.seq (.ops [⟨(some 150), some undefA, none, false, .pu (.mov (.s 0))⟩,
      ⟨(some 151), some undefA, none, false, .pu (.bget none 17 0 2 true)⟩,
      ⟨(some 152), some undefA, none, false, .pu (.bget none 19 0 2 true)⟩,
      ⟨(some 153), some undefA, none, false, .call 25 [(.s 150), (.s 151), (.s 152)]⟩,
      ⟨(some 149), some undefA, none, false, .pu (.mov (.s 153))⟩,
      ⟨(some 154), some undefA, none, false, .pu (.extr 0 (.s 149))⟩,
      ⟨(some 155), some undefA, none, false, .pu (.extr 1 (.s 149))⟩,
      ⟨(some 20), some (.junk), none, false, .pu (.bnew (.c (.agg [.int .i64 0, .int .i64 0])))⟩,
      ⟨(some 20), none, none, false, .pu (.bset none 20 0 2 (.s 154))⟩,
      ⟨(some 21), some undefA, none, false, .pu (.mov (.s 155))⟩])
    (.seq (.seq (.ops [⟨(some 156), some undefA, none, false, .pu (.mov (.s 21))⟩,
      ⟨(some 157), some undefA, none, false, .pu (.bin .neq (.s 156) (.c (.int .i64 0)))⟩,
      ⟨(some 158), some undefA, none, false, .pu (.mov (.s 157))⟩,
      ⟨(some 159), some undefA, (some (158, false)), true, .pu (.bget none 20 0 2 true)⟩,
      ⟨(some 160), some undefA, (some (158, false)), false, .pu (.mov (.s 1))⟩,
      ⟨(some 161), some undefA, (some (158, false)), false, .pu (.mov (.s 18))⟩,
      ⟨(some 162), some undefA, (some (158, false)), false, .pu (.idx 1 (.s 160) (.s 161))⟩,
      ⟨(some 163), some undefA, (some (158, false)), true, .ld (.ld 1 false (.s 162))⟩,
      ⟨(some 164), some undefA, (some (158, false)), false, .call 30 [(.s 163)]⟩,
      ⟨(some 165), some undefA, (some (158, false)), false, .pu (.eqs true [true, true] (.s 159) (.s 164))⟩,
      ⟨(some 166), some undefA, none, false, .pu (.pick (.s 158) (.c (.bool true)) (.s 165))⟩])
    (.cond (.s 166) (.seq (.ops [⟨(some 4), some undefA, none, false, .pu (.mov (.c (.bool false)))⟩])
     (.ret))
    (.skip)))
    (.ops [⟨(some 167), some undefA, none, false, .pu (.bget none 19 0 2 true)⟩,
      ⟨(some 17), none, none, false, .pu (.bset none 17 0 2 (.s 167))⟩]))))))
   (.ops [⟨(some 137), some undefA, none, false, .pu (.mov (.s 18))⟩,
     ⟨(some 138), some undefA, none, false, .pu (.bin .add (.s 137) (.c (.int .i64 1)))⟩,
     ⟨(some 18), some undefA, none, false, .pu (.mov (.s 138))⟩]))))))
 (.seq (.ops [⟨(some 169), some undefA, none, false, .pu (.mov (.s 0))⟩,
   ⟨(some 170), some undefA, none, false, .call 52 [(.s 169)]⟩,
   ⟨(some 168), some undefA, none, false, .pu (.mov (.s 170))⟩,
   ⟨(some 171), some undefA, none, false, .pu (.extr 0 (.s 168))⟩,
   ⟨(some 172), some undefA, none, false, .pu (.extr 1 (.s 168))⟩,
   ⟨(some 22), some undefA, none, false, .pu (.mov (.s 171))⟩,
   ⟨(some 8), some undefA, none, false, .pu (.mov (.s 172))⟩])
 (.seq (.ops [⟨(some 23), some undefA, none, false, .pu (.mov (.c (.nilS)))⟩])
 (.seq (.seq (.ops [⟨(some 173), some undefA, none, false, .pu (.mov (.s 1))⟩,
   ⟨(some 174), some undefA, none, false, .pu (.len (.s 173))⟩,
   ⟨(some 175), some undefA, none, false, .pu (.bin .sub (.s 174) (.c (.int .i64 1)))⟩,
   ⟨(some 24), some undefA, none, false, .pu (.mov (.s 175))⟩])
 (.block 2 (.loop (.seq (.seq (.ops [⟨(some 176), some undefA, none, false, .pu (.mov (.s 24))⟩,
     ⟨(some 177), some undefA, none, false, .pu (.bin .geq (.s 176) (.c (.int .i64 0)))⟩])
   (.cond (.s 177) (.skip)
   (.exit 2)))
   (.seq (.block 3 (.ops [⟨(some 180), some undefA, none, false, .pu (.mov (.s 23))⟩,
      ⟨(some 181), some undefA, none, false, .pu (.mov (.s 1))⟩,
      ⟨(some 182), some undefA, none, false, .pu (.mov (.s 24))⟩,
      ⟨(some 183), some undefA, none, false, .pu (.idx 1 (.s 181) (.s 182))⟩,
      ⟨(some 184), some undefA, none, false, .ld (.ld 1 false (.s 183))⟩,
      ⟨(some 185), some undefA, none, false, .ha (.blds 1 1 [.int .i64 0] [(0, 1, (.s 184))])⟩,
      ⟨(some 186), some undefA, none, false, .ha (.app 1 (.s 180) (.s 185))⟩,
      ⟨(some 23), some undefA, none, false, .pu (.mov (.s 186))⟩]))
   (.ops [⟨(some 178), some undefA, none, false, .pu (.mov (.s 24))⟩,
     ⟨(some 179), some undefA, none, false, .pu (.bin .sub (.s 178) (.c (.int .i64 1)))⟩,
     ⟨(some 24), some undefA, none, false, .pu (.mov (.s 179))⟩]))))))
 (.seq (.ops [⟨(some 188), some undefA, none, false, .pu (.mov (.s 22))⟩,
   ⟨(some 189), some undefA, none, false, .pu (.mov (.s 23))⟩,
   ⟨(some 190), some undefA, none, false, .call 50 [(.s 188), (.s 189)]⟩,
   ⟨(some 187), some undefA, none, false, .pu (.mov (.s 190))⟩,
   ⟨(some 191), some undefA, none, false, .pu (.extr 0 (.s 187))⟩,
   ⟨(some 192), some undefA, none, false, .pu (.extr 1 (.s 187))⟩,
   ⟨(some 25), some undefA, none, false, .pu (.mov (.s 191))⟩,
   ⟨(some 10), some undefA, none, false, .pu (.mov (.s 192))⟩])
 (.seq (.seq (.ops [⟨(some 193), some undefA, none, false, .pu (.mov (.s 8))⟩,
   ⟨(some 194), some undefA, none, false, .pu (.bin .neq (.s 193) (.c (.int .i64 0)))⟩,
   ⟨(some 195), some undefA, none, false, .pu (.mov (.s 194))⟩,
   ⟨(some 196), some undefA, (some (195, false)), false, .pu (.mov (.s 10))⟩,
   ⟨(some 197), some undefA, (some (195, false)), false, .pu (.bin .neq (.s 196) (.c (.int .i64 0)))⟩,
   ⟨(some 198), some undefA, none, false, .pu (.pick (.s 195) (.c (.bool true)) (.s 197))⟩,
   ⟨(some 199), some undefA, none, false, .pu (.mov (.s 198))⟩,
   ⟨(some 200), some undefA, (some (199, false)), false, .pu (.mov (.s 25))⟩,
   ⟨(some 201), some undefA, (some (199, false)), false, .pu (.len (.s 200))⟩,
   ⟨(some 202), some undefA, (some (199, false)), false, .pu (.mov (.s 16))⟩,
   ⟨(some 203), some undefA, (some (199, false)), false, .pu (.len (.s 202))⟩,
   ⟨(some 204), some undefA, (some (199, false)), false, .pu (.bin .neq (.s 201) (.s 203))⟩,
   ⟨(some 205), some undefA, none, false, .pu (.pick (.s 199) (.c (.bool true)) (.s 204))⟩])
 (.cond (.s 205) (.seq (.ops [⟨(some 4), some undefA, none, false, .pu (.mov (.c (.bool false)))⟩])
  (.ret))
 (.skip)))
 (.seq (.ops [⟨(some 26), some undefA, none, false, .pu (.mov (.c (.nilS)))⟩])
 (.seq (.seq (.ops [⟨(some 206), some undefA, none, false, .pu (.mov (.s 25))⟩,
   ⟨(some 207), some undefA, none, false, .pu (.len (.s 206))⟩,
   ⟨(some 208), some undefA, none, false, .pu (.bin .sub (.s 207) (.c (.int .i64 1)))⟩,
   ⟨(some 27), some undefA, none, false, .pu (.mov (.s 208))⟩])
 (.block 4 (.loop (.seq (.seq (.ops [⟨(some 209), some undefA, none, false, .pu (.mov (.s 27))⟩,
     ⟨(some 210), some undefA, none, false, .pu (.bin .geq (.s 209) (.c (.int .i64 0)))⟩])
   (.cond (.s 210) (.skip)
   (.exit 4)))
   (.seq (.block 5 (.seq (.seq (.ops [⟨(some 213), some undefA, none, false, .pu (.mov (.s 25))⟩,
      ⟨(some 214), some undefA, none, false, .pu (.mov (.s 27))⟩,
      ⟨(some 215), some undefA, none, false, .pu (.idx 2 (.s 213) (.s 214))⟩,
      ⟨(some 216), some undefA, none, false, .pu (.fad 1 (.s 215))⟩,
      ⟨(some 217), some undefA, none, false, .ld (.ld 1 false (.s 216))⟩,
      ⟨(some 218), some undefA, none, false, .pu (.bin .lss (.s 217) (.c (.int .i64 1)))⟩,
      ⟨(some 219), some undefA, none, false, .pu (.mov (.s 218))⟩,
      ⟨(some 220), some undefA, (some (219, false)), false, .pu (.mov (.s 25))⟩,
      ⟨(some 221), some undefA, (some (219, false)), false, .pu (.mov (.s 27))⟩,
      ⟨(some 222), some undefA, (some (219, false)), false, .pu (.idx 2 (.s 220) (.s 221))⟩,
      ⟨(some 223), some undefA, (some (219, false)), false, .pu (.fad 1 (.s 222))⟩,
      ⟨(some 224), some undefA, (some (219, false)), false, .ld (.ld 1 false (.s 223))⟩,
      ⟨(some 225), some undefA, (some (219, false)), false, .pu (.bin .gtr (.s 224) (.c (.int .i64 1000)))⟩,
      ⟨(some 226), some undefA, none, false, .pu (.pick (.s 219) (.c (.bool true)) (.s 225))⟩])
    (.cond (.s 226) (.seq (.ops [⟨(some 4), some undefA, none, false, .pu (.mov (.c (.bool false)))⟩])
     (.ret))
    (.skip)))
    (.ops [⟨(some 227), some undefA, none, true, .pu (.mov (.s 26))⟩,
      ⟨(some 228), some undefA, none, true, .pu (.mov (.s 7))⟩,
      ⟨(some 229), some undefA, none, true, .call 30 [(.s 228)]⟩,
      ⟨(some 230), some undefA, none, false, .pu (.mov (.s 25))⟩,
      ⟨(some 231), some undefA, none, false, .pu (.mov (.s 27))⟩,
      ⟨(some 232), some undefA, none, false, .pu (.idx 2 (.s 230) (.s 231))⟩,
      ⟨(some 233), some undefA, none, true, .ld (.ld 2 true (.s 232))⟩,
      ⟨(some 234), some undefA, none, false, .call 53 [(.s 229), (.s 233)]⟩,
      ⟨(some 235), some undefA, none, false, .ha (.blds 2 1 [.int .i64 0, .int .i64 0] [(0, 2, (.s 234))])⟩,
      ⟨(some 236), some undefA, none, false, .ha (.app 2 (.s 227) (.s 235))⟩,
      ⟨(some 26), some undefA, none, false, .pu (.mov (.s 236))⟩])))
   (.ops [⟨(some 211), some undefA, none, false, .pu (.mov (.s 27))⟩,
     ⟨(some 212), some undefA, none, false, .pu (.bin .sub (.s 211) (.c (.int .i64 1)))⟩,
     ⟨(some 27), some undefA, none, false, .pu (.mov (.s 212))⟩]))))))
 (.seq (.ops [⟨(some 237), some undefA, none, false, .pu (.mov (.s 0))⟩,
   ⟨(some 238), some undefA, none, false, .pu (.mov (.s 1))⟩,
   ⟨(some 239), some undefA, none, false, .pu (.mov (.s 26))⟩,
   ⟨(some 240), some undefA, none, false, .call 51 [(.s 237), (.s 238), (.s 239)]⟩,
   ⟨(some 241), some undefA, none, false, .pu (.bin .eql (.s 240) (.c (.int .i64 0)))⟩,
   ⟨(some 4), some undefA, none, false, .pu (.mov (.s 241))⟩])
 (.ret))))))))))))))))))))))⟩
theorem t12 : trF Try.prog [5, 11, 13, 14, 17, 19, 20] [] Try.f12 = some m12 := by kernel_rfl
end Go.Proofs.Ytnnbggcckabhdaa

namespace Go.Proofs.Ytnnbggcckabhdaa
open Go Go.Eng
/-- The cuts that are made. -/
theorem cuL_get {f : List (Int × Int)} {ps : List Int} (hE : paE f ps = 0) : (cuL f ps).length + 1 = ps.length ∧ ∀ k, k < (cuL f ps).length → (cuL f ps)[k]? = some (pR (cA f ps (k + 1))) := by
  obtain ⟨h0, h1, hfit⟩ := paE_0 hE
  unfold cuL
  rw [if_pos hE]
  refine ⟨by simp; omega, fun k hk => ?_⟩
  simp only [List.length_map, List.length_range] at hk
  rw [List.getElem?_map, List.getElem?_range hk]; rfl
/-- From a point on which is a place, right places are accepted. -/
theorem ck_ok {f : List (Int × Int)} {ps : List Int} (hE : paE f ps = 0) (ats : Nat → Rat) (ha : ∀ k, k ≤ ps.length → (0 ≤ ats k ∧ ats k ≤ ((len f : Int) : Rat)) ∧ upTo 0 f (ats k) = ((prs ps k : Int) : Rat)) (hd : ∀ k, ((ats k).den : Int) ≤ 1000000)
    (hm : ∀ k, k + 1 ≤ ps.length → ats k ≤ ats (k + 1)) (ha0 : ats 0 = 0) : ckE f ps ((List.range (ps.length - 1)).map (fun k => pR (ats (k + 1)))) = 0 := by
  obtain ⟨h0, h1, hfit⟩ := paE_0 hE
  have hg := (good_of h0).1
  have hlb := len_bound hg
  have hM : ∀ r ∈ (List.range (ps.length - 1)).map (fun k => pR (ats (k + 1))), isM f r := by
    intro r hr
    obtain ⟨k, hk, rfl⟩ := List.mem_map.1 hr
    have hk := List.mem_range.1 hk
    have := ha (k + 1) (by omega)
    exact isM_of this.1.1 this.1.2 (hd _)
  unfold ckE
  rw [if_pos hE, if_pos ⟨by simp; omega, hM⟩, if_pos]
  rw [okB_iff]
  obtain ⟨m, hmm⟩ : ∃ m, ps.length = m + 1 := ⟨ps.length - 1, by omega⟩
  have key := okC_own hg hfit (fun k => if k ≤ m then ats k else ((len f : Int) : Rat)) (fun k hk => by
    by_cases hkm : k ≤ m
    · simp only [hkm, if_true]; exact ha k hk
    · have hke : k = ps.length := by omega
      simp only [hkm, if_false]
      refine ⟨⟨cast_nonneg hlb.1, Rat.le_refl⟩, ?_⟩
      rw [upTo_full _ f 0 (all_pos hg.2) (by rw [Int.zero_add]; exact Rat.le_refl), hke]
      congr 1
      unfold prs
      rw [List.take_of_length_le (Nat.le_refl _), hfit.2]) (fun k hk => by
    by_cases hkm : k + 1 ≤ m
    · simp only [hkm, if_true, show k ≤ m by omega]; exact hm k hk
    · simp only [hkm, if_false, show k ≤ m by omega, if_true]
      exact (ha k (by omega)).1.2) ps.length 0 (by omega)
  have e0 : (if 0 ≤ m then ats 0 else ((len f : Int) : Rat)) = 0 := by rw [if_pos (Nat.zero_le _), ha0]
  simp only [e0, List.drop_zero] at key
  have e1' : ends f ((List.range (ps.length - 1)).map (fun k => pR (ats (k + 1)))) = (List.range ps.length).map (fun j => if 0 + 1 + j ≤ m then ats (0 + 1 + j) else ((len f : Int) : Rat)) := by
    unfold ends
    rw [hmm, Nat.add_sub_cancel, List.range_succ, List.map_append, List.map_map]
    congr 1
    · refine List.map_congr_left (fun j hj => ?_)
      have hj := List.mem_range.1 hj
      have : 0 + 1 + j = j + 1 := by omega
      rw [this, if_pos (by omega)]
      exact qr_pR _
    · simp only [List.map_cons, List.map_nil]
      rw [if_neg (by omega)]
  rw [e1']
  exact key
theorem ck_own {f : List (Int × Int)} {ps : List Int} (hE : paE f ps = 0) : ckE f ps (cuL f ps) = 0 := by
  obtain ⟨h0, h1, hfit⟩ := paE_0 hE
  have hg := (good_of h0).1
  have hL : cuL f ps = (List.range (ps.length - 1)).map (fun k => pR (if k + 1 ≤ ps.length then cA f ps (k + 1) else 0)) := by
    unfold cuL
    rw [if_pos hE]
    refine List.map_congr_left (fun k hk => ?_)
    have := List.mem_range.1 hk
    rw [if_pos (by omega)]
  rw [hL]
  exact ck_ok hE (fun k => if k ≤ ps.length then cA f ps k else 0) (fun k hk => by
    simp only [hk, if_true]
    have := cA_facts hg hfit k hk
    exact ⟨this.1, this.2.1⟩) (fun k => by
    by_cases hk : k ≤ ps.length
    · simp only [hk, if_true]; have := (cA_facts hg hfit k hk).2.2; omega
    · simp only [hk, if_false]; show (1 : Int) ≤ _; omega) (fun k hk => by
    simp only [hk, show k ≤ ps.length by omega, if_true]
    obtain ⟨p, hp⟩ : ∃ p, ps[k]? = some p := ⟨_, List.getElem?_eq_getElem (by omega)⟩
    exact (cA_step hg hfit hp).2) (by simp [cA])
theorem cuL_W {f : List (Int × Int)} {ps : List Int} : ∀ r ∈ cuL f ps, W r.1 := by
  intro r hr
  by_cases hE : paE f ps = 0
  · obtain ⟨h0, h1, hfit⟩ := paE_0 hE
    have hg := (good_of h0).1
    unfold cuL at hr
    rw [if_pos hE] at hr
    obtain ⟨k, hk, rfl⟩ := List.mem_map.1 hr
    have hk := List.mem_range.1 hk
    obtain ⟨b1, _, b3⟩ := cA_facts hg hfit (k + 1) (by omega)
    have := ((Pl.of b1.1 b1.2 (by omega)).sm hg).1
    exact ⟨by simp only; omega, by simp only; omega⟩
  · unfold cuL at hr
    rw [if_neg hE] at hr
    simp at hr
end Go.Proofs.Ytnnbggcckabhdaa

namespace Go.Proofs.Ytnnbggcckabhdaa
open Go Go.Eng
theorem ArgA.cuts {H : AHeap} {v : AV} (h : ArgA H (true, [.sl 1 [.int .i64], .sl 2 [.int .i64, .int .i64]]) v) : ∃ (a b : AV) (xs : List Int) (cs : List (Int × Int)), v = .agg [a, b] ∧ L1 H a xs ∧ L2 H b cs ∧ ∀ r ∈ cs, W r.1 := by
  obtain ⟨l, rfl, hl, h⟩ := h
  match l, hl with
  | [x, y], _ =>
    obtain ⟨xs, h1, h2, _⟩ := (h 0 _ x rfl rfl).ints
    obtain ⟨cs, h3, h4, h5⟩ := (h 1 _ y rfl rfl).pairs
    exact ⟨x, y, xs, cs, rfl, h1, h3, fun r hr => (h5 r hr).1⟩
theorem sum_rev : ∀ l : List Int, l.reverse.sum = l.sum
  | [] => rfl
  | a :: l => by rw [List.reverse_cons, List.sum_append, sum_rev l]; simp; omega
theorem prs_rev (ps : List Int) (j : Nat) (hj : j ≤ ps.length) : prs ps.reverse j = ps.sum - prs ps (ps.length - j) := by
  unfold prs
  rw [List.take_reverse, sum_rev]
  have := List.take_append_drop (ps.length - j) ps
  have h2 : (ps.take (ps.length - j)).sum + (ps.drop (ps.length - j)).sum = ps.sum := by rw [← List.sum_append, this]
  omega
theorem pa_rev {f : List (Int × Int)} {ps : List Int} (hE : paE f ps = 0) : paE f.reverse ps.reverse = 0 := by
  obtain ⟨h0, h1, hfit⟩ := paE_0 hE
  obtain ⟨hg, h2⟩ := good_of h0
  have hv : vE f.reverse = 0 := vE_good (by simp; have := hg.1; omega) (by rw [List.all_reverse]; exact hg.2)
  unfold paE
  rw [if_pos hv, if_pos (by simp; omega), if_pos (show ∀ p ∈ ps.reverse, inQ p from fun p hp => hfit.1 p (List.mem_reverse.1 hp)), if_pos (by rw [sum_rev, tot_rev]; exact hfit.2)]
/-- What the cuts of the turned field are worth up to. -/
theorem mirror_worth {f : List (Int × Int)} {ps : List Int} (hE : paE f ps = 0) (j : Nat) (hj : j ≤ ps.length) :
    (0 ≤ ((len f : Int) : Rat) - cA f.reverse ps.reverse j ∧ ((len f : Int) : Rat) - cA f.reverse ps.reverse j ≤ ((len f : Int) : Rat)) ∧ upTo 0 f (((len f : Int) : Rat) - cA f.reverse ps.reverse j) = ((prs ps (ps.length - j) : Int) : Rat) := by
  have hE2 := pa_rev hE
  obtain ⟨h0, h1, hfit⟩ := paE_0 hE
  obtain ⟨h02, h12, hfit2⟩ := paE_0 hE2
  have hg := (good_of h0).1
  have hg2 := (good_of h02).1
  obtain ⟨a1, a2, _⟩ := cA_facts hg2 hfit2 j (by simpa using hj)
  rw [len_rev] at a1
  have h3 := upTo_rev (cA f.reverse ps.reverse j) f (all_pos hg.2)
  rw [a2, prs_rev ps j hj, hfit.2, Rat.intCast_sub] at h3
  exact ⟨⟨by grind, by grind⟩, by grind⟩
/-- A list of numbers, turned. -/
theorem rev_get {α : Type} {ps : List α} {i : Nat} (hi : i < ps.length) : ps.reverse[i]? = ps[ps.length - 1 - i]? := List.getElem?_reverse hi
end Go.Proofs.Ytnnbggcckabhdaa

namespace Go.Proofs.Ytnnbggcckabhdaa
open Go Go.Eng
def exF : List (Int × Int) := [(4, 3), (2, 6)]
set_option maxRecDepth 100000 in
theorem ex_E : plE exF (0, 1) (15, 1) = 0 := by kernel_rfl
set_option maxRecDepth 100000 in
theorem ex_V : plV exF (0, 1) (15, 1) = .agg [I 9, I 2] := by kernel_rfl
theorem isP_of {f : List (Int × Int)} {q : Rat} (h0 : 0 ≤ q) (h1 : q ≤ ((len f : Int) : Rat)) (hd : (q.den : Int) ≤ 1000) : isP f (pR q) := by
  have hp := Pl.of (f := f) h0 h1 (by omega)
  have := den_pos q
  refine ⟨⟨⟨by simp only; omega, hd⟩, ?_⟩, hp.1⟩
  have := q.reduced
  simpa [Int.gcd] using this
/-- What lies between two places is worth. -/
theorem worth_ok {f : List (Int × Int)} (hv : vE f = 0) {a b : Rat} (h0 : 0 ≤ a) (h1 : a ≤ b) (h2 : b ≤ ((len f : Int) : Rat)) (da : (a.den : Int) ≤ 1000) (db : (b.den : Int) ≤ 1000) {x : Rat} (hx : upTo 0 f b - upTo 0 f a = x) :
    wE f (pR a) (pR b) = 0 ∧ wV f (pR a) (pR b) = R x := by
  have hE : wE f (pR a) (pR b) = 0 := wE_ok hv (isP_of h0 (Rat.le_trans h1 h2) da) (isP_of (Rat.le_trans h0 h1) h2 db) (by rw [qr_pR, qr_pR]; exact h1)
  refine ⟨hE, ?_⟩
  unfold wV
  rw [if_pos hE, qr_pR, qr_pR, hx]
theorem s25P {f : List (Int × Int)} {v : AV} {A : AHeap} (hf : L2 A v f) (hv : vE f = 0) {a b : Rat} (h0 : 0 ≤ a) (h1 : a ≤ b) (h2 : b ≤ ((len f : Int) : Rat)) (da : (a.den : Int) ≤ 1000) (db : (b.den : Int) ≤ 1000) {x : Rat} (hx : upTo 0 f b - upTo 0 f a = x) :
    ACalls Try.prog 25 [v, R a, R b] A (.tuple [R x, I 0]) A := by
  have hg := (good_of hv).1
  obtain ⟨e1', e2'⟩ := worth_ok hv h0 h1 h2 da db hx
  have sa := ((Pl.of (f := f) h0 (Rat.le_trans h1 h2) (by omega)).sm hg).1
  have sb := ((Pl.of (f := f) (Rat.le_trans h0 h1) h2 (by omega)).sm hg).1
  have := s25 hf (pR a) (pR b) ⟨by simp only; omega, by simp only; omega⟩ ⟨by simp only; omega, by simp only; omega⟩
  rw [e1', e2'] at this
  exact this
theorem sub_den {f : List (Int × Int)} (hg : good f) {q : Rat} (h0 : 0 ≤ q) (h1 : q ≤ ((len f : Int) : Rat)) : ((((len f : Int) : Rat) - q).den : Int) ≤ q.den := by
  have hlb := len_bound hg
  have hM : ((len f : Int) : Rat) ≤ ((120 : Int) : Rat) := Rat.intCast_le_intCast.2 hlb.2
  exact (num_le (M := 120) (den_pos q) ((Dv_int q.den (len f)).sub (Dv_self q)) (int_neg_le_zero (by omega) (by grind)) (by grind)).2
/-- Places seen from the other end. -/
def mi (f : List (Int × Int)) (ps : List Int) (k : Nat) : Rat := if k = 0 then 0 else ((len f : Int) : Rat) - cA f.reverse ps.reverse (ps.length - k)
theorem mi_facts {f : List (Int × Int)} {ps : List Int} (hE : paE f ps = 0) : (∀ k, k ≤ ps.length → (0 ≤ mi f ps k ∧ mi f ps k ≤ ((len f : Int) : Rat)) ∧ upTo 0 f (mi f ps k) = ((prs ps k : Int) : Rat)) ∧ (∀ k, ((mi f ps k).den : Int) ≤ 20) ∧ (∀ k, k + 1 ≤ ps.length → mi f ps k ≤ mi f ps (k + 1)) := by
  have hE2 := pa_rev hE
  obtain ⟨h0, h1, hfit⟩ := paE_0 hE
  obtain ⟨h02, h12, hfit2⟩ := paE_0 hE2
  have hg := (good_of h0).1
  have hg2 := (good_of h02).1
  have hlb := len_bound hg
  have hb : ∀ j, j ≤ ps.length → (0 ≤ cA f.reverse ps.reverse j ∧ cA f.reverse ps.reverse j ≤ ((len f : Int) : Rat)) ∧ ((cA f.reverse ps.reverse j).den : Int) ≤ 20 := fun j hj => by
    obtain ⟨a1, _, a3⟩ := cA_facts hg2 hfit2 j (by simpa using hj)
    rw [len_rev] at a1
    exact ⟨a1, a3⟩
  refine ⟨fun k hk => ?_, fun k => ?_, fun k hk => ?_⟩
  · unfold mi
    by_cases hk0 : k = 0
    · rw [if_pos hk0, hk0, prs_0]
      exact ⟨⟨Rat.le_refl, cast_nonneg hlb.1⟩, upTo_0 hg⟩
    · rw [if_neg hk0]
      have := mirror_worth hE (ps.length - k) (by omega)
      rw [show ps.length - (ps.length - k) = k by omega] at this
      exact this
  · unfold mi
    split
    · show (1 : Int) ≤ 20; decide
    · have h3 := hb (ps.length - k) (by omega)
      have := sub_den hg h3.1.1 h3.1.2
      omega
  · unfold mi
    rw [if_neg (by omega : ¬ k + 1 = 0)]
    have h3 := hb (ps.length - (k + 1)) (by omega)
    split
    · grind
    · obtain ⟨p, hp⟩ : ∃ p, ps.reverse[ps.length - (k + 1)]? = some p := ⟨_, List.getElem?_eq_getElem (by simp; omega)⟩
      have h4 := (cA_step hg2 hfit2 hp).2
      rw [show ps.length - (k + 1) + 1 = ps.length - k by omega] at h4
      grind
def at' (f : List (Int × Int)) (ps : List Int) (k : Nat) : Rat := if k + 1 ≤ ps.length then cA f ps k else ((len f : Int) : Rat)
theorem at_facts {f : List (Int × Int)} {ps : List Int} (hE : paE f ps = 0) : (∀ k, k ≤ ps.length → (0 ≤ at' f ps k ∧ at' f ps k ≤ ((len f : Int) : Rat)) ∧ upTo 0 f (at' f ps k) = ((prs ps k : Int) : Rat) ∧ ((at' f ps k).den : Int) ≤ 20) ∧ (∀ k, k + 1 ≤ ps.length → at' f ps k ≤ at' f ps (k + 1)) := by
  obtain ⟨h0, h1, hfit⟩ := paE_0 hE
  have hg := (good_of h0).1
  have hlb := len_bound hg
  refine ⟨fun k hk => ?_, fun k hk => ?_⟩
  · unfold at'
    by_cases h : k + 1 ≤ ps.length
    · rw [if_pos h]; exact cA_facts hg hfit k hk
    · rw [if_neg h]
      have hke : k = ps.length := by omega
      refine ⟨⟨cast_nonneg hlb.1, Rat.le_refl⟩, ?_, by show (1 : Int) ≤ 20; decide⟩
      rw [upTo_full _ f 0 (all_pos hg.2) (by rw [Int.zero_add]; exact Rat.le_refl), hke]
      congr 1
      unfold prs
      rw [List.take_of_length_le (Nat.le_refl _), hfit.2]
  · unfold at'
    rw [if_pos (by omega)]
    by_cases h : k + 1 + 1 ≤ ps.length
    · rw [if_pos h]
      obtain ⟨p, hp⟩ : ∃ p, ps[k]? = some p := ⟨_, List.getElem?_eq_getElem (by omega)⟩
      exact (cA_step hg hfit hp).2
    · rw [if_neg h]
      exact (cA_facts hg hfit k (by omega)).1.2
theorem dear_all {f : List (Int × Int)} (hv : vE f = 0) : dE f (len f) = 0 ∧ dP f (len f) = .agg [I 0, I 1] ∧ dW f (len f) = .agg [I (tot f), I 1] := by
  have hg := (good_of hv).1
  have hlb := len_bound hg
  have hlu := len_units hg.2
  have hE : dE f (len f) = 0 := by unfold dE; rw [if_pos hv, if_pos ⟨hlb.1, Int.le_refl _⟩]
  have h0 : (len f - len f).toNat = 0 := by omega
  refine ⟨hE, ?_, ?_⟩
  · unfold dP
    rw [if_pos hE, h0]
    rfl
  · unfold dW
    rw [if_pos hE, h0]
    have : (bst (units f) (len f).toNat 0).2 = tot f := by
      show sm (units f) (len f).toNat 0 = tot f
      unfold sm
      rw [Nat.zero_add, List.take_of_length_le (by omega), sum_units hg.2]
      simp
    rw [this]
    rfl
set_option maxRecDepth 100000 in
set_option maxHeartbeats 8000000 in
theorem s12 {f : List (Int × Int)} {ps : List Int} {v u : AV} {A : AHeap} (hf : L2 A v f) (hp : L1 A u ps) : ACalls Try.prog 12 [v, u] A (B true) A := by
  refine acalls hmix Try.func12 (by kernel_rfl) t12 2 rfl (by decide) ?_
  dsimp only [m12]
  simp (maxSteps := 4000000) -implicitDefEqProofs -dsimp (disch := omega) only [↓AW_ops, ↓AW_seq, ↓AOps_nil, ↓AOps_pu, ↓AOps_ha, ↓AOps_call, on_some, extK_app, ↓then_normal, pval, hval, rd_S, rd_C, put_S, AV.cells?, splice, fillA, repl, eq_self, List.replicate_succ, List.replicate_zero, List.set_cons_zero, List.set_cons_succ, List.getElem?_cons_zero, List.getElem?_cons_succ, List.drop_zero, List.drop_succ_cons, List.drop_nil, List.take_zero, List.take_succ_cons, Option.getD_some, Option.map_some, map_c, map_n, List.length_cons, List.length_nil, Nat.reduceAdd, Nat.reduceSub, Nat.reduceLeDiff, Nat.zero_add, List.cons_append, List.nil_append, List.append_nil, if_true, and_true]
  have hex : L2 (A ++ [.cells true [I 4, I 3, I 2, I 6]]) (.sl 2 A.length 0 2 true) exF := L2_two A (4, 3) (2, 6)
  have p0 := pre_app A [AObj.cells true [I 4, I 3, I 2, I 6]]
  refine CallK.of (s30i 0 _) ?_
  simp (maxSteps := 4000000) -implicitDefEqProofs -dsimp (disch := omega) only [↓AOps_call, extK_same, rd_C, put_S, List.replicate_succ, List.replicate_zero, List.set_cons_zero, List.set_cons_succ, map_c, map_n, Nat.reduceSub, List.cons_append, List.nil_append]
  refine CallK.of (s30i 15 _) ?_
  simp (maxSteps := 4000000) -implicitDefEqProofs -dsimp (disch := omega) only [↓AOps_call, extK_same, rd_S, put_S, List.replicate_succ, List.replicate_zero, List.set_cons_zero, List.set_cons_succ, List.getElem?_cons_zero, List.getElem?_cons_succ, Option.getD_some, map_c, map_n, Nat.reduceSub, List.cons_append, List.nil_append]
  have h39 := s39 hex (0, 1) (15, 1) ⟨by decide, by decide⟩ ⟨by decide, by decide⟩
  rw [ex_E, ex_V] at h39
  refine CallK.of h39 ?_
  generalize A ++ [AObj.cells true [I 4, I 3, I 2, I 6]] = A0 at *
  have hf0 := hf.mono p0
  have hp0 := hp.mono p0
  simp (maxSteps := 4000000) -implicitDefEqProofs -dsimp (disch := omega) only [↓AW_skip, ↓AW_ops, ↓AW_seq, ↓AW_cond, ↓AOps_nil, ↓AOps_pu, ↓AOps_call, ↓AOps_guard, on_some, extK_same, guardB_ff, condB_f, ↓then_normal, pval, rd_S, rd_C, put_S, chkd, bput, bgot, AV.cells?, splice, partA, fillA, eqc, beq_self_eq_true, eq_self, List.replicate_succ, List.replicate_zero, List.set_cons_zero, List.set_cons_succ, List.getElem?_cons_zero, List.getElem?_cons_succ, List.drop_zero, List.drop_succ_cons, List.drop_nil, List.take_zero, List.take_succ_cons, List.take_nil, Option.getD_some, Option.map_some, map_c, map_n, List.length_cons, List.length_nil, Nat.reduceAdd, Nat.reduceSub, Nat.reduceLeDiff, Nat.reduceEqDiff, Nat.zero_add, List.cons_append, List.nil_append, List.append_nil, bin_neq, if_true, if_false, Bool.false_eq_true, Bool.not_true, Bool.true_and, decide_false, and_true, ne_eq, not_true_eq_false]
  refine CallK.of (s18 hf0 (L2_nil A0)) ?_
  by_cases h : (100 : Int) < f.length
  · simp (maxSteps := 4000000) -implicitDefEqProofs -dsimp (disch := omega) only [↓AW_ops, ↓AW_seq, ↓AW_cond, ↓AW_ret, ↓AOps_nil, ↓AOps_pu, ↓AOps_guard, on_some, extK_same, guardB_tf, skipS_some, condB_t, ↓then_normal, ↓then_ret, ↓Fin_ret, pval, rd_S, rd_C, put_S, resV, resL, eq_self, List.replicate_succ, List.replicate_zero, List.set_cons_zero, List.set_cons_succ, List.getElem?_cons_zero, List.getElem?_cons_succ, Option.getD_some, List.length_nil, Nat.reduceSub, List.cons_append, List.nil_append, if_true, decide_true, h, true_or]
    exact gc_val p0 rfl
  · by_cases hpl : (100 : Int) < ps.length
    · simp (maxSteps := 4000000) -implicitDefEqProofs -dsimp (disch := omega) only [↓AW_ops, ↓AW_seq, ↓AW_cond, ↓AW_ret, ↓AOps_nil, ↓AOps_pu, ↓AOps_guard, on_some, extK_same, guardB_ff, condB_t, ↓then_normal, ↓then_ret, ↓Fin_ret, pval, rd_S, rd_C, put_S, resV, resL, List.replicate_succ, List.replicate_zero, List.set_cons_zero, List.set_cons_succ, List.getElem?_cons_zero, List.getElem?_cons_succ, Option.getD_some, List.length_nil, Nat.reduceSub, List.cons_append, List.nil_append, bin_gtr, if_false, Bool.false_eq_true, decide_true, decide_false, Int.reduceLT, h, false_or, Int.cast_ofNat_Int, hp0.len, hpl]
      exact gc_val p0 rfl
    · simp (maxSteps := 4000000) -implicitDefEqProofs -dsimp (disch := omega) only [↓AW_skip, ↓AW_ops, ↓AW_seq, ↓AW_cond, ↓AOps_nil, ↓AOps_pu, ↓AOps_call, ↓AOps_guard, on_some, extK_same, guardB_ff, condB_f, ↓then_normal, pval, rd_S, rd_C, put_S, List.replicate_succ, List.replicate_zero, List.set_cons_zero, List.set_cons_succ, List.getElem?_cons_zero, List.getElem?_cons_succ, Option.getD_some, map_c, map_n, List.length_nil, Nat.reduceSub, List.cons_append, List.nil_append, bin_gtr, if_false, Bool.false_eq_true, decide_false, Int.reduceLT, h, false_or, Int.cast_ofNat_Int, hp0.len, hpl]
      have h31 := s31 hf0
      by_cases h0 : vE f = 0
      · rw [if_pos h0] at h31
        refine CallK.of (h31) ?_
        simp (maxSteps := 4000000) -implicitDefEqProofs -dsimp (disch := omega) only [↓AW_ops, ↓AW_seq, ↓AOps_nil, ↓AOps_pu, ↓AOps_call, on_some, extK_same, ↓then_normal, pval, rd_S, put_S, List.replicate_succ, List.replicate_zero, List.set_cons_zero, List.set_cons_succ, List.getElem?_cons_zero, List.getElem?_cons_succ, Option.getD_some, map_c, map_n, List.length_nil, Nat.reduceSub, List.cons_append, List.nil_append]
        refine CallK.of (s33 hf0) ?_
        have hg := (good_of h0).1
        have hlb := len_bound hg
        have htb := tot_bound hg
        have hful := upTo_full ((len f : Int) : Rat) f 0 (all_pos hg.2) (by rw [Int.zero_add]; exact Rat.le_refl)
        obtain ⟨q1, q2, q3⟩ := dear_all h0
        simp (maxSteps := 4000000) -implicitDefEqProofs -dsimp (disch := omega) only [↓AW_skip, ↓AW_ops, ↓AW_seq, ↓AW_cond, ↓AOps_nil, ↓AOps_pu, ↓AOps_call, on_some, extK_same, condB_f, ↓then_normal, pval, rd_S, rd_C, put_S, eq_self, List.replicate_succ, List.replicate_zero, List.set_cons_zero, List.set_cons_succ, List.getElem?_cons_zero, List.getElem?_cons_succ, Option.getD_some, map_c, map_n, List.length_nil, Nat.reduceSub, List.cons_append, List.nil_append, bin_neq, if_true, decide_false, not_true_eq_false, h0]
        refine CallK.of (s30 0 _) ?_
        simp (maxSteps := 4000000) -implicitDefEqProofs -dsimp (disch := omega) only [↓AOps_pu, ↓AOps_call, on_some, extK_same, pval, rd_S, put_S, List.replicate_succ, List.replicate_zero, List.set_cons_zero, List.set_cons_succ, List.getElem?_cons_zero, List.getElem?_cons_succ, Option.getD_some, map_c, map_n, List.length_nil, Nat.reduceSub, List.cons_append, List.nil_append]
        refine CallK.of (s30 _ _) ?_
        simp (maxSteps := 4000000) -implicitDefEqProofs -dsimp (disch := omega) only [↓AOps_call, extK_same, rd_S, put_S, List.replicate_succ, List.replicate_zero, List.set_cons_zero, List.set_cons_succ, List.getElem?_cons_zero, List.getElem?_cons_succ, Option.getD_some, map_c, map_n, List.length_nil, Nat.reduceSub, List.cons_append, List.nil_append]
        refine CallK.of (s25P hf0 h0 (a := ((0 : Int) : Rat)) (b := ((len f : Int) : Rat)) (x := ((tot f : Int) : Rat)) Rat.le_refl (cast_nonneg hlb.1) Rat.le_refl (by show (1 : Int) ≤ 1000; decide) (by show (1 : Int) ≤ 1000; decide) (by rw [hful, int0, upTo_0 hg]; grind)) ?_
        simp (maxSteps := 4000000) -implicitDefEqProofs -dsimp (disch := omega) only [↓AW_ops, ↓AW_seq, ↓AOps_nil, ↓AOps_pu, ↓AOps_call, on_some, extK_same, ↓then_normal, pval, rd_S, rd_C, put_S, chkd, bput, AV.cells?, splice, eq_self, List.replicate_succ, List.replicate_zero, List.set_cons_zero, List.set_cons_succ, List.getElem?_cons_zero, List.getElem?_cons_succ, List.drop_succ_cons, List.drop_nil, List.take_zero, Option.getD_some, map_c, map_n, List.length_cons, List.length_nil, Nat.reduceAdd, Nat.reduceSub, Nat.reduceLeDiff, Nat.zero_add, List.cons_append, List.nil_append, List.append_nil, if_true, if_false, ne_eq, not_true_eq_false]
        have h28 := s28 hf0 (len f) ⟨by omega, by omega⟩
        rw [q1, q2, q3] at h28
        refine CallK.of h28 ?_
        simp (maxSteps := 4000000) -implicitDefEqProofs -dsimp (disch := omega) only [↓AW_ops, ↓AW_seq, ↓AOps_nil, ↓AOps_pu, ↓AOps_call, ↓AOps_guard, on_some, extK_same, guardB_ff, ↓then_normal, pval, rd_S, rd_C, put_S, chkd, bput, bgot, AV.cells?, splice, partA, eq_self, List.replicate_succ, List.replicate_zero, List.set_cons_zero, List.set_cons_succ, List.getElem?_cons_zero, List.getElem?_cons_succ, List.drop_zero, List.drop_succ_cons, List.drop_nil, List.take_zero, List.take_succ_cons, List.take_nil, Option.getD_some, map_c, map_n, List.length_cons, List.length_nil, Nat.reduceAdd, Nat.reduceSub, Nat.reduceLeDiff, Nat.reduceEqDiff, Nat.zero_add, List.cons_append, List.nil_append, List.append_nil, bin_neq, if_true, if_false, Bool.false_eq_true, decide_false, ne_eq, not_true_eq_false, h0]
        refine CallK.of (s30 _ _) ?_
        simp (maxSteps := 4000000) -implicitDefEqProofs -dsimp (disch := omega) only [↓AW_cond, ↓AOps_nil, ↓AOps_pu, ↓AOps_guard, on_some, extK_same, guardB_ff, ↓then_normal, pval, rd_S, rd_C, put_S, chkd, bgot, partA, eqc, beq_self_eq_true, Bool.and_true, eq_self, List.replicate_succ, List.replicate_zero, List.set_cons_zero, List.set_cons_succ, List.getElem?_cons_zero, List.getElem?_cons_succ, List.drop_zero, List.take_succ_cons, List.take_nil, Option.getD_some, Option.map_some, List.length_cons, List.length_nil, Nat.reduceAdd, Nat.reduceSub, Nat.reduceLeDiff, Nat.reduceEqDiff, Nat.zero_add, List.cons_append, List.nil_append, if_true, if_false, Bool.false_eq_true, Bool.not_true, Bool.true_and]
        have hti : ((tot f : Int) : Rat).num = tot f ∧ ((((tot f : Int) : Rat).den : Nat) : Int) = 1 := ⟨rfl, rfl⟩
        rw [hti.1, hti.2]
        simp (maxSteps := 4000000) -implicitDefEqProofs -dsimp (disch := omega) only [↓AW_skip, ↓AW_ops, ↓AW_seq, ↓AOps_pu, ↓AOps_call, on_some, condB_f, ↓then_normal, pval, rd_S, put_S, beq_self_eq_true, Bool.and_self, List.replicate_succ, List.replicate_zero, List.set_cons_zero, List.set_cons_succ, List.getElem?_cons_zero, List.getElem?_cons_succ, Option.getD_some, map_c, map_n, List.length_nil, Nat.reduceSub, List.cons_append, List.nil_append, Bool.not_true]
        refine CallK.of (s50 hf0 hp0) ?_
        have p1 := pre_out A0 ((cuL f ps).flatMap Go.Eng.e2) (cuL f ps).length
        have hL1 := Ls_out A0 e2_len (cuL f ps)
        generalize outH A0 ((cuL f ps).flatMap Go.Eng.e2) (cuL f ps).length = A1 at *
        generalize outV 2 A0 (cuL f ps).length = y1 at *
        have hf1 := hf0.mono p1
        have hp1 := hp0.mono p1
        have p01 := p0.trans p1
        by_cases hE : paE f ps = 0
        · obtain ⟨_, h1, hfit⟩ := paE_0 hE
          obtain ⟨c1, c2⟩ := cuL_get hE
          have hcl : ((ps.length : Int) - 1) = ((cuL f ps).length : Int) := by omega
          simp (maxSteps := 4000000) -implicitDefEqProofs -dsimp (disch := omega) only [↓AW_skip, ↓AW_ops, ↓AW_seq, ↓AW_cond, ↓AOps_nil, ↓AOps_pu, ↓AOps_call, ↓AOps_guard, on_some, extK_false, guardB_ff, condB_f, ↓then_normal, pval, rd_S, rd_C, put_S, beq_self_eq_true, Bool.and_self, eq_self, List.replicate_succ, List.replicate_zero, List.set_cons_zero, List.set_cons_succ, List.getElem?_cons_zero, List.getElem?_cons_succ, Option.getD_some, map_c, map_n, List.length_nil, Nat.reduceSub, List.cons_append, List.nil_append, bin_sub, bin_neq, w64, Bool.not_true, decide_false, not_true_eq_false, hE, hL1.len, hp1.len, hcl]
          refine CallK.of (s51 hf1 hp1 hL1 (by omega) cuL_W) ?_
          simp (maxSteps := 4000000) -implicitDefEqProofs -dsimp (disch := omega) only [↓AW_skip, ↓AW_ops, ↓AW_seq, ↓AW_cond, ↓AOps_nil, ↓AOps_pu, ↓AOps_call, ↓AOps_guard, on_some, extK_same, guardB_ff, condB_f, ↓then_normal, pval, rd_S, rd_C, put_S, beq_self_eq_true, Bool.and_self, eq_self, List.replicate_succ, List.replicate_zero, List.set_cons_zero, List.set_cons_succ, List.getElem?_cons_zero, List.getElem?_cons_succ, Option.getD_some, map_c, map_n, List.length_nil, Nat.reduceSub, List.cons_append, List.nil_append, bin_neq, if_false, Bool.false_eq_true, Bool.not_true, decide_false, not_true_eq_false, ck_own hE]
          refine CallK.of (s30 0 _) ?_
          simp (maxSteps := 4000000) -implicitDefEqProofs -dsimp (disch := omega) only [↓AW_ops, ↓AW_seq, ↓AW_block, ↓AOps_nil, ↓AOps_pu, on_some, extK_same, ↓then_normal, pval, rd_S, rd_C, put_S, ↓AW_toLoop, chkd, bput, AV.cells?, splice, beq_self_eq_true, Bool.and_self, eq_self, List.replicate_succ, List.replicate_zero, List.set_cons_zero, List.set_cons_succ, List.getElem?_cons_zero, List.getElem?_cons_succ, List.drop_succ_cons, List.drop_nil, List.take_zero, Option.getD_some, List.length_cons, List.length_nil, Nat.reduceAdd, Nat.reduceSub, Nat.reduceLeDiff, Nat.zero_add, List.cons_append, List.nil_append, List.append_nil, if_true, if_false, Bool.not_true, ne_eq, not_true_eq_false]
          obtain ⟨at1, at2⟩ := at_facts hE
          have hz : R ((0 : Int) : Rat) = R (at' f ps 0) := by unfold at'; rw [if_pos (by omega)]; rfl
          refine LoopK.by 242 (fun k : Nat => k ≤ ps.length) (fun k => [(0, v), (1, u), (7, I (len f)), (16, y1), (17, R (at' f ps k)), (18, I k)]) (fun _ => A1) (fun k => ps.length - k) 0 (by omega) rfl (by simp only [← hz]; simp [Has, rd_s]) rfl ?_
          intro k hk
          by_cases hlt : k < ps.length
          · have hlt' : (k : Int) < ps.length := by omega
            obtain ⟨p, hpk⟩ : ∃ p, ps[k]? = some p := ⟨_, List.getElem?_eq_getElem hlt⟩
            obtain ⟨b1, b2, b3⟩ := at1 k (by omega)
            obtain ⟨d1, d2, d3⟩ := at1 (k + 1) (by omega)
            have hpr := prs_succ hpk
            have h25 := s25P hf1 h0 (a := at' f ps k) (b := at' f ps (k + 1)) (x := (p : Rat)) b1.1 (at2 k (by omega)) d1.2 (by omega) (by omega) (by rw [b2, d2, hpr, Rat.intCast_add]; grind)
            simp (maxSteps := 4000000) -implicitDefEqProofs -dsimp (disch := omega) only [↓AW_skip, ↓AW_ops, ↓AW_seq, ↓AW_cond, ↓AW_block, ↓AOps_nil, ↓AOps_pu, ↓AOps_call, on_some, condB_t, ↓then_normal, pval, rd_S, put_S, mk, List.foldl_cons, List.foldl_nil, List.replicate_succ, List.replicate_zero, List.set_cons_zero, List.set_cons_succ, List.getElem?_cons_zero, List.getElem?_cons_succ, Option.getD_some, map_c, map_n, bin_lss, decide_true, hlt', hp1.len]
            refine CallK.of (s30 _ _) ?_
            simp (maxSteps := 4000000) -implicitDefEqProofs -dsimp (disch := omega) only [↓AW_ops, ↓AW_seq, ↓AW_cond, ↓AOps_nil, ↓AOps_pu, on_some, extK_same, ↓then_normal, pval, rd_S, rd_C, put_S, chkd, bput, AV.cells?, splice, eq_self, mk, List.foldl_cons, List.foldl_nil, List.replicate_succ, List.replicate_zero, List.set_cons_zero, List.set_cons_succ, List.getElem?_cons_zero, List.getElem?_cons_succ, List.drop_succ_cons, List.drop_nil, List.take_zero, Option.getD_some, List.length_cons, List.length_nil, Nat.reduceAdd, Nat.reduceLeDiff, Nat.zero_add, List.nil_append, List.append_nil, bin_lss, if_true, if_false, ne_eq, not_true_eq_false, hL1.len]
            by_cases hlc : k < (cuL f ps).length
            · have hlc' : (k : Int) < (cuL f ps).length := by omega
              have hzc := c2 k hlc
              have hat : cA f ps (k + 1) = at' f ps (k + 1) := by unfold at'; rw [if_pos (by omega)]
              rw [hat] at hzc
              simp (maxSteps := 4000000) -implicitDefEqProofs -dsimp (disch := omega) only [↓AW_ops, ↓AW_seq, ↓AOps_nil, ↓AOps_pu, ↓AOps_ld, ↓AOps_call, on_some, condB_t, ↓then_normal, pval, lval, rd_S, put_S, chkd, bput, bgot, AV.cells?, splice, partA, eq_self, mk, List.foldl_cons, List.foldl_nil, List.replicate_succ, List.replicate_zero, List.set_cons_zero, List.set_cons_succ, List.getElem?_cons_zero, List.getElem?_cons_succ, List.drop_zero, List.drop_succ_cons, List.drop_nil, List.take_zero, List.take_succ_cons, List.take_nil, Option.getD_some, map_c, map_n, List.length_cons, List.length_nil, Nat.reduceAdd, Nat.reduceLeDiff, Nat.reduceEqDiff, Nat.zero_add, List.nil_append, List.append_nil, if_true, if_false, decide_true, Go.Eng.e2, ne_eq, not_true_eq_false, hlc', hL1.idx hlc, hL1.ld0 hzc 2 true (by decide)]
              refine CallK.of h25 ?_
              simp (maxSteps := 4000000) -implicitDefEqProofs -dsimp (disch := omega) only [↓AW_ops, ↓AW_seq, ↓AOps_nil, ↓AOps_pu, ↓AOps_ld, ↓AOps_call, ↓AOps_guard, on_some, extK_same, guardB_ff, ↓then_normal, pval, lval, rd_S, rd_C, put_S, chkd, bput, bgot, AV.cells?, splice, partA, eq_self, mk, List.foldl_cons, List.foldl_nil, List.replicate_succ, List.replicate_zero, List.set_cons_zero, List.set_cons_succ, List.getElem?_cons_zero, List.getElem?_cons_succ, List.drop_zero, List.drop_succ_cons, List.drop_nil, List.take_zero, List.take_succ_cons, List.take_nil, Option.getD_some, map_c, map_n, List.length_cons, List.length_nil, Nat.reduceAdd, Nat.reduceLeDiff, Nat.reduceEqDiff, Nat.zero_add, List.nil_append, List.append_nil, bin_neq, if_true, if_false, Bool.false_eq_true, decide_false, Go.Eng.e1, ne_eq, not_true_eq_false, hp1.idx hlt, hp1.ld0 hpk 1 false (by decide)]
              refine CallK.of (s30 _ _) ?_
              simp (maxSteps := 4000000) -implicitDefEqProofs -dsimp (disch := omega) only [↓AW_skip, ↓AW_ops, ↓AW_cond, ↓AOps_nil, ↓AOps_pu, ↓AOps_guard, on_some, extK_same, guardB_ff, condB_f, ↓then_normal, ↓inBlock_normal, pval, rd_S, rd_C, put_S, chkd, bput, bgot, AV.cells?, splice, partA, eqc, beq_self_eq_true, eq_self, mk, List.foldl_cons, List.foldl_nil, List.replicate_succ, List.replicate_zero, List.set_cons_zero, List.set_cons_succ, List.getElem?_cons_zero, List.getElem?_cons_succ, List.drop_zero, List.drop_succ_cons, List.drop_nil, List.take_zero, List.take_succ_cons, List.take_nil, Option.getD_some, Option.map_some, List.length_cons, List.length_nil, Nat.reduceAdd, Nat.reduceLeDiff, Nat.reduceEqDiff, Nat.zero_add, List.nil_append, List.append_nil, bin_add, w64, if_true, if_false, Bool.false_eq_true, Bool.not_true, Bool.true_and, true_and, ne_eq, not_true_eq_false]
              exact ⟨k + 1, hlt, by simp [Has, rd_s], by omega⟩
            · have hlc' : ¬ ((k : Int) < (cuL f ps).length) := by omega
              have hat : ((len f : Int) : Rat) = at' f ps (k + 1) := by unfold at'; rw [if_neg (by omega)]
              rw [hat]
              simp (maxSteps := 4000000) -implicitDefEqProofs -dsimp (disch := omega) only [↓AW_skip, ↓AW_ops, ↓AW_seq, ↓AOps_pu, ↓AOps_call, on_some, condB_f, ↓then_normal, pval, rd_S, put_S, chkd, bgot, partA, eq_self, mk, List.foldl_cons, List.foldl_nil, List.replicate_succ, List.replicate_zero, List.set_cons_zero, List.set_cons_succ, List.getElem?_cons_zero, List.getElem?_cons_succ, List.drop_zero, List.take_succ_cons, List.take_nil, Option.getD_some, map_c, map_n, List.length_cons, List.length_nil, Nat.reduceAdd, Nat.reduceLeDiff, Nat.reduceEqDiff, Nat.zero_add, if_true, if_false, decide_false, hlc']
              refine CallK.of h25 ?_
              simp (maxSteps := 4000000) -implicitDefEqProofs -dsimp (disch := omega) only [↓AW_ops, ↓AW_seq, ↓AOps_nil, ↓AOps_pu, ↓AOps_ld, ↓AOps_call, ↓AOps_guard, on_some, extK_same, guardB_ff, ↓then_normal, pval, lval, rd_S, rd_C, put_S, chkd, bput, bgot, AV.cells?, splice, partA, eq_self, mk, List.foldl_cons, List.foldl_nil, List.replicate_succ, List.replicate_zero, List.set_cons_zero, List.set_cons_succ, List.getElem?_cons_zero, List.getElem?_cons_succ, List.drop_zero, List.drop_succ_cons, List.drop_nil, List.take_zero, List.take_succ_cons, List.take_nil, Option.getD_some, map_c, map_n, List.length_cons, List.length_nil, Nat.reduceAdd, Nat.reduceLeDiff, Nat.reduceEqDiff, Nat.zero_add, List.nil_append, List.append_nil, bin_neq, if_true, if_false, Bool.false_eq_true, decide_false, Go.Eng.e1, ne_eq, not_true_eq_false, hp1.idx hlt, hp1.ld0 hpk 1 false (by decide)]
              refine CallK.of (s30 _ _) ?_
              simp (maxSteps := 4000000) -implicitDefEqProofs -dsimp (disch := omega) only [↓AW_skip, ↓AW_ops, ↓AW_cond, ↓AOps_nil, ↓AOps_pu, ↓AOps_guard, on_some, extK_same, guardB_ff, condB_f, ↓then_normal, ↓inBlock_normal, pval, rd_S, rd_C, put_S, chkd, bput, bgot, AV.cells?, splice, partA, eqc, beq_self_eq_true, eq_self, mk, List.foldl_cons, List.foldl_nil, List.replicate_succ, List.replicate_zero, List.set_cons_zero, List.set_cons_succ, List.getElem?_cons_zero, List.getElem?_cons_succ, List.drop_zero, List.drop_succ_cons, List.drop_nil, List.take_zero, List.take_succ_cons, List.take_nil, Option.getD_some, Option.map_some, List.length_cons, List.length_nil, Nat.reduceAdd, Nat.reduceLeDiff, Nat.reduceEqDiff, Nat.zero_add, List.nil_append, List.append_nil, bin_add, w64, if_true, if_false, Bool.false_eq_true, Bool.not_true, Bool.true_and, true_and, ne_eq, not_true_eq_false]
              exact ⟨k + 1, hlt, by simp [Has, rd_s], by omega⟩
          · have hlt' : ¬ ((k : Int) < ps.length) := by omega
            have hE2 := pa_rev hE
            obtain ⟨h02, h12, hfit2⟩ := paE_0 hE2
            have hg2 := (good_of h02).1
            obtain ⟨d1, d2⟩ := cuL_get hE2
            rw [List.length_reverse] at d1
            have hT : tuL f = f.reverse := by unfold tuL; rw [if_pos h0]
            have h52 := s52 hf1
            rw [hT, h0] at h52
            simp (maxSteps := 4000000) -implicitDefEqProofs -dsimp (disch := omega) only [↓AW_ops, ↓AW_seq, ↓AW_cond, ↓AW_exit, ↓AOps_nil, ↓AOps_pu, ↓AOps_call, on_some, condB_f, ↓then_normal, ↓then_exit, ↓inBlock_exit, pval, rd_S, put_S, eq_self, mk, List.foldl_cons, List.foldl_nil, List.replicate_succ, List.replicate_zero, List.set_cons_zero, List.set_cons_succ, List.getElem?_cons_zero, List.getElem?_cons_succ, Option.getD_some, map_c, map_n, bin_lss, if_true, decide_false, hlt', hp1.len]
            refine CallK.of h52 ?_
            have p2 := pre_out A1 (f.reverse.flatMap Go.Eng.e2) f.reverse.length
            have hL2 := Ls_out A1 e2_len f.reverse
            generalize outH A1 (f.reverse.flatMap Go.Eng.e2) f.reverse.length = A2 at *
            generalize outV 2 A1 f.reverse.length = y2 at *
            have hf2 := hf1.mono p2
            have hp2 := hp1.mono p2
            have hc2 := hL1.mono p2
            simp (maxSteps := 4000000) -implicitDefEqProofs -dsimp (disch := omega) only [↓AW_ops, ↓AW_seq, ↓AW_block, ↓AOps_nil, ↓AOps_pu, on_some, extK_false, ↓then_normal, pval, rd_S, rd_C, put_S, ↓AW_toLoop, mk, List.foldl_cons, List.foldl_nil, List.replicate_succ, List.replicate_zero, List.set_cons_zero, List.set_cons_succ, List.getElem?_cons_zero, List.getElem?_cons_succ, Option.getD_some, bin_sub, w64, hp2.len]
            refine LoopK.by 242 (fun x : Nat × AV × AHeap => x.1 ≤ ps.length ∧ AccL 1 e1 A2 x.2.2 x.2.1 (ps.reverse.take x.1)) (fun x => [(0, v), (1, u), (7, I (len f)), (8, I 0), (16, y1), (22, y2), (23, x.2.1), (24, I ((ps.length : Int) - 1 - x.1))]) (fun x => x.2.2) (fun x => ps.length - x.1) (0, .nilS, A2) ⟨by simp only; omega, AccL.nil (List.prefix_refl _)⟩ rfl (by simp [Has, rd_s]) rfl ?_
            rintro ⟨k3, o, A3⟩ ⟨hk3, ho⟩
            simp only at hk3 ho
            have hp3 := hp2.mono ho.pre
            by_cases hltk : k3 < ps.length
            · have hj : (ps.length : Int) - 1 - k3 = ((ps.length - 1 - k3 : Nat) : Int) := by omega
              have hjl : ps.length - 1 - k3 < ps.length := by omega
              obtain ⟨z, hz⟩ : ∃ z, ps[ps.length - 1 - k3]? = some z := ⟨_, List.getElem?_eq_getElem hjl⟩
              have hrz : ps.reverse[k3]? = some z := by rw [rev_get hltk, hz]
              have hc0 : (0 : Int) ≤ ((ps.length - 1 - k3 : Nat) : Int) := by omega
              obtain ⟨v3, A4, happ, h3⟩ := ho.push e1_len z (by simp [lim]; omega)
              simp only [Go.Eng.e1] at happ
              generalize hJ : ps.length - 1 - k3 = j at *
              simp (maxSteps := 4000000) -implicitDefEqProofs -dsimp (disch := omega) only [↓AW_skip, ↓AW_ops, ↓AW_seq, ↓AW_cond, ↓AW_block, ↓AOps_nil, ↓AOps_pu, ↓AOps_ld, ↓AOps_ha, on_some, extK_false, extK_app, condB_t, ↓then_normal, ↓inBlock_normal, pval, lval, hval, rd_S, rd_C, put_S, AV.cells?, splice, partA, fillA, repl, eq_self, mk, List.foldl_cons, List.foldl_nil, List.replicate_succ, List.replicate_zero, List.set_cons_zero, List.set_cons_succ, List.getElem?_cons_zero, List.getElem?_cons_succ, List.drop_zero, List.drop_succ_cons, List.drop_nil, List.take_zero, List.take_succ_cons, List.take_nil, Option.getD_some, map_c, map_n, List.length_cons, List.length_nil, Nat.reduceAdd, Nat.reduceLeDiff, Nat.zero_add, List.nil_append, List.append_nil, bin_sub, bin_geq, w64, if_true, if_false, Bool.false_eq_true, decide_true, Go.Eng.e1, true_and, and_true, hj, hc0, hp3.idx hjl, hp3.ld0 hz 1 false (by decide), happ]
              refine ⟨(k3 + 1, v3, A4), ⟨hltk, ?_⟩, by simp [Has, rd_s]; omega, rfl, by simp only; omega⟩
              simp only
              rw [List.take_add_one, hrz]
              exact h3
            · have hneg : ¬ (0 : Int) ≤ (ps.length : Int) - 1 - k3 := by omega
              rw [List.take_of_length_le (by simp; omega)] at ho
              have hback := AccL_ls ho e1_len
              have hL3 := hL2.mono ho.pre
              have hcc := hc2.mono ho.pre
              simp (maxSteps := 4000000) -implicitDefEqProofs -dsimp (disch := omega) only [↓AW_ops, ↓AW_seq, ↓AW_cond, ↓AW_exit, ↓AOps_nil, ↓AOps_pu, ↓AOps_call, on_some, condB_f, ↓then_normal, ↓then_exit, ↓inBlock_exit, pval, rd_S, rd_C, put_S, eq_self, mk, List.foldl_cons, List.foldl_nil, List.replicate_succ, List.replicate_zero, List.set_cons_zero, List.set_cons_succ, List.getElem?_cons_zero, List.getElem?_cons_succ, Option.getD_some, map_c, map_n, bin_geq, if_true, decide_false, hneg]
              refine CallK.of (s50 hL3 hback) ?_
              rw [hE2]
              have p4 := pre_out A3 ((cuL f.reverse ps.reverse).flatMap Go.Eng.e2) (cuL f.reverse ps.reverse).length
              have hL4 := Ls_out A3 e2_len (cuL f.reverse ps.reverse)
              generalize outH A3 ((cuL f.reverse ps.reverse).flatMap Go.Eng.e2) (cuL f.reverse ps.reverse).length = A4 at *
              generalize outV 2 A3 (cuL f.reverse ps.reverse).length = y4 at *
              have hc4 := hcc.mono p4
              have hf4 := (hf2.mono ho.pre).mono p4
              have hp4 := hp3.mono p4
              have pA4 := ((p01.trans p2).trans ho.pre).trans p4
              have hll : ((cuL f.reverse ps.reverse).length : Int) = (cuL f ps).length := by omega
              have hmn : (cuL f.reverse ps.reverse).length = (cuL f ps).length := by omega
              obtain ⟨mi1, mi2, mi3⟩ := mi_facts hE
              simp (maxSteps := 4000000) -implicitDefEqProofs -dsimp (disch := omega) only [↓AW_skip, ↓AW_ops, ↓AW_seq, ↓AW_cond, ↓AW_block, ↓AOps_nil, ↓AOps_pu, ↓AOps_guard, on_some, extK_false, guardB_ff, condB_f, ↓then_normal, pval, rd_S, rd_C, put_S, ↓AW_toLoop, eq_self, mk, List.foldl_cons, List.foldl_nil, List.replicate_succ, List.replicate_zero, List.set_cons_zero, List.set_cons_succ, List.getElem?_cons_zero, List.getElem?_cons_succ, Option.getD_some, bin_sub, bin_neq, w64, if_false, Bool.false_eq_true, decide_false, not_true_eq_false, hL4.len, hc4.len, hll]
              refine LoopK.by 242 (fun x : Nat × AV × AHeap => x.1 ≤ (cuL f ps).length ∧ AccL 2 e2 A4 x.2.2 x.2.1 ((List.range x.1).map (fun k => pR (mi f ps (k + 1))))) (fun x => [(0, v), (1, u), (7, I (len f)), (25, y4), (26, x.2.1), (27, I (((cuL f ps).length : Int) - 1 - x.1))]) (fun x => x.2.2) (fun x => (cuL f ps).length - x.1) (0, .nilS, A4) ⟨by simp only; omega, AccL.nil (List.prefix_refl _)⟩ rfl (by simp [Has, rd_s]) rfl ?_
              rintro ⟨k5, o5, A5⟩ ⟨hk5, ho5⟩
              simp only at hk5 ho5
              have hL5 := hL4.mono ho5.pre
              by_cases hlt5 : k5 < (cuL f ps).length
              · have hj : ((cuL f ps).length : Int) - 1 - k5 = (((cuL f ps).length - 1 - k5 : Nat) : Int) := by omega
                have hoi : (cuL f ps).length - 1 - k5 < (cuL f.reverse ps.reverse).length := by omega
                have hz2 := d2 _ hoi
                have hidx : (cuL f ps).length - 1 - k5 + 1 = ps.length - (k5 + 1) := by omega
                rw [hidx] at hz2
                have hmik : ((len f : Int) : Rat) - cA f.reverse ps.reverse (ps.length - (k5 + 1)) = mi f ps (k5 + 1) := by unfold mi; rw [if_neg (by omega)]
                obtain ⟨a1, _, a3⟩ := cA_facts hg2 hfit2 (ps.length - (k5 + 1)) (by rw [List.length_reverse]; omega)
                have hS := (Pl.of a1.1 a1.2 (by omega)).sm hg2
                have hdp := den_pos (cA f.reverse ps.reverse (ps.length - (k5 + 1)))
                have n1 : ¬ ((cA f.reverse ps.reverse (ps.length - (k5 + 1))).den : Int) < 1 := by omega
                have n2 : ¬ (1000 : Int) < ((cA f.reverse ps.reverse (ps.length - (k5 + 1))).den : Int) := by omega
                have hc0 : (0 : Int) ≤ (((cuL f ps).length - 1 - k5 : Nat) : Int) := by omega
                obtain ⟨v6, A6, happ, h6⟩ := ho5.push e2_len (pR (mi f ps (k5 + 1))) (by simp [lim]; omega)
                simp only [Go.Eng.e2] at happ
                generalize hJ : (cuL f ps).length - 1 - k5 = j at *
                simp (maxSteps := 4000000) -implicitDefEqProofs -dsimp (disch := omega) only [↓AW_skip, ↓AW_ops, ↓AW_seq, ↓AW_cond, ↓AW_block, ↓AOps_nil, ↓AOps_pu, ↓AOps_ld, ↓AOps_call, ↓AOps_guard, on_some, guardB_ff, condB_t, condB_f, ↓then_normal, pval, lval, rd_S, rd_C, put_S, partA, eq_self, mk, List.foldl_cons, List.foldl_nil, List.replicate_succ, List.replicate_zero, List.set_cons_zero, List.set_cons_succ, List.getElem?_cons_zero, List.getElem?_cons_succ, List.drop_zero, List.drop_succ_cons, List.take_succ_cons, List.take_nil, Option.getD_some, map_c, map_n, List.length_cons, List.length_nil, Nat.reduceAdd, Nat.reduceLeDiff, Nat.zero_add, bin_lss, bin_gtr, bin_geq, if_true, if_false, Bool.false_eq_true, decide_true, decide_false, Go.Eng.e2, hj, hc0, hL5.idx hoi, hL5.ld hz2 1 1 false (by decide), n1, n2]
                refine CallK.of (s30 _ _) ?_
                simp (maxSteps := 4000000) -implicitDefEqProofs -dsimp (disch := omega) only [↓AOps_pu, ↓AOps_ld, ↓AOps_call, on_some, extK_same, pval, lval, rd_S, put_S, partA, eq_self, mk, List.foldl_cons, List.foldl_nil, List.replicate_succ, List.replicate_zero, List.set_cons_zero, List.set_cons_succ, List.getElem?_cons_zero, List.getElem?_cons_succ, List.drop_zero, List.take_succ_cons, List.take_nil, Option.getD_some, map_c, map_n, List.length_cons, List.length_nil, Nat.reduceAdd, Nat.reduceLeDiff, Nat.reduceEqDiff, Nat.zero_add, if_true, if_false, Go.Eng.e2, hj, hL5.idx hoi, hL5.ld0 hz2 2 true (by decide)]
                refine CallK.of (s53 ((len f : Int) : Rat) _ _ (Sm_int (by omega)) hS) ?_
                rw [hmik]
                simp (maxSteps := 4000000) -implicitDefEqProofs -dsimp (disch := omega) only [↓AW_ops, ↓AOps_nil, ↓AOps_pu, ↓AOps_ha, on_some, extK_false, extK_app, extK_same, ↓then_normal, ↓inBlock_normal, pval, hval, rd_S, rd_C, put_S, AV.cells?, splice, fillA, repl, eq_self, mk, List.foldl_cons, List.foldl_nil, List.replicate_succ, List.replicate_zero, List.set_cons_zero, List.set_cons_succ, List.getElem?_cons_zero, List.getElem?_cons_succ, List.drop_succ_cons, List.drop_nil, List.take_zero, Option.getD_some, map_c, map_n, List.length_cons, List.length_nil, Nat.reduceAdd, Nat.reduceLeDiff, Nat.zero_add, List.nil_append, List.append_nil, bin_sub, w64, if_true, true_and, and_true, happ]
                refine ⟨(k5 + 1, v6, A6), ⟨hlt5, ?_⟩, by simp [Has, rd_s]; omega, rfl, by simp only; omega⟩
                simp only
                rw [List.range_succ, List.map_append]
                exact h6
              · have hneg5 : ¬ (0 : Int) ≤ ((cuL f ps).length : Int) - 1 - k5 := by omega
                have hke : k5 = ps.length - 1 := by omega
                rw [hke] at ho5
                have hmir := AccL_ls ho5 e2_len
                have hck := ck_ok hE (mi f ps) mi1 (fun k => by have := mi2 k; omega) mi3 rfl
                simp (maxSteps := 4000000) -implicitDefEqProofs -dsimp (disch := omega) only [↓AW_ops, ↓AW_seq, ↓AW_cond, ↓AW_exit, ↓AOps_nil, ↓AOps_pu, ↓AOps_call, on_some, condB_f, ↓then_normal, ↓then_exit, ↓inBlock_exit, pval, rd_S, rd_C, put_S, eq_self, mk, List.foldl_cons, List.foldl_nil, List.replicate_succ, List.replicate_zero, List.set_cons_zero, List.set_cons_succ, List.getElem?_cons_zero, List.getElem?_cons_succ, Option.getD_some, map_c, map_n, bin_geq, if_true, decide_false, hneg5]
                refine CallK.of (s51 (hf4.mono ho5.pre) (hp4.mono ho5.pre) hmir (by simp; omega) (fun r hr => ?_)) ?_
                · obtain ⟨k, hk, rfl⟩ := List.mem_map.1 hr
                  have hk := List.mem_range.1 hk
                  have b := mi1 (k + 1) (by omega)
                  have b2 := mi2 (k + 1)
                  have := ((Pl.of (f := f) b.1.1 b.1.2 (by omega)).sm hg).1
                  exact ⟨by simp only; omega, by simp only; omega⟩
                · rw [hck]
                  simp (maxSteps := 4000000) -implicitDefEqProofs -dsimp (disch := omega) only [↓AW_ret, ↓AOps_nil, ↓AOps_pu, on_some, extK_same, ↓then_normal, ↓Fin_ret, pval, rd_S, rd_C, put_S, resV, resL, eq_self, mk, List.foldl_cons, List.foldl_nil, List.replicate_succ, List.replicate_zero, List.set_cons_zero, List.set_cons_succ, List.getElem?_cons_zero, List.getElem?_cons_succ, Option.getD_some, bin_eql, decide_true]
                  exact gc_val (pA4.trans ho5.pre) rfl
        · have hL0 : cuL f ps = [] := by unfold cuL; rw [if_neg hE]
          rw [hL0] at hL1
          have hlen0 : lenA y1 = some (I 0) := hL1.len
          simp (maxSteps := 4000000) -implicitDefEqProofs -dsimp (disch := omega) only [↓AW_ops, ↓AW_seq, ↓AW_cond, ↓AW_ret, ↓AOps_nil, ↓AOps_pu, on_some, extK_false, condB_t, ↓then_normal, ↓then_ret, ↓Fin_ret, pval, rd_S, rd_C, put_S, resV, resL, beq_self_eq_true, Bool.and_self, eq_self, List.replicate_succ, List.replicate_zero, List.set_cons_zero, List.set_cons_succ, List.getElem?_cons_zero, List.getElem?_cons_succ, Option.getD_some, List.length_nil, Nat.reduceSub, List.cons_append, List.nil_append, bin_eql, bin_neq, Bool.not_true, decide_true, not_false_eq_true, hE, hlen0]
          exact gc_val p01 rfl
      · rw [if_neg h0] at h31
        refine CallK.of (h31) ?_
        simp (maxSteps := 4000000) -implicitDefEqProofs -dsimp (disch := omega) only [↓AW_ops, ↓AW_seq, ↓AOps_nil, ↓AOps_pu, ↓AOps_call, on_some, extK_same, ↓then_normal, pval, rd_S, put_S, List.replicate_succ, List.replicate_zero, List.set_cons_zero, List.set_cons_succ, List.getElem?_cons_zero, List.getElem?_cons_succ, Option.getD_some, map_c, map_n, List.length_nil, Nat.reduceSub, List.cons_append, List.nil_append]
        refine CallK.of (s33 hf0) ?_
        simp (maxSteps := 4000000) -implicitDefEqProofs -dsimp (disch := omega) only [↓AW_ops, ↓AW_seq, ↓AW_cond, ↓AOps_nil, ↓AOps_pu, ↓AOps_call, ↓AOps_guard, on_some, extK_same, guardB_tt, condB_t, ↓then_normal, pval, rd_S, rd_C, put_S, eq_self, List.replicate_succ, List.replicate_zero, List.set_cons_zero, List.set_cons_succ, List.getElem?_cons_zero, List.getElem?_cons_succ, Option.getD_some, map_c, map_n, List.length_nil, Nat.reduceSub, List.cons_append, List.nil_append, bin_eql, bin_neq, if_false, decide_true, not_false_eq_true, h0]
        refine CallK.of (s37 hf0) ?_
        simp (maxSteps := 4000000) -implicitDefEqProofs -dsimp (disch := omega) only [↓AW_ret, ↓AOps_nil, ↓AOps_pu, ↓AOps_guard, on_some, extK_same, guardB_tt, ↓then_normal, ↓then_ret, ↓Fin_ret, pval, rd_S, rd_C, put_S, resV, resL, eq_self, List.replicate_succ, List.replicate_zero, List.set_cons_zero, List.set_cons_succ, List.getElem?_cons_zero, List.getElem?_cons_succ, Option.getD_some, List.length_nil, Nat.reduceSub, List.cons_append, List.nil_append, bin_eql, if_true, decide_true]
        exact gc_val p0 rfl
end Go.Proofs.Ytnnbggcckabhdaa

