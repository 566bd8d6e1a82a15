import Derived.Test.YtnnbggcckabhdaaEng20
import Derived.Test.YtnnbggcckabhdaaRows
namespace Go.Proofs.Ytnnbggcckabhdaa
open Go Go.Eng
/-- selion/soil.Place [] -/
def m39 : MFun := ⟨52, [4, 5, 6, 9], [.bget none 6 0 2 true, .mov (.s 7)],
 .seq (.ops [⟨(some 4), some (.junk), none, false, .pu (.bnew (.s 1))⟩,
   ⟨(some 5), some (.junk), none, false, .pu (.bnew (.s 2))⟩,
   ⟨(some 6), some (.junk), none, false, .pu (.bnew (.c (.agg [.int .i64 0, .int .i64 0])))⟩,
   ⟨(some 7), some undefA, none, false, .pu (.mov (.c (.int .i64 0)))⟩])
 (.seq (.seq (.ops [⟨(some 11), some undefA, none, false, .pu (.mov (.s 0))⟩,
   ⟨(some 12), some undefA, none, false, .call 37 [(.s 11)]⟩,
   ⟨(some 8), some undefA, none, false, .pu (.mov (.s 12))⟩])
 (.seq (.ops [⟨(some 13), some undefA, none, false, .pu (.mov (.s 8))⟩,
   ⟨(some 14), some undefA, none, false, .pu (.bin .neq (.s 13) (.c (.int .i64 0)))⟩])
 (.cond (.s 14) (.seq (.ops [⟨(some 15), some undefA, none, false, .pu (.build [.int .i64 0, .int .i64 0] [])⟩,
    ⟨(some 16), some undefA, none, false, .pu (.mov (.s 8))⟩,
    ⟨(some 6), none, none, false, .pu (.bset none 6 0 2 (.s 15))⟩,
    ⟨(some 7), some undefA, none, false, .pu (.mov (.s 16))⟩])
  (.ret))
 (.skip))))
 (.seq (.seq (.ops [⟨(some 17), some undefA, none, false, .pu (.mov (.s 0))⟩,
   ⟨(some 18), some undefA, none, false, .pu (.bget none 4 0 2 true)⟩,
   ⟨(some 19), some undefA, none, false, .call 71 [(.s 17), (.s 18), (.c (.int .i64 1000))]⟩,
   ⟨(some 20), some undefA, none, false, .pu (.not (.s 19))⟩,
   ⟨(some 21), some undefA, none, false, .pu (.mov (.s 20))⟩,
   ⟨(some 22), some undefA, (some (21, false)), false, .pu (.bget none 5 0 2 true)⟩,
   ⟨(some 23), some undefA, (some (21, false)), false, .call 79 [(.s 22), (.c (.int .i64 1000))]⟩,
   ⟨(some 24), some undefA, (some (21, false)), false, .pu (.not (.s 23))⟩,
   ⟨(some 25), some undefA, none, false, .pu (.pick (.s 21) (.c (.bool true)) (.s 24))⟩,
   ⟨(some 26), some undefA, none, false, .pu (.mov (.s 25))⟩,
   ⟨(some 27), some undefA, (some (26, false)), false, .pu (.badr none 5)⟩,
   ⟨(some 28), some undefA, (some (26, false)), false, .pu (.bget (some 27) 5 0 1 false)⟩,
   ⟨(some 29), some undefA, (some (26, false)), false, .pu (.bin .lss (.s 28) (.c (.int .i64 0)))⟩,
   ⟨(some 30), some undefA, none, false, .pu (.pick (.s 26) (.c (.bool true)) (.s 29))⟩])
 (.cond (.s 30) (.seq (.ops [⟨(some 31), some undefA, none, false, .pu (.build [.int .i64 0, .int .i64 0] [])⟩,
    ⟨(some 6), none, none, false, .pu (.bset none 6 0 2 (.s 31))⟩,
    ⟨(some 7), some undefA, none, false, .pu (.mov (.c (.int .i64 1)))⟩])
  (.ret))
 (.skip)))
 (.seq (.seq (.ops [⟨(some 32), some undefA, none, false, .pu (.badr none 5)⟩,
   ⟨(some 33), some undefA, none, false, .pu (.bget (some 32) 5 0 1 false)⟩,
   ⟨(some 34), some undefA, none, false, .pu (.badr none 5)⟩,
   ⟨(some 35), some undefA, none, false, .pu (.bget (some 34) 5 1 1 false)⟩,
   ⟨(some 36), some undefA, none, false, .pu (.mov (.s 0))⟩,
   ⟨(some 37), some undefA, none, false, .call 65 [(.s 36)]⟩,
   ⟨(some 38), some undefA, none, false, .pu (.bin .mul (.s 35) (.s 37))⟩,
   ⟨(some 39), some undefA, none, false, .pu (.bin .gtr (.s 33) (.s 38))⟩])
 (.cond (.s 39) (.seq (.ops [⟨(some 40), some undefA, none, false, .pu (.build [.int .i64 0, .int .i64 0] [])⟩,
    ⟨(some 6), none, none, false, .pu (.bset none 6 0 2 (.s 40))⟩,
    ⟨(some 7), some undefA, none, false, .pu (.mov (.c (.int .i64 8)))⟩])
  (.ret))
 (.skip)))
 (.seq (.ops [⟨(some 42), some undefA, none, false, .pu (.mov (.s 0))⟩,
   ⟨(some 43), some undefA, none, false, .pu (.bget none 4 0 2 true)⟩,
   ⟨(some 44), some undefA, none, false, .pu (.bget none 5 0 2 true)⟩,
   ⟨(some 45), some undefA, none, false, .call 80 [(.s 42), (.s 43), (.s 44)]⟩,
   ⟨(some 41), some undefA, none, false, .pu (.mov (.s 45))⟩,
   ⟨(some 46), some undefA, none, false, .pu (.extr 0 (.s 41))⟩,
   ⟨(some 47), some undefA, none, false, .pu (.extr 1 (.s 41))⟩,
   ⟨(some 9), some (.junk), none, false, .pu (.bnew (.c (.agg [.int .i64 0, .int .i64 0])))⟩,
   ⟨(some 9), none, none, false, .pu (.bset none 9 0 2 (.s 46))⟩,
   ⟨(some 10), some undefA, none, false, .pu (.mov (.s 47))⟩])
 (.seq (.seq (.ops [⟨(some 48), some undefA, none, false, .pu (.mov (.s 10))⟩,
   ⟨(some 49), some undefA, none, false, .pu (.not (.s 48))⟩])
 (.cond (.s 49) (.seq (.ops [⟨(some 50), some undefA, none, false, .pu (.build [.int .i64 0, .int .i64 0] [])⟩,
    ⟨(some 6), none, none, false, .pu (.bset none 6 0 2 (.s 50))⟩,
    ⟨(some 7), some undefA, none, false, .pu (.mov (.c (.int .i64 8)))⟩])
  (.ret))
 (.skip)))
 (.seq (.ops [⟨(some 51), some undefA, none, false, .pu (.bget none 9 0 2 true)⟩,
   ⟨(some 6), none, none, false, .pu (.bset none 6 0 2 (.s 51))⟩,
   ⟨(some 7), some undefA, none, false, .pu (.mov (.c (.int .i64 0)))⟩])
 (.ret)))))))⟩
theorem t39 : trF Try.prog [4, 5, 6, 9] [] Try.f39 = some m39 := by kernel_rfl

/-- selion/selionref02.Place [] -/
def m40 : MFun := ⟨49, [4, 5, 6, 9], [.bget none 6 0 2 true, .mov (.s 7)],
 .seq (.ops [⟨(some 4), some (.junk), none, false, .pu (.bnew (.s 1))⟩,
   ⟨(some 5), some (.junk), none, false, .pu (.bnew (.s 2))⟩,
   ⟨(some 6), some (.junk), none, false, .pu (.bnew (.c (.agg [.int .i64 0, .int .i64 0])))⟩,
   ⟨(some 7), some undefA, none, false, .pu (.mov (.c (.int .i64 0)))⟩])
 (.seq (.ops [⟨(some 11), some undefA, none, false, .pu (.mov (.s 0))⟩,
   ⟨(some 12), some undefA, none, false, .pu (.bget none 4 0 2 true)⟩,
   ⟨(some 13), some undefA, none, false, .ha (.blds 2 1 [.int .i64 0, .int .i64 0] [(0, 2, (.s 12))])⟩,
   ⟨(some 14), some undefA, none, false, .call 74 [(.s 11), (.s 13)]⟩,
   ⟨(some 8), some undefA, none, false, .pu (.mov (.s 14))⟩])
 (.seq (.seq (.ops [⟨(some 15), some undefA, none, false, .pu (.mov (.s 8))⟩,
   ⟨(some 16), some undefA, none, false, .pu (.bin .neq (.s 15) (.c (.int .i64 0)))⟩])
 (.cond (.s 16) (.seq (.ops [⟨(some 17), some undefA, none, false, .pu (.build [.int .i64 0, .int .i64 0] [])⟩,
    ⟨(some 18), some undefA, none, false, .pu (.mov (.s 8))⟩,
    ⟨(some 6), none, none, false, .pu (.bset none 6 0 2 (.s 17))⟩,
    ⟨(some 7), some undefA, none, false, .pu (.mov (.s 18))⟩])
  (.ret))
 (.skip)))
 (.seq (.seq (.ops [⟨(some 19), some undefA, none, false, .pu (.bget none 5 0 2 true)⟩,
   ⟨(some 20), some undefA, none, false, .call 81 [(.s 19), (.c (.int .i64 1000))]⟩,
   ⟨(some 21), some undefA, none, false, .pu (.not (.s 20))⟩,
   ⟨(some 22), some undefA, none, false, .pu (.mov (.s 21))⟩,
   ⟨(some 23), some undefA, (some (22, false)), false, .pu (.badr none 5)⟩,
   ⟨(some 24), some undefA, (some (22, false)), false, .pu (.bget (some 23) 5 0 1 false)⟩,
   ⟨(some 25), some undefA, (some (22, false)), false, .pu (.bin .lss (.s 24) (.c (.int .i64 0)))⟩,
   ⟨(some 26), some undefA, none, false, .pu (.pick (.s 22) (.c (.bool true)) (.s 25))⟩])
 (.cond (.s 26) (.seq (.ops [⟨(some 27), some undefA, none, false, .pu (.build [.int .i64 0, .int .i64 0] [])⟩,
    ⟨(some 6), none, none, false, .pu (.bset none 6 0 2 (.s 27))⟩,
    ⟨(some 7), some undefA, none, false, .pu (.mov (.c (.int .i64 1)))⟩])
  (.ret))
 (.skip)))
 (.seq (.seq (.ops [⟨(some 28), some undefA, none, false, .pu (.badr none 5)⟩,
   ⟨(some 29), some undefA, none, false, .pu (.bget (some 28) 5 0 1 false)⟩,
   ⟨(some 30), some undefA, none, false, .pu (.badr none 5)⟩,
   ⟨(some 31), some undefA, none, false, .pu (.bget (some 30) 5 1 1 false)⟩,
   ⟨(some 32), some undefA, none, false, .pu (.bin .quo (.s 29) (.s 31))⟩,
   ⟨(some 33), some undefA, none, false, .pu (.mov (.s 0))⟩,
   ⟨(some 34), some undefA, none, false, .call 70 [(.s 33)]⟩,
   ⟨(some 35), some undefA, none, false, .pu (.bin .gtr (.s 32) (.s 34))⟩])
 (.cond (.s 35) (.seq (.ops [⟨(some 36), some undefA, none, false, .pu (.build [.int .i64 0, .int .i64 0] [])⟩,
    ⟨(some 6), none, none, false, .pu (.bset none 6 0 2 (.s 36))⟩,
    ⟨(some 7), some undefA, none, false, .pu (.mov (.c (.int .i64 8)))⟩])
  (.ret))
 (.skip)))
 (.seq (.ops [⟨(some 38), some undefA, none, false, .pu (.mov (.s 0))⟩,
   ⟨(some 39), some undefA, none, false, .call 68 [(.s 38)]⟩,
   ⟨(some 40), some undefA, none, false, .pu (.bget none 4 0 2 true)⟩,
   ⟨(some 41), some undefA, none, false, .pu (.bget none 5 0 2 true)⟩,
   ⟨(some 42), some undefA, none, false, .call 67 [(.s 39), (.s 40), (.s 41)]⟩,
   ⟨(some 37), some undefA, none, false, .pu (.mov (.s 42))⟩,
   ⟨(some 43), some undefA, none, false, .pu (.extr 0 (.s 37))⟩,
   ⟨(some 44), some undefA, none, false, .pu (.extr 1 (.s 37))⟩,
   ⟨(some 9), some (.junk), none, false, .pu (.bnew (.c (.agg [.int .i64 0, .int .i64 0])))⟩,
   ⟨(some 9), none, none, false, .pu (.bset none 9 0 2 (.s 43))⟩,
   ⟨(some 10), some undefA, none, false, .pu (.mov (.s 44))⟩])
 (.seq (.seq (.ops [⟨(some 45), some undefA, none, false, .pu (.mov (.s 10))⟩,
   ⟨(some 46), some undefA, none, false, .pu (.not (.s 45))⟩])
 (.cond (.s 46) (.seq (.ops [⟨(some 47), some undefA, none, false, .pu (.build [.int .i64 0, .int .i64 0] [])⟩,
    ⟨(some 6), none, none, false, .pu (.bset none 6 0 2 (.s 47))⟩,
    ⟨(some 7), some undefA, none, false, .pu (.mov (.c (.int .i64 8)))⟩])
  (.ret))
 (.skip)))
 (.seq (.ops [⟨(some 48), some undefA, none, false, .pu (.bget none 9 0 2 true)⟩,
   ⟨(some 6), none, none, false, .pu (.bset none 6 0 2 (.s 48))⟩,
   ⟨(some 7), some undefA, none, false, .pu (.mov (.c (.int .i64 0)))⟩])
 (.ret))))))))⟩
theorem t40 : trF Try.prog [4, 5, 6, 9] [] Try.f40 = some m40 := by kernel_rfl

/-- selion/soil.Part [loop [1, 2, 9, 10, 32, 33, 34]] -/
def m41 : MFun := ⟨63, [12], [.mov (.s 6), .mov (.s 7)],
 .seq (.ops [⟨(some 6), some undefA, none, false, .pu (.mov (.c (.nilS)))⟩,
   ⟨(some 7), some undefA, none, false, .pu (.mov (.c (.int .i64 0)))⟩])
 (.seq (.seq (.ops [⟨(some 14), some undefA, none, false, .pu (.mov (.s 0))⟩,
   ⟨(some 15), some undefA, none, false, .call 37 [(.s 14)]⟩,
   ⟨(some 8), some undefA, none, false, .pu (.mov (.s 15))⟩])
 (.seq (.ops [⟨(some 16), some undefA, none, false, .pu (.mov (.s 8))⟩,
   ⟨(some 17), some undefA, none, false, .pu (.bin .neq (.s 16) (.c (.int .i64 0)))⟩])
 (.cond (.s 17) (.seq (.ops [⟨(some 18), some undefA, none, false, .pu (.mov (.s 8))⟩,
    ⟨(some 6), some undefA, none, false, .pu (.mov (.c (.nilS)))⟩,
    ⟨(some 7), some undefA, none, false, .pu (.mov (.s 18))⟩])
  (.ret))
 (.skip))))
 (.seq (.seq (.ops [⟨(some 19), some undefA, none, false, .pu (.mov (.s 1))⟩,
   ⟨(some 20), some undefA, none, false, .pu (.bin .lss (.s 19) (.c (.int .i64 0)))⟩,
   ⟨(some 21), some undefA, none, false, .pu (.mov (.s 20))⟩,
   ⟨(some 22), some undefA, (some (21, false)), false, .pu (.mov (.s 1))⟩,
   ⟨(some 23), some undefA, (some (21, false)), false, .pu (.mov (.s 2))⟩,
   ⟨(some 24), some undefA, (some (21, false)), false, .pu (.bin .geq (.s 22) (.s 23))⟩,
   ⟨(some 25), some undefA, none, false, .pu (.pick (.s 21) (.c (.bool true)) (.s 24))⟩,
   ⟨(some 26), some undefA, none, false, .pu (.mov (.s 25))⟩,
   ⟨(some 27), some undefA, (some (26, false)), false, .pu (.mov (.s 2))⟩,
   ⟨(some 28), some undefA, (some (26, false)), false, .pu (.mov (.s 0))⟩,
   ⟨(some 29), some undefA, (some (26, false)), false, .call 77 [(.s 28)]⟩,
   ⟨(some 30), some undefA, (some (26, false)), false, .pu (.bin .gtr (.s 27) (.s 29))⟩,
   ⟨(some 31), some undefA, none, false, .pu (.pick (.s 26) (.c (.bool true)) (.s 30))⟩])
 (.cond (.s 31) (.seq (.ops [⟨(some 6), some undefA, none, false, .pu (.mov (.c (.nilS)))⟩,
    ⟨(some 7), some undefA, none, false, .pu (.mov (.c (.int .i64 1)))⟩])
  (.ret))
 (.skip)))
 (.seq (.ops [⟨(some 9), some undefA, none, false, .pu (.mov (.c (.nilS)))⟩])
 (.seq (.ops [⟨(some 10), some undefA, none, false, .pu (.mov (.c (.int .i64 0)))⟩])
 (.seq (.seq (.ops [⟨(some 32), some undefA, none, false, .pu (.mov (.s 0))⟩,
   ⟨(some 33), some undefA, none, false, .pu (.len (.s 32))⟩,
   ⟨(some 34), some undefA, none, false, .pu (.mov (.c (.int .i64 0)))⟩])
 (.block 0 (.loop (.seq (.ops [⟨(some 35), some undefA, none, false, .pu (.bin .lss (.s 34) (.s 33))⟩])
   (.seq (.cond (.s 35) (.skip)
   (.exit 0))
   (.seq (.block 1 (.seq (.ops [⟨(some 36), some undefA, none, false, .pu (.idx 2 (.s 32) (.s 34))⟩,
      ⟨(some 37), some undefA, none, false, .ld (.ld 2 true (.s 36))⟩,
      ⟨(some 12), some (.junk), none, false, .pu (.bnew (.c (.agg [.int .i64 0, .int .i64 0])))⟩,
      ⟨(some 12), none, none, false, .pu (.bset none 12 0 2 (.s 37))⟩])
    (.seq (.seq (.ops [⟨(some 38), some undefA, none, false, .pu (.mov (.s 2))⟩,
      ⟨(some 39), some undefA, none, false, .pu (.mov (.s 10))⟩,
      ⟨(some 40), some undefA, none, false, .pu (.badr none 12)⟩,
      ⟨(some 41), some undefA, none, false, .pu (.bget (some 40) 12 0 1 false)⟩,
      ⟨(some 42), some undefA, none, false, .pu (.bin .add (.s 39) (.s 41))⟩,
      ⟨(some 43), some undefA, none, false, .pu (.mm false (.s 38) [(.s 42)])⟩,
      ⟨(some 44), some undefA, none, false, .pu (.mov (.s 1))⟩,
      ⟨(some 45), some undefA, none, false, .pu (.mov (.s 10))⟩,
      ⟨(some 46), some undefA, none, false, .pu (.mm true (.s 44) [(.s 45)])⟩,
      ⟨(some 47), some undefA, none, false, .pu (.bin .sub (.s 43) (.s 46))⟩,
      ⟨(some 13), some undefA, none, false, .pu (.mov (.s 47))⟩])
    (.seq (.ops [⟨(some 48), some undefA, none, false, .pu (.mov (.s 13))⟩,
      ⟨(some 49), some undefA, none, false, .pu (.bin .gtr (.s 48) (.c (.int .i64 0)))⟩])
    (.cond (.s 49) (.ops [⟨(some 50), some undefA, none, false, .pu (.mov (.s 9))⟩,
       ⟨(some 51), some undefA, none, false, .pu (.mov (.s 13))⟩,
       ⟨(some 52), some undefA, none, false, .pu (.badr none 12)⟩,
       ⟨(some 53), some undefA, none, false, .pu (.bget (some 52) 12 1 1 false)⟩,
       ⟨(some 54), some undefA, none, false, .pu (.build [.int .i64 0, .int .i64 0] [(0, 1, (.s 51)), (1, 1, (.s 53))])⟩,
       ⟨(some 55), some undefA, none, false, .ha (.blds 2 1 [.int .i64 0, .int .i64 0] [(0, 2, (.s 54))])⟩,
       ⟨(some 56), some undefA, none, false, .ha (.app 2 (.s 50) (.s 55))⟩,
       ⟨(some 9), some undefA, none, false, .pu (.mov (.s 56))⟩])
    (.skip))))
    (.ops [⟨(some 57), some undefA, none, false, .pu (.mov (.s 10))⟩,
      ⟨(some 58), some undefA, none, false, .pu (.badr none 12)⟩,
      ⟨(some 59), some undefA, none, false, .pu (.bget (some 58) 12 0 1 false)⟩,
      ⟨(some 60), some undefA, none, false, .pu (.bin .add (.s 57) (.s 59))⟩,
      ⟨(some 10), some undefA, none, false, .pu (.mov (.s 60))⟩]))))
   (.ops [⟨(some 61), some undefA, none, false, .pu (.bin .add (.s 34) (.c (.int .i64 1)))⟩,
     ⟨(some 34), some undefA, none, false, .pu (.mov (.s 61))⟩])))))))
 (.seq (.ops [⟨(some 62), some undefA, none, false, .pu (.mov (.s 9))⟩,
   ⟨(some 6), some undefA, none, false, .pu (.mov (.s 62))⟩,
   ⟨(some 7), some undefA, none, false, .pu (.mov (.c (.int .i64 0)))⟩])
 (.ret)))))))⟩
theorem t41 : trF Try.prog [12] [] Try.f41 = some m41 := by kernel_rfl

/-- selion/selionref02.Part [loop [0, 1, 2, 9, 10, 11]] -/
def m42 : MFun := ⟨71, [], [.mov (.s 6), .mov (.s 7)],
 .seq (.ops [⟨(some 6), some undefA, none, false, .pu (.mov (.c (.nilS)))⟩,
   ⟨(some 7), some undefA, none, false, .pu (.mov (.c (.int .i64 0)))⟩])
 (.seq (.ops [⟨(some 13), some undefA, none, false, .pu (.mov (.s 0))⟩,
   ⟨(some 14), some undefA, none, false, .call 38 [(.s 13)]⟩,
   ⟨(some 8), some undefA, none, false, .pu (.mov (.s 14))⟩])
 (.seq (.seq (.ops [⟨(some 15), some undefA, none, false, .pu (.mov (.s 8))⟩,
   ⟨(some 16), some undefA, none, false, .pu (.bin .neq (.s 15) (.c (.int .i64 0)))⟩])
 (.cond (.s 16) (.seq (.ops [⟨(some 17), some undefA, none, false, .pu (.mov (.s 8))⟩,
    ⟨(some 6), some undefA, none, false, .pu (.mov (.c (.nilS)))⟩,
    ⟨(some 7), some undefA, none, false, .pu (.mov (.s 17))⟩])
  (.ret))
 (.skip)))
 (.seq (.seq (.ops [⟨(some 18), some undefA, none, false, .pu (.mov (.s 1))⟩,
   ⟨(some 19), some undefA, none, false, .pu (.bin .lss (.s 18) (.c (.int .i64 0)))⟩,
   ⟨(some 20), some undefA, none, false, .pu (.mov (.s 19))⟩,
   ⟨(some 21), some undefA, (some (20, false)), false, .pu (.mov (.s 1))⟩,
   ⟨(some 22), some undefA, (some (20, false)), false, .pu (.mov (.s 2))⟩,
   ⟨(some 23), some undefA, (some (20, false)), false, .pu (.bin .geq (.s 21) (.s 22))⟩,
   ⟨(some 24), some undefA, none, false, .pu (.pick (.s 20) (.c (.bool true)) (.s 23))⟩,
   ⟨(some 25), some undefA, none, false, .pu (.mov (.s 24))⟩,
   ⟨(some 26), some undefA, (some (25, false)), false, .pu (.mov (.s 2))⟩,
   ⟨(some 27), some undefA, (some (25, false)), false, .pu (.mov (.s 0))⟩,
   ⟨(some 28), some undefA, (some (25, false)), false, .call 68 [(.s 27)]⟩,
   ⟨(some 29), some undefA, (some (25, false)), false, .pu (.len (.s 28))⟩,
   ⟨(some 30), some undefA, (some (25, false)), false, .pu (.bin .gtr (.s 26) (.s 29))⟩,
   ⟨(some 31), some undefA, none, false, .pu (.pick (.s 25) (.c (.bool true)) (.s 30))⟩])
 (.cond (.s 31) (.seq (.ops [⟨(some 6), some undefA, none, false, .pu (.mov (.c (.nilS)))⟩,
    ⟨(some 7), some undefA, none, false, .pu (.mov (.c (.int .i64 1)))⟩])
  (.ret))
 (.skip)))
 (.seq (.ops [⟨(some 9), some undefA, none, false, .pu (.mov (.c (.nilS)))⟩])
 (.seq (.ops [⟨(some 10), some undefA, none, false, .pu (.mov (.c (.int .i64 0)))⟩])
 (.seq (.seq (.ops [⟨(some 11), some undefA, none, false, .pu (.mov (.c (.int .i64 0)))⟩])
 (.block 0 (.loop (.seq (.seq (.ops [⟨(some 32), some undefA, none, false, .pu (.mov (.s 11))⟩,
     ⟨(some 33), some undefA, none, false, .pu (.mov (.s 0))⟩,
     ⟨(some 34), some undefA, none, false, .pu (.len (.s 33))⟩,
     ⟨(some 35), some undefA, none, false, .pu (.bin .lss (.s 32) (.s 34))⟩])
   (.cond (.s 35) (.skip)
   (.exit 0)))
   (.seq (.block 1 (.seq (.ops [⟨(some 38), some undefA, none, false, .pu (.mov (.s 2))⟩,
      ⟨(some 39), some undefA, none, false, .pu (.mov (.s 10))⟩,
      ⟨(some 40), some undefA, none, false, .pu (.mov (.s 0))⟩,
      ⟨(some 41), some undefA, none, false, .pu (.mov (.s 11))⟩,
      ⟨(some 42), some undefA, none, false, .pu (.idx 2 (.s 40) (.s 41))⟩,
      ⟨(some 43), some undefA, none, false, .pu (.fad 0 (.s 42))⟩,
      ⟨(some 44), some undefA, none, false, .ld (.ld 1 false (.s 43))⟩,
      ⟨(some 45), some undefA, none, false, .pu (.bin .add (.s 39) (.s 44))⟩,
      ⟨(some 46), some undefA, none, false, .pu (.mm false (.s 38) [(.s 45)])⟩,
      ⟨(some 47), some undefA, none, false, .pu (.mov (.s 1))⟩,
      ⟨(some 48), some undefA, none, false, .pu (.mov (.s 10))⟩,
      ⟨(some 49), some undefA, none, false, .pu (.mm true (.s 47) [(.s 48)])⟩,
      ⟨(some 50), some undefA, none, false, .pu (.bin .sub (.s 46) (.s 49))⟩,
      ⟨(some 12), some undefA, none, false, .pu (.mov (.s 50))⟩])
    (.seq (.seq (.ops [⟨(some 51), some undefA, none, false, .pu (.mov (.s 12))⟩,
      ⟨(some 52), some undefA, none, false, .pu (.bin .gtr (.s 51) (.c (.int .i64 0)))⟩])
    (.cond (.s 52) (.ops [⟨(some 53), some undefA, none, false, .pu (.mov (.s 9))⟩,
       ⟨(some 54), some undefA, none, false, .pu (.mov (.s 12))⟩,
       ⟨(some 55), some undefA, none, false, .pu (.mov (.s 0))⟩,
       ⟨(some 56), some undefA, none, false, .pu (.mov (.s 11))⟩,
       ⟨(some 57), some undefA, none, false, .pu (.idx 2 (.s 55) (.s 56))⟩,
       ⟨(some 58), some undefA, none, false, .pu (.fad 1 (.s 57))⟩,
       ⟨(some 59), some undefA, none, false, .ld (.ld 1 false (.s 58))⟩,
       ⟨(some 60), some undefA, none, false, .pu (.build [.int .i64 0, .int .i64 0] [(0, 1, (.s 54)), (1, 1, (.s 59))])⟩,
       ⟨(some 61), some undefA, none, false, .ha (.blds 2 1 [.int .i64 0, .int .i64 0] [(0, 2, (.s 60))])⟩,
       ⟨(some 62), some undefA, none, false, .ha (.app 2 (.s 53) (.s 61))⟩,
       ⟨(some 9), some undefA, none, false, .pu (.mov (.s 62))⟩])
    (.skip)))
    (.ops [⟨(some 63), some undefA, none, false, .pu (.mov (.s 10))⟩,
      ⟨(some 64), some undefA, none, false, .pu (.mov (.s 0))⟩,
      ⟨(some 65), some undefA, none, false, .pu (.mov (.s 11))⟩,
      ⟨(some 66), some undefA, none, false, .pu (.idx 2 (.s 64) (.s 65))⟩,
      ⟨(some 67), some undefA, none, false, .pu (.fad 0 (.s 66))⟩,
      ⟨(some 68), some undefA, none, false, .ld (.ld 1 false (.s 67))⟩,
      ⟨(some 69), some undefA, none, false, .pu (.bin .add (.s 63) (.s 68))⟩,
      ⟨(some 10), some undefA, none, false, .pu (.mov (.s 69))⟩]))))
   (.ops [⟨(some 36), some undefA, none, false, .pu (.mov (.s 11))⟩,
     ⟨(some 37), some undefA, none, false, .pu (.bin .add (.s 36) (.c (.int .i64 1)))⟩,
     ⟨(some 11), some undefA, none, false, .pu (.mov (.s 37))⟩]))))))
 (.seq (.ops [⟨(some 70), some undefA, none, false, .pu (.mov (.s 9))⟩,
   ⟨(some 6), some undefA, none, false, .pu (.mov (.s 70))⟩,
   ⟨(some 7), some undefA, none, false, .pu (.mov (.c (.int .i64 0)))⟩])
 (.ret))))))))⟩
theorem t42 : trF Try.prog [] [] Try.f42 = some m42 := by kernel_rfl

/-- selion/selionref02.SameField [loop [0, 1, 5]] -/
def m43 : MFun := ⟨26, [], [.mov (.s 4)],
 .seq (.ops [⟨(some 4), some undefA, none, false, .pu (.mov (.c (.bool false)))⟩])
 (.seq (.seq (.ops [⟨(some 6), some undefA, none, false, .pu (.mov (.s 0))⟩,
   ⟨(some 7), some undefA, none, false, .pu (.len (.s 6))⟩,
   ⟨(some 8), some undefA, none, false, .pu (.mov (.s 1))⟩,
   ⟨(some 9), some undefA, none, false, .pu (.len (.s 8))⟩,
   ⟨(some 10), some undefA, none, false, .pu (.bin .neq (.s 7) (.s 9))⟩])
 (.cond (.s 10) (.seq (.ops [⟨(some 4), some undefA, none, false, .pu (.mov (.c (.bool false)))⟩])
  (.ret))
 (.skip)))
 (.seq (.seq (.ops [⟨(some 5), some undefA, none, false, .pu (.mov (.c (.int .i64 0)))⟩])
 (.block 0 (.loop (.seq (.seq (.ops [⟨(some 11), some undefA, none, false, .pu (.mov (.s 5))⟩,
     ⟨(some 12), some undefA, none, false, .pu (.mov (.s 0))⟩,
     ⟨(some 13), some undefA, none, false, .pu (.len (.s 12))⟩,
     ⟨(some 14), some undefA, none, false, .pu (.bin .lss (.s 11) (.s 13))⟩])
   (.cond (.s 14) (.skip)
   (.exit 0)))
   (.seq (.block 1 (.seq (.ops [⟨(some 17), some undefA, none, true, .pu (.mov (.s 0))⟩,
      ⟨(some 18), some undefA, none, true, .pu (.mov (.s 5))⟩,
      ⟨(some 19), some undefA, none, true, .pu (.idx 2 (.s 17) (.s 18))⟩,
      ⟨(some 20), some undefA, none, true, .ld (.ld 2 true (.s 19))⟩,
      ⟨(some 21), some undefA, none, true, .pu (.mov (.s 1))⟩,
      ⟨(some 22), some undefA, none, true, .pu (.mov (.s 5))⟩,
      ⟨(some 23), some undefA, none, true, .pu (.idx 2 (.s 21) (.s 22))⟩,
      ⟨(some 24), some undefA, none, true, .ld (.ld 2 true (.s 23))⟩,
      ⟨(some 25), some undefA, none, false, .pu (.eqs true [true, true] (.s 20) (.s 24))⟩])
    (.cond (.s 25) (.seq (.ops [⟨(some 4), some undefA, none, false, .pu (.mov (.c (.bool false)))⟩])
     (.ret))
    (.skip))))
   (.ops [⟨(some 15), some undefA, none, false, .pu (.mov (.s 5))⟩,
     ⟨(some 16), some undefA, none, false, .pu (.bin .add (.s 15) (.c (.int .i64 1)))⟩,
     ⟨(some 5), some undefA, none, false, .pu (.mov (.s 16))⟩]))))))
 (.seq (.ops [⟨(some 4), some undefA, none, false, .pu (.mov (.c (.bool true)))⟩])
 (.ret))))⟩
theorem t43 : trF Try.prog [] [] Try.f43 = some m43 := by kernel_rfl

/-- selion/soil.Better [loop [7, 24, 25, 26]] -/
def m44 : MFun := ⟨38, [], [.mov (.s 4), .mov (.s 5)],
 .seq (.ops [⟨(some 4), some undefA, none, false, .pu (.mov (.c (.bool false)))⟩,
   ⟨(some 5), some undefA, none, false, .pu (.mov (.c (.int .i64 0)))⟩])
 (.seq (.seq (.ops [⟨(some 10), some undefA, none, false, .pu (.mov (.s 0))⟩,
   ⟨(some 11), some undefA, none, false, .pu (.mov (.s 1))⟩,
   ⟨(some 12), some undefA, none, false, .call 82 [(.s 10), (.s 11)]⟩,
   ⟨(some 6), some undefA, none, false, .pu (.mov (.s 12))⟩])
 (.seq (.ops [⟨(some 13), some undefA, none, false, .pu (.mov (.s 6))⟩,
   ⟨(some 14), some undefA, none, false, .pu (.bin .neq (.s 13) (.c (.int .i64 0)))⟩])
 (.cond (.s 14) (.seq (.ops [⟨(some 15), some undefA, none, false, .pu (.mov (.s 6))⟩,
    ⟨(some 4), some undefA, none, false, .pu (.mov (.c (.bool false)))⟩,
    ⟨(some 5), some undefA, none, false, .pu (.mov (.s 15))⟩])
  (.ret))
 (.skip))))
 (.seq (.seq (.ops [⟨(some 16), some undefA, none, false, .pu (.mov (.s 0))⟩,
   ⟨(some 17), some undefA, none, false, .call 77 [(.s 16)]⟩,
   ⟨(some 18), some undefA, none, false, .pu (.mov (.s 1))⟩,
   ⟨(some 19), some undefA, none, false, .call 77 [(.s 18)]⟩,
   ⟨(some 20), some undefA, none, false, .pu (.bin .neq (.s 17) (.s 19))⟩])
 (.cond (.s 20) (.seq (.ops [⟨(some 4), some undefA, none, false, .pu (.mov (.c (.bool false)))⟩,
    ⟨(some 5), some undefA, none, false, .pu (.mov (.c (.int .i64 5)))⟩])
  (.ret))
 (.skip)))
 (.seq (.ops [⟨(some 21), some undefA, none, false, .pu (.mov (.s 1))⟩,
   ⟨(some 22), some undefA, none, false, .call 83 [(.s 21)]⟩,
   ⟨(some 7), some undefA, none, false, .pu (.mov (.s 22))⟩])
 (.seq (.seq (.ops [⟨(some 23), some undefA, none, false, .pu (.mov (.s 0))⟩,
   ⟨(some 24), some undefA, none, false, .call 83 [(.s 23)]⟩,
   ⟨(some 25), some undefA, none, false, .pu (.len (.s 24))⟩,
   ⟨(some 26), some undefA, none, false, .pu (.mov (.c (.int .i64 0)))⟩])
 (.block 0 (.loop (.seq (.ops [⟨(some 27), some undefA, none, false, .pu (.bin .lss (.s 26) (.s 25))⟩])
   (.seq (.cond (.s 27) (.skip)
   (.exit 0))
   (.seq (.block 1 (.seq (.ops [⟨(some 28), some undefA, none, false, .pu (.mov (.s 26))⟩,
      ⟨(some 29), some undefA, none, false, .pu (.idx 1 (.s 24) (.s 26))⟩,
      ⟨(some 30), some undefA, none, false, .ld (.ld 1 false (.s 29))⟩,
      ⟨(some 8), some undefA, none, false, .pu (.mov (.s 28))⟩,
      ⟨(some 9), some undefA, none, false, .pu (.mov (.s 30))⟩])
    (.seq (.ops [⟨(some 31), some undefA, none, false, .pu (.mov (.s 9))⟩,
      ⟨(some 32), some undefA, none, false, .pu (.mov (.s 7))⟩,
      ⟨(some 33), some undefA, none, false, .pu (.mov (.s 8))⟩,
      ⟨(some 34), some undefA, none, false, .pu (.idx 1 (.s 32) (.s 33))⟩,
      ⟨(some 35), some undefA, none, false, .ld (.ld 1 false (.s 34))⟩,
      ⟨(some 36), some undefA, none, false, .pu (.bin .lss (.s 31) (.s 35))⟩])
    (.cond (.s 36) (.seq (.ops [⟨(some 4), some undefA, none, false, .pu (.mov (.c (.bool false)))⟩,
       ⟨(some 5), some undefA, none, false, .pu (.mov (.c (.int .i64 0)))⟩])
     (.ret))
    (.skip)))))
   (.ops [⟨(some 37), some undefA, none, false, .pu (.bin .add (.s 26) (.c (.int .i64 1)))⟩,
     ⟨(some 26), some undefA, none, false, .pu (.mov (.s 37))⟩])))))))
 (.seq (.ops [⟨(some 4), some undefA, none, false, .pu (.mov (.c (.bool true)))⟩,
   ⟨(some 5), some undefA, none, false, .pu (.mov (.c (.int .i64 0)))⟩])
 (.ret))))))⟩
theorem t44 : trF Try.prog [] [] Try.f44 = some m44 := by kernel_rfl

/-- selion/selionref02.Better [loop [7, 8, 9]] -/
def m45 : MFun := ⟨40, [], [.mov (.s 4), .mov (.s 5)],
 .seq (.ops [⟨(some 4), some undefA, none, false, .pu (.mov (.c (.bool false)))⟩,
   ⟨(some 5), some undefA, none, false, .pu (.mov (.c (.int .i64 0)))⟩])
 (.seq (.ops [⟨(some 10), some undefA, none, false, .pu (.mov (.s 0))⟩,
   ⟨(some 11), some undefA, none, false, .pu (.mov (.s 1))⟩,
   ⟨(some 12), some undefA, none, false, .call 84 [(.s 10), (.s 11)]⟩,
   ⟨(some 6), some undefA, none, false, .pu (.mov (.s 12))⟩])
 (.seq (.seq (.ops [⟨(some 13), some undefA, none, false, .pu (.mov (.s 6))⟩,
   ⟨(some 14), some undefA, none, false, .pu (.bin .neq (.s 13) (.c (.int .i64 0)))⟩])
 (.cond (.s 14) (.seq (.ops [⟨(some 15), some undefA, none, false, .pu (.mov (.s 6))⟩,
    ⟨(some 4), some undefA, none, false, .pu (.mov (.c (.bool false)))⟩,
    ⟨(some 5), some undefA, none, false, .pu (.mov (.s 15))⟩])
  (.ret))
 (.skip)))
 (.seq (.ops [⟨(some 16), some undefA, none, false, .pu (.mov (.s 0))⟩,
   ⟨(some 17), some undefA, none, false, .call 68 [(.s 16)]⟩,
   ⟨(some 18), some undefA, none, false, .pu (.mov (.s 1))⟩,
   ⟨(some 19), some undefA, none, false, .call 68 [(.s 18)]⟩,
   ⟨(some 7), some undefA, none, false, .pu (.mov (.s 17))⟩,
   ⟨(some 8), some undefA, none, false, .pu (.mov (.s 19))⟩])
 (.seq (.seq (.ops [⟨(some 20), some undefA, none, false, .pu (.mov (.s 7))⟩,
   ⟨(some 21), some undefA, none, false, .pu (.len (.s 20))⟩,
   ⟨(some 22), some undefA, none, false, .pu (.mov (.s 8))⟩,
   ⟨(some 23), some undefA, none, false, .pu (.len (.s 22))⟩,
   ⟨(some 24), some undefA, none, false, .pu (.bin .neq (.s 21) (.s 23))⟩])
 (.cond (.s 24) (.seq (.ops [⟨(some 4), some undefA, none, false, .pu (.mov (.c (.bool false)))⟩,
    ⟨(some 5), some undefA, none, false, .pu (.mov (.c (.int .i64 5)))⟩])
  (.ret))
 (.skip)))
 (.seq (.seq (.ops [⟨(some 9), some undefA, none, false, .pu (.mov (.c (.int .i64 0)))⟩])
 (.block 0 (.loop (.seq (.seq (.ops [⟨(some 25), some undefA, none, false, .pu (.mov (.s 9))⟩,
     ⟨(some 26), some undefA, none, false, .pu (.mov (.s 7))⟩,
     ⟨(some 27), some undefA, none, false, .pu (.len (.s 26))⟩,
     ⟨(some 28), some undefA, none, false, .pu (.bin .lss (.s 25) (.s 27))⟩])
   (.cond (.s 28) (.skip)
   (.exit 0)))
   (.seq (.block 1 (.seq (.ops [⟨(some 31), some undefA, none, true, .pu (.mov (.s 7))⟩,
      ⟨(some 32), some undefA, none, true, .pu (.mov (.s 9))⟩,
      ⟨(some 33), some undefA, none, true, .pu (.idx 1 (.s 31) (.s 32))⟩,
      ⟨(some 34), some undefA, none, true, .ld (.ld 1 false (.s 33))⟩,
      ⟨(some 35), some undefA, none, true, .pu (.mov (.s 8))⟩,
      ⟨(some 36), some undefA, none, true, .pu (.mov (.s 9))⟩,
      ⟨(some 37), some undefA, none, true, .pu (.idx 1 (.s 35) (.s 36))⟩,
      ⟨(some 38), some undefA, none, true, .ld (.ld 1 false (.s 37))⟩,
      ⟨(some 39), some undefA, none, false, .pu (.bin .lss (.s 34) (.s 38))⟩])
    (.cond (.s 39) (.seq (.ops [⟨(some 4), some undefA, none, false, .pu (.mov (.c (.bool false)))⟩,
       ⟨(some 5), some undefA, none, false, .pu (.mov (.c (.int .i64 0)))⟩])
     (.ret))
    (.skip))))
   (.ops [⟨(some 29), some undefA, none, false, .pu (.mov (.s 9))⟩,
     ⟨(some 30), some undefA, none, false, .pu (.bin .add (.s 29) (.c (.int .i64 1)))⟩,
     ⟨(some 9), some undefA, none, false, .pu (.mov (.s 30))⟩]))))))
 (.seq (.ops [⟨(some 4), some undefA, none, false, .pu (.mov (.c (.bool true)))⟩,
   ⟨(some 5), some undefA, none, false, .pu (.mov (.c (.int .i64 0)))⟩])
 (.ret)))))))⟩
theorem t45 : trF Try.prog [] [] Try.f45 = some m45 := by kernel_rfl

/-- selion/soil.Plain [loop [5, 14, 15, 16]] -/
def m46 : MFun := ⟨62, [7], [.mov (.s 2), .mov (.s 3)],
 .seq (.ops [⟨(some 2), some undefA, none, false, .pu (.mov (.c (.nilS)))⟩,
   ⟨(some 3), some undefA, none, false, .pu (.mov (.c (.int .i64 0)))⟩])
 (.seq (.seq (.ops [⟨(some 9), some undefA, none, false, .pu (.mov (.s 0))⟩,
   ⟨(some 10), some undefA, none, false, .call 37 [(.s 9)]⟩,
   ⟨(some 4), some undefA, none, false, .pu (.mov (.s 10))⟩])
 (.seq (.ops [⟨(some 11), some undefA, none, false, .pu (.mov (.s 4))⟩,
   ⟨(some 12), some undefA, none, false, .pu (.bin .neq (.s 11) (.c (.int .i64 0)))⟩])
 (.cond (.s 12) (.seq (.ops [⟨(some 13), some undefA, none, false, .pu (.mov (.s 4))⟩,
    ⟨(some 2), some undefA, none, false, .pu (.mov (.c (.nilS)))⟩,
    ⟨(some 3), some undefA, none, false, .pu (.mov (.s 13))⟩])
  (.ret))
 (.skip))))
 (.seq (.ops [⟨(some 5), some undefA, none, false, .pu (.mov (.c (.nilS)))⟩])
 (.seq (.seq (.ops [⟨(some 14), some undefA, none, false, .pu (.mov (.s 0))⟩,
   ⟨(some 15), some undefA, none, false, .pu (.len (.s 14))⟩,
   ⟨(some 16), some undefA, none, false, .pu (.mov (.c (.int .i64 0)))⟩])
 (.block 0 (.loop (.seq (.ops [⟨(some 17), some undefA, none, false, .pu (.bin .lss (.s 16) (.s 15))⟩])
   (.seq (.cond (.s 17) (.skip)
   (.exit 0))
   (.seq (.block 1 (.seq (.ops [⟨(some 18), some undefA, none, false, .pu (.idx 2 (.s 14) (.s 16))⟩,
      ⟨(some 19), some undefA, none, false, .ld (.ld 2 true (.s 18))⟩,
      ⟨(some 7), some (.junk), none, false, .pu (.bnew (.c (.agg [.int .i64 0, .int .i64 0])))⟩,
      ⟨(some 7), none, none, false, .pu (.bset none 7 0 2 (.s 19))⟩])
    (.seq (.ops [⟨(some 20), some undefA, none, false, .pu (.mov (.s 5))⟩,
      ⟨(some 21), some undefA, none, false, .pu (.len (.s 20))⟩,
      ⟨(some 22), some undefA, none, false, .pu (.bin .sub (.s 21) (.c (.int .i64 1)))⟩,
      ⟨(some 8), some undefA, none, false, .pu (.mov (.s 22))⟩])
    (.seq (.ops [⟨(some 23), some undefA, none, false, .pu (.mov (.s 8))⟩,
      ⟨(some 24), some undefA, none, false, .pu (.bin .geq (.s 23) (.c (.int .i64 0)))⟩,
      ⟨(some 25), some undefA, none, false, .pu (.mov (.s 24))⟩,
      ⟨(some 26), some undefA, (some (25, true)), false, .pu (.mov (.s 5))⟩,
      ⟨(some 27), some undefA, (some (25, true)), false, .pu (.mov (.s 8))⟩,
      ⟨(some 28), some undefA, (some (25, true)), false, .pu (.idx 2 (.s 26) (.s 27))⟩,
      ⟨(some 29), some undefA, (some (25, true)), false, .pu (.fad 1 (.s 28))⟩,
      ⟨(some 30), some undefA, (some (25, true)), true, .ld (.ld 1 false (.s 29))⟩,
      ⟨(some 31), some undefA, (some (25, true)), true, .pu (.badr none 7)⟩,
      ⟨(some 32), some undefA, (some (25, true)), true, .pu (.bget (some 31) 7 1 1 false)⟩,
      ⟨(some 33), some undefA, (some (25, true)), false, .pu (.bin .eql (.s 30) (.s 32))⟩,
      ⟨(some 34), some undefA, none, false, .pu (.pick (.s 25) (.s 33) (.c (.bool false)))⟩,
      ⟨(some 35), some undefA, none, false, .pu (.mov (.s 34))⟩,
      ⟨(some 36), some undefA, (some (35, true)), false, .pu (.mov (.s 5))⟩,
      ⟨(some 37), some undefA, (some (35, true)), false, .pu (.mov (.s 8))⟩,
      ⟨(some 38), some undefA, (some (35, true)), false, .pu (.idx 2 (.s 36) (.s 37))⟩,
      ⟨(some 39), some undefA, (some (35, true)), false, .pu (.fad 0 (.s 38))⟩,
      ⟨(some 40), some undefA, (some (35, true)), true, .ld (.ld 1 false (.s 39))⟩,
      ⟨(some 41), some undefA, (some (35, true)), true, .pu (.badr none 7)⟩,
      ⟨(some 42), some undefA, (some (35, true)), true, .pu (.bget (some 41) 7 0 1 false)⟩,
      ⟨(some 43), some undefA, (some (35, true)), false, .pu (.bin .add (.s 40) (.s 42))⟩,
      ⟨(some 44), some undefA, (some (35, true)), false, .pu (.bin .leq (.s 43) (.c (.int .i64 20)))⟩,
      ⟨(some 45), some undefA, none, false, .pu (.pick (.s 35) (.s 44) (.c (.bool false)))⟩])
    (.cond (.s 45) (.ops [⟨(some 46), some undefA, none, false, .pu (.mov (.s 5))⟩,
       ⟨(some 47), some undefA, none, false, .pu (.mov (.s 8))⟩,
       ⟨(some 48), some undefA, none, false, .pu (.idx 2 (.s 46) (.s 47))⟩,
       ⟨(some 49), some undefA, none, false, .pu (.fad 0 (.s 48))⟩,
       ⟨(some 50), some undefA, none, true, .ld (.ld 1 false (.s 49))⟩,
       ⟨(some 51), some undefA, none, true, .pu (.badr none 7)⟩,
       ⟨(some 52), some undefA, none, true, .pu (.bget (some 51) 7 0 1 false)⟩,
       ⟨(some 53), some undefA, none, false, .pu (.bin .add (.s 50) (.s 52))⟩,
       ⟨(some 54), some undefA, none, false, .pu (.idx 2 (.s 46) (.s 47))⟩,
       ⟨(some 55), some undefA, none, false, .pu (.fad 0 (.s 54))⟩,
       ⟨none, some undefA, none, false, .ha (.st 1 (.s 55) (.s 53))⟩])
    (.ops [⟨(some 56), some undefA, none, false, .pu (.mov (.s 5))⟩,
       ⟨(some 57), some undefA, none, false, .pu (.bget none 7 0 2 true)⟩,
       ⟨(some 58), some undefA, none, false, .ha (.blds 2 1 [.int .i64 0, .int .i64 0] [(0, 2, (.s 57))])⟩,
       ⟨(some 59), some undefA, none, false, .ha (.app 2 (.s 56) (.s 58))⟩,
       ⟨(some 5), some undefA, none, false, .pu (.mov (.s 59))⟩]))))))
   (.ops [⟨(some 60), some undefA, none, false, .pu (.bin .add (.s 16) (.c (.int .i64 1)))⟩,
     ⟨(some 16), some undefA, none, false, .pu (.mov (.s 60))⟩])))))))
 (.seq (.ops [⟨(some 61), some undefA, none, false, .pu (.mov (.s 5))⟩,
   ⟨(some 2), some undefA, none, false, .pu (.mov (.s 61))⟩,
   ⟨(some 3), some undefA, none, false, .pu (.mov (.c (.int .i64 0)))⟩])
 (.ret)))))⟩
theorem t46 : trF Try.prog [7] [] Try.f46 = some m46 := by kernel_rfl

/-- selion/selionref02.Plain [loop [0, 5, 6]] -/
def m47 : MFun := ⟨72, [], [.mov (.s 2), .mov (.s 3)],
 .seq (.ops [⟨(some 2), some undefA, none, false, .pu (.mov (.c (.nilS)))⟩,
   ⟨(some 3), some undefA, none, false, .pu (.mov (.c (.int .i64 0)))⟩])
 (.seq (.ops [⟨(some 8), some undefA, none, false, .pu (.mov (.s 0))⟩,
   ⟨(some 9), some undefA, none, false, .call 38 [(.s 8)]⟩,
   ⟨(some 4), some undefA, none, false, .pu (.mov (.s 9))⟩])
 (.seq (.seq (.ops [⟨(some 10), some undefA, none, false, .pu (.mov (.s 4))⟩,
   ⟨(some 11), some undefA, none, false, .pu (.bin .neq (.s 10) (.c (.int .i64 0)))⟩])
 (.cond (.s 11) (.seq (.ops [⟨(some 12), some undefA, none, false, .pu (.mov (.s 4))⟩,
    ⟨(some 2), some undefA, none, false, .pu (.mov (.c (.nilS)))⟩,
    ⟨(some 3), some undefA, none, false, .pu (.mov (.s 12))⟩])
  (.ret))
 (.skip)))
 (.seq (.ops [⟨(some 5), some undefA, none, false, .pu (.mov (.c (.nilS)))⟩])
 (.seq (.seq (.ops [⟨(some 6), some undefA, none, false, .pu (.mov (.c (.int .i64 0)))⟩])
 (.block 0 (.loop (.seq (.seq (.ops [⟨(some 13), some undefA, none, false, .pu (.mov (.s 6))⟩,
     ⟨(some 14), some undefA, none, false, .pu (.mov (.s 0))⟩,
     ⟨(some 15), some undefA, none, false, .pu (.len (.s 14))⟩,
     ⟨(some 16), some undefA, none, false, .pu (.bin .lss (.s 13) (.s 15))⟩])
   (.cond (.s 16) (.skip)
   (.exit 0)))
   (.seq (.block 1 (.seq (.ops [⟨(some 19), some undefA, none, false, .pu (.mov (.s 5))⟩,
      ⟨(some 20), some undefA, none, false, .pu (.len (.s 19))⟩,
      ⟨(some 21), some undefA, none, false, .pu (.bin .sub (.s 20) (.c (.int .i64 1)))⟩,
      ⟨(some 7), some undefA, none, false, .pu (.mov (.s 21))⟩])
    (.seq (.ops [⟨(some 22), some undefA, none, false, .pu (.mov (.s 7))⟩,
      ⟨(some 23), some undefA, none, false, .pu (.bin .geq (.s 22) (.c (.int .i64 0)))⟩,
      ⟨(some 24), some undefA, none, false, .pu (.mov (.s 23))⟩,
      ⟨(some 25), some undefA, (some (24, true)), true, .pu (.mov (.s 5))⟩,
      ⟨(some 26), some undefA, (some (24, true)), true, .pu (.mov (.s 7))⟩,
      ⟨(some 27), some undefA, (some (24, true)), true, .pu (.idx 2 (.s 25) (.s 26))⟩,
      ⟨(some 28), some undefA, (some (24, true)), true, .pu (.fad 1 (.s 27))⟩,
      ⟨(some 29), some undefA, (some (24, true)), true, .ld (.ld 1 false (.s 28))⟩,
      ⟨(some 30), some undefA, (some (24, true)), true, .pu (.mov (.s 0))⟩,
      ⟨(some 31), some undefA, (some (24, true)), true, .pu (.mov (.s 6))⟩,
      ⟨(some 32), some undefA, (some (24, true)), true, .pu (.idx 2 (.s 30) (.s 31))⟩,
      ⟨(some 33), some undefA, (some (24, true)), true, .pu (.fad 1 (.s 32))⟩,
      ⟨(some 34), some undefA, (some (24, true)), true, .ld (.ld 1 false (.s 33))⟩,
      ⟨(some 35), some undefA, (some (24, true)), false, .pu (.bin .eql (.s 29) (.s 34))⟩,
      ⟨(some 36), some undefA, none, false, .pu (.pick (.s 24) (.s 35) (.c (.bool false)))⟩,
      ⟨(some 37), some undefA, none, false, .pu (.mov (.s 36))⟩,
      ⟨(some 38), some undefA, (some (37, true)), true, .pu (.mov (.s 5))⟩,
      ⟨(some 39), some undefA, (some (37, true)), true, .pu (.mov (.s 7))⟩,
      ⟨(some 40), some undefA, (some (37, true)), true, .pu (.idx 2 (.s 38) (.s 39))⟩,
      ⟨(some 41), some undefA, (some (37, true)), true, .pu (.fad 0 (.s 40))⟩,
      ⟨(some 42), some undefA, (some (37, true)), true, .ld (.ld 1 false (.s 41))⟩,
      ⟨(some 43), some undefA, (some (37, true)), true, .pu (.mov (.s 0))⟩,
      ⟨(some 44), some undefA, (some (37, true)), true, .pu (.mov (.s 6))⟩,
      ⟨(some 45), some undefA, (some (37, true)), true, .pu (.idx 2 (.s 43) (.s 44))⟩,
      ⟨(some 46), some undefA, (some (37, true)), true, .pu (.fad 0 (.s 45))⟩,
      ⟨(some 47), some undefA, (some (37, true)), true, .ld (.ld 1 false (.s 46))⟩,
      ⟨(some 48), some undefA, (some (37, true)), false, .pu (.bin .add (.s 42) (.s 47))⟩,
      ⟨(some 49), some undefA, (some (37, true)), false, .pu (.bin .leq (.s 48) (.c (.int .i64 20)))⟩,
      ⟨(some 50), some undefA, none, false, .pu (.pick (.s 37) (.s 49) (.c (.bool false)))⟩])
    (.cond (.s 50) (.ops [⟨(some 51), some undefA, none, true, .pu (.mov (.s 5))⟩,
       ⟨(some 52), some undefA, none, true, .pu (.mov (.s 7))⟩,
       ⟨(some 53), some undefA, none, true, .pu (.idx 2 (.s 51) (.s 52))⟩,
       ⟨(some 54), some undefA, none, true, .pu (.fad 0 (.s 53))⟩,
       ⟨(some 55), some undefA, none, true, .ld (.ld 1 false (.s 54))⟩,
       ⟨(some 56), some undefA, none, true, .pu (.mov (.s 0))⟩,
       ⟨(some 57), some undefA, none, true, .pu (.mov (.s 6))⟩,
       ⟨(some 58), some undefA, none, true, .pu (.idx 2 (.s 56) (.s 57))⟩,
       ⟨(some 59), some undefA, none, true, .pu (.fad 0 (.s 58))⟩,
       ⟨(some 60), some undefA, none, true, .ld (.ld 1 false (.s 59))⟩,
       ⟨(some 61), some undefA, none, false, .pu (.bin .add (.s 55) (.s 60))⟩,
       ⟨(some 62), some undefA, none, false, .pu (.idx 2 (.s 51) (.s 52))⟩,
       ⟨(some 63), some undefA, none, false, .pu (.fad 0 (.s 62))⟩,
       ⟨none, some undefA, none, false, .ha (.st 1 (.s 63) (.s 61))⟩])
    (.ops [⟨(some 64), some undefA, none, false, .pu (.mov (.s 5))⟩,
       ⟨(some 65), some undefA, none, false, .pu (.mov (.s 0))⟩,
       ⟨(some 66), some undefA, none, false, .pu (.mov (.s 6))⟩,
       ⟨(some 67), some undefA, none, false, .pu (.idx 2 (.s 65) (.s 66))⟩,
       ⟨(some 68), some undefA, none, false, .ld (.ld 2 true (.s 67))⟩,
       ⟨(some 69), some undefA, none, false, .ha (.blds 2 1 [.int .i64 0, .int .i64 0] [(0, 2, (.s 68))])⟩,
       ⟨(some 70), some undefA, none, false, .ha (.app 2 (.s 64) (.s 69))⟩,
       ⟨(some 5), some undefA, none, false, .pu (.mov (.s 70))⟩])))))
   (.ops [⟨(some 17), some undefA, none, false, .pu (.mov (.s 6))⟩,
     ⟨(some 18), some undefA, none, false, .pu (.bin .add (.s 17) (.c (.int .i64 1)))⟩,
     ⟨(some 6), some undefA, none, false, .pu (.mov (.s 18))⟩]))))))
 (.seq (.ops [⟨(some 71), some undefA, none, false, .pu (.mov (.s 5))⟩,
   ⟨(some 2), some undefA, none, false, .pu (.mov (.s 71))⟩,
   ⟨(some 3), some undefA, none, false, .pu (.mov (.c (.int .i64 0)))⟩])
 (.ret))))))⟩
theorem t47 : trF Try.prog [] [] Try.f47 = some m47 := by kernel_rfl

/-- selion/soil.Same [] -/
def m48 : MFun := ⟨18, [], [.mov (.s 4), .mov (.s 5)],
 .seq (.ops [⟨(some 4), some undefA, none, false, .pu (.mov (.c (.bool false)))⟩,
   ⟨(some 5), some undefA, none, false, .pu (.mov (.c (.int .i64 0)))⟩])
 (.seq (.seq (.ops [⟨(some 7), some undefA, none, false, .pu (.mov (.s 0))⟩,
   ⟨(some 8), some undefA, none, false, .pu (.mov (.s 1))⟩,
   ⟨(some 9), some undefA, none, false, .call 82 [(.s 7), (.s 8)]⟩,
   ⟨(some 6), some undefA, none, false, .pu (.mov (.s 9))⟩])
 (.seq (.ops [⟨(some 10), some undefA, none, false, .pu (.mov (.s 6))⟩,
   ⟨(some 11), some undefA, none, false, .pu (.bin .neq (.s 10) (.c (.int .i64 0)))⟩])
 (.cond (.s 11) (.seq (.ops [⟨(some 12), some undefA, none, false, .pu (.mov (.s 6))⟩,
    ⟨(some 4), some undefA, none, false, .pu (.mov (.c (.bool false)))⟩,
    ⟨(some 5), some undefA, none, false, .pu (.mov (.s 12))⟩])
  (.ret))
 (.skip))))
 (.seq (.ops [⟨(some 13), some undefA, none, false, .pu (.mov (.s 0))⟩,
   ⟨(some 14), some undefA, none, false, .call 83 [(.s 13)]⟩,
   ⟨(some 15), some undefA, none, false, .pu (.mov (.s 1))⟩,
   ⟨(some 16), some undefA, none, false, .call 83 [(.s 15)]⟩,
   ⟨(some 17), some undefA, none, false, .call 85 [(.s 14), (.s 16)]⟩,
   ⟨(some 4), some undefA, none, false, .pu (.mov (.s 17))⟩,
   ⟨(some 5), some undefA, none, false, .pu (.mov (.c (.int .i64 0)))⟩])
 (.ret)))⟩
theorem t48 : trF Try.prog [] [] Try.f48 = some m48 := by kernel_rfl

/-- selion/selionref02.Same [] -/
def m49 : MFun := ⟨18, [], [.mov (.s 4), .mov (.s 5)],
 .seq (.ops [⟨(some 4), some undefA, none, false, .pu (.mov (.c (.bool false)))⟩,
   ⟨(some 5), some undefA, none, false, .pu (.mov (.c (.int .i64 0)))⟩])
 (.seq (.ops [⟨(some 7), some undefA, none, false, .pu (.mov (.s 0))⟩,
   ⟨(some 8), some undefA, none, false, .pu (.mov (.s 1))⟩,
   ⟨(some 9), some undefA, none, false, .call 84 [(.s 7), (.s 8)]⟩,
   ⟨(some 6), some undefA, none, false, .pu (.mov (.s 9))⟩])
 (.seq (.seq (.ops [⟨(some 10), some undefA, none, false, .pu (.mov (.s 6))⟩,
   ⟨(some 11), some undefA, none, false, .pu (.bin .neq (.s 10) (.c (.int .i64 0)))⟩])
 (.cond (.s 11) (.seq (.ops [⟨(some 12), some undefA, none, false, .pu (.mov (.s 6))⟩,
    ⟨(some 4), some undefA, none, false, .pu (.mov (.c (.bool false)))⟩,
    ⟨(some 5), some undefA, none, false, .pu (.mov (.s 12))⟩])
  (.ret))
 (.skip)))
 (.seq (.ops [⟨(some 13), some undefA, none, false, .pu (.mov (.s 0))⟩,
   ⟨(some 14), some undefA, none, false, .call 68 [(.s 13)]⟩,
   ⟨(some 15), some undefA, none, false, .pu (.mov (.s 1))⟩,
   ⟨(some 16), some undefA, none, false, .call 68 [(.s 15)]⟩,
   ⟨(some 17), some undefA, none, false, .call 86 [(.s 14), (.s 16)]⟩,
   ⟨(some 4), some undefA, none, false, .pu (.mov (.s 17))⟩,
   ⟨(some 5), some undefA, none, false, .pu (.mov (.c (.int .i64 0)))⟩])
 (.ret))))⟩
theorem t49 : trF Try.prog [] [] Try.f49 = some m49 := by kernel_rfl

/-- selion/soil.Cut [loop [0, 7, 20, 21, 22]] -/
def m50 : MFun := ⟨35, [], [.mov (.s 4), .mov (.s 5)],
 .seq (.ops [⟨(some 4), some undefA, none, false, .pu (.mov (.c (.nilS)))⟩,
   ⟨(some 5), some undefA, none, false, .pu (.mov (.c (.int .i64 0)))⟩])
 (.seq (.seq (.ops [⟨(some 10), some undefA, none, false, .pu (.mov (.s 0))⟩,
   ⟨(some 11), some undefA, none, false, .pu (.mov (.s 1))⟩,
   ⟨(some 12), some undefA, none, false, .call 87 [(.s 10), (.s 11)]⟩,
   ⟨(some 6), some undefA, none, false, .pu (.mov (.s 12))⟩])
 (.seq (.ops [⟨(some 13), some undefA, none, false, .pu (.mov (.s 6))⟩,
   ⟨(some 14), some undefA, none, false, .pu (.bin .neq (.s 13) (.c (.int .i64 0)))⟩])
 (.cond (.s 14) (.seq (.ops [⟨(some 15), some undefA, none, false, .pu (.mov (.s 6))⟩,
    ⟨(some 4), some undefA, none, false, .pu (.mov (.c (.nilS)))⟩,
    ⟨(some 5), some undefA, none, false, .pu (.mov (.s 15))⟩])
  (.ret))
 (.skip))))
 (.seq (.ops [⟨(some 7), some undefA, none, false, .pu (.mov (.c (.nilS)))⟩])
 (.seq (.seq (.ops [⟨(some 16), some undefA, none, false, .pu (.mov (.s 1))⟩,
   ⟨(some 17), some undefA, none, false, .pu (.mov (.s 1))⟩,
   ⟨(some 18), some undefA, none, false, .pu (.len (.s 17))⟩,
   ⟨(some 19), some undefA, none, false, .pu (.bin .sub (.s 18) (.c (.int .i64 1)))⟩,
   ⟨(some 20), some undefA, none, false, .pu (.slc 1 (.s 16) none (some (.s 19)) none)⟩,
   ⟨(some 21), some undefA, none, false, .pu (.len (.s 20))⟩,
   ⟨(some 22), some undefA, none, false, .pu (.mov (.c (.int .i64 0)))⟩])
 (.block 0 (.loop (.seq (.ops [⟨(some 23), some undefA, none, false, .pu (.bin .lss (.s 22) (.s 21))⟩])
   (.seq (.cond (.s 23) (.skip)
   (.exit 0))
   (.seq (.block 1 (.seq (.ops [⟨(some 24), some undefA, none, false, .pu (.idx 1 (.s 20) (.s 22))⟩,
      ⟨(some 25), some undefA, none, false, .ld (.ld 1 false (.s 24))⟩,
      ⟨(some 9), some undefA, none, false, .pu (.mov (.s 25))⟩])
    (.ops [⟨(some 26), some undefA, none, false, .pu (.mov (.s 7))⟩,
      ⟨(some 27), some undefA, none, false, .pu (.mov (.s 9))⟩,
      ⟨(some 28), some undefA, none, false, .call 78 [(.s 27)]⟩,
      ⟨(some 29), some undefA, none, false, .ha (.blds 2 1 [.int .i64 0, .int .i64 0] [(0, 2, (.s 28))])⟩,
      ⟨(some 30), some undefA, none, false, .ha (.app 2 (.s 26) (.s 29))⟩,
      ⟨(some 7), some undefA, none, false, .pu (.mov (.s 30))⟩])))
   (.ops [⟨(some 31), some undefA, none, false, .pu (.bin .add (.s 22) (.c (.int .i64 1)))⟩,
     ⟨(some 22), some undefA, none, false, .pu (.mov (.s 31))⟩])))))))
 (.seq (.ops [⟨(some 32), some undefA, none, false, .pu (.mov (.s 0))⟩,
   ⟨(some 33), some undefA, none, false, .pu (.mov (.s 7))⟩,
   ⟨(some 34), some undefA, none, false, .call 62 [(.s 32), (.s 33)]⟩,
   ⟨(some 4), some undefA, none, false, .pu (.mov (.s 34))⟩,
   ⟨(some 5), some undefA, none, false, .pu (.mov (.c (.int .i64 0)))⟩])
 (.ret)))))⟩
theorem t50 : trF Try.prog [] [] Try.f50 = some m50 := by kernel_rfl

/-- selion/soil.CheckCut [loop [1, 3, 9, 40, 41, 42]] -/
def m51 : MFun := ⟨59, [9, 11], [.mov (.s 6)],
 .seq (.ops [⟨(some 3), some undefA, none, false, .ha (.newv (.s 0))⟩,
   ⟨(some 6), some undefA, none, false, .pu (.mov (.c (.int .i64 0)))⟩])
 (.seq (.seq (.ops [⟨(some 12), some undefA, none, false, .ld (.ld 1 false (.s 3))⟩,
   ⟨(some 13), some undefA, none, false, .pu (.mov (.s 1))⟩,
   ⟨(some 14), some undefA, none, false, .call 87 [(.s 12), (.s 13)]⟩,
   ⟨(some 7), some undefA, none, false, .pu (.mov (.s 14))⟩])
 (.seq (.ops [⟨(some 15), some undefA, none, false, .pu (.mov (.s 7))⟩,
   ⟨(some 16), some undefA, none, false, .pu (.bin .neq (.s 15) (.c (.int .i64 0)))⟩])
 (.cond (.s 16) (.seq (.ops [⟨(some 17), some undefA, none, false, .pu (.mov (.s 7))⟩,
    ⟨(some 6), some undefA, none, false, .pu (.mov (.s 17))⟩])
  (.ret))
 (.skip))))
 (.seq (.seq (.ops [⟨(some 18), some undefA, none, false, .pu (.mov (.s 2))⟩,
   ⟨(some 19), some undefA, none, false, .pu (.len (.s 18))⟩,
   ⟨(some 20), some undefA, none, false, .pu (.mov (.s 1))⟩,
   ⟨(some 21), some undefA, none, false, .pu (.len (.s 20))⟩,
   ⟨(some 22), some undefA, none, false, .pu (.bin .sub (.s 21) (.c (.int .i64 1)))⟩,
   ⟨(some 23), some undefA, none, false, .pu (.bin .neq (.s 19) (.s 22))⟩,
   ⟨(some 24), some undefA, none, false, .pu (.mov (.s 23))⟩,
   ⟨(some 25), some undefA, (some (24, false)), false, .pu (.mov (.s 2))⟩,
   ⟨(some 26), some undefA, (some (24, false)), false, .pu (.mkf 89 [(.s 3)])⟩,
   ⟨(some 27), some undefA, (some (24, false)), false, .call 88 [(.s 25), (.s 26)]⟩,
   ⟨(some 28), some undefA, none, false, .pu (.pick (.s 24) (.c (.bool true)) (.s 27))⟩])
 (.cond (.s 28) (.seq (.ops [⟨(some 6), some undefA, none, false, .pu (.mov (.c (.int .i64 1)))⟩])
  (.ret))
 (.skip)))
 (.seq (.ops [⟨(some 29), some undefA, none, true, .pu (.mov (.s 2))⟩,
   ⟨(some 30), some undefA, none, true, .call 90 [(.s 29)]⟩,
   ⟨(some 31), some undefA, none, true, .ld (.ld 1 false (.s 3))⟩,
   ⟨(some 32), some undefA, none, false, .call 77 [(.s 31)]⟩,
   ⟨(some 33), some undefA, none, false, .call 78 [(.s 32)]⟩,
   ⟨(some 34), some undefA, none, false, .ha (.blds 2 1 [.int .i64 0, .int .i64 0] [(0, 2, (.s 33))])⟩,
   ⟨(some 35), some undefA, none, false, .ha (.app 2 (.s 30) (.s 34))⟩,
   ⟨(some 8), some undefA, none, false, .pu (.mov (.s 35))⟩])
 (.seq (.seq (.ops [⟨(some 36), some undefA, none, false, .pu (.mov (.s 8))⟩,
   ⟨(some 37), some undefA, none, false, .call 91 [(.s 36), (.c (.fn 72 []))]⟩,
   ⟨(some 38), some undefA, none, false, .pu (.not (.s 37))⟩])
 (.cond (.s 38) (.seq (.ops [⟨(some 6), some undefA, none, false, .pu (.mov (.c (.int .i64 7)))⟩])
  (.ret))
 (.skip)))
 (.seq (.ops [⟨(some 39), some undefA, none, false, .call 78 [(.c (.int .i64 0))]⟩,
   ⟨(some 9), some (.junk), none, false, .pu (.bnew (.c (.agg [.int .i64 0, .int .i64 0])))⟩,
   ⟨(some 9), none, none, false, .pu (.bset none 9 0 2 (.s 39))⟩])
 (.seq (.seq (.ops [⟨(some 40), some undefA, none, false, .pu (.mov (.s 8))⟩,
   ⟨(some 41), some undefA, none, false, .pu (.len (.s 40))⟩,
   ⟨(some 42), some undefA, none, false, .pu (.mov (.c (.int .i64 0)))⟩])
 (.block 0 (.loop (.seq (.ops [⟨(some 43), some undefA, none, false, .pu (.bin .lss (.s 42) (.s 41))⟩])
   (.seq (.cond (.s 43) (.skip)
   (.exit 0))
   (.seq (.block 1 (.seq (.ops [⟨(some 44), some undefA, none, false, .pu (.mov (.s 42))⟩,
      ⟨(some 45), some undefA, none, false, .pu (.idx 2 (.s 40) (.s 42))⟩,
      ⟨(some 46), some undefA, none, false, .ld (.ld 2 true (.s 45))⟩,
      ⟨(some 11), some (.junk), none, false, .pu (.bnew (.c (.agg [.int .i64 0, .int .i64 0])))⟩,
      ⟨(some 10), some undefA, none, false, .pu (.mov (.s 44))⟩,
      ⟨(some 11), none, none, false, .pu (.bset none 11 0 2 (.s 46))⟩])
    (.seq (.seq (.ops [⟨(some 47), some undefA, none, true, .ld (.ld 1 false (.s 3))⟩,
      ⟨(some 48), some undefA, none, true, .pu (.bget none 9 0 2 true)⟩,
      ⟨(some 49), some undefA, none, true, .pu (.bget none 11 0 2 true)⟩,
      ⟨(some 50), some undefA, none, true, .call 73 [(.s 47), (.s 48), (.s 49)]⟩,
      ⟨(some 51), some undefA, none, true, .pu (.mov (.s 1))⟩,
      ⟨(some 52), some undefA, none, true, .pu (.mov (.s 10))⟩,
      ⟨(some 53), some undefA, none, true, .pu (.idx 1 (.s 51) (.s 52))⟩,
      ⟨(some 54), some undefA, none, true, .ld (.ld 1 false (.s 53))⟩,
      ⟨(some 55), some undefA, none, false, .call 78 [(.s 54)]⟩,
      ⟨(some 56), some undefA, none, false, .pu (.eqs true [true, true] (.s 50) (.s 55))⟩])
    (.cond (.s 56) (.seq (.ops [⟨(some 6), some undefA, none, false, .pu (.mov (.c (.int .i64 7)))⟩])
     (.ret))
    (.skip)))
    (.ops [⟨(some 57), some undefA, none, false, .pu (.bget none 11 0 2 true)⟩,
      ⟨(some 9), none, none, false, .pu (.bset none 9 0 2 (.s 57))⟩]))))
   (.ops [⟨(some 58), some undefA, none, false, .pu (.bin .add (.s 42) (.c (.int .i64 1)))⟩,
     ⟨(some 42), some undefA, none, false, .pu (.mov (.s 58))⟩])))))))
 (.seq (.ops [⟨(some 6), some undefA, none, false, .pu (.mov (.c (.int .i64 0)))⟩])
 (.ret))))))))⟩
theorem t51 : trF Try.prog [9, 11] [] Try.f51 = some m51 := by kernel_rfl

/-- selion/soil.Turn [] -/
def m52 : MFun := ⟨16, [], [.mov (.s 2), .mov (.s 3)],
 .seq (.ops [⟨(some 2), some undefA, none, false, .pu (.mov (.c (.nilS)))⟩,
   ⟨(some 3), some undefA, none, false, .pu (.mov (.c (.int .i64 0)))⟩])
 (.seq (.seq (.ops [⟨(some 6), some undefA, none, false, .pu (.mov (.s 0))⟩,
   ⟨(some 7), some undefA, none, false, .call 37 [(.s 6)]⟩,
   ⟨(some 4), some undefA, none, false, .pu (.mov (.s 7))⟩])
 (.seq (.ops [⟨(some 8), some undefA, none, false, .pu (.mov (.s 4))⟩,
   ⟨(some 9), some undefA, none, false, .pu (.bin .neq (.s 8) (.c (.int .i64 0)))⟩])
 (.cond (.s 9) (.seq (.ops [⟨(some 10), some undefA, none, false, .pu (.mov (.s 4))⟩,
    ⟨(some 2), some undefA, none, false, .pu (.mov (.c (.nilS)))⟩,
    ⟨(some 3), some undefA, none, false, .pu (.mov (.s 10))⟩])
  (.ret))
 (.skip))))
 (.seq (.ops [⟨(some 11), some undefA, none, false, .pu (.mov (.s 0))⟩,
   ⟨(some 12), some undefA, none, false, .call 92 [(.s 11)]⟩,
   ⟨(some 5), some undefA, none, false, .pu (.mov (.s 12))⟩])
 (.seq (.ops [⟨(some 13), some undefA, none, false, .pu (.mov (.s 5))⟩,
   ⟨(some 14), some undefA, none, false, .call 93 [(.s 13)]⟩])
 (.seq (.ops [⟨(some 15), some undefA, none, false, .pu (.mov (.s 5))⟩,
   ⟨(some 2), some undefA, none, false, .pu (.mov (.s 15))⟩,
   ⟨(some 3), some undefA, none, false, .pu (.mov (.c (.int .i64 0)))⟩])
 (.ret)))))⟩
theorem t52 : trF Try.prog [] [] Try.f52 = some m52 := by kernel_rfl

/-- selion/soil.Join [] -/
def m54 : MFun := ⟨23, [], [.mov (.s 4), .mov (.s 5)],
 .seq (.ops [⟨(some 4), some undefA, none, false, .pu (.mov (.c (.nilS)))⟩,
   ⟨(some 5), some undefA, none, false, .pu (.mov (.c (.int .i64 0)))⟩])
 (.seq (.seq (.ops [⟨(some 7), some undefA, none, false, .pu (.mov (.s 0))⟩,
   ⟨(some 8), some undefA, none, false, .pu (.mov (.s 1))⟩,
   ⟨(some 9), some undefA, none, false, .call 82 [(.s 7), (.s 8)]⟩,
   ⟨(some 6), some undefA, none, false, .pu (.mov (.s 9))⟩])
 (.seq (.ops [⟨(some 10), some undefA, none, false, .pu (.mov (.s 6))⟩,
   ⟨(some 11), some undefA, none, false, .pu (.bin .neq (.s 10) (.c (.int .i64 0)))⟩])
 (.cond (.s 11) (.seq (.ops [⟨(some 12), some undefA, none, false, .pu (.mov (.s 6))⟩,
    ⟨(some 4), some undefA, none, false, .pu (.mov (.c (.nilS)))⟩,
    ⟨(some 5), some undefA, none, false, .pu (.mov (.s 12))⟩])
  (.ret))
 (.skip))))
 (.seq (.seq (.ops [⟨(some 13), some undefA, none, false, .pu (.mov (.s 0))⟩,
   ⟨(some 14), some undefA, none, false, .pu (.len (.s 13))⟩,
   ⟨(some 15), some undefA, none, false, .pu (.mov (.s 1))⟩,
   ⟨(some 16), some undefA, none, false, .pu (.len (.s 15))⟩,
   ⟨(some 17), some undefA, none, false, .pu (.bin .add (.s 14) (.s 16))⟩,
   ⟨(some 18), some undefA, none, false, .pu (.bin .gtr (.s 17) (.c (.int .i64 6)))⟩])
 (.cond (.s 18) (.seq (.ops [⟨(some 4), some undefA, none, false, .pu (.mov (.c (.nilS)))⟩,
    ⟨(some 5), some undefA, none, false, .pu (.mov (.c (.int .i64 3)))⟩])
  (.ret))
 (.skip)))
 (.seq (.ops [⟨(some 19), some undefA, none, false, .pu (.mov (.s 0))⟩,
   ⟨(some 20), some undefA, none, false, .pu (.mov (.s 1))⟩,
   ⟨(some 21), some undefA, none, false, .ha (.blds 1 2 [.nilS] [(0, 1, (.s 19)), (1, 1, (.s 20))])⟩,
   ⟨(some 22), some undefA, none, false, .call 94 [(.s 21)]⟩,
   ⟨(some 4), some undefA, none, false, .pu (.mov (.s 22))⟩,
   ⟨(some 5), some undefA, none, false, .pu (.mov (.c (.int .i64 0)))⟩])
 (.ret))))⟩
theorem t54 : trF Try.prog [] [] Try.f54 = some m54 := by kernel_rfl

/-- selion/selionref02.Join [] -/
def m55 : MFun := ⟨23, [], [.mov (.s 4), .mov (.s 5)],
 .seq (.ops [⟨(some 4), some undefA, none, false, .pu (.mov (.c (.nilS)))⟩,
   ⟨(some 5), some undefA, none, false, .pu (.mov (.c (.int .i64 0)))⟩])
 (.seq (.ops [⟨(some 8), some undefA, none, false, .pu (.mov (.s 0))⟩,
   ⟨(some 9), some undefA, none, false, .pu (.mov (.s 1))⟩,
   ⟨(some 10), some undefA, none, false, .call 84 [(.s 8), (.s 9)]⟩,
   ⟨(some 6), some undefA, none, false, .pu (.mov (.s 10))⟩])
 (.seq (.seq (.ops [⟨(some 11), some undefA, none, false, .pu (.mov (.s 6))⟩,
   ⟨(some 12), some undefA, none, false, .pu (.bin .neq (.s 11) (.c (.int .i64 0)))⟩])
 (.cond (.s 12) (.seq (.ops [⟨(some 13), some undefA, none, false, .pu (.mov (.s 6))⟩,
    ⟨(some 4), some undefA, none, false, .pu (.mov (.c (.nilS)))⟩,
    ⟨(some 5), some undefA, none, false, .pu (.mov (.s 13))⟩])
  (.ret))
 (.skip)))
 (.seq (.ops [⟨(some 14), some undefA, none, false, .ha (.blds 2 0 [.int .i64 0, .int .i64 0] [])⟩,
   ⟨(some 15), some undefA, none, false, .pu (.mov (.s 0))⟩,
   ⟨(some 16), some undefA, none, false, .ha (.app 2 (.s 14) (.s 15))⟩,
   ⟨(some 17), some undefA, none, false, .pu (.mov (.s 1))⟩,
   ⟨(some 18), some undefA, none, false, .ha (.app 2 (.s 16) (.s 17))⟩,
   ⟨(some 7), some undefA, none, false, .pu (.mov (.s 18))⟩])
 (.seq (.seq (.ops [⟨(some 19), some undefA, none, false, .pu (.mov (.s 7))⟩,
   ⟨(some 20), some undefA, none, false, .pu (.len (.s 19))⟩,
   ⟨(some 21), some undefA, none, false, .pu (.bin .gtr (.s 20) (.c (.int .i64 6)))⟩])
 (.cond (.s 21) (.seq (.ops [⟨(some 4), some undefA, none, false, .pu (.mov (.c (.nilS)))⟩,
    ⟨(some 5), some undefA, none, false, .pu (.mov (.c (.int .i64 3)))⟩])
  (.ret))
 (.skip)))
 (.seq (.ops [⟨(some 22), some undefA, none, false, .pu (.mov (.s 7))⟩,
   ⟨(some 4), some undefA, none, false, .pu (.mov (.s 22))⟩,
   ⟨(some 5), some undefA, none, false, .pu (.mov (.c (.int .i64 0)))⟩])
 (.ret))))))⟩
theorem t55 : trF Try.prog [] [] Try.f55 = some m55 := by kernel_rfl

/-- selion/selionref02.Turn [loop [0, 5, 6]] -/
def m56 : MFun := ⟨27, [], [.mov (.s 2), .mov (.s 3)],
 .seq (.ops [⟨(some 2), some undefA, none, false, .pu (.mov (.c (.nilS)))⟩,
   ⟨(some 3), some undefA, none, false, .pu (.mov (.c (.int .i64 0)))⟩])
 (.seq (.ops [⟨(some 7), some undefA, none, false, .pu (.mov (.s 0))⟩,
   ⟨(some 8), some undefA, none, false, .call 38 [(.s 7)]⟩,
   ⟨(some 4), some undefA, none, false, .pu (.mov (.s 8))⟩])
 (.seq (.seq (.ops [⟨(some 9), some undefA, none, false, .pu (.mov (.s 4))⟩,
   ⟨(some 10), some undefA, none, false, .pu (.bin .neq (.s 9) (.c (.int .i64 0)))⟩])
 (.cond (.s 10) (.seq (.ops [⟨(some 11), some undefA, none, false, .pu (.mov (.s 4))⟩,
    ⟨(some 2), some undefA, none, false, .pu (.mov (.c (.nilS)))⟩,
    ⟨(some 3), some undefA, none, false, .pu (.mov (.s 11))⟩])
  (.ret))
 (.skip)))
 (.seq (.ops [⟨(some 5), some undefA, none, false, .pu (.mov (.c (.nilS)))⟩])
 (.seq (.seq (.ops [⟨(some 12), some undefA, none, false, .pu (.mov (.s 0))⟩,
   ⟨(some 13), some undefA, none, false, .pu (.len (.s 12))⟩,
   ⟨(some 14), some undefA, none, false, .pu (.bin .sub (.s 13) (.c (.int .i64 1)))⟩,
   ⟨(some 6), some undefA, none, false, .pu (.mov (.s 14))⟩])
 (.block 0 (.loop (.seq (.seq (.ops [⟨(some 15), some undefA, none, false, .pu (.mov (.s 6))⟩,
     ⟨(some 16), some undefA, none, false, .pu (.bin .geq (.s 15) (.c (.int .i64 0)))⟩])
   (.cond (.s 16) (.skip)
   (.exit 0)))
   (.seq (.block 1 (.ops [⟨(some 19), some undefA, none, false, .pu (.mov (.s 5))⟩,
      ⟨(some 20), some undefA, none, false, .pu (.mov (.s 0))⟩,
      ⟨(some 21), some undefA, none, false, .pu (.mov (.s 6))⟩,
      ⟨(some 22), some undefA, none, false, .pu (.idx 2 (.s 20) (.s 21))⟩,
      ⟨(some 23), some undefA, none, false, .ld (.ld 2 true (.s 22))⟩,
      ⟨(some 24), some undefA, none, false, .ha (.blds 2 1 [.int .i64 0, .int .i64 0] [(0, 2, (.s 23))])⟩,
      ⟨(some 25), some undefA, none, false, .ha (.app 2 (.s 19) (.s 24))⟩,
      ⟨(some 5), some undefA, none, false, .pu (.mov (.s 25))⟩]))
   (.ops [⟨(some 17), some undefA, none, false, .pu (.mov (.s 6))⟩,
     ⟨(some 18), some undefA, none, false, .pu (.bin .sub (.s 17) (.c (.int .i64 1)))⟩,
     ⟨(some 6), some undefA, none, false, .pu (.mov (.s 18))⟩]))))))
 (.seq (.ops [⟨(some 26), some undefA, none, false, .pu (.mov (.s 5))⟩,
   ⟨(some 2), some undefA, none, false, .pu (.mov (.s 26))⟩,
   ⟨(some 3), some undefA, none, false, .pu (.mov (.c (.int .i64 0)))⟩])
 (.ret))))))⟩
theorem t56 : trF Try.prog [] [] Try.f56 = some m56 := by kernel_rfl

/-- selion/soil.Sum [loop [7, 8, 9]] -/
def m57 : MFun := ⟨88, [], [.mov (.s 4), .mov (.s 5)],
 .seq (.ops [⟨(some 4), some undefA, none, false, .pu (.mov (.c (.nilS)))⟩,
   ⟨(some 5), some undefA, none, false, .pu (.mov (.c (.int .i64 0)))⟩])
 (.seq (.seq (.ops [⟨(some 11), some undefA, none, false, .pu (.mov (.s 0))⟩,
   ⟨(some 12), some undefA, none, false, .pu (.mov (.s 1))⟩,
   ⟨(some 13), some undefA, none, false, .call 82 [(.s 11), (.s 12)]⟩,
   ⟨(some 6), some undefA, none, false, .pu (.mov (.s 13))⟩])
 (.seq (.ops [⟨(some 14), some undefA, none, false, .pu (.mov (.s 6))⟩,
   ⟨(some 15), some undefA, none, false, .pu (.bin .neq (.s 14) (.c (.int .i64 0)))⟩])
 (.cond (.s 15) (.seq (.ops [⟨(some 16), some undefA, none, false, .pu (.mov (.s 6))⟩,
    ⟨(some 4), some undefA, none, false, .pu (.mov (.c (.nilS)))⟩,
    ⟨(some 5), some undefA, none, false, .pu (.mov (.s 16))⟩])
  (.ret))
 (.skip))))
 (.seq (.seq (.ops [⟨(some 17), some undefA, none, false, .pu (.mov (.s 0))⟩,
   ⟨(some 18), some undefA, none, false, .call 77 [(.s 17)]⟩,
   ⟨(some 19), some undefA, none, false, .pu (.mov (.s 1))⟩,
   ⟨(some 20), some undefA, none, false, .call 77 [(.s 19)]⟩,
   ⟨(some 21), some undefA, none, false, .pu (.bin .neq (.s 18) (.s 20))⟩])
 (.cond (.s 21) (.seq (.ops [⟨(some 4), some undefA, none, false, .pu (.mov (.c (.nilS)))⟩,
    ⟨(some 5), some undefA, none, false, .pu (.mov (.c (.int .i64 5)))⟩])
  (.ret))
 (.skip)))
 (.seq (.ops [⟨(some 22), some undefA, none, false, .pu (.mov (.s 0))⟩,
   ⟨(some 23), some undefA, none, false, .call 92 [(.s 22)]⟩,
   ⟨(some 24), some undefA, none, false, .pu (.mov (.s 1))⟩,
   ⟨(some 25), some undefA, none, false, .call 92 [(.s 24)]⟩,
   ⟨(some 7), some undefA, none, false, .pu (.mov (.s 23))⟩,
   ⟨(some 8), some undefA, none, false, .pu (.mov (.s 25))⟩])
 (.seq (.ops [⟨(some 9), some undefA, none, false, .pu (.mov (.c (.nilS)))⟩])
 (.seq (.block 0 (.loop (.seq (.seq (.ops [⟨(some 26), some undefA, none, false, .pu (.mov (.s 7))⟩,
     ⟨(some 27), some undefA, none, false, .pu (.len (.s 26))⟩,
     ⟨(some 28), some undefA, none, false, .pu (.bin .gtr (.s 27) (.c (.int .i64 0)))⟩])
   (.cond (.s 28) (.skip)
   (.exit 0)))
   (.block 1 (.seq (.ops [⟨(some 29), some undefA, none, true, .pu (.mov (.s 7))⟩,
      ⟨(some 30), some undefA, none, true, .pu (.idx 2 (.s 29) (.c (.int .i64 0)))⟩,
      ⟨(some 31), some undefA, none, true, .pu (.fad 0 (.s 30))⟩,
      ⟨(some 32), some undefA, none, true, .ld (.ld 1 false (.s 31))⟩,
      ⟨(some 33), some undefA, none, true, .pu (.mov (.s 8))⟩,
      ⟨(some 34), some undefA, none, true, .pu (.idx 2 (.s 33) (.c (.int .i64 0)))⟩,
      ⟨(some 35), some undefA, none, true, .pu (.fad 0 (.s 34))⟩,
      ⟨(some 36), some undefA, none, true, .ld (.ld 1 false (.s 35))⟩,
      ⟨(some 37), some undefA, none, false, .pu (.mm false (.s 32) [(.s 36)])⟩,
      ⟨(some 10), some undefA, none, false, .pu (.mov (.s 37))⟩])
    (.seq (.ops [⟨(some 38), some undefA, none, true, .pu (.mov (.s 9))⟩,
      ⟨(some 39), some undefA, none, true, .pu (.mov (.s 10))⟩,
      ⟨(some 40), some undefA, none, true, .pu (.mov (.s 7))⟩,
      ⟨(some 41), some undefA, none, true, .pu (.idx 2 (.s 40) (.c (.int .i64 0)))⟩,
      ⟨(some 42), some undefA, none, true, .pu (.fad 1 (.s 41))⟩,
      ⟨(some 43), some undefA, none, true, .ld (.ld 1 false (.s 42))⟩,
      ⟨(some 44), some undefA, none, true, .pu (.mov (.s 8))⟩,
      ⟨(some 45), some undefA, none, true, .pu (.idx 2 (.s 44) (.c (.int .i64 0)))⟩,
      ⟨(some 46), some undefA, none, true, .pu (.fad 1 (.s 45))⟩,
      ⟨(some 47), some undefA, none, true, .ld (.ld 1 false (.s 46))⟩,
      ⟨(some 48), some undefA, none, false, .pu (.bin .add (.s 43) (.s 47))⟩,
      ⟨(some 49), some undefA, none, false, .pu (.build [.int .i64 0, .int .i64 0] [(0, 1, (.s 39)), (1, 1, (.s 48))])⟩,
      ⟨(some 50), some undefA, none, false, .ha (.blds 2 1 [.int .i64 0, .int .i64 0] [(0, 2, (.s 49))])⟩,
      ⟨(some 51), some undefA, none, false, .ha (.app 2 (.s 38) (.s 50))⟩,
      ⟨(some 9), some undefA, none, false, .pu (.mov (.s 51))⟩])
    (.seq (.ops [⟨(some 52), some undefA, none, false, .pu (.mov (.s 7))⟩,
      ⟨(some 53), some undefA, none, false, .pu (.idx 2 (.s 52) (.c (.int .i64 0)))⟩,
      ⟨(some 54), some undefA, none, false, .pu (.fad 0 (.s 53))⟩,
      ⟨(some 55), some undefA, none, false, .ld (.ld 1 false (.s 54))⟩,
      ⟨(some 56), some undefA, none, false, .pu (.mov (.s 10))⟩,
      ⟨(some 57), some undefA, none, false, .pu (.bin .sub (.s 55) (.s 56))⟩,
      ⟨(some 58), some undefA, none, false, .pu (.idx 2 (.s 52) (.c (.int .i64 0)))⟩,
      ⟨(some 59), some undefA, none, false, .pu (.fad 0 (.s 58))⟩,
      ⟨none, some undefA, none, false, .ha (.st 1 (.s 59) (.s 57))⟩])
    (.seq (.ops [⟨(some 60), some undefA, none, false, .pu (.mov (.s 8))⟩,
      ⟨(some 61), some undefA, none, false, .pu (.idx 2 (.s 60) (.c (.int .i64 0)))⟩,
      ⟨(some 62), some undefA, none, false, .pu (.fad 0 (.s 61))⟩,
      ⟨(some 63), some undefA, none, false, .ld (.ld 1 false (.s 62))⟩,
      ⟨(some 64), some undefA, none, false, .pu (.mov (.s 10))⟩,
      ⟨(some 65), some undefA, none, false, .pu (.bin .sub (.s 63) (.s 64))⟩,
      ⟨(some 66), some undefA, none, false, .pu (.idx 2 (.s 60) (.c (.int .i64 0)))⟩,
      ⟨(some 67), some undefA, none, false, .pu (.fad 0 (.s 66))⟩,
      ⟨none, some undefA, none, false, .ha (.st 1 (.s 67) (.s 65))⟩])
    (.seq (.seq (.ops [⟨(some 68), some undefA, none, false, .pu (.mov (.s 7))⟩,
      ⟨(some 69), some undefA, none, false, .pu (.idx 2 (.s 68) (.c (.int .i64 0)))⟩,
      ⟨(some 70), some undefA, none, false, .pu (.fad 0 (.s 69))⟩,
      ⟨(some 71), some undefA, none, false, .ld (.ld 1 false (.s 70))⟩,
      ⟨(some 72), some undefA, none, false, .pu (.bin .eql (.s 71) (.c (.int .i64 0)))⟩])
    (.cond (.s 72) (.ops [⟨(some 73), some undefA, none, false, .pu (.mov (.s 7))⟩,
       ⟨(some 74), some undefA, none, false, .pu (.slc 2 (.s 73) (some (.c (.int .i64 1))) none none)⟩,
       ⟨(some 7), some undefA, none, false, .pu (.mov (.s 74))⟩])
    (.skip)))
    (.seq (.ops [⟨(some 75), some undefA, none, false, .pu (.mov (.s 8))⟩,
      ⟨(some 76), some undefA, none, false, .pu (.idx 2 (.s 75) (.c (.int .i64 0)))⟩,
      ⟨(some 77), some undefA, none, false, .pu (.fad 0 (.s 76))⟩,
      ⟨(some 78), some undefA, none, false, .ld (.ld 1 false (.s 77))⟩,
      ⟨(some 79), some undefA, none, false, .pu (.bin .eql (.s 78) (.c (.int .i64 0)))⟩])
    (.cond (.s 79) (.ops [⟨(some 80), some undefA, none, false, .pu (.mov (.s 8))⟩,
       ⟨(some 81), some undefA, none, false, .pu (.slc 2 (.s 80) (some (.c (.int .i64 1))) none none)⟩,
       ⟨(some 8), some undefA, none, false, .pu (.mov (.s 81))⟩])
    (.skip))))))))))))
 (.seq (.seq (.ops [⟨(some 82), some undefA, none, false, .pu (.mov (.s 9))⟩,
   ⟨(some 83), some undefA, none, false, .call 95 [(.s 82), (.c (.fn 96 []))]⟩])
 (.cond (.s 83) (.seq (.ops [⟨(some 4), some undefA, none, false, .pu (.mov (.c (.nilS)))⟩,
    ⟨(some 5), some undefA, none, false, .pu (.mov (.c (.int .i64 1)))⟩])
  (.ret))
 (.skip)))
 (.seq (.seq (.ops [⟨(some 84), some undefA, none, false, .pu (.mov (.s 9))⟩,
   ⟨(some 85), some undefA, none, false, .pu (.len (.s 84))⟩,
   ⟨(some 86), some undefA, none, false, .pu (.bin .gtr (.s 85) (.c (.int .i64 6)))⟩])
 (.cond (.s 86) (.seq (.ops [⟨(some 4), some undefA, none, false, .pu (.mov (.c (.nilS)))⟩,
    ⟨(some 5), some undefA, none, false, .pu (.mov (.c (.int .i64 3)))⟩])
  (.ret))
 (.skip)))
 (.seq (.ops [⟨(some 87), some undefA, none, false, .pu (.mov (.s 9))⟩,
   ⟨(some 4), some undefA, none, false, .pu (.mov (.s 87))⟩,
   ⟨(some 5), some undefA, none, false, .pu (.mov (.c (.int .i64 0)))⟩])
 (.ret)))))))))⟩
theorem t57 : trF Try.prog [] [] Try.f57 = some m57 := by kernel_rfl

/-- selion/selionref02.Sum [loop [7, 8, 9, 10, 11, 12]] -/
def m58 : MFun := ⟨85, [], [.mov (.s 4), .mov (.s 5)],
 .seq (.ops [⟨(some 4), some undefA, none, false, .pu (.mov (.c (.nilS)))⟩,
   ⟨(some 5), some undefA, none, false, .pu (.mov (.c (.int .i64 0)))⟩])
 (.seq (.ops [⟨(some 13), some undefA, none, false, .pu (.mov (.s 0))⟩,
   ⟨(some 14), some undefA, none, false, .pu (.mov (.s 1))⟩,
   ⟨(some 15), some undefA, none, false, .call 84 [(.s 13), (.s 14)]⟩,
   ⟨(some 6), some undefA, none, false, .pu (.mov (.s 15))⟩])
 (.seq (.seq (.ops [⟨(some 16), some undefA, none, false, .pu (.mov (.s 6))⟩,
   ⟨(some 17), some undefA, none, false, .pu (.bin .neq (.s 16) (.c (.int .i64 0)))⟩])
 (.cond (.s 17) (.seq (.ops [⟨(some 18), some undefA, none, false, .pu (.mov (.s 6))⟩,
    ⟨(some 4), some undefA, none, false, .pu (.mov (.c (.nilS)))⟩,
    ⟨(some 5), some undefA, none, false, .pu (.mov (.s 18))⟩])
  (.ret))
 (.skip)))
 (.seq (.ops [⟨(some 19), some undefA, none, false, .pu (.mov (.s 0))⟩,
   ⟨(some 20), some undefA, none, false, .call 68 [(.s 19)]⟩,
   ⟨(some 21), some undefA, none, false, .pu (.mov (.s 1))⟩,
   ⟨(some 22), some undefA, none, false, .call 68 [(.s 21)]⟩,
   ⟨(some 7), some undefA, none, false, .pu (.mov (.s 20))⟩,
   ⟨(some 8), some undefA, none, false, .pu (.mov (.s 22))⟩])
 (.seq (.seq (.ops [⟨(some 23), some undefA, none, false, .pu (.mov (.s 7))⟩,
   ⟨(some 24), some undefA, none, false, .pu (.len (.s 23))⟩,
   ⟨(some 25), some undefA, none, false, .pu (.mov (.s 8))⟩,
   ⟨(some 26), some undefA, none, false, .pu (.len (.s 25))⟩,
   ⟨(some 27), some undefA, none, false, .pu (.bin .neq (.s 24) (.s 26))⟩])
 (.cond (.s 27) (.seq (.ops [⟨(some 4), some undefA, none, false, .pu (.mov (.c (.nilS)))⟩,
    ⟨(some 5), some undefA, none, false, .pu (.mov (.c (.int .i64 5)))⟩])
  (.ret))
 (.skip)))
 (.seq (.ops [⟨(some 28), some undefA, none, false, .pu (.mov (.s 0))⟩,
   ⟨(some 29), some undefA, none, false, .call 97 [(.s 28)]⟩,
   ⟨(some 30), some undefA, none, false, .pu (.mov (.s 1))⟩,
   ⟨(some 31), some undefA, none, false, .call 97 [(.s 30)]⟩,
   ⟨(some 9), some undefA, none, false, .pu (.mov (.s 29))⟩,
   ⟨(some 10), some undefA, none, false, .pu (.mov (.s 31))⟩])
 (.seq (.ops [⟨(some 11), some undefA, none, false, .pu (.mov (.c (.nilS)))⟩])
 (.seq (.seq (.ops [⟨(some 12), some undefA, none, false, .pu (.mov (.c (.int .i64 0)))⟩])
 (.block 0 (.loop (.seq (.seq (.ops [⟨(some 32), some undefA, none, false, .pu (.mov (.s 12))⟩,
     ⟨(some 33), some undefA, none, false, .pu (.mov (.s 7))⟩,
     ⟨(some 34), some undefA, none, false, .pu (.len (.s 33))⟩,
     ⟨(some 35), some undefA, none, false, .pu (.bin .lss (.s 32) (.s 34))⟩])
   (.cond (.s 35) (.skip)
   (.exit 0)))
   (.seq (.block 1 (.seq (.seq (.ops [⟨(some 38), some undefA, none, true, .pu (.mov (.s 7))⟩,
      ⟨(some 39), some undefA, none, true, .pu (.mov (.s 12))⟩,
      ⟨(some 40), some undefA, none, true, .pu (.idx 1 (.s 38) (.s 39))⟩,
      ⟨(some 41), some undefA, none, true, .ld (.ld 1 false (.s 40))⟩,
      ⟨(some 42), some undefA, none, true, .pu (.mov (.s 8))⟩,
      ⟨(some 43), some undefA, none, true, .pu (.mov (.s 12))⟩,
      ⟨(some 44), some undefA, none, true, .pu (.idx 1 (.s 42) (.s 43))⟩,
      ⟨(some 45), some undefA, none, true, .ld (.ld 1 false (.s 44))⟩,
      ⟨(some 46), some undefA, none, false, .pu (.bin .add (.s 41) (.s 45))⟩,
      ⟨(some 47), some undefA, none, false, .pu (.bin .gtr (.s 46) (.c (.int .i64 20)))⟩])
    (.cond (.s 47) (.seq (.ops [⟨(some 4), some undefA, none, false, .pu (.mov (.c (.nilS)))⟩,
       ⟨(some 5), some undefA, none, false, .pu (.mov (.c (.int .i64 1)))⟩])
     (.ret))
    (.skip)))
    (.seq (.seq (.ops [⟨(some 48), some undefA, none, false, .pu (.mov (.s 9))⟩,
      ⟨(some 49), some undefA, none, false, .pu (.mov (.s 12))⟩,
      ⟨(some 50), some undefA, none, false, .pu (.idx 1 (.s 48) (.s 49))⟩,
      ⟨(some 51), some undefA, none, false, .ld (.ld 1 false (.s 50))⟩,
      ⟨(some 52), some undefA, none, false, .pu (.mov (.s 51))⟩,
      ⟨(some 53), some undefA, (some (52, false)), false, .pu (.mov (.s 10))⟩,
      ⟨(some 54), some undefA, (some (52, false)), false, .pu (.mov (.s 12))⟩,
      ⟨(some 55), some undefA, (some (52, false)), false, .pu (.idx 1 (.s 53) (.s 54))⟩,
      ⟨(some 56), some undefA, (some (52, false)), false, .ld (.ld 1 false (.s 55))⟩,
      ⟨(some 57), some undefA, none, false, .pu (.pick (.s 52) (.c (.bool true)) (.s 56))⟩])
    (.cond (.s 57) (.ops [⟨(some 58), some undefA, none, true, .pu (.mov (.s 11))⟩,
       ⟨(some 59), some undefA, none, true, .pu (.mov (.s 7))⟩,
       ⟨(some 60), some undefA, none, true, .pu (.mov (.s 12))⟩,
       ⟨(some 61), some undefA, none, true, .pu (.idx 1 (.s 59) (.s 60))⟩,
       ⟨(some 62), some undefA, none, true, .ld (.ld 1 false (.s 61))⟩,
       ⟨(some 63), some undefA, none, true, .pu (.mov (.s 8))⟩,
       ⟨(some 64), some undefA, none, true, .pu (.mov (.s 12))⟩,
       ⟨(some 65), some undefA, none, true, .pu (.idx 1 (.s 63) (.s 64))⟩,
       ⟨(some 66), some undefA, none, true, .ld (.ld 1 false (.s 65))⟩,
       ⟨(some 67), some undefA, none, false, .pu (.bin .add (.s 62) (.s 66))⟩,
       ⟨(some 68), some undefA, none, false, .pu (.build [.int .i64 0, .int .i64 0] [(1, 1, (.s 67))])⟩,
       ⟨(some 69), some undefA, none, false, .ha (.blds 2 1 [.int .i64 0, .int .i64 0] [(0, 2, (.s 68))])⟩,
       ⟨(some 70), some undefA, none, false, .ha (.app 2 (.s 58) (.s 69))⟩,
       ⟨(some 11), some undefA, none, false, .pu (.mov (.s 70))⟩])
    (.skip)))
    (.ops [⟨(some 71), some undefA, none, false, .pu (.mov (.s 11))⟩,
      ⟨(some 72), some undefA, none, false, .pu (.mov (.s 11))⟩,
      ⟨(some 73), some undefA, none, false, .pu (.len (.s 72))⟩,
      ⟨(some 74), some undefA, none, false, .pu (.bin .sub (.s 73) (.c (.int .i64 1)))⟩,
      ⟨(some 75), some undefA, none, false, .pu (.idx 2 (.s 71) (.s 74))⟩,
      ⟨(some 76), some undefA, none, false, .pu (.fad 0 (.s 75))⟩,
      ⟨(some 77), some undefA, none, false, .ld (.ld 1 false (.s 76))⟩,
      ⟨(some 78), some undefA, none, false, .pu (.bin .add (.s 77) (.c (.int .i64 1)))⟩,
      ⟨(some 79), some undefA, none, false, .pu (.idx 2 (.s 71) (.s 74))⟩,
      ⟨(some 80), some undefA, none, false, .pu (.fad 0 (.s 79))⟩,
      ⟨none, some undefA, none, false, .ha (.st 1 (.s 80) (.s 78))⟩]))))
   (.ops [⟨(some 36), some undefA, none, false, .pu (.mov (.s 12))⟩,
     ⟨(some 37), some undefA, none, false, .pu (.bin .add (.s 36) (.c (.int .i64 1)))⟩,
     ⟨(some 12), some undefA, none, false, .pu (.mov (.s 37))⟩]))))))
 (.seq (.seq (.ops [⟨(some 81), some undefA, none, false, .pu (.mov (.s 11))⟩,
   ⟨(some 82), some undefA, none, false, .pu (.len (.s 81))⟩,
   ⟨(some 83), some undefA, none, false, .pu (.bin .gtr (.s 82) (.c (.int .i64 6)))⟩])
 (.cond (.s 83) (.seq (.ops [⟨(some 4), some undefA, none, false, .pu (.mov (.c (.nilS)))⟩,
    ⟨(some 5), some undefA, none, false, .pu (.mov (.c (.int .i64 3)))⟩])
  (.ret))
 (.skip)))
 (.seq (.ops [⟨(some 84), some undefA, none, false, .pu (.mov (.s 11))⟩,
   ⟨(some 4), some undefA, none, false, .pu (.mov (.s 84))⟩,
   ⟨(some 5), some undefA, none, false, .pu (.mov (.c (.int .i64 0)))⟩])
 (.ret))))))))))⟩
theorem t58 : trF Try.prog [] [] Try.f58 = some m58 := by kernel_rfl

/-- selion/selionref02.Cut [loop [0, 1, 7, 8, 9]] -/
def m59 : MFun := ⟨41, [8], [.mov (.s 4), .mov (.s 5)],
 .seq (.ops [⟨(some 4), some undefA, none, false, .pu (.mov (.c (.nilS)))⟩,
   ⟨(some 5), some undefA, none, false, .pu (.mov (.c (.int .i64 0)))⟩])
 (.seq (.ops [⟨(some 10), some undefA, none, false, .pu (.mov (.s 0))⟩,
   ⟨(some 11), some undefA, none, false, .pu (.mov (.s 1))⟩,
   ⟨(some 12), some undefA, none, false, .call 98 [(.s 10), (.s 11)]⟩,
   ⟨(some 6), some undefA, none, false, .pu (.mov (.s 12))⟩])
 (.seq (.seq (.ops [⟨(some 13), some undefA, none, false, .pu (.mov (.s 6))⟩,
   ⟨(some 14), some undefA, none, false, .pu (.bin .neq (.s 13) (.c (.int .i64 0)))⟩])
 (.cond (.s 14) (.seq (.ops [⟨(some 15), some undefA, none, false, .pu (.mov (.s 6))⟩,
    ⟨(some 4), some undefA, none, false, .pu (.mov (.c (.nilS)))⟩,
    ⟨(some 5), some undefA, none, false, .pu (.mov (.s 15))⟩])
  (.ret))
 (.skip)))
 (.seq (.ops [⟨(some 7), some undefA, none, false, .pu (.mov (.c (.nilS)))⟩])
 (.seq (.ops [⟨(some 16), some undefA, none, false, .call 30 [(.c (.int .i64 0))]⟩,
   ⟨(some 8), some (.junk), none, false, .pu (.bnew (.c (.agg [.int .i64 0, .int .i64 0])))⟩,
   ⟨(some 8), none, none, false, .pu (.bset none 8 0 2 (.s 16))⟩])
 (.seq (.seq (.ops [⟨(some 9), some undefA, none, false, .pu (.mov (.c (.int .i64 0)))⟩])
 (.block 0 (.loop (.seq (.seq (.ops [⟨(some 17), some undefA, none, false, .pu (.mov (.s 9))⟩,
     ⟨(some 18), some undefA, none, false, .pu (.bin .add (.s 17) (.c (.int .i64 1)))⟩,
     ⟨(some 19), some undefA, none, false, .pu (.mov (.s 1))⟩,
     ⟨(some 20), some undefA, none, false, .pu (.len (.s 19))⟩,
     ⟨(some 21), some undefA, none, false, .pu (.bin .lss (.s 18) (.s 20))⟩])
   (.cond (.s 21) (.skip)
   (.exit 0)))
   (.seq (.block 1 (.seq (.ops [⟨(some 25), some undefA, none, true, .pu (.mov (.s 0))⟩,
      ⟨(some 26), some undefA, none, true, .call 68 [(.s 25)]⟩,
      ⟨(some 27), some undefA, none, true, .pu (.bget none 8 0 2 true)⟩,
      ⟨(some 28), some undefA, none, false, .pu (.mov (.s 1))⟩,
      ⟨(some 29), some undefA, none, false, .pu (.mov (.s 9))⟩,
      ⟨(some 30), some undefA, none, false, .pu (.idx 1 (.s 28) (.s 29))⟩,
      ⟨(some 31), some undefA, none, true, .ld (.ld 1 false (.s 30))⟩,
      ⟨(some 32), some undefA, none, false, .call 30 [(.s 31)]⟩,
      ⟨(some 33), some undefA, none, false, .call 67 [(.s 26), (.s 27), (.s 32)]⟩,
      ⟨(some 24), some undefA, none, false, .pu (.mov (.s 33))⟩,
      ⟨(some 34), some undefA, none, false, .pu (.extr 0 (.s 24))⟩,
      ⟨(some 35), some undefA, none, false, .pu (.extr 1 (.s 24))⟩,
      ⟨(some 8), none, none, false, .pu (.bset none 8 0 2 (.s 34))⟩])
    (.ops [⟨(some 36), some undefA, none, false, .pu (.mov (.s 7))⟩,
      ⟨(some 37), some undefA, none, false, .pu (.bget none 8 0 2 true)⟩,
      ⟨(some 38), some undefA, none, false, .ha (.blds 2 1 [.int .i64 0, .int .i64 0] [(0, 2, (.s 37))])⟩,
      ⟨(some 39), some undefA, none, false, .ha (.app 2 (.s 36) (.s 38))⟩,
      ⟨(some 7), some undefA, none, false, .pu (.mov (.s 39))⟩])))
   (.ops [⟨(some 22), some undefA, none, false, .pu (.mov (.s 9))⟩,
     ⟨(some 23), some undefA, none, false, .pu (.bin .add (.s 22) (.c (.int .i64 1)))⟩,
     ⟨(some 9), some undefA, none, false, .pu (.mov (.s 23))⟩]))))))
 (.seq (.ops [⟨(some 40), some undefA, none, false, .pu (.mov (.s 7))⟩,
   ⟨(some 4), some undefA, none, false, .pu (.mov (.s 40))⟩,
   ⟨(some 5), some undefA, none, false, .pu (.mov (.c (.int .i64 0)))⟩])
 (.ret)))))))⟩
theorem t59 : trF Try.prog [8] [] Try.f59 = some m59 := by kernel_rfl

/-- selion/selionref02.CheckCut [loop [1, 2, 8, 9], loop [1, 2, 8, 10, 11]] -/
def m60 : MFun := ⟨82, [10, 12], [.mov (.s 6)],
 .seq (.ops [⟨(some 6), some undefA, none, false, .pu (.mov (.c (.int .i64 0)))⟩])
 (.seq (.ops [⟨(some 13), some undefA, none, false, .pu (.mov (.s 0))⟩,
   ⟨(some 14), some undefA, none, false, .pu (.mov (.s 1))⟩,
   ⟨(some 15), some undefA, none, false, .call 98 [(.s 13), (.s 14)]⟩,
   ⟨(some 7), some undefA, none, false, .pu (.mov (.s 15))⟩])
 (.seq (.seq (.ops [⟨(some 16), some undefA, none, false, .pu (.mov (.s 7))⟩,
   ⟨(some 17), some undefA, none, false, .pu (.bin .neq (.s 16) (.c (.int .i64 0)))⟩])
 (.cond (.s 17) (.seq (.ops [⟨(some 18), some undefA, none, false, .pu (.mov (.s 7))⟩,
    ⟨(some 6), some undefA, none, false, .pu (.mov (.s 18))⟩])
  (.ret))
 (.skip)))
 (.seq (.seq (.ops [⟨(some 19), some undefA, none, false, .pu (.mov (.s 2))⟩,
   ⟨(some 20), some undefA, none, false, .pu (.len (.s 19))⟩,
   ⟨(some 21), some undefA, none, false, .pu (.mov (.s 1))⟩,
   ⟨(some 22), some undefA, none, false, .pu (.len (.s 21))⟩,
   ⟨(some 23), some undefA, none, false, .pu (.bin .sub (.s 22) (.c (.int .i64 1)))⟩,
   ⟨(some 24), some undefA, none, false, .pu (.bin .neq (.s 20) (.s 23))⟩])
 (.cond (.s 24) (.seq (.ops [⟨(some 6), some undefA, none, false, .pu (.mov (.c (.int .i64 1)))⟩])
  (.ret))
 (.skip)))
 (.seq (.ops [⟨(some 25), some undefA, none, false, .pu (.mov (.s 0))⟩,
   ⟨(some 26), some undefA, none, false, .call 68 [(.s 25)]⟩,
   ⟨(some 8), some undefA, none, false, .pu (.mov (.s 26))⟩])
 (.seq (.seq (.ops [⟨(some 9), some undefA, none, false, .pu (.mov (.c (.int .i64 0)))⟩])
 (.block 0 (.loop (.seq (.seq (.ops [⟨(some 27), some undefA, none, false, .pu (.mov (.s 9))⟩,
     ⟨(some 28), some undefA, none, false, .pu (.mov (.s 2))⟩,
     ⟨(some 29), some undefA, none, false, .pu (.len (.s 28))⟩,
     ⟨(some 30), some undefA, none, false, .pu (.bin .lss (.s 27) (.s 29))⟩])
   (.cond (.s 30) (.skip)
   (.exit 0)))
   (.seq (.block 1 (.seq (.ops [⟨(some 33), some undefA, none, false, .pu (.mov (.s 2))⟩,
      ⟨(some 34), some undefA, none, false, .pu (.mov (.s 9))⟩,
      ⟨(some 35), some undefA, none, false, .pu (.idx 2 (.s 33) (.s 34))⟩,
      ⟨(some 36), some undefA, none, false, .ld (.ld 2 true (.s 35))⟩,
      ⟨(some 37), some undefA, none, false, .call 81 [(.s 36), (.c (.int .i64 1000000))]⟩,
      ⟨(some 38), some undefA, none, false, .pu (.not (.s 37))⟩,
      ⟨(some 39), some undefA, none, false, .pu (.mov (.s 38))⟩,
      ⟨(some 40), some undefA, (some (39, false)), false, .pu (.mov (.s 8))⟩,
      ⟨(some 41), some undefA, (some (39, false)), false, .pu (.mov (.s 2))⟩,
      ⟨(some 42), some undefA, (some (39, false)), false, .pu (.mov (.s 9))⟩,
      ⟨(some 43), some undefA, (some (39, false)), false, .pu (.idx 2 (.s 41) (.s 42))⟩,
      ⟨(some 44), some undefA, (some (39, false)), false, .ld (.ld 2 true (.s 43))⟩,
      ⟨(some 45), some undefA, (some (39, false)), false, .call 99 [(.s 40), (.s 44)]⟩,
      ⟨(some 46), some undefA, (some (39, false)), false, .pu (.not (.s 45))⟩,
      ⟨(some 47), some undefA, none, false, .pu (.pick (.s 39) (.c (.bool true)) (.s 46))⟩])
    (.cond (.s 47) (.seq (.ops [⟨(some 6), some undefA, none, false, .pu (.mov (.c (.int .i64 1)))⟩])
     (.ret))
    (.skip))))
   (.ops [⟨(some 31), some undefA, none, false, .pu (.mov (.s 9))⟩,
     ⟨(some 32), some undefA, none, false, .pu (.bin .add (.s 31) (.c (.int .i64 1)))⟩,
     ⟨(some 9), some undefA, none, false, .pu (.mov (.s 32))⟩]))))))
 (.seq (.ops [⟨(some 48), some undefA, none, false, .call 30 [(.c (.int .i64 0))]⟩,
   ⟨(some 10), some (.junk), none, false, .pu (.bnew (.c (.agg [.int .i64 0, .int .i64 0])))⟩,
   ⟨(some 10), none, none, false, .pu (.bset none 10 0 2 (.s 48))⟩])
 (.seq (.seq (.ops [⟨(some 11), some undefA, none, false, .pu (.mov (.c (.int .i64 0)))⟩])
 (.block 2 (.loop (.seq (.seq (.ops [⟨(some 49), some undefA, none, false, .pu (.mov (.s 11))⟩,
     ⟨(some 50), some undefA, none, false, .pu (.mov (.s 1))⟩,
     ⟨(some 51), some undefA, none, false, .pu (.len (.s 50))⟩,
     ⟨(some 52), some undefA, none, false, .pu (.bin .lss (.s 49) (.s 51))⟩])
   (.cond (.s 52) (.skip)
   (.exit 2)))
   (.seq (.block 3 (.seq (.ops [⟨(some 55), some undefA, none, false, .pu (.mov (.s 8))⟩,
      ⟨(some 56), some undefA, none, false, .pu (.len (.s 55))⟩,
      ⟨(some 57), some undefA, none, false, .call 30 [(.s 56)]⟩,
      ⟨(some 12), some (.junk), none, false, .pu (.bnew (.c (.agg [.int .i64 0, .int .i64 0])))⟩,
      ⟨(some 12), none, none, false, .pu (.bset none 12 0 2 (.s 57))⟩])
    (.seq (.seq (.ops [⟨(some 58), some undefA, none, false, .pu (.mov (.s 11))⟩,
      ⟨(some 59), some undefA, none, false, .pu (.mov (.s 2))⟩,
      ⟨(some 60), some undefA, none, false, .pu (.len (.s 59))⟩,
      ⟨(some 61), some undefA, none, false, .pu (.bin .lss (.s 58) (.s 60))⟩])
    (.cond (.s 61) (.ops [⟨(some 62), some undefA, none, false, .pu (.mov (.s 2))⟩,
       ⟨(some 63), some undefA, none, false, .pu (.mov (.s 11))⟩,
       ⟨(some 64), some undefA, none, false, .pu (.idx 2 (.s 62) (.s 63))⟩,
       ⟨(some 65), some undefA, none, false, .ld (.ld 2 true (.s 64))⟩,
       ⟨(some 12), none, none, false, .pu (.bset none 12 0 2 (.s 65))⟩])
    (.skip)))
    (.seq (.seq (.ops [⟨(some 66), some undefA, none, false, .pu (.bget none 12 0 2 true)⟩,
      ⟨(some 67), some undefA, none, false, .pu (.bget none 10 0 2 true)⟩,
      ⟨(some 68), some undefA, none, false, .call 24 [(.s 66), (.s 67)]⟩,
      ⟨(some 69), some undefA, none, false, .pu (.mov (.s 68))⟩,
      ⟨(some 70), some undefA, (some (69, false)), true, .pu (.mov (.s 8))⟩,
      ⟨(some 71), some undefA, (some (69, false)), true, .pu (.bget none 10 0 2 true)⟩,
      ⟨(some 72), some undefA, (some (69, false)), true, .pu (.bget none 12 0 2 true)⟩,
      ⟨(some 73), some undefA, (some (69, false)), true, .call 75 [(.s 70), (.s 71), (.s 72)]⟩,
      ⟨(some 74), some undefA, (some (69, false)), false, .pu (.mov (.s 1))⟩,
      ⟨(some 75), some undefA, (some (69, false)), false, .pu (.mov (.s 11))⟩,
      ⟨(some 76), some undefA, (some (69, false)), false, .pu (.idx 1 (.s 74) (.s 75))⟩,
      ⟨(some 77), some undefA, (some (69, false)), true, .ld (.ld 1 false (.s 76))⟩,
      ⟨(some 78), some undefA, (some (69, false)), false, .call 30 [(.s 77)]⟩,
      ⟨(some 79), some undefA, (some (69, false)), false, .pu (.eqs true [true, true] (.s 73) (.s 78))⟩,
      ⟨(some 80), some undefA, none, false, .pu (.pick (.s 69) (.c (.bool true)) (.s 79))⟩])
    (.cond (.s 80) (.seq (.ops [⟨(some 6), some undefA, none, false, .pu (.mov (.c (.int .i64 7)))⟩])
     (.ret))
    (.skip)))
    (.ops [⟨(some 81), some undefA, none, false, .pu (.bget none 12 0 2 true)⟩,
      ⟨(some 10), none, none, false, .pu (.bset none 10 0 2 (.s 81))⟩])))))
   (.ops [⟨(some 53), some undefA, none, false, .pu (.mov (.s 11))⟩,
     ⟨(some 54), some undefA, none, false, .pu (.bin .add (.s 53) (.c (.int .i64 1)))⟩,
     ⟨(some 11), some undefA, none, false, .pu (.mov (.s 54))⟩]))))))
 (.seq (.ops [⟨(some 6), some undefA, none, false, .pu (.mov (.c (.int .i64 0)))⟩])
 (.ret)))))))))⟩
theorem t60 : trF Try.prog [10, 12] [] Try.f60 = some m60 := by kernel_rfl

/-- selion/soil.both [] -/
def m82 : MFun := ⟨11, [], [.mov (.s 4)],
 .seq (.ops [⟨(some 4), some undefA, none, false, .pu (.mov (.c (.int .i64 0)))⟩])
 (.seq (.ops [⟨(some 5), some undefA, none, false, .pu (.mov (.s 0))⟩,
   ⟨(some 6), some undefA, none, false, .call 37 [(.s 5)]⟩,
   ⟨(some 7), some undefA, none, false, .pu (.mov (.s 1))⟩,
   ⟨(some 8), some undefA, none, false, .call 37 [(.s 7)]⟩,
   ⟨(some 9), some undefA, none, false, .ha (.blds 1 2 [.int .i64 0] [(0, 1, (.s 6)), (1, 1, (.s 8))])⟩,
   ⟨(some 10), some undefA, none, false, .call 113 [(.s 9)]⟩,
   ⟨(some 4), some undefA, none, false, .pu (.mov (.s 10))⟩])
 (.ret))⟩
theorem t82 : trF Try.prog [] [] Try.f82 = some m82 := by kernel_rfl

/-- selion/selionref02.two [] -/
def m84 : MFun := ⟨13, [], [.mov (.s 4)],
 .seq (.ops [⟨(some 4), some undefA, none, false, .pu (.mov (.c (.int .i64 0)))⟩])
 (.seq (.ops [⟨(some 6), some undefA, none, false, .pu (.mov (.s 0))⟩,
   ⟨(some 7), some undefA, none, false, .call 38 [(.s 6)]⟩,
   ⟨(some 5), some undefA, none, false, .pu (.mov (.s 7))⟩])
 (.seq (.seq (.ops [⟨(some 8), some undefA, none, false, .pu (.mov (.s 5))⟩,
   ⟨(some 9), some undefA, none, false, .pu (.bin .neq (.s 8) (.c (.int .i64 0)))⟩])
 (.cond (.s 9) (.seq (.ops [⟨(some 10), some undefA, none, false, .pu (.mov (.s 5))⟩,
    ⟨(some 4), some undefA, none, false, .pu (.mov (.s 10))⟩])
  (.ret))
 (.skip)))
 (.seq (.ops [⟨(some 11), some undefA, none, false, .pu (.mov (.s 1))⟩,
   ⟨(some 12), some undefA, none, false, .call 38 [(.s 11)]⟩,
   ⟨(some 4), some undefA, none, false, .pu (.mov (.s 12))⟩])
 (.ret))))⟩
theorem t84 : trF Try.prog [] [] Try.f84 = some m84 := by kernel_rfl

/-- slices.Equal[[]int,int] [loop [0, 1, 12, 13]] -/
def m85 : MFun := ⟨26, [], [.mov (.s 4)],
 .seq (.ops [⟨(some 4), some undefA, none, false, .pu (.mov (.c (.bool false)))⟩])
 (.seq (.seq (.ops [⟨(some 6), some undefA, none, false, .pu (.mov (.s 0))⟩,
   ⟨(some 7), some undefA, none, false, .pu (.len (.s 6))⟩,
   ⟨(some 8), some undefA, none, false, .pu (.mov (.s 1))⟩,
   ⟨(some 9), some undefA, none, false, .pu (.len (.s 8))⟩,
   ⟨(some 10), some undefA, none, false, .pu (.bin .neq (.s 7) (.s 9))⟩])
 (.cond (.s 10) (.seq (.ops [⟨(some 4), some undefA, none, false, .pu (.mov (.c (.bool false)))⟩])
  (.ret))
 (.skip)))
 (.seq (.seq (.ops [⟨(some 11), some undefA, none, false, .pu (.mov (.s 0))⟩,
   ⟨(some 12), some undefA, none, false, .pu (.len (.s 11))⟩,
   ⟨(some 13), some undefA, none, false, .pu (.mov (.c (.int .i64 0)))⟩])
 (.block 0 (.loop (.seq (.ops [⟨(some 14), some undefA, none, false, .pu (.bin .lss (.s 13) (.s 12))⟩])
   (.seq (.cond (.s 14) (.skip)
   (.exit 0))
   (.seq (.block 1 (.seq (.ops [⟨(some 15), some undefA, none, false, .pu (.mov (.s 13))⟩,
      ⟨(some 5), some undefA, none, false, .pu (.mov (.s 15))⟩])
    (.seq (.ops [⟨(some 16), some undefA, none, true, .pu (.mov (.s 0))⟩,
      ⟨(some 17), some undefA, none, true, .pu (.mov (.s 5))⟩,
      ⟨(some 18), some undefA, none, true, .pu (.idx 1 (.s 16) (.s 17))⟩,
      ⟨(some 19), some undefA, none, true, .ld (.ld 1 false (.s 18))⟩,
      ⟨(some 20), some undefA, none, true, .pu (.mov (.s 1))⟩,
      ⟨(some 21), some undefA, none, true, .pu (.mov (.s 5))⟩,
      ⟨(some 22), some undefA, none, true, .pu (.idx 1 (.s 20) (.s 21))⟩,
      ⟨(some 23), some undefA, none, true, .ld (.ld 1 false (.s 22))⟩,
      ⟨(some 24), some undefA, none, false, .pu (.bin .neq (.s 19) (.s 23))⟩])
    (.cond (.s 24) (.seq (.ops [⟨(some 4), some undefA, none, false, .pu (.mov (.c (.bool false)))⟩])
     (.ret))
    (.skip)))))
   (.ops [⟨(some 25), some undefA, none, false, .pu (.bin .add (.s 13) (.c (.int .i64 1)))⟩,
     ⟨(some 13), some undefA, none, false, .pu (.mov (.s 25))⟩])))))))
 (.seq (.ops [⟨(some 4), some undefA, none, false, .pu (.mov (.c (.bool true)))⟩])
 (.ret))))⟩
theorem t85 : trF Try.prog [] [] Try.f85 = some m85 := by kernel_rfl

/-- selion/selionref02.SameInts [loop [0, 1, 5]] -/
def m86 : MFun := ⟨26, [], [.mov (.s 4)],
 .seq (.ops [⟨(some 4), some undefA, none, false, .pu (.mov (.c (.bool false)))⟩])
 (.seq (.seq (.ops [⟨(some 6), some undefA, none, false, .pu (.mov (.s 0))⟩,
   ⟨(some 7), some undefA, none, false, .pu (.len (.s 6))⟩,
   ⟨(some 8), some undefA, none, false, .pu (.mov (.s 1))⟩,
   ⟨(some 9), some undefA, none, false, .pu (.len (.s 8))⟩,
   ⟨(some 10), some undefA, none, false, .pu (.bin .neq (.s 7) (.s 9))⟩])
 (.cond (.s 10) (.seq (.ops [⟨(some 4), some undefA, none, false, .pu (.mov (.c (.bool false)))⟩])
  (.ret))
 (.skip)))
 (.seq (.seq (.ops [⟨(some 5), some undefA, none, false, .pu (.mov (.c (.int .i64 0)))⟩])
 (.block 0 (.loop (.seq (.seq (.ops [⟨(some 11), some undefA, none, false, .pu (.mov (.s 5))⟩,
     ⟨(some 12), some undefA, none, false, .pu (.mov (.s 0))⟩,
     ⟨(some 13), some undefA, none, false, .pu (.len (.s 12))⟩,
     ⟨(some 14), some undefA, none, false, .pu (.bin .lss (.s 11) (.s 13))⟩])
   (.cond (.s 14) (.skip)
   (.exit 0)))
   (.seq (.block 1 (.seq (.ops [⟨(some 17), some undefA, none, true, .pu (.mov (.s 0))⟩,
      ⟨(some 18), some undefA, none, true, .pu (.mov (.s 5))⟩,
      ⟨(some 19), some undefA, none, true, .pu (.idx 1 (.s 17) (.s 18))⟩,
      ⟨(some 20), some undefA, none, true, .ld (.ld 1 false (.s 19))⟩,
      ⟨(some 21), some undefA, none, true, .pu (.mov (.s 1))⟩,
      ⟨(some 22), some undefA, none, true, .pu (.mov (.s 5))⟩,
      ⟨(some 23), some undefA, none, true, .pu (.idx 1 (.s 21) (.s 22))⟩,
      ⟨(some 24), some undefA, none, true, .ld (.ld 1 false (.s 23))⟩,
      ⟨(some 25), some undefA, none, false, .pu (.bin .neq (.s 20) (.s 24))⟩])
    (.cond (.s 25) (.seq (.ops [⟨(some 4), some undefA, none, false, .pu (.mov (.c (.bool false)))⟩])
     (.ret))
    (.skip))))
   (.ops [⟨(some 15), some undefA, none, false, .pu (.mov (.s 5))⟩,
     ⟨(some 16), some undefA, none, false, .pu (.bin .add (.s 15) (.c (.int .i64 1)))⟩,
     ⟨(some 5), some undefA, none, false, .pu (.mov (.s 16))⟩]))))))
 (.seq (.ops [⟨(some 4), some undefA, none, false, .pu (.mov (.c (.bool true)))⟩])
 (.ret))))⟩
theorem t86 : trF Try.prog [] [] Try.f86 = some m86 := by kernel_rfl

/-- selion/soil.areParts [loop [0, 6, 18, 19, 20]] -/
def m87 : MFun := ⟨35, [], [.mov (.s 4)],
 .seq (.ops [⟨(some 4), some undefA, none, false, .pu (.mov (.c (.int .i64 0)))⟩])
 (.seq (.seq (.ops [⟨(some 9), some undefA, none, false, .pu (.mov (.s 0))⟩,
   ⟨(some 10), some undefA, none, false, .call 37 [(.s 9)]⟩,
   ⟨(some 5), some undefA, none, false, .pu (.mov (.s 10))⟩])
 (.seq (.ops [⟨(some 11), some undefA, none, false, .pu (.mov (.s 5))⟩,
   ⟨(some 12), some undefA, none, false, .pu (.bin .neq (.s 11) (.c (.int .i64 0)))⟩])
 (.cond (.s 12) (.seq (.ops [⟨(some 13), some undefA, none, false, .pu (.mov (.s 5))⟩,
    ⟨(some 4), some undefA, none, false, .pu (.mov (.s 13))⟩])
  (.ret))
 (.skip))))
 (.seq (.seq (.ops [⟨(some 14), some undefA, none, false, .pu (.mov (.s 1))⟩,
   ⟨(some 15), some undefA, none, false, .pu (.len (.s 14))⟩,
   ⟨(some 16), some undefA, none, false, .call 61 [(.s 15), (.c (.int .i64 1)), (.c (.int .i64 8))]⟩,
   ⟨(some 17), some undefA, none, false, .pu (.not (.s 16))⟩])
 (.cond (.s 17) (.seq (.ops [⟨(some 4), some undefA, none, false, .pu (.mov (.c (.int .i64 3)))⟩])
  (.ret))
 (.skip)))
 (.seq (.ops [⟨(some 6), some undefA, none, false, .pu (.mov (.c (.int .i64 0)))⟩])
 (.seq (.seq (.ops [⟨(some 18), some undefA, none, false, .pu (.mov (.s 1))⟩,
   ⟨(some 19), some undefA, none, false, .pu (.len (.s 18))⟩,
   ⟨(some 20), some undefA, none, false, .pu (.mov (.c (.int .i64 0)))⟩])
 (.block 0 (.loop (.seq (.ops [⟨(some 21), some undefA, none, false, .pu (.bin .lss (.s 20) (.s 19))⟩])
   (.seq (.cond (.s 21) (.skip)
   (.exit 0))
   (.seq (.block 1 (.seq (.ops [⟨(some 22), some undefA, none, false, .pu (.idx 1 (.s 18) (.s 20))⟩,
      ⟨(some 23), some undefA, none, false, .ld (.ld 1 false (.s 22))⟩,
      ⟨(some 8), some undefA, none, false, .pu (.mov (.s 23))⟩])
    (.seq (.seq (.ops [⟨(some 24), some undefA, none, false, .pu (.mov (.s 8))⟩,
      ⟨(some 25), some undefA, none, false, .call 61 [(.s 24), (.c (.int .i64 0)), (.c (.int .i64 10000))]⟩,
      ⟨(some 26), some undefA, none, false, .pu (.not (.s 25))⟩])
    (.cond (.s 26) (.seq (.ops [⟨(some 4), some undefA, none, false, .pu (.mov (.c (.int .i64 1)))⟩])
     (.ret))
    (.skip)))
    (.ops [⟨(some 27), some undefA, none, false, .pu (.mov (.s 6))⟩,
      ⟨(some 28), some undefA, none, false, .pu (.mov (.s 8))⟩,
      ⟨(some 29), some undefA, none, false, .pu (.bin .add (.s 27) (.s 28))⟩,
      ⟨(some 6), some undefA, none, false, .pu (.mov (.s 29))⟩]))))
   (.ops [⟨(some 30), some undefA, none, false, .pu (.bin .add (.s 20) (.c (.int .i64 1)))⟩,
     ⟨(some 20), some undefA, none, false, .pu (.mov (.s 30))⟩])))))))
 (.seq (.seq (.ops [⟨(some 31), some undefA, none, false, .pu (.mov (.s 6))⟩,
   ⟨(some 32), some undefA, none, false, .pu (.mov (.s 0))⟩,
   ⟨(some 33), some undefA, none, false, .call 65 [(.s 32)]⟩,
   ⟨(some 34), some undefA, none, false, .pu (.bin .neq (.s 31) (.s 33))⟩])
 (.cond (.s 34) (.seq (.ops [⟨(some 4), some undefA, none, false, .pu (.mov (.c (.int .i64 5)))⟩])
  (.ret))
 (.skip)))
 (.seq (.ops [⟨(some 4), some undefA, none, false, .pu (.mov (.c (.int .i64 0)))⟩])
 (.ret)))))))⟩
theorem t87 : trF Try.prog [] [] Try.f87 = some m87 := by kernel_rfl

/-- slices.ContainsFunc[[]selion/api.Rat,selion/api.Rat] [] -/
def m88 : MFun := ⟨9, [], [.mov (.s 4)],
 .seq (.ops [⟨(some 4), some undefA, none, false, .pu (.mov (.c (.bool false)))⟩])
 (.seq (.ops [⟨(some 5), some undefA, none, false, .pu (.mov (.s 0))⟩,
   ⟨(some 6), some undefA, none, false, .pu (.mov (.s 1))⟩,
   ⟨(some 7), some undefA, none, false, .call 115 [(.s 5), (.s 6)]⟩,
   ⟨(some 8), some undefA, none, false, .pu (.bin .geq (.s 7) (.c (.int .i64 0)))⟩,
   ⟨(some 4), some undefA, none, false, .pu (.mov (.s 8))⟩])
 (.ret))⟩
theorem t88 : trF Try.prog [] [] Try.f88 = some m88 := by kernel_rfl

/-- selion/soil.CheckCut$1 [] -/
def m89 : MFun := ⟨8, [2], [.mov (.s 3)],
 .seq (.ops [⟨(some 2), some (.junk), none, false, .pu (.bnew (.s 0))⟩,
   ⟨(some 3), some undefA, none, false, .pu (.mov (.c (.bool false)))⟩])
 (.seq (.ops [⟨(some 4), some undefA, none, false, .ld (.ld 1 false (.s 1))⟩,
   ⟨(some 5), some undefA, none, false, .pu (.bget none 2 0 2 true)⟩,
   ⟨(some 6), some undefA, none, false, .call 71 [(.s 4), (.s 5), (.c (.int .i64 1000000))]⟩,
   ⟨(some 7), some undefA, none, false, .pu (.not (.s 6))⟩,
   ⟨(some 3), some undefA, none, false, .pu (.mov (.s 7))⟩])
 (.ret))⟩
theorem t89 : trF Try.prog [2] [] Try.f89 = some m89 := by kernel_rfl

/-- slices.Clone[[]selion/api.Rat,selion/api.Rat] [] -/
def m90 : MFun := ⟨8, [], [.mov (.s 2)],
 .seq (.ops [⟨(some 2), some undefA, none, false, .pu (.mov (.c (.nilS)))⟩])
 (.seq (.seq (.ops [⟨(some 3), some undefA, none, false, .pu (.mov (.s 0))⟩,
   ⟨(some 4), some undefA, none, false, .pu (.isnil false (.s 3))⟩])
 (.cond (.s 4) (.seq (.ops [⟨(some 2), some undefA, none, false, .pu (.mov (.c (.nilS)))⟩])
  (.ret))
 (.skip)))
 (.seq (.ops [⟨(some 5), some undefA, none, false, .ha (.blds 2 0 [.int .i64 0, .int .i64 0] [])⟩,
   ⟨(some 6), some undefA, none, false, .pu (.mov (.s 0))⟩,
   ⟨(some 7), some undefA, none, false, .ha (.app 2 (.s 5) (.s 6))⟩,
   ⟨(some 2), some undefA, none, false, .pu (.mov (.s 7))⟩])
 (.ret)))⟩
theorem t90 : trF Try.prog [] [] Try.f90 = some m90 := by kernel_rfl

/-- selion/soil.ordered[selion/api.Rat] [loop [0, 1, 5]] -/
def m91 : MFun := ⟨24, [], [.mov (.s 4)],
 .seq (.ops [⟨(some 4), some undefA, none, false, .pu (.mov (.c (.bool false)))⟩])
 (.seq (.seq (.ops [⟨(some 5), some undefA, none, false, .pu (.mov (.c (.int .i64 1)))⟩])
 (.block 0 (.loop (.seq (.seq (.ops [⟨(some 6), some undefA, none, false, .pu (.mov (.s 5))⟩,
     ⟨(some 7), some undefA, none, false, .pu (.mov (.s 0))⟩,
     ⟨(some 8), some undefA, none, false, .pu (.len (.s 7))⟩,
     ⟨(some 9), some undefA, none, false, .pu (.bin .lss (.s 6) (.s 8))⟩])
   (.cond (.s 9) (.skip)
   (.exit 0)))
   (.seq (.block 1 (.seq (.ops [⟨(some 12), some undefA, none, true, .pu (.mov (.s 1))⟩,
      ⟨(some 13), some undefA, none, true, .pu (.mov (.s 0))⟩,
      ⟨(some 14), some undefA, none, true, .pu (.mov (.s 5))⟩,
      ⟨(some 15), some undefA, none, true, .pu (.bin .sub (.s 14) (.c (.int .i64 1)))⟩,
      ⟨(some 16), some undefA, none, true, .pu (.idx 2 (.s 13) (.s 15))⟩,
      ⟨(some 17), some undefA, none, true, .ld (.ld 2 true (.s 16))⟩,
      ⟨(some 18), some undefA, none, true, .pu (.mov (.s 0))⟩,
      ⟨(some 19), some undefA, none, true, .pu (.mov (.s 5))⟩,
      ⟨(some 20), some undefA, none, true, .pu (.idx 2 (.s 18) (.s 19))⟩,
      ⟨(some 21), some undefA, none, true, .ld (.ld 2 true (.s 20))⟩,
      ⟨(some 22), some undefA, none, false, .callv (.s 12) [(.s 17), (.s 21)]⟩,
      ⟨(some 23), some undefA, none, false, .pu (.bin .gtr (.s 22) (.c (.int .i64 0)))⟩])
    (.cond (.s 23) (.seq (.ops [⟨(some 4), some undefA, none, false, .pu (.mov (.c (.bool false)))⟩])
     (.ret))
    (.skip))))
   (.ops [⟨(some 10), some undefA, none, false, .pu (.mov (.s 5))⟩,
     ⟨(some 11), some undefA, none, false, .pu (.bin .add (.s 10) (.c (.int .i64 1)))⟩,
     ⟨(some 5), some undefA, none, false, .pu (.mov (.s 11))⟩]))))))
 (.seq (.ops [⟨(some 4), some undefA, none, false, .pu (.mov (.c (.bool true)))⟩])
 (.ret)))⟩
theorem t91 : trF Try.prog [] [] Try.f91 = some m91 := by kernel_rfl

/-- slices.Clone[[]selion/api.Zone,selion/api.Zone] [] -/
def m92 : MFun := ⟨8, [], [.mov (.s 2)],
 .seq (.ops [⟨(some 2), some undefA, none, false, .pu (.mov (.c (.nilS)))⟩])
 (.seq (.seq (.ops [⟨(some 3), some undefA, none, false, .pu (.mov (.s 0))⟩,
   ⟨(some 4), some undefA, none, false, .pu (.isnil false (.s 3))⟩])
 (.cond (.s 4) (.seq (.ops [⟨(some 2), some undefA, none, false, .pu (.mov (.c (.nilS)))⟩])
  (.ret))
 (.skip)))
 (.seq (.ops [⟨(some 5), some undefA, none, false, .ha (.blds 2 0 [.int .i64 0, .int .i64 0] [])⟩,
   ⟨(some 6), some undefA, none, false, .pu (.mov (.s 0))⟩,
   ⟨(some 7), some undefA, none, false, .ha (.app 2 (.s 5) (.s 6))⟩,
   ⟨(some 2), some undefA, none, false, .pu (.mov (.s 7))⟩])
 (.ret)))⟩
theorem t92 : trF Try.prog [] [] Try.f92 = some m92 := by kernel_rfl

/-- slices.Reverse[[]selion/api.Zone,selion/api.Zone] [loop [0, 2, 3]] -/
def m93 : MFun := ⟨28, [], [],
 .seq (.ops [⟨(some 4), some undefA, none, false, .pu (.mov (.s 0))⟩,
   ⟨(some 5), some undefA, none, false, .pu (.len (.s 4))⟩,
   ⟨(some 6), some undefA, none, false, .pu (.bin .sub (.s 5) (.c (.int .i64 1)))⟩,
   ⟨(some 2), some undefA, none, false, .pu (.mov (.c (.int .i64 0)))⟩,
   ⟨(some 3), some undefA, none, false, .pu (.mov (.s 6))⟩])
 (.block 0 (.loop (.seq (.seq (.ops [⟨(some 7), some undefA, none, false, .pu (.mov (.s 2))⟩,
     ⟨(some 8), some undefA, none, false, .pu (.mov (.s 3))⟩,
     ⟨(some 9), some undefA, none, false, .pu (.bin .lss (.s 7) (.s 8))⟩])
   (.cond (.s 9) (.skip)
   (.exit 0)))
   (.seq (.block 1 (.ops [⟨(some 14), some undefA, none, true, .pu (.mov (.s 0))⟩,
      ⟨(some 15), some undefA, none, true, .pu (.mov (.s 2))⟩,
      ⟨(some 16), some undefA, none, true, .pu (.mov (.s 0))⟩,
      ⟨(some 17), some undefA, none, true, .pu (.mov (.s 3))⟩,
      ⟨(some 18), some undefA, none, true, .pu (.mov (.s 0))⟩,
      ⟨(some 19), some undefA, none, true, .pu (.mov (.s 3))⟩,
      ⟨(some 20), some undefA, none, true, .pu (.idx 2 (.s 18) (.s 19))⟩,
      ⟨(some 21), some undefA, none, true, .ld (.ld 2 true (.s 20))⟩,
      ⟨(some 22), some undefA, none, true, .pu (.mov (.s 0))⟩,
      ⟨(some 23), some undefA, none, true, .pu (.mov (.s 2))⟩,
      ⟨(some 24), some undefA, none, true, .pu (.idx 2 (.s 22) (.s 23))⟩,
      ⟨(some 25), some undefA, none, true, .ld (.ld 2 true (.s 24))⟩,
      ⟨(some 26), some undefA, none, false, .pu (.idx 2 (.s 14) (.s 15))⟩,
      ⟨none, some undefA, none, false, .ha (.st 2 (.s 26) (.s 21))⟩,
      ⟨(some 27), some undefA, none, false, .pu (.idx 2 (.s 16) (.s 17))⟩,
      ⟨none, some undefA, none, false, .ha (.st 2 (.s 27) (.s 25))⟩]))
   (.ops [⟨(some 10), some undefA, none, false, .pu (.mov (.s 2))⟩,
     ⟨(some 11), some undefA, none, false, .pu (.bin .add (.s 10) (.c (.int .i64 1)))⟩,
     ⟨(some 12), some undefA, none, false, .pu (.mov (.s 3))⟩,
     ⟨(some 13), some undefA, none, false, .pu (.bin .sub (.s 12) (.c (.int .i64 1)))⟩,
     ⟨(some 2), some undefA, none, false, .pu (.mov (.s 11))⟩,
     ⟨(some 3), some undefA, none, false, .pu (.mov (.s 13))⟩])))))⟩
theorem t93 : trF Try.prog [] [] Try.f93 = some m93 := by kernel_rfl

/-- slices.Concat[[]selion/api.Zone,selion/api.Zone] [loop [0, 3, 9, 10, 11], loop [6, 25, 26, 27]] -/
def m94 : MFun := ⟨36, [], [.mov (.s 2)],
 .seq (.ops [⟨(some 2), some undefA, none, false, .pu (.mov (.c (.nilS)))⟩])
 (.seq (.ops [⟨(some 3), some undefA, none, false, .pu (.mov (.c (.int .i64 0)))⟩])
 (.seq (.seq (.ops [⟨(some 9), some undefA, none, false, .pu (.mov (.s 0))⟩,
   ⟨(some 10), some undefA, none, false, .pu (.len (.s 9))⟩,
   ⟨(some 11), some undefA, none, false, .pu (.mov (.c (.int .i64 0)))⟩])
 (.block 0 (.loop (.seq (.ops [⟨(some 12), some undefA, none, false, .pu (.bin .lss (.s 11) (.s 10))⟩])
   (.seq (.cond (.s 12) (.skip)
   (.exit 0))
   (.seq (.block 1 (.seq (.ops [⟨(some 13), some undefA, none, false, .pu (.idx 1 (.s 9) (.s 11))⟩,
      ⟨(some 14), some undefA, none, false, .ld (.ld 1 false (.s 13))⟩,
      ⟨(some 5), some undefA, none, false, .pu (.mov (.s 14))⟩])
    (.seq (.ops [⟨(some 15), some undefA, none, false, .pu (.mov (.s 3))⟩,
      ⟨(some 16), some undefA, none, false, .pu (.mov (.s 5))⟩,
      ⟨(some 17), some undefA, none, false, .pu (.len (.s 16))⟩,
      ⟨(some 18), some undefA, none, false, .pu (.bin .add (.s 15) (.s 17))⟩,
      ⟨(some 3), some undefA, none, false, .pu (.mov (.s 18))⟩])
    (.seq (.ops [⟨(some 19), some undefA, none, false, .pu (.mov (.s 3))⟩,
      ⟨(some 20), some undefA, none, false, .pu (.bin .lss (.s 19) (.c (.int .i64 0)))⟩])
    (.cond (.s 20) (.ops [⟨(some 21), some undefA, none, false, .pu (.fail)⟩,
       ⟨none, some undefA, none, false, .pu (.fail)⟩])
    (.skip))))))
   (.ops [⟨(some 22), some undefA, none, false, .pu (.bin .add (.s 11) (.c (.int .i64 1)))⟩,
     ⟨(some 11), some undefA, none, false, .pu (.mov (.s 22))⟩])))))))
 (.seq (.ops [⟨(some 23), some undefA, none, false, .pu (.mov (.s 3))⟩,
   ⟨(some 24), some undefA, none, false, .call 116 [(.c (.nilS)), (.s 23)]⟩,
   ⟨(some 6), some undefA, none, false, .pu (.mov (.s 24))⟩])
 (.seq (.seq (.ops [⟨(some 25), some undefA, none, false, .pu (.mov (.s 0))⟩,
   ⟨(some 26), some undefA, none, false, .pu (.len (.s 25))⟩,
   ⟨(some 27), some undefA, none, false, .pu (.mov (.c (.int .i64 0)))⟩])
 (.block 2 (.loop (.seq (.ops [⟨(some 28), some undefA, none, false, .pu (.bin .lss (.s 27) (.s 26))⟩])
   (.seq (.cond (.s 28) (.skip)
   (.exit 2))
   (.seq (.block 3 (.seq (.ops [⟨(some 29), some undefA, none, false, .pu (.idx 1 (.s 25) (.s 27))⟩,
      ⟨(some 30), some undefA, none, false, .ld (.ld 1 false (.s 29))⟩,
      ⟨(some 8), some undefA, none, false, .pu (.mov (.s 30))⟩])
    (.ops [⟨(some 31), some undefA, none, false, .pu (.mov (.s 6))⟩,
      ⟨(some 32), some undefA, none, false, .pu (.mov (.s 8))⟩,
      ⟨(some 33), some undefA, none, false, .ha (.app 2 (.s 31) (.s 32))⟩,
      ⟨(some 6), some undefA, none, false, .pu (.mov (.s 33))⟩])))
   (.ops [⟨(some 34), some undefA, none, false, .pu (.bin .add (.s 27) (.c (.int .i64 1)))⟩,
     ⟨(some 27), some undefA, none, false, .pu (.mov (.s 34))⟩])))))))
 (.seq (.ops [⟨(some 35), some undefA, none, false, .pu (.mov (.s 6))⟩,
   ⟨(some 2), some undefA, none, false, .pu (.mov (.s 35))⟩])
 (.ret))))))⟩
theorem t94 : trF Try.prog [] [] Try.f94 = some m94 := by kernel_rfl

/-- slices.ContainsFunc[[]selion/api.Zone,selion/api.Zone] [] -/
def m95 : MFun := ⟨9, [], [.mov (.s 4)],
 .seq (.ops [⟨(some 4), some undefA, none, false, .pu (.mov (.c (.bool false)))⟩])
 (.seq (.ops [⟨(some 5), some undefA, none, false, .pu (.mov (.s 0))⟩,
   ⟨(some 6), some undefA, none, false, .pu (.mov (.s 1))⟩,
   ⟨(some 7), some undefA, none, false, .call 117 [(.s 5), (.s 6)]⟩,
   ⟨(some 8), some undefA, none, false, .pu (.bin .geq (.s 7) (.c (.int .i64 0)))⟩,
   ⟨(some 4), some undefA, none, false, .pu (.mov (.s 8))⟩])
 (.ret))⟩
theorem t95 : trF Try.prog [] [] Try.f95 = some m95 := by kernel_rfl

/-- selion/soil.Sum$1 [] -/
def m96 : MFun := ⟨6, [1], [.mov (.s 2)],
 .seq (.ops [⟨(some 1), some (.junk), none, false, .pu (.bnew (.s 0))⟩,
   ⟨(some 2), some undefA, none, false, .pu (.mov (.c (.bool false)))⟩])
 (.seq (.ops [⟨(some 3), some undefA, none, false, .pu (.badr none 1)⟩,
   ⟨(some 4), some undefA, none, false, .pu (.bget (some 3) 1 1 1 false)⟩,
   ⟨(some 5), some undefA, none, false, .pu (.bin .gtr (.s 4) (.c (.int .i64 20)))⟩,
   ⟨(some 2), some undefA, none, false, .pu (.mov (.s 5))⟩])
 (.ret))⟩
theorem t96 : trF Try.prog [1] [] Try.f96 = some m96 := by kernel_rfl

/-- selion/selionref02.borders [loop [0, 3, 4], loop [0, 3, 4, 5]] -/
def m97 : MFun := ⟨27, [], [.mov (.s 2)],
 .seq (.ops [⟨(some 2), some undefA, none, false, .pu (.mov (.c (.nilS)))⟩])
 (.seq (.ops [⟨(some 3), some undefA, none, false, .pu (.mov (.c (.nilS)))⟩])
 (.seq (.seq (.ops [⟨(some 4), some undefA, none, false, .pu (.mov (.c (.int .i64 0)))⟩])
 (.block 0 (.loop (.seq (.seq (.ops [⟨(some 6), some undefA, none, false, .pu (.mov (.s 4))⟩,
     ⟨(some 7), some undefA, none, false, .pu (.mov (.s 0))⟩,
     ⟨(some 8), some undefA, none, false, .pu (.len (.s 7))⟩,
     ⟨(some 9), some undefA, none, false, .pu (.bin .lss (.s 6) (.s 8))⟩])
   (.cond (.s 9) (.skip)
   (.exit 0)))
   (.seq (.block 1 (.seq (.ops [⟨(some 5), some undefA, none, false, .pu (.mov (.c (.int .i64 0)))⟩])
    (.block 2 (.loop (.seq (.seq (.ops [⟨(some 12), some undefA, none, false, .pu (.mov (.s 5))⟩,
        ⟨(some 13), some undefA, none, false, .pu (.mov (.s 0))⟩,
        ⟨(some 14), some undefA, none, false, .pu (.mov (.s 4))⟩,
        ⟨(some 15), some undefA, none, false, .pu (.idx 2 (.s 13) (.s 14))⟩,
        ⟨(some 16), some undefA, none, false, .pu (.fad 0 (.s 15))⟩,
        ⟨(some 17), some undefA, none, false, .ld (.ld 1 false (.s 16))⟩,
        ⟨(some 18), some undefA, none, false, .pu (.bin .lss (.s 12) (.s 17))⟩])
      (.cond (.s 18) (.skip)
      (.exit 2)))
      (.seq (.block 3 (.ops [⟨(some 21), some undefA, none, false, .pu (.mov (.s 3))⟩,
         ⟨(some 22), some undefA, none, false, .pu (.mov (.s 5))⟩,
         ⟨(some 23), some undefA, none, false, .pu (.bin .eql (.s 22) (.c (.int .i64 0)))⟩,
         ⟨(some 24), some undefA, none, false, .ha (.blds 1 1 [.bool false] [(0, 1, (.s 23))])⟩,
         ⟨(some 25), some undefA, none, false, .ha (.app 1 (.s 21) (.s 24))⟩,
         ⟨(some 3), some undefA, none, false, .pu (.mov (.s 25))⟩]))
      (.ops [⟨(some 19), some undefA, none, false, .pu (.mov (.s 5))⟩,
        ⟨(some 20), some undefA, none, false, .pu (.bin .add (.s 19) (.c (.int .i64 1)))⟩,
        ⟨(some 5), some undefA, none, false, .pu (.mov (.s 20))⟩])))))))
   (.ops [⟨(some 10), some undefA, none, false, .pu (.mov (.s 4))⟩,
     ⟨(some 11), some undefA, none, false, .pu (.bin .add (.s 10) (.c (.int .i64 1)))⟩,
     ⟨(some 4), some undefA, none, false, .pu (.mov (.s 11))⟩]))))))
 (.seq (.ops [⟨(some 26), some undefA, none, false, .pu (.mov (.s 3))⟩,
   ⟨(some 2), some undefA, none, false, .pu (.mov (.s 26))⟩])
 (.ret))))⟩
theorem t97 : trF Try.prog [] [] Try.f97 = some m97 := by kernel_rfl

/-- selion/selionref02.parted [loop [0, 1, 6, 7]] -/
def m98 : MFun := ⟨39, [], [.mov (.s 4)],
 .seq (.ops [⟨(some 4), some undefA, none, false, .pu (.mov (.c (.int .i64 0)))⟩])
 (.seq (.ops [⟨(some 8), some undefA, none, false, .pu (.mov (.s 0))⟩,
   ⟨(some 9), some undefA, none, false, .call 38 [(.s 8)]⟩,
   ⟨(some 5), some undefA, none, false, .pu (.mov (.s 9))⟩])
 (.seq (.seq (.ops [⟨(some 10), some undefA, none, false, .pu (.mov (.s 5))⟩,
   ⟨(some 11), some undefA, none, false, .pu (.bin .neq (.s 10) (.c (.int .i64 0)))⟩])
 (.cond (.s 11) (.seq (.ops [⟨(some 12), some undefA, none, false, .pu (.mov (.s 5))⟩,
    ⟨(some 4), some undefA, none, false, .pu (.mov (.s 12))⟩])
  (.ret))
 (.skip)))
 (.seq (.seq (.ops [⟨(some 13), some undefA, none, false, .pu (.mov (.s 1))⟩,
   ⟨(some 14), some undefA, none, false, .pu (.len (.s 13))⟩,
   ⟨(some 15), some undefA, none, false, .call 66 [(.s 14), (.c (.int .i64 1)), (.c (.int .i64 8))]⟩,
   ⟨(some 16), some undefA, none, false, .pu (.not (.s 15))⟩])
 (.cond (.s 16) (.seq (.ops [⟨(some 4), some undefA, none, false, .pu (.mov (.c (.int .i64 3)))⟩])
  (.ret))
 (.skip)))
 (.seq (.ops [⟨(some 6), some undefA, none, false, .pu (.mov (.c (.int .i64 0)))⟩])
 (.seq (.seq (.ops [⟨(some 7), some undefA, none, false, .pu (.mov (.c (.int .i64 0)))⟩])
 (.block 0 (.loop (.seq (.seq (.ops [⟨(some 17), some undefA, none, false, .pu (.mov (.s 7))⟩,
     ⟨(some 18), some undefA, none, false, .pu (.mov (.s 1))⟩,
     ⟨(some 19), some undefA, none, false, .pu (.len (.s 18))⟩,
     ⟨(some 20), some undefA, none, false, .pu (.bin .lss (.s 17) (.s 19))⟩])
   (.cond (.s 20) (.skip)
   (.exit 0)))
   (.seq (.block 1 (.seq (.seq (.ops [⟨(some 23), some undefA, none, false, .pu (.mov (.s 1))⟩,
      ⟨(some 24), some undefA, none, false, .pu (.mov (.s 7))⟩,
      ⟨(some 25), some undefA, none, false, .pu (.idx 1 (.s 23) (.s 24))⟩,
      ⟨(some 26), some undefA, none, false, .ld (.ld 1 false (.s 25))⟩,
      ⟨(some 27), some undefA, none, false, .call 66 [(.s 26), (.c (.int .i64 0)), (.c (.int .i64 10000))]⟩,
      ⟨(some 28), some undefA, none, false, .pu (.not (.s 27))⟩])
    (.cond (.s 28) (.seq (.ops [⟨(some 4), some undefA, none, false, .pu (.mov (.c (.int .i64 1)))⟩])
     (.ret))
    (.skip)))
    (.ops [⟨(some 29), some undefA, none, false, .pu (.mov (.s 6))⟩,
      ⟨(some 30), some undefA, none, false, .pu (.mov (.s 1))⟩,
      ⟨(some 31), some undefA, none, false, .pu (.mov (.s 7))⟩,
      ⟨(some 32), some undefA, none, false, .pu (.idx 1 (.s 30) (.s 31))⟩,
      ⟨(some 33), some undefA, none, false, .ld (.ld 1 false (.s 32))⟩,
      ⟨(some 34), some undefA, none, false, .pu (.bin .add (.s 29) (.s 33))⟩,
      ⟨(some 6), some undefA, none, false, .pu (.mov (.s 34))⟩])))
   (.ops [⟨(some 21), some undefA, none, false, .pu (.mov (.s 7))⟩,
     ⟨(some 22), some undefA, none, false, .pu (.bin .add (.s 21) (.c (.int .i64 1)))⟩,
     ⟨(some 7), some undefA, none, false, .pu (.mov (.s 22))⟩]))))))
 (.seq (.seq (.ops [⟨(some 35), some undefA, none, false, .pu (.mov (.s 6))⟩,
   ⟨(some 36), some undefA, none, false, .pu (.mov (.s 0))⟩,
   ⟨(some 37), some undefA, none, false, .call 70 [(.s 36)]⟩,
   ⟨(some 38), some undefA, none, false, .pu (.bin .neq (.s 35) (.s 37))⟩])
 (.cond (.s 38) (.seq (.ops [⟨(some 4), some undefA, none, false, .pu (.mov (.c (.int .i64 5)))⟩])
  (.ret))
 (.skip)))
 (.seq (.ops [⟨(some 4), some undefA, none, false, .pu (.mov (.c (.int .i64 0)))⟩])
 (.ret))))))))⟩
theorem t98 : trF Try.prog [] [] Try.f98 = some m98 := by kernel_rfl

/-- slices.IndexFunc[[]selion/api.Rat,selion/api.Rat] [loop [0, 1, 7, 8]] -/
def m115 : MFun := ⟨19, [], [.mov (.s 4)],
 .seq (.ops [⟨(some 4), some undefA, none, false, .pu (.mov (.c (.int .i64 0)))⟩])
 (.seq (.seq (.ops [⟨(some 6), some undefA, none, false, .pu (.mov (.s 0))⟩,
   ⟨(some 7), some undefA, none, false, .pu (.len (.s 6))⟩,
   ⟨(some 8), some undefA, none, false, .pu (.mov (.c (.int .i64 0)))⟩])
 (.block 0 (.loop (.seq (.ops [⟨(some 9), some undefA, none, false, .pu (.bin .lss (.s 8) (.s 7))⟩])
   (.seq (.cond (.s 9) (.skip)
   (.exit 0))
   (.seq (.block 1 (.seq (.ops [⟨(some 10), some undefA, none, false, .pu (.mov (.s 8))⟩,
      ⟨(some 5), some undefA, none, false, .pu (.mov (.s 10))⟩])
    (.seq (.ops [⟨(some 11), some undefA, none, false, .pu (.mov (.s 1))⟩,
      ⟨(some 12), some undefA, none, false, .pu (.mov (.s 0))⟩,
      ⟨(some 13), some undefA, none, false, .pu (.mov (.s 5))⟩,
      ⟨(some 14), some undefA, none, false, .pu (.idx 2 (.s 12) (.s 13))⟩,
      ⟨(some 15), some undefA, none, false, .ld (.ld 2 true (.s 14))⟩,
      ⟨(some 16), some undefA, none, false, .callv (.s 11) [(.s 15)]⟩])
    (.cond (.s 16) (.seq (.ops [⟨(some 17), some undefA, none, false, .pu (.mov (.s 5))⟩,
       ⟨(some 4), some undefA, none, false, .pu (.mov (.s 17))⟩])
     (.ret))
    (.skip)))))
   (.ops [⟨(some 18), some undefA, none, false, .pu (.bin .add (.s 8) (.c (.int .i64 1)))⟩,
     ⟨(some 8), some undefA, none, false, .pu (.mov (.s 18))⟩])))))))
 (.seq (.ops [⟨(some 4), some undefA, none, false, .pu (.mov (.c (.int .i64 (-1))))⟩])
 (.ret)))⟩
theorem t115 : trF Try.prog [] [] Try.f115 = some m115 := by kernel_rfl

/-- slices.Grow[[]selion/api.Zone,selion/api.Zone] [] -/
def m116 : MFun := ⟨27, [], [.mov (.s 4)],
 .seq (.ops [⟨(some 4), some undefA, none, false, .pu (.mov (.c (.nilS)))⟩])
 (.seq (.seq (.ops [⟨(some 5), some undefA, none, false, .pu (.mov (.s 1))⟩,
   ⟨(some 6), some undefA, none, false, .pu (.bin .lss (.s 5) (.c (.int .i64 0)))⟩])
 (.cond (.s 6) (.ops [⟨(some 7), some undefA, none, false, .pu (.fail)⟩,
    ⟨none, some undefA, none, false, .pu (.fail)⟩])
 (.skip)))
 (.seq (.seq (.ops [⟨(some 8), some undefA, none, false, .pu (.mov (.s 1))⟩,
   ⟨(some 9), some undefA, none, false, .pu (.mov (.s 0))⟩,
   ⟨(some 10), some undefA, none, false, .pu (.fail)⟩,
   ⟨(some 11), some undefA, none, false, .pu (.mov (.s 0))⟩,
   ⟨(some 12), some undefA, none, false, .pu (.len (.s 11))⟩,
   ⟨(some 13), some undefA, none, false, .pu (.bin .sub (.s 10) (.s 12))⟩,
   ⟨(some 14), some undefA, none, false, .pu (.bin .sub (.s 8) (.s 13))⟩,
   ⟨(some 1), some undefA, none, false, .pu (.mov (.s 14))⟩])
 (.seq (.ops [⟨(some 15), some undefA, none, false, .pu (.mov (.s 1))⟩,
   ⟨(some 16), some undefA, none, false, .pu (.bin .gtr (.s 15) (.c (.int .i64 0)))⟩])
 (.cond (.s 16) (.ops [⟨(some 17), some undefA, none, false, .pu (.mov (.s 0))⟩,
    ⟨(some 18), some undefA, none, false, .pu (.mov (.s 0))⟩,
    ⟨(some 19), some undefA, none, false, .pu (.fail)⟩,
    ⟨(some 20), some undefA, none, false, .pu (.slc 2 (.s 17) none (some (.s 19)) none)⟩,
    ⟨(some 21), some undefA, none, false, .pu (.mov (.s 1))⟩,
    ⟨(some 22), some undefA, none, false, .pu (.fail)⟩,
    ⟨(some 23), some undefA, none, false, .pu (.mov (.s 0))⟩,
    ⟨(some 24), some undefA, none, false, .pu (.len (.s 23))⟩,
    ⟨(some 25), some undefA, none, false, .pu (.slc 2 (.s 22) none (some (.s 24)) none)⟩,
    ⟨(some 0), some undefA, none, false, .pu (.mov (.s 25))⟩])
 (.skip))))
 (.seq (.ops [⟨(some 26), some undefA, none, false, .pu (.mov (.s 0))⟩,
   ⟨(some 4), some undefA, none, false, .pu (.mov (.s 26))⟩])
 (.ret))))⟩
theorem t116 : trF Try.prog [] [] Try.f116 = some m116 := by kernel_rfl

/-- slices.IndexFunc[[]selion/api.Zone,selion/api.Zone] [loop [0, 1, 7, 8]] -/
def m117 : MFun := ⟨19, [], [.mov (.s 4)],
 .seq (.ops [⟨(some 4), some undefA, none, false, .pu (.mov (.c (.int .i64 0)))⟩])
 (.seq (.seq (.ops [⟨(some 6), some undefA, none, false, .pu (.mov (.s 0))⟩,
   ⟨(some 7), some undefA, none, false, .pu (.len (.s 6))⟩,
   ⟨(some 8), some undefA, none, false, .pu (.mov (.c (.int .i64 0)))⟩])
 (.block 0 (.loop (.seq (.ops [⟨(some 9), some undefA, none, false, .pu (.bin .lss (.s 8) (.s 7))⟩])
   (.seq (.cond (.s 9) (.skip)
   (.exit 0))
   (.seq (.block 1 (.seq (.ops [⟨(some 10), some undefA, none, false, .pu (.mov (.s 8))⟩,
      ⟨(some 5), some undefA, none, false, .pu (.mov (.s 10))⟩])
    (.seq (.ops [⟨(some 11), some undefA, none, false, .pu (.mov (.s 1))⟩,
      ⟨(some 12), some undefA, none, false, .pu (.mov (.s 0))⟩,
      ⟨(some 13), some undefA, none, false, .pu (.mov (.s 5))⟩,
      ⟨(some 14), some undefA, none, false, .pu (.idx 2 (.s 12) (.s 13))⟩,
      ⟨(some 15), some undefA, none, false, .ld (.ld 2 true (.s 14))⟩,
      ⟨(some 16), some undefA, none, false, .callv (.s 11) [(.s 15)]⟩])
    (.cond (.s 16) (.seq (.ops [⟨(some 17), some undefA, none, false, .pu (.mov (.s 5))⟩,
       ⟨(some 4), some undefA, none, false, .pu (.mov (.s 17))⟩])
     (.ret))
    (.skip)))))
   (.ops [⟨(some 18), some undefA, none, false, .pu (.bin .add (.s 8) (.c (.int .i64 1)))⟩,
     ⟨(some 8), some undefA, none, false, .pu (.mov (.s 18))⟩])))))))
 (.seq (.ops [⟨(some 4), some undefA, none, false, .pu (.mov (.c (.int .i64 (-1))))⟩])
 (.ret)))⟩
theorem t117 : trF Try.prog [] [] Try.f117 = some m117 := by kernel_rfl

end Go.Proofs.Ytnnbggcckabhdaa
