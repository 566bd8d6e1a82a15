import Derived.Test.YtnnbggcckabhdaaEng20
import Derived.Test.YtnnbggcckabhdaaRows
namespace Go.Proofs.Ytnnbggcckabhdaa
open Go Go.Eng
/-- selion/selionlaw02.SoilEquals [loop [5, 9]] -/
def m3 : MFun := ⟨73, [], [.mov (.s 4)],
 .seq (.ops [⟨(some 4), some undefA, none, false, .pu (.mov (.c (.bool false)))⟩])
 (.seq (.seq (.ops [⟨(some 10), some undefA, none, false, .pu (.mov (.s 0))⟩,
   ⟨(some 11), some undefA, none, false, .call 18 [(.s 10), (.c (.nilS))]⟩])
 (.cond (.s 11) (.seq (.ops [⟨(some 12), some undefA, none, false, .call 19 []⟩,
    ⟨(some 4), some undefA, none, false, .pu (.mov (.s 12))⟩])
  (.ret))
 (.skip)))
 (.seq (.ops [⟨(some 14), some undefA, none, false, .pu (.mov (.s 0))⟩,
   ⟨(some 15), some undefA, none, false, .pu (.mov (.s 1))⟩,
   ⟨(some 16), some undefA, none, false, .call 20 [(.s 14), (.s 15)]⟩,
   ⟨(some 13), some undefA, none, false, .pu (.mov (.s 16))⟩,
   ⟨(some 17), some undefA, none, false, .pu (.extr 0 (.s 13))⟩,
   ⟨(some 18), some undefA, none, false, .pu (.extr 1 (.s 13))⟩,
   ⟨(some 5), some undefA, none, false, .pu (.mov (.s 17))⟩,
   ⟨(some 6), some undefA, none, false, .pu (.mov (.s 18))⟩])
 (.seq (.ops [⟨(some 20), some undefA, none, false, .pu (.mov (.s 0))⟩,
   ⟨(some 21), some undefA, none, false, .pu (.mov (.s 1))⟩,
   ⟨(some 22), some undefA, none, false, .call 21 [(.s 20), (.s 21)]⟩,
   ⟨(some 19), some undefA, none, false, .pu (.mov (.s 22))⟩,
   ⟨(some 23), some undefA, none, false, .pu (.extr 0 (.s 19))⟩,
   ⟨(some 24), some undefA, none, false, .pu (.extr 1 (.s 19))⟩,
   ⟨(some 7), some undefA, none, false, .pu (.mov (.s 23))⟩,
   ⟨(some 8), some undefA, none, false, .pu (.mov (.s 24))⟩])
 (.seq (.seq (.ops [⟨(some 25), some undefA, none, false, .pu (.mov (.s 6))⟩,
   ⟨(some 26), some undefA, none, false, .pu (.mov (.s 8))⟩,
   ⟨(some 27), some undefA, none, false, .pu (.bin .neq (.s 25) (.s 26))⟩,
   ⟨(some 28), some undefA, none, false, .pu (.mov (.s 27))⟩,
   ⟨(some 29), some undefA, (some (28, false)), false, .pu (.mov (.s 5))⟩,
   ⟨(some 30), some undefA, (some (28, false)), false, .pu (.mov (.s 7))⟩,
   ⟨(some 31), some undefA, (some (28, false)), false, .call 22 [(.s 29), (.s 30)]⟩,
   ⟨(some 32), some undefA, (some (28, false)), false, .pu (.not (.s 31))⟩,
   ⟨(some 33), some undefA, none, false, .pu (.pick (.s 28) (.c (.bool true)) (.s 32))⟩])
 (.cond (.s 33) (.seq (.ops [⟨(some 4), some undefA, none, false, .pu (.mov (.c (.bool false)))⟩])
  (.ret))
 (.skip)))
 (.seq (.seq (.ops [⟨(some 9), some undefA, none, false, .pu (.mov (.c (.int .i64 1)))⟩])
 (.block 0 (.loop (.seq (.seq (.ops [⟨(some 34), some undefA, none, false, .pu (.mov (.s 9))⟩,
     ⟨(some 35), some undefA, none, false, .pu (.mov (.s 5))⟩,
     ⟨(some 36), some undefA, none, false, .pu (.len (.s 35))⟩,
     ⟨(some 37), some undefA, none, false, .pu (.bin .lss (.s 34) (.s 36))⟩])
   (.cond (.s 37) (.skip)
   (.exit 0)))
   (.seq (.block 1 (.seq (.ops [⟨(some 40), some undefA, none, false, .pu (.mov (.s 5))⟩,
      ⟨(some 41), some undefA, none, false, .pu (.mov (.s 9))⟩,
      ⟨(some 42), some undefA, none, false, .pu (.idx 2 (.s 40) (.s 41))⟩,
      ⟨(some 43), some undefA, none, false, .pu (.fad 1 (.s 42))⟩,
      ⟨(some 44), some undefA, none, true, .ld (.ld 1 false (.s 43))⟩,
      ⟨(some 45), some undefA, none, false, .pu (.bin .lss (.s 44) (.c (.int .i64 1)))⟩,
      ⟨(some 46), some undefA, none, false, .pu (.mov (.s 45))⟩,
      ⟨(some 47), some undefA, (some (46, false)), false, .pu (.mov (.s 5))⟩,
      ⟨(some 48), some undefA, (some (46, false)), false, .pu (.mov (.s 9))⟩,
      ⟨(some 49), some undefA, (some (46, false)), false, .pu (.bin .sub (.s 48) (.c (.int .i64 1)))⟩,
      ⟨(some 50), some undefA, (some (46, false)), false, .pu (.idx 2 (.s 47) (.s 49))⟩,
      ⟨(some 51), some undefA, (some (46, false)), false, .pu (.fad 1 (.s 50))⟩,
      ⟨(some 52), some undefA, (some (46, false)), true, .ld (.ld 1 false (.s 51))⟩,
      ⟨(some 53), some undefA, (some (46, false)), false, .pu (.bin .lss (.s 52) (.c (.int .i64 1)))⟩,
      ⟨(some 54), some undefA, none, false, .pu (.pick (.s 46) (.c (.bool true)) (.s 53))⟩,
      ⟨(some 55), some undefA, none, false, .pu (.mov (.s 54))⟩,
      ⟨(some 56), some undefA, (some (55, false)), false, .pu (.mov (.s 5))⟩,
      ⟨(some 57), some undefA, (some (55, false)), false, .call 23 [(.s 56)]⟩,
      ⟨(some 58), some undefA, (some (55, false)), false, .pu (.not (.s 57))⟩,
      ⟨(some 59), some undefA, none, false, .pu (.pick (.s 55) (.c (.bool true)) (.s 58))⟩,
      ⟨(some 60), some undefA, none, false, .pu (.mov (.s 59))⟩,
      ⟨(some 61), some undefA, (some (60, false)), true, .pu (.mov (.s 5))⟩,
      ⟨(some 62), some undefA, (some (60, false)), true, .pu (.mov (.s 9))⟩,
      ⟨(some 63), some undefA, (some (60, false)), true, .pu (.idx 2 (.s 61) (.s 62))⟩,
      ⟨(some 64), some undefA, (some (60, false)), true, .ld (.ld 2 true (.s 63))⟩,
      ⟨(some 65), some undefA, (some (60, false)), true, .pu (.mov (.s 5))⟩,
      ⟨(some 66), some undefA, (some (60, false)), true, .pu (.mov (.s 9))⟩,
      ⟨(some 67), some undefA, (some (60, false)), true, .pu (.bin .sub (.s 66) (.c (.int .i64 1)))⟩,
      ⟨(some 68), some undefA, (some (60, false)), true, .pu (.idx 2 (.s 65) (.s 67))⟩,
      ⟨(some 69), some undefA, (some (60, false)), true, .ld (.ld 2 true (.s 68))⟩,
      ⟨(some 70), some undefA, (some (60, false)), false, .call 24 [(.s 64), (.s 69)]⟩,
      ⟨(some 71), some undefA, none, false, .pu (.pick (.s 60) (.c (.bool true)) (.s 70))⟩])
    (.cond (.s 71) (.seq (.ops [⟨(some 4), some undefA, none, false, .pu (.mov (.c (.bool false)))⟩])
     (.ret))
    (.skip))))
   (.ops [⟨(some 38), some undefA, none, false, .pu (.mov (.s 9))⟩,
     ⟨(some 39), some undefA, none, false, .pu (.bin .add (.s 38) (.c (.int .i64 1)))⟩,
     ⟨(some 9), some undefA, none, false, .pu (.mov (.s 39))⟩]))))))
 (.seq (.ops [⟨(some 72), some undefA, none, false, .call 19 []⟩,
   ⟨(some 4), some undefA, none, false, .pu (.mov (.s 72))⟩])
 (.ret)))))))⟩
theorem t3 : trF Try.prog [] [] Try.f3 = some m3 := by kernel_rfl

/-- selion/selionlaw02.SoilAdds [] -/
def m5 : MFun := ⟨92, [4, 5, 7, 9, 11], [.mov (.s 6)],
 .seq (.ops [⟨(some 4), some (.junk), none, false, .pu (.bnew (.s 1))⟩,
   ⟨(some 5), some (.junk), none, false, .pu (.bnew (.s 2))⟩,
   ⟨(some 6), some undefA, none, false, .pu (.mov (.c (.bool false)))⟩])
 (.seq (.seq (.ops [⟨(some 13), some undefA, none, false, .pu (.mov (.s 0))⟩,
   ⟨(some 14), some undefA, none, false, .call 18 [(.s 13), (.c (.nilS))]⟩])
 (.cond (.s 14) (.seq (.ops [⟨(some 15), some undefA, none, false, .call 19 []⟩,
    ⟨(some 6), some undefA, none, false, .pu (.mov (.s 15))⟩])
  (.ret))
 (.skip)))
 (.seq (.ops [⟨(some 17), some undefA, none, false, .pu (.mov (.s 0))⟩,
   ⟨(some 18), some undefA, none, false, .pu (.badr none 4)⟩,
   ⟨(some 19), some undefA, none, false, .pu (.bget (some 18) 4 0 2 true)⟩,
   ⟨(some 20), some undefA, none, false, .pu (.bget none 5 0 2 true)⟩,
   ⟨(some 21), some undefA, none, false, .call 25 [(.s 17), (.s 19), (.s 20)]⟩,
   ⟨(some 16), some undefA, none, false, .pu (.mov (.s 21))⟩,
   ⟨(some 22), some undefA, none, false, .pu (.extr 0 (.s 16))⟩,
   ⟨(some 23), some undefA, none, false, .pu (.extr 1 (.s 16))⟩,
   ⟨(some 7), some (.junk), none, false, .pu (.bnew (.c (.agg [.int .i64 0, .int .i64 0])))⟩,
   ⟨(some 7), none, none, false, .pu (.bset none 7 0 2 (.s 22))⟩,
   ⟨(some 8), some undefA, none, false, .pu (.mov (.s 23))⟩])
 (.seq (.ops [⟨(some 25), some undefA, none, false, .pu (.mov (.s 0))⟩,
   ⟨(some 26), some undefA, none, false, .pu (.bget none 5 0 2 true)⟩,
   ⟨(some 27), some undefA, none, false, .pu (.badr none 4)⟩,
   ⟨(some 28), some undefA, none, false, .pu (.bget (some 27) 4 2 2 true)⟩,
   ⟨(some 29), some undefA, none, false, .call 25 [(.s 25), (.s 26), (.s 28)]⟩,
   ⟨(some 24), some undefA, none, false, .pu (.mov (.s 29))⟩,
   ⟨(some 30), some undefA, none, false, .pu (.extr 0 (.s 24))⟩,
   ⟨(some 31), some undefA, none, false, .pu (.extr 1 (.s 24))⟩,
   ⟨(some 9), some (.junk), none, false, .pu (.bnew (.c (.agg [.int .i64 0, .int .i64 0])))⟩,
   ⟨(some 9), none, none, false, .pu (.bset none 9 0 2 (.s 30))⟩,
   ⟨(some 10), some undefA, none, false, .pu (.mov (.s 31))⟩])
 (.seq (.seq (.ops [⟨(some 32), some undefA, none, false, .pu (.mov (.s 8))⟩,
   ⟨(some 33), some undefA, none, false, .pu (.bin .neq (.s 32) (.c (.int .i64 0)))⟩,
   ⟨(some 34), some undefA, none, false, .pu (.mov (.s 33))⟩,
   ⟨(some 35), some undefA, (some (34, false)), false, .pu (.mov (.s 10))⟩,
   ⟨(some 36), some undefA, (some (34, false)), false, .pu (.bin .neq (.s 35) (.c (.int .i64 0)))⟩,
   ⟨(some 37), some undefA, none, false, .pu (.pick (.s 34) (.c (.bool true)) (.s 36))⟩])
 (.cond (.s 37) (.seq (.ops [⟨(some 38), some undefA, none, false, .call 19 []⟩,
    ⟨(some 6), some undefA, none, false, .pu (.mov (.s 38))⟩])
  (.ret))
 (.skip)))
 (.seq (.ops [⟨(some 40), some undefA, none, false, .pu (.mov (.s 0))⟩,
   ⟨(some 41), some undefA, none, false, .pu (.badr none 4)⟩,
   ⟨(some 42), some undefA, none, false, .pu (.bget (some 41) 4 0 2 true)⟩,
   ⟨(some 43), some undefA, none, false, .pu (.badr none 4)⟩,
   ⟨(some 44), some undefA, none, false, .pu (.bget (some 43) 4 2 2 true)⟩,
   ⟨(some 45), some undefA, none, false, .call 25 [(.s 40), (.s 42), (.s 44)]⟩,
   ⟨(some 39), some undefA, none, false, .pu (.mov (.s 45))⟩,
   ⟨(some 46), some undefA, none, false, .pu (.extr 0 (.s 39))⟩,
   ⟨(some 47), some undefA, none, false, .pu (.extr 1 (.s 39))⟩,
   ⟨(some 11), some (.junk), none, false, .pu (.bnew (.c (.agg [.int .i64 0, .int .i64 0])))⟩,
   ⟨(some 11), none, none, false, .pu (.bset none 11 0 2 (.s 46))⟩,
   ⟨(some 12), some undefA, none, false, .pu (.mov (.s 47))⟩])
 (.seq (.ops [⟨(some 48), some undefA, none, false, .pu (.mov (.s 12))⟩,
   ⟨(some 49), some undefA, none, false, .pu (.bin .eql (.s 48) (.c (.int .i64 0)))⟩,
   ⟨(some 50), some undefA, none, false, .pu (.mov (.s 49))⟩,
   ⟨(some 51), some undefA, (some (50, true)), false, .pu (.badr none 7)⟩,
   ⟨(some 52), some undefA, (some (50, true)), false, .pu (.bget (some 51) 7 1 1 false)⟩,
   ⟨(some 53), some undefA, (some (50, true)), false, .pu (.bin .gtr (.s 52) (.c (.int .i64 0)))⟩,
   ⟨(some 54), some undefA, none, false, .pu (.pick (.s 50) (.s 53) (.c (.bool false)))⟩,
   ⟨(some 55), some undefA, none, false, .pu (.mov (.s 54))⟩,
   ⟨(some 56), some undefA, (some (55, true)), false, .pu (.badr none 9)⟩,
   ⟨(some 57), some undefA, (some (55, true)), false, .pu (.bget (some 56) 9 1 1 false)⟩,
   ⟨(some 58), some undefA, (some (55, true)), false, .pu (.bin .gtr (.s 57) (.c (.int .i64 0)))⟩,
   ⟨(some 59), some undefA, none, false, .pu (.pick (.s 55) (.s 58) (.c (.bool false)))⟩,
   ⟨(some 60), some undefA, none, false, .pu (.mov (.s 59))⟩,
   ⟨(some 61), some undefA, (some (60, true)), false, .pu (.badr none 11)⟩,
   ⟨(some 62), some undefA, (some (60, true)), false, .pu (.bget (some 61) 11 1 1 false)⟩,
   ⟨(some 63), some undefA, (some (60, true)), false, .pu (.bin .gtr (.s 62) (.c (.int .i64 0)))⟩,
   ⟨(some 64), some undefA, none, false, .pu (.pick (.s 60) (.s 63) (.c (.bool false)))⟩,
   ⟨(some 65), some undefA, none, false, .pu (.mov (.s 64))⟩,
   ⟨(some 66), some undefA, (some (65, true)), false, .pu (.bget none 7 0 2 true)⟩,
   ⟨(some 67), some undefA, (some (65, true)), false, .pu (.bget none 9 0 2 true)⟩,
   ⟨(some 68), some undefA, (some (65, true)), false, .pu (.bget none 11 0 2 true)⟩,
   ⟨(some 69), some undefA, (some (65, true)), false, .ha (.blds 2 3 [.int .i64 0, .int .i64 0] [(0, 2, (.s 66)), (2, 2, (.s 67)), (4, 2, (.s 68))])⟩,
   ⟨(some 70), some undefA, (some (65, true)), false, .call 23 [(.s 69)]⟩,
   ⟨(some 71), some undefA, none, false, .pu (.pick (.s 65) (.s 70) (.c (.bool false)))⟩,
   ⟨(some 72), some undefA, none, false, .pu (.mov (.s 71))⟩,
   ⟨(some 73), some undefA, (some (72, true)), false, .pu (.badr none 7)⟩,
   ⟨(some 74), some undefA, (some (72, true)), false, .pu (.bget (some 73) 7 0 1 false)⟩,
   ⟨(some 75), some undefA, (some (72, true)), false, .pu (.bin .geq (.s 74) (.c (.int .i64 0)))⟩,
   ⟨(some 76), some undefA, none, false, .pu (.pick (.s 72) (.s 75) (.c (.bool false)))⟩,
   ⟨(some 77), some undefA, none, false, .pu (.mov (.s 76))⟩,
   ⟨(some 78), some undefA, (some (77, true)), false, .pu (.badr none 9)⟩,
   ⟨(some 79), some undefA, (some (77, true)), false, .pu (.bget (some 78) 9 0 1 false)⟩,
   ⟨(some 80), some undefA, (some (77, true)), false, .pu (.bin .geq (.s 79) (.c (.int .i64 0)))⟩,
   ⟨(some 81), some undefA, none, false, .pu (.pick (.s 77) (.s 80) (.c (.bool false)))⟩,
   ⟨(some 82), some undefA, none, false, .pu (.mov (.s 81))⟩,
   ⟨(some 83), some undefA, (some (82, true)), false, .pu (.bget none 7 0 2 true)⟩,
   ⟨(some 84), some undefA, (some (82, true)), false, .pu (.bget none 9 0 2 true)⟩,
   ⟨(some 85), some undefA, (some (82, true)), false, .call 27 [(.s 83), (.s 84)]⟩,
   ⟨(some 86), some undefA, (some (82, true)), false, .pu (.bget none 11 0 2 true)⟩,
   ⟨(some 87), some undefA, (some (82, true)), false, .pu (.eqs false [true, true] (.s 85) (.s 86))⟩,
   ⟨(some 88), some undefA, none, false, .pu (.pick (.s 82) (.s 87) (.c (.bool false)))⟩,
   ⟨(some 89), some undefA, none, false, .pu (.mov (.s 88))⟩,
   ⟨(some 90), some undefA, (some (89, true)), false, .call 19 []⟩,
   ⟨(some 91), some undefA, none, false, .pu (.pick (.s 89) (.s 90) (.c (.bool false)))⟩,
   ⟨(some 6), some undefA, none, false, .pu (.mov (.s 91))⟩])
 (.ret)))))))⟩
theorem t5 : trF Try.prog [4, 5, 7, 9, 11] [] Try.f5 = some m5 := by kernel_rfl

/-- selion/selionlaw02.SoilDearest [] -/
def m6 : MFun := ⟨101, [5, 7, 8, 10, 11, 13], [.mov (.s 6)],
 .seq (.ops [⟨(some 5), some (.junk), none, false, .pu (.bnew (.s 2))⟩,
   ⟨(some 6), some undefA, none, false, .pu (.mov (.c (.bool false)))⟩])
 (.seq (.seq (.ops [⟨(some 15), some undefA, none, false, .pu (.mov (.s 0))⟩,
   ⟨(some 16), some undefA, none, false, .call 18 [(.s 15), (.c (.nilS))]⟩])
 (.cond (.s 16) (.seq (.ops [⟨(some 17), some undefA, none, false, .call 19 []⟩,
    ⟨(some 6), some undefA, none, false, .pu (.mov (.s 17))⟩])
  (.ret))
 (.skip)))
 (.seq (.ops [⟨(some 19), some undefA, none, false, .pu (.mov (.s 0))⟩,
   ⟨(some 20), some undefA, none, false, .pu (.mov (.s 1))⟩,
   ⟨(some 21), some undefA, none, false, .call 28 [(.s 19), (.s 20)]⟩,
   ⟨(some 18), some undefA, none, false, .pu (.mov (.s 21))⟩,
   ⟨(some 22), some undefA, none, false, .pu (.extr 0 (.s 18))⟩,
   ⟨(some 23), some undefA, none, false, .pu (.extr 1 (.s 18))⟩,
   ⟨(some 24), some undefA, none, false, .pu (.extr 2 (.s 18))⟩,
   ⟨(some 7), some (.junk), none, false, .pu (.bnew (.c (.agg [.int .i64 0, .int .i64 0])))⟩,
   ⟨(some 8), some (.junk), none, false, .pu (.bnew (.c (.agg [.int .i64 0, .int .i64 0])))⟩,
   ⟨(some 7), none, none, false, .pu (.bset none 7 0 2 (.s 22))⟩,
   ⟨(some 8), none, none, false, .pu (.bset none 8 0 2 (.s 23))⟩,
   ⟨(some 9), some undefA, none, false, .pu (.mov (.s 24))⟩])
 (.seq (.ops [⟨(some 26), some undefA, none, false, .pu (.mov (.s 0))⟩,
   ⟨(some 27), some undefA, none, false, .pu (.mov (.s 1))⟩,
   ⟨(some 28), some undefA, none, false, .call 29 [(.s 26), (.s 27)]⟩,
   ⟨(some 25), some undefA, none, false, .pu (.mov (.s 28))⟩,
   ⟨(some 29), some undefA, none, false, .pu (.extr 0 (.s 25))⟩,
   ⟨(some 30), some undefA, none, false, .pu (.extr 1 (.s 25))⟩,
   ⟨(some 31), some undefA, none, false, .pu (.extr 2 (.s 25))⟩,
   ⟨(some 10), some (.junk), none, false, .pu (.bnew (.c (.agg [.int .i64 0, .int .i64 0])))⟩,
   ⟨(some 11), some (.junk), none, false, .pu (.bnew (.c (.agg [.int .i64 0, .int .i64 0])))⟩,
   ⟨(some 10), none, none, false, .pu (.bset none 10 0 2 (.s 29))⟩,
   ⟨(some 11), none, none, false, .pu (.bset none 11 0 2 (.s 30))⟩,
   ⟨(some 12), some undefA, none, false, .pu (.mov (.s 31))⟩])
 (.seq (.seq (.ops [⟨(some 32), some undefA, none, false, .pu (.bget none 7 0 2 true)⟩,
   ⟨(some 33), some undefA, none, false, .pu (.bget none 10 0 2 true)⟩,
   ⟨(some 34), some undefA, none, false, .pu (.eqs true [true, true] (.s 32) (.s 33))⟩,
   ⟨(some 35), some undefA, none, false, .pu (.mov (.s 34))⟩,
   ⟨(some 36), some undefA, (some (35, false)), false, .pu (.bget none 8 0 2 true)⟩,
   ⟨(some 37), some undefA, (some (35, false)), false, .pu (.bget none 11 0 2 true)⟩,
   ⟨(some 38), some undefA, (some (35, false)), false, .pu (.eqs true [true, true] (.s 36) (.s 37))⟩,
   ⟨(some 39), some undefA, none, false, .pu (.pick (.s 35) (.c (.bool true)) (.s 38))⟩,
   ⟨(some 40), some undefA, none, false, .pu (.mov (.s 39))⟩,
   ⟨(some 41), some undefA, (some (40, false)), false, .pu (.mov (.s 9))⟩,
   ⟨(some 42), some undefA, (some (40, false)), false, .pu (.mov (.s 12))⟩,
   ⟨(some 43), some undefA, (some (40, false)), false, .pu (.bin .neq (.s 41) (.s 42))⟩,
   ⟨(some 44), some undefA, none, false, .pu (.pick (.s 40) (.c (.bool true)) (.s 43))⟩])
 (.cond (.s 44) (.seq (.ops [⟨(some 6), some undefA, none, false, .pu (.mov (.c (.bool false)))⟩])
  (.ret))
 (.skip)))
 (.seq (.seq (.ops [⟨(some 45), some undefA, none, false, .pu (.mov (.s 9))⟩,
   ⟨(some 46), some undefA, none, false, .pu (.bin .neq (.s 45) (.c (.int .i64 0)))⟩,
   ⟨(some 47), some undefA, none, false, .pu (.mov (.s 46))⟩,
   ⟨(some 48), some undefA, (some (47, false)), false, .pu (.badr none 8)⟩,
   ⟨(some 49), some undefA, (some (47, false)), false, .pu (.bget (some 48) 8 1 1 false)⟩,
   ⟨(some 50), some undefA, (some (47, false)), false, .pu (.bin .lss (.s 49) (.c (.int .i64 1)))⟩,
   ⟨(some 51), some undefA, none, false, .pu (.pick (.s 47) (.c (.bool true)) (.s 50))⟩,
   ⟨(some 52), some undefA, none, false, .pu (.mov (.s 51))⟩,
   ⟨(some 53), some undefA, (some (52, false)), false, .pu (.badr none 5)⟩,
   ⟨(some 54), some undefA, (some (52, false)), false, .pu (.bget (some 53) 5 1 1 false)⟩,
   ⟨(some 55), some undefA, (some (52, false)), false, .pu (.bin .lss (.s 54) (.c (.int .i64 1)))⟩,
   ⟨(some 56), some undefA, none, false, .pu (.pick (.s 52) (.c (.bool true)) (.s 55))⟩,
   ⟨(some 57), some undefA, none, false, .pu (.mov (.s 56))⟩,
   ⟨(some 58), some undefA, (some (57, false)), false, .pu (.bget none 5 0 2 true)⟩,
   ⟨(some 59), some undefA, (some (57, false)), false, .ha (.blds 2 1 [.int .i64 0, .int .i64 0] [(0, 2, (.s 58))])⟩,
   ⟨(some 60), some undefA, (some (57, false)), false, .call 23 [(.s 59)]⟩,
   ⟨(some 61), some undefA, (some (57, false)), false, .pu (.not (.s 60))⟩,
   ⟨(some 62), some undefA, none, false, .pu (.pick (.s 57) (.c (.bool true)) (.s 61))⟩])
 (.cond (.s 62) (.seq (.ops [⟨(some 63), some undefA, none, false, .call 19 []⟩,
    ⟨(some 6), some undefA, none, false, .pu (.mov (.s 63))⟩])
  (.ret))
 (.skip)))
 (.seq (.ops [⟨(some 65), some undefA, none, false, .pu (.mov (.s 0))⟩,
   ⟨(some 66), some undefA, none, false, .pu (.bget none 5 0 2 true)⟩,
   ⟨(some 67), some undefA, none, false, .pu (.bget none 5 0 2 true)⟩,
   ⟨(some 68), some undefA, none, false, .pu (.mov (.s 1))⟩,
   ⟨(some 69), some undefA, none, false, .call 30 [(.s 68)]⟩,
   ⟨(some 70), some undefA, none, false, .call 27 [(.s 67), (.s 69)]⟩,
   ⟨(some 71), some undefA, none, false, .call 25 [(.s 65), (.s 66), (.s 70)]⟩,
   ⟨(some 64), some undefA, none, false, .pu (.mov (.s 71))⟩,
   ⟨(some 72), some undefA, none, false, .pu (.extr 0 (.s 64))⟩,
   ⟨(some 73), some undefA, none, false, .pu (.extr 1 (.s 64))⟩,
   ⟨(some 13), some (.junk), none, false, .pu (.bnew (.c (.agg [.int .i64 0, .int .i64 0])))⟩,
   ⟨(some 13), none, none, false, .pu (.bset none 13 0 2 (.s 72))⟩,
   ⟨(some 14), some undefA, none, false, .pu (.mov (.s 73))⟩])
 (.seq (.ops [⟨(some 74), some undefA, none, false, .pu (.mov (.s 14))⟩,
   ⟨(some 75), some undefA, none, false, .pu (.bin .neq (.s 74) (.c (.int .i64 0)))⟩,
   ⟨(some 76), some undefA, none, false, .pu (.mov (.s 75))⟩,
   ⟨(some 77), some undefA, (some (76, false)), false, .pu (.badr none 13)⟩,
   ⟨(some 78), some undefA, (some (76, false)), false, .pu (.bget (some 77) 13 1 1 false)⟩,
   ⟨(some 79), some undefA, (some (76, false)), false, .pu (.bin .gtr (.s 78) (.c (.int .i64 0)))⟩,
   ⟨(some 80), some undefA, (some (76, false)), false, .pu (.mov (.s 79))⟩,
   ⟨(some 81), some undefA, (some (80, true)), false, .pu (.badr none 8)⟩,
   ⟨(some 82), some undefA, (some (80, true)), false, .pu (.bget (some 81) 8 1 1 false)⟩,
   ⟨(some 83), some undefA, (some (80, true)), false, .pu (.bin .gtr (.s 82) (.c (.int .i64 0)))⟩,
   ⟨(some 84), some undefA, (some (76, false)), false, .pu (.pick (.s 80) (.s 83) (.c (.bool false)))⟩,
   ⟨(some 85), some undefA, (some (76, false)), false, .pu (.mov (.s 84))⟩,
   ⟨(some 86), some undefA, (some (85, true)), false, .pu (.bget none 13 0 2 true)⟩,
   ⟨(some 87), some undefA, (some (85, true)), false, .pu (.bget none 8 0 2 true)⟩,
   ⟨(some 88), some undefA, (some (85, true)), false, .ha (.blds 2 2 [.int .i64 0, .int .i64 0] [(0, 2, (.s 86)), (2, 2, (.s 87))])⟩,
   ⟨(some 89), some undefA, (some (85, true)), false, .call 23 [(.s 88)]⟩,
   ⟨(some 90), some undefA, (some (76, false)), false, .pu (.pick (.s 85) (.s 89) (.c (.bool false)))⟩,
   ⟨(some 91), some undefA, (some (76, false)), false, .pu (.mov (.s 90))⟩,
   ⟨(some 92), some undefA, (some (91, true)), false, .pu (.bget none 8 0 2 true)⟩,
   ⟨(some 93), some undefA, (some (91, true)), false, .pu (.bget none 13 0 2 true)⟩,
   ⟨(some 94), some undefA, (some (91, true)), false, .call 24 [(.s 92), (.s 93)]⟩,
   ⟨(some 95), some undefA, (some (91, true)), false, .pu (.not (.s 94))⟩,
   ⟨(some 96), some undefA, (some (76, false)), false, .pu (.pick (.s 91) (.s 95) (.c (.bool false)))⟩,
   ⟨(some 97), some undefA, none, false, .pu (.pick (.s 76) (.c (.bool true)) (.s 96))⟩,
   ⟨(some 98), some undefA, none, false, .pu (.mov (.s 97))⟩,
   ⟨(some 99), some undefA, (some (98, true)), false, .call 19 []⟩,
   ⟨(some 100), some undefA, none, false, .pu (.pick (.s 98) (.s 99) (.c (.bool false)))⟩,
   ⟨(some 6), some undefA, none, false, .pu (.mov (.s 100))⟩])
 (.ret))))))))⟩
theorem t6 : trF Try.prog [5, 7, 8, 10, 11, 13] [] Try.f6 = some m6 := by kernel_rfl

/-- selion/selionlaw02.SoilPlaces [] -/
def m8 : MFun := ⟨63, [4, 5, 7, 9, 11], [.mov (.s 6)],
 .seq (.ops [⟨(some 4), some (.junk), none, false, .pu (.bnew (.s 1))⟩,
   ⟨(some 5), some (.junk), none, false, .pu (.bnew (.s 2))⟩,
   ⟨(some 6), some undefA, none, false, .pu (.mov (.c (.bool false)))⟩])
 (.seq (.seq (.ops [⟨(some 13), some undefA, none, false, .pu (.mov (.s 0))⟩,
   ⟨(some 14), some undefA, none, false, .call 18 [(.s 13), (.c (.nilS))]⟩])
 (.cond (.s 14) (.seq (.ops [⟨(some 15), some undefA, none, false, .call 19 []⟩,
    ⟨(some 6), some undefA, none, false, .pu (.mov (.s 15))⟩])
  (.ret))
 (.skip)))
 (.seq (.ops [⟨(some 17), some undefA, none, false, .pu (.mov (.s 0))⟩,
   ⟨(some 18), some undefA, none, false, .pu (.bget none 4 0 2 true)⟩,
   ⟨(some 19), some undefA, none, false, .pu (.bget none 5 0 2 true)⟩,
   ⟨(some 20), some undefA, none, false, .call 39 [(.s 17), (.s 18), (.s 19)]⟩,
   ⟨(some 16), some undefA, none, false, .pu (.mov (.s 20))⟩,
   ⟨(some 21), some undefA, none, false, .pu (.extr 0 (.s 16))⟩,
   ⟨(some 22), some undefA, none, false, .pu (.extr 1 (.s 16))⟩,
   ⟨(some 7), some (.junk), none, false, .pu (.bnew (.c (.agg [.int .i64 0, .int .i64 0])))⟩,
   ⟨(some 7), none, none, false, .pu (.bset none 7 0 2 (.s 21))⟩,
   ⟨(some 8), some undefA, none, false, .pu (.mov (.s 22))⟩])
 (.seq (.ops [⟨(some 24), some undefA, none, false, .pu (.mov (.s 0))⟩,
   ⟨(some 25), some undefA, none, false, .pu (.bget none 4 0 2 true)⟩,
   ⟨(some 26), some undefA, none, false, .pu (.bget none 5 0 2 true)⟩,
   ⟨(some 27), some undefA, none, false, .call 40 [(.s 24), (.s 25), (.s 26)]⟩,
   ⟨(some 23), some undefA, none, false, .pu (.mov (.s 27))⟩,
   ⟨(some 28), some undefA, none, false, .pu (.extr 0 (.s 23))⟩,
   ⟨(some 29), some undefA, none, false, .pu (.extr 1 (.s 23))⟩,
   ⟨(some 9), some (.junk), none, false, .pu (.bnew (.c (.agg [.int .i64 0, .int .i64 0])))⟩,
   ⟨(some 9), none, none, false, .pu (.bset none 9 0 2 (.s 28))⟩,
   ⟨(some 10), some undefA, none, false, .pu (.mov (.s 29))⟩])
 (.seq (.seq (.ops [⟨(some 30), some undefA, none, false, .pu (.bget none 7 0 2 true)⟩,
   ⟨(some 31), some undefA, none, false, .pu (.bget none 9 0 2 true)⟩,
   ⟨(some 32), some undefA, none, false, .pu (.eqs true [true, true] (.s 30) (.s 31))⟩,
   ⟨(some 33), some undefA, none, false, .pu (.mov (.s 32))⟩,
   ⟨(some 34), some undefA, (some (33, false)), false, .pu (.mov (.s 8))⟩,
   ⟨(some 35), some undefA, (some (33, false)), false, .pu (.mov (.s 10))⟩,
   ⟨(some 36), some undefA, (some (33, false)), false, .pu (.bin .neq (.s 34) (.s 35))⟩,
   ⟨(some 37), some undefA, none, false, .pu (.pick (.s 33) (.c (.bool true)) (.s 36))⟩])
 (.cond (.s 37) (.seq (.ops [⟨(some 6), some undefA, none, false, .pu (.mov (.c (.bool false)))⟩])
  (.ret))
 (.skip)))
 (.seq (.seq (.ops [⟨(some 38), some undefA, none, false, .pu (.mov (.s 8))⟩,
   ⟨(some 39), some undefA, none, false, .pu (.bin .neq (.s 38) (.c (.int .i64 0)))⟩,
   ⟨(some 40), some undefA, none, false, .pu (.mov (.s 39))⟩,
   ⟨(some 41), some undefA, (some (40, false)), false, .pu (.badr none 7)⟩,
   ⟨(some 42), some undefA, (some (40, false)), false, .pu (.bget (some 41) 7 1 1 false)⟩,
   ⟨(some 43), some undefA, (some (40, false)), false, .pu (.bin .gtr (.s 42) (.c (.int .i64 1000)))⟩,
   ⟨(some 44), some undefA, none, false, .pu (.pick (.s 40) (.c (.bool true)) (.s 43))⟩])
 (.cond (.s 44) (.seq (.ops [⟨(some 45), some undefA, none, false, .call 19 []⟩,
    ⟨(some 6), some undefA, none, false, .pu (.mov (.s 45))⟩])
  (.ret))
 (.skip)))
 (.seq (.ops [⟨(some 47), some undefA, none, false, .pu (.mov (.s 0))⟩,
   ⟨(some 48), some undefA, none, false, .pu (.bget none 4 0 2 true)⟩,
   ⟨(some 49), some undefA, none, false, .pu (.bget none 7 0 2 true)⟩,
   ⟨(some 50), some undefA, none, false, .call 25 [(.s 47), (.s 48), (.s 49)]⟩,
   ⟨(some 46), some undefA, none, false, .pu (.mov (.s 50))⟩,
   ⟨(some 51), some undefA, none, false, .pu (.extr 0 (.s 46))⟩,
   ⟨(some 52), some undefA, none, false, .pu (.extr 1 (.s 46))⟩,
   ⟨(some 11), some (.junk), none, false, .pu (.bnew (.c (.agg [.int .i64 0, .int .i64 0])))⟩,
   ⟨(some 11), none, none, false, .pu (.bset none 11 0 2 (.s 51))⟩,
   ⟨(some 12), some undefA, none, false, .pu (.mov (.s 52))⟩])
 (.seq (.ops [⟨(some 53), some undefA, none, false, .pu (.mov (.s 12))⟩,
   ⟨(some 54), some undefA, none, false, .pu (.bin .eql (.s 53) (.c (.int .i64 0)))⟩,
   ⟨(some 55), some undefA, none, false, .pu (.mov (.s 54))⟩,
   ⟨(some 56), some undefA, (some (55, true)), false, .pu (.bget none 11 0 2 true)⟩,
   ⟨(some 57), some undefA, (some (55, true)), false, .pu (.bget none 5 0 2 true)⟩,
   ⟨(some 58), some undefA, (some (55, true)), false, .pu (.eqs false [true, true] (.s 56) (.s 57))⟩,
   ⟨(some 59), some undefA, none, false, .pu (.pick (.s 55) (.s 58) (.c (.bool false)))⟩,
   ⟨(some 60), some undefA, none, false, .pu (.mov (.s 59))⟩,
   ⟨(some 61), some undefA, (some (60, true)), false, .call 19 []⟩,
   ⟨(some 62), some undefA, none, false, .pu (.pick (.s 60) (.s 61) (.c (.bool false)))⟩,
   ⟨(some 6), some undefA, none, false, .pu (.mov (.s 62))⟩])
 (.ret))))))))⟩
theorem t8 : trF Try.prog [4, 5, 7, 9, 11] [] Try.f8 = some m8 := by kernel_rfl

/-- selion/selionlaw02.SoilParts [] -/
def m9 : MFun := ⟨91, [15], [.mov (.s 6)],
 .seq (.ops [⟨(some 6), some undefA, none, false, .pu (.mov (.c (.bool false)))⟩])
 (.seq (.seq (.ops [⟨(some 17), some undefA, none, false, .pu (.mov (.s 0))⟩,
   ⟨(some 18), some undefA, none, false, .call 18 [(.s 17), (.c (.nilS))]⟩])
 (.cond (.s 18) (.seq (.ops [⟨(some 19), some undefA, none, false, .call 19 []⟩,
    ⟨(some 6), some undefA, none, false, .pu (.mov (.s 19))⟩])
  (.ret))
 (.skip)))
 (.seq (.ops [⟨(some 21), some undefA, none, false, .pu (.mov (.s 0))⟩,
   ⟨(some 22), some undefA, none, false, .pu (.mov (.s 1))⟩,
   ⟨(some 23), some undefA, none, false, .pu (.mov (.s 2))⟩,
   ⟨(some 24), some undefA, none, false, .call 41 [(.s 21), (.s 22), (.s 23)]⟩,
   ⟨(some 20), some undefA, none, false, .pu (.mov (.s 24))⟩,
   ⟨(some 25), some undefA, none, false, .pu (.extr 0 (.s 20))⟩,
   ⟨(some 26), some undefA, none, false, .pu (.extr 1 (.s 20))⟩,
   ⟨(some 7), some undefA, none, false, .pu (.mov (.s 25))⟩,
   ⟨(some 8), some undefA, none, false, .pu (.mov (.s 26))⟩])
 (.seq (.ops [⟨(some 28), some undefA, none, false, .pu (.mov (.s 0))⟩,
   ⟨(some 29), some undefA, none, false, .pu (.mov (.s 1))⟩,
   ⟨(some 30), some undefA, none, false, .pu (.mov (.s 2))⟩,
   ⟨(some 31), some undefA, none, false, .call 42 [(.s 28), (.s 29), (.s 30)]⟩,
   ⟨(some 27), some undefA, none, false, .pu (.mov (.s 31))⟩,
   ⟨(some 32), some undefA, none, false, .pu (.extr 0 (.s 27))⟩,
   ⟨(some 33), some undefA, none, false, .pu (.extr 1 (.s 27))⟩,
   ⟨(some 9), some undefA, none, false, .pu (.mov (.s 32))⟩,
   ⟨(some 10), some undefA, none, false, .pu (.mov (.s 33))⟩])
 (.seq (.seq (.ops [⟨(some 34), some undefA, none, false, .pu (.mov (.s 8))⟩,
   ⟨(some 35), some undefA, none, false, .pu (.mov (.s 10))⟩,
   ⟨(some 36), some undefA, none, false, .pu (.bin .neq (.s 34) (.s 35))⟩,
   ⟨(some 37), some undefA, none, false, .pu (.mov (.s 36))⟩,
   ⟨(some 38), some undefA, (some (37, false)), false, .pu (.mov (.s 7))⟩,
   ⟨(some 39), some undefA, (some (37, false)), false, .pu (.mov (.s 9))⟩,
   ⟨(some 40), some undefA, (some (37, false)), false, .call 43 [(.s 38), (.s 39)]⟩,
   ⟨(some 41), some undefA, (some (37, false)), false, .pu (.not (.s 40))⟩,
   ⟨(some 42), some undefA, none, false, .pu (.pick (.s 37) (.c (.bool true)) (.s 41))⟩])
 (.cond (.s 42) (.seq (.ops [⟨(some 6), some undefA, none, false, .pu (.mov (.c (.bool false)))⟩])
  (.ret))
 (.skip)))
 (.seq (.seq (.ops [⟨(some 43), some undefA, none, false, .pu (.mov (.s 8))⟩,
   ⟨(some 44), some undefA, none, false, .pu (.bin .neq (.s 43) (.c (.int .i64 0)))⟩])
 (.cond (.s 44) (.seq (.ops [⟨(some 45), some undefA, none, false, .call 19 []⟩,
    ⟨(some 6), some undefA, none, false, .pu (.mov (.s 45))⟩])
  (.ret))
 (.skip)))
 (.seq (.ops [⟨(some 47), some undefA, none, false, .pu (.mov (.s 7))⟩,
   ⟨(some 48), some undefA, none, false, .call 33 [(.s 47)]⟩,
   ⟨(some 46), some undefA, none, false, .pu (.mov (.s 48))⟩,
   ⟨(some 49), some undefA, none, false, .pu (.extr 0 (.s 46))⟩,
   ⟨(some 50), some undefA, none, false, .pu (.extr 1 (.s 46))⟩,
   ⟨(some 11), some undefA, none, false, .pu (.mov (.s 49))⟩,
   ⟨(some 12), some undefA, none, false, .pu (.mov (.s 50))⟩])
 (.seq (.ops [⟨(some 52), some undefA, none, false, .pu (.mov (.s 7))⟩,
   ⟨(some 53), some undefA, none, false, .call 31 [(.s 52)]⟩,
   ⟨(some 51), some undefA, none, false, .pu (.mov (.s 53))⟩,
   ⟨(some 54), some undefA, none, false, .pu (.extr 0 (.s 51))⟩,
   ⟨(some 55), some undefA, none, false, .pu (.extr 1 (.s 51))⟩,
   ⟨(some 13), some undefA, none, false, .pu (.mov (.s 54))⟩,
   ⟨(some 14), some undefA, none, false, .pu (.mov (.s 55))⟩])
 (.seq (.ops [⟨(some 57), some undefA, none, false, .pu (.mov (.s 0))⟩,
   ⟨(some 58), some undefA, none, false, .pu (.mov (.s 1))⟩,
   ⟨(some 59), some undefA, none, false, .call 30 [(.s 58)]⟩,
   ⟨(some 60), some undefA, none, false, .pu (.mov (.s 2))⟩,
   ⟨(some 61), some undefA, none, false, .call 30 [(.s 60)]⟩,
   ⟨(some 62), some undefA, none, false, .call 25 [(.s 57), (.s 59), (.s 61)]⟩,
   ⟨(some 56), some undefA, none, false, .pu (.mov (.s 62))⟩,
   ⟨(some 63), some undefA, none, false, .pu (.extr 0 (.s 56))⟩,
   ⟨(some 64), some undefA, none, false, .pu (.extr 1 (.s 56))⟩,
   ⟨(some 15), some (.junk), none, false, .pu (.bnew (.c (.agg [.int .i64 0, .int .i64 0])))⟩,
   ⟨(some 15), none, none, false, .pu (.bset none 15 0 2 (.s 63))⟩,
   ⟨(some 16), some undefA, none, false, .pu (.mov (.s 64))⟩])
 (.seq (.ops [⟨(some 65), some undefA, none, false, .pu (.mov (.s 12))⟩,
   ⟨(some 66), some undefA, none, false, .pu (.bin .eql (.s 65) (.c (.int .i64 0)))⟩,
   ⟨(some 67), some undefA, none, false, .pu (.mov (.s 66))⟩,
   ⟨(some 68), some undefA, (some (67, true)), false, .pu (.mov (.s 14))⟩,
   ⟨(some 69), some undefA, (some (67, true)), false, .pu (.bin .eql (.s 68) (.c (.int .i64 0)))⟩,
   ⟨(some 70), some undefA, none, false, .pu (.pick (.s 67) (.s 69) (.c (.bool false)))⟩,
   ⟨(some 71), some undefA, none, false, .pu (.mov (.s 70))⟩,
   ⟨(some 72), some undefA, (some (71, true)), false, .pu (.mov (.s 16))⟩,
   ⟨(some 73), some undefA, (some (71, true)), false, .pu (.bin .eql (.s 72) (.c (.int .i64 0)))⟩,
   ⟨(some 74), some undefA, none, false, .pu (.pick (.s 71) (.s 73) (.c (.bool false)))⟩,
   ⟨(some 75), some undefA, none, false, .pu (.mov (.s 74))⟩,
   ⟨(some 76), some undefA, (some (75, true)), false, .pu (.mov (.s 13))⟩,
   ⟨(some 77), some undefA, (some (75, true)), false, .pu (.mov (.s 2))⟩,
   ⟨(some 78), some undefA, (some (75, true)), false, .pu (.mov (.s 1))⟩,
   ⟨(some 79), some undefA, (some (75, true)), false, .pu (.bin .sub (.s 77) (.s 78))⟩,
   ⟨(some 80), some undefA, (some (75, true)), false, .pu (.bin .eql (.s 76) (.s 79))⟩,
   ⟨(some 81), some undefA, none, false, .pu (.pick (.s 75) (.s 80) (.c (.bool false)))⟩,
   ⟨(some 82), some undefA, none, false, .pu (.mov (.s 81))⟩,
   ⟨(some 83), some undefA, (some (82, true)), false, .pu (.bget none 15 0 2 true)⟩,
   ⟨(some 84), some undefA, (some (82, true)), false, .pu (.mov (.s 11))⟩,
   ⟨(some 85), some undefA, (some (82, true)), false, .call 30 [(.s 84)]⟩,
   ⟨(some 86), some undefA, (some (82, true)), false, .pu (.eqs false [true, true] (.s 83) (.s 85))⟩,
   ⟨(some 87), some undefA, none, false, .pu (.pick (.s 82) (.s 86) (.c (.bool false)))⟩,
   ⟨(some 88), some undefA, none, false, .pu (.mov (.s 87))⟩,
   ⟨(some 89), some undefA, (some (88, true)), false, .call 19 []⟩,
   ⟨(some 90), some undefA, none, false, .pu (.pick (.s 88) (.s 89) (.c (.bool false)))⟩,
   ⟨(some 6), some undefA, none, false, .pu (.mov (.s 90))⟩])
 (.ret))))))))))⟩
theorem t9 : trF Try.prog [15] [] Try.f9 = some m9 := by kernel_rfl

/-- selion/selionlaw02.SoilBetter [] -/
def m10 : MFun := ⟨91, [5, 11, 13], [.mov (.s 6)],
 .seq (.ops [⟨(some 5), some (.junk), none, false, .pu (.bnew (.s 2))⟩,
   ⟨(some 6), some undefA, none, false, .pu (.mov (.c (.bool false)))⟩])
 (.seq (.seq (.ops [⟨(some 15), some undefA, none, false, .pu (.mov (.s 0))⟩,
   ⟨(some 16), some undefA, none, false, .pu (.mov (.s 1))⟩,
   ⟨(some 17), some undefA, none, false, .call 18 [(.s 15), (.s 16)]⟩])
 (.cond (.s 17) (.seq (.ops [⟨(some 18), some undefA, none, false, .call 19 []⟩,
    ⟨(some 6), some undefA, none, false, .pu (.mov (.s 18))⟩])
  (.ret))
 (.skip)))
 (.seq (.ops [⟨(some 20), some undefA, none, false, .pu (.mov (.s 0))⟩,
   ⟨(some 21), some undefA, none, false, .pu (.mov (.s 1))⟩,
   ⟨(some 22), some undefA, none, false, .call 44 [(.s 20), (.s 21)]⟩,
   ⟨(some 19), some undefA, none, false, .pu (.mov (.s 22))⟩,
   ⟨(some 23), some undefA, none, false, .pu (.extr 0 (.s 19))⟩,
   ⟨(some 24), some undefA, none, false, .pu (.extr 1 (.s 19))⟩,
   ⟨(some 7), some undefA, none, false, .pu (.mov (.s 23))⟩,
   ⟨(some 8), some undefA, none, false, .pu (.mov (.s 24))⟩])
 (.seq (.ops [⟨(some 26), some undefA, none, false, .pu (.mov (.s 0))⟩,
   ⟨(some 27), some undefA, none, false, .pu (.mov (.s 1))⟩,
   ⟨(some 28), some undefA, none, false, .call 45 [(.s 26), (.s 27)]⟩,
   ⟨(some 25), some undefA, none, false, .pu (.mov (.s 28))⟩,
   ⟨(some 29), some undefA, none, false, .pu (.extr 0 (.s 25))⟩,
   ⟨(some 30), some undefA, none, false, .pu (.extr 1 (.s 25))⟩,
   ⟨(some 9), some undefA, none, false, .pu (.mov (.s 29))⟩,
   ⟨(some 10), some undefA, none, false, .pu (.mov (.s 30))⟩])
 (.seq (.seq (.ops [⟨(some 31), some undefA, none, false, .pu (.mov (.s 7))⟩,
   ⟨(some 32), some undefA, none, false, .pu (.mov (.s 9))⟩,
   ⟨(some 33), some undefA, none, false, .pu (.eqb true (.s 31) (.s 32))⟩,
   ⟨(some 34), some undefA, none, false, .pu (.mov (.s 33))⟩,
   ⟨(some 35), some undefA, (some (34, false)), false, .pu (.mov (.s 8))⟩,
   ⟨(some 36), some undefA, (some (34, false)), false, .pu (.mov (.s 10))⟩,
   ⟨(some 37), some undefA, (some (34, false)), false, .pu (.bin .neq (.s 35) (.s 36))⟩,
   ⟨(some 38), some undefA, none, false, .pu (.pick (.s 34) (.c (.bool true)) (.s 37))⟩])
 (.cond (.s 38) (.seq (.ops [⟨(some 6), some undefA, none, false, .pu (.mov (.c (.bool false)))⟩])
  (.ret))
 (.skip)))
 (.seq (.ops [⟨(some 40), some undefA, none, false, .pu (.mov (.s 0))⟩,
   ⟨(some 41), some undefA, none, false, .pu (.badr none 5)⟩,
   ⟨(some 42), some undefA, none, false, .pu (.bget (some 41) 5 0 2 true)⟩,
   ⟨(some 43), some undefA, none, false, .pu (.badr none 5)⟩,
   ⟨(some 44), some undefA, none, false, .pu (.bget (some 43) 5 2 2 true)⟩,
   ⟨(some 45), some undefA, none, false, .call 25 [(.s 40), (.s 42), (.s 44)]⟩,
   ⟨(some 39), some undefA, none, false, .pu (.mov (.s 45))⟩,
   ⟨(some 46), some undefA, none, false, .pu (.extr 0 (.s 39))⟩,
   ⟨(some 47), some undefA, none, false, .pu (.extr 1 (.s 39))⟩,
   ⟨(some 11), some (.junk), none, false, .pu (.bnew (.c (.agg [.int .i64 0, .int .i64 0])))⟩,
   ⟨(some 11), none, none, false, .pu (.bset none 11 0 2 (.s 46))⟩,
   ⟨(some 12), some undefA, none, false, .pu (.mov (.s 47))⟩])
 (.seq (.ops [⟨(some 49), some undefA, none, false, .pu (.mov (.s 1))⟩,
   ⟨(some 50), some undefA, none, false, .pu (.badr none 5)⟩,
   ⟨(some 51), some undefA, none, false, .pu (.bget (some 50) 5 0 2 true)⟩,
   ⟨(some 52), some undefA, none, false, .pu (.badr none 5)⟩,
   ⟨(some 53), some undefA, none, false, .pu (.bget (some 52) 5 2 2 true)⟩,
   ⟨(some 54), some undefA, none, false, .call 25 [(.s 49), (.s 51), (.s 53)]⟩,
   ⟨(some 48), some undefA, none, false, .pu (.mov (.s 54))⟩,
   ⟨(some 55), some undefA, none, false, .pu (.extr 0 (.s 48))⟩,
   ⟨(some 56), some undefA, none, false, .pu (.extr 1 (.s 48))⟩,
   ⟨(some 13), some (.junk), none, false, .pu (.bnew (.c (.agg [.int .i64 0, .int .i64 0])))⟩,
   ⟨(some 13), none, none, false, .pu (.bset none 13 0 2 (.s 55))⟩,
   ⟨(some 14), some undefA, none, false, .pu (.mov (.s 56))⟩])
 (.seq (.seq (.ops [⟨(some 57), some undefA, none, false, .pu (.mov (.s 7))⟩,
   ⟨(some 58), some undefA, none, false, .pu (.not (.s 57))⟩,
   ⟨(some 59), some undefA, none, false, .pu (.mov (.s 58))⟩,
   ⟨(some 60), some undefA, (some (59, false)), false, .pu (.mov (.s 12))⟩,
   ⟨(some 61), some undefA, (some (59, false)), false, .pu (.bin .neq (.s 60) (.c (.int .i64 0)))⟩,
   ⟨(some 62), some undefA, none, false, .pu (.pick (.s 59) (.c (.bool true)) (.s 61))⟩])
 (.cond (.s 62) (.seq (.ops [⟨(some 63), some undefA, none, false, .call 19 []⟩,
    ⟨(some 6), some undefA, none, false, .pu (.mov (.s 63))⟩])
  (.ret))
 (.skip)))
 (.seq (.ops [⟨(some 64), some undefA, none, false, .pu (.mov (.s 14))⟩,
   ⟨(some 65), some undefA, none, false, .pu (.bin .eql (.s 64) (.c (.int .i64 0)))⟩,
   ⟨(some 66), some undefA, none, false, .pu (.mov (.s 65))⟩,
   ⟨(some 67), some undefA, (some (66, true)), false, .pu (.badr none 11)⟩,
   ⟨(some 68), some undefA, (some (66, true)), false, .pu (.bget (some 67) 11 1 1 false)⟩,
   ⟨(some 69), some undefA, (some (66, true)), false, .pu (.bin .gtr (.s 68) (.c (.int .i64 0)))⟩,
   ⟨(some 70), some undefA, none, false, .pu (.pick (.s 66) (.s 69) (.c (.bool false)))⟩,
   ⟨(some 71), some undefA, none, false, .pu (.mov (.s 70))⟩,
   ⟨(some 72), some undefA, (some (71, true)), false, .pu (.badr none 13)⟩,
   ⟨(some 73), some undefA, (some (71, true)), false, .pu (.bget (some 72) 13 1 1 false)⟩,
   ⟨(some 74), some undefA, (some (71, true)), false, .pu (.bin .gtr (.s 73) (.c (.int .i64 0)))⟩,
   ⟨(some 75), some undefA, none, false, .pu (.pick (.s 71) (.s 74) (.c (.bool false)))⟩,
   ⟨(some 76), some undefA, none, false, .pu (.mov (.s 75))⟩,
   ⟨(some 77), some undefA, (some (76, true)), false, .pu (.bget none 11 0 2 true)⟩,
   ⟨(some 78), some undefA, (some (76, true)), false, .pu (.bget none 13 0 2 true)⟩,
   ⟨(some 79), some undefA, (some (76, true)), false, .ha (.blds 2 2 [.int .i64 0, .int .i64 0] [(0, 2, (.s 77)), (2, 2, (.s 78))])⟩,
   ⟨(some 80), some undefA, (some (76, true)), false, .call 23 [(.s 79)]⟩,
   ⟨(some 81), some undefA, none, false, .pu (.pick (.s 76) (.s 80) (.c (.bool false)))⟩,
   ⟨(some 82), some undefA, none, false, .pu (.mov (.s 81))⟩,
   ⟨(some 83), some undefA, (some (82, true)), false, .pu (.bget none 11 0 2 true)⟩,
   ⟨(some 84), some undefA, (some (82, true)), false, .pu (.bget none 13 0 2 true)⟩,
   ⟨(some 85), some undefA, (some (82, true)), false, .call 24 [(.s 83), (.s 84)]⟩,
   ⟨(some 86), some undefA, (some (82, true)), false, .pu (.not (.s 85))⟩,
   ⟨(some 87), some undefA, none, false, .pu (.pick (.s 82) (.s 86) (.c (.bool false)))⟩,
   ⟨(some 88), some undefA, none, false, .pu (.mov (.s 87))⟩,
   ⟨(some 89), some undefA, (some (88, true)), false, .call 19 []⟩,
   ⟨(some 90), some undefA, none, false, .pu (.pick (.s 88) (.s 89) (.c (.bool false)))⟩,
   ⟨(some 6), some undefA, none, false, .pu (.mov (.s 90))⟩])
 (.ret)))))))))⟩
theorem t10 : trF Try.prog [5, 11, 13] [] Try.f10 = some m10 := by kernel_rfl

/-- selion/selionlaw02.SoilPlains [loop [0, 5, 6, 16]] -/
def m11 : MFun := ⟨97, [], [.mov (.s 4)],
 .seq (.ops [⟨(some 4), some undefA, none, false, .pu (.mov (.c (.bool false)))⟩])
 (.seq (.seq (.ops [⟨(some 17), some undefA, none, false, .pu (.mov (.s 0))⟩,
   ⟨(some 18), some undefA, none, false, .pu (.mov (.s 1))⟩,
   ⟨(some 19), some undefA, none, false, .call 18 [(.s 17), (.s 18)]⟩])
 (.cond (.s 19) (.seq (.ops [⟨(some 20), some undefA, none, false, .call 19 []⟩,
    ⟨(some 4), some undefA, none, false, .pu (.mov (.s 20))⟩])
  (.ret))
 (.skip)))
 (.seq (.ops [⟨(some 21), some undefA, none, false, .ha (.blds 2 0 [.int .i64 0, .int .i64 0] [])⟩,
   ⟨(some 22), some undefA, none, false, .pu (.mov (.s 0))⟩,
   ⟨(some 23), some undefA, none, false, .ha (.app 2 (.s 21) (.s 22))⟩,
   ⟨(some 5), some undefA, none, false, .pu (.mov (.s 23))⟩])
 (.seq (.ops [⟨(some 25), some undefA, none, false, .pu (.mov (.s 5))⟩,
   ⟨(some 26), some undefA, none, false, .call 46 [(.s 25)]⟩,
   ⟨(some 24), some undefA, none, false, .pu (.mov (.s 26))⟩,
   ⟨(some 27), some undefA, none, false, .pu (.extr 0 (.s 24))⟩,
   ⟨(some 28), some undefA, none, false, .pu (.extr 1 (.s 24))⟩,
   ⟨(some 6), some undefA, none, false, .pu (.mov (.s 27))⟩,
   ⟨(some 7), some undefA, none, false, .pu (.mov (.s 28))⟩])
 (.seq (.ops [⟨(some 30), some undefA, none, false, .pu (.mov (.s 0))⟩,
   ⟨(some 31), some undefA, none, false, .call 47 [(.s 30)]⟩,
   ⟨(some 29), some undefA, none, false, .pu (.mov (.s 31))⟩,
   ⟨(some 32), some undefA, none, false, .pu (.extr 0 (.s 29))⟩,
   ⟨(some 33), some undefA, none, false, .pu (.extr 1 (.s 29))⟩,
   ⟨(some 8), some undefA, none, false, .pu (.mov (.s 32))⟩,
   ⟨(some 9), some undefA, none, false, .pu (.mov (.s 33))⟩])
 (.seq (.ops [⟨(some 35), some undefA, none, false, .pu (.mov (.s 0))⟩,
   ⟨(some 36), some undefA, none, false, .pu (.mov (.s 1))⟩,
   ⟨(some 37), some undefA, none, false, .call 48 [(.s 35), (.s 36)]⟩,
   ⟨(some 34), some undefA, none, false, .pu (.mov (.s 37))⟩,
   ⟨(some 38), some undefA, none, false, .pu (.extr 0 (.s 34))⟩,
   ⟨(some 39), some undefA, none, false, .pu (.extr 1 (.s 34))⟩,
   ⟨(some 10), some undefA, none, false, .pu (.mov (.s 38))⟩,
   ⟨(some 11), some undefA, none, false, .pu (.mov (.s 39))⟩])
 (.seq (.ops [⟨(some 41), some undefA, none, false, .pu (.mov (.s 0))⟩,
   ⟨(some 42), some undefA, none, false, .pu (.mov (.s 1))⟩,
   ⟨(some 43), some undefA, none, false, .call 49 [(.s 41), (.s 42)]⟩,
   ⟨(some 40), some undefA, none, false, .pu (.mov (.s 43))⟩,
   ⟨(some 44), some undefA, none, false, .pu (.extr 0 (.s 40))⟩,
   ⟨(some 45), some undefA, none, false, .pu (.extr 1 (.s 40))⟩,
   ⟨(some 12), some undefA, none, false, .pu (.mov (.s 44))⟩,
   ⟨(some 13), some undefA, none, false, .pu (.mov (.s 45))⟩])
 (.seq (.seq (.ops [⟨(some 46), some undefA, none, false, .pu (.mov (.s 7))⟩,
   ⟨(some 47), some undefA, none, false, .pu (.mov (.s 9))⟩,
   ⟨(some 48), some undefA, none, false, .pu (.bin .neq (.s 46) (.s 47))⟩,
   ⟨(some 49), some undefA, none, false, .pu (.mov (.s 48))⟩,
   ⟨(some 50), some undefA, (some (49, false)), false, .pu (.mov (.s 6))⟩,
   ⟨(some 51), some undefA, (some (49, false)), false, .pu (.mov (.s 8))⟩,
   ⟨(some 52), some undefA, (some (49, false)), false, .call 43 [(.s 50), (.s 51)]⟩,
   ⟨(some 53), some undefA, (some (49, false)), false, .pu (.not (.s 52))⟩,
   ⟨(some 54), some undefA, none, false, .pu (.pick (.s 49) (.c (.bool true)) (.s 53))⟩,
   ⟨(some 55), some undefA, none, false, .pu (.mov (.s 54))⟩,
   ⟨(some 56), some undefA, (some (55, false)), false, .pu (.mov (.s 10))⟩,
   ⟨(some 57), some undefA, (some (55, false)), false, .pu (.mov (.s 12))⟩,
   ⟨(some 58), some undefA, (some (55, false)), false, .pu (.eqb true (.s 56) (.s 57))⟩,
   ⟨(some 59), some undefA, none, false, .pu (.pick (.s 55) (.c (.bool true)) (.s 58))⟩,
   ⟨(some 60), some undefA, none, false, .pu (.mov (.s 59))⟩,
   ⟨(some 61), some undefA, (some (60, false)), false, .pu (.mov (.s 11))⟩,
   ⟨(some 62), some undefA, (some (60, false)), false, .pu (.mov (.s 13))⟩,
   ⟨(some 63), some undefA, (some (60, false)), false, .pu (.bin .neq (.s 61) (.s 62))⟩,
   ⟨(some 64), some undefA, none, false, .pu (.pick (.s 60) (.c (.bool true)) (.s 63))⟩])
 (.cond (.s 64) (.seq (.ops [⟨(some 4), some undefA, none, false, .pu (.mov (.c (.bool false)))⟩])
  (.ret))
 (.skip)))
 (.seq (.ops [⟨(some 66), some undefA, none, false, .pu (.mov (.s 6))⟩,
   ⟨(some 67), some undefA, none, false, .pu (.mov (.s 0))⟩,
   ⟨(some 68), some undefA, none, false, .call 48 [(.s 66), (.s 67)]⟩,
   ⟨(some 65), some undefA, none, false, .pu (.mov (.s 68))⟩,
   ⟨(some 69), some undefA, none, false, .pu (.extr 0 (.s 65))⟩,
   ⟨(some 70), some undefA, none, false, .pu (.extr 1 (.s 65))⟩,
   ⟨(some 14), some undefA, none, false, .pu (.mov (.s 69))⟩,
   ⟨(some 15), some undefA, none, false, .pu (.mov (.s 70))⟩])
 (.seq (.seq (.ops [⟨(some 71), some undefA, none, false, .pu (.mov (.s 7))⟩,
   ⟨(some 72), some undefA, none, false, .pu (.bin .eql (.s 71) (.c (.int .i64 0)))⟩,
   ⟨(some 73), some undefA, none, false, .pu (.mov (.s 72))⟩,
   ⟨(some 74), some undefA, (some (73, true)), false, .pu (.mov (.s 15))⟩,
   ⟨(some 75), some undefA, (some (73, true)), false, .pu (.bin .neq (.s 74) (.c (.int .i64 0)))⟩,
   ⟨(some 76), some undefA, (some (73, true)), false, .pu (.mov (.s 75))⟩,
   ⟨(some 77), some undefA, (some (76, false)), false, .pu (.mov (.s 14))⟩,
   ⟨(some 78), some undefA, (some (76, false)), false, .pu (.not (.s 77))⟩,
   ⟨(some 79), some undefA, (some (73, true)), false, .pu (.pick (.s 76) (.c (.bool true)) (.s 78))⟩,
   ⟨(some 80), some undefA, none, false, .pu (.pick (.s 73) (.s 79) (.c (.bool false)))⟩])
 (.cond (.s 80) (.seq (.ops [⟨(some 4), some undefA, none, false, .pu (.mov (.c (.bool false)))⟩])
  (.ret))
 (.skip)))
 (.seq (.seq (.ops [⟨(some 16), some undefA, none, false, .pu (.mov (.c (.int .i64 0)))⟩])
 (.block 0 (.loop (.seq (.seq (.ops [⟨(some 81), some undefA, none, false, .pu (.mov (.s 16))⟩,
     ⟨(some 82), some undefA, none, false, .pu (.mov (.s 6))⟩,
     ⟨(some 83), some undefA, none, false, .pu (.len (.s 82))⟩,
     ⟨(some 84), some undefA, none, false, .pu (.bin .lss (.s 81) (.s 83))⟩])
   (.cond (.s 84) (.skip)
   (.exit 0)))
   (.seq (.block 1 (.ops [⟨(some 87), some undefA, none, false, .pu (.mov (.s 6))⟩,
      ⟨(some 88), some undefA, none, false, .pu (.mov (.s 16))⟩,
      ⟨(some 89), some undefA, none, false, .pu (.idx 2 (.s 87) (.s 88))⟩,
      ⟨(some 90), some undefA, none, false, .pu (.fad 0 (.s 89))⟩,
      ⟨none, some undefA, none, false, .ha (.st 1 (.s 90) (.c (.int .i64 (-1))))⟩]))
   (.ops [⟨(some 85), some undefA, none, false, .pu (.mov (.s 16))⟩,
     ⟨(some 86), some undefA, none, false, .pu (.bin .add (.s 85) (.c (.int .i64 1)))⟩,
     ⟨(some 16), some undefA, none, false, .pu (.mov (.s 86))⟩]))))))
 (.seq (.ops [⟨(some 91), some undefA, none, false, .pu (.mov (.s 5))⟩,
   ⟨(some 92), some undefA, none, false, .pu (.mov (.s 0))⟩,
   ⟨(some 93), some undefA, none, false, .call 43 [(.s 91), (.s 92)]⟩,
   ⟨(some 94), some undefA, none, false, .pu (.mov (.s 93))⟩,
   ⟨(some 95), some undefA, (some (94, true)), false, .call 19 []⟩,
   ⟨(some 96), some undefA, none, false, .pu (.pick (.s 94) (.s 95) (.c (.bool false)))⟩,
   ⟨(some 4), some undefA, none, false, .pu (.mov (.s 96))⟩])
 (.ret))))))))))))⟩
theorem t11 : trF Try.prog [] [] Try.f11 = some m11 := by kernel_rfl

end Go.Proofs.Ytnnbggcckabhdaa
