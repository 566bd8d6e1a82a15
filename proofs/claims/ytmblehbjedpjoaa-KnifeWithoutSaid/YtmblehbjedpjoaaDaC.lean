/- What the law's proof rests on, part 5: for all that is said in each line. No conditions. -/
import Derived.Test.YtmblehbjedpjoaaRows
import Derived.Test.YtmblehbjedpjoaaDaB
namespace Go.Proofs.Ytmblehbjedpjoaa
open Go Go.Eng
/-- selion/selionlaw06.KnifeCalls [loop [3, 5, 9]] -/
def m3 : MFun := ⟨65, [2, 3], [.mov (.s 4)],
 .seq (.ops [⟨(some 2), some (.junk), none, false, .pu (.bnew (.s 0))⟩,
   ⟨(some 3), some (.junk), none, false, .pu (.bnew (.s 1))⟩,
   ⟨(some 4), some undefA, none, false, .pu (.mov (.c (.bool false)))⟩])
 (.seq (.seq (.ops [⟨(some 10), some undefA, none, false, .pu (.bget none 2 0 2 true)⟩,
   ⟨(some 11), some undefA, none, false, .call 13 [(.s 10)]⟩])
 (.cond (.s 11) (.seq (.ops [⟨(some 12), some undefA, none, false, .call 14 []⟩,
    ⟨(some 4), some undefA, none, false, .pu (.mov (.s 12))⟩])
  (.ret))
 (.skip)))
 (.seq (.ops [⟨(some 14), some undefA, none, false, .pu (.bget none 2 0 2 true)⟩,
   ⟨(some 15), some undefA, none, false, .pu (.bget none 3 0 2 true)⟩,
   ⟨(some 16), some undefA, none, false, .call 15 [(.s 14), (.s 15)]⟩,
   ⟨(some 13), some undefA, none, false, .pu (.mov (.s 16))⟩,
   ⟨(some 17), some undefA, none, false, .pu (.extr 0 (.s 13))⟩,
   ⟨(some 18), some undefA, none, false, .pu (.extr 1 (.s 13))⟩,
   ⟨(some 5), some undefA, none, false, .pu (.mov (.s 17))⟩,
   ⟨(some 6), some undefA, none, false, .pu (.mov (.s 18))⟩])
 (.seq (.ops [⟨(some 20), some undefA, none, false, .pu (.bget none 2 0 2 true)⟩,
   ⟨(some 21), some undefA, none, false, .pu (.bget none 3 0 2 true)⟩,
   ⟨(some 22), some undefA, none, false, .call 16 [(.s 20), (.s 21)]⟩,
   ⟨(some 19), some undefA, none, false, .pu (.mov (.s 22))⟩,
   ⟨(some 23), some undefA, none, false, .pu (.extr 0 (.s 19))⟩,
   ⟨(some 24), some undefA, none, false, .pu (.extr 1 (.s 19))⟩,
   ⟨(some 7), some undefA, none, false, .pu (.mov (.s 23))⟩,
   ⟨(some 8), some undefA, none, false, .pu (.mov (.s 24))⟩])
 (.seq (.seq (.ops [⟨(some 25), some undefA, none, false, .pu (.mov (.s 6))⟩,
   ⟨(some 26), some undefA, none, false, .pu (.mov (.s 8))⟩,
   ⟨(some 27), some undefA, none, false, .pu (.bin .neq (.s 25) (.s 26))⟩,
   ⟨(some 28), some undefA, none, false, .pu (.mov (.s 27))⟩,
   ⟨(some 29), some undefA, (some (28, false)), false, .pu (.mov (.s 5))⟩,
   ⟨(some 30), some undefA, (some (28, false)), false, .pu (.mov (.s 7))⟩,
   ⟨(some 31), some undefA, (some (28, false)), false, .call 17 [(.s 29), (.s 30)]⟩,
   ⟨(some 32), some undefA, (some (28, false)), false, .pu (.not (.s 31))⟩,
   ⟨(some 33), some undefA, none, false, .pu (.pick (.s 28) (.c (.bool true)) (.s 32))⟩])
 (.cond (.s 33) (.seq (.ops [⟨(some 4), some undefA, none, false, .pu (.mov (.c (.bool false)))⟩])
  (.ret))
 (.skip)))
 (.seq (.seq (.ops [⟨(some 9), some undefA, none, false, .pu (.mov (.c (.int .i64 0)))⟩])
 (.block 0 (.loop (.seq (.seq (.ops [⟨(some 34), some undefA, none, false, .pu (.mov (.s 9))⟩,
     ⟨(some 35), some undefA, none, false, .pu (.mov (.s 5))⟩,
     ⟨(some 36), some undefA, none, false, .pu (.len (.s 35))⟩,
     ⟨(some 37), some undefA, none, false, .pu (.bin .lss (.s 34) (.s 36))⟩])
   (.cond (.s 37) (.skip)
   (.exit 0)))
   (.seq (.block 1 (.seq (.ops [⟨(some 40), some undefA, none, false, .pu (.mov (.s 5))⟩,
      ⟨(some 41), some undefA, none, false, .pu (.mov (.s 9))⟩,
      ⟨(some 42), some undefA, none, false, .pu (.idx 2 (.s 40) (.s 41))⟩,
      ⟨(some 43), some undefA, none, false, .pu (.fad 1 (.s 42))⟩,
      ⟨(some 44), some undefA, none, true, .ld (.ld 1 false (.s 43))⟩,
      ⟨(some 45), some undefA, none, false, .pu (.bin .lss (.s 44) (.c (.int .i64 1)))⟩,
      ⟨(some 46), some undefA, none, false, .pu (.mov (.s 45))⟩,
      ⟨(some 47), some undefA, (some (46, false)), false, .pu (.badr none 3)⟩,
      ⟨(some 48), some undefA, (some (46, false)), false, .pu (.bget (some 47) 3 1 1 false)⟩,
      ⟨(some 49), some undefA, (some (46, false)), false, .pu (.bin .lss (.s 48) (.c (.int .i64 1)))⟩,
      ⟨(some 50), some undefA, none, false, .pu (.pick (.s 46) (.c (.bool true)) (.s 49))⟩,
      ⟨(some 51), some undefA, none, false, .pu (.mov (.s 50))⟩,
      ⟨(some 52), some undefA, (some (51, false)), false, .pu (.mov (.s 5))⟩,
      ⟨(some 53), some undefA, (some (51, false)), false, .call 18 [(.s 52)]⟩,
      ⟨(some 54), some undefA, (some (51, false)), false, .pu (.not (.s 53))⟩,
      ⟨(some 55), some undefA, none, false, .pu (.pick (.s 51) (.c (.bool true)) (.s 54))⟩,
      ⟨(some 56), some undefA, none, false, .pu (.mov (.s 55))⟩,
      ⟨(some 57), some undefA, (some (56, false)), false, .pu (.mov (.s 5))⟩,
      ⟨(some 58), some undefA, (some (56, false)), false, .pu (.mov (.s 9))⟩,
      ⟨(some 59), some undefA, (some (56, false)), false, .pu (.idx 2 (.s 57) (.s 58))⟩,
      ⟨(some 60), some undefA, (some (56, false)), true, .ld (.ld 2 true (.s 59))⟩,
      ⟨(some 61), some undefA, (some (56, false)), true, .pu (.bget none 3 0 2 true)⟩,
      ⟨(some 62), some undefA, (some (56, false)), false, .call 19 [(.s 60), (.s 61)]⟩,
      ⟨(some 63), some undefA, none, false, .pu (.pick (.s 56) (.c (.bool true)) (.s 62))⟩])
    (.cond (.s 63) (.seq (.ops [⟨(some 4), some undefA, none, false, .pu (.mov (.c (.bool false)))⟩])
     (.ret))
    (.skip))))
   (.ops [⟨(some 38), some undefA, none, false, .pu (.mov (.s 9))⟩,
     ⟨(some 39), some undefA, none, false, .pu (.bin .add (.s 38) (.c (.int .i64 1)))⟩,
     ⟨(some 9), some undefA, none, false, .pu (.mov (.s 39))⟩]))))))
 (.seq (.ops [⟨(some 64), some undefA, none, false, .call 14 []⟩,
   ⟨(some 4), some undefA, none, false, .pu (.mov (.s 64))⟩])
 (.ret)))))))⟩
theorem t3 : trF Try.prog [2, 3] [] Try.f3 = some m3 := by kernel_rfl
/-- selion/selionlaw06.KnifeMarks [] -/
def m4 : MFun := ⟨88, [3, 4, 5, 7, 10, 13, 15], [.mov (.s 6)],
 .seq (.ops [⟨(some 3), some (.junk), none, false, .pu (.bnew (.s 0))⟩,
   ⟨(some 4), some (.junk), none, false, .pu (.bnew (.s 1))⟩,
   ⟨(some 5), some (.junk), none, false, .pu (.bnew (.s 2))⟩,
   ⟨(some 6), some undefA, none, false, .pu (.mov (.c (.bool false)))⟩])
 (.seq (.seq (.ops [⟨(some 17), some undefA, none, false, .pu (.bget none 3 0 2 true)⟩,
   ⟨(some 18), some undefA, none, false, .call 13 [(.s 17)]⟩])
 (.cond (.s 18) (.seq (.ops [⟨(some 19), some undefA, none, false, .call 14 []⟩,
    ⟨(some 6), some undefA, none, false, .pu (.mov (.s 19))⟩])
  (.ret))
 (.skip)))
 (.seq (.ops [⟨(some 21), some undefA, none, false, .pu (.bget none 3 0 2 true)⟩,
   ⟨(some 22), some undefA, none, false, .pu (.badr none 4)⟩,
   ⟨(some 23), some undefA, none, false, .pu (.bget (some 22) 4 0 1 false)⟩,
   ⟨(some 24), some undefA, none, false, .pu (.badr none 4)⟩,
   ⟨(some 25), some undefA, none, false, .pu (.bget (some 24) 4 1 2 true)⟩,
   ⟨(some 26), some undefA, none, false, .pu (.badr none 5)⟩,
   ⟨(some 27), some undefA, none, false, .pu (.bget (some 26) 5 0 1 false)⟩,
   ⟨(some 28), some undefA, none, false, .pu (.badr none 5)⟩,
   ⟨(some 29), some undefA, none, false, .pu (.bget (some 28) 5 1 1 false)⟩,
   ⟨(some 30), some undefA, none, false, .call 20 [(.s 21), (.s 23), (.s 25), (.s 27), (.s 29)]⟩,
   ⟨(some 20), some undefA, none, false, .pu (.mov (.s 30))⟩,
   ⟨(some 31), some undefA, none, false, .pu (.extr 0 (.s 20))⟩,
   ⟨(some 32), some undefA, none, false, .pu (.extr 1 (.s 20))⟩,
   ⟨(some 33), some undefA, none, false, .pu (.extr 2 (.s 20))⟩,
   ⟨(some 7), some (.junk), none, false, .pu (.bnew (.c (.agg [.int .i64 0, .int .i64 0])))⟩,
   ⟨(some 7), none, none, false, .pu (.bset none 7 0 2 (.s 31))⟩,
   ⟨(some 8), some undefA, none, false, .pu (.mov (.s 32))⟩,
   ⟨(some 9), some undefA, none, false, .pu (.mov (.s 33))⟩])
 (.seq (.ops [⟨(some 35), some undefA, none, false, .pu (.bget none 3 0 2 true)⟩,
   ⟨(some 36), some undefA, none, false, .pu (.badr none 4)⟩,
   ⟨(some 37), some undefA, none, false, .pu (.bget (some 36) 4 0 1 false)⟩,
   ⟨(some 38), some undefA, none, false, .pu (.badr none 4)⟩,
   ⟨(some 39), some undefA, none, false, .pu (.bget (some 38) 4 1 2 true)⟩,
   ⟨(some 40), some undefA, none, false, .pu (.badr none 5)⟩,
   ⟨(some 41), some undefA, none, false, .pu (.bget (some 40) 5 0 1 false)⟩,
   ⟨(some 42), some undefA, none, false, .pu (.badr none 5)⟩,
   ⟨(some 43), some undefA, none, false, .pu (.bget (some 42) 5 1 1 false)⟩,
   ⟨(some 44), some undefA, none, false, .call 21 [(.s 35), (.s 37), (.s 39), (.s 41), (.s 43)]⟩,
   ⟨(some 34), some undefA, none, false, .pu (.mov (.s 44))⟩,
   ⟨(some 45), some undefA, none, false, .pu (.extr 0 (.s 34))⟩,
   ⟨(some 46), some undefA, none, false, .pu (.extr 1 (.s 34))⟩,
   ⟨(some 47), some undefA, none, false, .pu (.extr 2 (.s 34))⟩,
   ⟨(some 10), some (.junk), none, false, .pu (.bnew (.c (.agg [.int .i64 0, .int .i64 0])))⟩,
   ⟨(some 10), none, none, false, .pu (.bset none 10 0 2 (.s 45))⟩,
   ⟨(some 11), some undefA, none, false, .pu (.mov (.s 46))⟩,
   ⟨(some 12), some undefA, none, false, .pu (.mov (.s 47))⟩])
 (.seq (.ops [⟨(some 49), some undefA, none, false, .pu (.bget none 3 0 2 true)⟩,
   ⟨(some 50), some undefA, none, false, .pu (.badr none 4)⟩,
   ⟨(some 51), some undefA, none, false, .pu (.bget (some 50) 4 0 1 false)⟩,
   ⟨(some 52), some undefA, none, false, .call 22 [(.s 49), (.s 51)]⟩,
   ⟨(some 48), some undefA, none, false, .pu (.mov (.s 52))⟩,
   ⟨(some 53), some undefA, none, false, .pu (.extr 0 (.s 48))⟩,
   ⟨(some 54), some undefA, none, false, .pu (.extr 1 (.s 48))⟩,
   ⟨(some 13), some (.junk), none, false, .pu (.bnew (.c (.agg [.int .i64 0, .int .i64 0])))⟩,
   ⟨(some 13), none, none, false, .pu (.bset none 13 0 2 (.s 53))⟩,
   ⟨(some 14), some undefA, none, false, .pu (.mov (.s 54))⟩])
 (.seq (.ops [⟨(some 56), some undefA, none, false, .pu (.bget none 3 0 2 true)⟩,
   ⟨(some 57), some undefA, none, false, .pu (.badr none 4)⟩,
   ⟨(some 58), some undefA, none, false, .pu (.bget (some 57) 4 0 1 false)⟩,
   ⟨(some 59), some undefA, none, false, .call 23 [(.s 56), (.s 58)]⟩,
   ⟨(some 55), some undefA, none, false, .pu (.mov (.s 59))⟩,
   ⟨(some 60), some undefA, none, false, .pu (.extr 0 (.s 55))⟩,
   ⟨(some 61), some undefA, none, false, .pu (.extr 1 (.s 55))⟩,
   ⟨(some 15), some (.junk), none, false, .pu (.bnew (.c (.agg [.int .i64 0, .int .i64 0])))⟩,
   ⟨(some 15), none, none, false, .pu (.bset none 15 0 2 (.s 60))⟩,
   ⟨(some 16), some undefA, none, false, .pu (.mov (.s 61))⟩])
 (.seq (.ops [⟨(some 62), some undefA, none, false, .pu (.bget none 7 0 2 true)⟩,
   ⟨(some 63), some undefA, none, false, .pu (.bget none 10 0 2 true)⟩,
   ⟨(some 64), some undefA, none, false, .pu (.eqs false [true, true] (.s 62) (.s 63))⟩,
   ⟨(some 65), some undefA, none, false, .pu (.mov (.s 64))⟩,
   ⟨(some 66), some undefA, (some (65, true)), false, .pu (.mov (.s 8))⟩,
   ⟨(some 67), some undefA, (some (65, true)), false, .pu (.mov (.s 11))⟩,
   ⟨(some 68), some undefA, (some (65, true)), false, .pu (.eqb false (.s 66) (.s 67))⟩,
   ⟨(some 69), some undefA, none, false, .pu (.pick (.s 65) (.s 68) (.c (.bool false)))⟩,
   ⟨(some 70), some undefA, none, false, .pu (.mov (.s 69))⟩,
   ⟨(some 71), some undefA, (some (70, true)), false, .pu (.mov (.s 9))⟩,
   ⟨(some 72), some undefA, (some (70, true)), false, .pu (.mov (.s 12))⟩,
   ⟨(some 73), some undefA, (some (70, true)), false, .pu (.bin .eql (.s 71) (.s 72))⟩,
   ⟨(some 74), some undefA, none, false, .pu (.pick (.s 70) (.s 73) (.c (.bool false)))⟩,
   ⟨(some 75), some undefA, none, false, .pu (.mov (.s 74))⟩,
   ⟨(some 76), some undefA, (some (75, true)), false, .pu (.bget none 13 0 2 true)⟩,
   ⟨(some 77), some undefA, (some (75, true)), false, .pu (.bget none 15 0 2 true)⟩,
   ⟨(some 78), some undefA, (some (75, true)), false, .pu (.eqs false [true, true] (.s 76) (.s 77))⟩,
   ⟨(some 79), some undefA, none, false, .pu (.pick (.s 75) (.s 78) (.c (.bool false)))⟩,
   ⟨(some 80), some undefA, none, false, .pu (.mov (.s 79))⟩,
   ⟨(some 81), some undefA, (some (80, true)), false, .pu (.mov (.s 14))⟩,
   ⟨(some 82), some undefA, (some (80, true)), false, .pu (.mov (.s 16))⟩,
   ⟨(some 83), some undefA, (some (80, true)), false, .pu (.bin .eql (.s 81) (.s 82))⟩,
   ⟨(some 84), some undefA, none, false, .pu (.pick (.s 80) (.s 83) (.c (.bool false)))⟩,
   ⟨(some 85), some undefA, none, false, .pu (.mov (.s 84))⟩,
   ⟨(some 86), some undefA, (some (85, true)), false, .call 14 []⟩,
   ⟨(some 87), some undefA, none, false, .pu (.pick (.s 85) (.s 86) (.c (.bool false)))⟩,
   ⟨(some 6), some undefA, none, false, .pu (.mov (.s 87))⟩])
 (.ret)))))))⟩
theorem t4 : trF Try.prog [3, 4, 5, 7, 10, 13, 15] [] Try.f4 = some m4 := by kernel_rfl
/-- selion/selionlaw06.KnifeWorths [] -/
def m5 : MFun := ⟨52, [2, 3, 5, 7], [.mov (.s 4)],
 .seq (.ops [⟨(some 2), some (.junk), none, false, .pu (.bnew (.s 0))⟩,
   ⟨(some 3), some (.junk), none, false, .pu (.bnew (.s 1))⟩,
   ⟨(some 4), some undefA, none, false, .pu (.mov (.c (.bool false)))⟩])
 (.seq (.seq (.ops [⟨(some 9), some undefA, none, false, .pu (.bget none 2 0 2 true)⟩,
   ⟨(some 10), some undefA, none, false, .call 13 [(.s 9)]⟩])
 (.cond (.s 10) (.seq (.ops [⟨(some 11), some undefA, none, false, .call 14 []⟩,
    ⟨(some 4), some undefA, none, false, .pu (.mov (.s 11))⟩])
  (.ret))
 (.skip)))
 (.seq (.ops [⟨(some 13), some undefA, none, false, .pu (.bget none 2 0 2 true)⟩,
   ⟨(some 14), some undefA, none, false, .pu (.badr none 3)⟩,
   ⟨(some 15), some undefA, none, false, .pu (.bget (some 14) 3 0 1 false)⟩,
   ⟨(some 16), some undefA, none, false, .pu (.badr none 3)⟩,
   ⟨(some 17), some undefA, none, false, .pu (.bget (some 16) 3 1 2 true)⟩,
   ⟨(some 18), some undefA, none, false, .pu (.badr none 3)⟩,
   ⟨(some 19), some undefA, none, false, .pu (.bget (some 18) 3 3 2 true)⟩,
   ⟨(some 20), some undefA, none, false, .call 24 [(.s 13), (.s 15), (.s 17), (.s 19)]⟩,
   ⟨(some 12), some undefA, none, false, .pu (.mov (.s 20))⟩,
   ⟨(some 21), some undefA, none, false, .pu (.extr 0 (.s 12))⟩,
   ⟨(some 22), some undefA, none, false, .pu (.extr 1 (.s 12))⟩,
   ⟨(some 5), some (.junk), none, false, .pu (.bnew (.c (.agg [.int .i64 0, .int .i64 0])))⟩,
   ⟨(some 5), none, none, false, .pu (.bset none 5 0 2 (.s 21))⟩,
   ⟨(some 6), some undefA, none, false, .pu (.mov (.s 22))⟩])
 (.seq (.ops [⟨(some 24), some undefA, none, false, .pu (.bget none 2 0 2 true)⟩,
   ⟨(some 25), some undefA, none, false, .pu (.badr none 3)⟩,
   ⟨(some 26), some undefA, none, false, .pu (.bget (some 25) 3 0 1 false)⟩,
   ⟨(some 27), some undefA, none, false, .pu (.badr none 3)⟩,
   ⟨(some 28), some undefA, none, false, .pu (.bget (some 27) 3 1 2 true)⟩,
   ⟨(some 29), some undefA, none, false, .pu (.badr none 3)⟩,
   ⟨(some 30), some undefA, none, false, .pu (.bget (some 29) 3 3 2 true)⟩,
   ⟨(some 31), some undefA, none, false, .call 25 [(.s 24), (.s 26), (.s 28), (.s 30)]⟩,
   ⟨(some 23), some undefA, none, false, .pu (.mov (.s 31))⟩,
   ⟨(some 32), some undefA, none, false, .pu (.extr 0 (.s 23))⟩,
   ⟨(some 33), some undefA, none, false, .pu (.extr 1 (.s 23))⟩,
   ⟨(some 7), some (.junk), none, false, .pu (.bnew (.c (.agg [.int .i64 0, .int .i64 0])))⟩,
   ⟨(some 7), none, none, false, .pu (.bset none 7 0 2 (.s 32))⟩,
   ⟨(some 8), some undefA, none, false, .pu (.mov (.s 33))⟩])
 (.seq (.ops [⟨(some 34), some undefA, none, false, .pu (.bget none 2 0 2 true)⟩,
   ⟨(some 35), some undefA, none, false, .call 26 [(.s 34)]⟩,
   ⟨(some 36), some undefA, none, false, .pu (.bget none 2 0 2 true)⟩,
   ⟨(some 37), some undefA, none, false, .call 27 [(.s 36)]⟩,
   ⟨(some 38), some undefA, none, false, .pu (.bin .eql (.s 35) (.s 37))⟩,
   ⟨(some 39), some undefA, none, false, .pu (.mov (.s 38))⟩,
   ⟨(some 40), some undefA, (some (39, true)), false, .pu (.bget none 5 0 2 true)⟩,
   ⟨(some 41), some undefA, (some (39, true)), false, .pu (.bget none 7 0 2 true)⟩,
   ⟨(some 42), some undefA, (some (39, true)), false, .pu (.eqs false [true, true] (.s 40) (.s 41))⟩,
   ⟨(some 43), some undefA, none, false, .pu (.pick (.s 39) (.s 42) (.c (.bool false)))⟩,
   ⟨(some 44), some undefA, none, false, .pu (.mov (.s 43))⟩,
   ⟨(some 45), some undefA, (some (44, true)), false, .pu (.mov (.s 6))⟩,
   ⟨(some 46), some undefA, (some (44, true)), false, .pu (.mov (.s 8))⟩,
   ⟨(some 47), some undefA, (some (44, true)), false, .pu (.bin .eql (.s 45) (.s 46))⟩,
   ⟨(some 48), some undefA, none, false, .pu (.pick (.s 44) (.s 47) (.c (.bool false)))⟩,
   ⟨(some 49), some undefA, none, false, .pu (.mov (.s 48))⟩,
   ⟨(some 50), some undefA, (some (49, true)), false, .call 14 []⟩,
   ⟨(some 51), some undefA, none, false, .pu (.pick (.s 49) (.s 50) (.c (.bool false)))⟩,
   ⟨(some 4), some undefA, none, false, .pu (.mov (.s 51))⟩])
 (.ret)))))⟩
/-- selion/selionlaw06.KnifeEvens [] -/
def m6 : MFun := ⟨59, [1], [.mov (.s 2)],
 .seq (.ops [⟨(some 1), some (.junk), none, false, .pu (.bnew (.s 0))⟩,
   ⟨(some 2), some undefA, none, false, .pu (.mov (.c (.bool false)))⟩])
 (.seq (.seq (.ops [⟨(some 9), some undefA, none, false, .pu (.bget none 1 0 2 true)⟩,
   ⟨(some 10), some undefA, none, false, .call 13 [(.s 9)]⟩])
 (.cond (.s 10) (.seq (.ops [⟨(some 11), some undefA, none, false, .call 14 []⟩,
    ⟨(some 2), some undefA, none, false, .pu (.mov (.s 11))⟩])
  (.ret))
 (.skip)))
 (.seq (.ops [⟨(some 13), some undefA, none, false, .pu (.bget none 1 0 2 true)⟩,
   ⟨(some 14), some undefA, none, false, .call 28 [(.s 13)]⟩,
   ⟨(some 12), some undefA, none, false, .pu (.mov (.s 14))⟩,
   ⟨(some 15), some undefA, none, false, .pu (.extr 0 (.s 12))⟩,
   ⟨(some 16), some undefA, none, false, .pu (.extr 1 (.s 12))⟩,
   ⟨(some 3), some undefA, none, false, .pu (.mov (.s 15))⟩,
   ⟨(some 4), some undefA, none, false, .pu (.mov (.s 16))⟩])
 (.seq (.ops [⟨(some 18), some undefA, none, false, .pu (.bget none 1 0 2 true)⟩,
   ⟨(some 19), some undefA, none, false, .call 29 [(.s 18)]⟩,
   ⟨(some 17), some undefA, none, false, .pu (.mov (.s 19))⟩,
   ⟨(some 20), some undefA, none, false, .pu (.extr 0 (.s 17))⟩,
   ⟨(some 21), some undefA, none, false, .pu (.extr 1 (.s 17))⟩,
   ⟨(some 5), some undefA, none, false, .pu (.mov (.s 20))⟩,
   ⟨(some 6), some undefA, none, false, .pu (.mov (.s 21))⟩])
 (.seq (.seq (.ops [⟨(some 22), some undefA, none, false, .pu (.mov (.s 4))⟩,
   ⟨(some 23), some undefA, none, false, .pu (.mov (.s 6))⟩,
   ⟨(some 24), some undefA, none, false, .pu (.bin .neq (.s 22) (.s 23))⟩,
   ⟨(some 25), some undefA, none, false, .pu (.mov (.s 24))⟩,
   ⟨(some 26), some undefA, (some (25, false)), false, .pu (.mov (.s 3))⟩,
   ⟨(some 27), some undefA, (some (25, false)), false, .pu (.mov (.s 5))⟩,
   ⟨(some 28), some undefA, (some (25, false)), false, .call 30 [(.s 26), (.s 27)]⟩,
   ⟨(some 29), some undefA, (some (25, false)), false, .pu (.not (.s 28))⟩,
   ⟨(some 30), some undefA, none, false, .pu (.pick (.s 25) (.c (.bool true)) (.s 29))⟩])
 (.cond (.s 30) (.seq (.ops [⟨(some 2), some undefA, none, false, .pu (.mov (.c (.bool false)))⟩])
  (.ret))
 (.skip)))
 (.seq (.seq (.ops [⟨(some 31), some undefA, none, false, .pu (.mov (.s 4))⟩,
   ⟨(some 32), some undefA, none, false, .pu (.bin .neq (.s 31) (.c (.int .i64 0)))⟩])
 (.cond (.s 32) (.seq (.ops [⟨(some 33), some undefA, none, false, .call 14 []⟩,
    ⟨(some 2), some undefA, none, false, .pu (.mov (.s 33))⟩])
  (.ret))
 (.skip)))
 (.seq (.ops [⟨(some 35), some undefA, none, false, .pu (.bget none 1 0 2 true)⟩,
   ⟨(some 36), some undefA, none, false, .pu (.mov (.s 3))⟩,
   ⟨(some 37), some undefA, none, false, .call 31 [(.s 35), (.s 36)]⟩,
   ⟨(some 34), some undefA, none, false, .pu (.mov (.s 37))⟩,
   ⟨(some 38), some undefA, none, false, .pu (.extr 0 (.s 34))⟩,
   ⟨(some 39), some undefA, none, false, .pu (.extr 1 (.s 34))⟩,
   ⟨(some 7), some undefA, none, false, .pu (.mov (.s 38))⟩,
   ⟨(some 8), some undefA, none, false, .pu (.mov (.s 39))⟩])
 (.seq (.ops [⟨(some 40), some undefA, none, false, .pu (.mov (.s 8))⟩,
   ⟨(some 41), some undefA, none, false, .pu (.bin .eql (.s 40) (.c (.int .i64 0)))⟩,
   ⟨(some 42), some undefA, none, false, .pu (.mov (.s 41))⟩,
   ⟨(some 43), some undefA, (some (42, true)), false, .pu (.mov (.s 7))⟩,
   ⟨(some 44), some undefA, (some (42, true)), false, .pu (.len (.s 43))⟩,
   ⟨(some 45), some undefA, (some (42, true)), false, .pu (.bin .eql (.s 44) (.c (.int .i64 2)))⟩,
   ⟨(some 46), some undefA, none, false, .pu (.pick (.s 42) (.s 45) (.c (.bool false)))⟩,
   ⟨(some 47), some undefA, none, false, .pu (.mov (.s 46))⟩,
   ⟨(some 48), some undefA, (some (47, true)), true, .pu (.mov (.s 7))⟩,
   ⟨(some 49), some undefA, (some (47, true)), true, .pu (.idx 2 (.s 48) (.c (.int .i64 0)))⟩,
   ⟨(some 50), some undefA, (some (47, true)), true, .ld (.ld 2 true (.s 49))⟩,
   ⟨(some 51), some undefA, (some (47, true)), true, .pu (.mov (.s 7))⟩,
   ⟨(some 52), some undefA, (some (47, true)), true, .pu (.idx 2 (.s 51) (.c (.int .i64 1)))⟩,
   ⟨(some 53), some undefA, (some (47, true)), true, .ld (.ld 2 true (.s 52))⟩,
   ⟨(some 54), some undefA, (some (47, true)), false, .pu (.eqs false [true, true] (.s 50) (.s 53))⟩,
   ⟨(some 55), some undefA, none, false, .pu (.pick (.s 47) (.s 54) (.c (.bool false)))⟩,
   ⟨(some 56), some undefA, none, false, .pu (.mov (.s 55))⟩,
   ⟨(some 57), some undefA, (some (56, true)), false, .call 14 []⟩,
   ⟨(some 58), some undefA, none, false, .pu (.pick (.s 56) (.s 57) (.c (.bool false)))⟩,
   ⟨(some 2), some undefA, none, false, .pu (.mov (.s 58))⟩])
 (.ret))))))))⟩
/-- selion/selionlaw06.KnifeKnives [] -/
def m7 : MFun := ⟨54, [1], [.mov (.s 2)],
 .seq (.ops [⟨(some 1), some (.junk), none, false, .pu (.bnew (.s 0))⟩,
   ⟨(some 2), some undefA, none, false, .pu (.mov (.c (.bool false)))⟩])
 (.seq (.seq (.ops [⟨(some 9), some undefA, none, false, .pu (.bget none 1 0 2 true)⟩,
   ⟨(some 10), some undefA, none, false, .call 13 [(.s 9)]⟩])
 (.cond (.s 10) (.seq (.ops [⟨(some 11), some undefA, none, false, .call 14 []⟩,
    ⟨(some 2), some undefA, none, false, .pu (.mov (.s 11))⟩])
  (.ret))
 (.skip)))
 (.seq (.ops [⟨(some 13), some undefA, none, false, .pu (.bget none 1 0 2 true)⟩,
   ⟨(some 14), some undefA, none, false, .call 32 [(.s 13)]⟩,
   ⟨(some 12), some undefA, none, false, .pu (.mov (.s 14))⟩,
   ⟨(some 15), some undefA, none, false, .pu (.extr 0 (.s 12))⟩,
   ⟨(some 16), some undefA, none, false, .pu (.extr 1 (.s 12))⟩,
   ⟨(some 3), some undefA, none, false, .pu (.mov (.s 15))⟩,
   ⟨(some 4), some undefA, none, false, .pu (.mov (.s 16))⟩])
 (.seq (.ops [⟨(some 18), some undefA, none, false, .pu (.bget none 1 0 2 true)⟩,
   ⟨(some 19), some undefA, none, false, .call 33 [(.s 18)]⟩,
   ⟨(some 17), some undefA, none, false, .pu (.mov (.s 19))⟩,
   ⟨(some 20), some undefA, none, false, .pu (.extr 0 (.s 17))⟩,
   ⟨(some 21), some undefA, none, false, .pu (.extr 1 (.s 17))⟩,
   ⟨(some 5), some undefA, none, false, .pu (.mov (.s 20))⟩,
   ⟨(some 6), some undefA, none, false, .pu (.mov (.s 21))⟩])
 (.seq (.seq (.ops [⟨(some 22), some undefA, none, false, .pu (.mov (.s 4))⟩,
   ⟨(some 23), some undefA, none, false, .pu (.mov (.s 6))⟩,
   ⟨(some 24), some undefA, none, false, .pu (.bin .neq (.s 22) (.s 23))⟩,
   ⟨(some 25), some undefA, none, false, .pu (.mov (.s 24))⟩,
   ⟨(some 26), some undefA, (some (25, false)), false, .pu (.mov (.s 3))⟩,
   ⟨(some 27), some undefA, (some (25, false)), false, .pu (.mov (.s 5))⟩,
   ⟨(some 28), some undefA, (some (25, false)), false, .call 30 [(.s 26), (.s 27)]⟩,
   ⟨(some 29), some undefA, (some (25, false)), false, .pu (.not (.s 28))⟩,
   ⟨(some 30), some undefA, none, false, .pu (.pick (.s 25) (.c (.bool true)) (.s 29))⟩])
 (.cond (.s 30) (.seq (.ops [⟨(some 2), some undefA, none, false, .pu (.mov (.c (.bool false)))⟩])
  (.ret))
 (.skip)))
 (.seq (.seq (.ops [⟨(some 31), some undefA, none, false, .pu (.mov (.s 4))⟩,
   ⟨(some 32), some undefA, none, false, .pu (.bin .neq (.s 31) (.c (.int .i64 0)))⟩])
 (.cond (.s 32) (.seq (.ops [⟨(some 33), some undefA, none, false, .call 14 []⟩,
    ⟨(some 2), some undefA, none, false, .pu (.mov (.s 33))⟩])
  (.ret))
 (.skip)))
 (.seq (.ops [⟨(some 35), some undefA, none, false, .pu (.bget none 1 0 2 true)⟩,
   ⟨(some 36), some undefA, none, false, .pu (.mov (.s 3))⟩,
   ⟨(some 37), some undefA, none, false, .call 34 [(.s 35), (.s 36)]⟩,
   ⟨(some 34), some undefA, none, false, .pu (.mov (.s 37))⟩,
   ⟨(some 38), some undefA, none, false, .pu (.extr 0 (.s 34))⟩,
   ⟨(some 39), some undefA, none, false, .pu (.extr 1 (.s 34))⟩,
   ⟨(some 7), some undefA, none, false, .pu (.mov (.s 38))⟩,
   ⟨(some 8), some undefA, none, false, .pu (.mov (.s 39))⟩])
 (.seq (.ops [⟨(some 40), some undefA, none, false, .pu (.bget none 1 0 2 true)⟩,
   ⟨(some 41), some undefA, none, false, .pu (.mov (.s 3))⟩,
   ⟨(some 42), some undefA, none, false, .call 35 [(.s 40), (.s 41)]⟩,
   ⟨(some 43), some undefA, none, false, .pu (.bin .eql (.s 42) (.c (.int .i64 0)))⟩,
   ⟨(some 44), some undefA, none, false, .pu (.mov (.s 43))⟩,
   ⟨(some 45), some undefA, (some (44, true)), false, .pu (.mov (.s 8))⟩,
   ⟨(some 46), some undefA, (some (44, true)), false, .pu (.bin .eql (.s 45) (.c (.int .i64 0)))⟩,
   ⟨(some 47), some undefA, none, false, .pu (.pick (.s 44) (.s 46) (.c (.bool false)))⟩,
   ⟨(some 48), some undefA, none, false, .pu (.mov (.s 47))⟩,
   ⟨(some 49), some undefA, (some (48, true)), false, .pu (.mov (.s 7))⟩,
   ⟨(some 50), some undefA, none, false, .pu (.pick (.s 48) (.s 49) (.c (.bool false)))⟩,
   ⟨(some 51), some undefA, none, false, .pu (.mov (.s 50))⟩,
   ⟨(some 52), some undefA, (some (51, true)), false, .call 14 []⟩,
   ⟨(some 53), some undefA, none, false, .pu (.pick (.s 51) (.s 52) (.c (.bool false)))⟩,
   ⟨(some 2), some undefA, none, false, .pu (.mov (.s 53))⟩])
 (.ret))))))))⟩
/-- selion/selionlaw06.KnifeSums [loop [1, 2, 3, 7, 8, 9], loop [1, 2, 3, 7, 8, 10]] -/
def m8 : MFun := ⟨123, [3, 7, 11, 13], [.mov (.s 6)],
 .seq (.ops [⟨(some 3), some (.junk), none, false, .pu (.bnew (.s 0))⟩,
   ⟨(some 6), some undefA, none, false, .pu (.mov (.c (.bool false)))⟩])
 (.seq (.seq (.ops [⟨(some 15), some undefA, none, false, .pu (.bget none 3 0 2 true)⟩,
   ⟨(some 16), some undefA, none, false, .call 13 [(.s 15)]⟩,
   ⟨(some 17), some undefA, none, false, .pu (.mov (.s 16))⟩,
   ⟨(some 18), some undefA, (some (17, false)), false, .pu (.mov (.s 1))⟩,
   ⟨(some 19), some undefA, (some (17, false)), false, .pu (.len (.s 18))⟩,
   ⟨(some 20), some undefA, (some (17, false)), false, .pu (.bin .gtr (.s 19) (.c (.int .i64 100)))⟩,
   ⟨(some 21), some undefA, none, false, .pu (.pick (.s 17) (.c (.bool true)) (.s 20))⟩,
   ⟨(some 22), some undefA, none, false, .pu (.mov (.s 21))⟩,
   ⟨(some 23), some undefA, (some (22, false)), false, .pu (.bget none 3 0 2 true)⟩,
   ⟨(some 24), some undefA, (some (22, false)), false, .pu (.mov (.s 1))⟩,
   ⟨(some 25), some undefA, (some (22, false)), false, .call 35 [(.s 23), (.s 24)]⟩,
   ⟨(some 26), some undefA, (some (22, false)), false, .pu (.bin .neq (.s 25) (.c (.int .i64 0)))⟩,
   ⟨(some 27), some undefA, none, false, .pu (.pick (.s 22) (.c (.bool true)) (.s 26))⟩,
   ⟨(some 28), some undefA, none, false, .pu (.mov (.s 27))⟩,
   ⟨(some 29), some undefA, (some (28, false)), false, .pu (.mov (.s 2))⟩,
   ⟨(some 30), some undefA, (some (28, false)), false, .pu (.bin .lss (.s 29) (.c (.int .i64 0)))⟩,
   ⟨(some 31), some undefA, none, false, .pu (.pick (.s 28) (.c (.bool true)) (.s 30))⟩,
   ⟨(some 32), some undefA, none, false, .pu (.mov (.s 31))⟩,
   ⟨(some 33), some undefA, (some (32, false)), false, .pu (.mov (.s 2))⟩,
   ⟨(some 34), some undefA, (some (32, false)), false, .pu (.badr none 3)⟩,
   ⟨(some 35), some undefA, (some (32, false)), false, .pu (.bget (some 34) 3 1 1 false)⟩,
   ⟨(some 36), some undefA, (some (32, false)), false, .pu (.len (.s 35))⟩,
   ⟨(some 37), some undefA, (some (32, false)), false, .pu (.bin .geq (.s 33) (.s 36))⟩,
   ⟨(some 38), some undefA, none, false, .pu (.pick (.s 32) (.c (.bool true)) (.s 37))⟩])
 (.cond (.s 38) (.seq (.ops [⟨(some 39), some undefA, none, false, .call 14 []⟩,
    ⟨(some 6), some undefA, none, false, .pu (.mov (.s 39))⟩])
  (.ret))
 (.skip)))
 (.seq (.ops [⟨(some 40), some undefA, none, false, .call 36 [(.c (.int .i64 0))]⟩,
   ⟨(some 7), some (.junk), none, false, .pu (.bnew (.c (.agg [.int .i64 0, .int .i64 0])))⟩,
   ⟨(some 7), none, none, false, .pu (.bset none 7 0 2 (.s 40))⟩,
   ⟨(some 8), some undefA, none, false, .pu (.mov (.c (.int .i64 0)))⟩])
 (.seq (.seq (.ops [⟨(some 9), some undefA, none, false, .pu (.mov (.c (.int .i64 0)))⟩])
 (.block 0 (.loop (.seq (.seq (.ops [⟨(some 41), some undefA, none, false, .pu (.mov (.s 9))⟩,
     ⟨(some 42), some undefA, none, false, .pu (.badr none 3)⟩,
     ⟨(some 43), some undefA, none, false, .pu (.bget (some 42) 3 0 1 false)⟩,
     ⟨(some 44), some undefA, none, false, .pu (.len (.s 43))⟩,
     ⟨(some 45), some undefA, none, false, .pu (.bin .lss (.s 41) (.s 44))⟩])
   (.cond (.s 45) (.skip)
   (.exit 0)))
   (.seq (.block 1 (.ops [⟨(some 48), some undefA, none, false, .pu (.mov (.s 8))⟩,
      ⟨(some 49), some undefA, none, false, .pu (.badr none 3)⟩,
      ⟨(some 50), some undefA, none, false, .pu (.bget (some 49) 3 0 1 false)⟩,
      ⟨(some 51), some undefA, none, false, .pu (.mov (.s 9))⟩,
      ⟨(some 52), some undefA, none, false, .pu (.idx 1 (.s 50) (.s 51))⟩,
      ⟨(some 53), some undefA, none, false, .ld (.ld 1 false (.s 52))⟩,
      ⟨(some 54), some undefA, none, false, .pu (.bin .add (.s 48) (.s 53))⟩,
      ⟨(some 8), some undefA, none, false, .pu (.mov (.s 54))⟩]))
   (.ops [⟨(some 46), some undefA, none, false, .pu (.mov (.s 9))⟩,
     ⟨(some 47), some undefA, none, false, .pu (.bin .add (.s 46) (.c (.int .i64 1)))⟩,
     ⟨(some 9), some undefA, none, false, .pu (.mov (.s 47))⟩]))))))
 (.seq (.seq (.ops [⟨(some 10), some undefA, none, false, .pu (.mov (.c (.int .i64 0)))⟩])
 (.block 2 (.loop (.seq (.seq (.ops [⟨(some 55), some undefA, none, false, .pu (.mov (.s 10))⟩,
     ⟨(some 56), some undefA, none, false, .pu (.mov (.s 1))⟩,
     ⟨(some 57), some undefA, none, false, .pu (.len (.s 56))⟩,
     ⟨(some 58), some undefA, none, false, .pu (.bin .lss (.s 55) (.s 57))⟩])
   (.cond (.s 58) (.skip)
   (.exit 2)))
   (.seq (.block 3 (.seq (.ops [⟨(some 62), some undefA, none, true, .pu (.bget none 3 0 2 true)⟩,
      ⟨(some 63), some undefA, none, true, .pu (.mov (.s 2))⟩,
      ⟨(some 64), some undefA, none, true, .pu (.mov (.s 1))⟩,
      ⟨(some 65), some undefA, none, true, .pu (.mov (.s 10))⟩,
      ⟨(some 66), some undefA, none, true, .pu (.idx 5 (.s 64) (.s 65))⟩,
      ⟨(some 67), some undefA, none, true, .pu (.fad 1 (.s 66))⟩,
      ⟨(some 68), some undefA, none, true, .ld (.ld 2 true (.s 67))⟩,
      ⟨(some 69), some undefA, none, true, .pu (.mov (.s 1))⟩,
      ⟨(some 70), some undefA, none, true, .pu (.mov (.s 10))⟩,
      ⟨(some 71), some undefA, none, true, .pu (.idx 5 (.s 69) (.s 70))⟩,
      ⟨(some 72), some undefA, none, true, .pu (.fad 3 (.s 71))⟩,
      ⟨(some 73), some undefA, none, true, .ld (.ld 2 true (.s 72))⟩,
      ⟨(some 74), some undefA, none, false, .call 24 [(.s 62), (.s 63), (.s 68), (.s 73)]⟩,
      ⟨(some 61), some undefA, none, false, .pu (.mov (.s 74))⟩,
      ⟨(some 75), some undefA, none, false, .pu (.extr 0 (.s 61))⟩,
      ⟨(some 76), some undefA, none, false, .pu (.extr 1 (.s 61))⟩,
      ⟨(some 11), some (.junk), none, true, .pu (.bnew (.c (.agg [.int .i64 0, .int .i64 0])))⟩,
      ⟨(some 11), none, none, false, .pu (.bset none 11 0 2 (.s 75))⟩,
      ⟨(some 12), some undefA, none, false, .pu (.mov (.s 76))⟩])
    (.seq (.seq (.ops [⟨(some 77), some undefA, none, false, .pu (.mov (.s 12))⟩,
      ⟨(some 78), some undefA, none, false, .pu (.bin .neq (.s 77) (.c (.int .i64 0)))⟩,
      ⟨(some 79), some undefA, none, false, .pu (.mov (.s 78))⟩,
      ⟨(some 80), some undefA, (some (79, false)), false, .pu (.badr none 11)⟩,
      ⟨(some 81), some undefA, (some (79, false)), false, .pu (.bget (some 80) 11 1 1 false)⟩,
      ⟨(some 82), some undefA, (some (79, false)), false, .pu (.bin .lss (.s 81) (.c (.int .i64 1)))⟩,
      ⟨(some 83), some undefA, none, false, .pu (.pick (.s 79) (.c (.bool true)) (.s 82))⟩,
      ⟨(some 84), some undefA, none, false, .pu (.mov (.s 83))⟩,
      ⟨(some 85), some undefA, (some (84, false)), false, .pu (.badr none 7)⟩,
      ⟨(some 86), some undefA, (some (84, false)), false, .pu (.bget (some 85) 7 1 1 false)⟩,
      ⟨(some 87), some undefA, (some (84, false)), false, .pu (.bin .lss (.s 86) (.c (.int .i64 1)))⟩,
      ⟨(some 88), some undefA, none, false, .pu (.pick (.s 84) (.c (.bool true)) (.s 87))⟩,
      ⟨(some 89), some undefA, none, false, .pu (.mov (.s 88))⟩,
      ⟨(some 90), some undefA, (some (89, false)), false, .pu (.bget none 11 0 2 true)⟩,
      ⟨(some 91), some undefA, (some (89, false)), false, .pu (.bget none 7 0 2 true)⟩,
      ⟨(some 92), some undefA, (some (89, false)), false, .ha (.blds 2 2 [.int .i64 0, .int .i64 0] [(0, 2, (.s 90)), (2, 2, (.s 91))])⟩,
      ⟨(some 93), some undefA, (some (89, false)), false, .call 18 [(.s 92)]⟩,
      ⟨(some 94), some undefA, (some (89, false)), false, .pu (.not (.s 93))⟩,
      ⟨(some 95), some undefA, none, false, .pu (.pick (.s 89) (.c (.bool true)) (.s 94))⟩,
      ⟨(some 96), some undefA, none, false, .pu (.mov (.s 95))⟩,
      ⟨(some 97), some undefA, (some (96, false)), false, .pu (.badr none 11)⟩,
      ⟨(some 98), some undefA, (some (96, false)), false, .pu (.bget (some 97) 11 0 1 false)⟩,
      ⟨(some 99), some undefA, (some (96, false)), false, .pu (.bin .lss (.s 98) (.c (.int .i64 0)))⟩,
      ⟨(some 100), some undefA, none, false, .pu (.pick (.s 96) (.c (.bool true)) (.s 99))⟩])
    (.cond (.s 100) (.seq (.ops [⟨(some 6), some undefA, none, false, .pu (.mov (.c (.bool false)))⟩])
     (.ret))
    (.skip)))
    (.ops [⟨(some 101), some undefA, none, false, .pu (.bget none 7 0 2 true)⟩,
      ⟨(some 102), some undefA, none, false, .pu (.bget none 11 0 2 true)⟩,
      ⟨(some 103), some undefA, none, false, .call 37 [(.s 101), (.s 102)]⟩,
      ⟨(some 7), none, none, false, .pu (.bset none 7 0 2 (.s 103))⟩]))))
   (.ops [⟨(some 59), some undefA, none, false, .pu (.mov (.s 10))⟩,
     ⟨(some 60), some undefA, none, false, .pu (.bin .add (.s 59) (.c (.int .i64 1)))⟩,
     ⟨(some 10), some undefA, none, false, .pu (.mov (.s 60))⟩]))))))
 (.seq (.ops [⟨(some 105), some undefA, none, false, .pu (.bget none 3 0 2 true)⟩,
   ⟨(some 106), some undefA, none, false, .pu (.mov (.s 2))⟩,
   ⟨(some 107), some undefA, none, false, .call 36 [(.c (.int .i64 0))]⟩,
   ⟨(some 108), some undefA, none, false, .pu (.mov (.s 8))⟩,
   ⟨(some 109), some undefA, none, false, .call 36 [(.s 108)]⟩,
   ⟨(some 110), some undefA, none, false, .call 24 [(.s 105), (.s 106), (.s 107), (.s 109)]⟩,
   ⟨(some 104), some undefA, none, false, .pu (.mov (.s 110))⟩,
   ⟨(some 111), some undefA, none, false, .pu (.extr 0 (.s 104))⟩,
   ⟨(some 112), some undefA, none, false, .pu (.extr 1 (.s 104))⟩,
   ⟨(some 13), some (.junk), none, false, .pu (.bnew (.c (.agg [.int .i64 0, .int .i64 0])))⟩,
   ⟨(some 13), none, none, false, .pu (.bset none 13 0 2 (.s 111))⟩,
   ⟨(some 14), some undefA, none, false, .pu (.mov (.s 112))⟩])
 (.seq (.ops [⟨(some 113), some undefA, none, false, .pu (.mov (.s 14))⟩,
   ⟨(some 114), some undefA, none, false, .pu (.bin .eql (.s 113) (.c (.int .i64 0)))⟩,
   ⟨(some 115), some undefA, none, false, .pu (.mov (.s 114))⟩,
   ⟨(some 116), some undefA, (some (115, true)), false, .pu (.bget none 7 0 2 true)⟩,
   ⟨(some 117), some undefA, (some (115, true)), false, .pu (.bget none 13 0 2 true)⟩,
   ⟨(some 118), some undefA, (some (115, true)), false, .pu (.eqs false [true, true] (.s 116) (.s 117))⟩,
   ⟨(some 119), some undefA, none, false, .pu (.pick (.s 115) (.s 118) (.c (.bool false)))⟩,
   ⟨(some 120), some undefA, none, false, .pu (.mov (.s 119))⟩,
   ⟨(some 121), some undefA, (some (120, true)), false, .call 14 []⟩,
   ⟨(some 122), some undefA, none, false, .pu (.pick (.s 120) (.s 121) (.c (.bool false)))⟩,
   ⟨(some 6), some undefA, none, false, .pu (.mov (.s 122))⟩])
 (.ret)))))))⟩
/-- selion/selionlaw06.KnifeWithout [loop [2, 3, 5, 9]] -/
def m10 : MFun := ⟨91, [2, 3, 5, 7, 11, 13], [.mov (.s 4)],
 .seq (.ops [⟨(some 2), some (.junk), none, false, .pu (.bnew (.s 0))⟩,
   ⟨(some 3), some (.junk), none, false, .pu (.bnew (.s 1))⟩,
   ⟨(some 4), some undefA, none, false, .pu (.mov (.c (.bool false)))⟩])
 (.seq (.seq (.ops [⟨(some 15), some undefA, none, false, .pu (.bget none 2 0 2 true)⟩,
   ⟨(some 16), some undefA, none, false, .call 13 [(.s 15)]⟩])
 (.cond (.s 16) (.seq (.ops [⟨(some 17), some undefA, none, false, .call 14 []⟩,
    ⟨(some 4), some undefA, none, false, .pu (.mov (.s 17))⟩])
  (.ret))
 (.skip)))
 (.seq (.ops [⟨(some 19), some undefA, none, false, .pu (.bget none 2 0 2 true)⟩,
   ⟨(some 20), some undefA, none, false, .pu (.badr none 3)⟩,
   ⟨(some 21), some undefA, none, false, .pu (.bget (some 20) 3 0 1 false)⟩,
   ⟨(some 22), some undefA, none, false, .call 43 [(.s 19), (.s 21)]⟩,
   ⟨(some 18), some undefA, none, false, .pu (.mov (.s 22))⟩,
   ⟨(some 23), some undefA, none, false, .pu (.extr 0 (.s 18))⟩,
   ⟨(some 24), some undefA, none, false, .pu (.extr 1 (.s 18))⟩,
   ⟨(some 5), some (.junk), none, false, .pu (.bnew (.c (.agg [.nilS, .nilS])))⟩,
   ⟨(some 5), none, none, false, .pu (.bset none 5 0 2 (.s 23))⟩,
   ⟨(some 6), some undefA, none, false, .pu (.mov (.s 24))⟩])
 (.seq (.ops [⟨(some 26), some undefA, none, false, .pu (.bget none 2 0 2 true)⟩,
   ⟨(some 27), some undefA, none, false, .pu (.badr none 3)⟩,
   ⟨(some 28), some undefA, none, false, .pu (.bget (some 27) 3 0 1 false)⟩,
   ⟨(some 29), some undefA, none, false, .call 44 [(.s 26), (.s 28)]⟩,
   ⟨(some 25), some undefA, none, false, .pu (.mov (.s 29))⟩,
   ⟨(some 30), some undefA, none, false, .pu (.extr 0 (.s 25))⟩,
   ⟨(some 31), some undefA, none, false, .pu (.extr 1 (.s 25))⟩,
   ⟨(some 7), some (.junk), none, false, .pu (.bnew (.c (.agg [.nilS, .nilS])))⟩,
   ⟨(some 7), none, none, false, .pu (.bset none 7 0 2 (.s 30))⟩,
   ⟨(some 8), some undefA, none, false, .pu (.mov (.s 31))⟩])
 (.seq (.seq (.ops [⟨(some 32), some undefA, none, false, .pu (.mov (.s 6))⟩,
   ⟨(some 33), some undefA, none, false, .pu (.mov (.s 8))⟩,
   ⟨(some 34), some undefA, none, false, .pu (.bin .neq (.s 32) (.s 33))⟩,
   ⟨(some 35), some undefA, none, false, .pu (.mov (.s 34))⟩,
   ⟨(some 36), some undefA, (some (35, false)), false, .pu (.bget none 5 0 2 true)⟩,
   ⟨(some 37), some undefA, (some (35, false)), false, .pu (.bget none 7 0 2 true)⟩,
   ⟨(some 38), some undefA, (some (35, false)), false, .call 45 [(.s 36), (.s 37)]⟩,
   ⟨(some 39), some undefA, (some (35, false)), false, .pu (.not (.s 38))⟩,
   ⟨(some 40), some undefA, none, false, .pu (.pick (.s 35) (.c (.bool true)) (.s 39))⟩])
 (.cond (.s 40) (.seq (.ops [⟨(some 4), some undefA, none, false, .pu (.mov (.c (.bool false)))⟩])
  (.ret))
 (.skip)))
 (.seq (.seq (.ops [⟨(some 41), some undefA, none, false, .pu (.mov (.s 6))⟩,
   ⟨(some 42), some undefA, none, false, .pu (.bin .neq (.s 41) (.c (.int .i64 0)))⟩])
 (.cond (.s 42) (.seq (.ops [⟨(some 43), some undefA, none, false, .call 14 []⟩,
    ⟨(some 4), some undefA, none, false, .pu (.mov (.s 43))⟩])
  (.ret))
 (.skip)))
 (.seq (.seq (.ops [⟨(some 9), some undefA, none, false, .pu (.mov (.c (.int .i64 0)))⟩])
 (.block 0 (.loop (.seq (.seq (.ops [⟨(some 44), some undefA, none, false, .pu (.mov (.s 9))⟩,
     ⟨(some 45), some undefA, none, false, .pu (.badr none 2)⟩,
     ⟨(some 46), some undefA, none, false, .pu (.bget (some 45) 2 1 1 false)⟩,
     ⟨(some 47), some undefA, none, false, .pu (.len (.s 46))⟩,
     ⟨(some 48), some undefA, none, false, .pu (.bin .lss (.s 44) (.s 47))⟩])
   (.cond (.s 48) (.skip)
   (.exit 0)))
   (.seq (.block 1 (.seq (.seq (.ops [⟨(some 51), some undefA, none, false, .pu (.mov (.s 9))⟩,
      ⟨(some 52), some undefA, none, false, .pu (.badr none 3)⟩,
      ⟨(some 53), some undefA, none, false, .pu (.bget (some 52) 3 0 1 false)⟩,
      ⟨(some 54), some undefA, none, false, .pu (.bin .eql (.s 51) (.s 53))⟩])
    (.cond (.s 54) (.exit 1)
    (.skip)))
    (.seq (.ops [⟨(some 55), some undefA, none, false, .pu (.mov (.s 9))⟩,
      ⟨(some 10), some undefA, none, false, .pu (.mov (.s 55))⟩])
    (.seq (.seq (.ops [⟨(some 56), some undefA, none, false, .pu (.mov (.s 9))⟩,
      ⟨(some 57), some undefA, none, false, .pu (.badr none 3)⟩,
      ⟨(some 58), some undefA, none, false, .pu (.bget (some 57) 3 0 1 false)⟩,
      ⟨(some 59), some undefA, none, false, .pu (.bin .gtr (.s 56) (.s 58))⟩])
    (.cond (.s 59) (.ops [⟨(some 60), some undefA, none, false, .pu (.mov (.s 10))⟩,
       ⟨(some 61), some undefA, none, false, .pu (.bin .sub (.s 60) (.c (.int .i64 1)))⟩,
       ⟨(some 10), some undefA, none, false, .pu (.mov (.s 61))⟩])
    (.skip)))
    (.seq (.ops [⟨(some 63), some undefA, none, false, .pu (.bget none 2 0 2 true)⟩,
      ⟨(some 64), some undefA, none, false, .pu (.mov (.s 9))⟩,
      ⟨(some 65), some undefA, none, false, .pu (.badr none 3)⟩,
      ⟨(some 66), some undefA, none, false, .pu (.bget (some 65) 3 1 2 true)⟩,
      ⟨(some 67), some undefA, none, false, .pu (.badr none 3)⟩,
      ⟨(some 68), some undefA, none, false, .pu (.bget (some 67) 3 3 2 true)⟩,
      ⟨(some 69), some undefA, none, false, .call 24 [(.s 63), (.s 64), (.s 66), (.s 68)]⟩,
      ⟨(some 62), some undefA, none, false, .pu (.mov (.s 69))⟩,
      ⟨(some 70), some undefA, none, false, .pu (.extr 0 (.s 62))⟩,
      ⟨(some 71), some undefA, none, false, .pu (.extr 1 (.s 62))⟩,
      ⟨(some 11), some (.junk), none, false, .pu (.bnew (.c (.agg [.int .i64 0, .int .i64 0])))⟩,
      ⟨(some 11), none, none, false, .pu (.bset none 11 0 2 (.s 70))⟩,
      ⟨(some 12), some undefA, none, false, .pu (.mov (.s 71))⟩])
    (.seq (.ops [⟨(some 73), some undefA, none, false, .pu (.bget none 5 0 2 true)⟩,
      ⟨(some 74), some undefA, none, false, .pu (.mov (.s 10))⟩,
      ⟨(some 75), some undefA, none, false, .pu (.badr none 3)⟩,
      ⟨(some 76), some undefA, none, false, .pu (.bget (some 75) 3 1 2 true)⟩,
      ⟨(some 77), some undefA, none, false, .pu (.badr none 3)⟩,
      ⟨(some 78), some undefA, none, false, .pu (.bget (some 77) 3 3 2 true)⟩,
      ⟨(some 79), some undefA, none, false, .call 24 [(.s 73), (.s 74), (.s 76), (.s 78)]⟩,
      ⟨(some 72), some undefA, none, false, .pu (.mov (.s 79))⟩,
      ⟨(some 80), some undefA, none, false, .pu (.extr 0 (.s 72))⟩,
      ⟨(some 81), some undefA, none, false, .pu (.extr 1 (.s 72))⟩,
      ⟨(some 13), some (.junk), none, false, .pu (.bnew (.c (.agg [.int .i64 0, .int .i64 0])))⟩,
      ⟨(some 13), none, none, false, .pu (.bset none 13 0 2 (.s 80))⟩,
      ⟨(some 14), some undefA, none, false, .pu (.mov (.s 81))⟩])
    (.seq (.ops [⟨(some 82), some undefA, none, false, .pu (.bget none 11 0 2 true)⟩,
      ⟨(some 83), some undefA, none, false, .pu (.bget none 13 0 2 true)⟩,
      ⟨(some 84), some undefA, none, false, .pu (.eqs true [true, true] (.s 82) (.s 83))⟩,
      ⟨(some 85), some undefA, none, false, .pu (.mov (.s 84))⟩,
      ⟨(some 86), some undefA, (some (85, false)), false, .pu (.mov (.s 12))⟩,
      ⟨(some 87), some undefA, (some (85, false)), false, .pu (.mov (.s 14))⟩,
      ⟨(some 88), some undefA, (some (85, false)), false, .pu (.bin .neq (.s 86) (.s 87))⟩,
      ⟨(some 89), some undefA, none, false, .pu (.pick (.s 85) (.c (.bool true)) (.s 88))⟩])
    (.cond (.s 89) (.seq (.ops [⟨(some 4), some undefA, none, false, .pu (.mov (.c (.bool false)))⟩])
     (.ret))
    (.skip)))))))))
   (.ops [⟨(some 49), some undefA, none, false, .pu (.mov (.s 9))⟩,
     ⟨(some 50), some undefA, none, false, .pu (.bin .add (.s 49) (.c (.int .i64 1)))⟩,
     ⟨(some 9), some undefA, none, false, .pu (.mov (.s 50))⟩]))))))
 (.seq (.ops [⟨(some 90), some undefA, none, false, .call 14 []⟩,
   ⟨(some 4), some undefA, none, false, .pu (.mov (.s 90))⟩])
 (.ret))))))))⟩
theorem t10 : trF Try.prog [2, 3, 5, 7, 11, 13] [] Try.f10 = some m10 := by kernel_rfl
end Go.Proofs.Ytmblehbjedpjoaa

namespace Go.Proofs.Ytmblehbjedpjoaa
open Go Go.Eng
section
variable {L : List Int} {ws : List (AV × List Int)} {x y : AV} {A : AHeap}
def longK (L : List Int) (ws : List (AV × List Int)) : Prop := ((100 : Int) < L.length ∨ (100 : Int) < ws.length) ∨ ∃ w ∈ ws, (100 : Int) < w.2.length
instance (L : List Int) (ws : List (AV × List Int)) : Decidable (longK L ws) := by unfold longK; exact inferInstance
theorem Sz_of (h : ¬ longK L ws) : Sz L ws := by
  refine ⟨?_, ?_, fun w hw => ?_⟩
  · have : ¬ (100 : Int) < L.length := fun h1 => h (.inl (.inl h1))
    omega
  · have : ¬ (100 : Int) < ws.length := fun h1 => h (.inl (.inr h1))
    omega
  · have : ¬ (100 : Int) < w.2.length := fun h1 => h (.inr ⟨w, hw, h1⟩)
    omega
theorem c_Long (hL : L1 A x L) (hV : LL A y ws) (hl : ws.length ≤ 9223372036854775807) : ACalls Try.prog 13 [.agg [x, y]] A (B (decide (longK L ws))) A := by
  refine acalls hmix Try.func13 (by kernel_rfl) t13 1 rfl (by decide) ?_
  by_cases h1 : (100 : Int) < L.length
  · dsimp only [m13]
    simp (maxSteps := 4000000) -implicitDefEqProofs -dsimp (disch := omega) only [↓AW_ops, ↓AW_seq, ↓AW_cond, ↓AW_ret, ↓AOps_nil, ↓AOps_pu, ↓AOps_guard, on_some, guardB_tf, skipS_some, condB_t, ↓then_normal, ↓then_ret, ↓Fin_ret, pval, rd_S, rd_C, put_S, resV, resL, chkd, isAdr, bgot, AV.cells?, partA, eq_self, List.replicate_succ, List.replicate_zero, List.set_cons_zero, List.set_cons_succ, List.getElem?_cons_zero, List.getElem?_cons_succ, List.drop_zero, List.take_zero, List.take_succ_cons, Option.getD_some, List.length_cons, List.length_nil, Nat.reduceAdd, Nat.reduceSub, Nat.reduceLeDiff, Nat.zero_add, List.cons_append, List.nil_append, bin_gtr, if_true, if_false, Bool.false_eq_true, decide_true, hL.len, h1]
    exact gc_same (by rw [decide_eq_true (show longK L ws from .inl (.inl h1))])
  by_cases h2 : (100 : Int) < ws.length
  · dsimp only [m13]
    simp (maxSteps := 4000000) -implicitDefEqProofs -dsimp (disch := omega) only [↓AW_ops, ↓AW_seq, ↓AW_cond, ↓AW_ret, ↓AOps_nil, ↓AOps_pu, ↓AOps_guard, on_some, guardB_ff, condB_t, ↓then_normal, ↓then_ret, ↓Fin_ret, pval, rd_S, rd_C, put_S, resV, resL, chkd, isAdr, bgot, AV.cells?, partA, eq_self, List.replicate_succ, List.replicate_zero, List.set_cons_zero, List.set_cons_succ, List.getElem?_cons_zero, List.getElem?_cons_succ, List.drop_zero, List.drop_succ_cons, List.take_zero, List.take_succ_cons, List.take_nil, Option.getD_some, List.length_cons, List.length_nil, Nat.reduceAdd, Nat.reduceSub, Nat.reduceLeDiff, Nat.zero_add, List.cons_append, List.nil_append, bin_gtr, if_true, if_false, Bool.false_eq_true, decide_true, decide_false, hL.len, h1, hV.ls.len, h2]
    exact gc_same (by rw [decide_eq_true (show longK L ws from .inl (.inr h2))])
  dsimp only [m13]
  simp (maxSteps := 4000000) -implicitDefEqProofs -dsimp (disch := omega) only [↓AW_skip, ↓AW_ops, ↓AW_seq, ↓AW_cond, ↓AW_block, ↓AOps_nil, ↓AOps_pu, ↓AOps_guard, on_some, guardB_ff, condB_f, ↓then_normal, pval, rd_S, rd_C, put_S, ↓AW_toLoop, chkd, isAdr, bgot, AV.cells?, partA, eq_self, List.replicate_succ, List.replicate_zero, List.set_cons_zero, List.set_cons_succ, List.getElem?_cons_zero, List.getElem?_cons_succ, List.drop_zero, List.drop_succ_cons, List.take_zero, List.take_succ_cons, List.take_nil, Option.getD_some, List.length_cons, List.length_nil, Nat.reduceAdd, Nat.reduceSub, Nat.reduceLeDiff, Nat.zero_add, List.cons_append, List.nil_append, bin_gtr, if_true, if_false, Bool.false_eq_true, decide_false, hL.len, h1, hV.ls.len, h2]
  refine LoopK.by 28 (fun i : Nat => i ≤ ws.length ∧ ∀ w ∈ ws.take i, ¬ (100 : Int) < w.2.length) (fun i => [(1, .agg [x, y]), (3, I i)]) (fun _ => A) (fun i => ws.length - i) 0 ⟨by omega, by simp⟩ rfl (by simp [Has, rd_s]) rfl ?_
  rintro i ⟨hi, he⟩
  by_cases hlt : i < ws.length
  · obtain ⟨w, hz⟩ : ∃ z, ws[i]? = some z := ⟨_, List.getElem?_eq_getElem hlt⟩
    have hlt' : (i : Int) < ws.length := by omega
    have hm := List.mem_of_getElem? hz
    by_cases h : (100 : Int) < w.2.length
    · simp (maxSteps := 4000000) -implicitDefEqProofs -dsimp (disch := omega) only [↓AW_skip, ↓AW_ops, ↓AW_seq, ↓AW_cond, ↓AW_block, ↓AW_ret, ↓AOps_nil, ↓AOps_pu, ↓AOps_ld, on_some, condB_t, ↓then_normal, ↓then_ret, ↓inBlock_ret, ↓Fin_ret, pval, lval, rd_S, rd_C, put_S, resV, resL, chkd, isAdr, bgot, AV.cells?, partA, eq_self, mk, List.foldl_cons, List.foldl_nil, List.replicate_succ, List.replicate_zero, List.set_cons_zero, List.set_cons_succ, List.getElem?_cons_zero, List.getElem?_cons_succ, List.drop_zero, List.drop_succ_cons, List.take_succ_cons, List.take_nil, Option.getD_some, List.length_cons, List.length_nil, Nat.reduceAdd, Nat.reduceLeDiff, Nat.zero_add, bin_lss, bin_gtr, if_true, if_false, Bool.false_eq_true, decide_true, hlt', hV.ls.len, hV.ls.idx hlt, hV.ls.ld0 hz 1 false (by decide), e0, (hV.inn w hm).len, h]
      exact gc_same (by rw [decide_eq_true (show longK L ws from .inr ⟨w, hm, h⟩)])
    · simp (maxSteps := 4000000) -implicitDefEqProofs -dsimp (disch := omega) only [↓AW_skip, ↓AW_ops, ↓AW_seq, ↓AW_cond, ↓AW_block, ↓AOps_nil, ↓AOps_pu, ↓AOps_ld, on_some, condB_t, condB_f, ↓then_normal, ↓inBlock_normal, pval, lval, rd_S, rd_C, put_S, chkd, isAdr, bgot, AV.cells?, partA, eq_self, mk, List.foldl_cons, List.foldl_nil, List.replicate_succ, List.replicate_zero, List.set_cons_zero, List.set_cons_succ, List.getElem?_cons_zero, List.getElem?_cons_succ, List.drop_zero, List.drop_succ_cons, List.take_succ_cons, List.take_nil, Option.getD_some, List.length_cons, List.length_nil, Nat.reduceAdd, Nat.reduceLeDiff, Nat.zero_add, bin_add, bin_lss, bin_gtr, w64, if_true, if_false, Bool.false_eq_true, decide_true, decide_false, true_and, hlt', hV.ls.len, hV.ls.idx hlt, hV.ls.ld0 hz 1 false (by decide), e0, (hV.inn w hm).len, h]
      refine ⟨i + 1, ⟨hlt, fun u hu => ?_⟩, by simp [Has, rd_s], by omega⟩
      rcases (take_mem hz).1 hu with hu | rfl
      · exact he u hu
      · exact h
  · have hlt' : ¬ ((i : Int) < ws.length) := by omega
    simp (maxSteps := 4000000) -implicitDefEqProofs -dsimp (disch := omega) only [↓AW_ops, ↓AW_seq, ↓AW_cond, ↓AW_exit, ↓AW_ret, ↓AOps_nil, ↓AOps_pu, on_some, condB_f, ↓then_normal, ↓then_exit, ↓inBlock_exit, ↓Fin_ret, pval, rd_S, rd_C, put_S, resV, resL, chkd, isAdr, bgot, AV.cells?, partA, eq_self, mk, List.foldl_cons, List.foldl_nil, List.replicate_succ, List.replicate_zero, List.set_cons_zero, List.set_cons_succ, List.getElem?_cons_zero, List.getElem?_cons_succ, List.drop_zero, List.drop_succ_cons, List.take_succ_cons, List.take_nil, Option.getD_some, List.length_cons, List.length_nil, Nat.reduceAdd, Nat.reduceLeDiff, Nat.zero_add, bin_lss, if_true, if_false, Bool.false_eq_true, decide_false, hlt', hV.ls.len]
    rw [List.take_of_length_le (by omega)] at he
    refine gc_same ?_
    rw [decide_eq_false]
    rintro ((h | h) | ⟨w, hw, h⟩)
    · exact h1 h
    · exact h2 h
    · exact he w hw h
theorem wV_agg (V : List (List Int)) (o : Int) (r s : Int × Int) : ∃ a b, wV L V o r s = .agg [I a, I b] := by
  unfold wV; split
  · exact ⟨_, _, rfl⟩
  · exact ⟨_, _, rfl⟩
end
end Go.Proofs.Ytmblehbjedpjoaa

namespace Go.Proofs.Ytmblehbjedpjoaa
open Go Go.Eng
/-- A part of a field's worth. -/
def pw (f : List (Int × Int)) (n m : Int) : Rat := ((tot f * n : Int) : Rat) / (m : Rat)
theorem pw_wh {f : List (Int × Int)} (hg : good f) {n m : Int} (hn : 0 ≤ n ∧ n ≤ m) (hm : 1 ≤ m ∧ m ≤ 100) : Wh (pw f n m) := by
  have ht := tot_bound hg
  have hmp := cast_pos (show 0 < m by omega)
  have h1 : 0 ≤ tot f * n := Int.mul_nonneg ht.1 hn.1
  have h2 : tot f * n ≤ 2400 * m := Int.mul_le_mul ht.2 hn.2 hn.1 (by omega)
  have hc : pw f n m * (m : Rat) = ((tot f * n : Int) : Rat) := Rat.div_mul_cancel (cast_ne (by omega))
  refine ⟨?_, ?_, ?_⟩
  · unfold pw
    rw [Rat.div_def]; exact Rat.mul_nonneg (cast_nonneg h1) (Rat.le_of_lt (Rat.inv_pos.2 hmp))
  · refine Rat.le_of_mul_le_mul_right ?_ hmp
    rw [hc, ← Rat.intCast_mul]
    exact Rat.intCast_le_intCast.2 h2
  · have := (ratio_le (tot f * n) m (by omega)).2
    unfold pw
    omega
section
variable {L : List Int} {ws : List (AV × List Int)} {x y : AV} {A : AHeap}
theorem mul_small {f : List (Int × Int)} (hg : good f) {n : Int} (hn : 0 ≤ n ∧ n ≤ 100) : 0 ≤ tot f * n ∧ tot f * n ≤ 240000 := by
  have ht := tot_bound hg
  exact ⟨Int.mul_nonneg ht.1 hn.1, Int.mul_le_mul ht.2 hn.2 hn.1 (by omega)⟩
theorem c_rmark (hL : L1 A x L) (hV : LL A y ws) (h : KG L (lists ws)) {o : Nat} {w : AV × List Int} (ho : ws[o]? = some w) (p : Rat) (hp : Pl (L.zip w.2) p) {n m : Int} (hn : 0 ≤ n ∧ n ≤ m) (hm : 1 ≤ m ∧ m ≤ 100) :
    ACalls Try.prog 63 [.agg [x, y], I o, R p, I n, I m] A (.tuple [oR (plc (L.zip w.2) p (pw (L.zip w.2) n m)), B (plc (L.zip w.2) p (pw (L.zip w.2) n m)).isSome]) A := by
  refine acalls hmix Try.func63 (by kernel_rfl) t63 5 rfl (by decide) ?_
  have hmr := mem_lists (List.mem_of_getElem? ho)
  have hg := h.gd hmr
  have hms := mul_small hg (n := n) (by omega)
  have hcm : n * tot (L.zip w.2) = tot (L.zip w.2) * n := Int.mul_comm _ _
  dsimp only [m63]
  simp (maxSteps := 4000000) -implicitDefEqProofs -dsimp (disch := omega) only [↓AW_ops, ↓AW_seq, ↓AOps_nil, ↓AOps_pu, ↓AOps_call, on_some, ↓then_normal, pval, rd_S, rd_C, put_S, chkd, bgot, AV.cells?, partA, eq_self, List.replicate_succ, List.replicate_zero, List.set_cons_zero, List.set_cons_succ, List.getElem?_cons_zero, List.getElem?_cons_succ, List.drop_zero, List.take_succ_cons, List.take_nil, Option.getD_some, map_c, map_n, List.length_cons, List.length_nil, Nat.reduceAdd, Nat.reduceSub, Nat.reduceLeDiff, Nat.reduceEqDiff, Nat.zero_add, List.cons_append, List.nil_append, if_true, if_false]
  refine CallK.of (c_units hL hV h ho) ?_
  have hu := units_ls A (L.zip w.2)
  have hpr := pre_out A ((units (L.zip w.2)).flatMap e1) (units (L.zip w.2)).length
  generalize outV 1 A (units (L.zip w.2)).length = u at *
  generalize outH A ((units (L.zip w.2)).flatMap e1) (units (L.zip w.2)).length = A1 at *
  simp (maxSteps := 4000000) -implicitDefEqProofs -dsimp (disch := omega) only [↓AOps_pu, ↓AOps_call, on_some, extK_false, pval, rd_S, put_S, chkd, bgot, partA, eq_self, List.replicate_succ, List.replicate_zero, List.set_cons_zero, List.set_cons_succ, List.getElem?_cons_zero, List.getElem?_cons_succ, List.drop_zero, List.take_succ_cons, List.take_nil, Option.getD_some, map_c, map_n, List.length_cons, List.length_nil, Nat.reduceAdd, Nat.reduceSub, Nat.reduceLeDiff, Nat.reduceEqDiff, Nat.zero_add, List.cons_append, List.nil_append, if_true, if_false]
  refine CallK.of (c_all (hL.mono hpr) (hV.mono hpr) h ho) ?_
  simp (maxSteps := 4000000) -implicitDefEqProofs -dsimp (disch := omega) only [↓AOps_pu, ↓AOps_call, on_some, extK_same, pval, rd_S, put_S, List.replicate_succ, List.replicate_zero, List.set_cons_zero, List.set_cons_succ, List.getElem?_cons_zero, List.getElem?_cons_succ, Option.getD_some, map_c, map_n, Nat.reduceSub, List.cons_append, List.nil_append, bin_mul, w64, hcm]
  refine CallK.of (s80R _ ⟨by omega, by omega⟩ (by omega) (by omega) (by omega)) ?_
  simp (maxSteps := 4000000) -implicitDefEqProofs -dsimp (disch := omega) only [↓AOps_call, extK_same, rd_S, put_S, List.replicate_succ, List.replicate_zero, List.set_cons_zero, List.set_cons_succ, List.getElem?_cons_zero, List.getElem?_cons_succ, Option.getD_some, map_c, map_n, Nat.reduceSub, List.cons_append, List.nil_append]
  have hpw : ((tot (L.zip w.2) * n : Int) : Rat) / ((m : Int) : Rat) = pw (L.zip w.2) n m := rfl
  rw [hpw]
  refine CallK.of (c_Reach hu hg p _ hp (pw_wh hg hn hm)) ?_
  generalize plc (L.zip w.2) p (pw (L.zip w.2) n m) = r
  cases r with
  | none =>
    simp (maxSteps := 4000000) -implicitDefEqProofs -dsimp (disch := omega) only [↓AW_ret, ↓AOps_nil, ↓AOps_pu, on_some, extK_same, ↓then_normal, ↓Fin_ret, pval, rd_S, put_S, resV, resL, chkd, bput, bgot, AV.cells?, splice, partA, eq_self, List.replicate_succ, List.replicate_zero, List.set_cons_zero, List.set_cons_succ, List.getElem?_cons_zero, List.getElem?_cons_succ, List.drop_zero, List.drop_succ_cons, List.drop_nil, List.take_zero, List.take_succ_cons, List.take_nil, Option.getD_some, List.length_cons, List.length_nil, Nat.reduceAdd, Nat.reduceSub, Nat.reduceLeDiff, Nat.reduceEqDiff, Nat.zero_add, List.cons_append, List.nil_append, List.append_nil, if_true, if_false, ne_eq, not_true_eq_false, oR, zeroR]
    exact gc_val hpr rfl
  | some z =>
    simp (maxSteps := 4000000) -implicitDefEqProofs -dsimp (disch := omega) only [↓AW_ret, ↓AOps_nil, ↓AOps_pu, on_some, extK_same, ↓then_normal, ↓Fin_ret, pval, rd_S, put_S, resV, resL, chkd, bput, bgot, AV.cells?, splice, partA, eq_self, List.replicate_succ, List.replicate_zero, List.set_cons_zero, List.set_cons_succ, List.getElem?_cons_zero, List.getElem?_cons_succ, List.drop_zero, List.drop_succ_cons, List.drop_nil, List.take_zero, List.take_succ_cons, List.take_nil, Option.getD_some, List.length_cons, List.length_nil, Nat.reduceAdd, Nat.reduceSub, Nat.reduceLeDiff, Nat.reduceEqDiff, Nat.zero_add, List.cons_append, List.nil_append, List.append_nil, if_true, if_false, ne_eq, not_true_eq_false, oR]
    exact gc_val hpr rfl
/-- What halves are. -/
def hP (f : List (Int × Int)) : Option Rat := plc f ((0 : Int) : Rat) (pw f 1 2)
end
end Go.Proofs.Ytmblehbjedpjoaa

namespace Go.Proofs.Ytmblehbjedpjoaa
open Go Go.Eng
theorem take_succ_eq {α : Type} {xs ys : List α} {i : Nat} {z w : α} (hz : xs[i]? = some z) (hw : ys[i]? = some w) : xs.take (i + 1) = ys.take (i + 1) ↔ xs.take i = ys.take i ∧ z = w := by
  rw [List.take_add_one, List.take_add_one, hz, hw]
  have hi : i < xs.length := (List.getElem?_eq_some_iff.1 hz).1
  have hj : i < ys.length := (List.getElem?_eq_some_iff.1 hw).1
  constructor
  · intro h
    have := List.append_inj h (by simp; omega)
    exact ⟨this.1, by simpa using this.2⟩
  · rintro ⟨h1, rfl⟩
    rw [h1]
theorem pair_beq {z w : Int × Int} (h : z ≠ w) : (z.1 == w.1 && z.2 == w.2) = false := by
  cases hb : (z.1 == w.1 && z.2 == w.2) with
  | false => rfl
  | true => simp at hb; exact absurd (Prod.ext hb.1 hb.2) h
theorem s17 {xs ys : List (Int × Int)} {v u : AV} {A : AHeap} (hx : L2 A v xs) (hy : L2 A u ys) (hl : xs.length ≤ 1000000) : ACalls Try.prog 17 [v, u] A (B (decide (xs = ys))) A := by
  refine acalls hmix Try.func17 (by kernel_rfl) t17 2 rfl (by decide) ?_
  by_cases hle : xs.length = ys.length
  · have hle' : (xs.length : Int) = ys.length := by omega
    dsimp only [m17]
    simp (maxSteps := 4000000) -implicitDefEqProofs -dsimp (disch := omega) only [↓AW_skip, ↓AW_ops, ↓AW_seq, ↓AW_cond, ↓AW_block, ↓AOps_nil, ↓AOps_pu, on_some, condB_f, ↓then_normal, pval, rd_S, rd_C, put_S, ↓AW_toLoop, eq_self, List.replicate_succ, List.replicate_zero, List.set_cons_zero, List.set_cons_succ, List.getElem?_cons_zero, List.getElem?_cons_succ, Option.getD_some, Nat.reduceSub, List.cons_append, List.nil_append, bin_neq, decide_false, not_true_eq_false, hx.len, hy.len, hle']
    refine LoopK.by 26 (fun i : Nat => i ≤ xs.length ∧ xs.take i = ys.take i) (fun i => [(0, v), (1, u), (5, I i)]) (fun _ => A) (fun i => xs.length - i) 0 ⟨by omega, rfl⟩ rfl (by simp [Has, rd_s]) rfl ?_
    rintro i ⟨hi, he⟩
    by_cases hlt : i < xs.length
    · obtain ⟨z, hz⟩ : ∃ z, xs[i]? = some z := ⟨_, List.getElem?_eq_getElem hlt⟩
      have hlt' : (i : Int) < xs.length := by omega
      have hlt2 : i < ys.length := by omega
      obtain ⟨w, hw⟩ : ∃ w, ys[i]? = some w := ⟨_, List.getElem?_eq_getElem hlt2⟩
      by_cases hzw : z = w
      · subst hzw
        simp (maxSteps := 4000000) -implicitDefEqProofs -dsimp (disch := omega) only [↓AW_skip, ↓AW_ops, ↓AW_seq, ↓AW_cond, ↓AW_block, ↓AOps_nil, ↓AOps_pu, ↓AOps_ld, on_some, condB_t, condB_f, ↓then_normal, ↓inBlock_normal, pval, lval, rd_S, rd_C, put_S, partA, eqc, beq_self_eq_true, eq_self, mk, List.foldl_cons, List.foldl_nil, List.replicate_succ, List.replicate_zero, List.set_cons_zero, List.set_cons_succ, List.getElem?_cons_zero, List.getElem?_cons_succ, List.drop_zero, List.take_succ_cons, List.take_nil, Option.getD_some, Option.map_some, List.length_cons, List.length_nil, Nat.reduceAdd, Nat.reduceLeDiff, Nat.reduceEqDiff, Nat.zero_add, bin_add, bin_lss, w64, if_true, if_false, Bool.not_true, Bool.true_and, decide_true, Go.Eng.e2, true_and, hlt', hx.len, hx.idx hlt, hx.ld0 hz 2 true (by decide), hy.idx hlt2, hy.ld0 hw 2 true (by decide)]
        exact ⟨i + 1, ⟨hlt, (take_succ_eq hz hw).2 ⟨he, rfl⟩⟩, by simp [Has, rd_s], by omega⟩
      · have hb := pair_beq hzw
        simp (maxSteps := 4000000) -implicitDefEqProofs -dsimp (disch := omega) only [↓AW_skip, ↓AW_ops, ↓AW_seq, ↓AW_cond, ↓AW_block, ↓AW_ret, ↓AOps_nil, ↓AOps_pu, ↓AOps_ld, on_some, condB_t, ↓then_normal, ↓then_ret, ↓inBlock_ret, ↓Fin_ret, pval, lval, rd_S, rd_C, put_S, resV, resL, partA, eqc, Bool.and_true, eq_self, mk, List.foldl_cons, List.foldl_nil, List.replicate_succ, List.replicate_zero, List.set_cons_zero, List.set_cons_succ, List.getElem?_cons_zero, List.getElem?_cons_succ, List.drop_zero, List.take_succ_cons, List.take_nil, Option.getD_some, Option.map_some, List.length_cons, List.length_nil, Nat.reduceAdd, Nat.reduceLeDiff, Nat.reduceEqDiff, Nat.zero_add, bin_lss, if_true, if_false, Bool.not_false, decide_true, Go.Eng.e2, hlt', hx.len, hx.idx hlt, hx.ld0 hz 2 true (by decide), hy.idx hlt2, hy.ld0 hw 2 true (by decide), hb]
        refine gc_same ?_
        have : ¬ xs = ys := by rintro rfl; rw [hz] at hw; exact hzw (Option.some.inj hw)
        simp [this]
    · have hlt' : ¬ ((i : Int) < xs.length) := by omega
      simp (maxSteps := 4000000) -implicitDefEqProofs -dsimp (disch := omega) only [↓AW_ops, ↓AW_seq, ↓AW_cond, ↓AW_exit, ↓AW_ret, ↓AOps_nil, ↓AOps_pu, on_some, condB_f, ↓then_normal, ↓then_exit, ↓inBlock_exit, ↓Fin_ret, pval, rd_S, rd_C, put_S, resV, resL, eq_self, mk, List.foldl_cons, List.foldl_nil, List.replicate_succ, List.replicate_zero, List.set_cons_zero, List.set_cons_succ, List.getElem?_cons_zero, List.getElem?_cons_succ, Option.getD_some, bin_lss, if_true, decide_false, hlt', hx.len]
      rw [List.take_of_length_le (by omega), List.take_of_length_le (by omega)] at he
      exact gc_same (by simp [he])
  · have hle' : ¬ (xs.length : Int) = ys.length := by omega
    dsimp only [m17]
    simp (maxSteps := 4000000) -implicitDefEqProofs -dsimp (disch := omega) only [↓AW_ops, ↓AW_seq, ↓AW_cond, ↓AW_ret, ↓AOps_nil, ↓AOps_pu, on_some, condB_t, ↓then_normal, ↓then_ret, ↓Fin_ret, pval, rd_S, rd_C, put_S, resV, resL, List.replicate_succ, List.replicate_zero, List.set_cons_zero, List.set_cons_succ, List.getElem?_cons_zero, List.getElem?_cons_succ, Option.getD_some, Nat.reduceSub, List.cons_append, List.nil_append, bin_neq, decide_true, not_false_eq_true, hx.len, hy.len, hle']
    have : ¬ xs = ys := by rintro rfl; exact hle rfl
    exact gc_same (by simp [this])
/-- What lies up to the place is worth what was asked. -/
theorem plc_worth {f : List (Int × Int)} (hg : good f) {p w x : Rat} (hp0 : 0 ≤ p) (hp1 : p ≤ ((len f : Int) : Rat)) (hw0 : 0 ≤ w) (h : plc f p w = some x) :
    p ≤ x ∧ x ≤ ((len f : Int) : Rat) ∧ upTo 0 f x = upTo 0 f p + w := by
  unfold plc at h
  split at h
  · rename_i h0
    have : p = x := Option.some.inj h
    subst this
    rw [zero_lt_agg h0, Rat.add_zero]
    exact ⟨Rat.le_refl, hp1, rfl⟩
  · rename_i h0
    have hwp : 0 < w := by
      have := Rat.num_nonneg.2 hw0
      exact num_pos_iff w |>.1 (by omega)
    have hbp := upTo_bounds hg 0 p
    have hl := len_units hg.2
    obtain ⟨_, ⟨h2, h3⟩, h4⟩ := rch_some _ (units f) 0 0 x (units_le hg.2) (by have : ((0 : Int) : Rat) = 0 := rfl; grind) h
    rw [upTo_units x f 0 hg.2] at h4
    have h5 : upTo 0 f x = upTo 0 f p + w := by rw [h4]; have : ((0 : Int) : Rat) = 0 := rfl; grind
    refine ⟨?_, by rw [Int.zero_add, hl] at h3; exact h3, h5⟩
    rcases Rat.le_total (a := p) (b := x) with h6 | h6
    · exact h6
    · have := upTo_mono h6 f 0 hg.2
      grind
end Go.Proofs.Ytmblehbjedpjoaa

namespace Go.Proofs.Ytmblehbjedpjoaa
open Go Go.Eng
/-- The parts of a fraction. -/
def rp (q : Rat) : Int × Int := (q.num, q.den)
theorem e2_rp (q : Rat) : e2 (rp q) = [I q.num, I (q.den : Int)] := rfl
/-- What a place of a worth is: behind where it began, within the field, and in bounds. -/
theorem plc_y {f : List (Int × Int)} (hg : good f) {p w z : Rat} (hp : Pl f p) (hw : Wh w) (h : plc f p w = some z) :
    p ≤ z ∧ z ≤ ((len f : Int) : Rat) ∧ upTo 0 f z = upTo 0 f p + w ∧ (z.num.natAbs ≤ 251658240000 ∧ z.den ≤ 2097152000) := by
  have hle := hp.le
  obtain ⟨h1, h2, h3⟩ := plc_worth hg hle.1 hle.2 hw.h0 h
  refine ⟨h1, h2, h3, ?_⟩
  have hlb := len_bound hg
  have hL : ((len f : Int) : Rat) ≤ ((120 : Int) : Rat) := Rat.intCast_le_intCast.2 hlb.2
  have hz0 : 0 ≤ z := Rat.le_trans hle.1 h1
  have hz1 : z ≤ ((120 : Int) : Rat) := Rat.le_trans h2 hL
  obtain ⟨D, hD, hDp, hDu, hDw⟩ := hw.dv hp
  have key : ∃ v : Int, (1 ≤ v ∧ v ≤ 20) ∧ Dv (D * v) z := by
    unfold plc at h
    split at h
    · have : p = z := Option.some.inj h
      subst this
      exact ⟨1, by omega, by rw [Int.mul_one]; exact hDp⟩
    · rename_i h0
      have hwp : 0 < w := by
        have := Rat.num_nonneg.2 hw.h0
        exact num_pos_iff w |>.1 (by omega)
      have hbp := upTo_bounds hg 0 p
      obtain ⟨⟨v, hv, b', a', hy⟩, _, _⟩ := rch_some _ (units f) 0 0 z (units_le hg.2) (by have : ((0 : Int) : Rat) = 0 := rfl; grind) h
      refine ⟨v, hv, ?_⟩
      rw [hy]
      exact (Dv_int _ _).add ((((hDu f).add hDw).sub (Dv_int _ _)).div v (by omega))
  obtain ⟨v, hv, hdv⟩ := key
  have hDv : D * v ≤ 104857600 * 20 := Int.mul_le_mul hD.2 hv.2 (by omega) (by omega)
  have hDv0 : 0 < D * v := Int.mul_pos hD.1 (by omega)
  have := num_le (M := 120) hDv0 hdv (int_neg_le_zero (by omega) hz0) hz1
  omega
section
variable {L : List Int} {ws : List (AV × List Int)} {x y : AV} {A : AHeap}
/-- Where an owner calls. -/
def cq (f : List (Int × Int)) (p : Rat) (n : Nat) : Rat := (plc f p (pw f 1 n)).getD ((len f : Int) : Rat)
def cqs (L : List Int) (V : List (List Int)) (p : Rat) : List Rat := V.map fun row => cq (L.zip row) p V.length
theorem cq_facts {f : List (Int × Int)} (hg : good f) {p : Rat} (hp : Pl f p) {n : Nat} (hn : 1 ≤ n ∧ n ≤ 5) : p ≤ cq f p n ∧ cq f p n ≤ ((len f : Int) : Rat) ∧ ((cq f p n).num.natAbs ≤ 251658240000 ∧ (cq f p n).den ≤ 2097152000) := by
  unfold cq
  have hw := pw_wh hg (n := 1) (m := n) (by omega) (by omega)
  cases h : plc f p (pw f 1 n) with
  | none =>
    have hlb := len_bound hg
    refine ⟨hp.le.2, Rat.le_refl, ?_, ?_⟩
    · show (len f).natAbs ≤ 251658240000
      omega
    · show 1 ≤ 2097152000
      omega
  | some z =>
    obtain ⟨h1, h2, _, h4⟩ := plc_y hg hp hw h
    exact ⟨h1, h2, h4⟩
theorem c_calls (hL : L1 A x L) (hV : LL A y ws) (h : KG L (lists ws)) (p : Rat) (hp : ∀ row ∈ lists ws, Pl (L.zip row) p) :
    ACalls Try.prog 52 [.agg [x, y], R p] A (outV 2 A ((cqs L (lists ws) p).map rp).length) (outH A (((cqs L (lists ws) p).map rp).flatMap e2) ((cqs L (lists ws) p).map rp).length) := by
  refine acalls hmix Try.func52 (by kernel_rfl) t52 2 rfl (by decide) ?_
  have hv5 := h.v5
  have hv1 := h.v1
  have hll : (lists ws).length = ws.length := by simp
  rw [hll] at hv5 hv1
  dsimp only [m52]
  simp (maxSteps := 4000000) -implicitDefEqProofs -dsimp (disch := omega) only [↓AW_ops, ↓AW_seq, ↓AW_block, ↓AOps_nil, ↓AOps_pu, on_some, ↓then_normal, pval, rd_S, rd_C, put_S, ↓AW_toLoop, chkd, isAdr, bgot, AV.cells?, partA, eq_self, List.replicate_succ, List.replicate_zero, List.set_cons_zero, List.set_cons_succ, List.getElem?_cons_zero, List.getElem?_cons_succ, List.drop_zero, List.drop_succ_cons, List.take_succ_cons, List.take_nil, Option.getD_some, List.length_cons, List.length_nil, Nat.reduceAdd, Nat.reduceSub, Nat.reduceLeDiff, Nat.zero_add, List.cons_append, List.nil_append, if_true, if_false, Bool.false_eq_true, hV.ls.len]
  refine LoopK.by 40 (fun z : Nat × AV × AHeap => z.1 ≤ ws.length ∧ AccL 2 e2 A z.2.2 z.2.1 ((cqs L (lists ws) p).take z.1 |>.map rp)) (fun z => [(2, .agg [x, y]), (3, R p), (5, z.2.1), (11, I ws.length), (12, I z.1)]) (fun z => z.2.2) (fun z => ws.length - z.1) (0, .nilS, A) ⟨by omega, AccL.nil (List.prefix_refl _)⟩ rfl (by simp [Has, rd_s]) rfl ?_
  rintro ⟨i, u, A1⟩ ⟨hi, hu⟩
  simp only at hi hu
  have hL1 := hL.mono hu.pre
  have hV1 := hV.mono hu.pre
  by_cases hlt : i < ws.length
  · obtain ⟨w, hz⟩ : ∃ z, ws[i]? = some z := ⟨_, List.getElem?_eq_getElem hlt⟩
    have hlt' : (i : Int) < ws.length := by omega
    have hmr := mem_lists (List.mem_of_getElem? hz)
    have hg := h.gd hmr
    have ht := tot_bound hg
    have hq : (cqs L (lists ws) p)[i]? = some (cq (L.zip w.2) p ws.length) := by simp [cqs, hz]
    have htl : ((cqs L (lists ws) p).take i).length = i := by rw [List.length_take]; simp [cqs]; omega
    obtain ⟨u3, A3, happ, hu3⟩ := hu.push e2_len (rp (cq (L.zip w.2) p ws.length)) (by rw [List.length_map, htl]; simp [lim]; omega)
    rw [e2_rp] at happ
    have hu3 : AccL 2 e2 A A3 u3 (((cqs L (lists ws) p).take (i + 1)).map rp) := by
      rw [List.take_add_one, hq, Option.toList_some, List.map_append]; exact hu3
    simp (maxSteps := 4000000) -implicitDefEqProofs -dsimp (disch := omega) only [↓AW_skip, ↓AW_ops, ↓AW_seq, ↓AW_cond, ↓AW_block, ↓AOps_nil, ↓AOps_pu, ↓AOps_call, on_some, condB_t, ↓then_normal, pval, rd_S, put_S, chkd, bgot, partA, eq_self, mk, List.foldl_cons, List.foldl_nil, List.replicate_succ, List.replicate_zero, List.set_cons_zero, List.set_cons_succ, List.getElem?_cons_zero, List.getElem?_cons_succ, List.drop_zero, List.take_succ_cons, List.take_nil, Option.getD_some, map_c, map_n, List.length_cons, List.length_nil, Nat.reduceAdd, Nat.reduceLeDiff, Nat.reduceEqDiff, Nat.zero_add, bin_lss, if_true, if_false, decide_true, hlt']
    refine CallK.of (c_whole hL1 hV1 h hz) ?_
    simp (maxSteps := 4000000) -implicitDefEqProofs -dsimp (disch := omega) only [↓AOps_pu, ↓AOps_call, on_some, extK_same, pval, rd_S, put_S, chkd, isAdr, bgot, AV.cells?, partA, eq_self, mk, List.foldl_cons, List.foldl_nil, List.replicate_succ, List.replicate_zero, List.set_cons_zero, List.set_cons_succ, List.getElem?_cons_zero, List.getElem?_cons_succ, List.drop_zero, List.drop_succ_cons, List.take_succ_cons, List.take_nil, Option.getD_some, map_c, map_n, List.length_cons, List.length_nil, Nat.reduceAdd, Nat.reduceLeDiff, Nat.zero_add, if_true, if_false, Bool.false_eq_true, hV1.ls.len]
    refine CallK.of (s59R _ ⟨by omega, by omega⟩ (by omega) (by omega)) ?_
    have hpw : ((tot (L.zip w.2) : Int) : Rat) / ((ws.length : Int) : Rat) = pw (L.zip w.2) 1 ws.length := by rw [pw, Int.mul_one]
    rw [hpw]
    simp (maxSteps := 4000000) -implicitDefEqProofs -dsimp (disch := omega) only [↓AOps_call, extK_same, rd_S, put_S, mk, List.foldl_cons, List.foldl_nil, List.replicate_succ, List.replicate_zero, List.set_cons_zero, List.set_cons_succ, List.getElem?_cons_zero, List.getElem?_cons_succ, Option.getD_some, map_c, map_n]
    refine CallK.of (c_mark hL1 hV1 h hz _ _ (hp _ hmr) (pw_wh hg (by omega) (by omega))) ?_
    cases hpl : plc (L.zip w.2) p (pw (L.zip w.2) 1 ws.length) with
    | none =>
      have hcq : cq (L.zip w.2) p ws.length = ((L.sum : Int) : Rat) := by rw [cq, hpl]; rw [h.lenz hmr]; rfl
      rw [hcq] at happ
      simp (maxSteps := 4000000) -implicitDefEqProofs -dsimp (disch := omega) only [↓AW_ops, ↓AW_seq, ↓AW_cond, ↓AOps_nil, ↓AOps_pu, ↓AOps_call, on_some, extK_same, condB_t, ↓then_normal, pval, rd_S, rd_C, put_S, chkd, bput, bgot, AV.cells?, splice, partA, eq_self, mk, List.foldl_cons, List.foldl_nil, List.replicate_succ, List.replicate_zero, List.set_cons_zero, List.set_cons_succ, List.getElem?_cons_zero, List.getElem?_cons_succ, List.drop_zero, List.drop_succ_cons, List.drop_nil, List.take_zero, List.take_succ_cons, List.take_nil, Option.getD_some, map_c, map_n, List.length_cons, List.length_nil, Nat.reduceAdd, Nat.reduceLeDiff, Nat.reduceEqDiff, Nat.zero_add, List.nil_append, List.append_nil, if_true, if_false, Bool.not_false, ne_eq, not_true_eq_false, oR, zeroR, Option.isSome_none]
      refine CallK.of (c_end (y := y) hL1 h) ?_
      simp (maxSteps := 4000000) -implicitDefEqProofs -dsimp (disch := omega) only [↓AOps_call, extK_same, rd_S, put_S, mk, List.foldl_cons, List.foldl_nil, List.replicate_succ, List.replicate_zero, List.set_cons_zero, List.set_cons_succ, List.getElem?_cons_zero, List.getElem?_cons_succ, Option.getD_some, map_c, map_n]
      refine CallK.of (s76 _ _) ?_
      simp (maxSteps := 4000000) -implicitDefEqProofs -dsimp (disch := omega) only [↓AW_ops, ↓AOps_nil, ↓AOps_pu, ↓AOps_ha, on_some, extK_false, extK_app, extK_same, ↓then_normal, ↓inBlock_normal, pval, hval, rd_S, rd_C, put_S, chkd, bput, bgot, AV.cells?, splice, partA, fillA, repl, eq_self, mk, List.foldl_cons, List.foldl_nil, List.replicate_succ, List.replicate_zero, List.set_cons_zero, List.set_cons_succ, List.getElem?_cons_zero, List.getElem?_cons_succ, List.drop_zero, List.drop_succ_cons, List.drop_nil, List.take_zero, List.take_succ_cons, List.take_nil, Option.getD_some, map_c, map_n, List.length_cons, List.length_nil, Nat.reduceAdd, Nat.reduceLeDiff, Nat.reduceEqDiff, Nat.zero_add, List.nil_append, List.append_nil, bin_add, w64, if_true, if_false, true_and, and_true, ne_eq, not_true_eq_false, R, happ]
      exact ⟨(i + 1, u3, A3), ⟨hlt, hu3⟩, by simp [Has, rd_s], rfl, by simp only; omega⟩
    | some z =>
      have hcq : cq (L.zip w.2) p ws.length = z := by rw [cq, hpl]; rfl
      rw [hcq] at happ
      simp (maxSteps := 4000000) -implicitDefEqProofs -dsimp (disch := omega) only [↓AW_skip, ↓AW_ops, ↓AW_seq, ↓AW_cond, ↓AOps_nil, ↓AOps_pu, ↓AOps_ha, on_some, extK_false, extK_app, extK_same, condB_f, ↓then_normal, ↓inBlock_normal, pval, hval, rd_S, rd_C, put_S, chkd, bput, bgot, AV.cells?, splice, partA, fillA, repl, eq_self, mk, List.foldl_cons, List.foldl_nil, List.replicate_succ, List.replicate_zero, List.set_cons_zero, List.set_cons_succ, List.getElem?_cons_zero, List.getElem?_cons_succ, List.drop_zero, List.drop_succ_cons, List.drop_nil, List.take_zero, List.take_succ_cons, List.take_nil, Option.getD_some, map_c, map_n, List.length_cons, List.length_nil, Nat.reduceAdd, Nat.reduceLeDiff, Nat.reduceEqDiff, Nat.zero_add, List.nil_append, List.append_nil, bin_add, w64, if_true, if_false, Bool.not_true, true_and, and_true, ne_eq, not_true_eq_false, oR, Option.isSome_some, R, happ]
      exact ⟨(i + 1, u3, A3), ⟨hlt, hu3⟩, by simp [Has, rd_s], rfl, by simp only; omega⟩
  · have hlt' : ¬ ((i : Int) < ws.length) := by omega
    simp (maxSteps := 4000000) -implicitDefEqProofs -dsimp (disch := omega) only [↓AW_ops, ↓AW_seq, ↓AW_cond, ↓AW_exit, ↓AW_ret, ↓AOps_nil, ↓AOps_pu, on_some, condB_f, ↓then_normal, ↓then_exit, ↓inBlock_exit, ↓Fin_ret, pval, rd_S, put_S, resV, resL, eq_self, mk, List.foldl_cons, List.foldl_nil, List.replicate_succ, List.replicate_zero, List.set_cons_zero, List.set_cons_succ, List.getElem?_cons_zero, List.getElem?_cons_succ, Option.getD_some, bin_lss, if_true, decide_false, hlt']
    rw [List.take_of_length_le (by simp [cqs]; omega)] at hu
    exact hu.gc flat_e2
theorem c_call (hL : L1 A x L) (hV : LL A y ws) (h : KG L (lists ws)) {o : Nat} {w : AV × List Int} (ho : ws[o]? = some w) (p : Rat) (hp : Pl (L.zip w.2) p) :
    ACalls Try.prog 54 [.agg [x, y], I o, R p] A (R (cq (L.zip w.2) p ws.length)) A := by
  refine acalls hmix Try.func54 (by kernel_rfl) t54 3 rfl (by decide) ?_
  have hv5 := h.v5
  have hv1 := h.v1
  have hll : (lists ws).length = ws.length := by simp
  rw [hll] at hv5 hv1
  have hmr := mem_lists (List.mem_of_getElem? ho)
  dsimp only [m54]
  simp (maxSteps := 4000000) -implicitDefEqProofs -dsimp (disch := omega) only [↓AW_ops, ↓AW_seq, ↓AOps_nil, ↓AOps_pu, ↓AOps_call, on_some, ↓then_normal, pval, rd_S, rd_C, put_S, chkd, isAdr, bgot, AV.cells?, partA, eq_self, List.replicate_succ, List.replicate_zero, List.set_cons_zero, List.set_cons_succ, List.getElem?_cons_zero, List.getElem?_cons_succ, List.drop_zero, List.drop_succ_cons, List.take_succ_cons, List.take_nil, Option.getD_some, map_c, map_n, List.length_cons, List.length_nil, Nat.reduceAdd, Nat.reduceSub, Nat.reduceLeDiff, Nat.reduceEqDiff, Nat.zero_add, List.cons_append, List.nil_append, if_true, if_false, Bool.false_eq_true, hV.ls.len]
  refine CallK.of (c_rmark hL hV h ho p hp (n := 1) (m := ws.length) (by omega) (by omega)) ?_
  cases hpl : plc (L.zip w.2) p (pw (L.zip w.2) 1 ws.length) with
  | none =>
    have hcq : cq (L.zip w.2) p ws.length = ((L.sum : Int) : Rat) := by rw [cq, hpl]; rw [h.lenz hmr]; rfl
    simp (maxSteps := 4000000) -implicitDefEqProofs -dsimp (disch := omega) only [↓AW_ops, ↓AW_seq, ↓AW_cond, ↓AOps_nil, ↓AOps_pu, ↓AOps_call, on_some, extK_same, condB_t, ↓then_normal, pval, rd_S, rd_C, put_S, chkd, bput, bgot, AV.cells?, splice, partA, eq_self, List.replicate_succ, List.replicate_zero, List.set_cons_zero, List.set_cons_succ, List.getElem?_cons_zero, List.getElem?_cons_succ, List.drop_zero, List.drop_succ_cons, List.drop_nil, List.take_zero, List.take_succ_cons, List.take_nil, Option.getD_some, map_c, map_n, List.length_cons, List.length_nil, Nat.reduceAdd, Nat.reduceSub, Nat.reduceLeDiff, Nat.reduceEqDiff, Nat.zero_add, List.cons_append, List.nil_append, List.append_nil, if_true, if_false, Bool.not_false, ne_eq, not_true_eq_false, oR, zeroR, Option.isSome_none]
    refine CallK.of (c_rend hL hV h) ?_
    simp (maxSteps := 4000000) -implicitDefEqProofs -dsimp (disch := omega) only [↓AW_ret, ↓AOps_nil, ↓AOps_pu, on_some, extK_same, ↓then_normal, ↓then_ret, ↓Fin_ret, pval, rd_S, put_S, resV, resL, chkd, bput, bgot, AV.cells?, splice, partA, eq_self, List.replicate_succ, List.replicate_zero, List.set_cons_zero, List.set_cons_succ, List.getElem?_cons_zero, List.getElem?_cons_succ, List.drop_zero, List.drop_succ_cons, List.drop_nil, List.take_zero, List.take_succ_cons, List.take_nil, Option.getD_some, List.length_cons, List.length_nil, Nat.reduceAdd, Nat.reduceSub, Nat.reduceLeDiff, Nat.reduceEqDiff, Nat.zero_add, List.cons_append, List.nil_append, List.append_nil, if_true, if_false, ne_eq, not_true_eq_false]
    exact gc_same (by rw [hcq])
  | some z =>
    have hcq : cq (L.zip w.2) p ws.length = z := by rw [cq, hpl]; rfl
    simp (maxSteps := 4000000) -implicitDefEqProofs -dsimp (disch := omega) only [↓AW_skip, ↓AW_ops, ↓AW_seq, ↓AW_cond, ↓AW_ret, ↓AOps_nil, ↓AOps_pu, on_some, extK_same, condB_f, ↓then_normal, ↓Fin_ret, pval, rd_S, rd_C, put_S, resV, resL, chkd, bput, bgot, AV.cells?, splice, partA, eq_self, List.replicate_succ, List.replicate_zero, List.set_cons_zero, List.set_cons_succ, List.getElem?_cons_zero, List.getElem?_cons_succ, List.drop_zero, List.drop_succ_cons, List.drop_nil, List.take_zero, List.take_succ_cons, List.take_nil, Option.getD_some, List.length_cons, List.length_nil, Nat.reduceAdd, Nat.reduceSub, Nat.reduceLeDiff, Nat.reduceEqDiff, Nat.zero_add, List.cons_append, List.nil_append, List.append_nil, if_true, if_false, Bool.not_true, ne_eq, not_true_eq_false, oR, Option.isSome_some]
    exact gc_same (by rw [hcq])
/-- What the calls are. -/
def caE (L : List Int) (V : List (List Int)) (r : Int × Int) : Int := if kE L V = 0 then (if isK L r then 0 else 1) else kE L V
def caV (L : List Int) (V : List (List Int)) (r : Int × Int) : List (Int × Int) := if caE L V r = 0 then (cqs L V (qr r)).map rp else []
theorem s15 (hL : L1 A x L) (hV : LL A y ws) (hs : Sz L ws) (r : Int × Int) (hr : W r.1) :
    ACalls Try.prog 15 [.agg [x, y], .agg [I r.1, I r.2]] A (.tuple [outV 2 A (caV L (lists ws) r).length, I (caE L (lists ws) r)]) (outH A ((caV L (lists ws) r).flatMap e2) (caV L (lists ws) r).length) := by
  refine acalls hmix Try.func15 (by kernel_rfl) t15 2 rfl (by decide) ?_
  dsimp only [m15]
  simp (maxSteps := 4000000) -implicitDefEqProofs -dsimp (disch := omega) only [↓AW_ops, ↓AW_seq, ↓AOps_nil, ↓AOps_pu, ↓AOps_call, on_some, ↓then_normal, pval, rd_S, rd_C, put_S, chkd, bgot, AV.cells?, partA, eq_self, List.replicate_succ, List.replicate_zero, List.set_cons_zero, List.set_cons_succ, List.getElem?_cons_zero, List.getElem?_cons_succ, List.drop_zero, List.take_succ_cons, List.take_nil, Option.getD_some, map_c, map_n, List.length_cons, List.length_nil, Nat.reduceAdd, Nat.reduceSub, Nat.reduceLeDiff, Nat.reduceEqDiff, Nat.zero_add, List.cons_append, List.nil_append, if_true, if_false]
  refine CallK.of (s26 hL hV hs.l hs.v hs.w) ?_
  by_cases h0 : kE L (lists ws) = 0
  · have hg := KG.of h0
    simp (maxSteps := 4000000) -implicitDefEqProofs -dsimp (disch := omega) only [↓AW_skip, ↓AW_ops, ↓AW_seq, ↓AW_cond, ↓AOps_nil, ↓AOps_pu, ↓AOps_call, on_some, extK_same, condB_f, ↓then_normal, pval, rd_S, rd_C, put_S, chkd, bgot, partA, eq_self, List.replicate_succ, List.replicate_zero, List.set_cons_zero, List.set_cons_succ, List.getElem?_cons_zero, List.getElem?_cons_succ, List.drop_zero, List.take_succ_cons, List.take_nil, Option.getD_some, map_c, map_n, List.length_cons, List.length_nil, Nat.reduceAdd, Nat.reduceSub, Nat.reduceLeDiff, Nat.reduceEqDiff, Nat.zero_add, List.cons_append, List.nil_append, bin_neq, if_true, if_false, decide_false, not_true_eq_false, h0]
    refine CallK.of (c_isK hL hg r hr) ?_
    by_cases h1 : isK L r
    · obtain ⟨k1, _, _, p1⟩ := isK_R hg h1
      rw [k1]
      simp (maxSteps := 4000000) -implicitDefEqProofs -dsimp (disch := omega) only [↓AW_skip, ↓AW_ops, ↓AW_seq, ↓AW_cond, ↓AOps_nil, ↓AOps_pu, ↓AOps_call, on_some, extK_same, condB_f, ↓then_normal, pval, rd_S, put_S, chkd, bgot, partA, eq_self, List.replicate_succ, List.replicate_zero, List.set_cons_zero, List.set_cons_succ, List.getElem?_cons_zero, List.getElem?_cons_succ, List.drop_zero, List.take_succ_cons, List.take_nil, Option.getD_some, map_c, map_n, List.length_cons, List.length_nil, Nat.reduceAdd, Nat.reduceSub, Nat.reduceLeDiff, Nat.reduceEqDiff, Nat.zero_add, List.cons_append, List.nil_append, if_true, if_false, Bool.not_true, decide_true, h1]
      refine CallK.of (c_calls hL hV hg _ p1) ?_
      have he : caE L (lists ws) r = 0 := by rw [caE, if_pos h0, if_pos h1]
      have hv : caV L (lists ws) r = (cqs L (lists ws) (qr r)).map rp := by rw [caV, if_pos he]
      rw [he, hv]
      simp (maxSteps := 4000000) -implicitDefEqProofs -dsimp (disch := omega) only [↓AW_ret, ↓AOps_nil, ↓AOps_pu, on_some, extK_false, ↓then_normal, ↓Fin_ret, pval, rd_S, rd_C, put_S, resV, resL, List.replicate_succ, List.replicate_zero, List.set_cons_zero, List.set_cons_succ, List.getElem?_cons_zero, List.getElem?_cons_succ, Option.getD_some, Nat.reduceSub, List.cons_append, List.nil_append]
      exact gc_all
    · simp (maxSteps := 4000000) -implicitDefEqProofs -dsimp (disch := omega) only [↓AW_ops, ↓AW_seq, ↓AW_cond, ↓AW_ret, ↓AOps_nil, ↓AOps_pu, on_some, extK_same, condB_t, ↓then_normal, ↓then_ret, ↓Fin_ret, pval, rd_S, rd_C, put_S, resV, resL, List.replicate_succ, List.replicate_zero, List.set_cons_zero, List.set_cons_succ, List.getElem?_cons_zero, List.getElem?_cons_succ, Option.getD_some, Nat.reduceSub, List.cons_append, List.nil_append, Bool.not_false, decide_false, h1]
      have he : caE L (lists ws) r = 1 := by rw [caE, if_pos h0, if_neg h1]
      have hv : caV L (lists ws) r = [] := by rw [caV, he]; rfl
      rw [he, hv]
      exact gc_same rfl
  · simp (maxSteps := 4000000) -implicitDefEqProofs -dsimp (disch := omega) only [↓AW_ops, ↓AW_seq, ↓AW_cond, ↓AW_ret, ↓AOps_nil, ↓AOps_pu, on_some, extK_same, condB_t, ↓then_normal, ↓then_ret, ↓Fin_ret, pval, rd_S, rd_C, put_S, resV, resL, List.replicate_succ, List.replicate_zero, List.set_cons_zero, List.set_cons_succ, List.getElem?_cons_zero, List.getElem?_cons_succ, Option.getD_some, Nat.reduceSub, List.cons_append, List.nil_append, bin_neq, decide_true, not_false_eq_true, h0]
    have he : caE L (lists ws) r = kE L (lists ws) := by rw [caE, if_neg h0]
    have hv : caV L (lists ws) r = [] := by rw [caV, he, if_neg h0]
    rw [he, hv]
    exact gc_same rfl
theorem s16 (hL : L1 A x L) (hV : LL A y ws) (hs : Sz L ws) (r : Int × Int) (hr : W r.1) :
    ACalls Try.prog 16 [.agg [x, y], .agg [I r.1, I r.2]] A (.tuple [outV 2 A (caV L (lists ws) r).length, I (caE L (lists ws) r)]) (outH A ((caV L (lists ws) r).flatMap e2) (caV L (lists ws) r).length) := by
  refine acalls hmix Try.func16 (by kernel_rfl) t16 2 rfl (by decide) ?_
  dsimp only [m16]
  simp (maxSteps := 4000000) -implicitDefEqProofs -dsimp (disch := omega) only [↓AW_ops, ↓AW_seq, ↓AOps_nil, ↓AOps_pu, ↓AOps_call, on_some, ↓then_normal, pval, rd_S, rd_C, put_S, chkd, bgot, AV.cells?, partA, eq_self, List.replicate_succ, List.replicate_zero, List.set_cons_zero, List.set_cons_succ, List.getElem?_cons_zero, List.getElem?_cons_succ, List.drop_zero, List.take_succ_cons, List.take_nil, Option.getD_some, map_c, map_n, List.length_cons, List.length_nil, Nat.reduceAdd, Nat.reduceSub, Nat.reduceLeDiff, Nat.reduceEqDiff, Nat.zero_add, List.cons_append, List.nil_append, if_true, if_false]
  refine CallK.of (s27 hL hV hs.l hs.v hs.w) ?_
  by_cases h0 : kE L (lists ws) = 0
  · have hg := KG.of h0
    simp (maxSteps := 4000000) -implicitDefEqProofs -dsimp (disch := omega) only [↓AW_skip, ↓AW_ops, ↓AW_seq, ↓AW_cond, ↓AOps_nil, ↓AOps_pu, ↓AOps_call, on_some, extK_same, condB_f, ↓then_normal, pval, rd_S, rd_C, put_S, chkd, bgot, partA, eq_self, List.replicate_succ, List.replicate_zero, List.set_cons_zero, List.set_cons_succ, List.getElem?_cons_zero, List.getElem?_cons_succ, List.drop_zero, List.take_succ_cons, List.take_nil, Option.getD_some, map_c, map_n, List.length_cons, List.length_nil, Nat.reduceAdd, Nat.reduceSub, Nat.reduceLeDiff, Nat.reduceEqDiff, Nat.zero_add, List.cons_append, List.nil_append, bin_neq, if_true, if_false, decide_false, not_true_eq_false, h0]
    refine CallK.of (c_risK hL hV hg r hr) ?_
    by_cases h1 : isK L r
    · obtain ⟨k1, _, _, p1⟩ := isK_R hg h1
      rw [k1]
      simp (maxSteps := 4000000) -implicitDefEqProofs -dsimp (disch := omega) only [↓AW_skip, ↓AW_ops, ↓AW_seq, ↓AW_cond, ↓AW_block, ↓AOps_nil, ↓AOps_pu, on_some, extK_same, condB_f, ↓then_normal, pval, rd_S, rd_C, put_S, ↓AW_toLoop, List.replicate_succ, List.replicate_zero, List.set_cons_zero, List.set_cons_succ, List.getElem?_cons_zero, List.getElem?_cons_succ, Option.getD_some, Nat.reduceSub, List.cons_append, List.nil_append, Bool.not_true, decide_true, h1]
      have he : caE L (lists ws) r = 0 := by rw [caE, if_pos h0, if_pos h1]
      have hv : caV L (lists ws) r = (cqs L (lists ws) (qr r)).map rp := by rw [caV, if_pos he]
      rw [he, hv]
      generalize qr r = p at *
      have hv5 := hg.v5
      have hll : (lists ws).length = ws.length := by simp
      rw [hll] at hv5
      refine LoopK.by 33 (fun z : Nat × AV × AHeap => z.1 ≤ ws.length ∧ AccL 2 e2 A z.2.2 z.2.1 ((cqs L (lists ws) p).take z.1 |>.map rp)) (fun z => [(2, .agg [x, y]), (3, R p), (7, z.2.1), (8, I z.1)]) (fun z => z.2.2) (fun z => ws.length - z.1) (0, .nilS, A) ⟨by omega, AccL.nil (List.prefix_refl _)⟩ rfl (by simp [Has, rd_s]) rfl ?_
      rintro ⟨i, u, A1⟩ ⟨hi, hu⟩
      simp only at hi hu
      have hL1 := hL.mono hu.pre
      have hV1 := hV.mono hu.pre
      by_cases hlt : i < ws.length
      · obtain ⟨w, hz⟩ : ∃ z, ws[i]? = some z := ⟨_, List.getElem?_eq_getElem hlt⟩
        have hlt' : (i : Int) < ws.length := by omega
        have hmr := mem_lists (List.mem_of_getElem? hz)
        have hq : (cqs L (lists ws) p)[i]? = some (cq (L.zip w.2) p ws.length) := by simp [cqs, hz]
        have htl : ((cqs L (lists ws) p).take i).length = i := by rw [List.length_take]; simp [cqs]; omega
        obtain ⟨u3, A3, happ, hu3⟩ := hu.push e2_len (rp (cq (L.zip w.2) p ws.length)) (by rw [List.length_map, htl]; simp [lim]; omega)
        rw [e2_rp] at happ
        have hu3 : AccL 2 e2 A A3 u3 (((cqs L (lists ws) p).take (i + 1)).map rp) := by
          rw [List.take_add_one, hq, Option.toList_some, List.map_append]; exact hu3
        simp (maxSteps := 4000000) -implicitDefEqProofs -dsimp (disch := omega) only [↓AW_skip, ↓AW_ops, ↓AW_seq, ↓AW_cond, ↓AW_block, ↓AOps_nil, ↓AOps_pu, ↓AOps_call, on_some, condB_t, ↓then_normal, pval, rd_S, put_S, chkd, isAdr, bgot, AV.cells?, partA, eq_self, mk, List.foldl_cons, List.foldl_nil, List.replicate_succ, List.replicate_zero, List.set_cons_zero, List.set_cons_succ, List.getElem?_cons_zero, List.getElem?_cons_succ, List.drop_zero, List.drop_succ_cons, List.take_succ_cons, List.take_nil, Option.getD_some, map_c, map_n, List.length_cons, List.length_nil, Nat.reduceAdd, Nat.reduceLeDiff, Nat.reduceEqDiff, Nat.zero_add, bin_lss, if_true, if_false, Bool.false_eq_true, decide_true, hlt', hV1.ls.len]
        refine CallK.of (c_call hL1 hV1 hg hz p (p1 _ hmr)) ?_
        simp (maxSteps := 4000000) -implicitDefEqProofs -dsimp (disch := omega) only [↓AW_ops, ↓AOps_nil, ↓AOps_pu, ↓AOps_ha, on_some, extK_false, extK_app, extK_same, ↓then_normal, ↓inBlock_normal, pval, hval, rd_S, rd_C, put_S, AV.cells?, splice, fillA, repl, eq_self, mk, List.foldl_cons, List.foldl_nil, List.replicate_succ, List.replicate_zero, List.set_cons_zero, List.set_cons_succ, List.getElem?_cons_zero, List.getElem?_cons_succ, List.drop_succ_cons, List.drop_nil, List.take_zero, Option.getD_some, map_c, map_n, List.length_cons, List.length_nil, Nat.reduceAdd, Nat.reduceLeDiff, Nat.zero_add, List.nil_append, List.append_nil, bin_add, w64, if_true, true_and, and_true, R, happ]
        exact ⟨(i + 1, u3, A3), ⟨hlt, hu3⟩, by simp [Has, rd_s], rfl, by simp only; omega⟩
      · have hlt' : ¬ ((i : Int) < ws.length) := by omega
        simp (maxSteps := 4000000) -implicitDefEqProofs -dsimp (disch := omega) only [↓AW_ops, ↓AW_seq, ↓AW_cond, ↓AW_exit, ↓AW_ret, ↓AOps_nil, ↓AOps_pu, on_some, condB_f, ↓then_normal, ↓then_exit, ↓inBlock_exit, ↓Fin_ret, pval, rd_S, rd_C, put_S, resV, resL, chkd, isAdr, bgot, AV.cells?, partA, eq_self, mk, List.foldl_cons, List.foldl_nil, List.replicate_succ, List.replicate_zero, List.set_cons_zero, List.set_cons_succ, List.getElem?_cons_zero, List.getElem?_cons_succ, List.drop_zero, List.drop_succ_cons, List.take_succ_cons, List.take_nil, Option.getD_some, List.length_cons, List.length_nil, Nat.reduceAdd, Nat.reduceLeDiff, Nat.zero_add, bin_lss, if_true, if_false, Bool.false_eq_true, decide_false, hlt', hV1.ls.len]
        rw [List.take_of_length_le (by simp [cqs]; omega)] at hu
        exact hu.gc2 flat_e2 _ rfl
    · simp (maxSteps := 4000000) -implicitDefEqProofs -dsimp (disch := omega) only [↓AW_ops, ↓AW_seq, ↓AW_cond, ↓AW_ret, ↓AOps_nil, ↓AOps_pu, on_some, extK_same, condB_t, ↓then_normal, ↓then_ret, ↓Fin_ret, pval, rd_S, rd_C, put_S, resV, resL, List.replicate_succ, List.replicate_zero, List.set_cons_zero, List.set_cons_succ, List.getElem?_cons_zero, List.getElem?_cons_succ, Option.getD_some, Nat.reduceSub, List.cons_append, List.nil_append, Bool.not_false, decide_false, h1]
      have he : caE L (lists ws) r = 1 := by rw [caE, if_pos h0, if_neg h1]
      have hv : caV L (lists ws) r = [] := by rw [caV, he]; rfl
      rw [he, hv]
      exact gc_same rfl
  · simp (maxSteps := 4000000) -implicitDefEqProofs -dsimp (disch := omega) only [↓AW_ops, ↓AW_seq, ↓AW_cond, ↓AW_ret, ↓AOps_nil, ↓AOps_pu, on_some, extK_same, condB_t, ↓then_normal, ↓then_ret, ↓Fin_ret, pval, rd_S, rd_C, put_S, resV, resL, List.replicate_succ, List.replicate_zero, List.set_cons_zero, List.set_cons_succ, List.getElem?_cons_zero, List.getElem?_cons_succ, Option.getD_some, Nat.reduceSub, List.cons_append, List.nil_append, bin_neq, decide_true, not_false_eq_true, h0]
    have he : caE L (lists ws) r = kE L (lists ws) := by rw [caE, if_neg h0]
    have hv : caV L (lists ws) r = [] := by rw [caV, he, if_neg h0]
    rw [he, hv]
    exact gc_same rfl
def fairK (r : Int × Int) : Prop := (1 ≤ r.2 ∧ r.2 ≤ 4294967296) ∧ (-35184372088832 ≤ r.1 ∧ r.1 ≤ 35184372088832)
theorem c_fair {xs : List (Int × Int)} {v : AV} {A : AHeap} (hx : L2 A v xs) (hl : xs.length ≤ 1000000) (hf : ∀ r ∈ xs, fairK r) : ACalls Try.prog 18 [v] A (B true) A := by
  refine acalls hmix Try.func18 (by kernel_rfl) t18 1 rfl (by decide) ?_
  dsimp only [m18]
  simp (maxSteps := 4000000) -implicitDefEqProofs -dsimp (disch := omega) only [↓AW_ops, ↓AW_seq, ↓AW_block, ↓AOps_nil, ↓AOps_pu, on_some, ↓then_normal, pval, rd_C, put_S, ↓AW_toLoop, List.replicate_succ, List.replicate_zero, List.set_cons_zero, List.set_cons_succ, Nat.reduceSub, List.cons_append, List.nil_append]
  refine LoopK.by 40 (fun i : Nat => i ≤ xs.length) (fun i => [(0, v), (3, I i)]) (fun _ => A) (fun i => xs.length - i) 0 (by omega) rfl (by simp [Has, rd_s]) rfl ?_
  intro i hi
  by_cases hlt : i < xs.length
  · obtain ⟨z, hz⟩ : ∃ z, xs[i]? = some z := ⟨_, List.getElem?_eq_getElem hlt⟩
    have hlt' : (i : Int) < xs.length := by omega
    have hz2 := hf z (List.mem_of_getElem? hz)
    have h1 : ¬ z.2 < 1 := by have := hz2.1.1; omega
    have h2 : ¬ 4294967296 < z.2 := by have := hz2.1.2; omega
    have h3 : ¬ 35184372088832 < z.1 := by have := hz2.2.2; omega
    have h4 : ¬ z.1 < -35184372088832 := by have := hz2.2.1; omega
    simp (maxSteps := 4000000) -implicitDefEqProofs -dsimp (disch := omega) only [↓AW_skip, ↓AW_ops, ↓AW_seq, ↓AW_cond, ↓AW_block, ↓AOps_nil, ↓AOps_pu, ↓AOps_ld, ↓AOps_guard, on_some, guardB_ff, condB_t, condB_f, ↓then_normal, ↓inBlock_normal, pval, lval, rd_S, rd_C, put_S, partA, eq_self, mk, List.foldl_cons, List.foldl_nil, List.replicate_succ, List.replicate_zero, List.set_cons_zero, List.set_cons_succ, List.getElem?_cons_zero, List.getElem?_cons_succ, List.drop_zero, List.drop_succ_cons, List.take_zero, List.take_succ_cons, List.take_nil, Option.getD_some, List.length_cons, List.length_nil, Nat.reduceAdd, Nat.reduceLeDiff, Nat.zero_add, Nat.add_zero, bin_add, bin_lss, bin_gtr, w64, if_true, if_false, Bool.false_eq_true, decide_true, decide_false, Go.Eng.e2, true_and, Int.reduceNeg, hlt', hx.len, hx.idx hlt, hx.ld hz 1 1 false (by decide), hx.ld0 hz 1 false (by decide), e2, h1, h2, h3, h4]
    exact ⟨i + 1, hlt, by simp [Has, rd_s], by omega⟩
  · have hlt' : ¬ ((i : Int) < xs.length) := by omega
    simp (maxSteps := 4000000) -implicitDefEqProofs -dsimp (disch := omega) only [↓AW_ops, ↓AW_seq, ↓AW_cond, ↓AW_exit, ↓AW_ret, ↓AOps_nil, ↓AOps_pu, on_some, condB_f, ↓then_normal, ↓then_exit, ↓inBlock_exit, ↓Fin_ret, pval, rd_S, rd_C, put_S, resV, resL, eq_self, mk, List.foldl_cons, List.foldl_nil, List.replicate_succ, List.replicate_zero, List.set_cons_zero, List.set_cons_succ, List.getElem?_cons_zero, List.getElem?_cons_succ, Option.getD_some, bin_lss, if_true, decide_false, hlt', hx.len]
    exact gc_same rfl
theorem s3 (hL : L1 A x L) (hV : LL A y ws) (hl : ws.length ≤ 9223372036854775807) (a b : Int) (ha : W a) : ACalls Try.prog 3 [.agg [x, y], .agg [I a, I b]] A (B true) A := by
  refine acalls hmix Try.func3 (by kernel_rfl) t3 2 rfl (by decide) ?_
  dsimp only [m3]
  simp (maxSteps := 4000000) -implicitDefEqProofs -dsimp (disch := omega) only [↓AW_ops, ↓AW_seq, ↓AOps_nil, ↓AOps_pu, ↓AOps_call, on_some, ↓then_normal, pval, rd_S, rd_C, put_S, chkd, bgot, AV.cells?, partA, eq_self, List.replicate_succ, List.replicate_zero, List.set_cons_zero, List.set_cons_succ, List.getElem?_cons_zero, List.getElem?_cons_succ, List.drop_zero, List.take_succ_cons, List.take_nil, Option.getD_some, map_c, map_n, List.length_cons, List.length_nil, Nat.reduceAdd, Nat.reduceSub, Nat.reduceLeDiff, Nat.reduceEqDiff, Nat.zero_add, List.cons_append, List.nil_append, if_true, if_false]
  refine CallK.of (c_Long hL hV hl) ?_
  by_cases h : longK L ws
  · simp (maxSteps := 4000000) -implicitDefEqProofs -dsimp (disch := omega) only [↓AW_ops, ↓AW_seq, ↓AW_cond, ↓AOps_nil, ↓AOps_call, extK_same, condB_t, ↓then_normal, rd_S, put_S, List.replicate_succ, List.replicate_zero, List.set_cons_zero, List.set_cons_succ, List.getElem?_cons_zero, List.getElem?_cons_succ, Option.getD_some, map_n, Nat.reduceSub, List.cons_append, List.nil_append, decide_true, h]
    refine CallK.of (known A) ?_
    simp (maxSteps := 4000000) -implicitDefEqProofs -dsimp (disch := omega) only [↓AW_ret, ↓AOps_nil, ↓AOps_pu, on_some, extK_same, ↓then_normal, ↓then_ret, ↓Fin_ret, pval, rd_S, put_S, resV, resL, List.replicate_succ, List.replicate_zero, List.set_cons_zero, List.set_cons_succ, List.getElem?_cons_zero, List.getElem?_cons_succ, Option.getD_some, Nat.reduceSub, List.cons_append, List.nil_append]
    exact gc_same rfl
  · have hs := Sz_of h
    simp (maxSteps := 4000000) -implicitDefEqProofs -dsimp (disch := omega) only [↓AW_skip, ↓AW_ops, ↓AW_seq, ↓AW_cond, ↓AOps_nil, ↓AOps_pu, ↓AOps_call, on_some, extK_same, condB_f, ↓then_normal, pval, rd_S, put_S, chkd, bgot, partA, eq_self, List.replicate_succ, List.replicate_zero, List.set_cons_zero, List.set_cons_succ, List.getElem?_cons_zero, List.getElem?_cons_succ, List.drop_zero, List.take_succ_cons, List.take_nil, Option.getD_some, map_c, map_n, List.length_cons, List.length_nil, Nat.reduceAdd, Nat.reduceSub, Nat.reduceLeDiff, Nat.reduceEqDiff, Nat.zero_add, List.cons_append, List.nil_append, if_true, if_false, decide_false, h]
    refine CallK.of (s15 hL hV hs (a, b) ha) ?_
    have hp1 := pre_out A ((caV L (lists ws) (a, b)).flatMap e2) (caV L (lists ws) (a, b)).length
    have hl1 := Ls_out A e2_len (caV L (lists ws) (a, b))
    generalize outV 2 A (caV L (lists ws) (a, b)).length = u1 at *
    generalize outH A ((caV L (lists ws) (a, b)).flatMap e2) (caV L (lists ws) (a, b)).length = A1 at *
    simp (maxSteps := 4000000) -implicitDefEqProofs -dsimp (disch := omega) only [↓AW_ops, ↓AW_seq, ↓AOps_nil, ↓AOps_pu, ↓AOps_call, on_some, extK_false, ↓then_normal, pval, rd_S, put_S, chkd, bgot, partA, eq_self, List.replicate_succ, List.replicate_zero, List.set_cons_zero, List.set_cons_succ, List.getElem?_cons_zero, List.getElem?_cons_succ, List.drop_zero, List.take_succ_cons, List.take_nil, Option.getD_some, map_c, map_n, List.length_cons, List.length_nil, Nat.reduceAdd, Nat.reduceSub, Nat.reduceLeDiff, Nat.reduceEqDiff, Nat.zero_add, List.cons_append, List.nil_append, if_true, if_false]
    refine CallK.of (s16 (hL.mono hp1) (hV.mono hp1) hs (a, b) ha) ?_
    have hp2 := pre_out A1 ((caV L (lists ws) (a, b)).flatMap e2) (caV L (lists ws) (a, b)).length
    have hl2 := Ls_out A1 e2_len (caV L (lists ws) (a, b))
    generalize outV 2 A1 (caV L (lists ws) (a, b)).length = u2 at *
    generalize outH A1 ((caV L (lists ws) (a, b)).flatMap e2) (caV L (lists ws) (a, b)).length = A2 at *
    have hl1 := hl1.mono hp2
    have hvl : (caV L (lists ws) (a, b)).length ≤ 1000000 := by
      unfold caV
      split
      · have := hs.v; simp [cqs]; omega
      · simp
    have hfa : ∀ r ∈ caV L (lists ws) (a, b), fairK r ∧ (isK L (a, b) ∧ KG L (lists ws)) ∧ ∃ z : Rat, r = rp z ∧ qr (a, b) ≤ z ∧ Fit z (qr (a, b)) := by
      intro r hr
      unfold caV at hr
      split at hr
      · rename_i he
        unfold caE at he
        split at he
        · rename_i h0
          have hg := KG.of h0
          split at he
          · rename_i h1
            obtain ⟨_, _, _, p1⟩ := isK_R hg h1
            obtain ⟨z, hz, rfl⟩ := List.mem_map.1 hr
            obtain ⟨row, hrow, rfl⟩ := List.mem_map.1 hz
            have hgd := hg.gd hrow
            have hv1 := hg.v1
            have hv5 := hg.v5
            obtain ⟨f1, f2, f3, f4⟩ := cq_facts hgd (p1 _ hrow) (n := (lists ws).length) ⟨hv1, hv5⟩
            have hsm := (p1 _ hrow).sm hgd
            have hlb := len_bound hgd
            have hpn := (p1 _ hrow).1
            have hpd := (p1 _ hrow).2
            have hdp := den_pos (cq (L.zip row) (qr (a, b)) (lists ws).length)
            have hm := Int.mul_le_mul hlb.2 hpd (by have := den_pos (qr (a, b)); omega) (by omega)
            refine ⟨⟨?_, ?_⟩, ⟨h1, hg⟩, _, rfl, f1, Fit_of 251658240000 125829120 2097152000 1048576 f3 f4 (by omega) (by omega) (by decide) (by decide)⟩
            · show 1 ≤ ((cq (L.zip row) (qr (a, b)) (lists ws).length).den : Int) ∧ ((cq (L.zip row) (qr (a, b)) (lists ws).length).den : Int) ≤ 4294967296
              omega
            · show -35184372088832 ≤ (cq (L.zip row) (qr (a, b)) (lists ws).length).num ∧ (cq (L.zip row) (qr (a, b)) (lists ws).length).num ≤ 35184372088832
              omega
          · cases he
        · rename_i h0; exact absurd he h0
      · simp at hr
    generalize caV L (lists ws) (a, b) = xs at *
    generalize caE L (lists ws) (a, b) = e at *
    simp (maxSteps := 4000000) -implicitDefEqProofs -dsimp (disch := omega) only [↓AW_ops, ↓AW_seq, ↓AOps_nil, ↓AOps_pu, ↓AOps_call, ↓AOps_guard, on_some, extK_false, guardB_ff, ↓then_normal, pval, rd_S, put_S, eq_self, List.replicate_succ, List.replicate_zero, List.set_cons_zero, List.set_cons_succ, List.getElem?_cons_zero, List.getElem?_cons_succ, Option.getD_some, map_c, map_n, Nat.reduceSub, List.cons_append, List.nil_append, bin_neq, decide_false, not_true_eq_false]
    refine CallK.of (s17 hl1 hl2 hvl) ?_
    simp (maxSteps := 4000000) -implicitDefEqProofs -dsimp (disch := omega) only [↓AW_skip, ↓AW_ops, ↓AW_seq, ↓AW_cond, ↓AW_block, ↓AOps_nil, ↓AOps_pu, ↓AOps_guard, on_some, extK_same, guardB_ff, condB_f, ↓then_normal, pval, rd_S, rd_C, put_S, ↓AW_toLoop, eq_self, List.replicate_succ, List.replicate_zero, List.set_cons_zero, List.set_cons_succ, List.getElem?_cons_zero, List.getElem?_cons_succ, Option.getD_some, Nat.reduceSub, List.cons_append, List.nil_append, if_false, Bool.false_eq_true, Bool.not_true, decide_true]
    refine LoopK.by 65 (fun i : Nat => i ≤ xs.length) (fun i => [(3, .agg [I a, I b]), (5, u1), (9, I i)]) (fun _ => A2) (fun i => xs.length - i) 0 (by omega) rfl (by simp [Has, rd_s]) rfl ?_
    intro i hi
    by_cases hlt : i < xs.length
    · obtain ⟨z, hz⟩ : ∃ z, xs[i]? = some z := ⟨_, List.getElem?_eq_getElem hlt⟩
      have hlt' : (i : Int) < xs.length := by omega
      obtain ⟨hzf, ⟨hk, hg⟩, q, rfl, hq1, hq2⟩ := hfa z (List.mem_of_getElem? hz)
      have hb1 : ¬ b < 1 := by have := hk.1.1.1; simp only at this; omega
      have hz1 : ¬ (rp q).2 < 1 := by have := hzf.1.1; omega
      obtain ⟨k1, _⟩ := isK_R hg hk
      simp only at k1
      simp (maxSteps := 4000000) -implicitDefEqProofs -dsimp (disch := omega) only [↓AW_skip, ↓AW_ops, ↓AW_seq, ↓AW_cond, ↓AW_block, ↓AOps_nil, ↓AOps_pu, ↓AOps_ld, ↓AOps_call, ↓AOps_guard, on_some, guardB_ff, condB_t, ↓then_normal, pval, lval, rd_S, rd_C, put_S, chkd, isAdr, bgot, AV.cells?, partA, eq_self, mk, List.foldl_cons, List.foldl_nil, List.replicate_succ, List.replicate_zero, List.set_cons_zero, List.set_cons_succ, List.getElem?_cons_zero, List.getElem?_cons_succ, List.drop_zero, List.drop_succ_cons, List.take_succ_cons, List.take_nil, Option.getD_some, map_c, map_n, List.length_cons, List.length_nil, Nat.reduceAdd, Nat.reduceLeDiff, Nat.zero_add, bin_lss, if_true, if_false, Bool.false_eq_true, decide_true, decide_false, Go.Eng.e2, hlt', hl1.len, hl1.idx hlt, hl1.ld hz 1 1 false (by decide), e2, hz1, hb1]
      refine CallK.of (c_fair hl1 hvl (fun r hr => (hfa r hr).1)) ?_
      simp (maxSteps := 4000000) -implicitDefEqProofs -dsimp (disch := omega) only [↓AOps_pu, ↓AOps_ld, ↓AOps_call, ↓AOps_guard, on_some, extK_same, guardB_ff, pval, lval, rd_S, rd_C, put_S, chkd, bgot, partA, eq_self, mk, List.foldl_cons, List.foldl_nil, List.replicate_succ, List.replicate_zero, List.set_cons_zero, List.set_cons_succ, List.getElem?_cons_zero, List.getElem?_cons_succ, List.drop_zero, List.take_succ_cons, List.take_nil, Option.getD_some, map_c, map_n, List.length_cons, List.length_nil, Nat.reduceAdd, Nat.reduceLeDiff, Nat.reduceEqDiff, Nat.zero_add, if_true, if_false, Bool.false_eq_true, Bool.not_true, Go.Eng.e2, hl1.idx hlt, hl1.ld0 hz 2 true (by decide), e2]
      rw [k1]
      have hqa : AV.agg [I (rp q).1, I (rp q).2] = R q := rfl
      rw [hqa]
      refine CallK.of (s19g _ _ _ hq2) ?_
      simp (maxSteps := 4000000) -implicitDefEqProofs -dsimp (disch := omega) only [↓AW_skip, ↓AW_ops, ↓AW_cond, ↓AOps_nil, ↓AOps_pu, on_some, extK_same, condB_f, ↓then_normal, ↓inBlock_normal, pval, rd_S, rd_C, put_S, eq_self, mk, List.foldl_cons, List.foldl_nil, List.replicate_succ, List.replicate_zero, List.set_cons_zero, List.set_cons_succ, List.getElem?_cons_zero, List.getElem?_cons_succ, Option.getD_some, List.length_cons, List.length_nil, Nat.reduceAdd, Nat.zero_add, bin_add, w64, if_false, Bool.false_eq_true, decide_false, true_and, Rat.not_lt.2 hq1]
      exact ⟨i + 1, hlt, by simp [Has, rd_s], by omega⟩
    · have hlt' : ¬ ((i : Int) < xs.length) := by omega
      simp (maxSteps := 4000000) -implicitDefEqProofs -dsimp (disch := omega) only [↓AW_ops, ↓AW_seq, ↓AW_cond, ↓AW_exit, ↓AOps_nil, ↓AOps_pu, ↓AOps_call, on_some, condB_f, ↓then_normal, ↓then_exit, ↓inBlock_exit, pval, rd_S, put_S, eq_self, mk, List.foldl_cons, List.foldl_nil, List.replicate_succ, List.replicate_zero, List.set_cons_zero, List.set_cons_succ, List.getElem?_cons_zero, List.getElem?_cons_succ, Option.getD_some, map_n, bin_lss, if_true, decide_false, hlt', hl1.len]
      refine CallK.of (known _) ?_
      simp (maxSteps := 4000000) -implicitDefEqProofs -dsimp (disch := omega) only [↓AW_ret, ↓AOps_nil, ↓AOps_pu, on_some, extK_same, ↓then_normal, ↓Fin_ret, pval, rd_S, put_S, resV, resL, mk, List.foldl_cons, List.foldl_nil, List.replicate_succ, List.replicate_zero, List.set_cons_zero, List.set_cons_succ, List.getElem?_cons_zero, List.getElem?_cons_succ, Option.getD_some]
      exact gc_val (hp1.trans hp2) rfl
end
end Go.Proofs.Ytmblehbjedpjoaa

namespace Go.Proofs.Ytmblehbjedpjoaa
open Go Go.Eng
/-- A piece: an owner and two places. -/
structure Pc where
  o : Int
  r : Int × Int
  s : Int × Int
  deriving DecidableEq
def e5 (p : Pc) : List AV := [I p.o, I p.r.1, I p.r.2, I p.s.1, I p.s.2]
theorem e5_len (p : Pc) : (e5 p).length = 5 := rfl
/-- Where a piece must begin. -/
def atI (pcs : List Pc) (i : Nat) : Int × Int := match (pcs.take i).getLast? with | some p => p.s | none => (0, 1)
def CPi (L : List Int) (V : List (List Int)) (pcs : List Pc) (i : Nat) (p : Pc) : Prop :=
  (0 ≤ p.o ∧ p.o ≤ (V.length : Int) - 1) ∧ p.o ∉ (pcs.take i).map Pc.o ∧ isK L p.r ∧ isK L p.s ∧ p.r = atI pcs i ∧ ¬ qr p.s < qr p.r
instance (L : List Int) (V : List (List Int)) (pcs : List Pc) (i : Nat) (p : Pc) : Decidable (CPi L V pcs i p) := by unfold CPi; exact inferInstance
/-- The common denominator, step by step; one more than the greatest if it is too great. -/
def cmn : Int → List Int → Int
  | out, [] => out
  | out, d :: ds => if 1000000 < out / (Int.gcd out d : Int) * d then 1000001 else cmn (out / (Int.gcd out d : Int) * d) ds
def plcs (pcs : List Pc) : List (Int × Int) := pcs.flatMap fun p => [p.r, p.s]
def CP (L : List Int) (V : List (List Int)) (pcs : List Pc) : Prop :=
  pcs.length = V.length ∧ (∀ i, (h : i < pcs.length) → CPi L V pcs i pcs[i]) ∧ atI pcs pcs.length = (L.sum, 1) ∧ cmn 1 ((plcs pcs).map Prod.snd) ≤ 1000000
instance (L : List Int) (V : List (List Int)) (pcs : List Pc) : Decidable (CP L V pcs) := by unfold CP; exact inferInstance
theorem gcd_div {out d : Int} (h0 : 0 < out) (hd : 0 < d) : out.tdiv (Int.gcd out d) = out / (Int.gcd out d : Int) ∧ 0 < out / (Int.gcd out d : Int) ∧ out / (Int.gcd out d : Int) ≤ out := by
  obtain ⟨g1, g2⟩ := gcd_pos (a := out) hd
  obtain ⟨x, hx⟩ := Int.gcd_dvd_left out d
  generalize (Int.gcd out d : Nat) = g at *
  have hg : (0 : Int) < g := by omega
  refine ⟨Int.tdiv_eq_ediv_of_nonneg (by omega), ?_, ?_⟩
  · rw [hx, Int.mul_ediv_cancel_left _ (by omega)]
    rcases Int.lt_or_le 0 x with h | h
    · exact h
    · have := Int.mul_nonpos_of_nonneg_of_nonpos (Int.le_of_lt hg) h; omega
  · exact Int.ediv_le_self _ (by omega)
section
variable {L : List Int} {ws : List (AV × List Int)} {x y : AV} {A : AHeap}
end
end Go.Proofs.Ytmblehbjedpjoaa

namespace Go.Proofs.Ytmblehbjedpjoaa
open Go Go.Eng
theorem lcm_facts {out d : Int} (h0 : 0 < out) (hd : 0 < d) : 0 < out / (Int.gcd out d : Int) * d ∧ out ∣ out / (Int.gcd out d : Int) * d ∧ d ∣ out / (Int.gcd out d : Int) * d ∧ ∀ D, out ∣ D → d ∣ D → out / (Int.gcd out d : Int) * d ∣ D := by
  obtain ⟨_, q2, _⟩ := gcd_div h0 hd
  obtain ⟨g1, g2⟩ := gcd_pos (a := out) hd
  refine ⟨Int.mul_pos q2 hd, ?_, Int.dvd_mul_left _ _, fun D h1 h2 => ?_⟩
  · obtain ⟨x, hx⟩ := Int.gcd_dvd_left out d
    obtain ⟨y, hy⟩ := Int.gcd_dvd_right out d
    generalize (Int.gcd out d : Nat) = g at *
    refine ⟨y, ?_⟩
    rw [hx, Int.mul_ediv_cancel_left _ (by omega)]
    rw [hy]
    rw [← Int.mul_assoc, Int.mul_comm x]
  · obtain ⟨z, hz⟩ := h1
    have hgd := Int.gcd_dvd_left out d
    have hl : out / (Int.gcd out d : Int) * d = (Int.lcm out d : Int) := by
      have e1 : (Int.gcd out d : Int) * (Int.lcm out d : Int) = (out * d) := by
        have := Int.gcd_mul_lcm out d
        have h3 : ((Int.gcd out d * Int.lcm out d : Nat) : Int) = ((out * d).natAbs : Int) := by rw [this, Int.natAbs_mul]
        rw [Int.natCast_mul] at h3
        rw [h3, Int.natAbs_of_nonneg (Int.le_of_lt (Int.mul_pos h0 hd))]
      obtain ⟨x, hx⟩ := hgd
      have hg0 : (Int.gcd out d : Int) ≠ 0 := by omega
      have e2 : out / (Int.gcd out d : Int) = x := by
        conv => lhs; lhs; rw [hx]
        exact Int.mul_ediv_cancel_left _ hg0
      rw [e2]
      have e3 : (Int.gcd out d : Int) * (Int.lcm out d : Int) = (Int.gcd out d : Int) * (x * d) := by
        rw [e1, ← Int.mul_assoc, ← hx]
      exact (Int.eq_of_mul_eq_mul_left hg0 e3).symm
    rw [hl]
    exact Int.coe_lcm_dvd ⟨z, hz⟩ h2
theorem cmn_dvd : ∀ (ds : List Int) (out : Int), 0 < out → (∀ d ∈ ds, 0 < d) → cmn out ds ≤ 1000000 → 0 < cmn out ds ∧ out ∣ cmn out ds ∧ ∀ d ∈ ds, d ∣ cmn out ds
  | [], out, h0, _, _ => ⟨h0, Int.dvd_refl _, by simp⟩
  | d :: ds, out, h0, hd, h => by
    obtain ⟨l1, l2, l3, _⟩ := lcm_facts h0 (hd d (by simp))
    rw [cmn] at h ⊢
    split at h
    · omega
    · rename_i hn
      rw [if_neg hn]
      obtain ⟨r1, r2, r3⟩ := cmn_dvd ds _ l1 (fun e he => hd e (by simp [he])) h
      refine ⟨r1, Int.dvd_trans l2 r2, fun e he => ?_⟩
      rcases List.mem_cons.1 he with rfl | he
      · exact Int.dvd_trans l3 r2
      · exact r3 e he
section
variable {L : List Int} {ws : List (AV × List Int)} {x y : AV} {A : AHeap}
/-- The places of pieces that are accepted have a small denominator in common. -/
theorem CP.dv {V : List (List Int)} {pcs : List Pc} (h : CP L V pcs) : ∃ D : Int, (0 < D ∧ D ≤ 1000000) ∧ ∀ p ∈ pcs, Dv D (qr p.r) ∧ Dv D (qr p.s) := by
  have hpos : ∀ r ∈ plcs pcs, 0 < r.2 ∧ Int.gcd r.1 r.2 = 1 := by
    intro r hr
    obtain ⟨p, hp, hr⟩ := List.mem_flatMap.1 hr
    obtain ⟨j, hj, rfl⟩ := List.mem_iff_getElem.1 hp
    have := h.2.1 j hj
    simp only [List.mem_cons, List.not_mem_nil, or_false] at hr
    rcases hr with rfl | rfl
    · exact ⟨by have := this.2.2.1.1.1; omega, this.2.2.1.1.2⟩
    · exact ⟨by have := this.2.2.2.1.1.1; omega, this.2.2.2.1.1.2⟩
  obtain ⟨h1, _, h3⟩ := cmn_dvd ((plcs pcs).map Prod.snd) 1 (by omega) (fun d hd => by obtain ⟨r, hr, rfl⟩ := List.mem_map.1 hd; exact (hpos r hr).1) h.2.2.2
  have key : ∀ r ∈ plcs pcs, Dv (cmn 1 ((plcs pcs).map Prod.snd)) (qr r) := by
    intro r hr
    have e := R_of (hpos r hr).1 (hpos r hr).2
    have hd := (R_inj e.symm).2
    refine (Dv_self (qr r)).dvd ?_
    show ((((r.1 : Rat) / (r.2 : Rat)).den : Int)) ∣ _
    rw [hd]
    exact h3 _ (List.mem_map_of_mem hr)
  refine ⟨_, ⟨h1, h.2.2.2⟩, fun p hp => ⟨key _ (List.mem_flatMap.2 ⟨p, hp, by simp⟩), key _ (List.mem_flatMap.2 ⟨p, hp, by simp⟩)⟩⟩
end
end Go.Proofs.Ytmblehbjedpjoaa

namespace Go.Proofs.Ytmblehbjedpjoaa
open Go Go.Eng
/-- The element that the search stops at. -/
def At (pcs : List Pc) (o : Int) (i : Nat) (p : Pc) : Prop := pcs[i]? = some p ∧ p.o = o ∧ ∀ j, j < i → ∀ q, pcs[j]? = some q → ¬ q.o = o
theorem At.ex {pcs : List Pc} {o : Int} (h : ∃ p ∈ pcs, p.o = o) : ∃ i p, At pcs o i p := by
  induction pcs with
  | nil => obtain ⟨p, hp, _⟩ := h; simp at hp
  | cons a l ih =>
    by_cases ha : a.o = o
    · exact ⟨0, a, rfl, ha, fun j hj => by omega⟩
    · obtain ⟨p, hp, hpo⟩ := h
      rcases List.mem_cons.1 hp with rfl | hp
      · exact absurd hpo ha
      · obtain ⟨i, q, h1, h2, h3⟩ := ih ⟨p, hp, hpo⟩
        refine ⟨i + 1, q, by simpa using h1, h2, fun j hj q' hq => ?_⟩
        cases j with
        | zero => simp at hq; subst hq; exact ha
        | succ j => exact h3 j (by omega) q' (by simpa using hq)
section
variable {L : List Int} {ws : List (AV × List Int)} {x y : AV} {A : AHeap}
end
end Go.Proofs.Ytmblehbjedpjoaa

namespace Go.Proofs.Ytmblehbjedpjoaa
open Go Go.Eng
theorem rch_ex (x : Rat) : ∀ (us : List Int) (b a : Int), (a : Rat) < x → x ≤ ((a + us.sum : Int) : Rat) → ∃ z, rch b a us x = some z
  | [], b, a, h, k => by
    rw [List.sum_nil, Int.add_zero] at k
    exact absurd h (Rat.not_lt.2 k)
  | u :: us, b, a, h, k => by
    rw [rch]
    split
    · exact ⟨_, rfl⟩
    · rename_i hn
      rw [List.sum_cons, ← Int.add_assoc] at k
      exact rch_ex x us (b + 1) (a + u) (Rat.not_le.1 hn) k
/-- A worth that is there is found. -/
theorem plc_ex {f : List (Int × Int)} (hg : good f) {p w : Rat} (hp : Pl f p) (hw : Wh w) (h : upTo 0 f p + w ≤ ((tot f : Int) : Rat)) : ∃ z, plc f p w = some z := by
  unfold plc
  split
  · exact ⟨_, rfl⟩
  · rename_i h0
    have hwp : 0 < w := by
      have := Rat.num_nonneg.2 hw.h0
      exact num_pos_iff w |>.1 (by omega)
    have hbp := upTo_bounds hg 0 p
    refine rch_ex _ _ 0 0 (by rw [int0]; grind) ?_
    rw [Int.zero_add, sum_units hg.2]
    exact h
theorem Dv_den {D : Int} {q : Rat} (hD : 0 < D) (h : Dv D q) : (q.den : Int) ≤ D := by
  obtain ⟨k, hk⟩ := h
  have e : q = (k : Rat) / (D : Rat) := by have := cast_ne (show D ≠ 0 by omega); grind
  have := (ratio_le k D hD).2
  rw [← e] at this
  exact this
section
variable {L : List Int} {ws : List (AV × List Int)} {x y : AV} {A : AHeap}
theorem Pl_of {V : List (List Int)} (h : KG L V) {r : List Int} (hr : r ∈ V) {z : Rat} (h0 : 0 ≤ z) (h1 : z ≤ ((L.sum : Int) : Rat)) (hd : (z.den : Int) ≤ 1048576) : Pl (L.zip r) z := Pl.of h0 (by rw [h.lenz hr]; exact h1) hd
end
end Go.Proofs.Ytmblehbjedpjoaa

namespace Go.Proofs.Ytmblehbjedpjoaa
open Go Go.Eng
section
variable {L : List Int} {ws : List (AV × List Int)} {x y : AV} {A : AHeap}
theorem CP.at {V : List (List Int)} {pcs : List Pc} (h : CP L V pcs) {p : Pc} (hp : p ∈ pcs) : isK L p.r ∧ isK L p.s ∧ qr p.r ≤ qr p.s := by
  obtain ⟨j, hj, rfl⟩ := List.mem_iff_getElem.1 hp
  have := h.2.1 j hj
  exact ⟨this.2.2.1, this.2.2.2.1, Rat.not_lt.1 this.2.2.2.2.2⟩
theorem At.o {pcs : List Pc} {o : Int} {i : Nat} {p : Pc} (h : At pcs o i p) : p ∈ pcs ∧ p.o = o := ⟨List.mem_of_getElem? h.1, h.2.1⟩
end
end Go.Proofs.Ytmblehbjedpjoaa

namespace Go.Proofs.Ytmblehbjedpjoaa
open Go Go.Eng
end Go.Proofs.Ytmblehbjedpjoaa

namespace Go.Proofs.Ytmblehbjedpjoaa
open Go Go.Eng
section
variable {L : List Int} {ws : List (AV × List Int)} {x y : AV} {A : AHeap}
end
end Go.Proofs.Ytmblehbjedpjoaa

namespace Go.Proofs.Ytmblehbjedpjoaa
open Go Go.Eng
theorem rsub_mul (a b c : Rat) : (a - b) * c = a * c - b * c := by grind
def without (l : List Int) (p : Int) : List Int := l.filter (fun x => !decide (x = p))
/-- Where an owner calls. -/
def cqI (L : List Int) (V : List (List Int)) (p : Rat) (o : Int) : Rat := cq (fOf L V o) p V.length
theorem plc_dvD {f : List (Int × Int)} (hg : good f) {p w z : Rat} {D : Int} (hp : Dv D p) (hw : Dv D w) (hw0 : 0 ≤ w) (h : plc f p w = some z) : ∃ v : Int, (1 ≤ v ∧ v ≤ 20) ∧ Dv (D * v) z := by
  unfold plc at h
  split at h
  · have : p = z := Option.some.inj h
    subst this
    exact ⟨1, by omega, by rw [Int.mul_one]; exact hp⟩
  · rename_i h0
    have hwp : 0 < w := by
      have := Rat.num_nonneg.2 hw0
      exact num_pos_iff w |>.1 (by omega)
    have hbp := upTo_bounds hg 0 p
    obtain ⟨⟨v, hv, b', a', hy⟩, _, _⟩ := rch_some _ (units f) 0 0 z (units_le hg.2) (by have : ((0 : Int) : Rat) = 0 := rfl; grind) h
    refine ⟨v, hv, ?_⟩
    rw [hy]
    exact (Dv_int _ _).add ((((upTo_Dv hp f 0).add hw).sub (Dv_int _ _)).div v (by omega))
structure KI (L : List Int) (V : List (List Int)) (left : List Int) (p : Rat) (D : Int) : Prop where
  nd : left.Nodup
  rg : ∀ o ∈ left, 0 ≤ o ∧ o < V.length
  p0 : 0 ≤ p
  p1 : p ≤ ((L.sum : Int) : Rat)
  dv : Dv D p
  nD : (V.length : Int) ∣ D
  D0 : 0 < D
  D1 : D * 20 ^ (left.length - 1) ≤ 1000000
  fr : ∀ o ∈ left, ((left.length : Int) : Rat) * ((tot (fOf L V o) : Int) : Rat) ≤ (((tot (fOf L V o) : Int) : Rat) - upTo 0 (fOf L V o) p) * ((V.length : Int) : Rat)
theorem fOf_mem {L : List Int} {V : List (List Int)} {o : Int} (h : 0 ≤ o ∧ o < V.length) : ∃ r ∈ V, fOf L V o = L.zip r := by
  have : V[o.toNat]? = some V[o.toNat] := List.getElem?_eq_getElem (by omega)
  refine ⟨_, List.mem_of_getElem? this, ?_⟩
  unfold fOf rowOf
  rw [this]; rfl
theorem pow20 (k : Nat) : 0 < (20 : Int) ^ k := Int.pow_pos (by decide)
theorem KI.den {L : List Int} {V : List (List Int)} {left : List Int} {p : Rat} {D : Int} (h : KI L V left p D) : D ≤ 1000000 ∧ (p.den : Int) ≤ 1000000 := by
  have h1 := h.D1
  have h2 := pow20 (left.length - 1)
  have h3 : D * 1 ≤ D * 20 ^ (left.length - 1) := Int.mul_le_mul_of_nonneg_left (by omega) (by have := h.D0; omega)
  have := Dv_den h.D0 h.dv
  omega
/-- Where each one who is left calls: there he has his part. -/
theorem KI.call {L : List Int} {V : List (List Int)} (hg : KG L V) {left : List Int} {p : Rat} {D : Int} (h : KI L V left p D) (hl : 1 ≤ left.length) {o : Int} (ho : o ∈ left) :
    p ≤ cqI L V p o ∧ cqI L V p o ≤ ((L.sum : Int) : Rat) ∧ (upTo 0 (fOf L V o) (cqI L V p o) - upTo 0 (fOf L V o) p) * ((V.length : Int) : Rat) = ((tot (fOf L V o) : Int) : Rat) ∧ ∃ v : Int, (1 ≤ v ∧ v ≤ 20) ∧ Dv (D * v) (cqI L V p o) := by
  obtain ⟨r, hr, hf⟩ := fOf_mem (L := L) (h.rg o ho)
  have hgd := hg.gd hr
  have hv1 := hg.v1
  have hv5 := hg.v5
  have hfr := h.fr o ho
  have hden := h.den
  unfold cqI
  rw [hf] at hfr ⊢
  have hw := pw_wh hgd (n := 1) (m := V.length) (by omega) (by omega)
  have hpl : Pl (L.zip r) p := Pl_of hg hr h.p0 h.p1 (by omega)
  have hn := cast_pos (show 0 < (V.length : Int) by omega)
  have hwn : pw (L.zip r) 1 V.length * ((V.length : Int) : Rat) = ((tot (L.zip r) : Int) : Rat) := by
    unfold pw
    rw [Int.mul_one]
    exact Rat.div_mul_cancel (cast_ne (by omega))
  have ht0 := cast_nonneg (tot_bound hgd).1
  have hll : (1 : Rat) ≤ ((left.length : Int) : Rat) := by rw [← int1]; exact Rat.intCast_le_intCast.2 (by omega)
  have hle : upTo 0 (L.zip r) p + pw (L.zip r) 1 V.length ≤ ((tot (L.zip r) : Int) : Rat) := by
    refine Rat.le_of_mul_le_mul_right ?_ hn
    have h1 := Rat.mul_le_mul_of_nonneg_right hll ht0
    rw [Rat.one_mul] at h1
    rw [Rat.add_mul, hwn]
    have h2 := Rat.le_trans h1 hfr
    rw [rsub_mul] at h2
    grind
  obtain ⟨z, hz⟩ := plc_ex hgd hpl hw hle
  obtain ⟨a1, a2, a3, _⟩ := plc_y hgd hpl hw hz
  have hDw : Dv D (pw (L.zip r) 1 V.length) := by
    obtain ⟨k, hk⟩ := h.nD
    refine ⟨tot (L.zip r) * k, ?_⟩
    rw [hk, Rat.intCast_mul, Rat.intCast_mul, ← Rat.mul_assoc, hwn]
  obtain ⟨v, hv, hd⟩ := plc_dvD hgd h.dv hDw hw.h0 hz
  have hcq : cq (L.zip r) p V.length = z := by rw [cq, hz]; rfl
  rw [hcq]
  rw [hg.lenz hr] at a2
  refine ⟨a1, a2, ?_, v, hv, hd⟩
  rw [a3, ← hwn]
  grind
end Go.Proofs.Ytmblehbjedpjoaa

namespace Go.Proofs.Ytmblehbjedpjoaa
open Go Go.Eng
section
variable {α : Type} {es : Nat} {e : α → List AV} {A H : AHeap} {v : AV} {xs : List α}
end
theorem Ls_nn {α : Type} {es : Nat} {e : α → List AV} {A : AHeap} {v : AV} {xs : List α} (h : Ls es e A v xs) (h0 : 0 < xs.length) : v ≠ .nilS := by
  rintro rfl
  have := h.hc
  simp [slCells] at this
  omega
theorem set_same {α : Type} {l : List α} {n : Nat} {x : α} (h : l[n]? = some x) : l.set n x = l := by
  have hlt := (List.getElem?_eq_some_iff.1 h).1
  have hx := (List.getElem?_eq_some_iff.1 h).2
  rw [← hx]
  exact List.set_getElem_self hlt
end Go.Proofs.Ytmblehbjedpjoaa

namespace Go.Proofs.Ytmblehbjedpjoaa
open Go Go.Eng
/-- Cells that are cleared. -/
def clA (es : Nat) (zero : List AV) (x : AV) (H : AHeap) : Option AHeap :=
  match x with
    | .nilS => some H
    | .sl es' n off len _ => if len = 0 then some H else if es' = es then match H[n]? with
        | some (.cells true l) => if off + len * es ≤ l.length then some (H.set n (.cells true (splice l off (repl zero len)))) else none
        | _ => none
      else none
    | _ => none
theorem flat_map (xs : List Int) : xs.flatMap e1 = xs.map (fun x => I x) := by
  induction xs with
  | nil => rfl
  | cons a l ih => rw [List.flatMap_cons, ih]; rfl
theorem repl_map : ∀ n, repl [AV.int .i64 0] n = (List.replicate n (0 : Int)).map (fun x => I x)
  | 0 => rfl
  | n + 1 => by rw [repl, repl_map n, List.replicate_succ, List.map_cons]; rfl
/-- A list of the call's own in an object that may have more cells. -/
structure OT (A H : AHeap) (n : Nat) (v : AV) (xs tl : List Int) : Prop where
  pre : A <+: H
  new : A.length ≤ n
  ob : H[n]? = some (.cells true ((xs ++ tl).flatMap e1))
  v : v = .sl 1 n 0 xs.length false
section
variable {A H : AHeap} {n : Nat} {v : AV} {xs tl : List Int}
theorem OT.lt (h : OT A H n v xs tl) : n < H.length := (List.getElem?_eq_some_iff.1 h.ob).1
theorem OT.ls (h : OT A H n v xs tl) : L1 H v xs := by
  refine ⟨e1_len, ?_⟩
  rw [h.v]
  simp only [slCells, cellsAt, h.ob, if_true, Nat.zero_add]
  rw [flat_map, if_pos (by simp), flat_map]
  simp
theorem OT.ol (h : OT A H n v xs tl) : OL 1 e1 A H n (.sl 1 n 0 (xs ++ tl).length false) (xs ++ tl) := ⟨e1_len, h.pre, h.new, h.ob, false, rfl⟩
theorem OT.st (h : OT A H n v xs tl) {i : Nat} (hi : i < xs.length) (z : Int) : stA 1 (.ptr (nm v) (of v + i * 1)) (I z) H = some (H.set n (.cells true ((xs.set i z ++ tl).flatMap e1))) := by
  have := h.ol.st (i := i) (by simp; omega) (I z) z rfl
  rw [List.set_append_left _ _ hi] at this
  rw [h.v]
  exact this
theorem OT.clr (h : OT A H n v xs tl) (i : Nat) (hi : i ≤ xs.length) (full : Bool) :
    clA 1 [.int .i64 0] (.sl 1 n (i * 1) (xs.length - i) full) H = some (H.set n (.cells true ((xs.take i ++ (List.replicate (xs.length - i) 0 ++ tl)).flatMap e1))) := by
  unfold clA
  by_cases h0 : xs.length - i = 0
  · have : i = xs.length := by omega
    simp only [h0, if_true]
    rw [List.replicate_zero, List.nil_append, List.take_of_length_le (by omega), set_same h.ob]
  · simp only [h0, if_false, if_true, h.ob]
    rw [if_pos (by rw [flat_map]; simp; omega), repl_map]
    congr 3
    unfold splice
    rw [flat_map, flat_map]
    simp only [List.map_append, List.length_map, List.length_replicate, Nat.mul_one]
    rw [← List.map_append, ← List.map_take, ← List.map_drop, List.take_append_of_le_length hi, show i + (xs.length - i) = xs.length by omega, List.drop_left]
    rw [List.append_assoc]
end
end Go.Proofs.Ytmblehbjedpjoaa

namespace Go.Proofs.Ytmblehbjedpjoaa
open Go Go.Eng
/-- The list of those who are left, and what has been made. -/
structure KS (A H : AHeap) (nl : Nat) (left tl : List Int) (u : AV) (K : List Pc) : Prop where
  ot : OT A H nl (.sl 1 nl 0 left.length false) left tl
  out : (K = [] ∧ u = .nilS) ∨ ∃ no, 0 < K.length ∧ u = .sl 5 no 0 K.length false ∧ A.length ≤ no ∧ no ≠ nl ∧ H[no]? = some (.cells true (K.flatMap e5))
  Kl : K.length ≤ 1000
section
variable {A H H' : AHeap} {nl : Nat} {left tl : List Int} {u : AV} {K : List Pc}
theorem KS.mono (h : KS A H nl left tl u K) (hp : H <+: H') : KS A H' nl left tl u K := by
  refine ⟨⟨h.ot.pre.trans hp, h.ot.new, pre_get hp h.ot.ob, rfl⟩, ?_, h.Kl⟩
  rcases h.out with h1 | ⟨no, h1, h2, h3, h4, h5⟩
  · exact .inl h1
  · exact .inr ⟨no, h1, h2, h3, h4, pre_get hp h5⟩
theorem KS.acc (h : KS A H nl left tl u K) : AccL 5 e5 A H u K := by
  refine ⟨h.ot.pre, flatMap_length e5_len K, ?_⟩
  rcases h.out with ⟨rfl, h2⟩ | ⟨no, h1, h2, h3, h4, h5⟩
  · exact .inl ⟨rfl, h2⟩
  · exact .inr ⟨h1, no, h2, h3, h5⟩
theorem KS.push (h : KS A H nl left tl u K) (p : Pc) (hl : K.length + 1 ≤ 1000) :
    ∃ u' H', appA 5 (H ++ [.cells true (e5 p)]) u (.sl 5 H.length 0 1 true) = some (u', H') ∧ KS A H' nl left tl u' (K ++ [p]) ∧ ∀ m, m < H.length → (∀ no len, u = .sl 5 no 0 len false → m ≠ no) → H'[m]? = H[m]? := by
  have hc := slCells_new H (e5 p) (e5_len p)
  have hlt := h.ot.lt
  rcases h.out with ⟨rfl, rfl⟩ | ⟨no, h1, rfl, h3, h4, h5⟩
  · refine ⟨.sl 5 (H.length + 1) 0 1 false, H ++ [.cells true (e5 p)] ++ [.cells true (e5 p)], ?_, ⟨⟨(h.ot.pre.trans (pre_app _ _)).trans (pre_app _ _), h.ot.new, ?_, rfl⟩, .inr ⟨H.length + 1, by simp, rfl, by have := h.ot.pre.length_le; omega, by omega, by simp⟩, by simp⟩, fun m hm _ => ?_⟩
    · unfold appA
      rw [hc]
      simp [lim]
    · rw [List.append_assoc, List.getElem?_append_left hlt]; exact h.ot.ob
    · rw [List.append_assoc, List.getElem?_append_left hm]
  · have hno := (List.getElem?_eq_some_iff.1 h5).1
    have h5' : (H ++ [AObj.cells true (e5 p)])[no]? = some (.cells true (K.flatMap e5)) := by rw [List.getElem?_append_left hno]; exact h5
    have hfl := flatMap_length e5_len K
    have hpl := h.ot.pre.length_le
    refine ⟨.sl 5 (H.length + 1) 0 (K.length + 1) false, (H ++ [AObj.cells true (e5 p)]).set no AObj.dead ++ [AObj.cells true ((K ++ [p]).flatMap e5)], ?_, ⟨⟨(pre_set (h.ot.pre.trans (pre_app _ _)) h3 _).trans (pre_app _ _), h.ot.new, ?_, rfl⟩, .inr ⟨H.length + 1, by simp, by simp, by omega, by omega, ?_⟩, by simpa using hl⟩, fun m hm hne => ?_⟩
    · unfold appA
      rw [hc]
      have h0 : ¬ (1 : Nat) = 0 := by decide
      have hlim : K.length + 1 ≤ lim := by unfold lim; omega
      simp only [h0, if_false, hlim, and_self, if_true, h5']
      rw [if_pos (by omega), List.drop_zero, ← hfl, List.take_length, List.flatMap_append]
      simp
    · rw [List.getElem?_append_left (by simp; omega), List.getElem?_set_ne h4, List.getElem?_append_left hlt]; exact h.ot.ob
    · rw [List.getElem?_append_right (by simp)]
      simp
    · have := hne no _ rfl
      rw [List.getElem?_append_left (by simp; omega), List.getElem?_set_ne (Ne.symm this), List.getElem?_append_left hm]
end
/-- All owners. -/
def rg0 (n : Nat) : List Int := (List.range n).map (fun (i : Nat) => (i : Int))
structure KSt where
  H : AHeap
  nl : Nat
  left : List Int
  tl : List Int
  u : AV
  K : List Pc
  p : Rat
section
variable {L : List Int} {ws : List (AV × List Int)} {x y : AV} {A : AHeap}
end
end Go.Proofs.Ytmblehbjedpjoaa

namespace Go.Proofs.Ytmblehbjedpjoaa
open Go Go.Eng
/-- Those who are left, in order. -/
def Ord (n : Nat) (left : List Int) : Prop := left = (rg0 n).filter (fun o => decide (o ∈ left))
theorem Ord.without {n : Nat} {left : List Int} (h : Ord n left) (b : Int) : Ord n (without left b) := by
  unfold Ord at h ⊢
  have e : ∀ o, o ∈ Go.Proofs.Ytmblehbjedpjoaa.without left b ↔ o ∈ left ∧ o ≠ b := by
    intro o
    unfold Go.Proofs.Ytmblehbjedpjoaa.without
    rw [List.mem_filter]
    simp
  have h2 : Go.Proofs.Ytmblehbjedpjoaa.without left b = ((rg0 n).filter (fun o => decide (o ∈ left))).filter (fun x => !decide (x = b)) := by
    conv => lhs; rw [h]
    rfl
  rw [h2, List.filter_filter]
  refine List.filter_congr (fun o ho => ?_)
  simp only [List.mem_filter, ho, true_and]
  simp
section
variable {L : List Int} {ws : List (AV × List Int)} {x y : AV} {A : AHeap}
end
end Go.Proofs.Ytmblehbjedpjoaa

namespace Go.Proofs.Ytmblehbjedpjoaa
open Go Go.Eng
section
variable {L : List Int} {ws : List (AV × List Int)} {x y : AV} {A : AHeap}
end
end Go.Proofs.Ytmblehbjedpjoaa

namespace Go.Proofs.Ytmblehbjedpjoaa
open Go Go.Eng
end Go.Proofs.Ytmblehbjedpjoaa

namespace Go.Proofs.Ytmblehbjedpjoaa
open Go Go.Eng
theorem ws_get {ws : List (AV × List Int)} {i : Nat} {x : AV × List Int} (hz : ws[i]? = some x) : (lists ws)[i]? = some x.2 := by
  rw [List.getElem?_map, hz]; rfl
theorem c_SameInts {xs ys : List Int} {v u : AV} {A : AHeap} (hx : L1 A v xs) (hy : L1 A u ys) (hl : xs.length ≤ 1000000) : ACalls Try.prog 103 [v, u] A (B (decide (xs = ys))) A := by
  refine acalls hmix Try.func103 (by kernel_rfl) t103 2 rfl (by decide) ?_
  by_cases hle : xs.length = ys.length
  · have hle' : (xs.length : Int) = ys.length := by omega
    dsimp only [m103]
    simp (maxSteps := 4000000) -implicitDefEqProofs -dsimp (disch := omega) only [↓AW_skip, ↓AW_ops, ↓AW_seq, ↓AW_cond, ↓AW_block, ↓AOps_nil, ↓AOps_pu, on_some, condB_f, ↓then_normal, pval, rd_S, rd_C, put_S, ↓AW_toLoop, eq_self, List.replicate_succ, List.replicate_zero, List.set_cons_zero, List.set_cons_succ, List.getElem?_cons_zero, List.getElem?_cons_succ, Option.getD_some, Nat.reduceSub, List.cons_append, List.nil_append, bin_neq, decide_false, not_true_eq_false, hx.len, hy.len, hle']
    refine LoopK.by 26 (fun i : Nat => i ≤ xs.length ∧ xs.take i = ys.take i) (fun i => [(0, v), (1, u), (5, I i)]) (fun _ => A) (fun i => xs.length - i) 0 ⟨by omega, rfl⟩ rfl (by simp [Has, rd_s]) rfl ?_
    rintro i ⟨hi, he⟩
    by_cases hlt : i < xs.length
    · obtain ⟨z, hz⟩ : ∃ z, xs[i]? = some z := ⟨_, List.getElem?_eq_getElem hlt⟩
      have hlt' : (i : Int) < xs.length := by omega
      have hlt2 : i < ys.length := by omega
      obtain ⟨w, hw⟩ : ∃ w, ys[i]? = some w := ⟨_, List.getElem?_eq_getElem hlt2⟩
      by_cases hzw : z = w
      · subst hzw
        simp (maxSteps := 4000000) -implicitDefEqProofs -dsimp (disch := omega) only [↓AW_skip, ↓AW_ops, ↓AW_seq, ↓AW_cond, ↓AW_block, ↓AOps_nil, ↓AOps_pu, ↓AOps_ld, on_some, condB_t, condB_f, ↓then_normal, ↓inBlock_normal, pval, lval, rd_S, rd_C, put_S, partA, eq_self, mk, List.foldl_cons, List.foldl_nil, List.replicate_succ, List.replicate_zero, List.set_cons_zero, List.set_cons_succ, List.getElem?_cons_zero, List.getElem?_cons_succ, List.drop_zero, List.take_succ_cons, List.take_nil, Option.getD_some, List.length_cons, List.length_nil, Nat.reduceAdd, Nat.reduceLeDiff, Nat.zero_add, bin_add, bin_neq, bin_lss, w64, if_true, if_false, Bool.false_eq_true, decide_true, decide_false, Go.Eng.e1, true_and, not_true_eq_false, hlt', hx.len, hx.idx hlt, hx.ld0 hz 1 false (by decide), hy.idx hlt2, hy.ld0 hw 1 false (by decide)]
        exact ⟨i + 1, ⟨hlt, (take_succ_eq hz hw).2 ⟨he, rfl⟩⟩, by simp [Has, rd_s], by omega⟩
      · simp (maxSteps := 4000000) -implicitDefEqProofs -dsimp (disch := omega) only [↓AW_skip, ↓AW_ops, ↓AW_seq, ↓AW_cond, ↓AW_block, ↓AW_ret, ↓AOps_nil, ↓AOps_pu, ↓AOps_ld, on_some, condB_t, ↓then_normal, ↓then_ret, ↓inBlock_ret, ↓Fin_ret, pval, lval, rd_S, rd_C, put_S, resV, resL, partA, eq_self, mk, List.foldl_cons, List.foldl_nil, List.replicate_succ, List.replicate_zero, List.set_cons_zero, List.set_cons_succ, List.getElem?_cons_zero, List.getElem?_cons_succ, List.drop_zero, List.take_succ_cons, List.take_nil, Option.getD_some, List.length_cons, List.length_nil, Nat.reduceLeDiff, Nat.zero_add, bin_neq, bin_lss, if_true, if_false, Bool.false_eq_true, decide_true, Go.Eng.e1, not_false_eq_true, hlt', hx.len, hx.idx hlt, hx.ld0 hz 1 false (by decide), hy.idx hlt2, hy.ld0 hw 1 false (by decide), hzw]
        refine gc_same ?_
        have : ¬ xs = ys := by rintro rfl; rw [hz] at hw; exact hzw (Option.some.inj hw)
        simp [this]
    · have hlt' : ¬ ((i : Int) < xs.length) := by omega
      simp (maxSteps := 4000000) -implicitDefEqProofs -dsimp (disch := omega) only [↓AW_ops, ↓AW_seq, ↓AW_cond, ↓AW_exit, ↓AW_ret, ↓AOps_nil, ↓AOps_pu, on_some, condB_f, ↓then_normal, ↓then_exit, ↓inBlock_exit, ↓Fin_ret, pval, rd_S, rd_C, put_S, resV, resL, eq_self, mk, List.foldl_cons, List.foldl_nil, List.replicate_succ, List.replicate_zero, List.set_cons_zero, List.set_cons_succ, List.getElem?_cons_zero, List.getElem?_cons_succ, Option.getD_some, bin_lss, if_true, decide_false, hlt', hx.len]
      rw [List.take_of_length_le (by omega), List.take_of_length_le (by omega)] at he
      exact gc_same (by simp [he])
  · have hle' : ¬ (xs.length : Int) = ys.length := by omega
    dsimp only [m103]
    simp (maxSteps := 4000000) -implicitDefEqProofs -dsimp (disch := omega) only [↓AW_ops, ↓AW_seq, ↓AW_cond, ↓AW_ret, ↓AOps_nil, ↓AOps_pu, on_some, condB_t, ↓then_normal, ↓then_ret, ↓Fin_ret, pval, rd_S, rd_C, put_S, resV, resL, List.replicate_succ, List.replicate_zero, List.set_cons_zero, List.set_cons_succ, List.getElem?_cons_zero, List.getElem?_cons_succ, Option.getD_some, Nat.reduceSub, List.cons_append, List.nil_append, bin_neq, decide_true, not_false_eq_true, hx.len, hy.len, hle']
    have : ¬ xs = ys := by rintro rfl; exact hle rfl
    exact gc_same (by simp [this])
theorem c_Clone {xs : List Int} {v : AV} {A : AHeap} (hx : L1 A v xs) (hn : v ≠ .nilS) (hl : xs.length ≤ 1000000) :
    ∃ r H', ACalls Try.prog 116 [v] A r H' ∧ ∃ n full, A <+: H' ∧ A.length ≤ n ∧ r = .sl 1 n 0 xs.length full ∧ H'[n]? = some (.cells true (xs.flatMap e1 ++ [])) := by
  refine acallsR hmix Try.func116 (by kernel_rfl) t116 _ 1 rfl (by decide) ?_
  obtain ⟨v', n, full, H2, happ, hp, hle, rfl, hg⟩ := L1_app_new hx (by simp [lim]; omega)
  rcases hx.inv with ⟨rfl, _⟩ | ⟨n', off, full', rw, l, rfl, _⟩
  · exact absurd rfl hn
  · dsimp only [m116]
    simp (maxSteps := 4000000) -implicitDefEqProofs -dsimp (disch := omega) only [↓AW_skip, ↓AW_ops, ↓AW_seq, ↓AW_cond, ↓AW_ret, ↓AOps_nil, ↓AOps_pu, ↓AOps_ha, on_some, extK_false, extK_app, condB_f, ↓then_normal, ↓FinR_ret, pval, hval_blds, hval_app, rd_S, rd_C, put_S, resV, resL, fillA, repl, List.replicate_succ, List.replicate_zero, List.set_cons_zero, List.set_cons_succ, List.getElem?_cons_zero, List.getElem?_cons_succ, Option.getD_some, map_n, Nat.reduceSub, List.cons_append, List.nil_append, List.append_nil, List.replicate_zero, repl, happ]
    exact ⟨_, _, gc_all, n, full, hp, hle, rfl, by simpa using hg⟩
/-- A field that the call has made. -/
def NF (A H : AHeap) (r : AV) (L : List Int) (V : List (List Int)) : Prop := ∃ A1 x y ws, A <+: A1 ∧ A1 <+: H ∧ L1 A1 x L ∧ NL A1 H y ws ∧ lists ws = V ∧ r = .agg [x, y]
theorem row_l1 {A H : AHeap} {xs : List Int} {n : Nat} {full : Bool} (h : H[n]? = some (.cells true (xs.flatMap e1 ++ []))) : L1 H (.sl 1 n 0 xs.length full) xs := by
  refine ⟨e1_len, ?_⟩
  have hl := flatMap_length e1_len xs
  simp only [slCells, cellsAt, h, if_true, Nat.zero_add]
  rw [if_pos (by rw [List.length_append]; omega)]
  simp only [List.drop_zero, Option.map_some, Option.some.injEq, Prod.mk.injEq, true_and]
  rw [← hl, List.take_left]
theorem s40 {x y : AV} {L : List Int} {ws : List (AV × List Int)} {A : AHeap} (hL : L1 A x L) (hV : LL A y ws) (hl : L.length ≤ 1000000) (hs : ws.length ≤ 1000000) (hw : ∀ w ∈ ws, w.2.length ≤ 1000000) :
    ∃ r H', ACalls Try.prog 40 [.agg [x, y]] A r H' ∧ NF A H' r L (lists ws) := by
  refine acallsR hmix Try.func40 (by kernel_rfl) t40 _ 1 rfl (by decide) ?_
  obtain ⟨v1, n1, full1, H1, happ1, hp1, hle1, rfl, hg1⟩ := L1_app_new hL (by simp [lim]; omega)
  have hx1 := row_l1 (A := A) (full := full1) hg1
  have hV1 := hV.mono hp1
  dsimp only [m40]
  simp (maxSteps := 4000000) -implicitDefEqProofs -dsimp (disch := omega) only [↓AW_ops, ↓AW_seq, ↓AW_block, ↓AOps_nil, ↓AOps_pu, ↓AOps_ha, on_some, extK_false, extK_app, ↓then_normal, pval, hval_blds, hval_app, rd_S, rd_C, put_S, ↓AW_toLoop, chkd, isAdr, bput, bgot, cells_agg, cells_sl, splice, partA, fillA, repl, eq_self, List.replicate_succ, List.replicate_zero, List.set_cons_zero, List.set_cons_succ, List.getElem?_cons_zero, List.getElem?_cons_succ, List.drop_zero, List.drop_succ_cons, List.drop_nil, List.take_zero, List.take_succ_cons, Option.getD_some, Option.map_some, map_c, map_n, List.length_cons, List.length_nil, Nat.reduceAdd, Nat.reduceSub, Nat.reduceLeDiff, Nat.zero_add, List.cons_append, List.nil_append, List.append_nil, if_true, if_false, Bool.false_eq_true, and_true, ne_eq, not_true_eq_false, List.replicate_zero, repl, happ1]
  refine LoopK.by 30 (fun x : Nat × AV × AHeap × List (AV × List Int) => (x.1 ≤ ws.length ∧ x.2.2.2.length = x.1) ∧ NL H1 x.2.2.1 x.2.1 x.2.2.2 ∧ lists x.2.2.2 = (lists ws).take x.1)
    (fun z => [(1, .agg [x, y]), (2, .agg [.nilS, .nilS]), (3, .agg [.sl 1 n1 0 L.length full1, z.2.1]), (4, I z.1)]) (fun x => x.2.2.1) (fun x => ws.length - x.1) (0, .nilS, H1, []) ⟨⟨by simp only; omega, rfl⟩, NL.nil (List.prefix_refl _), by simp⟩ rfl (by simp [Has, rd_s]) rfl ?_
  rintro ⟨i, u, H2, ws1⟩ ⟨⟨hi, hwl⟩, hnl, hli⟩
  simp only at hi hwl hnl hli
  have hw1 := hV1.mono hnl.acc.1
  have hll : (lists ws).length = ws.length := by simp
  by_cases hlt : i < ws.length
  · obtain ⟨z, hz⟩ : ∃ z, ws[i]? = some z := ⟨_, List.getElem?_eq_getElem hlt⟩
    have hlt' : (i : Int) < ws.length := by omega
    have hm := List.mem_of_getElem? hz
    have hx := hw1.inn z hm
    have hx2 := hw z hm
    have hA0 := hV1.pos (by omega)
    have hwm := hw1.mono (pre_app H2 [AObj.cells true []])
    obtain ⟨v2, n, full, H3, happ2, hp2, hn, rfl, hg2⟩ := L1_app_new hx (by simp [lim]; omega)
    obtain ⟨v3, H4, happ, h3⟩ := (hnl.mono hp2).push (.sl 1 n 0 z.2.length full, z.2) (.inr ⟨n, full, [], rfl, Nat.le_trans hnl.acc.1.length_le hn, hg2, nm_ne_nil hnl hn hA0, fun y hy => (hnl.lt.1 y hy).imp id (fun h => by omega)⟩) (by simp [lim]; omega)
    simp only at happ
    have hv3c : v3.cells? = some [v3] := Ls_cells (AccL_ls h3.acc e0_len)
    simp (maxSteps := 4000000) -implicitDefEqProofs -dsimp (disch := omega) only [↓AW_skip, ↓AW_ops, ↓AW_seq, ↓AW_cond, ↓AW_block, ↓AOps_nil, ↓AOps_pu, ↓AOps_ld, ↓AOps_ha, on_some, extK_false, extK_app, condB_t, ↓then_normal, ↓inBlock_normal, pval, lval, hval_blds, hval_app, rd_S, rd_C, put_S, chkd, isAdr, bput, bgot, cells_agg, cells_sl, splice, partA, fillA, repl, eq_self, mk, List.foldl_cons, List.foldl_nil, List.replicate_succ, List.replicate_zero, List.set_cons_zero, List.set_cons_succ, List.getElem?_cons_zero, List.getElem?_cons_succ, List.drop_zero, List.drop_succ_cons, List.drop_nil, List.take_zero, List.take_succ_cons, List.take_nil, Option.getD_some, map_c, map_n, List.length_cons, List.length_nil, Nat.reduceAdd, Nat.reduceLeDiff, Nat.zero_add, List.cons_append, List.nil_append, List.append_nil, bin_add, bin_lss, w64, if_true, if_false, Bool.false_eq_true, decide_true, true_and, and_true, ne_eq, not_true_eq_false, hlt', hw1.ls.len, hwm.ls.idx hlt, hwm.ls.ld0 hz 1 false (by decide), e0, happ2, happ, hv3c, List.replicate_zero, repl]
    refine ⟨(i + 1, v3, H4, ws1 ++ [(.sl 1 n 0 z.2.length full, z.2)]), ⟨⟨hlt, by simp [hwl]⟩, h3, ?_⟩, by simp [Has, rd_s], rfl, by simp only; omega⟩
    simp only [lists, List.map_append, List.map_cons, List.map_nil]
    rw [List.take_add_one, show List.map Prod.snd ws1 = (lists ws).take i from hli, ws_get hz]
    rfl
  · have hlt' : ¬ ((i : Int) < ws.length) := by omega
    rw [List.take_of_length_le (by omega)] at hli
    simp (maxSteps := 4000000) -implicitDefEqProofs -dsimp (disch := omega) only [↓AW_ops, ↓AW_seq, ↓AW_cond, ↓AW_exit, ↓AW_ret, ↓AOps_nil, ↓AOps_pu, on_some, condB_f, ↓then_normal, ↓then_exit, ↓inBlock_exit, ↓FinR_ret, pval, rd_S, put_S, resV, resL, chkd, isAdr, bput, bgot, cells_agg, splice, partA, eq_self, mk, List.foldl_cons, List.foldl_nil, List.replicate_succ, List.replicate_zero, List.set_cons_zero, List.set_cons_succ, List.getElem?_cons_zero, List.getElem?_cons_succ, List.drop_zero, List.drop_succ_cons, List.drop_nil, List.take_zero, List.take_succ_cons, List.take_nil, Option.getD_some, List.length_cons, List.length_nil, Nat.reduceAdd, Nat.reduceLeDiff, Nat.reduceEqDiff, Nat.zero_add, List.nil_append, List.append_nil, bin_lss, if_true, if_false, Bool.false_eq_true, decide_false, ne_eq, not_true_eq_false, hlt', hw1.ls.len]
    exact ⟨_, _, gc_all, H1, _, u, ws1, hp1, hnl.acc.1, hx1, hnl, hli, rfl⟩
theorem s92 {x y : AV} {L : List Int} {ws : List (AV × List Int)} {A : AHeap} (hL : L1 A x L) (hV : LL A y ws) (hl : L.length ≤ 1000000) (hs : ws.length ≤ 1000000) (hw : ∀ w ∈ ws, w.2.length ≤ 1000000) (h0 : 1 ≤ L.length) (hw0 : ∀ w ∈ ws, 1 ≤ w.2.length) :
    ∃ r H', ACalls Try.prog 92 [.agg [x, y]] A r H' ∧ NF A H' r L (lists ws) := by
  refine acallsR hmix Try.func92 (by kernel_rfl) t92 _ 1 rfl (by decide) ?_
  obtain ⟨r1, H1, hc1, n1, full1, hp1, hle1, rfl, hg1⟩ := c_Clone hL (Ls_nn hL h0) hl
  have hx1 := row_l1 (A := A) (full := full1) hg1
  have hV1 := hV.mono hp1
  dsimp only [m92]
  simp (maxSteps := 4000000) -implicitDefEqProofs -dsimp (disch := omega) only [↓AW_ops, ↓AW_seq, ↓AOps_nil, ↓AOps_pu, ↓AOps_call, on_some, ↓then_normal, pval, rd_S, rd_C, put_S, chkd, isAdr, bgot, cells_agg, partA, eq_self, List.replicate_succ, List.replicate_zero, List.set_cons_zero, List.set_cons_succ, List.getElem?_cons_zero, List.getElem?_cons_succ, List.drop_zero, List.take_zero, List.take_succ_cons, Option.getD_some, map_c, map_n, List.length_cons, List.length_nil, Nat.reduceAdd, Nat.reduceSub, Nat.reduceLeDiff, Nat.zero_add, List.cons_append, List.nil_append, if_true, if_false, Bool.false_eq_true]
  refine CallK.of hc1 ?_
  simp (maxSteps := 4000000) -implicitDefEqProofs -dsimp (disch := omega) only [↓AW_ops, ↓AW_seq, ↓AW_block, ↓AOps_nil, ↓AOps_pu, on_some, extK_false, ↓then_normal, pval, rd_S, rd_C, put_S, ↓AW_toLoop, chkd, isAdr, bput, bgot, cells_agg, cells_sl, splice, partA, fillA, eq_self, List.replicate_succ, List.replicate_zero, List.set_cons_zero, List.set_cons_succ, List.getElem?_cons_zero, List.getElem?_cons_succ, List.drop_zero, List.drop_succ_cons, List.drop_nil, List.take_zero, List.take_succ_cons, List.take_nil, Option.getD_some, Option.map_some, map_c, map_n, List.length_cons, List.length_nil, Nat.reduceAdd, Nat.reduceSub, Nat.reduceLeDiff, Nat.zero_add, List.cons_append, List.nil_append, List.append_nil, if_true, if_false, Bool.false_eq_true, and_true, ne_eq, not_true_eq_false, hV1.ls.len]
  refine LoopK.by 26 (fun x : Nat × AV × AHeap × List (AV × List Int) => (x.1 ≤ ws.length ∧ x.2.2.2.length = x.1) ∧ NL H1 x.2.2.1 x.2.1 x.2.2.2 ∧ lists x.2.2.2 = (lists ws).take x.1)
    (fun z => [(2, .agg [.nilS, .nilS]), (3, .agg [.sl 1 n1 0 L.length full1, z.2.1]), (11, y), (12, I ws.length), (13, I z.1)]) (fun x => x.2.2.1) (fun x => ws.length - x.1) (0, .nilS, H1, []) ⟨⟨by simp only; omega, rfl⟩, NL.nil (List.prefix_refl _), by simp⟩ rfl (by simp [Has, rd_s]) rfl ?_
  rintro ⟨i, u, H2, ws1⟩ ⟨⟨hi, hwl⟩, hnl, hli⟩
  simp only at hi hwl hnl hli
  have hw1 := hV1.mono hnl.acc.1
  have hll : (lists ws).length = ws.length := by simp
  by_cases hlt : i < ws.length
  · obtain ⟨z, hz⟩ : ∃ z, ws[i]? = some z := ⟨_, List.getElem?_eq_getElem hlt⟩
    have hlt' : (i : Int) < ws.length := by omega
    have hm := List.mem_of_getElem? hz
    have hx := hw1.inn z hm
    have hx2 := hw z hm
    have hA0 := hV1.pos (by omega)
    obtain ⟨r2, H3, hc2, n, full, hp2, hn, rfl, hg2⟩ := c_Clone hx (Ls_nn hx (hw0 z hm)) hx2
    obtain ⟨v3, H4, happ, h3⟩ := (hnl.mono hp2).push (.sl 1 n 0 z.2.length full, z.2) (.inr ⟨n, full, [], rfl, Nat.le_trans hnl.acc.1.length_le hn, hg2, nm_ne_nil hnl hn hA0, fun y hy => (hnl.lt.1 y hy).imp id (fun h => by omega)⟩) (by simp [lim]; omega)
    simp only at happ
    have hv3c : v3.cells? = some [v3] := Ls_cells (AccL_ls h3.acc e0_len)
    simp (maxSteps := 4000000) -implicitDefEqProofs -dsimp (disch := omega) only [↓AW_skip, ↓AW_ops, ↓AW_seq, ↓AW_cond, ↓AW_block, ↓AOps_nil, ↓AOps_pu, ↓AOps_ld, ↓AOps_call, on_some, condB_t, ↓then_normal, pval, lval, rd_S, put_S, chkd, isAdr, bgot, cells_agg, partA, eq_self, mk, List.foldl_cons, List.foldl_nil, List.replicate_succ, List.replicate_zero, List.set_cons_zero, List.set_cons_succ, List.getElem?_cons_zero, List.getElem?_cons_succ, List.drop_zero, List.drop_succ_cons, List.take_succ_cons, List.take_nil, Option.getD_some, map_c, map_n, List.length_cons, List.length_nil, Nat.reduceAdd, Nat.reduceLeDiff, Nat.zero_add, bin_lss, if_true, if_false, Bool.false_eq_true, decide_true, hlt', hw1.ls.idx hlt, hw1.ls.ld0 hz 1 false (by decide), e0]
    refine CallK.of hc2 ?_
    simp (maxSteps := 4000000) -implicitDefEqProofs -dsimp (disch := omega) only [↓AW_ops, ↓AOps_nil, ↓AOps_pu, ↓AOps_ha, on_some, extK_false, extK_app, ↓then_normal, ↓inBlock_normal, pval, hval_blds, hval_app, rd_S, rd_C, put_S, chkd, isAdr, bput, cells_agg, cells_sl, splice, fillA, repl, eq_self, mk, List.foldl_cons, List.foldl_nil, List.replicate_succ, List.replicate_zero, List.set_cons_zero, List.set_cons_succ, List.getElem?_cons_zero, List.getElem?_cons_succ, List.drop_succ_cons, List.drop_nil, List.take_zero, List.take_succ_cons, Option.getD_some, map_c, map_n, List.length_cons, List.length_nil, Nat.reduceAdd, Nat.reduceLeDiff, Nat.zero_add, List.cons_append, List.nil_append, List.append_nil, bin_add, w64, if_true, if_false, true_and, and_true, ne_eq, not_true_eq_false, happ, hv3c]
    refine ⟨(i + 1, v3, H4, ws1 ++ [(.sl 1 n 0 z.2.length full, z.2)]), ⟨⟨hlt, by simp [hwl]⟩, h3, ?_⟩, by simp [Has, rd_s], rfl, by simp only; omega⟩
    simp only [lists, List.map_append, List.map_cons, List.map_nil]
    rw [List.take_add_one, show List.map Prod.snd ws1 = (lists ws).take i from hli, ws_get hz]
    rfl
  · have hlt' : ¬ ((i : Int) < ws.length) := by omega
    rw [List.take_of_length_le (by omega)] at hli
    simp (maxSteps := 4000000) -implicitDefEqProofs -dsimp (disch := omega) only [↓AW_ops, ↓AW_seq, ↓AW_cond, ↓AW_exit, ↓AW_ret, ↓AOps_nil, ↓AOps_pu, on_some, condB_f, ↓then_normal, ↓then_exit, ↓inBlock_exit, ↓FinR_ret, pval, rd_S, put_S, resV, resL, chkd, bput, bgot, cells_agg, splice, partA, eq_self, mk, List.foldl_cons, List.foldl_nil, List.replicate_succ, List.replicate_zero, List.set_cons_zero, List.set_cons_succ, List.getElem?_cons_zero, List.getElem?_cons_succ, List.drop_zero, List.drop_succ_cons, List.drop_nil, List.take_zero, List.take_succ_cons, List.take_nil, Option.getD_some, List.length_cons, List.length_nil, Nat.reduceAdd, Nat.reduceLeDiff, Nat.reduceEqDiff, Nat.zero_add, List.nil_append, List.append_nil, bin_lss, if_true, if_false, decide_false, ne_eq, not_true_eq_false, hlt']
    exact ⟨_, _, gc_all, H1, _, u, ws1, hp1, hnl.acc.1, hx1, hnl, hli, rfl⟩
theorem s45 {x y x2 y2 : AV} {L L2 : List Int} {ws vs : List (AV × List Int)} {A : AHeap} (hL : L1 A x L) (hw : LL A y ws) (hL2 : L1 A x2 L2) (hv : LL A y2 vs) (hl : L.length ≤ 1000000) (hs1 : ws.length ≤ 1000000) (hs : ∀ w ∈ ws, w.2.length ≤ 1000000) :
    ACalls Try.prog 45 [.agg [x, y], .agg [x2, y2]] A (B (decide (L = L2 ∧ lists ws = lists vs))) A := by
  refine acalls hmix Try.func45 (by kernel_rfl) t45 2 rfl (by decide) ?_
  have hwl : (lists ws).length = ws.length := by simp
  have hvl : (lists vs).length = vs.length := by simp
  dsimp only [m45]
  simp (maxSteps := 4000000) -implicitDefEqProofs -dsimp (disch := omega) only [↓AW_ops, ↓AW_seq, ↓AOps_nil, ↓AOps_pu, ↓AOps_call, on_some, ↓then_normal, pval, rd_S, rd_C, put_S, chkd, isAdr, bgot, AV.cells?, partA, eq_self, List.replicate_succ, List.replicate_zero, List.set_cons_zero, List.set_cons_succ, List.getElem?_cons_zero, List.getElem?_cons_succ, List.drop_zero, List.take_zero, List.take_succ_cons, Option.getD_some, map_c, map_n, List.length_cons, List.length_nil, Nat.reduceAdd, Nat.reduceSub, Nat.reduceLeDiff, Nat.zero_add, List.cons_append, List.nil_append, if_true, if_false, Bool.false_eq_true]
  refine CallK.of (c_SameInts hL hL2 (by omega)) ?_
  by_cases hLL : L = L2
  · by_cases hle : ws.length = vs.length
    · have hle' : (ws.length : Int) = vs.length := by omega
      simp (maxSteps := 4000000) -implicitDefEqProofs -dsimp (disch := omega) only [↓AW_skip, ↓AW_ops, ↓AW_seq, ↓AW_cond, ↓AW_block, ↓AOps_nil, ↓AOps_pu, ↓AOps_guard, on_some, extK_same, guardB_ff, condB_f, ↓then_normal, pval, rd_S, rd_C, put_S, ↓AW_toLoop, chkd, isAdr, bgot, AV.cells?, partA, eq_self, List.replicate_succ, List.replicate_zero, List.set_cons_zero, List.set_cons_succ, List.getElem?_cons_zero, List.getElem?_cons_succ, List.drop_zero, List.drop_succ_cons, List.take_succ_cons, List.take_nil, Option.getD_some, List.length_cons, List.length_nil, Nat.reduceAdd, Nat.reduceSub, Nat.reduceLeDiff, Nat.zero_add, List.cons_append, List.nil_append, bin_neq, if_true, if_false, Bool.false_eq_true, Bool.not_true, decide_true, decide_false, not_true_eq_false, hLL, hw.ls.len, hv.ls.len, hle']
      refine LoopK.by 40 (fun i : Nat => i ≤ ws.length ∧ (lists ws).take i = (lists vs).take i) (fun i => [(2, .agg [x, y]), (3, .agg [x2, y2]), (5, I i)]) (fun _ => A) (fun i => ws.length - i) 0 ⟨by omega, rfl⟩ rfl (by simp [Has, rd_s]) rfl ?_
      rintro i ⟨hi, he⟩
      by_cases hlt : i < ws.length
      · obtain ⟨x, hz⟩ : ∃ z, ws[i]? = some z := ⟨_, List.getElem?_eq_getElem hlt⟩
        have hlt' : (i : Int) < ws.length := by omega
        have hlt2 : i < vs.length := by omega
        obtain ⟨y, hy⟩ : ∃ y, vs[i]? = some y := ⟨_, List.getElem?_eq_getElem hlt2⟩
        have hx1 := hw.inn x (List.mem_of_getElem? hz)
        have hx2 := hs x (List.mem_of_getElem? hz)
        have hy1 := hv.inn y (List.mem_of_getElem? hy)
        simp (maxSteps := 4000000) -implicitDefEqProofs -dsimp (disch := omega) only [↓AW_skip, ↓AW_ops, ↓AW_seq, ↓AW_cond, ↓AW_block, ↓AOps_nil, ↓AOps_pu, ↓AOps_ld, ↓AOps_call, on_some, condB_t, ↓then_normal, pval, lval, rd_S, put_S, chkd, isAdr, bgot, AV.cells?, partA, eq_self, mk, List.foldl_cons, List.foldl_nil, List.replicate_succ, List.replicate_zero, List.set_cons_zero, List.set_cons_succ, List.getElem?_cons_zero, List.getElem?_cons_succ, List.drop_zero, List.drop_succ_cons, List.take_succ_cons, List.take_nil, Option.getD_some, map_c, map_n, List.length_cons, List.length_nil, Nat.reduceAdd, Nat.reduceLeDiff, Nat.zero_add, bin_lss, if_true, if_false, Bool.false_eq_true, decide_true, hlt', hw.ls.len, hw.ls.idx hlt, hw.ls.ld0 hz 1 false (by decide), hv.ls.idx hlt2, hv.ls.ld0 hy 1 false (by decide), e0]
        refine CallK.of (c_SameInts hx1 hy1 (by omega)) ?_
        by_cases hxy : x.2 = y.2
        · simp (maxSteps := 4000000) -implicitDefEqProofs -dsimp (disch := omega) only [↓AW_skip, ↓AW_ops, ↓AW_cond, ↓AOps_nil, ↓AOps_pu, on_some, extK_same, condB_f, ↓then_normal, ↓inBlock_normal, pval, rd_S, rd_C, put_S, eq_self, mk, List.foldl_cons, List.foldl_nil, List.replicate_succ, List.replicate_zero, List.set_cons_zero, List.set_cons_succ, List.getElem?_cons_zero, List.getElem?_cons_succ, Option.getD_some, List.length_cons, List.length_nil, Nat.reduceAdd, Nat.zero_add, bin_add, w64, Bool.not_true, decide_true, true_and, hxy]
          exact ⟨i + 1, ⟨hlt, (take_succ_eq (ws_get hz) (ws_get hy)).2 ⟨he, hxy⟩⟩, by simp [Has, rd_s], by omega⟩
        · simp (maxSteps := 4000000) -implicitDefEqProofs -dsimp (disch := omega) only [↓AW_ops, ↓AW_seq, ↓AW_cond, ↓AW_ret, ↓AOps_nil, ↓AOps_pu, on_some, extK_same, condB_t, ↓then_normal, ↓then_ret, ↓inBlock_ret, ↓Fin_ret, pval, rd_S, rd_C, put_S, resV, resL, mk, List.foldl_cons, List.foldl_nil, List.replicate_succ, List.replicate_zero, List.set_cons_zero, List.set_cons_succ, List.getElem?_cons_zero, List.getElem?_cons_succ, Option.getD_some, Bool.not_false, decide_false, hxy]
          refine gc_same ?_
          have : ¬ lists ws = lists vs := by
            intro h
            have h1 := ws_get hz
            rw [h, ws_get hy] at h1
            exact hxy (Option.some.inj h1).symm
          simp only [this, and_false, decide_false]
      · have hlt' : ¬ ((i : Int) < ws.length) := by omega
        simp (maxSteps := 4000000) -implicitDefEqProofs -dsimp (disch := omega) only [↓AW_ops, ↓AW_seq, ↓AW_cond, ↓AW_exit, ↓AW_ret, ↓AOps_nil, ↓AOps_pu, on_some, condB_f, ↓then_normal, ↓then_exit, ↓inBlock_exit, ↓Fin_ret, pval, rd_S, rd_C, put_S, resV, resL, chkd, isAdr, bgot, AV.cells?, partA, eq_self, mk, List.foldl_cons, List.foldl_nil, List.replicate_succ, List.replicate_zero, List.set_cons_zero, List.set_cons_succ, List.getElem?_cons_zero, List.getElem?_cons_succ, List.drop_zero, List.drop_succ_cons, List.take_succ_cons, List.take_nil, Option.getD_some, List.length_cons, List.length_nil, Nat.reduceAdd, Nat.reduceLeDiff, Nat.zero_add, bin_lss, if_true, if_false, Bool.false_eq_true, decide_false, hlt', hw.ls.len]
        rw [List.take_of_length_le (by omega), List.take_of_length_le (by omega)] at he
        exact gc_same (by simp only [he, hLL, and_self, decide_true])
    · have hle' : ¬ (ws.length : Int) = vs.length := by omega
      simp (maxSteps := 4000000) -implicitDefEqProofs -dsimp (disch := omega) only [↓AW_ops, ↓AW_seq, ↓AW_cond, ↓AW_ret, ↓AOps_nil, ↓AOps_pu, ↓AOps_guard, on_some, extK_same, guardB_ff, condB_t, ↓then_normal, ↓then_ret, ↓Fin_ret, pval, rd_S, rd_C, put_S, resV, resL, chkd, isAdr, bgot, AV.cells?, partA, eq_self, List.replicate_succ, List.replicate_zero, List.set_cons_zero, List.set_cons_succ, List.getElem?_cons_zero, List.getElem?_cons_succ, List.drop_zero, List.drop_succ_cons, List.take_succ_cons, List.take_nil, Option.getD_some, List.length_cons, List.length_nil, Nat.reduceAdd, Nat.reduceSub, Nat.reduceLeDiff, Nat.zero_add, List.cons_append, List.nil_append, bin_neq, if_true, if_false, Bool.false_eq_true, Bool.not_true, decide_true, true_and, not_false_eq_true, hLL, hw.ls.len, hv.ls.len, hle']
      have : ¬ lists ws = lists vs := by
        intro h
        have := congrArg List.length h
        omega
      exact gc_same (by simp only [this, decide_false])
  · simp (maxSteps := 4000000) -implicitDefEqProofs -dsimp (disch := omega) only [↓AW_ops, ↓AW_seq, ↓AW_cond, ↓AW_ret, ↓AOps_nil, ↓AOps_pu, ↓AOps_guard, on_some, extK_same, guardB_tf, skipS_some, condB_t, ↓then_normal, ↓then_ret, ↓Fin_ret, pval, rd_S, rd_C, put_S, resV, resL, eq_self, List.replicate_succ, List.replicate_zero, List.set_cons_zero, List.set_cons_succ, List.getElem?_cons_zero, List.getElem?_cons_succ, Option.getD_some, Nat.reduceSub, List.cons_append, List.nil_append, if_true, Bool.not_false, decide_false, hLL]
    exact gc_same (by simp only [false_and, decide_false])
end Go.Proofs.Ytmblehbjedpjoaa

namespace Go.Proofs.Ytmblehbjedpjoaa
open Go Go.Eng
theorem put_heap (w : World) (q blk off : Nat) (d : Array CV) (b : Nat) : (Go.Sort.putRow enV (Go.Sort.ahead w q) blk off d).heap[b]? = if blk = b then (w.heap[b]?).map (Go.Sort.onCells (Go.Sort.putCells enV off d)) else w.heap[b]? := by
  show (w.heap.modify blk (Go.Sort.onCells (Go.Sort.putCells enV off d)))[b]? = _
  rw [Array.getElem?_modify]
/-- A value of one cell as one of those. -/
def toCV (v : Value) : CV := if h : v.oneCell' = true then ⟨v, h⟩ else nilCV
theorem enV_to {v : Value} (h : v.oneCell' = true) : enV (toCV v) = v := by
  unfold toCV
  rw [dif_pos h]
  rfl
theorem map_to {vs : List Value} (h : ∀ v ∈ vs, v.oneCell' = true) : (vs.map toCV).map enV = vs := by
  rw [List.map_map]
  conv => rhs; rw [← List.map_id vs]
  exact List.map_congr_left (fun v hv => enV_to (h v hv))
/-- What the block's cells hold after the rows were laid anew. -/
theorem put_part {cs : Array Value} {o m : Nat} {d : Array CV} (hd : d.size ≤ m) (hm : o + m ≤ cs.size) :
    ((Go.Sort.putCells enV o d cs).toList.drop o).take m = d.toList.map enV ++ ((cs.toList.drop o).take m).drop d.size := by
  apply List.ext_getElem?
  intro k
  have hdl : (d.toList.map enV).length = d.size := by simp
  by_cases hk : k < m
  · rw [List.getElem?_take, if_pos hk, List.getElem?_drop, Array.getElem?_toList]
    unfold Go.Sort.putCells
    rw [Array.getElem?_mapIdx, Array.getElem?_eq_getElem (by omega)]
    by_cases h2 : k < d.size
    · rw [List.getElem?_append_left (by omega), List.getElem?_map, Array.getElem?_toList, Array.getElem?_eq_getElem h2]
      simp only [Option.map_some]
      rw [if_pos (by omega), show o + k - o = k by omega, getElem!_pos d k h2]
    · rw [List.getElem?_append_right (by omega), hdl, List.getElem?_drop, show d.size + (k - d.size) = k by omega, List.getElem?_take, if_pos hk, List.getElem?_drop, Array.getElem?_toList, Array.getElem?_eq_getElem (by omega)]
      simp only [Option.map_some]
      rw [if_neg (by omega)]
  · rw [List.getElem?_eq_none (by rw [List.length_take]; omega), List.getElem?_eq_none (by rw [List.length_append, hdl, List.length_drop, List.length_take]; omega)]
theorem c_Delete {H : AHeap} {n len i : Nat} {full : Bool} {l : List AV} (hn : H[n]? = some (.cells true l)) (hl : len ≤ l.length) (hl2 : len ≤ 1000000) (hi : i < len) :
    ACalls Try.prog 102 [.sl 1 n 0 len full, I i, I ((i + 1 : Nat) : Int)] H (.sl 1 n 0 (len - 1) false) (H.set n (.cells true ((l.take len).take i ++ (l.take len).drop (i + 1) ++ [.nilS] ++ l.drop len))) := by
  refine ⟨⟨Try.f102, Try.func102, by kernel_rfl, by kernel_rfl⟩, fun ρ w cargs hs hlr => ?_⟩
  obtain ⟨cl⟩ := cargs
  have hle := hlr.1
  rcases cl with _ | ⟨c0, _ | ⟨c1, _ | ⟨c2, _ | ⟨c3, cl⟩⟩⟩⟩ <;> simp at hle
  have r0 := hlr.head
  have r1 := hlr.tail.head
  have r2 := hlr.tail.tail.head
  cases r1
  cases r2
  cases r0 with
  | sl _ _ _ _ _ L a cap h1 h2 h3 h4 h5 =>
    have hob := hs.obj n L _ h1 hn
    cases hh : w.heap[L.b]? with
    | none => rw [hh] at hob; exact hob.elim
    | some b =>
      rw [hh] at hob
      cases b with
      | cells cs ty fz =>
        obtain ⟨ho1, ho2, hLR, hone⟩ := hob
        have hown := ho1 rfl
        obtain ⟨hcsz, hfz⟩ := ho2 hown
        have hcap := h5 hown
        have ha : a = ⟨L.b, L.o + 0, none⟩ := by
          rcases h4 with h | h
          · exact h
          · omega
        subst ha
        obtain ⟨part, hpart⟩ : ∃ part, part = (cs.toList.drop L.o).take l.length := ⟨_, rfl⟩
        rw [← hpart] at hLR hone
        have hpl : part.length = l.length := hLR.1.symm
        have hfit : L.o + l.length ≤ cs.size := by
          have hcl : cs.toList.length = cs.size := Array.length_toList
          rw [hpart, List.length_take, List.length_drop, hcl] at hpl
          omega
        have hpg : ∀ j, j < l.length → part[j]? = cs[L.o + j]? := fun j hj => by
          rw [hpart, List.getElem?_take, if_pos hj, List.getElem?_drop, Array.getElem?_toList]
        obtain ⟨P, hP⟩ : ∃ P, P = part.take len := ⟨_, rfl⟩
        have hPl : P.length = len := by rw [hP, List.length_take]; omega
        have hPo : ∀ v ∈ P, v.oneCell' = true := fun v hv => hone v (List.mem_of_mem_take (hP ▸ hv))
        obtain ⟨d, hd⟩ : ∃ d : Array CV, d = (P.map toCV).toArray := ⟨_, rfl⟩
        have hds : d.size = len := by rw [hd]; simp [hPl]
        have hdm : d.toList.map enV = P := by rw [hd]; exact map_to hPo
        have hH : Go.Sort.Holds enV w L.b (L.o + 0) d := by
          intro j hj
          have hj2 : j < len := by omega
          have hv : part[j]? = some (enV d[j]!) := by
            have e1 : (d.toList.map enV)[j]? = some (enV d[j]!) := by
              rw [List.getElem?_map, Array.getElem?_toList, Array.getElem?_eq_getElem hj, getElem!_pos d j hj]
              rfl
            rw [hdm, hP, List.getElem?_take, if_pos hj2] at e1
            exact e1
          rw [hpg j (by omega)] at hv
          unfold World.cell? World.frozen?
          simp only [hh, Nat.add_zero]
          subst hfz
          exact ⟨by simpa using hv, by simp⟩
        have hcall := del_calls L.b (L.o + 0) cap i d w hH (by omega) (by omega) (by omega)
        rw [hds] at hcall
        refine hcall.mono ?_
        rintro e w' ⟨rfl, q, rfl⟩
        obtain ⟨d', hd'⟩ : ∃ d' : Array CV, d' = (d.toList.take i ++ d.toList.drop (i + 1) ++ List.replicate 1 nilCV).toArray := ⟨_, rfl⟩
        rw [← hd']
        have hd'm : d'.toList.map enV = P.take i ++ P.drop (i + 1) ++ [.slice none 0 0] := by
          rw [hd', ← hdm]
          simp [enV, nilCV]
        have hd's : d'.size = len := by
          have := congrArg List.length hd'm
          simp only [List.length_map, Array.length_toList, List.length_append, List.length_take, List.length_drop, List.length_cons, List.length_nil, hPl] at this
          omega
        have hl' : ((l.take len).take i ++ (l.take len).drop (i + 1) ++ [AV.nilS] ++ l.drop len).length = l.length := by
          simp only [List.length_append, List.length_take, List.length_drop, List.length_cons, List.length_nil]
          omega
        have hLR' : LR ρ ((l.take len).take i ++ (l.take len).drop (i + 1) ++ [AV.nilS] ++ l.drop len) (P.take i ++ P.drop (i + 1) ++ [.slice none 0 0] ++ part.drop len) := by
          rw [hP]
          exact LR.append (LR.append (LR.append ((hLR.take len).take i) ((hLR.take len).drop (i + 1))) (LR.cons .nilS LR.nil)) (hLR.drop len)
        have hbk : (Go.Sort.putRow enV (Go.Sort.ahead w q) L.b (L.o + 0) d').heap[L.b]? = some (.cells (Go.Sort.putCells enV (L.o + 0) d' cs) ty fz) := by
          rw [put_heap, if_pos rfl, hh]
          rfl
        have hpp : ((Go.Sort.putCells enV (L.o + 0) d' cs).toList.drop L.o).take l.length = P.take i ++ P.drop (i + 1) ++ [.slice none 0 0] ++ part.drop len := by
          rw [Nat.add_zero, put_part (by omega) hfit, hd'm, ← hpart, hd's]
        have hwr := Sim.write (w' := Go.Sort.putRow enV (Go.Sort.ahead w q) L.b (L.o + 0) d') (o := .cells true ((l.take len).take i ++ (l.take len).drop (i + 1) ++ [AV.nilS] ++ l.drop len)) hs h1 hown hn (by simp) (by simp) (by simp [Go.Sort.putRow, Go.Sort.mapBlock, Go.Sort.ahead]) rfl rfl rfl (fun b hb => by rw [put_heap, if_neg (Ne.symm hb)]) (by
          rw [hbk]
          refine ⟨fun _ => hown, fun _ => ⟨?_, hfz⟩, ?_, ?_⟩
          · unfold Go.Sort.putCells
            rw [Array.size_mapIdx]
            exact hcsz
          · rw [hl', hpp]
            exact hLR'
          · rw [hl', hpp]
            intro v hv
            rcases List.mem_append.1 hv with hv | hv
            · rcases List.mem_append.1 hv with hv | hv
              · rcases List.mem_append.1 hv with hv | hv
                · exact hPo v (List.mem_of_mem_take hv)
                · exact hPo v (List.mem_of_mem_drop hv)
              · rw [List.mem_singleton.1 hv]; rfl
            · exact hone v (List.mem_of_mem_drop hv))
        exact ⟨ρ, _, rfl, .sl 1 n 0 (len - 1) false L _ cap h1 (by omega) (by simp) (.inl rfl) h5, hwr.1, hwr.2⟩
      | _ => exact hob.elim
end Go.Proofs.Ytmblehbjedpjoaa

namespace Go.Proofs.Ytmblehbjedpjoaa
open Go Go.Eng
/-- A list without the element at a place. -/
def dl {α : Type} (xs : List α) (i : Nat) : List α := xs.take i ++ xs.drop (i + 1)
theorem dl_map {α β : Type} (f : α → β) (xs : List α) (i : Nat) : dl (xs.map f) i = (dl xs i).map f := by
  unfold dl
  rw [List.map_append, List.map_take, List.map_drop]
theorem dl_mem {α : Type} {xs : List α} {i : Nat} {x : α} (h : x ∈ dl xs i) : x ∈ xs := by
  unfold dl at h
  rcases List.mem_append.1 h with h | h
  · exact List.mem_of_mem_take h
  · exact List.mem_of_mem_drop h
theorem dl_len {α : Type} {xs : List α} {i : Nat} (h : i < xs.length) : (dl xs i).length + 1 = xs.length := by
  unfold dl
  rw [List.length_append, List.length_take, List.length_drop]
  omega
theorem dl_le {α : Type} (xs : List α) (i : Nat) : (dl xs i).length ≤ xs.length := by
  unfold dl
  rw [List.length_append, List.length_take, List.length_drop]
  omega
theorem dl_lo {α : Type} {xs : List α} {i k : Nat} (h : k < i) (hi : i < xs.length) : (dl xs i)[k]? = xs[k]? := by
  unfold dl
  rw [List.getElem?_append_left (by rw [List.length_take]; omega), List.getElem?_take, if_pos h]
theorem dl_hi {α : Type} {xs : List α} {i k : Nat} (h : i < k) (hi : i < xs.length) : (dl xs i)[k - 1]? = xs[k]? := by
  unfold dl
  have hl : (xs.take i).length = i := by rw [List.length_take]; omega
  rw [List.getElem?_append_right (by omega), hl, List.getElem?_drop]
  congr 1
  omega
theorem dl_take {α : Type} {xs : List α} {i j : Nat} {z : α} (hz : xs[j]? = some z) : dl (xs.take (j + 1)) i = dl (xs.take j) i ++ if j = i then [] else [z] := by
  have hj := (List.getElem?_eq_some_iff.1 hz).1
  have hl : (xs.take j).length = j := by rw [List.length_take]; omega
  rw [List.take_add_one, hz, Option.toList_some]
  generalize xs.take j = ys at *
  unfold dl
  rcases Nat.lt_trichotomy j i with h | h | h
  · rw [if_neg (by omega), List.take_of_length_le (by simp; omega), List.drop_of_length_le (by simp; omega), List.take_of_length_le (by omega), List.drop_of_length_le (by omega)]
    simp
  · subst h
    rw [if_pos rfl, List.take_append_of_le_length (by omega), List.drop_of_length_le (by simp; omega), List.drop_of_length_le (by omega)]
    simp
  · rw [if_neg (by omega), List.take_append_of_le_length (by omega), List.drop_append_of_le_length (by omega), List.append_assoc]
/-- The error, and the field that is left. -/
def tE (L : List Int) (V : List (List Int)) (o : Int) : Int := if oE L V o = 0 then (if V.length = 1 then 5 else 0) else oE L V o
def tL (L : List Int) (V : List (List Int)) (o : Int) : List Int := if tE L V o = 0 then L else []
def tV (L : List Int) (V : List (List Int)) (o : Int) : List (List Int) := if tE L V o = 0 then dl V o.toNat else []
theorem kE_dl {L : List Int} {V : List (List Int)} {i : Nat} (h : kE L V = 0) (hi : i < V.length) (h2 : 2 ≤ V.length) : kE L (dl V i) = 0 := by
  have hl := dl_len hi
  unfold kE at h
  split at h
  · cases h
  · rename_i hb
    split at h
    · rename_i ha
      simp only [Bool.and_eq_true] at ha
      refine kE_ok (by omega) ha.1 ?_
      rw [List.all_eq_true]
      exact fun r hr => List.all_eq_true.1 ha.2 r (dl_mem hr)
    · cases h
section
variable {L : List Int} {ws : List (AV × List Int)} {x y : AV} {A : AHeap}
/-- What 'Without' leaves behind. -/
def WO (L : List Int) (ws : List (AV × List Int)) (o : Int) (A H : AHeap) (r : AV) : Prop :=
  ∃ x' y' ws', r = .tuple [.agg [x', y'], I (tE L (lists ws) o)] ∧ A <+: H ∧ L1 H x' (tL L (lists ws) o) ∧ LL H y' ws' ∧ lists ws' = tV L (lists ws) o
theorem LL_nil (A : AHeap) : LL A .nilS [] := ⟨⟨e0_len, rfl⟩, by simp⟩
theorem WO_no {o n : Int} (h : tE L (lists ws) o = n) (h0 : ¬ n = 0) : WO L ws o A A (.tuple [.agg [.nilS, .nilS], I n]) := by
  refine ⟨.nilS, .nilS, [], by rw [h], List.prefix_refl _, ?_, LL_nil A, ?_⟩
  · unfold tL
    rw [h, if_neg h0]
    exact L1_nil A
  · unfold tV
    rw [h, if_neg h0]
    rfl
theorem tE_o {V : List (List Int)} {o : Int} (h : ¬ oE L V o = 0) : tE L V o = oE L V o := if_neg h
theorem tE_5 {V : List (List Int)} {o : Int} (h : oE L V o = 0) (h1 : V.length = 1) : tE L V o = 5 := by
  unfold tE
  rw [if_pos h, if_pos h1]
theorem tE_0 {V : List (List Int)} {o : Int} (h : oE L V o = 0) (h1 : ¬ V.length = 1) : tE L V o = 0 := by
  unfold tE
  rw [if_pos h, if_neg h1]
theorem e0_map (ws : List (AV × List Int)) : ws.flatMap e0 = ws.map Prod.fst := by
  induction ws with
  | nil => rfl
  | cons a l ih => rw [List.flatMap_cons, ih]; rfl
set_option maxRecDepth 20000 in
set_option maxHeartbeats 8000000 in
theorem s43 (hL : L1 A x L) (hV : LL A y ws) (hs : Sz L ws) (o : Int) : ∃ r H, ACalls Try.prog 43 [.agg [x, y], I o] A r H ∧ WO L ws o A H r := by
  refine acallsR hmix Try.func43 (by kernel_rfl) t43 _ 2 rfl (by decide) ?_
  dsimp only [m43]
  simp (maxSteps := 4000000) -implicitDefEqProofs -dsimp (disch := omega) only [↓AW_ops, ↓AW_seq, ↓AOps_nil, ↓AOps_pu, ↓AOps_call, on_some, ↓then_normal, pval, rd_S, rd_C, put_S, chkd, bgot, cells_agg, partA, eq_self, List.replicate_succ, List.replicate_zero, List.set_cons_zero, List.set_cons_succ, List.getElem?_cons_zero, List.getElem?_cons_succ, List.drop_zero, List.take_succ_cons, List.take_nil, Option.getD_some, map_c, map_n, List.length_cons, List.length_nil, Nat.reduceAdd, Nat.reduceSub, Nat.reduceLeDiff, Nat.reduceEqDiff, Nat.zero_add, List.cons_append, List.nil_append, if_true, if_false]
  refine CallK.of (s56 hL hV hs o) ?_
  have hwl : (lists ws).length = ws.length := by simp
  by_cases h0 : oE L (lists ws) o = 0
  case neg =>
    simp (maxSteps := 4000000) -implicitDefEqProofs -dsimp (disch := omega) only [↓AW_ops, ↓AW_seq, ↓AW_cond, ↓AW_ret, ↓AOps_nil, ↓AOps_pu, on_some, extK_same, condB_t, ↓then_normal, ↓then_ret, ↓FinR_ret, pval, rd_S, rd_C, put_S, resV, resL, chkd, bput, bgot, cells_agg, splice, partA, fillA, eq_self, List.replicate_succ, List.replicate_zero, List.set_cons_zero, List.set_cons_succ, List.getElem?_cons_zero, List.getElem?_cons_succ, List.drop_zero, List.drop_succ_cons, List.drop_nil, List.take_zero, List.take_succ_cons, List.take_nil, Option.getD_some, Option.map_some, map_n, List.length_cons, List.length_nil, Nat.reduceAdd, Nat.reduceSub, Nat.reduceLeDiff, Nat.reduceEqDiff, Nat.zero_add, List.cons_append, List.nil_append, List.append_nil, bin_neq, if_true, if_false, decide_true, ne_eq, not_true_eq_false, not_false_eq_true, h0]
    exact ⟨_, _, gc_all, WO_no (tE_o h0) h0⟩
  by_cases h1 : ws.length = 1
  · have h1' : (ws.length : Int) = 1 := by omega
    simp (maxSteps := 4000000) -implicitDefEqProofs -dsimp (disch := omega) only [↓AW_skip, ↓AW_ops, ↓AW_seq, ↓AW_cond, ↓AW_ret, ↓AOps_nil, ↓AOps_pu, on_some, extK_same, condB_t, condB_f, ↓then_normal, ↓then_ret, ↓FinR_ret, pval, rd_S, rd_C, put_S, resV, resL, chkd, isAdr, bput, bgot, cells_agg, splice, partA, fillA, eq_self, List.replicate_succ, List.replicate_zero, List.set_cons_zero, List.set_cons_succ, List.getElem?_cons_zero, List.getElem?_cons_succ, List.drop_zero, List.drop_succ_cons, List.drop_nil, List.take_zero, List.take_succ_cons, List.take_nil, Option.getD_some, Option.map_some, map_n, List.length_cons, List.length_nil, Nat.reduceAdd, Nat.reduceSub, Nat.reduceLeDiff, Nat.reduceEqDiff, Nat.zero_add, List.cons_append, List.nil_append, List.append_nil, bin_eql, bin_neq, if_true, if_false, Bool.false_eq_true, decide_true, decide_false, ne_eq, not_true_eq_false, h0, hV.ls.len, h1']
    exact ⟨_, _, gc_all, WO_no (tE_5 h0 (by omega)) (by decide)⟩
  have h1' : ¬ (ws.length : Int) = 1 := by omega
  obtain ⟨hg, ho1, ho2⟩ := oE_0 h0
  obtain ⟨n, rfl⟩ : ∃ n : Nat, o = n := ⟨o.toNat, by omega⟩
  have hn : n < ws.length := by omega
  have hv5 := hg.v5
  have hl6 := hg.l6
  simp (maxSteps := 4000000) -implicitDefEqProofs -dsimp (disch := omega) only [↓AW_skip, ↓AW_ops, ↓AW_seq, ↓AW_cond, ↓AOps_nil, ↓AOps_pu, ↓AOps_call, on_some, extK_same, condB_f, ↓then_normal, pval, rd_S, rd_C, put_S, chkd, isAdr, bgot, cells_agg, partA, eq_self, List.replicate_succ, List.replicate_zero, List.set_cons_zero, List.set_cons_succ, List.getElem?_cons_zero, List.getElem?_cons_succ, List.drop_zero, List.drop_succ_cons, List.take_succ_cons, List.take_nil, Option.getD_some, map_c, map_n, List.length_cons, List.length_nil, Nat.reduceAdd, Nat.reduceSub, Nat.reduceLeDiff, Nat.reduceEqDiff, Nat.zero_add, List.cons_append, List.nil_append, bin_eql, bin_neq, if_true, if_false, Bool.false_eq_true, decide_false, not_true_eq_false, h0, hV.ls.len, h1']
  obtain ⟨r1, H1, c1, A1, x1, y1, ws1, p1, p2, hx1, hnl, hli, rfl⟩ := s92 hL hV hs.l hs.v hs.w hg.l1 (fun w hw => by have := hg.rl _ (mem_lists hw); have := hg.l1; omega)
  have hw1l : ws1.length = ws.length := by
    have := congrArg List.length hli
    simpa using this
  refine CallK.of c1 ?_
  obtain ⟨m, rfl, hm1, hm2⟩ : ∃ m, y1 = .sl 1 m 0 ws1.length false ∧ A1.length ≤ m ∧ H1[m]? = some (.cells true (ws1.flatMap e0)) := by
    rcases hnl.acc.2.2 with ⟨h3, _⟩ | ⟨_, m, h4, h5, h6⟩
    · omega
    · exact ⟨m, h4, h5, h6⟩
  have hfl : (ws1.flatMap e0).length = ws1.length := by rw [e0_map]; simp
  have hcd := c_Delete (H := H1) (n := m) (len := ws1.length) (i := n) (full := false) hm2 (by omega) (by omega) (by omega)
  rw [show ((n + 1 : Nat) : Int) = (n : Int) + 1 by omega] at hcd
  simp (maxSteps := 4000000) -implicitDefEqProofs -dsimp (disch := omega) only [↓AW_ops, ↓AW_seq, ↓AOps_nil, ↓AOps_pu, ↓AOps_call, on_some, extK_false, ↓then_normal, pval, rd_S, rd_C, put_S, chkd, isAdr, bput, bgot, cells_agg, splice, partA, eq_self, List.replicate_succ, List.replicate_zero, List.set_cons_zero, List.set_cons_succ, List.getElem?_cons_zero, List.getElem?_cons_succ, List.drop_zero, List.drop_succ_cons, List.drop_nil, List.take_zero, List.take_succ_cons, List.take_nil, Option.getD_some, map_c, map_n, List.length_cons, List.length_nil, Nat.reduceAdd, Nat.reduceSub, Nat.reduceLeDiff, Nat.zero_add, List.cons_append, List.nil_append, List.append_nil, bin_add, w64, if_true, if_false, Bool.false_eq_true, ne_eq, not_true_eq_false]
  refine CallK.of hcd ?_
  simp (maxSteps := 4000000) -implicitDefEqProofs -dsimp (disch := omega) only [↓AW_ops, ↓AW_seq, ↓AW_ret, ↓AOps_nil, ↓AOps_pu, on_some, extK_false, ↓then_normal, ↓FinR_ret, pval, rd_S, rd_C, put_S, resV, resL, chkd, isAdr, bput, bgot, cells_agg, cells_sl, splice, partA, eq_self, List.replicate_succ, List.replicate_zero, List.set_cons_zero, List.set_cons_succ, List.getElem?_cons_zero, List.getElem?_cons_succ, List.drop_zero, List.drop_succ_cons, List.drop_nil, List.take_zero, List.take_succ_cons, List.take_nil, Option.getD_some, List.length_cons, List.length_nil, Nat.reduceAdd, Nat.reduceSub, Nat.reduceLeDiff, Nat.reduceEqDiff, Nat.zero_add, List.cons_append, List.nil_append, List.append_nil, if_true, if_false, ne_eq, not_true_eq_false]
  have T := tE_0 h0 (V := lists ws) (by omega)
  refine ⟨_, _, gc_all, x1, .sl 1 m 0 (ws1.length - 1) false, dl ws1 n, by rw [T], p1.trans (pre_set p2 hm1 _), ?_, ⟨⟨e0_len, ?_⟩, ?_⟩, ?_⟩
  · unfold tL
    rw [if_pos T]
    exact hx1.mono (pre_set p2 hm1 _)
  · have hml := (List.getElem?_eq_some_iff.1 hm2).1
    have hdl := dl_len (xs := ws1) (i := n) (by omega)
    simp only [slCells, cellsAt, if_true, List.getElem?_set_self hml]
    rw [if_pos (by simp only [List.length_append, List.length_take, List.length_drop, List.length_cons, List.length_nil, hfl]; omega)]
    simp only [Option.map_some, List.drop_zero, Option.some.injEq, Prod.mk.injEq]
    refine ⟨by omega, ?_⟩
    rw [List.take_of_length_le (show (ws1.flatMap e0).length ≤ ws1.length by omega), List.append_assoc, List.take_left' ?_]
    · rw [e0_map, e0_map]
      unfold dl
      rw [List.map_append, List.map_take, List.map_drop]
    · rw [List.length_append, List.length_take, List.length_drop, hfl]
      omega
  · intro w hw
    have hr := hnl.rows w (dl_mem hw)
    have hl1 := hr.l1
    rcases hr.row with ⟨h6, h7⟩ | ⟨k, full, cs, g1, g2, g3, g4⟩
    · rw [h6, h7]; exact L1_nil _
    · have hkm : m ≠ k := g4
      rw [g1] at hl1 ⊢
      refine ⟨e1_len, ?_⟩
      have := hl1.hc
      simp only [slCells, cellsAt, List.getElem?_set_ne hkm] at this ⊢
      exact this
  · unfold tV
    rw [if_pos T, Int.toNat_natCast, ← hli]
    exact (dl_map Prod.snd ws1 n).symm
set_option maxRecDepth 20000 in
set_option maxHeartbeats 8000000 in
theorem s44 (hL : L1 A x L) (hV : LL A y ws) (hs : Sz L ws) (o : Int) : ∃ r H, ACalls Try.prog 44 [.agg [x, y], I o] A r H ∧ WO L ws o A H r := by
  refine acallsR hmix Try.func44 (by kernel_rfl) t44 _ 2 rfl (by decide) ?_
  dsimp only [m44]
  simp (maxSteps := 4000000) -implicitDefEqProofs -dsimp (disch := omega) only [↓AW_ops, ↓AW_seq, ↓AOps_nil, ↓AOps_pu, ↓AOps_ha, ↓AOps_call, on_some, extK_app, ↓then_normal, pval, hval_blds, rd_S, rd_C, put_S, chkd, bgot, cells_agg, cells_int, splice, partA, fillA, repl, eq_self, List.replicate_succ, List.replicate_zero, List.set_cons_zero, List.set_cons_succ, List.getElem?_cons_zero, List.getElem?_cons_succ, List.drop_zero, List.drop_succ_cons, List.drop_nil, List.take_zero, List.take_succ_cons, List.take_nil, Option.getD_some, map_c, map_n, List.length_cons, List.length_nil, Nat.reduceAdd, Nat.reduceSub, Nat.reduceLeDiff, Nat.reduceEqDiff, Nat.zero_add, List.cons_append, List.nil_append, List.append_nil, if_true, if_false, and_true, List.replicate_zero, repl]
  have pq := pre_app A [AObj.cells true [I o]]
  have hL0 := hL.mono pq
  have hV0 := hV.mono pq
  refine CallK.of (s61 hL0 hV0 hs (L1_one A o)) ?_
  have hwl : (lists ws).length = ws.length := by simp
  have wgo : ∀ {H : AHeap} {r : AV}, WO L ws o (A ++ [AObj.cells true [I o]]) H r → WO L ws o A H r := by
    rintro H r ⟨x', y', ws', h1, h2, h3⟩
    exact ⟨x', y', ws', h1, pq.trans h2, h3⟩
  by_cases h0 : oE L (lists ws) o = 0
  case neg =>
    simp (maxSteps := 4000000) -implicitDefEqProofs -dsimp (disch := omega) only [↓AW_ops, ↓AW_seq, ↓AW_cond, ↓AW_ret, ↓AOps_nil, ↓AOps_pu, on_some, extK_same, condB_t, ↓then_normal, ↓then_ret, ↓FinR_ret, pval, rd_S, rd_C, put_S, resV, resL, chkd, bput, bgot, cells_agg, splice, partA, fillA, eq_self, List.replicate_succ, List.replicate_zero, List.set_cons_zero, List.set_cons_succ, List.getElem?_cons_zero, List.getElem?_cons_succ, List.drop_zero, List.drop_succ_cons, List.drop_nil, List.take_zero, List.take_succ_cons, List.take_nil, Option.getD_some, Option.map_some, map_n, List.length_cons, List.length_nil, Nat.reduceAdd, Nat.reduceSub, Nat.reduceLeDiff, Nat.reduceEqDiff, Nat.zero_add, List.cons_append, List.nil_append, List.append_nil, bin_neq, if_true, if_false, decide_true, ne_eq, not_true_eq_false, not_false_eq_true, h0]
    exact ⟨_, _, gc_all, wgo (WO_no (tE_o h0) h0)⟩
  by_cases h1 : ws.length = 1
  · have h1' : (ws.length : Int) = 1 := by omega
    simp (maxSteps := 4000000) -implicitDefEqProofs -dsimp (disch := omega) only [↓AW_skip, ↓AW_ops, ↓AW_seq, ↓AW_cond, ↓AW_ret, ↓AOps_nil, ↓AOps_pu, on_some, extK_same, condB_t, condB_f, ↓then_normal, ↓then_ret, ↓FinR_ret, pval, rd_S, rd_C, put_S, resV, resL, chkd, isAdr, bput, bgot, cells_agg, splice, partA, fillA, eq_self, List.replicate_succ, List.replicate_zero, List.set_cons_zero, List.set_cons_succ, List.getElem?_cons_zero, List.getElem?_cons_succ, List.drop_zero, List.drop_succ_cons, List.drop_nil, List.take_zero, List.take_succ_cons, List.take_nil, Option.getD_some, Option.map_some, map_n, List.length_cons, List.length_nil, Nat.reduceAdd, Nat.reduceSub, Nat.reduceLeDiff, Nat.reduceEqDiff, Nat.zero_add, List.cons_append, List.nil_append, List.append_nil, bin_eql, bin_neq, if_true, if_false, Bool.false_eq_true, decide_true, decide_false, ne_eq, not_true_eq_false, h0, hV0.ls.len, h1']
    exact ⟨_, _, gc_all, wgo (WO_no (tE_5 h0 (by omega)) (by decide))⟩
  have h1' : ¬ (ws.length : Int) = 1 := by omega
  obtain ⟨hg, ho1, ho2⟩ := oE_0 h0
  obtain ⟨n, rfl⟩ : ∃ n : Nat, o = n := ⟨o.toNat, by omega⟩
  have hn : n < ws.length := by omega
  have hv5 := hg.v5
  simp (maxSteps := 4000000) -implicitDefEqProofs -dsimp (disch := omega) only [↓AW_skip, ↓AW_ops, ↓AW_seq, ↓AW_cond, ↓AOps_nil, ↓AOps_pu, ↓AOps_call, on_some, extK_same, condB_f, ↓then_normal, pval, rd_S, rd_C, put_S, chkd, isAdr, bgot, cells_agg, partA, eq_self, List.replicate_succ, List.replicate_zero, List.set_cons_zero, List.set_cons_succ, List.getElem?_cons_zero, List.getElem?_cons_succ, List.drop_zero, List.drop_succ_cons, List.take_succ_cons, List.take_nil, Option.getD_some, map_c, map_n, List.length_cons, List.length_nil, Nat.reduceAdd, Nat.reduceSub, Nat.reduceLeDiff, Nat.reduceEqDiff, Nat.zero_add, List.cons_append, List.nil_append, bin_eql, bin_neq, if_true, if_false, Bool.false_eq_true, decide_false, not_true_eq_false, h0, hV0.ls.len, h1']
  obtain ⟨r1, H1, c1, A1, x1, y1, ws1, p1, p2, hx1, hnl, hli, rfl⟩ := s40 hL0 hV0 hs.l hs.v hs.w
  have hw1l : ws1.length = ws.length := by
    have := congrArg List.length hli
    simpa using this
  refine CallK.of c1 ?_
  have P1 := p1.trans p2
  have hll := hnl.ll
  have hxc := Ls_cells hx1
  simp (maxSteps := 4000000) -implicitDefEqProofs -dsimp (disch := omega) only [↓AW_ops, ↓AW_seq, ↓AW_block, ↓AOps_nil, ↓AOps_pu, on_some, extK_false, ↓then_normal, pval, rd_S, rd_C, put_S, ↓AW_toLoop, chkd, isAdr, bput, bgot, cells_agg, splice, partA, fillA, eq_self, List.replicate_succ, List.replicate_zero, List.set_cons_zero, List.set_cons_succ, List.getElem?_cons_zero, List.getElem?_cons_succ, List.drop_zero, List.drop_succ_cons, List.drop_nil, List.take_zero, List.take_succ_cons, Option.getD_some, Option.map_some, map_c, map_n, List.length_cons, List.length_nil, Nat.reduceAdd, Nat.reduceSub, Nat.reduceLeDiff, Nat.zero_add, List.cons_append, List.nil_append, List.append_nil, if_true, if_false, Bool.false_eq_true, and_true, ne_eq, not_true_eq_false, hxc]
  refine LoopK.by 49 (fun z : Nat × AV × AHeap => z.1 ≤ ws.length ∧ AccL 1 e0 H1 z.2.2 z.2.1 (dl (ws1.take z.1) n)) (fun z => [(1, I n), (2, .agg [x, y]), (4, .agg [.nilS, .nilS]), (7, .agg [x1, y1]), (8, .agg [x1, z.2.1]), (9, I z.1)]) (fun z => z.2.2) (fun z => ws.length - z.1) (0, .nilS, H1) ⟨by simp only; omega, by simp only [List.take_zero]; unfold dl; rw [List.take_nil, List.drop_nil]; exact AccL.nil (List.prefix_refl _)⟩ rfl (by simp [Has, rd_s]) rfl ?_
  rintro ⟨j, u, H⟩ ⟨hj, hac⟩
  simp only at hj hac
  have hVH := hV0.mono (P1.trans hac.1)
  have hlH := hll.mono hac.1
  by_cases hlt : j < ws.length
  · have hlt' : (j : Int) < ws.length := by omega
    have hlt1 : j < ws1.length := by omega
    obtain ⟨z, hz⟩ : ∃ z, ws1[j]? = some z := ⟨_, List.getElem?_eq_getElem hlt1⟩
    have hdt := dl_take (i := n) hz
    by_cases hjn : j = n
    · rw [if_pos hjn, List.append_nil] at hdt
      rw [← hdt] at hac
      subst hjn
      simp (maxSteps := 4000000) -implicitDefEqProofs -dsimp (disch := omega) only [↓AW_skip, ↓AW_ops, ↓AW_seq, ↓AW_cond, ↓AW_block, ↓AOps_nil, ↓AOps_pu, on_some, condB_t, condB_f, ↓then_normal, ↓inBlock_normal, pval, rd_S, rd_C, put_S, chkd, isAdr, bgot, cells_agg, partA, eq_self, mk, List.foldl_cons, List.foldl_nil, List.replicate_succ, List.replicate_zero, List.set_cons_zero, List.set_cons_succ, List.getElem?_cons_zero, List.getElem?_cons_succ, List.drop_zero, List.drop_succ_cons, List.take_succ_cons, List.take_nil, Option.getD_some, List.length_cons, List.length_nil, Nat.reduceAdd, Nat.reduceLeDiff, Nat.zero_add, bin_add, bin_neq, bin_lss, w64, if_true, if_false, Bool.false_eq_true, decide_true, decide_false, true_and, not_true_eq_false, hlt', hVH.ls.len]
      exact ⟨(j + 1, u, H), ⟨hlt, hac⟩, by simp [Has, rd_s], rfl, by simp only; omega⟩
    · rw [if_neg hjn] at hdt
      have hjn' : ¬ (j : Int) = n := by omega
      have hdl : (dl (ws1.take j) n).length ≤ j := by have := dl_le (ws1.take j) n; rw [List.length_take] at this; omega
      obtain ⟨u', H2, happ, hacc⟩ := hac.push e0_len z (by simp only [lim]; omega)
      rw [← hdt] at hacc
      have happ' : appA 1 (H ++ [.cells true [z.1]]) u (.sl 1 H.length 0 1 true) = some (u', H2) := happ
      have hzc := Ls_cells (hll.inn z (List.mem_of_getElem? hz))
      have huc := Ls_cells (AccL_ls hacc e0_len)
      simp (maxSteps := 4000000) -implicitDefEqProofs -dsimp (disch := omega) only [↓AW_skip, ↓AW_ops, ↓AW_seq, ↓AW_cond, ↓AW_block, ↓AOps_nil, ↓AOps_pu, ↓AOps_ld, ↓AOps_ha, on_some, extK_false, extK_app, condB_t, ↓then_normal, ↓inBlock_normal, pval, lval, hval_blds, hval_app, rd_S, rd_C, put_S, chkd, isAdr, bput, bgot, cells_agg, splice, partA, fillA, repl, eq_self, mk, List.foldl_cons, List.foldl_nil, List.replicate_succ, List.replicate_zero, List.set_cons_zero, List.set_cons_succ, List.getElem?_cons_zero, List.getElem?_cons_succ, List.drop_zero, List.drop_succ_cons, List.drop_nil, List.take_zero, List.take_succ_cons, List.take_nil, Option.getD_some, map_c, map_n, List.length_cons, List.length_nil, Nat.reduceAdd, Nat.reduceLeDiff, Nat.zero_add, List.cons_append, List.nil_append, List.append_nil, bin_add, bin_neq, bin_lss, w64, if_true, if_false, Bool.false_eq_true, decide_true, true_and, and_true, ne_eq, not_true_eq_false, not_false_eq_true, hlt', hVH.ls.len, hlH.ls.idx hlt1, hlH.ls.ld0 hz 1 false (by decide), e0, hjn', happ', hzc, huc, List.replicate_zero, repl]
      exact ⟨(j + 1, u', H2), ⟨hlt, hacc⟩, by simp [Has, rd_s], rfl, by simp only; omega⟩
  · have hlt' : ¬ ((j : Int) < ws.length) := by omega
    rw [List.take_of_length_le (by omega)] at hac
    simp (maxSteps := 4000000) -implicitDefEqProofs -dsimp (disch := omega) only [↓AW_ops, ↓AW_seq, ↓AW_cond, ↓AW_exit, ↓AW_ret, ↓AOps_nil, ↓AOps_pu, on_some, condB_f, ↓then_normal, ↓then_exit, ↓inBlock_exit, ↓FinR_ret, pval, rd_S, rd_C, put_S, resV, resL, chkd, isAdr, bput, bgot, cells_agg, splice, partA, eq_self, mk, List.foldl_cons, List.foldl_nil, List.replicate_succ, List.replicate_zero, List.set_cons_zero, List.set_cons_succ, List.getElem?_cons_zero, List.getElem?_cons_succ, List.drop_zero, List.drop_succ_cons, List.drop_nil, List.take_zero, List.take_succ_cons, List.take_nil, Option.getD_some, List.length_cons, List.length_nil, Nat.reduceAdd, Nat.reduceLeDiff, Nat.reduceEqDiff, Nat.zero_add, List.nil_append, List.append_nil, bin_lss, if_true, if_false, Bool.false_eq_true, decide_false, ne_eq, not_true_eq_false, hlt', hVH.ls.len]
    have T := tE_0 h0 (V := lists ws) (by omega)
    refine ⟨_, _, gc_all, x1, u, dl ws1 n, by rw [T], pq.trans (P1.trans hac.1), ?_, ⟨AccL_ls hac e0_len, fun w hw => (hll.inn w (dl_mem hw)).mono hac.1⟩, ?_⟩
    · unfold tL
      rw [if_pos T]
      exact hx1.mono (p2.trans hac.1)
    · unfold tV
      rw [if_pos T, Int.toNat_natCast, ← hli]
      exact (dl_map Prod.snd ws1 n).symm
set_option maxRecDepth 20000 in
set_option maxHeartbeats 8000000 in
theorem s10 (hL : L1 A x L) (hV : LL A y ws) (hl : ws.length ≤ 9223372036854775807) (o a b c d : Int) (ha : W a) (hc : W c) : ACalls Try.prog 10 [.agg [x, y], .agg [I o, I a, I b, I c, I d]] A (B true) A := by
  refine acalls hmix Try.func10 (by kernel_rfl) t10 2 rfl (by decide) ?_
  dsimp only [m10]
  simp (maxSteps := 4000000) -implicitDefEqProofs -dsimp (disch := omega) only [↓AW_ops, ↓AW_seq, ↓AOps_nil, ↓AOps_pu, ↓AOps_call, on_some, ↓then_normal, pval, rd_S, rd_C, put_S, chkd, bgot, AV.cells?, partA, eq_self, List.replicate_succ, List.replicate_zero, List.set_cons_zero, List.set_cons_succ, List.getElem?_cons_zero, List.getElem?_cons_succ, List.drop_zero, List.take_succ_cons, List.take_nil, Option.getD_some, map_c, map_n, List.length_cons, List.length_nil, Nat.reduceAdd, Nat.reduceSub, Nat.reduceLeDiff, Nat.reduceEqDiff, Nat.zero_add, List.cons_append, List.nil_append, if_true, if_false]
  refine CallK.of (c_Long hL hV hl) ?_
  by_cases h : longK L ws
  · simp (maxSteps := 4000000) -implicitDefEqProofs -dsimp (disch := omega) only [↓AW_ops, ↓AW_seq, ↓AW_cond, ↓AOps_nil, ↓AOps_call, extK_same, condB_t, ↓then_normal, rd_S, put_S, List.replicate_succ, List.replicate_zero, List.set_cons_zero, List.set_cons_succ, List.getElem?_cons_zero, List.getElem?_cons_succ, Option.getD_some, map_n, Nat.reduceSub, List.cons_append, List.nil_append, decide_true, h]
    refine CallK.of (known A) ?_
    simp (maxSteps := 4000000) -implicitDefEqProofs -dsimp (disch := omega) only [↓AW_ret, ↓AOps_nil, ↓AOps_pu, on_some, extK_same, ↓then_normal, ↓then_ret, ↓Fin_ret, pval, rd_S, put_S, resV, resL, List.replicate_succ, List.replicate_zero, List.set_cons_zero, List.set_cons_succ, List.getElem?_cons_zero, List.getElem?_cons_succ, Option.getD_some, Nat.reduceSub, List.cons_append, List.nil_append]
    exact gc_same rfl
  have hs := Sz_of h
  simp (maxSteps := 4000000) -implicitDefEqProofs -dsimp (disch := omega) only [↓AW_skip, ↓AW_ops, ↓AW_seq, ↓AW_cond, ↓AOps_nil, ↓AOps_pu, ↓AOps_call, on_some, extK_same, condB_f, ↓then_normal, pval, rd_S, put_S, chkd, isAdr, bgot, AV.cells?, partA, eq_self, List.replicate_succ, List.replicate_zero, List.set_cons_zero, List.set_cons_succ, List.getElem?_cons_zero, List.getElem?_cons_succ, List.drop_zero, List.take_zero, List.take_succ_cons, List.take_nil, Option.getD_some, map_c, map_n, List.length_cons, List.length_nil, Nat.reduceAdd, Nat.reduceSub, Nat.reduceLeDiff, Nat.reduceEqDiff, Nat.zero_add, List.cons_append, List.nil_append, if_true, if_false, Bool.false_eq_true, decide_false, h]
  obtain ⟨r1, H1, c1, x1, y1, ws1, rfl, p1, hx1, hV1, hl1⟩ := s43 hL hV hs o
  refine CallK.of c1 ?_
  simp (maxSteps := 4000000) -implicitDefEqProofs -dsimp (disch := omega) only [↓AW_ops, ↓AW_seq, ↓AOps_nil, ↓AOps_pu, ↓AOps_call, on_some, extK_false, ↓then_normal, pval, rd_S, rd_C, put_S, chkd, isAdr, bput, bgot, AV.cells?, splice, partA, eq_self, List.replicate_succ, List.replicate_zero, List.set_cons_zero, List.set_cons_succ, List.getElem?_cons_zero, List.getElem?_cons_succ, List.drop_zero, List.drop_succ_cons, List.drop_nil, List.take_zero, List.take_succ_cons, List.take_nil, Option.getD_some, map_c, map_n, List.length_cons, List.length_nil, Nat.reduceAdd, Nat.reduceSub, Nat.reduceLeDiff, Nat.reduceEqDiff, Nat.zero_add, List.cons_append, List.nil_append, List.append_nil, if_true, if_false, Bool.false_eq_true, ne_eq, not_true_eq_false]
  obtain ⟨r2, H2, c2, x2, y2, ws2, rfl, p2, hx2, hV2, hl2⟩ := s44 (hL.mono p1) (hV.mono p1) hs o
  refine CallK.of c2 ?_
  have hwl : (lists ws).length = ws.length := by simp
  have ht1 : (tV L (lists ws) o).length ≤ ws.length := by
    unfold tV
    split
    · have := dl_le (lists ws) o.toNat; omega
    · simp
  have ht2 : (tL L (lists ws) o).length ≤ 1000000 := by
    have := hs.l
    unfold tL
    split
    · omega
    · simp
  have hn1 : ws1.length = (tV L (lists ws) o).length := by
    have := congrArg List.length hl1
    simpa using this
  have hr1 : ∀ w ∈ ws1, w.2.length ≤ 1000000 := by
    intro w hw
    have h2 := mem_lists hw
    rw [hl1] at h2
    unfold tV at h2
    split at h2
    · obtain ⟨w', hw', e'⟩ := List.mem_map.1 (dl_mem h2)
      rw [← e']
      exact hs.w w' hw'
    · simp at h2
  simp (maxSteps := 4000000) -implicitDefEqProofs -dsimp (disch := omega) only [↓AW_ops, ↓AW_seq, ↓AOps_nil, ↓AOps_pu, ↓AOps_call, ↓AOps_guard, on_some, extK_false, guardB_ff, ↓then_normal, pval, rd_S, rd_C, put_S, chkd, bput, bgot, AV.cells?, splice, partA, eq_self, List.replicate_succ, List.replicate_zero, List.set_cons_zero, List.set_cons_succ, List.getElem?_cons_zero, List.getElem?_cons_succ, List.drop_zero, List.drop_succ_cons, List.drop_nil, List.take_zero, List.take_succ_cons, List.take_nil, Option.getD_some, map_c, map_n, List.length_cons, List.length_nil, Nat.reduceAdd, Nat.reduceSub, Nat.reduceLeDiff, Nat.reduceEqDiff, Nat.zero_add, List.cons_append, List.nil_append, List.append_nil, bin_neq, if_true, if_false, decide_false, ne_eq, not_true_eq_false]
  refine CallK.of (s45 (hx1.mono p2) (hV1.mono p2) hx2 hV2 ht2 (by have := hs.v; omega) hr1) ?_
  have P2 := p1.trans p2
  have hsame : lists ws1 = lists ws2 := by rw [hl1, hl2]
  by_cases h0 : tE L (lists ws) o = 0
  case neg =>
    simp (maxSteps := 4000000) -implicitDefEqProofs -dsimp (disch := omega) only [↓AW_skip, ↓AW_ops, ↓AW_seq, ↓AW_cond, ↓AOps_nil, ↓AOps_pu, ↓AOps_call, ↓AOps_guard, on_some, extK_same, guardB_ff, condB_t, condB_f, ↓then_normal, pval, rd_S, rd_C, put_S, eq_self, List.replicate_succ, List.replicate_zero, List.set_cons_zero, List.set_cons_succ, List.getElem?_cons_zero, List.getElem?_cons_succ, Option.getD_some, map_n, Nat.reduceSub, List.cons_append, List.nil_append, bin_neq, if_false, Bool.false_eq_true, Bool.not_true, decide_true, and_true, not_false_eq_true, hsame, h0]
    refine CallK.of (known H2) ?_
    simp (maxSteps := 4000000) -implicitDefEqProofs -dsimp (disch := omega) only [↓AW_ret, ↓AOps_nil, ↓AOps_pu, on_some, extK_same, ↓then_normal, ↓then_ret, ↓Fin_ret, pval, rd_S, put_S, resV, resL, eq_self, List.replicate_succ, List.replicate_zero, List.set_cons_zero, List.set_cons_succ, List.getElem?_cons_zero, List.getElem?_cons_succ, Option.getD_some, Nat.reduceSub, List.cons_append, List.nil_append, true_and]
    exact gc_val P2 rfl
  have ho0 : oE L (lists ws) o = 0 := by
    unfold tE at h0
    split at h0
    · assumption
    · contradiction
  have hlen1 : ¬ (lists ws).length = 1 := by
    intro h1
    rw [tE_5 ho0 h1] at h0
    cases h0
  obtain ⟨hg, ho1, ho2⟩ := oE_0 ho0
  obtain ⟨n, rfl⟩ : ∃ n : Nat, o = n := ⟨o.toNat, by omega⟩
  have hn : n < ws.length := by omega
  have hkE : kE L (lists ws) = 0 := by
    unfold oE at ho0
    split at ho0
    · assumption
    · contradiction
  have hv1 := hg.v1
  have hkE1 := kE_dl (i := n) hkE (by omega) (by omega)
  unfold tL tV at *
  rw [if_pos h0] at hx1 hx2 hl1 hl2 ht1 ht2 hn1
  rw [if_pos h0] at *
  rw [Int.toNat_natCast] at *
  have hdl := dl_len (xs := lists ws) (i := n) (by omega)
  have hs1 : Sz L ws1 := ⟨hs.l, by have := hs.v; omega, hr1⟩
  simp (maxSteps := 4000000) -implicitDefEqProofs -dsimp (disch := omega) only [↓AW_skip, ↓AW_ops, ↓AW_seq, ↓AW_cond, ↓AW_block, ↓AOps_nil, ↓AOps_pu, ↓AOps_guard, on_some, extK_same, guardB_ff, condB_f, ↓then_normal, pval, rd_S, rd_C, put_S, ↓AW_toLoop, eq_self, List.replicate_succ, List.replicate_zero, List.set_cons_zero, List.set_cons_succ, List.getElem?_cons_zero, List.getElem?_cons_succ, Option.getD_some, Nat.reduceSub, List.cons_append, List.nil_append, bin_neq, if_false, Bool.false_eq_true, Bool.not_true, decide_true, decide_false, and_true, not_true_eq_false, hsame, h0]
  have hVH := hV.mono P2
  refine LoopK.by 91 (fun k : Nat => k ≤ ws.length) (fun k => [(2, .agg [x, y]), (3, .agg [I n, I a, I b, I c, I d]), (5, .agg [x1, y1]), (9, I k)]) (fun _ => H2) (fun k => ws.length - k) 0 (by omega) rfl (by simp [Has, rd_s]) rfl ?_
  intro k hk
  by_cases hlt : k < ws.length
  · have hlt' : (k : Int) < ws.length := by omega
    by_cases hkn : k = n
    · subst hkn
      simp (maxSteps := 4000000) -implicitDefEqProofs -dsimp (disch := omega) only [↓AW_skip, ↓AW_ops, ↓AW_seq, ↓AW_cond, ↓AW_block, ↓AW_exit, ↓AOps_nil, ↓AOps_pu, ↓AOps_call, on_some, condB_t, ↓then_normal, ↓then_exit, ↓inBlock_exit, pval, rd_S, rd_C, put_S, chkd, isAdr, bgot, AV.cells?, partA, eq_self, mk, List.foldl_cons, List.foldl_nil, List.replicate_succ, List.replicate_zero, List.set_cons_zero, List.set_cons_succ, List.getElem?_cons_zero, List.getElem?_cons_succ, List.drop_zero, List.drop_succ_cons, List.take_zero, List.take_succ_cons, List.take_nil, Option.getD_some, map_n, List.length_cons, List.length_nil, Nat.reduceAdd, Nat.reduceLeDiff, Nat.zero_add, bin_add, bin_eql, bin_lss, w64, if_true, if_false, Bool.false_eq_true, decide_true, true_and, reduceCtorEq, hlt', hVH.ls.len]
      exact ⟨k + 1, hlt, by simp [Has, rd_s], by omega⟩
    · have hkn' : ¬ (k : Int) = n := by omega
      have ok : ∀ q : Nat, q < (dl (lists ws) n).length → oE L (dl (lists ws) n) q = 0 := by
        intro q hq
        unfold oE
        rw [if_pos hkE1, if_pos (by omega)]
      have ok0 : oE L (lists ws) k = 0 := by
        unfold oE
        rw [if_pos hkE, if_pos (by omega)]
      have same : ∀ q : Nat, q < (dl (lists ws) n).length → (dl (lists ws) n)[q]? = (lists ws)[k]? → wV L (lists ws) k (a, b) (c, d) = wV L (lists ws1) q (a, b) (c, d) ∧ wE L (lists ws) k (a, b) (c, d) = wE L (lists ws1) q (a, b) (c, d) := by
        intro q hq hqk
        rw [hl1]
        unfold wV wE fOf rowOf
        rw [ok q hq, ok0, Int.toNat_natCast, Int.toNat_natCast, hqk]
        exact ⟨rfl, rfl⟩
      have h24 := s24 (hL.mono P2) hVH hs k (a, b) (c, d) ha hc
      obtain ⟨p, q, hpq⟩ := wV_agg (L := L) (lists ws) k (a, b) (c, d)
      rw [hpq] at h24
      by_cases hgt : (n : Int) < k
      · obtain ⟨e1, e2⟩ := same (k - 1) (by omega) (dl_hi (by omega) (by omega))
        have h24' := s24 (hx1.mono p2) (hV1.mono p2) hs1 ((k - 1 : Nat) : Int) (a, b) (c, d) ha hc
        rw [← e1, ← e2, hpq, show ((k - 1 : Nat) : Int) = (k : Int) - 1 by omega] at h24'
        simp (maxSteps := 4000000) -implicitDefEqProofs -dsimp (disch := omega) only [↓AW_skip, ↓AW_ops, ↓AW_seq, ↓AW_cond, ↓AW_block, ↓AOps_nil, ↓AOps_pu, ↓AOps_call, on_some, condB_t, condB_f, ↓then_normal, pval, rd_S, rd_C, put_S, chkd, isAdr, bgot, AV.cells?, partA, eq_self, mk, List.foldl_cons, List.foldl_nil, List.replicate_succ, List.replicate_zero, List.set_cons_zero, List.set_cons_succ, List.getElem?_cons_zero, List.getElem?_cons_succ, List.drop_zero, List.drop_succ_cons, List.take_zero, List.take_succ_cons, List.take_nil, Option.getD_some, map_c, map_n, List.length_cons, List.length_nil, Nat.reduceAdd, Nat.reduceLeDiff, Nat.reduceEqDiff, Nat.zero_add, bin_sub, bin_eql, bin_lss, bin_gtr, w64, if_true, if_false, Bool.false_eq_true, decide_true, decide_false, hlt', hVH.ls.len, hkn', hgt]
        refine CallK.of h24 ?_
        simp (maxSteps := 4000000) -implicitDefEqProofs -dsimp (disch := omega) only [↓AW_ops, ↓AW_seq, ↓AOps_nil, ↓AOps_pu, ↓AOps_call, on_some, extK_same, ↓then_normal, pval, rd_S, rd_C, put_S, chkd, isAdr, bput, bgot, AV.cells?, splice, partA, eq_self, mk, List.foldl_cons, List.foldl_nil, List.replicate_succ, List.replicate_zero, List.set_cons_zero, List.set_cons_succ, List.getElem?_cons_zero, List.getElem?_cons_succ, List.drop_zero, List.drop_succ_cons, List.drop_nil, List.take_zero, List.take_succ_cons, List.take_nil, Option.getD_some, map_c, map_n, List.length_cons, List.length_nil, Nat.reduceAdd, Nat.reduceLeDiff, Nat.reduceEqDiff, Nat.zero_add, List.nil_append, List.append_nil, if_true, if_false, ne_eq, not_true_eq_false]
        refine CallK.of h24' ?_
        simp (maxSteps := 4000000) -implicitDefEqProofs -dsimp (disch := omega) only [↓AW_skip, ↓AW_ops, ↓AW_seq, ↓AW_cond, ↓AOps_nil, ↓AOps_pu, ↓AOps_guard, on_some, extK_same, guardB_ff, condB_f, ↓then_normal, ↓inBlock_normal, pval, rd_S, rd_C, put_S, chkd, bput, bgot, AV.cells?, splice, partA, eqc, beq_self_eq_true, eq_self, mk, List.foldl_cons, List.foldl_nil, List.replicate_succ, List.replicate_zero, List.set_cons_zero, List.set_cons_succ, List.getElem?_cons_zero, List.getElem?_cons_succ, List.drop_zero, List.drop_succ_cons, List.drop_nil, List.take_zero, List.take_succ_cons, List.take_nil, Option.getD_some, Option.map_some, List.length_cons, List.length_nil, Nat.reduceAdd, Nat.reduceLeDiff, Nat.reduceEqDiff, Nat.zero_add, List.nil_append, List.append_nil, bin_add, bin_neq, w64, if_true, if_false, Bool.false_eq_true, Bool.not_true, Bool.true_and, decide_false, true_and, ne_eq, not_true_eq_false]
        exact ⟨k + 1, hlt, by simp [Has, rd_s], by omega⟩
      · obtain ⟨e1, e2⟩ := same k (by omega) (dl_lo (by omega) (by omega))
        have h24' := s24 (hx1.mono p2) (hV1.mono p2) hs1 (k : Int) (a, b) (c, d) ha hc
        rw [← e1, ← e2, hpq] at h24'
        simp (maxSteps := 4000000) -implicitDefEqProofs -dsimp (disch := omega) only [↓AW_skip, ↓AW_ops, ↓AW_seq, ↓AW_cond, ↓AW_block, ↓AOps_nil, ↓AOps_pu, ↓AOps_call, on_some, condB_t, condB_f, ↓then_normal, pval, rd_S, put_S, chkd, isAdr, bgot, AV.cells?, partA, eq_self, mk, List.foldl_cons, List.foldl_nil, List.replicate_succ, List.replicate_zero, List.set_cons_zero, List.set_cons_succ, List.getElem?_cons_zero, List.getElem?_cons_succ, List.drop_zero, List.drop_succ_cons, List.take_zero, List.take_succ_cons, List.take_nil, Option.getD_some, map_c, map_n, List.length_cons, List.length_nil, Nat.reduceAdd, Nat.reduceLeDiff, Nat.reduceEqDiff, Nat.zero_add, bin_eql, bin_lss, bin_gtr, if_true, if_false, Bool.false_eq_true, decide_true, decide_false, hlt', hVH.ls.len, hkn', hgt]
        refine CallK.of h24 ?_
        simp (maxSteps := 4000000) -implicitDefEqProofs -dsimp (disch := omega) only [↓AW_ops, ↓AW_seq, ↓AOps_nil, ↓AOps_pu, ↓AOps_call, on_some, extK_same, ↓then_normal, pval, rd_S, rd_C, put_S, chkd, isAdr, bput, bgot, AV.cells?, splice, partA, eq_self, mk, List.foldl_cons, List.foldl_nil, List.replicate_succ, List.replicate_zero, List.set_cons_zero, List.set_cons_succ, List.getElem?_cons_zero, List.getElem?_cons_succ, List.drop_zero, List.drop_succ_cons, List.drop_nil, List.take_zero, List.take_succ_cons, List.take_nil, Option.getD_some, map_c, map_n, List.length_cons, List.length_nil, Nat.reduceAdd, Nat.reduceLeDiff, Nat.reduceEqDiff, Nat.zero_add, List.nil_append, List.append_nil, if_true, if_false, ne_eq, not_true_eq_false]
        refine CallK.of h24' ?_
        simp (maxSteps := 4000000) -implicitDefEqProofs -dsimp (disch := omega) only [↓AW_skip, ↓AW_ops, ↓AW_seq, ↓AW_cond, ↓AOps_nil, ↓AOps_pu, ↓AOps_guard, on_some, extK_same, guardB_ff, condB_f, ↓then_normal, ↓inBlock_normal, pval, rd_S, rd_C, put_S, chkd, bput, bgot, AV.cells?, splice, partA, eqc, beq_self_eq_true, eq_self, mk, List.foldl_cons, List.foldl_nil, List.replicate_succ, List.replicate_zero, List.set_cons_zero, List.set_cons_succ, List.getElem?_cons_zero, List.getElem?_cons_succ, List.drop_zero, List.drop_succ_cons, List.drop_nil, List.take_zero, List.take_succ_cons, List.take_nil, Option.getD_some, Option.map_some, List.length_cons, List.length_nil, Nat.reduceAdd, Nat.reduceLeDiff, Nat.reduceEqDiff, Nat.zero_add, List.nil_append, List.append_nil, bin_add, bin_neq, w64, if_true, if_false, Bool.false_eq_true, Bool.not_true, Bool.true_and, decide_false, true_and, ne_eq, not_true_eq_false]
        exact ⟨k + 1, hlt, by simp [Has, rd_s], by omega⟩
  · have hlt' : ¬ ((k : Int) < ws.length) := by omega
    simp (maxSteps := 4000000) -implicitDefEqProofs -dsimp (disch := omega) only [↓AW_ops, ↓AW_seq, ↓AW_cond, ↓AW_exit, ↓AOps_nil, ↓AOps_pu, ↓AOps_call, on_some, condB_f, ↓then_normal, ↓then_exit, ↓inBlock_exit, pval, rd_S, put_S, chkd, isAdr, bgot, AV.cells?, partA, eq_self, mk, List.foldl_cons, List.foldl_nil, List.replicate_succ, List.replicate_zero, List.set_cons_zero, List.set_cons_succ, List.getElem?_cons_zero, List.getElem?_cons_succ, List.drop_zero, List.drop_succ_cons, List.take_succ_cons, List.take_nil, Option.getD_some, map_n, List.length_cons, List.length_nil, Nat.reduceAdd, Nat.reduceLeDiff, Nat.zero_add, bin_lss, if_true, if_false, Bool.false_eq_true, decide_false, hlt', hVH.ls.len]
    refine CallK.of (known H2) ?_
    simp (maxSteps := 4000000) -implicitDefEqProofs -dsimp (disch := omega) only [↓AW_ret, ↓AOps_nil, ↓AOps_pu, on_some, extK_same, ↓then_normal, ↓Fin_ret, pval, rd_S, put_S, resV, resL, mk, List.foldl_cons, List.foldl_nil, List.replicate_succ, List.replicate_zero, List.set_cons_zero, List.set_cons_succ, List.getElem?_cons_zero, List.getElem?_cons_succ, Option.getD_some]
    exact gc_val P2 rfl
end
end Go.Proofs.Ytmblehbjedpjoaa

