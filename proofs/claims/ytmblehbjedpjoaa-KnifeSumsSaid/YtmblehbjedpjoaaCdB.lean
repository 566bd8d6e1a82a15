/- What the law's proof rests on, part 4: for all that is said in each line. No conditions. -/
import Derived.Test.YtmblehbjedpjoaaRows
import Derived.Test.YtmblehbjedpjoaaCdA
namespace Go.Proofs.Ytmblehbjedpjoaa
open Go Go.Eng
/-- selion/selionlaw06.KnifeCalls [loop [3, 5, 9]] -/
def m3 : MFun := ⟨65, [2, 3], [.mov (.s 4)],
 .seq (.ops [⟨(some 2), some (.junk), none, false, .pu (.bnew (.s 0))⟩,
   ⟨(some 3), some (.junk), none, false, .pu (.bnew (.s 1))⟩,
   ⟨(some 4), some undefA, none, false, .pu (.mov (.c (.bool false)))⟩])
 (.seq (.seq (.ops [⟨(some 10), some undefA, none, false, .pu (.bget none 2 0 2 true)⟩,
   ⟨(some 11), some undefA, none, false, .call 13 [(.s 10)]⟩])
 (.cond (.s 11) (.seq (.ops [⟨(some 12), some undefA, none, false, .call 14 []⟩,
    ⟨(some 4), some undefA, none, false, .pu (.mov (.s 12))⟩])
  (.ret))
 (.skip)))
 (.seq (.ops [⟨(some 14), some undefA, none, false, .pu (.bget none 2 0 2 true)⟩,
   ⟨(some 15), some undefA, none, false, .pu (.bget none 3 0 2 true)⟩,
   ⟨(some 16), some undefA, none, false, .call 15 [(.s 14), (.s 15)]⟩,
   ⟨(some 13), some undefA, none, false, .pu (.mov (.s 16))⟩,
   ⟨(some 17), some undefA, none, false, .pu (.extr 0 (.s 13))⟩,
   ⟨(some 18), some undefA, none, false, .pu (.extr 1 (.s 13))⟩,
   ⟨(some 5), some undefA, none, false, .pu (.mov (.s 17))⟩,
   ⟨(some 6), some undefA, none, false, .pu (.mov (.s 18))⟩])
 (.seq (.ops [⟨(some 20), some undefA, none, false, .pu (.bget none 2 0 2 true)⟩,
   ⟨(some 21), some undefA, none, false, .pu (.bget none 3 0 2 true)⟩,
   ⟨(some 22), some undefA, none, false, .call 16 [(.s 20), (.s 21)]⟩,
   ⟨(some 19), some undefA, none, false, .pu (.mov (.s 22))⟩,
   ⟨(some 23), some undefA, none, false, .pu (.extr 0 (.s 19))⟩,
   ⟨(some 24), some undefA, none, false, .pu (.extr 1 (.s 19))⟩,
   ⟨(some 7), some undefA, none, false, .pu (.mov (.s 23))⟩,
   ⟨(some 8), some undefA, none, false, .pu (.mov (.s 24))⟩])
 (.seq (.seq (.ops [⟨(some 25), some undefA, none, false, .pu (.mov (.s 6))⟩,
   ⟨(some 26), some undefA, none, false, .pu (.mov (.s 8))⟩,
   ⟨(some 27), some undefA, none, false, .pu (.bin .neq (.s 25) (.s 26))⟩,
   ⟨(some 28), some undefA, none, false, .pu (.mov (.s 27))⟩,
   ⟨(some 29), some undefA, (some (28, false)), false, .pu (.mov (.s 5))⟩,
   ⟨(some 30), some undefA, (some (28, false)), false, .pu (.mov (.s 7))⟩,
   ⟨(some 31), some undefA, (some (28, false)), false, .call 17 [(.s 29), (.s 30)]⟩,
   ⟨(some 32), some undefA, (some (28, false)), false, .pu (.not (.s 31))⟩,
   ⟨(some 33), some undefA, none, false, .pu (.pick (.s 28) (.c (.bool true)) (.s 32))⟩])
 (.cond (.s 33) (.seq (.ops [⟨(some 4), some undefA, none, false, .pu (.mov (.c (.bool false)))⟩])
  (.ret))
 (.skip)))
 (.seq (.seq (.ops [⟨(some 9), some undefA, none, false, .pu (.mov (.c (.int .i64 0)))⟩])
 (.block 0 (.loop (.seq (.seq (.ops [⟨(some 34), some undefA, none, false, .pu (.mov (.s 9))⟩,
     ⟨(some 35), some undefA, none, false, .pu (.mov (.s 5))⟩,
     ⟨(some 36), some undefA, none, false, .pu (.len (.s 35))⟩,
     ⟨(some 37), some undefA, none, false, .pu (.bin .lss (.s 34) (.s 36))⟩])
   (.cond (.s 37) (.skip)
   (.exit 0)))
   (.seq (.block 1 (.seq (.ops [⟨(some 40), some undefA, none, false, .pu (.mov (.s 5))⟩,
      ⟨(some 41), some undefA, none, false, .pu (.mov (.s 9))⟩,
      ⟨(some 42), some undefA, none, false, .pu (.idx 2 (.s 40) (.s 41))⟩,
      ⟨(some 43), some undefA, none, false, .pu (.fad 1 (.s 42))⟩,
      ⟨(some 44), some undefA, none, true, .ld (.ld 1 false (.s 43))⟩,
      ⟨(some 45), some undefA, none, false, .pu (.bin .lss (.s 44) (.c (.int .i64 1)))⟩,
      ⟨(some 46), some undefA, none, false, .pu (.mov (.s 45))⟩,
      ⟨(some 47), some undefA, (some (46, false)), false, .pu (.badr none 3)⟩,
      ⟨(some 48), some undefA, (some (46, false)), false, .pu (.bget (some 47) 3 1 1 false)⟩,
      ⟨(some 49), some undefA, (some (46, false)), false, .pu (.bin .lss (.s 48) (.c (.int .i64 1)))⟩,
      ⟨(some 50), some undefA, none, false, .pu (.pick (.s 46) (.c (.bool true)) (.s 49))⟩,
      ⟨(some 51), some undefA, none, false, .pu (.mov (.s 50))⟩,
      ⟨(some 52), some undefA, (some (51, false)), false, .pu (.mov (.s 5))⟩,
      ⟨(some 53), some undefA, (some (51, false)), false, .call 18 [(.s 52)]⟩,
      ⟨(some 54), some undefA, (some (51, false)), false, .pu (.not (.s 53))⟩,
      ⟨(some 55), some undefA, none, false, .pu (.pick (.s 51) (.c (.bool true)) (.s 54))⟩,
      ⟨(some 56), some undefA, none, false, .pu (.mov (.s 55))⟩,
      ⟨(some 57), some undefA, (some (56, false)), false, .pu (.mov (.s 5))⟩,
      ⟨(some 58), some undefA, (some (56, false)), false, .pu (.mov (.s 9))⟩,
      ⟨(some 59), some undefA, (some (56, false)), false, .pu (.idx 2 (.s 57) (.s 58))⟩,
      ⟨(some 60), some undefA, (some (56, false)), true, .ld (.ld 2 true (.s 59))⟩,
      ⟨(some 61), some undefA, (some (56, false)), true, .pu (.bget none 3 0 2 true)⟩,
      ⟨(some 62), some undefA, (some (56, false)), false, .call 19 [(.s 60), (.s 61)]⟩,
      ⟨(some 63), some undefA, none, false, .pu (.pick (.s 56) (.c (.bool true)) (.s 62))⟩])
    (.cond (.s 63) (.seq (.ops [⟨(some 4), some undefA, none, false, .pu (.mov (.c (.bool false)))⟩])
     (.ret))
    (.skip))))
   (.ops [⟨(some 38), some undefA, none, false, .pu (.mov (.s 9))⟩,
     ⟨(some 39), some undefA, none, false, .pu (.bin .add (.s 38) (.c (.int .i64 1)))⟩,
     ⟨(some 9), some undefA, none, false, .pu (.mov (.s 39))⟩]))))))
 (.seq (.ops [⟨(some 64), some undefA, none, false, .call 14 []⟩,
   ⟨(some 4), some undefA, none, false, .pu (.mov (.s 64))⟩])
 (.ret)))))))⟩
/-- selion/selionlaw06.KnifeMarks [] -/
def m4 : MFun := ⟨88, [3, 4, 5, 7, 10, 13, 15], [.mov (.s 6)],
 .seq (.ops [⟨(some 3), some (.junk), none, false, .pu (.bnew (.s 0))⟩,
   ⟨(some 4), some (.junk), none, false, .pu (.bnew (.s 1))⟩,
   ⟨(some 5), some (.junk), none, false, .pu (.bnew (.s 2))⟩,
   ⟨(some 6), some undefA, none, false, .pu (.mov (.c (.bool false)))⟩])
 (.seq (.seq (.ops [⟨(some 17), some undefA, none, false, .pu (.bget none 3 0 2 true)⟩,
   ⟨(some 18), some undefA, none, false, .call 13 [(.s 17)]⟩])
 (.cond (.s 18) (.seq (.ops [⟨(some 19), some undefA, none, false, .call 14 []⟩,
    ⟨(some 6), some undefA, none, false, .pu (.mov (.s 19))⟩])
  (.ret))
 (.skip)))
 (.seq (.ops [⟨(some 21), some undefA, none, false, .pu (.bget none 3 0 2 true)⟩,
   ⟨(some 22), some undefA, none, false, .pu (.badr none 4)⟩,
   ⟨(some 23), some undefA, none, false, .pu (.bget (some 22) 4 0 1 false)⟩,
   ⟨(some 24), some undefA, none, false, .pu (.badr none 4)⟩,
   ⟨(some 25), some undefA, none, false, .pu (.bget (some 24) 4 1 2 true)⟩,
   ⟨(some 26), some undefA, none, false, .pu (.badr none 5)⟩,
   ⟨(some 27), some undefA, none, false, .pu (.bget (some 26) 5 0 1 false)⟩,
   ⟨(some 28), some undefA, none, false, .pu (.badr none 5)⟩,
   ⟨(some 29), some undefA, none, false, .pu (.bget (some 28) 5 1 1 false)⟩,
   ⟨(some 30), some undefA, none, false, .call 20 [(.s 21), (.s 23), (.s 25), (.s 27), (.s 29)]⟩,
   ⟨(some 20), some undefA, none, false, .pu (.mov (.s 30))⟩,
   ⟨(some 31), some undefA, none, false, .pu (.extr 0 (.s 20))⟩,
   ⟨(some 32), some undefA, none, false, .pu (.extr 1 (.s 20))⟩,
   ⟨(some 33), some undefA, none, false, .pu (.extr 2 (.s 20))⟩,
   ⟨(some 7), some (.junk), none, false, .pu (.bnew (.c (.agg [.int .i64 0, .int .i64 0])))⟩,
   ⟨(some 7), none, none, false, .pu (.bset none 7 0 2 (.s 31))⟩,
   ⟨(some 8), some undefA, none, false, .pu (.mov (.s 32))⟩,
   ⟨(some 9), some undefA, none, false, .pu (.mov (.s 33))⟩])
 (.seq (.ops [⟨(some 35), some undefA, none, false, .pu (.bget none 3 0 2 true)⟩,
   ⟨(some 36), some undefA, none, false, .pu (.badr none 4)⟩,
   ⟨(some 37), some undefA, none, false, .pu (.bget (some 36) 4 0 1 false)⟩,
   ⟨(some 38), some undefA, none, false, .pu (.badr none 4)⟩,
   ⟨(some 39), some undefA, none, false, .pu (.bget (some 38) 4 1 2 true)⟩,
   ⟨(some 40), some undefA, none, false, .pu (.badr none 5)⟩,
   ⟨(some 41), some undefA, none, false, .pu (.bget (some 40) 5 0 1 false)⟩,
   ⟨(some 42), some undefA, none, false, .pu (.badr none 5)⟩,
   ⟨(some 43), some undefA, none, false, .pu (.bget (some 42) 5 1 1 false)⟩,
   ⟨(some 44), some undefA, none, false, .call 21 [(.s 35), (.s 37), (.s 39), (.s 41), (.s 43)]⟩,
   ⟨(some 34), some undefA, none, false, .pu (.mov (.s 44))⟩,
   ⟨(some 45), some undefA, none, false, .pu (.extr 0 (.s 34))⟩,
   ⟨(some 46), some undefA, none, false, .pu (.extr 1 (.s 34))⟩,
   ⟨(some 47), some undefA, none, false, .pu (.extr 2 (.s 34))⟩,
   ⟨(some 10), some (.junk), none, false, .pu (.bnew (.c (.agg [.int .i64 0, .int .i64 0])))⟩,
   ⟨(some 10), none, none, false, .pu (.bset none 10 0 2 (.s 45))⟩,
   ⟨(some 11), some undefA, none, false, .pu (.mov (.s 46))⟩,
   ⟨(some 12), some undefA, none, false, .pu (.mov (.s 47))⟩])
 (.seq (.ops [⟨(some 49), some undefA, none, false, .pu (.bget none 3 0 2 true)⟩,
   ⟨(some 50), some undefA, none, false, .pu (.badr none 4)⟩,
   ⟨(some 51), some undefA, none, false, .pu (.bget (some 50) 4 0 1 false)⟩,
   ⟨(some 52), some undefA, none, false, .call 22 [(.s 49), (.s 51)]⟩,
   ⟨(some 48), some undefA, none, false, .pu (.mov (.s 52))⟩,
   ⟨(some 53), some undefA, none, false, .pu (.extr 0 (.s 48))⟩,
   ⟨(some 54), some undefA, none, false, .pu (.extr 1 (.s 48))⟩,
   ⟨(some 13), some (.junk), none, false, .pu (.bnew (.c (.agg [.int .i64 0, .int .i64 0])))⟩,
   ⟨(some 13), none, none, false, .pu (.bset none 13 0 2 (.s 53))⟩,
   ⟨(some 14), some undefA, none, false, .pu (.mov (.s 54))⟩])
 (.seq (.ops [⟨(some 56), some undefA, none, false, .pu (.bget none 3 0 2 true)⟩,
   ⟨(some 57), some undefA, none, false, .pu (.badr none 4)⟩,
   ⟨(some 58), some undefA, none, false, .pu (.bget (some 57) 4 0 1 false)⟩,
   ⟨(some 59), some undefA, none, false, .call 23 [(.s 56), (.s 58)]⟩,
   ⟨(some 55), some undefA, none, false, .pu (.mov (.s 59))⟩,
   ⟨(some 60), some undefA, none, false, .pu (.extr 0 (.s 55))⟩,
   ⟨(some 61), some undefA, none, false, .pu (.extr 1 (.s 55))⟩,
   ⟨(some 15), some (.junk), none, false, .pu (.bnew (.c (.agg [.int .i64 0, .int .i64 0])))⟩,
   ⟨(some 15), none, none, false, .pu (.bset none 15 0 2 (.s 60))⟩,
   ⟨(some 16), some undefA, none, false, .pu (.mov (.s 61))⟩])
 (.seq (.ops [⟨(some 62), some undefA, none, false, .pu (.bget none 7 0 2 true)⟩,
   ⟨(some 63), some undefA, none, false, .pu (.bget none 10 0 2 true)⟩,
   ⟨(some 64), some undefA, none, false, .pu (.eqs false [true, true] (.s 62) (.s 63))⟩,
   ⟨(some 65), some undefA, none, false, .pu (.mov (.s 64))⟩,
   ⟨(some 66), some undefA, (some (65, true)), false, .pu (.mov (.s 8))⟩,
   ⟨(some 67), some undefA, (some (65, true)), false, .pu (.mov (.s 11))⟩,
   ⟨(some 68), some undefA, (some (65, true)), false, .pu (.eqb false (.s 66) (.s 67))⟩,
   ⟨(some 69), some undefA, none, false, .pu (.pick (.s 65) (.s 68) (.c (.bool false)))⟩,
   ⟨(some 70), some undefA, none, false, .pu (.mov (.s 69))⟩,
   ⟨(some 71), some undefA, (some (70, true)), false, .pu (.mov (.s 9))⟩,
   ⟨(some 72), some undefA, (some (70, true)), false, .pu (.mov (.s 12))⟩,
   ⟨(some 73), some undefA, (some (70, true)), false, .pu (.bin .eql (.s 71) (.s 72))⟩,
   ⟨(some 74), some undefA, none, false, .pu (.pick (.s 70) (.s 73) (.c (.bool false)))⟩,
   ⟨(some 75), some undefA, none, false, .pu (.mov (.s 74))⟩,
   ⟨(some 76), some undefA, (some (75, true)), false, .pu (.bget none 13 0 2 true)⟩,
   ⟨(some 77), some undefA, (some (75, true)), false, .pu (.bget none 15 0 2 true)⟩,
   ⟨(some 78), some undefA, (some (75, true)), false, .pu (.eqs false [true, true] (.s 76) (.s 77))⟩,
   ⟨(some 79), some undefA, none, false, .pu (.pick (.s 75) (.s 78) (.c (.bool false)))⟩,
   ⟨(some 80), some undefA, none, false, .pu (.mov (.s 79))⟩,
   ⟨(some 81), some undefA, (some (80, true)), false, .pu (.mov (.s 14))⟩,
   ⟨(some 82), some undefA, (some (80, true)), false, .pu (.mov (.s 16))⟩,
   ⟨(some 83), some undefA, (some (80, true)), false, .pu (.bin .eql (.s 81) (.s 82))⟩,
   ⟨(some 84), some undefA, none, false, .pu (.pick (.s 80) (.s 83) (.c (.bool false)))⟩,
   ⟨(some 85), some undefA, none, false, .pu (.mov (.s 84))⟩,
   ⟨(some 86), some undefA, (some (85, true)), false, .call 14 []⟩,
   ⟨(some 87), some undefA, none, false, .pu (.pick (.s 85) (.s 86) (.c (.bool false)))⟩,
   ⟨(some 6), some undefA, none, false, .pu (.mov (.s 87))⟩])
 (.ret)))))))⟩
/-- selion/selionlaw06.KnifeWorths [] -/
def m5 : MFun := ⟨52, [2, 3, 5, 7], [.mov (.s 4)],
 .seq (.ops [⟨(some 2), some (.junk), none, false, .pu (.bnew (.s 0))⟩,
   ⟨(some 3), some (.junk), none, false, .pu (.bnew (.s 1))⟩,
   ⟨(some 4), some undefA, none, false, .pu (.mov (.c (.bool false)))⟩])
 (.seq (.seq (.ops [⟨(some 9), some undefA, none, false, .pu (.bget none 2 0 2 true)⟩,
   ⟨(some 10), some undefA, none, false, .call 13 [(.s 9)]⟩])
 (.cond (.s 10) (.seq (.ops [⟨(some 11), some undefA, none, false, .call 14 []⟩,
    ⟨(some 4), some undefA, none, false, .pu (.mov (.s 11))⟩])
  (.ret))
 (.skip)))
 (.seq (.ops [⟨(some 13), some undefA, none, false, .pu (.bget none 2 0 2 true)⟩,
   ⟨(some 14), some undefA, none, false, .pu (.badr none 3)⟩,
   ⟨(some 15), some undefA, none, false, .pu (.bget (some 14) 3 0 1 false)⟩,
   ⟨(some 16), some undefA, none, false, .pu (.badr none 3)⟩,
   ⟨(some 17), some undefA, none, false, .pu (.bget (some 16) 3 1 2 true)⟩,
   ⟨(some 18), some undefA, none, false, .pu (.badr none 3)⟩,
   ⟨(some 19), some undefA, none, false, .pu (.bget (some 18) 3 3 2 true)⟩,
   ⟨(some 20), some undefA, none, false, .call 24 [(.s 13), (.s 15), (.s 17), (.s 19)]⟩,
   ⟨(some 12), some undefA, none, false, .pu (.mov (.s 20))⟩,
   ⟨(some 21), some undefA, none, false, .pu (.extr 0 (.s 12))⟩,
   ⟨(some 22), some undefA, none, false, .pu (.extr 1 (.s 12))⟩,
   ⟨(some 5), some (.junk), none, false, .pu (.bnew (.c (.agg [.int .i64 0, .int .i64 0])))⟩,
   ⟨(some 5), none, none, false, .pu (.bset none 5 0 2 (.s 21))⟩,
   ⟨(some 6), some undefA, none, false, .pu (.mov (.s 22))⟩])
 (.seq (.ops [⟨(some 24), some undefA, none, false, .pu (.bget none 2 0 2 true)⟩,
   ⟨(some 25), some undefA, none, false, .pu (.badr none 3)⟩,
   ⟨(some 26), some undefA, none, false, .pu (.bget (some 25) 3 0 1 false)⟩,
   ⟨(some 27), some undefA, none, false, .pu (.badr none 3)⟩,
   ⟨(some 28), some undefA, none, false, .pu (.bget (some 27) 3 1 2 true)⟩,
   ⟨(some 29), some undefA, none, false, .pu (.badr none 3)⟩,
   ⟨(some 30), some undefA, none, false, .pu (.bget (some 29) 3 3 2 true)⟩,
   ⟨(some 31), some undefA, none, false, .call 25 [(.s 24), (.s 26), (.s 28), (.s 30)]⟩,
   ⟨(some 23), some undefA, none, false, .pu (.mov (.s 31))⟩,
   ⟨(some 32), some undefA, none, false, .pu (.extr 0 (.s 23))⟩,
   ⟨(some 33), some undefA, none, false, .pu (.extr 1 (.s 23))⟩,
   ⟨(some 7), some (.junk), none, false, .pu (.bnew (.c (.agg [.int .i64 0, .int .i64 0])))⟩,
   ⟨(some 7), none, none, false, .pu (.bset none 7 0 2 (.s 32))⟩,
   ⟨(some 8), some undefA, none, false, .pu (.mov (.s 33))⟩])
 (.seq (.ops [⟨(some 34), some undefA, none, false, .pu (.bget none 2 0 2 true)⟩,
   ⟨(some 35), some undefA, none, false, .call 26 [(.s 34)]⟩,
   ⟨(some 36), some undefA, none, false, .pu (.bget none 2 0 2 true)⟩,
   ⟨(some 37), some undefA, none, false, .call 27 [(.s 36)]⟩,
   ⟨(some 38), some undefA, none, false, .pu (.bin .eql (.s 35) (.s 37))⟩,
   ⟨(some 39), some undefA, none, false, .pu (.mov (.s 38))⟩,
   ⟨(some 40), some undefA, (some (39, true)), false, .pu (.bget none 5 0 2 true)⟩,
   ⟨(some 41), some undefA, (some (39, true)), false, .pu (.bget none 7 0 2 true)⟩,
   ⟨(some 42), some undefA, (some (39, true)), false, .pu (.eqs false [true, true] (.s 40) (.s 41))⟩,
   ⟨(some 43), some undefA, none, false, .pu (.pick (.s 39) (.s 42) (.c (.bool false)))⟩,
   ⟨(some 44), some undefA, none, false, .pu (.mov (.s 43))⟩,
   ⟨(some 45), some undefA, (some (44, true)), false, .pu (.mov (.s 6))⟩,
   ⟨(some 46), some undefA, (some (44, true)), false, .pu (.mov (.s 8))⟩,
   ⟨(some 47), some undefA, (some (44, true)), false, .pu (.bin .eql (.s 45) (.s 46))⟩,
   ⟨(some 48), some undefA, none, false, .pu (.pick (.s 44) (.s 47) (.c (.bool false)))⟩,
   ⟨(some 49), some undefA, none, false, .pu (.mov (.s 48))⟩,
   ⟨(some 50), some undefA, (some (49, true)), false, .call 14 []⟩,
   ⟨(some 51), some undefA, none, false, .pu (.pick (.s 49) (.s 50) (.c (.bool false)))⟩,
   ⟨(some 4), some undefA, none, false, .pu (.mov (.s 51))⟩])
 (.ret)))))⟩
/-- selion/selionlaw06.KnifeEvens [] -/
def m6 : MFun := ⟨59, [1], [.mov (.s 2)],
 .seq (.ops [⟨(some 1), some (.junk), none, false, .pu (.bnew (.s 0))⟩,
   ⟨(some 2), some undefA, none, false, .pu (.mov (.c (.bool false)))⟩])
 (.seq (.seq (.ops [⟨(some 9), some undefA, none, false, .pu (.bget none 1 0 2 true)⟩,
   ⟨(some 10), some undefA, none, false, .call 13 [(.s 9)]⟩])
 (.cond (.s 10) (.seq (.ops [⟨(some 11), some undefA, none, false, .call 14 []⟩,
    ⟨(some 2), some undefA, none, false, .pu (.mov (.s 11))⟩])
  (.ret))
 (.skip)))
 (.seq (.ops [⟨(some 13), some undefA, none, false, .pu (.bget none 1 0 2 true)⟩,
   ⟨(some 14), some undefA, none, false, .call 28 [(.s 13)]⟩,
   ⟨(some 12), some undefA, none, false, .pu (.mov (.s 14))⟩,
   ⟨(some 15), some undefA, none, false, .pu (.extr 0 (.s 12))⟩,
   ⟨(some 16), some undefA, none, false, .pu (.extr 1 (.s 12))⟩,
   ⟨(some 3), some undefA, none, false, .pu (.mov (.s 15))⟩,
   ⟨(some 4), some undefA, none, false, .pu (.mov (.s 16))⟩])
 (.seq (.ops [⟨(some 18), some undefA, none, false, .pu (.bget none 1 0 2 true)⟩,
   ⟨(some 19), some undefA, none, false, .call 29 [(.s 18)]⟩,
   ⟨(some 17), some undefA, none, false, .pu (.mov (.s 19))⟩,
   ⟨(some 20), some undefA, none, false, .pu (.extr 0 (.s 17))⟩,
   ⟨(some 21), some undefA, none, false, .pu (.extr 1 (.s 17))⟩,
   ⟨(some 5), some undefA, none, false, .pu (.mov (.s 20))⟩,
   ⟨(some 6), some undefA, none, false, .pu (.mov (.s 21))⟩])
 (.seq (.seq (.ops [⟨(some 22), some undefA, none, false, .pu (.mov (.s 4))⟩,
   ⟨(some 23), some undefA, none, false, .pu (.mov (.s 6))⟩,
   ⟨(some 24), some undefA, none, false, .pu (.bin .neq (.s 22) (.s 23))⟩,
   ⟨(some 25), some undefA, none, false, .pu (.mov (.s 24))⟩,
   ⟨(some 26), some undefA, (some (25, false)), false, .pu (.mov (.s 3))⟩,
   ⟨(some 27), some undefA, (some (25, false)), false, .pu (.mov (.s 5))⟩,
   ⟨(some 28), some undefA, (some (25, false)), false, .call 30 [(.s 26), (.s 27)]⟩,
   ⟨(some 29), some undefA, (some (25, false)), false, .pu (.not (.s 28))⟩,
   ⟨(some 30), some undefA, none, false, .pu (.pick (.s 25) (.c (.bool true)) (.s 29))⟩])
 (.cond (.s 30) (.seq (.ops [⟨(some 2), some undefA, none, false, .pu (.mov (.c (.bool false)))⟩])
  (.ret))
 (.skip)))
 (.seq (.seq (.ops [⟨(some 31), some undefA, none, false, .pu (.mov (.s 4))⟩,
   ⟨(some 32), some undefA, none, false, .pu (.bin .neq (.s 31) (.c (.int .i64 0)))⟩])
 (.cond (.s 32) (.seq (.ops [⟨(some 33), some undefA, none, false, .call 14 []⟩,
    ⟨(some 2), some undefA, none, false, .pu (.mov (.s 33))⟩])
  (.ret))
 (.skip)))
 (.seq (.ops [⟨(some 35), some undefA, none, false, .pu (.bget none 1 0 2 true)⟩,
   ⟨(some 36), some undefA, none, false, .pu (.mov (.s 3))⟩,
   ⟨(some 37), some undefA, none, false, .call 31 [(.s 35), (.s 36)]⟩,
   ⟨(some 34), some undefA, none, false, .pu (.mov (.s 37))⟩,
   ⟨(some 38), some undefA, none, false, .pu (.extr 0 (.s 34))⟩,
   ⟨(some 39), some undefA, none, false, .pu (.extr 1 (.s 34))⟩,
   ⟨(some 7), some undefA, none, false, .pu (.mov (.s 38))⟩,
   ⟨(some 8), some undefA, none, false, .pu (.mov (.s 39))⟩])
 (.seq (.ops [⟨(some 40), some undefA, none, false, .pu (.mov (.s 8))⟩,
   ⟨(some 41), some undefA, none, false, .pu (.bin .eql (.s 40) (.c (.int .i64 0)))⟩,
   ⟨(some 42), some undefA, none, false, .pu (.mov (.s 41))⟩,
   ⟨(some 43), some undefA, (some (42, true)), false, .pu (.mov (.s 7))⟩,
   ⟨(some 44), some undefA, (some (42, true)), false, .pu (.len (.s 43))⟩,
   ⟨(some 45), some undefA, (some (42, true)), false, .pu (.bin .eql (.s 44) (.c (.int .i64 2)))⟩,
   ⟨(some 46), some undefA, none, false, .pu (.pick (.s 42) (.s 45) (.c (.bool false)))⟩,
   ⟨(some 47), some undefA, none, false, .pu (.mov (.s 46))⟩,
   ⟨(some 48), some undefA, (some (47, true)), true, .pu (.mov (.s 7))⟩,
   ⟨(some 49), some undefA, (some (47, true)), true, .pu (.idx 2 (.s 48) (.c (.int .i64 0)))⟩,
   ⟨(some 50), some undefA, (some (47, true)), true, .ld (.ld 2 true (.s 49))⟩,
   ⟨(some 51), some undefA, (some (47, true)), true, .pu (.mov (.s 7))⟩,
   ⟨(some 52), some undefA, (some (47, true)), true, .pu (.idx 2 (.s 51) (.c (.int .i64 1)))⟩,
   ⟨(some 53), some undefA, (some (47, true)), true, .ld (.ld 2 true (.s 52))⟩,
   ⟨(some 54), some undefA, (some (47, true)), false, .pu (.eqs false [true, true] (.s 50) (.s 53))⟩,
   ⟨(some 55), some undefA, none, false, .pu (.pick (.s 47) (.s 54) (.c (.bool false)))⟩,
   ⟨(some 56), some undefA, none, false, .pu (.mov (.s 55))⟩,
   ⟨(some 57), some undefA, (some (56, true)), false, .call 14 []⟩,
   ⟨(some 58), some undefA, none, false, .pu (.pick (.s 56) (.s 57) (.c (.bool false)))⟩,
   ⟨(some 2), some undefA, none, false, .pu (.mov (.s 58))⟩])
 (.ret))))))))⟩
/-- selion/selionlaw06.KnifeKnives [] -/
def m7 : MFun := ⟨54, [1], [.mov (.s 2)],
 .seq (.ops [⟨(some 1), some (.junk), none, false, .pu (.bnew (.s 0))⟩,
   ⟨(some 2), some undefA, none, false, .pu (.mov (.c (.bool false)))⟩])
 (.seq (.seq (.ops [⟨(some 9), some undefA, none, false, .pu (.bget none 1 0 2 true)⟩,
   ⟨(some 10), some undefA, none, false, .call 13 [(.s 9)]⟩])
 (.cond (.s 10) (.seq (.ops [⟨(some 11), some undefA, none, false, .call 14 []⟩,
    ⟨(some 2), some undefA, none, false, .pu (.mov (.s 11))⟩])
  (.ret))
 (.skip)))
 (.seq (.ops [⟨(some 13), some undefA, none, false, .pu (.bget none 1 0 2 true)⟩,
   ⟨(some 14), some undefA, none, false, .call 32 [(.s 13)]⟩,
   ⟨(some 12), some undefA, none, false, .pu (.mov (.s 14))⟩,
   ⟨(some 15), some undefA, none, false, .pu (.extr 0 (.s 12))⟩,
   ⟨(some 16), some undefA, none, false, .pu (.extr 1 (.s 12))⟩,
   ⟨(some 3), some undefA, none, false, .pu (.mov (.s 15))⟩,
   ⟨(some 4), some undefA, none, false, .pu (.mov (.s 16))⟩])
 (.seq (.ops [⟨(some 18), some undefA, none, false, .pu (.bget none 1 0 2 true)⟩,
   ⟨(some 19), some undefA, none, false, .call 33 [(.s 18)]⟩,
   ⟨(some 17), some undefA, none, false, .pu (.mov (.s 19))⟩,
   ⟨(some 20), some undefA, none, false, .pu (.extr 0 (.s 17))⟩,
   ⟨(some 21), some undefA, none, false, .pu (.extr 1 (.s 17))⟩,
   ⟨(some 5), some undefA, none, false, .pu (.mov (.s 20))⟩,
   ⟨(some 6), some undefA, none, false, .pu (.mov (.s 21))⟩])
 (.seq (.seq (.ops [⟨(some 22), some undefA, none, false, .pu (.mov (.s 4))⟩,
   ⟨(some 23), some undefA, none, false, .pu (.mov (.s 6))⟩,
   ⟨(some 24), some undefA, none, false, .pu (.bin .neq (.s 22) (.s 23))⟩,
   ⟨(some 25), some undefA, none, false, .pu (.mov (.s 24))⟩,
   ⟨(some 26), some undefA, (some (25, false)), false, .pu (.mov (.s 3))⟩,
   ⟨(some 27), some undefA, (some (25, false)), false, .pu (.mov (.s 5))⟩,
   ⟨(some 28), some undefA, (some (25, false)), false, .call 30 [(.s 26), (.s 27)]⟩,
   ⟨(some 29), some undefA, (some (25, false)), false, .pu (.not (.s 28))⟩,
   ⟨(some 30), some undefA, none, false, .pu (.pick (.s 25) (.c (.bool true)) (.s 29))⟩])
 (.cond (.s 30) (.seq (.ops [⟨(some 2), some undefA, none, false, .pu (.mov (.c (.bool false)))⟩])
  (.ret))
 (.skip)))
 (.seq (.seq (.ops [⟨(some 31), some undefA, none, false, .pu (.mov (.s 4))⟩,
   ⟨(some 32), some undefA, none, false, .pu (.bin .neq (.s 31) (.c (.int .i64 0)))⟩])
 (.cond (.s 32) (.seq (.ops [⟨(some 33), some undefA, none, false, .call 14 []⟩,
    ⟨(some 2), some undefA, none, false, .pu (.mov (.s 33))⟩])
  (.ret))
 (.skip)))
 (.seq (.ops [⟨(some 35), some undefA, none, false, .pu (.bget none 1 0 2 true)⟩,
   ⟨(some 36), some undefA, none, false, .pu (.mov (.s 3))⟩,
   ⟨(some 37), some undefA, none, false, .call 34 [(.s 35), (.s 36)]⟩,
   ⟨(some 34), some undefA, none, false, .pu (.mov (.s 37))⟩,
   ⟨(some 38), some undefA, none, false, .pu (.extr 0 (.s 34))⟩,
   ⟨(some 39), some undefA, none, false, .pu (.extr 1 (.s 34))⟩,
   ⟨(some 7), some undefA, none, false, .pu (.mov (.s 38))⟩,
   ⟨(some 8), some undefA, none, false, .pu (.mov (.s 39))⟩])
 (.seq (.ops [⟨(some 40), some undefA, none, false, .pu (.bget none 1 0 2 true)⟩,
   ⟨(some 41), some undefA, none, false, .pu (.mov (.s 3))⟩,
   ⟨(some 42), some undefA, none, false, .call 35 [(.s 40), (.s 41)]⟩,
   ⟨(some 43), some undefA, none, false, .pu (.bin .eql (.s 42) (.c (.int .i64 0)))⟩,
   ⟨(some 44), some undefA, none, false, .pu (.mov (.s 43))⟩,
   ⟨(some 45), some undefA, (some (44, true)), false, .pu (.mov (.s 8))⟩,
   ⟨(some 46), some undefA, (some (44, true)), false, .pu (.bin .eql (.s 45) (.c (.int .i64 0)))⟩,
   ⟨(some 47), some undefA, none, false, .pu (.pick (.s 44) (.s 46) (.c (.bool false)))⟩,
   ⟨(some 48), some undefA, none, false, .pu (.mov (.s 47))⟩,
   ⟨(some 49), some undefA, (some (48, true)), false, .pu (.mov (.s 7))⟩,
   ⟨(some 50), some undefA, none, false, .pu (.pick (.s 48) (.s 49) (.c (.bool false)))⟩,
   ⟨(some 51), some undefA, none, false, .pu (.mov (.s 50))⟩,
   ⟨(some 52), some undefA, (some (51, true)), false, .call 14 []⟩,
   ⟨(some 53), some undefA, none, false, .pu (.pick (.s 51) (.s 52) (.c (.bool false)))⟩,
   ⟨(some 2), some undefA, none, false, .pu (.mov (.s 53))⟩])
 (.ret))))))))⟩
/-- selion/selionlaw06.KnifeSums [loop [1, 2, 3, 7, 8, 9], loop [1, 2, 3, 7, 8, 10]] -/
def m8 : MFun := ⟨123, [3, 7, 11, 13], [.mov (.s 6)],
 .seq (.ops [⟨(some 3), some (.junk), none, false, .pu (.bnew (.s 0))⟩,
   ⟨(some 6), some undefA, none, false, .pu (.mov (.c (.bool false)))⟩])
 (.seq (.seq (.ops [⟨(some 15), some undefA, none, false, .pu (.bget none 3 0 2 true)⟩,
   ⟨(some 16), some undefA, none, false, .call 13 [(.s 15)]⟩,
   ⟨(some 17), some undefA, none, false, .pu (.mov (.s 16))⟩,
   ⟨(some 18), some undefA, (some (17, false)), false, .pu (.mov (.s 1))⟩,
   ⟨(some 19), some undefA, (some (17, false)), false, .pu (.len (.s 18))⟩,
   ⟨(some 20), some undefA, (some (17, false)), false, .pu (.bin .gtr (.s 19) (.c (.int .i64 100)))⟩,
   ⟨(some 21), some undefA, none, false, .pu (.pick (.s 17) (.c (.bool true)) (.s 20))⟩,
   ⟨(some 22), some undefA, none, false, .pu (.mov (.s 21))⟩,
   ⟨(some 23), some undefA, (some (22, false)), false, .pu (.bget none 3 0 2 true)⟩,
   ⟨(some 24), some undefA, (some (22, false)), false, .pu (.mov (.s 1))⟩,
   ⟨(some 25), some undefA, (some (22, false)), false, .call 35 [(.s 23), (.s 24)]⟩,
   ⟨(some 26), some undefA, (some (22, false)), false, .pu (.bin .neq (.s 25) (.c (.int .i64 0)))⟩,
   ⟨(some 27), some undefA, none, false, .pu (.pick (.s 22) (.c (.bool true)) (.s 26))⟩,
   ⟨(some 28), some undefA, none, false, .pu (.mov (.s 27))⟩,
   ⟨(some 29), some undefA, (some (28, false)), false, .pu (.mov (.s 2))⟩,
   ⟨(some 30), some undefA, (some (28, false)), false, .pu (.bin .lss (.s 29) (.c (.int .i64 0)))⟩,
   ⟨(some 31), some undefA, none, false, .pu (.pick (.s 28) (.c (.bool true)) (.s 30))⟩,
   ⟨(some 32), some undefA, none, false, .pu (.mov (.s 31))⟩,
   ⟨(some 33), some undefA, (some (32, false)), false, .pu (.mov (.s 2))⟩,
   ⟨(some 34), some undefA, (some (32, false)), false, .pu (.badr none 3)⟩,
   ⟨(some 35), some undefA, (some (32, false)), false, .pu (.bget (some 34) 3 1 1 false)⟩,
   ⟨(some 36), some undefA, (some (32, false)), false, .pu (.len (.s 35))⟩,
   ⟨(some 37), some undefA, (some (32, false)), false, .pu (.bin .geq (.s 33) (.s 36))⟩,
   ⟨(some 38), some undefA, none, false, .pu (.pick (.s 32) (.c (.bool true)) (.s 37))⟩])
 (.cond (.s 38) (.seq (.ops [⟨(some 39), some undefA, none, false, .call 14 []⟩,
    ⟨(some 6), some undefA, none, false, .pu (.mov (.s 39))⟩])
  (.ret))
 (.skip)))
 (.seq (.ops [⟨(some 40), some undefA, none, false, .call 36 [(.c (.int .i64 0))]⟩,
   ⟨(some 7), some (.junk), none, false, .pu (.bnew (.c (.agg [.int .i64 0, .int .i64 0])))⟩,
   ⟨(some 7), none, none, false, .pu (.bset none 7 0 2 (.s 40))⟩,
   ⟨(some 8), some undefA, none, false, .pu (.mov (.c (.int .i64 0)))⟩])
 (.seq (.seq (.ops [⟨(some 9), some undefA, none, false, .pu (.mov (.c (.int .i64 0)))⟩])
 (.block 0 (.loop (.seq (.seq (.ops [⟨(some 41), some undefA, none, false, .pu (.mov (.s 9))⟩,
     ⟨(some 42), some undefA, none, false, .pu (.badr none 3)⟩,
     ⟨(some 43), some undefA, none, false, .pu (.bget (some 42) 3 0 1 false)⟩,
     ⟨(some 44), some undefA, none, false, .pu (.len (.s 43))⟩,
     ⟨(some 45), some undefA, none, false, .pu (.bin .lss (.s 41) (.s 44))⟩])
   (.cond (.s 45) (.skip)
   (.exit 0)))
   (.seq (.block 1 (.ops [⟨(some 48), some undefA, none, false, .pu (.mov (.s 8))⟩,
      ⟨(some 49), some undefA, none, false, .pu (.badr none 3)⟩,
      ⟨(some 50), some undefA, none, false, .pu (.bget (some 49) 3 0 1 false)⟩,
      ⟨(some 51), some undefA, none, false, .pu (.mov (.s 9))⟩,
      ⟨(some 52), some undefA, none, false, .pu (.idx 1 (.s 50) (.s 51))⟩,
      ⟨(some 53), some undefA, none, false, .ld (.ld 1 false (.s 52))⟩,
      ⟨(some 54), some undefA, none, false, .pu (.bin .add (.s 48) (.s 53))⟩,
      ⟨(some 8), some undefA, none, false, .pu (.mov (.s 54))⟩]))
   (.ops [⟨(some 46), some undefA, none, false, .pu (.mov (.s 9))⟩,
     ⟨(some 47), some undefA, none, false, .pu (.bin .add (.s 46) (.c (.int .i64 1)))⟩,
     ⟨(some 9), some undefA, none, false, .pu (.mov (.s 47))⟩]))))))
 (.seq (.seq (.ops [⟨(some 10), some undefA, none, false, .pu (.mov (.c (.int .i64 0)))⟩])
 (.block 2 (.loop (.seq (.seq (.ops [⟨(some 55), some undefA, none, false, .pu (.mov (.s 10))⟩,
     ⟨(some 56), some undefA, none, false, .pu (.mov (.s 1))⟩,
     ⟨(some 57), some undefA, none, false, .pu (.len (.s 56))⟩,
     ⟨(some 58), some undefA, none, false, .pu (.bin .lss (.s 55) (.s 57))⟩])
   (.cond (.s 58) (.skip)
   (.exit 2)))
   (.seq (.block 3 (.seq (.ops [⟨(some 62), some undefA, none, true, .pu (.bget none 3 0 2 true)⟩,
      ⟨(some 63), some undefA, none, true, .pu (.mov (.s 2))⟩,
      ⟨(some 64), some undefA, none, true, .pu (.mov (.s 1))⟩,
      ⟨(some 65), some undefA, none, true, .pu (.mov (.s 10))⟩,
      ⟨(some 66), some undefA, none, true, .pu (.idx 5 (.s 64) (.s 65))⟩,
      ⟨(some 67), some undefA, none, true, .pu (.fad 1 (.s 66))⟩,
      ⟨(some 68), some undefA, none, true, .ld (.ld 2 true (.s 67))⟩,
      ⟨(some 69), some undefA, none, true, .pu (.mov (.s 1))⟩,
      ⟨(some 70), some undefA, none, true, .pu (.mov (.s 10))⟩,
      ⟨(some 71), some undefA, none, true, .pu (.idx 5 (.s 69) (.s 70))⟩,
      ⟨(some 72), some undefA, none, true, .pu (.fad 3 (.s 71))⟩,
      ⟨(some 73), some undefA, none, true, .ld (.ld 2 true (.s 72))⟩,
      ⟨(some 74), some undefA, none, false, .call 24 [(.s 62), (.s 63), (.s 68), (.s 73)]⟩,
      ⟨(some 61), some undefA, none, false, .pu (.mov (.s 74))⟩,
      ⟨(some 75), some undefA, none, false, .pu (.extr 0 (.s 61))⟩,
      ⟨(some 76), some undefA, none, false, .pu (.extr 1 (.s 61))⟩,
      ⟨(some 11), some (.junk), none, true, .pu (.bnew (.c (.agg [.int .i64 0, .int .i64 0])))⟩,
      ⟨(some 11), none, none, false, .pu (.bset none 11 0 2 (.s 75))⟩,
      ⟨(some 12), some undefA, none, false, .pu (.mov (.s 76))⟩])
    (.seq (.seq (.ops [⟨(some 77), some undefA, none, false, .pu (.mov (.s 12))⟩,
      ⟨(some 78), some undefA, none, false, .pu (.bin .neq (.s 77) (.c (.int .i64 0)))⟩,
      ⟨(some 79), some undefA, none, false, .pu (.mov (.s 78))⟩,
      ⟨(some 80), some undefA, (some (79, false)), false, .pu (.badr none 11)⟩,
      ⟨(some 81), some undefA, (some (79, false)), false, .pu (.bget (some 80) 11 1 1 false)⟩,
      ⟨(some 82), some undefA, (some (79, false)), false, .pu (.bin .lss (.s 81) (.c (.int .i64 1)))⟩,
      ⟨(some 83), some undefA, none, false, .pu (.pick (.s 79) (.c (.bool true)) (.s 82))⟩,
      ⟨(some 84), some undefA, none, false, .pu (.mov (.s 83))⟩,
      ⟨(some 85), some undefA, (some (84, false)), false, .pu (.badr none 7)⟩,
      ⟨(some 86), some undefA, (some (84, false)), false, .pu (.bget (some 85) 7 1 1 false)⟩,
      ⟨(some 87), some undefA, (some (84, false)), false, .pu (.bin .lss (.s 86) (.c (.int .i64 1)))⟩,
      ⟨(some 88), some undefA, none, false, .pu (.pick (.s 84) (.c (.bool true)) (.s 87))⟩,
      ⟨(some 89), some undefA, none, false, .pu (.mov (.s 88))⟩,
      ⟨(some 90), some undefA, (some (89, false)), false, .pu (.bget none 11 0 2 true)⟩,
      ⟨(some 91), some undefA, (some (89, false)), false, .pu (.bget none 7 0 2 true)⟩,
      ⟨(some 92), some undefA, (some (89, false)), false, .ha (.blds 2 2 [.int .i64 0, .int .i64 0] [(0, 2, (.s 90)), (2, 2, (.s 91))])⟩,
      ⟨(some 93), some undefA, (some (89, false)), false, .call 18 [(.s 92)]⟩,
      ⟨(some 94), some undefA, (some (89, false)), false, .pu (.not (.s 93))⟩,
      ⟨(some 95), some undefA, none, false, .pu (.pick (.s 89) (.c (.bool true)) (.s 94))⟩,
      ⟨(some 96), some undefA, none, false, .pu (.mov (.s 95))⟩,
      ⟨(some 97), some undefA, (some (96, false)), false, .pu (.badr none 11)⟩,
      ⟨(some 98), some undefA, (some (96, false)), false, .pu (.bget (some 97) 11 0 1 false)⟩,
      ⟨(some 99), some undefA, (some (96, false)), false, .pu (.bin .lss (.s 98) (.c (.int .i64 0)))⟩,
      ⟨(some 100), some undefA, none, false, .pu (.pick (.s 96) (.c (.bool true)) (.s 99))⟩])
    (.cond (.s 100) (.seq (.ops [⟨(some 6), some undefA, none, false, .pu (.mov (.c (.bool false)))⟩])
     (.ret))
    (.skip)))
    (.ops [⟨(some 101), some undefA, none, false, .pu (.bget none 7 0 2 true)⟩,
      ⟨(some 102), some undefA, none, false, .pu (.bget none 11 0 2 true)⟩,
      ⟨(some 103), some undefA, none, false, .call 37 [(.s 101), (.s 102)]⟩,
      ⟨(some 7), none, none, false, .pu (.bset none 7 0 2 (.s 103))⟩]))))
   (.ops [⟨(some 59), some undefA, none, false, .pu (.mov (.s 10))⟩,
     ⟨(some 60), some undefA, none, false, .pu (.bin .add (.s 59) (.c (.int .i64 1)))⟩,
     ⟨(some 10), some undefA, none, false, .pu (.mov (.s 60))⟩]))))))
 (.seq (.ops [⟨(some 105), some undefA, none, false, .pu (.bget none 3 0 2 true)⟩,
   ⟨(some 106), some undefA, none, false, .pu (.mov (.s 2))⟩,
   ⟨(some 107), some undefA, none, false, .call 36 [(.c (.int .i64 0))]⟩,
   ⟨(some 108), some undefA, none, false, .pu (.mov (.s 8))⟩,
   ⟨(some 109), some undefA, none, false, .call 36 [(.s 108)]⟩,
   ⟨(some 110), some undefA, none, false, .call 24 [(.s 105), (.s 106), (.s 107), (.s 109)]⟩,
   ⟨(some 104), some undefA, none, false, .pu (.mov (.s 110))⟩,
   ⟨(some 111), some undefA, none, false, .pu (.extr 0 (.s 104))⟩,
   ⟨(some 112), some undefA, none, false, .pu (.extr 1 (.s 104))⟩,
   ⟨(some 13), some (.junk), none, false, .pu (.bnew (.c (.agg [.int .i64 0, .int .i64 0])))⟩,
   ⟨(some 13), none, none, false, .pu (.bset none 13 0 2 (.s 111))⟩,
   ⟨(some 14), some undefA, none, false, .pu (.mov (.s 112))⟩])
 (.seq (.ops [⟨(some 113), some undefA, none, false, .pu (.mov (.s 14))⟩,
   ⟨(some 114), some undefA, none, false, .pu (.bin .eql (.s 113) (.c (.int .i64 0)))⟩,
   ⟨(some 115), some undefA, none, false, .pu (.mov (.s 114))⟩,
   ⟨(some 116), some undefA, (some (115, true)), false, .pu (.bget none 7 0 2 true)⟩,
   ⟨(some 117), some undefA, (some (115, true)), false, .pu (.bget none 13 0 2 true)⟩,
   ⟨(some 118), some undefA, (some (115, true)), false, .pu (.eqs false [true, true] (.s 116) (.s 117))⟩,
   ⟨(some 119), some undefA, none, false, .pu (.pick (.s 115) (.s 118) (.c (.bool false)))⟩,
   ⟨(some 120), some undefA, none, false, .pu (.mov (.s 119))⟩,
   ⟨(some 121), some undefA, (some (120, true)), false, .call 14 []⟩,
   ⟨(some 122), some undefA, none, false, .pu (.pick (.s 120) (.s 121) (.c (.bool false)))⟩,
   ⟨(some 6), some undefA, none, false, .pu (.mov (.s 122))⟩])
 (.ret)))))))⟩
theorem t8 : trF Try.prog [3, 7, 11, 13] [] Try.f8 = some m8 := by kernel_rfl
end Go.Proofs.Ytmblehbjedpjoaa

namespace Go.Proofs.Ytmblehbjedpjoaa
open Go Go.Eng
section
variable {L : List Int} {ws : List (AV × List Int)} {x y : AV} {A : AHeap}
def longK (L : List Int) (ws : List (AV × List Int)) : Prop := ((100 : Int) < L.length ∨ (100 : Int) < ws.length) ∨ ∃ w ∈ ws, (100 : Int) < w.2.length
instance (L : List Int) (ws : List (AV × List Int)) : Decidable (longK L ws) := by unfold longK; exact inferInstance
theorem Sz_of (h : ¬ longK L ws) : Sz L ws := by
  refine ⟨?_, ?_, fun w hw => ?_⟩
  · have : ¬ (100 : Int) < L.length := fun h1 => h (.inl (.inl h1))
    omega
  · have : ¬ (100 : Int) < ws.length := fun h1 => h (.inl (.inr h1))
    omega
  · have : ¬ (100 : Int) < w.2.length := fun h1 => h (.inr ⟨w, hw, h1⟩)
    omega
theorem c_Long (hL : L1 A x L) (hV : LL A y ws) (hl : ws.length ≤ 9223372036854775807) : ACalls Try.prog 13 [.agg [x, y]] A (B (decide (longK L ws))) A := by
  refine acalls hmix Try.func13 (by kernel_rfl) t13 1 rfl (by decide) ?_
  by_cases h1 : (100 : Int) < L.length
  · dsimp only [m13]
    simp (maxSteps := 4000000) -implicitDefEqProofs -dsimp (disch := omega) only [↓AW_ops, ↓AW_seq, ↓AW_cond, ↓AW_ret, ↓AOps_nil, ↓AOps_pu, ↓AOps_guard, on_some, guardB_tf, skipS_some, condB_t, ↓then_normal, ↓then_ret, ↓Fin_ret, pval, rd_S, rd_C, put_S, resV, resL, chkd, isAdr, bgot, AV.cells?, partA, eq_self, List.replicate_succ, List.replicate_zero, List.set_cons_zero, List.set_cons_succ, List.getElem?_cons_zero, List.getElem?_cons_succ, List.drop_zero, List.take_zero, List.take_succ_cons, Option.getD_some, List.length_cons, List.length_nil, Nat.reduceAdd, Nat.reduceSub, Nat.reduceLeDiff, Nat.zero_add, List.cons_append, List.nil_append, bin_gtr, if_true, if_false, Bool.false_eq_true, decide_true, hL.len, h1]
    exact gc_same (by rw [decide_eq_true (show longK L ws from .inl (.inl h1))])
  by_cases h2 : (100 : Int) < ws.length
  · dsimp only [m13]
    simp (maxSteps := 4000000) -implicitDefEqProofs -dsimp (disch := omega) only [↓AW_ops, ↓AW_seq, ↓AW_cond, ↓AW_ret, ↓AOps_nil, ↓AOps_pu, ↓AOps_guard, on_some, guardB_ff, condB_t, ↓then_normal, ↓then_ret, ↓Fin_ret, pval, rd_S, rd_C, put_S, resV, resL, chkd, isAdr, bgot, AV.cells?, partA, eq_self, List.replicate_succ, List.replicate_zero, List.set_cons_zero, List.set_cons_succ, List.getElem?_cons_zero, List.getElem?_cons_succ, List.drop_zero, List.drop_succ_cons, List.take_zero, List.take_succ_cons, List.take_nil, Option.getD_some, List.length_cons, List.length_nil, Nat.reduceAdd, Nat.reduceSub, Nat.reduceLeDiff, Nat.zero_add, List.cons_append, List.nil_append, bin_gtr, if_true, if_false, Bool.false_eq_true, decide_true, decide_false, hL.len, h1, hV.ls.len, h2]
    exact gc_same (by rw [decide_eq_true (show longK L ws from .inl (.inr h2))])
  dsimp only [m13]
  simp (maxSteps := 4000000) -implicitDefEqProofs -dsimp (disch := omega) only [↓AW_skip, ↓AW_ops, ↓AW_seq, ↓AW_cond, ↓AW_block, ↓AOps_nil, ↓AOps_pu, ↓AOps_guard, on_some, guardB_ff, condB_f, ↓then_normal, pval, rd_S, rd_C, put_S, ↓AW_toLoop, chkd, isAdr, bgot, AV.cells?, partA, eq_self, List.replicate_succ, List.replicate_zero, List.set_cons_zero, List.set_cons_succ, List.getElem?_cons_zero, List.getElem?_cons_succ, List.drop_zero, List.drop_succ_cons, List.take_zero, List.take_succ_cons, List.take_nil, Option.getD_some, List.length_cons, List.length_nil, Nat.reduceAdd, Nat.reduceSub, Nat.reduceLeDiff, Nat.zero_add, List.cons_append, List.nil_append, bin_gtr, if_true, if_false, Bool.false_eq_true, decide_false, hL.len, h1, hV.ls.len, h2]
  refine LoopK.by 28 (fun i : Nat => i ≤ ws.length ∧ ∀ w ∈ ws.take i, ¬ (100 : Int) < w.2.length) (fun i => [(1, .agg [x, y]), (3, I i)]) (fun _ => A) (fun i => ws.length - i) 0 ⟨by omega, by simp⟩ rfl (by simp [Has, rd_s]) rfl ?_
  rintro i ⟨hi, he⟩
  by_cases hlt : i < ws.length
  · obtain ⟨w, hz⟩ : ∃ z, ws[i]? = some z := ⟨_, List.getElem?_eq_getElem hlt⟩
    have hlt' : (i : Int) < ws.length := by omega
    have hm := List.mem_of_getElem? hz
    by_cases h : (100 : Int) < w.2.length
    · simp (maxSteps := 4000000) -implicitDefEqProofs -dsimp (disch := omega) only [↓AW_skip, ↓AW_ops, ↓AW_seq, ↓AW_cond, ↓AW_block, ↓AW_ret, ↓AOps_nil, ↓AOps_pu, ↓AOps_ld, on_some, condB_t, ↓then_normal, ↓then_ret, ↓inBlock_ret, ↓Fin_ret, pval, lval, rd_S, rd_C, put_S, resV, resL, chkd, isAdr, bgot, AV.cells?, partA, eq_self, mk, List.foldl_cons, List.foldl_nil, List.replicate_succ, List.replicate_zero, List.set_cons_zero, List.set_cons_succ, List.getElem?_cons_zero, List.getElem?_cons_succ, List.drop_zero, List.drop_succ_cons, List.take_succ_cons, List.take_nil, Option.getD_some, List.length_cons, List.length_nil, Nat.reduceAdd, Nat.reduceLeDiff, Nat.zero_add, bin_lss, bin_gtr, if_true, if_false, Bool.false_eq_true, decide_true, hlt', hV.ls.len, hV.ls.idx hlt, hV.ls.ld0 hz 1 false (by decide), e0, (hV.inn w hm).len, h]
      exact gc_same (by rw [decide_eq_true (show longK L ws from .inr ⟨w, hm, h⟩)])
    · simp (maxSteps := 4000000) -implicitDefEqProofs -dsimp (disch := omega) only [↓AW_skip, ↓AW_ops, ↓AW_seq, ↓AW_cond, ↓AW_block, ↓AOps_nil, ↓AOps_pu, ↓AOps_ld, on_some, condB_t, condB_f, ↓then_normal, ↓inBlock_normal, pval, lval, rd_S, rd_C, put_S, chkd, isAdr, bgot, AV.cells?, partA, eq_self, mk, List.foldl_cons, List.foldl_nil, List.replicate_succ, List.replicate_zero, List.set_cons_zero, List.set_cons_succ, List.getElem?_cons_zero, List.getElem?_cons_succ, List.drop_zero, List.drop_succ_cons, List.take_succ_cons, List.take_nil, Option.getD_some, List.length_cons, List.length_nil, Nat.reduceAdd, Nat.reduceLeDiff, Nat.zero_add, bin_add, bin_lss, bin_gtr, w64, if_true, if_false, Bool.false_eq_true, decide_true, decide_false, true_and, hlt', hV.ls.len, hV.ls.idx hlt, hV.ls.ld0 hz 1 false (by decide), e0, (hV.inn w hm).len, h]
      refine ⟨i + 1, ⟨hlt, fun u hu => ?_⟩, by simp [Has, rd_s], by omega⟩
      rcases (take_mem hz).1 hu with hu | rfl
      · exact he u hu
      · exact h
  · have hlt' : ¬ ((i : Int) < ws.length) := by omega
    simp (maxSteps := 4000000) -implicitDefEqProofs -dsimp (disch := omega) only [↓AW_ops, ↓AW_seq, ↓AW_cond, ↓AW_exit, ↓AW_ret, ↓AOps_nil, ↓AOps_pu, on_some, condB_f, ↓then_normal, ↓then_exit, ↓inBlock_exit, ↓Fin_ret, pval, rd_S, rd_C, put_S, resV, resL, chkd, isAdr, bgot, AV.cells?, partA, eq_self, mk, List.foldl_cons, List.foldl_nil, List.replicate_succ, List.replicate_zero, List.set_cons_zero, List.set_cons_succ, List.getElem?_cons_zero, List.getElem?_cons_succ, List.drop_zero, List.drop_succ_cons, List.take_succ_cons, List.take_nil, Option.getD_some, List.length_cons, List.length_nil, Nat.reduceAdd, Nat.reduceLeDiff, Nat.zero_add, bin_lss, if_true, if_false, Bool.false_eq_true, decide_false, hlt', hV.ls.len]
    rw [List.take_of_length_le (by omega)] at he
    refine gc_same ?_
    rw [decide_eq_false]
    rintro ((h | h) | ⟨w, hw, h⟩)
    · exact h1 h
    · exact h2 h
    · exact he w hw h
end
end Go.Proofs.Ytmblehbjedpjoaa

namespace Go.Proofs.Ytmblehbjedpjoaa
open Go Go.Eng
/-- A part of a field's worth. -/
def pw (f : List (Int × Int)) (n m : Int) : Rat := ((tot f * n : Int) : Rat) / (m : Rat)
section
variable {L : List Int} {ws : List (AV × List Int)} {x y : AV} {A : AHeap}
/-- What halves are. -/
def hP (f : List (Int × Int)) : Option Rat := plc f ((0 : Int) : Rat) (pw f 1 2)
end
end Go.Proofs.Ytmblehbjedpjoaa

namespace Go.Proofs.Ytmblehbjedpjoaa
open Go Go.Eng
theorem pair_beq {z w : Int × Int} (h : z ≠ w) : (z.1 == w.1 && z.2 == w.2) = false := by
  cases hb : (z.1 == w.1 && z.2 == w.2) with
  | false => rfl
  | true => simp at hb; exact absurd (Prod.ext hb.1 hb.2) h
end Go.Proofs.Ytmblehbjedpjoaa

namespace Go.Proofs.Ytmblehbjedpjoaa
open Go Go.Eng
/-- The parts of a fraction. -/
def rp (q : Rat) : Int × Int := (q.num, q.den)
section
variable {L : List Int} {ws : List (AV × List Int)} {x y : AV} {A : AHeap}
def fairK (r : Int × Int) : Prop := (1 ≤ r.2 ∧ r.2 ≤ 4294967296) ∧ (-35184372088832 ≤ r.1 ∧ r.1 ≤ 35184372088832)
theorem c_fair {xs : List (Int × Int)} {v : AV} {A : AHeap} (hx : L2 A v xs) (hl : xs.length ≤ 1000000) (hf : ∀ r ∈ xs, fairK r) : ACalls Try.prog 18 [v] A (B true) A := by
  refine acalls hmix Try.func18 (by kernel_rfl) t18 1 rfl (by decide) ?_
  dsimp only [m18]
  simp (maxSteps := 4000000) -implicitDefEqProofs -dsimp (disch := omega) only [↓AW_ops, ↓AW_seq, ↓AW_block, ↓AOps_nil, ↓AOps_pu, on_some, ↓then_normal, pval, rd_C, put_S, ↓AW_toLoop, List.replicate_succ, List.replicate_zero, List.set_cons_zero, List.set_cons_succ, Nat.reduceSub, List.cons_append, List.nil_append]
  refine LoopK.by 40 (fun i : Nat => i ≤ xs.length) (fun i => [(0, v), (3, I i)]) (fun _ => A) (fun i => xs.length - i) 0 (by omega) rfl (by simp [Has, rd_s]) rfl ?_
  intro i hi
  by_cases hlt : i < xs.length
  · obtain ⟨z, hz⟩ : ∃ z, xs[i]? = some z := ⟨_, List.getElem?_eq_getElem hlt⟩
    have hlt' : (i : Int) < xs.length := by omega
    have hz2 := hf z (List.mem_of_getElem? hz)
    have h1 : ¬ z.2 < 1 := by have := hz2.1.1; omega
    have h2 : ¬ 4294967296 < z.2 := by have := hz2.1.2; omega
    have h3 : ¬ 35184372088832 < z.1 := by have := hz2.2.2; omega
    have h4 : ¬ z.1 < -35184372088832 := by have := hz2.2.1; omega
    simp (maxSteps := 4000000) -implicitDefEqProofs -dsimp (disch := omega) only [↓AW_skip, ↓AW_ops, ↓AW_seq, ↓AW_cond, ↓AW_block, ↓AOps_nil, ↓AOps_pu, ↓AOps_ld, ↓AOps_guard, on_some, guardB_ff, condB_t, condB_f, ↓then_normal, ↓inBlock_normal, pval, lval, rd_S, rd_C, put_S, partA, eq_self, mk, List.foldl_cons, List.foldl_nil, List.replicate_succ, List.replicate_zero, List.set_cons_zero, List.set_cons_succ, List.getElem?_cons_zero, List.getElem?_cons_succ, List.drop_zero, List.drop_succ_cons, List.take_zero, List.take_succ_cons, List.take_nil, Option.getD_some, List.length_cons, List.length_nil, Nat.reduceAdd, Nat.reduceLeDiff, Nat.zero_add, Nat.add_zero, bin_add, bin_lss, bin_gtr, w64, if_true, if_false, Bool.false_eq_true, decide_true, decide_false, Go.Eng.e2, true_and, Int.reduceNeg, hlt', hx.len, hx.idx hlt, hx.ld hz 1 1 false (by decide), hx.ld0 hz 1 false (by decide), e2, h1, h2, h3, h4]
    exact ⟨i + 1, hlt, by simp [Has, rd_s], by omega⟩
  · have hlt' : ¬ ((i : Int) < xs.length) := by omega
    simp (maxSteps := 4000000) -implicitDefEqProofs -dsimp (disch := omega) only [↓AW_ops, ↓AW_seq, ↓AW_cond, ↓AW_exit, ↓AW_ret, ↓AOps_nil, ↓AOps_pu, on_some, condB_f, ↓then_normal, ↓then_exit, ↓inBlock_exit, ↓Fin_ret, pval, rd_S, rd_C, put_S, resV, resL, eq_self, mk, List.foldl_cons, List.foldl_nil, List.replicate_succ, List.replicate_zero, List.set_cons_zero, List.set_cons_succ, List.getElem?_cons_zero, List.getElem?_cons_succ, Option.getD_some, bin_lss, if_true, decide_false, hlt', hx.len]
    exact gc_same rfl
end
end Go.Proofs.Ytmblehbjedpjoaa

namespace Go.Proofs.Ytmblehbjedpjoaa
open Go Go.Eng
/-- A piece: an owner and two places. -/
structure Pc where
  o : Int
  r : Int × Int
  s : Int × Int
  deriving DecidableEq
def e5 (p : Pc) : List AV := [I p.o, I p.r.1, I p.r.2, I p.s.1, I p.s.2]
abbrev L5 := Ls 5 e5
theorem e5_len (p : Pc) : (e5 p).length = 5 := rfl
def eb (b : Bool) : List AV := [.bool b]
theorem eb_len (b : Bool) : (eb b).length = 1 := rfl
theorem repl_eb (b : Bool) : ∀ n, repl [AV.bool b] n = (List.replicate n b).flatMap eb
  | 0 => rfl
  | n + 1 => by rw [repl, repl_eb b n, List.replicate_succ, List.flatMap_cons]; rfl
/-- Where a piece must begin. -/
def atI (pcs : List Pc) (i : Nat) : Int × Int := match (pcs.take i).getLast? with | some p => p.s | none => (0, 1)
theorem atI_zero (pcs : List Pc) : atI pcs 0 = (0, 1) := rfl
theorem atI_succ {pcs : List Pc} {i : Nat} {p : Pc} (h : pcs[i]? = some p) : atI pcs (i + 1) = p.s := by
  unfold atI
  rw [List.take_add_one, h, Option.toList_some, List.getLast?_concat]
def CPi (L : List Int) (V : List (List Int)) (pcs : List Pc) (i : Nat) (p : Pc) : Prop :=
  (0 ≤ p.o ∧ p.o ≤ (V.length : Int) - 1) ∧ p.o ∉ (pcs.take i).map Pc.o ∧ isK L p.r ∧ isK L p.s ∧ p.r = atI pcs i ∧ ¬ qr p.s < qr p.r
instance (L : List Int) (V : List (List Int)) (pcs : List Pc) (i : Nat) (p : Pc) : Decidable (CPi L V pcs i p) := by unfold CPi; exact inferInstance
/-- The common denominator, step by step; one more than the greatest if it is too great. -/
def cmn : Int → List Int → Int
  | out, [] => out
  | out, d :: ds => if 1000000 < out / (Int.gcd out d : Int) * d then 1000001 else cmn (out / (Int.gcd out d : Int) * d) ds
def plcs (pcs : List Pc) : List (Int × Int) := pcs.flatMap fun p => [p.r, p.s]
def CP (L : List Int) (V : List (List Int)) (pcs : List Pc) : Prop :=
  pcs.length = V.length ∧ (∀ i, (h : i < pcs.length) → CPi L V pcs i pcs[i]) ∧ atI pcs pcs.length = (L.sum, 1) ∧ cmn 1 ((plcs pcs).map Prod.snd) ≤ 1000000
instance (L : List Int) (V : List (List Int)) (pcs : List Pc) : Decidable (CP L V pcs) := by unfold CP; exact inferInstance
def cpE (L : List Int) (V : List (List Int)) (pcs : List Pc) : Int := if kE L V = 0 then (if CP L V pcs then 0 else 1) else kE L V
theorem gcd_div {out d : Int} (h0 : 0 < out) (hd : 0 < d) : out.tdiv (Int.gcd out d) = out / (Int.gcd out d : Int) ∧ 0 < out / (Int.gcd out d : Int) ∧ out / (Int.gcd out d : Int) ≤ out := by
  obtain ⟨g1, g2⟩ := gcd_pos (a := out) hd
  obtain ⟨x, hx⟩ := Int.gcd_dvd_left out d
  generalize (Int.gcd out d : Nat) = g at *
  have hg : (0 : Int) < g := by omega
  refine ⟨Int.tdiv_eq_ediv_of_nonneg (by omega), ?_, ?_⟩
  · rw [hx, Int.mul_ediv_cancel_left _ (by omega)]
    rcases Int.lt_or_le 0 x with h | h
    · exact h
    · have := Int.mul_nonpos_of_nonneg_of_nonpos (Int.le_of_lt hg) h; omega
  · exact Int.ediv_le_self _ (by omega)
theorem c_Common {rs : List (Int × Int)} {v : AV} {A : AHeap} (hr : L2 A v rs) (hl : rs.length ≤ 1000000) (hd : ∀ r ∈ rs, 1 ≤ r.2 ∧ r.2 ≤ 1000000) : ACalls Try.prog 90 [v, I 1000000] A (I (cmn 1 (rs.map Prod.snd))) A := by
  refine acalls hmix Try.func90 (by kernel_rfl) t90 2 rfl (by decide) ?_
  dsimp only [m90]
  simp (maxSteps := 4000000) -implicitDefEqProofs -dsimp (disch := omega) only [↓AW_ops, ↓AW_seq, ↓AW_block, ↓AOps_nil, ↓AOps_pu, on_some, ↓then_normal, pval, rd_S, rd_C, put_S, ↓AW_toLoop, List.replicate_succ, List.replicate_zero, List.set_cons_zero, List.set_cons_succ, List.getElem?_cons_zero, List.getElem?_cons_succ, Option.getD_some, Nat.reduceSub, List.cons_append, List.nil_append, hr.len]
  refine LoopK.by 30 (fun x : Nat × Int => x.1 ≤ rs.length ∧ (1 ≤ x.2 ∧ x.2 ≤ 1000000) ∧ cmn 1 (rs.map Prod.snd) = cmn x.2 ((rs.drop x.1).map Prod.snd)) (fun x => [(1, I 1000000), (5, I x.2), (8, v), (9, I rs.length), (10, I x.1)]) (fun _ => A) (fun x => rs.length - x.1) (0, 1) ⟨by omega, by omega, by simp⟩ rfl (by simp [Has, rd_s]) rfl ?_
  rintro ⟨i, out⟩ ⟨hi, ho, he⟩
  simp only at hi ho he
  by_cases hlt : i < rs.length
  · obtain ⟨z, hz⟩ : ∃ z, rs[i]? = some z := ⟨_, List.getElem?_eq_getElem hlt⟩
    have hlt' : (i : Int) < rs.length := by omega
    have hz2 := hd z (List.mem_of_getElem? hz)
    have hdr : rs.drop i = z :: rs.drop (i + 1) := by
      have := (List.getElem?_eq_some_iff.1 hz).2
      rw [← this]; exact List.drop_eq_getElem_cons hlt
    rw [hdr, List.map_cons, cmn] at he
    obtain ⟨q1, q2, q3⟩ := gcd_div (out := out) (d := z.2) (by omega) (by omega)
    have hg0 : ¬ (Int.gcd out z.2 : Int) = 0 := by have := gcd_pos (a := out) (b := z.2) (by omega); omega
    simp (maxSteps := 4000000) -implicitDefEqProofs -dsimp (disch := omega) only [↓AW_skip, ↓AW_ops, ↓AW_seq, ↓AW_cond, ↓AW_block, ↓AOps_nil, ↓AOps_pu, ↓AOps_ld, ↓AOps_call, on_some, condB_t, ↓then_normal, pval, lval, rd_S, rd_C, put_S, chkd, isAdr, bput, bgot, AV.cells?, splice, partA, eq_self, mk, List.foldl_cons, List.foldl_nil, List.replicate_succ, List.replicate_zero, List.set_cons_zero, List.set_cons_succ, List.getElem?_cons_zero, List.getElem?_cons_succ, List.drop_zero, List.drop_succ_cons, List.drop_nil, List.take_zero, List.take_succ_cons, List.take_nil, Option.getD_some, map_c, map_n, List.length_cons, List.length_nil, Nat.reduceAdd, Nat.reduceLeDiff, Nat.reduceEqDiff, Nat.zero_add, List.nil_append, List.append_nil, bin_lss, if_true, if_false, Bool.false_eq_true, decide_true, Go.Eng.e2, ne_eq, not_true_eq_false, hlt', hr.idx hlt, hr.ld0 hz 2 true (by decide), e2]
    refine CallK.of (s111 _ ⟨by omega, by omega⟩ (by omega) (by omega)) ?_
    have hm := Int.mul_le_mul (Int.le_trans q3 ho.2) hz2.2 (by omega) (by omega : (0 : Int) ≤ 1000000)
    have hm0 : 0 < out / (Int.gcd out z.2 : Int) * z.2 := Int.mul_pos q2 (by omega)
    by_cases h1 : 1000000 < out / (Int.gcd out z.2 : Int) * z.2
    · simp (maxSteps := 4000000) -implicitDefEqProofs -dsimp (disch := omega) only [↓AW_ops, ↓AW_seq, ↓AW_cond, ↓AW_ret, ↓AOps_nil, ↓AOps_pu, on_some, extK_same, condB_t, ↓then_normal, ↓then_ret, ↓inBlock_ret, ↓Fin_ret, pval, rd_S, rd_C, put_S, resV, resL, chkd, isAdr, bgot, AV.cells?, partA, eq_self, mk, List.foldl_cons, List.foldl_nil, List.replicate_succ, List.replicate_zero, List.set_cons_zero, List.set_cons_succ, List.getElem?_cons_zero, List.getElem?_cons_succ, List.drop_zero, List.drop_succ_cons, List.take_succ_cons, List.take_nil, Option.getD_some, List.length_cons, List.length_nil, Nat.reduceAdd, Nat.reduceLeDiff, Nat.zero_add, bin_add, bin_mul, bin_quo, bin_gtr, w64, if_true, if_false, Bool.false_eq_true, decide_true, Int.reduceAdd, hg0, q1, h1]
      rw [if_pos h1] at he
      exact gc_same (by rw [he])
    · simp (maxSteps := 4000000) -implicitDefEqProofs -dsimp (disch := omega) only [↓AW_skip, ↓AW_ops, ↓AW_seq, ↓AW_cond, ↓AOps_nil, ↓AOps_pu, on_some, extK_same, condB_f, ↓then_normal, ↓inBlock_normal, pval, rd_S, rd_C, put_S, chkd, isAdr, bgot, AV.cells?, partA, eq_self, mk, List.foldl_cons, List.foldl_nil, List.replicate_succ, List.replicate_zero, List.set_cons_zero, List.set_cons_succ, List.getElem?_cons_zero, List.getElem?_cons_succ, List.drop_zero, List.drop_succ_cons, List.take_succ_cons, List.take_nil, Option.getD_some, List.length_cons, List.length_nil, Nat.reduceAdd, Nat.reduceLeDiff, Nat.zero_add, bin_add, bin_mul, bin_quo, bin_gtr, w64, if_true, if_false, Bool.false_eq_true, decide_false, true_and, hg0, q1, h1]
      rw [if_neg h1] at he
      exact ⟨(i + 1, out / (Int.gcd out z.2 : Int) * z.2), ⟨hlt, by simp only; omega, he⟩, by simp [Has, rd_s], by simp only; omega⟩
  · have hlt' : ¬ ((i : Int) < rs.length) := by omega
    simp (maxSteps := 4000000) -implicitDefEqProofs -dsimp (disch := omega) only [↓AW_ops, ↓AW_seq, ↓AW_cond, ↓AW_exit, ↓AW_ret, ↓AOps_nil, ↓AOps_pu, on_some, condB_f, ↓then_normal, ↓then_exit, ↓inBlock_exit, ↓Fin_ret, pval, rd_S, put_S, resV, resL, eq_self, mk, List.foldl_cons, List.foldl_nil, List.replicate_succ, List.replicate_zero, List.set_cons_zero, List.set_cons_succ, List.getElem?_cons_zero, List.getElem?_cons_succ, Option.getD_some, bin_lss, if_true, decide_false, hlt']
    rw [List.drop_of_length_le (by omega)] at he
    exact gc_same (by rw [he]; rfl)
/-- What an older object becomes does not touch what is appended to. -/
theorem AccL_set {α : Type} {es : Nat} {e : α → List AV} {H H1 : AHeap} {v : AV} {xs : List α} (h : AccL es e H H1 v xs) {n : Nat} (hn : n < H.length) (o : AObj) : AccL es e (H.set n o) (H1.set n o) v xs := by
  obtain ⟨⟨t, rfl⟩, h2, h3⟩ := h
  refine ⟨⟨t, by rw [List.set_append_left _ _ hn]⟩, h2, ?_⟩
  rcases h3 with h3 | ⟨h0, m, h4, h5, h6⟩
  · exact .inl h3
  · refine .inr ⟨h0, m, h4, by simpa using h5, ?_⟩
    rw [List.getElem?_set_ne (by omega)]
    exact h6
theorem L2_two (A : AHeap) (r s : Int × Int) : L2 (A ++ [.cells true [I r.1, I r.2, I s.1, I s.2]]) (.sl 2 A.length 0 2 true) [r, s] := ⟨e2_len, by simp [slCells, cellsAt, e2]⟩
section
variable {L : List Int} {ws : List (AV × List Int)} {x y : AV} {A : AHeap}
theorem CP_not {V : List (List Int)} {pcs : List Pc} {i : Nat} {p : Pc} (hp : pcs[i]? = some p) (h : ¬ CPi L V pcs i p) : ¬ CP L V pcs := by
  intro hc
  obtain ⟨hi, he⟩ := List.getElem?_eq_some_iff.1 hp
  exact h (he ▸ hc.2.1 i hi)
set_option maxRecDepth 20000 in
set_option maxHeartbeats 4000000 in
theorem s35 (hL : L1 A x L) (hV : LL A y ws) (hs : Sz L ws) {pcs : List Pc} {v : AV} (hP : L5 A v pcs) (hl : pcs.length ≤ 1000000) (hW : ∀ p ∈ pcs, W p.r.1 ∧ W p.s.1) : ACalls Try.prog 35 [.agg [x, y], v] A (I (cpE L (lists ws) pcs)) A := by
  refine acalls hmix Try.func35 (by kernel_rfl) t35 2 rfl (by decide) ?_
  dsimp only [m35]
  simp (maxSteps := 4000000) -implicitDefEqProofs -dsimp (disch := omega) only [↓AW_ops, ↓AW_seq, ↓AOps_nil, ↓AOps_pu, ↓AOps_call, on_some, ↓then_normal, pval, rd_S, rd_C, put_S, chkd, bgot, AV.cells?, partA, eq_self, List.replicate_succ, List.replicate_zero, List.set_cons_zero, List.set_cons_succ, List.getElem?_cons_zero, List.getElem?_cons_succ, List.drop_zero, List.take_succ_cons, List.take_nil, Option.getD_some, map_c, map_n, List.length_cons, List.length_nil, Nat.reduceAdd, Nat.reduceSub, Nat.reduceLeDiff, Nat.reduceEqDiff, Nat.zero_add, List.cons_append, List.nil_append, if_true, if_false]
  refine CallK.of (s26 hL hV hs.l hs.v hs.w) ?_
  by_cases h0 : kE L (lists ws) = 0
  case neg =>
    simp (maxSteps := 4000000) -implicitDefEqProofs -dsimp (disch := omega) only [↓AW_ops, ↓AW_seq, ↓AW_cond, ↓AW_ret, ↓AOps_nil, ↓AOps_pu, on_some, extK_same, condB_t, ↓then_normal, ↓then_ret, ↓Fin_ret, pval, rd_S, rd_C, put_S, resV, resL, List.replicate_succ, List.replicate_zero, List.set_cons_zero, List.set_cons_succ, List.getElem?_cons_zero, List.getElem?_cons_succ, Option.getD_some, Nat.reduceSub, List.cons_append, List.nil_append, bin_neq, decide_true, not_false_eq_true, h0]
    exact gc_same (by rw [cpE, if_neg h0])
  have hg := KG.of h0
  have hv5 := hg.v5
  have hv1 := hg.v1
  have hll : (lists ws).length = ws.length := by simp
  have bad : ¬ CP L (lists ws) pcs → cpE L (lists ws) pcs = 1 := fun h => by rw [cpE, if_pos h0, if_neg h]
  by_cases hn : (pcs.length : Int) = ws.length
  case neg =>
    simp (maxSteps := 4000000) -implicitDefEqProofs -dsimp (disch := omega) only [↓AW_skip, ↓AW_ops, ↓AW_seq, ↓AW_cond, ↓AW_ret, ↓AOps_nil, ↓AOps_pu, on_some, extK_same, condB_t, condB_f, ↓then_normal, ↓then_ret, ↓Fin_ret, pval, rd_S, rd_C, put_S, resV, resL, chkd, isAdr, bgot, AV.cells?, partA, eq_self, List.replicate_succ, List.replicate_zero, List.set_cons_zero, List.set_cons_succ, List.getElem?_cons_zero, List.getElem?_cons_succ, List.drop_zero, List.drop_succ_cons, List.take_succ_cons, List.take_nil, Option.getD_some, List.length_cons, List.length_nil, Nat.reduceAdd, Nat.reduceSub, Nat.reduceLeDiff, Nat.zero_add, List.cons_append, List.nil_append, bin_neq, if_true, if_false, Bool.false_eq_true, decide_true, decide_false, not_true_eq_false, not_false_eq_true, h0, hP.len, hV.ls.len, hn]
    exact gc_same (by rw [bad (fun hc => hn (by have := hc.1; omega))])
  have hmk : (0 : Int) ≤ ws.length ∧ (ws.length : Int) ≤ ((lim : Nat) : Int) := by unfold lim; omega
  have hmk1 : ((ws.length : Int) ≤ ws.length) := Int.le_refl _
  simp (maxSteps := 4000000) -implicitDefEqProofs -dsimp (disch := omega) only [↓AW_skip, ↓AW_ops, ↓AW_seq, ↓AW_cond, ↓AOps_nil, ↓AOps_pu, ↓AOps_ha, ↓AOps_call, on_some, extK_app, extK_same, condB_f, ↓then_normal, pval, hval_mks, rd_S, rd_C, put_S, chkd, isAdr, bgot, cells_agg, partA, beq_self_eq_true, eq_self, List.replicate_succ, List.replicate_zero, List.set_cons_zero, List.set_cons_succ, List.getElem?_cons_zero, List.getElem?_cons_succ, List.drop_zero, List.drop_succ_cons, List.take_succ_cons, List.take_nil, Option.getD_some, map_c, map_n, List.length_cons, List.length_nil, Nat.reduceAdd, Nat.reduceSub, Nat.reduceLeDiff, Nat.zero_add, List.cons_append, List.nil_append, bin_neq, if_true, if_false, Bool.false_eq_true, decide_false, and_true, not_true_eq_false, h0, hP.len, hV.ls.len, hn, hmk, hmk1, Int.toNat_natCast]
  refine CallK.of (s76 _ _) ?_
  simp (maxSteps := 4000000) -implicitDefEqProofs -dsimp (disch := omega) only [↓AW_ops, ↓AW_seq, ↓AW_block, ↓AOps_nil, ↓AOps_pu, on_some, extK_same, ↓then_normal, pval, rd_S, rd_C, put_S, ↓AW_toLoop, chkd, bput, cells_agg, splice, eq_self, List.replicate_succ, List.replicate_zero, List.set_cons_zero, List.set_cons_succ, List.getElem?_cons_zero, List.getElem?_cons_succ, List.drop_succ_cons, List.drop_nil, List.take_zero, Option.getD_some, List.length_cons, List.length_nil, Nat.reduceAdd, Nat.reduceSub, Nat.reduceLeDiff, Nat.zero_add, List.cons_append, List.nil_append, List.append_nil, if_true, if_false, ne_eq, not_true_eq_false, R_int, hP.len, hn]
  rw [repl_eb]
  -- who has a piece
  have hblz : (List.range ws.length).map (fun (o : Nat) => decide ((o : Int) ∈ ((pcs.take 0).map Pc.o))) = List.replicate ws.length false := by
    apply List.ext_getElem
    · simp
    · intro i h1 h2; simp
  rw [← hblz]
  refine LoopK.by 100 (fun z : Nat × AV × AHeap => z.1 ≤ pcs.length ∧ (∀ j, (h : j < pcs.length) → j < z.1 → CPi L (lists ws) pcs j pcs[j]) ∧
      AccL 2 e2 (A ++ [.cells true (((List.range ws.length).map (fun (o : Nat) => decide ((o : Int) ∈ ((pcs.take z.1).map Pc.o)))).flatMap eb)]) z.2.2 z.2.1 (plcs (pcs.take z.1)))
    (fun z => [(2, .agg [x, y]), (6, z.2.1), (7, .sl 1 A.length 0 ws.length true), (8, .agg [I (atI pcs z.1).1, I (atI pcs z.1).2]), (27, v), (28, I ws.length), (29, I z.1)]) (fun z => z.2.2) (fun z => pcs.length - z.1) (0, .nilS, _) ⟨by omega, fun j _ hj => by omega, AccL.nil (List.prefix_refl _)⟩ rfl (by simp [Has, rd_s, atI_zero]) rfl ?_
  rintro ⟨i, u, H⟩ ⟨hi, hc, hu⟩
  simp only at hi hc hu
  have hpre : A <+: H := (pre_app _ _).trans hu.pre
  have hP1 := hP.mono hpre
  have hL1 := hL.mono hpre
  have hV1 := hV.mono hpre
  generalize hbl : (List.range ws.length).map (fun (o : Nat) => decide ((o : Int) ∈ ((pcs.take i).map Pc.o))) = bl at *
  have hbll : bl.length = ws.length := by rw [← hbl]; simp
  have hOL : OL 1 eb A H A.length (.sl 1 A.length 0 ws.length true) bl := ⟨eb_len, hpre, Nat.le_refl _, pre_get hu.pre (by simp), true, by rw [hbll]⟩
  by_cases hlt : i < pcs.length
  · obtain ⟨p, hz⟩ : ∃ z, pcs[i]? = some z := ⟨_, List.getElem?_eq_getElem hlt⟩
    have hlt' : (i : Int) < pcs.length := by omega
    have hlt2 : (i : Int) < ws.length := by omega
    obtain ⟨wr, wsn⟩ := hW p (List.mem_of_getElem? hz)
    have hnot : ∀ hh : ¬ CPi L (lists ws) pcs i p, cpE L (lists ws) pcs = 1 := fun hh => bad (CP_not hz hh)
    by_cases h1 : 0 ≤ p.o ∧ p.o ≤ (ws.length : Int) - 1
    case neg =>
      simp (maxSteps := 4000000) -implicitDefEqProofs -dsimp (disch := omega) only [↓AW_skip, ↓AW_ops, ↓AW_seq, ↓AW_cond, ↓AW_block, ↓AOps_nil, ↓AOps_pu, ↓AOps_ld, ↓AOps_call, on_some, condB_t, ↓then_normal, pval, lval, rd_S, rd_C, put_S, chkd, isAdr, bput, bgot, cells_agg, splice, partA, eq_self, mk, List.foldl_cons, List.foldl_nil, List.replicate_succ, List.replicate_zero, List.set_cons_zero, List.set_cons_succ, List.getElem?_cons_zero, List.getElem?_cons_succ, List.drop_zero, List.drop_succ_cons, List.drop_nil, List.take_zero, List.take_succ_cons, List.take_nil, Option.getD_some, map_c, map_n, List.length_cons, List.length_nil, Nat.reduceAdd, Nat.reduceLeDiff, Nat.reduceEqDiff, Nat.zero_add, List.nil_append, List.append_nil, bin_sub, bin_lss, w64, if_true, if_false, Bool.false_eq_true, decide_true, ne_eq, not_true_eq_false, hlt2, hP1.idx hlt, hP1.ld0 hz 5 true (by decide), e5, hV1.ls.len]
      refine CallK.of (c_kw _ _ _ _) ?_
      simp (maxSteps := 4000000) -implicitDefEqProofs -dsimp (disch := omega) only [↓AW_ops, ↓AW_seq, ↓AW_cond, ↓AW_ret, ↓AOps_nil, ↓AOps_pu, ↓AOps_guard, on_some, extK_same, guardB_tf, skipS_some, condB_t, ↓then_normal, ↓then_ret, ↓inBlock_ret, ↓Fin_ret, pval, rd_S, rd_C, put_S, resV, resL, eq_self, mk, List.foldl_cons, List.foldl_nil, List.replicate_succ, List.replicate_zero, List.set_cons_zero, List.set_cons_succ, List.getElem?_cons_zero, List.getElem?_cons_succ, Option.getD_some, if_true, Bool.not_false, decide_false, h1]
      exact gc_val hpre (by rw [hnot (fun hh => h1 (by have := hh.1; omega))]; rfl)
    have hidx := hOL.ls.idxI (k := .i64) h1.1 (by omega : p.o < bl.length)
    have hol : p.o.toNat < bl.length := by omega
    obtain ⟨b, hb⟩ : ∃ b, bl[p.o.toNat]? = some b := ⟨_, List.getElem?_eq_getElem hol⟩
    have hbd : b = decide (p.o ∈ (pcs.take i).map Pc.o) := by
      rw [← hbl] at hb
      have hr : (List.range ws.length)[p.o.toNat]? = some p.o.toNat := by rw [List.getElem?_range (by omega)]
      rw [List.getElem?_map, hr, Option.map_some] at hb
      have := Option.some.inj hb
      rw [← this, show ((p.o.toNat : Nat) : Int) = p.o by omega]
    have hld := hOL.ls.ld0 hb 1 false (by decide)
    have fin1 : ∀ hh : ¬ CPi L (lists ws) pcs i p, GC A (I 1) H (I (cpE L (lists ws) pcs)) A := fun hh => gc_val hpre (by rw [hnot hh]; rfl)
    by_cases h2 : p.o ∈ (pcs.take i).map Pc.o
    case pos =>
      have hbt : b = true := by rw [hbd]; exact decide_eq_true h2
      subst hbt
      simp (maxSteps := 4000000) -implicitDefEqProofs -dsimp (disch := omega) only [↓AW_skip, ↓AW_ops, ↓AW_seq, ↓AW_cond, ↓AW_block, ↓AOps_nil, ↓AOps_pu, ↓AOps_ld, ↓AOps_call, on_some, condB_t, ↓then_normal, pval, lval, rd_S, rd_C, put_S, chkd, isAdr, bput, bgot, cells_agg, splice, partA, eq_self, mk, List.foldl_cons, List.foldl_nil, List.replicate_succ, List.replicate_zero, List.set_cons_zero, List.set_cons_succ, List.getElem?_cons_zero, List.getElem?_cons_succ, List.drop_zero, List.drop_succ_cons, List.drop_nil, List.take_zero, List.take_succ_cons, List.take_nil, Option.getD_some, map_c, map_n, List.length_cons, List.length_nil, Nat.reduceAdd, Nat.reduceLeDiff, Nat.reduceEqDiff, Nat.zero_add, List.nil_append, List.append_nil, bin_sub, bin_lss, w64, if_true, if_false, Bool.false_eq_true, decide_true, ne_eq, not_true_eq_false, hlt2, hP1.idx hlt, hP1.ld0 hz 5 true (by decide), e5, hV1.ls.len]
      refine CallK.of (c_kw _ _ _ _) ?_
      simp (maxSteps := 4000000) -implicitDefEqProofs -dsimp (disch := omega) only [↓AW_ops, ↓AW_seq, ↓AW_cond, ↓AW_ret, ↓AOps_nil, ↓AOps_pu, ↓AOps_ld, ↓AOps_guard, on_some, extK_same, guardB_tf, guardB_ff, skipS_some, condB_t, ↓then_normal, ↓then_ret, ↓inBlock_ret, ↓Fin_ret, pval, lval, rd_S, rd_C, put_S, resV, resL, chkd, isAdr, bgot, cells_agg, partA, eq_self, mk, List.foldl_cons, List.foldl_nil, List.replicate_succ, List.replicate_zero, List.set_cons_zero, List.set_cons_succ, List.getElem?_cons_zero, List.getElem?_cons_succ, List.drop_zero, List.take_zero, List.take_succ_cons, List.take_nil, Option.getD_some, List.length_cons, List.length_nil, Nat.reduceAdd, Nat.reduceLeDiff, Nat.zero_add, if_true, if_false, Bool.false_eq_true, Bool.not_true, decide_true, and_true, h1, hidx, hld, eb]
      exact fin1 (fun hh => hh.2.1 h2)
    have hbf : b = false := by rw [hbd]; exact decide_eq_false h2
    subst hbf
    simp (maxSteps := 4000000) -implicitDefEqProofs -dsimp (disch := omega) only [↓AW_skip, ↓AW_ops, ↓AW_seq, ↓AW_cond, ↓AW_block, ↓AOps_nil, ↓AOps_pu, ↓AOps_ld, ↓AOps_call, on_some, condB_t, ↓then_normal, pval, lval, rd_S, rd_C, put_S, chkd, isAdr, bput, bgot, cells_agg, splice, partA, eq_self, mk, List.foldl_cons, List.foldl_nil, List.replicate_succ, List.replicate_zero, List.set_cons_zero, List.set_cons_succ, List.getElem?_cons_zero, List.getElem?_cons_succ, List.drop_zero, List.drop_succ_cons, List.drop_nil, List.take_zero, List.take_succ_cons, List.take_nil, Option.getD_some, map_c, map_n, List.length_cons, List.length_nil, Nat.reduceAdd, Nat.reduceLeDiff, Nat.reduceEqDiff, Nat.zero_add, List.nil_append, List.append_nil, bin_sub, bin_lss, w64, if_true, if_false, Bool.false_eq_true, decide_true, ne_eq, not_true_eq_false, hlt2, hP1.idx hlt, hP1.ld0 hz 5 true (by decide), e5, hV1.ls.len]
    refine CallK.of (c_kw _ _ _ _) ?_
    simp (maxSteps := 4000000) -implicitDefEqProofs -dsimp (disch := omega) only [↓AOps_pu, ↓AOps_ld, ↓AOps_call, ↓AOps_guard, on_some, extK_same, guardB_ff, pval, lval, rd_S, rd_C, put_S, chkd, isAdr, bgot, cells_agg, partA, eq_self, mk, List.foldl_cons, List.foldl_nil, List.replicate_succ, List.replicate_zero, List.set_cons_zero, List.set_cons_succ, List.getElem?_cons_zero, List.getElem?_cons_succ, List.drop_zero, List.drop_succ_cons, List.take_zero, List.take_succ_cons, List.take_nil, Option.getD_some, map_c, map_n, List.length_cons, List.length_nil, Nat.reduceAdd, Nat.reduceLeDiff, Nat.reduceEqDiff, Nat.zero_add, if_true, if_false, Bool.false_eq_true, Bool.not_true, decide_true, and_true, h1, hidx, hld, eb]
    refine CallK.of (c_isK hL1 hg p.r wr) ?_
    by_cases h3 : isK L p.r
    case neg =>
      simp (maxSteps := 4000000) -implicitDefEqProofs -dsimp (disch := omega) only [↓AW_ops, ↓AW_seq, ↓AW_cond, ↓AW_ret, ↓AOps_nil, ↓AOps_pu, ↓AOps_guard, on_some, extK_same, guardB_tf, guardB_ff, skipS_some, condB_t, ↓then_normal, ↓then_ret, ↓inBlock_ret, ↓Fin_ret, pval, rd_S, rd_C, put_S, resV, resL, eq_self, mk, List.foldl_cons, List.foldl_nil, List.replicate_succ, List.replicate_zero, List.set_cons_zero, List.set_cons_succ, List.getElem?_cons_zero, List.getElem?_cons_succ, Option.getD_some, if_true, if_false, Bool.false_eq_true, Bool.not_false, decide_false, h3]
      exact fin1 (fun hh => h3 hh.2.2.1)
    simp (maxSteps := 4000000) -implicitDefEqProofs -dsimp (disch := omega) only [↓AOps_pu, ↓AOps_call, ↓AOps_guard, on_some, extK_same, guardB_ff, pval, rd_S, rd_C, put_S, chkd, isAdr, bgot, cells_agg, partA, eq_self, mk, List.foldl_cons, List.foldl_nil, List.replicate_succ, List.replicate_zero, List.set_cons_zero, List.set_cons_succ, List.getElem?_cons_zero, List.getElem?_cons_succ, List.drop_zero, List.drop_succ_cons, List.take_succ_cons, List.take_nil, Option.getD_some, map_c, map_n, List.length_cons, List.length_nil, Nat.reduceAdd, Nat.reduceLeDiff, Nat.reduceEqDiff, Nat.zero_add, if_true, if_false, Bool.false_eq_true, Bool.not_true, decide_true, h3]
    refine CallK.of (c_isK hL1 hg p.s wsn) ?_
    by_cases h4 : isK L p.s
    case neg =>
      simp (maxSteps := 4000000) -implicitDefEqProofs -dsimp (disch := omega) only [↓AW_ops, ↓AW_seq, ↓AW_cond, ↓AW_ret, ↓AOps_nil, ↓AOps_pu, ↓AOps_guard, on_some, extK_same, guardB_tf, guardB_ff, skipS_some, condB_t, ↓then_normal, ↓then_ret, ↓inBlock_ret, ↓Fin_ret, pval, rd_S, rd_C, put_S, resV, resL, eq_self, mk, List.foldl_cons, List.foldl_nil, List.replicate_succ, List.replicate_zero, List.set_cons_zero, List.set_cons_succ, List.getElem?_cons_zero, List.getElem?_cons_succ, Option.getD_some, if_true, if_false, Bool.false_eq_true, Bool.not_false, decide_false, h4]
      exact fin1 (fun hh => h4 hh.2.2.2.1)
    by_cases h5 : p.r = atI pcs i
    case neg =>
      have hpb := pair_beq h5
      simp (maxSteps := 4000000) -implicitDefEqProofs -dsimp (disch := omega) only [↓AW_ops, ↓AW_seq, ↓AW_cond, ↓AW_ret, ↓AOps_nil, ↓AOps_pu, ↓AOps_guard, on_some, extK_same, guardB_tf, guardB_ff, skipS_some, condB_t, ↓then_normal, ↓then_ret, ↓inBlock_ret, ↓Fin_ret, pval, rd_S, rd_C, put_S, resV, resL, chkd, isAdr, bgot, cells_agg, partA, eqc, Bool.and_true, eq_self, mk, List.foldl_cons, List.foldl_nil, List.replicate_succ, List.replicate_zero, List.set_cons_zero, List.set_cons_succ, List.getElem?_cons_zero, List.getElem?_cons_succ, List.drop_zero, List.drop_succ_cons, List.take_zero, List.take_succ_cons, List.take_nil, Option.getD_some, Option.map_some, List.length_cons, List.length_nil, Nat.reduceAdd, Nat.reduceLeDiff, Nat.reduceEqDiff, Nat.zero_add, if_true, if_false, Bool.false_eq_true, Bool.not_true, Bool.not_false, decide_true, h4, hpb]
      exact fin1 (fun hh => h5 hh.2.2.2.2.1)
    obtain ⟨w0, hw0⟩ := first_row hg
    have hmr := mem_lists (List.mem_of_getElem? hw0)
    have hgd := hg.gd hmr
    obtain ⟨k1, _, _, p1⟩ := isK_R hg h3
    obtain ⟨k2, _, _, p2⟩ := isK_R hg h4
    have p1 := p1 _ hmr
    have p2 := p2 _ hmr
    have hcmp := s65 (qr p.r) (qr p.s) H (p1.sm hgd) (p2.sm hgd)
    rw [← k1, ← k2] at hcmp
    simp (maxSteps := 4000000) -implicitDefEqProofs -dsimp (disch := omega) only [↓AOps_pu, ↓AOps_call, ↓AOps_guard, on_some, extK_same, guardB_ff, pval, rd_S, rd_C, put_S, chkd, isAdr, bgot, cells_agg, partA, eqc, beq_self_eq_true, eq_self, mk, List.foldl_cons, List.foldl_nil, List.replicate_succ, List.replicate_zero, List.set_cons_zero, List.set_cons_succ, List.getElem?_cons_zero, List.getElem?_cons_succ, List.drop_zero, List.drop_succ_cons, List.take_zero, List.take_succ_cons, List.take_nil, Option.getD_some, Option.map_some, map_c, map_n, List.length_cons, List.length_nil, Nat.reduceAdd, Nat.reduceLeDiff, Nat.reduceEqDiff, Nat.zero_add, if_true, if_false, Bool.false_eq_true, Bool.not_true, Bool.true_and, decide_true, h4, ← h5]
    refine CallK.of hcmp ?_
    by_cases h6 : qr p.s < qr p.r
    case pos =>
      have h6' := (sub_pos_iff (qr p.r) (qr p.s)).2 h6
      simp (maxSteps := 4000000) -implicitDefEqProofs -dsimp (disch := omega) only [↓AW_ops, ↓AW_seq, ↓AW_cond, ↓AW_ret, ↓AOps_nil, ↓AOps_pu, ↓AOps_guard, on_some, extK_same, guardB_ff, condB_t, ↓then_normal, ↓then_ret, ↓inBlock_ret, ↓Fin_ret, pval, rd_S, rd_C, put_S, resV, resL, mk, List.foldl_cons, List.foldl_nil, List.replicate_succ, List.replicate_zero, List.set_cons_zero, List.set_cons_succ, List.getElem?_cons_zero, List.getElem?_cons_succ, Option.getD_some, bin_gtr, if_false, Bool.false_eq_true, decide_true, h6']
      exact fin1 (fun hh => hh.2.2.2.2.2 h6)
    have h6' : ¬ 0 < (qr p.r - qr p.s).num := fun hh => h6 ((sub_pos_iff _ _).1 hh)
    have hst := hOL.st hol (B true) true rfl
    have hset := hOL.set p.o.toNat true
    generalize hH1 : H.set A.length (.cells true ((bl.set p.o.toNat true).flatMap eb)) = H1 at *
    have hu1 := AccL_set hu (n := A.length) (by simp) (.cells true ((bl.set p.o.toNat true).flatMap eb))
    rw [hH1] at hu1
    have hBe : (A ++ [AObj.cells true (bl.flatMap eb)]).set A.length (.cells true ((bl.set p.o.toNat true).flatMap eb)) = A ++ [.cells true ((bl.set p.o.toNat true).flatMap eb)] := by simp
    rw [hBe] at hu1
    have hu2 := hu1.mono (pre_app H1 [.cells true [I p.r.1, I p.r.2, I p.s.1, I p.s.2]])
    have hpl : ((plcs (pcs.take i)).length : Int) ≤ 2 * i := by
      have : ∀ l : List Pc, (plcs l).length = 2 * l.length := by
        intro l
        induction l with
        | nil => rfl
        | cons a l ih => simp only [plcs, List.flatMap_cons, List.length_append, List.length_cons, List.length_nil] at *; omega
      rw [this, List.length_take]; omega
    obtain ⟨u3, H3, happ, hu3⟩ := hu2.pushes (L2_two H1 p.r p.s) (by simp [lim]; omega)
    have hbl2 : (List.range ws.length).map (fun (o : Nat) => decide ((o : Int) ∈ ((pcs.take (i + 1)).map Pc.o))) = bl.set p.o.toNat true := by
      rw [← hbl]
      apply List.ext_getElem
      · simp
      · intro k g1 g2
        simp only [List.length_map, List.length_range] at g1
        rw [List.getElem_set]
        simp only [List.getElem_map, List.getElem_range]
        have hmem : ((k : Int) ∈ (pcs.take (i + 1)).map Pc.o) ↔ ((k : Int) ∈ (pcs.take i).map Pc.o ∨ (k : Int) = p.o) := by
          rw [List.take_add_one, hz, Option.toList_some, List.map_append, List.mem_append]
          simp
        rw [decide_eq_decide.2 hmem]
        by_cases hk : p.o.toNat = k
        · rw [if_pos hk, decide_eq_true]; right; omega
        · rw [if_neg hk, decide_eq_decide]
          constructor
          · rintro (h | h)
            · exact h
            · omega
          · exact fun h => .inl h
    have hpl2 : plcs (pcs.take (i + 1)) = plcs (pcs.take i) ++ [p.r, p.s] := by
      rw [List.take_add_one, hz, Option.toList_some]
      simp [plcs]
    simp (maxSteps := 4000000) -implicitDefEqProofs -dsimp (disch := omega) only [↓AW_skip, ↓AW_ops, ↓AW_seq, ↓AW_cond, ↓AOps_nil, ↓AOps_pu, ↓AOps_ha, ↓AOps_guard, on_some, extK_false, extK_app, extK_same, guardB_ff, condB_f, ↓then_normal, ↓inBlock_normal, pval, hval_st, hval_blds, hval_app, rd_S, rd_C, put_S, putS_none, chkd, isAdr, bput, bgot, cells_agg, splice, partA, fillA, repl, eq_self, mk, List.foldl_cons, List.foldl_nil, List.replicate_succ, List.replicate_zero, List.set_cons_zero, List.set_cons_succ, List.getElem?_cons_zero, List.getElem?_cons_succ, List.drop_zero, List.drop_succ_cons, List.drop_nil, List.take_zero, List.take_succ_cons, List.take_nil, Option.getD_some, Option.map_some, map_c, map_n, List.length_cons, List.length_nil, Nat.reduceAdd, Nat.reduceLeDiff, Nat.reduceEqDiff, Nat.zero_add, List.cons_append, List.nil_append, List.append_nil, bin_add, bin_gtr, w64, if_true, if_false, Bool.false_eq_true, decide_false, true_and, and_true, ne_eq, not_true_eq_false, h6', hidx, hst, happ]
    refine ⟨(i + 1, u3, H3), ⟨hlt, fun j hj hji => ?_, ?_⟩, by simp [Has, rd_s, atI_succ hz], rfl, by simp only; omega⟩
    · by_cases hji' : j < i
      · exact hc j hj hji'
      · have : j = i := by simp only at hji; omega
        subst this
        have he : pcs[j] = p := (List.getElem?_eq_some_iff.1 hz).2
        rw [he]
        exact ⟨by omega, h2, h3, h4, h5, h6⟩
    · simp only
      rw [hbl2, hpl2]
      exact hu3
  · have hiE : i = pcs.length := by omega
    subst hiE
    have hlt' : ¬ ((pcs.length : Int) < ws.length) := by omega
    rw [List.take_length] at hu
    have hkd : ∀ r ∈ plcs pcs, 1 ≤ r.2 ∧ r.2 ≤ 1000000 := by
      intro r hr
      obtain ⟨p, hp, hr⟩ := List.mem_flatMap.1 hr
      obtain ⟨j, hj, rfl⟩ := List.mem_iff_getElem.1 hp
      have := hc j hj hj
      simp only [List.mem_cons, List.not_mem_nil, or_false] at hr
      rcases hr with rfl | rfl
      · exact this.2.2.1.1.1
      · exact this.2.2.2.1.1.1
    have hpl : (plcs pcs).length = 2 * pcs.length := by
      have : ∀ l : List Pc, (plcs l).length = 2 * l.length := by
        intro l
        induction l with
        | nil => rfl
        | cons a l ih => simp only [plcs, List.flatMap_cons, List.length_append, List.length_cons, List.length_nil] at *; omega
      exact this pcs
    simp (maxSteps := 4000000) -implicitDefEqProofs -dsimp (disch := omega) only [↓AW_ops, ↓AW_seq, ↓AW_cond, ↓AW_exit, ↓AOps_nil, ↓AOps_pu, ↓AOps_call, on_some, condB_f, ↓then_normal, ↓then_exit, ↓inBlock_exit, pval, rd_S, put_S, chkd, bgot, partA, eq_self, mk, List.foldl_cons, List.foldl_nil, List.replicate_succ, List.replicate_zero, List.set_cons_zero, List.set_cons_succ, List.getElem?_cons_zero, List.getElem?_cons_succ, List.drop_zero, List.take_succ_cons, List.take_nil, Option.getD_some, map_c, map_n, List.length_cons, List.length_nil, Nat.reduceAdd, Nat.reduceLeDiff, Nat.reduceEqDiff, Nat.zero_add, bin_lss, if_true, if_false, decide_false, hlt']
    refine CallK.of (c_end (y := y) hL1 hg) ?_
    simp (maxSteps := 4000000) -implicitDefEqProofs -dsimp (disch := omega) only [↓AOps_call, extK_same, rd_S, put_S, mk, List.foldl_cons, List.foldl_nil, List.replicate_succ, List.replicate_zero, List.set_cons_zero, List.set_cons_succ, List.getElem?_cons_zero, List.getElem?_cons_succ, Option.getD_some, map_c, map_n]
    refine CallK.of (s76 _ _) ?_
    simp (maxSteps := 4000000) -implicitDefEqProofs -dsimp (disch := omega) only [↓AOps_pu, ↓AOps_guard, on_some, extK_same, pval, rd_S, put_S, eqc, Bool.and_true, eq_self, mk, List.foldl_cons, List.foldl_nil, List.replicate_succ, List.replicate_zero, List.set_cons_zero, List.set_cons_succ, List.getElem?_cons_zero, List.getElem?_cons_succ, Option.getD_some, Option.map_some, if_true, R_int]
    by_cases h7 : atI pcs pcs.length = (L.sum, 1)
    case neg =>
      have hpb : ((atI pcs pcs.length).1 == L.sum && (atI pcs pcs.length).2 == 1) = false := pair_beq h7
      simp (maxSteps := 4000000) -implicitDefEqProofs -dsimp (disch := omega) only [↓AW_ops, ↓AW_seq, ↓AW_cond, ↓AW_ret, ↓AOps_nil, ↓AOps_pu, ↓AOps_guard, on_some, guardB_tf, skipS_some, condB_t, ↓then_normal, ↓then_ret, ↓Fin_ret, pval, rd_S, rd_C, put_S, resV, resL, eq_self, mk, List.foldl_cons, List.foldl_nil, List.replicate_succ, List.replicate_zero, List.set_cons_zero, List.set_cons_succ, List.getElem?_cons_zero, List.getElem?_cons_succ, Option.getD_some, if_true, Bool.not_false, hpb]
      exact gc_val hpre (by rw [bad (fun hc => h7 hc.2.2.1)]; rfl)
    have h7a : (atI pcs pcs.length).1 = L.sum := by rw [h7]
    have h7b : (atI pcs pcs.length).2 = 1 := by rw [h7]
    simp (maxSteps := 4000000) -implicitDefEqProofs -dsimp (disch := omega) only [↓AOps_pu, ↓AOps_call, ↓AOps_guard, on_some, guardB_ff, pval, rd_S, rd_C, put_S, beq_self_eq_true, Bool.and_self, mk, List.foldl_cons, List.foldl_nil, List.replicate_succ, List.replicate_zero, List.set_cons_zero, List.set_cons_succ, List.getElem?_cons_zero, List.getElem?_cons_succ, Option.getD_some, map_c, map_n, Bool.not_true, h7a, h7b]
    refine CallK.of (c_Common (AccL_ls hu e2_len) (by omega) hkd) ?_
    by_cases h8 : cmn 1 ((plcs pcs).map Prod.snd) ≤ 1000000
    · have h8' : ¬ 1000000 < cmn 1 ((plcs pcs).map Prod.snd) := by omega
      simp (maxSteps := 4000000) -implicitDefEqProofs -dsimp (disch := omega) only [↓AW_skip, ↓AW_ops, ↓AW_seq, ↓AW_cond, ↓AW_ret, ↓AOps_nil, ↓AOps_pu, ↓AOps_guard, on_some, extK_same, guardB_ff, condB_f, ↓then_normal, ↓Fin_ret, pval, rd_S, rd_C, put_S, resV, resL, beq_self_eq_true, Bool.and_self, mk, List.foldl_cons, List.foldl_nil, List.replicate_succ, List.replicate_zero, List.set_cons_zero, List.set_cons_succ, List.getElem?_cons_zero, List.getElem?_cons_succ, Option.getD_some, bin_gtr, if_false, Bool.false_eq_true, Bool.not_true, decide_false, h8', h7a, h7b]
      refine gc_val hpre ?_
      rw [cpE, if_pos h0, if_pos ⟨by omega, fun j hj => hc j hj hj, h7, h8⟩]
      rfl
    · have h8' : 1000000 < cmn 1 ((plcs pcs).map Prod.snd) := by omega
      simp (maxSteps := 4000000) -implicitDefEqProofs -dsimp (disch := omega) only [↓AW_ops, ↓AW_seq, ↓AW_cond, ↓AW_ret, ↓AOps_nil, ↓AOps_pu, ↓AOps_guard, on_some, extK_same, guardB_ff, condB_t, ↓then_normal, ↓then_ret, ↓Fin_ret, pval, rd_S, rd_C, put_S, resV, resL, beq_self_eq_true, Bool.and_self, mk, List.foldl_cons, List.foldl_nil, List.replicate_succ, List.replicate_zero, List.set_cons_zero, List.set_cons_succ, List.getElem?_cons_zero, List.getElem?_cons_succ, Option.getD_some, bin_gtr, if_false, Bool.false_eq_true, Bool.not_true, decide_true, h8', h7a, h7b]
      exact gc_val hpre (by rw [bad (fun hc => h8 hc.2.2.2)]; rfl)
end
end Go.Proofs.Ytmblehbjedpjoaa

namespace Go.Proofs.Ytmblehbjedpjoaa
open Go Go.Eng
theorem lcm_facts {out d : Int} (h0 : 0 < out) (hd : 0 < d) : 0 < out / (Int.gcd out d : Int) * d ∧ out ∣ out / (Int.gcd out d : Int) * d ∧ d ∣ out / (Int.gcd out d : Int) * d ∧ ∀ D, out ∣ D → d ∣ D → out / (Int.gcd out d : Int) * d ∣ D := by
  obtain ⟨_, q2, _⟩ := gcd_div h0 hd
  obtain ⟨g1, g2⟩ := gcd_pos (a := out) hd
  refine ⟨Int.mul_pos q2 hd, ?_, Int.dvd_mul_left _ _, fun D h1 h2 => ?_⟩
  · obtain ⟨x, hx⟩ := Int.gcd_dvd_left out d
    obtain ⟨y, hy⟩ := Int.gcd_dvd_right out d
    generalize (Int.gcd out d : Nat) = g at *
    refine ⟨y, ?_⟩
    rw [hx, Int.mul_ediv_cancel_left _ (by omega)]
    rw [hy]
    rw [← Int.mul_assoc, Int.mul_comm x]
  · obtain ⟨z, hz⟩ := h1
    have hgd := Int.gcd_dvd_left out d
    have hl : out / (Int.gcd out d : Int) * d = (Int.lcm out d : Int) := by
      have e1 : (Int.gcd out d : Int) * (Int.lcm out d : Int) = (out * d) := by
        have := Int.gcd_mul_lcm out d
        have h3 : ((Int.gcd out d * Int.lcm out d : Nat) : Int) = ((out * d).natAbs : Int) := by rw [this, Int.natAbs_mul]
        rw [Int.natCast_mul] at h3
        rw [h3, Int.natAbs_of_nonneg (Int.le_of_lt (Int.mul_pos h0 hd))]
      obtain ⟨x, hx⟩ := hgd
      have hg0 : (Int.gcd out d : Int) ≠ 0 := by omega
      have e2 : out / (Int.gcd out d : Int) = x := by
        conv => lhs; lhs; rw [hx]
        exact Int.mul_ediv_cancel_left _ hg0
      rw [e2]
      have e3 : (Int.gcd out d : Int) * (Int.lcm out d : Int) = (Int.gcd out d : Int) * (x * d) := by
        rw [e1, ← Int.mul_assoc, ← hx]
      exact (Int.eq_of_mul_eq_mul_left hg0 e3).symm
    rw [hl]
    exact Int.coe_lcm_dvd ⟨z, hz⟩ h2
theorem cmn_dvd : ∀ (ds : List Int) (out : Int), 0 < out → (∀ d ∈ ds, 0 < d) → cmn out ds ≤ 1000000 → 0 < cmn out ds ∧ out ∣ cmn out ds ∧ ∀ d ∈ ds, d ∣ cmn out ds
  | [], out, h0, _, _ => ⟨h0, Int.dvd_refl _, by simp⟩
  | d :: ds, out, h0, hd, h => by
    obtain ⟨l1, l2, l3, _⟩ := lcm_facts h0 (hd d (by simp))
    rw [cmn] at h ⊢
    split at h
    · omega
    · rename_i hn
      rw [if_neg hn]
      obtain ⟨r1, r2, r3⟩ := cmn_dvd ds _ l1 (fun e he => hd e (by simp [he])) h
      refine ⟨r1, Int.dvd_trans l2 r2, fun e he => ?_⟩
      rcases List.mem_cons.1 he with rfl | he
      · exact Int.dvd_trans l3 r2
      · exact r3 e he
section
variable {L : List Int} {ws : List (AV × List Int)} {x y : AV} {A : AHeap}
/-- The places of pieces that are accepted have a small denominator in common. -/
theorem CP.dv {V : List (List Int)} {pcs : List Pc} (h : CP L V pcs) : ∃ D : Int, (0 < D ∧ D ≤ 1000000) ∧ ∀ p ∈ pcs, Dv D (qr p.r) ∧ Dv D (qr p.s) := by
  have hpos : ∀ r ∈ plcs pcs, 0 < r.2 ∧ Int.gcd r.1 r.2 = 1 := by
    intro r hr
    obtain ⟨p, hp, hr⟩ := List.mem_flatMap.1 hr
    obtain ⟨j, hj, rfl⟩ := List.mem_iff_getElem.1 hp
    have := h.2.1 j hj
    simp only [List.mem_cons, List.not_mem_nil, or_false] at hr
    rcases hr with rfl | rfl
    · exact ⟨by have := this.2.2.1.1.1; omega, this.2.2.1.1.2⟩
    · exact ⟨by have := this.2.2.2.1.1.1; omega, this.2.2.2.1.1.2⟩
  obtain ⟨h1, _, h3⟩ := cmn_dvd ((plcs pcs).map Prod.snd) 1 (by omega) (fun d hd => by obtain ⟨r, hr, rfl⟩ := List.mem_map.1 hd; exact (hpos r hr).1) h.2.2.2
  have key : ∀ r ∈ plcs pcs, Dv (cmn 1 ((plcs pcs).map Prod.snd)) (qr r) := by
    intro r hr
    have e := R_of (hpos r hr).1 (hpos r hr).2
    have hd := (R_inj e.symm).2
    refine (Dv_self (qr r)).dvd ?_
    show ((((r.1 : Rat) / (r.2 : Rat)).den : Int)) ∣ _
    rw [hd]
    exact h3 _ (List.mem_map_of_mem hr)
  refine ⟨_, ⟨h1, h.2.2.2⟩, fun p hp => ⟨key _ (List.mem_flatMap.2 ⟨p, hp, by simp⟩), key _ (List.mem_flatMap.2 ⟨p, hp, by simp⟩)⟩⟩
theorem qr_zero : qr (0, 1) = ((0 : Int) : Rat) := by
  unfold qr
  rw [Rat.div_def]
  exact Rat.zero_mul _
theorem qr_one (n : Int) : qr (n, 1) = (n : Rat) := by
  unfold qr
  show (n : Rat) / ((1 : Int) : Rat) = (n : Rat)
  rw [int1]
  grind
theorem upTo_at0 {f : List (Int × Int)} (hg : good f) : upTo 0 f ((0 : Int) : Rat) = 0 := upTo_none _ f 0 (all_pos hg.2) Rat.le_refl
theorem L2_two' (A : AHeap) (q z : Rat) : L2 (A ++ [.cells true [I q.num, I (q.den : Int), I z.num, I (z.den : Int)]]) (.sl 2 A.length 0 2 true) [rp q, rp z] := L2_two A (rp q) (rp z)
theorem isK_ends {V : List (List Int)} (h : KG L V) : isK L (0, 1) ∧ isK L (L.sum, 1) := by
  have := h.sum
  refine ⟨⟨⟨by omega, by decide⟩, by simp only; omega⟩, ⟨⟨by omega, by simp⟩, by simp only; omega⟩⟩
theorem wE_ok {V : List (List Int)} {o : Int} {r s : Int × Int} (h0 : oE L V o = 0) (h1 : isK L r) (h2 : isK L s) (h3 : ¬ qr s < qr r) : wE L V o r s = 0 := by
  rw [wE, if_pos h0, if_pos ⟨h1, h2, h3⟩]
set_option maxRecDepth 20000 in
set_option maxHeartbeats 4000000 in
theorem s8 (hL : L1 A x L) (hV : LL A y ws) (hl : ws.length ≤ 9223372036854775807) {pcs : List Pc} {v : AV} (hP : L5 A v pcs) (hW : ∀ p ∈ pcs, W p.r.1 ∧ W p.s.1) (o : Int) : ACalls Try.prog 8 [.agg [x, y], v, I o] A (B true) A := by
  refine acalls hmix Try.func8 (by kernel_rfl) t8 3 rfl (by decide) ?_
  have quit : ∀ H, A <+: H → ACalls Try.prog 14 [] H (B true) H := fun H _ => known H
  dsimp only [m8]
  simp (maxSteps := 4000000) -implicitDefEqProofs -dsimp (disch := omega) only [↓AW_ops, ↓AW_seq, ↓AOps_nil, ↓AOps_pu, ↓AOps_call, on_some, ↓then_normal, pval, rd_S, rd_C, put_S, chkd, bgot, AV.cells?, partA, eq_self, List.replicate_succ, List.replicate_zero, List.set_cons_zero, List.set_cons_succ, List.getElem?_cons_zero, List.getElem?_cons_succ, List.drop_zero, List.take_succ_cons, List.take_nil, Option.getD_some, map_c, map_n, List.length_cons, List.length_nil, Nat.reduceAdd, Nat.reduceSub, Nat.reduceLeDiff, Nat.reduceEqDiff, Nat.zero_add, List.cons_append, List.nil_append, if_true, if_false]
  refine CallK.of (c_Long hL hV hl) ?_
  by_cases h : longK L ws
  · simp (maxSteps := 4000000) -implicitDefEqProofs -dsimp (disch := omega) only [↓AW_ops, ↓AW_seq, ↓AW_cond, ↓AOps_nil, ↓AOps_pu, ↓AOps_call, ↓AOps_guard, on_some, extK_same, guardB_tf, skipS_some, condB_t, ↓then_normal, pval, rd_S, rd_C, put_S, eq_self, List.replicate_succ, List.replicate_zero, List.set_cons_zero, List.set_cons_succ, List.getElem?_cons_zero, List.getElem?_cons_succ, Option.getD_some, map_n, Nat.reduceSub, List.cons_append, List.nil_append, if_true, decide_true, h]
    refine CallK.of (known A) ?_
    simp (maxSteps := 4000000) -implicitDefEqProofs -dsimp (disch := omega) only [↓AW_ret, ↓AOps_nil, ↓AOps_pu, on_some, extK_same, skipS_some, ↓then_normal, ↓then_ret, ↓Fin_ret, pval, rd_S, put_S, resV, resL, List.replicate_succ, List.replicate_zero, List.set_cons_zero, List.set_cons_succ, List.getElem?_cons_zero, List.getElem?_cons_succ, Option.getD_some, Nat.reduceSub, List.cons_append, List.nil_append]
    exact gc_same rfl
  have hs := Sz_of h
  by_cases hpl : (100 : Int) < pcs.length
  · simp (maxSteps := 4000000) -implicitDefEqProofs -dsimp (disch := omega) only [↓AW_ops, ↓AW_seq, ↓AW_cond, ↓AOps_nil, ↓AOps_pu, ↓AOps_call, ↓AOps_guard, on_some, extK_same, guardB_tf, guardB_ff, skipS_some, condB_t, ↓then_normal, pval, rd_S, rd_C, put_S, eq_self, List.replicate_succ, List.replicate_zero, List.set_cons_zero, List.set_cons_succ, List.getElem?_cons_zero, List.getElem?_cons_succ, Option.getD_some, map_n, Nat.reduceSub, List.cons_append, List.nil_append, bin_gtr, if_true, if_false, Bool.false_eq_true, decide_true, decide_false, h, hP.len, hpl]
    refine CallK.of (known A) ?_
    simp (maxSteps := 4000000) -implicitDefEqProofs -dsimp (disch := omega) only [↓AW_ret, ↓AOps_nil, ↓AOps_pu, on_some, extK_same, skipS_some, ↓then_normal, ↓then_ret, ↓Fin_ret, pval, rd_S, put_S, resV, resL, List.replicate_succ, List.replicate_zero, List.set_cons_zero, List.set_cons_succ, List.getElem?_cons_zero, List.getElem?_cons_succ, Option.getD_some, Nat.reduceSub, List.cons_append, List.nil_append]
    exact gc_same rfl
  simp (maxSteps := 4000000) -implicitDefEqProofs -dsimp (disch := omega) only [↓AOps_pu, ↓AOps_call, ↓AOps_guard, on_some, extK_same, guardB_ff, pval, rd_S, rd_C, put_S, chkd, bgot, partA, eq_self, List.replicate_succ, List.replicate_zero, List.set_cons_zero, List.set_cons_succ, List.getElem?_cons_zero, List.getElem?_cons_succ, List.drop_zero, List.take_succ_cons, List.take_nil, Option.getD_some, map_c, map_n, List.length_cons, List.length_nil, Nat.reduceAdd, Nat.reduceSub, Nat.reduceLeDiff, Nat.reduceEqDiff, Nat.zero_add, List.cons_append, List.nil_append, bin_gtr, if_true, if_false, Bool.false_eq_true, decide_false, h, hP.len, hpl]
  refine CallK.of (s35 hL hV hs hP (by omega) hW) ?_
  by_cases hc : cpE L (lists ws) pcs = 0
  case neg =>
    simp (maxSteps := 4000000) -implicitDefEqProofs -dsimp (disch := omega) only [↓AW_ops, ↓AW_seq, ↓AW_cond, ↓AOps_nil, ↓AOps_pu, ↓AOps_call, ↓AOps_guard, on_some, extK_same, guardB_tf, guardB_ff, skipS_some, condB_t, ↓then_normal, pval, rd_S, rd_C, put_S, eq_self, List.replicate_succ, List.replicate_zero, List.set_cons_zero, List.set_cons_succ, List.getElem?_cons_zero, List.getElem?_cons_succ, Option.getD_some, map_n, Nat.reduceSub, List.cons_append, List.nil_append, bin_neq, if_true, if_false, Bool.false_eq_true, decide_true, not_false_eq_true, hc]
    refine CallK.of (known A) ?_
    simp (maxSteps := 4000000) -implicitDefEqProofs -dsimp (disch := omega) only [↓AW_ret, ↓AOps_nil, ↓AOps_pu, on_some, extK_same, skipS_some, ↓then_normal, ↓then_ret, ↓Fin_ret, pval, rd_S, put_S, resV, resL, List.replicate_succ, List.replicate_zero, List.set_cons_zero, List.set_cons_succ, List.getElem?_cons_zero, List.getElem?_cons_succ, Option.getD_some, Nat.reduceSub, List.cons_append, List.nil_append]
    exact gc_same rfl
  have hkE : kE L (lists ws) = 0 := by
    unfold cpE at hc
    split at hc
    · assumption
    · rename_i hne; exact absurd hc hne
  have hg := KG.of hkE
  have hCP : CP L (lists ws) pcs := by
    unfold cpE at hc
    rw [if_pos hkE] at hc
    split at hc
    · assumption
    · cases hc
  have hll : ((lists ws).length : Int) = ws.length := by simp
  by_cases ho1 : o < 0
  · simp (maxSteps := 4000000) -implicitDefEqProofs -dsimp (disch := omega) only [↓AW_ops, ↓AW_seq, ↓AW_cond, ↓AOps_nil, ↓AOps_pu, ↓AOps_call, ↓AOps_guard, on_some, extK_same, guardB_tf, guardB_ff, skipS_some, condB_t, ↓then_normal, pval, rd_S, rd_C, put_S, eq_self, List.replicate_succ, List.replicate_zero, List.set_cons_zero, List.set_cons_succ, List.getElem?_cons_zero, List.getElem?_cons_succ, Option.getD_some, map_n, Nat.reduceSub, List.cons_append, List.nil_append, bin_neq, bin_lss, if_true, if_false, Bool.false_eq_true, decide_true, decide_false, not_true_eq_false, hc, ho1]
    refine CallK.of (known A) ?_
    simp (maxSteps := 4000000) -implicitDefEqProofs -dsimp (disch := omega) only [↓AW_ret, ↓AOps_nil, ↓AOps_pu, on_some, extK_same, skipS_some, ↓then_normal, ↓then_ret, ↓Fin_ret, pval, rd_S, put_S, resV, resL, List.replicate_succ, List.replicate_zero, List.set_cons_zero, List.set_cons_succ, List.getElem?_cons_zero, List.getElem?_cons_succ, Option.getD_some, Nat.reduceSub, List.cons_append, List.nil_append]
    exact gc_same rfl
  by_cases ho2 : (ws.length : Int) ≤ o
  · simp (maxSteps := 4000000) -implicitDefEqProofs -dsimp (disch := omega) only [↓AW_ops, ↓AW_seq, ↓AW_cond, ↓AOps_nil, ↓AOps_pu, ↓AOps_call, ↓AOps_guard, on_some, extK_same, guardB_ff, condB_t, ↓then_normal, pval, rd_S, rd_C, put_S, chkd, isAdr, bgot, AV.cells?, partA, eq_self, List.replicate_succ, List.replicate_zero, List.set_cons_zero, List.set_cons_succ, List.getElem?_cons_zero, List.getElem?_cons_succ, List.drop_zero, List.drop_succ_cons, List.take_succ_cons, List.take_nil, Option.getD_some, map_n, List.length_cons, List.length_nil, Nat.reduceAdd, Nat.reduceSub, Nat.reduceLeDiff, Nat.zero_add, List.cons_append, List.nil_append, bin_neq, bin_lss, bin_geq, if_true, if_false, Bool.false_eq_true, decide_true, decide_false, not_true_eq_false, hc, ho1, hV.ls.len, ho2]
    refine CallK.of (known A) ?_
    simp (maxSteps := 4000000) -implicitDefEqProofs -dsimp (disch := omega) only [↓AW_ret, ↓AOps_nil, ↓AOps_pu, on_some, extK_same, ↓then_normal, ↓then_ret, ↓Fin_ret, pval, rd_S, put_S, resV, resL, List.replicate_succ, List.replicate_zero, List.set_cons_zero, List.set_cons_succ, List.getElem?_cons_zero, List.getElem?_cons_succ, Option.getD_some, Nat.reduceSub, List.cons_append, List.nil_append]
    exact gc_same rfl
  have hoE : oE L (lists ws) o = 0 := by rw [oE, if_pos hkE, if_pos (by omega)]
  obtain ⟨_, k, w, rfl, hk⟩ := oE_row hoE
  have hmr := mem_lists (List.mem_of_getElem? hk)
  have hgd := hg.gd hmr
  have hf : fOf L (lists ws) k = L.zip w.2 := by rw [fOf, rowOf_at hk]
  have hl6 := hg.l6
  simp (maxSteps := 4000000) -implicitDefEqProofs -dsimp (disch := omega) only [↓AW_skip, ↓AW_ops, ↓AW_seq, ↓AW_cond, ↓AOps_nil, ↓AOps_pu, ↓AOps_call, ↓AOps_guard, on_some, extK_same, guardB_ff, condB_f, ↓then_normal, pval, rd_S, rd_C, put_S, chkd, isAdr, bgot, AV.cells?, partA, eq_self, List.replicate_succ, List.replicate_zero, List.set_cons_zero, List.set_cons_succ, List.getElem?_cons_zero, List.getElem?_cons_succ, List.drop_zero, List.drop_succ_cons, List.take_succ_cons, List.take_nil, Option.getD_some, map_c, map_n, List.length_cons, List.length_nil, Nat.reduceAdd, Nat.reduceSub, Nat.reduceLeDiff, Nat.zero_add, List.cons_append, List.nil_append, bin_neq, bin_lss, bin_geq, if_true, if_false, Bool.false_eq_true, decide_false, not_true_eq_false, hc, ho1, hV.ls.len, ho2]
  refine CallK.of (s36 _ _) ?_
  simp (maxSteps := 4000000) -implicitDefEqProofs -dsimp (disch := omega) only [↓AW_ops, ↓AW_seq, ↓AW_block, ↓AOps_nil, ↓AOps_pu, on_some, extK_same, ↓then_normal, pval, rd_S, rd_C, put_S, ↓AW_toLoop, chkd, bput, AV.cells?, splice, eq_self, List.replicate_succ, List.replicate_zero, List.set_cons_zero, List.set_cons_succ, List.getElem?_cons_zero, List.getElem?_cons_succ, List.drop_succ_cons, List.drop_nil, List.take_zero, Option.getD_some, List.length_cons, List.length_nil, Nat.reduceAdd, Nat.reduceSub, Nat.reduceLeDiff, Nat.zero_add, List.cons_append, List.nil_append, List.append_nil, if_true, if_false, ne_eq, not_true_eq_false]
  refine LoopK.by 123 (fun i : Nat => i ≤ L.length) (fun i => [(1, v), (2, I k), (3, .agg [x, y]), (7, R ((0 : Int) : Rat)), (8, I (L.take i).sum), (9, I i)]) (fun _ => A) (fun i => L.length - i) 0 (by omega) rfl (by simp [Has, rd_s]) rfl ?_
  intro i hi
  by_cases hlt : i < L.length
  · obtain ⟨n, hz⟩ : ∃ z, L[i]? = some z := ⟨_, List.getElem?_eq_getElem hlt⟩
    have hlt' : (i : Int) < L.length := by omega
    have hb := hg.take i
    have hn := hg.ls n (List.mem_of_getElem? hz)
    simp (maxSteps := 4000000) -implicitDefEqProofs -dsimp (disch := omega) only [↓AW_skip, ↓AW_ops, ↓AW_seq, ↓AW_cond, ↓AW_block, ↓AOps_nil, ↓AOps_pu, ↓AOps_ld, on_some, condB_t, ↓then_normal, ↓inBlock_normal, pval, lval, rd_S, rd_C, put_S, chkd, isAdr, bgot, AV.cells?, partA, eq_self, mk, List.foldl_cons, List.foldl_nil, List.replicate_succ, List.replicate_zero, List.set_cons_zero, List.set_cons_succ, List.getElem?_cons_zero, List.getElem?_cons_succ, List.drop_zero, List.take_zero, List.take_succ_cons, List.take_nil, Option.getD_some, List.length_cons, List.length_nil, Nat.reduceAdd, Nat.reduceLeDiff, Nat.zero_add, bin_add, bin_lss, w64, if_true, if_false, Bool.false_eq_true, decide_true, Go.Eng.e1, true_and, hlt', hL.len, hL.idx hlt, hL.ld0 hz 1 false (by decide)]
    exact ⟨i + 1, hlt, by simp [Has, rd_s, take_sum_succ' hz], by omega⟩
  have hlt' : ¬ ((i : Int) < L.length) := by omega
  rw [List.take_of_length_le (by omega)]
  obtain ⟨D, hD, hDp⟩ := hCP.dv
  have hLs := hg.sum
  have hat : ∀ i, i ≤ pcs.length → isK L (atI pcs i) ∧ Dv D (qr (atI pcs i)) := by
    intro i hi
    cases i with
    | zero => rw [atI_zero, qr_zero]; exact ⟨(isK_ends hg).1, Dv_int _ _⟩
    | succ i =>
      have hp : pcs[i]? = some pcs[i] := List.getElem?_eq_getElem (by omega)
      rw [atI_succ hp]
      exact ⟨(hCP.2.1 i (by omega)).2.2.2.1, (hDp _ (List.mem_of_getElem? hp)).2⟩
  have hz0 : upTo 0 (L.zip w.2) (qr (atI pcs 0)) = ((0 : Int) : Rat) := by rw [atI_zero, qr_zero, upTo_at0 hgd]; rfl
  simp (maxSteps := 4000000) -implicitDefEqProofs -dsimp (disch := omega) only [↓AW_ops, ↓AW_seq, ↓AW_cond, ↓AW_block, ↓AW_exit, ↓AOps_nil, ↓AOps_pu, on_some, condB_f, ↓then_normal, ↓then_exit, ↓inBlock_exit, pval, rd_S, rd_C, put_S, ↓AW_toLoop, chkd, isAdr, bgot, AV.cells?, partA, eq_self, mk, List.foldl_cons, List.foldl_nil, List.replicate_succ, List.replicate_zero, List.set_cons_zero, List.set_cons_succ, List.getElem?_cons_zero, List.getElem?_cons_succ, List.drop_zero, List.take_zero, List.take_succ_cons, Option.getD_some, List.length_cons, List.length_nil, Nat.reduceAdd, Nat.reduceLeDiff, Nat.zero_add, bin_lss, if_true, if_false, Bool.false_eq_true, decide_false, hlt', hL.len]
  refine LoopK.by 123 (fun z : Nat × AHeap => z.1 ≤ pcs.length ∧ A <+: z.2) (fun z => [(1, v), (2, I k), (3, .agg [x, y]), (7, R (upTo 0 (L.zip w.2) (qr (atI pcs z.1)))), (8, I L.sum), (10, I z.1)]) (fun z => z.2) (fun z => pcs.length - z.1) (0, A) ⟨by omega, List.prefix_refl _⟩ rfl (by simp only [Has, hz0]; simp [rd_s]) rfl ?_
  rintro ⟨j, H⟩ ⟨hj, hpre⟩
  simp only at hj hpre
  have hL1 := hL.mono hpre
  have hV1 := hV.mono hpre
  have hP1 := hP.mono hpre
  by_cases hlt : j < pcs.length
  · obtain ⟨p, hz⟩ : ∃ z, pcs[j]? = some z := ⟨_, List.getElem?_eq_getElem hlt⟩
    have hlt' : (j : Int) < pcs.length := by omega
    obtain ⟨wr, wsn⟩ := hW p (List.mem_of_getElem? hz)
    have hcp := hCP.2.1 j hlt
    have hpe : pcs[j] = p := (List.getElem?_eq_some_iff.1 hz).2
    rw [hpe] at hcp
    obtain ⟨c1, c2, c3, c4, c5, c6⟩ := hcp
    have hwe := wE_ok hoE c3 c4 c6
    have h24 := s24 hL1 hV1 hs k p.r p.s wr wsn
    rw [wV, hwe, if_pos rfl, hf] at h24
    obtain ⟨_, _, _, p1⟩ := isK_R hg c3
    obtain ⟨_, _, _, p2⟩ := isK_R hg c4
    have p1 := p1 _ hmr
    have p2 := p2 _ hmr
    obtain ⟨d1, d2⟩ := hDp p (List.mem_of_getElem? hz)
    have b1 := upTo_bounds hgd 0 (qr p.r)
    have b2 := upTo_bounds hgd 0 (qr p.s)
    have hmo := upTo_mono (Rat.not_lt.1 c6) (L.zip w.2) 0 hgd.2
    have w0 : 0 ≤ upTo 0 (L.zip w.2) (qr p.s) - upTo 0 (L.zip w.2) (qr p.r) := by grind
    have w1 : upTo 0 (L.zip w.2) (qr p.s) - upTo 0 (L.zip w.2) (qr p.r) ≤ ((2400 : Int) : Rat) := by grind
    have dw := (upTo_Dv d2 (L.zip w.2) 0).sub (upTo_Dv d1 (L.zip w.2) 0)
    have nw := num_le (M := 2400) hD.1 dw (int_neg_le_zero (by omega) w0) w1
    have ns := num_le (M := 2400) hD.1 (upTo_Dv d1 (L.zip w.2) 0) (int_neg_le_zero (by omega) b1.1) b1.2
    have hw0 := Rat.num_nonneg.2 w0
    have hs0 := Rat.num_nonneg.2 b1.1
    rw [← c5]
    generalize hwd : upTo 0 (L.zip w.2) (qr p.s) - upTo 0 (L.zip w.2) (qr p.r) = wq at *
    generalize hsd : upTo 0 (L.zip w.2) (qr p.r) = sq at *
    have dwp := den_pos wq
    have dsp := den_pos sq
    have q1 : ¬ (wq.den : Int) < 1 := by omega
    have q2 : ¬ (sq.den : Int) < 1 := by omega
    have q3 : ¬ wq.num < 0 := by omega
    simp (maxSteps := 4000000) -implicitDefEqProofs -dsimp (disch := omega) only [↓AW_skip, ↓AW_ops, ↓AW_seq, ↓AW_cond, ↓AW_block, ↓AOps_nil, ↓AOps_pu, ↓AOps_ld, ↓AOps_call, on_some, condB_t, ↓then_normal, pval, lval, rd_S, put_S, chkd, bgot, partA, eq_self, mk, List.foldl_cons, List.foldl_nil, List.replicate_succ, List.replicate_zero, List.set_cons_zero, List.set_cons_succ, List.getElem?_cons_zero, List.getElem?_cons_succ, List.drop_zero, List.drop_succ_cons, List.take_zero, List.take_succ_cons, List.take_nil, Option.getD_some, map_c, map_n, List.length_cons, List.length_nil, Nat.reduceAdd, Nat.reduceLeDiff, Nat.reduceEqDiff, Nat.zero_add, bin_lss, if_true, if_false, decide_true, hlt', hP1.len, hP1.idx hlt, hP1.ld hz 2 1 true (by decide), hP1.ld hz 2 3 true (by decide), e5]
    refine CallK.of h24 ?_
    simp (maxSteps := 4000000) -implicitDefEqProofs -dsimp (disch := omega) only [↓AW_ops, ↓AW_seq, ↓AOps_nil, ↓AOps_pu, ↓AOps_ha, ↓AOps_call, ↓AOps_guard, on_some, extK_app, extK_same, guardB_ff, ↓then_normal, pval, hval, rd_S, rd_C, put_S, chkd, isAdr, bput, bgot, AV.cells?, splice, partA, fillA, repl, eq_self, mk, List.foldl_cons, List.foldl_nil, List.replicate_succ, List.replicate_zero, List.set_cons_zero, List.set_cons_succ, List.getElem?_cons_zero, List.getElem?_cons_succ, List.drop_zero, List.drop_succ_cons, List.drop_nil, List.take_zero, List.take_succ_cons, List.take_nil, Option.getD_some, map_c, map_n, List.length_cons, List.length_nil, Nat.reduceAdd, Nat.reduceLeDiff, Nat.reduceEqDiff, Nat.zero_add, List.cons_append, List.nil_append, List.append_nil, bin_neq, bin_lss, if_true, if_false, Bool.false_eq_true, decide_false, and_true, ne_eq, not_true_eq_false, R, q1, q2]
    refine CallK.of (c_fair (L2_two' H wq sq) (by simp) (fun r hr => ?_)) ?_
    · simp only [List.mem_cons, List.not_mem_nil, or_false] at hr
      rcases hr with rfl | rfl
      · exact ⟨by show 1 ≤ (wq.den : Int) ∧ (wq.den : Int) ≤ 4294967296; omega, by show -35184372088832 ≤ wq.num ∧ wq.num ≤ 35184372088832; omega⟩
      · exact ⟨by show 1 ≤ (sq.den : Int) ∧ (sq.den : Int) ≤ 4294967296; omega, by show -35184372088832 ≤ sq.num ∧ sq.num ≤ 35184372088832; omega⟩
    simp (maxSteps := 4000000) -implicitDefEqProofs -dsimp (disch := omega) only [↓AW_skip, ↓AW_ops, ↓AW_cond, ↓AOps_nil, ↓AOps_pu, ↓AOps_call, ↓AOps_guard, on_some, extK_same, guardB_ff, condB_f, ↓then_normal, pval, rd_S, rd_C, put_S, chkd, isAdr, bgot, AV.cells?, partA, eq_self, mk, List.foldl_cons, List.foldl_nil, List.replicate_succ, List.replicate_zero, List.set_cons_zero, List.set_cons_succ, List.getElem?_cons_zero, List.getElem?_cons_succ, List.drop_zero, List.take_zero, List.take_succ_cons, List.take_nil, Option.getD_some, map_c, map_n, List.length_cons, List.length_nil, Nat.reduceAdd, Nat.reduceLeDiff, Nat.reduceEqDiff, Nat.zero_add, bin_lss, if_true, if_false, Bool.false_eq_true, Bool.not_true, decide_false, q3]
    have hadd := s37 sq wq (H ++ [.cells true [I wq.num, I (wq.den : Int), I sq.num, I (sq.den : Int)]]) ⟨by omega, by omega⟩ ⟨by omega, by omega⟩
    unfold R at hadd
    refine CallK.of (hadd) ?_
    simp (maxSteps := 4000000) -implicitDefEqProofs -dsimp (disch := omega) only [↓AW_ops, ↓AOps_nil, ↓AOps_pu, on_some, extK_same, ↓then_normal, ↓inBlock_normal, pval, rd_S, rd_C, put_S, chkd, bput, AV.cells?, splice, eq_self, mk, List.foldl_cons, List.foldl_nil, List.replicate_succ, List.replicate_zero, List.set_cons_zero, List.set_cons_succ, List.getElem?_cons_zero, List.getElem?_cons_succ, List.drop_succ_cons, List.drop_nil, List.take_zero, Option.getD_some, List.length_cons, List.length_nil, Nat.reduceAdd, Nat.reduceLeDiff, Nat.zero_add, List.nil_append, List.append_nil, bin_add, w64, if_true, if_false, true_and, ne_eq, not_true_eq_false]
    have hnx : upTo 0 (L.zip w.2) (qr (atI pcs (j + 1))) = sq + wq := by rw [atI_succ hz]; grind
    exact ⟨(j + 1, _), ⟨hlt, hpre.trans (pre_app _ _)⟩, by simp [Has, rd_s, hnx, R], rfl, by simp only; omega⟩
  have hlt' : ¬ ((j : Int) < pcs.length) := by omega
  have hjE : j = pcs.length := by omega
  subst hjE
  have hlast := hCP.2.2.1
  rw [hlast, qr_one]
  obtain ⟨i1, i2⟩ := isK_ends hg
  have hne : ¬ qr (L.sum, 1) < qr (0, 1) := by
    rw [qr_one, qr_zero]
    exact Rat.not_lt.2 (Rat.intCast_le_intCast.2 (by omega))
  have hwe := wE_ok hoE i1 i2 hne
  have h24 := s24 hL1 hV1 hs k (0, 1) (L.sum, 1) (by simp only; omega) (by simp only; omega)
  rw [wV, hwe, if_pos rfl, hf, qr_one, qr_zero, upTo_at0 hgd] at h24
  have hsub : upTo 0 (L.zip w.2) ((L.sum : Int) : Rat) - 0 = upTo 0 (L.zip w.2) ((L.sum : Int) : Rat) := by grind
  rw [hsub] at h24
  simp (maxSteps := 4000000) -implicitDefEqProofs -dsimp (disch := omega) only [↓AW_ops, ↓AW_seq, ↓AW_cond, ↓AW_exit, ↓AOps_nil, ↓AOps_pu, ↓AOps_call, on_some, condB_f, ↓then_normal, ↓then_exit, ↓inBlock_exit, pval, rd_S, rd_C, put_S, chkd, bgot, partA, eq_self, mk, List.foldl_cons, List.foldl_nil, List.replicate_succ, List.replicate_zero, List.set_cons_zero, List.set_cons_succ, List.getElem?_cons_zero, List.getElem?_cons_succ, List.drop_zero, List.take_succ_cons, List.take_nil, Option.getD_some, map_c, map_n, List.length_cons, List.length_nil, Nat.reduceAdd, Nat.reduceLeDiff, Nat.reduceEqDiff, Nat.zero_add, bin_lss, if_true, if_false, decide_false, hlt', hP1.len]
  refine CallK.of (s36 _ _) ?_
  simp (maxSteps := 4000000) -implicitDefEqProofs -dsimp (disch := omega) only [↓AOps_pu, ↓AOps_call, on_some, extK_same, pval, rd_S, put_S, mk, List.foldl_cons, List.foldl_nil, List.replicate_succ, List.replicate_zero, List.set_cons_zero, List.set_cons_succ, List.getElem?_cons_zero, List.getElem?_cons_succ, Option.getD_some, map_c, map_n]
  refine CallK.of (s36 _ _) ?_
  simp (maxSteps := 4000000) -implicitDefEqProofs -dsimp (disch := omega) only [↓AOps_call, extK_same, rd_S, put_S, mk, List.foldl_cons, List.foldl_nil, List.replicate_succ, List.replicate_zero, List.set_cons_zero, List.set_cons_succ, List.getElem?_cons_zero, List.getElem?_cons_succ, Option.getD_some, map_c, map_n]
  rw [R_int, R_int]
  refine CallK.of h24 ?_
  simp (maxSteps := 4000000) -implicitDefEqProofs -dsimp (disch := omega) only [↓AW_ops, ↓AW_seq, ↓AOps_nil, ↓AOps_pu, ↓AOps_call, ↓AOps_guard, on_some, extK_same, guardB_tt, ↓then_normal, pval, rd_S, rd_C, put_S, chkd, bput, bgot, AV.cells?, splice, partA, eqc, beq_self_eq_true, eq_self, mk, List.foldl_cons, List.foldl_nil, List.replicate_succ, List.replicate_zero, List.set_cons_zero, List.set_cons_succ, List.getElem?_cons_zero, List.getElem?_cons_succ, List.drop_zero, List.drop_succ_cons, List.drop_nil, List.take_zero, List.take_succ_cons, List.take_nil, Option.getD_some, Option.map_some, map_n, List.length_cons, List.length_nil, Nat.reduceAdd, Nat.reduceLeDiff, Nat.reduceEqDiff, Nat.zero_add, List.nil_append, List.append_nil, bin_eql, if_true, if_false, Bool.false_eq_true, Bool.true_and, decide_true, ne_eq, not_true_eq_false, R]
  refine CallK.of (known H) ?_
  simp (maxSteps := 4000000) -implicitDefEqProofs -dsimp (disch := omega) only [↓AW_ret, ↓AOps_nil, ↓AOps_pu, on_some, extK_same, ↓then_normal, ↓Fin_ret, pval, rd_S, rd_C, put_S, resV, resL, eq_self, mk, List.foldl_cons, List.foldl_nil, List.replicate_succ, List.replicate_zero, List.set_cons_zero, List.set_cons_succ, List.getElem?_cons_zero, List.getElem?_cons_succ, Option.getD_some, if_true]
  exact gc_val hpre rfl
end
end Go.Proofs.Ytmblehbjedpjoaa

namespace Go.Proofs.Ytmblehbjedpjoaa
open Go Go.Eng
theorem AOK.pcs {H : AHeap} {v : AV} (h : AOK H (.sl 5 [.int .i64, .int .i64, .int .i64, .int .i64, .int .i64]) v) : ∃ xs : List Pc, L5 H v xs ∧ ∀ p ∈ xs, W p.r.1 ∧ W p.s.1 := by
  cases h with
  | nil => exact ⟨[], ⟨e5_len, rfl⟩, by simp⟩
  | sl _ _ n len l h1 h2 h3 _ h5 =>
    have key : ∀ (k : Nat) (l : List AV), l.length = k * 5 → (∀ x ∈ l, ∃ n, x = I n ∧ -9223372036854775808 ≤ n ∧ n ≤ 9223372036854775807) → ∃ xs : List Pc, l = xs.flatMap e5 ∧ xs.length = k ∧ ∀ p ∈ xs, W p.r.1 ∧ W p.s.1 := by
      intro k
      induction k with
      | zero => intro l hl _; exact ⟨[], by simpa using hl, rfl, by simp⟩
      | succ k ih =>
        intro l hl h
        match l, hl with
        | a :: b :: c :: d :: f :: l, hl =>
          obtain ⟨xs, g1, g2, g3⟩ := ih l (by simp at hl; omega) (fun x hx => h x (by simp [hx]))
          obtain ⟨a, rfl, ha⟩ := h a (by simp)
          obtain ⟨b, rfl, hb⟩ := h b (by simp)
          obtain ⟨c, rfl, hc⟩ := h c (by simp)
          obtain ⟨d, rfl, hd⟩ := h d (by simp)
          obtain ⟨f, rfl, hf⟩ := h f (by simp)
          refine ⟨⟨a, (b, c), (d, f)⟩ :: xs, by simp [g1, e5], by simp [g2], fun x hx => ?_⟩
          rcases List.mem_cons.1 hx with rfl | hx
          · exact ⟨hb, hd⟩
          · exact g3 x hx
        | [], hl => simp at hl
        | [_], hl => simp at hl; omega
        | [_, _], hl => simp at hl; omega
        | [_, _, _], hl => simp at hl; omega
        | [_, _, _, _], hl => simp at hl; omega
    obtain ⟨xs, g1, g2, g3⟩ := key len l h3 (fun x hx => by
      obtain ⟨i, hi, hie⟩ := List.mem_iff_getElem.1 hx
      have hxi : l[i / 5 * 5 + i % 5]? = some x := by rw [Nat.div_add_mod', List.getElem?_eq_getElem hi, hie]
      have hk : ([CK.int .i64, CK.int .i64, CK.int .i64, CK.int .i64, CK.int .i64] : List CK)[i % 5]? = some (.int .i64) := by
        have := Nat.mod_lt i (show 0 < 5 by omega)
        rcases (show i % 5 = 0 ∨ i % 5 = 1 ∨ i % 5 = 2 ∨ i % 5 = 3 ∨ i % 5 = 4 by omega) with h | h | h | h | h <;> rw [h] <;> rfl
      have := h5 (i / 5) (i % 5) x (.int .i64) (by omega) (by omega) hxi hk
      obtain ⟨n, rfl, hn⟩ := this.int_inv
      exact ⟨n, rfl, wf64 hn⟩)
    refine ⟨xs, ⟨e5_len, ?_⟩, g3⟩
    simp only [slCells, cellsAt, h2, if_true, Nat.zero_add]
    rw [if_pos (by omega)]
    simp [g2, ← g1, ← h3, List.take_length]
theorem ArgA.pcs {H : AHeap} {v : AV} (h : ArgA H (false, [.sl 5 [.int .i64, .int .i64, .int .i64, .int .i64, .int .i64]]) v) : ∃ xs : List Pc, L5 H v xs ∧ ∀ p ∈ xs, W p.r.1 ∧ W p.s.1 := by
  obtain ⟨k, hk, h⟩ := h
  cases hk
  exact AOK.pcs h
end Go.Proofs.Ytmblehbjedpjoaa

