import Derived.Test.YtnnbggcckabhdaaEng20
import Derived.Test.YtnnbggcckabhdaaRows
namespace Go.Proofs.Ytnnbggcckabhdaa
open Go Go.Eng
/-- selion/soil.Length [] -/
def m31 : MFun := ⟨12, [], [.mov (.s 2), .mov (.s 3)],
 .seq (.ops [⟨(some 2), some undefA, none, false, .pu (.mov (.c (.int .i64 0)))⟩,
   ⟨(some 3), some undefA, none, false, .pu (.mov (.c (.int .i64 0)))⟩])
 (.seq (.seq (.ops [⟨(some 5), some undefA, none, false, .pu (.mov (.s 0))⟩,
   ⟨(some 6), some undefA, none, false, .call 37 [(.s 5)]⟩,
   ⟨(some 4), some undefA, none, false, .pu (.mov (.s 6))⟩])
 (.seq (.ops [⟨(some 7), some undefA, none, false, .pu (.mov (.s 4))⟩,
   ⟨(some 8), some undefA, none, false, .pu (.bin .neq (.s 7) (.c (.int .i64 0)))⟩])
 (.cond (.s 8) (.seq (.ops [⟨(some 9), some undefA, none, false, .pu (.mov (.s 4))⟩,
    ⟨(some 2), some undefA, none, false, .pu (.mov (.c (.int .i64 0)))⟩,
    ⟨(some 3), some undefA, none, false, .pu (.mov (.s 9))⟩])
  (.ret))
 (.skip))))
 (.seq (.ops [⟨(some 10), some undefA, none, false, .pu (.mov (.s 0))⟩,
   ⟨(some 11), some undefA, none, false, .call 77 [(.s 10)]⟩,
   ⟨(some 2), some undefA, none, false, .pu (.mov (.s 11))⟩,
   ⟨(some 3), some undefA, none, false, .pu (.mov (.c (.int .i64 0)))⟩])
 (.ret)))⟩
theorem t31 : trF Try.prog [] [] Try.f31 = some m31 := by kernel_rfl

/-- selion/selionref02.Length [] -/
def m32 : MFun := ⟨13, [], [.mov (.s 2), .mov (.s 3)],
 .seq (.ops [⟨(some 2), some undefA, none, false, .pu (.mov (.c (.int .i64 0)))⟩,
   ⟨(some 3), some undefA, none, false, .pu (.mov (.c (.int .i64 0)))⟩])
 (.seq (.ops [⟨(some 5), some undefA, none, false, .pu (.mov (.s 0))⟩,
   ⟨(some 6), some undefA, none, false, .call 38 [(.s 5)]⟩,
   ⟨(some 4), some undefA, none, false, .pu (.mov (.s 6))⟩])
 (.seq (.seq (.ops [⟨(some 7), some undefA, none, false, .pu (.mov (.s 4))⟩,
   ⟨(some 8), some undefA, none, false, .pu (.bin .neq (.s 7) (.c (.int .i64 0)))⟩])
 (.cond (.s 8) (.seq (.ops [⟨(some 9), some undefA, none, false, .pu (.mov (.s 4))⟩,
    ⟨(some 2), some undefA, none, false, .pu (.mov (.c (.int .i64 0)))⟩,
    ⟨(some 3), some undefA, none, false, .pu (.mov (.s 9))⟩])
  (.ret))
 (.skip)))
 (.seq (.ops [⟨(some 10), some undefA, none, false, .pu (.mov (.s 0))⟩,
   ⟨(some 11), some undefA, none, false, .call 68 [(.s 10)]⟩,
   ⟨(some 12), some undefA, none, false, .pu (.len (.s 11))⟩,
   ⟨(some 2), some undefA, none, false, .pu (.mov (.s 12))⟩,
   ⟨(some 3), some undefA, none, false, .pu (.mov (.c (.int .i64 0)))⟩])
 (.ret))))⟩
theorem t32 : trF Try.prog [] [] Try.f32 = some m32 := by kernel_rfl

/-- selion/soil.Total [] -/
def m33 : MFun := ⟨12, [], [.mov (.s 2), .mov (.s 3)],
 .seq (.ops [⟨(some 2), some undefA, none, false, .pu (.mov (.c (.int .i64 0)))⟩,
   ⟨(some 3), some undefA, none, false, .pu (.mov (.c (.int .i64 0)))⟩])
 (.seq (.seq (.ops [⟨(some 5), some undefA, none, false, .pu (.mov (.s 0))⟩,
   ⟨(some 6), some undefA, none, false, .call 37 [(.s 5)]⟩,
   ⟨(some 4), some undefA, none, false, .pu (.mov (.s 6))⟩])
 (.seq (.ops [⟨(some 7), some undefA, none, false, .pu (.mov (.s 4))⟩,
   ⟨(some 8), some undefA, none, false, .pu (.bin .neq (.s 7) (.c (.int .i64 0)))⟩])
 (.cond (.s 8) (.seq (.ops [⟨(some 9), some undefA, none, false, .pu (.mov (.s 4))⟩,
    ⟨(some 2), some undefA, none, false, .pu (.mov (.c (.int .i64 0)))⟩,
    ⟨(some 3), some undefA, none, false, .pu (.mov (.s 9))⟩])
  (.ret))
 (.skip))))
 (.seq (.ops [⟨(some 10), some undefA, none, false, .pu (.mov (.s 0))⟩,
   ⟨(some 11), some undefA, none, false, .call 65 [(.s 10)]⟩,
   ⟨(some 2), some undefA, none, false, .pu (.mov (.s 11))⟩,
   ⟨(some 3), some undefA, none, false, .pu (.mov (.c (.int .i64 0)))⟩])
 (.ret)))⟩
theorem t33 : trF Try.prog [] [] Try.f33 = some m33 := by kernel_rfl

/-- selion/selionref02.Total [] -/
def m34 : MFun := ⟨12, [], [.mov (.s 2), .mov (.s 3)],
 .seq (.ops [⟨(some 2), some undefA, none, false, .pu (.mov (.c (.int .i64 0)))⟩,
   ⟨(some 3), some undefA, none, false, .pu (.mov (.c (.int .i64 0)))⟩])
 (.seq (.ops [⟨(some 5), some undefA, none, false, .pu (.mov (.s 0))⟩,
   ⟨(some 6), some undefA, none, false, .call 38 [(.s 5)]⟩,
   ⟨(some 4), some undefA, none, false, .pu (.mov (.s 6))⟩])
 (.seq (.seq (.ops [⟨(some 7), some undefA, none, false, .pu (.mov (.s 4))⟩,
   ⟨(some 8), some undefA, none, false, .pu (.bin .neq (.s 7) (.c (.int .i64 0)))⟩])
 (.cond (.s 8) (.seq (.ops [⟨(some 9), some undefA, none, false, .pu (.mov (.s 4))⟩,
    ⟨(some 2), some undefA, none, false, .pu (.mov (.c (.int .i64 0)))⟩,
    ⟨(some 3), some undefA, none, false, .pu (.mov (.s 9))⟩])
  (.ret))
 (.skip)))
 (.seq (.ops [⟨(some 10), some undefA, none, false, .pu (.mov (.s 0))⟩,
   ⟨(some 11), some undefA, none, false, .call 70 [(.s 10)]⟩,
   ⟨(some 2), some undefA, none, false, .pu (.mov (.s 11))⟩,
   ⟨(some 3), some undefA, none, false, .pu (.mov (.c (.int .i64 0)))⟩])
 (.ret))))⟩
theorem t34 : trF Try.prog [] [] Try.f34 = some m34 := by kernel_rfl

/-- selion/soil.Mean [] -/
def m35 : MFun := ⟨16, [2], [.bget none 2 0 2 true, .mov (.s 3)],
 .seq (.ops [⟨(some 2), some (.junk), none, false, .pu (.bnew (.c (.agg [.int .i64 0, .int .i64 0])))⟩,
   ⟨(some 3), some undefA, none, false, .pu (.mov (.c (.int .i64 0)))⟩])
 (.seq (.seq (.ops [⟨(some 5), some undefA, none, false, .pu (.mov (.s 0))⟩,
   ⟨(some 6), some undefA, none, false, .call 37 [(.s 5)]⟩,
   ⟨(some 4), some undefA, none, false, .pu (.mov (.s 6))⟩])
 (.seq (.ops [⟨(some 7), some undefA, none, false, .pu (.mov (.s 4))⟩,
   ⟨(some 8), some undefA, none, false, .pu (.bin .neq (.s 7) (.c (.int .i64 0)))⟩])
 (.cond (.s 8) (.seq (.ops [⟨(some 9), some undefA, none, false, .pu (.build [.int .i64 0, .int .i64 0] [])⟩,
    ⟨(some 10), some undefA, none, false, .pu (.mov (.s 4))⟩,
    ⟨(some 2), none, none, false, .pu (.bset none 2 0 2 (.s 9))⟩,
    ⟨(some 3), some undefA, none, false, .pu (.mov (.s 10))⟩])
  (.ret))
 (.skip))))
 (.seq (.ops [⟨(some 11), some undefA, none, false, .pu (.mov (.s 0))⟩,
   ⟨(some 12), some undefA, none, false, .call 65 [(.s 11)]⟩,
   ⟨(some 13), some undefA, none, false, .pu (.mov (.s 0))⟩,
   ⟨(some 14), some undefA, none, false, .call 77 [(.s 13)]⟩,
   ⟨(some 15), some undefA, none, false, .call 64 [(.s 12), (.s 14)]⟩,
   ⟨(some 2), none, none, false, .pu (.bset none 2 0 2 (.s 15))⟩,
   ⟨(some 3), some undefA, none, false, .pu (.mov (.c (.int .i64 0)))⟩])
 (.ret)))⟩
theorem t35 : trF Try.prog [2] [] Try.f35 = some m35 := by kernel_rfl

/-- selion/selionref02.Mean [] -/
def m36 : MFun := ⟨17, [2], [.bget none 2 0 2 true, .mov (.s 3)],
 .seq (.ops [⟨(some 2), some (.junk), none, false, .pu (.bnew (.c (.agg [.int .i64 0, .int .i64 0])))⟩,
   ⟨(some 3), some undefA, none, false, .pu (.mov (.c (.int .i64 0)))⟩])
 (.seq (.ops [⟨(some 5), some undefA, none, false, .pu (.mov (.s 0))⟩,
   ⟨(some 6), some undefA, none, false, .call 38 [(.s 5)]⟩,
   ⟨(some 4), some undefA, none, false, .pu (.mov (.s 6))⟩])
 (.seq (.seq (.ops [⟨(some 7), some undefA, none, false, .pu (.mov (.s 4))⟩,
   ⟨(some 8), some undefA, none, false, .pu (.bin .neq (.s 7) (.c (.int .i64 0)))⟩])
 (.cond (.s 8) (.seq (.ops [⟨(some 9), some undefA, none, false, .pu (.build [.int .i64 0, .int .i64 0] [])⟩,
    ⟨(some 10), some undefA, none, false, .pu (.mov (.s 4))⟩,
    ⟨(some 2), none, none, false, .pu (.bset none 2 0 2 (.s 9))⟩,
    ⟨(some 3), some undefA, none, false, .pu (.mov (.s 10))⟩])
  (.ret))
 (.skip)))
 (.seq (.ops [⟨(some 11), some undefA, none, false, .pu (.mov (.s 0))⟩,
   ⟨(some 12), some undefA, none, false, .call 70 [(.s 11)]⟩,
   ⟨(some 13), some undefA, none, false, .pu (.mov (.s 0))⟩,
   ⟨(some 14), some undefA, none, false, .call 68 [(.s 13)]⟩,
   ⟨(some 15), some undefA, none, false, .pu (.len (.s 14))⟩,
   ⟨(some 16), some undefA, none, false, .call 69 [(.s 12), (.s 15)]⟩,
   ⟨(some 2), none, none, false, .pu (.bset none 2 0 2 (.s 16))⟩,
   ⟨(some 3), some undefA, none, false, .pu (.mov (.c (.int .i64 0)))⟩])
 (.ret))))⟩
theorem t36 : trF Try.prog [2] [] Try.f36 = some m36 := by kernel_rfl

/-- selion/selionlaw02.SoilFields [] -/
def m7 : MFun := ⟨86, [11, 13], [.mov (.s 2)],
 .seq (.ops [⟨(some 2), some undefA, none, false, .pu (.mov (.c (.bool false)))⟩])
 (.seq (.seq (.ops [⟨(some 15), some undefA, none, false, .pu (.mov (.s 0))⟩,
   ⟨(some 16), some undefA, none, false, .call 18 [(.s 15), (.c (.nilS))]⟩])
 (.cond (.s 16) (.seq (.ops [⟨(some 17), some undefA, none, false, .call 19 []⟩,
    ⟨(some 2), some undefA, none, false, .pu (.mov (.s 17))⟩])
  (.ret))
 (.skip)))
 (.seq (.ops [⟨(some 19), some undefA, none, false, .pu (.mov (.s 0))⟩,
   ⟨(some 20), some undefA, none, false, .call 31 [(.s 19)]⟩,
   ⟨(some 18), some undefA, none, false, .pu (.mov (.s 20))⟩,
   ⟨(some 21), some undefA, none, false, .pu (.extr 0 (.s 18))⟩,
   ⟨(some 22), some undefA, none, false, .pu (.extr 1 (.s 18))⟩,
   ⟨(some 3), some undefA, none, false, .pu (.mov (.s 21))⟩,
   ⟨(some 4), some undefA, none, false, .pu (.mov (.s 22))⟩])
 (.seq (.ops [⟨(some 24), some undefA, none, false, .pu (.mov (.s 0))⟩,
   ⟨(some 25), some undefA, none, false, .call 32 [(.s 24)]⟩,
   ⟨(some 23), some undefA, none, false, .pu (.mov (.s 25))⟩,
   ⟨(some 26), some undefA, none, false, .pu (.extr 0 (.s 23))⟩,
   ⟨(some 27), some undefA, none, false, .pu (.extr 1 (.s 23))⟩,
   ⟨(some 5), some undefA, none, false, .pu (.mov (.s 26))⟩,
   ⟨(some 6), some undefA, none, false, .pu (.mov (.s 27))⟩])
 (.seq (.ops [⟨(some 29), some undefA, none, false, .pu (.mov (.s 0))⟩,
   ⟨(some 30), some undefA, none, false, .call 33 [(.s 29)]⟩,
   ⟨(some 28), some undefA, none, false, .pu (.mov (.s 30))⟩,
   ⟨(some 31), some undefA, none, false, .pu (.extr 0 (.s 28))⟩,
   ⟨(some 32), some undefA, none, false, .pu (.extr 1 (.s 28))⟩,
   ⟨(some 7), some undefA, none, false, .pu (.mov (.s 31))⟩,
   ⟨(some 8), some undefA, none, false, .pu (.mov (.s 32))⟩])
 (.seq (.ops [⟨(some 34), some undefA, none, false, .pu (.mov (.s 0))⟩,
   ⟨(some 35), some undefA, none, false, .call 34 [(.s 34)]⟩,
   ⟨(some 33), some undefA, none, false, .pu (.mov (.s 35))⟩,
   ⟨(some 36), some undefA, none, false, .pu (.extr 0 (.s 33))⟩,
   ⟨(some 37), some undefA, none, false, .pu (.extr 1 (.s 33))⟩,
   ⟨(some 9), some undefA, none, false, .pu (.mov (.s 36))⟩,
   ⟨(some 10), some undefA, none, false, .pu (.mov (.s 37))⟩])
 (.seq (.ops [⟨(some 39), some undefA, none, false, .pu (.mov (.s 0))⟩,
   ⟨(some 40), some undefA, none, false, .call 35 [(.s 39)]⟩,
   ⟨(some 38), some undefA, none, false, .pu (.mov (.s 40))⟩,
   ⟨(some 41), some undefA, none, false, .pu (.extr 0 (.s 38))⟩,
   ⟨(some 42), some undefA, none, false, .pu (.extr 1 (.s 38))⟩,
   ⟨(some 11), some (.junk), none, false, .pu (.bnew (.c (.agg [.int .i64 0, .int .i64 0])))⟩,
   ⟨(some 11), none, none, false, .pu (.bset none 11 0 2 (.s 41))⟩,
   ⟨(some 12), some undefA, none, false, .pu (.mov (.s 42))⟩])
 (.seq (.ops [⟨(some 44), some undefA, none, false, .pu (.mov (.s 0))⟩,
   ⟨(some 45), some undefA, none, false, .call 36 [(.s 44)]⟩,
   ⟨(some 43), some undefA, none, false, .pu (.mov (.s 45))⟩,
   ⟨(some 46), some undefA, none, false, .pu (.extr 0 (.s 43))⟩,
   ⟨(some 47), some undefA, none, false, .pu (.extr 1 (.s 43))⟩,
   ⟨(some 13), some (.junk), none, false, .pu (.bnew (.c (.agg [.int .i64 0, .int .i64 0])))⟩,
   ⟨(some 13), none, none, false, .pu (.bset none 13 0 2 (.s 46))⟩,
   ⟨(some 14), some undefA, none, false, .pu (.mov (.s 47))⟩])
 (.seq (.ops [⟨(some 48), some undefA, none, false, .pu (.mov (.s 0))⟩,
   ⟨(some 49), some undefA, none, false, .call 37 [(.s 48)]⟩,
   ⟨(some 50), some undefA, none, false, .pu (.mov (.s 0))⟩,
   ⟨(some 51), some undefA, none, false, .call 38 [(.s 50)]⟩,
   ⟨(some 52), some undefA, none, false, .pu (.bin .eql (.s 49) (.s 51))⟩,
   ⟨(some 53), some undefA, none, false, .pu (.mov (.s 52))⟩,
   ⟨(some 54), some undefA, (some (53, true)), false, .pu (.mov (.s 3))⟩,
   ⟨(some 55), some undefA, (some (53, true)), false, .pu (.mov (.s 5))⟩,
   ⟨(some 56), some undefA, (some (53, true)), false, .pu (.bin .eql (.s 54) (.s 55))⟩,
   ⟨(some 57), some undefA, none, false, .pu (.pick (.s 53) (.s 56) (.c (.bool false)))⟩,
   ⟨(some 58), some undefA, none, false, .pu (.mov (.s 57))⟩,
   ⟨(some 59), some undefA, (some (58, true)), false, .pu (.mov (.s 4))⟩,
   ⟨(some 60), some undefA, (some (58, true)), false, .pu (.mov (.s 6))⟩,
   ⟨(some 61), some undefA, (some (58, true)), false, .pu (.bin .eql (.s 59) (.s 60))⟩,
   ⟨(some 62), some undefA, none, false, .pu (.pick (.s 58) (.s 61) (.c (.bool false)))⟩,
   ⟨(some 63), some undefA, none, false, .pu (.mov (.s 62))⟩,
   ⟨(some 64), some undefA, (some (63, true)), false, .pu (.mov (.s 7))⟩,
   ⟨(some 65), some undefA, (some (63, true)), false, .pu (.mov (.s 9))⟩,
   ⟨(some 66), some undefA, (some (63, true)), false, .pu (.bin .eql (.s 64) (.s 65))⟩,
   ⟨(some 67), some undefA, none, false, .pu (.pick (.s 63) (.s 66) (.c (.bool false)))⟩,
   ⟨(some 68), some undefA, none, false, .pu (.mov (.s 67))⟩,
   ⟨(some 69), some undefA, (some (68, true)), false, .pu (.mov (.s 8))⟩,
   ⟨(some 70), some undefA, (some (68, true)), false, .pu (.mov (.s 10))⟩,
   ⟨(some 71), some undefA, (some (68, true)), false, .pu (.bin .eql (.s 69) (.s 70))⟩,
   ⟨(some 72), some undefA, none, false, .pu (.pick (.s 68) (.s 71) (.c (.bool false)))⟩,
   ⟨(some 73), some undefA, none, false, .pu (.mov (.s 72))⟩,
   ⟨(some 74), some undefA, (some (73, true)), false, .pu (.bget none 11 0 2 true)⟩,
   ⟨(some 75), some undefA, (some (73, true)), false, .pu (.bget none 13 0 2 true)⟩,
   ⟨(some 76), some undefA, (some (73, true)), false, .pu (.eqs false [true, true] (.s 74) (.s 75))⟩,
   ⟨(some 77), some undefA, none, false, .pu (.pick (.s 73) (.s 76) (.c (.bool false)))⟩,
   ⟨(some 78), some undefA, none, false, .pu (.mov (.s 77))⟩,
   ⟨(some 79), some undefA, (some (78, true)), false, .pu (.mov (.s 12))⟩,
   ⟨(some 80), some undefA, (some (78, true)), false, .pu (.mov (.s 14))⟩,
   ⟨(some 81), some undefA, (some (78, true)), false, .pu (.bin .eql (.s 79) (.s 80))⟩,
   ⟨(some 82), some undefA, none, false, .pu (.pick (.s 78) (.s 81) (.c (.bool false)))⟩,
   ⟨(some 83), some undefA, none, false, .pu (.mov (.s 82))⟩,
   ⟨(some 84), some undefA, (some (83, true)), false, .call 19 []⟩,
   ⟨(some 85), some undefA, none, false, .pu (.pick (.s 83) (.s 84) (.c (.bool false)))⟩,
   ⟨(some 2), some undefA, none, false, .pu (.mov (.s 85))⟩])
 (.ret)))))))))⟩
theorem t7 : trF Try.prog [11, 13] [] Try.f7 = some m7 := by kernel_rfl

/-- selion/selionlaw02.SoilWorths [] -/
def m4 : MFun := ⟨41, [3, 5, 7], [.mov (.s 4)],
 .seq (.ops [⟨(some 3), some (.junk), none, false, .pu (.bnew (.s 1))⟩,
   ⟨(some 4), some undefA, none, false, .pu (.mov (.c (.bool false)))⟩])
 (.seq (.seq (.ops [⟨(some 9), some undefA, none, false, .pu (.mov (.s 0))⟩,
   ⟨(some 10), some undefA, none, false, .call 18 [(.s 9), (.c (.nilS))]⟩])
 (.cond (.s 10) (.seq (.ops [⟨(some 11), some undefA, none, false, .call 19 []⟩,
    ⟨(some 4), some undefA, none, false, .pu (.mov (.s 11))⟩])
  (.ret))
 (.skip)))
 (.seq (.ops [⟨(some 13), some undefA, none, false, .pu (.mov (.s 0))⟩,
   ⟨(some 14), some undefA, none, false, .pu (.badr none 3)⟩,
   ⟨(some 15), some undefA, none, false, .pu (.bget (some 14) 3 0 2 true)⟩,
   ⟨(some 16), some undefA, none, false, .pu (.badr none 3)⟩,
   ⟨(some 17), some undefA, none, false, .pu (.bget (some 16) 3 2 2 true)⟩,
   ⟨(some 18), some undefA, none, false, .call 25 [(.s 13), (.s 15), (.s 17)]⟩,
   ⟨(some 12), some undefA, none, false, .pu (.mov (.s 18))⟩,
   ⟨(some 19), some undefA, none, false, .pu (.extr 0 (.s 12))⟩,
   ⟨(some 20), some undefA, none, false, .pu (.extr 1 (.s 12))⟩,
   ⟨(some 5), some (.junk), none, false, .pu (.bnew (.c (.agg [.int .i64 0, .int .i64 0])))⟩,
   ⟨(some 5), none, none, false, .pu (.bset none 5 0 2 (.s 19))⟩,
   ⟨(some 6), some undefA, none, false, .pu (.mov (.s 20))⟩])
 (.seq (.ops [⟨(some 22), some undefA, none, false, .pu (.mov (.s 0))⟩,
   ⟨(some 23), some undefA, none, false, .pu (.badr none 3)⟩,
   ⟨(some 24), some undefA, none, false, .pu (.bget (some 23) 3 0 2 true)⟩,
   ⟨(some 25), some undefA, none, false, .pu (.badr none 3)⟩,
   ⟨(some 26), some undefA, none, false, .pu (.bget (some 25) 3 2 2 true)⟩,
   ⟨(some 27), some undefA, none, false, .call 26 [(.s 22), (.s 24), (.s 26)]⟩,
   ⟨(some 21), some undefA, none, false, .pu (.mov (.s 27))⟩,
   ⟨(some 28), some undefA, none, false, .pu (.extr 0 (.s 21))⟩,
   ⟨(some 29), some undefA, none, false, .pu (.extr 1 (.s 21))⟩,
   ⟨(some 7), some (.junk), none, false, .pu (.bnew (.c (.agg [.int .i64 0, .int .i64 0])))⟩,
   ⟨(some 7), none, none, false, .pu (.bset none 7 0 2 (.s 28))⟩,
   ⟨(some 8), some undefA, none, false, .pu (.mov (.s 29))⟩])
 (.seq (.ops [⟨(some 30), some undefA, none, false, .pu (.bget none 5 0 2 true)⟩,
   ⟨(some 31), some undefA, none, false, .pu (.bget none 7 0 2 true)⟩,
   ⟨(some 32), some undefA, none, false, .pu (.eqs false [true, true] (.s 30) (.s 31))⟩,
   ⟨(some 33), some undefA, none, false, .pu (.mov (.s 32))⟩,
   ⟨(some 34), some undefA, (some (33, true)), false, .pu (.mov (.s 6))⟩,
   ⟨(some 35), some undefA, (some (33, true)), false, .pu (.mov (.s 8))⟩,
   ⟨(some 36), some undefA, (some (33, true)), false, .pu (.bin .eql (.s 34) (.s 35))⟩,
   ⟨(some 37), some undefA, none, false, .pu (.pick (.s 33) (.s 36) (.c (.bool false)))⟩,
   ⟨(some 38), some undefA, none, false, .pu (.mov (.s 37))⟩,
   ⟨(some 39), some undefA, (some (38, true)), false, .call 19 []⟩,
   ⟨(some 40), some undefA, none, false, .pu (.pick (.s 38) (.s 39) (.c (.bool false)))⟩,
   ⟨(some 4), some undefA, none, false, .pu (.mov (.s 40))⟩])
 (.ret)))))⟩
theorem t4 : trF Try.prog [3, 5, 7] [] Try.f4 = some m4 := by kernel_rfl

end Go.Proofs.Ytnnbggcckabhdaa
