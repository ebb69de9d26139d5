/- Functions of the program in the form of the evaluator, each with the fact that the loaded function is that. -/
import Derived.Test.YtglggojbbenobaaGreatDoorKC
import Derived.Test.YtglggojbbenobaaGreatDoorProg
import Derived.KernelRfl
set_option linter.all false
namespace Go.Ev.S
open Go.Proofs

def mvTab (n : Nat) : Bool := [33, 37].contains n

-- backstep/backsteplaw22.AsmFormats
def s_backsteplaw22_AsmFormats : SFunc := { nparams := 1, ntmps := 56, code := (.seq (.region 0 [{ dst := some 2, op := .mov (.c (.d (.bool false))), guard := none }] false [] [])
   (.seq (.seq (.region 1 [{ dst := some 11, op := .call 12 [], guard := none }, { dst := some 12, op := .un .not (.t 11), guard := none }] false [] [11]) (.cond (.t 12) (.seq
   (.region 2 [{ dst := some 2, op := .mov (.c (.d (.bool false))), guard := none }] false [] []) .ret) .skip)) (.seq (.seq
   (.region 3 [{ dst := some 13, op := .mov (.t 0), guard := none }, { dst := some 14, op := .len .sl (.t 13), guard := none },
   { dst := some 15, op := .bin .gtr .int (.t 14) (.c (.d (.int .i64 40))), guard := none }] false [] [13, 14]) (.cond (.t 15) (.seq
   (.region 4 [{ dst := some 2, op := .mov (.c (.d (.bool true))), guard := none }] false [] []) .ret) .skip)) (.seq
   (.region 5 [{ dst := some 17, op := .mov (.t 0), guard := none }, { dst := some 18, op := .call 13 [.t 17], guard := none },
   { dst := some 16, op := .mov (.t 18), guard := none }, { dst := some 19, op := .ext (.t 16) 0, guard := none }, { dst := some 20, op := .ext (.t 16) 1, guard := none },
   { dst := some 3, op := .mov (.t 19), guard := none }, { dst := some 4, op := .mov (.t 20), guard := none }] false [] [17, 18, 16, 19, 20]) (.seq
   (.region 6 [{ dst := some 22, op := .mov (.t 0), guard := none }, { dst := some 23, op := .call 14 [.t 22], guard := none },
   { dst := some 21, op := .mov (.t 23), guard := none }, { dst := some 24, op := .ext (.t 21) 0, guard := none }, { dst := some 25, op := .ext (.t 21) 1, guard := none },
   { dst := some 5, op := .mov (.t 24), guard := none }, { dst := some 6, op := .mov (.t 25), guard := none }] false [] [22, 23, 21, 24, 25]) (.seq
   (.region 7 [{ dst := some 27, op := .mov (.t 0), guard := none }, { dst := some 28, op := .call 15 [.t 27], guard := none },
   { dst := some 26, op := .mov (.t 28), guard := none }, { dst := some 29, op := .ext (.t 26) 0, guard := none }, { dst := some 30, op := .ext (.t 26) 1, guard := none },
   { dst := some 7, op := .mov (.t 29), guard := none }, { dst := some 8, op := .mov (.t 30), guard := none }] false [] [27, 28, 26, 29, 30]) (.seq
   (.region 8 [{ dst := some 32, op := .mov (.t 0), guard := none }, { dst := some 33, op := .call 16 [.t 32], guard := none },
   { dst := some 31, op := .mov (.t 33), guard := none }, { dst := some 34, op := .ext (.t 31) 0, guard := none }, { dst := some 35, op := .ext (.t 31) 1, guard := none },
   { dst := some 9, op := .mov (.t 34), guard := none }, { dst := some 10, op := .mov (.t 35), guard := none }] false [] [32, 33, 31, 34, 35]) (.seq
   (.region 9 [{ dst := some 36, op := .mov (.t 3), guard := none }, { dst := some 37, op := .mov (.t 5), guard := none },
   { dst := some 38, op := .bin .eql .str (.t 36) (.t 37), guard := none }, { dst := some 39, op := .mov (.t 38), guard := none },
   { dst := some 40, op := .mov (.t 4), guard := some (39, true) }, { dst := some 41, op := .mov (.t 6), guard := some (39, true) },
   { dst := some 42, op := .bin .eql .int (.t 40) (.t 41), guard := some (39, true) }, { dst := some 43, op := .pick (.t 39) (.t 42) (.c (.d (.bool false))), guard := none },
   { dst := some 44, op := .mov (.t 43), guard := none }, { dst := some 45, op := .mov (.t 7), guard := some (44, true) },
   { dst := some 46, op := .cnvBS (.t 45), guard := some (44, true) }, { dst := some 47, op := .mov (.t 9), guard := some (44, true) },
   { dst := some 48, op := .cnvBS (.t 47), guard := some (44, true) }, { dst := some 49, op := .bin .eql .str (.t 46) (.t 48), guard := some (44, true) },
   { dst := some 50, op := .pick (.t 44) (.t 49) (.c (.d (.bool false))), guard := none }, { dst := some 51, op := .mov (.t 50), guard := none },
   { dst := some 52, op := .mov (.t 8), guard := some (51, true) }, { dst := some 53, op := .mov (.t 10), guard := some (51, true) },
   { dst := some 54, op := .bin .eql .int (.t 52) (.t 53), guard := some (51, true) }, { dst := some 55, op := .pick (.t 51) (.t 54) (.c (.d (.bool false))), guard := none },
   { dst := some 2, op := .mov (.t 55), guard := none }] false [] [36, 37, 38, 39, 40, 41, 42, 43, 44, 45, 46, 47, 48, 49, 50, 51, 52, 53, 54, 55]) .ret)))))))), results := [.tmp 2] }
theorem c_backsteplaw22_AsmFormats : cFunc Tryz.prog mvTab 3 (dropOf [(1, [11]), (3, [13, 14]), (5, [17, 18, 16, 19, 20]), (6, [22, 23, 21, 24, 25]), (7, [27, 28, 26, 29, 30]), (8, [32, 33, 31, 34, 35]), (9, [36, 37, 38, 39, 40, 41, 42, 43, 44, 45, 46, 47, 48, 49, 50, 51, 52, 53, 54, 55])]) = some s_backsteplaw22_AsmFormats := by kernel_rfl

-- backstep/backsteplaw22.AsmParses
def s_backsteplaw22_AsmParses : SFunc := { nparams := 1, ntmps := 39, code := (.seq (.region 0 [{ dst := some 2, op := .mov (.c (.d (.bool false))), guard := none }] false [] [])
   (.seq (.seq (.region 1 [{ dst := some 9, op := .call 12 [], guard := none }, { dst := some 10, op := .un .not (.t 9), guard := none }] false [] [9]) (.cond (.t 10) (.seq
   (.region 2 [{ dst := some 2, op := .mov (.c (.d (.bool false))), guard := none }] false [] []) .ret) .skip)) (.seq (.seq
   (.region 3 [{ dst := some 11, op := .mov (.t 0), guard := none }, { dst := some 12, op := .len .str (.t 11), guard := none },
   { dst := some 13, op := .bin .gtr .int (.t 12) (.c (.d (.int .i64 600))), guard := none }] false [] [11, 12]) (.cond (.t 13) (.seq
   (.region 4 [{ dst := some 2, op := .mov (.c (.d (.bool true))), guard := none }] false [] []) .ret) .skip)) (.seq
   (.region 5 [{ dst := some 15, op := .mov (.t 0), guard := none }, { dst := some 16, op := .call 17 [.t 15], guard := none },
   { dst := some 14, op := .mov (.t 16), guard := none }, { dst := some 17, op := .ext (.t 14) 0, guard := none }, { dst := some 18, op := .ext (.t 14) 1, guard := none },
   { dst := some 19, op := .ext (.t 14) 2, guard := none }, { dst := some 3, op := .mov (.t 17), guard := none }, { dst := some 4, op := .mov (.t 18), guard := none },
   { dst := some 5, op := .mov (.t 19), guard := none }] false [] [15, 16, 14, 17, 18, 19]) (.seq (.region 6 [{ dst := some 21, op := .mov (.t 0), guard := none },
   { dst := some 22, op := .call 18 [.t 21], guard := none }, { dst := some 20, op := .mov (.t 22), guard := none }, { dst := some 23, op := .ext (.t 20) 0, guard := none },
   { dst := some 24, op := .ext (.t 20) 1, guard := none }, { dst := some 25, op := .ext (.t 20) 2, guard := none }, { dst := some 6, op := .mov (.t 23), guard := none },
   { dst := some 7, op := .mov (.t 24), guard := none }, { dst := some 8, op := .mov (.t 25), guard := none }] false [] [21, 22, 20, 23, 24, 25]) (.seq
   (.region 7 [{ dst := some 26, op := .mov (.t 3), guard := none }, { dst := some 27, op := .mov (.t 6), guard := none },
   { dst := some 28, op := .call 19 [.t 26, .t 27], guard := none }, { dst := some 29, op := .mov (.t 28), guard := none },
   { dst := some 30, op := .mov (.t 4), guard := some (29, true) }, { dst := some 31, op := .mov (.t 7), guard := some (29, true) },
   { dst := some 32, op := .bin .eql .int (.t 30) (.t 31), guard := some (29, true) }, { dst := some 33, op := .pick (.t 29) (.t 32) (.c (.d (.bool false))), guard := none },
   { dst := some 34, op := .mov (.t 33), guard := none }, { dst := some 35, op := .mov (.t 5), guard := some (34, true) },
   { dst := some 36, op := .mov (.t 8), guard := some (34, true) }, { dst := some 37, op := .bin .eql .int (.t 35) (.t 36), guard := some (34, true) },
   { dst := some 38, op := .pick (.t 34) (.t 37) (.c (.d (.bool false))), guard := none },
   { dst := some 2, op := .mov (.t 38), guard := none }] false [] [26, 27, 28, 29, 30, 31, 32, 33, 34, 35, 36, 37, 38]) .ret)))))), results := [.tmp 2] }
theorem c_backsteplaw22_AsmParses : cFunc Tryz.prog mvTab 4 (dropOf [(1, [9]), (3, [11, 12]), (5, [15, 16, 14, 17, 18, 19]), (6, [21, 22, 20, 23, 24, 25]), (7, [26, 27, 28, 29, 30, 31, 32, 33, 34, 35, 36, 37, 38])]) = some s_backsteplaw22_AsmParses := by kernel_rfl

-- backstep/backsteplaw22.AsmText
def s_backsteplaw22_AsmText : SFunc := { nparams := 1, ntmps := 39, code := (.seq (.region 0 [{ dst := some 2, op := .mov (.c (.d (.bool false))), guard := none }] false [] [])
   (.seq (.seq (.region 1 [{ dst := some 8, op := .call 12 [], guard := none }, { dst := some 9, op := .un .not (.t 8), guard := none }] false [] [8]) (.cond (.t 9) (.seq
   (.region 2 [{ dst := some 2, op := .mov (.c (.d (.bool false))), guard := none }] false [] []) .ret) .skip)) (.seq (.seq
   (.region 3 [{ dst := some 10, op := .mov (.t 0), guard := none }, { dst := some 11, op := .len .sl (.t 10), guard := none },
   { dst := some 12, op := .bin .gtr .int (.t 11) (.c (.d (.int .i64 40))), guard := none }] false [] [10, 11]) (.cond (.t 12) (.seq
   (.region 4 [{ dst := some 2, op := .mov (.c (.d (.bool true))), guard := none }] false [] []) .ret) .skip)) (.seq
   (.region 5 [{ dst := some 14, op := .mov (.t 0), guard := none }, { dst := some 15, op := .call 13 [.t 14], guard := none },
   { dst := some 13, op := .mov (.t 15), guard := none }, { dst := some 16, op := .ext (.t 13) 0, guard := none }, { dst := some 17, op := .ext (.t 13) 1, guard := none },
   { dst := some 3, op := .mov (.t 16), guard := none }, { dst := some 4, op := .mov (.t 17), guard := none }] false [] [14, 15, 13, 16, 17]) (.seq (.seq
   (.region 6 [{ dst := some 18, op := .mov (.t 4), guard := none }, { dst := some 19, op := .bin .neq .int (.t 18) (.c (.d (.int .i64 0))), guard := none }] false [] [18])
   (.cond (.t 19) (.seq (.region 7 [{ dst := some 20, op := .mov (.t 3), guard := none }, { dst := some 21, op := .bin .eql .str (.t 20) (.c (.d (.str []))), guard := none },
   { dst := some 2, op := .mov (.t 21), guard := none }] false [] [20, 21]) .ret) .skip)) (.seq (.region 8 [{ dst := some 23, op := .mov (.t 3), guard := none },
   { dst := some 24, op := .call 17 [.t 23], guard := none }, { dst := some 22, op := .mov (.t 24), guard := none }, { dst := some 25, op := .ext (.t 22) 0, guard := none },
   { dst := some 26, op := .ext (.t 22) 1, guard := none }, { dst := some 27, op := .ext (.t 22) 2, guard := none }, { dst := some 5, op := .mov (.t 25), guard := none },
   { dst := some 6, op := .mov (.t 26), guard := none }, { dst := some 7, op := .mov (.t 27), guard := none }] false [] [23, 24, 22, 25, 26, 27]) (.seq
   (.region 9 [{ dst := some 28, op := .mov (.t 7), guard := none }, { dst := some 29, op := .bin .eql .int (.t 28) (.c (.d (.int .i64 0))), guard := none },
   { dst := some 30, op := .mov (.t 29), guard := none }, { dst := some 31, op := .mov (.t 6), guard := some (30, true) },
   { dst := some 32, op := .bin .eql .int (.t 31) (.c (.d (.int .i64 0))), guard := some (30, true) },
   { dst := some 33, op := .pick (.t 30) (.t 32) (.c (.d (.bool false))), guard := none }, { dst := some 34, op := .mov (.t 33), guard := none },
   { dst := some 35, op := .mov (.t 5), guard := some (34, true) }, { dst := some 36, op := .mov (.t 0), guard := some (34, true) },
   { dst := some 37, op := .call 19 [.t 35, .t 36], guard := some (34, true) }, { dst := some 38, op := .pick (.t 34) (.t 37) (.c (.d (.bool false))), guard := none },
   { dst := some 2, op := .mov (.t 38), guard := none }] false [] [28, 29, 30, 31, 32, 33, 34, 35, 36, 37, 38]) .ret))))))), results := [.tmp 2] }
theorem c_backsteplaw22_AsmText : cFunc Tryz.prog mvTab 5 (dropOf [(1, [8]), (3, [10, 11]), (5, [14, 15, 13, 16, 17]), (6, [18]), (7, [20, 21]), (8, [23, 24, 22, 25, 26, 27]), (9, [28, 29, 30, 31, 32, 33, 34, 35, 36, 37, 38])]) = some s_backsteplaw22_AsmText := by kernel_rfl

-- backstep/backsteplaw22.AsmJoins
def s_backsteplaw22_AsmJoins : SFunc := { nparams := 2, ntmps := 77, code := (.seq (.region 0 [{ dst := some 4, op := .mov (.c (.d (.bool false))), guard := none }] false [] [])
   (.seq (.seq (.region 1 [{ dst := some 13, op := .call 12 [], guard := none }, { dst := some 14, op := .un .not (.t 13), guard := none }] false [] [13]) (.cond (.t 14) (.seq
   (.region 2 [{ dst := some 4, op := .mov (.c (.d (.bool false))), guard := none }] false [] []) .ret) .skip)) (.seq (.seq
   (.region 3 [{ dst := some 15, op := .mov (.t 0), guard := none }, { dst := some 16, op := .len .sl (.t 15), guard := none },
   { dst := some 17, op := .bin .gtr .int (.t 16) (.c (.d (.int .i64 40))), guard := none }, { dst := some 18, op := .mov (.t 17), guard := none },
   { dst := some 19, op := .mov (.t 1), guard := some (18, false) }, { dst := some 20, op := .len .str (.t 19), guard := some (18, false) },
   { dst := some 21, op := .bin .gtr .int (.t 20) (.c (.d (.int .i64 300))), guard := some (18, false) },
   { dst := some 22, op := .pick (.t 18) (.c (.d (.bool true))) (.t 21), guard := none }] false [] [15, 16, 17, 18, 19, 20, 21]) (.cond (.t 22) (.seq
   (.region 4 [{ dst := some 4, op := .mov (.c (.d (.bool true))), guard := none }] false [] []) .ret) .skip)) (.seq
   (.region 5 [{ dst := some 24, op := .mov (.t 0), guard := none }, { dst := some 25, op := .call 13 [.t 24], guard := none },
   { dst := some 23, op := .mov (.t 25), guard := none }, { dst := some 26, op := .ext (.t 23) 0, guard := none }, { dst := some 27, op := .ext (.t 23) 1, guard := none },
   { dst := some 5, op := .mov (.t 26), guard := none }, { dst := some 6, op := .mov (.t 27), guard := none }] false [] [24, 25, 23, 26, 27]) (.seq (.seq
   (.region 6 [{ dst := some 28, op := .mov (.t 6), guard := none }, { dst := some 29, op := .bin .neq .int (.t 28) (.c (.d (.int .i64 0))), guard := none }] false [] [28])
   (.cond (.t 29) (.seq (.region 7 [{ dst := some 4, op := .mov (.c (.d (.bool true))), guard := none }] false [] []) .ret) .skip)) (.seq
   (.region 8 [{ dst := some 31, op := .mov (.t 1), guard := none }, { dst := some 32, op := .call 17 [.t 31], guard := none },
   { dst := some 30, op := .mov (.t 32), guard := none }, { dst := some 33, op := .ext (.t 30) 0, guard := none }, { dst := some 34, op := .ext (.t 30) 1, guard := none },
   { dst := some 35, op := .ext (.t 30) 2, guard := none }, { dst := some 7, op := .mov (.t 33), guard := none }, { dst := some 8, op := .mov (.t 34), guard := none },
   { dst := some 9, op := .mov (.t 35), guard := none }] false [] [31, 32, 30, 33, 34, 35]) (.seq (.region 9 [{ dst := some 37, op := .mov (.t 5), guard := none },
   { dst := some 38, op := .mov (.t 1), guard := none }, { dst := some 39, op := .bin .add .str (.t 37) (.t 38), guard := none },
   { dst := some 40, op := .call 17 [.t 39], guard := none }, { dst := some 36, op := .mov (.t 40), guard := none }, { dst := some 41, op := .ext (.t 36) 0, guard := none },
   { dst := some 42, op := .ext (.t 36) 1, guard := none }, { dst := some 43, op := .ext (.t 36) 2, guard := none }, { dst := some 10, op := .mov (.t 41), guard := none },
   { dst := some 11, op := .mov (.t 42), guard := none }, { dst := some 12, op := .mov (.t 43), guard := none }] false [] [37, 38, 39, 40, 36, 41, 42, 43]) (.seq (.seq
   (.region 10 [{ dst := some 44, op := .mov (.t 9), guard := none }, { dst := some 45, op := .bin .neq .int (.t 44) (.c (.d (.int .i64 0))), guard := none }] false [] [44])
   (.cond (.t 45) (.seq (.region 11 [{ dst := some 46, op := .mov (.t 12), guard := none }, { dst := some 47, op := .mov (.t 9), guard := none },
   { dst := some 48, op := .bin .eql .int (.t 46) (.t 47), guard := none }, { dst := some 49, op := .mov (.t 48), guard := none },
   { dst := some 50, op := .mov (.t 11), guard := some (49, true) }, { dst := some 51, op := .mov (.t 8), guard := some (49, true) },
   { dst := some 52, op := .mov (.t 0), guard := some (49, true) }, { dst := some 53, op := .len .sl (.t 52), guard := some (49, true) },
   { dst := some 54, op := .bin .add .int (.t 51) (.t 53), guard := some (49, true) }, { dst := some 55, op := .bin .eql .int (.t 50) (.t 54), guard := some (49, true) },
   { dst := some 56, op := .pick (.t 49) (.t 55) (.c (.d (.bool false))), guard := none }, { dst := some 57, op := .mov (.t 56), guard := none },
   { dst := some 58, op := .mov (.t 10), guard := some (57, true) }, { dst := some 59, op := .len .sl (.t 58), guard := some (57, true) },
   { dst := some 60, op := .bin .eql .int (.t 59) (.c (.d (.int .i64 0))), guard := some (57, true) },
   { dst := some 61, op := .pick (.t 57) (.t 60) (.c (.d (.bool false))), guard := none },
   { dst := some 4, op := .mov (.t 61), guard := none }] false [] [46, 47, 48, 49, 50, 51, 52, 53, 54, 55, 56, 57, 58, 59, 60, 61]) .ret) .skip)) (.seq
   (.region 12 [{ dst := some 62, op := .mov (.t 12), guard := none }, { dst := some 63, op := .bin .eql .int (.t 62) (.c (.d (.int .i64 0))), guard := none },
   { dst := some 64, op := .mov (.t 63), guard := none }, { dst := some 65, op := .mov (.t 11), guard := some (64, true) },
   { dst := some 66, op := .bin .eql .int (.t 65) (.c (.d (.int .i64 0))), guard := some (64, true) },
   { dst := some 67, op := .pick (.t 64) (.t 66) (.c (.d (.bool false))), guard := none }, { dst := some 68, op := .mov (.t 67), guard := none },
   { dst := some 69, op := .mov (.t 10), guard := some (68, true) }, { dst := some 70, op := .bsl 43 5 0 [], guard := some (68, true) },
   { dst := some 71, op := .mov (.t 0), guard := some (68, true) }, { dst := some 72, op := .app 43 5 40 (.t 70) (.t 71), guard := some (68, true) },
   { dst := some 73, op := .mov (.t 7), guard := some (68, true) }, { dst := some 74, op := .app 43 5 40 (.t 72) (.t 73), guard := some (68, true) },
   { dst := some 75, op := .call 19 [.t 69, .t 74], guard := some (68, true) }, { dst := some 76, op := .pick (.t 68) (.t 75) (.c (.d (.bool false))), guard := none },
   { dst := some 4, op := .mov (.t 76), guard := none }] false [] [62, 63, 64, 65, 66, 67, 68, 69, 70, 71, 72, 73, 74, 75, 76]) .ret))))))))), results := [.tmp 4] }
theorem c_backsteplaw22_AsmJoins : cFunc Tryz.prog mvTab 6 (dropOf [(1, [13]), (3, [15, 16, 17, 18, 19, 20, 21]), (5, [24, 25, 23, 26, 27]), (6, [28]), (8, [31, 32, 30, 33, 34, 35]), (9, [37, 38, 39, 40, 36, 41, 42, 43]), (10, [44]), (11, [46, 47, 48, 49, 50, 51, 52, 53, 54, 55, 56, 57, 58, 59, 60, 61]), (12, [62, 63, 64, 65, 66, 67, 68, 69, 70, 71, 72, 73, 74, 75, 76])]) = some s_backsteplaw22_AsmJoins := by kernel_rfl

-- backstep/backsteplaw22.AsmOrder
def s_backsteplaw22_AsmOrder : SFunc := { nparams := 1, ntmps := 60, code := (.seq (.region 0 [{ dst := some 1, op := .box 43 (.t 0), guard := none },
   { dst := some 2, op := .mov (.c (.d (.bool false))), guard := none }] false [] []) (.seq (.seq (.region 1 [{ dst := some 6, op := .call 12 [], guard := none },
   { dst := some 7, op := .un .not (.t 6), guard := none }] false [] [6]) (.cond (.t 7) (.seq
   (.region 2 [{ dst := some 2, op := .mov (.c (.d (.bool false))), guard := none }] false [] []) .ret) .skip)) (.seq
   (.region 3 [{ dst := some 9, op := .ld 5 true (.t 1), guard := none }, { dst := some 10, op := .bsl 43 5 1 [.t 9], guard := none },
   { dst := some 11, op := .call 13 [.t 10], guard := none }, { dst := some 8, op := .mov (.t 11), guard := none }, { dst := some 12, op := .ext (.t 8) 0, guard := none },
   { dst := some 13, op := .ext (.t 8) 1, guard := none }, { dst := some 3, op := .mov (.t 12), guard := none },
   { dst := some 4, op := .mov (.t 13), guard := none }] false [] [9, 10, 11, 8, 12, 13]) (.seq (.seq (.region 4 [{ dst := some 14, op := .ld 5 true (.t 1), guard := none },
   { dst := some 15, op := .call 20 [.t 14], guard := none }, { dst := some 16, op := .un .not (.t 15), guard := none }] false [] [14, 15]) (.cond (.t 16) (.seq
   (.region 5 [{ dst := some 17, op := .mov (.t 4), guard := none }, { dst := some 18, op := .bin .eql .int (.t 17) (.c (.d (.int .i64 3))), guard := none },
   { dst := some 19, op := .mov (.t 18), guard := none }, { dst := some 20, op := .mov (.t 3), guard := some (19, true) },
   { dst := some 21, op := .bin .eql .str (.t 20) (.c (.d (.str []))), guard := some (19, true) },
   { dst := some 22, op := .pick (.t 19) (.t 21) (.c (.d (.bool false))), guard := none },
   { dst := some 2, op := .mov (.t 22), guard := none }] false [] [17, 18, 19, 20, 21, 22]) .ret) .skip)) (.seq (.seq
   (.region 6 [{ dst := some 23, op := .mov (.t 4), guard := none }, { dst := some 24, op := .bin .neq .int (.t 23) (.c (.d (.int .i64 0))), guard := none },
   { dst := some 25, op := .mov (.t 24), guard := none }, { dst := some 26, op := .mov (.t 3), guard := some (25, false) },
   { dst := some 27, op := .len .str (.t 26), guard := some (25, false) }, { dst := some 28, op := .bin .eql .int (.t 27) (.c (.d (.int .i64 0))), guard := some (25, false) },
   { dst := some 29, op := .pick (.t 25) (.c (.d (.bool true))) (.t 28), guard := none }, { dst := some 30, op := .mov (.t 29), guard := none },
   { dst := some 31, op := .mov (.t 3), guard := some (30, false) }, { dst := some 32, op := .mov (.t 3), guard := some (30, false) },
   { dst := some 33, op := .len .str (.t 32), guard := some (30, false) }, { dst := some 34, op := .bin .sub .int (.t 33) (.c (.d (.int .i64 1))), guard := some (30, false) },
   { dst := some 35, op := .ixS (.t 31) (.t 34), guard := some (30, false) }, { dst := some 36, op := .bin .neq .int (.t 35) (.c (.d (.int .u8 10))), guard := some (30, false) },
   { dst := some 37, op := .pick (.t 30) (.c (.d (.bool true))) (.t 36), guard := none }] false [] [23, 24, 25, 26, 27, 28, 29, 30, 31, 32, 33, 34, 35, 36]) (.cond (.t 37) (.seq
   (.region 7 [{ dst := some 2, op := .mov (.c (.d (.bool false))), guard := none }] false [] []) .ret) .skip)) (.seq
   (.region 8 [{ dst := some 38, op := .mov (.t 3), guard := none }, { dst := some 39, op := .mov (.t 3), guard := none },
   { dst := some 40, op := .len .str (.t 39), guard := none }, { dst := some 41, op := .bin .sub .int (.t 40) (.c (.d (.int .i64 1))), guard := none },
   { dst := some 42, op := .slS (.t 38) none (some (.t 41)), guard := none }, { dst := some 43, op := .call 21 [.t 42], guard := none },
   { dst := some 5, op := .mov (.t 43), guard := none }] false [] [38, 39, 40, 41, 42, 43]) (.seq (.region 9 [{ dst := some 44, op := .mov (.t 5), guard := none },
   { dst := some 45, op := .len .sl (.t 44), guard := none }, { dst := some 46, op := .fa (.t 1) 0 0, guard := none }, { dst := some 47, op := .ld 1 false (.t 46), guard := none },
   { dst := some 48, op := .call 22 [.t 47], guard := none }, { dst := some 49, op := .bin .add .int (.t 48) (.c (.d (.int .i64 1))), guard := none },
   { dst := some 50, op := .bin .eql .int (.t 45) (.t 49), guard := none }, { dst := some 51, op := .mov (.t 50), guard := none },
   { dst := some 52, op := .mov (.t 5), guard := some (51, true) }, { dst := some 53, op := .ia 1 (.t 52) (.c (.d (.int .i64 0))), guard := some (51, true) },
   { dst := some 54, op := .ld 1 false (.t 53), guard := some (51, true) }, { dst := some 55, op := .fa (.t 1) 0 0, guard := some (51, true) },
   { dst := some 56, op := .ld 1 false (.t 55), guard := some (51, true) }, { dst := some 57, op := .call 23 [.t 56], guard := some (51, true) },
   { dst := some 58, op := .bin .eql .str (.t 54) (.t 57), guard := some (51, true) }, { dst := some 59, op := .pick (.t 51) (.t 58) (.c (.d (.bool false))), guard := none },
   { dst := some 2, op := .mov (.t 59), guard := none }] true [(0, 4), (1, 4), (8, 13), (9, 13), (10, 13)] [44, 45, 46, 47, 48, 49, 50, 51, 52, 53, 54, 55, 56, 57, 58, 59]) .ret))))))), results := [.tmp 2] }
theorem c_backsteplaw22_AsmOrder : cFunc Tryz.prog mvTab 7 (dropOf [(1, [6]), (3, [9, 10, 11, 8, 12, 13]), (4, [14, 15]), (5, [17, 18, 19, 20, 21, 22]), (6, [23, 24, 25, 26, 27, 28, 29, 30, 31, 32, 33, 34, 35, 36]), (8, [38, 39, 40, 41, 42, 43]), (9, [44, 45, 46, 47, 48, 49, 50, 51, 52, 53, 54, 55, 56, 57, 58, 59])]) = some s_backsteplaw22_AsmOrder := by kernel_rfl

-- backstep/backsteplaw22.AsmInverse
def s_backsteplaw22_AsmInverse_l0 : SCode := (.seq (.seq (.region 18 [{ dst := some 65, op := .mov (.t 12), guard := none }, { dst := some 66, op := .mov (.t 9), guard := none },
   { dst := some 67, op := .len .sl (.t 66), guard := none }, { dst := some 68, op := .bin .lss .int (.t 65) (.t 67), guard := none }] false [] [65, 66, 67])
   (.cond (.t 68) .skip (.exit 2))) (.seq (.block 3 (.region 20 [{ dst := some 71, op := .mov (.t 9), guard := none }, { dst := some 72, op := .mov (.t 12), guard := none },
   { dst := some 73, op := .mov (.t 9), guard := none }, { dst := some 74, op := .mov (.t 12), guard := none }, { dst := some 75, op := .ia 5 (.t 73) (.t 74), guard := none },
   { dst := some 76, op := .ld 5 true (.t 75), guard := none }, { dst := some 77, op := .call 24 [.t 76], guard := none },
   { dst := some 78, op := .ia 5 (.t 71) (.t 72), guard := none }, { dst := none, op := .st 5 (.t 78) (.t 77), guard := none }] false [] [71, 72, 73, 74, 75, 76, 77, 78]))
   (.region 19 [{ dst := some 69, op := .mov (.t 12), guard := none }, { dst := some 70, op := .bin .add .int (.t 69) (.c (.d (.int .i64 1))), guard := none },
   { dst := some 12, op := .mov (.t 70), guard := none }] false [] [69, 70])))
def s_backsteplaw22_AsmInverse_l1 : SCode := (.seq (.seq (.region 10 [{ dst := some 27, op := .mov (.t 6), guard := none }, { dst := some 28, op := .mov (.t 0), guard := none },
   { dst := some 29, op := .len .sl (.t 28), guard := none }, { dst := some 30, op := .bin .lss .int (.t 27) (.t 29), guard := none }] false [] [27, 28, 29])
   (.cond (.t 30) .skip (.exit 0))) (.seq (.block 1 (.region 12 [{ dst := some 33, op := .mov (.t 5), guard := none }, { dst := some 34, op := .mov (.t 0), guard := none },
   { dst := some 35, op := .mov (.t 6), guard := none }, { dst := some 36, op := .ia 5 (.t 34) (.t 35), guard := none },
   { dst := some 37, op := .ld 5 true (.t 36), guard := none }, { dst := some 38, op := .call 24 [.t 37], guard := none },
   { dst := some 39, op := .bsl 43 5 1 [.t 38], guard := none }, { dst := some 40, op := .app 43 5 40 (.t 33) (.t 39), guard := none },
   { dst := some 5, op := .mov (.t 40), guard := none }] false [] [33, 34, 35, 36, 37, 38, 39, 40])) (.region 11 [{ dst := some 31, op := .mov (.t 6), guard := none },
   { dst := some 32, op := .bin .add .int (.t 31) (.c (.d (.int .i64 1))), guard := none }, { dst := some 6, op := .mov (.t 32), guard := none }] false [] [31, 32])))
def s_backsteplaw22_AsmInverse : SFunc := { nparams := 1, ntmps := 91, code := (.seq (.region 0 [{ dst := some 2, op := .mov (.c (.d (.bool false))), guard := none }] false [] [])
   (.seq (.seq (.region 1 [{ dst := some 15, op := .call 12 [], guard := none }, { dst := some 16, op := .un .not (.t 15), guard := none }] false [] [15]) (.cond (.t 16) (.seq
   (.region 2 [{ dst := some 2, op := .mov (.c (.d (.bool false))), guard := none }] false [] []) .ret) .skip)) (.seq (.seq
   (.region 3 [{ dst := some 17, op := .mov (.t 0), guard := none }, { dst := some 18, op := .len .sl (.t 17), guard := none },
   { dst := some 19, op := .bin .gtr .int (.t 18) (.c (.d (.int .i64 40))), guard := none }] false [] [17, 18]) (.cond (.t 19) (.seq
   (.region 4 [{ dst := some 2, op := .mov (.c (.d (.bool true))), guard := none }] false [] []) .ret) .skip)) (.seq
   (.region 5 [{ dst := some 21, op := .mov (.t 0), guard := none }, { dst := some 22, op := .call 13 [.t 21], guard := none },
   { dst := some 20, op := .mov (.t 22), guard := none }, { dst := some 23, op := .ext (.t 20) 0, guard := none }, { dst := some 24, op := .ext (.t 20) 1, guard := none },
   { dst := some 3, op := .mov (.t 23), guard := none }, { dst := some 4, op := .mov (.t 24), guard := none }] false [] [21, 22, 20, 23, 24]) (.seq (.seq
   (.region 6 [{ dst := some 25, op := .mov (.t 4), guard := none }, { dst := some 26, op := .bin .neq .int (.t 25) (.c (.d (.int .i64 0))), guard := none }] false [] [25])
   (.cond (.t 26) (.seq (.region 7 [{ dst := some 2, op := .mov (.c (.d (.bool true))), guard := none }] false [] []) .ret) .skip)) (.seq
   (.region 8 [{ dst := some 5, op := .nilrow 43 5, guard := none }] false [] []) (.seq (.seq
   (.region 9 [{ dst := some 6, op := .mov (.c (.d (.int .i64 0))), guard := none }] false [] []) (.block 0 (.loop s_backsteplaw22_AsmInverse_l1))) (.seq
   (.region 13 [{ dst := some 42, op := .mov (.t 5), guard := none }, { dst := some 43, op := .call 13 [.t 42], guard := none },
   { dst := some 41, op := .mov (.t 43), guard := none }, { dst := some 44, op := .ext (.t 41) 0, guard := none }, { dst := some 45, op := .ext (.t 41) 1, guard := none },
   { dst := some 7, op := .mov (.t 44), guard := none }, { dst := some 8, op := .mov (.t 45), guard := none }] false [] [42, 43, 41, 44, 45]) (.seq
   (.region 14 [{ dst := some 47, op := .mov (.t 7), guard := none }, { dst := some 48, op := .call 17 [.t 47], guard := none },
   { dst := some 46, op := .mov (.t 48), guard := none }, { dst := some 49, op := .ext (.t 46) 0, guard := none }, { dst := some 50, op := .ext (.t 46) 1, guard := none },
   { dst := some 51, op := .ext (.t 46) 2, guard := none }, { dst := some 9, op := .mov (.t 49), guard := none }, { dst := some 10, op := .mov (.t 50), guard := none },
   { dst := some 11, op := .mov (.t 51), guard := none }] false [] [47, 48, 46, 49, 50, 51, 10]) (.seq (.seq (.region 15 [{ dst := some 52, op := .mov (.t 8), guard := none },
   { dst := some 53, op := .bin .neq .int (.t 52) (.c (.d (.int .i64 0))), guard := none }, { dst := some 54, op := .mov (.t 53), guard := none },
   { dst := some 55, op := .mov (.t 11), guard := some (54, false) }, { dst := some 56, op := .bin .neq .int (.t 55) (.c (.d (.int .i64 0))), guard := some (54, false) },
   { dst := some 57, op := .pick (.t 54) (.c (.d (.bool true))) (.t 56), guard := none }, { dst := some 58, op := .mov (.t 57), guard := none },
   { dst := some 59, op := .mov (.t 9), guard := some (58, false) }, { dst := some 60, op := .len .sl (.t 59), guard := some (58, false) },
   { dst := some 61, op := .mov (.t 0), guard := some (58, false) }, { dst := some 62, op := .len .sl (.t 61), guard := some (58, false) },
   { dst := some 63, op := .bin .neq .int (.t 60) (.t 62), guard := some (58, false) },
   { dst := some 64, op := .pick (.t 58) (.c (.d (.bool true))) (.t 63), guard := none }] false [] [52, 53, 54, 55, 56, 57, 58, 59, 60, 61, 62, 63]) (.cond (.t 64) (.seq
   (.region 16 [{ dst := some 2, op := .mov (.c (.d (.bool false))), guard := none }] false [] []) .ret) .skip)) (.seq (.seq
   (.region 17 [{ dst := some 12, op := .mov (.c (.d (.int .i64 0))), guard := none }] false [] []) (.block 2 (.loop s_backsteplaw22_AsmInverse_l0))) (.seq
   (.region 21 [{ dst := some 80, op := .mov (.t 9), guard := none }, { dst := some 81, op := .call 13 [.t 80], guard := none },
   { dst := some 79, op := .mov (.t 81), guard := none }, { dst := some 82, op := .ext (.t 79) 0, guard := none }, { dst := some 83, op := .ext (.t 79) 1, guard := none },
   { dst := some 13, op := .mov (.t 82), guard := none }, { dst := some 14, op := .mov (.t 83), guard := none }] false [] [80, 81, 79, 82, 83]) (.seq
   (.region 22 [{ dst := some 84, op := .mov (.t 14), guard := none }, { dst := some 85, op := .bin .eql .int (.t 84) (.c (.d (.int .i64 0))), guard := none },
   { dst := some 86, op := .mov (.t 85), guard := none }, { dst := some 87, op := .mov (.t 13), guard := some (86, true) },
   { dst := some 88, op := .mov (.t 3), guard := some (86, true) }, { dst := some 89, op := .bin .eql .str (.t 87) (.t 88), guard := some (86, true) },
   { dst := some 90, op := .pick (.t 86) (.t 89) (.c (.d (.bool false))), guard := none },
   { dst := some 2, op := .mov (.t 90), guard := none }] false [] [84, 85, 86, 87, 88, 89, 90]) .ret))))))))))))), results := [.tmp 2] }
theorem c_backsteplaw22_AsmInverse : cFunc Tryz.prog mvTab 8 (dropOf [(1, [15]), (3, [17, 18]), (5, [21, 22, 20, 23, 24]), (6, [25]), (10, [27, 28, 29]), (12, [33, 34, 35, 36, 37, 38, 39, 40]), (11, [31, 32]), (13, [42, 43, 41, 44, 45]), (14, [47, 48, 46, 49, 50, 51, 10]), (15, [52, 53, 54, 55, 56, 57, 58, 59, 60, 61, 62, 63]), (18, [65, 66, 67]), (20, [71, 72, 73, 74, 75, 76, 77, 78]), (19, [69, 70]), (21, [80, 81, 79, 82, 83]), (22, [84, 85, 86, 87, 88, 89, 90])]) = some s_backsteplaw22_AsmInverse := by kernel_rfl

-- backstep/backsteplaw22.AsmDecodes
def s_backsteplaw22_AsmDecodes : SFunc := { nparams := 1, ntmps := 30, code := (.seq (.region 0 [{ dst := some 2, op := .mov (.c (.d (.bool false))), guard := none }] false [] [])
   (.seq (.seq (.region 1 [{ dst := some 7, op := .call 12 [], guard := none }, { dst := some 8, op := .un .not (.t 7), guard := none }] false [] [7]) (.cond (.t 8) (.seq
   (.region 2 [{ dst := some 2, op := .mov (.c (.d (.bool false))), guard := none }] false [] []) .ret) .skip)) (.seq (.seq
   (.region 3 [{ dst := some 9, op := .mov (.t 0), guard := none }, { dst := some 10, op := .len .sl (.t 9), guard := none },
   { dst := some 11, op := .bin .gtr .int (.t 10) (.c (.d (.int .i64 600))), guard := none }] false [] [9, 10]) (.cond (.t 11) (.seq
   (.region 4 [{ dst := some 2, op := .mov (.c (.d (.bool true))), guard := none }] false [] []) .ret) .skip)) (.seq
   (.region 5 [{ dst := some 13, op := .mov (.t 0), guard := none }, { dst := some 14, op := .call 25 [.t 13], guard := none },
   { dst := some 12, op := .mov (.t 14), guard := none }, { dst := some 15, op := .ext (.t 12) 0, guard := none }, { dst := some 16, op := .ext (.t 12) 1, guard := none },
   { dst := some 3, op := .mov (.t 15), guard := none }, { dst := some 4, op := .mov (.t 16), guard := none }] false [] [13, 14, 12, 15, 16]) (.seq
   (.region 6 [{ dst := some 18, op := .mov (.t 0), guard := none }, { dst := some 19, op := .call 26 [.t 18], guard := none },
   { dst := some 17, op := .mov (.t 19), guard := none }, { dst := some 20, op := .ext (.t 17) 0, guard := none }, { dst := some 21, op := .ext (.t 17) 1, guard := none },
   { dst := some 5, op := .mov (.t 20), guard := none }, { dst := some 6, op := .mov (.t 21), guard := none }] false [] [18, 19, 17, 20, 21]) (.seq
   (.region 7 [{ dst := some 22, op := .mov (.t 3), guard := none }, { dst := some 23, op := .mov (.t 5), guard := none },
   { dst := some 24, op := .call 19 [.t 22, .t 23], guard := none }, { dst := some 25, op := .mov (.t 24), guard := none },
   { dst := some 26, op := .mov (.t 4), guard := some (25, true) }, { dst := some 27, op := .mov (.t 6), guard := some (25, true) },
   { dst := some 28, op := .bin .eql .int (.t 26) (.t 27), guard := some (25, true) }, { dst := some 29, op := .pick (.t 25) (.t 28) (.c (.d (.bool false))), guard := none },
   { dst := some 2, op := .mov (.t 29), guard := none }] false [] [22, 23, 24, 25, 26, 27, 28, 29]) .ret)))))), results := [.tmp 2] }
theorem c_backsteplaw22_AsmDecodes : cFunc Tryz.prog mvTab 9 (dropOf [(1, [7]), (3, [9, 10]), (5, [13, 14, 12, 15, 16]), (6, [18, 19, 17, 20, 21]), (7, [22, 23, 24, 25, 26, 27, 28, 29])]) = some s_backsteplaw22_AsmDecodes := by kernel_rfl

-- backstep/backsteplaw22.AsmBytes
def s_backsteplaw22_AsmBytes : SFunc := { nparams := 3, ntmps := 84, code := (.seq (.region 0 [{ dst := some 6, op := .mov (.c (.d (.bool false))), guard := none }] false [] [])
   (.seq (.seq (.region 1 [{ dst := some 15, op := .call 12 [], guard := none }, { dst := some 16, op := .un .not (.t 15), guard := none }] false [] [15]) (.cond (.t 16) (.seq
   (.region 2 [{ dst := some 6, op := .mov (.c (.d (.bool false))), guard := none }] false [] []) .ret) .skip)) (.seq (.seq
   (.region 3 [{ dst := some 17, op := .mov (.t 0), guard := none }, { dst := some 18, op := .len .sl (.t 17), guard := none },
   { dst := some 19, op := .bin .gtr .int (.t 18) (.c (.d (.int .i64 40))), guard := none }] false [] [17, 18]) (.cond (.t 19) (.seq
   (.region 4 [{ dst := some 6, op := .mov (.c (.d (.bool true))), guard := none }] false [] []) .ret) .skip)) (.seq
   (.region 5 [{ dst := some 21, op := .mov (.t 0), guard := none }, { dst := some 22, op := .call 15 [.t 21], guard := none },
   { dst := some 20, op := .mov (.t 22), guard := none }, { dst := some 23, op := .ext (.t 20) 0, guard := none }, { dst := some 24, op := .ext (.t 20) 1, guard := none },
   { dst := some 7, op := .mov (.t 23), guard := none }, { dst := some 8, op := .mov (.t 24), guard := none }] false [] [21, 22, 20, 23, 24]) (.seq (.seq
   (.region 6 [{ dst := some 25, op := .mov (.t 8), guard := none }, { dst := some 26, op := .bin .neq .int (.t 25) (.c (.d (.int .i64 0))), guard := none }] false [] [25])
   (.cond (.t 26) (.seq (.region 7 [{ dst := some 27, op := .mov (.t 7), guard := none }, { dst := some 28, op := .len .sl (.t 27), guard := none },
   { dst := some 29, op := .bin .eql .int (.t 28) (.c (.d (.int .i64 0))), guard := none },
   { dst := some 6, op := .mov (.t 29), guard := none }] false [] [27, 28, 29]) .ret) .skip)) (.seq (.region 8 [{ dst := some 31, op := .mov (.t 7), guard := none },
   { dst := some 32, op := .call 25 [.t 31], guard := none }, { dst := some 30, op := .mov (.t 32), guard := none }, { dst := some 33, op := .ext (.t 30) 0, guard := none },
   { dst := some 34, op := .ext (.t 30) 1, guard := none }, { dst := some 9, op := .mov (.t 33), guard := none },
   { dst := some 10, op := .mov (.t 34), guard := none }] false [] [31, 32, 30, 33, 34]) (.seq (.seq (.region 9 [{ dst := some 35, op := .mov (.t 7), guard := none },
   { dst := some 36, op := .len .sl (.t 35), guard := none }, { dst := some 37, op := .bin .eql .int (.t 36) (.c (.d (.int .i64 0))), guard := none }] false [] [35, 36])
   (.cond (.t 37) (.seq (.region 10 [{ dst := some 6, op := .mov (.c (.d (.bool false))), guard := none }] false [] []) .ret) .skip)) (.seq
   (.region 11 [{ dst := some 39, op := .mov (.t 7), guard := none }, { dst := some 40, op := .mov (.t 1), guard := none },
   { dst := some 41, op := .cnvI .i64 (.t 40), guard := none }, { dst := some 42, op := .mov (.t 7), guard := none }, { dst := some 43, op := .len .sl (.t 42), guard := none },
   { dst := some 44, op := .bin .rem .int (.t 41) (.t 43), guard := none }, { dst := some 45, op := .slL 1 (.t 39) none (some (.t 44)), guard := none },
   { dst := some 46, op := .call 25 [.t 45], guard := none }, { dst := some 38, op := .mov (.t 46), guard := none }, { dst := some 47, op := .ext (.t 38) 0, guard := none },
   { dst := some 48, op := .ext (.t 38) 1, guard := none }, { dst := some 11, op := .mov (.t 47), guard := none },
   { dst := some 12, op := .mov (.t 48), guard := none }] false [] [39, 40, 41, 42, 43, 44, 45, 46, 38, 47, 48]) (.seq
   (.region 12 [{ dst := some 50, op := .bsl 5 1 0 [], guard := none }, { dst := some 51, op := .mov (.t 7), guard := none },
   { dst := some 52, op := .app 5 1 1 (.t 50) (.t 51), guard := none }, { dst := some 53, op := .mov (.t 2), guard := none },
   { dst := some 54, op := .bsl 5 1 1 [.t 53], guard := none }, { dst := some 55, op := .app 5 1 1 (.t 52) (.t 54), guard := none },
   { dst := some 56, op := .call 25 [.t 55], guard := none }, { dst := some 49, op := .mov (.t 56), guard := none }, { dst := some 57, op := .ext (.t 49) 0, guard := none },
   { dst := some 58, op := .ext (.t 49) 1, guard := none }, { dst := some 13, op := .mov (.t 57), guard := none },
   { dst := some 14, op := .mov (.t 58), guard := none }] false [] [50, 51, 52, 53, 54, 55, 56, 49, 57, 58]) (.seq
   (.region 13 [{ dst := some 59, op := .mov (.t 10), guard := none }, { dst := some 60, op := .bin .eql .int (.t 59) (.c (.d (.int .i64 0))), guard := none },
   { dst := some 61, op := .mov (.t 60), guard := none }, { dst := some 62, op := .mov (.t 9), guard := some (61, true) },
   { dst := some 63, op := .mov (.t 0), guard := some (61, true) }, { dst := some 64, op := .call 19 [.t 62, .t 63], guard := some (61, true) },
   { dst := some 65, op := .pick (.t 61) (.t 64) (.c (.d (.bool false))), guard := none }, { dst := some 66, op := .mov (.t 65), guard := none },
   { dst := some 67, op := .mov (.t 12), guard := some (66, true) }, { dst := some 68, op := .bin .eql .int (.t 67) (.c (.d (.int .i64 4))), guard := some (66, true) },
   { dst := some 69, op := .pick (.t 66) (.t 68) (.c (.d (.bool false))), guard := none }, { dst := some 70, op := .mov (.t 69), guard := none },
   { dst := some 71, op := .mov (.t 11), guard := some (70, true) }, { dst := some 72, op := .len .sl (.t 71), guard := some (70, true) },
   { dst := some 73, op := .bin .eql .int (.t 72) (.c (.d (.int .i64 0))), guard := some (70, true) },
   { dst := some 74, op := .pick (.t 70) (.t 73) (.c (.d (.bool false))), guard := none }, { dst := some 75, op := .mov (.t 74), guard := none },
   { dst := some 76, op := .mov (.t 14), guard := some (75, true) }, { dst := some 77, op := .bin .eql .int (.t 76) (.c (.d (.int .i64 3))), guard := some (75, true) },
   { dst := some 78, op := .pick (.t 75) (.t 77) (.c (.d (.bool false))), guard := none }, { dst := some 79, op := .mov (.t 78), guard := none },
   { dst := some 80, op := .mov (.t 13), guard := some (79, true) }, { dst := some 81, op := .len .sl (.t 80), guard := some (79, true) },
   { dst := some 82, op := .bin .eql .int (.t 81) (.c (.d (.int .i64 0))), guard := some (79, true) },
   { dst := some 83, op := .pick (.t 79) (.t 82) (.c (.d (.bool false))), guard := none },
   { dst := some 6, op := .mov (.t 83), guard := none }] false [] [59, 60, 61, 62, 63, 64, 65, 66, 67, 68, 69, 70, 71, 72, 73, 74, 75, 76, 77, 78, 79, 80, 81, 82, 83]) .ret)))))))))), results := [.tmp 6] }
theorem c_backsteplaw22_AsmBytes : cFunc Tryz.prog mvTab 10 (dropOf [(1, [15]), (3, [17, 18]), (5, [21, 22, 20, 23, 24]), (6, [25]), (7, [27, 28, 29]), (8, [31, 32, 30, 33, 34]), (9, [35, 36]), (11, [39, 40, 41, 42, 43, 44, 45, 46, 38, 47, 48]), (12, [50, 51, 52, 53, 54, 55, 56, 49, 57, 58]), (13, [59, 60, 61, 62, 63, 64, 65, 66, 67, 68, 69, 70, 71, 72, 73, 74, 75, 76, 77, 78, 79, 80, 81, 82, 83])]) = some s_backsteplaw22_AsmBytes := by kernel_rfl

-- backstep/backsteplaw22.AsmFixed
def s_backsteplaw22_AsmFixed : SFunc := { nparams := 2, ntmps := 81, code := (.seq (.region 0 [{ dst := some 4, op := .mov (.c (.d (.bool false))), guard := none }] false [] [])
   (.seq (.seq (.region 1 [{ dst := some 14, op := .call 12 [], guard := none }, { dst := some 15, op := .un .not (.t 14), guard := none }] false [] [14]) (.cond (.t 15) (.seq
   (.region 2 [{ dst := some 4, op := .mov (.c (.d (.bool false))), guard := none }] false [] []) .ret) .skip)) (.seq (.seq
   (.region 3 [{ dst := some 16, op := .mov (.t 0), guard := none }, { dst := some 17, op := .len .str (.t 16), guard := none },
   { dst := some 18, op := .bin .gtr .int (.t 17) (.c (.d (.int .i64 600))), guard := none }, { dst := some 19, op := .mov (.t 18), guard := none },
   { dst := some 20, op := .mov (.t 1), guard := some (19, false) }, { dst := some 21, op := .len .sl (.t 20), guard := some (19, false) },
   { dst := some 22, op := .bin .gtr .int (.t 21) (.c (.d (.int .i64 600))), guard := some (19, false) },
   { dst := some 23, op := .pick (.t 19) (.c (.d (.bool true))) (.t 22), guard := none }] false [] [16, 17, 18, 19, 20, 21, 22]) (.cond (.t 23) (.seq
   (.region 4 [{ dst := some 4, op := .mov (.c (.d (.bool true))), guard := none }] false [] []) .ret) .skip)) (.seq
   (.region 5 [{ dst := some 25, op := .mov (.t 0), guard := none }, { dst := some 26, op := .call 17 [.t 25], guard := none },
   { dst := some 24, op := .mov (.t 26), guard := none }, { dst := some 27, op := .ext (.t 24) 0, guard := none }, { dst := some 28, op := .ext (.t 24) 1, guard := none },
   { dst := some 29, op := .ext (.t 24) 2, guard := none }, { dst := some 5, op := .mov (.t 27), guard := none }, { dst := some 6, op := .mov (.t 28), guard := none },
   { dst := some 7, op := .mov (.t 29), guard := none }] false [] [25, 26, 24, 27, 28, 29, 6]) (.seq (.seq (.region 6 [{ dst := some 30, op := .mov (.t 7), guard := none },
   { dst := some 31, op := .bin .eql .int (.t 30) (.c (.d (.int .i64 0))), guard := none }] false [] [30]) (.cond (.t 31) (.seq
   (.region 7 [{ dst := some 33, op := .mov (.t 5), guard := none }, { dst := some 34, op := .call 13 [.t 33], guard := none },
   { dst := some 32, op := .mov (.t 34), guard := none }, { dst := some 35, op := .ext (.t 32) 0, guard := none }, { dst := some 36, op := .ext (.t 32) 1, guard := none },
   { dst := some 8, op := .mov (.t 35), guard := none }, { dst := some 9, op := .mov (.t 36), guard := none }] false [] [33, 34, 32, 35, 36]) (.seq
   (.region 8 [{ dst := some 37, op := .mov (.t 9), guard := none }, { dst := some 38, op := .bin .neq .int (.t 37) (.c (.d (.int .i64 0))), guard := none },
   { dst := some 39, op := .mov (.t 38), guard := none }, { dst := some 40, op := .mov (.t 8), guard := some (39, false) },
   { dst := some 41, op := .mov (.t 0), guard := some (39, false) }, { dst := some 42, op := .bin .neq .str (.t 40) (.t 41), guard := some (39, false) },
   { dst := some 43, op := .pick (.t 39) (.c (.d (.bool true))) (.t 42), guard := none }] false [] [37, 38, 39, 40, 41, 42]) (.cond (.t 43) (.seq
   (.region 9 [{ dst := some 4, op := .mov (.c (.d (.bool false))), guard := none }] false [] []) .ret) .skip))) .skip)) (.seq
   (.region 10 [{ dst := some 45, op := .mov (.t 1), guard := none }, { dst := some 46, op := .call 25 [.t 45], guard := none },
   { dst := some 44, op := .mov (.t 46), guard := none }, { dst := some 47, op := .ext (.t 44) 0, guard := none }, { dst := some 48, op := .ext (.t 44) 1, guard := none },
   { dst := some 10, op := .mov (.t 47), guard := none }, { dst := some 11, op := .mov (.t 48), guard := none }] false [] [45, 46, 44, 47, 48]) (.seq (.seq
   (.region 11 [{ dst := some 49, op := .mov (.t 11), guard := none }, { dst := some 50, op := .bin .eql .int (.t 49) (.c (.d (.int .i64 0))), guard := none }] false [] [49])
   (.cond (.t 50) (.seq (.region 12 [{ dst := some 52, op := .mov (.t 10), guard := none }, { dst := some 53, op := .call 15 [.t 52], guard := none },
   { dst := some 51, op := .mov (.t 53), guard := none }, { dst := some 54, op := .ext (.t 51) 0, guard := none }, { dst := some 55, op := .ext (.t 51) 1, guard := none },
   { dst := some 12, op := .mov (.t 54), guard := none }, { dst := some 13, op := .mov (.t 55), guard := none }] false [] [52, 53, 51, 54, 55]) (.seq
   (.region 13 [{ dst := some 56, op := .mov (.t 13), guard := none }, { dst := some 57, op := .bin .neq .int (.t 56) (.c (.d (.int .i64 0))), guard := none },
   { dst := some 58, op := .mov (.t 57), guard := none }, { dst := some 59, op := .mov (.t 12), guard := some (58, false) },
   { dst := some 60, op := .cnvBS (.t 59), guard := some (58, false) }, { dst := some 61, op := .mov (.t 1), guard := some (58, false) },
   { dst := some 62, op := .cnvBS (.t 61), guard := some (58, false) }, { dst := some 63, op := .bin .neq .str (.t 60) (.t 62), guard := some (58, false) },
   { dst := some 64, op := .pick (.t 58) (.c (.d (.bool true))) (.t 63), guard := none }] false [] [56, 57, 58, 59, 60, 61, 62, 63]) (.cond (.t 64) (.seq
   (.region 14 [{ dst := some 4, op := .mov (.c (.d (.bool false))), guard := none }] false [] []) .ret) .skip))) .skip)) (.seq
   (.region 15 [{ dst := some 65, op := .mov (.t 7), guard := none }, { dst := some 66, op := .bin .eql .int (.t 65) (.c (.d (.int .i64 0))), guard := none },
   { dst := some 67, op := .mov (.t 66), guard := none }, { dst := some 68, op := .mov (.t 5), guard := some (67, false) },
   { dst := some 69, op := .len .sl (.t 68), guard := some (67, false) }, { dst := some 70, op := .bin .eql .int (.t 69) (.c (.d (.int .i64 0))), guard := some (67, false) },
   { dst := some 71, op := .pick (.t 67) (.c (.d (.bool true))) (.t 70), guard := none }, { dst := some 72, op := .mov (.t 71), guard := none },
   { dst := some 73, op := .mov (.t 11), guard := some (72, true) }, { dst := some 74, op := .bin .eql .int (.t 73) (.c (.d (.int .i64 0))), guard := some (72, true) },
   { dst := some 75, op := .mov (.t 74), guard := some (72, true) }, { dst := some 76, op := .mov (.t 10), guard := some (75, false) },
   { dst := some 77, op := .len .sl (.t 76), guard := some (75, false) }, { dst := some 78, op := .bin .eql .int (.t 77) (.c (.d (.int .i64 0))), guard := some (75, false) },
   { dst := some 79, op := .pick (.t 75) (.c (.d (.bool true))) (.t 78), guard := some (72, true) },
   { dst := some 80, op := .pick (.t 72) (.t 79) (.c (.d (.bool false))), guard := none },
   { dst := some 4, op := .mov (.t 80), guard := none }] false [] [65, 66, 67, 68, 69, 70, 71, 72, 73, 74, 75, 76, 77, 78, 79, 80]) .ret)))))))), results := [.tmp 4] }
theorem c_backsteplaw22_AsmFixed : cFunc Tryz.prog mvTab 11 (dropOf [(1, [14]), (3, [16, 17, 18, 19, 20, 21, 22]), (5, [25, 26, 24, 27, 28, 29, 6]), (6, [30]), (7, [33, 34, 32, 35, 36]), (8, [37, 38, 39, 40, 41, 42]), (10, [45, 46, 44, 47, 48]), (11, [49]), (12, [52, 53, 51, 54, 55]), (13, [56, 57, 58, 59, 60, 61, 62, 63]), (15, [65, 66, 67, 68, 69, 70, 71, 72, 73, 74, 75, 76, 77, 78, 79, 80])]) = some s_backsteplaw22_AsmFixed := by kernel_rfl

-- backstep/backsteplaw22.awake
def s_backsteplaw22_awake : SFunc := { nparams := 0, ntmps := 61, code := (.seq (.region 0 [{ dst := some 0, op := .mov (.c (.d (.bool false))), guard := none }] false [] []) (.seq
   (.region 1 [{ dst := some 9, op := .build [.d (.int .u8 0), .d (.int .i64 0), .d (.int .i64 0), .d (.int .i64 0), .d (.int .i64 0)] [(0, .c (.d (.int .u8 9))), (1, .c (.d (.int .i64 1))), (2, .c (.d (.int .i64 2))), (3, .c (.d (.int .i64 3))), (4, .c (.d (.int .i64 8)))], guard := none },
   { dst := some 10, op := .build [.d (.int .u8 0), .d (.int .i64 0), .d (.int .i64 0), .d (.int .i64 0), .d (.int .i64 0)] [(0, .c (.d (.int .u8 4))), (2, .c (.d (.int .i64 (-5))))], guard := none },
   { dst := some 11, op := .bsl 43 5 2 [.t 9, .t 10], guard := none }, { dst := some 12, op := .call 13 [.t 11], guard := none },
   { dst := some 8, op := .mov (.t 12), guard := none }, { dst := some 13, op := .ext (.t 8) 0, guard := none }, { dst := some 14, op := .ext (.t 8) 1, guard := none },
   { dst := some 1, op := .mov (.t 13), guard := none }, { dst := some 2, op := .mov (.t 14), guard := none }] false [] [9, 10, 11, 12, 8, 13, 14]) (.seq
   (.region 2 [{ dst := some 16, op := .build [.d (.int .u8 0), .d (.int .i64 0), .d (.int .i64 0), .d (.int .i64 0), .d (.int .i64 0)] [(0, .c (.d (.int .u8 8))), (1, .c (.d (.int .i64 7)))], guard := none },
   { dst := some 17, op := .bsl 43 5 1 [.t 16], guard := none }, { dst := some 18, op := .call 15 [.t 17], guard := none }, { dst := some 15, op := .mov (.t 18), guard := none },
   { dst := some 19, op := .ext (.t 15) 0, guard := none }, { dst := some 20, op := .ext (.t 15) 1, guard := none }, { dst := some 3, op := .mov (.t 19), guard := none },
   { dst := some 4, op := .mov (.t 20), guard := none }] false [] [16, 17, 18, 15, 19, 20]) (.seq
   (.region 3 [{ dst := some 22, op := .call 17 [.c (.d (.str [97, 100, 100, 105, 32, 114, 48, 32, 45, 53, 10]))], guard := none },
   { dst := some 21, op := .mov (.t 22), guard := none }, { dst := some 23, op := .ext (.t 21) 0, guard := none }, { dst := some 24, op := .ext (.t 21) 1, guard := none },
   { dst := some 25, op := .ext (.t 21) 2, guard := none }, { dst := some 5, op := .mov (.t 23), guard := none }, { dst := some 6, op := .mov (.t 24), guard := none },
   { dst := some 7, op := .mov (.t 25), guard := none }] false [] [22, 21, 23, 24, 25]) (.seq (.region 4 [{ dst := some 26, op := .mov (.t 2), guard := none },
   { dst := some 27, op := .bin .eql .int (.t 26) (.c (.d (.int .i64 0))), guard := none }, { dst := some 28, op := .mov (.t 27), guard := none },
   { dst := some 29, op := .mov (.t 1), guard := some (28, true) },
   { dst := some 30, op := .bin .eql .str (.t 29) (.c (.d (.str [99, 97, 108, 99, 32, 114, 49, 32, 114, 50, 32, 114, 51, 32, 43, 10, 97, 100, 100, 105, 32, 114, 48, 32, 45, 53, 10]))), guard := some (28, true) },
   { dst := some 31, op := .pick (.t 28) (.t 30) (.c (.d (.bool false))), guard := none }, { dst := some 32, op := .mov (.t 31), guard := none },
   { dst := some 33, op := .mov (.t 4), guard := some (32, true) }, { dst := some 34, op := .bin .eql .int (.t 33) (.c (.d (.int .i64 0))), guard := some (32, true) },
   { dst := some 35, op := .pick (.t 32) (.t 34) (.c (.d (.bool false))), guard := none }, { dst := some 36, op := .mov (.t 35), guard := none },
   { dst := some 37, op := .mov (.t 3), guard := some (36, true) }, { dst := some 38, op := .cnvBS (.t 37), guard := some (36, true) },
   { dst := some 39, op := .bin .eql .str (.t 38) (.c (.d (.str [0, 0, 0, 1, 8, 7]))), guard := some (36, true) },
   { dst := some 40, op := .pick (.t 36) (.t 39) (.c (.d (.bool false))), guard := none }, { dst := some 41, op := .mov (.t 40), guard := none },
   { dst := some 42, op := .mov (.t 7), guard := some (41, true) }, { dst := some 43, op := .bin .eql .int (.t 42) (.c (.d (.int .i64 0))), guard := some (41, true) },
   { dst := some 44, op := .pick (.t 41) (.t 43) (.c (.d (.bool false))), guard := none }, { dst := some 45, op := .mov (.t 44), guard := none },
   { dst := some 46, op := .mov (.t 6), guard := some (45, true) }, { dst := some 47, op := .bin .eql .int (.t 46) (.c (.d (.int .i64 0))), guard := some (45, true) },
   { dst := some 48, op := .pick (.t 45) (.t 47) (.c (.d (.bool false))), guard := none }, { dst := some 49, op := .mov (.t 48), guard := none },
   { dst := some 50, op := .mov (.t 5), guard := some (49, true) }, { dst := some 51, op := .len .sl (.t 50), guard := some (49, true) },
   { dst := some 52, op := .bin .eql .int (.t 51) (.c (.d (.int .i64 1))), guard := some (49, true) },
   { dst := some 53, op := .pick (.t 49) (.t 52) (.c (.d (.bool false))), guard := none }, { dst := some 54, op := .mov (.t 53), guard := none },
   { dst := some 55, op := .mov (.t 5), guard := some (54, true) }, { dst := some 56, op := .ia 5 (.t 55) (.c (.d (.int .i64 0))), guard := some (54, true) },
   { dst := some 57, op := .fa (.t 56) 2 2, guard := some (54, true) }, { dst := some 58, op := .ld 1 false (.t 57), guard := some (54, true) },
   { dst := some 59, op := .bin .eql .int (.t 58) (.c (.d (.int .i64 (-5)))), guard := some (54, true) },
   { dst := some 60, op := .pick (.t 54) (.t 59) (.c (.d (.bool false))), guard := none },
   { dst := some 0, op := .mov (.t 60), guard := none }] false [] [26, 27, 28, 29, 30, 31, 32, 33, 34, 35, 36, 37, 38, 39, 40, 41, 42, 43, 44, 45, 46, 47, 48, 49, 50, 51, 52, 53, 54, 55, 56, 57, 58, 59, 60]) .ret))))), results := [.tmp 0] }
theorem c_backsteplaw22_awake : cFunc Tryz.prog mvTab 12 (dropOf [(1, [9, 10, 11, 12, 8, 13, 14]), (2, [16, 17, 18, 15, 19, 20]), (3, [22, 21, 23, 24, 25]), (4, [26, 27, 28, 29, 30, 31, 32, 33, 34, 35, 36, 37, 38, 39, 40, 41, 42, 43, 44, 45, 46, 47, 48, 49, 50, 51, 52, 53, 54, 55, 56, 57, 58, 59, 60])]) = some s_backsteplaw22_awake := by kernel_rfl

-- backstep/asm.Format
def s_asm_Format_l0 : SCode := (.seq (.region 6 [{ dst := some 16, op := .bin .lss .int (.t 15) (.t 14), guard := none }] false [] []) (.seq (.cond (.t 16) .skip (.exit 0)) (.seq
   (.block 1 (.seq (.region 7 [{ dst := some 17, op := .ia 5 (.t 13) (.t 15), guard := none }, { dst := some 18, op := .ld 5 true (.t 17), guard := none },
   { dst := some 7, op := .alloc 43 (.d (.agg [.int .u8 0, .int .i64 0, .int .i64 0, .int .i64 0, .int .i64 0])), guard := none },
   { dst := none, op := .st 5 (.t 7) (.t 18), guard := none }] false [] [17, 18]) (.region 8 [{ dst := some 19, op := .ld 5 true (.t 7), guard := none },
   { dst := some 20, op := .call 29 [.t 19], guard := none }, { dst := some 21, op := .bin .add .str (.t 20) (.c (.d (.str [10]))), guard := none },
   { dst := some 22, op := .call 28 [.t 5, .t 21], guard := none }] false [] [19, 20, 21, 22])))
   (.region 9 [{ dst := some 23, op := .bin .add .int (.t 15) (.c (.d (.int .i64 1))), guard := none }, { dst := some 15, op := .mov (.t 23), guard := none }] false [] [23]))))
def s_asm_Format : SFunc := { nparams := 1, ntmps := 25, code := (.seq (.region 0 [{ dst := some 2, op := .mov (.c (.d (.str []))), guard := none },
   { dst := some 3, op := .mov (.c (.d (.int .i64 0))), guard := none }] false [] []) (.seq (.seq (.region 1 [{ dst := some 8, op := .mov (.t 0), guard := none },
   { dst := some 9, op := .call 27 [.t 8], guard := none }, { dst := some 4, op := .mov (.t 9), guard := none }] false [] [8, 9]) (.seq
   (.region 2 [{ dst := some 10, op := .mov (.t 4), guard := none }, { dst := some 11, op := .bin .neq .int (.t 10) (.c (.d (.int .i64 0))), guard := none }] false [] [10])
   (.cond (.t 11) (.seq (.region 3 [{ dst := some 12, op := .mov (.t 4), guard := none }, { dst := some 2, op := .mov (.c (.d (.str []))), guard := none },
   { dst := some 3, op := .mov (.t 12), guard := none }] false [] [12]) .ret) .skip))) (.seq
   (.region 4 [{ dst := some 5, op := .alloc 61 (.agg [.d .nilptr, .nils]), guard := none }] false [] []) (.seq (.seq
   (.region 5 [{ dst := some 13, op := .mov (.t 0), guard := none }, { dst := some 14, op := .len .sl (.t 13), guard := none },
   { dst := some 15, op := .mov (.c (.d (.int .i64 0))), guard := none }] false [] []) (.block 0 (.loop s_asm_Format_l0))) (.seq
   (.region 10 [{ dst := some 24, op := .call 30 [.t 5], guard := none }, { dst := some 2, op := .mov (.t 24), guard := none },
   { dst := some 3, op := .mov (.c (.d (.int .i64 0))), guard := none }] false [] [24]) .ret))))), results := [.tmp 2, .tmp 3] }
theorem c_asm_Format : cFunc Tryz.prog mvTab 13 (dropOf [(1, [8, 9]), (2, [10]), (3, [12]), (7, [17, 18]), (8, [19, 20, 21, 22]), (9, [23]), (10, [24])]) = some s_asm_Format := by kernel_rfl

-- backstep/backstepref22.Format
def s_backstepref22_Format_l0 : SCode := (.seq (.seq (.region 6 [{ dst := some 12, op := .mov (.t 6), guard := none }, { dst := some 13, op := .mov (.t 0), guard := none },
   { dst := some 14, op := .len .sl (.t 13), guard := none }, { dst := some 15, op := .bin .lss .int (.t 12) (.t 14), guard := none }] false [] [12, 13, 14])
   (.cond (.t 15) .skip (.exit 0))) (.seq (.block 1 (.region 8 [{ dst := some 18, op := .mov (.t 5), guard := none }, { dst := some 19, op := .mov (.t 0), guard := none },
   { dst := some 20, op := .mov (.t 6), guard := none }, { dst := some 21, op := .ia 5 (.t 19) (.t 20), guard := none },
   { dst := some 22, op := .ld 5 true (.t 21), guard := none }, { dst := some 23, op := .call 32 [.t 22], guard := none },
   { dst := some 24, op := .bin .add .str (.t 18) (.t 23), guard := none }, { dst := some 25, op := .bin .add .str (.t 24) (.c (.d (.str [10]))), guard := none },
   { dst := some 5, op := .mov (.t 25), guard := none }] false [] [18, 19, 20, 21, 22, 23, 24, 25])) (.region 7 [{ dst := some 16, op := .mov (.t 6), guard := none },
   { dst := some 17, op := .bin .add .int (.t 16) (.c (.d (.int .i64 1))), guard := none }, { dst := some 6, op := .mov (.t 17), guard := none }] false [] [16, 17])))
def s_backstepref22_Format : SFunc := { nparams := 1, ntmps := 27, code := (.seq (.region 0 [{ dst := some 2, op := .mov (.c (.d (.str []))), guard := none },
   { dst := some 3, op := .mov (.c (.d (.int .i64 0))), guard := none }] false [] []) (.seq (.seq (.region 1 [{ dst := some 7, op := .mov (.t 0), guard := none },
   { dst := some 8, op := .call 31 [.t 7], guard := none }, { dst := some 4, op := .mov (.t 8), guard := none }] false [] [7, 8]) (.seq
   (.region 2 [{ dst := some 9, op := .mov (.t 4), guard := none }, { dst := some 10, op := .bin .neq .int (.t 9) (.c (.d (.int .i64 0))), guard := none }] false [] [9])
   (.cond (.t 10) (.seq (.region 3 [{ dst := some 11, op := .mov (.t 4), guard := none }, { dst := some 2, op := .mov (.c (.d (.str []))), guard := none },
   { dst := some 3, op := .mov (.t 11), guard := none }] false [] [11]) .ret) .skip))) (.seq
   (.region 4 [{ dst := some 5, op := .mov (.c (.d (.str []))), guard := none }] false [] []) (.seq (.seq
   (.region 5 [{ dst := some 6, op := .mov (.c (.d (.int .i64 0))), guard := none }] false [] []) (.block 0 (.loop s_backstepref22_Format_l0))) (.seq
   (.region 9 [{ dst := some 26, op := .mov (.t 5), guard := none }, { dst := some 2, op := .mov (.t 26), guard := none },
   { dst := some 3, op := .mov (.c (.d (.int .i64 0))), guard := none }] false [] [26]) .ret))))), results := [.tmp 2, .tmp 3] }
theorem c_backstepref22_Format : cFunc Tryz.prog mvTab 14 (dropOf [(1, [7, 8]), (2, [9]), (3, [11]), (6, [12, 13, 14]), (8, [18, 19, 20, 21, 22, 23, 24, 25]), (7, [16, 17]), (9, [26])]) = some s_backstepref22_Format := by kernel_rfl

-- backstep/asm.Encode
def s_asm_Encode_l0 : SCode := (.seq (.region 11 [{ dst := some 37, op := .bin .lss .int (.t 36) (.t 35), guard := none }] false [] []) (.seq (.cond (.t 37) .skip (.exit 2)) (.seq
   (.block 3 (.seq (.region 12 [{ dst := some 38, op := .mov (.t 36), guard := none }, { dst := some 39, op := .ia 1 (.t 34) (.t 36), guard := none },
   { dst := some 40, op := .ld 1 false (.t 39), guard := none }, { dst := some 9, op := .mov (.t 38), guard := none },
   { dst := some 10, op := .mov (.t 40), guard := none }] false [] [38, 39, 40]) (.region 13 [{ dst := some 41, op := .mov (.t 5), guard := none },
   { dst := some 42, op := .mov (.t 9), guard := none }, { dst := some 43, op := .iaA 4 1 (.t 8) (.t 42), guard := none },
   { dst := some 44, op := .ld 1 false (.t 43), guard := none }, { dst := some 45, op := .nilc (.t 44), guard := none },
   { dst := some 46, op := .ld 1 false (.t 45), guard := none }, { dst := some 47, op := .mov (.t 10), guard := none }, { dst := some 48, op := .call 36 [.t 47], guard := none },
   { dst := some 49, op := .callM 33 [.t 41, .t 46, .t 48], guard := none },
   { dst := some 5, op := .mov (.t 49), guard := none }] true [(0, 7), (1, 7), (2, 7), (3, 7), (4, 7), (5, 7)] [41, 42, 43, 44, 45, 46, 47, 48, 49])))
   (.region 14 [{ dst := some 50, op := .bin .add .int (.t 36) (.c (.d (.int .i64 1))), guard := none }, { dst := some 36, op := .mov (.t 50), guard := none }] false [] [50]))))
def s_asm_Encode_l1 : SCode := (.seq (.region 6 [{ dst := some 22, op := .bin .lss .int (.t 21) (.t 20), guard := none }] false [] []) (.seq (.cond (.t 22) .skip (.exit 0)) (.seq
   (.block 1 (.seq (.region 7 [{ dst := some 23, op := .ia 5 (.t 19) (.t 21), guard := none }, { dst := some 24, op := .ld 5 true (.t 23), guard := none },
   { dst := some 7, op := .alloc 43 (.d (.agg [.int .u8 0, .int .i64 0, .int .i64 0, .int .i64 0, .int .i64 0])), guard := none },
   { dst := none, op := .st 5 (.t 7) (.t 24), guard := none }] false [] [23, 24]) (.seq (.region 8 [{ dst := some 25, op := .mov (.t 5), guard := none },
   { dst := some 26, op := .fa (.t 7) 0 0, guard := none }, { dst := some 27, op := .ld 1 false (.t 26), guard := none },
   { dst := some 28, op := .bsl 5 1 1 [.t 27], guard := none }, { dst := some 29, op := .app 5 1 1 (.t 25) (.t 28), guard := none },
   { dst := some 5, op := .mov (.t 29), guard := none }] false [] [25, 26, 27, 28, 29]) (.seq (.region 9 [{ dst := some 30, op := .call 34 [.t 7], guard := none },
   { dst := some 8, op := .alloc 71 (.d (.agg [.nilptr, .nilptr, .nilptr, .nilptr])), guard := none }, { dst := none, op := .st 4 (.t 8) (.t 30), guard := none }] false [] [30])
   (.seq (.region 10 [{ dst := some 31, op := .fa (.t 7) 0 0, guard := none }, { dst := some 32, op := .ld 1 false (.t 31), guard := none },
   { dst := some 33, op := .call 35 [.t 32], guard := none }, { dst := some 34, op := .cnvSB (.t 33), guard := none }, { dst := some 35, op := .len .sl (.t 34), guard := none },
   { dst := some 36, op := .mov (.c (.d (.int .i64 0))), guard := none }] false [] [31, 32, 33]) (.block 2 (.loop s_asm_Encode_l0)))))))
   (.region 15 [{ dst := some 51, op := .bin .add .int (.t 21) (.c (.d (.int .i64 1))), guard := none }, { dst := some 21, op := .mov (.t 51), guard := none }] false [] [51]))))
def s_asm_Encode : SFunc := { nparams := 1, ntmps := 53, code := (.seq (.region 0 [{ dst := some 2, op := .nilrow 5 1, guard := none },
   { dst := some 3, op := .mov (.c (.d (.int .i64 0))), guard := none }] false [] []) (.seq (.seq (.region 1 [{ dst := some 11, op := .mov (.t 0), guard := none },
   { dst := some 12, op := .call 27 [.t 11], guard := none }, { dst := some 4, op := .mov (.t 12), guard := none }] false [] [11, 12]) (.seq
   (.region 2 [{ dst := some 13, op := .mov (.t 4), guard := none }, { dst := some 14, op := .bin .neq .int (.t 13) (.c (.d (.int .i64 0))), guard := none }] false [] [13])
   (.cond (.t 14) (.seq (.region 3 [{ dst := some 15, op := .mov (.t 4), guard := none }, { dst := some 2, op := .nilrow 5 1, guard := none },
   { dst := some 3, op := .mov (.t 15), guard := none }] false [] [15]) .ret) .skip))) (.seq (.region 4 [{ dst := some 16, op := .mov (.t 0), guard := none },
   { dst := some 17, op := .len .sl (.t 16), guard := none }, { dst := some 18, op := .callM 33 [.c .nils, .t 17, .c (.d (.int .i64 4))], guard := none },
   { dst := some 5, op := .mov (.t 18), guard := none }] false [] [16, 17, 18]) (.seq (.seq (.region 5 [{ dst := some 19, op := .mov (.t 0), guard := none },
   { dst := some 20, op := .len .sl (.t 19), guard := none }, { dst := some 21, op := .mov (.c (.d (.int .i64 0))), guard := none }] false [] [])
   (.block 0 (.loop s_asm_Encode_l1))) (.seq (.region 16 [{ dst := some 52, op := .mov (.t 5), guard := none }, { dst := some 2, op := .mov (.t 52), guard := none },
   { dst := some 3, op := .mov (.c (.d (.int .i64 0))), guard := none }] false [] [52]) .ret))))), results := [.tmp 2, .tmp 3] }
theorem c_asm_Encode : cFunc Tryz.prog mvTab 15 (dropOf [(1, [11, 12]), (2, [13]), (3, [15]), (4, [16, 17, 18]), (7, [23, 24]), (8, [25, 26, 27, 28, 29]), (9, [30]), (10, [31, 32, 33]), (12, [38, 39, 40]), (13, [41, 42, 43, 44, 45, 46, 47, 48, 49]), (14, [50]), (15, [51]), (16, [52])]) = some s_asm_Encode := by kernel_rfl

-- backstep/backstepref22.Encode
def s_backstepref22_Encode_l0 : SCode := (.seq (.seq (.region 11 [{ dst := some 41, op := .mov (.t 9), guard := none }, { dst := some 42, op := .mov (.t 7), guard := none },
   { dst := some 43, op := .len .str (.t 42), guard := none }, { dst := some 44, op := .bin .lss .int (.t 41) (.t 43), guard := none }] false [] [41, 42, 43])
   (.cond (.t 44) .skip (.exit 2))) (.seq (.block 3 (.region 13 [{ dst := some 47, op := .mov (.t 5), guard := none }, { dst := some 48, op := .mov (.t 0), guard := none },
   { dst := some 49, op := .mov (.t 6), guard := none }, { dst := some 50, op := .ia 5 (.t 48) (.t 49), guard := none },
   { dst := some 51, op := .ld 5 true (.t 50), guard := none }, { dst := some 52, op := .mov (.t 9), guard := none },
   { dst := some 53, op := .call 39 [.t 51, .t 52], guard := none }, { dst := some 54, op := .mov (.t 7), guard := none }, { dst := some 55, op := .mov (.t 9), guard := none },
   { dst := some 56, op := .ixS (.t 54) (.t 55), guard := none }, { dst := some 57, op := .call 40 [.t 56], guard := none },
   { dst := some 58, op := .callM 37 [.t 53, .t 57], guard := none }, { dst := some 59, op := .app 5 1 1 (.t 47) (.t 58), guard := none },
   { dst := some 5, op := .mov (.t 59), guard := none }] true [(0, 6), (6, 7), (6, 8), (6, 9), (0, 10), (0, 11)] [47, 48, 49, 50, 51, 52, 53, 54, 55, 56, 57, 58, 59]))
   (.region 12 [{ dst := some 45, op := .mov (.t 9), guard := none }, { dst := some 46, op := .bin .add .int (.t 45) (.c (.d (.int .i64 1))), guard := none },
   { dst := some 9, op := .mov (.t 46), guard := none }] false [] [45, 46])))
def s_backstepref22_Encode_l1 : SCode := (.seq (.seq (.region 6 [{ dst := some 18, op := .mov (.t 6), guard := none }, { dst := some 19, op := .mov (.t 0), guard := none },
   { dst := some 20, op := .len .sl (.t 19), guard := none }, { dst := some 21, op := .bin .lss .int (.t 18) (.t 20), guard := none }] false [] [18, 19, 20])
   (.cond (.t 21) .skip (.exit 0))) (.seq (.block 1 (.seq (.region 8 [{ dst := some 24, op := .mov (.t 5), guard := none }, { dst := some 25, op := .mov (.t 0), guard := none },
   { dst := some 26, op := .mov (.t 6), guard := none }, { dst := some 27, op := .ia 5 (.t 25) (.t 26), guard := none }, { dst := some 28, op := .fa (.t 27) 0 0, guard := none },
   { dst := some 29, op := .ld 1 false (.t 28), guard := none }, { dst := some 30, op := .bsl 5 1 1 [.t 29], guard := none },
   { dst := some 31, op := .app 5 1 1 (.t 24) (.t 30), guard := none }, { dst := some 5, op := .mov (.t 31), guard := none }] false [] [24, 25, 26, 27, 28, 29, 30, 31]) (.seq
   (.region 9 [{ dst := some 33, op := .mov (.t 0), guard := none }, { dst := some 34, op := .mov (.t 6), guard := none },
   { dst := some 35, op := .ia 5 (.t 33) (.t 34), guard := none }, { dst := some 36, op := .fa (.t 35) 0 0, guard := none },
   { dst := some 37, op := .ld 1 false (.t 36), guard := none }, { dst := some 38, op := .call 38 [.t 37], guard := none }, { dst := some 32, op := .mov (.t 38), guard := none },
   { dst := some 39, op := .ext (.t 32) 0, guard := none }, { dst := some 40, op := .ext (.t 32) 1, guard := none }, { dst := some 7, op := .mov (.t 39), guard := none },
   { dst := some 8, op := .mov (.t 40), guard := none }] false [] [33, 34, 35, 36, 37, 38, 32, 39, 40, 8]) (.seq
   (.region 10 [{ dst := some 9, op := .mov (.c (.d (.int .i64 0))), guard := none }] false [] []) (.block 2 (.loop s_backstepref22_Encode_l0))))))
   (.region 7 [{ dst := some 22, op := .mov (.t 6), guard := none }, { dst := some 23, op := .bin .add .int (.t 22) (.c (.d (.int .i64 1))), guard := none },
   { dst := some 6, op := .mov (.t 23), guard := none }] false [] [22, 23])))
def s_backstepref22_Encode : SFunc := { nparams := 1, ntmps := 61, code := (.seq (.region 0 [{ dst := some 2, op := .nilrow 5 1, guard := none },
   { dst := some 3, op := .mov (.c (.d (.int .i64 0))), guard := none }] false [] []) (.seq (.seq (.region 1 [{ dst := some 10, op := .mov (.t 0), guard := none },
   { dst := some 11, op := .call 31 [.t 10], guard := none }, { dst := some 4, op := .mov (.t 11), guard := none }] false [] [10, 11]) (.seq
   (.region 2 [{ dst := some 12, op := .mov (.t 4), guard := none }, { dst := some 13, op := .bin .neq .int (.t 12) (.c (.d (.int .i64 0))), guard := none }] false [] [12])
   (.cond (.t 13) (.seq (.region 3 [{ dst := some 14, op := .mov (.t 4), guard := none }, { dst := some 2, op := .nilrow 5 1, guard := none },
   { dst := some 3, op := .mov (.t 14), guard := none }] false [] [14]) .ret) .skip))) (.seq (.region 4 [{ dst := some 15, op := .mov (.t 0), guard := none },
   { dst := some 16, op := .len .sl (.t 15), guard := none }, { dst := some 17, op := .callM 37 [.t 16, .c (.d (.int .i64 4))], guard := none },
   { dst := some 5, op := .mov (.t 17), guard := none }] false [] [15, 16, 17]) (.seq (.seq
   (.region 5 [{ dst := some 6, op := .mov (.c (.d (.int .i64 0))), guard := none }] false [] []) (.block 0 (.loop s_backstepref22_Encode_l1))) (.seq
   (.region 14 [{ dst := some 60, op := .mov (.t 5), guard := none }, { dst := some 2, op := .mov (.t 60), guard := none },
   { dst := some 3, op := .mov (.c (.d (.int .i64 0))), guard := none }] false [] [60]) .ret))))), results := [.tmp 2, .tmp 3] }
theorem c_backstepref22_Encode : cFunc Tryz.prog mvTab 16 (dropOf [(1, [10, 11]), (2, [12]), (3, [14]), (4, [15, 16, 17]), (6, [18, 19, 20]), (8, [24, 25, 26, 27, 28, 29, 30, 31]), (9, [33, 34, 35, 36, 37, 38, 32, 39, 40, 8]), (11, [41, 42, 43]), (13, [47, 48, 49, 50, 51, 52, 53, 54, 55, 56, 57, 58, 59]), (12, [45, 46]), (7, [22, 23]), (14, [60])]) = some s_backstepref22_Encode := by kernel_rfl

-- backstep/asm.Parse
def s_asm_Parse_l0 : SCode := (.seq (.seq (.region 4 [{ dst := some 14, op := .mov (.t 0), guard := none },
   { dst := some 15, op := .bin .neq .str (.t 14) (.c (.d (.str []))), guard := none }] false [] [14]) (.cond (.t 15) .skip (.exit 0))) (.seq (.block 1 (.seq
   (.region 6 [{ dst := some 19, op := .mov (.t 0), guard := none }, { dst := some 20, op := .call 42 [.t 19, .c (.d (.str [10]))], guard := none },
   { dst := some 18, op := .mov (.t 20), guard := none }, { dst := some 21, op := .ext (.t 18) 0, guard := none }, { dst := some 22, op := .ext (.t 18) 1, guard := none },
   { dst := some 23, op := .ext (.t 18) 2, guard := none }, { dst := some 8, op := .mov (.t 21), guard := none }, { dst := some 9, op := .mov (.t 22), guard := none },
   { dst := some 10, op := .mov (.t 23), guard := none }] false [] [19, 20, 18, 21, 22, 23]) (.seq (.region 7 [{ dst := some 25, op := .mov (.t 8), guard := none },
   { dst := some 26, op := .mov (.t 5), guard := none }, { dst := some 27, op := .call 43 [.t 25, .t 26], guard := none }, { dst := some 24, op := .mov (.t 27), guard := none },
   { dst := some 28, op := .ext (.t 24) 0, guard := none }, { dst := some 29, op := .ext (.t 24) 1, guard := none },
   { dst := some 11, op := .alloc 43 (.d (.agg [.int .u8 0, .int .i64 0, .int .i64 0, .int .i64 0, .int .i64 0])), guard := none },
   { dst := none, op := .st 5 (.t 11) (.t 28), guard := none }, { dst := some 12, op := .mov (.t 29), guard := none }] false [] [25, 26, 27, 24, 28, 29]) (.seq (.block 2 (.seq
   (.region 8 [{ dst := some 31, op := .mov (.t 7), guard := none }, { dst := some 32, op := .bin .gtr .int (.t 31) (.c (.d (.int .i64 65536))), guard := none },
   { dst := some 30, op := .mov (.t 32), guard := none }] false [] [31, 32]) (.cond (.t 30) (.seq (.region 9 [{ dst := some 33, op := .mov (.t 7), guard := none },
   { dst := some 2, op := .nilrow 43 5, guard := none }, { dst := some 3, op := .mov (.t 33), guard := none },
   { dst := some 4, op := .mov (.c (.d (.int .i64 5))), guard := none }] false [] [33]) .ret) (.seq (.region 10 [{ dst := some 35, op := .mov (.t 12), guard := none },
   { dst := some 36, op := .un .not (.t 35), guard := none }, { dst := some 34, op := .mov (.t 36), guard := none }] false [] [35, 36]) (.cond (.t 34) (.seq
   (.region 11 [{ dst := some 37, op := .mov (.t 7), guard := none }, { dst := some 2, op := .nilrow 43 5, guard := none }, { dst := some 3, op := .mov (.t 37), guard := none },
   { dst := some 4, op := .mov (.c (.d (.int .i64 3))), guard := none }] false [] [37]) .ret) (.seq (.region 12 [{ dst := some 39, op := .mov (.t 10), guard := none },
   { dst := some 40, op := .un .not (.t 39), guard := none }, { dst := some 38, op := .mov (.t 40), guard := none }] false [] [39, 40]) (.cond (.t 38) (.seq
   (.region 13 [{ dst := some 41, op := .mov (.t 7), guard := none }, { dst := some 2, op := .nilrow 43 5, guard := none }, { dst := some 3, op := .mov (.t 41), guard := none },
   { dst := some 4, op := .mov (.c (.d (.int .i64 4))), guard := none }] false [] [41]) .ret) .skip))))))) (.seq (.region 14 [{ dst := some 42, op := .mov (.t 6), guard := none },
   { dst := some 43, op := .ld 5 true (.t 11), guard := none }, { dst := some 44, op := .bsl 43 5 1 [.t 43], guard := none },
   { dst := some 45, op := .app 43 5 40 (.t 42) (.t 44), guard := none }, { dst := some 6, op := .mov (.t 45), guard := none }] false [] [42, 43, 44, 45])
   (.region 15 [{ dst := some 46, op := .mov (.t 9), guard := none }, { dst := some 0, op := .mov (.t 46), guard := none }] false [] [46]))))))
   (.region 5 [{ dst := some 16, op := .mov (.t 7), guard := none }, { dst := some 17, op := .bin .add .int (.t 16) (.c (.d (.int .i64 1))), guard := none },
   { dst := some 7, op := .mov (.t 17), guard := none }] false [] [16, 17])))
def s_asm_Parse : SFunc := { nparams := 1, ntmps := 48, code := (.seq (.region 0 [{ dst := some 2, op := .nilrow 43 5, guard := none },
   { dst := some 3, op := .mov (.c (.d (.int .i64 0))), guard := none }, { dst := some 4, op := .mov (.c (.d (.int .i64 0))), guard := none }] false [] []) (.seq
   (.region 1 [{ dst := some 13, op := .call 41 [], guard := none }, { dst := some 5, op := .mov (.t 13), guard := none }] false [] [13]) (.seq
   (.region 2 [{ dst := some 6, op := .nilrow 43 5, guard := none }] false [] []) (.seq (.seq
   (.region 3 [{ dst := some 7, op := .mov (.c (.d (.int .i64 1))), guard := none }] false [] []) (.block 0 (.loop s_asm_Parse_l0))) (.seq
   (.region 16 [{ dst := some 47, op := .mov (.t 6), guard := none }, { dst := some 2, op := .mov (.t 47), guard := none },
   { dst := some 3, op := .mov (.c (.d (.int .i64 0))), guard := none },
   { dst := some 4, op := .mov (.c (.d (.int .i64 0))), guard := none }] false [] [47]) .ret))))), results := [.tmp 2, .tmp 3, .tmp 4] }
theorem c_asm_Parse : cFunc Tryz.prog mvTab 17 (dropOf [(1, [13]), (4, [14]), (6, [19, 20, 18, 21, 22, 23]), (7, [25, 26, 27, 24, 28, 29]), (8, [31, 32]), (9, [33]), (10, [35, 36]), (11, [37]), (12, [39, 40]), (13, [41]), (14, [42, 43, 44, 45]), (15, [46]), (5, [16, 17]), (16, [47])]) = some s_asm_Parse := by kernel_rfl

-- backstep/backstepref22.Parse
def s_backstepref22_Parse_l0 : SCode := (.seq (.seq (.region 6 [{ dst := some 14, op := .mov (.t 7), guard := none }, { dst := some 15, op := .mov (.t 0), guard := none },
   { dst := some 16, op := .len .str (.t 15), guard := none }, { dst := some 17, op := .bin .lss .int (.t 14) (.t 16), guard := none },
   { dst := some 18, op := .mov (.t 17), guard := none }, { dst := some 19, op := .mov (.t 0), guard := some (18, true) },
   { dst := some 20, op := .mov (.t 7), guard := some (18, true) }, { dst := some 21, op := .ixS (.t 19) (.t 20), guard := some (18, true) },
   { dst := some 22, op := .bin .neq .int (.t 21) (.c (.d (.int .u8 10))), guard := some (18, true) },
   { dst := some 23, op := .pick (.t 18) (.t 22) (.c (.d (.bool false))), guard := none }] false [] [14, 15, 16, 17, 18, 19, 20, 21, 22]) (.cond (.t 23) .skip (.exit 2))) (.block 3
   (.region 7 [{ dst := some 24, op := .mov (.t 7), guard := none }, { dst := some 25, op := .bin .add .int (.t 24) (.c (.d (.int .i64 1))), guard := none },
   { dst := some 7, op := .mov (.t 25), guard := none }] false [] [24, 25])))
def s_backstepref22_Parse_l1 : SCode := (.seq (.seq (.region 3 [{ dst := some 10, op := .mov (.t 0), guard := none },
   { dst := some 11, op := .bin .neq .str (.t 10) (.c (.d (.str []))), guard := none }] false [] [10]) (.cond (.t 11) .skip (.exit 0))) (.seq (.block 1 (.seq
   (.region 5 [{ dst := some 7, op := .mov (.c (.d (.int .i64 0))), guard := none }] false [] []) (.seq (.block 2 (.loop s_backstepref22_Parse_l0)) (.seq (.seq
   (.region 8 [{ dst := some 26, op := .mov (.t 6), guard := none }, { dst := some 27, op := .bin .gtr .int (.t 26) (.c (.d (.int .i64 65536))), guard := none }] false [] [26])
   (.cond (.t 27) (.seq (.region 9 [{ dst := some 28, op := .mov (.t 6), guard := none }, { dst := some 2, op := .nilrow 43 5, guard := none },
   { dst := some 3, op := .mov (.t 28), guard := none }, { dst := some 4, op := .mov (.c (.d (.int .i64 5))), guard := none }] false [] [28]) .ret) .skip)) (.seq
   (.region 10 [{ dst := some 30, op := .mov (.t 0), guard := none }, { dst := some 31, op := .mov (.t 7), guard := none },
   { dst := some 32, op := .slS (.t 30) none (some (.t 31)), guard := none }, { dst := some 33, op := .call 44 [.t 32], guard := none },
   { dst := some 29, op := .mov (.t 33), guard := none }, { dst := some 34, op := .ext (.t 29) 0, guard := none }, { dst := some 35, op := .ext (.t 29) 1, guard := none },
   { dst := some 8, op := .alloc 43 (.d (.agg [.int .u8 0, .int .i64 0, .int .i64 0, .int .i64 0, .int .i64 0])), guard := none },
   { dst := none, op := .st 5 (.t 8) (.t 34), guard := none }, { dst := some 9, op := .mov (.t 35), guard := none }] false [] [30, 31, 32, 33, 29, 34, 35]) (.seq (.seq
   (.region 11 [{ dst := some 36, op := .mov (.t 9), guard := none }, { dst := some 37, op := .un .not (.t 36), guard := none }] false [] [36]) (.cond (.t 37) (.seq
   (.region 12 [{ dst := some 38, op := .mov (.t 6), guard := none }, { dst := some 2, op := .nilrow 43 5, guard := none }, { dst := some 3, op := .mov (.t 38), guard := none },
   { dst := some 4, op := .mov (.c (.d (.int .i64 3))), guard := none }] false [] [38]) .ret) .skip)) (.seq (.seq (.region 13 [{ dst := some 39, op := .mov (.t 7), guard := none },
   { dst := some 40, op := .mov (.t 0), guard := none }, { dst := some 41, op := .len .str (.t 40), guard := none },
   { dst := some 42, op := .bin .eql .int (.t 39) (.t 41), guard := none }] false [] [39, 40, 41]) (.cond (.t 42) (.seq
   (.region 14 [{ dst := some 43, op := .mov (.t 6), guard := none }, { dst := some 2, op := .nilrow 43 5, guard := none }, { dst := some 3, op := .mov (.t 43), guard := none },
   { dst := some 4, op := .mov (.c (.d (.int .i64 4))), guard := none }] false [] [43]) .ret) .skip)) (.seq (.region 15 [{ dst := some 44, op := .mov (.t 5), guard := none },
   { dst := some 45, op := .ld 5 true (.t 8), guard := none }, { dst := some 46, op := .bsl 43 5 1 [.t 45], guard := none },
   { dst := some 47, op := .app 43 5 40 (.t 44) (.t 46), guard := none }, { dst := some 5, op := .mov (.t 47), guard := none }] false [] [44, 45, 46, 47])
   (.region 16 [{ dst := some 48, op := .mov (.t 0), guard := none }, { dst := some 49, op := .mov (.t 7), guard := none },
   { dst := some 50, op := .bin .add .int (.t 49) (.c (.d (.int .i64 1))), guard := none }, { dst := some 51, op := .slS (.t 48) (some (.t 50)) none, guard := none },
   { dst := some 0, op := .mov (.t 51), guard := none }] false [] [48, 49, 50, 51]))))))))) (.region 4 [{ dst := some 12, op := .mov (.t 6), guard := none },
   { dst := some 13, op := .bin .add .int (.t 12) (.c (.d (.int .i64 1))), guard := none }, { dst := some 6, op := .mov (.t 13), guard := none }] false [] [12, 13])))
def s_backstepref22_Parse : SFunc := { nparams := 1, ntmps := 53, code := (.seq (.region 0 [{ dst := some 2, op := .nilrow 43 5, guard := none },
   { dst := some 3, op := .mov (.c (.d (.int .i64 0))), guard := none }, { dst := some 4, op := .mov (.c (.d (.int .i64 0))), guard := none }] false [] []) (.seq
   (.region 1 [{ dst := some 5, op := .nilrow 43 5, guard := none }] false [] []) (.seq (.seq
   (.region 2 [{ dst := some 6, op := .mov (.c (.d (.int .i64 1))), guard := none }] false [] []) (.block 0 (.loop s_backstepref22_Parse_l1))) (.seq
   (.region 17 [{ dst := some 52, op := .mov (.t 5), guard := none }, { dst := some 2, op := .mov (.t 52), guard := none },
   { dst := some 3, op := .mov (.c (.d (.int .i64 0))), guard := none },
   { dst := some 4, op := .mov (.c (.d (.int .i64 0))), guard := none }] false [] [52]) .ret)))), results := [.tmp 2, .tmp 3, .tmp 4] }
theorem c_backstepref22_Parse : cFunc Tryz.prog mvTab 18 (dropOf [(3, [10]), (6, [14, 15, 16, 17, 18, 19, 20, 21, 22]), (7, [24, 25]), (8, [26]), (9, [28]), (10, [30, 31, 32, 33, 29, 34, 35]), (11, [36]), (12, [38]), (13, [39, 40, 41]), (14, [43]), (15, [44, 45, 46, 47]), (16, [48, 49, 50, 51]), (4, [12, 13]), (17, [52])]) = some s_backstepref22_Parse := by kernel_rfl

-- backstep/backstepref22.Same
def s_backstepref22_Same_l0 : SCode := (.seq (.seq (.region 4 [{ dst := some 11, op := .mov (.t 5), guard := none }, { dst := some 12, op := .mov (.t 0), guard := none },
   { dst := some 13, op := .len .sl (.t 12), guard := none }, { dst := some 14, op := .bin .lss .int (.t 11) (.t 13), guard := none }] false [] [11, 12, 13])
   (.cond (.t 14) .skip (.exit 0))) (.seq (.block 1 (.seq (.region 6 [{ dst := some 17, op := .mov (.t 0), guard := none }, { dst := some 18, op := .mov (.t 5), guard := none },
   { dst := some 19, op := .ia 5 (.t 17) (.t 18), guard := none }, { dst := some 20, op := .ld 5 true (.t 19), guard := none },
   { dst := some 21, op := .mov (.t 1), guard := none }, { dst := some 22, op := .mov (.t 5), guard := none }, { dst := some 23, op := .ia 5 (.t 21) (.t 22), guard := none },
   { dst := some 24, op := .ld 5 true (.t 23), guard := none },
   { dst := some 25, op := .eqS true [.int, .int, .int, .int, .int] (.t 20) (.t 24), guard := none }] true [] [17, 18, 19, 20, 21, 22, 23, 24]) (.cond (.t 25) (.seq
   (.region 7 [{ dst := some 4, op := .mov (.c (.d (.bool false))), guard := none }] false [] []) .ret) .skip))) (.region 5 [{ dst := some 15, op := .mov (.t 5), guard := none },
   { dst := some 16, op := .bin .add .int (.t 15) (.c (.d (.int .i64 1))), guard := none }, { dst := some 5, op := .mov (.t 16), guard := none }] false [] [15, 16])))
def s_backstepref22_Same : SFunc := { nparams := 2, ntmps := 26, code := (.seq (.region 0 [{ dst := some 4, op := .mov (.c (.d (.bool false))), guard := none }] false [] []) (.seq
   (.seq (.region 1 [{ dst := some 6, op := .mov (.t 0), guard := none }, { dst := some 7, op := .len .sl (.t 6), guard := none },
   { dst := some 8, op := .mov (.t 1), guard := none }, { dst := some 9, op := .len .sl (.t 8), guard := none },
   { dst := some 10, op := .bin .neq .int (.t 7) (.t 9), guard := none }] false [] [6, 7, 8, 9]) (.cond (.t 10) (.seq
   (.region 2 [{ dst := some 4, op := .mov (.c (.d (.bool false))), guard := none }] false [] []) .ret) .skip)) (.seq (.seq
   (.region 3 [{ dst := some 5, op := .mov (.c (.d (.int .i64 0))), guard := none }] false [] []) (.block 0 (.loop s_backstepref22_Same_l0))) (.seq
   (.region 8 [{ dst := some 4, op := .mov (.c (.d (.bool true))), guard := none }] false [] []) .ret)))), results := [.tmp 4] }
theorem c_backstepref22_Same : cFunc Tryz.prog mvTab 19 (dropOf [(1, [6, 7, 8, 9]), (4, [11, 12, 13]), (6, [17, 18, 19, 20, 21, 22, 23, 24]), (5, [15, 16])]) = some s_backstepref22_Same := by kernel_rfl

-- backstep/isa.Valid
def s_isa_Valid_l0 : SCode := (.seq (.region 5 [{ dst := some 19, op := .bin .lss .int (.t 18) (.t 17), guard := none }] false [] []) (.seq (.cond (.t 19) .skip (.exit 0)) (.seq
   (.block 1 (.seq (.region 6 [{ dst := some 20, op := .mov (.t 18), guard := none }, { dst := some 21, op := .ia 1 (.t 16) (.t 18), guard := none },
   { dst := some 22, op := .ld 1 false (.t 21), guard := none }, { dst := some 5, op := .mov (.t 20), guard := none },
   { dst := some 6, op := .mov (.t 22), guard := none }] false [] [20, 21, 22]) (.seq (.region 7 [{ dst := some 23, op := .mov (.t 5), guard := none },
   { dst := some 24, op := .fa (.t 3) 1 1, guard := none }, { dst := some 25, op := .ld 1 false (.t 24), guard := none },
   { dst := some 26, op := .len .str (.t 25), guard := none }, { dst := some 27, op := .bin .geq .int (.t 23) (.t 26), guard := none },
   { dst := some 28, op := .mov (.t 27), guard := none }, { dst := some 29, op := .mov (.t 6), guard := some (28, true) },
   { dst := some 30, op := .nilc (.t 29), guard := some (28, true) }, { dst := some 31, op := .ld 1 false (.t 30), guard := some (28, true) },
   { dst := some 32, op := .bin .neq .int (.t 31) (.c (.d (.int .i64 0))), guard := some (28, true) },
   { dst := some 33, op := .pick (.t 28) (.t 32) (.c (.d (.bool false))), guard := none }, { dst := some 34, op := .mov (.t 33), guard := none },
   { dst := some 35, op := .mov (.t 5), guard := some (34, false) }, { dst := some 36, op := .fa (.t 3) 1 1, guard := some (34, false) },
   { dst := some 37, op := .ld 1 false (.t 36), guard := some (34, false) }, { dst := some 38, op := .len .str (.t 37), guard := some (34, false) },
   { dst := some 39, op := .bin .lss .int (.t 35) (.t 38), guard := some (34, false) }, { dst := some 40, op := .mov (.t 39), guard := some (34, false) },
   { dst := some 41, op := .fa (.t 3) 1 1, guard := some (40, true) }, { dst := some 42, op := .ld 1 false (.t 41), guard := some (40, true) },
   { dst := some 43, op := .mov (.t 5), guard := some (40, true) }, { dst := some 44, op := .ixS (.t 42) (.t 43), guard := some (40, true) },
   { dst := some 45, op := .mov (.t 6), guard := some (40, true) }, { dst := some 46, op := .nilc (.t 45), guard := some (40, true) },
   { dst := some 47, op := .ld 1 false (.t 46), guard := some (40, true) }, { dst := some 48, op := .call 47 [.t 44, .t 47], guard := some (40, true) },
   { dst := some 49, op := .un .not (.t 48), guard := some (40, true) }, { dst := some 50, op := .pick (.t 40) (.t 49) (.c (.d (.bool false))), guard := some (34, false) },
   { dst := some 51, op := .pick (.t 34) (.c (.d (.bool true))) (.t 50), guard := none }] true [] [23, 24, 25, 26, 27, 28, 29, 30, 31, 32, 33, 34, 35, 36, 37, 38, 39, 40, 41, 42, 43, 44, 45, 46, 47, 48, 49, 50])
   (.cond (.t 51) (.seq (.region 8 [{ dst := some 2, op := .mov (.c (.d (.bool false))), guard := none }] false [] []) .ret) .skip))))
   (.region 9 [{ dst := some 52, op := .bin .add .int (.t 18) (.c (.d (.int .i64 1))), guard := none }, { dst := some 18, op := .mov (.t 52), guard := none }] false [] [52]))))
def s_isa_Valid : SFunc := { nparams := 1, ntmps := 79, code := (.seq (.region 0 [{ dst := some 1, op := .box 43 (.t 0), guard := none },
   { dst := some 2, op := .mov (.c (.d (.bool false))), guard := none }] false [] []) (.seq (.region 1 [{ dst := some 8, op := .call 45 [], guard := none },
   { dst := some 9, op := .fa (.t 1) 0 0, guard := none }, { dst := some 10, op := .ld 1 false (.t 9), guard := none },
   { dst := some 11, op := .lk .int (.d (.agg [.str [], .str [], .int .u8 0])) (.t 8) (.t 10) true, guard := none }, { dst := some 7, op := .mov (.t 11), guard := none },
   { dst := some 12, op := .ext (.t 7) 0, guard := none }, { dst := some 13, op := .ext (.t 7) 1, guard := none },
   { dst := some 3, op := .alloc 86 (.d (.agg [.str [], .str [], .int .u8 0])), guard := none }, { dst := none, op := .st 3 (.t 3) (.t 12), guard := none },
   { dst := some 4, op := .mov (.t 13), guard := none }] true [(0, 1), (0, 2), (0, 7), (1, 7), (2, 7), (3, 7), (4, 7), (5, 7), (6, 7), (6, 8)] [8, 9, 10, 11, 7, 12, 13]) (.seq
   (.seq (.region 2 [{ dst := some 14, op := .mov (.t 4), guard := none }, { dst := some 15, op := .un .not (.t 14), guard := none }] false [] [14]) (.cond (.t 15) (.seq
   (.region 3 [{ dst := some 2, op := .mov (.c (.d (.bool false))), guard := none }] false [] []) .ret) .skip)) (.seq (.seq
   (.region 4 [{ dst := some 16, op := .call 46 [.t 1], guard := none }, { dst := some 17, op := .len .sl (.t 16), guard := none },
   { dst := some 18, op := .mov (.c (.d (.int .i64 0))), guard := none }] false [] []) (.block 0 (.loop s_isa_Valid_l0))) (.seq (.seq
   (.region 10 [{ dst := some 53, op := .fa (.t 1) 0 0, guard := none }, { dst := some 54, op := .ld 1 false (.t 53), guard := none }] false [] [53]) (.block 2 (.seq (.seq
   (.region 11 [{ dst := some 56, op := .bin .eql .int (.t 54) (.c (.d (.int .u8 1))), guard := none }, { dst := some 55, op := .mov (.t 56), guard := none }] false [] [56])
   (.cond (.t 55) .skip (.seq (.region 12 [{ dst := some 57, op := .bin .eql .int (.t 54) (.c (.d (.int .u8 2))), guard := none },
   { dst := some 55, op := .mov (.t 57), guard := none }] false [] [57]) (.cond (.t 55) .skip (.seq
   (.region 13 [{ dst := some 58, op := .bin .eql .int (.t 54) (.c (.d (.int .u8 3))), guard := none }, { dst := some 55, op := .mov (.t 58), guard := none }] false [] [58])
   (.cond (.t 55) .skip (.region 14 [{ dst := some 59, op := .bin .eql .int (.t 54) (.c (.d (.int .u8 11))), guard := none },
   { dst := some 55, op := .mov (.t 59), guard := none }] false [] [59]))))))) (.cond (.t 55) (.seq (.region 15 [{ dst := some 60, op := .fa (.t 1) 1 1, guard := none },
   { dst := some 61, op := .ld 1 false (.t 60), guard := none }, { dst := some 62, op := .fa (.t 1) 2 2, guard := none },
   { dst := some 63, op := .ld 1 false (.t 62), guard := none }, { dst := some 64, op := .bin .neq .int (.t 61) (.t 63), guard := none },
   { dst := some 2, op := .mov (.t 64), guard := none }] false [] [60, 61, 62, 63, 64]) .ret) (.seq
   (.region 16 [{ dst := some 66, op := .bin .eql .int (.t 54) (.c (.d (.int .u8 9))), guard := none }, { dst := some 65, op := .mov (.t 66), guard := none }] false [] [66])
   (.cond (.t 65) (.seq (.region 17 [{ dst := some 67, op := .fa (.t 1) 1 1, guard := none }, { dst := some 68, op := .ld 1 false (.t 67), guard := none },
   { dst := some 69, op := .fa (.t 1) 2 2, guard := none }, { dst := some 70, op := .ld 1 false (.t 69), guard := none },
   { dst := some 71, op := .bin .neq .int (.t 68) (.t 70), guard := none }, { dst := some 72, op := .mov (.t 71), guard := none },
   { dst := some 73, op := .fa (.t 1) 1 1, guard := some (72, true) }, { dst := some 74, op := .ld 1 false (.t 73), guard := some (72, true) },
   { dst := some 75, op := .fa (.t 1) 3 3, guard := some (72, true) }, { dst := some 76, op := .ld 1 false (.t 75), guard := some (72, true) },
   { dst := some 77, op := .bin .neq .int (.t 74) (.t 76), guard := some (72, true) }, { dst := some 78, op := .pick (.t 72) (.t 77) (.c (.d (.bool false))), guard := none },
   { dst := some 2, op := .mov (.t 78), guard := none }] false [] [67, 68, 69, 70, 71, 72, 73, 74, 75, 76, 77, 78]) .ret) .skip)))))) (.seq
   (.region 18 [{ dst := some 2, op := .mov (.c (.d (.bool true))), guard := none }] false [] []) .ret)))))), results := [.tmp 2] }
theorem c_isa_Valid : cFunc Tryz.prog mvTab 20 (dropOf [(1, [8, 9, 10, 11, 7, 12, 13]), (2, [14]), (6, [20, 21, 22]), (7, [23, 24, 25, 26, 27, 28, 29, 30, 31, 32, 33, 34, 35, 36, 37, 38, 39, 40, 41, 42, 43, 44, 45, 46, 47, 48, 49, 50]), (9, [52]), (10, [53]), (11, [56]), (12, [57]), (13, [58]), (14, [59]), (15, [60, 61, 62, 63, 64]), (16, [66]), (17, [67, 68, 69, 70, 71, 72, 73, 74, 75, 76, 77, 78])]) = some s_isa_Valid := by kernel_rfl

-- backstep/backstepref22.Words
def s_backstepref22_Words_l0 : SCode := (.seq (.seq (.region 4 [{ dst := some 6, op := .mov (.t 5), guard := none }, { dst := some 7, op := .mov (.t 0), guard := none },
   { dst := some 8, op := .len .str (.t 7), guard := none }, { dst := some 9, op := .bin .leq .int (.t 6) (.t 8), guard := none }] false [] [6, 7, 8])
   (.cond (.t 9) .skip (.exit 0))) (.seq (.block 1 (.seq (.region 6 [{ dst := some 12, op := .mov (.t 5), guard := none }, { dst := some 13, op := .mov (.t 0), guard := none },
   { dst := some 14, op := .len .str (.t 13), guard := none }, { dst := some 15, op := .bin .eql .int (.t 12) (.t 14), guard := none },
   { dst := some 16, op := .mov (.t 15), guard := none }, { dst := some 17, op := .mov (.t 0), guard := some (16, false) },
   { dst := some 18, op := .mov (.t 5), guard := some (16, false) }, { dst := some 19, op := .ixS (.t 17) (.t 18), guard := some (16, false) },
   { dst := some 20, op := .bin .eql .int (.t 19) (.c (.d (.int .u8 32))), guard := some (16, false) },
   { dst := some 21, op := .pick (.t 16) (.c (.d (.bool true))) (.t 20), guard := none }] false [] [12, 13, 14, 15, 16, 17, 18, 19, 20]) (.cond (.t 21) (.seq
   (.region 7 [{ dst := some 22, op := .mov (.t 3), guard := none }, { dst := some 23, op := .mov (.t 0), guard := none }, { dst := some 24, op := .mov (.t 4), guard := none },
   { dst := some 25, op := .mov (.t 5), guard := none }, { dst := some 26, op := .slS (.t 23) (some (.t 24)) (some (.t 25)), guard := none },
   { dst := some 27, op := .bsl 9 1 1 [.t 26], guard := none }, { dst := some 28, op := .app 9 1 16 (.t 22) (.t 27), guard := none },
   { dst := some 3, op := .mov (.t 28), guard := none }] false [] [22, 23, 24, 25, 26, 27, 28]) (.region 8 [{ dst := some 29, op := .mov (.t 5), guard := none },
   { dst := some 30, op := .bin .add .int (.t 29) (.c (.d (.int .i64 1))), guard := none }, { dst := some 4, op := .mov (.t 30), guard := none }] false [] [29, 30])) .skip)))
   (.region 5 [{ dst := some 10, op := .mov (.t 5), guard := none }, { dst := some 11, op := .bin .add .int (.t 10) (.c (.d (.int .i64 1))), guard := none },
   { dst := some 5, op := .mov (.t 11), guard := none }] false [] [10, 11])))
def s_backstepref22_Words : SFunc := { nparams := 1, ntmps := 32, code := (.seq (.region 0 [{ dst := some 2, op := .nilrow 9 1, guard := none }] false [] []) (.seq
   (.region 1 [{ dst := some 3, op := .nilrow 9 1, guard := none }] false [] []) (.seq
   (.region 2 [{ dst := some 4, op := .mov (.c (.d (.int .i64 0))), guard := none }] false [] []) (.seq (.seq
   (.region 3 [{ dst := some 5, op := .mov (.c (.d (.int .i64 0))), guard := none }] false [] []) (.block 0 (.loop s_backstepref22_Words_l0))) (.seq
   (.region 9 [{ dst := some 31, op := .mov (.t 3), guard := none }, { dst := some 2, op := .mov (.t 31), guard := none }] false [] [31]) .ret))))), results := [.tmp 2] }
theorem c_backstepref22_Words : cFunc Tryz.prog mvTab 21 (dropOf [(4, [6, 7, 8]), (6, [12, 13, 14, 15, 16, 17, 18, 19, 20]), (7, [22, 23, 24, 25, 26, 27, 28]), (8, [29, 30]), (5, [10, 11]), (9, [31])]) = some s_backstepref22_Words := by kernel_rfl

-- backstep/isa.Operands
def s_isa_Operands : SFunc := { nparams := 1, ntmps := 8, code := (.seq (.region 0 [{ dst := some 2, op := .mov (.c (.d (.int .i64 0))), guard := none }] false [] []) (.seq
   (.region 1 [{ dst := some 3, op := .call 45 [], guard := none }, { dst := some 4, op := .mov (.t 0), guard := none },
   { dst := some 5, op := .lk .int (.d (.agg [.str [], .str [], .int .u8 0])) (.t 3) (.t 4) false, guard := none }, { dst := some 6, op := .fld (.t 5) 1 1 1 false, guard := none },
   { dst := some 7, op := .len .str (.t 6), guard := none }, { dst := some 2, op := .mov (.t 7), guard := none }] false [] [3, 4, 5, 6, 7]) .ret)), results := [.tmp 2] }
theorem c_isa_Operands : cFunc Tryz.prog mvTab 22 (dropOf [(1, [3, 4, 5, 6, 7])]) = some s_isa_Operands := by kernel_rfl

-- backstep/isa.Mnemonic
def s_isa_Mnemonic : SFunc := { nparams := 1, ntmps := 7, code := (.seq (.region 0 [{ dst := some 2, op := .mov (.c (.d (.str []))), guard := none }] false [] []) (.seq
   (.region 1 [{ dst := some 3, op := .call 45 [], guard := none }, { dst := some 4, op := .mov (.t 0), guard := none },
   { dst := some 5, op := .lk .int (.d (.agg [.str [], .str [], .int .u8 0])) (.t 3) (.t 4) false, guard := none }, { dst := some 6, op := .fld (.t 5) 0 0 1 false, guard := none },
   { dst := some 2, op := .mov (.t 6), guard := none }] false [] [3, 4, 5, 6]) .ret)), results := [.tmp 2] }
theorem c_isa_Mnemonic : cFunc Tryz.prog mvTab 23 (dropOf [(1, [3, 4, 5, 6])]) = some s_isa_Mnemonic := by kernel_rfl

-- backstep/isa.Inverse
def s_isa_Inverse : SFunc := { nparams := 1, ntmps := 17, code := (.seq (.region 0 [{ dst := some 1, op := .box 43 (.t 0), guard := none },
   { dst := some 2, op := .alloc 43 (.d (.agg [.int .u8 0, .int .i64 0, .int .i64 0, .int .i64 0, .int .i64 0])), guard := none }] false [] []) (.seq (.seq
   (.region 1 [{ dst := some 6, op := .call 45 [], guard := none }, { dst := some 7, op := .fa (.t 1) 0 0, guard := none },
   { dst := some 8, op := .ld 1 false (.t 7), guard := none }, { dst := some 9, op := .lk .int (.d (.agg [.str [], .str [], .int .u8 0])) (.t 6) (.t 8) true, guard := none },
   { dst := some 5, op := .mov (.t 9), guard := none }, { dst := some 10, op := .ext (.t 5) 0, guard := none }, { dst := some 11, op := .ext (.t 5) 1, guard := none },
   { dst := some 3, op := .alloc 86 (.d (.agg [.str [], .str [], .int .u8 0])), guard := none }, { dst := none, op := .st 3 (.t 3) (.t 10), guard := none },
   { dst := some 4, op := .mov (.t 11), guard := none }] true [(0, 1), (0, 2), (0, 7), (1, 7), (2, 7), (3, 7), (4, 7), (5, 7), (6, 7), (6, 8)] [6, 7, 8, 9, 5, 10, 11]) (.seq
   (.region 2 [{ dst := some 12, op := .mov (.t 4), guard := none }] false [] []) (.cond (.t 12) (.region 3 [{ dst := some 13, op := .fa (.t 3) 2 2, guard := none },
   { dst := some 14, op := .ld 1 false (.t 13), guard := none }, { dst := some 15, op := .fa (.t 1) 0 0, guard := none },
   { dst := none, op := .st 1 (.t 15) (.t 14), guard := none }] false [] [13, 14, 15]) .skip))) (.seq (.region 4 [{ dst := some 16, op := .ld 5 true (.t 1), guard := none },
   { dst := none, op := .st 5 (.t 2) (.t 16), guard := none }] false [] [16]) .ret))), results := [.cell 2 5 true] }
theorem c_isa_Inverse : cFunc Tryz.prog mvTab 24 (dropOf [(1, [6, 7, 8, 9, 5, 10, 11]), (3, [13, 14, 15]), (4, [16])]) = some s_isa_Inverse := by kernel_rfl

-- backstep/asm.Decode
def s_asm_Decode_l0 : SCode := (.seq (.region 17 [{ dst := some 44, op := .bin .lss .int (.t 43) (.t 42), guard := none }] false [] []) (.seq (.cond (.t 44) .skip (.exit 2)) (.seq
   (.block 3 (.seq (.region 18 [{ dst := some 45, op := .mov (.t 43), guard := none }, { dst := some 46, op := .ia 1 (.t 41) (.t 43), guard := none },
   { dst := some 47, op := .ld 1 false (.t 46), guard := none }, { dst := some 11, op := .mov (.t 45), guard := none },
   { dst := some 12, op := .mov (.t 47), guard := none }] false [] [45, 46, 47]) (.seq (.region 19 [{ dst := some 49, op := .mov (.t 12), guard := none },
   { dst := some 50, op := .call 36 [.t 49], guard := none }, { dst := some 51, op := .call 48 [.t 1, .t 50], guard := none },
   { dst := some 48, op := .mov (.t 51), guard := none }, { dst := some 52, op := .ext (.t 48) 0, guard := none }, { dst := some 53, op := .ext (.t 48) 1, guard := none },
   { dst := some 13, op := .mov (.t 52), guard := none }, { dst := some 14, op := .mov (.t 53), guard := none }] false [] [49, 50, 51, 48, 52, 53]) (.seq (.seq
   (.region 20 [{ dst := some 54, op := .mov (.t 14), guard := none }, { dst := some 55, op := .un .not (.t 54), guard := none }] false [] [54]) (.cond (.t 55) (.seq
   (.region 21 [{ dst := some 2, op := .nilrow 43 5, guard := none }, { dst := some 3, op := .mov (.c (.d (.int .i64 4))), guard := none }] false [] []) .ret) .skip))
   (.region 22 [{ dst := some 56, op := .mov (.t 11), guard := none }, { dst := some 57, op := .iaA 4 1 (.t 10) (.t 56), guard := none },
   { dst := some 58, op := .ld 1 false (.t 57), guard := none }, { dst := some 59, op := .mov (.t 13), guard := none }, { dst := some 60, op := .nilc (.t 58), guard := none },
   { dst := none, op := .st 1 (.t 60) (.t 59), guard := none }] false [] [56, 57, 58, 59, 60])))))
   (.region 23 [{ dst := some 61, op := .bin .add .int (.t 43) (.c (.d (.int .i64 1))), guard := none }, { dst := some 43, op := .mov (.t 61), guard := none }] false [] [61]))))
def s_asm_Decode_l1 : SCode := (.seq (.region 8 [{ dst := some 25, op := .bin .lss .int (.t 24) (.t 23), guard := none }] false [] []) (.seq (.cond (.t 25) .skip (.exit 0)) (.seq
   (.block 1 (.seq (.region 9 [{ dst := some 27, op := .call 48 [.t 1, .c (.d (.int .i64 1))], guard := none }, { dst := some 26, op := .mov (.t 27), guard := none },
   { dst := some 28, op := .ext (.t 26) 0, guard := none }, { dst := some 29, op := .ext (.t 26) 1, guard := none }, { dst := some 7, op := .mov (.t 28), guard := none },
   { dst := some 8, op := .mov (.t 29), guard := none }] false [] [27, 26, 28, 29]) (.seq (.seq (.region 10 [{ dst := some 30, op := .mov (.t 8), guard := none },
   { dst := some 31, op := .un .not (.t 30), guard := none }] false [] [30]) (.cond (.t 31) (.seq (.region 11 [{ dst := some 2, op := .nilrow 43 5, guard := none },
   { dst := some 3, op := .mov (.c (.d (.int .i64 4))), guard := none }] false [] []) .ret) .skip)) (.seq (.seq (.region 12 [{ dst := some 32, op := .mov (.t 7), guard := none },
   { dst := some 33, op := .bin .geq .int (.t 32) (.c (.d (.int .i64 35))), guard := none }] false [] [32]) (.cond (.t 33) (.seq
   (.region 13 [{ dst := some 2, op := .nilrow 43 5, guard := none }, { dst := some 3, op := .mov (.c (.d (.int .i64 3))), guard := none }] false [] []) .ret) .skip)) (.seq
   (.region 14 [{ dst := some 34, op := .mov (.t 7), guard := none }, { dst := some 35, op := .cnvI .u8 (.t 34), guard := none },
   { dst := some 36, op := .build [.d (.int .u8 0), .d (.int .i64 0), .d (.int .i64 0), .d (.int .i64 0), .d (.int .i64 0)] [(0, .t 35)], guard := none },
   { dst := some 9, op := .alloc 43 (.d (.agg [.int .u8 0, .int .i64 0, .int .i64 0, .int .i64 0, .int .i64 0])), guard := none },
   { dst := none, op := .st 5 (.t 9) (.t 36), guard := none }] false [] [34, 35, 36]) (.seq (.region 15 [{ dst := some 37, op := .call 34 [.t 9], guard := none },
   { dst := some 10, op := .alloc 71 (.d (.agg [.nilptr, .nilptr, .nilptr, .nilptr])), guard := none }, { dst := none, op := .st 4 (.t 10) (.t 37), guard := none }] false [] [37])
   (.seq (.seq (.region 16 [{ dst := some 38, op := .fa (.t 9) 0 0, guard := none }, { dst := some 39, op := .ld 1 false (.t 38), guard := none },
   { dst := some 40, op := .call 35 [.t 39], guard := none }, { dst := some 41, op := .cnvSB (.t 40), guard := none }, { dst := some 42, op := .len .sl (.t 41), guard := none },
   { dst := some 43, op := .mov (.c (.d (.int .i64 0))), guard := none }] false [] [38, 39, 40]) (.block 2 (.loop s_asm_Decode_l0))) (.seq (.seq
   (.region 24 [{ dst := some 62, op := .ld 5 true (.t 9), guard := none }, { dst := some 63, op := .call 20 [.t 62], guard := none },
   { dst := some 64, op := .un .not (.t 63), guard := none }] false [] [62, 63]) (.cond (.t 64) (.seq (.region 25 [{ dst := some 2, op := .nilrow 43 5, guard := none },
   { dst := some 3, op := .mov (.c (.d (.int .i64 3))), guard := none }] false [] []) .ret) .skip)) (.region 26 [{ dst := some 65, op := .mov (.t 6), guard := none },
   { dst := some 66, op := .ld 5 true (.t 9), guard := none }, { dst := some 67, op := .bsl 43 5 1 [.t 66], guard := none },
   { dst := some 68, op := .app 43 5 40 (.t 65) (.t 67), guard := none }, { dst := some 6, op := .mov (.t 68), guard := none }] false [] [65, 66, 67, 68])))))))))
   (.region 27 [{ dst := some 69, op := .bin .add .int (.t 24) (.c (.d (.int .i64 1))), guard := none }, { dst := some 24, op := .mov (.t 69), guard := none }] false [] [69]))))
def s_asm_Decode : SFunc := { nparams := 1, ntmps := 74, code := (.seq (.region 0 [{ dst := some 1, op := .box 29 (.t 0), guard := none },
   { dst := some 2, op := .nilrow 43 5, guard := none }, { dst := some 3, op := .mov (.c (.d (.int .i64 0))), guard := none }] false [] []) (.seq
   (.region 1 [{ dst := some 16, op := .call 48 [.t 1, .c (.d (.int .i64 4))], guard := none }, { dst := some 15, op := .mov (.t 16), guard := none },
   { dst := some 17, op := .ext (.t 15) 0, guard := none }, { dst := some 18, op := .ext (.t 15) 1, guard := none }, { dst := some 4, op := .mov (.t 17), guard := none },
   { dst := some 5, op := .mov (.t 18), guard := none }] false [] [16, 15, 17, 18]) (.seq (.seq (.region 2 [{ dst := some 19, op := .mov (.t 5), guard := none },
   { dst := some 20, op := .un .not (.t 19), guard := none }] false [] [19]) (.cond (.t 20) (.seq (.region 3 [{ dst := some 2, op := .nilrow 43 5, guard := none },
   { dst := some 3, op := .mov (.c (.d (.int .i64 4))), guard := none }] false [] []) .ret) .skip)) (.seq (.seq (.region 4 [{ dst := some 21, op := .mov (.t 4), guard := none },
   { dst := some 22, op := .bin .gtr .int (.t 21) (.c (.d (.int .i64 65536))), guard := none }] false [] [21]) (.cond (.t 22) (.seq
   (.region 5 [{ dst := some 2, op := .nilrow 43 5, guard := none }, { dst := some 3, op := .mov (.c (.d (.int .i64 5))), guard := none }] false [] []) .ret) .skip)) (.seq
   (.region 6 [{ dst := some 6, op := .nilrow 43 5, guard := none }] false [] []) (.seq (.seq (.region 7 [{ dst := some 23, op := .mov (.t 4), guard := none },
   { dst := some 24, op := .mov (.c (.d (.int .i64 0))), guard := none }] false [] []) (.block 0 (.loop s_asm_Decode_l1))) (.seq (.seq
   (.region 28 [{ dst := some 70, op := .ld 1 false (.t 1), guard := none }, { dst := some 71, op := .len .sl (.t 70), guard := none },
   { dst := some 72, op := .bin .gtr .int (.t 71) (.c (.d (.int .i64 0))), guard := none }] false [] [70, 71]) (.cond (.t 72) (.seq
   (.region 29 [{ dst := some 2, op := .nilrow 43 5, guard := none }, { dst := some 3, op := .mov (.c (.d (.int .i64 3))), guard := none }] false [] []) .ret) .skip)) (.seq
   (.region 30 [{ dst := some 73, op := .mov (.t 6), guard := none }, { dst := some 2, op := .mov (.t 73), guard := none },
   { dst := some 3, op := .mov (.c (.d (.int .i64 0))), guard := none }] false [] [73]) .ret)))))))), results := [.tmp 2, .tmp 3] }
theorem c_asm_Decode : cFunc Tryz.prog mvTab 25 (dropOf [(1, [16, 15, 17, 18]), (2, [19]), (4, [21]), (9, [27, 26, 28, 29]), (10, [30]), (12, [32]), (14, [34, 35, 36]), (15, [37]), (16, [38, 39, 40]), (18, [45, 46, 47]), (19, [49, 50, 51, 48, 52, 53]), (20, [54]), (22, [56, 57, 58, 59, 60]), (23, [61]), (24, [62, 63]), (26, [65, 66, 67, 68]), (27, [69]), (28, [70, 71]), (30, [73])]) = some s_asm_Decode := by kernel_rfl

-- backstep/backstepref22.Decode
def s_backstepref22_Decode_l0 : SCode := (.seq (.seq (.region 17 [{ dst := some 42, op := .mov (.t 9), guard := none }, { dst := some 43, op := .mov (.t 7), guard := none },
   { dst := some 44, op := .len .str (.t 43), guard := none }, { dst := some 45, op := .bin .lss .int (.t 42) (.t 44), guard := none }] false [] [42, 43, 44])
   (.cond (.t 45) .skip (.exit 2))) (.seq (.block 3 (.seq (.region 19 [{ dst := some 48, op := .mov (.t 7), guard := none }, { dst := some 49, op := .mov (.t 9), guard := none },
   { dst := some 50, op := .ixS (.t 48) (.t 49), guard := none }, { dst := some 51, op := .call 40 [.t 50], guard := none },
   { dst := some 10, op := .mov (.t 51), guard := none }] false [] [48, 49, 50, 51]) (.seq (.seq (.region 20 [{ dst := some 52, op := .mov (.t 0), guard := none },
   { dst := some 53, op := .len .sl (.t 52), guard := none }, { dst := some 54, op := .mov (.t 10), guard := none },
   { dst := some 55, op := .bin .lss .int (.t 53) (.t 54), guard := none }] false [] [52, 53, 54]) (.cond (.t 55) (.seq
   (.region 21 [{ dst := some 2, op := .nilrow 43 5, guard := none }, { dst := some 3, op := .mov (.c (.d (.int .i64 4))), guard := none }] false [] []) .ret) .skip)) (.seq
   (.region 22 [{ dst := some 56, op := .ld 5 true (.t 6), guard := none }, { dst := some 57, op := .mov (.t 9), guard := none },
   { dst := some 58, op := .mov (.t 0), guard := none }, { dst := some 59, op := .mov (.t 10), guard := none }, { dst := some 60, op := .call 49 [.t 58, .t 59], guard := none },
   { dst := some 61, op := .call 50 [.t 56, .t 57, .t 60], guard := none },
   { dst := none, op := .st 5 (.t 6) (.t 61), guard := none }] true [(0, 4), (1, 4)] [56, 57, 58, 59, 60, 61]) (.region 23 [{ dst := some 62, op := .mov (.t 0), guard := none },
   { dst := some 63, op := .mov (.t 10), guard := none }, { dst := some 64, op := .slL 1 (.t 62) (some (.t 63)) none, guard := none },
   { dst := some 0, op := .mov (.t 64), guard := none }] false [] [62, 63, 64]))))) (.region 18 [{ dst := some 46, op := .mov (.t 9), guard := none },
   { dst := some 47, op := .bin .add .int (.t 46) (.c (.d (.int .i64 1))), guard := none }, { dst := some 9, op := .mov (.t 47), guard := none }] false [] [46, 47])))
def s_backstepref22_Decode_l1 : SCode := (.seq (.seq (.region 8 [{ dst := some 20, op := .mov (.t 5), guard := none }, { dst := some 21, op := .len .sl (.t 20), guard := none },
   { dst := some 22, op := .mov (.t 4), guard := none }, { dst := some 23, op := .bin .lss .int (.t 21) (.t 22), guard := none }] false [] [20, 21, 22])
   (.cond (.t 23) .skip (.exit 0))) (.block 1 (.seq (.seq (.region 9 [{ dst := some 24, op := .mov (.t 0), guard := none },
   { dst := some 25, op := .len .sl (.t 24), guard := none }, { dst := some 26, op := .bin .lss .int (.t 25) (.c (.d (.int .i64 1))), guard := none }] false [] [24, 25])
   (.cond (.t 26) (.seq (.region 10 [{ dst := some 2, op := .nilrow 43 5, guard := none },
   { dst := some 3, op := .mov (.c (.d (.int .i64 4))), guard := none }] false [] []) .ret) .skip)) (.seq (.region 11 [{ dst := some 27, op := .mov (.t 0), guard := none },
   { dst := some 28, op := .ia 1 (.t 27) (.c (.d (.int .i64 0))), guard := none }, { dst := some 29, op := .ld 1 false (.t 28), guard := none },
   { dst := some 30, op := .build [.d (.int .u8 0), .d (.int .i64 0), .d (.int .i64 0), .d (.int .i64 0), .d (.int .i64 0)] [(0, .t 29)], guard := none },
   { dst := some 6, op := .alloc 43 (.d (.agg [.int .u8 0, .int .i64 0, .int .i64 0, .int .i64 0, .int .i64 0])), guard := none },
   { dst := none, op := .st 5 (.t 6) (.t 30), guard := none }] false [] [27, 28, 29, 30]) (.seq (.region 12 [{ dst := some 32, op := .mov (.t 0), guard := none },
   { dst := some 33, op := .ia 1 (.t 32) (.c (.d (.int .i64 0))), guard := none }, { dst := some 34, op := .ld 1 false (.t 33), guard := none },
   { dst := some 35, op := .call 38 [.t 34], guard := none }, { dst := some 31, op := .mov (.t 35), guard := none }, { dst := some 36, op := .ext (.t 31) 0, guard := none },
   { dst := some 37, op := .ext (.t 31) 1, guard := none }, { dst := some 7, op := .mov (.t 36), guard := none },
   { dst := some 8, op := .mov (.t 37), guard := none }] false [] [32, 33, 34, 35, 31, 36, 37]) (.seq (.seq (.region 13 [{ dst := some 38, op := .mov (.t 8), guard := none },
   { dst := some 39, op := .un .not (.t 38), guard := none }] false [] [38]) (.cond (.t 39) (.seq (.region 14 [{ dst := some 2, op := .nilrow 43 5, guard := none },
   { dst := some 3, op := .mov (.c (.d (.int .i64 3))), guard := none }] false [] []) .ret) .skip)) (.seq (.region 15 [{ dst := some 40, op := .mov (.t 0), guard := none },
   { dst := some 41, op := .slL 1 (.t 40) (some (.c (.d (.int .i64 1)))) none, guard := none }, { dst := some 0, op := .mov (.t 41), guard := none }] false [] [40, 41]) (.seq (.seq
   (.region 16 [{ dst := some 9, op := .mov (.c (.d (.int .i64 0))), guard := none }] false [] []) (.block 2 (.loop s_backstepref22_Decode_l0))) (.seq (.seq
   (.region 24 [{ dst := some 65, op := .ld 5 true (.t 6), guard := none }, { dst := some 66, op := .call 51 [.t 65], guard := none },
   { dst := some 67, op := .un .not (.t 66), guard := none }] false [] [65, 66]) (.cond (.t 67) (.seq (.region 25 [{ dst := some 2, op := .nilrow 43 5, guard := none },
   { dst := some 3, op := .mov (.c (.d (.int .i64 3))), guard := none }] false [] []) .ret) .skip)) (.region 26 [{ dst := some 68, op := .mov (.t 5), guard := none },
   { dst := some 69, op := .ld 5 true (.t 6), guard := none }, { dst := some 70, op := .bsl 43 5 1 [.t 69], guard := none },
   { dst := some 71, op := .app 43 5 40 (.t 68) (.t 70), guard := none }, { dst := some 5, op := .mov (.t 71), guard := none }] false [] [68, 69, 70, 71]))))))))))
def s_backstepref22_Decode : SFunc := { nparams := 1, ntmps := 76, code := (.seq (.region 0 [{ dst := some 2, op := .nilrow 43 5, guard := none },
   { dst := some 3, op := .mov (.c (.d (.int .i64 0))), guard := none }] false [] []) (.seq (.seq (.region 1 [{ dst := some 11, op := .mov (.t 0), guard := none },
   { dst := some 12, op := .len .sl (.t 11), guard := none }, { dst := some 13, op := .bin .lss .int (.t 12) (.c (.d (.int .i64 4))), guard := none }] false [] [11, 12])
   (.cond (.t 13) (.seq (.region 2 [{ dst := some 2, op := .nilrow 43 5, guard := none },
   { dst := some 3, op := .mov (.c (.d (.int .i64 4))), guard := none }] false [] []) .ret) .skip)) (.seq (.region 3 [{ dst := some 14, op := .mov (.t 0), guard := none },
   { dst := some 15, op := .call 49 [.t 14, .c (.d (.int .i64 4))], guard := none }, { dst := some 4, op := .mov (.t 15), guard := none }] false [] [14, 15]) (.seq
   (.region 4 [{ dst := some 16, op := .mov (.t 0), guard := none }, { dst := some 17, op := .slL 1 (.t 16) (some (.c (.d (.int .i64 4)))) none, guard := none },
   { dst := some 0, op := .mov (.t 17), guard := none }] false [] [16, 17]) (.seq (.seq (.region 5 [{ dst := some 18, op := .mov (.t 4), guard := none },
   { dst := some 19, op := .bin .gtr .int (.t 18) (.c (.d (.int .i64 65536))), guard := none }] false [] [18]) (.cond (.t 19) (.seq
   (.region 6 [{ dst := some 2, op := .nilrow 43 5, guard := none }, { dst := some 3, op := .mov (.c (.d (.int .i64 5))), guard := none }] false [] []) .ret) .skip)) (.seq
   (.region 7 [{ dst := some 5, op := .nilrow 43 5, guard := none }] false [] []) (.seq (.block 0 (.loop s_backstepref22_Decode_l1)) (.seq (.seq
   (.region 27 [{ dst := some 72, op := .mov (.t 0), guard := none }, { dst := some 73, op := .len .sl (.t 72), guard := none },
   { dst := some 74, op := .bin .gtr .int (.t 73) (.c (.d (.int .i64 0))), guard := none }] false [] [72, 73]) (.cond (.t 74) (.seq
   (.region 28 [{ dst := some 2, op := .nilrow 43 5, guard := none }, { dst := some 3, op := .mov (.c (.d (.int .i64 3))), guard := none }] false [] []) .ret) .skip)) (.seq
   (.region 29 [{ dst := some 75, op := .mov (.t 5), guard := none }, { dst := some 2, op := .mov (.t 75), guard := none },
   { dst := some 3, op := .mov (.c (.d (.int .i64 0))), guard := none }] false [] [75]) .ret))))))))), results := [.tmp 2, .tmp 3] }
theorem c_backstepref22_Decode : cFunc Tryz.prog mvTab 26 (dropOf [(1, [11, 12]), (3, [14, 15]), (4, [16, 17]), (5, [18]), (8, [20, 21, 22]), (9, [24, 25]), (11, [27, 28, 29, 30]), (12, [32, 33, 34, 35, 31, 36, 37]), (13, [38]), (15, [40, 41]), (17, [42, 43, 44]), (19, [48, 49, 50, 51]), (20, [52, 53, 54]), (22, [56, 57, 58, 59, 60, 61]), (23, [62, 63, 64]), (18, [46, 47]), (24, [65, 66]), (26, [68, 69, 70, 71]), (27, [72, 73]), (29, [75])]) = some s_backstepref22_Decode := by kernel_rfl

-- backstep/asm.check
def s_asm_check_l0 : SCode := (.seq (.region 4 [{ dst := some 11, op := .bin .lss .int (.t 10) (.t 9), guard := none }] false [] []) (.seq (.cond (.t 11) .skip (.exit 0)) (.seq
   (.block 1 (.seq (.region 5 [{ dst := some 12, op := .ia 5 (.t 8) (.t 10), guard := none }, { dst := some 13, op := .ld 5 true (.t 12), guard := none },
   { dst := some 4, op := .alloc 43 (.d (.agg [.int .u8 0, .int .i64 0, .int .i64 0, .int .i64 0, .int .i64 0])), guard := none },
   { dst := none, op := .st 5 (.t 4) (.t 13), guard := none }] false [] [12, 13]) (.seq (.region 6 [{ dst := some 14, op := .ld 5 true (.t 4), guard := none },
   { dst := some 15, op := .call 20 [.t 14], guard := none }, { dst := some 16, op := .un .not (.t 15), guard := none }] false [] [14, 15]) (.cond (.t 16) (.seq
   (.region 7 [{ dst := some 2, op := .mov (.c (.d (.int .i64 3))), guard := none }] false [] []) .ret) .skip))))
   (.region 8 [{ dst := some 17, op := .bin .add .int (.t 10) (.c (.d (.int .i64 1))), guard := none }, { dst := some 10, op := .mov (.t 17), guard := none }] false [] [17]))))
def s_asm_check : SFunc := { nparams := 1, ntmps := 18, code := (.seq (.region 0 [{ dst := some 2, op := .mov (.c (.d (.int .i64 0))), guard := none }] false [] []) (.seq (.seq
   (.region 1 [{ dst := some 5, op := .mov (.t 0), guard := none }, { dst := some 6, op := .len .sl (.t 5), guard := none },
   { dst := some 7, op := .bin .gtr .int (.t 6) (.c (.d (.int .i64 65536))), guard := none }] false [] [5, 6]) (.cond (.t 7) (.seq
   (.region 2 [{ dst := some 2, op := .mov (.c (.d (.int .i64 5))), guard := none }] false [] []) .ret) .skip)) (.seq (.seq
   (.region 3 [{ dst := some 8, op := .mov (.t 0), guard := none }, { dst := some 9, op := .len .sl (.t 8), guard := none },
   { dst := some 10, op := .mov (.c (.d (.int .i64 0))), guard := none }] false [] []) (.block 0 (.loop s_asm_check_l0))) (.seq
   (.region 9 [{ dst := some 2, op := .mov (.c (.d (.int .i64 0))), guard := none }] false [] []) .ret)))), results := [.tmp 2] }
theorem c_asm_check : cFunc Tryz.prog mvTab 27 (dropOf [(1, [5, 6]), (5, [12, 13]), (6, [14, 15]), (8, [17])]) = some s_asm_check := by kernel_rfl

-- backstep/asm.line
def s_asm_line_l0 : SCode := (.seq (.region 4 [{ dst := some 19, op := .bin .lss .int (.t 18) (.t 17), guard := none }] false [] []) (.seq (.cond (.t 19) .skip (.exit 0)) (.seq
   (.block 1 (.seq (.region 5 [{ dst := some 20, op := .mov (.t 18), guard := none }, { dst := some 21, op := .ia 1 (.t 16) (.t 18), guard := none },
   { dst := some 22, op := .ld 1 false (.t 21), guard := none }, { dst := some 6, op := .mov (.t 20), guard := none },
   { dst := some 7, op := .mov (.t 22), guard := none }] false [] [20, 21, 22]) (.region 6 [{ dst := some 23, op := .mov (.t 3), guard := none },
   { dst := some 24, op := .mov (.t 5), guard := none }, { dst := some 25, op := .mov (.t 7), guard := none },
   { dst := some 26, op := .lk .int (.d .nilfn) (.t 24) (.t 25) false, guard := none }, { dst := some 27, op := .mov (.t 6), guard := none },
   { dst := some 28, op := .iaA 4 1 (.t 4) (.t 27), guard := none }, { dst := some 29, op := .ld 1 false (.t 28), guard := none },
   { dst := some 30, op := .nilc (.t 29), guard := none }, { dst := some 31, op := .ld 1 false (.t 30), guard := none },
   { dst := some 32, op := .callv (.t 26) [.t 31], guard := none }, { dst := some 33, op := .bin .add .str (.c (.d (.str [32]))) (.t 32), guard := none },
   { dst := some 34, op := .bin .add .str (.t 23) (.t 33), guard := none },
   { dst := some 3, op := .mov (.t 34), guard := none }] true [(0, 9)] [23, 24, 25, 26, 27, 28, 29, 30, 31, 32, 33, 34])))
   (.region 7 [{ dst := some 35, op := .bin .add .int (.t 18) (.c (.d (.int .i64 1))), guard := none }, { dst := some 18, op := .mov (.t 35), guard := none }] false [] [35]))))
def s_asm_line : SFunc := { nparams := 1, ntmps := 37, code := (.seq (.region 0 [{ dst := some 1, op := .box 43 (.t 0), guard := none },
   { dst := some 2, op := .mov (.c (.d (.str []))), guard := none }] false [] []) (.seq (.region 1 [{ dst := some 8, op := .fa (.t 1) 0 0, guard := none },
   { dst := some 9, op := .ld 1 false (.t 8), guard := none }, { dst := some 10, op := .call 23 [.t 9], guard := none },
   { dst := some 3, op := .mov (.t 10), guard := none }] false [] [8, 9, 10]) (.seq (.region 2 [{ dst := some 11, op := .call 34 [.t 1], guard := none },
   { dst := some 12, op := .call 53 [], guard := none }, { dst := some 4, op := .alloc 71 (.d (.agg [.nilptr, .nilptr, .nilptr, .nilptr])), guard := none },
   { dst := none, op := .st 4 (.t 4) (.t 11), guard := none }, { dst := some 5, op := .mov (.t 12), guard := none }] false [] [11, 12]) (.seq (.seq
   (.region 3 [{ dst := some 13, op := .fa (.t 1) 0 0, guard := none }, { dst := some 14, op := .ld 1 false (.t 13), guard := none },
   { dst := some 15, op := .call 35 [.t 14], guard := none }, { dst := some 16, op := .cnvSB (.t 15), guard := none }, { dst := some 17, op := .len .sl (.t 16), guard := none },
   { dst := some 18, op := .mov (.c (.d (.int .i64 0))), guard := none }] false [] [13, 14, 15]) (.block 0 (.loop s_asm_line_l0))) (.seq
   (.region 8 [{ dst := some 36, op := .mov (.t 3), guard := none }, { dst := some 2, op := .mov (.t 36), guard := none }] false [] [36]) .ret))))), results := [.tmp 2] }
theorem c_asm_line : cFunc Tryz.prog mvTab 29 (dropOf [(1, [8, 9, 10]), (2, [11, 12]), (3, [13, 14, 15]), (5, [20, 21, 22]), (6, [23, 24, 25, 26, 27, 28, 29, 30, 31, 32, 33, 34]), (7, [35]), (8, [36])]) = some s_asm_line := by kernel_rfl

-- backstep/backstepref22.Check
def s_backstepref22_Check_l0 : SCode := (.seq (.seq (.region 4 [{ dst := some 7, op := .mov (.t 3), guard := none }, { dst := some 8, op := .mov (.t 0), guard := none },
   { dst := some 9, op := .len .sl (.t 8), guard := none }, { dst := some 10, op := .bin .lss .int (.t 7) (.t 9), guard := none }] false [] [7, 8, 9])
   (.cond (.t 10) .skip (.exit 0))) (.seq (.block 1 (.seq (.region 6 [{ dst := some 13, op := .mov (.t 0), guard := none }, { dst := some 14, op := .mov (.t 3), guard := none },
   { dst := some 15, op := .ia 5 (.t 13) (.t 14), guard := none }, { dst := some 16, op := .ld 5 true (.t 15), guard := none },
   { dst := some 17, op := .call 51 [.t 16], guard := none }, { dst := some 18, op := .un .not (.t 17), guard := none }] false [] [13, 14, 15, 16, 17]) (.cond (.t 18) (.seq
   (.region 7 [{ dst := some 2, op := .mov (.c (.d (.int .i64 3))), guard := none }] false [] []) .ret) .skip))) (.region 5 [{ dst := some 11, op := .mov (.t 3), guard := none },
   { dst := some 12, op := .bin .add .int (.t 11) (.c (.d (.int .i64 1))), guard := none }, { dst := some 3, op := .mov (.t 12), guard := none }] false [] [11, 12])))
def s_backstepref22_Check : SFunc := { nparams := 1, ntmps := 19, code := (.seq (.region 0 [{ dst := some 2, op := .mov (.c (.d (.int .i64 0))), guard := none }] false [] []) (.seq
   (.seq (.region 1 [{ dst := some 4, op := .mov (.t 0), guard := none }, { dst := some 5, op := .len .sl (.t 4), guard := none },
   { dst := some 6, op := .bin .gtr .int (.t 5) (.c (.d (.int .i64 65536))), guard := none }] false [] [4, 5]) (.cond (.t 6) (.seq
   (.region 2 [{ dst := some 2, op := .mov (.c (.d (.int .i64 5))), guard := none }] false [] []) .ret) .skip)) (.seq (.seq
   (.region 3 [{ dst := some 3, op := .mov (.c (.d (.int .i64 0))), guard := none }] false [] []) (.block 0 (.loop s_backstepref22_Check_l0))) (.seq
   (.region 8 [{ dst := some 2, op := .mov (.c (.d (.int .i64 0))), guard := none }] false [] []) .ret)))), results := [.tmp 2] }
theorem c_backstepref22_Check : cFunc Tryz.prog mvTab 31 (dropOf [(1, [4, 5]), (4, [7, 8, 9]), (6, [13, 14, 15, 16, 17]), (5, [11, 12])]) = some s_backstepref22_Check := by kernel_rfl

-- backstep/backstepref22.Line
def s_backstepref22_Line_l0 : SCode := (.seq (.seq (.region 4 [{ dst := some 17, op := .mov (.t 6), guard := none }, { dst := some 18, op := .mov (.t 4), guard := none },
   { dst := some 19, op := .len .str (.t 18), guard := none }, { dst := some 20, op := .bin .lss .int (.t 17) (.t 19), guard := none }] false [] [17, 18, 19])
   (.cond (.t 20) .skip (.exit 0))) (.seq (.block 1 (.seq (.region 6 [{ dst := some 23, op := .ld 5 true (.t 1), guard := none },
   { dst := some 24, op := .mov (.t 6), guard := none }, { dst := some 25, op := .call 39 [.t 23, .t 24], guard := none },
   { dst := some 7, op := .mov (.t 25), guard := none }] false [] [23, 24, 25]) (.seq (.region 7 [{ dst := some 26, op := .mov (.t 4), guard := none },
   { dst := some 27, op := .mov (.t 6), guard := none }, { dst := some 28, op := .ixS (.t 26) (.t 27), guard := none }] false [] [26, 27]) (.block 2 (.seq
   (.region 9 [{ dst := some 35, op := .bin .eql .int (.t 28) (.c (.d (.int .u8 114))), guard := none }, { dst := some 34, op := .mov (.t 35), guard := none }] false [] [35])
   (.cond (.t 34) (.region 10 [{ dst := some 36, op := .mov (.t 3), guard := none }, { dst := some 37, op := .bin .add .str (.t 36) (.c (.d (.str [32, 114]))), guard := none },
   { dst := some 38, op := .mov (.t 7), guard := none }, { dst := some 39, op := .call 55 [.t 38], guard := none },
   { dst := some 40, op := .bin .add .str (.t 37) (.t 39), guard := none }, { dst := some 3, op := .mov (.t 40), guard := none }] false [] [36, 37, 38, 39, 40]) (.seq
   (.region 11 [{ dst := some 42, op := .bin .eql .int (.t 28) (.c (.d (.int .u8 111))), guard := none }, { dst := some 41, op := .mov (.t 42), guard := none }] false [] [42])
   (.cond (.t 41) (.region 12 [{ dst := some 43, op := .mov (.t 3), guard := none }, { dst := some 44, op := .bin .add .str (.t 43) (.c (.d (.str [32]))), guard := none },
   { dst := some 45, op := .mov (.t 7), guard := none }, { dst := some 46, op := .cnvI .u8 (.t 45), guard := none }, { dst := some 47, op := .call 56 [.t 46], guard := none },
   { dst := some 48, op := .bin .add .str (.t 44) (.t 47), guard := none }, { dst := some 3, op := .mov (.t 48), guard := none }] false [] [43, 44, 45, 46, 47, 48])
   (.region 8 [{ dst := some 29, op := .mov (.t 3), guard := none }, { dst := some 30, op := .bin .add .str (.t 29) (.c (.d (.str [32]))), guard := none },
   { dst := some 31, op := .mov (.t 7), guard := none }, { dst := some 32, op := .call 55 [.t 31], guard := none },
   { dst := some 33, op := .bin .add .str (.t 30) (.t 32), guard := none }, { dst := some 3, op := .mov (.t 33), guard := none }] false [] [29, 30, 31, 32, 33])))))))))
   (.region 5 [{ dst := some 21, op := .mov (.t 6), guard := none }, { dst := some 22, op := .bin .add .int (.t 21) (.c (.d (.int .i64 1))), guard := none },
   { dst := some 6, op := .mov (.t 22), guard := none }] false [] [21, 22])))
def s_backstepref22_Line : SFunc := { nparams := 1, ntmps := 50, code := (.seq (.region 0 [{ dst := some 1, op := .box 43 (.t 0), guard := none },
   { dst := some 2, op := .mov (.c (.d (.str []))), guard := none }] false [] []) (.seq (.region 1 [{ dst := some 8, op := .fa (.t 1) 0 0, guard := none },
   { dst := some 9, op := .ld 1 false (.t 8), guard := none }, { dst := some 10, op := .call 54 [.t 9], guard := none },
   { dst := some 3, op := .mov (.t 10), guard := none }] false [] [8, 9, 10]) (.seq (.region 2 [{ dst := some 12, op := .fa (.t 1) 0 0, guard := none },
   { dst := some 13, op := .ld 1 false (.t 12), guard := none }, { dst := some 14, op := .call 38 [.t 13], guard := none }, { dst := some 11, op := .mov (.t 14), guard := none },
   { dst := some 15, op := .ext (.t 11) 0, guard := none }, { dst := some 16, op := .ext (.t 11) 1, guard := none }, { dst := some 4, op := .mov (.t 15), guard := none },
   { dst := some 5, op := .mov (.t 16), guard := none }] false [] [12, 13, 14, 11, 15, 16, 5]) (.seq (.seq
   (.region 3 [{ dst := some 6, op := .mov (.c (.d (.int .i64 0))), guard := none }] false [] []) (.block 0 (.loop s_backstepref22_Line_l0))) (.seq
   (.region 13 [{ dst := some 49, op := .mov (.t 3), guard := none }, { dst := some 2, op := .mov (.t 49), guard := none }] false [] [49]) .ret))))), results := [.tmp 2] }
theorem c_backstepref22_Line : cFunc Tryz.prog mvTab 32 (dropOf [(1, [8, 9, 10]), (2, [12, 13, 14, 11, 15, 16, 5]), (4, [17, 18, 19]), (6, [23, 24, 25]), (7, [26, 27]), (9, [35]), (10, [36, 37, 38, 39, 40]), (11, [42]), (12, [43, 44, 45, 46, 47, 48]), (8, [29, 30, 31, 32, 33]), (5, [21, 22]), (13, [49])]) = some s_backstepref22_Line := by kernel_rfl

-- backstep/asm.put
def s_asm_put_l0 : SCode := (.seq (.seq (.region 2 [{ dst := some 10, op := .mov (.t 7), guard := none },
   { dst := some 11, op := .bin .geq .int (.t 10) (.c (.d (.int .i64 0))), guard := none }] false [] [10]) (.cond (.t 11) .skip (.exit 0))) (.seq (.block 1
   (.region 4 [{ dst := some 14, op := .mov (.t 0), guard := none }, { dst := some 15, op := .mov (.t 1), guard := none },
   { dst := some 16, op := .cnvI .u64 (.t 15), guard := none }, { dst := some 17, op := .mov (.t 7), guard := none },
   { dst := some 18, op := .bin .mul .int (.c (.d (.int .i64 8))) (.t 17), guard := none }, { dst := some 19, op := .bin .shr .int (.t 16) (.t 18), guard := none },
   { dst := some 20, op := .cnvI .u8 (.t 19), guard := none }, { dst := some 21, op := .bsl 5 1 1 [.t 20], guard := none },
   { dst := some 22, op := .app 5 1 1 (.t 14) (.t 21), guard := none }, { dst := some 0, op := .mov (.t 22), guard := none }] false [] [14, 15, 16, 17, 18, 19, 20, 21, 22]))
   (.region 3 [{ dst := some 12, op := .mov (.t 7), guard := none }, { dst := some 13, op := .bin .sub .int (.t 12) (.c (.d (.int .i64 1))), guard := none },
   { dst := some 7, op := .mov (.t 13), guard := none }] false [] [12, 13])))
def s_asm_put : SFunc := { nparams := 3, ntmps := 24, code := (.seq (.region 0 [{ dst := some 6, op := .nilrow 5 1, guard := none }] false [] []) (.seq (.seq
   (.region 1 [{ dst := some 8, op := .mov (.t 2), guard := none }, { dst := some 9, op := .bin .sub .int (.t 8) (.c (.d (.int .i64 1))), guard := none },
   { dst := some 7, op := .mov (.t 9), guard := none }] false [] [8, 9]) (.block 0 (.loop s_asm_put_l0))) (.seq (.region 5 [{ dst := some 23, op := .mov (.t 0), guard := none },
   { dst := some 6, op := .mov (.t 23), guard := none }] false [] [23]) .ret))), results := [.raw 6] }
theorem c_asm_put : cFunc Tryz.prog mvTab 33 (dropOf [(1, [8, 9]), (2, [10]), (4, [14, 15, 16, 17, 18, 19, 20, 21, 22]), (3, [12, 13]), (5, [23])]) = some s_asm_put := by kernel_rfl

-- backstep/asm.operands
def s_asm_operands : SFunc := { nparams := 1, ntmps := 16, code := (.seq
   (.region 0 [{ dst := some 2, op := .alloc 71 (.d (.agg [.nilptr, .nilptr, .nilptr, .nilptr])), guard := none }] false [] []) (.seq
   (.region 1 [{ dst := some 3, op := .mov (.t 0), guard := none }, { dst := some 4, op := .nilc (.t 3), guard := none }, { dst := some 5, op := .fa (.t 4) 1 1, guard := none },
   { dst := some 6, op := .mov (.t 0), guard := none }, { dst := some 7, op := .nilc (.t 6), guard := none }, { dst := some 8, op := .fa (.t 7) 2 2, guard := none },
   { dst := some 9, op := .mov (.t 0), guard := none }, { dst := some 10, op := .nilc (.t 9), guard := none }, { dst := some 11, op := .fa (.t 10) 3 3, guard := none },
   { dst := some 12, op := .mov (.t 0), guard := none }, { dst := some 13, op := .nilc (.t 12), guard := none }, { dst := some 14, op := .fa (.t 13) 4 4, guard := none },
   { dst := some 15, op := .build [.d .nilptr, .d .nilptr, .d .nilptr, .d .nilptr] [(0, .t 5), (1, .t 8), (2, .t 11), (3, .t 14)], guard := none },
   { dst := none, op := .st 4 (.t 2) (.t 15), guard := none }] true [] [3, 4, 5, 6, 7, 8, 9, 10, 11, 12, 13, 14, 15]) .ret)), results := [.cell 2 4 true] }
theorem c_asm_operands : cFunc Tryz.prog mvTab 34 (dropOf [(1, [3, 4, 5, 6, 7, 8, 9, 10, 11, 12, 13, 14, 15])]) = some s_asm_operands := by kernel_rfl

-- backstep/asm.classes
def s_asm_classes : SFunc := { nparams := 1, ntmps := 47, code := (.seq (.region 0 [{ dst := some 2, op := .mov (.c (.d (.str []))), guard := none }] false [] []) (.seq (.seq
   (.region 1 [{ dst := some 3, op := .mov (.t 0), guard := none }] false [] []) (.block 0 (.seq (.seq
   (.region 2 [{ dst := some 5, op := .bin .eql .int (.t 3) (.c (.d (.int .u8 1))), guard := none }, { dst := some 4, op := .mov (.t 5), guard := none }] false [] [5])
   (.cond (.t 4) .skip (.seq (.region 3 [{ dst := some 6, op := .bin .eql .int (.t 3) (.c (.d (.int .u8 2))), guard := none },
   { dst := some 4, op := .mov (.t 6), guard := none }] false [] [6]) (.cond (.t 4) .skip (.seq
   (.region 4 [{ dst := some 7, op := .bin .eql .int (.t 3) (.c (.d (.int .u8 3))), guard := none }, { dst := some 4, op := .mov (.t 7), guard := none }] false [] [7])
   (.cond (.t 4) .skip (.region 5 [{ dst := some 8, op := .bin .eql .int (.t 3) (.c (.d (.int .u8 7))), guard := none },
   { dst := some 4, op := .mov (.t 8), guard := none }] false [] [8]))))))) (.cond (.t 4) (.seq
   (.region 6 [{ dst := some 2, op := .mov (.c (.d (.str [114, 114]))), guard := none }] false [] []) .ret) (.seq (.seq
   (.region 7 [{ dst := some 10, op := .bin .eql .int (.t 3) (.c (.d (.int .u8 4))), guard := none }, { dst := some 9, op := .mov (.t 10), guard := none }] false [] [10])
   (.cond (.t 9) .skip (.seq (.region 8 [{ dst := some 11, op := .bin .eql .int (.t 3) (.c (.d (.int .u8 5))), guard := none },
   { dst := some 9, op := .mov (.t 11), guard := none }] false [] [11]) (.cond (.t 9) .skip
   (.region 9 [{ dst := some 12, op := .bin .eql .int (.t 3) (.c (.d (.int .u8 6))), guard := none }, { dst := some 9, op := .mov (.t 12), guard := none }] false [] [12])))))
   (.cond (.t 9) (.seq (.region 10 [{ dst := some 2, op := .mov (.c (.d (.str [114, 110]))), guard := none }] false [] []) .ret) (.seq (.seq
   (.region 11 [{ dst := some 14, op := .bin .eql .int (.t 3) (.c (.d (.int .u8 8))), guard := none }, { dst := some 13, op := .mov (.t 14), guard := none }] false [] [14])
   (.cond (.t 13) .skip (.seq (.region 12 [{ dst := some 15, op := .bin .eql .int (.t 3) (.c (.d (.int .u8 17))), guard := none },
   { dst := some 13, op := .mov (.t 15), guard := none }] false [] [15]) (.cond (.t 13) .skip (.seq
   (.region 13 [{ dst := some 16, op := .bin .eql .int (.t 3) (.c (.d (.int .u8 18))), guard := none }, { dst := some 13, op := .mov (.t 16), guard := none }] false [] [16])
   (.cond (.t 13) .skip (.seq (.region 14 [{ dst := some 17, op := .bin .eql .int (.t 3) (.c (.d (.int .u8 19))), guard := none },
   { dst := some 13, op := .mov (.t 17), guard := none }] false [] [17]) (.cond (.t 13) .skip
   (.region 15 [{ dst := some 18, op := .bin .eql .int (.t 3) (.c (.d (.int .u8 20))), guard := none },
   { dst := some 13, op := .mov (.t 18), guard := none }] false [] [18]))))))))) (.cond (.t 13) (.seq
   (.region 16 [{ dst := some 2, op := .mov (.c (.d (.str [114]))), guard := none }] false [] []) .ret) (.seq
   (.region 17 [{ dst := some 20, op := .bin .eql .int (.t 3) (.c (.d (.int .u8 9))), guard := none }, { dst := some 19, op := .mov (.t 20), guard := none }] false [] [20])
   (.cond (.t 19) (.seq (.region 18 [{ dst := some 2, op := .mov (.c (.d (.str [114, 114, 114, 111]))), guard := none }] false [] []) .ret) (.seq (.seq
   (.region 19 [{ dst := some 22, op := .bin .eql .int (.t 3) (.c (.d (.int .u8 10))), guard := none }, { dst := some 21, op := .mov (.t 22), guard := none }] false [] [22])
   (.cond (.t 21) .skip (.seq (.region 20 [{ dst := some 23, op := .bin .eql .int (.t 3) (.c (.d (.int .u8 12))), guard := none },
   { dst := some 21, op := .mov (.t 23), guard := none }] false [] [23]) (.cond (.t 21) .skip (.seq
   (.region 21 [{ dst := some 24, op := .bin .eql .int (.t 3) (.c (.d (.int .u8 13))), guard := none }, { dst := some 21, op := .mov (.t 24), guard := none }] false [] [24])
   (.cond (.t 21) .skip (.seq (.region 22 [{ dst := some 25, op := .bin .eql .int (.t 3) (.c (.d (.int .u8 14))), guard := none },
   { dst := some 21, op := .mov (.t 25), guard := none }] false [] [25]) (.cond (.t 21) .skip
   (.region 23 [{ dst := some 26, op := .bin .eql .int (.t 3) (.c (.d (.int .u8 15))), guard := none },
   { dst := some 21, op := .mov (.t 26), guard := none }] false [] [26]))))))))) (.cond (.t 21) (.seq
   (.region 24 [{ dst := some 2, op := .mov (.c (.d (.str [114, 107]))), guard := none }] false [] []) .ret) (.seq
   (.region 25 [{ dst := some 28, op := .bin .eql .int (.t 3) (.c (.d (.int .u8 11))), guard := none }, { dst := some 27, op := .mov (.t 28), guard := none }] false [] [28])
   (.cond (.t 27) (.seq (.region 26 [{ dst := some 2, op := .mov (.c (.d (.str [114, 114, 107, 107]))), guard := none }] false [] []) .ret) (.seq (.seq
   (.region 27 [{ dst := some 30, op := .bin .eql .int (.t 3) (.c (.d (.int .u8 16))), guard := none }, { dst := some 29, op := .mov (.t 30), guard := none }] false [] [30])
   (.cond (.t 29) .skip (.seq (.region 28 [{ dst := some 31, op := .bin .eql .int (.t 3) (.c (.d (.int .u8 28))), guard := none },
   { dst := some 29, op := .mov (.t 31), guard := none }] false [] [31]) (.cond (.t 29) .skip
   (.region 29 [{ dst := some 32, op := .bin .eql .int (.t 3) (.c (.d (.int .u8 29))), guard := none }, { dst := some 29, op := .mov (.t 32), guard := none }] false [] [32])))))
   (.cond (.t 29) (.seq (.region 30 [{ dst := some 2, op := .mov (.c (.d (.str [107, 107]))), guard := none }] false [] []) .ret) (.seq
   (.region 31 [{ dst := some 34, op := .bin .eql .int (.t 3) (.c (.d (.int .u8 21))), guard := none }, { dst := some 33, op := .mov (.t 34), guard := none }] false [] [34])
   (.cond (.t 33) (.seq (.region 32 [{ dst := some 2, op := .mov (.c (.d (.str [114, 101]))), guard := none }] false [] []) .ret) (.seq (.seq
   (.region 33 [{ dst := some 36, op := .bin .eql .int (.t 3) (.c (.d (.int .u8 22))), guard := none }, { dst := some 35, op := .mov (.t 36), guard := none }] false [] [36])
   (.cond (.t 35) .skip (.seq (.region 34 [{ dst := some 37, op := .bin .eql .int (.t 3) (.c (.d (.int .u8 25))), guard := none },
   { dst := some 35, op := .mov (.t 37), guard := none }] false [] [37]) (.cond (.t 35) .skip (.seq
   (.region 35 [{ dst := some 38, op := .bin .eql .int (.t 3) (.c (.d (.int .u8 30))), guard := none }, { dst := some 35, op := .mov (.t 38), guard := none }] false [] [38])
   (.cond (.t 35) .skip (.seq (.region 36 [{ dst := some 39, op := .bin .eql .int (.t 3) (.c (.d (.int .u8 31))), guard := none },
   { dst := some 35, op := .mov (.t 39), guard := none }] false [] [39]) (.cond (.t 35) .skip (.seq
   (.region 37 [{ dst := some 40, op := .bin .eql .int (.t 3) (.c (.d (.int .u8 32))), guard := none }, { dst := some 35, op := .mov (.t 40), guard := none }] false [] [40])
   (.cond (.t 35) .skip (.region 38 [{ dst := some 41, op := .bin .eql .int (.t 3) (.c (.d (.int .u8 33))), guard := none },
   { dst := some 35, op := .mov (.t 41), guard := none }] false [] [41]))))))))))) (.cond (.t 35) (.seq
   (.region 39 [{ dst := some 2, op := .mov (.c (.d (.str [116]))), guard := none }] false [] []) .ret) (.seq (.seq
   (.region 40 [{ dst := some 43, op := .bin .eql .int (.t 3) (.c (.d (.int .u8 23))), guard := none }, { dst := some 42, op := .mov (.t 43), guard := none }] false [] [43])
   (.cond (.t 42) .skip (.seq (.region 41 [{ dst := some 44, op := .bin .eql .int (.t 3) (.c (.d (.int .u8 24))), guard := none },
   { dst := some 42, op := .mov (.t 44), guard := none }] false [] [44]) (.cond (.t 42) .skip (.seq
   (.region 42 [{ dst := some 45, op := .bin .eql .int (.t 3) (.c (.d (.int .u8 26))), guard := none }, { dst := some 42, op := .mov (.t 45), guard := none }] false [] [45])
   (.cond (.t 42) .skip (.region 43 [{ dst := some 46, op := .bin .eql .int (.t 3) (.c (.d (.int .u8 27))), guard := none },
   { dst := some 42, op := .mov (.t 46), guard := none }] false [] [46]))))))) (.cond (.t 42) (.seq
   (.region 44 [{ dst := some 2, op := .mov (.c (.d (.str [114, 116]))), guard := none }] false [] []) .ret) .skip)))))))))))))))))))))) (.seq
   (.region 45 [{ dst := some 2, op := .mov (.c (.d (.str []))), guard := none }] false [] []) .ret))), results := [.tmp 2] }
theorem c_asm_classes : cFunc Tryz.prog mvTab 35 (dropOf [(2, [5]), (3, [6]), (4, [7]), (5, [8]), (7, [10]), (8, [11]), (9, [12]), (11, [14]), (12, [15]), (13, [16]), (14, [17]), (15, [18]), (17, [20]), (19, [22]), (20, [23]), (21, [24]), (22, [25]), (23, [26]), (25, [28]), (27, [30]), (28, [31]), (29, [32]), (31, [34]), (33, [36]), (34, [37]), (35, [38]), (36, [39]), (37, [40]), (38, [41]), (40, [43]), (41, [44]), (42, [45]), (43, [46])]) = some s_asm_classes := by kernel_rfl

-- backstep/asm.size
def s_asm_size : SFunc := { nparams := 1, ntmps := 9, code := (.seq (.region 0 [{ dst := some 2, op := .mov (.c (.d (.int .i64 0))), guard := none }] false [] []) (.seq (.seq
   (.region 1 [{ dst := some 3, op := .mov (.t 0), guard := none }] false [] []) (.block 0 (.seq (.seq
   (.region 2 [{ dst := some 5, op := .bin .eql .int (.t 3) (.c (.d (.int .u8 107))), guard := none }, { dst := some 4, op := .mov (.t 5), guard := none }] false [] [5])
   (.cond (.t 4) .skip (.region 3 [{ dst := some 6, op := .bin .eql .int (.t 3) (.c (.d (.int .u8 116))), guard := none },
   { dst := some 4, op := .mov (.t 6), guard := none }] false [] [6]))) (.cond (.t 4) (.seq
   (.region 4 [{ dst := some 2, op := .mov (.c (.d (.int .i64 4))), guard := none }] false [] []) .ret) (.seq
   (.region 5 [{ dst := some 8, op := .bin .eql .int (.t 3) (.c (.d (.int .u8 110))), guard := none }, { dst := some 7, op := .mov (.t 8), guard := none }] false [] [8])
   (.cond (.t 7) (.seq (.region 6 [{ dst := some 2, op := .mov (.c (.d (.int .i64 8))), guard := none }] false [] []) .ret) .skip)))))) (.seq
   (.region 7 [{ dst := some 2, op := .mov (.c (.d (.int .i64 1))), guard := none }] false [] []) .ret))), results := [.tmp 2] }
theorem c_asm_size : cFunc Tryz.prog mvTab 36 (dropOf [(2, [5]), (3, [6]), (5, [8])]) = some s_asm_size := by kernel_rfl

-- backstep/backstepref22.Bytes
def s_backstepref22_Bytes_l0 : SCode := (.seq (.seq (.region 3 [{ dst := some 9, op := .mov (.t 6), guard := none },
   { dst := some 10, op := .bin .geq .int (.t 9) (.c (.d (.int .i64 0))), guard := none }] false [] [9]) (.cond (.t 10) .skip (.exit 0))) (.seq (.block 1
   (.region 5 [{ dst := some 13, op := .mov (.t 5), guard := none }, { dst := some 14, op := .mov (.t 0), guard := none },
   { dst := some 15, op := .cnvI .u64 (.t 14), guard := none }, { dst := some 16, op := .mov (.t 6), guard := none },
   { dst := some 17, op := .bin .mul .int (.c (.d (.int .i64 8))) (.t 16), guard := none }, { dst := some 18, op := .bin .shr .int (.t 15) (.t 17), guard := none },
   { dst := some 19, op := .cnvI .u8 (.t 18), guard := none }, { dst := some 20, op := .bsl 5 1 1 [.t 19], guard := none },
   { dst := some 21, op := .app 5 1 1 (.t 13) (.t 20), guard := none }, { dst := some 5, op := .mov (.t 21), guard := none }] false [] [13, 14, 15, 16, 17, 18, 19, 20, 21]))
   (.region 4 [{ dst := some 11, op := .mov (.t 6), guard := none }, { dst := some 12, op := .bin .sub .int (.t 11) (.c (.d (.int .i64 1))), guard := none },
   { dst := some 6, op := .mov (.t 12), guard := none }] false [] [11, 12])))
def s_backstepref22_Bytes : SFunc := { nparams := 2, ntmps := 23, code := (.seq (.region 0 [{ dst := some 4, op := .nilrow 5 1, guard := none }] false [] []) (.seq
   (.region 1 [{ dst := some 5, op := .nilrow 5 1, guard := none }] false [] []) (.seq (.seq (.region 2 [{ dst := some 7, op := .mov (.t 1), guard := none },
   { dst := some 8, op := .bin .sub .int (.t 7) (.c (.d (.int .i64 1))), guard := none }, { dst := some 6, op := .mov (.t 8), guard := none }] false [] [7, 8])
   (.block 0 (.loop s_backstepref22_Bytes_l0))) (.seq (.region 6 [{ dst := some 22, op := .mov (.t 5), guard := none },
   { dst := some 4, op := .mov (.t 22), guard := none }] false [] [22]) .ret)))), results := [.raw 4] }
theorem c_backstepref22_Bytes : cFunc Tryz.prog mvTab 37 (dropOf [(2, [7, 8]), (3, [9]), (5, [13, 14, 15, 16, 17, 18, 19, 20, 21]), (4, [11, 12]), (6, [22])]) = some s_backstepref22_Bytes := by kernel_rfl

-- backstep/backstepref22.Classes
def s_backstepref22_Classes : SFunc := { nparams := 1, ntmps := 15, code := (.seq (.region 0 [{ dst := some 2, op := .mov (.c (.d (.str []))), guard := none },
   { dst := some 3, op := .mov (.c (.d (.bool false))), guard := none }] false [] []) (.seq
   (.region 1 [{ dst := some 5, op := .bsl 9 1 35 [.c (.d (.str [])), .c (.d (.str [114, 114])), .c (.d (.str [114, 114])), .c (.d (.str [114, 114])), .c (.d (.str [114, 110])), .c (.d (.str [114, 110])), .c (.d (.str [114, 110])), .c (.d (.str [114, 114])), .c (.d (.str [114])), .c (.d (.str [114, 114, 114, 111])), .c (.d (.str [114, 107])), .c (.d (.str [114, 114, 107, 107])), .c (.d (.str [114, 107])), .c (.d (.str [114, 107])), .c (.d (.str [114, 107])), .c (.d (.str [114, 107])), .c (.d (.str [107, 107])), .c (.d (.str [114])), .c (.d (.str [114])), .c (.d (.str [114])), .c (.d (.str [114])), .c (.d (.str [114, 101])), .c (.d (.str [116])), .c (.d (.str [114, 116])), .c (.d (.str [114, 116])), .c (.d (.str [116])), .c (.d (.str [114, 116])), .c (.d (.str [114, 116])), .c (.d (.str [107, 107])), .c (.d (.str [107, 107])), .c (.d (.str [116])), .c (.d (.str [116])), .c (.d (.str [116])), .c (.d (.str [116])), .c (.d (.str []))], guard := none },
   { dst := some 4, op := .mov (.t 5), guard := none }] false [] [5]) (.seq (.seq (.region 2 [{ dst := some 6, op := .mov (.t 0), guard := none },
   { dst := some 7, op := .cnvI .i64 (.t 6), guard := none }, { dst := some 8, op := .mov (.t 4), guard := none }, { dst := some 9, op := .len .sl (.t 8), guard := none },
   { dst := some 10, op := .bin .geq .int (.t 7) (.t 9), guard := none }] false [] [6, 7, 8, 9]) (.cond (.t 10) (.seq
   (.region 3 [{ dst := some 2, op := .mov (.c (.d (.str []))), guard := none }, { dst := some 3, op := .mov (.c (.d (.bool false))), guard := none }] false [] []) .ret) .skip))
   (.seq (.region 4 [{ dst := some 11, op := .mov (.t 4), guard := none }, { dst := some 12, op := .mov (.t 0), guard := none },
   { dst := some 13, op := .ia 1 (.t 11) (.t 12), guard := none }, { dst := some 14, op := .ld 1 false (.t 13), guard := none },
   { dst := some 2, op := .mov (.t 14), guard := none },
   { dst := some 3, op := .mov (.c (.d (.bool true))), guard := none }] false [] [11, 12, 13, 14]) .ret)))), results := [.tmp 2, .tmp 3] }
theorem c_backstepref22_Classes : cFunc Tryz.prog mvTab 38 (dropOf [(1, [5]), (2, [6, 7, 8, 9]), (4, [11, 12, 13, 14])]) = some s_backstepref22_Classes := by kernel_rfl

-- backstep/backstepref22.Operand
def s_backstepref22_Operand : SFunc := { nparams := 2, ntmps := 17, code := (.seq (.region 0 [{ dst := some 2, op := .box 43 (.t 0), guard := none },
   { dst := some 4, op := .mov (.c (.d (.int .i64 0))), guard := none }] false [] []) (.seq (.region 1 [{ dst := some 5, op := .fa (.t 2) 1 1, guard := none },
   { dst := some 6, op := .ld 1 false (.t 5), guard := none }, { dst := some 7, op := .fa (.t 2) 2 2, guard := none }, { dst := some 8, op := .ld 1 false (.t 7), guard := none },
   { dst := some 9, op := .fa (.t 2) 3 3, guard := none }, { dst := some 10, op := .ld 1 false (.t 9), guard := none }, { dst := some 11, op := .fa (.t 2) 4 4, guard := none },
   { dst := some 12, op := .ld 1 false (.t 11), guard := none }, { dst := some 13, op := .bsl 3 1 4 [.t 6, .t 8, .t 10, .t 12], guard := none },
   { dst := some 14, op := .mov (.t 1), guard := none }, { dst := some 15, op := .ia 1 (.t 13) (.t 14), guard := none },
   { dst := some 16, op := .ld 1 false (.t 15), guard := none },
   { dst := some 4, op := .mov (.t 16), guard := none }] false [] [5, 6, 7, 8, 9, 10, 11, 12, 13, 14, 15, 16]) .ret)), results := [.tmp 4] }
theorem c_backstepref22_Operand : cFunc Tryz.prog mvTab 39 (dropOf [(1, [5, 6, 7, 8, 9, 10, 11, 12, 13, 14, 15, 16])]) = some s_backstepref22_Operand := by kernel_rfl

-- backstep/backstepref22.Width
def s_backstepref22_Width : SFunc := { nparams := 1, ntmps := 10, code := (.seq (.region 0 [{ dst := some 2, op := .mov (.c (.d (.int .i64 0))), guard := none }] false [] []) (.seq
   (.seq (.region 1 [{ dst := some 3, op := .mov (.t 0), guard := none }] false [] []) (.block 0 (.seq (.seq
   (.region 2 [{ dst := some 5, op := .bin .eql .int (.t 3) (.c (.d (.int .u8 114))), guard := none }, { dst := some 4, op := .mov (.t 5), guard := none }] false [] [5])
   (.cond (.t 4) .skip (.seq (.region 3 [{ dst := some 6, op := .bin .eql .int (.t 3) (.c (.d (.int .u8 101))), guard := none },
   { dst := some 4, op := .mov (.t 6), guard := none }] false [] [6]) (.cond (.t 4) .skip
   (.region 4 [{ dst := some 7, op := .bin .eql .int (.t 3) (.c (.d (.int .u8 111))), guard := none }, { dst := some 4, op := .mov (.t 7), guard := none }] false [] [7])))))
   (.cond (.t 4) (.seq (.region 5 [{ dst := some 2, op := .mov (.c (.d (.int .i64 1))), guard := none }] false [] []) .ret) (.seq
   (.region 6 [{ dst := some 9, op := .bin .eql .int (.t 3) (.c (.d (.int .u8 110))), guard := none }, { dst := some 8, op := .mov (.t 9), guard := none }] false [] [9])
   (.cond (.t 8) (.seq (.region 7 [{ dst := some 2, op := .mov (.c (.d (.int .i64 8))), guard := none }] false [] []) .ret) .skip)))))) (.seq
   (.region 8 [{ dst := some 2, op := .mov (.c (.d (.int .i64 4))), guard := none }] false [] []) .ret))), results := [.tmp 2] }
theorem c_backstepref22_Width : cFunc Tryz.prog mvTab 40 (dropOf [(2, [5]), (3, [6]), (4, [7]), (6, [9])]) = some s_backstepref22_Width := by kernel_rfl

-- backstep/asm.mnemonics
def s_asm_mnemonics_l0 : SCode := (.seq (.region 3 [{ dst := some 5, op := .bin .lss .int (.t 4) (.c (.d (.int .u8 35))), guard := none }] false [] []) (.seq
   (.cond (.t 5) .skip (.exit 0)) (.seq (.block 1 (.seq (.region 4 [{ dst := some 6, op := .mov (.t 4), guard := none },
   { dst := some 2, op := .mov (.t 6), guard := none }] false [] [6]) (.region 5 [{ dst := some 7, op := .mov (.t 1), guard := none },
   { dst := some 8, op := .mov (.t 2), guard := none }, { dst := some 9, op := .call 23 [.t 8], guard := none }, { dst := some 10, op := .mov (.t 2), guard := none },
   { dst := none, op := .mu .str (.t 7) (.t 9) (.t 10), guard := none }] false [] [7, 8, 9, 10])))
   (.region 6 [{ dst := some 11, op := .bin .add .int (.t 4) (.c (.d (.int .u8 1))), guard := none }, { dst := some 4, op := .mov (.t 11), guard := none }] false [] [11]))))
def s_asm_mnemonics : SFunc := { nparams := 0, ntmps := 13, code := (.seq (.region 0 [{ dst := some 0, op := .mov (.c (.d .nilmap)), guard := none }] false [] []) (.seq
   (.region 1 [{ dst := some 3, op := .mkm, guard := none }, { dst := some 1, op := .mov (.t 3), guard := none }] false [] [3]) (.seq (.seq
   (.region 2 [{ dst := some 4, op := .mov (.c (.d (.int .u8 0))), guard := none }] false [] []) (.block 0 (.loop s_asm_mnemonics_l0))) (.seq
   (.region 7 [{ dst := some 12, op := .mov (.t 1), guard := none }, { dst := some 0, op := .mov (.t 12), guard := none }] false [] [12]) .ret)))), results := [.tmp 0] }
theorem c_asm_mnemonics : cFunc Tryz.prog mvTab 41 (dropOf [(1, [3]), (4, [6]), (5, [7, 8, 9, 10]), (6, [11]), (7, [12])]) = some s_asm_mnemonics := by kernel_rfl

-- backstep/asm.parse
def s_asm_parse_l0 : SCode := (.seq (.region 9 [{ dst := some 43, op := .nxtS (.t 42), guard := none }, { dst := some 44, op := .ext (.t 43) 0, guard := none }] false [] []) (.seq
   (.cond (.t 44) .skip (.exit 0)) (.block 1 (.seq (.region 10 [{ dst := some 45, op := .ext (.t 43) 1, guard := none },
   { dst := some 12, op := .mov (.t 45), guard := none }] false [] [45]) (.seq (.region 11 [{ dst := some 47, op := .mov (.t 6), guard := none },
   { dst := some 48, op := .mov (.t 12), guard := none }, { dst := some 49, op := .bin .add .int (.t 48) (.c (.d (.int .i64 1))), guard := none },
   { dst := some 50, op := .ia 1 (.t 47) (.t 49), guard := none }, { dst := some 51, op := .ld 1 false (.t 50), guard := none },
   { dst := some 52, op := .mov (.t 9), guard := none }, { dst := some 53, op := .mov (.t 12), guard := none }, { dst := some 54, op := .ixS (.t 52) (.t 53), guard := none },
   { dst := some 55, op := .call 59 [.t 51, .t 54], guard := none }, { dst := some 46, op := .mov (.t 55), guard := none }, { dst := some 56, op := .ext (.t 46) 0, guard := none },
   { dst := some 57, op := .ext (.t 46) 1, guard := none }, { dst := some 13, op := .mov (.t 56), guard := none },
   { dst := some 14, op := .mov (.t 57), guard := none }] true [] [47, 48, 49, 50, 51, 52, 53, 54, 55, 46, 56, 57]) (.seq (.seq
   (.region 12 [{ dst := some 58, op := .mov (.t 14), guard := none }, { dst := some 59, op := .un .not (.t 58), guard := none }] false [] [58]) (.cond (.t 59) (.seq
   (.region 13 [{ dst := some 60, op := .build [.d (.int .u8 0), .d (.int .i64 0), .d (.int .i64 0), .d (.int .i64 0), .d (.int .i64 0)] [], guard := none },
   { dst := none, op := .st 5 (.t 4) (.t 60), guard := none }, { dst := some 5, op := .mov (.c (.d (.bool false))), guard := none }] false [] [60]) .ret) .skip))
   (.region 14 [{ dst := some 61, op := .mov (.t 12), guard := none }, { dst := some 62, op := .iaA 4 1 (.t 11) (.t 61), guard := none },
   { dst := some 63, op := .ld 1 false (.t 62), guard := none }, { dst := some 64, op := .mov (.t 13), guard := none }, { dst := some 65, op := .nilc (.t 63), guard := none },
   { dst := none, op := .st 1 (.t 65) (.t 64), guard := none }] false [] [61, 62, 63, 64, 65])))))))
def s_asm_parse : SFunc := { nparams := 2, ntmps := 75, code := (.seq
   (.region 0 [{ dst := some 4, op := .alloc 43 (.d (.agg [.int .u8 0, .int .i64 0, .int .i64 0, .int .i64 0, .int .i64 0])), guard := none },
   { dst := some 5, op := .mov (.c (.d (.bool false))), guard := none }] false [] []) (.seq (.region 1 [{ dst := some 15, op := .mov (.t 0), guard := none },
   { dst := some 16, op := .call 58 [.t 15, .c (.d (.str [32]))], guard := none }, { dst := some 6, op := .mov (.t 16), guard := none }] false [] [15, 16]) (.seq
   (.region 2 [{ dst := some 18, op := .mov (.t 1), guard := none }, { dst := some 19, op := .mov (.t 6), guard := none },
   { dst := some 20, op := .ia 1 (.t 19) (.c (.d (.int .i64 0))), guard := none }, { dst := some 21, op := .ld 1 false (.t 20), guard := none },
   { dst := some 22, op := .lk .str (.d (.int .u8 0)) (.t 18) (.t 21) true, guard := none }, { dst := some 17, op := .mov (.t 22), guard := none },
   { dst := some 23, op := .ext (.t 17) 0, guard := none }, { dst := some 24, op := .ext (.t 17) 1, guard := none }, { dst := some 7, op := .mov (.t 23), guard := none },
   { dst := some 8, op := .mov (.t 24), guard := none }] false [] [18, 19, 20, 21, 22, 17, 23, 24]) (.seq (.region 3 [{ dst := some 25, op := .mov (.t 7), guard := none },
   { dst := some 26, op := .call 35 [.t 25], guard := none }, { dst := some 9, op := .mov (.t 26), guard := none }] false [] [25, 26]) (.seq (.seq
   (.region 4 [{ dst := some 27, op := .mov (.t 8), guard := none }, { dst := some 28, op := .un .not (.t 27), guard := none },
   { dst := some 29, op := .mov (.t 28), guard := none }, { dst := some 30, op := .mov (.t 6), guard := some (29, false) },
   { dst := some 31, op := .len .sl (.t 30), guard := some (29, false) }, { dst := some 32, op := .mov (.t 9), guard := some (29, false) },
   { dst := some 33, op := .len .str (.t 32), guard := some (29, false) }, { dst := some 34, op := .bin .add .int (.t 33) (.c (.d (.int .i64 1))), guard := some (29, false) },
   { dst := some 35, op := .bin .neq .int (.t 31) (.t 34), guard := some (29, false) },
   { dst := some 36, op := .pick (.t 29) (.c (.d (.bool true))) (.t 35), guard := none }] false [] [27, 28, 29, 30, 31, 32, 33, 34, 35]) (.cond (.t 36) (.seq
   (.region 5 [{ dst := some 37, op := .build [.d (.int .u8 0), .d (.int .i64 0), .d (.int .i64 0), .d (.int .i64 0), .d (.int .i64 0)] [], guard := none },
   { dst := none, op := .st 5 (.t 4) (.t 37), guard := none }, { dst := some 5, op := .mov (.c (.d (.bool false))), guard := none }] false [] [37]) .ret) .skip)) (.seq
   (.region 6 [{ dst := some 38, op := .mov (.t 7), guard := none },
   { dst := some 39, op := .build [.d (.int .u8 0), .d (.int .i64 0), .d (.int .i64 0), .d (.int .i64 0), .d (.int .i64 0)] [(0, .t 38)], guard := none },
   { dst := some 10, op := .alloc 43 (.d (.agg [.int .u8 0, .int .i64 0, .int .i64 0, .int .i64 0, .int .i64 0])), guard := none },
   { dst := none, op := .st 5 (.t 10) (.t 39), guard := none }] false [] [38, 39]) (.seq (.region 7 [{ dst := some 40, op := .call 34 [.t 10], guard := none },
   { dst := some 11, op := .alloc 71 (.d (.agg [.nilptr, .nilptr, .nilptr, .nilptr])), guard := none }, { dst := none, op := .st 4 (.t 11) (.t 40), guard := none }] false [] [40])
   (.seq (.seq (.region 8 [{ dst := some 41, op := .mov (.t 9), guard := none }, { dst := some 42, op := .rngS (.t 41), guard := none }] false [] [41])
   (.block 0 (.loop s_asm_parse_l0))) (.seq (.region 15 [{ dst := some 66, op := .ld 5 true (.t 10), guard := none }, { dst := some 67, op := .ld 5 true (.t 10), guard := none },
   { dst := some 68, op := .call 20 [.t 67], guard := none }, { dst := some 69, op := .mov (.t 68), guard := none },
   { dst := some 70, op := .ld 5 true (.t 10), guard := some (69, true) }, { dst := some 71, op := .call 29 [.t 70], guard := some (69, true) },
   { dst := some 72, op := .mov (.t 0), guard := some (69, true) }, { dst := some 73, op := .bin .eql .str (.t 71) (.t 72), guard := some (69, true) },
   { dst := some 74, op := .pick (.t 69) (.t 73) (.c (.d (.bool false))), guard := none }, { dst := none, op := .st 5 (.t 4) (.t 66), guard := none },
   { dst := some 5, op := .mov (.t 74), guard := none }] true [(0, 2), (0, 5), (5, 6), (6, 9), (7, 9), (8, 9)] [66, 67, 68, 69, 70, 71, 72, 73, 74]) .ret))))))))), results := [.cell 4 5 true, .tmp 5] }
theorem c_asm_parse : cFunc Tryz.prog mvTab 43 (dropOf [(1, [15, 16]), (2, [18, 19, 20, 21, 22, 17, 23, 24]), (3, [25, 26]), (4, [27, 28, 29, 30, 31, 32, 33, 34, 35]), (5, [37]), (6, [38, 39]), (7, [40]), (8, [41]), (10, [45]), (11, [47, 48, 49, 50, 51, 52, 53, 54, 55, 46, 56, 57]), (12, [58]), (13, [60]), (14, [61, 62, 63, 64, 65]), (15, [66, 67, 68, 69, 70, 71, 72, 73, 74])]) = some s_asm_parse := by kernel_rfl

-- backstep/backstepref22.Read
def s_backstepref22_Read_l0 : SCode := (.seq (.seq (.region 11 [{ dst := some 41, op := .mov (.t 9), guard := none }, { dst := some 42, op := .mov (.t 6), guard := none },
   { dst := some 43, op := .len .str (.t 42), guard := none }, { dst := some 44, op := .bin .lss .int (.t 41) (.t 43), guard := none }] false [] [41, 42, 43])
   (.cond (.t 44) .skip (.exit 2))) (.seq (.block 3 (.seq (.region 13 [{ dst := some 48, op := .mov (.t 4), guard := none }, { dst := some 49, op := .mov (.t 9), guard := none },
   { dst := some 50, op := .bin .add .int (.t 49) (.c (.d (.int .i64 1))), guard := none }, { dst := some 51, op := .ia 1 (.t 48) (.t 50), guard := none },
   { dst := some 52, op := .ld 1 false (.t 51), guard := none }, { dst := some 53, op := .mov (.t 6), guard := none }, { dst := some 54, op := .mov (.t 9), guard := none },
   { dst := some 55, op := .ixS (.t 53) (.t 54), guard := none }, { dst := some 56, op := .call 60 [.t 52, .t 55], guard := none },
   { dst := some 47, op := .mov (.t 56), guard := none }, { dst := some 57, op := .ext (.t 47) 0, guard := none }, { dst := some 58, op := .ext (.t 47) 1, guard := none },
   { dst := some 10, op := .mov (.t 57), guard := none }, { dst := some 11, op := .mov (.t 58), guard := none }] true [] [48, 49, 50, 51, 52, 53, 54, 55, 56, 47, 57, 58]) (.seq
   (.seq (.region 14 [{ dst := some 59, op := .mov (.t 11), guard := none }, { dst := some 60, op := .un .not (.t 59), guard := none }] false [] [59]) (.cond (.t 60) (.seq
   (.region 15 [{ dst := some 61, op := .ld 5 true (.t 8), guard := none }, { dst := none, op := .st 5 (.t 2) (.t 61), guard := none },
   { dst := some 3, op := .mov (.c (.d (.bool false))), guard := none }] false [] [61]) .ret) .skip)) (.region 16 [{ dst := some 62, op := .ld 5 true (.t 8), guard := none },
   { dst := some 63, op := .mov (.t 9), guard := none }, { dst := some 64, op := .mov (.t 10), guard := none },
   { dst := some 65, op := .call 50 [.t 62, .t 63, .t 64], guard := none }, { dst := none, op := .st 5 (.t 8) (.t 65), guard := none }] false [] [62, 63, 64, 65]))))
   (.region 12 [{ dst := some 45, op := .mov (.t 9), guard := none }, { dst := some 46, op := .bin .add .int (.t 45) (.c (.d (.int .i64 1))), guard := none },
   { dst := some 9, op := .mov (.t 46), guard := none }] false [] [45, 46])))
def s_backstepref22_Read_l1 : SCode := (.seq (.seq (.region 3 [{ dst := some 14, op := .mov (.t 5), guard := none },
   { dst := some 15, op := .bin .lss .int (.t 14) (.c (.d (.int .i64 35))), guard := none }] false [] [14]) (.cond (.t 15) .skip (.exit 0))) (.seq (.block 1 (.seq (.seq
   (.region 5 [{ dst := some 18, op := .mov (.t 5), guard := none }, { dst := some 19, op := .cnvI .u8 (.t 18), guard := none },
   { dst := some 20, op := .call 54 [.t 19], guard := none }, { dst := some 21, op := .mov (.t 4), guard := none },
   { dst := some 22, op := .ia 1 (.t 21) (.c (.d (.int .i64 0))), guard := none }, { dst := some 23, op := .ld 1 false (.t 22), guard := none },
   { dst := some 24, op := .bin .neq .str (.t 20) (.t 23), guard := none }] true [(2, 3), (2, 4), (2, 5)] [18, 19, 20, 21, 22, 23]) (.cond (.t 24) (.exit 1) .skip)) (.seq
   (.region 6 [{ dst := some 26, op := .mov (.t 5), guard := none }, { dst := some 27, op := .cnvI .u8 (.t 26), guard := none },
   { dst := some 28, op := .call 38 [.t 27], guard := none }, { dst := some 25, op := .mov (.t 28), guard := none }, { dst := some 29, op := .ext (.t 25) 0, guard := none },
   { dst := some 30, op := .ext (.t 25) 1, guard := none }, { dst := some 6, op := .mov (.t 29), guard := none },
   { dst := some 7, op := .mov (.t 30), guard := none }] false [] [26, 27, 28, 25, 29, 30, 7]) (.seq (.region 7 [{ dst := some 31, op := .mov (.t 5), guard := none },
   { dst := some 32, op := .cnvI .u8 (.t 31), guard := none },
   { dst := some 33, op := .build [.d (.int .u8 0), .d (.int .i64 0), .d (.int .i64 0), .d (.int .i64 0), .d (.int .i64 0)] [(0, .t 32)], guard := none },
   { dst := some 8, op := .alloc 43 (.d (.agg [.int .u8 0, .int .i64 0, .int .i64 0, .int .i64 0, .int .i64 0])), guard := none },
   { dst := none, op := .st 5 (.t 8) (.t 33), guard := none }] false [] [31, 32, 33]) (.seq (.seq (.region 8 [{ dst := some 34, op := .mov (.t 4), guard := none },
   { dst := some 35, op := .len .sl (.t 34), guard := none }, { dst := some 36, op := .mov (.t 6), guard := none }, { dst := some 37, op := .len .str (.t 36), guard := none },
   { dst := some 38, op := .bin .add .int (.t 37) (.c (.d (.int .i64 1))), guard := none },
   { dst := some 39, op := .bin .neq .int (.t 35) (.t 38), guard := none }] false [] [34, 35, 36, 37, 38]) (.cond (.t 39) (.seq
   (.region 9 [{ dst := some 40, op := .ld 5 true (.t 8), guard := none }, { dst := none, op := .st 5 (.t 2) (.t 40), guard := none },
   { dst := some 3, op := .mov (.c (.d (.bool false))), guard := none }] false [] [40]) .ret) .skip)) (.seq (.seq
   (.region 10 [{ dst := some 9, op := .mov (.c (.d (.int .i64 0))), guard := none }] false [] []) (.block 2 (.loop s_backstepref22_Read_l0))) (.seq
   (.region 17 [{ dst := some 66, op := .ld 5 true (.t 8), guard := none }, { dst := some 67, op := .ld 5 true (.t 8), guard := none },
   { dst := some 68, op := .call 51 [.t 67], guard := none }, { dst := none, op := .st 5 (.t 2) (.t 66), guard := none },
   { dst := some 3, op := .mov (.t 68), guard := none }] true [(0, 2)] [66, 67, 68]) .ret))))))) (.region 4 [{ dst := some 16, op := .mov (.t 5), guard := none },
   { dst := some 17, op := .bin .add .int (.t 16) (.c (.d (.int .i64 1))), guard := none }, { dst := some 5, op := .mov (.t 17), guard := none }] false [] [16, 17])))
def s_backstepref22_Read : SFunc := { nparams := 1, ntmps := 70, code := (.seq
   (.region 0 [{ dst := some 2, op := .alloc 43 (.d (.agg [.int .u8 0, .int .i64 0, .int .i64 0, .int .i64 0, .int .i64 0])), guard := none },
   { dst := some 3, op := .mov (.c (.d (.bool false))), guard := none }] false [] []) (.seq (.region 1 [{ dst := some 12, op := .mov (.t 0), guard := none },
   { dst := some 13, op := .call 21 [.t 12], guard := none }, { dst := some 4, op := .mov (.t 13), guard := none }] false [] [12, 13]) (.seq (.seq
   (.region 2 [{ dst := some 5, op := .mov (.c (.d (.int .i64 0))), guard := none }] false [] []) (.block 0 (.loop s_backstepref22_Read_l1))) (.seq
   (.region 18 [{ dst := some 69, op := .build [.d (.int .u8 0), .d (.int .i64 0), .d (.int .i64 0), .d (.int .i64 0), .d (.int .i64 0)] [], guard := none },
   { dst := none, op := .st 5 (.t 2) (.t 69), guard := none },
   { dst := some 3, op := .mov (.c (.d (.bool false))), guard := none }] false [] [69]) .ret)))), results := [.cell 2 5 true, .tmp 3] }
theorem c_backstepref22_Read : cFunc Tryz.prog mvTab 44 (dropOf [(1, [12, 13]), (3, [14]), (5, [18, 19, 20, 21, 22, 23]), (6, [26, 27, 28, 25, 29, 30, 7]), (7, [31, 32, 33]), (8, [34, 35, 36, 37, 38]), (9, [40]), (11, [41, 42, 43]), (13, [48, 49, 50, 51, 52, 53, 54, 55, 56, 47, 57, 58]), (14, [59]), (15, [61]), (16, [62, 63, 64, 65]), (12, [45, 46]), (17, [66, 67, 68]), (4, [16, 17]), (18, [69])]) = some s_backstepref22_Read := by kernel_rfl

-- backstep/isa.rows
def s_isa_rows : SFunc := { nparams := 0, ntmps := 38, code := (.seq (.region 0 [{ dst := some 0, op := .mov (.c (.d .nilmap)), guard := none }] false [] []) (.seq
   (.region 1 [{ dst := some 1, op := .mkm, guard := none },
   { dst := some 2, op := .build [.d (.str []), .d (.str []), .d (.int .u8 0)] [(0, .c (.d (.str [110, 111, 112]))), (1, .c (.d (.str []))), (2, .c (.d (.int .u8 0)))], guard := none },
   { dst := none, op := .mu .int (.t 1) (.c (.d (.int .u8 0))) (.t 2), guard := none },
   { dst := some 3, op := .build [.d (.str []), .d (.str []), .d (.int .u8 0)] [(0, .c (.d (.str [97, 100, 100]))), (1, .c (.d (.str [114, 114]))), (2, .c (.d (.int .u8 2)))], guard := none },
   { dst := none, op := .mu .int (.t 1) (.c (.d (.int .u8 1))) (.t 3), guard := none },
   { dst := some 4, op := .build [.d (.str []), .d (.str []), .d (.int .u8 0)] [(0, .c (.d (.str [115, 117, 98]))), (1, .c (.d (.str [114, 114]))), (2, .c (.d (.int .u8 1)))], guard := none },
   { dst := none, op := .mu .int (.t 1) (.c (.d (.int .u8 2))) (.t 4), guard := none },
   { dst := some 5, op := .build [.d (.str []), .d (.str []), .d (.int .u8 0)] [(0, .c (.d (.str [120, 111, 114]))), (1, .c (.d (.str [114, 114]))), (2, .c (.d (.int .u8 3)))], guard := none },
   { dst := none, op := .mu .int (.t 1) (.c (.d (.int .u8 3))) (.t 5), guard := none },
   { dst := some 6, op := .build [.d (.str []), .d (.str []), .d (.int .u8 0)] [(0, .c (.d (.str [97, 100, 100, 105]))), (1, .c (.d (.str [114, 110]))), (2, .c (.d (.int .u8 5)))], guard := none },
   { dst := none, op := .mu .int (.t 1) (.c (.d (.int .u8 4))) (.t 6), guard := none },
   { dst := some 7, op := .build [.d (.str []), .d (.str []), .d (.int .u8 0)] [(0, .c (.d (.str [115, 117, 98, 105]))), (1, .c (.d (.str [114, 110]))), (2, .c (.d (.int .u8 4)))], guard := none },
   { dst := none, op := .mu .int (.t 1) (.c (.d (.int .u8 5))) (.t 7), guard := none },
   { dst := some 8, op := .build [.d (.str []), .d (.str []), .d (.int .u8 0)] [(0, .c (.d (.str [120, 111, 114, 105]))), (1, .c (.d (.str [114, 110]))), (2, .c (.d (.int .u8 6)))], guard := none },
   { dst := none, op := .mu .int (.t 1) (.c (.d (.int .u8 6))) (.t 8), guard := none },
   { dst := some 9, op := .build [.d (.str []), .d (.str []), .d (.int .u8 0)] [(0, .c (.d (.str [115, 119, 97, 112]))), (1, .c (.d (.str [114, 114]))), (2, .c (.d (.int .u8 7)))], guard := none },
   { dst := none, op := .mu .int (.t 1) (.c (.d (.int .u8 7))) (.t 9), guard := none },
   { dst := some 10, op := .build [.d (.str []), .d (.str []), .d (.int .u8 0)] [(0, .c (.d (.str [110, 101, 103]))), (1, .c (.d (.str [114]))), (2, .c (.d (.int .u8 8)))], guard := none },
   { dst := none, op := .mu .int (.t 1) (.c (.d (.int .u8 8))) (.t 10), guard := none },
   { dst := some 11, op := .build [.d (.str []), .d (.str []), .d (.int .u8 0)] [(0, .c (.d (.str [99, 97, 108, 99]))), (1, .c (.d (.str [114, 114, 114, 111]))), (2, .c (.d (.int .u8 9)))], guard := none },
   { dst := none, op := .mu .int (.t 1) (.c (.d (.int .u8 9))) (.t 11), guard := none },
   { dst := some 12, op := .build [.d (.str []), .d (.str []), .d (.int .u8 0)] [(0, .c (.d (.str [109, 101, 109]))), (1, .c (.d (.str [114, 107]))), (2, .c (.d (.int .u8 10)))], guard := none },
   { dst := none, op := .mu .int (.t 1) (.c (.d (.int .u8 10))) (.t 12), guard := none },
   { dst := some 13, op := .build [.d (.str []), .d (.str []), .d (.int .u8 0)] [(0, .c (.d (.str [105, 100, 120]))), (1, .c (.d (.str [114, 114, 107, 107]))), (2, .c (.d (.int .u8 11)))], guard := none },
   { dst := none, op := .mu .int (.t 1) (.c (.d (.int .u8 11))) (.t 13), guard := none },
   { dst := some 14, op := .build [.d (.str []), .d (.str []), .d (.int .u8 0)] [(0, .c (.d (.str [112, 117, 115, 104]))), (1, .c (.d (.str [114, 107]))), (2, .c (.d (.int .u8 13)))], guard := none },
   { dst := none, op := .mu .int (.t 1) (.c (.d (.int .u8 12))) (.t 14), guard := none },
   { dst := some 15, op := .build [.d (.str []), .d (.str []), .d (.int .u8 0)] [(0, .c (.d (.str [112, 111, 112]))), (1, .c (.d (.str [114, 107]))), (2, .c (.d (.int .u8 12)))], guard := none },
   { dst := none, op := .mu .int (.t 1) (.c (.d (.int .u8 13))) (.t 15), guard := none },
   { dst := some 16, op := .build [.d (.str []), .d (.str []), .d (.int .u8 0)] [(0, .c (.d (.str [116, 111, 112]))), (1, .c (.d (.str [114, 107]))), (2, .c (.d (.int .u8 14)))], guard := none },
   { dst := none, op := .mu .int (.t 1) (.c (.d (.int .u8 14))) (.t 16), guard := none },
   { dst := some 17, op := .build [.d (.str []), .d (.str []), .d (.int .u8 0)] [(0, .c (.d (.str [115, 105, 122, 101]))), (1, .c (.d (.str [114, 107]))), (2, .c (.d (.int .u8 15)))], guard := none },
   { dst := none, op := .mu .int (.t 1) (.c (.d (.int .u8 15))) (.t 17), guard := none },
   { dst := some 18, op := .build [.d (.str []), .d (.str []), .d (.int .u8 0)] [(0, .c (.d (.str [115, 119, 97, 112, 115]))), (1, .c (.d (.str [107, 107]))), (2, .c (.d (.int .u8 16)))], guard := none },
   { dst := none, op := .mu .int (.t 1) (.c (.d (.int .u8 16))) (.t 18), guard := none },
   { dst := some 19, op := .build [.d (.str []), .d (.str []), .d (.int .u8 0)] [(0, .c (.d (.str [114, 101, 97, 100]))), (1, .c (.d (.str [114]))), (2, .c (.d (.int .u8 18)))], guard := none },
   { dst := none, op := .mu .int (.t 1) (.c (.d (.int .u8 17))) (.t 19), guard := none },
   { dst := some 20, op := .build [.d (.str []), .d (.str []), .d (.int .u8 0)] [(0, .c (.d (.str [117, 110, 114, 101, 97, 100]))), (1, .c (.d (.str [114]))), (2, .c (.d (.int .u8 17)))], guard := none },
   { dst := none, op := .mu .int (.t 1) (.c (.d (.int .u8 18))) (.t 20), guard := none },
   { dst := some 21, op := .build [.d (.str []), .d (.str []), .d (.int .u8 0)] [(0, .c (.d (.str [119, 114, 105, 116, 101]))), (1, .c (.d (.str [114]))), (2, .c (.d (.int .u8 20)))], guard := none },
   { dst := none, op := .mu .int (.t 1) (.c (.d (.int .u8 19))) (.t 21), guard := none },
   { dst := some 22, op := .build [.d (.str []), .d (.str []), .d (.int .u8 0)] [(0, .c (.d (.str [117, 110, 119, 114, 105, 116, 101]))), (1, .c (.d (.str [114]))), (2, .c (.d (.int .u8 19)))], guard := none },
   { dst := none, op := .mu .int (.t 1) (.c (.d (.int .u8 20))) (.t 22), guard := none },
   { dst := some 23, op := .build [.d (.str []), .d (.str []), .d (.int .u8 0)] [(0, .c (.d (.str [122, 101, 114, 111]))), (1, .c (.d (.str [114, 101]))), (2, .c (.d (.int .u8 21)))], guard := none },
   { dst := none, op := .mu .int (.t 1) (.c (.d (.int .u8 21))) (.t 23), guard := none },
   { dst := some 24, op := .build [.d (.str []), .d (.str []), .d (.int .u8 0)] [(0, .c (.d (.str [106, 109, 112]))), (1, .c (.d (.str [116]))), (2, .c (.d (.int .u8 25)))], guard := none },
   { dst := none, op := .mu .int (.t 1) (.c (.d (.int .u8 22))) (.t 24), guard := none },
   { dst := some 25, op := .build [.d (.str []), .d (.str []), .d (.int .u8 0)] [(0, .c (.d (.str [106, 109, 112, 122]))), (1, .c (.d (.str [114, 116]))), (2, .c (.d (.int .u8 26)))], guard := none },
   { dst := none, op := .mu .int (.t 1) (.c (.d (.int .u8 23))) (.t 25), guard := none },
   { dst := some 26, op := .build [.d (.str []), .d (.str []), .d (.int .u8 0)] [(0, .c (.d (.str [106, 109, 112, 110]))), (1, .c (.d (.str [114, 116]))), (2, .c (.d (.int .u8 27)))], guard := none },
   { dst := none, op := .mu .int (.t 1) (.c (.d (.int .u8 24))) (.t 26), guard := none },
   { dst := some 27, op := .build [.d (.str []), .d (.str []), .d (.int .u8 0)] [(0, .c (.d (.str [108, 97, 110, 100]))), (1, .c (.d (.str [116]))), (2, .c (.d (.int .u8 22)))], guard := none },
   { dst := none, op := .mu .int (.t 1) (.c (.d (.int .u8 25))) (.t 27), guard := none },
   { dst := some 28, op := .build [.d (.str []), .d (.str []), .d (.int .u8 0)] [(0, .c (.d (.str [108, 97, 110, 100, 122]))), (1, .c (.d (.str [114, 116]))), (2, .c (.d (.int .u8 23)))], guard := none },
   { dst := none, op := .mu .int (.t 1) (.c (.d (.int .u8 26))) (.t 28), guard := none },
   { dst := some 29, op := .build [.d (.str []), .d (.str []), .d (.int .u8 0)] [(0, .c (.d (.str [108, 97, 110, 100, 110]))), (1, .c (.d (.str [114, 116]))), (2, .c (.d (.int .u8 24)))], guard := none },
   { dst := none, op := .mu .int (.t 1) (.c (.d (.int .u8 27))) (.t 29), guard := none },
   { dst := some 30, op := .build [.d (.str []), .d (.str []), .d (.int .u8 0)] [(0, .c (.d (.str [102, 114, 97, 109, 101]))), (1, .c (.d (.str [107, 107]))), (2, .c (.d (.int .u8 29)))], guard := none },
   { dst := none, op := .mu .int (.t 1) (.c (.d (.int .u8 28))) (.t 30), guard := none },
   { dst := some 31, op := .build [.d (.str []), .d (.str []), .d (.int .u8 0)] [(0, .c (.d (.str [117, 110, 102, 114, 97, 109, 101]))), (1, .c (.d (.str [107, 107]))), (2, .c (.d (.int .u8 28)))], guard := none },
   { dst := none, op := .mu .int (.t 1) (.c (.d (.int .u8 29))) (.t 31), guard := none },
   { dst := some 32, op := .build [.d (.str []), .d (.str []), .d (.int .u8 0)] [(0, .c (.d (.str [99, 97, 108, 108]))), (1, .c (.d (.str [116]))), (2, .c (.d (.int .u8 30)))], guard := none },
   { dst := none, op := .mu .int (.t 1) (.c (.d (.int .u8 30))) (.t 32), guard := none },
   { dst := some 33, op := .build [.d (.str []), .d (.str []), .d (.int .u8 0)] [(0, .c (.d (.str [117, 110, 99, 97, 108, 108]))), (1, .c (.d (.str [116]))), (2, .c (.d (.int .u8 31)))], guard := none },
   { dst := none, op := .mu .int (.t 1) (.c (.d (.int .u8 31))) (.t 33), guard := none },
   { dst := some 34, op := .build [.d (.str []), .d (.str []), .d (.int .u8 0)] [(0, .c (.d (.str [115, 116, 97, 114, 116]))), (1, .c (.d (.str [116]))), (2, .c (.d (.int .u8 33)))], guard := none },
   { dst := none, op := .mu .int (.t 1) (.c (.d (.int .u8 32))) (.t 34), guard := none },
   { dst := some 35, op := .build [.d (.str []), .d (.str []), .d (.int .u8 0)] [(0, .c (.d (.str [101, 110, 100]))), (1, .c (.d (.str [116]))), (2, .c (.d (.int .u8 32)))], guard := none },
   { dst := none, op := .mu .int (.t 1) (.c (.d (.int .u8 33))) (.t 35), guard := none },
   { dst := some 36, op := .build [.d (.str []), .d (.str []), .d (.int .u8 0)] [(0, .c (.d (.str [104, 97, 108, 116]))), (1, .c (.d (.str []))), (2, .c (.d (.int .u8 34)))], guard := none },
   { dst := none, op := .mu .int (.t 1) (.c (.d (.int .u8 34))) (.t 36), guard := none }, { dst := some 37, op := .mov (.t 1), guard := none },
   { dst := some 0, op := .mov (.t 37), guard := none }] false [] [1, 2, 3, 4, 5, 6, 7, 8, 9, 10, 11, 12, 13, 14, 15, 16, 17, 18, 19, 20, 21, 22, 23, 24, 25, 26, 27, 28, 29, 30, 31, 32, 33, 34, 35, 36, 37]) .ret)), results := [.tmp 0] }
theorem c_isa_rows : cFunc Tryz.prog mvTab 45 (dropOf [(1, [1, 2, 3, 4, 5, 6, 7, 8, 9, 10, 11, 12, 13, 14, 15, 16, 17, 18, 19, 20, 21, 22, 23, 24, 25, 26, 27, 28, 29, 30, 31, 32, 33, 34, 35, 36, 37])]) = some s_isa_rows := by kernel_rfl

-- backstep/isa.operands
def s_isa_operands : SFunc := { nparams := 1, ntmps := 16, code := (.seq (.region 0 [{ dst := some 2, op := .nilrow 70 1, guard := none }] false [] []) (.seq
   (.region 1 [{ dst := some 3, op := .mov (.t 0), guard := none }, { dst := some 4, op := .nilc (.t 3), guard := none }, { dst := some 5, op := .fa (.t 4) 1 1, guard := none },
   { dst := some 6, op := .mov (.t 0), guard := none }, { dst := some 7, op := .nilc (.t 6), guard := none }, { dst := some 8, op := .fa (.t 7) 2 2, guard := none },
   { dst := some 9, op := .mov (.t 0), guard := none }, { dst := some 10, op := .nilc (.t 9), guard := none }, { dst := some 11, op := .fa (.t 10) 3 3, guard := none },
   { dst := some 12, op := .mov (.t 0), guard := none }, { dst := some 13, op := .nilc (.t 12), guard := none }, { dst := some 14, op := .fa (.t 13) 4 4, guard := none },
   { dst := some 15, op := .bsl 70 1 4 [.t 5, .t 8, .t 11, .t 14], guard := none },
   { dst := some 2, op := .mov (.t 15), guard := none }] true [] [3, 4, 5, 6, 7, 8, 9, 10, 11, 12, 13, 14, 15]) .ret)), results := [.tmp 2] }
theorem c_isa_operands : cFunc Tryz.prog mvTab 46 (dropOf [(1, [3, 4, 5, 6, 7, 8, 9, 10, 11, 12, 13, 14, 15])]) = some s_isa_operands := by kernel_rfl

-- backstep/isa.fits
def s_isa_fits : SFunc := { nparams := 2, ntmps := 46, code := (.seq (.region 0 [{ dst := some 4, op := .mov (.c (.d (.bool false))), guard := none }] false [] []) (.seq (.seq
   (.region 1 [{ dst := some 5, op := .mov (.t 0), guard := none }] false [] []) (.block 0 (.seq
   (.region 2 [{ dst := some 7, op := .bin .eql .int (.t 5) (.c (.d (.int .u8 114))), guard := none }, { dst := some 6, op := .mov (.t 7), guard := none }] false [] [7])
   (.cond (.t 6) (.seq (.region 3 [{ dst := some 8, op := .mov (.t 1), guard := none }, { dst := some 9, op := .bin .geq .int (.t 8) (.c (.d (.int .i64 0))), guard := none },
   { dst := some 10, op := .mov (.t 9), guard := none }, { dst := some 11, op := .mov (.t 1), guard := some (10, true) },
   { dst := some 12, op := .bin .lss .int (.t 11) (.c (.d (.int .i64 16))), guard := some (10, true) },
   { dst := some 13, op := .pick (.t 10) (.t 12) (.c (.d (.bool false))), guard := none },
   { dst := some 4, op := .mov (.t 13), guard := none }] false [] [8, 9, 10, 11, 12, 13]) .ret) (.seq
   (.region 4 [{ dst := some 15, op := .bin .eql .int (.t 5) (.c (.d (.int .u8 107))), guard := none }, { dst := some 14, op := .mov (.t 15), guard := none }] false [] [15])
   (.cond (.t 14) (.seq (.region 5 [{ dst := some 16, op := .mov (.t 1), guard := none }, { dst := some 17, op := .bin .geq .int (.t 16) (.c (.d (.int .i64 0))), guard := none },
   { dst := some 18, op := .mov (.t 17), guard := none }, { dst := some 19, op := .mov (.t 1), guard := some (18, true) },
   { dst := some 20, op := .bin .leq .int (.t 19) (.c (.d (.int .i64 16384))), guard := some (18, true) },
   { dst := some 21, op := .pick (.t 18) (.t 20) (.c (.d (.bool false))), guard := none },
   { dst := some 4, op := .mov (.t 21), guard := none }] false [] [16, 17, 18, 19, 20, 21]) .ret) (.seq
   (.region 6 [{ dst := some 23, op := .bin .eql .int (.t 5) (.c (.d (.int .u8 116))), guard := none }, { dst := some 22, op := .mov (.t 23), guard := none }] false [] [23])
   (.cond (.t 22) (.seq (.region 7 [{ dst := some 24, op := .mov (.t 1), guard := none }, { dst := some 25, op := .bin .geq .int (.t 24) (.c (.d (.int .i64 0))), guard := none },
   { dst := some 26, op := .mov (.t 25), guard := none }, { dst := some 27, op := .mov (.t 1), guard := some (26, true) },
   { dst := some 28, op := .bin .lss .int (.t 27) (.c (.d (.int .i64 65536))), guard := some (26, true) },
   { dst := some 29, op := .pick (.t 26) (.t 28) (.c (.d (.bool false))), guard := none },
   { dst := some 4, op := .mov (.t 29), guard := none }] false [] [24, 25, 26, 27, 28, 29]) .ret) (.seq
   (.region 8 [{ dst := some 31, op := .bin .eql .int (.t 5) (.c (.d (.int .u8 101))), guard := none }, { dst := some 30, op := .mov (.t 31), guard := none }] false [] [31])
   (.cond (.t 30) (.seq (.region 9 [{ dst := some 32, op := .mov (.t 1), guard := none }, { dst := some 33, op := .bin .geq .int (.t 32) (.c (.d (.int .i64 1))), guard := none },
   { dst := some 34, op := .mov (.t 33), guard := none }, { dst := some 35, op := .mov (.t 1), guard := some (34, true) },
   { dst := some 36, op := .bin .leq .int (.t 35) (.c (.d (.int .i64 23))), guard := some (34, true) },
   { dst := some 37, op := .pick (.t 34) (.t 36) (.c (.d (.bool false))), guard := none },
   { dst := some 4, op := .mov (.t 37), guard := none }] false [] [32, 33, 34, 35, 36, 37]) .ret) (.seq
   (.region 10 [{ dst := some 39, op := .bin .eql .int (.t 5) (.c (.d (.int .u8 111))), guard := none }, { dst := some 38, op := .mov (.t 39), guard := none }] false [] [39])
   (.cond (.t 38) (.seq (.region 11 [{ dst := some 40, op := .mov (.t 1), guard := none }, { dst := some 41, op := .bin .geq .int (.t 40) (.c (.d (.int .i64 8))), guard := none },
   { dst := some 42, op := .mov (.t 41), guard := none }, { dst := some 43, op := .mov (.t 1), guard := some (42, true) },
   { dst := some 44, op := .bin .leq .int (.t 43) (.c (.d (.int .i64 23))), guard := some (42, true) },
   { dst := some 45, op := .pick (.t 42) (.t 44) (.c (.d (.bool false))), guard := none },
   { dst := some 4, op := .mov (.t 45), guard := none }] false [] [40, 41, 42, 43, 44, 45]) .ret) .skip)))))))))))) (.seq
   (.region 12 [{ dst := some 4, op := .mov (.c (.d (.bool true))), guard := none }] false [] []) .ret))), results := [.tmp 4] }
theorem c_isa_fits : cFunc Tryz.prog mvTab 47 (dropOf [(2, [7]), (3, [8, 9, 10, 11, 12, 13]), (4, [15]), (5, [16, 17, 18, 19, 20, 21]), (6, [23]), (7, [24, 25, 26, 27, 28, 29]), (8, [31]), (9, [32, 33, 34, 35, 36, 37]), (10, [39]), (11, [40, 41, 42, 43, 44, 45])]) = some s_isa_fits := by kernel_rfl

-- backstep/asm.take
def s_asm_take_l0 : SCode := (.seq (.region 5 [{ dst := some 22, op := .bin .lss .int (.t 21) (.t 20), guard := none }] false [] []) (.seq (.cond (.t 22) .skip (.exit 0)) (.seq
   (.block 1 (.seq (.region 6 [{ dst := some 23, op := .ia 1 (.t 19) (.t 21), guard := none }, { dst := some 24, op := .ld 1 false (.t 23), guard := none },
   { dst := some 8, op := .mov (.t 24), guard := none }] false [] [23, 24]) (.region 7 [{ dst := some 25, op := .mov (.t 6), guard := none },
   { dst := some 26, op := .bin .shl .int (.t 25) (.c (.d (.int .u64 8))), guard := none }, { dst := some 27, op := .mov (.t 8), guard := none },
   { dst := some 28, op := .cnvI .u64 (.t 27), guard := none }, { dst := some 29, op := .bin .or .int (.t 26) (.t 28), guard := none },
   { dst := some 6, op := .mov (.t 29), guard := none }] false [] [25, 26, 27, 28, 29])))
   (.region 8 [{ dst := some 30, op := .bin .add .int (.t 21) (.c (.d (.int .i64 1))), guard := none }, { dst := some 21, op := .mov (.t 30), guard := none }] false [] [30]))))
def s_asm_take : SFunc := { nparams := 2, ntmps := 40, code := (.seq (.region 0 [{ dst := some 4, op := .mov (.c (.d (.int .i64 0))), guard := none },
   { dst := some 5, op := .mov (.c (.d (.bool false))), guard := none }] false [] []) (.seq (.seq (.region 1 [{ dst := some 9, op := .mov (.t 0), guard := none },
   { dst := some 10, op := .nilc (.t 9), guard := none }, { dst := some 11, op := .ld 1 false (.t 10), guard := none }, { dst := some 12, op := .len .sl (.t 11), guard := none },
   { dst := some 13, op := .mov (.t 1), guard := none }, { dst := some 14, op := .bin .lss .int (.t 12) (.t 13), guard := none }] false [] [9, 10, 11, 12, 13]) (.cond (.t 14) (.seq
   (.region 2 [{ dst := some 4, op := .mov (.c (.d (.int .i64 0))), guard := none },
   { dst := some 5, op := .mov (.c (.d (.bool false))), guard := none }] false [] []) .ret) .skip)) (.seq
   (.region 3 [{ dst := some 6, op := .mov (.c (.d (.int .u64 0))), guard := none }] false [] []) (.seq (.seq (.region 4 [{ dst := some 15, op := .mov (.t 0), guard := none },
   { dst := some 16, op := .nilc (.t 15), guard := none }, { dst := some 17, op := .ld 1 false (.t 16), guard := none }, { dst := some 18, op := .mov (.t 1), guard := none },
   { dst := some 19, op := .slL 1 (.t 17) none (some (.t 18)), guard := none }, { dst := some 20, op := .len .sl (.t 19), guard := none },
   { dst := some 21, op := .mov (.c (.d (.int .i64 0))), guard := none }] false [] [15, 16, 17, 18]) (.block 0 (.loop s_asm_take_l0))) (.seq
   (.region 9 [{ dst := some 31, op := .mov (.t 0), guard := none }, { dst := some 32, op := .mov (.t 0), guard := none }, { dst := some 33, op := .nilc (.t 32), guard := none },
   { dst := some 34, op := .ld 1 false (.t 33), guard := none }, { dst := some 35, op := .mov (.t 1), guard := none },
   { dst := some 36, op := .slL 1 (.t 34) (some (.t 35)) none, guard := none }, { dst := some 37, op := .nilc (.t 31), guard := none },
   { dst := none, op := .st 1 (.t 37) (.t 36), guard := none }] false [] [31, 32, 33, 34, 35, 36, 37]) (.seq (.region 10 [{ dst := some 38, op := .mov (.t 6), guard := none },
   { dst := some 39, op := .cnvI .i64 (.t 38), guard := none }, { dst := some 4, op := .mov (.t 39), guard := none },
   { dst := some 5, op := .mov (.c (.d (.bool true))), guard := none }] false [] [38, 39]) .ret)))))), results := [.tmp 4, .tmp 5] }
theorem c_asm_take : cFunc Tryz.prog mvTab 48 (dropOf [(1, [9, 10, 11, 12, 13]), (4, [15, 16, 17, 18]), (6, [23, 24]), (7, [25, 26, 27, 28, 29]), (8, [30]), (9, [31, 32, 33, 34, 35, 36, 37]), (10, [38, 39])]) = some s_asm_take := by kernel_rfl

-- backstep/backstepref22.take
def s_backstepref22_take_l0 : SCode := (.seq (.seq (.region 3 [{ dst := some 7, op := .mov (.t 6), guard := none }, { dst := some 8, op := .mov (.t 1), guard := none },
   { dst := some 9, op := .bin .lss .int (.t 7) (.t 8), guard := none }] false [] [7, 8]) (.cond (.t 9) .skip (.exit 0))) (.seq (.block 1
   (.region 5 [{ dst := some 12, op := .mov (.t 5), guard := none }, { dst := some 13, op := .bin .shl .int (.t 12) (.c (.d (.int .u64 8))), guard := none },
   { dst := some 14, op := .mov (.t 0), guard := none }, { dst := some 15, op := .mov (.t 6), guard := none }, { dst := some 16, op := .ia 1 (.t 14) (.t 15), guard := none },
   { dst := some 17, op := .ld 1 false (.t 16), guard := none }, { dst := some 18, op := .cnvI .u64 (.t 17), guard := none },
   { dst := some 19, op := .bin .or .int (.t 13) (.t 18), guard := none }, { dst := some 5, op := .mov (.t 19), guard := none }] false [] [12, 13, 14, 15, 16, 17, 18, 19]))
   (.region 4 [{ dst := some 10, op := .mov (.t 6), guard := none }, { dst := some 11, op := .bin .add .int (.t 10) (.c (.d (.int .i64 1))), guard := none },
   { dst := some 6, op := .mov (.t 11), guard := none }] false [] [10, 11])))
def s_backstepref22_take : SFunc := { nparams := 2, ntmps := 22, code := (.seq (.region 0 [{ dst := some 4, op := .mov (.c (.d (.int .i64 0))), guard := none }] false [] []) (.seq
   (.region 1 [{ dst := some 5, op := .mov (.c (.d (.int .u64 0))), guard := none }] false [] []) (.seq (.seq
   (.region 2 [{ dst := some 6, op := .mov (.c (.d (.int .i64 0))), guard := none }] false [] []) (.block 0 (.loop s_backstepref22_take_l0))) (.seq
   (.region 6 [{ dst := some 20, op := .mov (.t 5), guard := none }, { dst := some 21, op := .cnvI .i64 (.t 20), guard := none },
   { dst := some 4, op := .mov (.t 21), guard := none }] false [] [20, 21]) .ret)))), results := [.tmp 4] }
theorem c_backstepref22_take : cFunc Tryz.prog mvTab 49 (dropOf [(3, [7, 8]), (5, [12, 13, 14, 15, 16, 17, 18, 19]), (4, [10, 11]), (6, [20, 21])]) = some s_backstepref22_take := by kernel_rfl

-- backstep/backstepref22.set
def s_backstepref22_set : SFunc := { nparams := 3, ntmps := 36, code := (.seq (.region 0 [{ dst := some 3, op := .box 43 (.t 0), guard := none },
   { dst := some 6, op := .alloc 43 (.d (.agg [.int .u8 0, .int .i64 0, .int .i64 0, .int .i64 0, .int .i64 0])), guard := none }] false [] []) (.seq
   (.region 1 [{ dst := some 8, op := .fa (.t 3) 1 1, guard := none }, { dst := some 9, op := .ld 1 false (.t 8), guard := none },
   { dst := some 10, op := .fa (.t 3) 2 2, guard := none }, { dst := some 11, op := .ld 1 false (.t 10), guard := none }, { dst := some 12, op := .fa (.t 3) 3 3, guard := none },
   { dst := some 13, op := .ld 1 false (.t 12), guard := none }, { dst := some 14, op := .fa (.t 3) 4 4, guard := none },
   { dst := some 15, op := .ld 1 false (.t 14), guard := none }, { dst := some 16, op := .bsl 3 1 4 [.t 9, .t 11, .t 13, .t 15], guard := none },
   { dst := some 7, op := .mov (.t 16), guard := none }] false [] [8, 9, 10, 11, 12, 13, 14, 15, 16]) (.seq (.region 2 [{ dst := some 17, op := .mov (.t 7), guard := none },
   { dst := some 18, op := .mov (.t 1), guard := none }, { dst := some 19, op := .mov (.t 2), guard := none }, { dst := some 20, op := .ia 1 (.t 17) (.t 18), guard := none },
   { dst := none, op := .st 1 (.t 20) (.t 19), guard := none }] false [] [17, 18, 19, 20]) (.seq (.region 3 [{ dst := some 21, op := .fa (.t 3) 0 0, guard := none },
   { dst := some 22, op := .ld 1 false (.t 21), guard := none }, { dst := some 23, op := .mov (.t 7), guard := none },
   { dst := some 24, op := .ia 1 (.t 23) (.c (.d (.int .i64 0))), guard := none }, { dst := some 25, op := .ld 1 false (.t 24), guard := none },
   { dst := some 26, op := .mov (.t 7), guard := none }, { dst := some 27, op := .ia 1 (.t 26) (.c (.d (.int .i64 1))), guard := none },
   { dst := some 28, op := .ld 1 false (.t 27), guard := none }, { dst := some 29, op := .mov (.t 7), guard := none },
   { dst := some 30, op := .ia 1 (.t 29) (.c (.d (.int .i64 2))), guard := none }, { dst := some 31, op := .ld 1 false (.t 30), guard := none },
   { dst := some 32, op := .mov (.t 7), guard := none }, { dst := some 33, op := .ia 1 (.t 32) (.c (.d (.int .i64 3))), guard := none },
   { dst := some 34, op := .ld 1 false (.t 33), guard := none },
   { dst := some 35, op := .build [.d (.int .u8 0), .d (.int .i64 0), .d (.int .i64 0), .d (.int .i64 0), .d (.int .i64 0)] [(0, .t 22), (1, .t 25), (2, .t 28), (3, .t 31), (4, .t 34)], guard := none },
   { dst := none, op := .st 5 (.t 6) (.t 35), guard := none }] true [] [21, 22, 23, 24, 25, 26, 27, 28, 29, 30, 31, 32, 33, 34, 35]) .ret)))), results := [.cell 6 5 true] }
theorem c_backstepref22_set : cFunc Tryz.prog mvTab 50 (dropOf [(1, [8, 9, 10, 11, 12, 13, 14, 15, 16]), (2, [17, 18, 19, 20]), (3, [21, 22, 23, 24, 25, 26, 27, 28, 29, 30, 31, 32, 33, 34, 35])]) = some s_backstepref22_set := by kernel_rfl

-- backstep/backstepref21.Valid
def s_backstepref21_Valid_l0 : SCode := (.seq (.seq (.region 5 [{ dst := some 14, op := .mov (.t 5), guard := none },
   { dst := some 15, op := .bin .lss .int (.t 14) (.c (.d (.int .i64 4))), guard := none }] false [] [14]) (.cond (.t 15) .skip (.exit 0))) (.seq (.block 1 (.seq (.seq
   (.region 7 [{ dst := some 18, op := .mov (.t 5), guard := none }, { dst := some 19, op := .mov (.t 3), guard := none },
   { dst := some 20, op := .len .str (.t 19), guard := none }, { dst := some 21, op := .bin .lss .int (.t 18) (.t 20), guard := none },
   { dst := some 22, op := .mov (.t 21), guard := none }, { dst := some 23, op := .mov (.t 3), guard := some (22, true) },
   { dst := some 24, op := .mov (.t 5), guard := some (22, true) }, { dst := some 25, op := .ixS (.t 23) (.t 24), guard := some (22, true) },
   { dst := some 26, op := .ld 5 true (.t 1), guard := some (22, true) }, { dst := some 27, op := .mov (.t 5), guard := some (22, true) },
   { dst := some 28, op := .call 63 [.t 26, .t 27], guard := some (22, true) }, { dst := some 29, op := .call 62 [.t 25, .t 28], guard := some (22, true) },
   { dst := some 30, op := .un .not (.t 29), guard := some (22, true) },
   { dst := some 31, op := .pick (.t 22) (.t 30) (.c (.d (.bool false))), guard := none }] true [(5, 10), (6, 10), (7, 10)] [18, 19, 20, 21, 22, 23, 24, 25, 26, 27, 28, 29, 30])
   (.cond (.t 31) (.seq (.region 8 [{ dst := some 2, op := .mov (.c (.d (.bool false))), guard := none }] false [] []) .ret) .skip)) (.seq
   (.region 9 [{ dst := some 32, op := .mov (.t 5), guard := none }, { dst := some 33, op := .mov (.t 3), guard := none },
   { dst := some 34, op := .len .str (.t 33), guard := none }, { dst := some 35, op := .bin .geq .int (.t 32) (.t 34), guard := none },
   { dst := some 36, op := .mov (.t 35), guard := none }, { dst := some 37, op := .ld 5 true (.t 1), guard := some (36, true) },
   { dst := some 38, op := .mov (.t 5), guard := some (36, true) }, { dst := some 39, op := .call 63 [.t 37, .t 38], guard := some (36, true) },
   { dst := some 40, op := .bin .neq .int (.t 39) (.c (.d (.int .i64 0))), guard := some (36, true) },
   { dst := some 41, op := .pick (.t 36) (.t 40) (.c (.d (.bool false))), guard := none }] false [] [32, 33, 34, 35, 36, 37, 38, 39, 40]) (.cond (.t 41) (.seq
   (.region 10 [{ dst := some 2, op := .mov (.c (.d (.bool false))), guard := none }] false [] []) .ret) .skip)))) (.region 6 [{ dst := some 16, op := .mov (.t 5), guard := none },
   { dst := some 17, op := .bin .add .int (.t 16) (.c (.d (.int .i64 1))), guard := none }, { dst := some 5, op := .mov (.t 17), guard := none }] false [] [16, 17])))
def s_backstepref21_Valid : SFunc := { nparams := 1, ntmps := 68, code := (.seq (.region 0 [{ dst := some 1, op := .box 43 (.t 0), guard := none },
   { dst := some 2, op := .mov (.c (.d (.bool false))), guard := none }] false [] []) (.seq (.region 1 [{ dst := some 7, op := .fa (.t 1) 0 0, guard := none },
   { dst := some 8, op := .ld 1 false (.t 7), guard := none }, { dst := some 9, op := .call 61 [.t 8], guard := none }, { dst := some 6, op := .mov (.t 9), guard := none },
   { dst := some 10, op := .ext (.t 6) 0, guard := none }, { dst := some 11, op := .ext (.t 6) 1, guard := none }, { dst := some 3, op := .mov (.t 10), guard := none },
   { dst := some 4, op := .mov (.t 11), guard := none }] false [] [7, 8, 9, 6, 10, 11]) (.seq (.seq (.region 2 [{ dst := some 12, op := .mov (.t 4), guard := none },
   { dst := some 13, op := .un .not (.t 12), guard := none }] false [] [12]) (.cond (.t 13) (.seq
   (.region 3 [{ dst := some 2, op := .mov (.c (.d (.bool false))), guard := none }] false [] []) .ret) .skip)) (.seq (.seq
   (.region 4 [{ dst := some 5, op := .mov (.c (.d (.int .i64 0))), guard := none }] false [] []) (.block 0 (.loop s_backstepref21_Valid_l0))) (.seq (.seq
   (.region 11 [{ dst := some 42, op := .fa (.t 1) 0 0, guard := none }, { dst := some 43, op := .ld 1 false (.t 42), guard := none }] false [] [42]) (.block 2 (.seq (.seq
   (.region 12 [{ dst := some 45, op := .bin .eql .int (.t 43) (.c (.d (.int .u8 1))), guard := none }, { dst := some 44, op := .mov (.t 45), guard := none }] false [] [45])
   (.cond (.t 44) .skip (.seq (.region 13 [{ dst := some 46, op := .bin .eql .int (.t 43) (.c (.d (.int .u8 2))), guard := none },
   { dst := some 44, op := .mov (.t 46), guard := none }] false [] [46]) (.cond (.t 44) .skip (.seq
   (.region 14 [{ dst := some 47, op := .bin .eql .int (.t 43) (.c (.d (.int .u8 3))), guard := none }, { dst := some 44, op := .mov (.t 47), guard := none }] false [] [47])
   (.cond (.t 44) .skip (.region 15 [{ dst := some 48, op := .bin .eql .int (.t 43) (.c (.d (.int .u8 11))), guard := none },
   { dst := some 44, op := .mov (.t 48), guard := none }] false [] [48]))))))) (.cond (.t 44) (.seq (.region 16 [{ dst := some 49, op := .fa (.t 1) 1 1, guard := none },
   { dst := some 50, op := .ld 1 false (.t 49), guard := none }, { dst := some 51, op := .fa (.t 1) 2 2, guard := none },
   { dst := some 52, op := .ld 1 false (.t 51), guard := none }, { dst := some 53, op := .bin .neq .int (.t 50) (.t 52), guard := none },
   { dst := some 2, op := .mov (.t 53), guard := none }] false [] [49, 50, 51, 52, 53]) .ret) (.seq
   (.region 17 [{ dst := some 55, op := .bin .eql .int (.t 43) (.c (.d (.int .u8 9))), guard := none }, { dst := some 54, op := .mov (.t 55), guard := none }] false [] [55])
   (.cond (.t 54) (.seq (.region 18 [{ dst := some 56, op := .fa (.t 1) 1 1, guard := none }, { dst := some 57, op := .ld 1 false (.t 56), guard := none },
   { dst := some 58, op := .fa (.t 1) 2 2, guard := none }, { dst := some 59, op := .ld 1 false (.t 58), guard := none },
   { dst := some 60, op := .bin .neq .int (.t 57) (.t 59), guard := none }, { dst := some 61, op := .mov (.t 60), guard := none },
   { dst := some 62, op := .fa (.t 1) 1 1, guard := some (61, true) }, { dst := some 63, op := .ld 1 false (.t 62), guard := some (61, true) },
   { dst := some 64, op := .fa (.t 1) 3 3, guard := some (61, true) }, { dst := some 65, op := .ld 1 false (.t 64), guard := some (61, true) },
   { dst := some 66, op := .bin .neq .int (.t 63) (.t 65), guard := some (61, true) }, { dst := some 67, op := .pick (.t 61) (.t 66) (.c (.d (.bool false))), guard := none },
   { dst := some 2, op := .mov (.t 67), guard := none }] false [] [56, 57, 58, 59, 60, 61, 62, 63, 64, 65, 66, 67]) .ret) .skip)))))) (.seq
   (.region 19 [{ dst := some 2, op := .mov (.c (.d (.bool true))), guard := none }] false [] []) .ret)))))), results := [.tmp 2] }
theorem c_backstepref21_Valid : cFunc Tryz.prog mvTab 51 (dropOf [(1, [7, 8, 9, 6, 10, 11]), (2, [12]), (5, [14]), (7, [18, 19, 20, 21, 22, 23, 24, 25, 26, 27, 28, 29, 30]), (9, [32, 33, 34, 35, 36, 37, 38, 39, 40]), (6, [16, 17]), (11, [42]), (12, [45]), (13, [46]), (14, [47]), (15, [48]), (16, [49, 50, 51, 52, 53]), (17, [55]), (18, [56, 57, 58, 59, 60, 61, 62, 63, 64, 65, 66, 67])]) = some s_backstepref21_Valid := by kernel_rfl

-- backstep/asm.writers
def s_asm_writers : SFunc := { nparams := 0, ntmps := 3, code := (.seq (.region 0 [{ dst := some 0, op := .mov (.c (.d .nilmap)), guard := none }] false [] []) (.seq
   (.region 1 [{ dst := some 1, op := .mkm, guard := none }, { dst := none, op := .mu .int (.t 1) (.c (.d (.int .u8 114))) (.c (.d (.fn 65))), guard := none },
   { dst := none, op := .mu .int (.t 1) (.c (.d (.int .u8 111))) (.c (.d (.fn 67))), guard := none },
   { dst := none, op := .mu .int (.t 1) (.c (.d (.int .u8 107))) (.c (.d (.fn 66))), guard := none },
   { dst := none, op := .mu .int (.t 1) (.c (.d (.int .u8 110))) (.c (.d (.fn 66))), guard := none },
   { dst := none, op := .mu .int (.t 1) (.c (.d (.int .u8 116))) (.c (.d (.fn 66))), guard := none },
   { dst := none, op := .mu .int (.t 1) (.c (.d (.int .u8 101))) (.c (.d (.fn 66))), guard := none }, { dst := some 2, op := .mov (.t 1), guard := none },
   { dst := some 0, op := .mov (.t 2), guard := none }] false [] [1, 2]) .ret)), results := [.tmp 0] }
theorem c_asm_writers : cFunc Tryz.prog mvTab 53 (dropOf [(1, [1, 2])]) = some s_asm_writers := by kernel_rfl

end Go.Ev.S
