
import Derived.Test.YtmldgbfnjfkneaaDoorKC
import Derived.Test.YtmldgbfnjfkneaaDoorProg
import Derived.KernelRfl
set_option linter.all false
namespace Go.Ev.S
open Go.Proofs

-- backstep/backsteplaw51.ScriptBack
def s_backsteplaw51_ScriptBack : SFunc := { nparams := 1, ntmps := 42, code := (.seq (.region 0 [{ dst := some 2, op := .mov (.c (.d (.bool false))), guard := none }] false [] [])
   (.seq (.seq (.region 1 [{ dst := some 8, op := .call 9 [], guard := none }, { dst := some 9, op := .un .not (.t 8), guard := none }] false [] [8]) (.cond (.t 9) (.seq
   (.region 2 [{ dst := some 2, op := .mov (.c (.d (.bool false))), guard := none }] false [] []) .ret) .skip)) (.seq (.seq
   (.region 3 [{ dst := some 10, op := .mov (.t 0), guard := none }, { dst := some 11, op := .call 10 [.t 10], guard := none }] false [] [10]) (.cond (.t 11) (.seq
   (.region 4 [{ dst := some 2, op := .mov (.c (.d (.bool true))), guard := none }] false [] []) .ret) .skip)) (.seq
   (.region 5 [{ dst := some 13, op := .mov (.t 0), guard := none }, { dst := some 14, op := .call 12 [.t 13], guard := none },
   { dst := some 15, op := .call 11 [.t 14], guard := none }, { dst := some 12, op := .mov (.t 15), guard := none }, { dst := some 16, op := .ext (.t 12) 0, guard := none },
   { dst := some 17, op := .ext (.t 12) 1, guard := none }, { dst := some 3, op := .mov (.t 16), guard := none },
   { dst := some 4, op := .mov (.t 17), guard := none }] false [] [13, 14, 15, 12, 16, 17]) (.seq (.seq (.region 6 [{ dst := some 18, op := .mov (.t 4), guard := none },
   { dst := some 19, op := .bin .neq .int (.t 18) (.c (.d (.int .i64 0))), guard := none }] false [] [18]) (.cond (.t 19) (.seq
   (.region 7 [{ dst := some 20, op := .mov (.t 0), guard := none }, { dst := some 21, op := .call 12 [.t 20], guard := none },
   { dst := some 22, op := .call 13 [.t 21], guard := none }, { dst := some 23, op := .un .not (.t 22), guard := none },
   { dst := some 2, op := .mov (.t 23), guard := none }] false [] [20, 21, 22, 23]) .ret) .skip)) (.seq (.region 8 [{ dst := some 25, op := .mov (.t 3), guard := none },
   { dst := some 26, op := .call 14 [.t 25], guard := none }, { dst := some 24, op := .mov (.t 26), guard := none }, { dst := some 27, op := .ext (.t 24) 0, guard := none },
   { dst := some 28, op := .ext (.t 24) 1, guard := none }, { dst := some 29, op := .ext (.t 24) 2, guard := none }, { dst := some 5, op := .mov (.t 27), guard := none },
   { dst := some 6, op := .mov (.t 28), guard := none }, { dst := some 7, op := .mov (.t 29), guard := none }] false [] [25, 26, 24, 27, 28, 29]) (.seq
   (.region 9 [{ dst := some 30, op := .mov (.t 7), guard := none }, { dst := some 31, op := .bin .eql .int (.t 30) (.c (.d (.int .i64 0))), guard := none },
   { dst := some 32, op := .mov (.t 31), guard := none }, { dst := some 33, op := .mov (.t 6), guard := some (32, true) },
   { dst := some 34, op := .bin .eql .int (.t 33) (.c (.d (.int .i64 0))), guard := some (32, true) },
   { dst := some 35, op := .pick (.t 32) (.t 34) (.c (.d (.bool false))), guard := none }, { dst := some 36, op := .mov (.t 35), guard := none },
   { dst := some 37, op := .mov (.t 5), guard := some (36, true) }, { dst := some 38, op := .call 16 [.t 37], guard := some (36, true) },
   { dst := some 39, op := .mov (.t 0), guard := some (36, true) }, { dst := some 40, op := .call 15 [.t 38, .t 39], guard := some (36, true) },
   { dst := some 41, op := .pick (.t 36) (.t 40) (.c (.d (.bool false))), guard := none },
   { dst := some 2, op := .mov (.t 41), guard := none }] false [] [30, 31, 32, 33, 34, 35, 36, 37, 38, 39, 40, 41]) .ret))))))), results := [.tmp 2] }
theorem c_backsteplaw51_ScriptBack : cFunc Tryd.prog 3 (dropOf [(1, [8]), (3, [10]), (5, [13, 14, 15, 12, 16, 17]), (6, [18]), (7, [20, 21, 22, 23]), (8, [25, 26, 24, 27, 28, 29]), (9, [30, 31, 32, 33, 34, 35, 36, 37, 38, 39, 40, 41])]) = some s_backsteplaw51_ScriptBack := by kernel_rfl

-- backstep/backsteplaw51.ScriptOne
def s_backsteplaw51_ScriptOne : SFunc := { nparams := 1, ntmps := 48, code := (.seq (.region 0 [{ dst := some 2, op := .mov (.c (.d (.bool false))), guard := none }] false [] [])
   (.seq (.seq (.region 1 [{ dst := some 8, op := .call 9 [], guard := none }, { dst := some 9, op := .un .not (.t 8), guard := none }] false [] [8]) (.cond (.t 9) (.seq
   (.region 2 [{ dst := some 2, op := .mov (.c (.d (.bool false))), guard := none }] false [] []) .ret) .skip)) (.seq (.seq
   (.region 3 [{ dst := some 10, op := .mov (.t 0), guard := none }, { dst := some 11, op := .len .str (.t 10), guard := none },
   { dst := some 12, op := .bin .gtr .int (.t 11) (.c (.d (.int .i64 20000))), guard := none }] false [] [10, 11]) (.cond (.t 12) (.seq
   (.region 4 [{ dst := some 2, op := .mov (.c (.d (.bool true))), guard := none }] false [] []) .ret) .skip)) (.seq
   (.region 5 [{ dst := some 14, op := .mov (.t 0), guard := none }, { dst := some 15, op := .call 14 [.t 14], guard := none },
   { dst := some 13, op := .mov (.t 15), guard := none }, { dst := some 16, op := .ext (.t 13) 0, guard := none }, { dst := some 17, op := .ext (.t 13) 1, guard := none },
   { dst := some 18, op := .ext (.t 13) 2, guard := none }, { dst := some 3, op := .mov (.t 16), guard := none }, { dst := some 4, op := .mov (.t 17), guard := none },
   { dst := some 5, op := .mov (.t 18), guard := none }] false [] [14, 15, 13, 16, 17, 18]) (.seq (.seq (.region 6 [{ dst := some 19, op := .mov (.t 5), guard := none },
   { dst := some 20, op := .bin .neq .int (.t 19) (.c (.d (.int .i64 0))), guard := none }] false [] [19]) (.cond (.t 20) (.seq
   (.region 7 [{ dst := some 21, op := .mov (.t 3), guard := none }, { dst := some 22, op := .len .sl (.t 21), guard := none },
   { dst := some 23, op := .bin .eql .int (.t 22) (.c (.d (.int .i64 0))), guard := none }, { dst := some 24, op := .mov (.t 23), guard := none },
   { dst := some 25, op := .mov (.t 4), guard := some (24, true) }, { dst := some 26, op := .bin .gtr .int (.t 25) (.c (.d (.int .i64 0))), guard := some (24, true) },
   { dst := some 27, op := .pick (.t 24) (.t 26) (.c (.d (.bool false))), guard := none },
   { dst := some 2, op := .mov (.t 27), guard := none }] false [] [21, 22, 23, 24, 25, 26, 27]) .ret) .skip)) (.seq
   (.region 8 [{ dst := some 29, op := .mov (.t 3), guard := none }, { dst := some 30, op := .call 11 [.t 29], guard := none },
   { dst := some 28, op := .mov (.t 30), guard := none }, { dst := some 31, op := .ext (.t 28) 0, guard := none }, { dst := some 32, op := .ext (.t 28) 1, guard := none },
   { dst := some 6, op := .mov (.t 31), guard := none }, { dst := some 7, op := .mov (.t 32), guard := none }] false [] [29, 30, 28, 31, 32]) (.seq
   (.region 9 [{ dst := some 33, op := .mov (.t 4), guard := none }, { dst := some 34, op := .bin .eql .int (.t 33) (.c (.d (.int .i64 0))), guard := none },
   { dst := some 35, op := .mov (.t 34), guard := none }, { dst := some 36, op := .mov (.t 3), guard := some (35, true) },
   { dst := some 37, op := .call 13 [.t 36], guard := some (35, true) }, { dst := some 38, op := .pick (.t 35) (.t 37) (.c (.d (.bool false))), guard := none },
   { dst := some 39, op := .mov (.t 38), guard := none }, { dst := some 40, op := .mov (.t 7), guard := some (39, true) },
   { dst := some 41, op := .bin .eql .int (.t 40) (.c (.d (.int .i64 0))), guard := some (39, true) },
   { dst := some 42, op := .pick (.t 39) (.t 41) (.c (.d (.bool false))), guard := none }, { dst := some 43, op := .mov (.t 42), guard := none },
   { dst := some 44, op := .mov (.t 6), guard := some (43, true) }, { dst := some 45, op := .mov (.t 0), guard := some (43, true) },
   { dst := some 46, op := .bin .eql .str (.t 44) (.t 45), guard := some (43, true) }, { dst := some 47, op := .pick (.t 43) (.t 46) (.c (.d (.bool false))), guard := none },
   { dst := some 2, op := .mov (.t 47), guard := none }] false [] [33, 34, 35, 36, 37, 38, 39, 40, 41, 42, 43, 44, 45, 46, 47]) .ret))))))), results := [.tmp 2] }
theorem c_backsteplaw51_ScriptOne : cFunc Tryd.prog 4 (dropOf [(1, [8]), (3, [10, 11]), (5, [14, 15, 13, 16, 17, 18]), (6, [19]), (7, [21, 22, 23, 24, 25, 26, 27]), (8, [29, 30, 28, 31, 32]), (9, [33, 34, 35, 36, 37, 38, 39, 40, 41, 42, 43, 44, 45, 46, 47])]) = some s_backsteplaw51_ScriptOne := by kernel_rfl

-- backstep/backsteplaw51.ScriptJoins
def s_backsteplaw51_ScriptJoins : SFunc := { nparams := 2, ntmps := 93, code := (.seq (.region 0 [{ dst := some 4, op := .mov (.c (.d (.bool false))), guard := none }] false [] [])
   (.seq (.seq (.region 1 [{ dst := some 15, op := .call 9 [], guard := none }, { dst := some 16, op := .un .not (.t 15), guard := none }] false [] [15]) (.cond (.t 16) (.seq
   (.region 2 [{ dst := some 4, op := .mov (.c (.d (.bool false))), guard := none }] false [] []) .ret) .skip)) (.seq (.seq
   (.region 3 [{ dst := some 17, op := .mov (.t 0), guard := none }, { dst := some 18, op := .call 10 [.t 17], guard := none },
   { dst := some 19, op := .mov (.t 18), guard := none }, { dst := some 20, op := .mov (.t 1), guard := some (19, false) },
   { dst := some 21, op := .call 10 [.t 20], guard := some (19, false) }, { dst := some 22, op := .pick (.t 19) (.c (.d (.bool true))) (.t 21), guard := none },
   { dst := some 23, op := .mov (.t 22), guard := none }, { dst := some 24, op := .mov (.t 0), guard := some (23, false) },
   { dst := some 25, op := .len .sl (.t 24), guard := some (23, false) }, { dst := some 26, op := .bin .gtr .int (.t 25) (.c (.d (.int .i64 400))), guard := some (23, false) },
   { dst := some 27, op := .pick (.t 23) (.c (.d (.bool true))) (.t 26), guard := none }, { dst := some 28, op := .mov (.t 27), guard := none },
   { dst := some 29, op := .mov (.t 1), guard := some (28, false) }, { dst := some 30, op := .len .sl (.t 29), guard := some (28, false) },
   { dst := some 31, op := .bin .gtr .int (.t 30) (.c (.d (.int .i64 400))), guard := some (28, false) },
   { dst := some 32, op := .pick (.t 28) (.c (.d (.bool true))) (.t 31), guard := none }] false [] [17, 18, 19, 20, 21, 22, 23, 24, 25, 26, 27, 28, 29, 30, 31]) (.cond (.t 32)
   (.seq (.region 4 [{ dst := some 4, op := .mov (.c (.d (.bool true))), guard := none }] false [] []) .ret) .skip)) (.seq
   (.region 5 [{ dst := some 34, op := .mov (.t 0), guard := none }, { dst := some 35, op := .call 12 [.t 34], guard := none },
   { dst := some 36, op := .call 11 [.t 35], guard := none }, { dst := some 33, op := .mov (.t 36), guard := none }, { dst := some 37, op := .ext (.t 33) 0, guard := none },
   { dst := some 38, op := .ext (.t 33) 1, guard := none }, { dst := some 5, op := .mov (.t 37), guard := none },
   { dst := some 6, op := .mov (.t 38), guard := none }] false [] [34, 35, 36, 33, 37, 38]) (.seq (.region 6 [{ dst := some 40, op := .mov (.t 1), guard := none },
   { dst := some 41, op := .call 12 [.t 40], guard := none }, { dst := some 42, op := .call 11 [.t 41], guard := none }, { dst := some 39, op := .mov (.t 42), guard := none },
   { dst := some 43, op := .ext (.t 39) 0, guard := none }, { dst := some 44, op := .ext (.t 39) 1, guard := none }, { dst := some 7, op := .mov (.t 43), guard := none },
   { dst := some 8, op := .mov (.t 44), guard := none }] false [] [40, 41, 42, 39, 43, 44]) (.seq (.seq (.region 7 [{ dst := some 45, op := .mov (.t 6), guard := none },
   { dst := some 46, op := .bin .neq .int (.t 45) (.c (.d (.int .i64 0))), guard := none }, { dst := some 47, op := .mov (.t 46), guard := none },
   { dst := some 48, op := .mov (.t 8), guard := some (47, false) }, { dst := some 49, op := .bin .neq .int (.t 48) (.c (.d (.int .i64 0))), guard := some (47, false) },
   { dst := some 50, op := .pick (.t 47) (.c (.d (.bool true))) (.t 49), guard := none }] false [] [45, 46, 47, 48, 49]) (.cond (.t 50) (.seq
   (.region 8 [{ dst := some 4, op := .mov (.c (.d (.bool true))), guard := none }] false [] []) .ret) .skip)) (.seq
   (.region 9 [{ dst := some 51, op := .bsl 42 4 0 [], guard := none }, { dst := some 52, op := .mov (.t 0), guard := none },
   { dst := some 53, op := .app 42 4 64 (.t 51) (.t 52), guard := none }, { dst := some 54, op := .mov (.t 1), guard := none },
   { dst := some 55, op := .app 42 4 64 (.t 53) (.t 54), guard := none }, { dst := some 9, op := .mov (.t 55), guard := none }] false [] [51, 52, 53, 54, 55]) (.seq
   (.region 10 [{ dst := some 57, op := .mov (.t 9), guard := none }, { dst := some 58, op := .call 12 [.t 57], guard := none },
   { dst := some 59, op := .call 11 [.t 58], guard := none }, { dst := some 56, op := .mov (.t 59), guard := none }, { dst := some 60, op := .ext (.t 56) 0, guard := none },
   { dst := some 61, op := .ext (.t 56) 1, guard := none }, { dst := some 10, op := .mov (.t 60), guard := none },
   { dst := some 11, op := .mov (.t 61), guard := none }] false [] [57, 58, 59, 56, 60, 61]) (.seq (.region 11 [{ dst := some 63, op := .mov (.t 5), guard := none },
   { dst := some 64, op := .mov (.t 7), guard := none }, { dst := some 65, op := .bin .add .str (.t 63) (.t 64), guard := none },
   { dst := some 66, op := .call 14 [.t 65], guard := none }, { dst := some 62, op := .mov (.t 66), guard := none }, { dst := some 67, op := .ext (.t 62) 0, guard := none },
   { dst := some 68, op := .ext (.t 62) 1, guard := none }, { dst := some 69, op := .ext (.t 62) 2, guard := none }, { dst := some 12, op := .mov (.t 67), guard := none },
   { dst := some 13, op := .mov (.t 68), guard := none }, { dst := some 14, op := .mov (.t 69), guard := none }] false [] [63, 64, 65, 66, 62, 67, 68, 69]) (.seq
   (.region 12 [{ dst := some 70, op := .mov (.t 11), guard := none }, { dst := some 71, op := .bin .eql .int (.t 70) (.c (.d (.int .i64 0))), guard := none },
   { dst := some 72, op := .mov (.t 71), guard := none }, { dst := some 73, op := .mov (.t 10), guard := some (72, true) },
   { dst := some 74, op := .mov (.t 5), guard := some (72, true) }, { dst := some 75, op := .mov (.t 7), guard := some (72, true) },
   { dst := some 76, op := .bin .add .str (.t 74) (.t 75), guard := some (72, true) }, { dst := some 77, op := .bin .eql .str (.t 73) (.t 76), guard := some (72, true) },
   { dst := some 78, op := .pick (.t 72) (.t 77) (.c (.d (.bool false))), guard := none }, { dst := some 79, op := .mov (.t 78), guard := none },
   { dst := some 80, op := .mov (.t 14), guard := some (79, true) }, { dst := some 81, op := .bin .eql .int (.t 80) (.c (.d (.int .i64 0))), guard := some (79, true) },
   { dst := some 82, op := .pick (.t 79) (.t 81) (.c (.d (.bool false))), guard := none }, { dst := some 83, op := .mov (.t 82), guard := none },
   { dst := some 84, op := .mov (.t 13), guard := some (83, true) }, { dst := some 85, op := .bin .eql .int (.t 84) (.c (.d (.int .i64 0))), guard := some (83, true) },
   { dst := some 86, op := .pick (.t 83) (.t 85) (.c (.d (.bool false))), guard := none }, { dst := some 87, op := .mov (.t 86), guard := none },
   { dst := some 88, op := .mov (.t 12), guard := some (87, true) }, { dst := some 89, op := .call 16 [.t 88], guard := some (87, true) },
   { dst := some 90, op := .mov (.t 9), guard := some (87, true) }, { dst := some 91, op := .call 15 [.t 89, .t 90], guard := some (87, true) },
   { dst := some 92, op := .pick (.t 87) (.t 91) (.c (.d (.bool false))), guard := none },
   { dst := some 4, op := .mov (.t 92), guard := none }] false [] [70, 71, 72, 73, 74, 75, 76, 77, 78, 79, 80, 81, 82, 83, 84, 85, 86, 87, 88, 89, 90, 91, 92]) .ret)))))))))), results := [.tmp 4] }
theorem c_backsteplaw51_ScriptJoins : cFunc Tryd.prog 5 (dropOf [(1, [15]), (3, [17, 18, 19, 20, 21, 22, 23, 24, 25, 26, 27, 28, 29, 30, 31]), (5, [34, 35, 36, 33, 37, 38]), (6, [40, 41, 42, 39, 43, 44]), (7, [45, 46, 47, 48, 49]), (9, [51, 52, 53, 54, 55]), (10, [57, 58, 59, 56, 60, 61]), (11, [63, 64, 65, 66, 62, 67, 68, 69]), (12, [70, 71, 72, 73, 74, 75, 76, 77, 78, 79, 80, 81, 82, 83, 84, 85, 86, 87, 88, 89, 90, 91, 92])]) = some s_backsteplaw51_ScriptJoins := by kernel_rfl

-- backstep/backsteplaw51.ScriptLines
def s_backsteplaw51_ScriptLines_l0 : SCode := (.seq (.region 10 [{ dst := some 37, op := .nxtS (.t 36), guard := none },
   { dst := some 38, op := .ext (.t 37) 0, guard := none }] false [] []) (.seq (.cond (.t 38) .skip (.exit 0)) (.block 1 (.seq
   (.region 11 [{ dst := some 39, op := .ext (.t 37) 1, guard := none }, { dst := some 8, op := .mov (.t 39), guard := none }] false [] [39]) (.seq
   (.region 12 [{ dst := some 40, op := .mov (.t 5), guard := none }, { dst := some 41, op := .mov (.t 8), guard := none },
   { dst := some 42, op := .ixS (.t 40) (.t 41), guard := none }, { dst := some 43, op := .bin .eql .int (.t 42) (.c (.d (.int .u8 10))), guard := none }] false [] [40, 41, 42])
   (.cond (.t 43) (.region 13 [{ dst := some 44, op := .mov (.t 7), guard := none }, { dst := some 45, op := .bin .add .int (.t 44) (.c (.d (.int .i64 1))), guard := none },
   { dst := some 7, op := .mov (.t 45), guard := none }] false [] [44, 45]) .skip))))))
def s_backsteplaw51_ScriptLines : SFunc := { nparams := 2, ntmps := 99, code := (.seq (.region 0 [{ dst := some 4, op := .mov (.c (.d (.bool false))), guard := none }] false [] [])
   (.seq (.seq (.region 1 [{ dst := some 18, op := .call 9 [], guard := none }, { dst := some 19, op := .un .not (.t 18), guard := none }] false [] [18]) (.cond (.t 19) (.seq
   (.region 2 [{ dst := some 4, op := .mov (.c (.d (.bool false))), guard := none }] false [] []) .ret) .skip)) (.seq (.seq
   (.region 3 [{ dst := some 20, op := .mov (.t 0), guard := none }, { dst := some 21, op := .call 10 [.t 20], guard := none },
   { dst := some 22, op := .mov (.t 21), guard := none }, { dst := some 23, op := .mov (.t 0), guard := some (22, false) },
   { dst := some 24, op := .len .sl (.t 23), guard := some (22, false) }, { dst := some 25, op := .bin .gtr .int (.t 24) (.c (.d (.int .i64 400))), guard := some (22, false) },
   { dst := some 26, op := .pick (.t 22) (.c (.d (.bool true))) (.t 25), guard := none }] false [] [20, 21, 22, 23, 24, 25]) (.cond (.t 26) (.seq
   (.region 4 [{ dst := some 4, op := .mov (.c (.d (.bool true))), guard := none }] false [] []) .ret) .skip)) (.seq
   (.region 5 [{ dst := some 28, op := .mov (.t 0), guard := none }, { dst := some 29, op := .call 12 [.t 28], guard := none },
   { dst := some 30, op := .call 11 [.t 29], guard := none }, { dst := some 27, op := .mov (.t 30), guard := none }, { dst := some 31, op := .ext (.t 27) 0, guard := none },
   { dst := some 32, op := .ext (.t 27) 1, guard := none }, { dst := some 5, op := .mov (.t 31), guard := none },
   { dst := some 6, op := .mov (.t 32), guard := none }] false [] [28, 29, 30, 27, 31, 32]) (.seq (.seq (.region 6 [{ dst := some 33, op := .mov (.t 6), guard := none },
   { dst := some 34, op := .bin .neq .int (.t 33) (.c (.d (.int .i64 0))), guard := none }] false [] [33]) (.cond (.t 34) (.seq
   (.region 7 [{ dst := some 4, op := .mov (.c (.d (.bool true))), guard := none }] false [] []) .ret) .skip)) (.seq
   (.region 8 [{ dst := some 7, op := .mov (.c (.d (.int .i64 1))), guard := none }] false [] []) (.seq (.seq (.region 9 [{ dst := some 35, op := .mov (.t 5), guard := none },
   { dst := some 36, op := .rngS (.t 35), guard := none }] false [] [35]) (.block 0 (.loop s_backsteplaw51_ScriptLines_l0))) (.seq
   (.region 14 [{ dst := some 47, op := .mov (.t 5), guard := none }, { dst := some 48, op := .bin .add .str (.t 47) (.c (.d (.str [104, 97, 108, 116, 10]))), guard := none },
   { dst := some 49, op := .call 14 [.t 48], guard := none }, { dst := some 46, op := .mov (.t 49), guard := none }, { dst := some 50, op := .ext (.t 46) 0, guard := none },
   { dst := some 51, op := .ext (.t 46) 1, guard := none }, { dst := some 52, op := .ext (.t 46) 2, guard := none }, { dst := some 9, op := .mov (.t 50), guard := none },
   { dst := some 10, op := .mov (.t 51), guard := none }, { dst := some 11, op := .mov (.t 52), guard := none }] false [] [47, 48, 49, 46, 50, 51, 52, 9]) (.seq
   (.region 15 [{ dst := some 54, op := .mov (.t 5), guard := none }, { dst := some 55, op := .bin .add .str (.t 54) (.c (.d (.str [108, 111, 97, 100, 32]))), guard := none },
   { dst := some 56, op := .mov (.t 1), guard := none }, { dst := some 57, op := .bin .rem .int (.t 56) (.c (.d (.int .u8 9))), guard := none },
   { dst := some 58, op := .bin .add .int (.c (.d (.int .u8 49))) (.t 57), guard := none }, { dst := some 59, op := .cnvI .i32 (.t 58), guard := none },
   { dst := some 60, op := .cnvIS (.t 59), guard := none }, { dst := some 61, op := .bin .add .str (.t 55) (.t 60), guard := none },
   { dst := some 62, op := .bin .add .str (.t 61) (.c (.d (.str [10]))), guard := none }, { dst := some 63, op := .call 14 [.t 62], guard := none },
   { dst := some 53, op := .mov (.t 63), guard := none }, { dst := some 64, op := .ext (.t 53) 0, guard := none }, { dst := some 65, op := .ext (.t 53) 1, guard := none },
   { dst := some 66, op := .ext (.t 53) 2, guard := none }, { dst := some 12, op := .mov (.t 64), guard := none }, { dst := some 13, op := .mov (.t 65), guard := none },
   { dst := some 14, op := .mov (.t 66), guard := none }] false [] [54, 55, 56, 57, 58, 59, 60, 61, 62, 63, 53, 64, 65, 66, 12]) (.seq
   (.region 16 [{ dst := some 68, op := .mov (.t 5), guard := none }, { dst := some 69, op := .bin .add .str (.t 68) (.c (.d (.str [115, 104, 111, 119]))), guard := none },
   { dst := some 70, op := .call 14 [.t 69], guard := none }, { dst := some 67, op := .mov (.t 70), guard := none }, { dst := some 71, op := .ext (.t 67) 0, guard := none },
   { dst := some 72, op := .ext (.t 67) 1, guard := none }, { dst := some 73, op := .ext (.t 67) 2, guard := none }, { dst := some 15, op := .mov (.t 71), guard := none },
   { dst := some 16, op := .mov (.t 72), guard := none }, { dst := some 17, op := .mov (.t 73), guard := none }] false [] [68, 69, 70, 67, 71, 72, 73, 15]) (.seq
   (.region 17 [{ dst := some 74, op := .mov (.t 10), guard := none }, { dst := some 75, op := .mov (.t 7), guard := none },
   { dst := some 76, op := .bin .eql .int (.t 74) (.t 75), guard := none }, { dst := some 77, op := .mov (.t 76), guard := none },
   { dst := some 78, op := .mov (.t 11), guard := some (77, true) }, { dst := some 79, op := .bin .eql .int (.t 78) (.c (.d (.int .i64 3))), guard := some (77, true) },
   { dst := some 80, op := .pick (.t 77) (.t 79) (.c (.d (.bool false))), guard := none }, { dst := some 81, op := .mov (.t 80), guard := none },
   { dst := some 82, op := .mov (.t 13), guard := some (81, true) }, { dst := some 83, op := .mov (.t 7), guard := some (81, true) },
   { dst := some 84, op := .bin .eql .int (.t 82) (.t 83), guard := some (81, true) }, { dst := some 85, op := .pick (.t 81) (.t 84) (.c (.d (.bool false))), guard := none },
   { dst := some 86, op := .mov (.t 85), guard := none }, { dst := some 87, op := .mov (.t 14), guard := some (86, true) },
   { dst := some 88, op := .bin .eql .int (.t 87) (.c (.d (.int .i64 4))), guard := some (86, true) },
   { dst := some 89, op := .pick (.t 86) (.t 88) (.c (.d (.bool false))), guard := none }, { dst := some 90, op := .mov (.t 89), guard := none },
   { dst := some 91, op := .mov (.t 16), guard := some (90, true) }, { dst := some 92, op := .mov (.t 7), guard := some (90, true) },
   { dst := some 93, op := .bin .eql .int (.t 91) (.t 92), guard := some (90, true) }, { dst := some 94, op := .pick (.t 90) (.t 93) (.c (.d (.bool false))), guard := none },
   { dst := some 95, op := .mov (.t 94), guard := none }, { dst := some 96, op := .mov (.t 17), guard := some (95, true) },
   { dst := some 97, op := .bin .eql .int (.t 96) (.c (.d (.int .i64 4))), guard := some (95, true) },
   { dst := some 98, op := .pick (.t 95) (.t 97) (.c (.d (.bool false))), guard := none },
   { dst := some 4, op := .mov (.t 98), guard := none }] false [] [74, 75, 76, 77, 78, 79, 80, 81, 82, 83, 84, 85, 86, 87, 88, 89, 90, 91, 92, 93, 94, 95, 96, 97, 98]) .ret))))))))))), results := [.tmp 4] }
theorem c_backsteplaw51_ScriptLines : cFunc Tryd.prog 6 (dropOf [(1, [18]), (3, [20, 21, 22, 23, 24, 25]), (5, [28, 29, 30, 27, 31, 32]), (6, [33]), (9, [35]), (11, [39]), (12, [40, 41, 42]), (13, [44, 45]), (14, [47, 48, 49, 46, 50, 51, 52, 9]), (15, [54, 55, 56, 57, 58, 59, 60, 61, 62, 63, 53, 64, 65, 66, 12]), (16, [68, 69, 70, 67, 71, 72, 73, 15]), (17, [74, 75, 76, 77, 78, 79, 80, 81, 82, 83, 84, 85, 86, 87, 88, 89, 90, 91, 92, 93, 94, 95, 96, 97, 98])]) = some s_backsteplaw51_ScriptLines := by kernel_rfl

-- backstep/backsteplaw51.ScriptTexts
def s_backsteplaw51_ScriptTexts : SFunc := { nparams := 2, ntmps := 53, code := (.seq (.region 0 [{ dst := some 4, op := .mov (.c (.d (.bool false))), guard := none }] false [] [])
   (.seq (.seq (.region 1 [{ dst := some 11, op := .call 9 [], guard := none }, { dst := some 12, op := .un .not (.t 11), guard := none }] false [] [11]) (.cond (.t 12) (.seq
   (.region 2 [{ dst := some 4, op := .mov (.c (.d (.bool false))), guard := none }] false [] []) .ret) .skip)) (.seq (.seq
   (.region 3 [{ dst := some 13, op := .mov (.t 0), guard := none }, { dst := some 14, op := .len .str (.t 13), guard := none },
   { dst := some 15, op := .bin .gtr .int (.t 14) (.c (.d (.int .i64 10000))), guard := none }] false [] [13, 14]) (.cond (.t 15) (.seq
   (.region 4 [{ dst := some 4, op := .mov (.c (.d (.bool true))), guard := none }] false [] []) .ret) .skip)) (.seq
   (.region 5 [{ dst := some 16, op := .mov (.t 0), guard := none }, { dst := some 17, op := .bin .add .str (.t 16) (.c (.d (.str [10]))), guard := none },
   { dst := some 18, op := .build [.d (.int .u8 0), .d (.str []), .d (.str []), .nils] [(0, .c (.d (.int .u8 1))), (2, .t 17)], guard := none },
   { dst := some 19, op := .build [.d (.int .u8 0), .d (.str []), .d (.str []), .nils] [(0, .c (.d (.int .u8 9)))], guard := none },
   { dst := some 20, op := .bsl 3 1 4 [.c (.d (.int .i64 1)), .c (.d (.int .i64 0)), .c (.d (.int .i64 0)), .c (.d (.int .i64 (-7)))], guard := none },
   { dst := some 21, op := .mov (.t 0), guard := none }, { dst := some 22, op := .bin .add .str (.t 21) (.c (.d (.str [10]))), guard := none },
   { dst := some 23, op := .build [.d (.int .u8 0), .d (.str []), .d (.str []), .nils] [(0, .c (.d (.int .u8 12))), (1, .c (.d (.str [97, 110, 110]))), (3, .t 20), (2, .t 22)], guard := none },
   { dst := some 24, op := .bsl 39 4 3 [.t 18, .t 19, .t 23], guard := none }, { dst := some 5, op := .mov (.t 24), guard := none }] false [] [16, 17, 18, 19, 20, 21, 22, 23, 24])
   (.seq (.region 6 [{ dst := some 26, op := .mov (.t 5), guard := none }, { dst := some 27, op := .call 11 [.t 26], guard := none },
   { dst := some 25, op := .mov (.t 27), guard := none }, { dst := some 28, op := .ext (.t 25) 0, guard := none }, { dst := some 29, op := .ext (.t 25) 1, guard := none },
   { dst := some 6, op := .mov (.t 28), guard := none }, { dst := some 7, op := .mov (.t 29), guard := none }] false [] [26, 27, 25, 28, 29]) (.seq
   (.region 7 [{ dst := some 31, op := .mov (.t 6), guard := none }, { dst := some 32, op := .call 14 [.t 31], guard := none },
   { dst := some 30, op := .mov (.t 32), guard := none }, { dst := some 33, op := .ext (.t 30) 0, guard := none }, { dst := some 34, op := .ext (.t 30) 1, guard := none },
   { dst := some 35, op := .ext (.t 30) 2, guard := none }, { dst := some 8, op := .mov (.t 33), guard := none }, { dst := some 9, op := .mov (.t 34), guard := none },
   { dst := some 10, op := .mov (.t 35), guard := none }] false [] [31, 32, 30, 33, 34, 35]) (.seq (.region 8 [{ dst := some 36, op := .mov (.t 7), guard := none },
   { dst := some 37, op := .bin .eql .int (.t 36) (.c (.d (.int .i64 0))), guard := none }, { dst := some 38, op := .mov (.t 37), guard := none },
   { dst := some 39, op := .mov (.t 10), guard := some (38, true) }, { dst := some 40, op := .bin .eql .int (.t 39) (.c (.d (.int .i64 0))), guard := some (38, true) },
   { dst := some 41, op := .pick (.t 38) (.t 40) (.c (.d (.bool false))), guard := none }, { dst := some 42, op := .mov (.t 41), guard := none },
   { dst := some 43, op := .mov (.t 9), guard := some (42, true) }, { dst := some 44, op := .bin .eql .int (.t 43) (.c (.d (.int .i64 0))), guard := some (42, true) },
   { dst := some 45, op := .pick (.t 42) (.t 44) (.c (.d (.bool false))), guard := none }, { dst := some 46, op := .mov (.t 45), guard := none },
   { dst := some 47, op := .mov (.t 8), guard := some (46, true) }, { dst := some 48, op := .call 16 [.t 47], guard := some (46, true) },
   { dst := some 49, op := .mov (.t 5), guard := some (46, true) }, { dst := some 50, op := .call 16 [.t 49], guard := some (46, true) },
   { dst := some 51, op := .call 15 [.t 48, .t 50], guard := some (46, true) }, { dst := some 52, op := .pick (.t 46) (.t 51) (.c (.d (.bool false))), guard := none },
   { dst := some 4, op := .mov (.t 52), guard := none }] false [] [36, 37, 38, 39, 40, 41, 42, 43, 44, 45, 46, 47, 48, 49, 50, 51, 52]) .ret))))))), results := [.tmp 4] }
theorem c_backsteplaw51_ScriptTexts : cFunc Tryd.prog 7 (dropOf [(1, [11]), (3, [13, 14]), (5, [16, 17, 18, 19, 20, 21, 22, 23, 24]), (6, [26, 27, 25, 28, 29]), (7, [31, 32, 30, 33, 34, 35]), (8, [36, 37, 38, 39, 40, 41, 42, 43, 44, 45, 46, 47, 48, 49, 50, 51, 52])]) = some s_backsteplaw51_ScriptTexts := by kernel_rfl

-- backstep/backsteplaw51.ScriptLimit
def s_backsteplaw51_ScriptLimit_l0 : SCode := (.seq (.region 7 [{ dst := some 19, op := .bin .lss .int (.t 18) (.t 17), guard := none }] false [] []) (.seq
   (.cond (.t 19) .skip (.exit 0)) (.seq (.block 1 (.seq (.region 8 [{ dst := some 20, op := .mov (.t 4), guard := none },
   { dst := some 21, op := .build [.d (.int .u8 0), .d (.str []), .d (.str []), .nils] [(0, .c (.d (.int .u8 5)))], guard := none },
   { dst := some 22, op := .bsl 39 4 1 [.t 21], guard := none }, { dst := some 23, op := .app 39 4 64 (.t 20) (.t 22), guard := none },
   { dst := some 4, op := .mov (.t 23), guard := none }] false [] [20, 21, 22, 23]) (.region 9 [{ dst := some 24, op := .mov (.t 5), guard := none },
   { dst := some 25, op := .bin .add .str (.t 24) (.c (.d (.str [99, 104, 101, 99, 107, 10]))), guard := none },
   { dst := some 5, op := .mov (.t 25), guard := none }] false [] [24, 25]))) (.region 10 [{ dst := some 26, op := .bin .add .int (.t 18) (.c (.d (.int .i64 1))), guard := none },
   { dst := some 18, op := .mov (.t 26), guard := none }] false [] [26]))))
def s_backsteplaw51_ScriptLimit : SFunc := { nparams := 1, ntmps := 89, code := (.seq (.region 0 [{ dst := some 2, op := .mov (.c (.d (.bool false))), guard := none }] false [] [])
   (.seq (.seq (.region 1 [{ dst := some 11, op := .call 9 [], guard := none }, { dst := some 12, op := .un .not (.t 11), guard := none }] false [] [11]) (.cond (.t 12) (.seq
   (.region 2 [{ dst := some 2, op := .mov (.c (.d (.bool false))), guard := none }] false [] []) .ret) .skip)) (.seq
   (.region 3 [{ dst := some 13, op := .mov (.t 0), guard := none }, { dst := some 14, op := .cnvI .i64 (.t 13), guard := none },
   { dst := some 15, op := .bin .rem .int (.t 14) (.c (.d (.int .i64 21))), guard := none },
   { dst := some 16, op := .bin .add .int (.c (.d (.int .i64 990))) (.t 15), guard := none }, { dst := some 3, op := .mov (.t 16), guard := none }] false [] [13, 14, 15, 16]) (.seq
   (.region 4 [{ dst := some 4, op := .nilrow 39 4, guard := none }] false [] []) (.seq (.region 5 [{ dst := some 5, op := .mov (.c (.d (.str []))), guard := none }] false [] [])
   (.seq (.seq (.region 6 [{ dst := some 17, op := .mov (.t 3), guard := none }, { dst := some 18, op := .mov (.c (.d (.int .i64 0))), guard := none }] false [] [])
   (.block 0 (.loop s_backsteplaw51_ScriptLimit_l0))) (.seq (.region 11 [{ dst := some 28, op := .mov (.t 4), guard := none },
   { dst := some 29, op := .call 11 [.t 28], guard := none }, { dst := some 27, op := .mov (.t 29), guard := none }, { dst := some 30, op := .ext (.t 27) 0, guard := none },
   { dst := some 31, op := .ext (.t 27) 1, guard := none }, { dst := some 6, op := .mov (.t 30), guard := none },
   { dst := some 7, op := .mov (.t 31), guard := none }] false [] [28, 29, 27, 30, 31]) (.seq (.region 12 [{ dst := some 33, op := .mov (.t 5), guard := none },
   { dst := some 34, op := .call 14 [.t 33], guard := none }, { dst := some 32, op := .mov (.t 34), guard := none }, { dst := some 35, op := .ext (.t 32) 0, guard := none },
   { dst := some 36, op := .ext (.t 32) 1, guard := none }, { dst := some 37, op := .ext (.t 32) 2, guard := none }, { dst := some 8, op := .mov (.t 35), guard := none },
   { dst := some 9, op := .mov (.t 36), guard := none }, { dst := some 10, op := .mov (.t 37), guard := none }] false [] [33, 34, 32, 35, 36, 37]) (.seq (.seq
   (.region 13 [{ dst := some 38, op := .mov (.t 3), guard := none }, { dst := some 39, op := .bin .gtr .int (.t 38) (.c (.d (.int .i64 1000))), guard := none }] false [] [38])
   (.cond (.t 39) (.seq (.region 14 [{ dst := some 40, op := .mov (.t 4), guard := none }, { dst := some 41, op := .call 13 [.t 40], guard := none },
   { dst := some 42, op := .un .not (.t 41), guard := none }, { dst := some 43, op := .mov (.t 42), guard := none },
   { dst := some 44, op := .mov (.t 7), guard := some (43, true) }, { dst := some 45, op := .bin .eql .int (.t 44) (.c (.d (.int .i64 3))), guard := some (43, true) },
   { dst := some 46, op := .pick (.t 43) (.t 45) (.c (.d (.bool false))), guard := none }, { dst := some 47, op := .mov (.t 46), guard := none },
   { dst := some 48, op := .mov (.t 6), guard := some (47, true) }, { dst := some 49, op := .bin .eql .str (.t 48) (.c (.d (.str []))), guard := some (47, true) },
   { dst := some 50, op := .pick (.t 47) (.t 49) (.c (.d (.bool false))), guard := none }, { dst := some 51, op := .mov (.t 50), guard := none },
   { dst := some 52, op := .mov (.t 10), guard := some (51, true) }, { dst := some 53, op := .bin .eql .int (.t 52) (.c (.d (.int .i64 5))), guard := some (51, true) },
   { dst := some 54, op := .pick (.t 51) (.t 53) (.c (.d (.bool false))), guard := none }, { dst := some 55, op := .mov (.t 54), guard := none },
   { dst := some 56, op := .mov (.t 9), guard := some (55, true) }, { dst := some 57, op := .bin .eql .int (.t 56) (.c (.d (.int .i64 1001))), guard := some (55, true) },
   { dst := some 58, op := .pick (.t 55) (.t 57) (.c (.d (.bool false))), guard := none }, { dst := some 59, op := .mov (.t 58), guard := none },
   { dst := some 60, op := .mov (.t 8), guard := some (59, true) }, { dst := some 61, op := .len .sl (.t 60), guard := some (59, true) },
   { dst := some 62, op := .bin .eql .int (.t 61) (.c (.d (.int .i64 0))), guard := some (59, true) },
   { dst := some 63, op := .pick (.t 59) (.t 62) (.c (.d (.bool false))), guard := none },
   { dst := some 2, op := .mov (.t 63), guard := none }] false [] [40, 41, 42, 43, 44, 45, 46, 47, 48, 49, 50, 51, 52, 53, 54, 55, 56, 57, 58, 59, 60, 61, 62, 63]) .ret) .skip))
   (.seq (.region 15 [{ dst := some 64, op := .mov (.t 4), guard := none }, { dst := some 65, op := .call 13 [.t 64], guard := none },
   { dst := some 66, op := .mov (.t 65), guard := none }, { dst := some 67, op := .mov (.t 7), guard := some (66, true) },
   { dst := some 68, op := .bin .eql .int (.t 67) (.c (.d (.int .i64 0))), guard := some (66, true) },
   { dst := some 69, op := .pick (.t 66) (.t 68) (.c (.d (.bool false))), guard := none }, { dst := some 70, op := .mov (.t 69), guard := none },
   { dst := some 71, op := .mov (.t 6), guard := some (70, true) }, { dst := some 72, op := .mov (.t 5), guard := some (70, true) },
   { dst := some 73, op := .bin .eql .str (.t 71) (.t 72), guard := some (70, true) }, { dst := some 74, op := .pick (.t 70) (.t 73) (.c (.d (.bool false))), guard := none },
   { dst := some 75, op := .mov (.t 74), guard := none }, { dst := some 76, op := .mov (.t 10), guard := some (75, true) },
   { dst := some 77, op := .bin .eql .int (.t 76) (.c (.d (.int .i64 0))), guard := some (75, true) },
   { dst := some 78, op := .pick (.t 75) (.t 77) (.c (.d (.bool false))), guard := none }, { dst := some 79, op := .mov (.t 78), guard := none },
   { dst := some 80, op := .mov (.t 9), guard := some (79, true) }, { dst := some 81, op := .bin .eql .int (.t 80) (.c (.d (.int .i64 0))), guard := some (79, true) },
   { dst := some 82, op := .pick (.t 79) (.t 81) (.c (.d (.bool false))), guard := none }, { dst := some 83, op := .mov (.t 82), guard := none },
   { dst := some 84, op := .mov (.t 8), guard := some (83, true) }, { dst := some 85, op := .len .sl (.t 84), guard := some (83, true) },
   { dst := some 86, op := .mov (.t 3), guard := some (83, true) }, { dst := some 87, op := .bin .eql .int (.t 85) (.t 86), guard := some (83, true) },
   { dst := some 88, op := .pick (.t 83) (.t 87) (.c (.d (.bool false))), guard := none },
   { dst := some 2, op := .mov (.t 88), guard := none }] false [] [64, 65, 66, 67, 68, 69, 70, 71, 72, 73, 74, 75, 76, 77, 78, 79, 80, 81, 82, 83, 84, 85, 86, 87, 88]) .ret)))))))))), results := [.tmp 2] }
theorem c_backsteplaw51_ScriptLimit : cFunc Tryd.prog 8 (dropOf [(1, [11]), (3, [13, 14, 15, 16]), (8, [20, 21, 22, 23]), (9, [24, 25]), (10, [26]), (11, [28, 29, 27, 30, 31]), (12, [33, 34, 32, 35, 36, 37]), (13, [38]), (14, [40, 41, 42, 43, 44, 45, 46, 47, 48, 49, 50, 51, 52, 53, 54, 55, 56, 57, 58, 59, 60, 61, 62, 63]), (15, [64, 65, 66, 67, 68, 69, 70, 71, 72, 73, 74, 75, 76, 77, 78, 79, 80, 81, 82, 83, 84, 85, 86, 87, 88])]) = some s_backsteplaw51_ScriptLimit := by kernel_rfl

-- backstep/backsteplaw51.awake
def s_backsteplaw51_awake : SFunc := { nparams := 0, ntmps := 61, code := (.seq (.region 0 [{ dst := some 0, op := .mov (.c (.d (.bool false))), guard := none }] false [] []) (.seq
   (.region 1 [{ dst := some 1, op := .mov (.c (.d (.str [108, 111, 97, 100, 32, 50, 10, 109, 97, 105, 110, 32, 123, 10, 125, 10, 114, 117, 110, 32, 53, 10, 115, 104, 111, 119, 10]))), guard := none }] false [] [])
   (.seq (.region 2 [{ dst := some 11, op := .mov (.t 1), guard := none }, { dst := some 12, op := .call 14 [.t 11], guard := none },
   { dst := some 10, op := .mov (.t 12), guard := none }, { dst := some 13, op := .ext (.t 10) 0, guard := none }, { dst := some 14, op := .ext (.t 10) 1, guard := none },
   { dst := some 15, op := .ext (.t 10) 2, guard := none }, { dst := some 2, op := .mov (.t 13), guard := none }, { dst := some 3, op := .mov (.t 14), guard := none },
   { dst := some 4, op := .mov (.t 15), guard := none }] false [] [11, 12, 10, 13, 14, 15]) (.seq (.region 3 [{ dst := some 17, op := .mov (.t 2), guard := none },
   { dst := some 18, op := .call 11 [.t 17], guard := none }, { dst := some 16, op := .mov (.t 18), guard := none }, { dst := some 19, op := .ext (.t 16) 0, guard := none },
   { dst := some 20, op := .ext (.t 16) 1, guard := none }, { dst := some 5, op := .mov (.t 19), guard := none },
   { dst := some 6, op := .mov (.t 20), guard := none }] false [] [17, 18, 16, 19, 20]) (.seq
   (.region 4 [{ dst := some 22, op := .call 14 [.c (.d (.str [115, 104, 111, 119, 10, 114, 117, 110, 32, 120, 10]))], guard := none },
   { dst := some 21, op := .mov (.t 22), guard := none }, { dst := some 23, op := .ext (.t 21) 0, guard := none }, { dst := some 24, op := .ext (.t 21) 1, guard := none },
   { dst := some 25, op := .ext (.t 21) 2, guard := none }, { dst := some 7, op := .mov (.t 23), guard := none }, { dst := some 8, op := .mov (.t 24), guard := none },
   { dst := some 9, op := .mov (.t 25), guard := none }] false [] [22, 21, 23, 24, 25, 7]) (.seq (.region 5 [{ dst := some 26, op := .mov (.t 4), guard := none },
   { dst := some 27, op := .bin .eql .int (.t 26) (.c (.d (.int .i64 0))), guard := none }, { dst := some 28, op := .mov (.t 27), guard := none },
   { dst := some 29, op := .mov (.t 3), guard := some (28, true) }, { dst := some 30, op := .bin .eql .int (.t 29) (.c (.d (.int .i64 0))), guard := some (28, true) },
   { dst := some 31, op := .pick (.t 28) (.t 30) (.c (.d (.bool false))), guard := none }, { dst := some 32, op := .mov (.t 31), guard := none },
   { dst := some 33, op := .mov (.t 6), guard := some (32, true) }, { dst := some 34, op := .bin .eql .int (.t 33) (.c (.d (.int .i64 0))), guard := some (32, true) },
   { dst := some 35, op := .pick (.t 32) (.t 34) (.c (.d (.bool false))), guard := none }, { dst := some 36, op := .mov (.t 35), guard := none },
   { dst := some 37, op := .mov (.t 5), guard := some (36, true) }, { dst := some 38, op := .mov (.t 1), guard := some (36, true) },
   { dst := some 39, op := .bin .eql .str (.t 37) (.t 38), guard := some (36, true) }, { dst := some 40, op := .pick (.t 36) (.t 39) (.c (.d (.bool false))), guard := none },
   { dst := some 41, op := .mov (.t 40), guard := none }, { dst := some 42, op := .mov (.t 2), guard := some (41, true) },
   { dst := some 43, op := .len .sl (.t 42), guard := some (41, true) }, { dst := some 44, op := .bin .eql .int (.t 43) (.c (.d (.int .i64 3))), guard := some (41, true) },
   { dst := some 45, op := .pick (.t 41) (.t 44) (.c (.d (.bool false))), guard := none }, { dst := some 46, op := .mov (.t 45), guard := none },
   { dst := some 47, op := .mov (.t 2), guard := some (46, true) }, { dst := some 48, op := .ia 4 (.t 47) (.c (.d (.int .i64 0))), guard := some (46, true) },
   { dst := some 49, op := .fa (.t 48) 2 2, guard := some (46, true) }, { dst := some 50, op := .ld 1 false (.t 49), guard := some (46, true) },
   { dst := some 51, op := .bin .eql .str (.t 50) (.c (.d (.str [109, 97, 105, 110, 32, 123, 10, 125, 10]))), guard := some (46, true) },
   { dst := some 52, op := .pick (.t 46) (.t 51) (.c (.d (.bool false))), guard := none }, { dst := some 53, op := .mov (.t 52), guard := none },
   { dst := some 54, op := .mov (.t 9), guard := some (53, true) }, { dst := some 55, op := .bin .eql .int (.t 54) (.c (.d (.int .i64 3))), guard := some (53, true) },
   { dst := some 56, op := .pick (.t 53) (.t 55) (.c (.d (.bool false))), guard := none }, { dst := some 57, op := .mov (.t 56), guard := none },
   { dst := some 58, op := .mov (.t 8), guard := some (57, true) }, { dst := some 59, op := .bin .eql .int (.t 58) (.c (.d (.int .i64 2))), guard := some (57, true) },
   { dst := some 60, op := .pick (.t 57) (.t 59) (.c (.d (.bool false))), guard := none },
   { dst := some 0, op := .mov (.t 60), guard := none }] false [] [26, 27, 28, 29, 30, 31, 32, 33, 34, 35, 36, 37, 38, 39, 40, 41, 42, 43, 44, 45, 46, 47, 48, 49, 50, 51, 52, 53, 54, 55, 56, 57, 58, 59, 60]) .ret)))))), results := [.tmp 0] }
theorem c_backsteplaw51_awake : cFunc Tryd.prog 9 (dropOf [(2, [11, 12, 10, 13, 14, 15]), (3, [17, 18, 16, 19, 20]), (4, [22, 21, 23, 24, 25, 7]), (5, [26, 27, 28, 29, 30, 31, 32, 33, 34, 35, 36, 37, 38, 39, 40, 41, 42, 43, 44, 45, 46, 47, 48, 49, 50, 51, 52, 53, 54, 55, 56, 57, 58, 59, 60])]) = some s_backsteplaw51_awake := by kernel_rfl

-- backstep/backsteplaw51.great
def s_backsteplaw51_great_l0 : SCode := (.seq (.region 3 [{ dst := some 9, op := .bin .lss .int (.t 8) (.t 7), guard := none }] false [] []) (.seq (.cond (.t 9) .skip (.exit 0))
   (.seq (.block 1 (.seq (.region 4 [{ dst := some 10, op := .mov (.t 8), guard := none }, { dst := some 5, op := .mov (.t 10), guard := none }] false [] [10])
   (.region 5 [{ dst := some 11, op := .mov (.t 3), guard := none }, { dst := some 12, op := .mov (.t 0), guard := none }, { dst := some 13, op := .mov (.t 5), guard := none },
   { dst := some 14, op := .ia 4 (.t 12) (.t 13), guard := none }, { dst := some 15, op := .fa (.t 14) 2 2, guard := none },
   { dst := some 16, op := .ld 1 false (.t 15), guard := none }, { dst := some 17, op := .len .str (.t 16), guard := none },
   { dst := some 18, op := .bin .add .int (.t 11) (.t 17), guard := none }, { dst := some 19, op := .mov (.t 0), guard := none },
   { dst := some 20, op := .mov (.t 5), guard := none }, { dst := some 21, op := .ia 4 (.t 19) (.t 20), guard := none }, { dst := some 22, op := .fa (.t 21) 1 1, guard := none },
   { dst := some 23, op := .ld 1 false (.t 22), guard := none }, { dst := some 24, op := .len .str (.t 23), guard := none },
   { dst := some 25, op := .bin .add .int (.t 18) (.t 24), guard := none }, { dst := some 26, op := .mov (.t 4), guard := none },
   { dst := some 27, op := .mov (.t 0), guard := none }, { dst := some 28, op := .mov (.t 5), guard := none }, { dst := some 29, op := .ia 4 (.t 27) (.t 28), guard := none },
   { dst := some 30, op := .fa (.t 29) 3 3, guard := none }, { dst := some 31, op := .ld 1 false (.t 30), guard := none },
   { dst := some 32, op := .len .sl (.t 31), guard := none }, { dst := some 33, op := .bin .add .int (.t 26) (.t 32), guard := none },
   { dst := some 3, op := .mov (.t 25), guard := none },
   { dst := some 4, op := .mov (.t 33), guard := none }] true [] [11, 12, 13, 14, 15, 16, 17, 18, 19, 20, 21, 22, 23, 24, 25, 26, 27, 28, 29, 30, 31, 32, 33])))
   (.region 6 [{ dst := some 34, op := .bin .add .int (.t 8) (.c (.d (.int .i64 1))), guard := none }, { dst := some 8, op := .mov (.t 34), guard := none }] false [] [34]))))
def s_backsteplaw51_great : SFunc := { nparams := 1, ntmps := 46, code := (.seq (.region 0 [{ dst := some 2, op := .mov (.c (.d (.bool false))), guard := none }] false [] []) (.seq
   (.region 1 [{ dst := some 3, op := .mov (.c (.d (.int .i64 0))), guard := none }, { dst := some 4, op := .mov (.c (.d (.int .i64 0))), guard := none }] false [] []) (.seq (.seq
   (.region 2 [{ dst := some 6, op := .mov (.t 0), guard := none }, { dst := some 7, op := .len .sl (.t 6), guard := none },
   { dst := some 8, op := .mov (.c (.d (.int .i64 0))), guard := none }] false [] [6]) (.block 0 (.loop s_backsteplaw51_great_l0))) (.seq
   (.region 7 [{ dst := some 35, op := .mov (.t 0), guard := none }, { dst := some 36, op := .len .sl (.t 35), guard := none },
   { dst := some 37, op := .bin .gtr .int (.t 36) (.c (.d (.int .i64 1010))), guard := none }, { dst := some 38, op := .mov (.t 37), guard := none },
   { dst := some 39, op := .mov (.t 3), guard := some (38, false) }, { dst := some 40, op := .bin .gtr .int (.t 39) (.c (.d (.int .i64 50000))), guard := some (38, false) },
   { dst := some 41, op := .pick (.t 38) (.c (.d (.bool true))) (.t 40), guard := none }, { dst := some 42, op := .mov (.t 41), guard := none },
   { dst := some 43, op := .mov (.t 4), guard := some (42, false) }, { dst := some 44, op := .bin .gtr .int (.t 43) (.c (.d (.int .i64 5000))), guard := some (42, false) },
   { dst := some 45, op := .pick (.t 42) (.c (.d (.bool true))) (.t 44), guard := none },
   { dst := some 2, op := .mov (.t 45), guard := none }] false [] [35, 36, 37, 38, 39, 40, 41, 42, 43, 44, 45]) .ret)))), results := [.tmp 2] }
theorem c_backsteplaw51_great : cFunc Tryd.prog 10 (dropOf [(2, [6]), (4, [10]), (5, [11, 12, 13, 14, 15, 16, 17, 18, 19, 20, 21, 22, 23, 24, 25, 26, 27, 28, 29, 30, 31, 32, 33]), (6, [34]), (7, [35, 36, 37, 38, 39, 40, 41, 42, 43, 44, 45])]) = some s_backsteplaw51_great := by kernel_rfl

-- backstep/script.Format
def s_script_Format_l0 : SCode := (.seq (.region 12 [{ dst := some 42, op := .bin .lss .int (.t 41) (.t 40), guard := none }] false [] []) (.seq (.cond (.t 42) .skip (.exit 2))
   (.seq (.block 3 (.seq (.region 13 [{ dst := some 43, op := .ia 1 (.t 39) (.t 41), guard := none }, { dst := some 44, op := .ld 1 false (.t 43), guard := none },
   { dst := some 12, op := .mov (.t 44), guard := none }] false [] [43, 44]) (.region 14 [{ dst := some 45, op := .mov (.t 10), guard := none },
   { dst := some 46, op := .mov (.t 12), guard := none }, { dst := some 47, op := .call 18 [.t 46], guard := none }, { dst := some 48, op := .bsl 9 1 1 [.t 47], guard := none },
   { dst := some 49, op := .app 9 1 16 (.t 45) (.t 48), guard := none }, { dst := some 10, op := .mov (.t 49), guard := none }] false [] [45, 46, 47, 48, 49])))
   (.region 15 [{ dst := some 50, op := .bin .add .int (.t 41) (.c (.d (.int .i64 1))), guard := none }, { dst := some 41, op := .mov (.t 50), guard := none }] false [] [50]))))
def s_script_Format_l1 : SCode := (.seq (.region 5 [{ dst := some 19, op := .bin .lss .int (.t 18) (.t 17), guard := none }] false [] []) (.seq (.cond (.t 19) .skip (.exit 0))
   (.seq (.block 1 (.seq (.region 6 [{ dst := some 20, op := .ia 4 (.t 16) (.t 18), guard := none }, { dst := some 21, op := .ld 4 true (.t 20), guard := none },
   { dst := some 6, op := .alloc 39 (.agg [.d (.int .u8 0), .d (.str []), .d (.str []), .nils]), guard := none },
   { dst := none, op := .st 4 (.t 6) (.t 21), guard := none }] false [] [20, 21]) (.seq (.region 7 [{ dst := some 23, op := .fa (.t 6) 0 0, guard := none },
   { dst := some 24, op := .ld 1 false (.t 23), guard := none }, { dst := some 25, op := .call 17 [.t 24], guard := none }, { dst := some 22, op := .mov (.t 25), guard := none },
   { dst := some 26, op := .ext (.t 22) 0, guard := none }, { dst := some 27, op := .ext (.t 22) 1, guard := none }, { dst := some 28, op := .ext (.t 22) 2, guard := none },
   { dst := some 8, op := .alloc 48 (.d (.agg [.int .u8 0, .bool false, .int .i64 0, .bool false])), guard := none }, { dst := some 7, op := .mov (.t 26), guard := none },
   { dst := none, op := .st 4 (.t 8) (.t 27), guard := none }, { dst := some 9, op := .mov (.t 28), guard := none }] false [] [23, 24, 25, 22, 26, 27, 28, 9]) (.seq
   (.region 8 [{ dst := some 29, op := .mov (.t 7), guard := none }, { dst := some 30, op := .bsl 9 1 1 [.t 29], guard := none },
   { dst := some 10, op := .mov (.t 30), guard := none }] false [] [29, 30]) (.seq (.seq (.region 9 [{ dst := some 31, op := .fa (.t 8) 1 1, guard := none },
   { dst := some 32, op := .ld 1 false (.t 31), guard := none }] false [] [31]) (.cond (.t 32) (.region 10 [{ dst := some 33, op := .mov (.t 10), guard := none },
   { dst := some 34, op := .fa (.t 6) 1 1, guard := none }, { dst := some 35, op := .ld 1 false (.t 34), guard := none },
   { dst := some 36, op := .bsl 9 1 1 [.t 35], guard := none }, { dst := some 37, op := .app 9 1 16 (.t 33) (.t 36), guard := none },
   { dst := some 10, op := .mov (.t 37), guard := none }] false [] [33, 34, 35, 36, 37]) .skip)) (.seq (.seq (.region 11 [{ dst := some 38, op := .fa (.t 6) 3 3, guard := none },
   { dst := some 39, op := .ld 1 false (.t 38), guard := none }, { dst := some 40, op := .len .sl (.t 39), guard := none },
   { dst := some 41, op := .mov (.c (.d (.int .i64 0))), guard := none }] false [] [38]) (.block 2 (.loop s_script_Format_l0))) (.seq (.seq
   (.region 16 [{ dst := some 51, op := .fa (.t 8) 3 3, guard := none }, { dst := some 52, op := .ld 1 false (.t 51), guard := none }] false [] [51]) (.cond (.t 52)
   (.region 17 [{ dst := some 53, op := .mov (.t 10), guard := none }, { dst := some 54, op := .fa (.t 6) 2 2, guard := none },
   { dst := some 55, op := .ld 1 false (.t 54), guard := none }, { dst := some 56, op := .call 19 [.t 55, .c (.d (.str [10]))], guard := none },
   { dst := some 57, op := .call 18 [.t 56], guard := none }, { dst := some 58, op := .bsl 9 1 1 [.t 57], guard := none },
   { dst := some 59, op := .app 9 1 16 (.t 53) (.t 58), guard := none }, { dst := some 10, op := .mov (.t 59), guard := none }] false [] [53, 54, 55, 56, 57, 58, 59]) .skip))
   (.region 18 [{ dst := some 60, op := .mov (.t 10), guard := none }, { dst := some 61, op := .call 21 [.t 60, .c (.d (.str [32]))], guard := none },
   { dst := some 62, op := .bin .add .str (.t 61) (.c (.d (.str [10]))), guard := none }, { dst := some 63, op := .fa (.t 6) 2 2, guard := none },
   { dst := some 64, op := .ld 1 false (.t 63), guard := none }, { dst := some 65, op := .bin .add .str (.t 62) (.t 64), guard := none },
   { dst := some 66, op := .call 20 [.t 4, .t 65], guard := none }] true [(1, 3), (1, 4)] [60, 61, 62, 63, 64, 65, 66]))))))))
   (.region 19 [{ dst := some 67, op := .bin .add .int (.t 18) (.c (.d (.int .i64 1))), guard := none }, { dst := some 18, op := .mov (.t 67), guard := none }] false [] [67]))))
def s_script_Format : SFunc := { nparams := 1, ntmps := 69, code := (.seq (.region 0 [{ dst := some 2, op := .mov (.c (.d (.str []))), guard := none },
   { dst := some 3, op := .mov (.c (.d (.int .i64 0))), guard := none }] false [] []) (.seq (.seq (.region 1 [{ dst := some 13, op := .mov (.t 0), guard := none },
   { dst := some 14, op := .call 13 [.t 13], guard := none }, { dst := some 15, op := .un .not (.t 14), guard := none }] false [] [13, 14]) (.cond (.t 15) (.seq
   (.region 2 [{ dst := some 2, op := .mov (.c (.d (.str []))), guard := none }, { dst := some 3, op := .mov (.c (.d (.int .i64 3))), guard := none }] false [] []) .ret) .skip))
   (.seq (.region 3 [{ dst := some 4, op := .alloc 46 (.agg [.d .nilptr, .nils]), guard := none }] false [] []) (.seq (.seq
   (.region 4 [{ dst := some 16, op := .mov (.t 0), guard := none }, { dst := some 17, op := .len .sl (.t 16), guard := none },
   { dst := some 18, op := .mov (.c (.d (.int .i64 0))), guard := none }] false [] []) (.block 0 (.loop s_script_Format_l1))) (.seq
   (.region 20 [{ dst := some 68, op := .call 22 [.t 4], guard := none }, { dst := some 2, op := .mov (.t 68), guard := none },
   { dst := some 3, op := .mov (.c (.d (.int .i64 0))), guard := none }] false [] [68]) .ret))))), results := [.tmp 2, .tmp 3] }
theorem c_script_Format : cFunc Tryd.prog 11 (dropOf [(1, [13, 14]), (6, [20, 21]), (7, [23, 24, 25, 22, 26, 27, 28, 9]), (8, [29, 30]), (9, [31]), (10, [33, 34, 35, 36, 37]), (11, [38]), (13, [43, 44]), (14, [45, 46, 47, 48, 49]), (15, [50]), (16, [51]), (17, [53, 54, 55, 56, 57, 58, 59]), (18, [60, 61, 62, 63, 64, 65, 66]), (19, [67]), (20, [68])]) = some s_script_Format := by kernel_rfl

-- backstep/backsteplaw51.given
def s_backsteplaw51_given_l0 : SCode := (.seq (.seq (.region 3 [{ dst := some 5, op := .mov (.t 4), guard := none }, { dst := some 6, op := .mov (.t 0), guard := none },
   { dst := some 7, op := .len .sl (.t 6), guard := none }, { dst := some 8, op := .bin .lss .int (.t 5) (.t 7), guard := none }] false [] [5, 6, 7])
   (.cond (.t 8) .skip (.exit 0))) (.seq (.block 1 (.region 5 [{ dst := some 11, op := .mov (.t 3), guard := none }, { dst := some 12, op := .mov (.t 0), guard := none },
   { dst := some 13, op := .mov (.t 4), guard := none }, { dst := some 14, op := .ia 4 (.t 12) (.t 13), guard := none },
   { dst := some 15, op := .ld 4 true (.t 14), guard := none }, { dst := some 16, op := .bsl 39 4 1 [.t 15], guard := none },
   { dst := some 17, op := .app 39 4 64 (.t 11) (.t 16), guard := none }, { dst := some 3, op := .mov (.t 17), guard := none }] false [] [11, 12, 13, 14, 15, 16, 17]))
   (.region 4 [{ dst := some 9, op := .mov (.t 4), guard := none }, { dst := some 10, op := .bin .add .int (.t 9) (.c (.d (.int .i64 1))), guard := none },
   { dst := some 4, op := .mov (.t 10), guard := none }] false [] [9, 10])))
def s_backsteplaw51_given : SFunc := { nparams := 1, ntmps := 19, code := (.seq (.region 0 [{ dst := some 2, op := .nilrow 39 4, guard := none }] false [] []) (.seq
   (.region 1 [{ dst := some 3, op := .nilrow 39 4, guard := none }] false [] []) (.seq (.seq
   (.region 2 [{ dst := some 4, op := .mov (.c (.d (.int .i64 0))), guard := none }] false [] []) (.block 0 (.loop s_backsteplaw51_given_l0))) (.seq
   (.region 6 [{ dst := some 18, op := .mov (.t 3), guard := none }, { dst := some 2, op := .mov (.t 18), guard := none }] false [] [18]) .ret)))), results := [.tmp 2] }
theorem c_backsteplaw51_given : cFunc Tryd.prog 12 (dropOf [(3, [5, 6, 7]), (5, [11, 12, 13, 14, 15, 16, 17]), (4, [9, 10]), (6, [18])]) = some s_backsteplaw51_given := by kernel_rfl

-- backstep/script.Valid
def s_script_Valid_l0 : SCode := (.seq (.region 2 [{ dst := some 8, op := .bin .lss .int (.t 7) (.t 6), guard := none }] false [] []) (.seq (.cond (.t 8) .skip (.exit 0)) (.seq
   (.block 1 (.seq (.region 3 [{ dst := some 9, op := .ia 4 (.t 5) (.t 7), guard := none }, { dst := some 10, op := .ld 4 true (.t 9), guard := none },
   { dst := some 4, op := .alloc 39 (.agg [.d (.int .u8 0), .d (.str []), .d (.str []), .nils]), guard := none },
   { dst := none, op := .st 4 (.t 4) (.t 10), guard := none }] false [] [9, 10]) (.seq (.region 4 [{ dst := some 11, op := .ld 4 true (.t 4), guard := none },
   { dst := some 12, op := .call 23 [.t 11], guard := none }, { dst := some 13, op := .un .not (.t 12), guard := none }] false [] [11, 12]) (.cond (.t 13) (.seq
   (.region 5 [{ dst := some 2, op := .mov (.c (.d (.bool false))), guard := none }] false [] []) .ret) .skip))))
   (.region 6 [{ dst := some 14, op := .bin .add .int (.t 7) (.c (.d (.int .i64 1))), guard := none }, { dst := some 7, op := .mov (.t 14), guard := none }] false [] [14]))))
def s_script_Valid : SFunc := { nparams := 1, ntmps := 18, code := (.seq (.region 0 [{ dst := some 2, op := .mov (.c (.d (.bool false))), guard := none }] false [] []) (.seq (.seq
   (.region 1 [{ dst := some 5, op := .mov (.t 0), guard := none }, { dst := some 6, op := .len .sl (.t 5), guard := none },
   { dst := some 7, op := .mov (.c (.d (.int .i64 0))), guard := none }] false [] []) (.block 0 (.loop s_script_Valid_l0))) (.seq
   (.region 7 [{ dst := some 15, op := .mov (.t 0), guard := none }, { dst := some 16, op := .len .sl (.t 15), guard := none },
   { dst := some 17, op := .bin .leq .int (.t 16) (.c (.d (.int .i64 1000))), guard := none },
   { dst := some 2, op := .mov (.t 17), guard := none }] false [] [15, 16, 17]) .ret))), results := [.tmp 2] }
theorem c_script_Valid : cFunc Tryd.prog 13 (dropOf [(3, [9, 10]), (4, [11, 12]), (6, [14]), (7, [15, 16, 17])]) = some s_script_Valid := by kernel_rfl

-- backstep/script.Parse
def s_script_Parse_l0 : SCode := (.seq (.seq (.region 3 [{ dst := some 11, op := .mov (.t 0), guard := none },
   { dst := some 12, op := .bin .neq .str (.t 11) (.c (.d (.str []))), guard := none }] false [] [11]) (.cond (.t 12) .skip (.exit 0))) (.block 1 (.seq
   (.region 4 [{ dst := some 14, op := .mov (.t 0), guard := none }, { dst := some 15, op := .mov (.t 5), guard := none },
   { dst := some 16, op := .len .sl (.t 15), guard := none }, { dst := some 17, op := .call 24 [.t 14, .t 16], guard := none },
   { dst := some 13, op := .mov (.t 17), guard := none }, { dst := some 18, op := .ext (.t 13) 0, guard := none }, { dst := some 19, op := .ext (.t 13) 1, guard := none },
   { dst := some 20, op := .ext (.t 13) 2, guard := none }, { dst := some 21, op := .ext (.t 13) 3, guard := none },
   { dst := some 7, op := .alloc 39 (.agg [.d (.int .u8 0), .d (.str []), .d (.str []), .nils]), guard := none }, { dst := none, op := .st 4 (.t 7) (.t 18), guard := none },
   { dst := some 8, op := .mov (.t 19), guard := none }, { dst := some 9, op := .mov (.t 20), guard := none },
   { dst := some 10, op := .mov (.t 21), guard := none }] false [] [14, 15, 16, 17, 13, 18, 19, 20, 21]) (.seq (.seq
   (.region 5 [{ dst := some 22, op := .mov (.t 10), guard := none }, { dst := some 23, op := .bin .neq .int (.t 22) (.c (.d (.int .i64 0))), guard := none }] false [] [22])
   (.cond (.t 23) (.seq (.region 6 [{ dst := some 24, op := .mov (.t 6), guard := none }, { dst := some 25, op := .mov (.t 10), guard := none },
   { dst := some 2, op := .nilrow 39 4, guard := none }, { dst := some 3, op := .mov (.t 24), guard := none },
   { dst := some 4, op := .mov (.t 25), guard := none }] false [] [24, 25]) .ret) .skip)) (.seq (.region 7 [{ dst := some 26, op := .mov (.t 5), guard := none },
   { dst := some 27, op := .ld 4 true (.t 7), guard := none }, { dst := some 28, op := .bsl 39 4 1 [.t 27], guard := none },
   { dst := some 29, op := .app 39 4 64 (.t 26) (.t 28), guard := none }, { dst := some 5, op := .mov (.t 29), guard := none }] false [] [26, 27, 28, 29]) (.seq
   (.region 8 [{ dst := some 30, op := .mov (.t 8), guard := none }, { dst := some 0, op := .mov (.t 30), guard := none }] false [] [30])
   (.region 9 [{ dst := some 31, op := .mov (.t 6), guard := none }, { dst := some 32, op := .mov (.t 9), guard := none },
   { dst := some 33, op := .bin .add .int (.t 31) (.t 32), guard := none }, { dst := some 6, op := .mov (.t 33), guard := none }] false [] [31, 32, 33])))))))
def s_script_Parse : SFunc := { nparams := 1, ntmps := 35, code := (.seq (.region 0 [{ dst := some 2, op := .nilrow 39 4, guard := none },
   { dst := some 3, op := .mov (.c (.d (.int .i64 0))), guard := none }, { dst := some 4, op := .mov (.c (.d (.int .i64 0))), guard := none }] false [] []) (.seq
   (.region 1 [{ dst := some 5, op := .nilrow 39 4, guard := none }] false [] []) (.seq
   (.region 2 [{ dst := some 6, op := .mov (.c (.d (.int .i64 1))), guard := none }] false [] []) (.seq (.block 0 (.loop s_script_Parse_l0)) (.seq
   (.region 10 [{ dst := some 34, op := .mov (.t 5), guard := none }, { dst := some 2, op := .mov (.t 34), guard := none },
   { dst := some 3, op := .mov (.c (.d (.int .i64 0))), guard := none },
   { dst := some 4, op := .mov (.c (.d (.int .i64 0))), guard := none }] false [] [34]) .ret))))), results := [.tmp 2, .tmp 3, .tmp 4] }
theorem c_script_Parse : cFunc Tryd.prog 14 (dropOf [(3, [11]), (4, [14, 15, 16, 17, 13, 18, 19, 20, 21]), (5, [22]), (6, [24, 25]), (7, [26, 27, 28, 29]), (8, [30]), (9, [31, 32, 33]), (10, [34])]) = some s_script_Parse := by kernel_rfl

-- backstep/backsteplaw51.same
def s_backsteplaw51_same_l0 : SCode := (.seq (.region 9 [{ dst := some 76, op := .bin .lss .int (.t 75) (.t 74), guard := none }] false [] []) (.seq (.cond (.t 76) .skip (.exit 2))
   (.seq (.block 3 (.seq (.region 10 [{ dst := some 77, op := .mov (.t 75), guard := none }, { dst := some 6, op := .mov (.t 77), guard := none }] false [] [77]) (.seq
   (.region 11 [{ dst := some 78, op := .mov (.t 0), guard := none }, { dst := some 79, op := .mov (.t 5), guard := none },
   { dst := some 80, op := .ia 4 (.t 78) (.t 79), guard := none }, { dst := some 81, op := .fa (.t 80) 3 3, guard := none },
   { dst := some 82, op := .ld 1 false (.t 81), guard := none }, { dst := some 83, op := .mov (.t 6), guard := none },
   { dst := some 84, op := .ia 1 (.t 82) (.t 83), guard := none }, { dst := some 85, op := .ld 1 false (.t 84), guard := none },
   { dst := some 86, op := .mov (.t 1), guard := none }, { dst := some 87, op := .mov (.t 5), guard := none }, { dst := some 88, op := .ia 4 (.t 86) (.t 87), guard := none },
   { dst := some 89, op := .fa (.t 88) 3 3, guard := none }, { dst := some 90, op := .ld 1 false (.t 89), guard := none }, { dst := some 91, op := .mov (.t 6), guard := none },
   { dst := some 92, op := .ia 1 (.t 90) (.t 91), guard := none }, { dst := some 93, op := .ld 1 false (.t 92), guard := none },
   { dst := some 94, op := .bin .neq .int (.t 85) (.t 93), guard := none }] true [] [78, 79, 80, 81, 82, 83, 84, 85, 86, 87, 88, 89, 90, 91, 92, 93]) (.cond (.t 94) (.seq
   (.region 12 [{ dst := some 4, op := .mov (.c (.d (.bool false))), guard := none }] false [] []) .ret) .skip))))
   (.region 13 [{ dst := some 95, op := .bin .add .int (.t 75) (.c (.d (.int .i64 1))), guard := none }, { dst := some 75, op := .mov (.t 95), guard := none }] false [] [95]))))
def s_backsteplaw51_same_l1 : SCode := (.seq (.region 4 [{ dst := some 15, op := .bin .lss .int (.t 14) (.t 13), guard := none }] false [] []) (.seq (.cond (.t 15) .skip (.exit 0))
   (.seq (.block 1 (.seq (.region 5 [{ dst := some 16, op := .mov (.t 14), guard := none }, { dst := some 5, op := .mov (.t 16), guard := none }] false [] [16]) (.seq (.seq
   (.region 6 [{ dst := some 17, op := .mov (.t 0), guard := none }, { dst := some 18, op := .mov (.t 5), guard := none },
   { dst := some 19, op := .ia 4 (.t 17) (.t 18), guard := none }, { dst := some 20, op := .fa (.t 19) 0 0, guard := none },
   { dst := some 21, op := .ld 1 false (.t 20), guard := none }, { dst := some 22, op := .mov (.t 1), guard := none }, { dst := some 23, op := .mov (.t 5), guard := none },
   { dst := some 24, op := .ia 4 (.t 22) (.t 23), guard := none }, { dst := some 25, op := .fa (.t 24) 0 0, guard := none },
   { dst := some 26, op := .ld 1 false (.t 25), guard := none }, { dst := some 27, op := .bin .neq .int (.t 21) (.t 26), guard := none },
   { dst := some 28, op := .mov (.t 27), guard := none }, { dst := some 29, op := .mov (.t 0), guard := some (28, false) },
   { dst := some 30, op := .mov (.t 5), guard := some (28, false) }, { dst := some 31, op := .ia 4 (.t 29) (.t 30), guard := some (28, false) },
   { dst := some 32, op := .fa (.t 31) 1 1, guard := some (28, false) }, { dst := some 33, op := .ld 1 false (.t 32), guard := some (28, false) },
   { dst := some 34, op := .mov (.t 1), guard := some (28, false) }, { dst := some 35, op := .mov (.t 5), guard := some (28, false) },
   { dst := some 36, op := .ia 4 (.t 34) (.t 35), guard := some (28, false) }, { dst := some 37, op := .fa (.t 36) 1 1, guard := some (28, false) },
   { dst := some 38, op := .ld 1 false (.t 37), guard := some (28, false) }, { dst := some 39, op := .bin .neq .str (.t 33) (.t 38), guard := some (28, false) },
   { dst := some 40, op := .pick (.t 28) (.c (.d (.bool true))) (.t 39), guard := none }, { dst := some 41, op := .mov (.t 40), guard := none },
   { dst := some 42, op := .mov (.t 0), guard := some (41, false) }, { dst := some 43, op := .mov (.t 5), guard := some (41, false) },
   { dst := some 44, op := .ia 4 (.t 42) (.t 43), guard := some (41, false) }, { dst := some 45, op := .fa (.t 44) 2 2, guard := some (41, false) },
   { dst := some 46, op := .ld 1 false (.t 45), guard := some (41, false) }, { dst := some 47, op := .mov (.t 1), guard := some (41, false) },
   { dst := some 48, op := .mov (.t 5), guard := some (41, false) }, { dst := some 49, op := .ia 4 (.t 47) (.t 48), guard := some (41, false) },
   { dst := some 50, op := .fa (.t 49) 2 2, guard := some (41, false) }, { dst := some 51, op := .ld 1 false (.t 50), guard := some (41, false) },
   { dst := some 52, op := .bin .neq .str (.t 46) (.t 51), guard := some (41, false) }, { dst := some 53, op := .pick (.t 41) (.c (.d (.bool true))) (.t 52), guard := none },
   { dst := some 54, op := .mov (.t 53), guard := none }, { dst := some 55, op := .mov (.t 0), guard := some (54, false) },
   { dst := some 56, op := .mov (.t 5), guard := some (54, false) }, { dst := some 57, op := .ia 4 (.t 55) (.t 56), guard := some (54, false) },
   { dst := some 58, op := .fa (.t 57) 3 3, guard := some (54, false) }, { dst := some 59, op := .ld 1 false (.t 58), guard := some (54, false) },
   { dst := some 60, op := .len .sl (.t 59), guard := some (54, false) }, { dst := some 61, op := .mov (.t 1), guard := some (54, false) },
   { dst := some 62, op := .mov (.t 5), guard := some (54, false) }, { dst := some 63, op := .ia 4 (.t 61) (.t 62), guard := some (54, false) },
   { dst := some 64, op := .fa (.t 63) 3 3, guard := some (54, false) }, { dst := some 65, op := .ld 1 false (.t 64), guard := some (54, false) },
   { dst := some 66, op := .len .sl (.t 65), guard := some (54, false) }, { dst := some 67, op := .bin .neq .int (.t 60) (.t 66), guard := some (54, false) },
   { dst := some 68, op := .pick (.t 54) (.c (.d (.bool true))) (.t 67), guard := none }] true [] [17, 18, 19, 20, 21, 22, 23, 24, 25, 26, 27, 28, 29, 30, 31, 32, 33, 34, 35, 36, 37, 38, 39, 40, 41, 42, 43, 44, 45, 46, 47, 48, 49, 50, 51, 52, 53, 54, 55, 56, 57, 58, 59, 60, 61, 62, 63, 64, 65, 66, 67])
   (.cond (.t 68) (.seq (.region 7 [{ dst := some 4, op := .mov (.c (.d (.bool false))), guard := none }] false [] []) .ret) .skip)) (.seq
   (.region 8 [{ dst := some 69, op := .mov (.t 0), guard := none }, { dst := some 70, op := .mov (.t 5), guard := none },
   { dst := some 71, op := .ia 4 (.t 69) (.t 70), guard := none }, { dst := some 72, op := .fa (.t 71) 3 3, guard := none },
   { dst := some 73, op := .ld 1 false (.t 72), guard := none }, { dst := some 74, op := .len .sl (.t 73), guard := none },
   { dst := some 75, op := .mov (.c (.d (.int .i64 0))), guard := none }] false [] [69, 70, 71, 72, 73]) (.block 2 (.loop s_backsteplaw51_same_l0))))))
   (.region 14 [{ dst := some 96, op := .bin .add .int (.t 14) (.c (.d (.int .i64 1))), guard := none }, { dst := some 14, op := .mov (.t 96), guard := none }] false [] [96]))))
def s_backsteplaw51_same : SFunc := { nparams := 2, ntmps := 97, code := (.seq (.region 0 [{ dst := some 4, op := .mov (.c (.d (.bool false))), guard := none }] false [] []) (.seq
   (.seq (.region 1 [{ dst := some 7, op := .mov (.t 0), guard := none }, { dst := some 8, op := .len .sl (.t 7), guard := none },
   { dst := some 9, op := .mov (.t 1), guard := none }, { dst := some 10, op := .len .sl (.t 9), guard := none },
   { dst := some 11, op := .bin .neq .int (.t 8) (.t 10), guard := none }] false [] [7, 8, 9, 10]) (.cond (.t 11) (.seq
   (.region 2 [{ dst := some 4, op := .mov (.c (.d (.bool false))), guard := none }] false [] []) .ret) .skip)) (.seq (.seq
   (.region 3 [{ dst := some 12, op := .mov (.t 0), guard := none }, { dst := some 13, op := .len .sl (.t 12), guard := none },
   { dst := some 14, op := .mov (.c (.d (.int .i64 0))), guard := none }] false [] [12]) (.block 0 (.loop s_backsteplaw51_same_l1))) (.seq
   (.region 15 [{ dst := some 4, op := .mov (.c (.d (.bool true))), guard := none }] false [] []) .ret)))), results := [.tmp 4] }
theorem c_backsteplaw51_same : cFunc Tryd.prog 15 (dropOf [(1, [7, 8, 9, 10]), (3, [12]), (5, [16]), (6, [17, 18, 19, 20, 21, 22, 23, 24, 25, 26, 27, 28, 29, 30, 31, 32, 33, 34, 35, 36, 37, 38, 39, 40, 41, 42, 43, 44, 45, 46, 47, 48, 49, 50, 51, 52, 53, 54, 55, 56, 57, 58, 59, 60, 61, 62, 63, 64, 65, 66, 67]), (8, [69, 70, 71, 72, 73]), (10, [77]), (11, [78, 79, 80, 81, 82, 83, 84, 85, 86, 87, 88, 89, 90, 91, 92, 93]), (13, [95]), (14, [96])]) = some s_backsteplaw51_same := by kernel_rfl

-- backstep/backsteplaw51.plain
def s_backsteplaw51_plain_l0 : SCode := (.seq (.seq (.region 3 [{ dst := some 5, op := .mov (.t 4), guard := none }, { dst := some 6, op := .mov (.t 0), guard := none },
   { dst := some 7, op := .len .sl (.t 6), guard := none }, { dst := some 8, op := .bin .lss .int (.t 5) (.t 7), guard := none }] false [] [5, 6, 7])
   (.cond (.t 8) .skip (.exit 0))) (.seq (.block 1 (.region 5 [{ dst := some 11, op := .mov (.t 3), guard := none }, { dst := some 12, op := .mov (.t 0), guard := none },
   { dst := some 13, op := .mov (.t 4), guard := none }, { dst := some 14, op := .ia 4 (.t 12) (.t 13), guard := none },
   { dst := some 15, op := .ld 4 true (.t 14), guard := none }, { dst := some 16, op := .bsl 42 4 1 [.t 15], guard := none },
   { dst := some 17, op := .app 42 4 64 (.t 11) (.t 16), guard := none }, { dst := some 3, op := .mov (.t 17), guard := none }] false [] [11, 12, 13, 14, 15, 16, 17]))
   (.region 4 [{ dst := some 9, op := .mov (.t 4), guard := none }, { dst := some 10, op := .bin .add .int (.t 9) (.c (.d (.int .i64 1))), guard := none },
   { dst := some 4, op := .mov (.t 10), guard := none }] false [] [9, 10])))
def s_backsteplaw51_plain : SFunc := { nparams := 1, ntmps := 19, code := (.seq (.region 0 [{ dst := some 2, op := .nilrow 42 4, guard := none }] false [] []) (.seq
   (.region 1 [{ dst := some 3, op := .nilrow 42 4, guard := none }] false [] []) (.seq (.seq
   (.region 2 [{ dst := some 4, op := .mov (.c (.d (.int .i64 0))), guard := none }] false [] []) (.block 0 (.loop s_backsteplaw51_plain_l0))) (.seq
   (.region 6 [{ dst := some 18, op := .mov (.t 3), guard := none }, { dst := some 2, op := .mov (.t 18), guard := none }] false [] [18]) .ret)))), results := [.tmp 2] }
theorem c_backsteplaw51_plain : cFunc Tryd.prog 16 (dropOf [(3, [5, 6, 7]), (5, [11, 12, 13, 14, 15, 16, 17]), (4, [9, 10]), (6, [18])]) = some s_backsteplaw51_plain := by kernel_rfl

-- (*strings.Builder).WriteString
def s_strings_Builder_WriteString : SFunc := { nparams := 2, ntmps := 19, code := (.seq (.region 0 [{ dst := some 4, op := .mov (.c (.d (.int .i64 0))), guard := none },
   { dst := some 5, op := .mov (.c (.d .nilif)), guard := none }] false [] []) (.seq (.region 1 [{ dst := some 6, op := .mov (.t 0), guard := none },
   { dst := some 7, op := .call 30 [.t 6], guard := none }] false [] [6, 7]) (.seq (.region 2 [{ dst := some 8, op := .mov (.t 0), guard := none },
   { dst := some 9, op := .mov (.t 0), guard := none }, { dst := some 10, op := .nilc (.t 9), guard := none }, { dst := some 11, op := .fa (.t 10) 1 1, guard := none },
   { dst := some 12, op := .ld 1 false (.t 11), guard := none }, { dst := some 13, op := .mov (.t 1), guard := none },
   { dst := some 14, op := .app 5 1 1 (.t 12) (.t 13), guard := none }, { dst := some 15, op := .nilc (.t 8), guard := none },
   { dst := some 16, op := .fa (.t 15) 1 1, guard := none }, { dst := none, op := .st 1 (.t 16) (.t 14), guard := none }] false [] [8, 9, 10, 11, 12, 13, 14, 15, 16]) (.seq
   (.region 3 [{ dst := some 17, op := .mov (.t 1), guard := none }, { dst := some 18, op := .len .str (.t 17), guard := none },
   { dst := some 4, op := .mov (.t 18), guard := none }, { dst := some 5, op := .mov (.c (.d .nilif)), guard := none }] false [] [17, 18]) .ret)))), results := [.tmp 4, .tmp 5] }
theorem c_strings_Builder_WriteString : cFunc Tryd.prog 20 (dropOf [(1, [6, 7]), (2, [8, 9, 10, 11, 12, 13, 14, 15, 16]), (3, [17, 18])]) = some s_strings_Builder_WriteString := by kernel_rfl

-- backstep/script.valid
def s_script_valid : SFunc := { nparams := 1, ntmps := 77, code := (.seq (.region 0 [{ dst := some 1, op := .box 39 (.t 0), guard := none },
   { dst := some 2, op := .mov (.c (.d (.bool false))), guard := none }] false [] []) (.seq (.region 1 [{ dst := some 7, op := .fa (.t 1) 0 0, guard := none },
   { dst := some 8, op := .ld 1 false (.t 7), guard := none }, { dst := some 9, op := .call 17 [.t 8], guard := none }, { dst := some 6, op := .mov (.t 9), guard := none },
   { dst := some 10, op := .ext (.t 6) 0, guard := none }, { dst := some 11, op := .ext (.t 6) 1, guard := none }, { dst := some 12, op := .ext (.t 6) 2, guard := none },
   { dst := some 4, op := .alloc 48 (.d (.agg [.int .u8 0, .bool false, .int .i64 0, .bool false])), guard := none }, { dst := some 3, op := .mov (.t 10), guard := none },
   { dst := none, op := .st 4 (.t 4) (.t 11), guard := none }, { dst := some 5, op := .mov (.t 12), guard := none }] false [] [7, 8, 9, 6, 10, 11, 12, 3]) (.seq (.block 0 (.seq
   (.region 2 [{ dst := some 14, op := .mov (.t 5), guard := none }, { dst := some 15, op := .un .not (.t 14), guard := none },
   { dst := some 16, op := .mov (.t 15), guard := none }, { dst := some 17, op := .fa (.t 4) 1 1, guard := some (16, false) },
   { dst := some 18, op := .ld 1 false (.t 17), guard := some (16, false) }, { dst := some 19, op := .mov (.t 18), guard := some (16, false) },
   { dst := some 20, op := .fa (.t 1) 1 1, guard := some (19, true) }, { dst := some 21, op := .ld 1 false (.t 20), guard := some (19, true) },
   { dst := some 22, op := .call 32 [.t 21], guard := some (19, true) }, { dst := some 23, op := .un .not (.t 22), guard := some (19, true) },
   { dst := some 24, op := .pick (.t 19) (.t 23) (.c (.d (.bool false))), guard := some (16, false) },
   { dst := some 25, op := .pick (.t 16) (.c (.d (.bool true))) (.t 24), guard := none }, { dst := some 26, op := .mov (.t 25), guard := none },
   { dst := some 27, op := .fa (.t 4) 1 1, guard := some (26, false) }, { dst := some 28, op := .ld 1 false (.t 27), guard := some (26, false) },
   { dst := some 29, op := .un .not (.t 28), guard := some (26, false) }, { dst := some 30, op := .mov (.t 29), guard := some (26, false) },
   { dst := some 31, op := .fa (.t 1) 1 1, guard := some (30, true) }, { dst := some 32, op := .ld 1 false (.t 31), guard := some (30, true) },
   { dst := some 33, op := .bin .neq .str (.t 32) (.c (.d (.str []))), guard := some (30, true) },
   { dst := some 34, op := .pick (.t 30) (.t 33) (.c (.d (.bool false))), guard := some (26, false) },
   { dst := some 35, op := .pick (.t 26) (.c (.d (.bool true))) (.t 34), guard := none },
   { dst := some 13, op := .mov (.t 35), guard := none }] false [] [14, 15, 16, 17, 18, 19, 20, 21, 22, 23, 24, 25, 26, 27, 28, 29, 30, 31, 32, 33, 34, 35]) (.cond (.t 13) (.seq
   (.region 3 [{ dst := some 2, op := .mov (.c (.d (.bool false))), guard := none }] false [] []) .ret) (.seq (.region 4 [{ dst := some 37, op := .fa (.t 1) 3 3, guard := none },
   { dst := some 38, op := .ld 1 false (.t 37), guard := none }, { dst := some 39, op := .len .sl (.t 38), guard := none },
   { dst := some 40, op := .bin .gtr .int (.t 39) (.c (.d (.int .i64 4096))), guard := none }, { dst := some 41, op := .mov (.t 40), guard := none },
   { dst := some 42, op := .fa (.t 4) 2 2, guard := some (41, false) }, { dst := some 43, op := .ld 1 false (.t 42), guard := some (41, false) },
   { dst := some 44, op := .bin .neq .int (.t 43) (.c (.d (.int .i64 (-1)))), guard := some (41, false) }, { dst := some 45, op := .mov (.t 44), guard := some (41, false) },
   { dst := some 46, op := .fa (.t 1) 3 3, guard := some (45, true) }, { dst := some 47, op := .ld 1 false (.t 46), guard := some (45, true) },
   { dst := some 48, op := .len .sl (.t 47), guard := some (45, true) }, { dst := some 49, op := .fa (.t 4) 2 2, guard := some (45, true) },
   { dst := some 50, op := .ld 1 false (.t 49), guard := some (45, true) }, { dst := some 51, op := .bin .neq .int (.t 48) (.t 50), guard := some (45, true) },
   { dst := some 52, op := .pick (.t 45) (.t 51) (.c (.d (.bool false))), guard := some (41, false) },
   { dst := some 53, op := .pick (.t 41) (.c (.d (.bool true))) (.t 52), guard := none },
   { dst := some 36, op := .mov (.t 53), guard := none }] false [] [37, 38, 39, 40, 41, 42, 43, 44, 45, 46, 47, 48, 49, 50, 51, 52, 53]) (.cond (.t 36) (.seq
   (.region 5 [{ dst := some 2, op := .mov (.c (.d (.bool false))), guard := none }] false [] []) .ret) (.seq (.region 6 [{ dst := some 55, op := .fa (.t 4) 3 3, guard := none },
   { dst := some 56, op := .ld 1 false (.t 55), guard := none }, { dst := some 57, op := .un .not (.t 56), guard := none }, { dst := some 58, op := .mov (.t 57), guard := none },
   { dst := some 59, op := .fa (.t 1) 2 2, guard := some (58, true) }, { dst := some 60, op := .ld 1 false (.t 59), guard := some (58, true) },
   { dst := some 61, op := .bin .neq .str (.t 60) (.c (.d (.str []))), guard := some (58, true) },
   { dst := some 62, op := .pick (.t 58) (.t 61) (.c (.d (.bool false))), guard := none }, { dst := some 63, op := .mov (.t 62), guard := none },
   { dst := some 64, op := .fa (.t 1) 2 2, guard := some (63, false) }, { dst := some 65, op := .ld 1 false (.t 64), guard := some (63, false) },
   { dst := some 66, op := .len .str (.t 65), guard := some (63, false) }, { dst := some 67, op := .bin .gtr .int (.t 66) (.c (.d (.int .i64 65536))), guard := some (63, false) },
   { dst := some 68, op := .pick (.t 63) (.c (.d (.bool true))) (.t 67), guard := none },
   { dst := some 54, op := .mov (.t 68), guard := none }] false [] [55, 56, 57, 58, 59, 60, 61, 62, 63, 64, 65, 66, 67, 68]) (.cond (.t 54) (.seq
   (.region 7 [{ dst := some 2, op := .mov (.c (.d (.bool false))), guard := none }] false [] []) .ret) .skip))))))) (.seq
   (.region 8 [{ dst := some 69, op := .fa (.t 1) 2 2, guard := none }, { dst := some 70, op := .ld 1 false (.t 69), guard := none },
   { dst := some 71, op := .bin .eql .str (.t 70) (.c (.d (.str []))), guard := none }, { dst := some 72, op := .mov (.t 71), guard := none },
   { dst := some 73, op := .fa (.t 1) 2 2, guard := some (72, false) }, { dst := some 74, op := .ld 1 false (.t 73), guard := some (72, false) },
   { dst := some 75, op := .call 33 [.t 74, .c (.d (.str [10]))], guard := some (72, false) },
   { dst := some 76, op := .pick (.t 72) (.c (.d (.bool true))) (.t 75), guard := none },
   { dst := some 2, op := .mov (.t 76), guard := none }] false [] [69, 70, 71, 72, 73, 74, 75, 76]) .ret)))), results := [.tmp 2] }
theorem c_script_valid : cFunc Tryd.prog 23 (dropOf [(1, [7, 8, 9, 6, 10, 11, 12, 3]), (2, [14, 15, 16, 17, 18, 19, 20, 21, 22, 23, 24, 25, 26, 27, 28, 29, 30, 31, 32, 33, 34, 35]), (4, [37, 38, 39, 40, 41, 42, 43, 44, 45, 46, 47, 48, 49, 50, 51, 52, 53]), (6, [55, 56, 57, 58, 59, 60, 61, 62, 63, 64, 65, 66, 67, 68]), (8, [69, 70, 71, 72, 73, 74, 75, 76])]) = some s_script_valid := by kernel_rfl

-- backstep/script.one
def s_script_one : SFunc := { nparams := 2, ntmps := 55, code := (.seq
   (.region 0 [{ dst := some 4, op := .alloc 39 (.agg [.d (.int .u8 0), .d (.str []), .d (.str []), .nils]), guard := none },
   { dst := some 5, op := .mov (.c (.d (.str []))), guard := none }, { dst := some 6, op := .mov (.c (.d (.int .i64 0))), guard := none },
   { dst := some 7, op := .mov (.c (.d (.int .i64 0))), guard := none }] false [] []) (.seq (.seq (.region 1 [{ dst := some 14, op := .mov (.t 1), guard := none },
   { dst := some 15, op := .bin .geq .int (.t 14) (.c (.d (.int .i64 1000))), guard := none }] false [] [14]) (.cond (.t 15) (.seq
   (.region 2 [{ dst := some 16, op := .build [.d (.int .u8 0), .d (.str []), .d (.str []), .nils] [], guard := none }, { dst := none, op := .st 4 (.t 4) (.t 16), guard := none },
   { dst := some 5, op := .mov (.c (.d (.str []))), guard := none }, { dst := some 6, op := .mov (.c (.d (.int .i64 0))), guard := none },
   { dst := some 7, op := .mov (.c (.d (.int .i64 5))), guard := none }] false [] [16]) .ret) .skip)) (.seq (.region 3 [{ dst := some 18, op := .mov (.t 0), guard := none },
   { dst := some 19, op := .call 34 [.t 18, .c (.d (.str [10]))], guard := none }, { dst := some 17, op := .mov (.t 19), guard := none },
   { dst := some 20, op := .ext (.t 17) 0, guard := none }, { dst := some 21, op := .ext (.t 17) 1, guard := none }, { dst := some 22, op := .ext (.t 17) 2, guard := none },
   { dst := some 8, op := .mov (.t 20), guard := none }, { dst := some 9, op := .mov (.t 21), guard := none },
   { dst := some 10, op := .mov (.t 22), guard := none }] false [] [18, 19, 17, 20, 21, 22]) (.seq (.seq (.region 4 [{ dst := some 23, op := .mov (.t 10), guard := none },
   { dst := some 24, op := .un .not (.t 23), guard := none }] false [] [23]) (.cond (.t 24) (.seq
   (.region 5 [{ dst := some 25, op := .build [.d (.int .u8 0), .d (.str []), .d (.str []), .nils] [], guard := none }, { dst := none, op := .st 4 (.t 4) (.t 25), guard := none },
   { dst := some 5, op := .mov (.c (.d (.str []))), guard := none }, { dst := some 6, op := .mov (.c (.d (.int .i64 0))), guard := none },
   { dst := some 7, op := .mov (.c (.d (.int .i64 4))), guard := none }] false [] [25]) .ret) .skip)) (.seq (.region 6 [{ dst := some 27, op := .mov (.t 8), guard := none },
   { dst := some 28, op := .call 35 [.t 27], guard := none }, { dst := some 26, op := .mov (.t 28), guard := none }, { dst := some 29, op := .ext (.t 26) 0, guard := none },
   { dst := some 30, op := .ext (.t 26) 1, guard := none }, { dst := some 31, op := .ext (.t 26) 2, guard := none },
   { dst := some 11, op := .alloc 39 (.agg [.d (.int .u8 0), .d (.str []), .d (.str []), .nils]), guard := none }, { dst := none, op := .st 4 (.t 11) (.t 29), guard := none },
   { dst := some 12, op := .mov (.t 30), guard := none }, { dst := some 10, op := .mov (.t 31), guard := none }] false [] [27, 28, 26, 29, 30, 31]) (.seq (.seq
   (.region 7 [{ dst := some 32, op := .mov (.t 10), guard := none }, { dst := some 33, op := .un .not (.t 32), guard := none }] false [] [32]) (.cond (.t 33) (.seq
   (.region 8 [{ dst := some 34, op := .build [.d (.int .u8 0), .d (.str []), .d (.str []), .nils] [], guard := none }, { dst := none, op := .st 4 (.t 4) (.t 34), guard := none },
   { dst := some 5, op := .mov (.c (.d (.str []))), guard := none }, { dst := some 6, op := .mov (.c (.d (.int .i64 0))), guard := none },
   { dst := some 7, op := .mov (.c (.d (.int .i64 3))), guard := none }] false [] [34]) .ret) .skip)) (.seq (.region 9 [{ dst := some 36, op := .mov (.t 9), guard := none },
   { dst := some 37, op := .mov (.t 12), guard := none }, { dst := some 38, op := .call 36 [.t 36, .t 37], guard := none }, { dst := some 35, op := .mov (.t 38), guard := none },
   { dst := some 39, op := .ext (.t 35) 0, guard := none }, { dst := some 40, op := .ext (.t 35) 1, guard := none }, { dst := some 41, op := .ext (.t 35) 2, guard := none },
   { dst := some 13, op := .mov (.t 39), guard := none }, { dst := some 9, op := .mov (.t 40), guard := none },
   { dst := some 10, op := .mov (.t 41), guard := none }] false [] [36, 37, 38, 35, 39, 40, 41]) (.seq (.seq (.region 10 [{ dst := some 42, op := .mov (.t 10), guard := none },
   { dst := some 43, op := .un .not (.t 42), guard := none }] false [] [42]) (.cond (.t 43) (.seq
   (.region 11 [{ dst := some 44, op := .build [.d (.int .u8 0), .d (.str []), .d (.str []), .nils] [], guard := none }, { dst := none, op := .st 4 (.t 4) (.t 44), guard := none },
   { dst := some 5, op := .mov (.c (.d (.str []))), guard := none }, { dst := some 6, op := .mov (.c (.d (.int .i64 0))), guard := none },
   { dst := some 7, op := .mov (.c (.d (.int .i64 4))), guard := none }] false [] [44]) .ret) .skip)) (.seq (.region 12 [{ dst := some 45, op := .mov (.t 13), guard := none },
   { dst := some 46, op := .fa (.t 11) 2 2, guard := none }, { dst := none, op := .st 1 (.t 46) (.t 45), guard := none }] false [] [45, 46]) (.seq (.seq
   (.region 13 [{ dst := some 47, op := .ld 4 true (.t 11), guard := none }, { dst := some 48, op := .call 23 [.t 47], guard := none },
   { dst := some 49, op := .un .not (.t 48), guard := none }] false [] [47, 48]) (.cond (.t 49) (.seq
   (.region 14 [{ dst := some 50, op := .build [.d (.int .u8 0), .d (.str []), .d (.str []), .nils] [], guard := none }, { dst := none, op := .st 4 (.t 4) (.t 50), guard := none },
   { dst := some 5, op := .mov (.c (.d (.str []))), guard := none }, { dst := some 6, op := .mov (.c (.d (.int .i64 0))), guard := none },
   { dst := some 7, op := .mov (.c (.d (.int .i64 3))), guard := none }] false [] [50]) .ret) .skip)) (.seq
   (.region 15 [{ dst := some 51, op := .ld 4 true (.t 11), guard := none }, { dst := some 52, op := .mov (.t 9), guard := none },
   { dst := some 53, op := .mov (.t 12), guard := none }, { dst := some 54, op := .bin .add .int (.t 53) (.c (.d (.int .i64 1))), guard := none },
   { dst := none, op := .st 4 (.t 4) (.t 51), guard := none }, { dst := some 5, op := .mov (.t 52), guard := none }, { dst := some 6, op := .mov (.t 54), guard := none },
   { dst := some 7, op := .mov (.c (.d (.int .i64 0))), guard := none }] false [] [51, 52, 53, 54]) .ret))))))))))), results := [.cell 4 4 true, .tmp 5, .tmp 6, .tmp 7] }
theorem c_script_one : cFunc Tryd.prog 24 (dropOf [(1, [14]), (2, [16]), (3, [18, 19, 17, 20, 21, 22]), (4, [23]), (5, [25]), (6, [27, 28, 26, 29, 30, 31]), (7, [32]), (8, [34]), (9, [36, 37, 38, 35, 39, 40, 41]), (10, [42]), (11, [44]), (12, [45, 46]), (13, [47, 48]), (14, [50]), (15, [51, 52, 53, 54])]) = some s_script_one := by kernel_rfl

-- backstep/script.shapes
def s_script_shapes : SFunc := { nparams := 0, ntmps := 17, code := (.seq (.region 0 [{ dst := some 0, op := .mov (.c (.d .nilmap)), guard := none }] false [] []) (.seq
   (.region 1 [{ dst := some 1, op := .mkm, guard := none },
   { dst := some 2, op := .build [.d (.int .u8 0), .d (.bool false), .d (.int .i64 0), .d (.bool false)] [(0, .c (.d (.int .u8 1))), (1, .c (.d (.bool false))), (2, .c (.d (.int .i64 0))), (3, .c (.d (.bool true)))], guard := none },
   { dst := none, op := .mu .str (.t 1) (.c (.d (.str [108, 111, 97, 100]))) (.t 2), guard := none },
   { dst := some 3, op := .build [.d (.int .u8 0), .d (.bool false), .d (.int .i64 0), .d (.bool false)] [(0, .c (.d (.int .u8 2))), (1, .c (.d (.bool false))), (2, .c (.d (.int .i64 (-1)))), (3, .c (.d (.bool false)))], guard := none },
   { dst := none, op := .mu .str (.t 1) (.c (.d (.str [105, 110, 112, 117, 116]))) (.t 3), guard := none },
   { dst := some 4, op := .build [.d (.int .u8 0), .d (.bool false), .d (.int .i64 0), .d (.bool false)] [(0, .c (.d (.int .u8 3))), (1, .c (.d (.bool false))), (2, .c (.d (.int .i64 1))), (3, .c (.d (.bool false)))], guard := none },
   { dst := none, op := .mu .str (.t 1) (.c (.d (.str [114, 117, 110]))) (.t 4), guard := none },
   { dst := some 5, op := .build [.d (.int .u8 0), .d (.bool false), .d (.int .i64 0), .d (.bool false)] [(0, .c (.d (.int .u8 4))), (1, .c (.d (.bool false))), (2, .c (.d (.int .i64 1))), (3, .c (.d (.bool false)))], guard := none },
   { dst := none, op := .mu .str (.t 1) (.c (.d (.str [98, 97, 99, 107]))) (.t 5), guard := none },
   { dst := some 6, op := .build [.d (.int .u8 0), .d (.bool false), .d (.int .i64 0), .d (.bool false)] [(0, .c (.d (.int .u8 5))), (1, .c (.d (.bool false))), (2, .c (.d (.int .i64 0))), (3, .c (.d (.bool false)))], guard := none },
   { dst := none, op := .mu .str (.t 1) (.c (.d (.str [99, 104, 101, 99, 107]))) (.t 6), guard := none },
   { dst := some 7, op := .build [.d (.int .u8 0), .d (.bool false), .d (.int .i64 0), .d (.bool false)] [(0, .c (.d (.int .u8 6))), (1, .c (.d (.bool false))), (2, .c (.d (.int .i64 0))), (3, .c (.d (.bool false)))], guard := none },
   { dst := none, op := .mu .str (.t 1) (.c (.d (.str [105, 110, 118, 101, 114, 116]))) (.t 7), guard := none },
   { dst := some 8, op := .build [.d (.int .u8 0), .d (.bool false), .d (.int .i64 0), .d (.bool false)] [(0, .c (.d (.int .u8 7))), (1, .c (.d (.bool false))), (2, .c (.d (.int .i64 0))), (3, .c (.d (.bool false)))], guard := none },
   { dst := none, op := .mu .str (.t 1) (.c (.d (.str [99, 111, 109, 112, 105, 108, 101]))) (.t 8), guard := none },
   { dst := some 9, op := .build [.d (.int .u8 0), .d (.bool false), .d (.int .i64 0), .d (.bool false)] [(0, .c (.d (.int .u8 8))), (1, .c (.d (.bool false))), (2, .c (.d (.int .i64 1))), (3, .c (.d (.bool false)))], guard := none },
   { dst := none, op := .mu .str (.t 1) (.c (.d (.str [115, 116, 101, 112]))) (.t 9), guard := none },
   { dst := some 10, op := .build [.d (.int .u8 0), .d (.bool false), .d (.int .i64 0), .d (.bool false)] [(0, .c (.d (.int .u8 9))), (1, .c (.d (.bool false))), (2, .c (.d (.int .i64 0))), (3, .c (.d (.bool false)))], guard := none },
   { dst := none, op := .mu .str (.t 1) (.c (.d (.str [115, 104, 111, 119]))) (.t 10), guard := none },
   { dst := some 11, op := .build [.d (.int .u8 0), .d (.bool false), .d (.int .i64 0), .d (.bool false)] [(0, .c (.d (.int .u8 10))), (1, .c (.d (.bool false))), (2, .c (.d (.int .i64 0))), (3, .c (.d (.bool true)))], guard := none },
   { dst := none, op := .mu .str (.t 1) (.c (.d (.str [102, 117, 110, 99, 116, 105, 111, 110, 115]))) (.t 11), guard := none },
   { dst := some 12, op := .build [.d (.int .u8 0), .d (.bool false), .d (.int .i64 0), .d (.bool false)] [(0, .c (.d (.int .u8 11))), (1, .c (.d (.bool true))), (2, .c (.d (.int .i64 (-1)))), (3, .c (.d (.bool false)))], guard := none },
   { dst := none, op := .mu .str (.t 1) (.c (.d (.str [101, 118, 97, 108, 117, 97, 116, 101]))) (.t 12), guard := none },
   { dst := some 13, op := .build [.d (.int .u8 0), .d (.bool false), .d (.int .i64 0), .d (.bool false)] [(0, .c (.d (.int .u8 12))), (1, .c (.d (.bool true))), (2, .c (.d (.int .i64 4))), (3, .c (.d (.bool true)))], guard := none },
   { dst := none, op := .mu .str (.t 1) (.c (.d (.str [115, 117, 98, 109, 105, 116]))) (.t 13), guard := none },
   { dst := some 14, op := .build [.d (.int .u8 0), .d (.bool false), .d (.int .i64 0), .d (.bool false)] [(0, .c (.d (.int .u8 13))), (1, .c (.d (.bool false))), (2, .c (.d (.int .i64 0))), (3, .c (.d (.bool false)))], guard := none },
   { dst := none, op := .mu .str (.t 1) (.c (.d (.str [117, 110, 100, 111]))) (.t 14), guard := none },
   { dst := some 15, op := .build [.d (.int .u8 0), .d (.bool false), .d (.int .i64 0), .d (.bool false)] [(0, .c (.d (.int .u8 14))), (1, .c (.d (.bool true))), (2, .c (.d (.int .i64 0))), (3, .c (.d (.bool false)))], guard := none },
   { dst := none, op := .mu .str (.t 1) (.c (.d (.str [112, 111, 105, 110, 116, 115]))) (.t 15), guard := none }, { dst := some 16, op := .mov (.t 1), guard := none },
   { dst := some 0, op := .mov (.t 16), guard := none }] false [] [1, 2, 3, 4, 5, 6, 7, 8, 9, 10, 11, 12, 13, 14, 15, 16]) .ret)), results := [.tmp 0] }
theorem c_script_shapes : cFunc Tryd.prog 25 (dropOf [(1, [1, 2, 3, 4, 5, 6, 7, 8, 9, 10, 11, 12, 13, 14, 15, 16])]) = some s_script_shapes := by kernel_rfl

-- backstep/lexer.Name
def s_lexer_Name : SFunc := { nparams := 1, ntmps := 30, code := (.seq (.region 0 [{ dst := some 2, op := .mov (.c (.d (.bool false))), guard := none }] false [] []) (.seq (.seq
   (.region 1 [{ dst := some 5, op := .mov (.t 0), guard := none }, { dst := some 6, op := .len .str (.t 5), guard := none },
   { dst := some 7, op := .bin .eql .int (.t 6) (.c (.d (.int .i64 0))), guard := none }, { dst := some 8, op := .mov (.t 7), guard := none },
   { dst := some 9, op := .mov (.t 0), guard := some (8, false) }, { dst := some 10, op := .len .str (.t 9), guard := some (8, false) },
   { dst := some 11, op := .bin .gtr .int (.t 10) (.c (.d (.int .i64 16))), guard := some (8, false) },
   { dst := some 12, op := .pick (.t 8) (.c (.d (.bool true))) (.t 11), guard := none }, { dst := some 13, op := .mov (.t 12), guard := none },
   { dst := some 14, op := .mov (.t 0), guard := some (13, false) }, { dst := some 15, op := .call 41 [.t 14], guard := some (13, false) },
   { dst := some 16, op := .pick (.t 13) (.c (.d (.bool true))) (.t 15), guard := none }] false [] [5, 6, 7, 8, 9, 10, 11, 12, 13, 14, 15]) (.cond (.t 16) (.seq
   (.region 2 [{ dst := some 2, op := .mov (.c (.d (.bool false))), guard := none }] false [] []) .ret) .skip)) (.seq
   (.region 3 [{ dst := some 18, op := .mov (.t 0), guard := none }, { dst := some 19, op := .call 42 [.t 18], guard := none },
   { dst := some 17, op := .mov (.t 19), guard := none }, { dst := some 20, op := .ext (.t 17) 0, guard := none }, { dst := some 21, op := .ext (.t 17) 1, guard := none },
   { dst := some 3, op := .mov (.t 20), guard := none }, { dst := some 4, op := .mov (.t 21), guard := none }] false [] [18, 19, 17, 20, 21]) (.seq
   (.region 4 [{ dst := some 22, op := .mov (.t 3), guard := none }, { dst := some 23, op := .bin .eql .int (.t 22) (.c (.d (.int .u8 1))), guard := none },
   { dst := some 24, op := .mov (.t 23), guard := none }, { dst := some 25, op := .mov (.t 4), guard := some (24, true) },
   { dst := some 26, op := .mov (.t 0), guard := some (24, true) }, { dst := some 27, op := .len .str (.t 26), guard := some (24, true) },
   { dst := some 28, op := .bin .eql .int (.t 25) (.t 27), guard := some (24, true) }, { dst := some 29, op := .pick (.t 24) (.t 28) (.c (.d (.bool false))), guard := none },
   { dst := some 2, op := .mov (.t 29), guard := none }] false [] [22, 23, 24, 25, 26, 27, 28, 29]) .ret)))), results := [.tmp 2] }
theorem c_lexer_Name : cFunc Tryd.prog 32 (dropOf [(1, [5, 6, 7, 8, 9, 10, 11, 12, 13, 14, 15]), (3, [18, 19, 17, 20, 21]), (4, [22, 23, 24, 25, 26, 27, 28, 29])]) = some s_lexer_Name := by kernel_rfl

-- backstep/script.first
def s_script_first_l0 : SCode := (.seq (.region 12 [{ dst := some 52, op := .bin .lss .int (.t 51) (.t 50), guard := none }] false [] []) (.seq (.cond (.t 52) .skip (.exit 0))
   (.seq (.block 1 (.seq (.region 13 [{ dst := some 53, op := .ia 1 (.t 49) (.t 51), guard := none }, { dst := some 54, op := .ld 1 false (.t 53), guard := none },
   { dst := some 11, op := .mov (.t 54), guard := none }] false [] [53, 54]) (.seq (.region 14 [{ dst := some 56, op := .mov (.t 11), guard := none },
   { dst := some 57, op := .call 46 [.t 56], guard := none }, { dst := some 55, op := .mov (.t 57), guard := none }, { dst := some 58, op := .ext (.t 55) 0, guard := none },
   { dst := some 59, op := .ext (.t 55) 1, guard := none }, { dst := some 12, op := .mov (.t 58), guard := none },
   { dst := some 13, op := .mov (.t 59), guard := none }] false [] [56, 57, 55, 58, 59]) (.seq (.seq (.region 15 [{ dst := some 60, op := .mov (.t 13), guard := none },
   { dst := some 61, op := .bin .neq .ifc (.t 60) (.c (.d .nilif)), guard := none }, { dst := some 62, op := .mov (.t 61), guard := none },
   { dst := some 63, op := .mov (.t 12), guard := some (62, false) }, { dst := some 64, op := .call 18 [.t 63], guard := some (62, false) },
   { dst := some 65, op := .mov (.t 11), guard := some (62, false) }, { dst := some 66, op := .bin .neq .str (.t 64) (.t 65), guard := some (62, false) },
   { dst := some 67, op := .pick (.t 62) (.c (.d (.bool true))) (.t 66), guard := none }] false [] [60, 61, 62, 63, 64, 65, 66]) (.cond (.t 67) (.seq
   (.region 16 [{ dst := some 68, op := .ld 4 true (.t 8), guard := none }, { dst := none, op := .st 4 (.t 2) (.t 68), guard := none },
   { dst := some 3, op := .mov (.c (.d (.int .i64 0))), guard := none }, { dst := some 4, op := .mov (.c (.d (.bool false))), guard := none }] false [] [68]) .ret) .skip))
   (.region 17 [{ dst := some 69, op := .mov (.t 9), guard := none }, { dst := some 70, op := .mov (.t 12), guard := none },
   { dst := some 71, op := .bsl 3 1 1 [.t 70], guard := none }, { dst := some 72, op := .app 3 1 8 (.t 69) (.t 71), guard := none },
   { dst := some 9, op := .mov (.t 72), guard := none }] false [] [69, 70, 71, 72])))))
   (.region 18 [{ dst := some 73, op := .bin .add .int (.t 51) (.c (.d (.int .i64 1))), guard := none }, { dst := some 51, op := .mov (.t 73), guard := none }] false [] [73]))))
def s_script_first : SFunc := { nparams := 1, ntmps := 117, code := (.seq
   (.region 0 [{ dst := some 2, op := .alloc 39 (.agg [.d (.int .u8 0), .d (.str []), .d (.str []), .nils]), guard := none },
   { dst := some 3, op := .mov (.c (.d (.int .i64 0))), guard := none }, { dst := some 4, op := .mov (.c (.d (.bool false))), guard := none }] false [] []) (.seq
   (.region 1 [{ dst := some 15, op := .mov (.t 0), guard := none }, { dst := some 16, op := .call 45 [.t 15, .c (.d (.str [32]))], guard := none },
   { dst := some 5, op := .mov (.t 16), guard := none }] false [] [15, 16]) (.seq (.region 2 [{ dst := some 18, op := .call 25 [], guard := none },
   { dst := some 19, op := .mov (.t 5), guard := none }, { dst := some 20, op := .ia 1 (.t 19) (.c (.d (.int .i64 0))), guard := none },
   { dst := some 21, op := .ld 1 false (.t 20), guard := none },
   { dst := some 22, op := .lk .str (.d (.agg [.int .u8 0, .bool false, .int .i64 0, .bool false])) (.t 18) (.t 21) true, guard := none },
   { dst := some 17, op := .mov (.t 22), guard := none }, { dst := some 23, op := .ext (.t 17) 0, guard := none }, { dst := some 24, op := .ext (.t 17) 1, guard := none },
   { dst := some 6, op := .alloc 48 (.d (.agg [.int .u8 0, .bool false, .int .i64 0, .bool false])), guard := none }, { dst := none, op := .st 4 (.t 6) (.t 23), guard := none },
   { dst := some 7, op := .mov (.t 24), guard := none }] true [(0, 1), (0, 2), (0, 3), (0, 8), (1, 8), (2, 8), (3, 8), (4, 8), (5, 8), (6, 8), (7, 8), (7, 9)] [18, 19, 20, 21, 22, 17, 23, 24])
   (.seq (.region 3 [{ dst := some 25, op := .fa (.t 6) 0 0, guard := none }, { dst := some 26, op := .ld 1 false (.t 25), guard := none },
   { dst := some 27, op := .build [.d (.int .u8 0), .d (.str []), .d (.str []), .nils] [(0, .t 26)], guard := none },
   { dst := some 8, op := .alloc 39 (.agg [.d (.int .u8 0), .d (.str []), .d (.str []), .nils]), guard := none },
   { dst := none, op := .st 4 (.t 8) (.t 27), guard := none }] false [] [25, 26, 27]) (.seq (.region 4 [{ dst := some 28, op := .mov (.t 5), guard := none },
   { dst := some 29, op := .slL 1 (.t 28) (some (.c (.d (.int .i64 1)))) none, guard := none }, { dst := some 5, op := .mov (.t 29), guard := none }] false [] [28, 29]) (.seq (.seq
   (.region 5 [{ dst := some 30, op := .fa (.t 6) 1 1, guard := none }, { dst := some 31, op := .ld 1 false (.t 30), guard := none }] false [] [30]) (.cond (.t 31) (.seq (.seq
   (.region 6 [{ dst := some 32, op := .mov (.t 5), guard := none }, { dst := some 33, op := .len .sl (.t 32), guard := none },
   { dst := some 34, op := .bin .eql .int (.t 33) (.c (.d (.int .i64 0))), guard := none }, { dst := some 35, op := .mov (.t 34), guard := none },
   { dst := some 36, op := .mov (.t 5), guard := some (35, false) }, { dst := some 37, op := .ia 1 (.t 36) (.c (.d (.int .i64 0))), guard := some (35, false) },
   { dst := some 38, op := .ld 1 false (.t 37), guard := some (35, false) }, { dst := some 39, op := .call 32 [.t 38], guard := some (35, false) },
   { dst := some 40, op := .un .not (.t 39), guard := some (35, false) },
   { dst := some 41, op := .pick (.t 35) (.c (.d (.bool true))) (.t 40), guard := none }] false [] [32, 33, 34, 35, 36, 37, 38, 39, 40]) (.cond (.t 41) (.seq
   (.region 7 [{ dst := some 42, op := .ld 4 true (.t 8), guard := none }, { dst := none, op := .st 4 (.t 2) (.t 42), guard := none },
   { dst := some 3, op := .mov (.c (.d (.int .i64 0))), guard := none }, { dst := some 4, op := .mov (.c (.d (.bool false))), guard := none }] false [] [42]) .ret) .skip)) (.seq
   (.region 8 [{ dst := some 43, op := .mov (.t 5), guard := none }, { dst := some 44, op := .ia 1 (.t 43) (.c (.d (.int .i64 0))), guard := none },
   { dst := some 45, op := .ld 1 false (.t 44), guard := none }, { dst := some 46, op := .fa (.t 8) 1 1, guard := none },
   { dst := none, op := .st 1 (.t 46) (.t 45), guard := none }] false [] [43, 44, 45, 46]) (.region 9 [{ dst := some 47, op := .mov (.t 5), guard := none },
   { dst := some 48, op := .slL 1 (.t 47) (some (.c (.d (.int .i64 1)))) none, guard := none }, { dst := some 5, op := .mov (.t 48), guard := none }] false [] [47, 48]))) .skip))
   (.seq (.region 10 [{ dst := some 9, op := .nilrow 3 1, guard := none }] false [] []) (.seq (.seq (.region 11 [{ dst := some 49, op := .mov (.t 5), guard := none },
   { dst := some 50, op := .len .sl (.t 49), guard := none }, { dst := some 51, op := .mov (.c (.d (.int .i64 0))), guard := none }] false [] [])
   (.block 0 (.loop s_script_first_l0))) (.seq (.region 19 [{ dst := some 14, op := .mov (.c (.d (.int .i64 0))), guard := none }] false [] []) (.seq (.seq
   (.region 20 [{ dst := some 74, op := .fa (.t 6) 3 3, guard := none }, { dst := some 75, op := .ld 1 false (.t 74), guard := none }] false [] [74]) (.cond (.t 75) (.seq (.seq
   (.region 21 [{ dst := some 76, op := .mov (.t 9), guard := none }, { dst := some 77, op := .len .sl (.t 76), guard := none },
   { dst := some 78, op := .bin .eql .int (.t 77) (.c (.d (.int .i64 0))), guard := none }, { dst := some 79, op := .mov (.t 78), guard := none },
   { dst := some 80, op := .mov (.t 9), guard := some (79, false) }, { dst := some 81, op := .mov (.t 9), guard := some (79, false) },
   { dst := some 82, op := .len .sl (.t 81), guard := some (79, false) }, { dst := some 83, op := .bin .sub .int (.t 82) (.c (.d (.int .i64 1))), guard := some (79, false) },
   { dst := some 84, op := .ia 1 (.t 80) (.t 83), guard := some (79, false) }, { dst := some 85, op := .ld 1 false (.t 84), guard := some (79, false) },
   { dst := some 86, op := .bin .lss .int (.t 85) (.c (.d (.int .i64 0))), guard := some (79, false) },
   { dst := some 87, op := .pick (.t 79) (.c (.d (.bool true))) (.t 86), guard := none }] false [] [76, 77, 78, 79, 80, 81, 82, 83, 84, 85, 86]) (.cond (.t 87) (.seq
   (.region 22 [{ dst := some 88, op := .ld 4 true (.t 8), guard := none }, { dst := none, op := .st 4 (.t 2) (.t 88), guard := none },
   { dst := some 3, op := .mov (.c (.d (.int .i64 0))), guard := none }, { dst := some 4, op := .mov (.c (.d (.bool false))), guard := none }] false [] [88]) .ret) .skip)) (.seq
   (.region 23 [{ dst := some 89, op := .mov (.t 9), guard := none }, { dst := some 90, op := .mov (.t 9), guard := none },
   { dst := some 91, op := .len .sl (.t 90), guard := none }, { dst := some 92, op := .bin .sub .int (.t 91) (.c (.d (.int .i64 1))), guard := none },
   { dst := some 93, op := .ia 1 (.t 89) (.t 92), guard := none }, { dst := some 94, op := .ld 1 false (.t 93), guard := none },
   { dst := some 14, op := .mov (.t 94), guard := none }] false [] [89, 90, 91, 92, 93, 94]) (.region 24 [{ dst := some 95, op := .mov (.t 9), guard := none },
   { dst := some 96, op := .mov (.t 9), guard := none }, { dst := some 97, op := .len .sl (.t 96), guard := none },
   { dst := some 98, op := .bin .sub .int (.t 97) (.c (.d (.int .i64 1))), guard := none }, { dst := some 99, op := .slL 1 (.t 95) none (some (.t 98)), guard := none },
   { dst := some 9, op := .mov (.t 99), guard := none }] false [] [95, 96, 97, 98, 99]))) .skip)) (.seq (.region 25 [{ dst := some 100, op := .mov (.t 9), guard := none },
   { dst := some 101, op := .fa (.t 8) 3 3, guard := none }, { dst := none, op := .st 1 (.t 101) (.t 100), guard := none }] false [] [100, 101]) (.seq
   (.region 26 [{ dst := some 102, op := .ld 4 true (.t 8), guard := none }, { dst := some 103, op := .mov (.t 14), guard := none },
   { dst := some 104, op := .mov (.t 7), guard := none }, { dst := some 105, op := .mov (.t 104), guard := none },
   { dst := some 106, op := .fa (.t 6) 2 2, guard := some (105, true) }, { dst := some 107, op := .ld 1 false (.t 106), guard := some (105, true) },
   { dst := some 108, op := .bin .eql .int (.t 107) (.c (.d (.int .i64 (-1)))), guard := some (105, true) }, { dst := some 109, op := .mov (.t 108), guard := some (105, true) },
   { dst := some 110, op := .mov (.t 9), guard := some (109, false) }, { dst := some 111, op := .len .sl (.t 110), guard := some (109, false) },
   { dst := some 112, op := .fa (.t 6) 2 2, guard := some (109, false) }, { dst := some 113, op := .ld 1 false (.t 112), guard := some (109, false) },
   { dst := some 114, op := .bin .eql .int (.t 111) (.t 113), guard := some (109, false) },
   { dst := some 115, op := .pick (.t 109) (.c (.d (.bool true))) (.t 114), guard := some (105, true) },
   { dst := some 116, op := .pick (.t 105) (.t 115) (.c (.d (.bool false))), guard := none }, { dst := none, op := .st 4 (.t 2) (.t 102), guard := none },
   { dst := some 3, op := .mov (.t 103), guard := none },
   { dst := some 4, op := .mov (.t 116), guard := none }] true [(1, 15), (8, 15), (9, 15), (10, 15), (11, 15), (12, 15), (13, 15), (14, 15)] [102, 103, 104, 105, 106, 107, 108, 109, 110, 111, 112, 113, 114, 115, 116]) .ret)))))))))))), results := [.cell 2 4 true, .tmp 3, .tmp 4] }
theorem c_script_first : cFunc Tryd.prog 35 (dropOf [(1, [15, 16]), (2, [18, 19, 20, 21, 22, 17, 23, 24]), (3, [25, 26, 27]), (4, [28, 29]), (5, [30]), (6, [32, 33, 34, 35, 36, 37, 38, 39, 40]), (7, [42]), (8, [43, 44, 45, 46]), (9, [47, 48]), (13, [53, 54]), (14, [56, 57, 55, 58, 59]), (15, [60, 61, 62, 63, 64, 65, 66]), (16, [68]), (17, [69, 70, 71, 72]), (18, [73]), (20, [74]), (21, [76, 77, 78, 79, 80, 81, 82, 83, 84, 85, 86]), (22, [88]), (23, [89, 90, 91, 92, 93, 94]), (24, [95, 96, 97, 98, 99]), (25, [100, 101]), (26, [102, 103, 104, 105, 106, 107, 108, 109, 110, 111, 112, 113, 114, 115, 116])]) = some s_script_first := by kernel_rfl

-- backstep/script.cut
def s_script_cut_l0 : SCode := (.seq (.region 3 [{ dst := some 11, op := .bin .lss .int (.t 10) (.t 9), guard := none }] false [] []) (.seq (.cond (.t 11) .skip (.exit 0)) (.seq
   (.block 1 (.seq (.region 4 [{ dst := some 12, op := .mov (.t 0), guard := none }, { dst := some 13, op := .mov (.t 7), guard := none },
   { dst := some 14, op := .slS (.t 12) (some (.t 13)) none, guard := none }, { dst := some 15, op := .call 47 [.t 14, .c (.d (.int .u8 10))], guard := none },
   { dst := some 8, op := .mov (.t 15), guard := none }] false [] [12, 13, 14, 15]) (.seq (.seq (.region 5 [{ dst := some 16, op := .mov (.t 8), guard := none },
   { dst := some 17, op := .bin .lss .int (.t 16) (.c (.d (.int .i64 0))), guard := none }] false [] [16]) (.cond (.t 17) (.seq
   (.region 6 [{ dst := some 4, op := .mov (.c (.d (.str []))), guard := none }, { dst := some 5, op := .mov (.c (.d (.str []))), guard := none },
   { dst := some 6, op := .mov (.c (.d (.bool false))), guard := none }] false [] []) .ret) .skip)) (.region 7 [{ dst := some 18, op := .mov (.t 7), guard := none },
   { dst := some 19, op := .mov (.t 8), guard := none }, { dst := some 20, op := .bin .add .int (.t 19) (.c (.d (.int .i64 1))), guard := none },
   { dst := some 21, op := .bin .add .int (.t 18) (.t 20), guard := none }, { dst := some 7, op := .mov (.t 21), guard := none }] false [] [18, 19, 20, 21]))))
   (.region 8 [{ dst := some 22, op := .bin .add .int (.t 10) (.c (.d (.int .i64 1))), guard := none }, { dst := some 10, op := .mov (.t 22), guard := none }] false [] [22]))))
def s_script_cut : SFunc := { nparams := 2, ntmps := 29, code := (.seq (.region 0 [{ dst := some 4, op := .mov (.c (.d (.str []))), guard := none },
   { dst := some 5, op := .mov (.c (.d (.str []))), guard := none }, { dst := some 6, op := .mov (.c (.d (.bool false))), guard := none }] false [] []) (.seq
   (.region 1 [{ dst := some 7, op := .mov (.c (.d (.int .i64 0))), guard := none }] false [] []) (.seq (.seq (.region 2 [{ dst := some 9, op := .mov (.t 1), guard := none },
   { dst := some 10, op := .mov (.c (.d (.int .i64 0))), guard := none }] false [] []) (.block 0 (.loop s_script_cut_l0))) (.seq
   (.region 9 [{ dst := some 23, op := .mov (.t 0), guard := none }, { dst := some 24, op := .mov (.t 7), guard := none },
   { dst := some 25, op := .slS (.t 23) none (some (.t 24)), guard := none }, { dst := some 26, op := .mov (.t 0), guard := none },
   { dst := some 27, op := .mov (.t 7), guard := none }, { dst := some 28, op := .slS (.t 26) (some (.t 27)) none, guard := none },
   { dst := some 4, op := .mov (.t 25), guard := none }, { dst := some 5, op := .mov (.t 28), guard := none },
   { dst := some 6, op := .mov (.c (.d (.bool true))), guard := none }] true [] [23, 24, 25, 26, 27, 28]) .ret)))), results := [.tmp 4, .tmp 5, .tmp 6] }
theorem c_script_cut : cFunc Tryd.prog 36 (dropOf [(4, [12, 13, 14, 15]), (5, [16]), (7, [18, 19, 20, 21]), (8, [22]), (9, [23, 24, 25, 26, 27, 28])]) = some s_script_cut := by kernel_rfl

-- backstep/lexer.Keyword
def s_lexer_Keyword : SFunc := { nparams := 1, ntmps := 6, code := (.seq (.region 0 [{ dst := some 2, op := .mov (.c (.d (.bool false))), guard := none }] false [] []) (.seq
   (.region 1 [{ dst := some 3, op := .call 57 [], guard := none }, { dst := some 4, op := .mov (.t 0), guard := none },
   { dst := some 5, op := .lk .str (.d (.bool false)) (.t 3) (.t 4) false, guard := none },
   { dst := some 2, op := .mov (.t 5), guard := none }] false [] [3, 4, 5]) .ret)), results := [.tmp 2] }
theorem c_lexer_Keyword : cFunc Tryd.prog 41 (dropOf [(1, [3, 4, 5])]) = some s_lexer_Keyword := by kernel_rfl

-- backstep/lexer.next
def s_lexer_next_l0 : SCode := (.seq (.region 11 [{ dst := some 32, op := .bin .lss .int (.t 31) (.t 30), guard := none }] false [] []) (.seq (.cond (.t 32) .skip (.exit 1)) (.seq
   (.block 2 (.seq (.region 12 [{ dst := some 33, op := .ia 1 (.t 29) (.t 31), guard := none }, { dst := some 34, op := .ld 1 false (.t 33), guard := none },
   { dst := some 6, op := .mov (.t 34), guard := none }] false [] [33, 34]) (.seq (.region 13 [{ dst := some 35, op := .mov (.t 0), guard := none },
   { dst := some 36, op := .mov (.t 6), guard := none }, { dst := some 37, op := .call 65 [.t 35, .t 36], guard := none }] false [] [35, 36]) (.cond (.t 37) (.seq
   (.region 14 [{ dst := some 38, op := .mov (.t 6), guard := none }, { dst := some 39, op := .len .str (.t 38), guard := none },
   { dst := some 2, op := .mov (.c (.d (.int .u8 3))), guard := none }, { dst := some 3, op := .mov (.t 39), guard := none }] false [] [38, 39]) .ret) .skip))))
   (.region 15 [{ dst := some 40, op := .bin .add .int (.t 31) (.c (.d (.int .i64 1))), guard := none }, { dst := some 31, op := .mov (.t 40), guard := none }] false [] [40]))))
def s_lexer_next : SFunc := { nparams := 1, ntmps := 41, code := (.seq (.region 0 [{ dst := some 2, op := .mov (.c (.d (.int .u8 0))), guard := none },
   { dst := some 3, op := .mov (.c (.d (.int .i64 0))), guard := none }] false [] []) (.seq (.seq (.region 1 [{ dst := some 7, op := .mov (.t 0), guard := none },
   { dst := some 8, op := .ixS (.t 7) (.c (.d (.int .i64 0))), guard := none }, { dst := some 4, op := .mov (.t 8), guard := none }] false [] [7, 8]) (.block 0 (.seq
   (.region 2 [{ dst := some 10, op := .mov (.t 4), guard := none }, { dst := some 11, op := .call 58 [.t 10], guard := none },
   { dst := some 9, op := .mov (.t 11), guard := none }] false [] [10, 11]) (.cond (.t 9) (.seq (.region 3 [{ dst := some 12, op := .mov (.t 0), guard := none },
   { dst := some 13, op := .call 59 [.t 12, .c (.d (.fn 60))], guard := none }, { dst := some 2, op := .mov (.c (.d (.int .u8 1))), guard := none },
   { dst := some 3, op := .mov (.t 13), guard := none }] false [] [12, 13]) .ret) (.seq (.region 4 [{ dst := some 15, op := .mov (.t 4), guard := none },
   { dst := some 16, op := .call 61 [.t 15], guard := none }, { dst := some 14, op := .mov (.t 16), guard := none }] false [] [15, 16]) (.cond (.t 14) (.seq
   (.region 5 [{ dst := some 17, op := .mov (.t 0), guard := none }, { dst := some 18, op := .call 59 [.t 17, .c (.d (.fn 61))], guard := none },
   { dst := some 2, op := .mov (.c (.d (.int .u8 2))), guard := none }, { dst := some 3, op := .mov (.t 18), guard := none }] false [] [17, 18]) .ret) (.seq
   (.region 6 [{ dst := some 20, op := .mov (.t 4), guard := none }, { dst := some 21, op := .call 62 [.t 20], guard := none },
   { dst := some 19, op := .mov (.t 21), guard := none }] false [] [20, 21]) (.cond (.t 19) (.seq (.region 7 [{ dst := some 22, op := .mov (.t 0), guard := none },
   { dst := some 23, op := .call 59 [.t 22, .c (.d (.fn 62))], guard := none }, { dst := some 2, op := .mov (.c (.d (.int .u8 4))), guard := none },
   { dst := some 3, op := .mov (.t 23), guard := none }] false [] [22, 23]) .ret) (.seq (.region 8 [{ dst := some 25, op := .mov (.t 4), guard := none },
   { dst := some 26, op := .bin .eql .int (.t 25) (.c (.d (.int .u8 35))), guard := none }, { dst := some 24, op := .mov (.t 26), guard := none }] false [] [25, 26]) (.cond (.t 24)
   (.seq (.region 9 [{ dst := some 27, op := .mov (.t 0), guard := none }, { dst := some 28, op := .call 59 [.t 27, .c (.d (.fn 63))], guard := none },
   { dst := some 2, op := .mov (.c (.d (.int .u8 5))), guard := none }, { dst := some 3, op := .mov (.t 28), guard := none }] false [] [27, 28]) .ret) .skip)))))))))) (.seq (.seq
   (.region 10 [{ dst := some 29, op := .call 64 [], guard := none }, { dst := some 30, op := .len .sl (.t 29), guard := none },
   { dst := some 31, op := .mov (.c (.d (.int .i64 0))), guard := none }] false [] []) (.block 1 (.loop s_lexer_next_l0))) (.seq
   (.region 16 [{ dst := some 2, op := .mov (.c (.d (.int .u8 0))), guard := none },
   { dst := some 3, op := .mov (.c (.d (.int .i64 0))), guard := none }] false [] []) .ret)))), results := [.tmp 2, .tmp 3] }
theorem c_lexer_next : cFunc Tryd.prog 42 (dropOf [(1, [7, 8]), (2, [10, 11]), (3, [12, 13]), (4, [15, 16]), (5, [17, 18]), (6, [20, 21]), (7, [22, 23]), (8, [25, 26]), (9, [27, 28]), (12, [33, 34]), (13, [35, 36]), (14, [38, 39]), (15, [40])]) = some s_lexer_next := by kernel_rfl

-- backstep/lexer.keywords
def s_lexer_keywords_l0 : SCode := (.seq (.region 3 [{ dst := some 8, op := .bin .lss .int (.t 7) (.t 6), guard := none }] false [] []) (.seq (.cond (.t 8) .skip (.exit 0)) (.seq
   (.block 1 (.seq (.region 4 [{ dst := some 9, op := .ia 1 (.t 5) (.t 7), guard := none }, { dst := some 10, op := .ld 1 false (.t 9), guard := none },
   { dst := some 3, op := .mov (.t 10), guard := none }] false [] [9, 10]) (.region 5 [{ dst := some 11, op := .mov (.t 1), guard := none },
   { dst := some 12, op := .mov (.t 3), guard := none }, { dst := none, op := .mu .str (.t 11) (.t 12) (.c (.d (.bool true))), guard := none }] false [] [11, 12])))
   (.region 6 [{ dst := some 13, op := .bin .add .int (.t 7) (.c (.d (.int .i64 1))), guard := none }, { dst := some 7, op := .mov (.t 13), guard := none }] false [] [13]))))
def s_lexer_keywords : SFunc := { nparams := 0, ntmps := 15, code := (.seq (.region 0 [{ dst := some 0, op := .mov (.c (.d .nilmap)), guard := none }] false [] []) (.seq
   (.region 1 [{ dst := some 4, op := .mkm, guard := none }, { dst := some 1, op := .mov (.t 4), guard := none }] false [] [4]) (.seq (.seq
   (.region 2 [{ dst := some 5, op := .call 76 [.c (.d (.str [105, 110, 116, 32, 97, 114, 114, 97, 121, 32, 115, 116, 97, 99, 107, 32, 112, 114, 111, 99, 32, 109, 97, 105, 110, 32, 112, 117, 115, 104, 32, 112, 111, 112, 32, 114, 101, 97, 100, 32, 117, 110, 114, 101, 97, 100, 32, 119, 114, 105, 116, 101, 32, 117, 110, 119, 114, 105, 116, 101, 32, 99, 97, 108, 108, 32, 117, 110, 99, 97, 108, 108, 32, 105, 102, 32, 101, 108, 115, 101, 32, 102, 105, 32, 102, 114, 111, 109, 32, 108, 111, 111, 112, 32, 117, 110, 116, 105, 108, 32, 108, 111, 99, 97, 108, 32, 100, 101, 108, 111, 99, 97, 108, 32, 116, 111, 112, 32, 115, 105, 122, 101]))], guard := none },
   { dst := some 6, op := .len .sl (.t 5), guard := none }, { dst := some 7, op := .mov (.c (.d (.int .i64 0))), guard := none }] false [] [])
   (.block 0 (.loop s_lexer_keywords_l0))) (.seq (.region 7 [{ dst := some 14, op := .mov (.t 1), guard := none },
   { dst := some 0, op := .mov (.t 14), guard := none }] false [] [14]) .ret)))), results := [.tmp 0] }
theorem c_lexer_keywords : cFunc Tryd.prog 57 (dropOf [(1, [4]), (4, [9, 10]), (5, [11, 12]), (6, [13]), (7, [14])]) = some s_lexer_keywords := by kernel_rfl

-- backstep/lexer.letter
def s_lexer_letter : SFunc := { nparams := 1, ntmps := 9, code := (.seq (.region 0 [{ dst := some 2, op := .mov (.c (.d (.bool false))), guard := none }] false [] []) (.seq
   (.region 1 [{ dst := some 3, op := .mov (.t 0), guard := none }, { dst := some 4, op := .bin .geq .int (.t 3) (.c (.d (.int .u8 97))), guard := none },
   { dst := some 5, op := .mov (.t 4), guard := none }, { dst := some 6, op := .mov (.t 0), guard := some (5, true) },
   { dst := some 7, op := .bin .leq .int (.t 6) (.c (.d (.int .u8 122))), guard := some (5, true) },
   { dst := some 8, op := .pick (.t 5) (.t 7) (.c (.d (.bool false))), guard := none },
   { dst := some 2, op := .mov (.t 8), guard := none }] false [] [3, 4, 5, 6, 7, 8]) .ret)), results := [.tmp 2] }
theorem c_lexer_letter : cFunc Tryd.prog 58 (dropOf [(1, [3, 4, 5, 6, 7, 8])]) = some s_lexer_letter := by kernel_rfl

-- backstep/lexer.span
def s_lexer_span_l0 : SCode := (.seq (.seq (.region 2 [{ dst := some 6, op := .mov (.t 5), guard := none }, { dst := some 7, op := .mov (.t 0), guard := none },
   { dst := some 8, op := .len .str (.t 7), guard := none }, { dst := some 9, op := .bin .lss .int (.t 6) (.t 8), guard := none },
   { dst := some 10, op := .mov (.t 9), guard := none }, { dst := some 11, op := .mov (.t 1), guard := some (10, true) },
   { dst := some 12, op := .mov (.t 0), guard := some (10, true) }, { dst := some 13, op := .mov (.t 5), guard := some (10, true) },
   { dst := some 14, op := .ixS (.t 12) (.t 13), guard := some (10, true) }, { dst := some 15, op := .callv (.t 11) [.t 14], guard := some (10, true) },
   { dst := some 16, op := .pick (.t 10) (.t 15) (.c (.d (.bool false))), guard := none }] false [] [6, 7, 8, 9, 10, 11, 12, 13, 14, 15]) (.cond (.t 16) .skip (.exit 0))) (.block 1
   (.region 3 [{ dst := some 17, op := .mov (.t 5), guard := none }, { dst := some 18, op := .bin .add .int (.t 17) (.c (.d (.int .i64 1))), guard := none },
   { dst := some 5, op := .mov (.t 18), guard := none }] false [] [17, 18])))
def s_lexer_span : SFunc := { nparams := 2, ntmps := 20, code := (.seq (.region 0 [{ dst := some 4, op := .mov (.c (.d (.int .i64 0))), guard := none }] false [] []) (.seq
   (.region 1 [{ dst := some 5, op := .mov (.c (.d (.int .i64 0))), guard := none }] false [] []) (.seq (.block 0 (.loop s_lexer_span_l0)) (.seq
   (.region 4 [{ dst := some 19, op := .mov (.t 5), guard := none }, { dst := some 4, op := .mov (.t 19), guard := none }] false [] [19]) .ret)))), results := [.tmp 4] }
theorem c_lexer_span : cFunc Tryd.prog 59 (dropOf [(2, [6, 7, 8, 9, 10, 11, 12, 13, 14, 15]), (3, [17, 18]), (4, [19])]) = some s_lexer_span := by kernel_rfl

-- backstep/lexer.next$1
def s_lexer_next_1 : SFunc := { nparams := 1, ntmps := 9, code := (.seq (.region 0 [{ dst := some 2, op := .mov (.c (.d (.bool false))), guard := none }] false [] []) (.seq
   (.region 1 [{ dst := some 3, op := .mov (.t 0), guard := none }, { dst := some 4, op := .call 58 [.t 3], guard := none }, { dst := some 5, op := .mov (.t 4), guard := none },
   { dst := some 6, op := .mov (.t 0), guard := some (5, false) }, { dst := some 7, op := .call 61 [.t 6], guard := some (5, false) },
   { dst := some 8, op := .pick (.t 5) (.c (.d (.bool true))) (.t 7), guard := none },
   { dst := some 2, op := .mov (.t 8), guard := none }] false [] [3, 4, 5, 6, 7, 8]) .ret)), results := [.tmp 2] }
theorem c_lexer_next_1 : cFunc Tryd.prog 60 (dropOf [(1, [3, 4, 5, 6, 7, 8])]) = some s_lexer_next_1 := by kernel_rfl

-- backstep/lexer.digit
def s_lexer_digit : SFunc := { nparams := 1, ntmps := 9, code := (.seq (.region 0 [{ dst := some 2, op := .mov (.c (.d (.bool false))), guard := none }] false [] []) (.seq
   (.region 1 [{ dst := some 3, op := .mov (.t 0), guard := none }, { dst := some 4, op := .bin .geq .int (.t 3) (.c (.d (.int .u8 48))), guard := none },
   { dst := some 5, op := .mov (.t 4), guard := none }, { dst := some 6, op := .mov (.t 0), guard := some (5, true) },
   { dst := some 7, op := .bin .leq .int (.t 6) (.c (.d (.int .u8 57))), guard := some (5, true) },
   { dst := some 8, op := .pick (.t 5) (.t 7) (.c (.d (.bool false))), guard := none },
   { dst := some 2, op := .mov (.t 8), guard := none }] false [] [3, 4, 5, 6, 7, 8]) .ret)), results := [.tmp 2] }
theorem c_lexer_digit : cFunc Tryd.prog 61 (dropOf [(1, [3, 4, 5, 6, 7, 8])]) = some s_lexer_digit := by kernel_rfl

-- backstep/lexer.space
def s_lexer_space : SFunc := { nparams := 1, ntmps := 17, code := (.seq (.region 0 [{ dst := some 2, op := .mov (.c (.d (.bool false))), guard := none }] false [] []) (.seq
   (.region 1 [{ dst := some 3, op := .mov (.t 0), guard := none }, { dst := some 4, op := .bin .eql .int (.t 3) (.c (.d (.int .u8 32))), guard := none },
   { dst := some 5, op := .mov (.t 4), guard := none }, { dst := some 6, op := .mov (.t 0), guard := some (5, false) },
   { dst := some 7, op := .bin .eql .int (.t 6) (.c (.d (.int .u8 9))), guard := some (5, false) },
   { dst := some 8, op := .pick (.t 5) (.c (.d (.bool true))) (.t 7), guard := none }, { dst := some 9, op := .mov (.t 8), guard := none },
   { dst := some 10, op := .mov (.t 0), guard := some (9, false) }, { dst := some 11, op := .bin .eql .int (.t 10) (.c (.d (.int .u8 13))), guard := some (9, false) },
   { dst := some 12, op := .pick (.t 9) (.c (.d (.bool true))) (.t 11), guard := none }, { dst := some 13, op := .mov (.t 12), guard := none },
   { dst := some 14, op := .mov (.t 0), guard := some (13, false) }, { dst := some 15, op := .bin .eql .int (.t 14) (.c (.d (.int .u8 10))), guard := some (13, false) },
   { dst := some 16, op := .pick (.t 13) (.c (.d (.bool true))) (.t 15), guard := none },
   { dst := some 2, op := .mov (.t 16), guard := none }] false [] [3, 4, 5, 6, 7, 8, 9, 10, 11, 12, 13, 14, 15, 16]) .ret)), results := [.tmp 2] }
theorem c_lexer_space : cFunc Tryd.prog 62 (dropOf [(1, [3, 4, 5, 6, 7, 8, 9, 10, 11, 12, 13, 14, 15, 16])]) = some s_lexer_space := by kernel_rfl

-- backstep/lexer.next$2
def s_lexer_next_2 : SFunc := { nparams := 1, ntmps := 5, code := (.seq (.region 0 [{ dst := some 2, op := .mov (.c (.d (.bool false))), guard := none }] false [] []) (.seq
   (.region 1 [{ dst := some 3, op := .mov (.t 0), guard := none }, { dst := some 4, op := .bin .neq .int (.t 3) (.c (.d (.int .u8 10))), guard := none },
   { dst := some 2, op := .mov (.t 4), guard := none }] false [] [3, 4]) .ret)), results := [.tmp 2] }
theorem c_lexer_next_2 : cFunc Tryd.prog 63 (dropOf [(1, [3, 4])]) = some s_lexer_next_2 := by kernel_rfl

-- backstep/lexer.signs
def s_lexer_signs : SFunc := { nparams := 0, ntmps := 2, code := (.seq (.region 0 [{ dst := some 0, op := .nilrow 9 1, guard := none }] false [] []) (.seq
   (.region 1 [{ dst := some 1, op := .call 76 [.c (.d (.str [60, 61, 62, 32, 58, 61, 32, 43, 61, 32, 45, 61, 32, 94, 61, 32, 61, 61, 32, 33, 61, 32, 60, 61, 32, 62, 61, 32, 38, 38, 32, 124, 124, 32, 43, 32, 45, 32, 42, 32, 47, 32, 37, 32, 38, 32, 124, 32, 94, 32, 33, 32, 61, 32, 60, 32, 62, 32, 40, 32, 41, 32, 123, 32, 125, 32, 91, 32, 93, 32, 59, 32, 44]))], guard := none },
   { dst := some 0, op := .mov (.t 1), guard := none }] false [] [1]) .ret)), results := [.tmp 0] }
theorem c_lexer_signs : cFunc Tryd.prog 64 (dropOf [(1, [1])]) = some s_lexer_signs := by kernel_rfl

def fnTab : List (Nat × SFunc) := [(3, s_backsteplaw51_ScriptBack), (4, s_backsteplaw51_ScriptOne), (5, s_backsteplaw51_ScriptJoins), (6, s_backsteplaw51_ScriptLines), (7, s_backsteplaw51_ScriptTexts), (8, s_backsteplaw51_ScriptLimit), (9, s_backsteplaw51_awake), (10, s_backsteplaw51_great), (11, s_script_Format), (12, s_backsteplaw51_given), (13, s_script_Valid), (14, s_script_Parse), (15, s_backsteplaw51_same), (16, s_backsteplaw51_plain), (20, s_strings_Builder_WriteString), (23, s_script_valid), (24, s_script_one), (25, s_script_shapes), (32, s_lexer_Name), (35, s_script_first), (36, s_script_cut), (41, s_lexer_Keyword), (42, s_lexer_next), (57, s_lexer_keywords), (58, s_lexer_letter), (59, s_lexer_span), (60, s_lexer_next_1), (61, s_lexer_digit), (62, s_lexer_space), (63, s_lexer_next_2), (64, s_lexer_signs)]
theorem fnTab_ok : ∀ p ∈ fnTab, ∃ drop, cFunc Tryd.prog p.1 drop = some p.2 := by
  intro p hp
  simp only [fnTab, List.mem_cons, List.not_mem_nil, or_false] at hp
  rcases hp with rfl | rfl | rfl | rfl | rfl | rfl | rfl | rfl | rfl | rfl | rfl | rfl | rfl | rfl | rfl | rfl | rfl | rfl | rfl | rfl | rfl | rfl | rfl | rfl | rfl | rfl | rfl | rfl | rfl | rfl | rfl
  · exact ⟨_, c_backsteplaw51_ScriptBack⟩
  · exact ⟨_, c_backsteplaw51_ScriptOne⟩
  · exact ⟨_, c_backsteplaw51_ScriptJoins⟩
  · exact ⟨_, c_backsteplaw51_ScriptLines⟩
  · exact ⟨_, c_backsteplaw51_ScriptTexts⟩
  · exact ⟨_, c_backsteplaw51_ScriptLimit⟩
  · exact ⟨_, c_backsteplaw51_awake⟩
  · exact ⟨_, c_backsteplaw51_great⟩
  · exact ⟨_, c_script_Format⟩
  · exact ⟨_, c_backsteplaw51_given⟩
  · exact ⟨_, c_script_Valid⟩
  · exact ⟨_, c_script_Parse⟩
  · exact ⟨_, c_backsteplaw51_same⟩
  · exact ⟨_, c_backsteplaw51_plain⟩
  · exact ⟨_, c_strings_Builder_WriteString⟩
  · exact ⟨_, c_script_valid⟩
  · exact ⟨_, c_script_one⟩
  · exact ⟨_, c_script_shapes⟩
  · exact ⟨_, c_lexer_Name⟩
  · exact ⟨_, c_script_first⟩
  · exact ⟨_, c_script_cut⟩
  · exact ⟨_, c_lexer_Keyword⟩
  · exact ⟨_, c_lexer_next⟩
  · exact ⟨_, c_lexer_keywords⟩
  · exact ⟨_, c_lexer_letter⟩
  · exact ⟨_, c_lexer_span⟩
  · exact ⟨_, c_lexer_next_1⟩
  · exact ⟨_, c_lexer_digit⟩
  · exact ⟨_, c_lexer_space⟩
  · exact ⟨_, c_lexer_next_2⟩
  · exact ⟨_, c_lexer_signs⟩
end Go.Ev.S
