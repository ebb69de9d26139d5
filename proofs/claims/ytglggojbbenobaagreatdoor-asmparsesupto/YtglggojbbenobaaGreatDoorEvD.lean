/- Functions of the program in the form of the evaluator, continued. -/
import Derived.Test.YtglggojbbenobaaGreatDoorEvDa
set_option linter.all false
namespace Go.Ev.S
open Go.Proofs

-- backstep/backstepref21.Mnemonic
def s_backstepref21_Mnemonic : SFunc := { nparams := 1, ntmps := 14, code := (.seq (.region 0 [{ dst := some 2, op := .mov (.c (.d (.str []))), guard := none }] false [] []) (.seq
   (.region 1 [{ dst := some 4, op := .bsl 9 1 35 [.c (.d (.str [110, 111, 112])), .c (.d (.str [97, 100, 100])), .c (.d (.str [115, 117, 98])), .c (.d (.str [120, 111, 114])), .c (.d (.str [97, 100, 100, 105])), .c (.d (.str [115, 117, 98, 105])), .c (.d (.str [120, 111, 114, 105])), .c (.d (.str [115, 119, 97, 112])), .c (.d (.str [110, 101, 103])), .c (.d (.str [99, 97, 108, 99])), .c (.d (.str [109, 101, 109])), .c (.d (.str [105, 100, 120])), .c (.d (.str [112, 117, 115, 104])), .c (.d (.str [112, 111, 112])), .c (.d (.str [116, 111, 112])), .c (.d (.str [115, 105, 122, 101])), .c (.d (.str [115, 119, 97, 112, 115])), .c (.d (.str [114, 101, 97, 100])), .c (.d (.str [117, 110, 114, 101, 97, 100])), .c (.d (.str [119, 114, 105, 116, 101])), .c (.d (.str [117, 110, 119, 114, 105, 116, 101])), .c (.d (.str [122, 101, 114, 111])), .c (.d (.str [106, 109, 112])), .c (.d (.str [106, 109, 112, 122])), .c (.d (.str [106, 109, 112, 110])), .c (.d (.str [108, 97, 110, 100])), .c (.d (.str [108, 97, 110, 100, 122])), .c (.d (.str [108, 97, 110, 100, 110])), .c (.d (.str [102, 114, 97, 109, 101])), .c (.d (.str [117, 110, 102, 114, 97, 109, 101])), .c (.d (.str [99, 97, 108, 108])), .c (.d (.str [117, 110, 99, 97, 108, 108])), .c (.d (.str [115, 116, 97, 114, 116])), .c (.d (.str [101, 110, 100])), .c (.d (.str [104, 97, 108, 116]))], guard := none },
   { dst := some 3, op := .mov (.t 4), guard := none }] false [] [4]) (.seq (.seq (.region 2 [{ dst := some 5, op := .mov (.t 0), guard := none },
   { dst := some 6, op := .cnvI .i64 (.t 5), guard := none }, { dst := some 7, op := .mov (.t 3), guard := none }, { dst := some 8, op := .len .sl (.t 7), guard := none },
   { dst := some 9, op := .bin .geq .int (.t 6) (.t 8), guard := none }] false [] [5, 6, 7, 8]) (.cond (.t 9) (.seq
   (.region 3 [{ dst := some 2, op := .mov (.c (.d (.str []))), guard := none }] false [] []) .ret) .skip)) (.seq (.region 4 [{ dst := some 10, op := .mov (.t 3), guard := none },
   { dst := some 11, op := .mov (.t 0), guard := none }, { dst := some 12, op := .ia 1 (.t 10) (.t 11), guard := none },
   { dst := some 13, op := .ld 1 false (.t 12), guard := none }, { dst := some 2, op := .mov (.t 13), guard := none }] false [] [10, 11, 12, 13]) .ret)))), results := [.tmp 2] }
theorem c_backstepref21_Mnemonic : cFunc Tryz.prog mvTab 54 (dropOf [(1, [4]), (2, [5, 6, 7, 8]), (4, [10, 11, 12, 13])]) = some s_backstepref21_Mnemonic := by kernel_rfl

-- backstep/backstepref22.Decimal
def s_backstepref22_Decimal_l0 : SCode := (.seq (.seq (.region 9 [{ dst := some 29, op := .mov (.t 0), guard := none },
   { dst := some 30, op := .bin .geq .int (.t 29) (.c (.d (.int .i64 10))), guard := none }] false [] [29]) (.cond (.t 30) .skip (.exit 2))) (.block 3 (.seq
   (.region 10 [{ dst := some 31, op := .mov (.t 0), guard := none }, { dst := some 32, op := .bin .quo .int (.t 31) (.c (.d (.int .i64 10))), guard := none },
   { dst := some 0, op := .mov (.t 32), guard := none }] false [] [31, 32]) (.region 11 [{ dst := some 33, op := .mov (.t 0), guard := none },
   { dst := some 34, op := .bin .rem .int (.t 33) (.c (.d (.int .i64 10))), guard := none }, { dst := some 35, op := .mov (.t 0), guard := none },
   { dst := some 36, op := .bin .rem .int (.t 35) (.c (.d (.int .i64 10))), guard := none },
   { dst := some 37, op := .bin .add .int (.t 36) (.c (.d (.int .i64 1))), guard := none },
   { dst := some 38, op := .slS (.c (.d (.str [48, 49, 50, 51, 52, 53, 54, 55, 56, 57]))) (some (.t 34)) (some (.t 37)), guard := none },
   { dst := some 39, op := .mov (.t 5), guard := none }, { dst := some 40, op := .bin .add .str (.t 38) (.t 39), guard := none },
   { dst := some 5, op := .mov (.t 40), guard := none }] false [] [33, 34, 35, 36, 37, 38, 39, 40]))))
def s_backstepref22_Decimal_l1 : SCode := (.seq (.seq (.region 3 [{ dst := some 8, op := .mov (.t 0), guard := none },
   { dst := some 9, op := .bin .lss .int (.t 8) (.c (.d (.int .i64 0))), guard := none }] false [] [8]) (.cond (.t 9) .skip (.exit 0))) (.block 1 (.seq
   (.region 4 [{ dst := some 10, op := .mov (.t 0), guard := none }, { dst := some 11, op := .bin .rem .int (.t 10) (.c (.d (.int .i64 10))), guard := none },
   { dst := some 12, op := .un .neg (.t 11), guard := none }, { dst := some 4, op := .mov (.t 12), guard := none }] false [] [10, 11, 12]) (.seq
   (.region 5 [{ dst := some 13, op := .mov (.t 4), guard := none }, { dst := some 14, op := .mov (.t 4), guard := none },
   { dst := some 15, op := .bin .add .int (.t 14) (.c (.d (.int .i64 1))), guard := none },
   { dst := some 16, op := .slS (.c (.d (.str [48, 49, 50, 51, 52, 53, 54, 55, 56, 57]))) (some (.t 13)) (some (.t 15)), guard := none },
   { dst := some 17, op := .mov (.t 3), guard := none }, { dst := some 18, op := .bin .add .str (.t 16) (.t 17), guard := none },
   { dst := some 3, op := .mov (.t 18), guard := none }] false [] [13, 14, 15, 16, 17, 18]) (.region 6 [{ dst := some 19, op := .mov (.t 0), guard := none },
   { dst := some 20, op := .bin .quo .int (.t 19) (.c (.d (.int .i64 10))), guard := none }, { dst := some 0, op := .mov (.t 20), guard := none }] false [] [19, 20])))))
def s_backstepref22_Decimal : SFunc := { nparams := 1, ntmps := 42, code := (.seq (.region 0 [{ dst := some 2, op := .mov (.c (.d (.str []))), guard := none }] false [] []) (.seq
   (.seq (.region 1 [{ dst := some 6, op := .mov (.t 0), guard := none }, { dst := some 7, op := .bin .lss .int (.t 6) (.c (.d (.int .i64 0))), guard := none }] false [] [6])
   (.cond (.t 7) (.seq (.region 2 [{ dst := some 3, op := .mov (.c (.d (.str []))), guard := none }] false [] []) (.seq (.block 0 (.loop s_backstepref22_Decimal_l1)) (.seq
   (.region 7 [{ dst := some 21, op := .mov (.t 3), guard := none }, { dst := some 22, op := .bin .add .str (.c (.d (.str [45]))) (.t 21), guard := none },
   { dst := some 2, op := .mov (.t 22), guard := none }] false [] [21, 22]) .ret))) .skip)) (.seq (.region 8 [{ dst := some 23, op := .mov (.t 0), guard := none },
   { dst := some 24, op := .bin .rem .int (.t 23) (.c (.d (.int .i64 10))), guard := none }, { dst := some 25, op := .mov (.t 0), guard := none },
   { dst := some 26, op := .bin .rem .int (.t 25) (.c (.d (.int .i64 10))), guard := none },
   { dst := some 27, op := .bin .add .int (.t 26) (.c (.d (.int .i64 1))), guard := none },
   { dst := some 28, op := .slS (.c (.d (.str [48, 49, 50, 51, 52, 53, 54, 55, 56, 57]))) (some (.t 24)) (some (.t 27)), guard := none },
   { dst := some 5, op := .mov (.t 28), guard := none }] false [] [23, 24, 25, 26, 27, 28]) (.seq (.block 2 (.loop s_backstepref22_Decimal_l0)) (.seq
   (.region 12 [{ dst := some 41, op := .mov (.t 5), guard := none }, { dst := some 2, op := .mov (.t 41), guard := none }] false [] [41]) .ret))))), results := [.tmp 2] }
theorem c_backstepref22_Decimal : cFunc Tryz.prog mvTab 55 (dropOf [(1, [6]), (3, [8]), (4, [10, 11, 12]), (5, [13, 14, 15, 16, 17, 18]), (6, [19, 20]), (7, [21, 22]), (8, [23, 24, 25, 26, 27, 28]), (9, [29]), (10, [31, 32]), (11, [33, 34, 35, 36, 37, 38, 39, 40]), (12, [41])]) = some s_backstepref22_Decimal := by kernel_rfl

-- backstep/backstepref01.Symbol
def s_backstepref01_Symbol : SFunc := { nparams := 1, ntmps := 45, code := (.seq (.region 0 [{ dst := some 2, op := .mov (.c (.d (.str []))), guard := none }] false [] []) (.seq
   (.seq (.region 1 [{ dst := some 3, op := .mov (.t 0), guard := none }] false [] []) (.block 0 (.seq
   (.region 2 [{ dst := some 5, op := .bin .eql .int (.t 3) (.c (.d (.int .u8 8))), guard := none }, { dst := some 4, op := .mov (.t 5), guard := none }] false [] [5])
   (.cond (.t 4) (.seq (.region 3 [{ dst := some 2, op := .mov (.c (.d (.str [43]))), guard := none }] false [] []) .ret) (.seq (.seq
   (.region 4 [{ dst := some 7, op := .bin .eql .int (.t 3) (.c (.d (.int .u8 9))), guard := none }, { dst := some 6, op := .mov (.t 7), guard := none }] false [] [7])
   (.cond (.t 6) .skip (.region 5 [{ dst := some 8, op := .bin .eql .int (.t 3) (.c (.d (.int .u8 6))), guard := none },
   { dst := some 6, op := .mov (.t 8), guard := none }] false [] [8]))) (.cond (.t 6) (.seq
   (.region 6 [{ dst := some 2, op := .mov (.c (.d (.str [45]))), guard := none }] false [] []) .ret) (.seq
   (.region 7 [{ dst := some 10, op := .bin .eql .int (.t 3) (.c (.d (.int .u8 10))), guard := none }, { dst := some 9, op := .mov (.t 10), guard := none }] false [] [10])
   (.cond (.t 9) (.seq (.region 8 [{ dst := some 2, op := .mov (.c (.d (.str [42]))), guard := none }] false [] []) .ret) (.seq
   (.region 9 [{ dst := some 12, op := .bin .eql .int (.t 3) (.c (.d (.int .u8 11))), guard := none }, { dst := some 11, op := .mov (.t 12), guard := none }] false [] [12])
   (.cond (.t 11) (.seq (.region 10 [{ dst := some 2, op := .mov (.c (.d (.str [47]))), guard := none }] false [] []) .ret) (.seq
   (.region 11 [{ dst := some 14, op := .bin .eql .int (.t 3) (.c (.d (.int .u8 12))), guard := none }, { dst := some 13, op := .mov (.t 14), guard := none }] false [] [14])
   (.cond (.t 13) (.seq (.region 12 [{ dst := some 2, op := .mov (.c (.d (.str [37]))), guard := none }] false [] []) .ret) (.seq
   (.region 13 [{ dst := some 16, op := .bin .eql .int (.t 3) (.c (.d (.int .u8 13))), guard := none }, { dst := some 15, op := .mov (.t 16), guard := none }] false [] [16])
   (.cond (.t 15) (.seq (.region 14 [{ dst := some 2, op := .mov (.c (.d (.str [38]))), guard := none }] false [] []) .ret) (.seq
   (.region 15 [{ dst := some 18, op := .bin .eql .int (.t 3) (.c (.d (.int .u8 14))), guard := none }, { dst := some 17, op := .mov (.t 18), guard := none }] false [] [18])
   (.cond (.t 17) (.seq (.region 16 [{ dst := some 2, op := .mov (.c (.d (.str [124]))), guard := none }] false [] []) .ret) (.seq
   (.region 17 [{ dst := some 20, op := .bin .eql .int (.t 3) (.c (.d (.int .u8 15))), guard := none }, { dst := some 19, op := .mov (.t 20), guard := none }] false [] [20])
   (.cond (.t 19) (.seq (.region 18 [{ dst := some 2, op := .mov (.c (.d (.str [94]))), guard := none }] false [] []) .ret) (.seq
   (.region 19 [{ dst := some 22, op := .bin .eql .int (.t 3) (.c (.d (.int .u8 16))), guard := none }, { dst := some 21, op := .mov (.t 22), guard := none }] false [] [22])
   (.cond (.t 21) (.seq (.region 20 [{ dst := some 2, op := .mov (.c (.d (.str [61, 61]))), guard := none }] false [] []) .ret) (.seq
   (.region 21 [{ dst := some 24, op := .bin .eql .int (.t 3) (.c (.d (.int .u8 17))), guard := none }, { dst := some 23, op := .mov (.t 24), guard := none }] false [] [24])
   (.cond (.t 23) (.seq (.region 22 [{ dst := some 2, op := .mov (.c (.d (.str [33, 61]))), guard := none }] false [] []) .ret) (.seq
   (.region 23 [{ dst := some 26, op := .bin .eql .int (.t 3) (.c (.d (.int .u8 18))), guard := none }, { dst := some 25, op := .mov (.t 26), guard := none }] false [] [26])
   (.cond (.t 25) (.seq (.region 24 [{ dst := some 2, op := .mov (.c (.d (.str [60]))), guard := none }] false [] []) .ret) (.seq
   (.region 25 [{ dst := some 28, op := .bin .eql .int (.t 3) (.c (.d (.int .u8 19))), guard := none }, { dst := some 27, op := .mov (.t 28), guard := none }] false [] [28])
   (.cond (.t 27) (.seq (.region 26 [{ dst := some 2, op := .mov (.c (.d (.str [60, 61]))), guard := none }] false [] []) .ret) (.seq
   (.region 27 [{ dst := some 30, op := .bin .eql .int (.t 3) (.c (.d (.int .u8 20))), guard := none }, { dst := some 29, op := .mov (.t 30), guard := none }] false [] [30])
   (.cond (.t 29) (.seq (.region 28 [{ dst := some 2, op := .mov (.c (.d (.str [62]))), guard := none }] false [] []) .ret) (.seq
   (.region 29 [{ dst := some 32, op := .bin .eql .int (.t 3) (.c (.d (.int .u8 21))), guard := none }, { dst := some 31, op := .mov (.t 32), guard := none }] false [] [32])
   (.cond (.t 31) (.seq (.region 30 [{ dst := some 2, op := .mov (.c (.d (.str [62, 61]))), guard := none }] false [] []) .ret) (.seq
   (.region 31 [{ dst := some 34, op := .bin .eql .int (.t 3) (.c (.d (.int .u8 22))), guard := none }, { dst := some 33, op := .mov (.t 34), guard := none }] false [] [34])
   (.cond (.t 33) (.seq (.region 32 [{ dst := some 2, op := .mov (.c (.d (.str [38, 38]))), guard := none }] false [] []) .ret) (.seq
   (.region 33 [{ dst := some 36, op := .bin .eql .int (.t 3) (.c (.d (.int .u8 23))), guard := none }, { dst := some 35, op := .mov (.t 36), guard := none }] false [] [36])
   (.cond (.t 35) (.seq (.region 34 [{ dst := some 2, op := .mov (.c (.d (.str [124, 124]))), guard := none }] false [] []) .ret) (.seq
   (.region 35 [{ dst := some 38, op := .bin .eql .int (.t 3) (.c (.d (.int .u8 7))), guard := none }, { dst := some 37, op := .mov (.t 38), guard := none }] false [] [38])
   (.cond (.t 37) (.seq (.region 36 [{ dst := some 2, op := .mov (.c (.d (.str [33]))), guard := none }] false [] []) .ret) (.seq
   (.region 37 [{ dst := some 40, op := .bin .eql .int (.t 3) (.c (.d (.int .u8 40))), guard := none }, { dst := some 39, op := .mov (.t 40), guard := none }] false [] [40])
   (.cond (.t 39) (.seq (.region 38 [{ dst := some 2, op := .mov (.c (.d (.str [43, 61]))), guard := none }] false [] []) .ret) (.seq
   (.region 39 [{ dst := some 42, op := .bin .eql .int (.t 3) (.c (.d (.int .u8 41))), guard := none }, { dst := some 41, op := .mov (.t 42), guard := none }] false [] [42])
   (.cond (.t 41) (.seq (.region 40 [{ dst := some 2, op := .mov (.c (.d (.str [45, 61]))), guard := none }] false [] []) .ret) (.seq
   (.region 41 [{ dst := some 44, op := .bin .eql .int (.t 3) (.c (.d (.int .u8 42))), guard := none }, { dst := some 43, op := .mov (.t 44), guard := none }] false [] [44])
   (.cond (.t 43) (.seq (.region 42 [{ dst := some 2, op := .mov (.c (.d (.str [94, 61]))), guard := none }] false [] []) .ret) .skip))))))))))))))))))))))))))))))))))))))))))
   (.seq (.region 43 [{ dst := some 2, op := .mov (.c (.d (.str []))), guard := none }] false [] []) .ret))), results := [.tmp 2] }
theorem c_backstepref01_Symbol : cFunc Tryz.prog mvTab 56 (dropOf [(2, [5]), (4, [7]), (5, [8]), (7, [10]), (9, [12]), (11, [14]), (13, [16]), (15, [18]), (17, [20]), (19, [22]), (21, [24]), (23, [26]), (25, [28]), (27, [30]), (29, [32]), (31, [34]), (33, [36]), (35, [38]), (37, [40]), (39, [42]), (41, [44])]) = some s_backstepref01_Symbol := by kernel_rfl

-- backstep/asm.number
def s_asm_number_l0 : SCode := (.seq (.region 6 [{ dst := some 20, op := .bin .lss .int (.t 19) (.t 18), guard := none }] false [] []) (.seq (.cond (.t 20) .skip (.exit 1)) (.seq
   (.block 2 (.seq (.region 7 [{ dst := some 21, op := .ia 1 (.t 17) (.t 19), guard := none }, { dst := some 22, op := .ld 1 false (.t 21), guard := none },
   { dst := some 7, op := .mov (.t 22), guard := none }] false [] [21, 22]) (.seq (.region 8 [{ dst := some 23, op := .mov (.t 7), guard := none },
   { dst := some 24, op := .call 68 [.t 23], guard := none }, { dst := some 25, op := .mov (.t 0), guard := none },
   { dst := some 26, op := .bin .eql .str (.t 24) (.t 25), guard := none }] false [] [23, 24, 25]) (.cond (.t 26) (.seq
   (.region 9 [{ dst := some 27, op := .mov (.t 7), guard := none }, { dst := some 28, op := .cnvI .i64 (.t 27), guard := none },
   { dst := some 4, op := .mov (.t 28), guard := none }, { dst := some 5, op := .mov (.c (.d (.bool true))), guard := none }] false [] [27, 28]) .ret) .skip))))
   (.region 10 [{ dst := some 29, op := .bin .add .int (.t 19) (.c (.d (.int .i64 1))), guard := none }, { dst := some 19, op := .mov (.t 29), guard := none }] false [] [29]))))
def s_asm_number : SFunc := { nparams := 2, ntmps := 38, code := (.seq (.region 0 [{ dst := some 4, op := .mov (.c (.d (.int .i64 0))), guard := none },
   { dst := some 5, op := .mov (.c (.d (.bool false))), guard := none }] false [] []) (.seq (.seq (.region 1 [{ dst := some 10, op := .mov (.t 1), guard := none }] false [] [])
   (.block 0 (.seq (.region 2 [{ dst := some 12, op := .bin .eql .int (.t 10) (.c (.d (.int .u8 114))), guard := none },
   { dst := some 11, op := .mov (.t 12), guard := none }] false [] [12]) (.cond (.t 11) (.region 3 [{ dst := some 13, op := .mov (.t 0), guard := none },
   { dst := some 14, op := .call 71 [.t 13, .c (.d (.str [114]))], guard := none }, { dst := some 0, op := .mov (.t 14), guard := none }] false [] [13, 14]) (.seq
   (.region 4 [{ dst := some 16, op := .bin .eql .int (.t 10) (.c (.d (.int .u8 111))), guard := none }, { dst := some 15, op := .mov (.t 16), guard := none }] false [] [16])
   (.cond (.t 15) (.seq (.seq (.region 5 [{ dst := some 17, op := .call 72 [], guard := none }, { dst := some 18, op := .len .sl (.t 17), guard := none },
   { dst := some 19, op := .mov (.c (.d (.int .i64 0))), guard := none }] false [] []) (.block 1 (.loop s_asm_number_l0))) (.seq
   (.region 11 [{ dst := some 4, op := .mov (.c (.d (.int .i64 0))), guard := none },
   { dst := some 5, op := .mov (.c (.d (.bool false))), guard := none }] false [] []) .ret)) .skip)))))) (.seq (.region 12 [{ dst := some 31, op := .mov (.t 0), guard := none },
   { dst := some 32, op := .call 73 [.t 31], guard := none }, { dst := some 30, op := .mov (.t 32), guard := none }, { dst := some 33, op := .ext (.t 30) 0, guard := none },
   { dst := some 34, op := .ext (.t 30) 1, guard := none }, { dst := some 8, op := .mov (.t 33), guard := none },
   { dst := some 9, op := .mov (.t 34), guard := none }] false [] [31, 32, 30, 33, 34]) (.seq (.region 13 [{ dst := some 35, op := .mov (.t 8), guard := none },
   { dst := some 36, op := .mov (.t 9), guard := none }, { dst := some 37, op := .bin .eql .ifc (.t 36) (.c (.d .nilif)), guard := none },
   { dst := some 4, op := .mov (.t 35), guard := none }, { dst := some 5, op := .mov (.t 37), guard := none }] true [] [35, 36, 37]) .ret)))), results := [.tmp 4, .tmp 5] }
theorem c_asm_number : cFunc Tryz.prog mvTab 59 (dropOf [(2, [12]), (3, [13, 14]), (4, [16]), (7, [21, 22]), (8, [23, 24, 25]), (9, [27, 28]), (10, [29]), (12, [31, 32, 30, 33, 34]), (13, [35, 36, 37])]) = some s_asm_number := by kernel_rfl

-- backstep/backstepref22.operand
def s_backstepref22_operand_l0 : SCode := (.seq (.seq (.region 7 [{ dst := some 24, op := .mov (.t 6), guard := none },
   { dst := some 25, op := .bin .leq .int (.t 24) (.c (.d (.int .i64 23))), guard := none }] false [] [24]) (.cond (.t 25) .skip (.exit 0))) (.seq (.block 1 (.seq
   (.region 9 [{ dst := some 28, op := .mov (.t 6), guard := none }, { dst := some 29, op := .cnvI .u8 (.t 28), guard := none },
   { dst := some 30, op := .call 56 [.t 29], guard := none }, { dst := some 31, op := .mov (.t 0), guard := none },
   { dst := some 32, op := .bin .eql .str (.t 30) (.t 31), guard := none }] false [] [28, 29, 30, 31]) (.cond (.t 32) (.seq
   (.region 10 [{ dst := some 33, op := .mov (.t 6), guard := none }, { dst := some 4, op := .mov (.t 33), guard := none },
   { dst := some 5, op := .mov (.c (.d (.bool true))), guard := none }] false [] [33]) .ret) .skip))) (.region 8 [{ dst := some 26, op := .mov (.t 6), guard := none },
   { dst := some 27, op := .bin .add .int (.t 26) (.c (.d (.int .i64 1))), guard := none }, { dst := some 6, op := .mov (.t 27), guard := none }] false [] [26, 27])))
def s_backstepref22_operand : SFunc := { nparams := 2, ntmps := 38, code := (.seq (.region 0 [{ dst := some 4, op := .mov (.c (.d (.int .i64 0))), guard := none },
   { dst := some 5, op := .mov (.c (.d (.bool false))), guard := none }] false [] []) (.seq (.seq (.region 1 [{ dst := some 7, op := .mov (.t 1), guard := none },
   { dst := some 8, op := .bin .eql .int (.t 7) (.c (.d (.int .u8 114))), guard := none }] false [] [7]) (.cond (.t 8) (.seq (.seq
   (.region 2 [{ dst := some 9, op := .mov (.t 0), guard := none }, { dst := some 10, op := .len .str (.t 9), guard := none },
   { dst := some 11, op := .bin .lss .int (.t 10) (.c (.d (.int .i64 2))), guard := none }, { dst := some 12, op := .mov (.t 11), guard := none },
   { dst := some 13, op := .mov (.t 0), guard := some (12, false) }, { dst := some 14, op := .ixS (.t 13) (.c (.d (.int .i64 0))), guard := some (12, false) },
   { dst := some 15, op := .bin .neq .int (.t 14) (.c (.d (.int .u8 114))), guard := some (12, false) },
   { dst := some 16, op := .pick (.t 12) (.c (.d (.bool true))) (.t 15), guard := none }] false [] [9, 10, 11, 12, 13, 14, 15]) (.cond (.t 16) (.seq
   (.region 3 [{ dst := some 4, op := .mov (.c (.d (.int .i64 0))), guard := none },
   { dst := some 5, op := .mov (.c (.d (.bool false))), guard := none }] false [] []) .ret) .skip)) (.seq (.region 4 [{ dst := some 17, op := .mov (.t 0), guard := none },
   { dst := some 18, op := .slS (.t 17) (some (.c (.d (.int .i64 1)))) none, guard := none }, { dst := some 19, op := .call 74 [.t 18], guard := none },
   { dst := some 20, op := .ext (.t 19) 0, guard := none }, { dst := some 21, op := .ext (.t 19) 1, guard := none }, { dst := some 4, op := .mov (.t 20), guard := none },
   { dst := some 5, op := .mov (.t 21), guard := none }] false [] [17, 18, 19, 20, 21]) .ret)) .skip)) (.seq (.seq (.region 5 [{ dst := some 22, op := .mov (.t 1), guard := none },
   { dst := some 23, op := .bin .eql .int (.t 22) (.c (.d (.int .u8 111))), guard := none }] false [] [22]) (.cond (.t 23) (.seq (.seq
   (.region 6 [{ dst := some 6, op := .mov (.c (.d (.int .i64 8))), guard := none }] false [] []) (.block 0 (.loop s_backstepref22_operand_l0))) (.seq
   (.region 11 [{ dst := some 4, op := .mov (.c (.d (.int .i64 0))), guard := none },
   { dst := some 5, op := .mov (.c (.d (.bool false))), guard := none }] false [] []) .ret)) .skip)) (.seq (.region 12 [{ dst := some 34, op := .mov (.t 0), guard := none },
   { dst := some 35, op := .call 74 [.t 34], guard := none }, { dst := some 36, op := .ext (.t 35) 0, guard := none }, { dst := some 37, op := .ext (.t 35) 1, guard := none },
   { dst := some 4, op := .mov (.t 36), guard := none }, { dst := some 5, op := .mov (.t 37), guard := none }] false [] [34, 35, 36, 37]) .ret)))), results := [.tmp 4, .tmp 5] }
theorem c_backstepref22_operand : cFunc Tryz.prog mvTab 60 (dropOf [(1, [7]), (2, [9, 10, 11, 12, 13, 14, 15]), (4, [17, 18, 19, 20, 21]), (5, [22]), (7, [24]), (9, [28, 29, 30, 31]), (10, [33]), (8, [26, 27]), (12, [34, 35, 36, 37])]) = some s_backstepref22_operand := by kernel_rfl

-- backstep/backstepref21.Shape
def s_backstepref21_Shape : SFunc := { nparams := 1, ntmps := 51, code := (.seq (.region 0 [{ dst := some 2, op := .mov (.c (.d (.str []))), guard := none },
   { dst := some 3, op := .mov (.c (.d (.bool false))), guard := none }] false [] []) (.seq (.seq (.region 1 [{ dst := some 4, op := .mov (.t 0), guard := none }] false [] [])
   (.block 0 (.seq (.seq (.region 2 [{ dst := some 6, op := .bin .eql .int (.t 4) (.c (.d (.int .u8 0))), guard := none },
   { dst := some 5, op := .mov (.t 6), guard := none }] false [] [6]) (.cond (.t 5) .skip
   (.region 3 [{ dst := some 7, op := .bin .eql .int (.t 4) (.c (.d (.int .u8 34))), guard := none }, { dst := some 5, op := .mov (.t 7), guard := none }] false [] [7])))
   (.cond (.t 5) (.seq (.region 4 [{ dst := some 2, op := .mov (.c (.d (.str []))), guard := none },
   { dst := some 3, op := .mov (.c (.d (.bool true))), guard := none }] false [] []) .ret) (.seq (.seq
   (.region 5 [{ dst := some 9, op := .bin .eql .int (.t 4) (.c (.d (.int .u8 1))), guard := none }, { dst := some 8, op := .mov (.t 9), guard := none }] false [] [9])
   (.cond (.t 8) .skip (.seq (.region 6 [{ dst := some 10, op := .bin .eql .int (.t 4) (.c (.d (.int .u8 2))), guard := none },
   { dst := some 8, op := .mov (.t 10), guard := none }] false [] [10]) (.cond (.t 8) .skip (.seq
   (.region 7 [{ dst := some 11, op := .bin .eql .int (.t 4) (.c (.d (.int .u8 3))), guard := none }, { dst := some 8, op := .mov (.t 11), guard := none }] false [] [11])
   (.cond (.t 8) .skip (.region 8 [{ dst := some 12, op := .bin .eql .int (.t 4) (.c (.d (.int .u8 7))), guard := none },
   { dst := some 8, op := .mov (.t 12), guard := none }] false [] [12]))))))) (.cond (.t 8) (.seq
   (.region 9 [{ dst := some 2, op := .mov (.c (.d (.str [114, 114]))), guard := none }, { dst := some 3, op := .mov (.c (.d (.bool true))), guard := none }] false [] []) .ret)
   (.seq (.seq (.region 10 [{ dst := some 14, op := .bin .eql .int (.t 4) (.c (.d (.int .u8 4))), guard := none },
   { dst := some 13, op := .mov (.t 14), guard := none }] false [] [14]) (.cond (.t 13) .skip (.seq
   (.region 11 [{ dst := some 15, op := .bin .eql .int (.t 4) (.c (.d (.int .u8 5))), guard := none }, { dst := some 13, op := .mov (.t 15), guard := none }] false [] [15])
   (.cond (.t 13) .skip (.region 12 [{ dst := some 16, op := .bin .eql .int (.t 4) (.c (.d (.int .u8 6))), guard := none },
   { dst := some 13, op := .mov (.t 16), guard := none }] false [] [16]))))) (.cond (.t 13) (.seq
   (.region 13 [{ dst := some 2, op := .mov (.c (.d (.str [114, 110]))), guard := none }, { dst := some 3, op := .mov (.c (.d (.bool true))), guard := none }] false [] []) .ret)
   (.seq (.seq (.region 14 [{ dst := some 18, op := .bin .eql .int (.t 4) (.c (.d (.int .u8 8))), guard := none },
   { dst := some 17, op := .mov (.t 18), guard := none }] false [] [18]) (.cond (.t 17) .skip (.seq
   (.region 15 [{ dst := some 19, op := .bin .eql .int (.t 4) (.c (.d (.int .u8 17))), guard := none }, { dst := some 17, op := .mov (.t 19), guard := none }] false [] [19])
   (.cond (.t 17) .skip (.seq (.region 16 [{ dst := some 20, op := .bin .eql .int (.t 4) (.c (.d (.int .u8 18))), guard := none },
   { dst := some 17, op := .mov (.t 20), guard := none }] false [] [20]) (.cond (.t 17) .skip (.seq
   (.region 17 [{ dst := some 21, op := .bin .eql .int (.t 4) (.c (.d (.int .u8 19))), guard := none }, { dst := some 17, op := .mov (.t 21), guard := none }] false [] [21])
   (.cond (.t 17) .skip (.region 18 [{ dst := some 22, op := .bin .eql .int (.t 4) (.c (.d (.int .u8 20))), guard := none },
   { dst := some 17, op := .mov (.t 22), guard := none }] false [] [22]))))))))) (.cond (.t 17) (.seq
   (.region 19 [{ dst := some 2, op := .mov (.c (.d (.str [114]))), guard := none }, { dst := some 3, op := .mov (.c (.d (.bool true))), guard := none }] false [] []) .ret) (.seq
   (.region 20 [{ dst := some 24, op := .bin .eql .int (.t 4) (.c (.d (.int .u8 9))), guard := none }, { dst := some 23, op := .mov (.t 24), guard := none }] false [] [24])
   (.cond (.t 23) (.seq (.region 21 [{ dst := some 2, op := .mov (.c (.d (.str [114, 114, 114, 111]))), guard := none },
   { dst := some 3, op := .mov (.c (.d (.bool true))), guard := none }] false [] []) .ret) (.seq (.seq
   (.region 22 [{ dst := some 26, op := .bin .eql .int (.t 4) (.c (.d (.int .u8 10))), guard := none }, { dst := some 25, op := .mov (.t 26), guard := none }] false [] [26])
   (.cond (.t 25) .skip (.seq (.region 23 [{ dst := some 27, op := .bin .eql .int (.t 4) (.c (.d (.int .u8 12))), guard := none },
   { dst := some 25, op := .mov (.t 27), guard := none }] false [] [27]) (.cond (.t 25) .skip (.seq
   (.region 24 [{ dst := some 28, op := .bin .eql .int (.t 4) (.c (.d (.int .u8 13))), guard := none }, { dst := some 25, op := .mov (.t 28), guard := none }] false [] [28])
   (.cond (.t 25) .skip (.seq (.region 25 [{ dst := some 29, op := .bin .eql .int (.t 4) (.c (.d (.int .u8 14))), guard := none },
   { dst := some 25, op := .mov (.t 29), guard := none }] false [] [29]) (.cond (.t 25) .skip
   (.region 26 [{ dst := some 30, op := .bin .eql .int (.t 4) (.c (.d (.int .u8 15))), guard := none },
   { dst := some 25, op := .mov (.t 30), guard := none }] false [] [30]))))))))) (.cond (.t 25) (.seq
   (.region 27 [{ dst := some 2, op := .mov (.c (.d (.str [114, 107]))), guard := none }, { dst := some 3, op := .mov (.c (.d (.bool true))), guard := none }] false [] []) .ret)
   (.seq (.region 28 [{ dst := some 32, op := .bin .eql .int (.t 4) (.c (.d (.int .u8 11))), guard := none }, { dst := some 31, op := .mov (.t 32), guard := none }] false [] [32])
   (.cond (.t 31) (.seq (.region 29 [{ dst := some 2, op := .mov (.c (.d (.str [114, 114, 107, 107]))), guard := none },
   { dst := some 3, op := .mov (.c (.d (.bool true))), guard := none }] false [] []) .ret) (.seq (.seq
   (.region 30 [{ dst := some 34, op := .bin .eql .int (.t 4) (.c (.d (.int .u8 16))), guard := none }, { dst := some 33, op := .mov (.t 34), guard := none }] false [] [34])
   (.cond (.t 33) .skip (.seq (.region 31 [{ dst := some 35, op := .bin .eql .int (.t 4) (.c (.d (.int .u8 28))), guard := none },
   { dst := some 33, op := .mov (.t 35), guard := none }] false [] [35]) (.cond (.t 33) .skip
   (.region 32 [{ dst := some 36, op := .bin .eql .int (.t 4) (.c (.d (.int .u8 29))), guard := none }, { dst := some 33, op := .mov (.t 36), guard := none }] false [] [36])))))
   (.cond (.t 33) (.seq (.region 33 [{ dst := some 2, op := .mov (.c (.d (.str [107, 107]))), guard := none },
   { dst := some 3, op := .mov (.c (.d (.bool true))), guard := none }] false [] []) .ret) (.seq
   (.region 34 [{ dst := some 38, op := .bin .eql .int (.t 4) (.c (.d (.int .u8 21))), guard := none }, { dst := some 37, op := .mov (.t 38), guard := none }] false [] [38])
   (.cond (.t 37) (.seq (.region 35 [{ dst := some 2, op := .mov (.c (.d (.str [114, 101]))), guard := none },
   { dst := some 3, op := .mov (.c (.d (.bool true))), guard := none }] false [] []) .ret) (.seq (.seq
   (.region 36 [{ dst := some 40, op := .bin .eql .int (.t 4) (.c (.d (.int .u8 22))), guard := none }, { dst := some 39, op := .mov (.t 40), guard := none }] false [] [40])
   (.cond (.t 39) .skip (.seq (.region 37 [{ dst := some 41, op := .bin .eql .int (.t 4) (.c (.d (.int .u8 25))), guard := none },
   { dst := some 39, op := .mov (.t 41), guard := none }] false [] [41]) (.cond (.t 39) .skip (.seq
   (.region 38 [{ dst := some 42, op := .bin .eql .int (.t 4) (.c (.d (.int .u8 30))), guard := none }, { dst := some 39, op := .mov (.t 42), guard := none }] false [] [42])
   (.cond (.t 39) .skip (.seq (.region 39 [{ dst := some 43, op := .bin .eql .int (.t 4) (.c (.d (.int .u8 31))), guard := none },
   { dst := some 39, op := .mov (.t 43), guard := none }] false [] [43]) (.cond (.t 39) .skip (.seq
   (.region 40 [{ dst := some 44, op := .bin .eql .int (.t 4) (.c (.d (.int .u8 32))), guard := none }, { dst := some 39, op := .mov (.t 44), guard := none }] false [] [44])
   (.cond (.t 39) .skip (.region 41 [{ dst := some 45, op := .bin .eql .int (.t 4) (.c (.d (.int .u8 33))), guard := none },
   { dst := some 39, op := .mov (.t 45), guard := none }] false [] [45]))))))))))) (.cond (.t 39) (.seq
   (.region 42 [{ dst := some 2, op := .mov (.c (.d (.str [116]))), guard := none }, { dst := some 3, op := .mov (.c (.d (.bool true))), guard := none }] false [] []) .ret) (.seq
   (.seq (.region 43 [{ dst := some 47, op := .bin .eql .int (.t 4) (.c (.d (.int .u8 23))), guard := none }, { dst := some 46, op := .mov (.t 47), guard := none }] false [] [47])
   (.cond (.t 46) .skip (.seq (.region 44 [{ dst := some 48, op := .bin .eql .int (.t 4) (.c (.d (.int .u8 24))), guard := none },
   { dst := some 46, op := .mov (.t 48), guard := none }] false [] [48]) (.cond (.t 46) .skip (.seq
   (.region 45 [{ dst := some 49, op := .bin .eql .int (.t 4) (.c (.d (.int .u8 26))), guard := none }, { dst := some 46, op := .mov (.t 49), guard := none }] false [] [49])
   (.cond (.t 46) .skip (.region 46 [{ dst := some 50, op := .bin .eql .int (.t 4) (.c (.d (.int .u8 27))), guard := none },
   { dst := some 46, op := .mov (.t 50), guard := none }] false [] [50]))))))) (.cond (.t 46) (.seq
   (.region 47 [{ dst := some 2, op := .mov (.c (.d (.str [114, 116]))), guard := none },
   { dst := some 3, op := .mov (.c (.d (.bool true))), guard := none }] false [] []) .ret) .skip)))))))))))))))))))))))) (.seq
   (.region 48 [{ dst := some 2, op := .mov (.c (.d (.str []))), guard := none },
   { dst := some 3, op := .mov (.c (.d (.bool false))), guard := none }] false [] []) .ret))), results := [.tmp 2, .tmp 3] }
theorem c_backstepref21_Shape : cFunc Tryz.prog mvTab 61 (dropOf [(2, [6]), (3, [7]), (5, [9]), (6, [10]), (7, [11]), (8, [12]), (10, [14]), (11, [15]), (12, [16]), (14, [18]), (15, [19]), (16, [20]), (17, [21]), (18, [22]), (20, [24]), (22, [26]), (23, [27]), (24, [28]), (25, [29]), (26, [30]), (28, [32]), (30, [34]), (31, [35]), (32, [36]), (34, [38]), (36, [40]), (37, [41]), (38, [42]), (39, [43]), (40, [44]), (41, [45]), (43, [47]), (44, [48]), (45, [49]), (46, [50])]) = some s_backstepref21_Shape := by kernel_rfl

-- backstep/backstepref21.fits
def s_backstepref21_fits : SFunc := { nparams := 2, ntmps := 46, code := (.seq (.region 0 [{ dst := some 4, op := .mov (.c (.d (.bool false))), guard := none }] false [] []) (.seq
   (.seq (.region 1 [{ dst := some 5, op := .mov (.t 0), guard := none }] false [] []) (.block 0 (.seq
   (.region 2 [{ dst := some 7, op := .bin .eql .int (.t 5) (.c (.d (.int .u8 114))), guard := none }, { dst := some 6, op := .mov (.t 7), guard := none }] false [] [7])
   (.cond (.t 6) (.seq (.region 3 [{ dst := some 8, op := .mov (.t 1), guard := none }, { dst := some 9, op := .bin .geq .int (.t 8) (.c (.d (.int .i64 0))), guard := none },
   { dst := some 10, op := .mov (.t 9), guard := none }, { dst := some 11, op := .mov (.t 1), guard := some (10, true) },
   { dst := some 12, op := .bin .lss .int (.t 11) (.c (.d (.int .i64 16))), guard := some (10, true) },
   { dst := some 13, op := .pick (.t 10) (.t 12) (.c (.d (.bool false))), guard := none },
   { dst := some 4, op := .mov (.t 13), guard := none }] false [] [8, 9, 10, 11, 12, 13]) .ret) (.seq
   (.region 4 [{ dst := some 15, op := .bin .eql .int (.t 5) (.c (.d (.int .u8 107))), guard := none }, { dst := some 14, op := .mov (.t 15), guard := none }] false [] [15])
   (.cond (.t 14) (.seq (.region 5 [{ dst := some 16, op := .mov (.t 1), guard := none }, { dst := some 17, op := .bin .geq .int (.t 16) (.c (.d (.int .i64 0))), guard := none },
   { dst := some 18, op := .mov (.t 17), guard := none }, { dst := some 19, op := .mov (.t 1), guard := some (18, true) },
   { dst := some 20, op := .bin .leq .int (.t 19) (.c (.d (.int .i64 16384))), guard := some (18, true) },
   { dst := some 21, op := .pick (.t 18) (.t 20) (.c (.d (.bool false))), guard := none },
   { dst := some 4, op := .mov (.t 21), guard := none }] false [] [16, 17, 18, 19, 20, 21]) .ret) (.seq
   (.region 6 [{ dst := some 23, op := .bin .eql .int (.t 5) (.c (.d (.int .u8 116))), guard := none }, { dst := some 22, op := .mov (.t 23), guard := none }] false [] [23])
   (.cond (.t 22) (.seq (.region 7 [{ dst := some 24, op := .mov (.t 1), guard := none }, { dst := some 25, op := .bin .geq .int (.t 24) (.c (.d (.int .i64 0))), guard := none },
   { dst := some 26, op := .mov (.t 25), guard := none }, { dst := some 27, op := .mov (.t 1), guard := some (26, true) },
   { dst := some 28, op := .bin .lss .int (.t 27) (.c (.d (.int .i64 65536))), guard := some (26, true) },
   { dst := some 29, op := .pick (.t 26) (.t 28) (.c (.d (.bool false))), guard := none },
   { dst := some 4, op := .mov (.t 29), guard := none }] false [] [24, 25, 26, 27, 28, 29]) .ret) (.seq
   (.region 8 [{ dst := some 31, op := .bin .eql .int (.t 5) (.c (.d (.int .u8 101))), guard := none }, { dst := some 30, op := .mov (.t 31), guard := none }] false [] [31])
   (.cond (.t 30) (.seq (.region 9 [{ dst := some 32, op := .mov (.t 1), guard := none }, { dst := some 33, op := .bin .geq .int (.t 32) (.c (.d (.int .i64 1))), guard := none },
   { dst := some 34, op := .mov (.t 33), guard := none }, { dst := some 35, op := .mov (.t 1), guard := some (34, true) },
   { dst := some 36, op := .bin .leq .int (.t 35) (.c (.d (.int .i64 23))), guard := some (34, true) },
   { dst := some 37, op := .pick (.t 34) (.t 36) (.c (.d (.bool false))), guard := none },
   { dst := some 4, op := .mov (.t 37), guard := none }] false [] [32, 33, 34, 35, 36, 37]) .ret) (.seq
   (.region 10 [{ dst := some 39, op := .bin .eql .int (.t 5) (.c (.d (.int .u8 111))), guard := none }, { dst := some 38, op := .mov (.t 39), guard := none }] false [] [39])
   (.cond (.t 38) (.seq (.region 11 [{ dst := some 40, op := .mov (.t 1), guard := none }, { dst := some 41, op := .bin .geq .int (.t 40) (.c (.d (.int .i64 8))), guard := none },
   { dst := some 42, op := .mov (.t 41), guard := none }, { dst := some 43, op := .mov (.t 1), guard := some (42, true) },
   { dst := some 44, op := .bin .leq .int (.t 43) (.c (.d (.int .i64 23))), guard := some (42, true) },
   { dst := some 45, op := .pick (.t 42) (.t 44) (.c (.d (.bool false))), guard := none },
   { dst := some 4, op := .mov (.t 45), guard := none }] false [] [40, 41, 42, 43, 44, 45]) .ret) .skip)))))))))))) (.seq
   (.region 12 [{ dst := some 4, op := .mov (.c (.d (.bool true))), guard := none }] false [] []) .ret))), results := [.tmp 4] }
theorem c_backstepref21_fits : cFunc Tryz.prog mvTab 62 (dropOf [(2, [7]), (3, [8, 9, 10, 11, 12, 13]), (4, [15]), (5, [16, 17, 18, 19, 20, 21]), (6, [23]), (7, [24, 25, 26, 27, 28, 29]), (8, [31]), (9, [32, 33, 34, 35, 36, 37]), (10, [39]), (11, [40, 41, 42, 43, 44, 45])]) = some s_backstepref21_fits := by kernel_rfl

-- backstep/backstepref21.Get
def s_backstepref21_Get : SFunc := { nparams := 2, ntmps := 20, code := (.seq (.region 0 [{ dst := some 2, op := .box 43 (.t 0), guard := none },
   { dst := some 4, op := .mov (.c (.d (.int .i64 0))), guard := none }] false [] []) (.seq (.seq (.region 1 [{ dst := some 5, op := .mov (.t 1), guard := none }] false [] [])
   (.block 0 (.seq (.region 2 [{ dst := some 7, op := .bin .eql .int (.t 5) (.c (.d (.int .i64 0))), guard := none },
   { dst := some 6, op := .mov (.t 7), guard := none }] false [] [7]) (.cond (.t 6) (.seq (.region 3 [{ dst := some 8, op := .fa (.t 2) 1 1, guard := none },
   { dst := some 9, op := .ld 1 false (.t 8), guard := none }, { dst := some 4, op := .mov (.t 9), guard := none }] false [] [8, 9]) .ret) (.seq
   (.region 4 [{ dst := some 11, op := .bin .eql .int (.t 5) (.c (.d (.int .i64 1))), guard := none }, { dst := some 10, op := .mov (.t 11), guard := none }] false [] [11])
   (.cond (.t 10) (.seq (.region 5 [{ dst := some 12, op := .fa (.t 2) 2 2, guard := none }, { dst := some 13, op := .ld 1 false (.t 12), guard := none },
   { dst := some 4, op := .mov (.t 13), guard := none }] false [] [12, 13]) .ret) (.seq
   (.region 6 [{ dst := some 15, op := .bin .eql .int (.t 5) (.c (.d (.int .i64 2))), guard := none }, { dst := some 14, op := .mov (.t 15), guard := none }] false [] [15])
   (.cond (.t 14) (.seq (.region 7 [{ dst := some 16, op := .fa (.t 2) 3 3, guard := none }, { dst := some 17, op := .ld 1 false (.t 16), guard := none },
   { dst := some 4, op := .mov (.t 17), guard := none }] false [] [16, 17]) .ret) .skip)))))))) (.seq (.region 8 [{ dst := some 18, op := .fa (.t 2) 4 4, guard := none },
   { dst := some 19, op := .ld 1 false (.t 18), guard := none }, { dst := some 4, op := .mov (.t 19), guard := none }] false [] [18, 19]) .ret))), results := [.tmp 4] }
theorem c_backstepref21_Get : cFunc Tryz.prog mvTab 63 (dropOf [(2, [7]), (3, [8, 9]), (4, [11]), (5, [12, 13]), (6, [15]), (7, [16, 17]), (8, [18, 19])]) = some s_backstepref21_Get := by kernel_rfl

-- backstep/asm.writers$1
def s_asm_writers_1 : SFunc := { nparams := 1, ntmps := 6, code := (.seq (.region 0 [{ dst := some 2, op := .mov (.c (.d (.str []))), guard := none }] false [] []) (.seq
   (.region 1 [{ dst := some 3, op := .mov (.t 0), guard := none }, { dst := some 4, op := .call 66 [.t 3], guard := none },
   { dst := some 5, op := .bin .add .str (.c (.d (.str [114]))) (.t 4), guard := none },
   { dst := some 2, op := .mov (.t 5), guard := none }] false [] [3, 4, 5]) .ret)), results := [.tmp 2] }
theorem c_asm_writers_1 : cFunc Tryz.prog mvTab 65 (dropOf [(1, [3, 4, 5])]) = some s_asm_writers_1 := by kernel_rfl

-- backstep/asm.writers$2
def s_asm_writers_2 : SFunc := { nparams := 1, ntmps := 6, code := (.seq (.region 0 [{ dst := some 2, op := .mov (.c (.d (.str []))), guard := none }] false [] []) (.seq
   (.region 1 [{ dst := some 3, op := .mov (.t 0), guard := none }, { dst := some 4, op := .cnvI .u8 (.t 3), guard := none },
   { dst := some 5, op := .call 68 [.t 4], guard := none }, { dst := some 2, op := .mov (.t 5), guard := none }] false [] [3, 4, 5]) .ret)), results := [.tmp 2] }
theorem c_asm_writers_2 : cFunc Tryz.prog mvTab 67 (dropOf [(1, [3, 4, 5])]) = some s_asm_writers_2 := by kernel_rfl

-- backstep/arith.Symbol
def s_arith_Symbol : SFunc := { nparams := 1, ntmps := 6, code := (.seq (.region 0 [{ dst := some 2, op := .mov (.c (.d (.str []))), guard := none }] false [] []) (.seq
   (.region 1 [{ dst := some 3, op := .mov (.t 0), guard := none }, { dst := some 4, op := .call 76 [.t 3], guard := none },
   { dst := some 5, op := .fld (.t 4) 1 1 1 false, guard := none }, { dst := some 2, op := .mov (.t 5), guard := none }] false [] [3, 4, 5]) .ret)), results := [.tmp 2] }
theorem c_arith_Symbol : cFunc Tryz.prog mvTab 68 (dropOf [(1, [3, 4, 5])]) = some s_arith_Symbol := by kernel_rfl

-- backstep/arith.Operators
def s_arith_Operators_l0 : SCode := (.seq (.region 3 [{ dst := some 7, op := .bin .lss .int (.t 6) (.t 5), guard := none }] false [] []) (.seq (.cond (.t 7) .skip (.exit 0)) (.seq
   (.block 1 (.seq (.region 4 [{ dst := some 8, op := .ia 3 (.t 4) (.t 6), guard := none }, { dst := some 9, op := .ld 3 true (.t 8), guard := none },
   { dst := some 3, op := .alloc 116 (.d (.agg [.int .u8 0, .str [], .int .i64 0])), guard := none }, { dst := none, op := .st 3 (.t 3) (.t 9), guard := none }] false [] [8, 9])
   (.seq (.region 5 [{ dst := some 10, op := .fa (.t 3) 2 2, guard := none }, { dst := some 11, op := .ld 1 false (.t 10), guard := none },
   { dst := some 12, op := .bin .gtr .int (.t 11) (.c (.d (.int .i64 0))), guard := none }, { dst := some 13, op := .mov (.t 12), guard := none },
   { dst := some 14, op := .fa (.t 3) 2 2, guard := some (13, true) }, { dst := some 15, op := .ld 1 false (.t 14), guard := some (13, true) },
   { dst := some 16, op := .bin .lss .int (.t 15) (.c (.d (.int .i64 9))), guard := some (13, true) },
   { dst := some 17, op := .pick (.t 13) (.t 16) (.c (.d (.bool false))), guard := none }] false [] [10, 11, 12, 13, 14, 15, 16]) (.cond (.t 17)
   (.region 6 [{ dst := some 18, op := .mov (.t 1), guard := none }, { dst := some 19, op := .fa (.t 3) 0 0, guard := none },
   { dst := some 20, op := .ld 1 false (.t 19), guard := none }, { dst := some 21, op := .bsl 5 1 1 [.t 20], guard := none },
   { dst := some 22, op := .app 5 1 1 (.t 18) (.t 21), guard := none }, { dst := some 1, op := .mov (.t 22), guard := none }] false [] [18, 19, 20, 21, 22]) .skip))))
   (.region 7 [{ dst := some 23, op := .bin .add .int (.t 6) (.c (.d (.int .i64 1))), guard := none }, { dst := some 6, op := .mov (.t 23), guard := none }] false [] [23]))))
def s_arith_Operators : SFunc := { nparams := 0, ntmps := 27, code := (.seq (.region 0 [{ dst := some 0, op := .nilrow 5 1, guard := none }] false [] []) (.seq
   (.region 1 [{ dst := some 1, op := .nilrow 5 1, guard := none }] false [] []) (.seq (.seq (.region 2 [{ dst := some 4, op := .call 85 [], guard := none },
   { dst := some 5, op := .len .sl (.t 4), guard := none }, { dst := some 6, op := .mov (.c (.d (.int .i64 0))), guard := none }] false [] [])
   (.block 0 (.loop s_arith_Operators_l0))) (.seq (.region 8 [{ dst := some 24, op := .mov (.t 1), guard := none },
   { dst := some 25, op := .call 86 [.t 24], guard := none }] false [] [24, 25]) (.seq (.region 9 [{ dst := some 26, op := .mov (.t 1), guard := none },
   { dst := some 0, op := .mov (.t 26), guard := none }] false [] [26]) .ret))))), results := [.tmp 0] }
theorem c_arith_Operators : cFunc Tryz.prog mvTab 72 (dropOf [(4, [8, 9]), (5, [10, 11, 12, 13, 14, 15, 16]), (6, [18, 19, 20, 21, 22]), (7, [23]), (8, [24, 25]), (9, [26])]) = some s_arith_Operators := by kernel_rfl

-- backstep/backstepref22.number
def s_backstepref22_number_l0 : SCode := (.seq (.seq (.region 8 [{ dst := some 28, op := .mov (.t 6), guard := none }, { dst := some 29, op := .mov (.t 0), guard := none },
   { dst := some 30, op := .len .str (.t 29), guard := none }, { dst := some 31, op := .bin .lss .int (.t 28) (.t 30), guard := none }] false [] [28, 29, 30])
   (.cond (.t 31) .skip (.exit 0))) (.seq (.block 1 (.seq (.seq (.region 10 [{ dst := some 34, op := .mov (.t 0), guard := none },
   { dst := some 35, op := .mov (.t 6), guard := none }, { dst := some 36, op := .ixS (.t 34) (.t 35), guard := none },
   { dst := some 37, op := .bin .lss .int (.t 36) (.c (.d (.int .u8 48))), guard := none }, { dst := some 38, op := .mov (.t 37), guard := none },
   { dst := some 39, op := .mov (.t 0), guard := some (38, false) }, { dst := some 40, op := .mov (.t 6), guard := some (38, false) },
   { dst := some 41, op := .ixS (.t 39) (.t 40), guard := some (38, false) }, { dst := some 42, op := .bin .gtr .int (.t 41) (.c (.d (.int .u8 57))), guard := some (38, false) },
   { dst := some 43, op := .pick (.t 38) (.c (.d (.bool true))) (.t 42), guard := none }] false [] [34, 35, 36, 37, 38, 39, 40, 41, 42]) (.cond (.t 43) (.seq
   (.region 11 [{ dst := some 2, op := .mov (.c (.d (.int .i64 0))), guard := none },
   { dst := some 3, op := .mov (.c (.d (.bool false))), guard := none }] false [] []) .ret) .skip)) (.region 12 [{ dst := some 44, op := .mov (.t 5), guard := none },
   { dst := some 45, op := .bin .mul .int (.c (.d (.int .u64 10))) (.t 44), guard := none }, { dst := some 46, op := .mov (.t 0), guard := none },
   { dst := some 47, op := .mov (.t 6), guard := none }, { dst := some 48, op := .ixS (.t 46) (.t 47), guard := none },
   { dst := some 49, op := .bin .sub .int (.t 48) (.c (.d (.int .u8 48))), guard := none }, { dst := some 50, op := .cnvI .u64 (.t 49), guard := none },
   { dst := some 51, op := .bin .add .int (.t 45) (.t 50), guard := none }, { dst := some 5, op := .mov (.t 51), guard := none }] false [] [44, 45, 46, 47, 48, 49, 50, 51])))
   (.region 9 [{ dst := some 32, op := .mov (.t 6), guard := none }, { dst := some 33, op := .bin .add .int (.t 32) (.c (.d (.int .i64 1))), guard := none },
   { dst := some 6, op := .mov (.t 33), guard := none }] false [] [32, 33])))
def s_backstepref22_number : SFunc := { nparams := 1, ntmps := 64, code := (.seq (.region 0 [{ dst := some 2, op := .mov (.c (.d (.int .i64 0))), guard := none },
   { dst := some 3, op := .mov (.c (.d (.bool false))), guard := none }] false [] []) (.seq
   (.region 1 [{ dst := some 4, op := .mov (.c (.d (.int .i64 0))), guard := none }] false [] []) (.seq (.seq (.region 2 [{ dst := some 8, op := .mov (.t 0), guard := none },
   { dst := some 9, op := .len .str (.t 8), guard := none }, { dst := some 10, op := .bin .gtr .int (.t 9) (.c (.d (.int .i64 0))), guard := none },
   { dst := some 11, op := .mov (.t 10), guard := none }, { dst := some 12, op := .mov (.t 0), guard := some (11, true) },
   { dst := some 13, op := .ixS (.t 12) (.c (.d (.int .i64 0))), guard := some (11, true) },
   { dst := some 14, op := .bin .eql .int (.t 13) (.c (.d (.int .u8 45))), guard := some (11, true) },
   { dst := some 15, op := .pick (.t 11) (.t 14) (.c (.d (.bool false))), guard := none }] false [] [8, 9, 10, 11, 12, 13, 14]) (.cond (.t 15)
   (.region 3 [{ dst := some 4, op := .mov (.c (.d (.int .i64 1))), guard := none }] false [] []) .skip)) (.seq (.seq
   (.region 4 [{ dst := some 16, op := .mov (.t 0), guard := none }, { dst := some 17, op := .len .str (.t 16), guard := none },
   { dst := some 18, op := .mov (.t 4), guard := none }, { dst := some 19, op := .bin .eql .int (.t 17) (.t 18), guard := none },
   { dst := some 20, op := .mov (.t 19), guard := none }, { dst := some 21, op := .mov (.t 0), guard := some (20, false) },
   { dst := some 22, op := .len .str (.t 21), guard := some (20, false) }, { dst := some 23, op := .mov (.t 4), guard := some (20, false) },
   { dst := some 24, op := .bin .add .int (.t 23) (.c (.d (.int .i64 19))), guard := some (20, false) },
   { dst := some 25, op := .bin .gtr .int (.t 22) (.t 24), guard := some (20, false) },
   { dst := some 26, op := .pick (.t 20) (.c (.d (.bool true))) (.t 25), guard := none }] false [] [16, 17, 18, 19, 20, 21, 22, 23, 24, 25]) (.cond (.t 26) (.seq
   (.region 5 [{ dst := some 2, op := .mov (.c (.d (.int .i64 0))), guard := none },
   { dst := some 3, op := .mov (.c (.d (.bool false))), guard := none }] false [] []) .ret) .skip)) (.seq
   (.region 6 [{ dst := some 5, op := .mov (.c (.d (.int .u64 0))), guard := none }] false [] []) (.seq (.seq (.region 7 [{ dst := some 27, op := .mov (.t 4), guard := none },
   { dst := some 6, op := .mov (.t 27), guard := none }] false [] [27]) (.block 0 (.loop s_backstepref22_number_l0))) (.seq
   (.region 13 [{ dst := some 52, op := .mov (.t 5), guard := none }, { dst := some 53, op := .cnvI .i64 (.t 52), guard := none },
   { dst := some 7, op := .mov (.t 53), guard := none }] false [] [52, 53]) (.seq (.seq (.region 14 [{ dst := some 54, op := .mov (.t 4), guard := none },
   { dst := some 55, op := .bin .eql .int (.t 54) (.c (.d (.int .i64 1))), guard := none }] false [] [54]) (.cond (.t 55)
   (.region 15 [{ dst := some 56, op := .mov (.t 5), guard := none }, { dst := some 57, op := .un .neg (.t 56), guard := none },
   { dst := some 58, op := .cnvI .i64 (.t 57), guard := none }, { dst := some 7, op := .mov (.t 58), guard := none }] false [] [56, 57, 58]) .skip)) (.seq
   (.region 16 [{ dst := some 59, op := .mov (.t 7), guard := none }, { dst := some 60, op := .mov (.t 7), guard := none },
   { dst := some 61, op := .call 55 [.t 60], guard := none }, { dst := some 62, op := .mov (.t 0), guard := none },
   { dst := some 63, op := .bin .eql .str (.t 61) (.t 62), guard := none }, { dst := some 2, op := .mov (.t 59), guard := none },
   { dst := some 3, op := .mov (.t 63), guard := none }] false [] [59, 60, 61, 62, 63]) .ret))))))))), results := [.tmp 2, .tmp 3] }
theorem c_backstepref22_number : cFunc Tryz.prog mvTab 74 (dropOf [(2, [8, 9, 10, 11, 12, 13, 14]), (4, [16, 17, 18, 19, 20, 21, 22, 23, 24, 25]), (7, [27]), (8, [28, 29, 30]), (10, [34, 35, 36, 37, 38, 39, 40, 41, 42]), (12, [44, 45, 46, 47, 48, 49, 50, 51]), (9, [32, 33]), (13, [52, 53]), (14, [54]), (15, [56, 57, 58]), (16, [59, 60, 61, 62, 63])]) = some s_backstepref22_number := by kernel_rfl

-- backstep/arith.find
def s_arith_find_l0 : SCode := (.seq (.region 2 [{ dst := some 8, op := .bin .lss .int (.t 7) (.t 6), guard := none }] false [] []) (.seq (.cond (.t 8) .skip (.exit 0)) (.seq
   (.block 1 (.seq (.region 3 [{ dst := some 9, op := .ia 3 (.t 5) (.t 7), guard := none }, { dst := some 10, op := .ld 3 true (.t 9), guard := none },
   { dst := some 4, op := .alloc 116 (.d (.agg [.int .u8 0, .str [], .int .i64 0])), guard := none }, { dst := none, op := .st 3 (.t 4) (.t 10), guard := none }] false [] [9, 10])
   (.seq (.region 4 [{ dst := some 11, op := .fa (.t 4) 0 0, guard := none }, { dst := some 12, op := .ld 1 false (.t 11), guard := none },
   { dst := some 13, op := .mov (.t 0), guard := none }, { dst := some 14, op := .bin .eql .int (.t 12) (.t 13), guard := none }] false [] [11, 12, 13]) (.cond (.t 14) (.seq
   (.region 5 [{ dst := some 15, op := .ld 3 true (.t 4), guard := none }, { dst := none, op := .st 3 (.t 2) (.t 15), guard := none }] false [] [15]) .ret) .skip))))
   (.region 6 [{ dst := some 16, op := .bin .add .int (.t 7) (.c (.d (.int .i64 1))), guard := none }, { dst := some 7, op := .mov (.t 16), guard := none }] false [] [16]))))
def s_arith_find : SFunc := { nparams := 1, ntmps := 18, code := (.seq
   (.region 0 [{ dst := some 2, op := .alloc 116 (.d (.agg [.int .u8 0, .str [], .int .i64 0])), guard := none }] false [] []) (.seq (.seq
   (.region 1 [{ dst := some 5, op := .call 85 [], guard := none }, { dst := some 6, op := .len .sl (.t 5), guard := none },
   { dst := some 7, op := .mov (.c (.d (.int .i64 0))), guard := none }] false [] []) (.block 0 (.loop s_arith_find_l0))) (.seq
   (.region 7 [{ dst := some 17, op := .build [.d (.int .u8 0), .d (.str []), .d (.int .i64 0)] [], guard := none },
   { dst := none, op := .st 3 (.t 2) (.t 17), guard := none }] false [] [17]) .ret))), results := [.cell 2 3 true] }
theorem c_arith_find : cFunc Tryz.prog mvTab 76 (dropOf [(3, [9, 10]), (4, [11, 12, 13]), (5, [15]), (6, [16]), (7, [17])]) = some s_arith_find := by kernel_rfl

-- backstep/arith.entries
def s_arith_entries : SFunc := { nparams := 0, ntmps := 23, code := (.seq (.region 0 [{ dst := some 0, op := .nilrow 116 3, guard := none }] false [] []) (.seq
   (.region 1 [{ dst := some 1, op := .build [.d (.int .u8 0), .d (.str []), .d (.int .i64 0)] [(0, .c (.d (.int .u8 8))), (1, .c (.d (.str [43]))), (2, .c (.d (.int .i64 7)))], guard := none },
   { dst := some 2, op := .build [.d (.int .u8 0), .d (.str []), .d (.int .i64 0)] [(0, .c (.d (.int .u8 9))), (1, .c (.d (.str [45]))), (2, .c (.d (.int .i64 7)))], guard := none },
   { dst := some 3, op := .build [.d (.int .u8 0), .d (.str []), .d (.int .i64 0)] [(0, .c (.d (.int .u8 10))), (1, .c (.d (.str [42]))), (2, .c (.d (.int .i64 8)))], guard := none },
   { dst := some 4, op := .build [.d (.int .u8 0), .d (.str []), .d (.int .i64 0)] [(0, .c (.d (.int .u8 11))), (1, .c (.d (.str [47]))), (2, .c (.d (.int .i64 8)))], guard := none },
   { dst := some 5, op := .build [.d (.int .u8 0), .d (.str []), .d (.int .i64 0)] [(0, .c (.d (.int .u8 12))), (1, .c (.d (.str [37]))), (2, .c (.d (.int .i64 8)))], guard := none },
   { dst := some 6, op := .build [.d (.int .u8 0), .d (.str []), .d (.int .i64 0)] [(0, .c (.d (.int .u8 13))), (1, .c (.d (.str [38]))), (2, .c (.d (.int .i64 5)))], guard := none },
   { dst := some 7, op := .build [.d (.int .u8 0), .d (.str []), .d (.int .i64 0)] [(0, .c (.d (.int .u8 14))), (1, .c (.d (.str [124]))), (2, .c (.d (.int .i64 3)))], guard := none },
   { dst := some 8, op := .build [.d (.int .u8 0), .d (.str []), .d (.int .i64 0)] [(0, .c (.d (.int .u8 15))), (1, .c (.d (.str [94]))), (2, .c (.d (.int .i64 4)))], guard := none },
   { dst := some 9, op := .build [.d (.int .u8 0), .d (.str []), .d (.int .i64 0)] [(0, .c (.d (.int .u8 16))), (1, .c (.d (.str [61, 61]))), (2, .c (.d (.int .i64 6)))], guard := none },
   { dst := some 10, op := .build [.d (.int .u8 0), .d (.str []), .d (.int .i64 0)] [(0, .c (.d (.int .u8 17))), (1, .c (.d (.str [33, 61]))), (2, .c (.d (.int .i64 6)))], guard := none },
   { dst := some 11, op := .build [.d (.int .u8 0), .d (.str []), .d (.int .i64 0)] [(0, .c (.d (.int .u8 18))), (1, .c (.d (.str [60]))), (2, .c (.d (.int .i64 6)))], guard := none },
   { dst := some 12, op := .build [.d (.int .u8 0), .d (.str []), .d (.int .i64 0)] [(0, .c (.d (.int .u8 19))), (1, .c (.d (.str [60, 61]))), (2, .c (.d (.int .i64 6)))], guard := none },
   { dst := some 13, op := .build [.d (.int .u8 0), .d (.str []), .d (.int .i64 0)] [(0, .c (.d (.int .u8 20))), (1, .c (.d (.str [62]))), (2, .c (.d (.int .i64 6)))], guard := none },
   { dst := some 14, op := .build [.d (.int .u8 0), .d (.str []), .d (.int .i64 0)] [(0, .c (.d (.int .u8 21))), (1, .c (.d (.str [62, 61]))), (2, .c (.d (.int .i64 6)))], guard := none },
   { dst := some 15, op := .build [.d (.int .u8 0), .d (.str []), .d (.int .i64 0)] [(0, .c (.d (.int .u8 22))), (1, .c (.d (.str [38, 38]))), (2, .c (.d (.int .i64 2)))], guard := none },
   { dst := some 16, op := .build [.d (.int .u8 0), .d (.str []), .d (.int .i64 0)] [(0, .c (.d (.int .u8 23))), (1, .c (.d (.str [124, 124]))), (2, .c (.d (.int .i64 1)))], guard := none },
   { dst := some 17, op := .build [.d (.int .u8 0), .d (.str []), .d (.int .i64 0)] [(0, .c (.d (.int .u8 6))), (1, .c (.d (.str [45]))), (2, .c (.d (.int .i64 9)))], guard := none },
   { dst := some 18, op := .build [.d (.int .u8 0), .d (.str []), .d (.int .i64 0)] [(0, .c (.d (.int .u8 7))), (1, .c (.d (.str [33]))), (2, .c (.d (.int .i64 9)))], guard := none },
   { dst := some 19, op := .build [.d (.int .u8 0), .d (.str []), .d (.int .i64 0)] [(0, .c (.d (.int .u8 40))), (1, .c (.d (.str [43, 61]))), (2, .c (.d (.int .i64 0)))], guard := none },
   { dst := some 20, op := .build [.d (.int .u8 0), .d (.str []), .d (.int .i64 0)] [(0, .c (.d (.int .u8 41))), (1, .c (.d (.str [45, 61]))), (2, .c (.d (.int .i64 0)))], guard := none },
   { dst := some 21, op := .build [.d (.int .u8 0), .d (.str []), .d (.int .i64 0)] [(0, .c (.d (.int .u8 42))), (1, .c (.d (.str [94, 61]))), (2, .c (.d (.int .i64 0)))], guard := none },
   { dst := some 22, op := .bsl 116 3 21 [.t 1, .t 2, .t 3, .t 4, .t 5, .t 6, .t 7, .t 8, .t 9, .t 10, .t 11, .t 12, .t 13, .t 14, .t 15, .t 16, .t 17, .t 18, .t 19, .t 20, .t 21], guard := none },
   { dst := some 0, op := .mov (.t 22), guard := none }] false [] [1, 2, 3, 4, 5, 6, 7, 8, 9, 10, 11, 12, 13, 14, 15, 16, 17, 18, 19, 20, 21, 22]) .ret)), results := [.tmp 0] }
theorem c_arith_entries : cFunc Tryz.prog mvTab 85 (dropOf [(1, [1, 2, 3, 4, 5, 6, 7, 8, 9, 10, 11, 12, 13, 14, 15, 16, 17, 18, 19, 20, 21, 22])]) = some s_arith_entries := by kernel_rfl

-- (*strings.Builder).WriteString
def s_strings_Builder_WriteString : SFunc := { nparams := 2, ntmps := 19, code := (.seq (.region 0 [{ dst := some 4, op := .mov (.c (.d (.int .i64 0))), guard := none },
   { dst := some 5, op := .mov (.c (.d .nilif)), guard := none }] false [] []) (.seq (.region 1 [{ dst := some 6, op := .mov (.t 0), guard := none },
   { dst := some 7, op := .call 52 [.t 6], guard := none }] false [] [6, 7]) (.seq (.region 2 [{ dst := some 8, op := .mov (.t 0), guard := none },
   { dst := some 9, op := .mov (.t 0), guard := none }, { dst := some 10, op := .nilc (.t 9), guard := none }, { dst := some 11, op := .fa (.t 10) 1 1, guard := none },
   { dst := some 12, op := .ld 1 false (.t 11), guard := none }, { dst := some 13, op := .mov (.t 1), guard := none },
   { dst := some 14, op := .app 5 1 1 (.t 12) (.t 13), guard := none }, { dst := some 15, op := .nilc (.t 8), guard := none },
   { dst := some 16, op := .fa (.t 15) 1 1, guard := none }, { dst := none, op := .st 1 (.t 16) (.t 14), guard := none }] false [] [8, 9, 10, 11, 12, 13, 14, 15, 16]) (.seq
   (.region 3 [{ dst := some 17, op := .mov (.t 1), guard := none }, { dst := some 18, op := .len .str (.t 17), guard := none },
   { dst := some 4, op := .mov (.t 18), guard := none }, { dst := some 5, op := .mov (.c (.d .nilif)), guard := none }] false [] [17, 18]) .ret)))), results := [.tmp 4, .tmp 5] }
theorem c_strings_Builder_WriteString : cFunc Tryz.prog mvTab 28 (dropOf [(1, [6, 7]), (2, [8, 9, 10, 11, 12, 13, 14, 15, 16]), (3, [17, 18])]) = some s_strings_Builder_WriteString := by kernel_rfl

-- strings.TrimPrefix
def s_strings_TrimPrefix : SFunc := { nparams := 2, ntmps := 8, code := (.seq (.region 0 [{ dst := some 4, op := .mov (.c (.d (.str []))), guard := none }] false [] []) (.seq
   (.region 1 [{ dst := some 5, op := .mov (.t 0), guard := none }, { dst := some 6, op := .mov (.t 1), guard := none },
   { dst := some 7, op := .call 84 [.t 5, .t 6], guard := none }, { dst := some 4, op := .mov (.t 7), guard := none }] false [] [5, 6, 7]) .ret)), results := [.tmp 4] }
theorem c_strings_TrimPrefix : cFunc Tryz.prog mvTab 71 (dropOf [(1, [5, 6, 7])]) = some s_strings_TrimPrefix := by kernel_rfl

-- internal/stringslite.TrimPrefix
def s_internal_stringslite_TrimPrefix : SFunc := { nparams := 2, ntmps := 13, code := (.seq
   (.region 0 [{ dst := some 4, op := .mov (.c (.d (.str []))), guard := none }] false [] []) (.seq (.seq (.region 1 [{ dst := some 5, op := .mov (.t 0), guard := none },
   { dst := some 6, op := .mov (.t 1), guard := none }, { dst := some 7, op := .call 95 [.t 5, .t 6], guard := none }] false [] [5, 6]) (.cond (.t 7) (.seq
   (.region 2 [{ dst := some 8, op := .mov (.t 0), guard := none }, { dst := some 9, op := .mov (.t 1), guard := none }, { dst := some 10, op := .len .str (.t 9), guard := none },
   { dst := some 11, op := .slS (.t 8) (some (.t 10)) none, guard := none }, { dst := some 4, op := .mov (.t 11), guard := none }] false [] [8, 9, 10, 11]) .ret) .skip)) (.seq
   (.region 3 [{ dst := some 12, op := .mov (.t 0), guard := none }, { dst := some 4, op := .mov (.t 12), guard := none }] false [] [12]) .ret))), results := [.tmp 4] }
theorem c_internal_stringslite_TrimPrefix : cFunc Tryz.prog mvTab 84 (dropOf [(1, [5, 6]), (2, [8, 9, 10, 11]), (3, [12])]) = some s_internal_stringslite_TrimPrefix := by kernel_rfl

-- internal/stringslite.HasPrefix
def s_internal_stringslite_HasPrefix : SFunc := { nparams := 2, ntmps := 18, code := (.seq
   (.region 0 [{ dst := some 4, op := .mov (.c (.d (.bool false))), guard := none }] false [] []) (.seq (.region 1 [{ dst := some 5, op := .mov (.t 0), guard := none },
   { dst := some 6, op := .len .str (.t 5), guard := none }, { dst := some 7, op := .mov (.t 1), guard := none }, { dst := some 8, op := .len .str (.t 7), guard := none },
   { dst := some 9, op := .bin .geq .int (.t 6) (.t 8), guard := none }, { dst := some 10, op := .mov (.t 9), guard := none },
   { dst := some 11, op := .mov (.t 0), guard := some (10, true) }, { dst := some 12, op := .mov (.t 1), guard := some (10, true) },
   { dst := some 13, op := .len .str (.t 12), guard := some (10, true) }, { dst := some 14, op := .slS (.t 11) none (some (.t 13)), guard := some (10, true) },
   { dst := some 15, op := .mov (.t 1), guard := some (10, true) }, { dst := some 16, op := .bin .eql .str (.t 14) (.t 15), guard := some (10, true) },
   { dst := some 17, op := .pick (.t 10) (.t 16) (.c (.d (.bool false))), guard := none },
   { dst := some 4, op := .mov (.t 17), guard := none }] false [] [5, 6, 7, 8, 9, 10, 11, 12, 13, 14, 15, 16, 17]) .ret)), results := [.tmp 4] }
theorem c_internal_stringslite_HasPrefix : cFunc Tryz.prog mvTab 95 (dropOf [(1, [5, 6, 7, 8, 9, 10, 11, 12, 13, 14, 15, 16, 17])]) = some s_internal_stringslite_HasPrefix := by kernel_rfl

-- slices.Sort[[]byte,byte]
def s_slices_Sort_byte_byte : SFunc := { nparams := 1, ntmps := 11, code := (.seq (.region 0 [{ dst := some 3, op := .mov (.t 0), guard := none },
   { dst := some 4, op := .len .sl (.t 3), guard := none }, { dst := some 2, op := .mov (.t 4), guard := none }] false [] [3, 4])
   (.region 1 [{ dst := some 5, op := .mov (.t 0), guard := none }, { dst := some 6, op := .mov (.t 2), guard := none }, { dst := some 7, op := .mov (.t 2), guard := none },
   { dst := some 8, op := .cnvI .u64 (.t 7), guard := none }, { dst := some 9, op := .call 97 [.t 8], guard := none },
   { dst := some 10, op := .call 96 [.t 5, .c (.d (.int .i64 0)), .t 6, .t 9], guard := none }] false [] [5, 6, 7, 8, 9, 10])), results := [] }
theorem c_slices_Sort_byte_byte : cFunc Tryz.prog mvTab 86 (dropOf [(0, [3, 4]), (1, [5, 6, 7, 8, 9, 10])]) = some s_slices_Sort_byte_byte := by kernel_rfl

-- slices.pdqsortOrdered[byte]
def s_slices_pdqsortOrdered_byte_l0 : SCode := (.block 1 (.seq (.region 2 [{ dst := some 19, op := .mov (.t 2), guard := none },
   { dst := some 20, op := .mov (.t 1), guard := none }, { dst := some 21, op := .bin .sub .int (.t 19) (.t 20), guard := none },
   { dst := some 10, op := .mov (.t 21), guard := none }] false [] [19, 20, 21]) (.seq (.seq (.region 3 [{ dst := some 22, op := .mov (.t 10), guard := none },
   { dst := some 23, op := .bin .leq .int (.t 22) (.c (.d (.int .i64 12))), guard := none }] false [] [22]) (.cond (.t 23) (.seq
   (.region 4 [{ dst := some 24, op := .mov (.t 0), guard := none }, { dst := some 25, op := .mov (.t 1), guard := none }, { dst := some 26, op := .mov (.t 2), guard := none },
   { dst := some 27, op := .call 108 [.t 24, .t 25, .t 26], guard := none }] false [] [24, 25, 26, 27]) .ret) .skip)) (.seq (.seq
   (.region 5 [{ dst := some 28, op := .mov (.t 3), guard := none }, { dst := some 29, op := .bin .eql .int (.t 28) (.c (.d (.int .i64 0))), guard := none }] false [] [28])
   (.cond (.t 29) (.seq (.region 6 [{ dst := some 30, op := .mov (.t 0), guard := none }, { dst := some 31, op := .mov (.t 1), guard := none },
   { dst := some 32, op := .mov (.t 2), guard := none }, { dst := some 33, op := .call 109 [.t 30, .t 31, .t 32], guard := none }] false [] [30, 31, 32, 33]) .ret) .skip)) (.seq
   (.seq (.region 7 [{ dst := some 34, op := .mov (.t 8), guard := none }, { dst := some 35, op := .un .not (.t 34), guard := none }] false [] [34]) (.cond (.t 35) (.seq
   (.region 8 [{ dst := some 36, op := .mov (.t 0), guard := none }, { dst := some 37, op := .mov (.t 1), guard := none }, { dst := some 38, op := .mov (.t 2), guard := none },
   { dst := some 39, op := .call 110 [.t 36, .t 37, .t 38], guard := none }] false [] [36, 37, 38, 39]) (.region 9 [{ dst := some 40, op := .mov (.t 3), guard := none },
   { dst := some 41, op := .bin .sub .int (.t 40) (.c (.d (.int .i64 1))), guard := none }, { dst := some 3, op := .mov (.t 41), guard := none }] false [] [40, 41])) .skip)) (.seq
   (.region 10 [{ dst := some 43, op := .mov (.t 0), guard := none }, { dst := some 44, op := .mov (.t 1), guard := none }, { dst := some 45, op := .mov (.t 2), guard := none },
   { dst := some 46, op := .call 111 [.t 43, .t 44, .t 45], guard := none }, { dst := some 42, op := .mov (.t 46), guard := none },
   { dst := some 47, op := .ext (.t 42) 0, guard := none }, { dst := some 48, op := .ext (.t 42) 1, guard := none }, { dst := some 11, op := .mov (.t 47), guard := none },
   { dst := some 12, op := .mov (.t 48), guard := none }] false [] [43, 44, 45, 46, 42, 47, 48]) (.seq (.seq (.region 11 [{ dst := some 49, op := .mov (.t 12), guard := none },
   { dst := some 50, op := .bin .eql .int (.t 49) (.c (.d (.int .i64 2))), guard := none }] false [] [49]) (.cond (.t 50) (.seq
   (.region 12 [{ dst := some 51, op := .mov (.t 0), guard := none }, { dst := some 52, op := .mov (.t 1), guard := none }, { dst := some 53, op := .mov (.t 2), guard := none },
   { dst := some 54, op := .call 112 [.t 51, .t 52, .t 53], guard := none }] false [] [51, 52, 53, 54]) (.seq (.region 13 [{ dst := some 55, op := .mov (.t 2), guard := none },
   { dst := some 56, op := .bin .sub .int (.t 55) (.c (.d (.int .i64 1))), guard := none }, { dst := some 57, op := .mov (.t 11), guard := none },
   { dst := some 58, op := .mov (.t 1), guard := none }, { dst := some 59, op := .bin .sub .int (.t 57) (.t 58), guard := none },
   { dst := some 60, op := .bin .sub .int (.t 56) (.t 59), guard := none }, { dst := some 11, op := .mov (.t 60), guard := none }] false [] [55, 56, 57, 58, 59, 60])
   (.region 14 [{ dst := some 12, op := .mov (.c (.d (.int .i64 1))), guard := none }] false [] []))) .skip)) (.seq (.seq
   (.region 15 [{ dst := some 61, op := .mov (.t 8), guard := none }, { dst := some 62, op := .mov (.t 61), guard := none },
   { dst := some 63, op := .mov (.t 9), guard := some (62, true) }, { dst := some 64, op := .pick (.t 62) (.t 63) (.c (.d (.bool false))), guard := none },
   { dst := some 65, op := .mov (.t 64), guard := none }, { dst := some 66, op := .mov (.t 12), guard := some (65, true) },
   { dst := some 67, op := .bin .eql .int (.t 66) (.c (.d (.int .i64 1))), guard := some (65, true) },
   { dst := some 68, op := .pick (.t 65) (.t 67) (.c (.d (.bool false))), guard := none }] false [] [61, 62, 63, 64, 65, 66, 67]) (.cond (.t 68) (.seq
   (.region 16 [{ dst := some 69, op := .mov (.t 0), guard := none }, { dst := some 70, op := .mov (.t 1), guard := none }, { dst := some 71, op := .mov (.t 2), guard := none },
   { dst := some 72, op := .call 113 [.t 69, .t 70, .t 71], guard := none }] false [] [69, 70, 71]) (.cond (.t 72) .ret .skip)) .skip)) (.seq (.seq
   (.region 17 [{ dst := some 73, op := .mov (.t 1), guard := none }, { dst := some 74, op := .bin .gtr .int (.t 73) (.c (.d (.int .i64 0))), guard := none },
   { dst := some 75, op := .mov (.t 74), guard := none }, { dst := some 76, op := .mov (.t 0), guard := some (75, true) },
   { dst := some 77, op := .mov (.t 1), guard := some (75, true) }, { dst := some 78, op := .bin .sub .int (.t 77) (.c (.d (.int .i64 1))), guard := some (75, true) },
   { dst := some 79, op := .ia 1 (.t 76) (.t 78), guard := some (75, true) }, { dst := some 80, op := .ld 1 false (.t 79), guard := some (75, true) },
   { dst := some 81, op := .mov (.t 0), guard := some (75, true) }, { dst := some 82, op := .mov (.t 11), guard := some (75, true) },
   { dst := some 83, op := .ia 1 (.t 81) (.t 82), guard := some (75, true) }, { dst := some 84, op := .ld 1 false (.t 83), guard := some (75, true) },
   { dst := some 85, op := .call 114 [.t 80, .t 84], guard := some (75, true) }, { dst := some 86, op := .un .not (.t 85), guard := some (75, true) },
   { dst := some 87, op := .pick (.t 75) (.t 86) (.c (.d (.bool false))), guard := none }] true [] [73, 74, 75, 76, 77, 78, 79, 80, 81, 82, 83, 84, 85, 86]) (.cond (.t 87) (.seq
   (.region 18 [{ dst := some 88, op := .mov (.t 0), guard := none }, { dst := some 89, op := .mov (.t 1), guard := none }, { dst := some 90, op := .mov (.t 2), guard := none },
   { dst := some 91, op := .mov (.t 11), guard := none }, { dst := some 92, op := .call 115 [.t 88, .t 89, .t 90, .t 91], guard := none },
   { dst := some 13, op := .mov (.t 92), guard := none }] false [] [88, 89, 90, 91, 92]) (.seq (.region 19 [{ dst := some 93, op := .mov (.t 13), guard := none },
   { dst := some 1, op := .mov (.t 93), guard := none }] false [] [93]) (.exit 1))) .skip)) (.seq (.region 20 [{ dst := some 95, op := .mov (.t 0), guard := none },
   { dst := some 96, op := .mov (.t 1), guard := none }, { dst := some 97, op := .mov (.t 2), guard := none }, { dst := some 98, op := .mov (.t 11), guard := none },
   { dst := some 99, op := .call 116 [.t 95, .t 96, .t 97, .t 98], guard := none }, { dst := some 94, op := .mov (.t 99), guard := none },
   { dst := some 100, op := .ext (.t 94) 0, guard := none }, { dst := some 101, op := .ext (.t 94) 1, guard := none }, { dst := some 14, op := .mov (.t 100), guard := none },
   { dst := some 15, op := .mov (.t 101), guard := none }] false [] [95, 96, 97, 98, 99, 94, 100, 101]) (.seq (.region 21 [{ dst := some 102, op := .mov (.t 15), guard := none },
   { dst := some 9, op := .mov (.t 102), guard := none }] false [] [102]) (.seq (.region 22 [{ dst := some 103, op := .mov (.t 14), guard := none },
   { dst := some 104, op := .mov (.t 1), guard := none }, { dst := some 105, op := .bin .sub .int (.t 103) (.t 104), guard := none },
   { dst := some 106, op := .mov (.t 2), guard := none }, { dst := some 107, op := .mov (.t 14), guard := none },
   { dst := some 108, op := .bin .sub .int (.t 106) (.t 107), guard := none }, { dst := some 16, op := .mov (.t 105), guard := none },
   { dst := some 17, op := .mov (.t 108), guard := none }] false [] [103, 104, 105, 106, 107, 108]) (.seq (.region 23 [{ dst := some 109, op := .mov (.t 10), guard := none },
   { dst := some 110, op := .bin .quo .int (.t 109) (.c (.d (.int .i64 8))), guard := none }, { dst := some 18, op := .mov (.t 110), guard := none }] false [] [109, 110]) (.seq
   (.region 24 [{ dst := some 111, op := .mov (.t 16), guard := none }, { dst := some 112, op := .mov (.t 17), guard := none },
   { dst := some 113, op := .bin .lss .int (.t 111) (.t 112), guard := none }] false [] [111, 112]) (.cond (.t 113) (.seq
   (.region 25 [{ dst := some 114, op := .mov (.t 16), guard := none }, { dst := some 115, op := .mov (.t 18), guard := none },
   { dst := some 116, op := .bin .geq .int (.t 114) (.t 115), guard := none }, { dst := some 8, op := .mov (.t 116), guard := none }] false [] [114, 115, 116]) (.seq
   (.region 26 [{ dst := some 117, op := .mov (.t 0), guard := none }, { dst := some 118, op := .mov (.t 1), guard := none },
   { dst := some 119, op := .mov (.t 14), guard := none }, { dst := some 120, op := .mov (.t 3), guard := none },
   { dst := some 121, op := .call 96 [.t 117, .t 118, .t 119, .t 120], guard := none }] false [] [117, 118, 119, 120, 121])
   (.region 27 [{ dst := some 122, op := .mov (.t 14), guard := none }, { dst := some 123, op := .bin .add .int (.t 122) (.c (.d (.int .i64 1))), guard := none },
   { dst := some 1, op := .mov (.t 123), guard := none }] false [] [122, 123]))) (.seq (.region 28 [{ dst := some 124, op := .mov (.t 17), guard := none },
   { dst := some 125, op := .mov (.t 18), guard := none }, { dst := some 126, op := .bin .geq .int (.t 124) (.t 125), guard := none },
   { dst := some 8, op := .mov (.t 126), guard := none }] false [] [124, 125, 126]) (.seq (.region 29 [{ dst := some 127, op := .mov (.t 0), guard := none },
   { dst := some 128, op := .mov (.t 14), guard := none }, { dst := some 129, op := .bin .add .int (.t 128) (.c (.d (.int .i64 1))), guard := none },
   { dst := some 130, op := .mov (.t 2), guard := none }, { dst := some 131, op := .mov (.t 3), guard := none },
   { dst := some 132, op := .call 96 [.t 127, .t 129, .t 130, .t 131], guard := none }] false [] [127, 128, 129, 130, 131, 132])
   (.region 30 [{ dst := some 133, op := .mov (.t 14), guard := none }, { dst := some 2, op := .mov (.t 133), guard := none }] false [] [133]))))))))))))))))))
def s_slices_pdqsortOrdered_byte : SFunc := { nparams := 4, ntmps := 134, code := (.seq
   (.region 0 [{ dst := some 8, op := .mov (.c (.d (.bool true))), guard := none }] false [] []) (.seq
   (.region 1 [{ dst := some 9, op := .mov (.c (.d (.bool true))), guard := none }] false [] []) (.block 0 (.loop s_slices_pdqsortOrdered_byte_l0)))), results := [] }
theorem c_slices_pdqsortOrdered_byte : cFunc Tryz.prog mvTab 96 (dropOf [(2, [19, 20, 21]), (3, [22]), (4, [24, 25, 26, 27]), (5, [28]), (6, [30, 31, 32, 33]), (7, [34]), (8, [36, 37, 38, 39]), (9, [40, 41]), (10, [43, 44, 45, 46, 42, 47, 48]), (11, [49]), (12, [51, 52, 53, 54]), (13, [55, 56, 57, 58, 59, 60]), (15, [61, 62, 63, 64, 65, 66, 67]), (16, [69, 70, 71]), (17, [73, 74, 75, 76, 77, 78, 79, 80, 81, 82, 83, 84, 85, 86]), (18, [88, 89, 90, 91, 92]), (19, [93]), (20, [95, 96, 97, 98, 99, 94, 100, 101]), (21, [102]), (22, [103, 104, 105, 106, 107, 108]), (23, [109, 110]), (24, [111, 112]), (25, [114, 115, 116]), (26, [117, 118, 119, 120, 121]), (27, [122, 123]), (28, [124, 125, 126]), (29, [127, 128, 129, 130, 131, 132]), (30, [133])]) = some s_slices_pdqsortOrdered_byte := by kernel_rfl

-- slices.choosePivotOrdered[byte]
def s_slices_choosePivotOrdered_byte : SFunc := { nparams := 3, ntmps := 57, code := (.seq (.region 0 [{ dst := some 6, op := .mov (.c (.d (.int .i64 0))), guard := none },
   { dst := some 7, op := .mov (.c (.d (.int .i64 0))), guard := none }] false [] []) (.seq (.region 1 [{ dst := some 13, op := .mov (.t 2), guard := none },
   { dst := some 14, op := .mov (.t 1), guard := none }, { dst := some 15, op := .bin .sub .int (.t 13) (.t 14), guard := none },
   { dst := some 8, op := .mov (.t 15), guard := none }] false [] [13, 14, 15]) (.seq (.region 2 [{ dst := some 9, op := .alloc 3 (.d (.int .i64 0)), guard := none }] false [] [])
   (.seq (.region 3 [{ dst := some 16, op := .mov (.t 1), guard := none }, { dst := some 17, op := .mov (.t 8), guard := none },
   { dst := some 18, op := .bin .quo .int (.t 17) (.c (.d (.int .i64 4))), guard := none }, { dst := some 19, op := .bin .mul .int (.t 18) (.c (.d (.int .i64 1))), guard := none },
   { dst := some 20, op := .bin .add .int (.t 16) (.t 19), guard := none }, { dst := some 10, op := .mov (.t 20), guard := none }] false [] [16, 17, 18, 19, 20]) (.seq
   (.region 4 [{ dst := some 21, op := .mov (.t 1), guard := none }, { dst := some 22, op := .mov (.t 8), guard := none },
   { dst := some 23, op := .bin .quo .int (.t 22) (.c (.d (.int .i64 4))), guard := none }, { dst := some 24, op := .bin .mul .int (.t 23) (.c (.d (.int .i64 2))), guard := none },
   { dst := some 25, op := .bin .add .int (.t 21) (.t 24), guard := none }, { dst := some 11, op := .mov (.t 25), guard := none }] false [] [21, 22, 23, 24, 25]) (.seq
   (.region 5 [{ dst := some 26, op := .mov (.t 1), guard := none }, { dst := some 27, op := .mov (.t 8), guard := none },
   { dst := some 28, op := .bin .quo .int (.t 27) (.c (.d (.int .i64 4))), guard := none }, { dst := some 29, op := .bin .mul .int (.t 28) (.c (.d (.int .i64 3))), guard := none },
   { dst := some 30, op := .bin .add .int (.t 26) (.t 29), guard := none }, { dst := some 12, op := .mov (.t 30), guard := none }] false [] [26, 27, 28, 29, 30]) (.seq (.seq
   (.region 6 [{ dst := some 31, op := .mov (.t 8), guard := none }, { dst := some 32, op := .bin .geq .int (.t 31) (.c (.d (.int .i64 8))), guard := none }] false [] [31])
   (.cond (.t 32) (.seq (.seq (.region 7 [{ dst := some 33, op := .mov (.t 8), guard := none },
   { dst := some 34, op := .bin .geq .int (.t 33) (.c (.d (.int .i64 50))), guard := none }] false [] [33]) (.cond (.t 34) (.seq
   (.region 8 [{ dst := some 35, op := .mov (.t 0), guard := none }, { dst := some 36, op := .mov (.t 10), guard := none },
   { dst := some 37, op := .call 129 [.t 35, .t 36, .t 9], guard := none }, { dst := some 10, op := .mov (.t 37), guard := none }] false [] [35, 36, 37]) (.seq
   (.region 9 [{ dst := some 38, op := .mov (.t 0), guard := none }, { dst := some 39, op := .mov (.t 11), guard := none },
   { dst := some 40, op := .call 129 [.t 38, .t 39, .t 9], guard := none }, { dst := some 11, op := .mov (.t 40), guard := none }] false [] [38, 39, 40])
   (.region 10 [{ dst := some 41, op := .mov (.t 0), guard := none }, { dst := some 42, op := .mov (.t 12), guard := none },
   { dst := some 43, op := .call 129 [.t 41, .t 42, .t 9], guard := none }, { dst := some 12, op := .mov (.t 43), guard := none }] false [] [41, 42, 43]))) .skip))
   (.region 11 [{ dst := some 44, op := .mov (.t 0), guard := none }, { dst := some 45, op := .mov (.t 10), guard := none }, { dst := some 46, op := .mov (.t 11), guard := none },
   { dst := some 47, op := .mov (.t 12), guard := none }, { dst := some 48, op := .call 130 [.t 44, .t 45, .t 46, .t 47, .t 9], guard := none },
   { dst := some 11, op := .mov (.t 48), guard := none }] false [] [44, 45, 46, 47, 48])) .skip)) (.seq
   (.region 12 [{ dst := some 49, op := .ld 1 false (.t 9), guard := none }] false [] []) (.block 0 (.seq
   (.region 14 [{ dst := some 52, op := .bin .eql .int (.t 49) (.c (.d (.int .i64 0))), guard := none }, { dst := some 51, op := .mov (.t 52), guard := none }] false [] [52])
   (.cond (.t 51) (.seq (.region 15 [{ dst := some 53, op := .mov (.t 11), guard := none }, { dst := some 6, op := .mov (.t 53), guard := none },
   { dst := some 7, op := .mov (.c (.d (.int .i64 1))), guard := none }] false [] [53]) .ret) (.seq
   (.region 16 [{ dst := some 55, op := .bin .eql .int (.t 49) (.c (.d (.int .i64 12))), guard := none }, { dst := some 54, op := .mov (.t 55), guard := none }] false [] [55])
   (.cond (.t 54) (.seq (.region 17 [{ dst := some 56, op := .mov (.t 11), guard := none }, { dst := some 6, op := .mov (.t 56), guard := none },
   { dst := some 7, op := .mov (.c (.d (.int .i64 2))), guard := none }] false [] [56]) .ret) (.seq (.region 13 [{ dst := some 50, op := .mov (.t 11), guard := none },
   { dst := some 6, op := .mov (.t 50), guard := none },
   { dst := some 7, op := .mov (.c (.d (.int .i64 0))), guard := none }] false [] [50]) .ret)))))))))))))), results := [.tmp 6, .tmp 7] }
theorem c_slices_choosePivotOrdered_byte : cFunc Tryz.prog mvTab 111 (dropOf [(1, [13, 14, 15]), (3, [16, 17, 18, 19, 20]), (4, [21, 22, 23, 24, 25]), (5, [26, 27, 28, 29, 30]), (6, [31]), (7, [33]), (8, [35, 36, 37]), (9, [38, 39, 40]), (10, [41, 42, 43]), (11, [44, 45, 46, 47, 48]), (14, [52]), (15, [53]), (16, [55]), (17, [56]), (13, [50])]) = some s_slices_choosePivotOrdered_byte := by kernel_rfl

-- slices.medianAdjacentOrdered[byte]
def s_slices_medianAdjacentOrdered_byte : SFunc := { nparams := 3, ntmps := 15, code := (.seq
   (.region 0 [{ dst := some 6, op := .mov (.c (.d (.int .i64 0))), guard := none }] false [] []) (.seq (.region 1 [{ dst := some 7, op := .mov (.t 0), guard := none },
   { dst := some 8, op := .mov (.t 1), guard := none }, { dst := some 9, op := .bin .sub .int (.t 8) (.c (.d (.int .i64 1))), guard := none },
   { dst := some 10, op := .mov (.t 1), guard := none }, { dst := some 11, op := .mov (.t 1), guard := none },
   { dst := some 12, op := .bin .add .int (.t 11) (.c (.d (.int .i64 1))), guard := none }, { dst := some 13, op := .mov (.t 2), guard := none },
   { dst := some 14, op := .call 130 [.t 7, .t 9, .t 10, .t 12, .t 13], guard := none },
   { dst := some 6, op := .mov (.t 14), guard := none }] false [] [7, 8, 9, 10, 11, 12, 13, 14]) .ret)), results := [.tmp 6] }
theorem c_slices_medianAdjacentOrdered_byte : cFunc Tryz.prog mvTab 129 (dropOf [(1, [7, 8, 9, 10, 11, 12, 13, 14])]) = some s_slices_medianAdjacentOrdered_byte := by kernel_rfl

-- slices.medianOrdered[byte]
def s_slices_medianOrdered_byte : SFunc := { nparams := 5, ntmps := 36, code := (.seq
   (.region 0 [{ dst := some 10, op := .mov (.c (.d (.int .i64 0))), guard := none }] false [] []) (.seq (.region 1 [{ dst := some 12, op := .mov (.t 0), guard := none },
   { dst := some 13, op := .mov (.t 1), guard := none }, { dst := some 14, op := .mov (.t 2), guard := none }, { dst := some 15, op := .mov (.t 4), guard := none },
   { dst := some 16, op := .call 136 [.t 12, .t 13, .t 14, .t 15], guard := none }, { dst := some 11, op := .mov (.t 16), guard := none },
   { dst := some 17, op := .ext (.t 11) 0, guard := none }, { dst := some 18, op := .ext (.t 11) 1, guard := none }, { dst := some 1, op := .mov (.t 17), guard := none },
   { dst := some 2, op := .mov (.t 18), guard := none }] false [] [12, 13, 14, 15, 16, 11, 17, 18]) (.seq (.region 2 [{ dst := some 20, op := .mov (.t 0), guard := none },
   { dst := some 21, op := .mov (.t 2), guard := none }, { dst := some 22, op := .mov (.t 3), guard := none }, { dst := some 23, op := .mov (.t 4), guard := none },
   { dst := some 24, op := .call 136 [.t 20, .t 21, .t 22, .t 23], guard := none }, { dst := some 19, op := .mov (.t 24), guard := none },
   { dst := some 25, op := .ext (.t 19) 0, guard := none }, { dst := some 26, op := .ext (.t 19) 1, guard := none }, { dst := some 2, op := .mov (.t 25), guard := none },
   { dst := some 3, op := .mov (.t 26), guard := none }] false [] [20, 21, 22, 23, 24, 19, 25, 26, 3]) (.seq (.region 3 [{ dst := some 28, op := .mov (.t 0), guard := none },
   { dst := some 29, op := .mov (.t 1), guard := none }, { dst := some 30, op := .mov (.t 2), guard := none }, { dst := some 31, op := .mov (.t 4), guard := none },
   { dst := some 32, op := .call 136 [.t 28, .t 29, .t 30, .t 31], guard := none }, { dst := some 27, op := .mov (.t 32), guard := none },
   { dst := some 33, op := .ext (.t 27) 0, guard := none }, { dst := some 34, op := .ext (.t 27) 1, guard := none }, { dst := some 1, op := .mov (.t 33), guard := none },
   { dst := some 2, op := .mov (.t 34), guard := none }] false [] [28, 29, 30, 31, 32, 27, 33, 34]) (.seq (.region 4 [{ dst := some 35, op := .mov (.t 2), guard := none },
   { dst := some 10, op := .mov (.t 35), guard := none }] false [] [35]) .ret))))), results := [.tmp 10] }
theorem c_slices_medianOrdered_byte : cFunc Tryz.prog mvTab 130 (dropOf [(1, [12, 13, 14, 15, 16, 11, 17, 18]), (2, [20, 21, 22, 23, 24, 19, 25, 26, 3]), (3, [28, 29, 30, 31, 32, 27, 33, 34]), (4, [35])]) = some s_slices_medianOrdered_byte := by kernel_rfl

-- slices.order2Ordered[byte]
def s_slices_order2Ordered_byte : SFunc := { nparams := 4, ntmps := 28, code := (.seq (.region 0 [{ dst := some 8, op := .mov (.c (.d (.int .i64 0))), guard := none },
   { dst := some 9, op := .mov (.c (.d (.int .i64 0))), guard := none }] false [] []) (.seq (.seq (.region 1 [{ dst := some 10, op := .mov (.t 0), guard := none },
   { dst := some 11, op := .mov (.t 2), guard := none }, { dst := some 12, op := .ia 1 (.t 10) (.t 11), guard := none },
   { dst := some 13, op := .ld 1 false (.t 12), guard := none }, { dst := some 14, op := .mov (.t 0), guard := none }, { dst := some 15, op := .mov (.t 1), guard := none },
   { dst := some 16, op := .ia 1 (.t 14) (.t 15), guard := none }, { dst := some 17, op := .ld 1 false (.t 16), guard := none },
   { dst := some 18, op := .call 114 [.t 13, .t 17], guard := none }] true [] [10, 11, 12, 13, 14, 15, 16, 17]) (.cond (.t 18) (.seq
   (.region 2 [{ dst := some 19, op := .mov (.t 3), guard := none }, { dst := some 20, op := .nilc (.t 19), guard := none },
   { dst := some 21, op := .ld 1 false (.t 20), guard := none }, { dst := some 22, op := .bin .add .int (.t 21) (.c (.d (.int .i64 1))), guard := none },
   { dst := some 23, op := .nilc (.t 19), guard := none }, { dst := none, op := .st 1 (.t 23) (.t 22), guard := none }] false [] [19, 20, 21, 22, 23]) (.seq
   (.region 3 [{ dst := some 24, op := .mov (.t 2), guard := none }, { dst := some 25, op := .mov (.t 1), guard := none }, { dst := some 8, op := .mov (.t 24), guard := none },
   { dst := some 9, op := .mov (.t 25), guard := none }] false [] [24, 25]) .ret)) .skip)) (.seq (.region 4 [{ dst := some 26, op := .mov (.t 1), guard := none },
   { dst := some 27, op := .mov (.t 2), guard := none }, { dst := some 8, op := .mov (.t 26), guard := none },
   { dst := some 9, op := .mov (.t 27), guard := none }] false [] [26, 27]) .ret))), results := [.tmp 8, .tmp 9] }
theorem c_slices_order2Ordered_byte : cFunc Tryz.prog mvTab 136 (dropOf [(1, [10, 11, 12, 13, 14, 15, 16, 17]), (2, [19, 20, 21, 22, 23]), (3, [24, 25]), (4, [26, 27])]) = some s_slices_order2Ordered_byte := by kernel_rfl

-- slices.partialInsertionSortOrdered[byte]
def s_slices_partialInsertionSortOrdered_byte_l0 : SCode := (.seq (.seq (.region 20 [{ dst := some 101, op := .mov (.t 10), guard := none },
   { dst := some 102, op := .mov (.t 2), guard := none }, { dst := some 103, op := .bin .lss .int (.t 101) (.t 102), guard := none }] false [] [101, 102])
   (.cond (.t 103) .skip (.exit 6))) (.seq (.block 7 (.seq (.seq (.region 22 [{ dst := some 106, op := .mov (.t 0), guard := none },
   { dst := some 107, op := .mov (.t 10), guard := none }, { dst := some 108, op := .ia 1 (.t 106) (.t 107), guard := none },
   { dst := some 109, op := .ld 1 false (.t 108), guard := none }, { dst := some 110, op := .mov (.t 0), guard := none }, { dst := some 111, op := .mov (.t 10), guard := none },
   { dst := some 112, op := .bin .sub .int (.t 111) (.c (.d (.int .i64 1))), guard := none }, { dst := some 113, op := .ia 1 (.t 110) (.t 112), guard := none },
   { dst := some 114, op := .ld 1 false (.t 113), guard := none }, { dst := some 115, op := .call 114 [.t 109, .t 114], guard := none },
   { dst := some 116, op := .un .not (.t 115), guard := none }] true [] [106, 107, 108, 109, 110, 111, 112, 113, 114, 115]) (.cond (.t 116) (.exit 6) .skip))
   (.region 23 [{ dst := some 117, op := .mov (.t 0), guard := none }, { dst := some 118, op := .mov (.t 10), guard := none },
   { dst := some 119, op := .mov (.t 0), guard := none }, { dst := some 120, op := .mov (.t 10), guard := none },
   { dst := some 121, op := .bin .sub .int (.t 120) (.c (.d (.int .i64 1))), guard := none }, { dst := some 122, op := .mov (.t 0), guard := none },
   { dst := some 123, op := .mov (.t 10), guard := none }, { dst := some 124, op := .bin .sub .int (.t 123) (.c (.d (.int .i64 1))), guard := none },
   { dst := some 125, op := .ia 1 (.t 122) (.t 124), guard := none }, { dst := some 126, op := .ld 1 false (.t 125), guard := none },
   { dst := some 127, op := .mov (.t 0), guard := none }, { dst := some 128, op := .mov (.t 10), guard := none }, { dst := some 129, op := .ia 1 (.t 127) (.t 128), guard := none },
   { dst := some 130, op := .ld 1 false (.t 129), guard := none }, { dst := some 131, op := .ia 1 (.t 117) (.t 118), guard := none },
   { dst := none, op := .st 1 (.t 131) (.t 126), guard := none }, { dst := some 132, op := .ia 1 (.t 119) (.t 121), guard := none },
   { dst := none, op := .st 1 (.t 132) (.t 130), guard := none }] true [(2, 15), (3, 15), (4, 15)] [117, 118, 119, 120, 121, 122, 123, 124, 125, 126, 127, 128, 129, 130, 131, 132])))
   (.region 21 [{ dst := some 104, op := .mov (.t 10), guard := none }, { dst := some 105, op := .bin .add .int (.t 104) (.c (.d (.int .i64 1))), guard := none },
   { dst := some 10, op := .mov (.t 105), guard := none }] false [] [104, 105])))
def s_slices_partialInsertionSortOrdered_byte_l1 : SCode := (.seq (.seq (.region 14 [{ dst := some 64, op := .mov (.t 9), guard := none },
   { dst := some 65, op := .bin .geq .int (.t 64) (.c (.d (.int .i64 1))), guard := none }] false [] [64]) (.cond (.t 65) .skip (.exit 4))) (.seq (.block 5 (.seq (.seq
   (.region 16 [{ dst := some 68, op := .mov (.t 0), guard := none }, { dst := some 69, op := .mov (.t 9), guard := none },
   { dst := some 70, op := .ia 1 (.t 68) (.t 69), guard := none }, { dst := some 71, op := .ld 1 false (.t 70), guard := none },
   { dst := some 72, op := .mov (.t 0), guard := none }, { dst := some 73, op := .mov (.t 9), guard := none },
   { dst := some 74, op := .bin .sub .int (.t 73) (.c (.d (.int .i64 1))), guard := none }, { dst := some 75, op := .ia 1 (.t 72) (.t 74), guard := none },
   { dst := some 76, op := .ld 1 false (.t 75), guard := none }, { dst := some 77, op := .call 114 [.t 71, .t 76], guard := none },
   { dst := some 78, op := .un .not (.t 77), guard := none }] true [] [68, 69, 70, 71, 72, 73, 74, 75, 76, 77]) (.cond (.t 78) (.exit 4) .skip))
   (.region 17 [{ dst := some 79, op := .mov (.t 0), guard := none }, { dst := some 80, op := .mov (.t 9), guard := none }, { dst := some 81, op := .mov (.t 0), guard := none },
   { dst := some 82, op := .mov (.t 9), guard := none }, { dst := some 83, op := .bin .sub .int (.t 82) (.c (.d (.int .i64 1))), guard := none },
   { dst := some 84, op := .mov (.t 0), guard := none }, { dst := some 85, op := .mov (.t 9), guard := none },
   { dst := some 86, op := .bin .sub .int (.t 85) (.c (.d (.int .i64 1))), guard := none }, { dst := some 87, op := .ia 1 (.t 84) (.t 86), guard := none },
   { dst := some 88, op := .ld 1 false (.t 87), guard := none }, { dst := some 89, op := .mov (.t 0), guard := none }, { dst := some 90, op := .mov (.t 9), guard := none },
   { dst := some 91, op := .ia 1 (.t 89) (.t 90), guard := none }, { dst := some 92, op := .ld 1 false (.t 91), guard := none },
   { dst := some 93, op := .ia 1 (.t 79) (.t 80), guard := none }, { dst := none, op := .st 1 (.t 93) (.t 88), guard := none },
   { dst := some 94, op := .ia 1 (.t 81) (.t 83), guard := none },
   { dst := none, op := .st 1 (.t 94) (.t 92), guard := none }] true [(2, 15), (3, 15), (4, 15)] [79, 80, 81, 82, 83, 84, 85, 86, 87, 88, 89, 90, 91, 92, 93, 94])))
   (.region 15 [{ dst := some 66, op := .mov (.t 9), guard := none }, { dst := some 67, op := .bin .sub .int (.t 66) (.c (.d (.int .i64 1))), guard := none },
   { dst := some 9, op := .mov (.t 67), guard := none }] false [] [66, 67])))
def s_slices_partialInsertionSortOrdered_byte_l2 : SCode := (.seq (.seq (.region 5 [{ dst := some 17, op := .mov (.t 7), guard := none },
   { dst := some 18, op := .mov (.t 2), guard := none }, { dst := some 19, op := .bin .lss .int (.t 17) (.t 18), guard := none },
   { dst := some 20, op := .mov (.t 19), guard := none }, { dst := some 21, op := .mov (.t 0), guard := some (20, true) },
   { dst := some 22, op := .mov (.t 7), guard := some (20, true) }, { dst := some 23, op := .ia 1 (.t 21) (.t 22), guard := some (20, true) },
   { dst := some 24, op := .ld 1 false (.t 23), guard := some (20, true) }, { dst := some 25, op := .mov (.t 0), guard := some (20, true) },
   { dst := some 26, op := .mov (.t 7), guard := some (20, true) }, { dst := some 27, op := .bin .sub .int (.t 26) (.c (.d (.int .i64 1))), guard := some (20, true) },
   { dst := some 28, op := .ia 1 (.t 25) (.t 27), guard := some (20, true) }, { dst := some 29, op := .ld 1 false (.t 28), guard := some (20, true) },
   { dst := some 30, op := .call 114 [.t 24, .t 29], guard := some (20, true) }, { dst := some 31, op := .un .not (.t 30), guard := some (20, true) },
   { dst := some 32, op := .pick (.t 20) (.t 31) (.c (.d (.bool false))), guard := none }] true [] [17, 18, 19, 20, 21, 22, 23, 24, 25, 26, 27, 28, 29, 30, 31])
   (.cond (.t 32) .skip (.exit 2))) (.block 3 (.region 6 [{ dst := some 33, op := .mov (.t 7), guard := none },
   { dst := some 34, op := .bin .add .int (.t 33) (.c (.d (.int .i64 1))), guard := none }, { dst := some 7, op := .mov (.t 34), guard := none }] false [] [33, 34])))
def s_slices_partialInsertionSortOrdered_byte_l3 : SCode := (.seq (.seq (.region 3 [{ dst := some 13, op := .mov (.t 8), guard := none },
   { dst := some 14, op := .bin .lss .int (.t 13) (.c (.d (.int .i64 5))), guard := none }] false [] [13]) (.cond (.t 14) .skip (.exit 0))) (.seq (.block 1 (.seq
   (.block 2 (.loop s_slices_partialInsertionSortOrdered_byte_l2)) (.seq (.seq (.region 7 [{ dst := some 35, op := .mov (.t 7), guard := none },
   { dst := some 36, op := .mov (.t 2), guard := none }, { dst := some 37, op := .bin .eql .int (.t 35) (.t 36), guard := none }] false [] [35, 36]) (.cond (.t 37) (.seq
   (.region 8 [{ dst := some 6, op := .mov (.c (.d (.bool true))), guard := none }] false [] []) .ret) .skip)) (.seq (.seq
   (.region 9 [{ dst := some 38, op := .mov (.t 2), guard := none }, { dst := some 39, op := .mov (.t 1), guard := none },
   { dst := some 40, op := .bin .sub .int (.t 38) (.t 39), guard := none },
   { dst := some 41, op := .bin .lss .int (.t 40) (.c (.d (.int .i64 50))), guard := none }] false [] [38, 39, 40]) (.cond (.t 41) (.seq
   (.region 10 [{ dst := some 6, op := .mov (.c (.d (.bool false))), guard := none }] false [] []) .ret) .skip)) (.seq
   (.region 11 [{ dst := some 42, op := .mov (.t 0), guard := none }, { dst := some 43, op := .mov (.t 7), guard := none }, { dst := some 44, op := .mov (.t 0), guard := none },
   { dst := some 45, op := .mov (.t 7), guard := none }, { dst := some 46, op := .bin .sub .int (.t 45) (.c (.d (.int .i64 1))), guard := none },
   { dst := some 47, op := .mov (.t 0), guard := none }, { dst := some 48, op := .mov (.t 7), guard := none },
   { dst := some 49, op := .bin .sub .int (.t 48) (.c (.d (.int .i64 1))), guard := none }, { dst := some 50, op := .ia 1 (.t 47) (.t 49), guard := none },
   { dst := some 51, op := .ld 1 false (.t 50), guard := none }, { dst := some 52, op := .mov (.t 0), guard := none }, { dst := some 53, op := .mov (.t 7), guard := none },
   { dst := some 54, op := .ia 1 (.t 52) (.t 53), guard := none }, { dst := some 55, op := .ld 1 false (.t 54), guard := none },
   { dst := some 56, op := .ia 1 (.t 42) (.t 43), guard := none }, { dst := none, op := .st 1 (.t 56) (.t 51), guard := none },
   { dst := some 57, op := .ia 1 (.t 44) (.t 46), guard := none },
   { dst := none, op := .st 1 (.t 57) (.t 55), guard := none }] true [(2, 15), (3, 15), (4, 15)] [42, 43, 44, 45, 46, 47, 48, 49, 50, 51, 52, 53, 54, 55, 56, 57]) (.seq (.seq
   (.region 12 [{ dst := some 58, op := .mov (.t 7), guard := none }, { dst := some 59, op := .mov (.t 1), guard := none },
   { dst := some 60, op := .bin .sub .int (.t 58) (.t 59), guard := none },
   { dst := some 61, op := .bin .geq .int (.t 60) (.c (.d (.int .i64 2))), guard := none }] false [] [58, 59, 60]) (.cond (.t 61) (.seq
   (.region 13 [{ dst := some 62, op := .mov (.t 7), guard := none }, { dst := some 63, op := .bin .sub .int (.t 62) (.c (.d (.int .i64 1))), guard := none },
   { dst := some 9, op := .mov (.t 63), guard := none }] false [] [62, 63]) (.block 4 (.loop s_slices_partialInsertionSortOrdered_byte_l1))) .skip)) (.seq
   (.region 18 [{ dst := some 95, op := .mov (.t 2), guard := none }, { dst := some 96, op := .mov (.t 7), guard := none },
   { dst := some 97, op := .bin .sub .int (.t 95) (.t 96), guard := none },
   { dst := some 98, op := .bin .geq .int (.t 97) (.c (.d (.int .i64 2))), guard := none }] false [] [95, 96, 97]) (.cond (.t 98) (.seq
   (.region 19 [{ dst := some 99, op := .mov (.t 7), guard := none }, { dst := some 100, op := .bin .add .int (.t 99) (.c (.d (.int .i64 1))), guard := none },
   { dst := some 10, op := .mov (.t 100), guard := none }] false [] [99, 100]) (.block 6 (.loop s_slices_partialInsertionSortOrdered_byte_l0))) .skip))))))))
   (.region 4 [{ dst := some 15, op := .mov (.t 8), guard := none }, { dst := some 16, op := .bin .add .int (.t 15) (.c (.d (.int .i64 1))), guard := none },
   { dst := some 8, op := .mov (.t 16), guard := none }] false [] [15, 16])))
def s_slices_partialInsertionSortOrdered_byte : SFunc := { nparams := 3, ntmps := 133, code := (.seq
   (.region 0 [{ dst := some 6, op := .mov (.c (.d (.bool false))), guard := none }] false [] []) (.seq (.region 1 [{ dst := some 11, op := .mov (.t 1), guard := none },
   { dst := some 12, op := .bin .add .int (.t 11) (.c (.d (.int .i64 1))), guard := none }, { dst := some 7, op := .mov (.t 12), guard := none }] false [] [11, 12]) (.seq (.seq
   (.region 2 [{ dst := some 8, op := .mov (.c (.d (.int .i64 0))), guard := none }] false [] []) (.block 0 (.loop s_slices_partialInsertionSortOrdered_byte_l3))) (.seq
   (.region 24 [{ dst := some 6, op := .mov (.c (.d (.bool false))), guard := none }] false [] []) .ret)))), results := [.tmp 6] }
theorem c_slices_partialInsertionSortOrdered_byte : cFunc Tryz.prog mvTab 113 (dropOf [(1, [11, 12]), (3, [13]), (5, [17, 18, 19, 20, 21, 22, 23, 24, 25, 26, 27, 28, 29, 30, 31]), (6, [33, 34]), (7, [35, 36]), (9, [38, 39, 40]), (11, [42, 43, 44, 45, 46, 47, 48, 49, 50, 51, 52, 53, 54, 55, 56, 57]), (12, [58, 59, 60]), (13, [62, 63]), (14, [64]), (16, [68, 69, 70, 71, 72, 73, 74, 75, 76, 77]), (17, [79, 80, 81, 82, 83, 84, 85, 86, 87, 88, 89, 90, 91, 92, 93, 94]), (15, [66, 67]), (18, [95, 96, 97]), (19, [99, 100]), (20, [101, 102]), (22, [106, 107, 108, 109, 110, 111, 112, 113, 114, 115]), (23, [117, 118, 119, 120, 121, 122, 123, 124, 125, 126, 127, 128, 129, 130, 131, 132]), (21, [104, 105]), (4, [15, 16])]) = some s_slices_partialInsertionSortOrdered_byte := by kernel_rfl

-- cmp.Less[byte]
def s_cmp_Less_byte : SFunc := { nparams := 2, ntmps := 17, code := (.seq (.region 0 [{ dst := some 4, op := .mov (.c (.d (.bool false))), guard := none }] false [] []) (.seq
   (.region 1 [{ dst := some 5, op := .mov (.t 0), guard := none }, { dst := some 6, op := .call 131 [.t 5], guard := none }, { dst := some 7, op := .mov (.t 6), guard := none },
   { dst := some 8, op := .mov (.t 1), guard := some (7, true) }, { dst := some 9, op := .call 131 [.t 8], guard := some (7, true) },
   { dst := some 10, op := .un .not (.t 9), guard := some (7, true) }, { dst := some 11, op := .pick (.t 7) (.t 10) (.c (.d (.bool false))), guard := none },
   { dst := some 12, op := .mov (.t 11), guard := none }, { dst := some 13, op := .mov (.t 0), guard := some (12, false) },
   { dst := some 14, op := .mov (.t 1), guard := some (12, false) }, { dst := some 15, op := .bin .lss .int (.t 13) (.t 14), guard := some (12, false) },
   { dst := some 16, op := .pick (.t 12) (.c (.d (.bool true))) (.t 15), guard := none },
   { dst := some 4, op := .mov (.t 16), guard := none }] false [] [5, 6, 7, 8, 9, 10, 11, 12, 13, 14, 15, 16]) .ret)), results := [.tmp 4] }
theorem c_cmp_Less_byte : cFunc Tryz.prog mvTab 114 (dropOf [(1, [5, 6, 7, 8, 9, 10, 11, 12, 13, 14, 15, 16])]) = some s_cmp_Less_byte := by kernel_rfl

-- cmp.isNaN[byte]
def s_cmp_isNaN_byte : SFunc := { nparams := 1, ntmps := 6, code := (.seq (.region 0 [{ dst := some 2, op := .mov (.c (.d (.bool false))), guard := none }] false [] []) (.seq
   (.region 1 [{ dst := some 3, op := .mov (.t 0), guard := none }, { dst := some 4, op := .mov (.t 0), guard := none },
   { dst := some 5, op := .bin .neq .int (.t 3) (.t 4), guard := none }, { dst := some 2, op := .mov (.t 5), guard := none }] false [] [3, 4, 5]) .ret)), results := [.tmp 2] }
theorem c_cmp_isNaN_byte : cFunc Tryz.prog mvTab 131 (dropOf [(1, [3, 4, 5])]) = some s_cmp_isNaN_byte := by kernel_rfl

-- math/bits.Len
def s_math_bits_Len : SFunc := { nparams := 1, ntmps := 8, code := (.seq (.region 0 [{ dst := some 2, op := .mov (.c (.d (.int .i64 0))), guard := none }] false [] []) (.seq
   (.cond (.c (.d (.bool false))) (.seq (.region 1 [{ dst := some 3, op := .mov (.t 0), guard := none }, { dst := some 4, op := .cnvI .u32 (.t 3), guard := none },
   { dst := some 5, op := .call 117 [.t 4], guard := none }, { dst := some 2, op := .mov (.t 5), guard := none }] false [] [3, 4, 5]) .ret) .skip) (.seq
   (.region 2 [{ dst := some 6, op := .mov (.t 0), guard := none }, { dst := some 7, op := .call 118 [.t 6], guard := none },
   { dst := some 2, op := .mov (.t 7), guard := none }] false [] [6, 7]) .ret))), results := [.tmp 2] }
theorem c_math_bits_Len : cFunc Tryz.prog mvTab 97 (dropOf [(1, [3, 4, 5]), (2, [6, 7])]) = some s_math_bits_Len := by kernel_rfl

-- math/bits.Len64
def s_math_bits_Len64 : SFunc := { nparams := 1, ntmps := 25, code := (.seq (.region 0 [{ dst := some 2, op := .mov (.c (.d (.int .i64 0))), guard := none }] false [] []) (.seq
   (.seq (.region 1 [{ dst := some 3, op := .mov (.t 0), guard := none },
   { dst := some 4, op := .bin .geq .int (.t 3) (.c (.d (.int .u64 4294967296))), guard := none }] false [] [3]) (.cond (.t 4) (.seq
   (.region 2 [{ dst := some 5, op := .mov (.t 0), guard := none }, { dst := some 6, op := .bin .shr .int (.t 5) (.c (.d (.int .u64 32))), guard := none },
   { dst := some 0, op := .mov (.t 6), guard := none }] false [] [5, 6]) (.region 3 [{ dst := some 2, op := .mov (.c (.d (.int .i64 32))), guard := none }] false [] [])) .skip))
   (.seq (.seq (.region 4 [{ dst := some 7, op := .mov (.t 0), guard := none },
   { dst := some 8, op := .bin .geq .int (.t 7) (.c (.d (.int .u64 65536))), guard := none }] false [] [7]) (.cond (.t 8) (.seq
   (.region 5 [{ dst := some 9, op := .mov (.t 0), guard := none }, { dst := some 10, op := .bin .shr .int (.t 9) (.c (.d (.int .u64 16))), guard := none },
   { dst := some 0, op := .mov (.t 10), guard := none }] false [] [9, 10]) (.region 6 [{ dst := some 11, op := .mov (.t 2), guard := none },
   { dst := some 12, op := .bin .add .int (.t 11) (.c (.d (.int .i64 16))), guard := none }, { dst := some 2, op := .mov (.t 12), guard := none }] false [] [11, 12])) .skip)) (.seq
   (.seq (.region 7 [{ dst := some 13, op := .mov (.t 0), guard := none }, { dst := some 14, op := .bin .geq .int (.t 13) (.c (.d (.int .u64 256))), guard := none }] false [] [13])
   (.cond (.t 14) (.seq (.region 8 [{ dst := some 15, op := .mov (.t 0), guard := none }, { dst := some 16, op := .bin .shr .int (.t 15) (.c (.d (.int .u64 8))), guard := none },
   { dst := some 0, op := .mov (.t 16), guard := none }] false [] [15, 16]) (.region 9 [{ dst := some 17, op := .mov (.t 2), guard := none },
   { dst := some 18, op := .bin .add .int (.t 17) (.c (.d (.int .i64 8))), guard := none }, { dst := some 2, op := .mov (.t 18), guard := none }] false [] [17, 18])) .skip)) (.seq
   (.region 10 [{ dst := some 19, op := .mov (.t 2), guard := none }, { dst := some 20, op := .mov (.t 0), guard := none },
   { dst := some 21, op := .cnvI .u8 (.t 20), guard := none },
   { dst := some 22, op := .ixS (.c (.d (.str [0, 1, 2, 2, 3, 3, 3, 3, 4, 4, 4, 4, 4, 4, 4, 4, 5, 5, 5, 5, 5, 5, 5, 5, 5, 5, 5, 5, 5, 5, 5, 5, 6, 6, 6, 6, 6, 6, 6, 6, 6, 6, 6, 6, 6, 6, 6, 6, 6, 6, 6, 6, 6, 6, 6, 6, 6, 6, 6, 6, 6, 6, 6, 6, 7, 7, 7, 7, 7, 7, 7, 7, 7, 7, 7, 7, 7, 7, 7, 7, 7, 7, 7, 7, 7, 7, 7, 7, 7, 7, 7, 7, 7, 7, 7, 7, 7, 7, 7, 7, 7, 7, 7, 7, 7, 7, 7, 7, 7, 7, 7, 7, 7, 7, 7, 7, 7, 7, 7, 7, 7, 7, 7, 7, 7, 7, 7, 7, 8, 8, 8, 8, 8, 8, 8, 8, 8, 8, 8, 8, 8, 8, 8, 8, 8, 8, 8, 8, 8, 8, 8, 8, 8, 8, 8, 8, 8, 8, 8, 8, 8, 8, 8, 8, 8, 8, 8, 8, 8, 8, 8, 8, 8, 8, 8, 8, 8, 8, 8, 8, 8, 8, 8, 8, 8, 8, 8, 8, 8, 8, 8, 8, 8, 8, 8, 8, 8, 8, 8, 8, 8, 8, 8, 8, 8, 8, 8, 8, 8, 8, 8, 8, 8, 8, 8, 8, 8, 8, 8, 8, 8, 8, 8, 8, 8, 8, 8, 8, 8, 8, 8, 8, 8, 8, 8, 8, 8, 8, 8, 8, 8, 8, 8, 8, 8, 8, 8, 8, 8, 8, 8, 8, 8, 8, 8, 8]))) (.t 21), guard := none },
   { dst := some 23, op := .cnvI .i64 (.t 22), guard := none }, { dst := some 24, op := .bin .add .int (.t 19) (.t 23), guard := none },
   { dst := some 2, op := .mov (.t 24), guard := none }] false [] [19, 20, 21, 22, 23, 24]) .ret))))), results := [.tmp 2] }
theorem c_math_bits_Len64 : cFunc Tryz.prog mvTab 118 (dropOf [(1, [3]), (2, [5, 6]), (4, [7]), (5, [9, 10]), (6, [11, 12]), (7, [13]), (8, [15, 16]), (9, [17, 18]), (10, [19, 20, 21, 22, 23, 24])]) = some s_math_bits_Len64 := by kernel_rfl

def fnTab : List (Nat × SFunc) := [(3, s_backsteplaw22_AsmFormats), (4, s_backsteplaw22_AsmParses), (5, s_backsteplaw22_AsmText), (6, s_backsteplaw22_AsmJoins), (7, s_backsteplaw22_AsmOrder), (8, s_backsteplaw22_AsmInverse), (9, s_backsteplaw22_AsmDecodes), (10, s_backsteplaw22_AsmBytes), (11, s_backsteplaw22_AsmFixed), (12, s_backsteplaw22_awake), (13, s_asm_Format), (14, s_backstepref22_Format), (15, s_asm_Encode), (16, s_backstepref22_Encode), (17, s_asm_Parse), (18, s_backstepref22_Parse), (19, s_backstepref22_Same), (20, s_isa_Valid), (21, s_backstepref22_Words), (22, s_isa_Operands), (23, s_isa_Mnemonic), (24, s_isa_Inverse), (25, s_asm_Decode), (26, s_backstepref22_Decode), (27, s_asm_check), (29, s_asm_line), (31, s_backstepref22_Check), (32, s_backstepref22_Line), (33, s_asm_put), (34, s_asm_operands), (35, s_asm_classes), (36, s_asm_size), (37, s_backstepref22_Bytes), (38, s_backstepref22_Classes), (39, s_backstepref22_Operand), (40, s_backstepref22_Width), (41, s_asm_mnemonics), (43, s_asm_parse), (44, s_backstepref22_Read), (45, s_isa_rows), (46, s_isa_operands), (47, s_isa_fits), (48, s_asm_take), (49, s_backstepref22_take), (50, s_backstepref22_set), (51, s_backstepref21_Valid), (53, s_asm_writers), (54, s_backstepref21_Mnemonic), (55, s_backstepref22_Decimal), (56, s_backstepref01_Symbol), (59, s_asm_number), (60, s_backstepref22_operand), (61, s_backstepref21_Shape), (62, s_backstepref21_fits), (63, s_backstepref21_Get), (65, s_asm_writers_1), (67, s_asm_writers_2), (68, s_arith_Symbol), (72, s_arith_Operators), (74, s_backstepref22_number), (76, s_arith_find), (85, s_arith_entries), (28, s_strings_Builder_WriteString), (71, s_strings_TrimPrefix), (84, s_internal_stringslite_TrimPrefix), (95, s_internal_stringslite_HasPrefix), (86, s_slices_Sort_byte_byte), (96, s_slices_pdqsortOrdered_byte), (111, s_slices_choosePivotOrdered_byte), (129, s_slices_medianAdjacentOrdered_byte), (130, s_slices_medianOrdered_byte), (136, s_slices_order2Ordered_byte), (113, s_slices_partialInsertionSortOrdered_byte), (114, s_cmp_Less_byte), (131, s_cmp_isNaN_byte), (97, s_math_bits_Len), (118, s_math_bits_Len64)]
theorem fnTab_ok : ∀ p ∈ fnTab, ∃ mv drop, cFunc Tryz.prog mv p.1 drop = some p.2 := by
  intro p hp
  simp only [fnTab, List.mem_cons, List.not_mem_nil, or_false] at hp
  rcases hp with rfl | rfl | rfl | rfl | rfl | rfl | rfl | rfl | rfl | rfl | rfl | rfl | rfl | rfl | rfl | rfl | rfl | rfl | rfl | rfl | rfl | rfl | rfl | rfl | rfl | rfl | rfl | rfl | rfl | rfl | rfl | rfl | rfl | rfl | rfl | rfl | rfl | rfl | rfl | rfl | rfl | rfl | rfl | rfl | rfl | rfl | rfl | rfl | rfl | rfl | rfl | rfl | rfl | rfl | rfl | rfl | rfl | rfl | rfl | rfl | rfl | rfl | rfl | rfl | rfl | rfl | rfl | rfl | rfl | rfl | rfl | rfl | rfl | rfl | rfl | rfl | rfl
  · exact ⟨mvTab, _, c_backsteplaw22_AsmFormats⟩
  · exact ⟨mvTab, _, c_backsteplaw22_AsmParses⟩
  · exact ⟨mvTab, _, c_backsteplaw22_AsmText⟩
  · exact ⟨mvTab, _, c_backsteplaw22_AsmJoins⟩
  · exact ⟨mvTab, _, c_backsteplaw22_AsmOrder⟩
  · exact ⟨mvTab, _, c_backsteplaw22_AsmInverse⟩
  · exact ⟨mvTab, _, c_backsteplaw22_AsmDecodes⟩
  · exact ⟨mvTab, _, c_backsteplaw22_AsmBytes⟩
  · exact ⟨mvTab, _, c_backsteplaw22_AsmFixed⟩
  · exact ⟨mvTab, _, c_backsteplaw22_awake⟩
  · exact ⟨mvTab, _, c_asm_Format⟩
  · exact ⟨mvTab, _, c_backstepref22_Format⟩
  · exact ⟨mvTab, _, c_asm_Encode⟩
  · exact ⟨mvTab, _, c_backstepref22_Encode⟩
  · exact ⟨mvTab, _, c_asm_Parse⟩
  · exact ⟨mvTab, _, c_backstepref22_Parse⟩
  · exact ⟨mvTab, _, c_backstepref22_Same⟩
  · exact ⟨mvTab, _, c_isa_Valid⟩
  · exact ⟨mvTab, _, c_backstepref22_Words⟩
  · exact ⟨mvTab, _, c_isa_Operands⟩
  · exact ⟨mvTab, _, c_isa_Mnemonic⟩
  · exact ⟨mvTab, _, c_isa_Inverse⟩
  · exact ⟨mvTab, _, c_asm_Decode⟩
  · exact ⟨mvTab, _, c_backstepref22_Decode⟩
  · exact ⟨mvTab, _, c_asm_check⟩
  · exact ⟨mvTab, _, c_asm_line⟩
  · exact ⟨mvTab, _, c_backstepref22_Check⟩
  · exact ⟨mvTab, _, c_backstepref22_Line⟩
  · exact ⟨mvTab, _, c_asm_put⟩
  · exact ⟨mvTab, _, c_asm_operands⟩
  · exact ⟨mvTab, _, c_asm_classes⟩
  · exact ⟨mvTab, _, c_asm_size⟩
  · exact ⟨mvTab, _, c_backstepref22_Bytes⟩
  · exact ⟨mvTab, _, c_backstepref22_Classes⟩
  · exact ⟨mvTab, _, c_backstepref22_Operand⟩
  · exact ⟨mvTab, _, c_backstepref22_Width⟩
  · exact ⟨mvTab, _, c_asm_mnemonics⟩
  · exact ⟨mvTab, _, c_asm_parse⟩
  · exact ⟨mvTab, _, c_backstepref22_Read⟩
  · exact ⟨mvTab, _, c_isa_rows⟩
  · exact ⟨mvTab, _, c_isa_operands⟩
  · exact ⟨mvTab, _, c_isa_fits⟩
  · exact ⟨mvTab, _, c_asm_take⟩
  · exact ⟨mvTab, _, c_backstepref22_take⟩
  · exact ⟨mvTab, _, c_backstepref22_set⟩
  · exact ⟨mvTab, _, c_backstepref21_Valid⟩
  · exact ⟨mvTab, _, c_asm_writers⟩
  · exact ⟨mvTab, _, c_backstepref21_Mnemonic⟩
  · exact ⟨mvTab, _, c_backstepref22_Decimal⟩
  · exact ⟨mvTab, _, c_backstepref01_Symbol⟩
  · exact ⟨mvTab, _, c_asm_number⟩
  · exact ⟨mvTab, _, c_backstepref22_operand⟩
  · exact ⟨mvTab, _, c_backstepref21_Shape⟩
  · exact ⟨mvTab, _, c_backstepref21_fits⟩
  · exact ⟨mvTab, _, c_backstepref21_Get⟩
  · exact ⟨mvTab, _, c_asm_writers_1⟩
  · exact ⟨mvTab, _, c_asm_writers_2⟩
  · exact ⟨mvTab, _, c_arith_Symbol⟩
  · exact ⟨mvTab, _, c_arith_Operators⟩
  · exact ⟨mvTab, _, c_backstepref22_number⟩
  · exact ⟨mvTab, _, c_arith_find⟩
  · exact ⟨mvTab, _, c_arith_entries⟩
  · exact ⟨mvTab, _, c_strings_Builder_WriteString⟩
  · exact ⟨mvTab, _, c_strings_TrimPrefix⟩
  · exact ⟨mvTab, _, c_internal_stringslite_TrimPrefix⟩
  · exact ⟨mvTab, _, c_internal_stringslite_HasPrefix⟩
  · exact ⟨mvTab, _, c_slices_Sort_byte_byte⟩
  · exact ⟨mvTab, _, c_slices_pdqsortOrdered_byte⟩
  · exact ⟨mvTab, _, c_slices_choosePivotOrdered_byte⟩
  · exact ⟨mvTab, _, c_slices_medianAdjacentOrdered_byte⟩
  · exact ⟨mvTab, _, c_slices_medianOrdered_byte⟩
  · exact ⟨mvTab, _, c_slices_order2Ordered_byte⟩
  · exact ⟨mvTab, _, c_slices_partialInsertionSortOrdered_byte⟩
  · exact ⟨mvTab, _, c_cmp_Less_byte⟩
  · exact ⟨mvTab, _, c_cmp_isNaN_byte⟩
  · exact ⟨mvTab, _, c_math_bits_Len⟩
  · exact ⟨mvTab, _, c_math_bits_Len64⟩
end Go.Ev.S
