/- Functions of the program over typed data, and that the program's functions come to their results: written by a program (lift.py). -/
import Derived.Test.YtkpghgnbbfpbmaaL11b
import Derived.Test.YtkpghgnbbfpbmaaChecked
set_option linter.unusedVariables false
set_option maxRecDepth 100000
set_option maxHeartbeats 1000000
namespace Go.Proofs.Ytkpghgnbbfpbmaa

/-! ### selfstab/selfstablaw11.EvalFoldsAgree -/
def q_law11_EvalFoldsAgree_1 : AC := .reg [⟨some 2, none, .mv (.c (.bool false))⟩]
def q_law11_EvalFoldsAgree_2 : AC := .seq q_law11_EvalFoldsAgree_1 .ret
def q_law11_EvalFoldsAgree_3 : AC := .cond (.t 186) q_law11_EvalFoldsAgree_2 .skip
def q_law11_EvalFoldsAgree_4 : AC := .reg [⟨some 193, none, .mv (.t 27)⟩, ⟨some 194, none, .bi .add (.t 193) (.c (.int .i64 1))⟩, ⟨some 27, none, .mv (.t 194)⟩]
def q_law11_EvalFoldsAgree_5 : AC := .cond (.t 192) q_law11_EvalFoldsAgree_4 .skip
def q_law11_EvalFoldsAgree_6 : AC := .reg [⟨some 187, none, .mv (.t 3)⟩, ⟨some 188, none, .mv (.t 28)⟩, ⟨some 189, none, .ia 1 (.t 187) (.t 188)⟩, ⟨some 190, none, .ld false 1 (.t 189)⟩, ⟨some 191, none, .mv (.t 19)⟩, ⟨some 192, none, .bi .gtr (.t 190) (.t 191)⟩]
def q_law11_EvalFoldsAgree_7 : AC := .seq q_law11_EvalFoldsAgree_6 q_law11_EvalFoldsAgree_5
def q_law11_EvalFoldsAgree_8 : AC := .reg [⟨some 135, none, .mv (.t 28)⟩, ⟨some 136, none, .bi .add (.t 135) (.c (.int .i64 1))⟩, ⟨some 28, none, .mv (.t 136)⟩]
def q_law11_EvalFoldsAgree_9 : AC := .reg [⟨some 195, none, .ca 18 []⟩, ⟨some 196, none, .mv (.t 195)⟩, ⟨some 197, some (196, true), .mv (.t 7)⟩, ⟨some 198, some (196, true), .mv (.t 9)⟩, ⟨some 199, some (196, true), .bi .add (.t 197) (.t 198)⟩, ⟨some 200, some (196, true), .bi .eql (.t 199) (.c (.int .i64 1))⟩, ⟨some 201, none, .pk (.t 196) (.t 200) (.c (.bool false))⟩, ⟨some 202, none, .mv (.t 201)⟩, ⟨some 203, some (202, true), .mv (.t 11)⟩, ⟨some 204, some (202, true), .mv (.t 24)⟩, ⟨some 205, some (202, true), .bi .eql (.t 203) (.t 204)⟩, ⟨some 206, none, .pk (.t 202) (.t 205) (.c (.bool false))⟩, ⟨some 207, none, .mv (.t 206)⟩, ⟨some 208, some (207, true), .mv (.t 13)⟩, ⟨some 209, some (207, true), .mv (.t 23)⟩, ⟨some 210, some (207, true), .bi .eql (.t 208) (.t 209)⟩, ⟨some 211, none, .pk (.t 207) (.t 210) (.c (.bool false))⟩, ⟨some 212, none, .mv (.t 211)⟩, ⟨some 213, some (212, true), .mv (.t 25)⟩, ⟨some 214, none, .pk (.t 212) (.t 213) (.c (.bool false))⟩, ⟨some 215, none, .mv (.t 214)⟩, ⟨some 216, some (215, true), .mv (.t 26)⟩, ⟨some 217, none, .pk (.t 215) (.t 216) (.c (.bool false))⟩, ⟨some 218, none, .mv (.t 217)⟩, ⟨some 219, some (218, true), .mv (.t 27)⟩, ⟨some 220, some (218, true), .bi .leq (.t 219) (.c (.int .i64 1))⟩, ⟨some 221, none, .pk (.t 218) (.t 220) (.c (.bool false))⟩, ⟨some 222, none, .mv (.t 221)⟩, ⟨some 223, some (222, true), .mv (.t 19)⟩, ⟨some 224, some (222, true), .mv (.t 17)⟩, ⟨some 225, some (222, true), .bi .leq (.t 223) (.t 224)⟩, ⟨some 226, none, .pk (.t 222) (.t 225) (.c (.bool false))⟩, ⟨some 227, none, .mv (.t 226)⟩, ⟨some 228, some (227, true), .mv (.t 21)⟩, ⟨some 229, some (227, true), .bi .geq (.t 228) (.c (.int .i64 0))⟩, ⟨some 230, none, .pk (.t 227) (.t 229) (.c (.bool false))⟩, ⟨some 231, none, .mv (.t 230)⟩, ⟨some 232, some (231, true), .mv (.t 21)⟩, ⟨some 233, some (231, true), .mv (.t 3)⟩, ⟨some 234, some (231, true), .ln (.t 233)⟩, ⟨some 235, some (231, true), .bi .leq (.t 232) (.t 234)⟩, ⟨some 236, none, .pk (.t 231) (.t 235) (.c (.bool false))⟩, ⟨some 2, none, .mv (.t 236)⟩]
def q_law11_EvalFoldsAgree_10 : AC := .seq q_law11_EvalFoldsAgree_9 .ret
def q_law11_EvalFoldsAgree_11 : AC := .reg [⟨some 165, none, .mv (.t 3)⟩, ⟨some 166, none, .mv (.t 28)⟩, ⟨some 167, none, .ia 1 (.t 165) (.t 166)⟩, ⟨some 168, none, .ld false 1 (.t 167)⟩, ⟨some 169, none, .mv (.t 15)⟩, ⟨some 170, none, .bi .lss (.t 168) (.t 169)⟩, ⟨some 171, none, .mv (.t 170)⟩, ⟨some 172, some (171, false), .mv (.t 3)⟩, ⟨some 173, some (171, false), .mv (.t 28)⟩, ⟨some 174, some (171, false), .ia 1 (.t 172) (.t 173)⟩, ⟨some 175, some (171, false), .ld false 1 (.t 174)⟩, ⟨some 176, some (171, false), .mv (.t 17)⟩, ⟨some 177, some (171, false), .bi .gtr (.t 175) (.t 176)⟩, ⟨some 178, none, .pk (.t 171) (.c (.bool true)) (.t 177)⟩, ⟨some 179, none, .mv (.t 178)⟩, ⟨some 180, some (179, false), .mv (.t 3)⟩, ⟨some 181, some (179, false), .mv (.t 28)⟩, ⟨some 182, some (179, false), .ia 1 (.t 180) (.t 181)⟩, ⟨some 183, some (179, false), .ld false 1 (.t 182)⟩, ⟨some 184, some (179, false), .mv (.t 21)⟩, ⟨some 185, some (179, false), .bi .eql (.t 183) (.t 184)⟩, ⟨some 186, none, .pk (.t 179) (.c (.bool true)) (.t 185)⟩]
def q_law11_EvalFoldsAgree_12 : AC := .seq q_law11_EvalFoldsAgree_11 q_law11_EvalFoldsAgree_3
def q_law11_EvalFoldsAgree_13 : AC := .seq q_law11_EvalFoldsAgree_12 q_law11_EvalFoldsAgree_7
def q_law11_EvalFoldsAgree_14 : AC := .rgd [⟨some 147, none, .mv (.t 25)⟩,
   ⟨some 148, none, .mv (.t 147)⟩,
   ⟨some 149, some (148, false), .mv (.t 3)⟩,
   ⟨some 150, some (148, false), .mv (.t 28)⟩,
   ⟨some 151, some (148, false), .ia 1 (.t 149) (.t 150)⟩,
   ⟨some 152, some (148, false), .ld false 1 (.t 151)⟩,
   ⟨some 153, some (148, false), .mv (.t 15)⟩,
   ⟨some 154, some (148, false), .bi .eql (.t 152) (.t 153)⟩,
   ⟨some 155, none, .pk (.t 148) (.c (.bool true)) (.t 154)⟩,
   ⟨some 156, none, .mv (.t 26)⟩,
   ⟨some 157, none, .mv (.t 156)⟩,
   ⟨some 158, some (157, false), .mv (.t 3)⟩,
   ⟨some 159, some (157, false), .mv (.t 28)⟩,
   ⟨some 160, some (157, false), .ia 1 (.t 158) (.t 159)⟩,
   ⟨some 161, some (157, false), .ld false 1 (.t 160)⟩,
   ⟨some 162, some (157, false), .mv (.t 17)⟩,
   ⟨some 163, some (157, false), .bi .eql (.t 161) (.t 162)⟩,
   ⟨some 164, none, .pk (.t 157) (.c (.bool true)) (.t 163)⟩,
   ⟨some 25, none, .mv (.t 155)⟩,
   ⟨some 26, none, .mv (.t 164)⟩] [(2, 3), (2, 6), (3, 6), (4, 6), (5, 6), (0, 9), (1, 9), (2, 9), (3, 9), (4, 9), (5, 9), (6, 9), (7, 9), (8, 9), (2, 10), (3, 10), (4, 10), (5, 10), (6, 10), (7, 10), (8, 10), (2, 11), (3, 11), (4, 11), (5, 11), (6, 11), (7, 11), (8, 11), (2, 12), (3, 12), (4, 12), (5, 12), (6, 12), (7, 12), (8, 12), (11, 12), (2, 13), (3, 13), (4, 13), (5, 13), (6, 13), (7, 13), (8, 13), (2, 14), (3, 14), (4, 14), (5, 14), (6, 14), (7, 14), (8, 14), (2, 15), (3, 15), (4, 15), (5, 15), (6, 15), (7, 15), (8, 15), (11, 15), (12, 15), (13, 15), (14, 15), (2, 16), (3, 16), (4, 16), (5, 16), (6, 16), (7, 16), (8, 16), (2, 17), (3, 17), (4, 17), (5, 17), (6, 17), (7, 17), (8, 17), (11, 18), (12, 18), (13, 18), (14, 18), (15, 18), (16, 18), (17, 18)]
def q_law11_EvalFoldsAgree_15 : AC := .seq q_law11_EvalFoldsAgree_14 q_law11_EvalFoldsAgree_13
def q_law11_EvalFoldsAgree_16 : AC := .reg [⟨some 2, none, .mv (.c (.bool false))⟩]
def q_law11_EvalFoldsAgree_17 : AC := .seq q_law11_EvalFoldsAgree_16 .ret
def q_law11_EvalFoldsAgree_18 : AC := .cond (.t 130) q_law11_EvalFoldsAgree_17 .skip
def q_law11_EvalFoldsAgree_19 : AC := .reg [⟨some 146, none, .mv (.t 28)⟩, ⟨some 24, none, .mv (.t 146)⟩]
def q_law11_EvalFoldsAgree_20 : AC := .cond (.t 145) q_law11_EvalFoldsAgree_19 .skip
def q_law11_EvalFoldsAgree_21 : AC := .reg [⟨some 144, none, .mv (.t 24)⟩, ⟨some 145, none, .bi .lss (.t 144) (.c (.int .i64 0))⟩]
def q_law11_EvalFoldsAgree_22 : AC := .seq q_law11_EvalFoldsAgree_21 q_law11_EvalFoldsAgree_20
def q_law11_EvalFoldsAgree_23 : AC := .reg [⟨some 142, none, .mv (.t 23)⟩, ⟨some 143, none, .bi .add (.t 142) (.c (.int .i64 1))⟩, ⟨some 23, none, .mv (.t 143)⟩]
def q_law11_EvalFoldsAgree_24 : AC := .seq q_law11_EvalFoldsAgree_23 q_law11_EvalFoldsAgree_22
def q_law11_EvalFoldsAgree_25 : AC := .cond (.t 141) q_law11_EvalFoldsAgree_24 .skip
def q_law11_EvalFoldsAgree_26 : AC := .reg [⟨some 137, none, .mv (.t 3)⟩, ⟨some 138, none, .mv (.t 28)⟩, ⟨some 139, none, .ia 1 (.t 137) (.t 138)⟩, ⟨some 140, none, .ld false 1 (.t 139)⟩, ⟨some 141, none, .bi .neq (.t 140) (.c (.int .i64 0))⟩]
def q_law11_EvalFoldsAgree_27 : AC := .seq q_law11_EvalFoldsAgree_26 q_law11_EvalFoldsAgree_25
def q_law11_EvalFoldsAgree_28 : AC := .seq q_law11_EvalFoldsAgree_27 q_law11_EvalFoldsAgree_15
def q_law11_EvalFoldsAgree_29 : AC := .block 3 q_law11_EvalFoldsAgree_28
def q_law11_EvalFoldsAgree_30 : AC := .seq q_law11_EvalFoldsAgree_29 q_law11_EvalFoldsAgree_8
def q_law11_EvalFoldsAgree_31 : AC := .cond (.t 134) .skip (.exit 2)
def q_law11_EvalFoldsAgree_32 : AC := .reg [⟨some 131, none, .mv (.t 28)⟩, ⟨some 132, none, .mv (.t 3)⟩, ⟨some 133, none, .ln (.t 132)⟩, ⟨some 134, none, .bi .lss (.t 131) (.t 133)⟩]
def q_law11_EvalFoldsAgree_33 : AC := .seq q_law11_EvalFoldsAgree_32 q_law11_EvalFoldsAgree_31
def q_law11_EvalFoldsAgree_34 : AC := .seq q_law11_EvalFoldsAgree_33 q_law11_EvalFoldsAgree_30
def q_law11_EvalFoldsAgree_35 : AC := .loop q_law11_EvalFoldsAgree_34
def q_law11_EvalFoldsAgree_36 : AC := .block 2 q_law11_EvalFoldsAgree_35
def q_law11_EvalFoldsAgree_37 : AC := .reg [⟨some 28, none, .mv (.c (.int .i64 0))⟩]
def q_law11_EvalFoldsAgree_38 : AC := .seq q_law11_EvalFoldsAgree_37 q_law11_EvalFoldsAgree_36
def q_law11_EvalFoldsAgree_39 : AC := .seq q_law11_EvalFoldsAgree_38 q_law11_EvalFoldsAgree_10
def q_law11_EvalFoldsAgree_40 : AC := .reg [⟨some 23, none, .mv (.c (.int .i64 0))⟩, ⟨some 24, none, .mv (.c (.int .i64 (-1)))⟩, ⟨some 25, none, .mv (.c (.bool false))⟩, ⟨some 26, none, .mv (.c (.bool false))⟩, ⟨some 27, none, .mv (.c (.int .i64 0))⟩]
def q_law11_EvalFoldsAgree_41 : AC := .seq q_law11_EvalFoldsAgree_40 q_law11_EvalFoldsAgree_39
def q_law11_EvalFoldsAgree_42 : AC := .reg [⟨some 101, none, .mv (.t 8)⟩, ⟨some 102, none, .bi .neq (.t 101) (.c (.int .i64 0))⟩, ⟨some 103, none, .mv (.t 102)⟩, ⟨some 104, some (103, false), .mv (.t 10)⟩, ⟨some 105, some (103, false), .bi .neq (.t 104) (.c (.int .i64 0))⟩, ⟨some 106, none, .pk (.t 103) (.c (.bool true)) (.t 105)⟩, ⟨some 107, none, .mv (.t 106)⟩, ⟨some 108, some (107, false), .mv (.t 12)⟩, ⟨some 109, some (107, false), .bi .neq (.t 108) (.c (.int .i64 0))⟩, ⟨some 110, none, .pk (.t 107) (.c (.bool true)) (.t 109)⟩, ⟨some 111, none, .mv (.t 110)⟩, ⟨some 112, some (111, false), .mv (.t 14)⟩, ⟨some 113, some (111, false), .bi .neq (.t 112) (.c (.int .i64 0))⟩, ⟨some 114, none, .pk (.t 111) (.c (.bool true)) (.t 113)⟩, ⟨some 115, none, .mv (.t 114)⟩, ⟨some 116, some (115, false), .mv (.t 16)⟩, ⟨some 117, some (115, false), .bi .neq (.t 116) (.c (.int .i64 0))⟩, ⟨some 118, none, .pk (.t 115) (.c (.bool true)) (.t 117)⟩, ⟨some 119, none, .mv (.t 118)⟩, ⟨some 120, some (119, false), .mv (.t 18)⟩, ⟨some 121, some (119, false), .bi .neq (.t 120) (.c (.int .i64 0))⟩, ⟨some 122, none, .pk (.t 119) (.c (.bool true)) (.t 121)⟩, ⟨some 123, none, .mv (.t 122)⟩, ⟨some 124, some (123, false), .mv (.t 20)⟩, ⟨some 125, some (123, false), .bi .neq (.t 124) (.c (.int .i64 0))⟩, ⟨some 126, none, .pk (.t 123) (.c (.bool true)) (.t 125)⟩, ⟨some 127, none, .mv (.t 126)⟩, ⟨some 128, some (127, false), .mv (.t 22)⟩, ⟨some 129, some (127, false), .bi .neq (.t 128) (.c (.int .i64 0))⟩, ⟨some 130, none, .pk (.t 127) (.c (.bool true)) (.t 129)⟩]
def q_law11_EvalFoldsAgree_43 : AC := .seq q_law11_EvalFoldsAgree_42 q_law11_EvalFoldsAgree_18
def q_law11_EvalFoldsAgree_44 : AC := .seq q_law11_EvalFoldsAgree_43 q_law11_EvalFoldsAgree_41
def q_law11_EvalFoldsAgree_45 : AC := .reg [⟨some 97, none, .mv (.t 3)⟩, ⟨some 98, none, .ca 19 [.c (.int .i64 27), .t 97]⟩, ⟨some 96, none, .mv (.t 98)⟩, ⟨some 99, none, .ex (.t 96) 0⟩, ⟨some 100, none, .ex (.t 96) 1⟩, ⟨some 21, none, .mv (.t 99)⟩, ⟨some 22, none, .mv (.t 100)⟩]
def q_law11_EvalFoldsAgree_46 : AC := .seq q_law11_EvalFoldsAgree_45 q_law11_EvalFoldsAgree_44
def q_law11_EvalFoldsAgree_47 : AC := .reg [⟨some 92, none, .mv (.t 3)⟩, ⟨some 93, none, .ca 19 [.c (.int .i64 28), .t 92]⟩, ⟨some 91, none, .mv (.t 93)⟩, ⟨some 94, none, .ex (.t 91) 0⟩, ⟨some 95, none, .ex (.t 91) 1⟩, ⟨some 19, none, .mv (.t 94)⟩, ⟨some 20, none, .mv (.t 95)⟩]
def q_law11_EvalFoldsAgree_48 : AC := .seq q_law11_EvalFoldsAgree_47 q_law11_EvalFoldsAgree_46
def q_law11_EvalFoldsAgree_49 : AC := .reg [⟨some 87, none, .mv (.t 3)⟩, ⟨some 88, none, .ca 19 [.c (.int .i64 25), .t 87]⟩, ⟨some 86, none, .mv (.t 88)⟩, ⟨some 89, none, .ex (.t 86) 0⟩, ⟨some 90, none, .ex (.t 86) 1⟩, ⟨some 17, none, .mv (.t 89)⟩, ⟨some 18, none, .mv (.t 90)⟩]
def q_law11_EvalFoldsAgree_50 : AC := .seq q_law11_EvalFoldsAgree_49 q_law11_EvalFoldsAgree_48
def q_law11_EvalFoldsAgree_51 : AC := .reg [⟨some 82, none, .mv (.t 3)⟩, ⟨some 83, none, .ca 19 [.c (.int .i64 24), .t 82]⟩, ⟨some 81, none, .mv (.t 83)⟩, ⟨some 84, none, .ex (.t 81) 0⟩, ⟨some 85, none, .ex (.t 81) 1⟩, ⟨some 15, none, .mv (.t 84)⟩, ⟨some 16, none, .mv (.t 85)⟩]
def q_law11_EvalFoldsAgree_52 : AC := .seq q_law11_EvalFoldsAgree_51 q_law11_EvalFoldsAgree_50
def q_law11_EvalFoldsAgree_53 : AC := .reg [⟨some 77, none, .mv (.t 3)⟩, ⟨some 78, none, .ca 19 [.c (.int .i64 22), .t 77]⟩, ⟨some 76, none, .mv (.t 78)⟩, ⟨some 79, none, .ex (.t 76) 0⟩, ⟨some 80, none, .ex (.t 76) 1⟩, ⟨some 13, none, .mv (.t 79)⟩, ⟨some 14, none, .mv (.t 80)⟩]
def q_law11_EvalFoldsAgree_54 : AC := .seq q_law11_EvalFoldsAgree_53 q_law11_EvalFoldsAgree_52
def q_law11_EvalFoldsAgree_55 : AC := .reg [⟨some 72, none, .mv (.t 3)⟩, ⟨some 73, none, .ca 19 [.c (.int .i64 23), .t 72]⟩, ⟨some 71, none, .mv (.t 73)⟩, ⟨some 74, none, .ex (.t 71) 0⟩, ⟨some 75, none, .ex (.t 71) 1⟩, ⟨some 11, none, .mv (.t 74)⟩, ⟨some 12, none, .mv (.t 75)⟩]
def q_law11_EvalFoldsAgree_56 : AC := .seq q_law11_EvalFoldsAgree_55 q_law11_EvalFoldsAgree_54
def q_law11_EvalFoldsAgree_57 : AC := .reg [⟨some 67, none, .mv (.t 4)⟩, ⟨some 68, none, .ca 19 [.c (.int .i64 21), .t 67]⟩, ⟨some 66, none, .mv (.t 68)⟩, ⟨some 69, none, .ex (.t 66) 0⟩, ⟨some 70, none, .ex (.t 66) 1⟩, ⟨some 9, none, .mv (.t 69)⟩, ⟨some 10, none, .mv (.t 70)⟩]
def q_law11_EvalFoldsAgree_58 : AC := .seq q_law11_EvalFoldsAgree_57 q_law11_EvalFoldsAgree_56
def q_law11_EvalFoldsAgree_59 : AC := .reg [⟨some 62, none, .mv (.t 3)⟩, ⟨some 63, none, .ca 19 [.c (.int .i64 20), .t 62]⟩, ⟨some 61, none, .mv (.t 63)⟩, ⟨some 64, none, .ex (.t 61) 0⟩, ⟨some 65, none, .ex (.t 61) 1⟩, ⟨some 7, none, .mv (.t 64)⟩, ⟨some 8, none, .mv (.t 65)⟩]
def q_law11_EvalFoldsAgree_60 : AC := .seq q_law11_EvalFoldsAgree_59 q_law11_EvalFoldsAgree_58
def q_law11_EvalFoldsAgree_61 : AC := .reg [⟨some 37, none, .ca 18 []⟩, ⟨some 2, none, .mv (.t 37)⟩]
def q_law11_EvalFoldsAgree_62 : AC := .seq q_law11_EvalFoldsAgree_61 .ret
def q_law11_EvalFoldsAgree_63 : AC := .cond (.t 36) q_law11_EvalFoldsAgree_62 .skip
def q_law11_EvalFoldsAgree_64 : AC := .reg [⟨some 42, none, .mv (.t 5)⟩, ⟨some 43, none, .bi .add (.t 42) (.c (.int .i64 1))⟩, ⟨some 5, none, .mv (.t 43)⟩]
def q_law11_EvalFoldsAgree_65 : AC := .reg [⟨some 55, none, .mv (.t 4)⟩, ⟨some 56, none, .bs 1 [.c (.int .i64 1)]⟩, ⟨some 57, none, .ap 1 8 (.t 55) (.t 56)⟩, ⟨some 4, none, .mv (.t 57)⟩]
def q_law11_EvalFoldsAgree_66 : AC := .reg [⟨some 58, none, .mv (.t 4)⟩, ⟨some 59, none, .bs 1 [.c (.int .i64 0)]⟩, ⟨some 60, none, .ap 1 8 (.t 58) (.t 59)⟩, ⟨some 4, none, .mv (.t 60)⟩]
def q_law11_EvalFoldsAgree_67 : AC := .cond (.t 54) q_law11_EvalFoldsAgree_65 q_law11_EvalFoldsAgree_66
def q_law11_EvalFoldsAgree_68 : AC := .reg [⟨some 53, none, .mv (.t 6)⟩, ⟨some 54, none, .bi .eql (.t 53) (.c (.int .i64 0))⟩]
def q_law11_EvalFoldsAgree_69 : AC := .seq q_law11_EvalFoldsAgree_68 q_law11_EvalFoldsAgree_67
def q_law11_EvalFoldsAgree_70 : AC := .reg [⟨some 49, none, .mv (.t 3)⟩, ⟨some 50, none, .mv (.t 6)⟩, ⟨some 51, none, .bs 1 [.t 50]⟩, ⟨some 52, none, .ap 1 8 (.t 49) (.t 51)⟩, ⟨some 3, none, .mv (.t 52)⟩]
def q_law11_EvalFoldsAgree_71 : AC := .seq q_law11_EvalFoldsAgree_70 q_law11_EvalFoldsAgree_69
def q_law11_EvalFoldsAgree_72 : AC := .reg [⟨some 44, none, .mv (.t 0)⟩, ⟨some 45, none, .mv (.t 5)⟩, ⟨some 46, none, .ia 1 (.t 44) (.t 45)⟩, ⟨some 47, none, .ld false 1 (.t 46)⟩, ⟨some 48, none, .ca 21 [.t 47]⟩, ⟨some 6, none, .mv (.t 48)⟩]
def q_law11_EvalFoldsAgree_73 : AC := .seq q_law11_EvalFoldsAgree_72 q_law11_EvalFoldsAgree_71
def q_law11_EvalFoldsAgree_74 : AC := .block 1 q_law11_EvalFoldsAgree_73
def q_law11_EvalFoldsAgree_75 : AC := .seq q_law11_EvalFoldsAgree_74 q_law11_EvalFoldsAgree_64
def q_law11_EvalFoldsAgree_76 : AC := .cond (.t 41) .skip (.exit 0)
def q_law11_EvalFoldsAgree_77 : AC := .reg [⟨some 38, none, .mv (.t 5)⟩, ⟨some 39, none, .mv (.t 0)⟩, ⟨some 40, none, .ln (.t 39)⟩, ⟨some 41, none, .bi .lss (.t 38) (.t 40)⟩]
def q_law11_EvalFoldsAgree_78 : AC := .seq q_law11_EvalFoldsAgree_77 q_law11_EvalFoldsAgree_76
def q_law11_EvalFoldsAgree_79 : AC := .seq q_law11_EvalFoldsAgree_78 q_law11_EvalFoldsAgree_75
def q_law11_EvalFoldsAgree_80 : AC := .loop q_law11_EvalFoldsAgree_79
def q_law11_EvalFoldsAgree_81 : AC := .block 0 q_law11_EvalFoldsAgree_80
def q_law11_EvalFoldsAgree_82 : AC := .reg [⟨some 5, none, .mv (.c (.int .i64 0))⟩]
def q_law11_EvalFoldsAgree_83 : AC := .seq q_law11_EvalFoldsAgree_82 q_law11_EvalFoldsAgree_81
def q_law11_EvalFoldsAgree_84 : AC := .seq q_law11_EvalFoldsAgree_83 q_law11_EvalFoldsAgree_60
def q_law11_EvalFoldsAgree_85 : AC := .reg [⟨some 3, none, .mv (.c (.nil))⟩, ⟨some 4, none, .mv (.c (.nil))⟩]
def q_law11_EvalFoldsAgree_86 : AC := .seq q_law11_EvalFoldsAgree_85 q_law11_EvalFoldsAgree_84
def q_law11_EvalFoldsAgree_87 : AC := .reg [⟨some 29, none, .mv (.t 0)⟩, ⟨some 30, none, .ln (.t 29)⟩, ⟨some 31, none, .bi .eql (.t 30) (.c (.int .i64 0))⟩, ⟨some 32, none, .mv (.t 31)⟩, ⟨some 33, some (32, false), .mv (.t 0)⟩, ⟨some 34, some (32, false), .ln (.t 33)⟩, ⟨some 35, some (32, false), .bi .geq (.t 34) (.c (.int .i64 24))⟩, ⟨some 36, none, .pk (.t 32) (.c (.bool true)) (.t 35)⟩]
def q_law11_EvalFoldsAgree_88 : AC := .seq q_law11_EvalFoldsAgree_87 q_law11_EvalFoldsAgree_63
def q_law11_EvalFoldsAgree_89 : AC := .seq q_law11_EvalFoldsAgree_88 q_law11_EvalFoldsAgree_86
def q_law11_EvalFoldsAgree_90 : AC := .reg [⟨some 2, none, .mv (.c (.bool false))⟩]
def q_law11_EvalFoldsAgree_91 : AC := .seq q_law11_EvalFoldsAgree_90 q_law11_EvalFoldsAgree_89
def c_law11_EvalFoldsAgree : FC := ⟨237, [2], q_law11_EvalFoldsAgree_91⟩
theorem k_law11_EvalFoldsAgree : okF Try.prog 6 c_law11_EvalFoldsAgree = true := by decide +kernel
noncomputable def law11_EvalFoldsAgree.l77 (w6 : (List Int) × (List Int)) (y12 : Int × Int) (y13 : Int × Int) (y14 : Int × Int) (y15 : Int × Int) (s55 : Int × Int × Bool × Bool × Int × Int) : Option ((Int × Int × Bool × Bool × Int × Int) ⊕ ((Int × Int × Bool × Bool × Int) ⊕ Bool)) := (bif (decide (s55.2.2.2.2.2 < (w6.1.length : Int))) then (((idx w6.1 s55.2.2.2.2.2).bind (fun (y76 : Int) => (bif (!decide (y76 = 0)) then (bif (decide (s55.2.1 < 0)) then (some ((IntKind.i64.wrap (s55.1 + 1)), s55.2.2.2.2.2)) else (some ((IntKind.i64.wrap (s55.1 + 1)), s55.2.1))) else (some (s55.1, s55.2.1))))).bind (fun (w58 : Int × Int) => ((bif s55.2.2.1 then (bif s55.2.2.2.1 then (some (true, true)) else ((idx w6.1 s55.2.2.2.2.2).bind (fun (y73 : Int) => (some (true, (decide (y73 = y13.1))))))) else ((idx w6.1 s55.2.2.2.2.2).bind (fun (y74 : Int) => (bif s55.2.2.2.1 then (some ((decide (y74 = y12.1)), true)) else ((idx w6.1 s55.2.2.2.2.2).bind (fun (y75 : Int) => (some ((decide (y74 = y12.1)), (decide (y75 = y13.1)))))))))).bind (fun (w61 : Bool × Bool) => ((idx w6.1 s55.2.2.2.2.2).bind (fun (y63 : Int) => ((bif (decide (y63 < y12.1)) then (some true) else ((idx w6.1 s55.2.2.2.2.2).bind (fun (y72 : Int) => (some (decide (y13.1 < y72)))))).bind (fun (o66 : Bool) => ((bif o66 then (some true) else ((idx w6.1 s55.2.2.2.2.2).bind (fun (y71 : Int) => (some (decide (y71 = y15.1)))))).bind (fun (o69 : Bool) => (bif o69 then (some (Sum.inr (Sum.inr false))) else ((idx w6.1 s55.2.2.2.2.2).bind (fun (y70 : Int) => (bif (decide (y14.1 < y70)) then (some (Sum.inl (w58.1, w58.2, w61.1, w61.2, (IntKind.i64.wrap (s55.2.2.2.2.1 + 1)), (IntKind.i64.wrap (s55.2.2.2.2.2 + 1))))) else (some (Sum.inl (w58.1, w58.2, w61.1, w61.2, s55.2.2.2.2.1, (IntKind.i64.wrap (s55.2.2.2.2.2 + 1))))))))))))))))))) else (some (Sum.inr (Sum.inl (s55.1, s55.2.1, s55.2.2.1, s55.2.2.2.1, s55.2.2.2.2.1)))))
noncomputable def law11_EvalFoldsAgree.l82 (a_0 : List Int) (s78 : Int × (List Int) × (List Int)) : Option ((Int × (List Int) × (List Int)) ⊕ (((List Int) × (List Int)))) := (bif (decide (s78.1 < (List.length a_0 : Int))) then ((idx a_0 s78.1).bind (fun (y80 : Int) => ((ref11_Saturate y80).bind (fun (y81 : Int) => (bif (room (List.length s78.2.1 + List.length ([y81])) 8) then (bif (decide (y81 = 0)) then (bif (room (List.length s78.2.2 + List.length ([1])) 8) then (some (Sum.inl ((IntKind.i64.wrap (s78.1 + 1)), (s78.2.1 ++ [y81]), (s78.2.2 ++ [1])))) else none) else (bif (room (List.length s78.2.2 + List.length ([0])) 8) then (some (Sum.inl ((IntKind.i64.wrap (s78.1 + 1)), (s78.2.1 ++ [y81]), (s78.2.2 ++ [0])))) else none)) else none))))) else (some (Sum.inr (s78.2.1, s78.2.2))))
noncomputable def law11_EvalFoldsAgree (a_0 : List Int) : Option Bool := (bif ((decide ((List.length a_0 : Int) = 0)) || (decide (24 ≤ (List.length a_0 : Int)))) then ((law11_awake).bind (fun (y3 : Bool) => (some y3))) else ((loopO (law11_EvalFoldsAgree.l82 a_0) (0, ([] : List Int), ([] : List Int))).bind (fun (w6 : (List Int) × (List Int)) => ((eval_Fold 20 w6.1).bind (fun (y8 : Int × Int) => ((eval_Fold 21 w6.2).bind (fun (y9 : Int × Int) => ((eval_Fold 23 w6.1).bind (fun (y10 : Int × Int) => ((eval_Fold 22 w6.1).bind (fun (y11 : Int × Int) => ((eval_Fold 24 w6.1).bind (fun (y12 : Int × Int) => ((eval_Fold 25 w6.1).bind (fun (y13 : Int × Int) => ((eval_Fold 28 w6.1).bind (fun (y14 : Int × Int) => ((eval_Fold 27 w6.1).bind (fun (y15 : Int × Int) => (bif ((((((((!decide (y8.2 = 0)) || (!decide (y9.2 = 0))) || (!decide (y10.2 = 0))) || (!decide (y11.2 = 0))) || (!decide (y12.2 = 0))) || (!decide (y13.2 = 0))) || (!decide (y14.2 = 0))) || (!decide (y15.2 = 0))) then (some false) else ((loopO (law11_EvalFoldsAgree.l77 w6 y12 y13 y14 y15) (0, (-1), false, false, 0, 0)).bind (Sum.elim (fun (w32 : Int × Int × Bool × Bool × Int) => ((law11_awake).bind (fun (y34 : Bool) => (some (((((((((y34 && (decide ((IntKind.i64.wrap (y8.1 + y9.1)) = 1))) && (decide (y10.1 = w32.2.1))) && (decide (y11.1 = w32.1))) && w32.2.2.1) && w32.2.2.2.1) && (decide (w32.2.2.2.2 ≤ 1))) && (decide (y14.1 ≤ y13.1))) && (decide (0 ≤ y15.1))) && (decide (y15.1 ≤ (w6.1.length : Int)))))))) (fun (w53 : Bool) => (some w53))))))))))))))))))))))))
theorem law11_EvalFoldsAgree.ok {a_0 : List Int} {r : Bool} (h : law11_EvalFoldsAgree a_0 = some r) : PC Try.prog 6 [.sl (List.map (cInt .i64) a_0)] (.bool r) := by
  refine PC_run k_law11_EvalFoldsAgree rfl (L := [(0, .u (.sl (List.map (cInt .i64) a_0)))]) rfl ?_
  show Run Try.prog 237 (retQ [2] (.bool r)) [] q_law11_EvalFoldsAgree_91 _
  refine R_seq ?_
  refine R_reg ?_
  refine S_pure trivial (O_mv (d := .u (.bool false)) (by kernel_rfl)) ?_
  refine Rs_nil ?_
  refine N_s ?_
  refine R_seq ?_
  refine R_seq ?_
  refine R_reg ?_
  refine S_pure trivial (O_mv (d := .u (.sl (List.map (cInt .i64) a_0))) (by kernel_rfl)) ?_
  refine S_pure trivial (O_ln (c := (cInt .i64)) (li := a_0) (by kernel_rfl)) ?_
  refine S_pure trivial (O_eql (k := .i64) (a := (List.length a_0 : Int)) (b := 0) (by kernel_rfl) (by kernel_rfl)) ?_
  refine S_pure trivial (O_mv (d := .u (.bool ((decide ((List.length a_0 : Int) = 0))))) (by kernel_rfl)) ?_
  have K1 : ∀ v2 : Bool, v2 = ((decide ((List.length a_0 : Int) = 0)) || (decide (24 ≤ (List.length a_0 : Int)))) → Rs Try.prog 237 (retQ [2] (.bool r)) [.s q_law11_EvalFoldsAgree_63, .s q_law11_EvalFoldsAgree_86] [] (mkSt [(0, .u (.sl (List.map (cInt .i64) a_0))), (36, .u (.bool v2))] [] 0) := by
    intro v2 e; subst e
    refine Rs_nil ?_
    refine N_s ?_
    refine R_cond (c := ((decide ((List.length a_0 : Int) = 0)) || (decide (24 ≤ (List.length a_0 : Int))))) (by kernel_rfl) h (fun h => ?_) (fun h => ?_)
    · refine R_seq ?_
      refine R_reg ?_
      obtain ⟨y3, hy3, h⟩ := bindS h
      refine S_pure trivial (O_ca (us := []) (r := .bool y3) (by kernel_rfl) (law11_awake.ok hy3)) ?_
      refine S_pure trivial (O_mv (d := .u (.bool y3)) (by kernel_rfl)) ?_
      refine Rs_nil ?_
      refine N_s ?_
      obtain rfl := (Option.some.inj h)
      refine R_ret ?_
      exact Q_ret (x := .bool y3) (by kernel_rfl) (.refl _)
    · refine R_skip ?_
      refine N_s ?_
      refine R_seq ?_
      refine R_reg ?_
      refine S_pure trivial (O_mv (d := .u (.nil)) (by kernel_rfl)) ?_
      refine S_pure trivial (O_mv (d := .u (.nil)) (by kernel_rfl)) ?_
      refine Rs_nil ?_
      refine N_s ?_
      refine R_seq ?_
      refine R_seq ?_
      refine R_reg ?_
      refine S_pure trivial (O_mv (d := .u (.int .i64 0)) (by kernel_rfl)) ?_
      refine Rs_nil ?_
      refine N_s ?_
      refine R_block ?_
      refine R_weak (Weak.trans (W_ghost 3 1 (by kernel_rfl)) (W_ghost 4 1 (by kernel_rfl))) ?_
      obtain ⟨o4, hE, h⟩ := bindS h
      have K7 : ∀ (w6 : (List Int) × (List Int)), w6 = o4 → Run Try.prog 237 (retQ [2] (.bool r)) [] q_law11_EvalFoldsAgree_60 (mkSt [(3, .msl 0 w6.1.length), (4, .msl 1 w6.2.length)] [(0, .row 1 (List.map (cInt .i64) w6.1)), (1, .row 1 (List.map (cInt .i64) w6.2))] 4) := by
        intro w6 e; subst e
        refine R_seq ?_
        refine R_reg ?_
        refine S_pure trivial (O_mv (d := .msl 0 w6.1.length) (by kernel_rfl)) ?_
        obtain ⟨y8, hy8, h⟩ := bindS h
        refine S_pure trivial (O_caf (ds := [.u (.int .i64 20), .msl 0 w6.1.length]) (us := [.int .i64 20, .sl (List.map (cInt .i64) w6.1)]) (r := .tup [.int .i64 y8.1, .int .i64 y8.2]) (by kernel_rfl) (fz_cons fz_u (fz_cons (fz_msl (s := 1) (c := (cInt .i64)) (li := w6.1) (by kernel_rfl)) fz_nil)) (eval_Fold.ok hy8) rfl) ?_
        refine S_pure trivial (O_mv (d := .u (.tup [.int .i64 y8.1, .int .i64 y8.2])) (by kernel_rfl)) ?_
        refine S_pure trivial (O_ex (us := [.int .i64 y8.1, .int .i64 y8.2]) (u := .int .i64 y8.1) (by kernel_rfl) (by kernel_rfl)) ?_
        refine S_pure trivial (O_ex (us := [.int .i64 y8.1, .int .i64 y8.2]) (u := .int .i64 y8.2) (by kernel_rfl) (by kernel_rfl)) ?_
        refine S_pure trivial (O_mv (d := .u (.int .i64 y8.1)) (by kernel_rfl)) ?_
        refine S_pure trivial (O_mv (d := .u (.int .i64 y8.2)) (by kernel_rfl)) ?_
        refine Rs_nil ?_
        refine N_s ?_
        refine R_seq ?_
        refine R_reg ?_
        refine S_pure trivial (O_mv (d := .msl 1 w6.2.length) (by kernel_rfl)) ?_
        obtain ⟨y9, hy9, h⟩ := bindS h
        refine S_pure trivial (O_caf (ds := [.u (.int .i64 21), .msl 1 w6.2.length]) (us := [.int .i64 21, .sl (List.map (cInt .i64) w6.2)]) (r := .tup [.int .i64 y9.1, .int .i64 y9.2]) (by kernel_rfl) (fz_cons fz_u (fz_cons (fz_msl (s := 1) (c := (cInt .i64)) (li := w6.2) (by kernel_rfl)) fz_nil)) (eval_Fold.ok hy9) rfl) ?_
        refine S_pure trivial (O_mv (d := .u (.tup [.int .i64 y9.1, .int .i64 y9.2])) (by kernel_rfl)) ?_
        refine S_pure trivial (O_ex (us := [.int .i64 y9.1, .int .i64 y9.2]) (u := .int .i64 y9.1) (by kernel_rfl) (by kernel_rfl)) ?_
        refine S_pure trivial (O_ex (us := [.int .i64 y9.1, .int .i64 y9.2]) (u := .int .i64 y9.2) (by kernel_rfl) (by kernel_rfl)) ?_
        refine S_pure trivial (O_mv (d := .u (.int .i64 y9.1)) (by kernel_rfl)) ?_
        refine S_pure trivial (O_mv (d := .u (.int .i64 y9.2)) (by kernel_rfl)) ?_
        refine Rs_nil ?_
        refine N_s ?_
        refine R_seq ?_
        refine R_reg ?_
        refine S_pure trivial (O_mv (d := .msl 0 w6.1.length) (by kernel_rfl)) ?_
        obtain ⟨y10, hy10, h⟩ := bindS h
        refine S_pure trivial (O_caf (ds := [.u (.int .i64 23), .msl 0 w6.1.length]) (us := [.int .i64 23, .sl (List.map (cInt .i64) w6.1)]) (r := .tup [.int .i64 y10.1, .int .i64 y10.2]) (by kernel_rfl) (fz_cons fz_u (fz_cons (fz_msl (s := 1) (c := (cInt .i64)) (li := w6.1) (by kernel_rfl)) fz_nil)) (eval_Fold.ok hy10) rfl) ?_
        refine S_pure trivial (O_mv (d := .u (.tup [.int .i64 y10.1, .int .i64 y10.2])) (by kernel_rfl)) ?_
        refine S_pure trivial (O_ex (us := [.int .i64 y10.1, .int .i64 y10.2]) (u := .int .i64 y10.1) (by kernel_rfl) (by kernel_rfl)) ?_
        refine S_pure trivial (O_ex (us := [.int .i64 y10.1, .int .i64 y10.2]) (u := .int .i64 y10.2) (by kernel_rfl) (by kernel_rfl)) ?_
        refine S_pure trivial (O_mv (d := .u (.int .i64 y10.1)) (by kernel_rfl)) ?_
        refine S_pure trivial (O_mv (d := .u (.int .i64 y10.2)) (by kernel_rfl)) ?_
        refine Rs_nil ?_
        refine N_s ?_
        refine R_seq ?_
        refine R_reg ?_
        refine S_pure trivial (O_mv (d := .msl 0 w6.1.length) (by kernel_rfl)) ?_
        obtain ⟨y11, hy11, h⟩ := bindS h
        refine S_pure trivial (O_caf (ds := [.u (.int .i64 22), .msl 0 w6.1.length]) (us := [.int .i64 22, .sl (List.map (cInt .i64) w6.1)]) (r := .tup [.int .i64 y11.1, .int .i64 y11.2]) (by kernel_rfl) (fz_cons fz_u (fz_cons (fz_msl (s := 1) (c := (cInt .i64)) (li := w6.1) (by kernel_rfl)) fz_nil)) (eval_Fold.ok hy11) rfl) ?_
        refine S_pure trivial (O_mv (d := .u (.tup [.int .i64 y11.1, .int .i64 y11.2])) (by kernel_rfl)) ?_
        refine S_pure trivial (O_ex (us := [.int .i64 y11.1, .int .i64 y11.2]) (u := .int .i64 y11.1) (by kernel_rfl) (by kernel_rfl)) ?_
        refine S_pure trivial (O_ex (us := [.int .i64 y11.1, .int .i64 y11.2]) (u := .int .i64 y11.2) (by kernel_rfl) (by kernel_rfl)) ?_
        refine S_pure trivial (O_mv (d := .u (.int .i64 y11.1)) (by kernel_rfl)) ?_
        refine S_pure trivial (O_mv (d := .u (.int .i64 y11.2)) (by kernel_rfl)) ?_
        refine Rs_nil ?_
        refine N_s ?_
        refine R_seq ?_
        refine R_reg ?_
        refine S_pure trivial (O_mv (d := .msl 0 w6.1.length) (by kernel_rfl)) ?_
        obtain ⟨y12, hy12, h⟩ := bindS h
        refine S_pure trivial (O_caf (ds := [.u (.int .i64 24), .msl 0 w6.1.length]) (us := [.int .i64 24, .sl (List.map (cInt .i64) w6.1)]) (r := .tup [.int .i64 y12.1, .int .i64 y12.2]) (by kernel_rfl) (fz_cons fz_u (fz_cons (fz_msl (s := 1) (c := (cInt .i64)) (li := w6.1) (by kernel_rfl)) fz_nil)) (eval_Fold.ok hy12) rfl) ?_
        refine S_pure trivial (O_mv (d := .u (.tup [.int .i64 y12.1, .int .i64 y12.2])) (by kernel_rfl)) ?_
        refine S_pure trivial (O_ex (us := [.int .i64 y12.1, .int .i64 y12.2]) (u := .int .i64 y12.1) (by kernel_rfl) (by kernel_rfl)) ?_
        refine S_pure trivial (O_ex (us := [.int .i64 y12.1, .int .i64 y12.2]) (u := .int .i64 y12.2) (by kernel_rfl) (by kernel_rfl)) ?_
        refine S_pure trivial (O_mv (d := .u (.int .i64 y12.1)) (by kernel_rfl)) ?_
        refine S_pure trivial (O_mv (d := .u (.int .i64 y12.2)) (by kernel_rfl)) ?_
        refine Rs_nil ?_
        refine N_s ?_
        refine R_seq ?_
        refine R_reg ?_
        refine S_pure trivial (O_mv (d := .msl 0 w6.1.length) (by kernel_rfl)) ?_
        obtain ⟨y13, hy13, h⟩ := bindS h
        refine S_pure trivial (O_caf (ds := [.u (.int .i64 25), .msl 0 w6.1.length]) (us := [.int .i64 25, .sl (List.map (cInt .i64) w6.1)]) (r := .tup [.int .i64 y13.1, .int .i64 y13.2]) (by kernel_rfl) (fz_cons fz_u (fz_cons (fz_msl (s := 1) (c := (cInt .i64)) (li := w6.1) (by kernel_rfl)) fz_nil)) (eval_Fold.ok hy13) rfl) ?_
        refine S_pure trivial (O_mv (d := .u (.tup [.int .i64 y13.1, .int .i64 y13.2])) (by kernel_rfl)) ?_
        refine S_pure trivial (O_ex (us := [.int .i64 y13.1, .int .i64 y13.2]) (u := .int .i64 y13.1) (by kernel_rfl) (by kernel_rfl)) ?_
        refine S_pure trivial (O_ex (us := [.int .i64 y13.1, .int .i64 y13.2]) (u := .int .i64 y13.2) (by kernel_rfl) (by kernel_rfl)) ?_
        refine S_pure trivial (O_mv (d := .u (.int .i64 y13.1)) (by kernel_rfl)) ?_
        refine S_pure trivial (O_mv (d := .u (.int .i64 y13.2)) (by kernel_rfl)) ?_
        refine Rs_nil ?_
        refine N_s ?_
        refine R_seq ?_
        refine R_reg ?_
        refine S_pure trivial (O_mv (d := .msl 0 w6.1.length) (by kernel_rfl)) ?_
        obtain ⟨y14, hy14, h⟩ := bindS h
        refine S_pure trivial (O_caf (ds := [.u (.int .i64 28), .msl 0 w6.1.length]) (us := [.int .i64 28, .sl (List.map (cInt .i64) w6.1)]) (r := .tup [.int .i64 y14.1, .int .i64 y14.2]) (by kernel_rfl) (fz_cons fz_u (fz_cons (fz_msl (s := 1) (c := (cInt .i64)) (li := w6.1) (by kernel_rfl)) fz_nil)) (eval_Fold.ok hy14) rfl) ?_
        refine S_pure trivial (O_mv (d := .u (.tup [.int .i64 y14.1, .int .i64 y14.2])) (by kernel_rfl)) ?_
        refine S_pure trivial (O_ex (us := [.int .i64 y14.1, .int .i64 y14.2]) (u := .int .i64 y14.1) (by kernel_rfl) (by kernel_rfl)) ?_
        refine S_pure trivial (O_ex (us := [.int .i64 y14.1, .int .i64 y14.2]) (u := .int .i64 y14.2) (by kernel_rfl) (by kernel_rfl)) ?_
        refine S_pure trivial (O_mv (d := .u (.int .i64 y14.1)) (by kernel_rfl)) ?_
        refine S_pure trivial (O_mv (d := .u (.int .i64 y14.2)) (by kernel_rfl)) ?_
        refine Rs_nil ?_
        refine N_s ?_
        refine R_seq ?_
        refine R_reg ?_
        refine S_pure trivial (O_mv (d := .msl 0 w6.1.length) (by kernel_rfl)) ?_
        obtain ⟨y15, hy15, h⟩ := bindS h
        refine S_pure trivial (O_caf (ds := [.u (.int .i64 27), .msl 0 w6.1.length]) (us := [.int .i64 27, .sl (List.map (cInt .i64) w6.1)]) (r := .tup [.int .i64 y15.1, .int .i64 y15.2]) (by kernel_rfl) (fz_cons fz_u (fz_cons (fz_msl (s := 1) (c := (cInt .i64)) (li := w6.1) (by kernel_rfl)) fz_nil)) (eval_Fold.ok hy15) rfl) ?_
        refine S_pure trivial (O_mv (d := .u (.tup [.int .i64 y15.1, .int .i64 y15.2])) (by kernel_rfl)) ?_
        refine S_pure trivial (O_ex (us := [.int .i64 y15.1, .int .i64 y15.2]) (u := .int .i64 y15.1) (by kernel_rfl) (by kernel_rfl)) ?_
        refine S_pure trivial (O_ex (us := [.int .i64 y15.1, .int .i64 y15.2]) (u := .int .i64 y15.2) (by kernel_rfl) (by kernel_rfl)) ?_
        refine S_pure trivial (O_mv (d := .u (.int .i64 y15.1)) (by kernel_rfl)) ?_
        refine S_pure trivial (O_mv (d := .u (.int .i64 y15.2)) (by kernel_rfl)) ?_
        refine Rs_nil ?_
        refine N_s ?_
        refine R_seq ?_
        refine R_seq ?_
        refine R_reg ?_
        refine S_pure trivial (O_mv (d := .u (.int .i64 y8.2)) (by kernel_rfl)) ?_
        refine S_pure trivial (O_neq (k := .i64) (a := y8.2) (b := 0) (by kernel_rfl) (by kernel_rfl)) ?_
        refine S_pure trivial (O_mv (d := .u (.bool ((!decide (y8.2 = 0))))) (by kernel_rfl)) ?_
        have K16 : ∀ v17 : Bool, v17 = ((!decide (y8.2 = 0)) || (!decide (y9.2 = 0))) → Rs Try.prog 237 (retQ [2] (.bool r)) [.s q_law11_EvalFoldsAgree_18, .s q_law11_EvalFoldsAgree_41] [⟨some 107, none, .mv (.t 106)⟩, ⟨some 108, some (107, false), .mv (.t 12)⟩, ⟨some 109, some (107, false), .bi .neq (.t 108) (.c (.int .i64 0))⟩, ⟨some 110, none, .pk (.t 107) (.c (.bool true)) (.t 109)⟩, ⟨some 111, none, .mv (.t 110)⟩, ⟨some 112, some (111, false), .mv (.t 14)⟩, ⟨some 113, some (111, false), .bi .neq (.t 112) (.c (.int .i64 0))⟩, ⟨some 114, none, .pk (.t 111) (.c (.bool true)) (.t 113)⟩, ⟨some 115, none, .mv (.t 114)⟩, ⟨some 116, some (115, false), .mv (.t 16)⟩, ⟨some 117, some (115, false), .bi .neq (.t 116) (.c (.int .i64 0))⟩, ⟨some 118, none, .pk (.t 115) (.c (.bool true)) (.t 117)⟩, ⟨some 119, none, .mv (.t 118)⟩, ⟨some 120, some (119, false), .mv (.t 18)⟩, ⟨some 121, some (119, false), .bi .neq (.t 120) (.c (.int .i64 0))⟩, ⟨some 122, none, .pk (.t 119) (.c (.bool true)) (.t 121)⟩, ⟨some 123, none, .mv (.t 122)⟩, ⟨some 124, some (123, false), .mv (.t 20)⟩, ⟨some 125, some (123, false), .bi .neq (.t 124) (.c (.int .i64 0))⟩, ⟨some 126, none, .pk (.t 123) (.c (.bool true)) (.t 125)⟩, ⟨some 127, none, .mv (.t 126)⟩, ⟨some 128, some (127, false), .mv (.t 22)⟩, ⟨some 129, some (127, false), .bi .neq (.t 128) (.c (.int .i64 0))⟩, ⟨some 130, none, .pk (.t 127) (.c (.bool true)) (.t 129)⟩] (mkSt [(3, .msl 0 w6.1.length), (7, .u (.int .i64 y8.1)), (9, .u (.int .i64 y9.1)), (11, .u (.int .i64 y10.1)), (12, .u (.int .i64 y10.2)), (13, .u (.int .i64 y11.1)), (14, .u (.int .i64 y11.2)), (15, .u (.int .i64 y12.1)), (16, .u (.int .i64 y12.2)), (17, .u (.int .i64 y13.1)), (18, .u (.int .i64 y13.2)), (19, .u (.int .i64 y14.1)), (20, .u (.int .i64 y14.2)), (21, .u (.int .i64 y15.1)), (22, .u (.int .i64 y15.2)), (106, .u (.bool v17))] [(0, .row 1 (List.map (cInt .i64) w6.1))] 4) := by
          intro v17 e; subst e
          refine S_pure trivial (O_mv (d := .u (.bool (((!decide (y8.2 = 0)) || (!decide (y9.2 = 0)))))) (by kernel_rfl)) ?_
          have K18 : ∀ v19 : Bool, v19 = (((!decide (y8.2 = 0)) || (!decide (y9.2 = 0))) || (!decide (y10.2 = 0))) → Rs Try.prog 237 (retQ [2] (.bool r)) [.s q_law11_EvalFoldsAgree_18, .s q_law11_EvalFoldsAgree_41] [⟨some 111, none, .mv (.t 110)⟩, ⟨some 112, some (111, false), .mv (.t 14)⟩, ⟨some 113, some (111, false), .bi .neq (.t 112) (.c (.int .i64 0))⟩, ⟨some 114, none, .pk (.t 111) (.c (.bool true)) (.t 113)⟩, ⟨some 115, none, .mv (.t 114)⟩, ⟨some 116, some (115, false), .mv (.t 16)⟩, ⟨some 117, some (115, false), .bi .neq (.t 116) (.c (.int .i64 0))⟩, ⟨some 118, none, .pk (.t 115) (.c (.bool true)) (.t 117)⟩, ⟨some 119, none, .mv (.t 118)⟩, ⟨some 120, some (119, false), .mv (.t 18)⟩, ⟨some 121, some (119, false), .bi .neq (.t 120) (.c (.int .i64 0))⟩, ⟨some 122, none, .pk (.t 119) (.c (.bool true)) (.t 121)⟩, ⟨some 123, none, .mv (.t 122)⟩, ⟨some 124, some (123, false), .mv (.t 20)⟩, ⟨some 125, some (123, false), .bi .neq (.t 124) (.c (.int .i64 0))⟩, ⟨some 126, none, .pk (.t 123) (.c (.bool true)) (.t 125)⟩, ⟨some 127, none, .mv (.t 126)⟩, ⟨some 128, some (127, false), .mv (.t 22)⟩, ⟨some 129, some (127, false), .bi .neq (.t 128) (.c (.int .i64 0))⟩, ⟨some 130, none, .pk (.t 127) (.c (.bool true)) (.t 129)⟩] (mkSt [(3, .msl 0 w6.1.length), (7, .u (.int .i64 y8.1)), (9, .u (.int .i64 y9.1)), (11, .u (.int .i64 y10.1)), (13, .u (.int .i64 y11.1)), (14, .u (.int .i64 y11.2)), (15, .u (.int .i64 y12.1)), (16, .u (.int .i64 y12.2)), (17, .u (.int .i64 y13.1)), (18, .u (.int .i64 y13.2)), (19, .u (.int .i64 y14.1)), (20, .u (.int .i64 y14.2)), (21, .u (.int .i64 y15.1)), (22, .u (.int .i64 y15.2)), (110, .u (.bool v19))] [(0, .row 1 (List.map (cInt .i64) w6.1))] 4) := by
            intro v19 e; subst e
            refine S_pure trivial (O_mv (d := .u (.bool ((((!decide (y8.2 = 0)) || (!decide (y9.2 = 0))) || (!decide (y10.2 = 0)))))) (by kernel_rfl)) ?_
            have K20 : ∀ v21 : Bool, v21 = ((((!decide (y8.2 = 0)) || (!decide (y9.2 = 0))) || (!decide (y10.2 = 0))) || (!decide (y11.2 = 0))) → Rs Try.prog 237 (retQ [2] (.bool r)) [.s q_law11_EvalFoldsAgree_18, .s q_law11_EvalFoldsAgree_41] [⟨some 115, none, .mv (.t 114)⟩, ⟨some 116, some (115, false), .mv (.t 16)⟩, ⟨some 117, some (115, false), .bi .neq (.t 116) (.c (.int .i64 0))⟩, ⟨some 118, none, .pk (.t 115) (.c (.bool true)) (.t 117)⟩, ⟨some 119, none, .mv (.t 118)⟩, ⟨some 120, some (119, false), .mv (.t 18)⟩, ⟨some 121, some (119, false), .bi .neq (.t 120) (.c (.int .i64 0))⟩, ⟨some 122, none, .pk (.t 119) (.c (.bool true)) (.t 121)⟩, ⟨some 123, none, .mv (.t 122)⟩, ⟨some 124, some (123, false), .mv (.t 20)⟩, ⟨some 125, some (123, false), .bi .neq (.t 124) (.c (.int .i64 0))⟩, ⟨some 126, none, .pk (.t 123) (.c (.bool true)) (.t 125)⟩, ⟨some 127, none, .mv (.t 126)⟩, ⟨some 128, some (127, false), .mv (.t 22)⟩, ⟨some 129, some (127, false), .bi .neq (.t 128) (.c (.int .i64 0))⟩, ⟨some 130, none, .pk (.t 127) (.c (.bool true)) (.t 129)⟩] (mkSt [(3, .msl 0 w6.1.length), (7, .u (.int .i64 y8.1)), (9, .u (.int .i64 y9.1)), (11, .u (.int .i64 y10.1)), (13, .u (.int .i64 y11.1)), (15, .u (.int .i64 y12.1)), (16, .u (.int .i64 y12.2)), (17, .u (.int .i64 y13.1)), (18, .u (.int .i64 y13.2)), (19, .u (.int .i64 y14.1)), (20, .u (.int .i64 y14.2)), (21, .u (.int .i64 y15.1)), (22, .u (.int .i64 y15.2)), (114, .u (.bool v21))] [(0, .row 1 (List.map (cInt .i64) w6.1))] 4) := by
              intro v21 e; subst e
              refine S_pure trivial (O_mv (d := .u (.bool (((((!decide (y8.2 = 0)) || (!decide (y9.2 = 0))) || (!decide (y10.2 = 0))) || (!decide (y11.2 = 0)))))) (by kernel_rfl)) ?_
              have K22 : ∀ v23 : Bool, v23 = (((((!decide (y8.2 = 0)) || (!decide (y9.2 = 0))) || (!decide (y10.2 = 0))) || (!decide (y11.2 = 0))) || (!decide (y12.2 = 0))) → Rs Try.prog 237 (retQ [2] (.bool r)) [.s q_law11_EvalFoldsAgree_18, .s q_law11_EvalFoldsAgree_41] [⟨some 119, none, .mv (.t 118)⟩, ⟨some 120, some (119, false), .mv (.t 18)⟩, ⟨some 121, some (119, false), .bi .neq (.t 120) (.c (.int .i64 0))⟩, ⟨some 122, none, .pk (.t 119) (.c (.bool true)) (.t 121)⟩, ⟨some 123, none, .mv (.t 122)⟩, ⟨some 124, some (123, false), .mv (.t 20)⟩, ⟨some 125, some (123, false), .bi .neq (.t 124) (.c (.int .i64 0))⟩, ⟨some 126, none, .pk (.t 123) (.c (.bool true)) (.t 125)⟩, ⟨some 127, none, .mv (.t 126)⟩, ⟨some 128, some (127, false), .mv (.t 22)⟩, ⟨some 129, some (127, false), .bi .neq (.t 128) (.c (.int .i64 0))⟩, ⟨some 130, none, .pk (.t 127) (.c (.bool true)) (.t 129)⟩] (mkSt [(3, .msl 0 w6.1.length), (7, .u (.int .i64 y8.1)), (9, .u (.int .i64 y9.1)), (11, .u (.int .i64 y10.1)), (13, .u (.int .i64 y11.1)), (15, .u (.int .i64 y12.1)), (17, .u (.int .i64 y13.1)), (18, .u (.int .i64 y13.2)), (19, .u (.int .i64 y14.1)), (20, .u (.int .i64 y14.2)), (21, .u (.int .i64 y15.1)), (22, .u (.int .i64 y15.2)), (118, .u (.bool v23))] [(0, .row 1 (List.map (cInt .i64) w6.1))] 4) := by
                intro v23 e; subst e
                refine S_pure trivial (O_mv (d := .u (.bool ((((((!decide (y8.2 = 0)) || (!decide (y9.2 = 0))) || (!decide (y10.2 = 0))) || (!decide (y11.2 = 0))) || (!decide (y12.2 = 0)))))) (by kernel_rfl)) ?_
                have K24 : ∀ v25 : Bool, v25 = ((((((!decide (y8.2 = 0)) || (!decide (y9.2 = 0))) || (!decide (y10.2 = 0))) || (!decide (y11.2 = 0))) || (!decide (y12.2 = 0))) || (!decide (y13.2 = 0))) → Rs Try.prog 237 (retQ [2] (.bool r)) [.s q_law11_EvalFoldsAgree_18, .s q_law11_EvalFoldsAgree_41] [⟨some 123, none, .mv (.t 122)⟩, ⟨some 124, some (123, false), .mv (.t 20)⟩, ⟨some 125, some (123, false), .bi .neq (.t 124) (.c (.int .i64 0))⟩, ⟨some 126, none, .pk (.t 123) (.c (.bool true)) (.t 125)⟩, ⟨some 127, none, .mv (.t 126)⟩, ⟨some 128, some (127, false), .mv (.t 22)⟩, ⟨some 129, some (127, false), .bi .neq (.t 128) (.c (.int .i64 0))⟩, ⟨some 130, none, .pk (.t 127) (.c (.bool true)) (.t 129)⟩] (mkSt [(3, .msl 0 w6.1.length), (7, .u (.int .i64 y8.1)), (9, .u (.int .i64 y9.1)), (11, .u (.int .i64 y10.1)), (13, .u (.int .i64 y11.1)), (15, .u (.int .i64 y12.1)), (17, .u (.int .i64 y13.1)), (19, .u (.int .i64 y14.1)), (20, .u (.int .i64 y14.2)), (21, .u (.int .i64 y15.1)), (22, .u (.int .i64 y15.2)), (122, .u (.bool v25))] [(0, .row 1 (List.map (cInt .i64) w6.1))] 4) := by
                  intro v25 e; subst e
                  refine S_pure trivial (O_mv (d := .u (.bool (((((((!decide (y8.2 = 0)) || (!decide (y9.2 = 0))) || (!decide (y10.2 = 0))) || (!decide (y11.2 = 0))) || (!decide (y12.2 = 0))) || (!decide (y13.2 = 0)))))) (by kernel_rfl)) ?_
                  have K26 : ∀ v27 : Bool, v27 = (((((((!decide (y8.2 = 0)) || (!decide (y9.2 = 0))) || (!decide (y10.2 = 0))) || (!decide (y11.2 = 0))) || (!decide (y12.2 = 0))) || (!decide (y13.2 = 0))) || (!decide (y14.2 = 0))) → Rs Try.prog 237 (retQ [2] (.bool r)) [.s q_law11_EvalFoldsAgree_18, .s q_law11_EvalFoldsAgree_41] [⟨some 127, none, .mv (.t 126)⟩, ⟨some 128, some (127, false), .mv (.t 22)⟩, ⟨some 129, some (127, false), .bi .neq (.t 128) (.c (.int .i64 0))⟩, ⟨some 130, none, .pk (.t 127) (.c (.bool true)) (.t 129)⟩] (mkSt [(3, .msl 0 w6.1.length), (7, .u (.int .i64 y8.1)), (9, .u (.int .i64 y9.1)), (11, .u (.int .i64 y10.1)), (13, .u (.int .i64 y11.1)), (15, .u (.int .i64 y12.1)), (17, .u (.int .i64 y13.1)), (19, .u (.int .i64 y14.1)), (21, .u (.int .i64 y15.1)), (22, .u (.int .i64 y15.2)), (126, .u (.bool v27))] [(0, .row 1 (List.map (cInt .i64) w6.1))] 4) := by
                    intro v27 e; subst e
                    refine S_pure trivial (O_mv (d := .u (.bool ((((((((!decide (y8.2 = 0)) || (!decide (y9.2 = 0))) || (!decide (y10.2 = 0))) || (!decide (y11.2 = 0))) || (!decide (y12.2 = 0))) || (!decide (y13.2 = 0))) || (!decide (y14.2 = 0)))))) (by kernel_rfl)) ?_
                    have K28 : ∀ v29 : Bool, v29 = ((((((((!decide (y8.2 = 0)) || (!decide (y9.2 = 0))) || (!decide (y10.2 = 0))) || (!decide (y11.2 = 0))) || (!decide (y12.2 = 0))) || (!decide (y13.2 = 0))) || (!decide (y14.2 = 0))) || (!decide (y15.2 = 0))) → Rs Try.prog 237 (retQ [2] (.bool r)) [.s q_law11_EvalFoldsAgree_18, .s q_law11_EvalFoldsAgree_41] [] (mkSt [(3, .msl 0 w6.1.length), (7, .u (.int .i64 y8.1)), (9, .u (.int .i64 y9.1)), (11, .u (.int .i64 y10.1)), (13, .u (.int .i64 y11.1)), (15, .u (.int .i64 y12.1)), (17, .u (.int .i64 y13.1)), (19, .u (.int .i64 y14.1)), (21, .u (.int .i64 y15.1)), (130, .u (.bool v29))] [(0, .row 1 (List.map (cInt .i64) w6.1))] 4) := by
                      intro v29 e; subst e
                      refine Rs_nil ?_
                      refine N_s ?_
                      refine R_cond (c := ((((((((!decide (y8.2 = 0)) || (!decide (y9.2 = 0))) || (!decide (y10.2 = 0))) || (!decide (y11.2 = 0))) || (!decide (y12.2 = 0))) || (!decide (y13.2 = 0))) || (!decide (y14.2 = 0))) || (!decide (y15.2 = 0)))) (by kernel_rfl) h (fun h => ?_) (fun h => ?_)
                      · refine R_seq ?_
                        refine R_reg ?_
                        refine S_pure trivial (O_mv (d := .u (.bool false)) (by kernel_rfl)) ?_
                        refine Rs_nil ?_
                        refine N_s ?_
                        obtain rfl := (Option.some.inj h)
                        refine R_ret ?_
                        exact Q_ret (x := .bool false) (by kernel_rfl) (.refl _)
                      · refine R_skip ?_
                        refine N_s ?_
                        refine R_seq ?_
                        refine R_reg ?_
                        refine S_pure trivial (O_mv (d := .u (.int .i64 0)) (by kernel_rfl)) ?_
                        refine S_pure trivial (O_mv (d := .u (.int .i64 ((-1)))) (by kernel_rfl)) ?_
                        refine S_pure trivial (O_mv (d := .u (.bool false)) (by kernel_rfl)) ?_
                        refine S_pure trivial (O_mv (d := .u (.bool false)) (by kernel_rfl)) ?_
                        refine S_pure trivial (O_mv (d := .u (.int .i64 0)) (by kernel_rfl)) ?_
                        refine Rs_nil ?_
                        refine N_s ?_
                        refine R_seq ?_
                        refine R_seq ?_
                        refine R_reg ?_
                        refine S_pure trivial (O_mv (d := .u (.int .i64 0)) (by kernel_rfl)) ?_
                        refine Rs_nil ?_
                        refine N_s ?_
                        refine R_block ?_
                        obtain ⟨o30, hE, h⟩ := bindS h
                        have K33 : ∀ (w32 : Int × Int × Bool × Bool × Int), (Sum.inl w32) = o30 → Run Try.prog 237 (retQ [2] (.bool r)) [] q_law11_EvalFoldsAgree_10 (mkSt [(3, .msl 0 w6.1.length), (7, .u (.int .i64 y8.1)), (9, .u (.int .i64 y9.1)), (11, .u (.int .i64 y10.1)), (13, .u (.int .i64 y11.1)), (17, .u (.int .i64 y13.1)), (19, .u (.int .i64 y14.1)), (21, .u (.int .i64 y15.1)), (23, .u (.int .i64 w32.1)), (24, .u (.int .i64 w32.2.1)), (25, .u (.bool w32.2.2.1)), (26, .u (.bool w32.2.2.2.1)), (27, .u (.int .i64 w32.2.2.2.2))] [(0, .row 1 (List.map (cInt .i64) w6.1))] 4) := by
                          intro w32 e; subst e
                          replace h := elimL h
                          refine R_seq ?_
                          refine R_reg ?_
                          obtain ⟨y34, hy34, h⟩ := bindS h
                          refine S_pure trivial (O_ca (us := []) (r := .bool y34) (by kernel_rfl) (law11_awake.ok hy34)) ?_
                          refine S_pure trivial (O_mv (d := .u (.bool y34)) (by kernel_rfl)) ?_
                          have K35 : ∀ v36 : Bool, v36 = (y34 && (decide ((IntKind.i64.wrap (y8.1 + y9.1)) = 1))) → Rs Try.prog 237 (retQ [2] (.bool r)) [.s .ret] [⟨some 202, none, .mv (.t 201)⟩, ⟨some 203, some (202, true), .mv (.t 11)⟩, ⟨some 204, some (202, true), .mv (.t 24)⟩, ⟨some 205, some (202, true), .bi .eql (.t 203) (.t 204)⟩, ⟨some 206, none, .pk (.t 202) (.t 205) (.c (.bool false))⟩, ⟨some 207, none, .mv (.t 206)⟩, ⟨some 208, some (207, true), .mv (.t 13)⟩, ⟨some 209, some (207, true), .mv (.t 23)⟩, ⟨some 210, some (207, true), .bi .eql (.t 208) (.t 209)⟩, ⟨some 211, none, .pk (.t 207) (.t 210) (.c (.bool false))⟩, ⟨some 212, none, .mv (.t 211)⟩, ⟨some 213, some (212, true), .mv (.t 25)⟩, ⟨some 214, none, .pk (.t 212) (.t 213) (.c (.bool false))⟩, ⟨some 215, none, .mv (.t 214)⟩, ⟨some 216, some (215, true), .mv (.t 26)⟩, ⟨some 217, none, .pk (.t 215) (.t 216) (.c (.bool false))⟩, ⟨some 218, none, .mv (.t 217)⟩, ⟨some 219, some (218, true), .mv (.t 27)⟩, ⟨some 220, some (218, true), .bi .leq (.t 219) (.c (.int .i64 1))⟩, ⟨some 221, none, .pk (.t 218) (.t 220) (.c (.bool false))⟩, ⟨some 222, none, .mv (.t 221)⟩, ⟨some 223, some (222, true), .mv (.t 19)⟩, ⟨some 224, some (222, true), .mv (.t 17)⟩, ⟨some 225, some (222, true), .bi .leq (.t 223) (.t 224)⟩, ⟨some 226, none, .pk (.t 222) (.t 225) (.c (.bool false))⟩, ⟨some 227, none, .mv (.t 226)⟩, ⟨some 228, some (227, true), .mv (.t 21)⟩, ⟨some 229, some (227, true), .bi .geq (.t 228) (.c (.int .i64 0))⟩, ⟨some 230, none, .pk (.t 227) (.t 229) (.c (.bool false))⟩, ⟨some 231, none, .mv (.t 230)⟩, ⟨some 232, some (231, true), .mv (.t 21)⟩, ⟨some 233, some (231, true), .mv (.t 3)⟩, ⟨some 234, some (231, true), .ln (.t 233)⟩, ⟨some 235, some (231, true), .bi .leq (.t 232) (.t 234)⟩, ⟨some 236, none, .pk (.t 231) (.t 235) (.c (.bool false))⟩, ⟨some 2, none, .mv (.t 236)⟩] (mkSt [(3, .msl 0 w6.1.length), (11, .u (.int .i64 y10.1)), (13, .u (.int .i64 y11.1)), (17, .u (.int .i64 y13.1)), (19, .u (.int .i64 y14.1)), (21, .u (.int .i64 y15.1)), (23, .u (.int .i64 w32.1)), (24, .u (.int .i64 w32.2.1)), (25, .u (.bool w32.2.2.1)), (26, .u (.bool w32.2.2.2.1)), (27, .u (.int .i64 w32.2.2.2.2)), (201, .u (.bool v36))] [(0, .row 1 (List.map (cInt .i64) w6.1))] 4) := by
                            intro v36 e; subst e
                            refine S_pure trivial (O_mv (d := .u (.bool ((y34 && (decide ((IntKind.i64.wrap (y8.1 + y9.1)) = 1)))))) (by kernel_rfl)) ?_
                            have K37 : ∀ v38 : Bool, v38 = ((y34 && (decide ((IntKind.i64.wrap (y8.1 + y9.1)) = 1))) && (decide (y10.1 = w32.2.1))) → Rs Try.prog 237 (retQ [2] (.bool r)) [.s .ret] [⟨some 207, none, .mv (.t 206)⟩, ⟨some 208, some (207, true), .mv (.t 13)⟩, ⟨some 209, some (207, true), .mv (.t 23)⟩, ⟨some 210, some (207, true), .bi .eql (.t 208) (.t 209)⟩, ⟨some 211, none, .pk (.t 207) (.t 210) (.c (.bool false))⟩, ⟨some 212, none, .mv (.t 211)⟩, ⟨some 213, some (212, true), .mv (.t 25)⟩, ⟨some 214, none, .pk (.t 212) (.t 213) (.c (.bool false))⟩, ⟨some 215, none, .mv (.t 214)⟩, ⟨some 216, some (215, true), .mv (.t 26)⟩, ⟨some 217, none, .pk (.t 215) (.t 216) (.c (.bool false))⟩, ⟨some 218, none, .mv (.t 217)⟩, ⟨some 219, some (218, true), .mv (.t 27)⟩, ⟨some 220, some (218, true), .bi .leq (.t 219) (.c (.int .i64 1))⟩, ⟨some 221, none, .pk (.t 218) (.t 220) (.c (.bool false))⟩, ⟨some 222, none, .mv (.t 221)⟩, ⟨some 223, some (222, true), .mv (.t 19)⟩, ⟨some 224, some (222, true), .mv (.t 17)⟩, ⟨some 225, some (222, true), .bi .leq (.t 223) (.t 224)⟩, ⟨some 226, none, .pk (.t 222) (.t 225) (.c (.bool false))⟩, ⟨some 227, none, .mv (.t 226)⟩, ⟨some 228, some (227, true), .mv (.t 21)⟩, ⟨some 229, some (227, true), .bi .geq (.t 228) (.c (.int .i64 0))⟩, ⟨some 230, none, .pk (.t 227) (.t 229) (.c (.bool false))⟩, ⟨some 231, none, .mv (.t 230)⟩, ⟨some 232, some (231, true), .mv (.t 21)⟩, ⟨some 233, some (231, true), .mv (.t 3)⟩, ⟨some 234, some (231, true), .ln (.t 233)⟩, ⟨some 235, some (231, true), .bi .leq (.t 232) (.t 234)⟩, ⟨some 236, none, .pk (.t 231) (.t 235) (.c (.bool false))⟩, ⟨some 2, none, .mv (.t 236)⟩] (mkSt [(3, .msl 0 w6.1.length), (13, .u (.int .i64 y11.1)), (17, .u (.int .i64 y13.1)), (19, .u (.int .i64 y14.1)), (21, .u (.int .i64 y15.1)), (23, .u (.int .i64 w32.1)), (25, .u (.bool w32.2.2.1)), (26, .u (.bool w32.2.2.2.1)), (27, .u (.int .i64 w32.2.2.2.2)), (206, .u (.bool v38))] [(0, .row 1 (List.map (cInt .i64) w6.1))] 4) := by
                              intro v38 e; subst e
                              refine S_pure trivial (O_mv (d := .u (.bool (((y34 && (decide ((IntKind.i64.wrap (y8.1 + y9.1)) = 1))) && (decide (y10.1 = w32.2.1)))))) (by kernel_rfl)) ?_
                              have K39 : ∀ v40 : Bool, v40 = (((y34 && (decide ((IntKind.i64.wrap (y8.1 + y9.1)) = 1))) && (decide (y10.1 = w32.2.1))) && (decide (y11.1 = w32.1))) → Rs Try.prog 237 (retQ [2] (.bool r)) [.s .ret] [⟨some 212, none, .mv (.t 211)⟩, ⟨some 213, some (212, true), .mv (.t 25)⟩, ⟨some 214, none, .pk (.t 212) (.t 213) (.c (.bool false))⟩, ⟨some 215, none, .mv (.t 214)⟩, ⟨some 216, some (215, true), .mv (.t 26)⟩, ⟨some 217, none, .pk (.t 215) (.t 216) (.c (.bool false))⟩, ⟨some 218, none, .mv (.t 217)⟩, ⟨some 219, some (218, true), .mv (.t 27)⟩, ⟨some 220, some (218, true), .bi .leq (.t 219) (.c (.int .i64 1))⟩, ⟨some 221, none, .pk (.t 218) (.t 220) (.c (.bool false))⟩, ⟨some 222, none, .mv (.t 221)⟩, ⟨some 223, some (222, true), .mv (.t 19)⟩, ⟨some 224, some (222, true), .mv (.t 17)⟩, ⟨some 225, some (222, true), .bi .leq (.t 223) (.t 224)⟩, ⟨some 226, none, .pk (.t 222) (.t 225) (.c (.bool false))⟩, ⟨some 227, none, .mv (.t 226)⟩, ⟨some 228, some (227, true), .mv (.t 21)⟩, ⟨some 229, some (227, true), .bi .geq (.t 228) (.c (.int .i64 0))⟩, ⟨some 230, none, .pk (.t 227) (.t 229) (.c (.bool false))⟩, ⟨some 231, none, .mv (.t 230)⟩, ⟨some 232, some (231, true), .mv (.t 21)⟩, ⟨some 233, some (231, true), .mv (.t 3)⟩, ⟨some 234, some (231, true), .ln (.t 233)⟩, ⟨some 235, some (231, true), .bi .leq (.t 232) (.t 234)⟩, ⟨some 236, none, .pk (.t 231) (.t 235) (.c (.bool false))⟩, ⟨some 2, none, .mv (.t 236)⟩] (mkSt [(3, .msl 0 w6.1.length), (17, .u (.int .i64 y13.1)), (19, .u (.int .i64 y14.1)), (21, .u (.int .i64 y15.1)), (25, .u (.bool w32.2.2.1)), (26, .u (.bool w32.2.2.2.1)), (27, .u (.int .i64 w32.2.2.2.2)), (211, .u (.bool v40))] [(0, .row 1 (List.map (cInt .i64) w6.1))] 4) := by
                                intro v40 e; subst e
                                refine S_pure trivial (O_mv (d := .u (.bool ((((y34 && (decide ((IntKind.i64.wrap (y8.1 + y9.1)) = 1))) && (decide (y10.1 = w32.2.1))) && (decide (y11.1 = w32.1)))))) (by kernel_rfl)) ?_
                                have K41 : ∀ v42 : Bool, v42 = ((((y34 && (decide ((IntKind.i64.wrap (y8.1 + y9.1)) = 1))) && (decide (y10.1 = w32.2.1))) && (decide (y11.1 = w32.1))) && w32.2.2.1) → Rs Try.prog 237 (retQ [2] (.bool r)) [.s .ret] [⟨some 215, none, .mv (.t 214)⟩, ⟨some 216, some (215, true), .mv (.t 26)⟩, ⟨some 217, none, .pk (.t 215) (.t 216) (.c (.bool false))⟩, ⟨some 218, none, .mv (.t 217)⟩, ⟨some 219, some (218, true), .mv (.t 27)⟩, ⟨some 220, some (218, true), .bi .leq (.t 219) (.c (.int .i64 1))⟩, ⟨some 221, none, .pk (.t 218) (.t 220) (.c (.bool false))⟩, ⟨some 222, none, .mv (.t 221)⟩, ⟨some 223, some (222, true), .mv (.t 19)⟩, ⟨some 224, some (222, true), .mv (.t 17)⟩, ⟨some 225, some (222, true), .bi .leq (.t 223) (.t 224)⟩, ⟨some 226, none, .pk (.t 222) (.t 225) (.c (.bool false))⟩, ⟨some 227, none, .mv (.t 226)⟩, ⟨some 228, some (227, true), .mv (.t 21)⟩, ⟨some 229, some (227, true), .bi .geq (.t 228) (.c (.int .i64 0))⟩, ⟨some 230, none, .pk (.t 227) (.t 229) (.c (.bool false))⟩, ⟨some 231, none, .mv (.t 230)⟩, ⟨some 232, some (231, true), .mv (.t 21)⟩, ⟨some 233, some (231, true), .mv (.t 3)⟩, ⟨some 234, some (231, true), .ln (.t 233)⟩, ⟨some 235, some (231, true), .bi .leq (.t 232) (.t 234)⟩, ⟨some 236, none, .pk (.t 231) (.t 235) (.c (.bool false))⟩, ⟨some 2, none, .mv (.t 236)⟩] (mkSt [(3, .msl 0 w6.1.length), (17, .u (.int .i64 y13.1)), (19, .u (.int .i64 y14.1)), (21, .u (.int .i64 y15.1)), (26, .u (.bool w32.2.2.2.1)), (27, .u (.int .i64 w32.2.2.2.2)), (214, .u (.bool v42))] [(0, .row 1 (List.map (cInt .i64) w6.1))] 4) := by
                                  intro v42 e; subst e
                                  refine S_pure trivial (O_mv (d := .u (.bool (((((y34 && (decide ((IntKind.i64.wrap (y8.1 + y9.1)) = 1))) && (decide (y10.1 = w32.2.1))) && (decide (y11.1 = w32.1))) && w32.2.2.1)))) (by kernel_rfl)) ?_
                                  have K43 : ∀ v44 : Bool, v44 = (((((y34 && (decide ((IntKind.i64.wrap (y8.1 + y9.1)) = 1))) && (decide (y10.1 = w32.2.1))) && (decide (y11.1 = w32.1))) && w32.2.2.1) && w32.2.2.2.1) → Rs Try.prog 237 (retQ [2] (.bool r)) [.s .ret] [⟨some 218, none, .mv (.t 217)⟩, ⟨some 219, some (218, true), .mv (.t 27)⟩, ⟨some 220, some (218, true), .bi .leq (.t 219) (.c (.int .i64 1))⟩, ⟨some 221, none, .pk (.t 218) (.t 220) (.c (.bool false))⟩, ⟨some 222, none, .mv (.t 221)⟩, ⟨some 223, some (222, true), .mv (.t 19)⟩, ⟨some 224, some (222, true), .mv (.t 17)⟩, ⟨some 225, some (222, true), .bi .leq (.t 223) (.t 224)⟩, ⟨some 226, none, .pk (.t 222) (.t 225) (.c (.bool false))⟩, ⟨some 227, none, .mv (.t 226)⟩, ⟨some 228, some (227, true), .mv (.t 21)⟩, ⟨some 229, some (227, true), .bi .geq (.t 228) (.c (.int .i64 0))⟩, ⟨some 230, none, .pk (.t 227) (.t 229) (.c (.bool false))⟩, ⟨some 231, none, .mv (.t 230)⟩, ⟨some 232, some (231, true), .mv (.t 21)⟩, ⟨some 233, some (231, true), .mv (.t 3)⟩, ⟨some 234, some (231, true), .ln (.t 233)⟩, ⟨some 235, some (231, true), .bi .leq (.t 232) (.t 234)⟩, ⟨some 236, none, .pk (.t 231) (.t 235) (.c (.bool false))⟩, ⟨some 2, none, .mv (.t 236)⟩] (mkSt [(3, .msl 0 w6.1.length), (17, .u (.int .i64 y13.1)), (19, .u (.int .i64 y14.1)), (21, .u (.int .i64 y15.1)), (27, .u (.int .i64 w32.2.2.2.2)), (217, .u (.bool v44))] [(0, .row 1 (List.map (cInt .i64) w6.1))] 4) := by
                                    intro v44 e; subst e
                                    refine S_pure trivial (O_mv (d := .u (.bool ((((((y34 && (decide ((IntKind.i64.wrap (y8.1 + y9.1)) = 1))) && (decide (y10.1 = w32.2.1))) && (decide (y11.1 = w32.1))) && w32.2.2.1) && w32.2.2.2.1)))) (by kernel_rfl)) ?_
                                    have K45 : ∀ v46 : Bool, v46 = ((((((y34 && (decide ((IntKind.i64.wrap (y8.1 + y9.1)) = 1))) && (decide (y10.1 = w32.2.1))) && (decide (y11.1 = w32.1))) && w32.2.2.1) && w32.2.2.2.1) && (decide (w32.2.2.2.2 ≤ 1))) → Rs Try.prog 237 (retQ [2] (.bool r)) [.s .ret] [⟨some 222, none, .mv (.t 221)⟩, ⟨some 223, some (222, true), .mv (.t 19)⟩, ⟨some 224, some (222, true), .mv (.t 17)⟩, ⟨some 225, some (222, true), .bi .leq (.t 223) (.t 224)⟩, ⟨some 226, none, .pk (.t 222) (.t 225) (.c (.bool false))⟩, ⟨some 227, none, .mv (.t 226)⟩, ⟨some 228, some (227, true), .mv (.t 21)⟩, ⟨some 229, some (227, true), .bi .geq (.t 228) (.c (.int .i64 0))⟩, ⟨some 230, none, .pk (.t 227) (.t 229) (.c (.bool false))⟩, ⟨some 231, none, .mv (.t 230)⟩, ⟨some 232, some (231, true), .mv (.t 21)⟩, ⟨some 233, some (231, true), .mv (.t 3)⟩, ⟨some 234, some (231, true), .ln (.t 233)⟩, ⟨some 235, some (231, true), .bi .leq (.t 232) (.t 234)⟩, ⟨some 236, none, .pk (.t 231) (.t 235) (.c (.bool false))⟩, ⟨some 2, none, .mv (.t 236)⟩] (mkSt [(3, .msl 0 w6.1.length), (17, .u (.int .i64 y13.1)), (19, .u (.int .i64 y14.1)), (21, .u (.int .i64 y15.1)), (221, .u (.bool v46))] [(0, .row 1 (List.map (cInt .i64) w6.1))] 4) := by
                                      intro v46 e; subst e
                                      refine S_pure trivial (O_mv (d := .u (.bool (((((((y34 && (decide ((IntKind.i64.wrap (y8.1 + y9.1)) = 1))) && (decide (y10.1 = w32.2.1))) && (decide (y11.1 = w32.1))) && w32.2.2.1) && w32.2.2.2.1) && (decide (w32.2.2.2.2 ≤ 1)))))) (by kernel_rfl)) ?_
                                      have K47 : ∀ v48 : Bool, v48 = (((((((y34 && (decide ((IntKind.i64.wrap (y8.1 + y9.1)) = 1))) && (decide (y10.1 = w32.2.1))) && (decide (y11.1 = w32.1))) && w32.2.2.1) && w32.2.2.2.1) && (decide (w32.2.2.2.2 ≤ 1))) && (decide (y14.1 ≤ y13.1))) → Rs Try.prog 237 (retQ [2] (.bool r)) [.s .ret] [⟨some 227, none, .mv (.t 226)⟩, ⟨some 228, some (227, true), .mv (.t 21)⟩, ⟨some 229, some (227, true), .bi .geq (.t 228) (.c (.int .i64 0))⟩, ⟨some 230, none, .pk (.t 227) (.t 229) (.c (.bool false))⟩, ⟨some 231, none, .mv (.t 230)⟩, ⟨some 232, some (231, true), .mv (.t 21)⟩, ⟨some 233, some (231, true), .mv (.t 3)⟩, ⟨some 234, some (231, true), .ln (.t 233)⟩, ⟨some 235, some (231, true), .bi .leq (.t 232) (.t 234)⟩, ⟨some 236, none, .pk (.t 231) (.t 235) (.c (.bool false))⟩, ⟨some 2, none, .mv (.t 236)⟩] (mkSt [(3, .msl 0 w6.1.length), (21, .u (.int .i64 y15.1)), (226, .u (.bool v48))] [(0, .row 1 (List.map (cInt .i64) w6.1))] 4) := by
                                        intro v48 e; subst e
                                        refine S_pure trivial (O_mv (d := .u (.bool ((((((((y34 && (decide ((IntKind.i64.wrap (y8.1 + y9.1)) = 1))) && (decide (y10.1 = w32.2.1))) && (decide (y11.1 = w32.1))) && w32.2.2.1) && w32.2.2.2.1) && (decide (w32.2.2.2.2 ≤ 1))) && (decide (y14.1 ≤ y13.1)))))) (by kernel_rfl)) ?_
                                        have K49 : ∀ v50 : Bool, v50 = ((((((((y34 && (decide ((IntKind.i64.wrap (y8.1 + y9.1)) = 1))) && (decide (y10.1 = w32.2.1))) && (decide (y11.1 = w32.1))) && w32.2.2.1) && w32.2.2.2.1) && (decide (w32.2.2.2.2 ≤ 1))) && (decide (y14.1 ≤ y13.1))) && (decide (0 ≤ y15.1))) → Rs Try.prog 237 (retQ [2] (.bool r)) [.s .ret] [⟨some 231, none, .mv (.t 230)⟩, ⟨some 232, some (231, true), .mv (.t 21)⟩, ⟨some 233, some (231, true), .mv (.t 3)⟩, ⟨some 234, some (231, true), .ln (.t 233)⟩, ⟨some 235, some (231, true), .bi .leq (.t 232) (.t 234)⟩, ⟨some 236, none, .pk (.t 231) (.t 235) (.c (.bool false))⟩, ⟨some 2, none, .mv (.t 236)⟩] (mkSt [(3, .msl 0 w6.1.length), (21, .u (.int .i64 y15.1)), (230, .u (.bool v50))] [(0, .row 1 (List.map (cInt .i64) w6.1))] 4) := by
                                          intro v50 e; subst e
                                          refine S_pure trivial (O_mv (d := .u (.bool (((((((((y34 && (decide ((IntKind.i64.wrap (y8.1 + y9.1)) = 1))) && (decide (y10.1 = w32.2.1))) && (decide (y11.1 = w32.1))) && w32.2.2.1) && w32.2.2.2.1) && (decide (w32.2.2.2.2 ≤ 1))) && (decide (y14.1 ≤ y13.1))) && (decide (0 ≤ y15.1)))))) (by kernel_rfl)) ?_
                                          have K51 : ∀ v52 : Bool, v52 = (((((((((y34 && (decide ((IntKind.i64.wrap (y8.1 + y9.1)) = 1))) && (decide (y10.1 = w32.2.1))) && (decide (y11.1 = w32.1))) && w32.2.2.1) && w32.2.2.2.1) && (decide (w32.2.2.2.2 ≤ 1))) && (decide (y14.1 ≤ y13.1))) && (decide (0 ≤ y15.1))) && (decide (y15.1 ≤ (w6.1.length : Int)))) → Rs Try.prog 237 (retQ [2] (.bool r)) [.s .ret] [⟨some 2, none, .mv (.t 236)⟩] (mkSt [(236, .u (.bool v52))] [] 4) := by
                                            intro v52 e; subst e
                                            refine S_pure trivial (O_mv (d := .u (.bool ((((((((((y34 && (decide ((IntKind.i64.wrap (y8.1 + y9.1)) = 1))) && (decide (y10.1 = w32.2.1))) && (decide (y11.1 = w32.1))) && w32.2.2.1) && w32.2.2.2.1) && (decide (w32.2.2.2.2 ≤ 1))) && (decide (y14.1 ≤ y13.1))) && (decide (0 ≤ y15.1))) && (decide (y15.1 ≤ (w6.1.length : Int))))))) (by kernel_rfl)) ?_
                                            refine Rs_nil ?_
                                            refine N_s ?_
                                            obtain rfl := (Option.some.inj h)
                                            refine R_ret ?_
                                            exact Q_ret (x := .bool ((((((((((y34 && (decide ((IntKind.i64.wrap (y8.1 + y9.1)) = 1))) && (decide (y10.1 = w32.2.1))) && (decide (y11.1 = w32.1))) && w32.2.2.1) && w32.2.2.2.1) && (decide (w32.2.2.2.2 ≤ 1))) && (decide (y14.1 ≤ y13.1))) && (decide (0 ≤ y15.1))) && (decide (y15.1 ≤ (w6.1.length : Int)))))) (by kernel_rfl) (.refl _)
                                          refine S_case0 (t := 231) (c := ((((((((y34 && (decide ((IntKind.i64.wrap (y8.1 + y9.1)) = 1))) && (decide (y10.1 = w32.2.1))) && (decide (y11.1 = w32.1))) && w32.2.2.1) && w32.2.2.2.1) && (decide (w32.2.2.2.2 ≤ 1))) && (decide (y14.1 ≤ y13.1))) && (decide (0 ≤ y15.1)))) (by kernel_rfl) (fun hc => ?_) (fun hc => ?_)
                                          · refine S_pure (by show _ = _; kernel_rfl) (O_mv (d := .u (.int .i64 y15.1)) (by kernel_rfl)) ?_
                                            refine S_pure (by show _ = _; kernel_rfl) (O_mv (d := .msl 0 w6.1.length) (by kernel_rfl)) ?_
                                            refine S_pure (by show _ = _; kernel_rfl) (O_lnm (b := 0) (m := w6.1.length) (by kernel_rfl)) ?_
                                            refine S_pure (by show _ = _; kernel_rfl) (O_leq (k := .i64) (a := y15.1) (b := (w6.1.length : Int)) (by kernel_rfl) (by kernel_rfl)) ?_
                                            refine S_pure trivial (O_pkt (d := .u (.bool ((decide (y15.1 ≤ (w6.1.length : Int)))))) (by kernel_rfl) (by kernel_rfl)) ?_
                                            exact Rs_weak (W_to (by kernel_rfl) (by kernel_rfl) (by kernel_rfl)) (K51 _ (by rw [hc] <;> rfl))
                                          · refine S_skip (b := false) (by kernel_rfl) rfl ?_
                                            refine S_skip (b := false) (by kernel_rfl) rfl ?_
                                            refine S_skip (b := false) (by kernel_rfl) rfl ?_
                                            refine S_skip (b := false) (by kernel_rfl) rfl ?_
                                            refine S_pure trivial (O_pkf (d := .u (.bool false)) (by kernel_rfl) (by kernel_rfl)) ?_
                                            exact Rs_weak (W_to (by kernel_rfl) (by kernel_rfl) (by kernel_rfl)) (K51 _ (by rw [hc] <;> rfl))
                                        refine S_case0 (t := 227) (c := (((((((y34 && (decide ((IntKind.i64.wrap (y8.1 + y9.1)) = 1))) && (decide (y10.1 = w32.2.1))) && (decide (y11.1 = w32.1))) && w32.2.2.1) && w32.2.2.2.1) && (decide (w32.2.2.2.2 ≤ 1))) && (decide (y14.1 ≤ y13.1)))) (by kernel_rfl) (fun hc => ?_) (fun hc => ?_)
                                        · refine S_pure (by show _ = _; kernel_rfl) (O_mv (d := .u (.int .i64 y15.1)) (by kernel_rfl)) ?_
                                          refine S_pure (by show _ = _; kernel_rfl) (O_geq (k := .i64) (a := y15.1) (b := 0) (by kernel_rfl) (by kernel_rfl)) ?_
                                          refine S_pure trivial (O_pkt (d := .u (.bool ((decide (0 ≤ y15.1))))) (by kernel_rfl) (by kernel_rfl)) ?_
                                          exact Rs_weak (W_to (by kernel_rfl) (by kernel_rfl) (by kernel_rfl)) (K49 _ (by rw [hc] <;> rfl))
                                        · refine S_skip (b := false) (by kernel_rfl) rfl ?_
                                          refine S_skip (b := false) (by kernel_rfl) rfl ?_
                                          refine S_pure trivial (O_pkf (d := .u (.bool false)) (by kernel_rfl) (by kernel_rfl)) ?_
                                          exact Rs_weak (W_to (by kernel_rfl) (by kernel_rfl) (by kernel_rfl)) (K49 _ (by rw [hc] <;> rfl))
                                      refine S_case0 (t := 222) (c := ((((((y34 && (decide ((IntKind.i64.wrap (y8.1 + y9.1)) = 1))) && (decide (y10.1 = w32.2.1))) && (decide (y11.1 = w32.1))) && w32.2.2.1) && w32.2.2.2.1) && (decide (w32.2.2.2.2 ≤ 1)))) (by kernel_rfl) (fun hc => ?_) (fun hc => ?_)
                                      · refine S_pure (by show _ = _; kernel_rfl) (O_mv (d := .u (.int .i64 y14.1)) (by kernel_rfl)) ?_
                                        refine S_pure (by show _ = _; kernel_rfl) (O_mv (d := .u (.int .i64 y13.1)) (by kernel_rfl)) ?_
                                        refine S_pure (by show _ = _; kernel_rfl) (O_leq (k := .i64) (a := y14.1) (b := y13.1) (by kernel_rfl) (by kernel_rfl)) ?_
                                        refine S_pure trivial (O_pkt (d := .u (.bool ((decide (y14.1 ≤ y13.1))))) (by kernel_rfl) (by kernel_rfl)) ?_
                                        exact Rs_weak (W_to (by kernel_rfl) (by kernel_rfl) (by kernel_rfl)) (K47 _ (by rw [hc] <;> rfl))
                                      · refine S_skip (b := false) (by kernel_rfl) rfl ?_
                                        refine S_skip (b := false) (by kernel_rfl) rfl ?_
                                        refine S_skip (b := false) (by kernel_rfl) rfl ?_
                                        refine S_pure trivial (O_pkf (d := .u (.bool false)) (by kernel_rfl) (by kernel_rfl)) ?_
                                        exact Rs_weak (W_to (by kernel_rfl) (by kernel_rfl) (by kernel_rfl)) (K47 _ (by rw [hc] <;> rfl))
                                    refine S_case0 (t := 218) (c := (((((y34 && (decide ((IntKind.i64.wrap (y8.1 + y9.1)) = 1))) && (decide (y10.1 = w32.2.1))) && (decide (y11.1 = w32.1))) && w32.2.2.1) && w32.2.2.2.1)) (by kernel_rfl) (fun hc => ?_) (fun hc => ?_)
                                    · refine S_pure (by show _ = _; kernel_rfl) (O_mv (d := .u (.int .i64 w32.2.2.2.2)) (by kernel_rfl)) ?_
                                      refine S_pure (by show _ = _; kernel_rfl) (O_leq (k := .i64) (a := w32.2.2.2.2) (b := 1) (by kernel_rfl) (by kernel_rfl)) ?_
                                      refine S_pure trivial (O_pkt (d := .u (.bool ((decide (w32.2.2.2.2 ≤ 1))))) (by kernel_rfl) (by kernel_rfl)) ?_
                                      exact Rs_weak (W_to (by kernel_rfl) (by kernel_rfl) (by kernel_rfl)) (K45 _ (by rw [hc] <;> rfl))
                                    · refine S_skip (b := false) (by kernel_rfl) rfl ?_
                                      refine S_skip (b := false) (by kernel_rfl) rfl ?_
                                      refine S_pure trivial (O_pkf (d := .u (.bool false)) (by kernel_rfl) (by kernel_rfl)) ?_
                                      exact Rs_weak (W_to (by kernel_rfl) (by kernel_rfl) (by kernel_rfl)) (K45 _ (by rw [hc] <;> rfl))
                                  refine S_case0 (t := 215) (c := ((((y34 && (decide ((IntKind.i64.wrap (y8.1 + y9.1)) = 1))) && (decide (y10.1 = w32.2.1))) && (decide (y11.1 = w32.1))) && w32.2.2.1)) (by kernel_rfl) (fun hc => ?_) (fun hc => ?_)
                                  · refine S_pure (by show _ = _; kernel_rfl) (O_mv (d := .u (.bool w32.2.2.2.1)) (by kernel_rfl)) ?_
                                    refine S_pure trivial (O_pkt (d := .u (.bool w32.2.2.2.1)) (by kernel_rfl) (by kernel_rfl)) ?_
                                    exact Rs_weak (W_to (by kernel_rfl) (by kernel_rfl) (by kernel_rfl)) (K43 _ (by rw [hc] <;> rfl))
                                  · refine S_skip (b := false) (by kernel_rfl) rfl ?_
                                    refine S_pure trivial (O_pkf (d := .u (.bool false)) (by kernel_rfl) (by kernel_rfl)) ?_
                                    exact Rs_weak (W_to (by kernel_rfl) (by kernel_rfl) (by kernel_rfl)) (K43 _ (by rw [hc] <;> rfl))
                                refine S_case0 (t := 212) (c := (((y34 && (decide ((IntKind.i64.wrap (y8.1 + y9.1)) = 1))) && (decide (y10.1 = w32.2.1))) && (decide (y11.1 = w32.1)))) (by kernel_rfl) (fun hc => ?_) (fun hc => ?_)
                                · refine S_pure (by show _ = _; kernel_rfl) (O_mv (d := .u (.bool w32.2.2.1)) (by kernel_rfl)) ?_
                                  refine S_pure trivial (O_pkt (d := .u (.bool w32.2.2.1)) (by kernel_rfl) (by kernel_rfl)) ?_
                                  exact Rs_weak (W_to (by kernel_rfl) (by kernel_rfl) (by kernel_rfl)) (K41 _ (by rw [hc] <;> rfl))
                                · refine S_skip (b := false) (by kernel_rfl) rfl ?_
                                  refine S_pure trivial (O_pkf (d := .u (.bool false)) (by kernel_rfl) (by kernel_rfl)) ?_
                                  exact Rs_weak (W_to (by kernel_rfl) (by kernel_rfl) (by kernel_rfl)) (K41 _ (by rw [hc] <;> rfl))
                              refine S_case0 (t := 207) (c := ((y34 && (decide ((IntKind.i64.wrap (y8.1 + y9.1)) = 1))) && (decide (y10.1 = w32.2.1)))) (by kernel_rfl) (fun hc => ?_) (fun hc => ?_)
                              · refine S_pure (by show _ = _; kernel_rfl) (O_mv (d := .u (.int .i64 y11.1)) (by kernel_rfl)) ?_
                                refine S_pure (by show _ = _; kernel_rfl) (O_mv (d := .u (.int .i64 w32.1)) (by kernel_rfl)) ?_
                                refine S_pure (by show _ = _; kernel_rfl) (O_eql (k := .i64) (a := y11.1) (b := w32.1) (by kernel_rfl) (by kernel_rfl)) ?_
                                refine S_pure trivial (O_pkt (d := .u (.bool ((decide (y11.1 = w32.1))))) (by kernel_rfl) (by kernel_rfl)) ?_
                                exact Rs_weak (W_to (by kernel_rfl) (by kernel_rfl) (by kernel_rfl)) (K39 _ (by rw [hc] <;> rfl))
                              · refine S_skip (b := false) (by kernel_rfl) rfl ?_
                                refine S_skip (b := false) (by kernel_rfl) rfl ?_
                                refine S_skip (b := false) (by kernel_rfl) rfl ?_
                                refine S_pure trivial (O_pkf (d := .u (.bool false)) (by kernel_rfl) (by kernel_rfl)) ?_
                                exact Rs_weak (W_to (by kernel_rfl) (by kernel_rfl) (by kernel_rfl)) (K39 _ (by rw [hc] <;> rfl))
                            refine S_case0 (t := 202) (c := (y34 && (decide ((IntKind.i64.wrap (y8.1 + y9.1)) = 1)))) (by kernel_rfl) (fun hc => ?_) (fun hc => ?_)
                            · refine S_pure (by show _ = _; kernel_rfl) (O_mv (d := .u (.int .i64 y10.1)) (by kernel_rfl)) ?_
                              refine S_pure (by show _ = _; kernel_rfl) (O_mv (d := .u (.int .i64 w32.2.1)) (by kernel_rfl)) ?_
                              refine S_pure (by show _ = _; kernel_rfl) (O_eql (k := .i64) (a := y10.1) (b := w32.2.1) (by kernel_rfl) (by kernel_rfl)) ?_
                              refine S_pure trivial (O_pkt (d := .u (.bool ((decide (y10.1 = w32.2.1))))) (by kernel_rfl) (by kernel_rfl)) ?_
                              exact Rs_weak (W_to (by kernel_rfl) (by kernel_rfl) (by kernel_rfl)) (K37 _ (by rw [hc] <;> rfl))
                            · refine S_skip (b := false) (by kernel_rfl) rfl ?_
                              refine S_skip (b := false) (by kernel_rfl) rfl ?_
                              refine S_skip (b := false) (by kernel_rfl) rfl ?_
                              refine S_pure trivial (O_pkf (d := .u (.bool false)) (by kernel_rfl) (by kernel_rfl)) ?_
                              exact Rs_weak (W_to (by kernel_rfl) (by kernel_rfl) (by kernel_rfl)) (K37 _ (by rw [hc] <;> rfl))
                          refine S_case0 (t := 196) (c := y34) (by kernel_rfl) (fun hc => ?_) (fun hc => ?_)
                          · refine S_pure (by show _ = _; kernel_rfl) (O_mv (d := .u (.int .i64 y8.1)) (by kernel_rfl)) ?_
                            refine S_pure (by show _ = _; kernel_rfl) (O_mv (d := .u (.int .i64 y9.1)) (by kernel_rfl)) ?_
                            refine S_pure (by show _ = _; kernel_rfl) (O_add (k := .i64) (a := y8.1) (b := y9.1) (by kernel_rfl) (by kernel_rfl)) ?_
                            refine S_pure (by show _ = _; kernel_rfl) (O_eql (k := .i64) (a := (IntKind.i64.wrap (y8.1 + y9.1))) (b := 1) (by kernel_rfl) (by kernel_rfl)) ?_
                            refine S_pure trivial (O_pkt (d := .u (.bool ((decide ((IntKind.i64.wrap (y8.1 + y9.1)) = 1))))) (by kernel_rfl) (by kernel_rfl)) ?_
                            exact Rs_weak (W_to (by kernel_rfl) (by kernel_rfl) (by kernel_rfl)) (K35 _ (by rw [hc] <;> rfl))
                          · refine S_skip (b := false) (by kernel_rfl) rfl ?_
                            refine S_skip (b := false) (by kernel_rfl) rfl ?_
                            refine S_skip (b := false) (by kernel_rfl) rfl ?_
                            refine S_skip (b := false) (by kernel_rfl) rfl ?_
                            refine S_pure trivial (O_pkf (d := .u (.bool false)) (by kernel_rfl) (by kernel_rfl)) ?_
                            exact Rs_weak (W_to (by kernel_rfl) (by kernel_rfl) (by kernel_rfl)) (K35 _ (by rw [hc] <;> rfl))
                        have K54 : ∀ (w53 : Bool), (Sum.inr w53) = o30 → w53 = r := by
                          intro w53 e; subst e
                          replace h := elimR h
                          exact Option.some.inj h
                        refine R_loop (law11_EvalFoldsAgree.l77 w6 y12 y13 y14 y15) (fun s55 => (mkSt [(3, .msl 0 w6.1.length), (7, .u (.int .i64 y8.1)), (9, .u (.int .i64 y9.1)), (11, .u (.int .i64 y10.1)), (13, .u (.int .i64 y11.1)), (15, .u (.int .i64 y12.1)), (17, .u (.int .i64 y13.1)), (19, .u (.int .i64 y14.1)), (21, .u (.int .i64 y15.1)), (23, .u (.int .i64 s55.1)), (24, .u (.int .i64 s55.2.1)), (25, .u (.bool s55.2.2.1)), (26, .u (.bool s55.2.2.2.1)), (27, .u (.int .i64 s55.2.2.2.2.1)), (28, .u (.int .i64 s55.2.2.2.2.2))] [(0, .row 1 (List.map (cInt .i64) w6.1))] 4)) hE (W_to (by kernel_rfl) (by kernel_rfl) (by kernel_rfl)) ?_
                        intro K31 s55 x56 h hK31 hO31
                        refine R_seq ?_
                        refine R_seq ?_
                        refine R_reg ?_
                        refine S_pure trivial (O_mv (d := .u (.int .i64 s55.2.2.2.2.2)) (by kernel_rfl)) ?_
                        refine S_pure trivial (O_mv (d := .msl 0 w6.1.length) (by kernel_rfl)) ?_
                        refine S_pure trivial (O_lnm (b := 0) (m := w6.1.length) (by kernel_rfl)) ?_
                        refine S_pure trivial (O_lss (k := .i64) (a := s55.2.2.2.2.2) (b := (w6.1.length : Int)) (by kernel_rfl) (by kernel_rfl)) ?_
                        refine Rs_nil ?_
                        refine N_s ?_
                        refine R_cond (c := (decide (s55.2.2.2.2.2 < (w6.1.length : Int)))) (by kernel_rfl) h (fun h => ?_) (fun h => ?_)
                        · refine R_skip ?_
                          refine N_s ?_
                          refine R_seq ?_
                          refine R_block ?_
                          obtain ⟨o57, hE, h⟩ := bindS h
                          have K59 : ∀ (w58 : Int × Int), w58 = o57 → Run Try.prog 237 (retQ [2] (.bool r)) [.b 3, .s q_law11_EvalFoldsAgree_8, .k K31, .b 2, .s q_law11_EvalFoldsAgree_10] q_law11_EvalFoldsAgree_15 (mkSt [(3, .msl 0 w6.1.length), (7, .u (.int .i64 y8.1)), (9, .u (.int .i64 y9.1)), (11, .u (.int .i64 y10.1)), (13, .u (.int .i64 y11.1)), (15, .u (.int .i64 y12.1)), (17, .u (.int .i64 y13.1)), (19, .u (.int .i64 y14.1)), (21, .u (.int .i64 y15.1)), (23, .u (.int .i64 w58.1)), (24, .u (.int .i64 w58.2)), (25, .u (.bool s55.2.2.1)), (26, .u (.bool s55.2.2.2.1)), (27, .u (.int .i64 s55.2.2.2.2.1)), (28, .u (.int .i64 s55.2.2.2.2.2))] [(0, .row 1 (List.map (cInt .i64) w6.1))] 4) := by
                            intro w58 e; subst e
                            obtain ⟨o60, hE, h⟩ := bindS h
                            have K62 : ∀ (w61 : Bool × Bool), w61 = o60 → Run Try.prog 237 (retQ [2] (.bool r)) [.b 3, .s q_law11_EvalFoldsAgree_8, .k K31, .b 2, .s q_law11_EvalFoldsAgree_10] q_law11_EvalFoldsAgree_13 (mkSt [(3, .msl 0 w6.1.length), (7, .u (.int .i64 y8.1)), (9, .u (.int .i64 y9.1)), (11, .u (.int .i64 y10.1)), (13, .u (.int .i64 y11.1)), (15, .u (.int .i64 y12.1)), (17, .u (.int .i64 y13.1)), (19, .u (.int .i64 y14.1)), (21, .u (.int .i64 y15.1)), (23, .u (.int .i64 w58.1)), (24, .u (.int .i64 w58.2)), (25, .u (.bool w61.1)), (26, .u (.bool w61.2)), (27, .u (.int .i64 s55.2.2.2.2.1)), (28, .u (.int .i64 s55.2.2.2.2.2))] [(0, .row 1 (List.map (cInt .i64) w6.1))] 4) := by
                              intro w61 e; subst e
                              refine R_seq ?_
                              refine R_seq ?_
                              refine R_reg ?_
                              refine S_pure trivial (O_mv (d := .msl 0 w6.1.length) (by kernel_rfl)) ?_
                              refine S_pure trivial (O_mv (d := .u (.int .i64 s55.2.2.2.2.2)) (by kernel_rfl)) ?_
                              obtain ⟨y63, hy63, h⟩ := bindS h
                              refine S_pure trivial (O_iam (c := (cInt .i64)) (li := w6.1) (i := s55.2.2.2.2.2) (k := .i64) (a := y63) (b := 0) (by kernel_rfl) (by kernel_rfl) (by kernel_rfl) hy63) ?_
                              refine S_pure trivial (O_ldr (b := 0) (s := 1) (off := 0) (c := (cInt .i64)) (li := w6.1) (i := s55.2.2.2.2.2) (u := .int .i64 y63) (by kernel_rfl) (by kernel_rfl) hy63 rfl (by kernel_rfl)) ?_
                              refine S_pure trivial (O_mv (d := .u (.int .i64 y12.1)) (by kernel_rfl)) ?_
                              refine S_pure trivial (O_lss (k := .i64) (a := y63) (b := y12.1) (by kernel_rfl) (by kernel_rfl)) ?_
                              refine S_pure trivial (O_mv (d := .u (.bool ((decide (y63 < y12.1))))) (by kernel_rfl)) ?_
                              obtain ⟨o66, hE, h⟩ := bindS h
                              have K64 : Rs Try.prog 237 (retQ [2] (.bool r)) [.s q_law11_EvalFoldsAgree_3, .s q_law11_EvalFoldsAgree_7, .b 3, .s q_law11_EvalFoldsAgree_8, .k K31, .b 2, .s q_law11_EvalFoldsAgree_10] [⟨some 179, none, .mv (.t 178)⟩, ⟨some 180, some (179, false), .mv (.t 3)⟩, ⟨some 181, some (179, false), .mv (.t 28)⟩, ⟨some 182, some (179, false), .ia 1 (.t 180) (.t 181)⟩, ⟨some 183, some (179, false), .ld false 1 (.t 182)⟩, ⟨some 184, some (179, false), .mv (.t 21)⟩, ⟨some 185, some (179, false), .bi .eql (.t 183) (.t 184)⟩, ⟨some 186, none, .pk (.t 179) (.c (.bool true)) (.t 185)⟩] (mkSt [(3, .msl 0 w6.1.length), (7, .u (.int .i64 y8.1)), (9, .u (.int .i64 y9.1)), (11, .u (.int .i64 y10.1)), (13, .u (.int .i64 y11.1)), (15, .u (.int .i64 y12.1)), (17, .u (.int .i64 y13.1)), (19, .u (.int .i64 y14.1)), (21, .u (.int .i64 y15.1)), (23, .u (.int .i64 w58.1)), (24, .u (.int .i64 w58.2)), (25, .u (.bool w61.1)), (26, .u (.bool w61.2)), (27, .u (.int .i64 s55.2.2.2.2.1)), (28, .u (.int .i64 s55.2.2.2.2.2)), (178, .u (.bool o66))] [(0, .row 1 (List.map (cInt .i64) w6.1))] 4) := by
                                refine S_pure trivial (O_mv (d := .u (.bool o66)) (by kernel_rfl)) ?_
                                obtain ⟨o69, hE, h⟩ := bindS h
                                have K67 : Rs Try.prog 237 (retQ [2] (.bool r)) [.s q_law11_EvalFoldsAgree_3, .s q_law11_EvalFoldsAgree_7, .b 3, .s q_law11_EvalFoldsAgree_8, .k K31, .b 2, .s q_law11_EvalFoldsAgree_10] [] (mkSt [(3, .msl 0 w6.1.length), (7, .u (.int .i64 y8.1)), (9, .u (.int .i64 y9.1)), (11, .u (.int .i64 y10.1)), (13, .u (.int .i64 y11.1)), (15, .u (.int .i64 y12.1)), (17, .u (.int .i64 y13.1)), (19, .u (.int .i64 y14.1)), (21, .u (.int .i64 y15.1)), (23, .u (.int .i64 w58.1)), (24, .u (.int .i64 w58.2)), (25, .u (.bool w61.1)), (26, .u (.bool w61.2)), (27, .u (.int .i64 s55.2.2.2.2.1)), (28, .u (.int .i64 s55.2.2.2.2.2)), (186, .u (.bool o69))] [(0, .row 1 (List.map (cInt .i64) w6.1))] 4) := by
                                  refine Rs_nil ?_
                                  refine N_s ?_
                                  refine R_cond (c := o69) (by kernel_rfl) h (fun h => ?_) (fun h => ?_)
                                  · refine R_seq ?_
                                    refine R_reg ?_
                                    refine S_pure trivial (O_mv (d := .u (.bool false)) (by kernel_rfl)) ?_
                                    refine Rs_nil ?_
                                    refine N_s ?_
                                    obtain rfl := (K54 _ (hO31 _ h))
                                    refine R_ret ?_
                                    exact Q_ret (x := .bool false) (by kernel_rfl) (.refl _)
                                  · refine R_skip ?_
                                    refine N_s ?_
                                    refine R_seq ?_
                                    refine R_reg ?_
                                    refine S_pure trivial (O_mv (d := .msl 0 w6.1.length) (by kernel_rfl)) ?_
                                    refine S_pure trivial (O_mv (d := .u (.int .i64 s55.2.2.2.2.2)) (by kernel_rfl)) ?_
                                    obtain ⟨y70, hy70, h⟩ := bindS h
                                    refine S_pure trivial (O_iam (c := (cInt .i64)) (li := w6.1) (i := s55.2.2.2.2.2) (k := .i64) (a := y70) (b := 0) (by kernel_rfl) (by kernel_rfl) (by kernel_rfl) hy70) ?_
                                    refine S_pure trivial (O_ldr (b := 0) (s := 1) (off := 0) (c := (cInt .i64)) (li := w6.1) (i := s55.2.2.2.2.2) (u := .int .i64 y70) (by kernel_rfl) (by kernel_rfl) hy70 rfl (by kernel_rfl)) ?_
                                    refine S_pure trivial (O_mv (d := .u (.int .i64 y14.1)) (by kernel_rfl)) ?_
                                    refine S_pure trivial (O_gtr (k := .i64) (a := y70) (b := y14.1) (by kernel_rfl) (by kernel_rfl)) ?_
                                    refine Rs_nil ?_
                                    refine N_s ?_
                                    refine R_cond (c := (decide (y14.1 < y70))) (by kernel_rfl) h (fun h => ?_) (fun h => ?_)
                                    · refine R_reg ?_
                                      refine S_pure trivial (O_mv (d := .u (.int .i64 s55.2.2.2.2.1)) (by kernel_rfl)) ?_
                                      refine S_pure trivial (O_add (k := .i64) (a := s55.2.2.2.2.1) (b := 1) (by kernel_rfl) (by kernel_rfl)) ?_
                                      refine S_pure trivial (O_mv (d := .u (.int .i64 ((IntKind.i64.wrap (s55.2.2.2.2.1 + 1))))) (by kernel_rfl)) ?_
                                      refine Rs_nil ?_
                                      refine N_b ?_
                                      refine N_s ?_
                                      refine R_reg ?_
                                      refine S_pure trivial (O_mv (d := .u (.int .i64 s55.2.2.2.2.2)) (by kernel_rfl)) ?_
                                      refine S_pure trivial (O_add (k := .i64) (a := s55.2.2.2.2.2) (b := 1) (by kernel_rfl) (by kernel_rfl)) ?_
                                      refine S_pure trivial (O_mv (d := .u (.int .i64 ((IntKind.i64.wrap (s55.2.2.2.2.2 + 1))))) (by kernel_rfl)) ?_
                                      refine Rs_nil ?_
                                      exact N_k (hK31 _ h _ (W_to (by kernel_rfl) (by kernel_rfl) (by kernel_rfl)))
                                    · refine R_skip ?_
                                      refine N_b ?_
                                      refine N_s ?_
                                      refine R_reg ?_
                                      refine S_pure trivial (O_mv (d := .u (.int .i64 s55.2.2.2.2.2)) (by kernel_rfl)) ?_
                                      refine S_pure trivial (O_add (k := .i64) (a := s55.2.2.2.2.2) (b := 1) (by kernel_rfl) (by kernel_rfl)) ?_
                                      refine S_pure trivial (O_mv (d := .u (.int .i64 ((IntKind.i64.wrap (s55.2.2.2.2.2 + 1))))) (by kernel_rfl)) ?_
                                      refine Rs_nil ?_
                                      exact N_k (hK31 _ h _ (W_to (by kernel_rfl) (by kernel_rfl) (by kernel_rfl)))
                                replace h := hE
                                refine S_case (t := 179) (c := o66) (by kernel_rfl) h (fun hc h => ?_) (fun hc h => ?_)
                                · refine S_skip (b := true) (by kernel_rfl) rfl ?_
                                  refine S_skip (b := true) (by kernel_rfl) rfl ?_
                                  refine S_skip (b := true) (by kernel_rfl) rfl ?_
                                  refine S_skip (b := true) (by kernel_rfl) rfl ?_
                                  refine S_skip (b := true) (by kernel_rfl) rfl ?_
                                  refine S_skip (b := true) (by kernel_rfl) rfl ?_
                                  refine S_pure trivial (O_pkt (d := .u (.bool true)) (by kernel_rfl) (by kernel_rfl)) ?_
                                  obtain rfl := Option.some.inj h
                                  exact Rs_weak (W_to (by kernel_rfl) (by kernel_rfl) (by kernel_rfl)) K67
                                · refine S_pure (by show _ = _; kernel_rfl) (O_mv (d := .msl 0 w6.1.length) (by kernel_rfl)) ?_
                                  refine S_pure (by show _ = _; kernel_rfl) (O_mv (d := .u (.int .i64 s55.2.2.2.2.2)) (by kernel_rfl)) ?_
                                  obtain ⟨y71, hy71, h⟩ := bindS h
                                  refine S_pure (by show _ = _; kernel_rfl) (O_iam (c := (cInt .i64)) (li := w6.1) (i := s55.2.2.2.2.2) (k := .i64) (a := y71) (b := 0) (by kernel_rfl) (by kernel_rfl) (by kernel_rfl) hy71) ?_
                                  refine S_pure (by show _ = _; kernel_rfl) (O_ldr (b := 0) (s := 1) (off := 0) (c := (cInt .i64)) (li := w6.1) (i := s55.2.2.2.2.2) (u := .int .i64 y71) (by kernel_rfl) (by kernel_rfl) hy71 rfl (by kernel_rfl)) ?_
                                  refine S_pure (by show _ = _; kernel_rfl) (O_mv (d := .u (.int .i64 y15.1)) (by kernel_rfl)) ?_
                                  refine S_pure (by show _ = _; kernel_rfl) (O_eql (k := .i64) (a := y71) (b := y15.1) (by kernel_rfl) (by kernel_rfl)) ?_
                                  refine S_pure trivial (O_pkf (d := .u (.bool ((decide (y71 = y15.1))))) (by kernel_rfl) (by kernel_rfl)) ?_
                                  obtain rfl := Option.some.inj h
                                  exact Rs_weak (W_to (by kernel_rfl) (by kernel_rfl) (by kernel_rfl)) K67
                              replace h := hE
                              refine S_case (t := 171) (c := (decide (y63 < y12.1))) (by kernel_rfl) h (fun hc h => ?_) (fun hc h => ?_)
                              · refine S_skip (b := true) (by kernel_rfl) rfl ?_
                                refine S_skip (b := true) (by kernel_rfl) rfl ?_
                                refine S_skip (b := true) (by kernel_rfl) rfl ?_
                                refine S_skip (b := true) (by kernel_rfl) rfl ?_
                                refine S_skip (b := true) (by kernel_rfl) rfl ?_
                                refine S_skip (b := true) (by kernel_rfl) rfl ?_
                                refine S_pure trivial (O_pkt (d := .u (.bool true)) (by kernel_rfl) (by kernel_rfl)) ?_
                                obtain rfl := Option.some.inj h
                                exact Rs_weak (W_to (by kernel_rfl) (by kernel_rfl) (by kernel_rfl)) K64
                              · refine S_pure (by show _ = _; kernel_rfl) (O_mv (d := .msl 0 w6.1.length) (by kernel_rfl)) ?_
                                refine S_pure (by show _ = _; kernel_rfl) (O_mv (d := .u (.int .i64 s55.2.2.2.2.2)) (by kernel_rfl)) ?_
                                obtain ⟨y72, hy72, h⟩ := bindS h
                                refine S_pure (by show _ = _; kernel_rfl) (O_iam (c := (cInt .i64)) (li := w6.1) (i := s55.2.2.2.2.2) (k := .i64) (a := y72) (b := 0) (by kernel_rfl) (by kernel_rfl) (by kernel_rfl) hy72) ?_
                                refine S_pure (by show _ = _; kernel_rfl) (O_ldr (b := 0) (s := 1) (off := 0) (c := (cInt .i64)) (li := w6.1) (i := s55.2.2.2.2.2) (u := .int .i64 y72) (by kernel_rfl) (by kernel_rfl) hy72 rfl (by kernel_rfl)) ?_
                                refine S_pure (by show _ = _; kernel_rfl) (O_mv (d := .u (.int .i64 y13.1)) (by kernel_rfl)) ?_
                                refine S_pure (by show _ = _; kernel_rfl) (O_gtr (k := .i64) (a := y72) (b := y13.1) (by kernel_rfl) (by kernel_rfl)) ?_
                                refine S_pure trivial (O_pkf (d := .u (.bool ((decide (y13.1 < y72))))) (by kernel_rfl) (by kernel_rfl)) ?_
                                obtain rfl := Option.some.inj h
                                exact Rs_weak (W_to (by kernel_rfl) (by kernel_rfl) (by kernel_rfl)) K64
                            replace h := hE
                            refine R_seq ?_
                            refine R_rgd (show Try.prog.follows .mixedOrders = true from Checked.mixed Try.checked) ?_
                            refine Rg_pure 1000 [] trivial (O_mv (d := .u (.bool s55.2.2.1)) (by kernel_rfl)) (by kernel_rfl) ?_
                            refine Rg_pure 1001 [] trivial (O_mv (d := .u (.bool s55.2.2.1)) (by kernel_rfl)) (by kernel_rfl) ?_
                            refine Rg_case (t := 148) (c := s55.2.2.1) (by kernel_rfl) h (fun hc h => ?_) (fun hc h => ?_)
                            · refine Rg_skip (b := true) 1002 (by kernel_rfl) rfl (by kernel_rfl) ?_
                              refine Rg_skip (b := true) 1003 (by kernel_rfl) rfl (by kernel_rfl) ?_
                              refine Rg_skip (b := true) 1004 (by kernel_rfl) rfl (by kernel_rfl) ?_
                              refine Rg_skip (b := true) 1005 (by kernel_rfl) rfl (by kernel_rfl) ?_
                              refine Rg_skip (b := true) 1006 (by kernel_rfl) rfl (by kernel_rfl) ?_
                              refine Rg_skip (b := true) 1007 (by kernel_rfl) rfl (by kernel_rfl) ?_
                              refine Rg_pure 1008 [] trivial (O_pkt (d := .u (.bool true)) (by kernel_rfl) (by kernel_rfl)) (by kernel_rfl) ?_
                              refine Rg_pure 1009 [] trivial (O_mv (d := .u (.bool s55.2.2.2.1)) (by kernel_rfl)) (by kernel_rfl) ?_
                              refine Rg_pure 1010 [] trivial (O_mv (d := .u (.bool s55.2.2.2.1)) (by kernel_rfl)) (by kernel_rfl) ?_
                              refine Rg_case (t := 157) (c := s55.2.2.2.1) (by kernel_rfl) h (fun hc h => ?_) (fun hc h => ?_)
                              · refine Rg_skip (b := true) 1011 (by kernel_rfl) rfl (by kernel_rfl) ?_
                                refine Rg_skip (b := true) 1012 (by kernel_rfl) rfl (by kernel_rfl) ?_
                                refine Rg_skip (b := true) 1013 (by kernel_rfl) rfl (by kernel_rfl) ?_
                                refine Rg_skip (b := true) 1014 (by kernel_rfl) rfl (by kernel_rfl) ?_
                                refine Rg_skip (b := true) 1015 (by kernel_rfl) rfl (by kernel_rfl) ?_
                                refine Rg_skip (b := true) 1016 (by kernel_rfl) rfl (by kernel_rfl) ?_
                                refine Rg_pure 1017 [] trivial (O_pkt (d := .u (.bool true)) (by kernel_rfl) (by kernel_rfl)) (by kernel_rfl) ?_
                                refine Rg_pure 1018 [] trivial (O_mv (d := .u (.bool true)) (by kernel_rfl)) (by kernel_rfl) ?_
                                refine Rg_pure 1019 [] trivial (O_mv (d := .u (.bool true)) (by kernel_rfl)) (by kernel_rfl) ?_
                                refine Rg_nil (by kernel_rfl) ?_
                                refine N_s ?_
                                exact R_weak (W_to (by kernel_rfl) (by kernel_rfl) (by kernel_rfl)) (K62 _ (Option.some.inj h))
                              · refine Rg_pure 1011 [0] (by show _ = _; kernel_rfl) (O_mv (d := .msl 0 w6.1.length) (by kernel_rfl)) (by kernel_rfl) ?_
                                refine Rg_pure 1012 [] (by show _ = _; kernel_rfl) (O_mv (d := .u (.int .i64 s55.2.2.2.2.2)) (by kernel_rfl)) (by kernel_rfl) ?_
                                obtain ⟨y73, hy73, h⟩ := bindS h
                                refine Rg_pure 1013 [0] (by show _ = _; kernel_rfl) (O_iam (c := (cInt .i64)) (li := w6.1) (i := s55.2.2.2.2.2) (k := .i64) (a := y73) (b := 0) (by kernel_rfl) (by kernel_rfl) (by kernel_rfl) hy73) (by kernel_rfl) ?_
                                refine Rg_pure 1014 [0] (by show _ = _; kernel_rfl) (O_ldr (b := 0) (s := 1) (off := 0) (c := (cInt .i64)) (li := w6.1) (i := s55.2.2.2.2.2) (u := .int .i64 y73) (by kernel_rfl) (by kernel_rfl) hy73 rfl (by kernel_rfl)) (by kernel_rfl) ?_
                                refine Rg_pure 1015 [] (by show _ = _; kernel_rfl) (O_mv (d := .u (.int .i64 y13.1)) (by kernel_rfl)) (by kernel_rfl) ?_
                                refine Rg_pure 1016 [] (by show _ = _; kernel_rfl) (O_eql (k := .i64) (a := y73) (b := y13.1) (by kernel_rfl) (by kernel_rfl)) (by kernel_rfl) ?_
                                refine Rg_pure 1017 [] trivial (O_pkf (d := .u (.bool ((decide (y73 = y13.1))))) (by kernel_rfl) (by kernel_rfl)) (by kernel_rfl) ?_
                                refine Rg_pure 1018 [] trivial (O_mv (d := .u (.bool true)) (by kernel_rfl)) (by kernel_rfl) ?_
                                refine Rg_pure 1019 [] trivial (O_mv (d := .u (.bool ((decide (y73 = y13.1))))) (by kernel_rfl)) (by kernel_rfl) ?_
                                refine Rg_nil (by kernel_rfl) ?_
                                refine N_s ?_
                                exact R_weak (W_to (by kernel_rfl) (by kernel_rfl) (by kernel_rfl)) (K62 _ (Option.some.inj h))
                            · refine Rg_pure 1002 [0] (by show _ = _; kernel_rfl) (O_mv (d := .msl 0 w6.1.length) (by kernel_rfl)) (by kernel_rfl) ?_
                              refine Rg_pure 1003 [] (by show _ = _; kernel_rfl) (O_mv (d := .u (.int .i64 s55.2.2.2.2.2)) (by kernel_rfl)) (by kernel_rfl) ?_
                              obtain ⟨y74, hy74, h⟩ := bindS h
                              refine Rg_pure 1004 [0] (by show _ = _; kernel_rfl) (O_iam (c := (cInt .i64)) (li := w6.1) (i := s55.2.2.2.2.2) (k := .i64) (a := y74) (b := 0) (by kernel_rfl) (by kernel_rfl) (by kernel_rfl) hy74) (by kernel_rfl) ?_
                              refine Rg_pure 1005 [0] (by show _ = _; kernel_rfl) (O_ldr (b := 0) (s := 1) (off := 0) (c := (cInt .i64)) (li := w6.1) (i := s55.2.2.2.2.2) (u := .int .i64 y74) (by kernel_rfl) (by kernel_rfl) hy74 rfl (by kernel_rfl)) (by kernel_rfl) ?_
                              refine Rg_pure 1006 [] (by show _ = _; kernel_rfl) (O_mv (d := .u (.int .i64 y12.1)) (by kernel_rfl)) (by kernel_rfl) ?_
                              refine Rg_pure 1007 [] (by show _ = _; kernel_rfl) (O_eql (k := .i64) (a := y74) (b := y12.1) (by kernel_rfl) (by kernel_rfl)) (by kernel_rfl) ?_
                              refine Rg_pure 1008 [] trivial (O_pkf (d := .u (.bool ((decide (y74 = y12.1))))) (by kernel_rfl) (by kernel_rfl)) (by kernel_rfl) ?_
                              refine Rg_pure 1009 [] trivial (O_mv (d := .u (.bool s55.2.2.2.1)) (by kernel_rfl)) (by kernel_rfl) ?_
                              refine Rg_pure 1010 [] trivial (O_mv (d := .u (.bool s55.2.2.2.1)) (by kernel_rfl)) (by kernel_rfl) ?_
                              refine Rg_case (t := 157) (c := s55.2.2.2.1) (by kernel_rfl) h (fun hc h => ?_) (fun hc h => ?_)
                              · refine Rg_skip (b := true) 1011 (by kernel_rfl) rfl (by kernel_rfl) ?_
                                refine Rg_skip (b := true) 1012 (by kernel_rfl) rfl (by kernel_rfl) ?_
                                refine Rg_skip (b := true) 1013 (by kernel_rfl) rfl (by kernel_rfl) ?_
                                refine Rg_skip (b := true) 1014 (by kernel_rfl) rfl (by kernel_rfl) ?_
                                refine Rg_skip (b := true) 1015 (by kernel_rfl) rfl (by kernel_rfl) ?_
                                refine Rg_skip (b := true) 1016 (by kernel_rfl) rfl (by kernel_rfl) ?_
                                refine Rg_pure 1017 [] trivial (O_pkt (d := .u (.bool true)) (by kernel_rfl) (by kernel_rfl)) (by kernel_rfl) ?_
                                refine Rg_pure 1018 [] trivial (O_mv (d := .u (.bool ((decide (y74 = y12.1))))) (by kernel_rfl)) (by kernel_rfl) ?_
                                refine Rg_pure 1019 [] trivial (O_mv (d := .u (.bool true)) (by kernel_rfl)) (by kernel_rfl) ?_
                                refine Rg_nil (by kernel_rfl) ?_
                                refine N_s ?_
                                exact R_weak (W_to (by kernel_rfl) (by kernel_rfl) (by kernel_rfl)) (K62 _ (Option.some.inj h))
                              · refine Rg_pure 1011 [0] (by show _ = _; kernel_rfl) (O_mv (d := .msl 0 w6.1.length) (by kernel_rfl)) (by kernel_rfl) ?_
                                refine Rg_pure 1012 [] (by show _ = _; kernel_rfl) (O_mv (d := .u (.int .i64 s55.2.2.2.2.2)) (by kernel_rfl)) (by kernel_rfl) ?_
                                obtain ⟨y75, hy75, h⟩ := bindS h
                                refine Rg_pure 1013 [0] (by show _ = _; kernel_rfl) (O_iam (c := (cInt .i64)) (li := w6.1) (i := s55.2.2.2.2.2) (k := .i64) (a := y75) (b := 0) (by kernel_rfl) (by kernel_rfl) (by kernel_rfl) hy75) (by kernel_rfl) ?_
                                refine Rg_pure 1014 [0] (by show _ = _; kernel_rfl) (O_ldr (b := 0) (s := 1) (off := 0) (c := (cInt .i64)) (li := w6.1) (i := s55.2.2.2.2.2) (u := .int .i64 y75) (by kernel_rfl) (by kernel_rfl) hy75 rfl (by kernel_rfl)) (by kernel_rfl) ?_
                                refine Rg_pure 1015 [] (by show _ = _; kernel_rfl) (O_mv (d := .u (.int .i64 y13.1)) (by kernel_rfl)) (by kernel_rfl) ?_
                                refine Rg_pure 1016 [] (by show _ = _; kernel_rfl) (O_eql (k := .i64) (a := y75) (b := y13.1) (by kernel_rfl) (by kernel_rfl)) (by kernel_rfl) ?_
                                refine Rg_pure 1017 [] trivial (O_pkf (d := .u (.bool ((decide (y75 = y13.1))))) (by kernel_rfl) (by kernel_rfl)) (by kernel_rfl) ?_
                                refine Rg_pure 1018 [] trivial (O_mv (d := .u (.bool ((decide (y74 = y12.1))))) (by kernel_rfl)) (by kernel_rfl) ?_
                                refine Rg_pure 1019 [] trivial (O_mv (d := .u (.bool ((decide (y75 = y13.1))))) (by kernel_rfl)) (by kernel_rfl) ?_
                                refine Rg_nil (by kernel_rfl) ?_
                                refine N_s ?_
                                exact R_weak (W_to (by kernel_rfl) (by kernel_rfl) (by kernel_rfl)) (K62 _ (Option.some.inj h))
                          replace h := hE
                          refine R_seq ?_
                          refine R_seq ?_
                          refine R_reg ?_
                          refine S_pure trivial (O_mv (d := .msl 0 w6.1.length) (by kernel_rfl)) ?_
                          refine S_pure trivial (O_mv (d := .u (.int .i64 s55.2.2.2.2.2)) (by kernel_rfl)) ?_
                          obtain ⟨y76, hy76, h⟩ := bindS h
                          refine S_pure trivial (O_iam (c := (cInt .i64)) (li := w6.1) (i := s55.2.2.2.2.2) (k := .i64) (a := y76) (b := 0) (by kernel_rfl) (by kernel_rfl) (by kernel_rfl) hy76) ?_
                          refine S_pure trivial (O_ldr (b := 0) (s := 1) (off := 0) (c := (cInt .i64)) (li := w6.1) (i := s55.2.2.2.2.2) (u := .int .i64 y76) (by kernel_rfl) (by kernel_rfl) hy76 rfl (by kernel_rfl)) ?_
                          refine S_pure trivial (O_neq (k := .i64) (a := y76) (b := 0) (by kernel_rfl) (by kernel_rfl)) ?_
                          refine Rs_nil ?_
                          refine N_s ?_
                          refine R_cond (c := (!decide (y76 = 0))) (by kernel_rfl) h (fun h => ?_) (fun h => ?_)
                          · refine R_seq ?_
                            refine R_reg ?_
                            refine S_pure trivial (O_mv (d := .u (.int .i64 s55.1)) (by kernel_rfl)) ?_
                            refine S_pure trivial (O_add (k := .i64) (a := s55.1) (b := 1) (by kernel_rfl) (by kernel_rfl)) ?_
                            refine S_pure trivial (O_mv (d := .u (.int .i64 ((IntKind.i64.wrap (s55.1 + 1))))) (by kernel_rfl)) ?_
                            refine Rs_nil ?_
                            refine N_s ?_
                            refine R_seq ?_
                            refine R_reg ?_
                            refine S_pure trivial (O_mv (d := .u (.int .i64 s55.2.1)) (by kernel_rfl)) ?_
                            refine S_pure trivial (O_lss (k := .i64) (a := s55.2.1) (b := 0) (by kernel_rfl) (by kernel_rfl)) ?_
                            refine Rs_nil ?_
                            refine N_s ?_
                            refine R_cond (c := (decide (s55.2.1 < 0))) (by kernel_rfl) h (fun h => ?_) (fun h => ?_)
                            · refine R_reg ?_
                              refine S_pure trivial (O_mv (d := .u (.int .i64 s55.2.2.2.2.2)) (by kernel_rfl)) ?_
                              refine S_pure trivial (O_mv (d := .u (.int .i64 s55.2.2.2.2.2)) (by kernel_rfl)) ?_
                              refine Rs_nil ?_
                              refine N_s ?_
                              exact R_weak (W_to (by kernel_rfl) (by kernel_rfl) (by kernel_rfl)) (K59 _ (Option.some.inj h))
                            · refine R_skip ?_
                              refine N_s ?_
                              exact R_weak (W_to (by kernel_rfl) (by kernel_rfl) (by kernel_rfl)) (K59 _ (Option.some.inj h))
                          · refine R_skip ?_
                            refine N_s ?_
                            exact R_weak (W_to (by kernel_rfl) (by kernel_rfl) (by kernel_rfl)) (K59 _ (Option.some.inj h))
                        · refine R_exit ?_
                          refine E_s ?_
                          refine E_k ?_
                          refine E_b ?_
                          refine N_s ?_
                          exact R_weak (W_to (by kernel_rfl) (by kernel_rfl) (by kernel_rfl)) (K33 _ (hO31 _ h))
                    refine S_case0 (t := 127) (c := (((((((!decide (y8.2 = 0)) || (!decide (y9.2 = 0))) || (!decide (y10.2 = 0))) || (!decide (y11.2 = 0))) || (!decide (y12.2 = 0))) || (!decide (y13.2 = 0))) || (!decide (y14.2 = 0)))) (by kernel_rfl) (fun hc => ?_) (fun hc => ?_)
                    · refine S_skip (b := true) (by kernel_rfl) rfl ?_
                      refine S_skip (b := true) (by kernel_rfl) rfl ?_
                      refine S_pure trivial (O_pkt (d := .u (.bool true)) (by kernel_rfl) (by kernel_rfl)) ?_
                      exact Rs_weak (W_to (by kernel_rfl) (by kernel_rfl) (by kernel_rfl)) (K28 _ (by rw [hc] <;> rfl))
                    · refine S_pure (by show _ = _; kernel_rfl) (O_mv (d := .u (.int .i64 y15.2)) (by kernel_rfl)) ?_
                      refine S_pure (by show _ = _; kernel_rfl) (O_neq (k := .i64) (a := y15.2) (b := 0) (by kernel_rfl) (by kernel_rfl)) ?_
                      refine S_pure trivial (O_pkf (d := .u (.bool ((!decide (y15.2 = 0))))) (by kernel_rfl) (by kernel_rfl)) ?_
                      exact Rs_weak (W_to (by kernel_rfl) (by kernel_rfl) (by kernel_rfl)) (K28 _ (by rw [hc] <;> rfl))
                  refine S_case0 (t := 123) (c := ((((((!decide (y8.2 = 0)) || (!decide (y9.2 = 0))) || (!decide (y10.2 = 0))) || (!decide (y11.2 = 0))) || (!decide (y12.2 = 0))) || (!decide (y13.2 = 0)))) (by kernel_rfl) (fun hc => ?_) (fun hc => ?_)
                  · refine S_skip (b := true) (by kernel_rfl) rfl ?_
                    refine S_skip (b := true) (by kernel_rfl) rfl ?_
                    refine S_pure trivial (O_pkt (d := .u (.bool true)) (by kernel_rfl) (by kernel_rfl)) ?_
                    exact Rs_weak (W_to (by kernel_rfl) (by kernel_rfl) (by kernel_rfl)) (K26 _ (by rw [hc] <;> rfl))
                  · refine S_pure (by show _ = _; kernel_rfl) (O_mv (d := .u (.int .i64 y14.2)) (by kernel_rfl)) ?_
                    refine S_pure (by show _ = _; kernel_rfl) (O_neq (k := .i64) (a := y14.2) (b := 0) (by kernel_rfl) (by kernel_rfl)) ?_
                    refine S_pure trivial (O_pkf (d := .u (.bool ((!decide (y14.2 = 0))))) (by kernel_rfl) (by kernel_rfl)) ?_
                    exact Rs_weak (W_to (by kernel_rfl) (by kernel_rfl) (by kernel_rfl)) (K26 _ (by rw [hc] <;> rfl))
                refine S_case0 (t := 119) (c := (((((!decide (y8.2 = 0)) || (!decide (y9.2 = 0))) || (!decide (y10.2 = 0))) || (!decide (y11.2 = 0))) || (!decide (y12.2 = 0)))) (by kernel_rfl) (fun hc => ?_) (fun hc => ?_)
                · refine S_skip (b := true) (by kernel_rfl) rfl ?_
                  refine S_skip (b := true) (by kernel_rfl) rfl ?_
                  refine S_pure trivial (O_pkt (d := .u (.bool true)) (by kernel_rfl) (by kernel_rfl)) ?_
                  exact Rs_weak (W_to (by kernel_rfl) (by kernel_rfl) (by kernel_rfl)) (K24 _ (by rw [hc] <;> rfl))
                · refine S_pure (by show _ = _; kernel_rfl) (O_mv (d := .u (.int .i64 y13.2)) (by kernel_rfl)) ?_
                  refine S_pure (by show _ = _; kernel_rfl) (O_neq (k := .i64) (a := y13.2) (b := 0) (by kernel_rfl) (by kernel_rfl)) ?_
                  refine S_pure trivial (O_pkf (d := .u (.bool ((!decide (y13.2 = 0))))) (by kernel_rfl) (by kernel_rfl)) ?_
                  exact Rs_weak (W_to (by kernel_rfl) (by kernel_rfl) (by kernel_rfl)) (K24 _ (by rw [hc] <;> rfl))
              refine S_case0 (t := 115) (c := ((((!decide (y8.2 = 0)) || (!decide (y9.2 = 0))) || (!decide (y10.2 = 0))) || (!decide (y11.2 = 0)))) (by kernel_rfl) (fun hc => ?_) (fun hc => ?_)
              · refine S_skip (b := true) (by kernel_rfl) rfl ?_
                refine S_skip (b := true) (by kernel_rfl) rfl ?_
                refine S_pure trivial (O_pkt (d := .u (.bool true)) (by kernel_rfl) (by kernel_rfl)) ?_
                exact Rs_weak (W_to (by kernel_rfl) (by kernel_rfl) (by kernel_rfl)) (K22 _ (by rw [hc] <;> rfl))
              · refine S_pure (by show _ = _; kernel_rfl) (O_mv (d := .u (.int .i64 y12.2)) (by kernel_rfl)) ?_
                refine S_pure (by show _ = _; kernel_rfl) (O_neq (k := .i64) (a := y12.2) (b := 0) (by kernel_rfl) (by kernel_rfl)) ?_
                refine S_pure trivial (O_pkf (d := .u (.bool ((!decide (y12.2 = 0))))) (by kernel_rfl) (by kernel_rfl)) ?_
                exact Rs_weak (W_to (by kernel_rfl) (by kernel_rfl) (by kernel_rfl)) (K22 _ (by rw [hc] <;> rfl))
            refine S_case0 (t := 111) (c := (((!decide (y8.2 = 0)) || (!decide (y9.2 = 0))) || (!decide (y10.2 = 0)))) (by kernel_rfl) (fun hc => ?_) (fun hc => ?_)
            · refine S_skip (b := true) (by kernel_rfl) rfl ?_
              refine S_skip (b := true) (by kernel_rfl) rfl ?_
              refine S_pure trivial (O_pkt (d := .u (.bool true)) (by kernel_rfl) (by kernel_rfl)) ?_
              exact Rs_weak (W_to (by kernel_rfl) (by kernel_rfl) (by kernel_rfl)) (K20 _ (by rw [hc] <;> rfl))
            · refine S_pure (by show _ = _; kernel_rfl) (O_mv (d := .u (.int .i64 y11.2)) (by kernel_rfl)) ?_
              refine S_pure (by show _ = _; kernel_rfl) (O_neq (k := .i64) (a := y11.2) (b := 0) (by kernel_rfl) (by kernel_rfl)) ?_
              refine S_pure trivial (O_pkf (d := .u (.bool ((!decide (y11.2 = 0))))) (by kernel_rfl) (by kernel_rfl)) ?_
              exact Rs_weak (W_to (by kernel_rfl) (by kernel_rfl) (by kernel_rfl)) (K20 _ (by rw [hc] <;> rfl))
          refine S_case0 (t := 107) (c := ((!decide (y8.2 = 0)) || (!decide (y9.2 = 0)))) (by kernel_rfl) (fun hc => ?_) (fun hc => ?_)
          · refine S_skip (b := true) (by kernel_rfl) rfl ?_
            refine S_skip (b := true) (by kernel_rfl) rfl ?_
            refine S_pure trivial (O_pkt (d := .u (.bool true)) (by kernel_rfl) (by kernel_rfl)) ?_
            exact Rs_weak (W_to (by kernel_rfl) (by kernel_rfl) (by kernel_rfl)) (K18 _ (by rw [hc] <;> rfl))
          · refine S_pure (by show _ = _; kernel_rfl) (O_mv (d := .u (.int .i64 y10.2)) (by kernel_rfl)) ?_
            refine S_pure (by show _ = _; kernel_rfl) (O_neq (k := .i64) (a := y10.2) (b := 0) (by kernel_rfl) (by kernel_rfl)) ?_
            refine S_pure trivial (O_pkf (d := .u (.bool ((!decide (y10.2 = 0))))) (by kernel_rfl) (by kernel_rfl)) ?_
            exact Rs_weak (W_to (by kernel_rfl) (by kernel_rfl) (by kernel_rfl)) (K18 _ (by rw [hc] <;> rfl))
        refine S_case0 (t := 103) (c := (!decide (y8.2 = 0))) (by kernel_rfl) (fun hc => ?_) (fun hc => ?_)
        · refine S_skip (b := true) (by kernel_rfl) rfl ?_
          refine S_skip (b := true) (by kernel_rfl) rfl ?_
          refine S_pure trivial (O_pkt (d := .u (.bool true)) (by kernel_rfl) (by kernel_rfl)) ?_
          exact Rs_weak (W_to (by kernel_rfl) (by kernel_rfl) (by kernel_rfl)) (K16 _ (by rw [hc] <;> rfl))
        · refine S_pure (by show _ = _; kernel_rfl) (O_mv (d := .u (.int .i64 y9.2)) (by kernel_rfl)) ?_
          refine S_pure (by show _ = _; kernel_rfl) (O_neq (k := .i64) (a := y9.2) (b := 0) (by kernel_rfl) (by kernel_rfl)) ?_
          refine S_pure trivial (O_pkf (d := .u (.bool ((!decide (y9.2 = 0))))) (by kernel_rfl) (by kernel_rfl)) ?_
          exact Rs_weak (W_to (by kernel_rfl) (by kernel_rfl) (by kernel_rfl)) (K16 _ (by rw [hc] <;> rfl))
      refine R_loop (law11_EvalFoldsAgree.l82 a_0) (fun s78 => (mkSt [(0, .u (.sl (List.map (cInt .i64) a_0))), (3, .msl 0 s78.2.1.length), (4, .msl 1 s78.2.2.length), (5, .u (.int .i64 s78.1))] [(0, .row 1 (List.map (cInt .i64) s78.2.1)), (1, .row 1 (List.map (cInt .i64) s78.2.2))] 4)) hE (W_to (by kernel_rfl) (by kernel_rfl) (by kernel_rfl)) ?_
      intro K5 s78 x79 h hK5 hO5
      refine R_seq ?_
      refine R_seq ?_
      refine R_reg ?_
      refine S_pure trivial (O_mv (d := .u (.int .i64 s78.1)) (by kernel_rfl)) ?_
      refine S_pure trivial (O_mv (d := .u (.sl (List.map (cInt .i64) a_0))) (by kernel_rfl)) ?_
      refine S_pure trivial (O_ln (c := (cInt .i64)) (li := a_0) (by kernel_rfl)) ?_
      refine S_pure trivial (O_lss (k := .i64) (a := s78.1) (b := (List.length a_0 : Int)) (by kernel_rfl) (by kernel_rfl)) ?_
      refine Rs_nil ?_
      refine N_s ?_
      refine R_cond (c := (decide (s78.1 < (List.length a_0 : Int)))) (by kernel_rfl) h (fun h => ?_) (fun h => ?_)
      · refine R_skip ?_
        refine N_s ?_
        refine R_seq ?_
        refine R_block ?_
        refine R_seq ?_
        refine R_reg ?_
        refine S_pure trivial (O_mv (d := .u (.sl (List.map (cInt .i64) a_0))) (by kernel_rfl)) ?_
        refine S_pure trivial (O_mv (d := .u (.int .i64 s78.1)) (by kernel_rfl)) ?_
        obtain ⟨y80, hy80, h⟩ := bindS h
        refine S_pure trivial (O_ia (c := (cInt .i64)) (li := a_0) (i := s78.1) (k := .i64) (a := y80) (u := (cInt .i64) y80) (by kernel_rfl) (by kernel_rfl) hy80 rfl rfl) ?_
        refine S_pure trivial (O_ldf (cells := (cInt .i64) y80) (off := 0) (u := .int .i64 y80) (by kernel_rfl) (by kernel_rfl)) ?_
        obtain ⟨y81, hy81, h⟩ := bindS h
        refine S_pure trivial (O_ca (us := [.int .i64 y80]) (r := .int .i64 y81) (by kernel_rfl) (ref11_Saturate.ok hy81)) ?_
        refine S_pure trivial (O_mv (d := .u (.int .i64 y81)) (by kernel_rfl)) ?_
        refine Rs_nil ?_
        refine N_s ?_
        refine R_seq ?_
        refine R_reg ?_
        refine S_pure trivial (O_mv (d := .msl 0 s78.2.1.length) (by kernel_rfl)) ?_
        refine S_pure trivial (O_mv (d := .u (.int .i64 y81)) (by kernel_rfl)) ?_
        refine S_up trivial (O_bs (els := [[.u (.int .i64 y81)]]) (uss := List.map (cInt .i64) ([y81])) (m := List.length ([y81])) (by kernel_rfl) rfl (by kernel_rfl) (by kernel_rfl)) ?_
        obtain ⟨hb, h⟩ := chkS h
        refine S_app (L' := [(51, .msl 4 [y81].length), (50, .u (.int .i64 y81)), (49, .any), (6, .u (.int .i64 y81)), (48, .u (.int .i64 y81)), (47, .u (.int .i64 y80)), (46, .u (.fp ((cInt .i64) y80) 0)), (45, .u (.int .i64 s78.1)), (44, .u (.sl (List.map (cInt .i64) a_0))), (41, .u (.bool ((decide (s78.1 < (List.length a_0 : Int)))))), (40, .u (.int .i64 ((List.length a_0 : Int)))), (39, .u (.sl (List.map (cInt .i64) a_0))), (38, .u (.int .i64 s78.1)), (0, .u (.sl (List.map (cInt .i64) a_0))), (3, .any), (4, .msl 1 s78.2.2.length), (5, .u (.int .i64 s78.1))]) (O' := [(4, .row 1 (List.map (cInt .i64) ([y81]))), (0, .row 1 (List.map (cInt .i64) s78.2.1)), (1, .row 1 (List.map (cInt .i64) s78.2.2))]) trivial (O_apm (c := (cInt .i64)) (li := s78.2.1) (lj := [y81]) (b := 0) (by kernel_rfl) (by kernel_rfl) (by show Srcs _ _ _ (.msl 4 [y81].length); exact Srcs.own (c := (cInt .i64)) (li := [y81]) 4 (by kernel_rfl)) hb) (by kernel_rfl) (by kernel_rfl) ?_
        refine S_pure trivial (O_mv (d := .msl 0 (s78.2.1 ++ [y81]).length) (by kernel_rfl)) ?_
        refine Rs_nil ?_
        refine N_s ?_
        refine R_seq ?_
        refine R_reg ?_
        refine S_pure trivial (O_mv (d := .u (.int .i64 y81)) (by kernel_rfl)) ?_
        refine S_pure trivial (O_eql (k := .i64) (a := y81) (b := 0) (by kernel_rfl) (by kernel_rfl)) ?_
        refine Rs_nil ?_
        refine N_s ?_
        refine R_cond (c := (decide (y81 = 0))) (by kernel_rfl) h (fun h => ?_) (fun h => ?_)
        · refine R_reg ?_
          refine S_pure trivial (O_mv (d := .msl 1 s78.2.2.length) (by kernel_rfl)) ?_
          refine S_up trivial (O_bs (els := [[.u (.int .i64 1)]]) (uss := List.map (cInt .i64) ([1])) (m := List.length ([1])) (by kernel_rfl) rfl (by kernel_rfl) (by kernel_rfl)) ?_
          obtain ⟨hb, h⟩ := chkS h
          refine S_app (L' := [(56, .msl 5 [1].length), (55, .any), (54, .u (.bool ((decide (y81 = 0))))), (53, .u (.int .i64 y81)), (3, .msl 0 (s78.2.1 ++ [y81]).length), (52, .msl 0 (s78.2.1 ++ [y81]).length), (51, .msl 4 [y81].length), (50, .u (.int .i64 y81)), (49, .any), (6, .u (.int .i64 y81)), (48, .u (.int .i64 y81)), (47, .u (.int .i64 y80)), (46, .u (.fp ((cInt .i64) y80) 0)), (45, .u (.int .i64 s78.1)), (44, .u (.sl (List.map (cInt .i64) a_0))), (41, .u (.bool ((decide (s78.1 < (List.length a_0 : Int)))))), (40, .u (.int .i64 ((List.length a_0 : Int)))), (39, .u (.sl (List.map (cInt .i64) a_0))), (38, .u (.int .i64 s78.1)), (0, .u (.sl (List.map (cInt .i64) a_0))), (3, .any), (4, .any), (5, .u (.int .i64 s78.1))]) (O' := [(5, .row 1 (List.map (cInt .i64) ([1]))), (0, .row 1 (List.map (cInt .i64) ((s78.2.1 ++ [y81])))), (4, .row 1 (List.map (cInt .i64) ([y81]))), (0, .row 1 (List.map (cInt .i64) s78.2.1)), (1, .row 1 (List.map (cInt .i64) s78.2.2))]) trivial (O_apm (c := (cInt .i64)) (li := s78.2.2) (lj := [1]) (b := 1) (by kernel_rfl) (by kernel_rfl) (by show Srcs _ _ _ (.msl 5 [1].length); exact Srcs.own (c := (cInt .i64)) (li := [1]) 5 (by kernel_rfl)) hb) (by kernel_rfl) (by kernel_rfl) ?_
          refine S_pure trivial (O_mv (d := .msl 1 (s78.2.2 ++ [1]).length) (by kernel_rfl)) ?_
          refine Rs_nil ?_
          refine N_b ?_
          refine N_s ?_
          refine R_reg ?_
          refine S_pure trivial (O_mv (d := .u (.int .i64 s78.1)) (by kernel_rfl)) ?_
          refine S_pure trivial (O_add (k := .i64) (a := s78.1) (b := 1) (by kernel_rfl) (by kernel_rfl)) ?_
          refine S_pure trivial (O_mv (d := .u (.int .i64 ((IntKind.i64.wrap (s78.1 + 1))))) (by kernel_rfl)) ?_
          refine Rs_nil ?_
          exact N_k (hK5 _ h _ (W_to (by kernel_rfl) (by kernel_rfl) (by kernel_rfl)))
        · refine R_reg ?_
          refine S_pure trivial (O_mv (d := .msl 1 s78.2.2.length) (by kernel_rfl)) ?_
          refine S_up trivial (O_bs (els := [[.u (.int .i64 0)]]) (uss := List.map (cInt .i64) ([0])) (m := List.length ([0])) (by kernel_rfl) rfl (by kernel_rfl) (by kernel_rfl)) ?_
          obtain ⟨hb, h⟩ := chkS h
          refine S_app (L' := [(59, .msl 5 [0].length), (58, .any), (54, .u (.bool ((decide (y81 = 0))))), (53, .u (.int .i64 y81)), (3, .msl 0 (s78.2.1 ++ [y81]).length), (52, .msl 0 (s78.2.1 ++ [y81]).length), (51, .msl 4 [y81].length), (50, .u (.int .i64 y81)), (49, .any), (6, .u (.int .i64 y81)), (48, .u (.int .i64 y81)), (47, .u (.int .i64 y80)), (46, .u (.fp ((cInt .i64) y80) 0)), (45, .u (.int .i64 s78.1)), (44, .u (.sl (List.map (cInt .i64) a_0))), (41, .u (.bool ((decide (s78.1 < (List.length a_0 : Int)))))), (40, .u (.int .i64 ((List.length a_0 : Int)))), (39, .u (.sl (List.map (cInt .i64) a_0))), (38, .u (.int .i64 s78.1)), (0, .u (.sl (List.map (cInt .i64) a_0))), (3, .any), (4, .any), (5, .u (.int .i64 s78.1))]) (O' := [(5, .row 1 (List.map (cInt .i64) ([0]))), (0, .row 1 (List.map (cInt .i64) ((s78.2.1 ++ [y81])))), (4, .row 1 (List.map (cInt .i64) ([y81]))), (0, .row 1 (List.map (cInt .i64) s78.2.1)), (1, .row 1 (List.map (cInt .i64) s78.2.2))]) trivial (O_apm (c := (cInt .i64)) (li := s78.2.2) (lj := [0]) (b := 1) (by kernel_rfl) (by kernel_rfl) (by show Srcs _ _ _ (.msl 5 [0].length); exact Srcs.own (c := (cInt .i64)) (li := [0]) 5 (by kernel_rfl)) hb) (by kernel_rfl) (by kernel_rfl) ?_
          refine S_pure trivial (O_mv (d := .msl 1 (s78.2.2 ++ [0]).length) (by kernel_rfl)) ?_
          refine Rs_nil ?_
          refine N_b ?_
          refine N_s ?_
          refine R_reg ?_
          refine S_pure trivial (O_mv (d := .u (.int .i64 s78.1)) (by kernel_rfl)) ?_
          refine S_pure trivial (O_add (k := .i64) (a := s78.1) (b := 1) (by kernel_rfl) (by kernel_rfl)) ?_
          refine S_pure trivial (O_mv (d := .u (.int .i64 ((IntKind.i64.wrap (s78.1 + 1))))) (by kernel_rfl)) ?_
          refine Rs_nil ?_
          exact N_k (hK5 _ h _ (W_to (by kernel_rfl) (by kernel_rfl) (by kernel_rfl)))
      · refine R_exit ?_
        refine E_s ?_
        refine E_k ?_
        refine E_b ?_
        refine N_s ?_
        exact R_weak (W_to (by kernel_rfl) (by kernel_rfl) (by kernel_rfl)) (K7 _ (hO5 _ h))
  refine S_case0 (t := 32) (c := (decide ((List.length a_0 : Int) = 0))) (by kernel_rfl) (fun hc => ?_) (fun hc => ?_)
  · refine S_skip (b := true) (by kernel_rfl) rfl ?_
    refine S_skip (b := true) (by kernel_rfl) rfl ?_
    refine S_skip (b := true) (by kernel_rfl) rfl ?_
    refine S_pure trivial (O_pkt (d := .u (.bool true)) (by kernel_rfl) (by kernel_rfl)) ?_
    exact Rs_weak (W_to (by kernel_rfl) (by kernel_rfl) (by kernel_rfl)) (K1 _ (by rw [hc] <;> rfl))
  · refine S_pure (by show _ = _; kernel_rfl) (O_mv (d := .u (.sl (List.map (cInt .i64) a_0))) (by kernel_rfl)) ?_
    refine S_pure (by show _ = _; kernel_rfl) (O_ln (c := (cInt .i64)) (li := a_0) (by kernel_rfl)) ?_
    refine S_pure (by show _ = _; kernel_rfl) (O_geq (k := .i64) (a := (List.length a_0 : Int)) (b := 24) (by kernel_rfl) (by kernel_rfl)) ?_
    refine S_pure trivial (O_pkf (d := .u (.bool ((decide (24 ≤ (List.length a_0 : Int)))))) (by kernel_rfl) (by kernel_rfl)) ?_
    exact Rs_weak (W_to (by kernel_rfl) (by kernel_rfl) (by kernel_rfl)) (K1 _ (by rw [hc] <;> rfl))

end Go.Proofs.Ytkpghgnbbfpbmaa
