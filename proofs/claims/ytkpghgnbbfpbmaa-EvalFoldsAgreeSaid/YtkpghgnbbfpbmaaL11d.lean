/- Functions of the program over typed data, and that the program's functions come to their results: written by a program (lift.py). -/
import Derived.Test.YtkpghgnbbfpbmaaL11b
import Derived.Test.YtkpghgnbbfpbmaaChecked
set_option linter.unusedVariables false
set_option maxRecDepth 100000
set_option maxHeartbeats 1000000
namespace Go.Proofs.Ytkpghgnbbfpbmaa

/-! ### selfstab/selfstablaw11.EvalFoldsInAnyOrder -/
def q_law11_EvalFoldsInAnyOrder_1 : AC := .reg [⟨some 92, none, .ca 18 []⟩, ⟨some 93, none, .mv (.t 92)⟩, ⟨some 94, some (93, true), .mv (.t 13)⟩, ⟨some 95, some (93, true), .bi .eql (.t 94) (.c (.int .i64 0))⟩, ⟨some 96, none, .pk (.t 93) (.t 95) (.c (.bool false))⟩, ⟨some 97, none, .mv (.t 96)⟩, ⟨some 98, some (97, true), .mv (.t 15)⟩, ⟨some 99, some (97, true), .bi .eql (.t 98) (.c (.int .i64 0))⟩, ⟨some 100, none, .pk (.t 97) (.t 99) (.c (.bool false))⟩, ⟨some 101, none, .mv (.t 100)⟩, ⟨some 102, some (101, true), .mv (.t 12)⟩, ⟨some 103, some (101, true), .mv (.t 14)⟩, ⟨some 104, some (101, true), .bi .eql (.t 102) (.t 103)⟩, ⟨some 105, none, .pk (.t 101) (.t 104) (.c (.bool false))⟩, ⟨some 8, none, .mv (.t 105)⟩]
def q_law11_EvalFoldsInAnyOrder_2 : AC := .seq q_law11_EvalFoldsInAnyOrder_1 .ret
def q_law11_EvalFoldsInAnyOrder_3 : AC := .reg [⟨some 87, none, .mv (.t 0)⟩, ⟨some 88, none, .mv (.t 10)⟩, ⟨some 89, none, .ca 19 [.t 87, .t 88]⟩, ⟨some 86, none, .mv (.t 89)⟩, ⟨some 90, none, .ex (.t 86) 0⟩, ⟨some 91, none, .ex (.t 86) 1⟩, ⟨some 14, none, .mv (.t 90)⟩, ⟨some 15, none, .mv (.t 91)⟩]
def q_law11_EvalFoldsInAnyOrder_4 : AC := .seq q_law11_EvalFoldsInAnyOrder_3 q_law11_EvalFoldsInAnyOrder_2
def q_law11_EvalFoldsInAnyOrder_5 : AC := .reg [⟨some 81, none, .mv (.t 0)⟩, ⟨some 82, none, .mv (.t 9)⟩, ⟨some 83, none, .ca 19 [.t 81, .t 82]⟩, ⟨some 80, none, .mv (.t 83)⟩, ⟨some 84, none, .ex (.t 80) 0⟩, ⟨some 85, none, .ex (.t 80) 1⟩, ⟨some 12, none, .mv (.t 84)⟩, ⟨some 13, none, .mv (.t 85)⟩]
def q_law11_EvalFoldsInAnyOrder_6 : AC := .seq q_law11_EvalFoldsInAnyOrder_5 q_law11_EvalFoldsInAnyOrder_4
def q_law11_EvalFoldsInAnyOrder_7 : AC := .rgd [⟨some 66, none, .mv (.t 10)⟩,
   ⟨some 67, none, .mv (.t 2)⟩,
   ⟨some 68, none, .mv (.t 10)⟩,
   ⟨some 69, none, .mv (.t 3)⟩,
   ⟨some 70, none, .mv (.t 10)⟩,
   ⟨some 71, none, .mv (.t 3)⟩,
   ⟨some 72, none, .ia 1 (.t 70) (.t 71)⟩,
   ⟨some 73, none, .ld false 1 (.t 72)⟩,
   ⟨some 74, none, .mv (.t 10)⟩,
   ⟨some 75, none, .mv (.t 2)⟩,
   ⟨some 76, none, .ia 1 (.t 74) (.t 75)⟩,
   ⟨some 77, none, .ld false 1 (.t 76)⟩,
   ⟨some 78, none, .ia 1 (.t 66) (.t 67)⟩,
   ⟨none, none, .st 1 (.t 78) (.t 73)⟩,
   ⟨some 79, none, .ia 1 (.t 68) (.t 69)⟩,
   ⟨none, none, .st 1 (.t 79) (.t 77)⟩] [(0, 1), (0, 2), (1, 2), (0, 3), (1, 3), (2, 3), (0, 4), (1, 4), (2, 4), (3, 4), (0, 5), (1, 5), (2, 5), (3, 5), (4, 5), (0, 6), (1, 6), (2, 6), (3, 6), (0, 7), (1, 7), (2, 7), (3, 7), (0, 8), (1, 8), (2, 8), (3, 8), (4, 8), (5, 8), (6, 8), (7, 8), (0, 9), (1, 9), (2, 9), (3, 9), (4, 9), (5, 9), (6, 9), (7, 9), (8, 9), (0, 10), (1, 10), (2, 10), (3, 10), (4, 10), (5, 10), (6, 10), (7, 10), (0, 11), (1, 11), (2, 11), (3, 11), (4, 11), (5, 11), (6, 11), (7, 11), (2, 12), (3, 12), (2, 13), (3, 13)]
def q_law11_EvalFoldsInAnyOrder_8 : AC := .seq q_law11_EvalFoldsInAnyOrder_7 q_law11_EvalFoldsInAnyOrder_6
def q_law11_EvalFoldsInAnyOrder_9 : AC := .reg [⟨some 58, none, .mv (.t 2)⟩, ⟨some 59, none, .mv (.t 10)⟩, ⟨some 60, none, .ln (.t 59)⟩, ⟨some 61, none, .ca 23 [.t 58, .t 60]⟩, ⟨some 62, none, .mv (.t 3)⟩, ⟨some 63, none, .mv (.t 10)⟩, ⟨some 64, none, .ln (.t 63)⟩, ⟨some 65, none, .ca 23 [.t 62, .t 64]⟩, ⟨some 2, none, .mv (.t 61)⟩, ⟨some 3, none, .mv (.t 65)⟩]
def q_law11_EvalFoldsInAnyOrder_10 : AC := .seq q_law11_EvalFoldsInAnyOrder_9 q_law11_EvalFoldsInAnyOrder_8
def q_law11_EvalFoldsInAnyOrder_11 : AC := .reg [⟨some 35, none, .ca 18 []⟩, ⟨some 8, none, .mv (.t 35)⟩]
def q_law11_EvalFoldsInAnyOrder_12 : AC := .seq q_law11_EvalFoldsInAnyOrder_11 .ret
def q_law11_EvalFoldsInAnyOrder_13 : AC := .cond (.t 34) q_law11_EvalFoldsInAnyOrder_12 .skip
def q_law11_EvalFoldsInAnyOrder_14 : AC := .reg [⟨some 40, none, .mv (.t 11)⟩, ⟨some 41, none, .bi .add (.t 40) (.c (.int .i64 1))⟩, ⟨some 11, none, .mv (.t 41)⟩]
def q_law11_EvalFoldsInAnyOrder_15 : AC := .rgd [⟨some 42, none, .mv (.t 9)⟩,
   ⟨some 43, none, .mv (.t 1)⟩,
   ⟨some 44, none, .mv (.t 11)⟩,
   ⟨some 45, none, .ia 1 (.t 43) (.t 44)⟩,
   ⟨some 46, none, .ld false 1 (.t 45)⟩,
   ⟨some 47, none, .ca 21 [.t 46]⟩,
   ⟨some 48, none, .bs 1 [.t 47]⟩,
   ⟨some 49, none, .ap 1 8 (.t 42) (.t 48)⟩,
   ⟨some 50, none, .mv (.t 10)⟩,
   ⟨some 51, none, .mv (.t 1)⟩,
   ⟨some 52, none, .mv (.t 11)⟩,
   ⟨some 53, none, .ia 1 (.t 51) (.t 52)⟩,
   ⟨some 54, none, .ld false 1 (.t 53)⟩,
   ⟨some 55, none, .ca 21 [.t 54]⟩,
   ⟨some 56, none, .bs 1 [.t 55]⟩,
   ⟨some 57, none, .ap 1 8 (.t 50) (.t 56)⟩,
   ⟨some 9, none, .mv (.t 49)⟩,
   ⟨some 10, none, .mv (.t 57)⟩] [(0, 1), (0, 2), (1, 2), (0, 3), (0, 4), (0, 5), (0, 6), (0, 8), (1, 8), (2, 8), (3, 8), (4, 8), (5, 8), (6, 8), (7, 8), (0, 9), (1, 9), (2, 9), (3, 9), (4, 9), (5, 9), (6, 9), (7, 9), (8, 9), (0, 10), (1, 10), (2, 10), (3, 10), (4, 10), (5, 10), (6, 10), (7, 10), (8, 10), (9, 10), (0, 11), (1, 11), (2, 11), (3, 11), (4, 11), (5, 11), (6, 11), (7, 11), (8, 11), (0, 12), (1, 12), (2, 12), (3, 12), (4, 12), (5, 12), (6, 12), (7, 12), (8, 12), (8, 13), (8, 14)]
def q_law11_EvalFoldsInAnyOrder_16 : AC := .block 1 q_law11_EvalFoldsInAnyOrder_15
def q_law11_EvalFoldsInAnyOrder_17 : AC := .seq q_law11_EvalFoldsInAnyOrder_16 q_law11_EvalFoldsInAnyOrder_14
def q_law11_EvalFoldsInAnyOrder_18 : AC := .cond (.t 39) .skip (.exit 0)
def q_law11_EvalFoldsInAnyOrder_19 : AC := .reg [⟨some 36, none, .mv (.t 11)⟩, ⟨some 37, none, .mv (.t 1)⟩, ⟨some 38, none, .ln (.t 37)⟩, ⟨some 39, none, .bi .lss (.t 36) (.t 38)⟩]
def q_law11_EvalFoldsInAnyOrder_20 : AC := .seq q_law11_EvalFoldsInAnyOrder_19 q_law11_EvalFoldsInAnyOrder_18
def q_law11_EvalFoldsInAnyOrder_21 : AC := .seq q_law11_EvalFoldsInAnyOrder_20 q_law11_EvalFoldsInAnyOrder_17
def q_law11_EvalFoldsInAnyOrder_22 : AC := .loop q_law11_EvalFoldsInAnyOrder_21
def q_law11_EvalFoldsInAnyOrder_23 : AC := .block 0 q_law11_EvalFoldsInAnyOrder_22
def q_law11_EvalFoldsInAnyOrder_24 : AC := .reg [⟨some 11, none, .mv (.c (.int .i64 0))⟩]
def q_law11_EvalFoldsInAnyOrder_25 : AC := .seq q_law11_EvalFoldsInAnyOrder_24 q_law11_EvalFoldsInAnyOrder_23
def q_law11_EvalFoldsInAnyOrder_26 : AC := .seq q_law11_EvalFoldsInAnyOrder_25 q_law11_EvalFoldsInAnyOrder_10
def q_law11_EvalFoldsInAnyOrder_27 : AC := .reg [⟨some 9, none, .mv (.c (.nil))⟩, ⟨some 10, none, .mv (.c (.nil))⟩]
def q_law11_EvalFoldsInAnyOrder_28 : AC := .seq q_law11_EvalFoldsInAnyOrder_27 q_law11_EvalFoldsInAnyOrder_26
def q_law11_EvalFoldsInAnyOrder_29 : AC := .reg [⟨some 19, none, .mv (.t 1)⟩, ⟨some 20, none, .ln (.t 19)⟩, ⟨some 21, none, .bi .eql (.t 20) (.c (.int .i64 0))⟩, ⟨some 22, none, .mv (.t 21)⟩, ⟨some 23, some (22, false), .mv (.t 1)⟩, ⟨some 24, some (22, false), .ln (.t 23)⟩, ⟨some 25, some (22, false), .bi .geq (.t 24) (.c (.int .i64 24))⟩, ⟨some 26, none, .pk (.t 22) (.c (.bool true)) (.t 25)⟩, ⟨some 27, none, .mv (.t 26)⟩, ⟨some 28, some (27, false), .mv (.t 0)⟩, ⟨some 29, some (27, false), .bi .eql (.t 28) (.c (.int .i64 23))⟩, ⟨some 30, none, .pk (.t 27) (.c (.bool true)) (.t 29)⟩, ⟨some 31, none, .mv (.t 30)⟩, ⟨some 32, some (31, false), .mv (.t 0)⟩, ⟨some 33, some (31, false), .bi .eql (.t 32) (.c (.int .i64 29))⟩, ⟨some 34, none, .pk (.t 31) (.c (.bool true)) (.t 33)⟩]
def q_law11_EvalFoldsInAnyOrder_30 : AC := .seq q_law11_EvalFoldsInAnyOrder_29 q_law11_EvalFoldsInAnyOrder_13
def q_law11_EvalFoldsInAnyOrder_31 : AC := .seq q_law11_EvalFoldsInAnyOrder_30 q_law11_EvalFoldsInAnyOrder_28
def q_law11_EvalFoldsInAnyOrder_32 : AC := .reg [⟨some 16, none, .mv (.t 0)⟩, ⟨some 17, none, .ca 23 [.t 16, .c (.int .i64 10)]⟩, ⟨some 18, none, .bi .add (.c (.int .i64 20)) (.t 17)⟩, ⟨some 0, none, .mv (.t 18)⟩]
def q_law11_EvalFoldsInAnyOrder_33 : AC := .seq q_law11_EvalFoldsInAnyOrder_32 q_law11_EvalFoldsInAnyOrder_31
def q_law11_EvalFoldsInAnyOrder_34 : AC := .reg [⟨some 8, none, .mv (.c (.bool false))⟩]
def q_law11_EvalFoldsInAnyOrder_35 : AC := .seq q_law11_EvalFoldsInAnyOrder_34 q_law11_EvalFoldsInAnyOrder_33
def c_law11_EvalFoldsInAnyOrder : FC := ⟨106, [8], q_law11_EvalFoldsInAnyOrder_35⟩
theorem k_law11_EvalFoldsInAnyOrder : okF Try.prog 5 c_law11_EvalFoldsInAnyOrder = true := by decide +kernel
noncomputable def law11_EvalFoldsInAnyOrder.l34 (l_1 : List Int) (s28 : Int × (List Int) × (List Int)) : Option ((Int × (List Int) × (List Int)) ⊕ (((List Int) × (List Int)))) := (bif (decide (s28.1 < (List.length l_1 : Int))) then ((idx l_1 s28.1).bind (fun (y30 : Int) => ((ref11_Saturate y30).bind (fun (y31 : Int) => (bif (room (List.length s28.2.1 + List.length ([y31])) 8) then ((idx l_1 s28.1).bind (fun (y32 : Int) => ((ref11_Saturate y32).bind (fun (y33 : Int) => (bif (room (List.length s28.2.2 + List.length ([y33])) 8) then (some (Sum.inl ((IntKind.i64.wrap (s28.1 + 1)), (s28.2.1 ++ [y31]), (s28.2.2 ++ [y33])))) else none))))) else none))))) else (some (Sum.inr (s28.2.1, s28.2.2))))
noncomputable def law11_EvalFoldsInAnyOrder (op_0 : Int) (l_1 : List Int) (i_2 : Int) (k_3 : Int) : Option Bool := ((made_Mod op_0 10).bind (fun (y1 : Int) => (bif ((((decide ((List.length l_1 : Int) = 0)) || (decide (24 ≤ (List.length l_1 : Int)))) || (decide ((IntKind.i64.wrap (20 + y1)) = 23))) || (decide ((IntKind.i64.wrap (20 + y1)) = 29))) then ((law11_awake).bind (fun (y8 : Bool) => (some y8))) else ((loopO (law11_EvalFoldsInAnyOrder.l34 l_1) (0, ([] : List Int), ([] : List Int))).bind (fun (w11 : (List Int) × (List Int)) => ((made_Mod i_2 ((w11.2.length : Int))).bind (fun (y13 : Int) => ((made_Mod k_3 ((w11.2.length : Int))).bind (fun (y14 : Int) => ((idx w11.2 y14).bind (fun (y15 : Int) => ((idx w11.2 y13).bind (fun (y16 : Int) => ((idx w11.2 y13).bind (fun (y17 : Int) => ((idx ((List.set w11.2 (Int.toNat y13) y15)) y14).bind (fun (y18 : Int) => ((eval_Fold ((IntKind.i64.wrap (20 + y1))) w11.1).bind (fun (y19 : Int × Int) => ((eval_Fold ((IntKind.i64.wrap (20 + y1))) ((List.set ((List.set w11.2 (Int.toNat y13) y15)) (Int.toNat y14) y16))).bind (fun (y20 : Int × Int) => ((law11_awake).bind (fun (y21 : Bool) => (some (((y21 && (decide (y19.2 = 0))) && (decide (y20.2 = 0))) && (decide (y19.1 = y20.1)))))))))))))))))))))))))))
theorem law11_EvalFoldsInAnyOrder.ok {op_0 : Int} {l_1 : List Int} {i_2 : Int} {k_3 : Int} {r : Bool} (h : law11_EvalFoldsInAnyOrder op_0 l_1 i_2 k_3 = some r) : PC Try.prog 5 [.int .i64 op_0, .sl (List.map (cInt .i64) l_1), .int .i64 i_2, .int .i64 k_3] (.bool r) := by
  refine PC_run k_law11_EvalFoldsInAnyOrder rfl (L := [(0, .u (.int .i64 op_0)), (1, .u (.sl (List.map (cInt .i64) l_1))), (2, .u (.int .i64 i_2)), (3, .u (.int .i64 k_3))]) rfl ?_
  show Run Try.prog 106 (retQ [8] (.bool r)) [] q_law11_EvalFoldsInAnyOrder_35 _
  refine R_seq ?_
  refine R_reg ?_
  refine S_pure trivial (O_mv (d := .u (.bool false)) (by kernel_rfl)) ?_
  refine Rs_nil ?_
  refine N_s ?_
  refine R_seq ?_
  refine R_reg ?_
  refine S_pure trivial (O_mv (d := .u (.int .i64 op_0)) (by kernel_rfl)) ?_
  obtain ⟨y1, hy1, h⟩ := bindS h
  refine S_pure trivial (O_ca (us := [.int .i64 op_0, .int .i64 10]) (r := .int .i64 y1) (by kernel_rfl) (made_Mod.ok hy1)) ?_
  refine S_pure trivial (O_add (k := .i64) (a := 20) (b := y1) (by kernel_rfl) (by kernel_rfl)) ?_
  refine S_pure trivial (O_mv (d := .u (.int .i64 ((IntKind.i64.wrap (20 + y1))))) (by kernel_rfl)) ?_
  refine Rs_nil ?_
  refine N_s ?_
  refine R_seq ?_
  refine R_seq ?_
  refine R_reg ?_
  refine S_pure trivial (O_mv (d := .u (.sl (List.map (cInt .i64) l_1))) (by kernel_rfl)) ?_
  refine S_pure trivial (O_ln (c := (cInt .i64)) (li := l_1) (by kernel_rfl)) ?_
  refine S_pure trivial (O_eql (k := .i64) (a := (List.length l_1 : Int)) (b := 0) (by kernel_rfl) (by kernel_rfl)) ?_
  refine S_pure trivial (O_mv (d := .u (.bool ((decide ((List.length l_1 : Int) = 0))))) (by kernel_rfl)) ?_
  have K2 : ∀ v3 : Bool, v3 = ((decide ((List.length l_1 : Int) = 0)) || (decide (24 ≤ (List.length l_1 : Int)))) → Rs Try.prog 106 (retQ [8] (.bool r)) [.s q_law11_EvalFoldsInAnyOrder_13, .s q_law11_EvalFoldsInAnyOrder_28] [⟨some 27, none, .mv (.t 26)⟩, ⟨some 28, some (27, false), .mv (.t 0)⟩, ⟨some 29, some (27, false), .bi .eql (.t 28) (.c (.int .i64 23))⟩, ⟨some 30, none, .pk (.t 27) (.c (.bool true)) (.t 29)⟩, ⟨some 31, none, .mv (.t 30)⟩, ⟨some 32, some (31, false), .mv (.t 0)⟩, ⟨some 33, some (31, false), .bi .eql (.t 32) (.c (.int .i64 29))⟩, ⟨some 34, none, .pk (.t 31) (.c (.bool true)) (.t 33)⟩] (mkSt [(0, .u (.int .i64 ((IntKind.i64.wrap (20 + y1))))), (1, .u (.sl (List.map (cInt .i64) l_1))), (2, .u (.int .i64 i_2)), (3, .u (.int .i64 k_3)), (26, .u (.bool v3))] [] 0) := by
    intro v3 e; subst e
    refine S_pure trivial (O_mv (d := .u (.bool (((decide ((List.length l_1 : Int) = 0)) || (decide (24 ≤ (List.length l_1 : Int))))))) (by kernel_rfl)) ?_
    have K4 : ∀ v5 : Bool, v5 = (((decide ((List.length l_1 : Int) = 0)) || (decide (24 ≤ (List.length l_1 : Int)))) || (decide ((IntKind.i64.wrap (20 + y1)) = 23))) → Rs Try.prog 106 (retQ [8] (.bool r)) [.s q_law11_EvalFoldsInAnyOrder_13, .s q_law11_EvalFoldsInAnyOrder_28] [⟨some 31, none, .mv (.t 30)⟩, ⟨some 32, some (31, false), .mv (.t 0)⟩, ⟨some 33, some (31, false), .bi .eql (.t 32) (.c (.int .i64 29))⟩, ⟨some 34, none, .pk (.t 31) (.c (.bool true)) (.t 33)⟩] (mkSt [(0, .u (.int .i64 ((IntKind.i64.wrap (20 + y1))))), (1, .u (.sl (List.map (cInt .i64) l_1))), (2, .u (.int .i64 i_2)), (3, .u (.int .i64 k_3)), (30, .u (.bool v5))] [] 0) := by
      intro v5 e; subst e
      refine S_pure trivial (O_mv (d := .u (.bool ((((decide ((List.length l_1 : Int) = 0)) || (decide (24 ≤ (List.length l_1 : Int)))) || (decide ((IntKind.i64.wrap (20 + y1)) = 23)))))) (by kernel_rfl)) ?_
      have K6 : ∀ v7 : Bool, v7 = ((((decide ((List.length l_1 : Int) = 0)) || (decide (24 ≤ (List.length l_1 : Int)))) || (decide ((IntKind.i64.wrap (20 + y1)) = 23))) || (decide ((IntKind.i64.wrap (20 + y1)) = 29))) → Rs Try.prog 106 (retQ [8] (.bool r)) [.s q_law11_EvalFoldsInAnyOrder_13, .s q_law11_EvalFoldsInAnyOrder_28] [] (mkSt [(0, .u (.int .i64 ((IntKind.i64.wrap (20 + y1))))), (1, .u (.sl (List.map (cInt .i64) l_1))), (2, .u (.int .i64 i_2)), (3, .u (.int .i64 k_3)), (34, .u (.bool v7))] [] 0) := by
        intro v7 e; subst e
        refine Rs_nil ?_
        refine N_s ?_
        refine R_cond (c := ((((decide ((List.length l_1 : Int) = 0)) || (decide (24 ≤ (List.length l_1 : Int)))) || (decide ((IntKind.i64.wrap (20 + y1)) = 23))) || (decide ((IntKind.i64.wrap (20 + y1)) = 29)))) (by kernel_rfl) h (fun h => ?_) (fun h => ?_)
        · refine R_seq ?_
          refine R_reg ?_
          obtain ⟨y8, hy8, h⟩ := bindS h
          refine S_pure trivial (O_ca (us := []) (r := .bool y8) (by kernel_rfl) (law11_awake.ok hy8)) ?_
          refine S_pure trivial (O_mv (d := .u (.bool y8)) (by kernel_rfl)) ?_
          refine Rs_nil ?_
          refine N_s ?_
          obtain rfl := (Option.some.inj h)
          refine R_ret ?_
          exact Q_ret (x := .bool y8) (by kernel_rfl) (.refl _)
        · refine R_skip ?_
          refine N_s ?_
          refine R_seq ?_
          refine R_reg ?_
          refine S_pure trivial (O_mv (d := .u (.nil)) (by kernel_rfl)) ?_
          refine S_pure trivial (O_mv (d := .u (.nil)) (by kernel_rfl)) ?_
          refine Rs_nil ?_
          refine N_s ?_
          refine R_seq ?_
          refine R_seq ?_
          refine R_reg ?_
          refine S_pure trivial (O_mv (d := .u (.int .i64 0)) (by kernel_rfl)) ?_
          refine Rs_nil ?_
          refine N_s ?_
          refine R_block ?_
          refine R_weak (Weak.trans (W_ghost 9 1 (by kernel_rfl)) (W_ghost 10 1 (by kernel_rfl))) ?_
          obtain ⟨o9, hE, h⟩ := bindS h
          have K12 : ∀ (w11 : (List Int) × (List Int)), w11 = o9 → Run Try.prog 106 (retQ [8] (.bool r)) [] q_law11_EvalFoldsInAnyOrder_10 (mkSt [(0, .u (.int .i64 ((IntKind.i64.wrap (20 + y1))))), (2, .u (.int .i64 i_2)), (3, .u (.int .i64 k_3)), (9, .msl 0 w11.1.length), (10, .msl 1 w11.2.length)] [(0, .row 1 (List.map (cInt .i64) w11.1)), (1, .row 1 (List.map (cInt .i64) w11.2))] 4) := by
            intro w11 e; subst e
            refine R_seq ?_
            refine R_reg ?_
            refine S_pure trivial (O_mv (d := .u (.int .i64 i_2)) (by kernel_rfl)) ?_
            refine S_pure trivial (O_mv (d := .msl 1 w11.2.length) (by kernel_rfl)) ?_
            refine S_pure trivial (O_lnm (b := 1) (m := w11.2.length) (by kernel_rfl)) ?_
            obtain ⟨y13, hy13, h⟩ := bindS h
            refine S_pure trivial (O_ca (us := [.int .i64 i_2, .int .i64 ((w11.2.length : Int))]) (r := .int .i64 y13) (by kernel_rfl) (made_Mod.ok hy13)) ?_
            refine S_pure trivial (O_mv (d := .u (.int .i64 k_3)) (by kernel_rfl)) ?_
            refine S_pure trivial (O_mv (d := .msl 1 w11.2.length) (by kernel_rfl)) ?_
            refine S_pure trivial (O_lnm (b := 1) (m := w11.2.length) (by kernel_rfl)) ?_
            obtain ⟨y14, hy14, h⟩ := bindS h
            refine S_pure trivial (O_ca (us := [.int .i64 k_3, .int .i64 ((w11.2.length : Int))]) (r := .int .i64 y14) (by kernel_rfl) (made_Mod.ok hy14)) ?_
            refine S_pure trivial (O_mv (d := .u (.int .i64 y13)) (by kernel_rfl)) ?_
            refine S_pure trivial (O_mv (d := .u (.int .i64 y14)) (by kernel_rfl)) ?_
            refine Rs_nil ?_
            refine N_s ?_
            refine R_seq ?_
            refine R_rgd (show Try.prog.follows .mixedOrders = true from Checked.mixed Try.checked) ?_
            refine Rg_pure 1000 [1] trivial (O_mv (d := .msl 1 w11.2.length) (by kernel_rfl)) (by kernel_rfl) ?_
            refine Rg_pure 1001 [] trivial (O_mv (d := .u (.int .i64 y13)) (by kernel_rfl)) (by kernel_rfl) ?_
            refine Rg_pure 1002 [1] trivial (O_mv (d := .msl 1 w11.2.length) (by kernel_rfl)) (by kernel_rfl) ?_
            refine Rg_pure 1003 [] trivial (O_mv (d := .u (.int .i64 y14)) (by kernel_rfl)) (by kernel_rfl) ?_
            refine Rg_pure 1004 [1] trivial (O_mv (d := .msl 1 w11.2.length) (by kernel_rfl)) (by kernel_rfl) ?_
            refine Rg_pure 1005 [] trivial (O_mv (d := .u (.int .i64 y14)) (by kernel_rfl)) (by kernel_rfl) ?_
            obtain ⟨y15, hy15, h⟩ := bindS h
            refine Rg_pure 1006 [1] trivial (O_iam (c := (cInt .i64)) (li := w11.2) (i := y14) (k := .i64) (a := y15) (b := 1) (by kernel_rfl) (by kernel_rfl) (by kernel_rfl) hy15) (by kernel_rfl) ?_
            refine Rg_pure 1007 [1] trivial (O_ldr (b := 1) (s := 1) (off := 0) (c := (cInt .i64)) (li := w11.2) (i := y14) (u := .int .i64 y15) (by kernel_rfl) (by kernel_rfl) hy15 rfl (by kernel_rfl)) (by kernel_rfl) ?_
            refine Rg_pure 1008 [1] trivial (O_mv (d := .msl 1 w11.2.length) (by kernel_rfl)) (by kernel_rfl) ?_
            refine Rg_pure 1009 [] trivial (O_mv (d := .u (.int .i64 y13)) (by kernel_rfl)) (by kernel_rfl) ?_
            obtain ⟨y16, hy16, h⟩ := bindS h
            refine Rg_pure 1010 [1] trivial (O_iam (c := (cInt .i64)) (li := w11.2) (i := y13) (k := .i64) (a := y16) (b := 1) (by kernel_rfl) (by kernel_rfl) (by kernel_rfl) hy16) (by kernel_rfl) ?_
            refine Rg_pure 1011 [1] trivial (O_ldr (b := 1) (s := 1) (off := 0) (c := (cInt .i64)) (li := w11.2) (i := y13) (u := .int .i64 y16) (by kernel_rfl) (by kernel_rfl) hy16 rfl (by kernel_rfl)) (by kernel_rfl) ?_
            obtain ⟨y17, hy17, h⟩ := bindS h
            refine Rg_pure 1012 [1] trivial (O_iam (c := (cInt .i64)) (li := w11.2) (i := y13) (k := .i64) (a := y17) (b := 1) (by kernel_rfl) (by kernel_rfl) (by kernel_rfl) hy17) (by kernel_rfl) ?_
            refine Rg_set 1013 [1] trivial (O_str (c := (cInt .i64)) (li := w11.2) (i := y13) (a := y17) (a' := y15) (b := 1) (s := 1) (off := 0) (d := .u (.int .i64 y15)) (xs := [.u (.int .i64 y15)]) (us := [.int .i64 y15]) (by kernel_rfl) (by kernel_rfl) (by kernel_rfl) (by kernel_rfl) (by kernel_rfl) hy17 (by kernel_rfl) (by kernel_rfl)) (by kernel_rfl) ?_
            refine Rg_re (t := 74) (d := .msl 1 (List.set w11.2 (Int.toNat y13) y15).length) (re_len (m := w11.2.length) (by kernel_rfl) List.length_set.symm) ?_
            refine Rg_re (t := 70) (d := .msl 1 (List.set w11.2 (Int.toNat y13) y15).length) (re_len (m := w11.2.length) (by kernel_rfl) List.length_set.symm) ?_
            refine Rg_re (t := 68) (d := .msl 1 (List.set w11.2 (Int.toNat y13) y15).length) (re_len (m := w11.2.length) (by kernel_rfl) List.length_set.symm) ?_
            refine Rg_re (t := 66) (d := .msl 1 (List.set w11.2 (Int.toNat y13) y15).length) (re_len (m := w11.2.length) (by kernel_rfl) List.length_set.symm) ?_
            refine Rg_re (t := 63) (d := .msl 1 (List.set w11.2 (Int.toNat y13) y15).length) (re_len (m := w11.2.length) (by kernel_rfl) List.length_set.symm) ?_
            refine Rg_re (t := 59) (d := .msl 1 (List.set w11.2 (Int.toNat y13) y15).length) (re_len (m := w11.2.length) (by kernel_rfl) List.length_set.symm) ?_
            refine Rg_re (t := 10) (d := .msl 1 (List.set w11.2 (Int.toNat y13) y15).length) (re_len (m := w11.2.length) (by kernel_rfl) List.length_set.symm) ?_
            obtain ⟨y18, hy18, h⟩ := bindS h
            refine Rg_pure 1014 [1] trivial (O_iam (c := (cInt .i64)) (li := (List.set w11.2 (Int.toNat y13) y15)) (i := y14) (k := .i64) (a := y18) (b := 1) (by kernel_rfl) (by kernel_rfl) (by kernel_rfl) hy18) (by kernel_rfl) ?_
            refine Rg_set 1015 [1] trivial (O_str (c := (cInt .i64)) (li := (List.set w11.2 (Int.toNat y13) y15)) (i := y14) (a := y18) (a' := y16) (b := 1) (s := 1) (off := 0) (d := .u (.int .i64 y16)) (xs := [.u (.int .i64 y16)]) (us := [.int .i64 y16]) (by kernel_rfl) (by kernel_rfl) (by kernel_rfl) (by kernel_rfl) (by kernel_rfl) hy18 (by kernel_rfl) (by kernel_rfl)) (by kernel_rfl) ?_
            refine Rg_re (t := 10) (d := .msl 1 (List.set ((List.set w11.2 (Int.toNat y13) y15)) (Int.toNat y14) y16).length) (re_len (m := (List.set w11.2 (Int.toNat y13) y15).length) (by kernel_rfl) List.length_set.symm) ?_
            refine Rg_re (t := 59) (d := .msl 1 (List.set ((List.set w11.2 (Int.toNat y13) y15)) (Int.toNat y14) y16).length) (re_len (m := (List.set w11.2 (Int.toNat y13) y15).length) (by kernel_rfl) List.length_set.symm) ?_
            refine Rg_re (t := 63) (d := .msl 1 (List.set ((List.set w11.2 (Int.toNat y13) y15)) (Int.toNat y14) y16).length) (re_len (m := (List.set w11.2 (Int.toNat y13) y15).length) (by kernel_rfl) List.length_set.symm) ?_
            refine Rg_re (t := 66) (d := .msl 1 (List.set ((List.set w11.2 (Int.toNat y13) y15)) (Int.toNat y14) y16).length) (re_len (m := (List.set w11.2 (Int.toNat y13) y15).length) (by kernel_rfl) List.length_set.symm) ?_
            refine Rg_re (t := 68) (d := .msl 1 (List.set ((List.set w11.2 (Int.toNat y13) y15)) (Int.toNat y14) y16).length) (re_len (m := (List.set w11.2 (Int.toNat y13) y15).length) (by kernel_rfl) List.length_set.symm) ?_
            refine Rg_re (t := 70) (d := .msl 1 (List.set ((List.set w11.2 (Int.toNat y13) y15)) (Int.toNat y14) y16).length) (re_len (m := (List.set w11.2 (Int.toNat y13) y15).length) (by kernel_rfl) List.length_set.symm) ?_
            refine Rg_re (t := 74) (d := .msl 1 (List.set ((List.set w11.2 (Int.toNat y13) y15)) (Int.toNat y14) y16).length) (re_len (m := (List.set w11.2 (Int.toNat y13) y15).length) (by kernel_rfl) List.length_set.symm) ?_
            refine Rg_nil (by kernel_rfl) ?_
            refine N_s ?_
            refine R_seq ?_
            refine R_reg ?_
            refine S_pure trivial (O_mv (d := .u (.int .i64 ((IntKind.i64.wrap (20 + y1))))) (by kernel_rfl)) ?_
            refine S_pure trivial (O_mv (d := .msl 0 w11.1.length) (by kernel_rfl)) ?_
            obtain ⟨y19, hy19, h⟩ := bindS h
            refine S_pure trivial (O_caf (ds := [.u (.int .i64 ((IntKind.i64.wrap (20 + y1)))), .msl 0 w11.1.length]) (us := [.int .i64 ((IntKind.i64.wrap (20 + y1))), .sl (List.map (cInt .i64) w11.1)]) (r := .tup [.int .i64 y19.1, .int .i64 y19.2]) (by kernel_rfl) (fz_cons fz_u (fz_cons (fz_msl (s := 1) (c := (cInt .i64)) (li := w11.1) (by kernel_rfl)) fz_nil)) (eval_Fold.ok hy19) rfl) ?_
            refine S_pure trivial (O_mv (d := .u (.tup [.int .i64 y19.1, .int .i64 y19.2])) (by kernel_rfl)) ?_
            refine S_pure trivial (O_ex (us := [.int .i64 y19.1, .int .i64 y19.2]) (u := .int .i64 y19.1) (by kernel_rfl) (by kernel_rfl)) ?_
            refine S_pure trivial (O_ex (us := [.int .i64 y19.1, .int .i64 y19.2]) (u := .int .i64 y19.2) (by kernel_rfl) (by kernel_rfl)) ?_
            refine S_pure trivial (O_mv (d := .u (.int .i64 y19.1)) (by kernel_rfl)) ?_
            refine S_pure trivial (O_mv (d := .u (.int .i64 y19.2)) (by kernel_rfl)) ?_
            refine Rs_nil ?_
            refine N_s ?_
            refine R_seq ?_
            refine R_reg ?_
            refine S_pure trivial (O_mv (d := .u (.int .i64 ((IntKind.i64.wrap (20 + y1))))) (by kernel_rfl)) ?_
            refine S_pure trivial (O_mv (d := .msl 1 (List.set ((List.set w11.2 (Int.toNat y13) y15)) (Int.toNat y14) y16).length) (by kernel_rfl)) ?_
            obtain ⟨y20, hy20, h⟩ := bindS h
            refine S_pure trivial (O_caf (ds := [.u (.int .i64 ((IntKind.i64.wrap (20 + y1)))), .msl 1 (List.set ((List.set w11.2 (Int.toNat y13) y15)) (Int.toNat y14) y16).length]) (us := [.int .i64 ((IntKind.i64.wrap (20 + y1))), .sl (List.map (cInt .i64) ((List.set ((List.set w11.2 (Int.toNat y13) y15)) (Int.toNat y14) y16)))]) (r := .tup [.int .i64 y20.1, .int .i64 y20.2]) (by kernel_rfl) (fz_cons fz_u (fz_cons (fz_msl (s := 1) (c := (cInt .i64)) (li := (List.set ((List.set w11.2 (Int.toNat y13) y15)) (Int.toNat y14) y16)) (by kernel_rfl)) fz_nil)) (eval_Fold.ok hy20) rfl) ?_
            refine S_pure trivial (O_mv (d := .u (.tup [.int .i64 y20.1, .int .i64 y20.2])) (by kernel_rfl)) ?_
            refine S_pure trivial (O_ex (us := [.int .i64 y20.1, .int .i64 y20.2]) (u := .int .i64 y20.1) (by kernel_rfl) (by kernel_rfl)) ?_
            refine S_pure trivial (O_ex (us := [.int .i64 y20.1, .int .i64 y20.2]) (u := .int .i64 y20.2) (by kernel_rfl) (by kernel_rfl)) ?_
            refine S_pure trivial (O_mv (d := .u (.int .i64 y20.1)) (by kernel_rfl)) ?_
            refine S_pure trivial (O_mv (d := .u (.int .i64 y20.2)) (by kernel_rfl)) ?_
            refine Rs_nil ?_
            refine N_s ?_
            refine R_seq ?_
            refine R_reg ?_
            obtain ⟨y21, hy21, h⟩ := bindS h
            refine S_pure trivial (O_ca (us := []) (r := .bool y21) (by kernel_rfl) (law11_awake.ok hy21)) ?_
            refine S_pure trivial (O_mv (d := .u (.bool y21)) (by kernel_rfl)) ?_
            have K22 : ∀ v23 : Bool, v23 = (y21 && (decide (y19.2 = 0))) → Rs Try.prog 106 (retQ [8] (.bool r)) [.s .ret] [⟨some 97, none, .mv (.t 96)⟩, ⟨some 98, some (97, true), .mv (.t 15)⟩, ⟨some 99, some (97, true), .bi .eql (.t 98) (.c (.int .i64 0))⟩, ⟨some 100, none, .pk (.t 97) (.t 99) (.c (.bool false))⟩, ⟨some 101, none, .mv (.t 100)⟩, ⟨some 102, some (101, true), .mv (.t 12)⟩, ⟨some 103, some (101, true), .mv (.t 14)⟩, ⟨some 104, some (101, true), .bi .eql (.t 102) (.t 103)⟩, ⟨some 105, none, .pk (.t 101) (.t 104) (.c (.bool false))⟩, ⟨some 8, none, .mv (.t 105)⟩] (mkSt [(12, .u (.int .i64 y19.1)), (14, .u (.int .i64 y20.1)), (15, .u (.int .i64 y20.2)), (96, .u (.bool v23))] [] 4) := by
              intro v23 e; subst e
              refine S_pure trivial (O_mv (d := .u (.bool ((y21 && (decide (y19.2 = 0)))))) (by kernel_rfl)) ?_
              have K24 : ∀ v25 : Bool, v25 = ((y21 && (decide (y19.2 = 0))) && (decide (y20.2 = 0))) → Rs Try.prog 106 (retQ [8] (.bool r)) [.s .ret] [⟨some 101, none, .mv (.t 100)⟩, ⟨some 102, some (101, true), .mv (.t 12)⟩, ⟨some 103, some (101, true), .mv (.t 14)⟩, ⟨some 104, some (101, true), .bi .eql (.t 102) (.t 103)⟩, ⟨some 105, none, .pk (.t 101) (.t 104) (.c (.bool false))⟩, ⟨some 8, none, .mv (.t 105)⟩] (mkSt [(12, .u (.int .i64 y19.1)), (14, .u (.int .i64 y20.1)), (100, .u (.bool v25))] [] 4) := by
                intro v25 e; subst e
                refine S_pure trivial (O_mv (d := .u (.bool (((y21 && (decide (y19.2 = 0))) && (decide (y20.2 = 0)))))) (by kernel_rfl)) ?_
                have K26 : ∀ v27 : Bool, v27 = (((y21 && (decide (y19.2 = 0))) && (decide (y20.2 = 0))) && (decide (y19.1 = y20.1))) → Rs Try.prog 106 (retQ [8] (.bool r)) [.s .ret] [⟨some 8, none, .mv (.t 105)⟩] (mkSt [(105, .u (.bool v27))] [] 4) := by
                  intro v27 e; subst e
                  refine S_pure trivial (O_mv (d := .u (.bool ((((y21 && (decide (y19.2 = 0))) && (decide (y20.2 = 0))) && (decide (y19.1 = y20.1)))))) (by kernel_rfl)) ?_
                  refine Rs_nil ?_
                  refine N_s ?_
                  obtain rfl := (Option.some.inj h)
                  refine R_ret ?_
                  exact Q_ret (x := .bool ((((y21 && (decide (y19.2 = 0))) && (decide (y20.2 = 0))) && (decide (y19.1 = y20.1))))) (by kernel_rfl) (.refl _)
                refine S_case0 (t := 101) (c := ((y21 && (decide (y19.2 = 0))) && (decide (y20.2 = 0)))) (by kernel_rfl) (fun hc => ?_) (fun hc => ?_)
                · refine S_pure (by show _ = _; kernel_rfl) (O_mv (d := .u (.int .i64 y19.1)) (by kernel_rfl)) ?_
                  refine S_pure (by show _ = _; kernel_rfl) (O_mv (d := .u (.int .i64 y20.1)) (by kernel_rfl)) ?_
                  refine S_pure (by show _ = _; kernel_rfl) (O_eql (k := .i64) (a := y19.1) (b := y20.1) (by kernel_rfl) (by kernel_rfl)) ?_
                  refine S_pure trivial (O_pkt (d := .u (.bool ((decide (y19.1 = y20.1))))) (by kernel_rfl) (by kernel_rfl)) ?_
                  exact Rs_weak (W_to (by kernel_rfl) (by kernel_rfl) (by kernel_rfl)) (K26 _ (by rw [hc] <;> rfl))
                · refine S_skip (b := false) (by kernel_rfl) rfl ?_
                  refine S_skip (b := false) (by kernel_rfl) rfl ?_
                  refine S_skip (b := false) (by kernel_rfl) rfl ?_
                  refine S_pure trivial (O_pkf (d := .u (.bool false)) (by kernel_rfl) (by kernel_rfl)) ?_
                  exact Rs_weak (W_to (by kernel_rfl) (by kernel_rfl) (by kernel_rfl)) (K26 _ (by rw [hc] <;> rfl))
              refine S_case0 (t := 97) (c := (y21 && (decide (y19.2 = 0)))) (by kernel_rfl) (fun hc => ?_) (fun hc => ?_)
              · refine S_pure (by show _ = _; kernel_rfl) (O_mv (d := .u (.int .i64 y20.2)) (by kernel_rfl)) ?_
                refine S_pure (by show _ = _; kernel_rfl) (O_eql (k := .i64) (a := y20.2) (b := 0) (by kernel_rfl) (by kernel_rfl)) ?_
                refine S_pure trivial (O_pkt (d := .u (.bool ((decide (y20.2 = 0))))) (by kernel_rfl) (by kernel_rfl)) ?_
                exact Rs_weak (W_to (by kernel_rfl) (by kernel_rfl) (by kernel_rfl)) (K24 _ (by rw [hc] <;> rfl))
              · refine S_skip (b := false) (by kernel_rfl) rfl ?_
                refine S_skip (b := false) (by kernel_rfl) rfl ?_
                refine S_pure trivial (O_pkf (d := .u (.bool false)) (by kernel_rfl) (by kernel_rfl)) ?_
                exact Rs_weak (W_to (by kernel_rfl) (by kernel_rfl) (by kernel_rfl)) (K24 _ (by rw [hc] <;> rfl))
            refine S_case0 (t := 93) (c := y21) (by kernel_rfl) (fun hc => ?_) (fun hc => ?_)
            · refine S_pure (by show _ = _; kernel_rfl) (O_mv (d := .u (.int .i64 y19.2)) (by kernel_rfl)) ?_
              refine S_pure (by show _ = _; kernel_rfl) (O_eql (k := .i64) (a := y19.2) (b := 0) (by kernel_rfl) (by kernel_rfl)) ?_
              refine S_pure trivial (O_pkt (d := .u (.bool ((decide (y19.2 = 0))))) (by kernel_rfl) (by kernel_rfl)) ?_
              exact Rs_weak (W_to (by kernel_rfl) (by kernel_rfl) (by kernel_rfl)) (K22 _ (by rw [hc] <;> rfl))
            · refine S_skip (b := false) (by kernel_rfl) rfl ?_
              refine S_skip (b := false) (by kernel_rfl) rfl ?_
              refine S_pure trivial (O_pkf (d := .u (.bool false)) (by kernel_rfl) (by kernel_rfl)) ?_
              exact Rs_weak (W_to (by kernel_rfl) (by kernel_rfl) (by kernel_rfl)) (K22 _ (by rw [hc] <;> rfl))
          refine R_loop (law11_EvalFoldsInAnyOrder.l34 l_1) (fun s28 => (mkSt [(0, .u (.int .i64 ((IntKind.i64.wrap (20 + y1))))), (1, .u (.sl (List.map (cInt .i64) l_1))), (2, .u (.int .i64 i_2)), (3, .u (.int .i64 k_3)), (9, .msl 0 s28.2.1.length), (10, .msl 1 s28.2.2.length), (11, .u (.int .i64 s28.1))] [(0, .row 1 (List.map (cInt .i64) s28.2.1)), (1, .row 1 (List.map (cInt .i64) s28.2.2))] 4)) hE (W_to (by kernel_rfl) (by kernel_rfl) (by kernel_rfl)) ?_
          intro K10 s28 x29 h hK10 hO10
          refine R_seq ?_
          refine R_seq ?_
          refine R_reg ?_
          refine S_pure trivial (O_mv (d := .u (.int .i64 s28.1)) (by kernel_rfl)) ?_
          refine S_pure trivial (O_mv (d := .u (.sl (List.map (cInt .i64) l_1))) (by kernel_rfl)) ?_
          refine S_pure trivial (O_ln (c := (cInt .i64)) (li := l_1) (by kernel_rfl)) ?_
          refine S_pure trivial (O_lss (k := .i64) (a := s28.1) (b := (List.length l_1 : Int)) (by kernel_rfl) (by kernel_rfl)) ?_
          refine Rs_nil ?_
          refine N_s ?_
          refine R_cond (c := (decide (s28.1 < (List.length l_1 : Int)))) (by kernel_rfl) h (fun h => ?_) (fun h => ?_)
          · refine R_skip ?_
            refine N_s ?_
            refine R_seq ?_
            refine R_block ?_
            refine R_rgd (show Try.prog.follows .mixedOrders = true from Checked.mixed Try.checked) ?_
            refine Rg_pure 1000 [0] trivial (O_mv (d := .msl 0 s28.2.1.length) (by kernel_rfl)) (by kernel_rfl) ?_
            refine Rg_pure 1001 [] trivial (O_mv (d := .u (.sl (List.map (cInt .i64) l_1))) (by kernel_rfl)) (by kernel_rfl) ?_
            refine Rg_pure 1002 [] trivial (O_mv (d := .u (.int .i64 s28.1)) (by kernel_rfl)) (by kernel_rfl) ?_
            obtain ⟨y30, hy30, h⟩ := bindS h
            refine Rg_pure 1003 [] trivial (O_ia (c := (cInt .i64)) (li := l_1) (i := s28.1) (k := .i64) (a := y30) (u := (cInt .i64) y30) (by kernel_rfl) (by kernel_rfl) hy30 rfl rfl) (by kernel_rfl) ?_
            refine Rg_pure 1004 [] trivial (O_ldf (cells := (cInt .i64) y30) (off := 0) (u := .int .i64 y30) (by kernel_rfl) (by kernel_rfl)) (by kernel_rfl) ?_
            obtain ⟨y31, hy31, h⟩ := bindS h
            refine Rg_pure 1005 [] trivial (O_ca (us := [.int .i64 y30]) (r := .int .i64 y31) (by kernel_rfl) (ref11_Saturate.ok hy31)) (by kernel_rfl) ?_
            refine Rg_new [] trivial (O_bs (els := [[.u (.int .i64 y31)]]) (uss := List.map (cInt .i64) ([y31])) (m := List.length ([y31])) (by kernel_rfl) rfl (by kernel_rfl) (by kernel_rfl)) (by kernel_rfl) ?_
            obtain ⟨hb, h⟩ := chkS h
            refine Rg_app (L' := [(48, .msl 4 [y31].length), (47, .u (.int .i64 y31)), (46, .u (.int .i64 y30)), (45, .u (.fp ((cInt .i64) y30) 0)), (44, .u (.int .i64 s28.1)), (43, .u (.sl (List.map (cInt .i64) l_1))), (42, .any), (39, .u (.bool ((decide (s28.1 < (List.length l_1 : Int)))))), (38, .u (.int .i64 ((List.length l_1 : Int)))), (37, .u (.sl (List.map (cInt .i64) l_1))), (36, .u (.int .i64 s28.1)), (0, .u (.int .i64 ((IntKind.i64.wrap (20 + y1))))), (1, .u (.sl (List.map (cInt .i64) l_1))), (2, .u (.int .i64 i_2)), (3, .u (.int .i64 k_3)), (9, .any), (10, .msl 1 s28.2.2.length), (11, .u (.int .i64 s28.1))]) (O' := [(4, .row 1 (List.map (cInt .i64) ([y31]))), (0, .row 1 (List.map (cInt .i64) s28.2.1)), (1, .row 1 (List.map (cInt .i64) s28.2.2))]) 1007 [0, 4] trivial (O_apm (c := (cInt .i64)) (li := s28.2.1) (lj := [y31]) (b := 0) (by kernel_rfl) (by kernel_rfl) (by show Srcs _ _ _ (.msl 4 [y31].length); exact Srcs.own (c := (cInt .i64)) (li := [y31]) 4 (by kernel_rfl)) hb) (by kernel_rfl) (by kernel_rfl) (by kernel_rfl) ?_
            refine Rg_pure 1008 [1] trivial (O_mv (d := .msl 1 s28.2.2.length) (by kernel_rfl)) (by kernel_rfl) ?_
            refine Rg_pure 1009 [] trivial (O_mv (d := .u (.sl (List.map (cInt .i64) l_1))) (by kernel_rfl)) (by kernel_rfl) ?_
            refine Rg_pure 1010 [] trivial (O_mv (d := .u (.int .i64 s28.1)) (by kernel_rfl)) (by kernel_rfl) ?_
            obtain ⟨y32, hy32, h⟩ := bindS h
            refine Rg_pure 1011 [] trivial (O_ia (c := (cInt .i64)) (li := l_1) (i := s28.1) (k := .i64) (a := y32) (u := (cInt .i64) y32) (by kernel_rfl) (by kernel_rfl) hy32 rfl rfl) (by kernel_rfl) ?_
            refine Rg_pure 1012 [] trivial (O_ldf (cells := (cInt .i64) y32) (off := 0) (u := .int .i64 y32) (by kernel_rfl) (by kernel_rfl)) (by kernel_rfl) ?_
            obtain ⟨y33, hy33, h⟩ := bindS h
            refine Rg_pure 1013 [] trivial (O_ca (us := [.int .i64 y32]) (r := .int .i64 y33) (by kernel_rfl) (ref11_Saturate.ok hy33)) (by kernel_rfl) ?_
            refine Rg_new [] trivial (O_bs (els := [[.u (.int .i64 y33)]]) (uss := List.map (cInt .i64) ([y33])) (m := List.length ([y33])) (by kernel_rfl) rfl (by kernel_rfl) (by kernel_rfl)) (by kernel_rfl) ?_
            obtain ⟨hb, h⟩ := chkS h
            refine Rg_app (L' := [(56, .msl 5 [y33].length), (55, .u (.int .i64 y33)), (54, .u (.int .i64 y32)), (53, .u (.fp ((cInt .i64) y32) 0)), (52, .u (.int .i64 s28.1)), (51, .u (.sl (List.map (cInt .i64) l_1))), (50, .any), (49, .msl 0 (s28.2.1 ++ [y31]).length), (48, .msl 4 [y31].length), (47, .u (.int .i64 y31)), (46, .u (.int .i64 y30)), (45, .u (.fp ((cInt .i64) y30) 0)), (44, .u (.int .i64 s28.1)), (43, .u (.sl (List.map (cInt .i64) l_1))), (42, .any), (39, .u (.bool ((decide (s28.1 < (List.length l_1 : Int)))))), (38, .u (.int .i64 ((List.length l_1 : Int)))), (37, .u (.sl (List.map (cInt .i64) l_1))), (36, .u (.int .i64 s28.1)), (0, .u (.int .i64 ((IntKind.i64.wrap (20 + y1))))), (1, .u (.sl (List.map (cInt .i64) l_1))), (2, .u (.int .i64 i_2)), (3, .u (.int .i64 k_3)), (9, .any), (10, .any), (11, .u (.int .i64 s28.1))]) (O' := [(5, .row 1 (List.map (cInt .i64) ([y33]))), (0, .row 1 (List.map (cInt .i64) ((s28.2.1 ++ [y31])))), (4, .row 1 (List.map (cInt .i64) ([y31]))), (0, .row 1 (List.map (cInt .i64) s28.2.1)), (1, .row 1 (List.map (cInt .i64) s28.2.2))]) 1015 [1, 5] trivial (O_apm (c := (cInt .i64)) (li := s28.2.2) (lj := [y33]) (b := 1) (by kernel_rfl) (by kernel_rfl) (by show Srcs _ _ _ (.msl 5 [y33].length); exact Srcs.own (c := (cInt .i64)) (li := [y33]) 5 (by kernel_rfl)) hb) (by kernel_rfl) (by kernel_rfl) (by kernel_rfl) ?_
            refine Rg_pure 1016 [0] trivial (O_mv (d := .msl 0 (s28.2.1 ++ [y31]).length) (by kernel_rfl)) (by kernel_rfl) ?_
            refine Rg_pure 1017 [1] trivial (O_mv (d := .msl 1 (s28.2.2 ++ [y33]).length) (by kernel_rfl)) (by kernel_rfl) ?_
            refine Rg_nil (by kernel_rfl) ?_
            refine N_b ?_
            refine N_s ?_
            refine R_reg ?_
            refine S_pure trivial (O_mv (d := .u (.int .i64 s28.1)) (by kernel_rfl)) ?_
            refine S_pure trivial (O_add (k := .i64) (a := s28.1) (b := 1) (by kernel_rfl) (by kernel_rfl)) ?_
            refine S_pure trivial (O_mv (d := .u (.int .i64 ((IntKind.i64.wrap (s28.1 + 1))))) (by kernel_rfl)) ?_
            refine Rs_nil ?_
            exact N_k (hK10 _ h _ (W_to (by kernel_rfl) (by kernel_rfl) (by kernel_rfl)))
          · refine R_exit ?_
            refine E_s ?_
            refine E_k ?_
            refine E_b ?_
            refine N_s ?_
            exact R_weak (W_to (by kernel_rfl) (by kernel_rfl) (by kernel_rfl)) (K12 _ (hO10 _ h))
      refine S_case0 (t := 31) (c := (((decide ((List.length l_1 : Int) = 0)) || (decide (24 ≤ (List.length l_1 : Int)))) || (decide ((IntKind.i64.wrap (20 + y1)) = 23)))) (by kernel_rfl) (fun hc => ?_) (fun hc => ?_)
      · refine S_skip (b := true) (by kernel_rfl) rfl ?_
        refine S_skip (b := true) (by kernel_rfl) rfl ?_
        refine S_pure trivial (O_pkt (d := .u (.bool true)) (by kernel_rfl) (by kernel_rfl)) ?_
        exact Rs_weak (W_to (by kernel_rfl) (by kernel_rfl) (by kernel_rfl)) (K6 _ (by rw [hc] <;> rfl))
      · refine S_pure (by show _ = _; kernel_rfl) (O_mv (d := .u (.int .i64 ((IntKind.i64.wrap (20 + y1))))) (by kernel_rfl)) ?_
        refine S_pure (by show _ = _; kernel_rfl) (O_eql (k := .i64) (a := (IntKind.i64.wrap (20 + y1))) (b := 29) (by kernel_rfl) (by kernel_rfl)) ?_
        refine S_pure trivial (O_pkf (d := .u (.bool ((decide ((IntKind.i64.wrap (20 + y1)) = 29))))) (by kernel_rfl) (by kernel_rfl)) ?_
        exact Rs_weak (W_to (by kernel_rfl) (by kernel_rfl) (by kernel_rfl)) (K6 _ (by rw [hc] <;> rfl))
    refine S_case0 (t := 27) (c := ((decide ((List.length l_1 : Int) = 0)) || (decide (24 ≤ (List.length l_1 : Int))))) (by kernel_rfl) (fun hc => ?_) (fun hc => ?_)
    · refine S_skip (b := true) (by kernel_rfl) rfl ?_
      refine S_skip (b := true) (by kernel_rfl) rfl ?_
      refine S_pure trivial (O_pkt (d := .u (.bool true)) (by kernel_rfl) (by kernel_rfl)) ?_
      exact Rs_weak (W_to (by kernel_rfl) (by kernel_rfl) (by kernel_rfl)) (K4 _ (by rw [hc] <;> rfl))
    · refine S_pure (by show _ = _; kernel_rfl) (O_mv (d := .u (.int .i64 ((IntKind.i64.wrap (20 + y1))))) (by kernel_rfl)) ?_
      refine S_pure (by show _ = _; kernel_rfl) (O_eql (k := .i64) (a := (IntKind.i64.wrap (20 + y1))) (b := 23) (by kernel_rfl) (by kernel_rfl)) ?_
      refine S_pure trivial (O_pkf (d := .u (.bool ((decide ((IntKind.i64.wrap (20 + y1)) = 23))))) (by kernel_rfl) (by kernel_rfl)) ?_
      exact Rs_weak (W_to (by kernel_rfl) (by kernel_rfl) (by kernel_rfl)) (K4 _ (by rw [hc] <;> rfl))
  refine S_case0 (t := 22) (c := (decide ((List.length l_1 : Int) = 0))) (by kernel_rfl) (fun hc => ?_) (fun hc => ?_)
  · refine S_skip (b := true) (by kernel_rfl) rfl ?_
    refine S_skip (b := true) (by kernel_rfl) rfl ?_
    refine S_skip (b := true) (by kernel_rfl) rfl ?_
    refine S_pure trivial (O_pkt (d := .u (.bool true)) (by kernel_rfl) (by kernel_rfl)) ?_
    exact Rs_weak (W_to (by kernel_rfl) (by kernel_rfl) (by kernel_rfl)) (K2 _ (by rw [hc] <;> rfl))
  · refine S_pure (by show _ = _; kernel_rfl) (O_mv (d := .u (.sl (List.map (cInt .i64) l_1))) (by kernel_rfl)) ?_
    refine S_pure (by show _ = _; kernel_rfl) (O_ln (c := (cInt .i64)) (li := l_1) (by kernel_rfl)) ?_
    refine S_pure (by show _ = _; kernel_rfl) (O_geq (k := .i64) (a := (List.length l_1 : Int)) (b := 24) (by kernel_rfl) (by kernel_rfl)) ?_
    refine S_pure trivial (O_pkf (d := .u (.bool ((decide (24 ≤ (List.length l_1 : Int)))))) (by kernel_rfl) (by kernel_rfl)) ?_
    exact Rs_weak (W_to (by kernel_rfl) (by kernel_rfl) (by kernel_rfl)) (K2 _ (by rw [hc] <;> rfl))

end Go.Proofs.Ytkpghgnbbfpbmaa
