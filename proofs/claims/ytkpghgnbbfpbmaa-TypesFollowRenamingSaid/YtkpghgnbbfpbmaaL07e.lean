/- Functions of the program over typed data, and that the program's functions come to their results: written by a program (lift.py). -/
import Derived.Test.YtkpghgnbbfpbmaaL07d
import Derived.Test.YtkpghgnbbfpbmaaChecked
set_option linter.unusedVariables false
set_option maxRecDepth 100000
set_option maxHeartbeats 1000000
namespace Go.Proofs.Ytkpghgnbbfpbmaa

/-! ### selfstab/selfstablaw07.TypesOfParts -/
def q_law07_TypesOfParts_1 : AC := .reg [⟨some 6, none, .mv (.c (.bool false))⟩]
def q_law07_TypesOfParts_2 : AC := .seq q_law07_TypesOfParts_1 .ret
def q_law07_TypesOfParts_3 : AC := .cond (.t 94) q_law07_TypesOfParts_2 .skip
def q_law07_TypesOfParts_4 : AC := .reg [⟨some 66, none, .mv (.t 12)⟩, ⟨some 67, none, .bi .add (.t 66) (.c (.int .i64 1))⟩, ⟨some 12, none, .mv (.t 67)⟩]
def q_law07_TypesOfParts_5 : AC := .reg [⟨some 95, none, .ca 25 []⟩, ⟨some 96, none, .mv (.t 95)⟩, ⟨some 97, some (96, true), .mv (.t 7)⟩, ⟨some 98, some (96, true), .bi .geq (.t 97) (.c (.int .i64 1))⟩, ⟨some 99, none, .pk (.t 96) (.t 98) (.c (.bool false))⟩, ⟨some 100, none, .mv (.t 99)⟩, ⟨some 101, some (100, true), .mv (.t 7)⟩, ⟨some 102, some (100, true), .bi .leq (.t 101) (.c (.int .i64 3))⟩, ⟨some 103, none, .pk (.t 100) (.t 102) (.c (.bool false))⟩, ⟨some 6, none, .mv (.t 103)⟩]
def q_law07_TypesOfParts_6 : AC := .seq q_law07_TypesOfParts_5 .ret
def q_law07_TypesOfParts_7 : AC := .reg [⟨some 85, none, .mv (.t 16)⟩, ⟨some 86, none, .bi .neq (.t 85) (.c (.int .i64 0))⟩, ⟨some 87, none, .mv (.t 86)⟩, ⟨some 88, some (87, false), .mv (.t 15)⟩, ⟨some 89, some (87, false), .bi .lss (.t 88) (.c (.int .i64 1))⟩, ⟨some 90, none, .pk (.t 87) (.c (.bool true)) (.t 89)⟩, ⟨some 91, none, .mv (.t 90)⟩, ⟨some 92, some (91, false), .mv (.t 15)⟩, ⟨some 93, some (91, false), .bi .gtr (.t 92) (.c (.int .i64 3))⟩, ⟨some 94, none, .pk (.t 91) (.c (.bool true)) (.t 93)⟩]
def q_law07_TypesOfParts_8 : AC := .seq q_law07_TypesOfParts_7 q_law07_TypesOfParts_3
def q_law07_TypesOfParts_9 : AC := .reg [⟨some 79, none, .mv (.t 14)⟩, ⟨some 80, none, .mv (.t 1)⟩, ⟨some 81, none, .mv (.t 11)⟩, ⟨some 82, none, .ca 26 [.t 79, .t 80, .t 81]⟩, ⟨some 78, none, .mv (.t 82)⟩, ⟨some 83, none, .ex (.t 78) 0⟩, ⟨some 84, none, .ex (.t 78) 1⟩, ⟨some 15, none, .mv (.t 83)⟩, ⟨some 16, none, .mv (.t 84)⟩]
def q_law07_TypesOfParts_10 : AC := .seq q_law07_TypesOfParts_9 q_law07_TypesOfParts_8
def q_law07_TypesOfParts_11 : AC := .reg [⟨some 71, none, .mv (.t 0)⟩, ⟨some 72, none, .mv (.t 13)⟩, ⟨some 73, none, .mv (.t 0)⟩, ⟨some 74, none, .mv (.t 13)⟩, ⟨some 75, none, .ca 31 [.t 73, .t 74]⟩, ⟨some 76, none, .sl 2 (.t 71) (some (.t 72)) (some (.t 75))⟩, ⟨some 77, none, .ap 2 16 (.c (.nil)) (.t 76)⟩, ⟨some 14, none, .mv (.t 77)⟩]
def q_law07_TypesOfParts_12 : AC := .seq q_law07_TypesOfParts_11 q_law07_TypesOfParts_10
def q_law07_TypesOfParts_13 : AC := .reg [⟨some 68, none, .mv (.t 0)⟩, ⟨some 69, none, .mv (.t 12)⟩, ⟨some 70, none, .ca 30 [.t 68, .c (.int .i64 0), .t 69]⟩, ⟨some 13, none, .mv (.t 70)⟩]
def q_law07_TypesOfParts_14 : AC := .seq q_law07_TypesOfParts_13 q_law07_TypesOfParts_12
def q_law07_TypesOfParts_15 : AC := .block 1 q_law07_TypesOfParts_14
def q_law07_TypesOfParts_16 : AC := .seq q_law07_TypesOfParts_15 q_law07_TypesOfParts_4
def q_law07_TypesOfParts_17 : AC := .cond (.t 65) .skip (.exit 0)
def q_law07_TypesOfParts_18 : AC := .reg [⟨some 59, none, .mv (.t 12)⟩, ⟨some 60, none, .mv (.t 0)⟩, ⟨some 61, none, .ia 2 (.t 60) (.c (.int .i64 0))⟩, ⟨some 62, none, .fa 0 (.t 61)⟩, ⟨some 63, none, .ld false 1 (.t 62)⟩, ⟨some 64, none, .ca 29 [.t 63]⟩, ⟨some 65, none, .bi .lss (.t 59) (.t 64)⟩]
def q_law07_TypesOfParts_19 : AC := .seq q_law07_TypesOfParts_18 q_law07_TypesOfParts_17
def q_law07_TypesOfParts_20 : AC := .seq q_law07_TypesOfParts_19 q_law07_TypesOfParts_16
def q_law07_TypesOfParts_21 : AC := .loop q_law07_TypesOfParts_20
def q_law07_TypesOfParts_22 : AC := .block 0 q_law07_TypesOfParts_21
def q_law07_TypesOfParts_23 : AC := .reg [⟨some 12, none, .mv (.c (.int .i64 0))⟩]
def q_law07_TypesOfParts_24 : AC := .seq q_law07_TypesOfParts_23 q_law07_TypesOfParts_22
def q_law07_TypesOfParts_25 : AC := .seq q_law07_TypesOfParts_24 q_law07_TypesOfParts_6
def q_law07_TypesOfParts_26 : AC := .reg [⟨some 6, none, .mv (.c (.bool false))⟩]
def q_law07_TypesOfParts_27 : AC := .seq q_law07_TypesOfParts_26 .ret
def q_law07_TypesOfParts_28 : AC := .cond (.t 47) q_law07_TypesOfParts_27 .skip
def q_law07_TypesOfParts_29 : AC := .reg [⟨some 51, none, .mv (.t 2)⟩, ⟨some 52, none, .mv (.t 51)⟩, ⟨some 53, some (52, false), .mv (.t 0)⟩, ⟨some 54, some (52, false), .ia 2 (.t 53) (.c (.int .i64 0))⟩, ⟨some 55, some (52, false), .fa 0 (.t 54)⟩, ⟨some 56, some (52, false), .ld false 1 (.t 55)⟩, ⟨some 57, some (52, false), .ca 28 [.t 56]⟩, ⟨some 58, none, .pk (.t 52) (.c (.bool true)) (.t 57)⟩, ⟨some 11, none, .mv (.t 58)⟩]
def q_law07_TypesOfParts_30 : AC := .seq q_law07_TypesOfParts_29 q_law07_TypesOfParts_25
def q_law07_TypesOfParts_31 : AC := .reg [⟨some 50, none, .ca 25 []⟩, ⟨some 6, none, .mv (.t 50)⟩]
def q_law07_TypesOfParts_32 : AC := .seq q_law07_TypesOfParts_31 .ret
def q_law07_TypesOfParts_33 : AC := .cond (.t 49) q_law07_TypesOfParts_32 .skip
def q_law07_TypesOfParts_34 : AC := .reg [⟨some 48, none, .mv (.t 8)⟩, ⟨some 49, none, .bi .neq (.t 48) (.c (.int .i64 0))⟩]
def q_law07_TypesOfParts_35 : AC := .seq q_law07_TypesOfParts_34 q_law07_TypesOfParts_33
def q_law07_TypesOfParts_36 : AC := .seq q_law07_TypesOfParts_35 q_law07_TypesOfParts_30
def q_law07_TypesOfParts_37 : AC := .reg [⟨some 25, none, .ca 25 []⟩, ⟨some 6, none, .mv (.t 25)⟩]
def q_law07_TypesOfParts_38 : AC := .seq q_law07_TypesOfParts_37 .ret
def q_law07_TypesOfParts_39 : AC := .cond (.t 24) q_law07_TypesOfParts_38 .skip
def q_law07_TypesOfParts_40 : AC := .reg [⟨some 40, none, .mv (.t 8)⟩, ⟨some 41, none, .mv (.t 10)⟩, ⟨some 42, none, .bi .neq (.t 40) (.t 41)⟩, ⟨some 43, none, .mv (.t 42)⟩, ⟨some 44, some (43, false), .mv (.t 7)⟩, ⟨some 45, some (43, false), .mv (.t 9)⟩, ⟨some 46, some (43, false), .bi .neq (.t 44) (.t 45)⟩, ⟨some 47, none, .pk (.t 43) (.c (.bool true)) (.t 46)⟩]
def q_law07_TypesOfParts_41 : AC := .seq q_law07_TypesOfParts_40 q_law07_TypesOfParts_28
def q_law07_TypesOfParts_42 : AC := .reg [⟨some 34, none, .mv (.t 0)⟩, ⟨some 35, none, .mv (.t 1)⟩, ⟨some 36, none, .mv (.t 2)⟩, ⟨some 37, none, .ca 27 [.t 34, .t 35, .t 36]⟩, ⟨some 33, none, .mv (.t 37)⟩, ⟨some 38, none, .ex (.t 33) 0⟩, ⟨some 39, none, .ex (.t 33) 1⟩, ⟨some 9, none, .mv (.t 38)⟩, ⟨some 10, none, .mv (.t 39)⟩]
def q_law07_TypesOfParts_43 : AC := .seq q_law07_TypesOfParts_42 q_law07_TypesOfParts_41
def q_law07_TypesOfParts_44 : AC := .seq q_law07_TypesOfParts_43 q_law07_TypesOfParts_36
def q_law07_TypesOfParts_45 : AC := .reg [⟨some 27, none, .mv (.t 0)⟩, ⟨some 28, none, .mv (.t 1)⟩, ⟨some 29, none, .mv (.t 2)⟩, ⟨some 30, none, .ca 26 [.t 27, .t 28, .t 29]⟩, ⟨some 26, none, .mv (.t 30)⟩, ⟨some 31, none, .ex (.t 26) 0⟩, ⟨some 32, none, .ex (.t 26) 1⟩, ⟨some 7, none, .mv (.t 31)⟩, ⟨some 8, none, .mv (.t 32)⟩]
def q_law07_TypesOfParts_46 : AC := .seq q_law07_TypesOfParts_45 q_law07_TypesOfParts_44
def q_law07_TypesOfParts_47 : AC := .reg [⟨some 17, none, .mv (.t 0)⟩, ⟨some 18, none, .ca 24 [.t 17]⟩, ⟨some 19, none, .un .not (.t 18)⟩, ⟨some 20, none, .mv (.t 19)⟩, ⟨some 21, some (20, false), .mv (.t 1)⟩, ⟨some 22, some (20, false), .ln (.t 21)⟩, ⟨some 23, some (20, false), .bi .gtr (.t 22) (.c (.int .i64 10))⟩, ⟨some 24, none, .pk (.t 20) (.c (.bool true)) (.t 23)⟩]
def q_law07_TypesOfParts_48 : AC := .seq q_law07_TypesOfParts_47 q_law07_TypesOfParts_39
def q_law07_TypesOfParts_49 : AC := .seq q_law07_TypesOfParts_48 q_law07_TypesOfParts_46
def q_law07_TypesOfParts_50 : AC := .reg [⟨some 6, none, .mv (.c (.bool false))⟩]
def q_law07_TypesOfParts_51 : AC := .seq q_law07_TypesOfParts_50 q_law07_TypesOfParts_49
def c_law07_TypesOfParts : FC := ⟨104, [6], q_law07_TypesOfParts_51⟩
theorem k_law07_TypesOfParts : okF Try.prog 8 c_law07_TypesOfParts = true := by decide +kernel
noncomputable def law07_TypesOfParts.l36 (e_0 : List ApiTerm) (kinds_1 : List Int) (o12 : Bool) (s24 : Int) : Option (Int ⊕ (Unit ⊕ Bool)) := ((idx e_0 0).bind (fun (y26 : ApiTerm) => ((ref05_Arity y26.Op).bind (fun (y27 : Int) => (bif (decide (s24 < y27)) then ((ref05_Operand e_0 0 s24).bind (fun (y28 : Int) => ((ref05_End e_0 y28).bind (fun (y29 : Int) => ((slc e_0 y28 y29).bind (fun (y30 : List ApiTerm) => (bif (room (List.length y30) 16) then ((types_Of y30 kinds_1 o12).bind (fun (y31 : Int × Int) => (bif (((!decide (y31.2 = 0)) || (decide (y31.1 < 1))) || (decide (3 < y31.1))) then (some (Sum.inr (Sum.inr false))) else (some (Sum.inl (IntKind.i64.wrap (s24 + 1))))))) else none))))))) else (some (Sum.inr (Sum.inl ()))))))))
noncomputable def law07_TypesOfParts (e_0 : List ApiTerm) (kinds_1 : List Int) (bound_2 : Bool) : Option Bool := ((made_LightExpr e_0).bind (fun (y1 : Bool) => (bif ((!y1) || (decide (10 < (List.length kinds_1 : Int)))) then ((law07_awake).bind (fun (y4 : Bool) => (some y4))) else ((types_Of e_0 kinds_1 bound_2).bind (fun (y5 : Int × Int) => ((ref07_Of e_0 kinds_1 bound_2).bind (fun (y6 : Int × Int) => (bif ((!decide (y5.2 = y6.2)) || (!decide (y5.1 = y6.1))) then (some false) else (bif (!decide (y5.2 = 0)) then ((law07_awake).bind (fun (y9 : Bool) => (some y9))) else ((bif bound_2 then (some true) else ((idx e_0 0).bind (fun (y37 : ApiTerm) => ((ref05_Aggregate y37.Op).bind (fun (y38 : Bool) => (some y38)))))).bind (fun (o12 : Bool) => ((loopO (law07_TypesOfParts.l36 e_0 kinds_1 o12) 0).bind (Sum.elim (fun (w15 : Unit) => ((law07_awake).bind (fun (y17 : Bool) => (some ((y17 && (decide (1 ≤ y5.1))) && (decide (y5.1 ≤ 3))))))) (fun (w22 : Bool) => (some w22)))))))))))))))
theorem law07_TypesOfParts.ok {e_0 : List ApiTerm} {kinds_1 : List Int} {bound_2 : Bool} {r : Bool} (h : law07_TypesOfParts e_0 kinds_1 bound_2 = some r) : PC Try.prog 8 [.sl (List.map ApiTerm.cells e_0), .sl (List.map (cInt .i64) kinds_1), .bool bound_2] (.bool r) := by
  refine PC_run k_law07_TypesOfParts rfl (L := [(0, .u (.sl (List.map ApiTerm.cells e_0))), (1, .u (.sl (List.map (cInt .i64) kinds_1))), (2, .u (.bool bound_2))]) rfl ?_
  show Run Try.prog 104 (retQ [6] (.bool r)) [] q_law07_TypesOfParts_51 _
  refine R_seq ?_
  refine R_reg ?_
  refine S_pure trivial (O_mv (d := .u (.bool false)) (by kernel_rfl)) ?_
  refine Rs_nil ?_
  refine N_s ?_
  refine R_seq ?_
  refine R_seq ?_
  refine R_reg ?_
  refine S_pure trivial (O_mv (d := .u (.sl (List.map ApiTerm.cells e_0))) (by kernel_rfl)) ?_
  obtain ⟨y1, hy1, h⟩ := bindS h
  refine S_pure trivial (O_ca (us := [.sl (List.map ApiTerm.cells e_0)]) (r := .bool y1) (by kernel_rfl) (made_LightExpr.ok hy1)) ?_
  refine S_pure trivial (O_not (b := y1) (by kernel_rfl)) ?_
  refine S_pure trivial (O_mv (d := .u (.bool ((!y1)))) (by kernel_rfl)) ?_
  have K2 : ∀ v3 : Bool, v3 = ((!y1) || (decide (10 < (List.length kinds_1 : Int)))) → Rs Try.prog 104 (retQ [6] (.bool r)) [.s q_law07_TypesOfParts_39, .s q_law07_TypesOfParts_46] [] (mkSt [(0, .u (.sl (List.map ApiTerm.cells e_0))), (1, .u (.sl (List.map (cInt .i64) kinds_1))), (2, .u (.bool bound_2)), (24, .u (.bool v3))] [] 0) := by
    intro v3 e; subst e
    refine Rs_nil ?_
    refine N_s ?_
    refine R_cond (c := ((!y1) || (decide (10 < (List.length kinds_1 : Int))))) (by kernel_rfl) h (fun h => ?_) (fun h => ?_)
    · refine R_seq ?_
      refine R_reg ?_
      obtain ⟨y4, hy4, h⟩ := bindS h
      refine S_pure trivial (O_ca (us := []) (r := .bool y4) (by kernel_rfl) (law07_awake.ok hy4)) ?_
      refine S_pure trivial (O_mv (d := .u (.bool y4)) (by kernel_rfl)) ?_
      refine Rs_nil ?_
      refine N_s ?_
      obtain rfl := (Option.some.inj h)
      refine R_ret ?_
      exact Q_ret (x := .bool y4) (by kernel_rfl) (.refl _)
    · refine R_skip ?_
      refine N_s ?_
      refine R_seq ?_
      refine R_reg ?_
      refine S_pure trivial (O_mv (d := .u (.sl (List.map ApiTerm.cells e_0))) (by kernel_rfl)) ?_
      refine S_pure trivial (O_mv (d := .u (.sl (List.map (cInt .i64) kinds_1))) (by kernel_rfl)) ?_
      refine S_pure trivial (O_mv (d := .u (.bool bound_2)) (by kernel_rfl)) ?_
      obtain ⟨y5, hy5, h⟩ := bindS h
      refine S_pure trivial (O_ca (us := [.sl (List.map ApiTerm.cells e_0), .sl (List.map (cInt .i64) kinds_1), .bool bound_2]) (r := .tup [.int .i64 y5.1, .int .i64 y5.2]) (by kernel_rfl) (types_Of.ok hy5)) ?_
      refine S_pure trivial (O_mv (d := .u (.tup [.int .i64 y5.1, .int .i64 y5.2])) (by kernel_rfl)) ?_
      refine S_pure trivial (O_ex (us := [.int .i64 y5.1, .int .i64 y5.2]) (u := .int .i64 y5.1) (by kernel_rfl) (by kernel_rfl)) ?_
      refine S_pure trivial (O_ex (us := [.int .i64 y5.1, .int .i64 y5.2]) (u := .int .i64 y5.2) (by kernel_rfl) (by kernel_rfl)) ?_
      refine S_pure trivial (O_mv (d := .u (.int .i64 y5.1)) (by kernel_rfl)) ?_
      refine S_pure trivial (O_mv (d := .u (.int .i64 y5.2)) (by kernel_rfl)) ?_
      refine Rs_nil ?_
      refine N_s ?_
      refine R_seq ?_
      refine R_seq ?_
      refine R_reg ?_
      refine S_pure trivial (O_mv (d := .u (.sl (List.map ApiTerm.cells e_0))) (by kernel_rfl)) ?_
      refine S_pure trivial (O_mv (d := .u (.sl (List.map (cInt .i64) kinds_1))) (by kernel_rfl)) ?_
      refine S_pure trivial (O_mv (d := .u (.bool bound_2)) (by kernel_rfl)) ?_
      obtain ⟨y6, hy6, h⟩ := bindS h
      refine S_pure trivial (O_ca (us := [.sl (List.map ApiTerm.cells e_0), .sl (List.map (cInt .i64) kinds_1), .bool bound_2]) (r := .tup [.int .i64 y6.1, .int .i64 y6.2]) (by kernel_rfl) (ref07_Of.ok hy6)) ?_
      refine S_pure trivial (O_mv (d := .u (.tup [.int .i64 y6.1, .int .i64 y6.2])) (by kernel_rfl)) ?_
      refine S_pure trivial (O_ex (us := [.int .i64 y6.1, .int .i64 y6.2]) (u := .int .i64 y6.1) (by kernel_rfl) (by kernel_rfl)) ?_
      refine S_pure trivial (O_ex (us := [.int .i64 y6.1, .int .i64 y6.2]) (u := .int .i64 y6.2) (by kernel_rfl) (by kernel_rfl)) ?_
      refine S_pure trivial (O_mv (d := .u (.int .i64 y6.1)) (by kernel_rfl)) ?_
      refine S_pure trivial (O_mv (d := .u (.int .i64 y6.2)) (by kernel_rfl)) ?_
      refine Rs_nil ?_
      refine N_s ?_
      refine R_seq ?_
      refine R_reg ?_
      refine S_pure trivial (O_mv (d := .u (.int .i64 y5.2)) (by kernel_rfl)) ?_
      refine S_pure trivial (O_mv (d := .u (.int .i64 y6.2)) (by kernel_rfl)) ?_
      refine S_pure trivial (O_neq (k := .i64) (a := y5.2) (b := y6.2) (by kernel_rfl) (by kernel_rfl)) ?_
      refine S_pure trivial (O_mv (d := .u (.bool ((!decide (y5.2 = y6.2))))) (by kernel_rfl)) ?_
      have K7 : ∀ v8 : Bool, v8 = ((!decide (y5.2 = y6.2)) || (!decide (y5.1 = y6.1))) → Rs Try.prog 104 (retQ [6] (.bool r)) [.s q_law07_TypesOfParts_28, .s q_law07_TypesOfParts_36] [] (mkSt [(0, .u (.sl (List.map ApiTerm.cells e_0))), (1, .u (.sl (List.map (cInt .i64) kinds_1))), (2, .u (.bool bound_2)), (7, .u (.int .i64 y5.1)), (8, .u (.int .i64 y5.2)), (47, .u (.bool v8))] [] 0) := by
        intro v8 e; subst e
        refine Rs_nil ?_
        refine N_s ?_
        refine R_cond (c := ((!decide (y5.2 = y6.2)) || (!decide (y5.1 = y6.1)))) (by kernel_rfl) h (fun h => ?_) (fun h => ?_)
        · refine R_seq ?_
          refine R_reg ?_
          refine S_pure trivial (O_mv (d := .u (.bool false)) (by kernel_rfl)) ?_
          refine Rs_nil ?_
          refine N_s ?_
          obtain rfl := (Option.some.inj h)
          refine R_ret ?_
          exact Q_ret (x := .bool false) (by kernel_rfl) (.refl _)
        · refine R_skip ?_
          refine N_s ?_
          refine R_seq ?_
          refine R_seq ?_
          refine R_reg ?_
          refine S_pure trivial (O_mv (d := .u (.int .i64 y5.2)) (by kernel_rfl)) ?_
          refine S_pure trivial (O_neq (k := .i64) (a := y5.2) (b := 0) (by kernel_rfl) (by kernel_rfl)) ?_
          refine Rs_nil ?_
          refine N_s ?_
          refine R_cond (c := (!decide (y5.2 = 0))) (by kernel_rfl) h (fun h => ?_) (fun h => ?_)
          · refine R_seq ?_
            refine R_reg ?_
            obtain ⟨y9, hy9, h⟩ := bindS h
            refine S_pure trivial (O_ca (us := []) (r := .bool y9) (by kernel_rfl) (law07_awake.ok hy9)) ?_
            refine S_pure trivial (O_mv (d := .u (.bool y9)) (by kernel_rfl)) ?_
            refine Rs_nil ?_
            refine N_s ?_
            obtain rfl := (Option.some.inj h)
            refine R_ret ?_
            exact Q_ret (x := .bool y9) (by kernel_rfl) (.refl _)
          · refine R_skip ?_
            refine N_s ?_
            refine R_seq ?_
            refine R_reg ?_
            refine S_pure trivial (O_mv (d := .u (.bool bound_2)) (by kernel_rfl)) ?_
            refine S_pure trivial (O_mv (d := .u (.bool bound_2)) (by kernel_rfl)) ?_
            obtain ⟨o12, hE, h⟩ := bindS h
            have K10 : Rs Try.prog 104 (retQ [6] (.bool r)) [.s q_law07_TypesOfParts_25] [⟨some 11, none, .mv (.t 58)⟩] (mkSt [(0, .u (.sl (List.map ApiTerm.cells e_0))), (1, .u (.sl (List.map (cInt .i64) kinds_1))), (7, .u (.int .i64 y5.1)), (58, .u (.bool o12))] [] 0) := by
              refine S_pure trivial (O_mv (d := .u (.bool o12)) (by kernel_rfl)) ?_
              refine Rs_nil ?_
              refine N_s ?_
              refine R_seq ?_
              refine R_seq ?_
              refine R_reg ?_
              refine S_pure trivial (O_mv (d := .u (.int .i64 0)) (by kernel_rfl)) ?_
              refine Rs_nil ?_
              refine N_s ?_
              refine R_block ?_
              obtain ⟨o13, hE, h⟩ := bindS h
              have K16 : ∀ (w15 : Unit), (Sum.inl w15) = o13 → Run Try.prog 104 (retQ [6] (.bool r)) [] q_law07_TypesOfParts_6 (mkSt [(7, .u (.int .i64 y5.1))] [] 1) := by
                intro w15 e; subst e
                replace h := elimL h
                refine R_seq ?_
                refine R_reg ?_
                obtain ⟨y17, hy17, h⟩ := bindS h
                refine S_pure trivial (O_ca (us := []) (r := .bool y17) (by kernel_rfl) (law07_awake.ok hy17)) ?_
                refine S_pure trivial (O_mv (d := .u (.bool y17)) (by kernel_rfl)) ?_
                have K18 : ∀ v19 : Bool, v19 = (y17 && (decide (1 ≤ y5.1))) → Rs Try.prog 104 (retQ [6] (.bool r)) [.s .ret] [⟨some 100, none, .mv (.t 99)⟩, ⟨some 101, some (100, true), .mv (.t 7)⟩, ⟨some 102, some (100, true), .bi .leq (.t 101) (.c (.int .i64 3))⟩, ⟨some 103, none, .pk (.t 100) (.t 102) (.c (.bool false))⟩, ⟨some 6, none, .mv (.t 103)⟩] (mkSt [(7, .u (.int .i64 y5.1)), (99, .u (.bool v19))] [] 1) := by
                  intro v19 e; subst e
                  refine S_pure trivial (O_mv (d := .u (.bool ((y17 && (decide (1 ≤ y5.1)))))) (by kernel_rfl)) ?_
                  have K20 : ∀ v21 : Bool, v21 = ((y17 && (decide (1 ≤ y5.1))) && (decide (y5.1 ≤ 3))) → Rs Try.prog 104 (retQ [6] (.bool r)) [.s .ret] [⟨some 6, none, .mv (.t 103)⟩] (mkSt [(103, .u (.bool v21))] [] 1) := by
                    intro v21 e; subst e
                    refine S_pure trivial (O_mv (d := .u (.bool (((y17 && (decide (1 ≤ y5.1))) && (decide (y5.1 ≤ 3)))))) (by kernel_rfl)) ?_
                    refine Rs_nil ?_
                    refine N_s ?_
                    obtain rfl := (Option.some.inj h)
                    refine R_ret ?_
                    exact Q_ret (x := .bool (((y17 && (decide (1 ≤ y5.1))) && (decide (y5.1 ≤ 3))))) (by kernel_rfl) (.refl _)
                  refine S_case0 (t := 100) (c := (y17 && (decide (1 ≤ y5.1)))) (by kernel_rfl) (fun hc => ?_) (fun hc => ?_)
                  · refine S_pure (by show _ = _; kernel_rfl) (O_mv (d := .u (.int .i64 y5.1)) (by kernel_rfl)) ?_
                    refine S_pure (by show _ = _; kernel_rfl) (O_leq (k := .i64) (a := y5.1) (b := 3) (by kernel_rfl) (by kernel_rfl)) ?_
                    refine S_pure trivial (O_pkt (d := .u (.bool ((decide (y5.1 ≤ 3))))) (by kernel_rfl) (by kernel_rfl)) ?_
                    exact Rs_weak (W_to (by kernel_rfl) (by kernel_rfl) (by kernel_rfl)) (K20 _ (by rw [hc] <;> rfl))
                  · refine S_skip (b := false) (by kernel_rfl) rfl ?_
                    refine S_skip (b := false) (by kernel_rfl) rfl ?_
                    refine S_pure trivial (O_pkf (d := .u (.bool false)) (by kernel_rfl) (by kernel_rfl)) ?_
                    exact Rs_weak (W_to (by kernel_rfl) (by kernel_rfl) (by kernel_rfl)) (K20 _ (by rw [hc] <;> rfl))
                refine S_case0 (t := 96) (c := y17) (by kernel_rfl) (fun hc => ?_) (fun hc => ?_)
                · refine S_pure (by show _ = _; kernel_rfl) (O_mv (d := .u (.int .i64 y5.1)) (by kernel_rfl)) ?_
                  refine S_pure (by show _ = _; kernel_rfl) (O_geq (k := .i64) (a := y5.1) (b := 1) (by kernel_rfl) (by kernel_rfl)) ?_
                  refine S_pure trivial (O_pkt (d := .u (.bool ((decide (1 ≤ y5.1))))) (by kernel_rfl) (by kernel_rfl)) ?_
                  exact Rs_weak (W_to (by kernel_rfl) (by kernel_rfl) (by kernel_rfl)) (K18 _ (by rw [hc] <;> rfl))
                · refine S_skip (b := false) (by kernel_rfl) rfl ?_
                  refine S_skip (b := false) (by kernel_rfl) rfl ?_
                  refine S_pure trivial (O_pkf (d := .u (.bool false)) (by kernel_rfl) (by kernel_rfl)) ?_
                  exact Rs_weak (W_to (by kernel_rfl) (by kernel_rfl) (by kernel_rfl)) (K18 _ (by rw [hc] <;> rfl))
              have K23 : ∀ (w22 : Bool), (Sum.inr w22) = o13 → w22 = r := by
                intro w22 e; subst e
                replace h := elimR h
                exact Option.some.inj h
              refine R_loop (law07_TypesOfParts.l36 e_0 kinds_1 o12) (fun s24 => (mkSt [(0, .u (.sl (List.map ApiTerm.cells e_0))), (1, .u (.sl (List.map (cInt .i64) kinds_1))), (7, .u (.int .i64 y5.1)), (11, .u (.bool o12)), (12, .u (.int .i64 s24))] [] 1)) hE (W_to (by kernel_rfl) (by kernel_rfl) (by kernel_rfl)) ?_
              intro K14 s24 x25 h hK14 hO14
              refine R_seq ?_
              refine R_seq ?_
              refine R_reg ?_
              refine S_pure trivial (O_mv (d := .u (.int .i64 s24)) (by kernel_rfl)) ?_
              refine S_pure trivial (O_mv (d := .u (.sl (List.map ApiTerm.cells e_0))) (by kernel_rfl)) ?_
              obtain ⟨y26, hy26, h⟩ := bindS h
              refine S_pure trivial (O_ia (c := ApiTerm.cells) (li := e_0) (i := 0) (k := .i64) (a := y26) (u := ApiTerm.cells y26) (by kernel_rfl) (by kernel_rfl) hy26 rfl rfl) ?_
              refine S_pure trivial (O_faf (cells := ApiTerm.cells y26) (o := 0) (by kernel_rfl)) ?_
              refine S_pure trivial (O_ldf (cells := ApiTerm.cells y26) (off := 0) (u := .int .i64 y26.Op) (by kernel_rfl) (by kernel_rfl)) ?_
              obtain ⟨y27, hy27, h⟩ := bindS h
              refine S_pure trivial (O_ca (us := [.int .i64 y26.Op]) (r := .int .i64 y27) (by kernel_rfl) (ref05_Arity.ok hy27)) ?_
              refine S_pure trivial (O_lss (k := .i64) (a := s24) (b := y27) (by kernel_rfl) (by kernel_rfl)) ?_
              refine Rs_nil ?_
              refine N_s ?_
              refine R_cond (c := (decide (s24 < y27))) (by kernel_rfl) h (fun h => ?_) (fun h => ?_)
              · refine R_skip ?_
                refine N_s ?_
                refine R_seq ?_
                refine R_block ?_
                refine R_seq ?_
                refine R_reg ?_
                refine S_pure trivial (O_mv (d := .u (.sl (List.map ApiTerm.cells e_0))) (by kernel_rfl)) ?_
                refine S_pure trivial (O_mv (d := .u (.int .i64 s24)) (by kernel_rfl)) ?_
                obtain ⟨y28, hy28, h⟩ := bindS h
                refine S_pure trivial (O_ca (us := [.sl (List.map ApiTerm.cells e_0), .int .i64 0, .int .i64 s24]) (r := .int .i64 y28) (by kernel_rfl) (ref05_Operand.ok hy28)) ?_
                refine S_pure trivial (O_mv (d := .u (.int .i64 y28)) (by kernel_rfl)) ?_
                refine Rs_nil ?_
                refine N_s ?_
                refine R_seq ?_
                refine R_reg ?_
                refine S_pure trivial (O_mv (d := .u (.sl (List.map ApiTerm.cells e_0))) (by kernel_rfl)) ?_
                refine S_pure trivial (O_mv (d := .u (.int .i64 y28)) (by kernel_rfl)) ?_
                refine S_pure trivial (O_mv (d := .u (.sl (List.map ApiTerm.cells e_0))) (by kernel_rfl)) ?_
                refine S_pure trivial (O_mv (d := .u (.int .i64 y28)) (by kernel_rfl)) ?_
                obtain ⟨y29, hy29, h⟩ := bindS h
                refine S_pure trivial (O_ca (us := [.sl (List.map ApiTerm.cells e_0), .int .i64 y28]) (r := .int .i64 y29) (by kernel_rfl) (ref05_End.ok hy29)) ?_
                obtain ⟨y30, hy30, h⟩ := bindS h
                refine S_pure trivial (O_sl (c := ApiTerm.cells) (li := e_0) (li' := y30) (a := y28) (b := y29) (by kernel_rfl) (by kernel_rfl) (by kernel_rfl) hy30 (fun _ => rfl)) ?_
                obtain ⟨hb, h⟩ := chkS h
                refine S_up trivial (O_apn (c := ApiTerm.cells) (li := y30) (by kernel_rfl) (by show Srcs _ _ _ (.u (.sl (List.map ApiTerm.cells y30))); exact Srcs.typed (c := ApiTerm.cells) (li := y30) (fun _ => rfl)) hb) ?_
                refine S_pure trivial (O_mv (d := .msl 1 y30.length) (by kernel_rfl)) ?_
                refine Rs_nil ?_
                refine N_s ?_
                refine R_seq ?_
                refine R_reg ?_
                refine S_pure trivial (O_mv (d := .msl 1 y30.length) (by kernel_rfl)) ?_
                refine S_pure trivial (O_mv (d := .u (.sl (List.map (cInt .i64) kinds_1))) (by kernel_rfl)) ?_
                refine S_pure trivial (O_mv (d := .u (.bool o12)) (by kernel_rfl)) ?_
                obtain ⟨y31, hy31, h⟩ := bindS h
                refine S_pure trivial (O_caf (ds := [.msl 1 y30.length, .u (.sl (List.map (cInt .i64) kinds_1)), .u (.bool o12)]) (us := [.sl (List.map ApiTerm.cells y30), .sl (List.map (cInt .i64) kinds_1), .bool o12]) (r := .tup [.int .i64 y31.1, .int .i64 y31.2]) (by kernel_rfl) (fz_cons (fz_msl (s := 2) (c := ApiTerm.cells) (li := y30) (by kernel_rfl)) (fz_cons fz_u (fz_cons fz_u fz_nil))) (types_Of.ok hy31) rfl) ?_
                refine S_pure trivial (O_mv (d := .u (.tup [.int .i64 y31.1, .int .i64 y31.2])) (by kernel_rfl)) ?_
                refine S_pure trivial (O_ex (us := [.int .i64 y31.1, .int .i64 y31.2]) (u := .int .i64 y31.1) (by kernel_rfl) (by kernel_rfl)) ?_
                refine S_pure trivial (O_ex (us := [.int .i64 y31.1, .int .i64 y31.2]) (u := .int .i64 y31.2) (by kernel_rfl) (by kernel_rfl)) ?_
                refine S_pure trivial (O_mv (d := .u (.int .i64 y31.1)) (by kernel_rfl)) ?_
                refine S_pure trivial (O_mv (d := .u (.int .i64 y31.2)) (by kernel_rfl)) ?_
                refine Rs_nil ?_
                refine N_s ?_
                refine R_seq ?_
                refine R_reg ?_
                refine S_pure trivial (O_mv (d := .u (.int .i64 y31.2)) (by kernel_rfl)) ?_
                refine S_pure trivial (O_neq (k := .i64) (a := y31.2) (b := 0) (by kernel_rfl) (by kernel_rfl)) ?_
                refine S_pure trivial (O_mv (d := .u (.bool ((!decide (y31.2 = 0))))) (by kernel_rfl)) ?_
                have K32 : ∀ v33 : Bool, v33 = ((!decide (y31.2 = 0)) || (decide (y31.1 < 1))) → Rs Try.prog 104 (retQ [6] (.bool r)) [.s q_law07_TypesOfParts_3, .b 1, .s q_law07_TypesOfParts_4, .k K14, .b 0, .s q_law07_TypesOfParts_6] [⟨some 91, none, .mv (.t 90)⟩, ⟨some 92, some (91, false), .mv (.t 15)⟩, ⟨some 93, some (91, false), .bi .gtr (.t 92) (.c (.int .i64 3))⟩, ⟨some 94, none, .pk (.t 91) (.c (.bool true)) (.t 93)⟩] (mkSt [(0, .u (.sl (List.map ApiTerm.cells e_0))), (1, .u (.sl (List.map (cInt .i64) kinds_1))), (7, .u (.int .i64 y5.1)), (11, .u (.bool o12)), (12, .u (.int .i64 s24)), (15, .u (.int .i64 y31.1)), (90, .u (.bool v33))] [] 2) := by
                  intro v33 e; subst e
                  refine S_pure trivial (O_mv (d := .u (.bool (((!decide (y31.2 = 0)) || (decide (y31.1 < 1)))))) (by kernel_rfl)) ?_
                  have K34 : ∀ v35 : Bool, v35 = (((!decide (y31.2 = 0)) || (decide (y31.1 < 1))) || (decide (3 < y31.1))) → Rs Try.prog 104 (retQ [6] (.bool r)) [.s q_law07_TypesOfParts_3, .b 1, .s q_law07_TypesOfParts_4, .k K14, .b 0, .s q_law07_TypesOfParts_6] [] (mkSt [(0, .u (.sl (List.map ApiTerm.cells e_0))), (1, .u (.sl (List.map (cInt .i64) kinds_1))), (7, .u (.int .i64 y5.1)), (11, .u (.bool o12)), (12, .u (.int .i64 s24)), (94, .u (.bool v35))] [] 2) := by
                    intro v35 e; subst e
                    refine Rs_nil ?_
                    refine N_s ?_
                    refine R_cond (c := (((!decide (y31.2 = 0)) || (decide (y31.1 < 1))) || (decide (3 < y31.1)))) (by kernel_rfl) h (fun h => ?_) (fun h => ?_)
                    · refine R_seq ?_
                      refine R_reg ?_
                      refine S_pure trivial (O_mv (d := .u (.bool false)) (by kernel_rfl)) ?_
                      refine Rs_nil ?_
                      refine N_s ?_
                      obtain rfl := (K23 _ (hO14 _ h))
                      refine R_ret ?_
                      exact Q_ret (x := .bool false) (by kernel_rfl) (.refl _)
                    · refine R_skip ?_
                      refine N_b ?_
                      refine N_s ?_
                      refine R_reg ?_
                      refine S_pure trivial (O_mv (d := .u (.int .i64 s24)) (by kernel_rfl)) ?_
                      refine S_pure trivial (O_add (k := .i64) (a := s24) (b := 1) (by kernel_rfl) (by kernel_rfl)) ?_
                      refine S_pure trivial (O_mv (d := .u (.int .i64 ((IntKind.i64.wrap (s24 + 1))))) (by kernel_rfl)) ?_
                      refine Rs_nil ?_
                      exact N_k (hK14 _ h _ (W_to (by kernel_rfl) (by kernel_rfl) (by kernel_rfl)))
                  refine S_case0 (t := 91) (c := ((!decide (y31.2 = 0)) || (decide (y31.1 < 1)))) (by kernel_rfl) (fun hc => ?_) (fun hc => ?_)
                  · refine S_skip (b := true) (by kernel_rfl) rfl ?_
                    refine S_skip (b := true) (by kernel_rfl) rfl ?_
                    refine S_pure trivial (O_pkt (d := .u (.bool true)) (by kernel_rfl) (by kernel_rfl)) ?_
                    exact Rs_weak (W_to (by kernel_rfl) (by kernel_rfl) (by kernel_rfl)) (K34 _ (by rw [hc] <;> rfl))
                  · refine S_pure (by show _ = _; kernel_rfl) (O_mv (d := .u (.int .i64 y31.1)) (by kernel_rfl)) ?_
                    refine S_pure (by show _ = _; kernel_rfl) (O_gtr (k := .i64) (a := y31.1) (b := 3) (by kernel_rfl) (by kernel_rfl)) ?_
                    refine S_pure trivial (O_pkf (d := .u (.bool ((decide (3 < y31.1))))) (by kernel_rfl) (by kernel_rfl)) ?_
                    exact Rs_weak (W_to (by kernel_rfl) (by kernel_rfl) (by kernel_rfl)) (K34 _ (by rw [hc] <;> rfl))
                refine S_case0 (t := 87) (c := (!decide (y31.2 = 0))) (by kernel_rfl) (fun hc => ?_) (fun hc => ?_)
                · refine S_skip (b := true) (by kernel_rfl) rfl ?_
                  refine S_skip (b := true) (by kernel_rfl) rfl ?_
                  refine S_pure trivial (O_pkt (d := .u (.bool true)) (by kernel_rfl) (by kernel_rfl)) ?_
                  exact Rs_weak (W_to (by kernel_rfl) (by kernel_rfl) (by kernel_rfl)) (K32 _ (by rw [hc] <;> rfl))
                · refine S_pure (by show _ = _; kernel_rfl) (O_mv (d := .u (.int .i64 y31.1)) (by kernel_rfl)) ?_
                  refine S_pure (by show _ = _; kernel_rfl) (O_lss (k := .i64) (a := y31.1) (b := 1) (by kernel_rfl) (by kernel_rfl)) ?_
                  refine S_pure trivial (O_pkf (d := .u (.bool ((decide (y31.1 < 1))))) (by kernel_rfl) (by kernel_rfl)) ?_
                  exact Rs_weak (W_to (by kernel_rfl) (by kernel_rfl) (by kernel_rfl)) (K32 _ (by rw [hc] <;> rfl))
              · refine R_exit ?_
                refine E_s ?_
                refine E_k ?_
                refine E_b ?_
                refine N_s ?_
                exact R_weak (W_to (by kernel_rfl) (by kernel_rfl) (by kernel_rfl)) (K16 _ (hO14 _ h))
            replace h := hE
            refine S_case (t := 52) (c := bound_2) (by kernel_rfl) h (fun hc h => ?_) (fun hc h => ?_)
            · refine S_skip (b := true) (by kernel_rfl) rfl ?_
              refine S_skip (b := true) (by kernel_rfl) rfl ?_
              refine S_skip (b := true) (by kernel_rfl) rfl ?_
              refine S_skip (b := true) (by kernel_rfl) rfl ?_
              refine S_skip (b := true) (by kernel_rfl) rfl ?_
              refine S_pure trivial (O_pkt (d := .u (.bool true)) (by kernel_rfl) (by kernel_rfl)) ?_
              obtain rfl := Option.some.inj h
              exact Rs_weak (W_to (by kernel_rfl) (by kernel_rfl) (by kernel_rfl)) K10
            · refine S_pure (by show _ = _; kernel_rfl) (O_mv (d := .u (.sl (List.map ApiTerm.cells e_0))) (by kernel_rfl)) ?_
              obtain ⟨y37, hy37, h⟩ := bindS h
              refine S_pure (by show _ = _; kernel_rfl) (O_ia (c := ApiTerm.cells) (li := e_0) (i := 0) (k := .i64) (a := y37) (u := ApiTerm.cells y37) (by kernel_rfl) (by kernel_rfl) hy37 rfl rfl) ?_
              refine S_pure (by show _ = _; kernel_rfl) (O_faf (cells := ApiTerm.cells y37) (o := 0) (by kernel_rfl)) ?_
              refine S_pure (by show _ = _; kernel_rfl) (O_ldf (cells := ApiTerm.cells y37) (off := 0) (u := .int .i64 y37.Op) (by kernel_rfl) (by kernel_rfl)) ?_
              obtain ⟨y38, hy38, h⟩ := bindS h
              refine S_pure (by show _ = _; kernel_rfl) (O_ca (us := [.int .i64 y37.Op]) (r := .bool y38) (by kernel_rfl) (ref05_Aggregate.ok hy38)) ?_
              refine S_pure trivial (O_pkf (d := .u (.bool y38)) (by kernel_rfl) (by kernel_rfl)) ?_
              obtain rfl := Option.some.inj h
              exact Rs_weak (W_to (by kernel_rfl) (by kernel_rfl) (by kernel_rfl)) K10
      refine S_case0 (t := 43) (c := (!decide (y5.2 = y6.2))) (by kernel_rfl) (fun hc => ?_) (fun hc => ?_)
      · refine S_skip (b := true) (by kernel_rfl) rfl ?_
        refine S_skip (b := true) (by kernel_rfl) rfl ?_
        refine S_skip (b := true) (by kernel_rfl) rfl ?_
        refine S_pure trivial (O_pkt (d := .u (.bool true)) (by kernel_rfl) (by kernel_rfl)) ?_
        exact Rs_weak (W_to (by kernel_rfl) (by kernel_rfl) (by kernel_rfl)) (K7 _ (by rw [hc] <;> rfl))
      · refine S_pure (by show _ = _; kernel_rfl) (O_mv (d := .u (.int .i64 y5.1)) (by kernel_rfl)) ?_
        refine S_pure (by show _ = _; kernel_rfl) (O_mv (d := .u (.int .i64 y6.1)) (by kernel_rfl)) ?_
        refine S_pure (by show _ = _; kernel_rfl) (O_neq (k := .i64) (a := y5.1) (b := y6.1) (by kernel_rfl) (by kernel_rfl)) ?_
        refine S_pure trivial (O_pkf (d := .u (.bool ((!decide (y5.1 = y6.1))))) (by kernel_rfl) (by kernel_rfl)) ?_
        exact Rs_weak (W_to (by kernel_rfl) (by kernel_rfl) (by kernel_rfl)) (K7 _ (by rw [hc] <;> rfl))
  refine S_case0 (t := 20) (c := (!y1)) (by kernel_rfl) (fun hc => ?_) (fun hc => ?_)
  · refine S_skip (b := true) (by kernel_rfl) rfl ?_
    refine S_skip (b := true) (by kernel_rfl) rfl ?_
    refine S_skip (b := true) (by kernel_rfl) rfl ?_
    refine S_pure trivial (O_pkt (d := .u (.bool true)) (by kernel_rfl) (by kernel_rfl)) ?_
    exact Rs_weak (W_to (by kernel_rfl) (by kernel_rfl) (by kernel_rfl)) (K2 _ (by rw [hc] <;> rfl))
  · refine S_pure (by show _ = _; kernel_rfl) (O_mv (d := .u (.sl (List.map (cInt .i64) kinds_1))) (by kernel_rfl)) ?_
    refine S_pure (by show _ = _; kernel_rfl) (O_ln (c := (cInt .i64)) (li := kinds_1) (by kernel_rfl)) ?_
    refine S_pure (by show _ = _; kernel_rfl) (O_gtr (k := .i64) (a := (List.length kinds_1 : Int)) (b := 10) (by kernel_rfl) (by kernel_rfl)) ?_
    refine S_pure trivial (O_pkf (d := .u (.bool ((decide (10 < (List.length kinds_1 : Int)))))) (by kernel_rfl) (by kernel_rfl)) ?_
    exact Rs_weak (W_to (by kernel_rfl) (by kernel_rfl) (by kernel_rfl)) (K2 _ (by rw [hc] <;> rfl))

/-! ### selfstab/selfstabmade.Mod -/
def q_made_Mod_1 : AC := .reg [⟨some 14, none, .mv (.t 5)⟩, ⟨some 4, none, .mv (.t 14)⟩]
def q_made_Mod_2 : AC := .seq q_made_Mod_1 .ret
def q_made_Mod_3 : AC := .reg [⟨some 11, none, .mv (.t 5)⟩, ⟨some 12, none, .mv (.t 1)⟩, ⟨some 13, none, .bi .add (.t 11) (.t 12)⟩, ⟨some 5, none, .mv (.t 13)⟩]
def q_made_Mod_4 : AC := .cond (.t 10) q_made_Mod_3 .skip
def q_made_Mod_5 : AC := .reg [⟨some 9, none, .mv (.t 5)⟩, ⟨some 10, none, .bi .lss (.t 9) (.c (.int .i64 0))⟩]
def q_made_Mod_6 : AC := .seq q_made_Mod_5 q_made_Mod_4
def q_made_Mod_7 : AC := .seq q_made_Mod_6 q_made_Mod_2
def q_made_Mod_8 : AC := .reg [⟨some 6, none, .mv (.t 0)⟩, ⟨some 7, none, .mv (.t 1)⟩, ⟨some 8, none, .bi .rem (.t 6) (.t 7)⟩, ⟨some 5, none, .mv (.t 8)⟩]
def q_made_Mod_9 : AC := .seq q_made_Mod_8 q_made_Mod_7
def q_made_Mod_10 : AC := .reg [⟨some 4, none, .mv (.c (.int .i64 0))⟩]
def q_made_Mod_11 : AC := .seq q_made_Mod_10 q_made_Mod_9
def c_made_Mod : FC := ⟨15, [4], q_made_Mod_11⟩
theorem k_made_Mod : okF Try.prog 23 c_made_Mod = true := by decide +kernel
noncomputable def made_Mod (k_0 : Int) (n_1 : Int) : Option Int := (bif (!decide (n_1 = 0)) then (bif (decide ((Int.tmod k_0 n_1) < 0)) then (some (IntKind.i64.wrap ((Int.tmod k_0 n_1) + n_1))) else (some (Int.tmod k_0 n_1))) else none)
theorem made_Mod.ok {k_0 : Int} {n_1 : Int} {r : Int} (h : made_Mod k_0 n_1 = some r) : PC Try.prog 23 [.int .i64 k_0, .int .i64 n_1] (.int .i64 r) := by
  refine PC_run k_made_Mod rfl (L := [(0, .u (.int .i64 k_0)), (1, .u (.int .i64 n_1))]) rfl ?_
  show Run Try.prog 15 (retQ [4] (.int .i64 r)) [] q_made_Mod_11 _
  refine R_seq ?_
  refine R_reg ?_
  refine S_pure trivial (O_mv (d := .u (.int .i64 0)) (by kernel_rfl)) ?_
  refine Rs_nil ?_
  refine N_s ?_
  refine R_seq ?_
  refine R_reg ?_
  refine S_pure trivial (O_mv (d := .u (.int .i64 k_0)) (by kernel_rfl)) ?_
  refine S_pure trivial (O_mv (d := .u (.int .i64 n_1)) (by kernel_rfl)) ?_
  obtain ⟨hb, h⟩ := chkS h
  refine S_pure trivial (O_rem (k := .i64) (a := k_0) (b := n_1) (by kernel_rfl) (by kernel_rfl) hb) ?_
  refine S_pure trivial (O_mv (d := .u (.int .i64 ((Int.tmod k_0 n_1)))) (by kernel_rfl)) ?_
  refine Rs_nil ?_
  refine N_s ?_
  refine R_seq ?_
  refine R_seq ?_
  refine R_reg ?_
  refine S_pure trivial (O_mv (d := .u (.int .i64 ((Int.tmod k_0 n_1)))) (by kernel_rfl)) ?_
  refine S_pure trivial (O_lss (k := .i64) (a := (Int.tmod k_0 n_1)) (b := 0) (by kernel_rfl) (by kernel_rfl)) ?_
  refine Rs_nil ?_
  refine N_s ?_
  refine R_cond (c := (decide ((Int.tmod k_0 n_1) < 0))) (by kernel_rfl) h (fun h => ?_) (fun h => ?_)
  · refine R_reg ?_
    refine S_pure trivial (O_mv (d := .u (.int .i64 ((Int.tmod k_0 n_1)))) (by kernel_rfl)) ?_
    refine S_pure trivial (O_mv (d := .u (.int .i64 n_1)) (by kernel_rfl)) ?_
    refine S_pure trivial (O_add (k := .i64) (a := (Int.tmod k_0 n_1)) (b := n_1) (by kernel_rfl) (by kernel_rfl)) ?_
    refine S_pure trivial (O_mv (d := .u (.int .i64 ((IntKind.i64.wrap ((Int.tmod k_0 n_1) + n_1))))) (by kernel_rfl)) ?_
    refine Rs_nil ?_
    refine N_s ?_
    refine R_seq ?_
    refine R_reg ?_
    refine S_pure trivial (O_mv (d := .u (.int .i64 ((IntKind.i64.wrap ((Int.tmod k_0 n_1) + n_1))))) (by kernel_rfl)) ?_
    refine S_pure trivial (O_mv (d := .u (.int .i64 ((IntKind.i64.wrap ((Int.tmod k_0 n_1) + n_1))))) (by kernel_rfl)) ?_
    refine Rs_nil ?_
    refine N_s ?_
    obtain rfl := (Option.some.inj h)
    refine R_ret ?_
    exact Q_ret (x := .int .i64 ((IntKind.i64.wrap ((Int.tmod k_0 n_1) + n_1)))) (by kernel_rfl) (.refl _)
  · refine R_skip ?_
    refine N_s ?_
    refine R_seq ?_
    refine R_reg ?_
    refine S_pure trivial (O_mv (d := .u (.int .i64 ((Int.tmod k_0 n_1)))) (by kernel_rfl)) ?_
    refine S_pure trivial (O_mv (d := .u (.int .i64 ((Int.tmod k_0 n_1)))) (by kernel_rfl)) ?_
    refine Rs_nil ?_
    refine N_s ?_
    obtain rfl := (Option.some.inj h)
    refine R_ret ?_
    exact Q_ret (x := .int .i64 ((Int.tmod k_0 n_1))) (by kernel_rfl) (.refl _)

/-! ### selfstab/selfstablaw07.TypesIgnoreNumbers -/
def q_law07_TypesIgnoreNumbers_1 : AC := .reg [⟨some 54, none, .mv (.t 9)⟩, ⟨some 55, none, .mv (.t 10)⟩, ⟨some 56, none, .mv (.t 3)⟩, ⟨some 57, none, .ca 23 [.t 56, .c (.int .i64 1073741825)]⟩, ⟨some 58, none, .ia 2 (.t 54) (.t 55)⟩, ⟨some 59, none, .fa 1 (.t 58)⟩, ⟨none, none, .st 1 (.t 59) (.t 57)⟩]
def q_law07_TypesIgnoreNumbers_2 : AC := .cond (.t 53) q_law07_TypesIgnoreNumbers_1 .skip
def q_law07_TypesIgnoreNumbers_3 : AC := .reg [⟨some 30, none, .mv (.t 10)⟩, ⟨some 31, none, .bi .add (.t 30) (.c (.int .i64 1))⟩, ⟨some 10, none, .mv (.t 31)⟩]
def q_law07_TypesIgnoreNumbers_4 : AC := .reg [⟨some 74, none, .ca 25 []⟩, ⟨some 75, none, .mv (.t 74)⟩, ⟨some 76, some (75, true), .mv (.t 11)⟩, ⟨some 77, some (75, true), .mv (.t 13)⟩, ⟨some 78, some (75, true), .bi .eql (.t 76) (.t 77)⟩, ⟨some 79, none, .pk (.t 75) (.t 78) (.c (.bool false))⟩, ⟨some 80, none, .mv (.t 79)⟩, ⟨some 81, some (80, true), .mv (.t 12)⟩, ⟨some 82, some (80, true), .mv (.t 14)⟩, ⟨some 83, some (80, true), .bi .eql (.t 81) (.t 82)⟩, ⟨some 84, none, .pk (.t 80) (.t 83) (.c (.bool false))⟩, ⟨some 8, none, .mv (.t 84)⟩]
def q_law07_TypesIgnoreNumbers_5 : AC := .seq q_law07_TypesIgnoreNumbers_4 .ret
def q_law07_TypesIgnoreNumbers_6 : AC := .reg [⟨some 68, none, .mv (.t 9)⟩, ⟨some 69, none, .mv (.t 1)⟩, ⟨some 70, none, .mv (.t 2)⟩, ⟨some 71, none, .ca 26 [.t 68, .t 69, .t 70]⟩, ⟨some 67, none, .mv (.t 71)⟩, ⟨some 72, none, .ex (.t 67) 0⟩, ⟨some 73, none, .ex (.t 67) 1⟩, ⟨some 13, none, .mv (.t 72)⟩, ⟨some 14, none, .mv (.t 73)⟩]
def q_law07_TypesIgnoreNumbers_7 : AC := .seq q_law07_TypesIgnoreNumbers_6 q_law07_TypesIgnoreNumbers_5
def q_law07_TypesIgnoreNumbers_8 : AC := .reg [⟨some 61, none, .mv (.t 0)⟩, ⟨some 62, none, .mv (.t 1)⟩, ⟨some 63, none, .mv (.t 2)⟩, ⟨some 64, none, .ca 26 [.t 61, .t 62, .t 63]⟩, ⟨some 60, none, .mv (.t 64)⟩, ⟨some 65, none, .ex (.t 60) 0⟩, ⟨some 66, none, .ex (.t 60) 1⟩, ⟨some 11, none, .mv (.t 65)⟩, ⟨some 12, none, .mv (.t 66)⟩]
def q_law07_TypesIgnoreNumbers_9 : AC := .seq q_law07_TypesIgnoreNumbers_8 q_law07_TypesIgnoreNumbers_7
def q_law07_TypesIgnoreNumbers_10 : AC := .reg [⟨some 23, none, .ca 25 []⟩, ⟨some 8, none, .mv (.t 23)⟩]
def q_law07_TypesIgnoreNumbers_11 : AC := .seq q_law07_TypesIgnoreNumbers_10 .ret
def q_law07_TypesIgnoreNumbers_12 : AC := .cond (.t 22) q_law07_TypesIgnoreNumbers_11 .skip
def q_law07_TypesIgnoreNumbers_13 : AC := .reg [⟨some 32, none, .mv (.t 9)⟩, ⟨some 33, none, .mv (.t 10)⟩, ⟨some 34, none, .ia 2 (.t 32) (.t 33)⟩, ⟨some 35, none, .fa 0 (.t 34)⟩, ⟨some 36, none, .ld false 1 (.t 35)⟩, ⟨some 37, none, .bi .eql (.t 36) (.c (.int .i64 1))⟩, ⟨some 38, none, .mv (.t 37)⟩, ⟨some 39, some (38, true), .mv (.t 9)⟩, ⟨some 40, some (38, true), .mv (.t 10)⟩, ⟨some 41, some (38, true), .ia 2 (.t 39) (.t 40)⟩, ⟨some 42, some (38, true), .fa 1 (.t 41)⟩, ⟨some 43, some (38, true), .ld false 1 (.t 42)⟩, ⟨some 44, some (38, true), .bi .geq (.t 43) (.c (.int .i64 0))⟩, ⟨some 45, none, .pk (.t 38) (.t 44) (.c (.bool false))⟩, ⟨some 46, none, .mv (.t 45)⟩, ⟨some 47, some (46, true), .mv (.t 9)⟩, ⟨some 48, some (46, true), .mv (.t 10)⟩, ⟨some 49, some (46, true), .ia 2 (.t 47) (.t 48)⟩, ⟨some 50, some (46, true), .fa 1 (.t 49)⟩, ⟨some 51, some (46, true), .ld false 1 (.t 50)⟩, ⟨some 52, some (46, true), .bi .leq (.t 51) (.c (.int .i64 1073741824))⟩, ⟨some 53, none, .pk (.t 46) (.t 52) (.c (.bool false))⟩]
def q_law07_TypesIgnoreNumbers_14 : AC := .seq q_law07_TypesIgnoreNumbers_13 q_law07_TypesIgnoreNumbers_2
def q_law07_TypesIgnoreNumbers_15 : AC := .block 1 q_law07_TypesIgnoreNumbers_14
def q_law07_TypesIgnoreNumbers_16 : AC := .seq q_law07_TypesIgnoreNumbers_15 q_law07_TypesIgnoreNumbers_3
def q_law07_TypesIgnoreNumbers_17 : AC := .cond (.t 29) .skip (.exit 0)
def q_law07_TypesIgnoreNumbers_18 : AC := .reg [⟨some 26, none, .mv (.t 10)⟩, ⟨some 27, none, .mv (.t 9)⟩, ⟨some 28, none, .ln (.t 27)⟩, ⟨some 29, none, .bi .lss (.t 26) (.t 28)⟩]
def q_law07_TypesIgnoreNumbers_19 : AC := .seq q_law07_TypesIgnoreNumbers_18 q_law07_TypesIgnoreNumbers_17
def q_law07_TypesIgnoreNumbers_20 : AC := .seq q_law07_TypesIgnoreNumbers_19 q_law07_TypesIgnoreNumbers_16
def q_law07_TypesIgnoreNumbers_21 : AC := .loop q_law07_TypesIgnoreNumbers_20
def q_law07_TypesIgnoreNumbers_22 : AC := .block 0 q_law07_TypesIgnoreNumbers_21
def q_law07_TypesIgnoreNumbers_23 : AC := .reg [⟨some 10, none, .mv (.c (.int .i64 0))⟩]
def q_law07_TypesIgnoreNumbers_24 : AC := .seq q_law07_TypesIgnoreNumbers_23 q_law07_TypesIgnoreNumbers_22
def q_law07_TypesIgnoreNumbers_25 : AC := .seq q_law07_TypesIgnoreNumbers_24 q_law07_TypesIgnoreNumbers_9
def q_law07_TypesIgnoreNumbers_26 : AC := .reg [⟨some 24, none, .mv (.t 0)⟩, ⟨some 25, none, .ap 2 16 (.c (.nil)) (.t 24)⟩, ⟨some 9, none, .mv (.t 25)⟩]
def q_law07_TypesIgnoreNumbers_27 : AC := .seq q_law07_TypesIgnoreNumbers_26 q_law07_TypesIgnoreNumbers_25
def q_law07_TypesIgnoreNumbers_28 : AC := .reg [⟨some 15, none, .mv (.t 0)⟩, ⟨some 16, none, .ca 24 [.t 15]⟩, ⟨some 17, none, .un .not (.t 16)⟩, ⟨some 18, none, .mv (.t 17)⟩, ⟨some 19, some (18, false), .mv (.t 1)⟩, ⟨some 20, some (18, false), .ln (.t 19)⟩, ⟨some 21, some (18, false), .bi .gtr (.t 20) (.c (.int .i64 10))⟩, ⟨some 22, none, .pk (.t 18) (.c (.bool true)) (.t 21)⟩]
def q_law07_TypesIgnoreNumbers_29 : AC := .seq q_law07_TypesIgnoreNumbers_28 q_law07_TypesIgnoreNumbers_12
def q_law07_TypesIgnoreNumbers_30 : AC := .seq q_law07_TypesIgnoreNumbers_29 q_law07_TypesIgnoreNumbers_27
def q_law07_TypesIgnoreNumbers_31 : AC := .reg [⟨some 8, none, .mv (.c (.bool false))⟩]
def q_law07_TypesIgnoreNumbers_32 : AC := .seq q_law07_TypesIgnoreNumbers_31 q_law07_TypesIgnoreNumbers_30
def c_law07_TypesIgnoreNumbers : FC := ⟨85, [8], q_law07_TypesIgnoreNumbers_32⟩
theorem k_law07_TypesIgnoreNumbers : okF Try.prog 10 c_law07_TypesIgnoreNumbers = true := by decide +kernel
noncomputable def law07_TypesIgnoreNumbers.l29 (by_3 : Int) (s16 : Int × (List ApiTerm)) : Option ((Int × (List ApiTerm)) ⊕ (((List ApiTerm)))) := (bif (decide (s16.1 < (s16.2.length : Int))) then ((idx s16.2 s16.1).bind (fun (y18 : ApiTerm) => ((bif (decide (y18.Op = 1)) then ((idx s16.2 s16.1).bind (fun (y28 : ApiTerm) => (some (decide (0 ≤ y28.Arg))))) else (some false)).bind (fun (o21 : Bool) => ((bif o21 then ((idx s16.2 s16.1).bind (fun (y27 : ApiTerm) => (some (decide (y27.Arg ≤ 1073741824))))) else (some false)).bind (fun (o24 : Bool) => (bif o24 then ((made_Mod by_3 1073741825).bind (fun (y25 : Int) => ((idx s16.2 s16.1).bind (fun (y26 : ApiTerm) => (some (Sum.inl ((IntKind.i64.wrap (s16.1 + 1)), (List.set s16.2 (Int.toNat s16.1) ((ApiTerm.mk y26.Op y25)))))))))) else (some (Sum.inl ((IntKind.i64.wrap (s16.1 + 1)), s16.2)))))))))) else (some (Sum.inr s16.2)))
noncomputable def law07_TypesIgnoreNumbers (e_0 : List ApiTerm) (kinds_1 : List Int) (bound_2 : Bool) (by_3 : Int) : Option Bool := ((made_LightExpr e_0).bind (fun (y1 : Bool) => (bif ((!y1) || (decide (10 < (List.length kinds_1 : Int)))) then ((law07_awake).bind (fun (y4 : Bool) => (some y4))) else (bif (room (List.length e_0) 16) then ((loopO (law07_TypesIgnoreNumbers.l29 by_3) (0, e_0)).bind (fun (w7 : (List ApiTerm)) => ((types_Of e_0 kinds_1 bound_2).bind (fun (y9 : Int × Int) => ((types_Of w7 kinds_1 bound_2).bind (fun (y10 : Int × Int) => ((law07_awake).bind (fun (y11 : Bool) => (some ((y11 && (decide (y9.1 = y10.1))) && (decide (y9.2 = y10.2)))))))))))) else none))))
theorem law07_TypesIgnoreNumbers.ok {e_0 : List ApiTerm} {kinds_1 : List Int} {bound_2 : Bool} {by_3 : Int} {r : Bool} (h : law07_TypesIgnoreNumbers e_0 kinds_1 bound_2 by_3 = some r) : PC Try.prog 10 [.sl (List.map ApiTerm.cells e_0), .sl (List.map (cInt .i64) kinds_1), .bool bound_2, .int .i64 by_3] (.bool r) := by
  refine PC_run k_law07_TypesIgnoreNumbers rfl (L := [(0, .u (.sl (List.map ApiTerm.cells e_0))), (1, .u (.sl (List.map (cInt .i64) kinds_1))), (2, .u (.bool bound_2)), (3, .u (.int .i64 by_3))]) rfl ?_
  show Run Try.prog 85 (retQ [8] (.bool r)) [] q_law07_TypesIgnoreNumbers_32 _
  refine R_seq ?_
  refine R_reg ?_
  refine S_pure trivial (O_mv (d := .u (.bool false)) (by kernel_rfl)) ?_
  refine Rs_nil ?_
  refine N_s ?_
  refine R_seq ?_
  refine R_seq ?_
  refine R_reg ?_
  refine S_pure trivial (O_mv (d := .u (.sl (List.map ApiTerm.cells e_0))) (by kernel_rfl)) ?_
  obtain ⟨y1, hy1, h⟩ := bindS h
  refine S_pure trivial (O_ca (us := [.sl (List.map ApiTerm.cells e_0)]) (r := .bool y1) (by kernel_rfl) (made_LightExpr.ok hy1)) ?_
  refine S_pure trivial (O_not (b := y1) (by kernel_rfl)) ?_
  refine S_pure trivial (O_mv (d := .u (.bool ((!y1)))) (by kernel_rfl)) ?_
  have K2 : ∀ v3 : Bool, v3 = ((!y1) || (decide (10 < (List.length kinds_1 : Int)))) → Rs Try.prog 85 (retQ [8] (.bool r)) [.s q_law07_TypesIgnoreNumbers_12, .s q_law07_TypesIgnoreNumbers_27] [] (mkSt [(0, .u (.sl (List.map ApiTerm.cells e_0))), (1, .u (.sl (List.map (cInt .i64) kinds_1))), (2, .u (.bool bound_2)), (3, .u (.int .i64 by_3)), (22, .u (.bool v3))] [] 0) := by
    intro v3 e; subst e
    refine Rs_nil ?_
    refine N_s ?_
    refine R_cond (c := ((!y1) || (decide (10 < (List.length kinds_1 : Int))))) (by kernel_rfl) h (fun h => ?_) (fun h => ?_)
    · refine R_seq ?_
      refine R_reg ?_
      obtain ⟨y4, hy4, h⟩ := bindS h
      refine S_pure trivial (O_ca (us := []) (r := .bool y4) (by kernel_rfl) (law07_awake.ok hy4)) ?_
      refine S_pure trivial (O_mv (d := .u (.bool y4)) (by kernel_rfl)) ?_
      refine Rs_nil ?_
      refine N_s ?_
      obtain rfl := (Option.some.inj h)
      refine R_ret ?_
      exact Q_ret (x := .bool y4) (by kernel_rfl) (.refl _)
    · refine R_skip ?_
      refine N_s ?_
      refine R_seq ?_
      refine R_reg ?_
      refine S_pure trivial (O_mv (d := .u (.sl (List.map ApiTerm.cells e_0))) (by kernel_rfl)) ?_
      obtain ⟨hb, h⟩ := chkS h
      refine S_up trivial (O_apn (c := ApiTerm.cells) (li := e_0) (by kernel_rfl) (by show Srcs _ _ _ (.u (.sl (List.map ApiTerm.cells e_0))); exact Srcs.typed (c := ApiTerm.cells) (li := e_0) (fun _ => rfl)) hb) ?_
      refine S_pure trivial (O_mv (d := .msl 0 e_0.length) (by kernel_rfl)) ?_
      refine Rs_nil ?_
      refine N_s ?_
      refine R_seq ?_
      refine R_seq ?_
      refine R_reg ?_
      refine S_pure trivial (O_mv (d := .u (.int .i64 0)) (by kernel_rfl)) ?_
      refine Rs_nil ?_
      refine N_s ?_
      refine R_block ?_
      obtain ⟨o5, hE, h⟩ := bindS h
      have K8 : ∀ (w7 : (List ApiTerm)), w7 = o5 → Run Try.prog 85 (retQ [8] (.bool r)) [] q_law07_TypesIgnoreNumbers_9 (mkSt [(0, .u (.sl (List.map ApiTerm.cells e_0))), (1, .u (.sl (List.map (cInt .i64) kinds_1))), (2, .u (.bool bound_2)), (9, .msl 0 w7.length)] [(0, .row 2 (List.map ApiTerm.cells w7))] 1) := by
        intro w7 e; subst e
        refine R_seq ?_
        refine R_reg ?_
        refine S_pure trivial (O_mv (d := .u (.sl (List.map ApiTerm.cells e_0))) (by kernel_rfl)) ?_
        refine S_pure trivial (O_mv (d := .u (.sl (List.map (cInt .i64) kinds_1))) (by kernel_rfl)) ?_
        refine S_pure trivial (O_mv (d := .u (.bool bound_2)) (by kernel_rfl)) ?_
        obtain ⟨y9, hy9, h⟩ := bindS h
        refine S_pure trivial (O_ca (us := [.sl (List.map ApiTerm.cells e_0), .sl (List.map (cInt .i64) kinds_1), .bool bound_2]) (r := .tup [.int .i64 y9.1, .int .i64 y9.2]) (by kernel_rfl) (types_Of.ok hy9)) ?_
        refine S_pure trivial (O_mv (d := .u (.tup [.int .i64 y9.1, .int .i64 y9.2])) (by kernel_rfl)) ?_
        refine S_pure trivial (O_ex (us := [.int .i64 y9.1, .int .i64 y9.2]) (u := .int .i64 y9.1) (by kernel_rfl) (by kernel_rfl)) ?_
        refine S_pure trivial (O_ex (us := [.int .i64 y9.1, .int .i64 y9.2]) (u := .int .i64 y9.2) (by kernel_rfl) (by kernel_rfl)) ?_
        refine S_pure trivial (O_mv (d := .u (.int .i64 y9.1)) (by kernel_rfl)) ?_
        refine S_pure trivial (O_mv (d := .u (.int .i64 y9.2)) (by kernel_rfl)) ?_
        refine Rs_nil ?_
        refine N_s ?_
        refine R_seq ?_
        refine R_reg ?_
        refine S_pure trivial (O_mv (d := .msl 0 w7.length) (by kernel_rfl)) ?_
        refine S_pure trivial (O_mv (d := .u (.sl (List.map (cInt .i64) kinds_1))) (by kernel_rfl)) ?_
        refine S_pure trivial (O_mv (d := .u (.bool bound_2)) (by kernel_rfl)) ?_
        obtain ⟨y10, hy10, h⟩ := bindS h
        refine S_pure trivial (O_caf (ds := [.msl 0 w7.length, .u (.sl (List.map (cInt .i64) kinds_1)), .u (.bool bound_2)]) (us := [.sl (List.map ApiTerm.cells w7), .sl (List.map (cInt .i64) kinds_1), .bool bound_2]) (r := .tup [.int .i64 y10.1, .int .i64 y10.2]) (by kernel_rfl) (fz_cons (fz_msl (s := 2) (c := ApiTerm.cells) (li := w7) (by kernel_rfl)) (fz_cons fz_u (fz_cons fz_u fz_nil))) (types_Of.ok hy10) rfl) ?_
        refine S_pure trivial (O_mv (d := .u (.tup [.int .i64 y10.1, .int .i64 y10.2])) (by kernel_rfl)) ?_
        refine S_pure trivial (O_ex (us := [.int .i64 y10.1, .int .i64 y10.2]) (u := .int .i64 y10.1) (by kernel_rfl) (by kernel_rfl)) ?_
        refine S_pure trivial (O_ex (us := [.int .i64 y10.1, .int .i64 y10.2]) (u := .int .i64 y10.2) (by kernel_rfl) (by kernel_rfl)) ?_
        refine S_pure trivial (O_mv (d := .u (.int .i64 y10.1)) (by kernel_rfl)) ?_
        refine S_pure trivial (O_mv (d := .u (.int .i64 y10.2)) (by kernel_rfl)) ?_
        refine Rs_nil ?_
        refine N_s ?_
        refine R_seq ?_
        refine R_reg ?_
        obtain ⟨y11, hy11, h⟩ := bindS h
        refine S_pure trivial (O_ca (us := []) (r := .bool y11) (by kernel_rfl) (law07_awake.ok hy11)) ?_
        refine S_pure trivial (O_mv (d := .u (.bool y11)) (by kernel_rfl)) ?_
        have K12 : ∀ v13 : Bool, v13 = (y11 && (decide (y9.1 = y10.1))) → Rs Try.prog 85 (retQ [8] (.bool r)) [.s .ret] [⟨some 80, none, .mv (.t 79)⟩, ⟨some 81, some (80, true), .mv (.t 12)⟩, ⟨some 82, some (80, true), .mv (.t 14)⟩, ⟨some 83, some (80, true), .bi .eql (.t 81) (.t 82)⟩, ⟨some 84, none, .pk (.t 80) (.t 83) (.c (.bool false))⟩, ⟨some 8, none, .mv (.t 84)⟩] (mkSt [(12, .u (.int .i64 y9.2)), (14, .u (.int .i64 y10.2)), (79, .u (.bool v13))] [] 1) := by
          intro v13 e; subst e
          refine S_pure trivial (O_mv (d := .u (.bool ((y11 && (decide (y9.1 = y10.1)))))) (by kernel_rfl)) ?_
          have K14 : ∀ v15 : Bool, v15 = ((y11 && (decide (y9.1 = y10.1))) && (decide (y9.2 = y10.2))) → Rs Try.prog 85 (retQ [8] (.bool r)) [.s .ret] [⟨some 8, none, .mv (.t 84)⟩] (mkSt [(84, .u (.bool v15))] [] 1) := by
            intro v15 e; subst e
            refine S_pure trivial (O_mv (d := .u (.bool (((y11 && (decide (y9.1 = y10.1))) && (decide (y9.2 = y10.2)))))) (by kernel_rfl)) ?_
            refine Rs_nil ?_
            refine N_s ?_
            obtain rfl := (Option.some.inj h)
            refine R_ret ?_
            exact Q_ret (x := .bool (((y11 && (decide (y9.1 = y10.1))) && (decide (y9.2 = y10.2))))) (by kernel_rfl) (.refl _)
          refine S_case0 (t := 80) (c := (y11 && (decide (y9.1 = y10.1)))) (by kernel_rfl) (fun hc => ?_) (fun hc => ?_)
          · refine S_pure (by show _ = _; kernel_rfl) (O_mv (d := .u (.int .i64 y9.2)) (by kernel_rfl)) ?_
            refine S_pure (by show _ = _; kernel_rfl) (O_mv (d := .u (.int .i64 y10.2)) (by kernel_rfl)) ?_
            refine S_pure (by show _ = _; kernel_rfl) (O_eql (k := .i64) (a := y9.2) (b := y10.2) (by kernel_rfl) (by kernel_rfl)) ?_
            refine S_pure trivial (O_pkt (d := .u (.bool ((decide (y9.2 = y10.2))))) (by kernel_rfl) (by kernel_rfl)) ?_
            exact Rs_weak (W_to (by kernel_rfl) (by kernel_rfl) (by kernel_rfl)) (K14 _ (by rw [hc] <;> rfl))
          · refine S_skip (b := false) (by kernel_rfl) rfl ?_
            refine S_skip (b := false) (by kernel_rfl) rfl ?_
            refine S_skip (b := false) (by kernel_rfl) rfl ?_
            refine S_pure trivial (O_pkf (d := .u (.bool false)) (by kernel_rfl) (by kernel_rfl)) ?_
            exact Rs_weak (W_to (by kernel_rfl) (by kernel_rfl) (by kernel_rfl)) (K14 _ (by rw [hc] <;> rfl))
        refine S_case0 (t := 75) (c := y11) (by kernel_rfl) (fun hc => ?_) (fun hc => ?_)
        · refine S_pure (by show _ = _; kernel_rfl) (O_mv (d := .u (.int .i64 y9.1)) (by kernel_rfl)) ?_
          refine S_pure (by show _ = _; kernel_rfl) (O_mv (d := .u (.int .i64 y10.1)) (by kernel_rfl)) ?_
          refine S_pure (by show _ = _; kernel_rfl) (O_eql (k := .i64) (a := y9.1) (b := y10.1) (by kernel_rfl) (by kernel_rfl)) ?_
          refine S_pure trivial (O_pkt (d := .u (.bool ((decide (y9.1 = y10.1))))) (by kernel_rfl) (by kernel_rfl)) ?_
          exact Rs_weak (W_to (by kernel_rfl) (by kernel_rfl) (by kernel_rfl)) (K12 _ (by rw [hc] <;> rfl))
        · refine S_skip (b := false) (by kernel_rfl) rfl ?_
          refine S_skip (b := false) (by kernel_rfl) rfl ?_
          refine S_skip (b := false) (by kernel_rfl) rfl ?_
          refine S_pure trivial (O_pkf (d := .u (.bool false)) (by kernel_rfl) (by kernel_rfl)) ?_
          exact Rs_weak (W_to (by kernel_rfl) (by kernel_rfl) (by kernel_rfl)) (K12 _ (by rw [hc] <;> rfl))
      refine R_loop (law07_TypesIgnoreNumbers.l29 by_3) (fun s16 => (mkSt [(0, .u (.sl (List.map ApiTerm.cells e_0))), (1, .u (.sl (List.map (cInt .i64) kinds_1))), (2, .u (.bool bound_2)), (3, .u (.int .i64 by_3)), (9, .msl 0 s16.2.length), (10, .u (.int .i64 s16.1))] [(0, .row 2 (List.map ApiTerm.cells s16.2))] 1)) hE (W_to (by kernel_rfl) (by kernel_rfl) (by kernel_rfl)) ?_
      intro K6 s16 x17 h hK6 hO6
      refine R_seq ?_
      refine R_seq ?_
      refine R_reg ?_
      refine S_pure trivial (O_mv (d := .u (.int .i64 s16.1)) (by kernel_rfl)) ?_
      refine S_pure trivial (O_mv (d := .msl 0 s16.2.length) (by kernel_rfl)) ?_
      refine S_pure trivial (O_lnm (b := 0) (m := s16.2.length) (by kernel_rfl)) ?_
      refine S_pure trivial (O_lss (k := .i64) (a := s16.1) (b := (s16.2.length : Int)) (by kernel_rfl) (by kernel_rfl)) ?_
      refine Rs_nil ?_
      refine N_s ?_
      refine R_cond (c := (decide (s16.1 < (s16.2.length : Int)))) (by kernel_rfl) h (fun h => ?_) (fun h => ?_)
      · refine R_skip ?_
        refine N_s ?_
        refine R_seq ?_
        refine R_block ?_
        refine R_seq ?_
        refine R_reg ?_
        refine S_pure trivial (O_mv (d := .msl 0 s16.2.length) (by kernel_rfl)) ?_
        refine S_pure trivial (O_mv (d := .u (.int .i64 s16.1)) (by kernel_rfl)) ?_
        obtain ⟨y18, hy18, h⟩ := bindS h
        refine S_pure trivial (O_iam (c := ApiTerm.cells) (li := s16.2) (i := s16.1) (k := .i64) (a := y18) (b := 0) (by kernel_rfl) (by kernel_rfl) (by kernel_rfl) hy18) ?_
        refine S_pure trivial (O_far (b := 0) (s := 2) (i := (s16.1).toNat) (o := 0) (by kernel_rfl)) ?_
        refine S_pure trivial (O_ldr (b := 0) (s := 2) (off := 0) (c := ApiTerm.cells) (li := s16.2) (i := s16.1) (u := .int .i64 y18.Op) (by kernel_rfl) (by kernel_rfl) hy18 rfl (by kernel_rfl)) ?_
        refine S_pure trivial (O_eql (k := .i64) (a := y18.Op) (b := 1) (by kernel_rfl) (by kernel_rfl)) ?_
        refine S_pure trivial (O_mv (d := .u (.bool ((decide (y18.Op = 1))))) (by kernel_rfl)) ?_
        obtain ⟨o21, hE, h⟩ := bindS h
        have K19 : Rs Try.prog 85 (retQ [8] (.bool r)) [.s q_law07_TypesIgnoreNumbers_2, .b 1, .s q_law07_TypesIgnoreNumbers_3, .k K6, .b 0, .s q_law07_TypesIgnoreNumbers_9] [⟨some 46, none, .mv (.t 45)⟩, ⟨some 47, some (46, true), .mv (.t 9)⟩, ⟨some 48, some (46, true), .mv (.t 10)⟩, ⟨some 49, some (46, true), .ia 2 (.t 47) (.t 48)⟩, ⟨some 50, some (46, true), .fa 1 (.t 49)⟩, ⟨some 51, some (46, true), .ld false 1 (.t 50)⟩, ⟨some 52, some (46, true), .bi .leq (.t 51) (.c (.int .i64 1073741824))⟩, ⟨some 53, none, .pk (.t 46) (.t 52) (.c (.bool false))⟩] (mkSt [(0, .u (.sl (List.map ApiTerm.cells e_0))), (1, .u (.sl (List.map (cInt .i64) kinds_1))), (2, .u (.bool bound_2)), (3, .u (.int .i64 by_3)), (9, .msl 0 s16.2.length), (10, .u (.int .i64 s16.1)), (45, .u (.bool o21))] [(0, .row 2 (List.map ApiTerm.cells s16.2))] 1) := by
          refine S_pure trivial (O_mv (d := .u (.bool o21)) (by kernel_rfl)) ?_
          obtain ⟨o24, hE, h⟩ := bindS h
          have K22 : Rs Try.prog 85 (retQ [8] (.bool r)) [.s q_law07_TypesIgnoreNumbers_2, .b 1, .s q_law07_TypesIgnoreNumbers_3, .k K6, .b 0, .s q_law07_TypesIgnoreNumbers_9] [] (mkSt [(0, .u (.sl (List.map ApiTerm.cells e_0))), (1, .u (.sl (List.map (cInt .i64) kinds_1))), (2, .u (.bool bound_2)), (3, .u (.int .i64 by_3)), (9, .msl 0 s16.2.length), (10, .u (.int .i64 s16.1)), (53, .u (.bool o24))] [(0, .row 2 (List.map ApiTerm.cells s16.2))] 1) := by
            refine Rs_nil ?_
            refine N_s ?_
            refine R_cond (c := o24) (by kernel_rfl) h (fun h => ?_) (fun h => ?_)
            · refine R_reg ?_
              refine S_pure trivial (O_mv (d := .msl 0 s16.2.length) (by kernel_rfl)) ?_
              refine S_pure trivial (O_mv (d := .u (.int .i64 s16.1)) (by kernel_rfl)) ?_
              refine S_pure trivial (O_mv (d := .u (.int .i64 by_3)) (by kernel_rfl)) ?_
              obtain ⟨y25, hy25, h⟩ := bindS h
              refine S_pure trivial (O_ca (us := [.int .i64 by_3, .int .i64 1073741825]) (r := .int .i64 y25) (by kernel_rfl) (made_Mod.ok hy25)) ?_
              obtain ⟨y26, hy26, h⟩ := bindS h
              refine S_pure trivial (O_iam (c := ApiTerm.cells) (li := s16.2) (i := s16.1) (k := .i64) (a := y26) (b := 0) (by kernel_rfl) (by kernel_rfl) (by kernel_rfl) hy26) ?_
              refine S_pure trivial (O_far (b := 0) (s := 2) (i := (s16.1).toNat) (o := 0) (by kernel_rfl)) ?_
              refine S_set trivial (O_str (c := ApiTerm.cells) (li := s16.2) (i := s16.1) (a := y26) (a' := (ApiTerm.mk y26.Op y25)) (b := 0) (s := 2) (off := 1) (d := .u (.int .i64 y25)) (xs := [.u (.int .i64 y25)]) (us := [.int .i64 y25]) (by kernel_rfl) (by kernel_rfl) (by kernel_rfl) (by kernel_rfl) (by kernel_rfl) hy26 (by kernel_rfl) (by kernel_rfl)) ?_
              refine S_re (t := 54) (d := .msl 0 (List.set s16.2 (Int.toNat s16.1) ((ApiTerm.mk y26.Op y25))).length) (re_len (m := s16.2.length) (by kernel_rfl) List.length_set.symm) ?_
              refine S_re (t := 9) (d := .msl 0 (List.set s16.2 (Int.toNat s16.1) ((ApiTerm.mk y26.Op y25))).length) (re_len (m := s16.2.length) (by kernel_rfl) List.length_set.symm) ?_
              refine Rs_nil ?_
              refine N_b ?_
              refine N_s ?_
              refine R_reg ?_
              refine S_pure trivial (O_mv (d := .u (.int .i64 s16.1)) (by kernel_rfl)) ?_
              refine S_pure trivial (O_add (k := .i64) (a := s16.1) (b := 1) (by kernel_rfl) (by kernel_rfl)) ?_
              refine S_pure trivial (O_mv (d := .u (.int .i64 ((IntKind.i64.wrap (s16.1 + 1))))) (by kernel_rfl)) ?_
              refine Rs_nil ?_
              exact N_k (hK6 _ h _ (W_to (by kernel_rfl) (by kernel_rfl) (by kernel_rfl)))
            · refine R_skip ?_
              refine N_b ?_
              refine N_s ?_
              refine R_reg ?_
              refine S_pure trivial (O_mv (d := .u (.int .i64 s16.1)) (by kernel_rfl)) ?_
              refine S_pure trivial (O_add (k := .i64) (a := s16.1) (b := 1) (by kernel_rfl) (by kernel_rfl)) ?_
              refine S_pure trivial (O_mv (d := .u (.int .i64 ((IntKind.i64.wrap (s16.1 + 1))))) (by kernel_rfl)) ?_
              refine Rs_nil ?_
              exact N_k (hK6 _ h _ (W_to (by kernel_rfl) (by kernel_rfl) (by kernel_rfl)))
          replace h := hE
          refine S_case (t := 46) (c := o21) (by kernel_rfl) h (fun hc h => ?_) (fun hc h => ?_)
          · refine S_pure (by show _ = _; kernel_rfl) (O_mv (d := .msl 0 s16.2.length) (by kernel_rfl)) ?_
            refine S_pure (by show _ = _; kernel_rfl) (O_mv (d := .u (.int .i64 s16.1)) (by kernel_rfl)) ?_
            obtain ⟨y27, hy27, h⟩ := bindS h
            refine S_pure (by show _ = _; kernel_rfl) (O_iam (c := ApiTerm.cells) (li := s16.2) (i := s16.1) (k := .i64) (a := y27) (b := 0) (by kernel_rfl) (by kernel_rfl) (by kernel_rfl) hy27) ?_
            refine S_pure (by show _ = _; kernel_rfl) (O_far (b := 0) (s := 2) (i := (s16.1).toNat) (o := 0) (by kernel_rfl)) ?_
            refine S_pure (by show _ = _; kernel_rfl) (O_ldr (b := 0) (s := 2) (off := 1) (c := ApiTerm.cells) (li := s16.2) (i := s16.1) (u := .int .i64 y27.Arg) (by kernel_rfl) (by kernel_rfl) hy27 rfl (by kernel_rfl)) ?_
            refine S_pure (by show _ = _; kernel_rfl) (O_leq (k := .i64) (a := y27.Arg) (b := 1073741824) (by kernel_rfl) (by kernel_rfl)) ?_
            refine S_pure trivial (O_pkt (d := .u (.bool ((decide (y27.Arg ≤ 1073741824))))) (by kernel_rfl) (by kernel_rfl)) ?_
            obtain rfl := Option.some.inj h
            exact Rs_weak (W_to (by kernel_rfl) (by kernel_rfl) (by kernel_rfl)) K22
          · refine S_skip (b := false) (by kernel_rfl) rfl ?_
            refine S_skip (b := false) (by kernel_rfl) rfl ?_
            refine S_skip (b := false) (by kernel_rfl) rfl ?_
            refine S_skip (b := false) (by kernel_rfl) rfl ?_
            refine S_skip (b := false) (by kernel_rfl) rfl ?_
            refine S_skip (b := false) (by kernel_rfl) rfl ?_
            refine S_pure trivial (O_pkf (d := .u (.bool false)) (by kernel_rfl) (by kernel_rfl)) ?_
            obtain rfl := Option.some.inj h
            exact Rs_weak (W_to (by kernel_rfl) (by kernel_rfl) (by kernel_rfl)) K22
        replace h := hE
        refine S_case (t := 38) (c := (decide (y18.Op = 1))) (by kernel_rfl) h (fun hc h => ?_) (fun hc h => ?_)
        · refine S_pure (by show _ = _; kernel_rfl) (O_mv (d := .msl 0 s16.2.length) (by kernel_rfl)) ?_
          refine S_pure (by show _ = _; kernel_rfl) (O_mv (d := .u (.int .i64 s16.1)) (by kernel_rfl)) ?_
          obtain ⟨y28, hy28, h⟩ := bindS h
          refine S_pure (by show _ = _; kernel_rfl) (O_iam (c := ApiTerm.cells) (li := s16.2) (i := s16.1) (k := .i64) (a := y28) (b := 0) (by kernel_rfl) (by kernel_rfl) (by kernel_rfl) hy28) ?_
          refine S_pure (by show _ = _; kernel_rfl) (O_far (b := 0) (s := 2) (i := (s16.1).toNat) (o := 0) (by kernel_rfl)) ?_
          refine S_pure (by show _ = _; kernel_rfl) (O_ldr (b := 0) (s := 2) (off := 1) (c := ApiTerm.cells) (li := s16.2) (i := s16.1) (u := .int .i64 y28.Arg) (by kernel_rfl) (by kernel_rfl) hy28 rfl (by kernel_rfl)) ?_
          refine S_pure (by show _ = _; kernel_rfl) (O_geq (k := .i64) (a := y28.Arg) (b := 0) (by kernel_rfl) (by kernel_rfl)) ?_
          refine S_pure trivial (O_pkt (d := .u (.bool ((decide (0 ≤ y28.Arg))))) (by kernel_rfl) (by kernel_rfl)) ?_
          obtain rfl := Option.some.inj h
          exact Rs_weak (W_to (by kernel_rfl) (by kernel_rfl) (by kernel_rfl)) K19
        · refine S_skip (b := false) (by kernel_rfl) rfl ?_
          refine S_skip (b := false) (by kernel_rfl) rfl ?_
          refine S_skip (b := false) (by kernel_rfl) rfl ?_
          refine S_skip (b := false) (by kernel_rfl) rfl ?_
          refine S_skip (b := false) (by kernel_rfl) rfl ?_
          refine S_skip (b := false) (by kernel_rfl) rfl ?_
          refine S_pure trivial (O_pkf (d := .u (.bool false)) (by kernel_rfl) (by kernel_rfl)) ?_
          obtain rfl := Option.some.inj h
          exact Rs_weak (W_to (by kernel_rfl) (by kernel_rfl) (by kernel_rfl)) K19
      · refine R_exit ?_
        refine E_s ?_
        refine E_k ?_
        refine E_b ?_
        refine N_s ?_
        exact R_weak (W_to (by kernel_rfl) (by kernel_rfl) (by kernel_rfl)) (K8 _ (hO6 _ h))
  refine S_case0 (t := 18) (c := (!y1)) (by kernel_rfl) (fun hc => ?_) (fun hc => ?_)
  · refine S_skip (b := true) (by kernel_rfl) rfl ?_
    refine S_skip (b := true) (by kernel_rfl) rfl ?_
    refine S_skip (b := true) (by kernel_rfl) rfl ?_
    refine S_pure trivial (O_pkt (d := .u (.bool true)) (by kernel_rfl) (by kernel_rfl)) ?_
    exact Rs_weak (W_to (by kernel_rfl) (by kernel_rfl) (by kernel_rfl)) (K2 _ (by rw [hc] <;> rfl))
  · refine S_pure (by show _ = _; kernel_rfl) (O_mv (d := .u (.sl (List.map (cInt .i64) kinds_1))) (by kernel_rfl)) ?_
    refine S_pure (by show _ = _; kernel_rfl) (O_ln (c := (cInt .i64)) (li := kinds_1) (by kernel_rfl)) ?_
    refine S_pure (by show _ = _; kernel_rfl) (O_gtr (k := .i64) (a := (List.length kinds_1 : Int)) (b := 10) (by kernel_rfl) (by kernel_rfl)) ?_
    refine S_pure trivial (O_pkf (d := .u (.bool ((decide (10 < (List.length kinds_1 : Int)))))) (by kernel_rfl) (by kernel_rfl)) ?_
    exact Rs_weak (W_to (by kernel_rfl) (by kernel_rfl) (by kernel_rfl)) (K2 _ (by rw [hc] <;> rfl))

end Go.Proofs.Ytkpghgnbbfpbmaa
