/- Functions of the program over typed data, and that the program's functions come to their results: written by a program (lift.py). -/
import Derived.Test.YtkpghgnbbfpbmaaL11b
import Derived.Test.YtkpghgnbbfpbmaaChecked
set_option linter.unusedVariables false
set_option maxRecDepth 100000
set_option maxHeartbeats 1000000
namespace Go.Proofs.Ytkpghgnbbfpbmaa

/-! ### selfstab/selfstablaw11.EvalFolds -/
def q_law11_EvalFolds_1 : AC := .reg [⟨some 25, none, .ca 18 []⟩, ⟨some 26, none, .mv (.t 25)⟩, ⟨some 27, some (26, true), .mv (.t 5)⟩, ⟨some 28, some (26, true), .mv (.t 7)⟩, ⟨some 29, some (26, true), .bi .eql (.t 27) (.t 28)⟩, ⟨some 30, none, .pk (.t 26) (.t 29) (.c (.bool false))⟩, ⟨some 31, none, .mv (.t 30)⟩, ⟨some 32, some (31, true), .mv (.t 6)⟩, ⟨some 33, some (31, true), .mv (.t 8)⟩, ⟨some 34, some (31, true), .bi .eql (.t 32) (.t 33)⟩, ⟨some 35, none, .pk (.t 31) (.t 34) (.c (.bool false))⟩, ⟨some 4, none, .mv (.t 35)⟩]
def q_law11_EvalFolds_2 : AC := .seq q_law11_EvalFolds_1 .ret
def q_law11_EvalFolds_3 : AC := .reg [⟨some 20, none, .mv (.t 0)⟩, ⟨some 21, none, .mv (.t 1)⟩, ⟨some 22, none, .ca 20 [.t 20, .t 21]⟩, ⟨some 19, none, .mv (.t 22)⟩, ⟨some 23, none, .ex (.t 19) 0⟩, ⟨some 24, none, .ex (.t 19) 1⟩, ⟨some 7, none, .mv (.t 23)⟩, ⟨some 8, none, .mv (.t 24)⟩]
def q_law11_EvalFolds_4 : AC := .seq q_law11_EvalFolds_3 q_law11_EvalFolds_2
def q_law11_EvalFolds_5 : AC := .reg [⟨some 14, none, .mv (.t 0)⟩, ⟨some 15, none, .mv (.t 1)⟩, ⟨some 16, none, .ca 19 [.t 14, .t 15]⟩, ⟨some 13, none, .mv (.t 16)⟩, ⟨some 17, none, .ex (.t 13) 0⟩, ⟨some 18, none, .ex (.t 13) 1⟩, ⟨some 5, none, .mv (.t 17)⟩, ⟨some 6, none, .mv (.t 18)⟩]
def q_law11_EvalFolds_6 : AC := .seq q_law11_EvalFolds_5 q_law11_EvalFolds_4
def q_law11_EvalFolds_7 : AC := .reg [⟨some 12, none, .ca 18 []⟩, ⟨some 4, none, .mv (.t 12)⟩]
def q_law11_EvalFolds_8 : AC := .seq q_law11_EvalFolds_7 .ret
def q_law11_EvalFolds_9 : AC := .cond (.t 11) q_law11_EvalFolds_8 .skip
def q_law11_EvalFolds_10 : AC := .reg [⟨some 9, none, .mv (.t 1)⟩, ⟨some 10, none, .ln (.t 9)⟩, ⟨some 11, none, .bi .gtr (.t 10) (.c (.int .i64 40))⟩]
def q_law11_EvalFolds_11 : AC := .seq q_law11_EvalFolds_10 q_law11_EvalFolds_9
def q_law11_EvalFolds_12 : AC := .seq q_law11_EvalFolds_11 q_law11_EvalFolds_6
def q_law11_EvalFolds_13 : AC := .reg [⟨some 4, none, .mv (.c (.bool false))⟩]
def q_law11_EvalFolds_14 : AC := .seq q_law11_EvalFolds_13 q_law11_EvalFolds_12
def c_law11_EvalFolds : FC := ⟨36, [4], q_law11_EvalFolds_14⟩
theorem k_law11_EvalFolds : okF Try.prog 3 c_law11_EvalFolds = true := by decide +kernel
noncomputable def law11_EvalFolds (op_0 : Int) (l_1 : List Int) : Option Bool := (bif (decide (40 < (List.length l_1 : Int))) then ((law11_awake).bind (fun (y1 : Bool) => (some y1))) else ((eval_Fold op_0 l_1).bind (fun (y2 : Int × Int) => ((ref11_Fold op_0 l_1).bind (fun (y3 : Int × Int) => ((law11_awake).bind (fun (y4 : Bool) => (some ((y4 && (decide (y2.1 = y3.1))) && (decide (y2.2 = y3.2)))))))))))
theorem law11_EvalFolds.ok {op_0 : Int} {l_1 : List Int} {r : Bool} (h : law11_EvalFolds op_0 l_1 = some r) : PC Try.prog 3 [.int .i64 op_0, .sl (List.map (cInt .i64) l_1)] (.bool r) := by
  refine PC_run k_law11_EvalFolds rfl (L := [(0, .u (.int .i64 op_0)), (1, .u (.sl (List.map (cInt .i64) l_1)))]) rfl ?_
  show Run Try.prog 36 (retQ [4] (.bool r)) [] q_law11_EvalFolds_14 _
  refine R_seq ?_
  refine R_reg ?_
  refine S_pure trivial (O_mv (d := .u (.bool false)) (by kernel_rfl)) ?_
  refine Rs_nil ?_
  refine N_s ?_
  refine R_seq ?_
  refine R_seq ?_
  refine R_reg ?_
  refine S_pure trivial (O_mv (d := .u (.sl (List.map (cInt .i64) l_1))) (by kernel_rfl)) ?_
  refine S_pure trivial (O_ln (c := (cInt .i64)) (li := l_1) (by kernel_rfl)) ?_
  refine S_pure trivial (O_gtr (k := .i64) (a := (List.length l_1 : Int)) (b := 40) (by kernel_rfl) (by kernel_rfl)) ?_
  refine Rs_nil ?_
  refine N_s ?_
  refine R_cond (c := (decide (40 < (List.length l_1 : Int)))) (by kernel_rfl) h (fun h => ?_) (fun h => ?_)
  · refine R_seq ?_
    refine R_reg ?_
    obtain ⟨y1, hy1, h⟩ := bindS h
    refine S_pure trivial (O_ca (us := []) (r := .bool y1) (by kernel_rfl) (law11_awake.ok hy1)) ?_
    refine S_pure trivial (O_mv (d := .u (.bool y1)) (by kernel_rfl)) ?_
    refine Rs_nil ?_
    refine N_s ?_
    obtain rfl := (Option.some.inj h)
    refine R_ret ?_
    exact Q_ret (x := .bool y1) (by kernel_rfl) (.refl _)
  · refine R_skip ?_
    refine N_s ?_
    refine R_seq ?_
    refine R_reg ?_
    refine S_pure trivial (O_mv (d := .u (.int .i64 op_0)) (by kernel_rfl)) ?_
    refine S_pure trivial (O_mv (d := .u (.sl (List.map (cInt .i64) l_1))) (by kernel_rfl)) ?_
    obtain ⟨y2, hy2, h⟩ := bindS h
    refine S_pure trivial (O_ca (us := [.int .i64 op_0, .sl (List.map (cInt .i64) l_1)]) (r := .tup [.int .i64 y2.1, .int .i64 y2.2]) (by kernel_rfl) (eval_Fold.ok hy2)) ?_
    refine S_pure trivial (O_mv (d := .u (.tup [.int .i64 y2.1, .int .i64 y2.2])) (by kernel_rfl)) ?_
    refine S_pure trivial (O_ex (us := [.int .i64 y2.1, .int .i64 y2.2]) (u := .int .i64 y2.1) (by kernel_rfl) (by kernel_rfl)) ?_
    refine S_pure trivial (O_ex (us := [.int .i64 y2.1, .int .i64 y2.2]) (u := .int .i64 y2.2) (by kernel_rfl) (by kernel_rfl)) ?_
    refine S_pure trivial (O_mv (d := .u (.int .i64 y2.1)) (by kernel_rfl)) ?_
    refine S_pure trivial (O_mv (d := .u (.int .i64 y2.2)) (by kernel_rfl)) ?_
    refine Rs_nil ?_
    refine N_s ?_
    refine R_seq ?_
    refine R_reg ?_
    refine S_pure trivial (O_mv (d := .u (.int .i64 op_0)) (by kernel_rfl)) ?_
    refine S_pure trivial (O_mv (d := .u (.sl (List.map (cInt .i64) l_1))) (by kernel_rfl)) ?_
    obtain ⟨y3, hy3, h⟩ := bindS h
    refine S_pure trivial (O_ca (us := [.int .i64 op_0, .sl (List.map (cInt .i64) l_1)]) (r := .tup [.int .i64 y3.1, .int .i64 y3.2]) (by kernel_rfl) (ref11_Fold.ok hy3)) ?_
    refine S_pure trivial (O_mv (d := .u (.tup [.int .i64 y3.1, .int .i64 y3.2])) (by kernel_rfl)) ?_
    refine S_pure trivial (O_ex (us := [.int .i64 y3.1, .int .i64 y3.2]) (u := .int .i64 y3.1) (by kernel_rfl) (by kernel_rfl)) ?_
    refine S_pure trivial (O_ex (us := [.int .i64 y3.1, .int .i64 y3.2]) (u := .int .i64 y3.2) (by kernel_rfl) (by kernel_rfl)) ?_
    refine S_pure trivial (O_mv (d := .u (.int .i64 y3.1)) (by kernel_rfl)) ?_
    refine S_pure trivial (O_mv (d := .u (.int .i64 y3.2)) (by kernel_rfl)) ?_
    refine Rs_nil ?_
    refine N_s ?_
    refine R_seq ?_
    refine R_reg ?_
    obtain ⟨y4, hy4, h⟩ := bindS h
    refine S_pure trivial (O_ca (us := []) (r := .bool y4) (by kernel_rfl) (law11_awake.ok hy4)) ?_
    refine S_pure trivial (O_mv (d := .u (.bool y4)) (by kernel_rfl)) ?_
    have K5 : ∀ v6 : Bool, v6 = (y4 && (decide (y2.1 = y3.1))) → Rs Try.prog 36 (retQ [4] (.bool r)) [.s .ret] [⟨some 31, none, .mv (.t 30)⟩, ⟨some 32, some (31, true), .mv (.t 6)⟩, ⟨some 33, some (31, true), .mv (.t 8)⟩, ⟨some 34, some (31, true), .bi .eql (.t 32) (.t 33)⟩, ⟨some 35, none, .pk (.t 31) (.t 34) (.c (.bool false))⟩, ⟨some 4, none, .mv (.t 35)⟩] (mkSt [(6, .u (.int .i64 y2.2)), (8, .u (.int .i64 y3.2)), (30, .u (.bool v6))] [] 0) := by
      intro v6 e; subst e
      refine S_pure trivial (O_mv (d := .u (.bool ((y4 && (decide (y2.1 = y3.1)))))) (by kernel_rfl)) ?_
      have K7 : ∀ v8 : Bool, v8 = ((y4 && (decide (y2.1 = y3.1))) && (decide (y2.2 = y3.2))) → Rs Try.prog 36 (retQ [4] (.bool r)) [.s .ret] [⟨some 4, none, .mv (.t 35)⟩] (mkSt [(35, .u (.bool v8))] [] 0) := by
        intro v8 e; subst e
        refine S_pure trivial (O_mv (d := .u (.bool (((y4 && (decide (y2.1 = y3.1))) && (decide (y2.2 = y3.2)))))) (by kernel_rfl)) ?_
        refine Rs_nil ?_
        refine N_s ?_
        obtain rfl := (Option.some.inj h)
        refine R_ret ?_
        exact Q_ret (x := .bool (((y4 && (decide (y2.1 = y3.1))) && (decide (y2.2 = y3.2))))) (by kernel_rfl) (.refl _)
      refine S_case0 (t := 31) (c := (y4 && (decide (y2.1 = y3.1)))) (by kernel_rfl) (fun hc => ?_) (fun hc => ?_)
      · refine S_pure (by show _ = _; kernel_rfl) (O_mv (d := .u (.int .i64 y2.2)) (by kernel_rfl)) ?_
        refine S_pure (by show _ = _; kernel_rfl) (O_mv (d := .u (.int .i64 y3.2)) (by kernel_rfl)) ?_
        refine S_pure (by show _ = _; kernel_rfl) (O_eql (k := .i64) (a := y2.2) (b := y3.2) (by kernel_rfl) (by kernel_rfl)) ?_
        refine S_pure trivial (O_pkt (d := .u (.bool ((decide (y2.2 = y3.2))))) (by kernel_rfl) (by kernel_rfl)) ?_
        exact Rs_weak (W_to (by kernel_rfl) (by kernel_rfl) (by kernel_rfl)) (K7 _ (by rw [hc] <;> rfl))
      · refine S_skip (b := false) (by kernel_rfl) rfl ?_
        refine S_skip (b := false) (by kernel_rfl) rfl ?_
        refine S_skip (b := false) (by kernel_rfl) rfl ?_
        refine S_pure trivial (O_pkf (d := .u (.bool false)) (by kernel_rfl) (by kernel_rfl)) ?_
        exact Rs_weak (W_to (by kernel_rfl) (by kernel_rfl) (by kernel_rfl)) (K7 _ (by rw [hc] <;> rfl))
    refine S_case0 (t := 26) (c := y4) (by kernel_rfl) (fun hc => ?_) (fun hc => ?_)
    · refine S_pure (by show _ = _; kernel_rfl) (O_mv (d := .u (.int .i64 y2.1)) (by kernel_rfl)) ?_
      refine S_pure (by show _ = _; kernel_rfl) (O_mv (d := .u (.int .i64 y3.1)) (by kernel_rfl)) ?_
      refine S_pure (by show _ = _; kernel_rfl) (O_eql (k := .i64) (a := y2.1) (b := y3.1) (by kernel_rfl) (by kernel_rfl)) ?_
      refine S_pure trivial (O_pkt (d := .u (.bool ((decide (y2.1 = y3.1))))) (by kernel_rfl) (by kernel_rfl)) ?_
      exact Rs_weak (W_to (by kernel_rfl) (by kernel_rfl) (by kernel_rfl)) (K5 _ (by rw [hc] <;> rfl))
    · refine S_skip (b := false) (by kernel_rfl) rfl ?_
      refine S_skip (b := false) (by kernel_rfl) rfl ?_
      refine S_skip (b := false) (by kernel_rfl) rfl ?_
      refine S_pure trivial (O_pkf (d := .u (.bool false)) (by kernel_rfl) (by kernel_rfl)) ?_
      exact Rs_weak (W_to (by kernel_rfl) (by kernel_rfl) (by kernel_rfl)) (K5 _ (by rw [hc] <;> rfl))

/-! ### selfstab/selfstablaw11.EvalDivides -/
def q_law11_EvalDivides_1 : AC := .reg [⟨some 42, none, .ca 18 []⟩, ⟨some 43, none, .mv (.t 42)⟩, ⟨some 44, some (43, true), .mv (.t 5)⟩, ⟨some 45, some (43, true), .mv (.t 1)⟩, ⟨some 46, some (43, true), .bi .mul (.t 44) (.t 45)⟩, ⟨some 47, some (43, true), .mv (.t 7)⟩, ⟨some 48, some (43, true), .bi .add (.t 46) (.t 47)⟩, ⟨some 49, some (43, true), .mv (.t 0)⟩, ⟨some 50, some (43, true), .bi .eql (.t 48) (.t 49)⟩, ⟨some 51, none, .pk (.t 43) (.t 50) (.c (.bool false))⟩, ⟨some 52, none, .mv (.t 51)⟩, ⟨some 53, some (52, true), .mv (.t 1)⟩, ⟨some 54, some (52, true), .bi .gtr (.t 53) (.c (.int .i64 0))⟩, ⟨some 55, some (52, true), .mv (.t 54)⟩, ⟨some 56, some (55, true), .mv (.t 7)⟩, ⟨some 57, some (55, true), .bi .geq (.t 56) (.c (.int .i64 0))⟩, ⟨some 58, some (52, true), .pk (.t 55) (.t 57) (.c (.bool false))⟩, ⟨some 59, some (52, true), .mv (.t 58)⟩, ⟨some 60, some (59, true), .mv (.t 7)⟩, ⟨some 61, some (59, true), .mv (.t 1)⟩, ⟨some 62, some (59, true), .bi .lss (.t 60) (.t 61)⟩, ⟨some 63, some (52, true), .pk (.t 59) (.t 62) (.c (.bool false))⟩, ⟨some 64, some (52, true), .mv (.t 63)⟩, ⟨some 65, some (64, false), .mv (.t 1)⟩, ⟨some 66, some (64, false), .bi .lss (.t 65) (.c (.int .i64 0))⟩, ⟨some 67, some (64, false), .mv (.t 66)⟩, ⟨some 68, some (67, true), .mv (.t 7)⟩, ⟨some 69, some (67, true), .bi .leq (.t 68) (.c (.int .i64 0))⟩, ⟨some 70, some (64, false), .pk (.t 67) (.t 69) (.c (.bool false))⟩, ⟨some 71, some (64, false), .mv (.t 70)⟩, ⟨some 72, some (71, true), .mv (.t 7)⟩, ⟨some 73, some (71, true), .mv (.t 1)⟩, ⟨some 74, some (71, true), .bi .gtr (.t 72) (.t 73)⟩, ⟨some 75, some (64, false), .pk (.t 71) (.t 74) (.c (.bool false))⟩, ⟨some 76, some (52, true), .pk (.t 64) (.c (.bool true)) (.t 75)⟩, ⟨some 77, none, .pk (.t 52) (.t 76) (.c (.bool false))⟩, ⟨some 4, none, .mv (.t 77)⟩]
def q_law11_EvalDivides_2 : AC := .seq q_law11_EvalDivides_1 .ret
def q_law11_EvalDivides_3 : AC := .reg [⟨some 4, none, .mv (.c (.bool false))⟩]
def q_law11_EvalDivides_4 : AC := .seq q_law11_EvalDivides_3 .ret
def q_law11_EvalDivides_5 : AC := .cond (.t 30) q_law11_EvalDivides_4 .skip
def q_law11_EvalDivides_6 : AC := .reg [⟨some 33, none, .ca 18 []⟩, ⟨some 34, none, .mv (.t 33)⟩, ⟨some 35, some (34, true), .mv (.t 5)⟩, ⟨some 36, some (34, true), .bi .eql (.t 35) (.c (.int .i64 0))⟩, ⟨some 37, none, .pk (.t 34) (.t 36) (.c (.bool false))⟩, ⟨some 38, none, .mv (.t 37)⟩, ⟨some 39, some (38, true), .mv (.t 7)⟩, ⟨some 40, some (38, true), .bi .eql (.t 39) (.c (.int .i64 0))⟩, ⟨some 41, none, .pk (.t 38) (.t 40) (.c (.bool false))⟩, ⟨some 4, none, .mv (.t 41)⟩]
def q_law11_EvalDivides_7 : AC := .seq q_law11_EvalDivides_6 .ret
def q_law11_EvalDivides_8 : AC := .cond (.t 32) q_law11_EvalDivides_7 .skip
def q_law11_EvalDivides_9 : AC := .reg [⟨some 31, none, .mv (.t 1)⟩, ⟨some 32, none, .bi .eql (.t 31) (.c (.int .i64 0))⟩]
def q_law11_EvalDivides_10 : AC := .seq q_law11_EvalDivides_9 q_law11_EvalDivides_8
def q_law11_EvalDivides_11 : AC := .seq q_law11_EvalDivides_10 q_law11_EvalDivides_2
def q_law11_EvalDivides_12 : AC := .reg [⟨some 25, none, .mv (.t 6)⟩, ⟨some 26, none, .bi .neq (.t 25) (.c (.int .i64 0))⟩, ⟨some 27, none, .mv (.t 26)⟩, ⟨some 28, some (27, false), .mv (.t 8)⟩, ⟨some 29, some (27, false), .bi .neq (.t 28) (.c (.int .i64 0))⟩, ⟨some 30, none, .pk (.t 27) (.c (.bool true)) (.t 29)⟩]
def q_law11_EvalDivides_13 : AC := .seq q_law11_EvalDivides_12 q_law11_EvalDivides_5
def q_law11_EvalDivides_14 : AC := .seq q_law11_EvalDivides_13 q_law11_EvalDivides_11
def q_law11_EvalDivides_15 : AC := .reg [⟨some 20, none, .mv (.t 0)⟩, ⟨some 21, none, .mv (.t 1)⟩, ⟨some 22, none, .ca 22 [.c (.int .i64 32), .t 20, .t 21]⟩, ⟨some 19, none, .mv (.t 22)⟩, ⟨some 23, none, .ex (.t 19) 0⟩, ⟨some 24, none, .ex (.t 19) 1⟩, ⟨some 7, none, .mv (.t 23)⟩, ⟨some 8, none, .mv (.t 24)⟩]
def q_law11_EvalDivides_16 : AC := .seq q_law11_EvalDivides_15 q_law11_EvalDivides_14
def q_law11_EvalDivides_17 : AC := .reg [⟨some 14, none, .mv (.t 0)⟩, ⟨some 15, none, .mv (.t 1)⟩, ⟨some 16, none, .ca 22 [.c (.int .i64 31), .t 14, .t 15]⟩, ⟨some 13, none, .mv (.t 16)⟩, ⟨some 17, none, .ex (.t 13) 0⟩, ⟨some 18, none, .ex (.t 13) 1⟩, ⟨some 5, none, .mv (.t 17)⟩, ⟨some 6, none, .mv (.t 18)⟩]
def q_law11_EvalDivides_18 : AC := .seq q_law11_EvalDivides_17 q_law11_EvalDivides_16
def q_law11_EvalDivides_19 : AC := .reg [⟨some 9, none, .mv (.t 0)⟩, ⟨some 10, none, .ca 21 [.t 9]⟩, ⟨some 11, none, .mv (.t 1)⟩, ⟨some 12, none, .ca 21 [.t 11]⟩, ⟨some 0, none, .mv (.t 10)⟩, ⟨some 1, none, .mv (.t 12)⟩]
def q_law11_EvalDivides_20 : AC := .seq q_law11_EvalDivides_19 q_law11_EvalDivides_18
def q_law11_EvalDivides_21 : AC := .reg [⟨some 4, none, .mv (.c (.bool false))⟩]
def q_law11_EvalDivides_22 : AC := .seq q_law11_EvalDivides_21 q_law11_EvalDivides_20
def c_law11_EvalDivides : FC := ⟨78, [4], q_law11_EvalDivides_22⟩
theorem k_law11_EvalDivides : okF Try.prog 4 c_law11_EvalDivides = true := by decide +kernel
noncomputable def law11_EvalDivides (a_0 : Int) (b_1 : Int) : Option Bool := ((ref11_Saturate a_0).bind (fun (y1 : Int) => ((ref11_Saturate b_1).bind (fun (y2 : Int) => ((eval_Binary 31 y1 y2).bind (fun (y3 : Int × Int) => ((eval_Binary 32 y1 y2).bind (fun (y4 : Int × Int) => (bif ((!decide (y3.2 = 0)) || (!decide (y4.2 = 0))) then (some false) else (bif (decide (y2 = 0)) then ((law11_awake).bind (fun (y7 : Bool) => (some ((y7 && (decide (y3.1 = 0))) && (decide (y4.1 = 0)))))) else ((law11_awake).bind (fun (y12 : Bool) => (some ((y12 && (decide ((IntKind.i64.wrap ((IntKind.i64.wrap (y3.1 * y2)) + y4.1)) = y1))) && ((((decide (0 < y2)) && (decide (0 ≤ y4.1))) && (decide (y4.1 < y2))) || (((decide (y2 < 0)) && (decide (y4.1 ≤ 0))) && (decide (y2 < y4.1))))))))))))))))))
theorem law11_EvalDivides.ok {a_0 : Int} {b_1 : Int} {r : Bool} (h : law11_EvalDivides a_0 b_1 = some r) : PC Try.prog 4 [.int .i64 a_0, .int .i64 b_1] (.bool r) := by
  refine PC_run k_law11_EvalDivides rfl (L := [(0, .u (.int .i64 a_0)), (1, .u (.int .i64 b_1))]) rfl ?_
  show Run Try.prog 78 (retQ [4] (.bool r)) [] q_law11_EvalDivides_22 _
  refine R_seq ?_
  refine R_reg ?_
  refine S_pure trivial (O_mv (d := .u (.bool false)) (by kernel_rfl)) ?_
  refine Rs_nil ?_
  refine N_s ?_
  refine R_seq ?_
  refine R_reg ?_
  refine S_pure trivial (O_mv (d := .u (.int .i64 a_0)) (by kernel_rfl)) ?_
  obtain ⟨y1, hy1, h⟩ := bindS h
  refine S_pure trivial (O_ca (us := [.int .i64 a_0]) (r := .int .i64 y1) (by kernel_rfl) (ref11_Saturate.ok hy1)) ?_
  refine S_pure trivial (O_mv (d := .u (.int .i64 b_1)) (by kernel_rfl)) ?_
  obtain ⟨y2, hy2, h⟩ := bindS h
  refine S_pure trivial (O_ca (us := [.int .i64 b_1]) (r := .int .i64 y2) (by kernel_rfl) (ref11_Saturate.ok hy2)) ?_
  refine S_pure trivial (O_mv (d := .u (.int .i64 y1)) (by kernel_rfl)) ?_
  refine S_pure trivial (O_mv (d := .u (.int .i64 y2)) (by kernel_rfl)) ?_
  refine Rs_nil ?_
  refine N_s ?_
  refine R_seq ?_
  refine R_reg ?_
  refine S_pure trivial (O_mv (d := .u (.int .i64 y1)) (by kernel_rfl)) ?_
  refine S_pure trivial (O_mv (d := .u (.int .i64 y2)) (by kernel_rfl)) ?_
  obtain ⟨y3, hy3, h⟩ := bindS h
  refine S_pure trivial (O_ca (us := [.int .i64 31, .int .i64 y1, .int .i64 y2]) (r := .tup [.int .i64 y3.1, .int .i64 y3.2]) (by kernel_rfl) (eval_Binary.ok hy3)) ?_
  refine S_pure trivial (O_mv (d := .u (.tup [.int .i64 y3.1, .int .i64 y3.2])) (by kernel_rfl)) ?_
  refine S_pure trivial (O_ex (us := [.int .i64 y3.1, .int .i64 y3.2]) (u := .int .i64 y3.1) (by kernel_rfl) (by kernel_rfl)) ?_
  refine S_pure trivial (O_ex (us := [.int .i64 y3.1, .int .i64 y3.2]) (u := .int .i64 y3.2) (by kernel_rfl) (by kernel_rfl)) ?_
  refine S_pure trivial (O_mv (d := .u (.int .i64 y3.1)) (by kernel_rfl)) ?_
  refine S_pure trivial (O_mv (d := .u (.int .i64 y3.2)) (by kernel_rfl)) ?_
  refine Rs_nil ?_
  refine N_s ?_
  refine R_seq ?_
  refine R_reg ?_
  refine S_pure trivial (O_mv (d := .u (.int .i64 y1)) (by kernel_rfl)) ?_
  refine S_pure trivial (O_mv (d := .u (.int .i64 y2)) (by kernel_rfl)) ?_
  obtain ⟨y4, hy4, h⟩ := bindS h
  refine S_pure trivial (O_ca (us := [.int .i64 32, .int .i64 y1, .int .i64 y2]) (r := .tup [.int .i64 y4.1, .int .i64 y4.2]) (by kernel_rfl) (eval_Binary.ok hy4)) ?_
  refine S_pure trivial (O_mv (d := .u (.tup [.int .i64 y4.1, .int .i64 y4.2])) (by kernel_rfl)) ?_
  refine S_pure trivial (O_ex (us := [.int .i64 y4.1, .int .i64 y4.2]) (u := .int .i64 y4.1) (by kernel_rfl) (by kernel_rfl)) ?_
  refine S_pure trivial (O_ex (us := [.int .i64 y4.1, .int .i64 y4.2]) (u := .int .i64 y4.2) (by kernel_rfl) (by kernel_rfl)) ?_
  refine S_pure trivial (O_mv (d := .u (.int .i64 y4.1)) (by kernel_rfl)) ?_
  refine S_pure trivial (O_mv (d := .u (.int .i64 y4.2)) (by kernel_rfl)) ?_
  refine Rs_nil ?_
  refine N_s ?_
  refine R_seq ?_
  refine R_seq ?_
  refine R_reg ?_
  refine S_pure trivial (O_mv (d := .u (.int .i64 y3.2)) (by kernel_rfl)) ?_
  refine S_pure trivial (O_neq (k := .i64) (a := y3.2) (b := 0) (by kernel_rfl) (by kernel_rfl)) ?_
  refine S_pure trivial (O_mv (d := .u (.bool ((!decide (y3.2 = 0))))) (by kernel_rfl)) ?_
  have K5 : ∀ v6 : Bool, v6 = ((!decide (y3.2 = 0)) || (!decide (y4.2 = 0))) → Rs Try.prog 78 (retQ [4] (.bool r)) [.s q_law11_EvalDivides_5, .s q_law11_EvalDivides_11] [] (mkSt [(0, .u (.int .i64 y1)), (1, .u (.int .i64 y2)), (5, .u (.int .i64 y3.1)), (7, .u (.int .i64 y4.1)), (30, .u (.bool v6))] [] 0) := by
    intro v6 e; subst e
    refine Rs_nil ?_
    refine N_s ?_
    refine R_cond (c := ((!decide (y3.2 = 0)) || (!decide (y4.2 = 0)))) (by kernel_rfl) h (fun h => ?_) (fun h => ?_)
    · refine R_seq ?_
      refine R_reg ?_
      refine S_pure trivial (O_mv (d := .u (.bool false)) (by kernel_rfl)) ?_
      refine Rs_nil ?_
      refine N_s ?_
      obtain rfl := (Option.some.inj h)
      refine R_ret ?_
      exact Q_ret (x := .bool false) (by kernel_rfl) (.refl _)
    · refine R_skip ?_
      refine N_s ?_
      refine R_seq ?_
      refine R_seq ?_
      refine R_reg ?_
      refine S_pure trivial (O_mv (d := .u (.int .i64 y2)) (by kernel_rfl)) ?_
      refine S_pure trivial (O_eql (k := .i64) (a := y2) (b := 0) (by kernel_rfl) (by kernel_rfl)) ?_
      refine Rs_nil ?_
      refine N_s ?_
      refine R_cond (c := (decide (y2 = 0))) (by kernel_rfl) h (fun h => ?_) (fun h => ?_)
      · refine R_seq ?_
        refine R_reg ?_
        obtain ⟨y7, hy7, h⟩ := bindS h
        refine S_pure trivial (O_ca (us := []) (r := .bool y7) (by kernel_rfl) (law11_awake.ok hy7)) ?_
        refine S_pure trivial (O_mv (d := .u (.bool y7)) (by kernel_rfl)) ?_
        have K8 : ∀ v9 : Bool, v9 = (y7 && (decide (y3.1 = 0))) → Rs Try.prog 78 (retQ [4] (.bool r)) [.s .ret, .s q_law11_EvalDivides_2] [⟨some 38, none, .mv (.t 37)⟩, ⟨some 39, some (38, true), .mv (.t 7)⟩, ⟨some 40, some (38, true), .bi .eql (.t 39) (.c (.int .i64 0))⟩, ⟨some 41, none, .pk (.t 38) (.t 40) (.c (.bool false))⟩, ⟨some 4, none, .mv (.t 41)⟩] (mkSt [(7, .u (.int .i64 y4.1)), (37, .u (.bool v9))] [] 0) := by
          intro v9 e; subst e
          refine S_pure trivial (O_mv (d := .u (.bool ((y7 && (decide (y3.1 = 0)))))) (by kernel_rfl)) ?_
          have K10 : ∀ v11 : Bool, v11 = ((y7 && (decide (y3.1 = 0))) && (decide (y4.1 = 0))) → Rs Try.prog 78 (retQ [4] (.bool r)) [.s .ret, .s q_law11_EvalDivides_2] [⟨some 4, none, .mv (.t 41)⟩] (mkSt [(41, .u (.bool v11))] [] 0) := by
            intro v11 e; subst e
            refine S_pure trivial (O_mv (d := .u (.bool (((y7 && (decide (y3.1 = 0))) && (decide (y4.1 = 0)))))) (by kernel_rfl)) ?_
            refine Rs_nil ?_
            refine N_s ?_
            obtain rfl := (Option.some.inj h)
            refine R_ret ?_
            exact Q_ret (x := .bool (((y7 && (decide (y3.1 = 0))) && (decide (y4.1 = 0))))) (by kernel_rfl) (.refl _)
          refine S_case0 (t := 38) (c := (y7 && (decide (y3.1 = 0)))) (by kernel_rfl) (fun hc => ?_) (fun hc => ?_)
          · refine S_pure (by show _ = _; kernel_rfl) (O_mv (d := .u (.int .i64 y4.1)) (by kernel_rfl)) ?_
            refine S_pure (by show _ = _; kernel_rfl) (O_eql (k := .i64) (a := y4.1) (b := 0) (by kernel_rfl) (by kernel_rfl)) ?_
            refine S_pure trivial (O_pkt (d := .u (.bool ((decide (y4.1 = 0))))) (by kernel_rfl) (by kernel_rfl)) ?_
            exact Rs_weak (W_to (by kernel_rfl) (by kernel_rfl) (by kernel_rfl)) (K10 _ (by rw [hc] <;> rfl))
          · refine S_skip (b := false) (by kernel_rfl) rfl ?_
            refine S_skip (b := false) (by kernel_rfl) rfl ?_
            refine S_pure trivial (O_pkf (d := .u (.bool false)) (by kernel_rfl) (by kernel_rfl)) ?_
            exact Rs_weak (W_to (by kernel_rfl) (by kernel_rfl) (by kernel_rfl)) (K10 _ (by rw [hc] <;> rfl))
        refine S_case0 (t := 34) (c := y7) (by kernel_rfl) (fun hc => ?_) (fun hc => ?_)
        · refine S_pure (by show _ = _; kernel_rfl) (O_mv (d := .u (.int .i64 y3.1)) (by kernel_rfl)) ?_
          refine S_pure (by show _ = _; kernel_rfl) (O_eql (k := .i64) (a := y3.1) (b := 0) (by kernel_rfl) (by kernel_rfl)) ?_
          refine S_pure trivial (O_pkt (d := .u (.bool ((decide (y3.1 = 0))))) (by kernel_rfl) (by kernel_rfl)) ?_
          exact Rs_weak (W_to (by kernel_rfl) (by kernel_rfl) (by kernel_rfl)) (K8 _ (by rw [hc] <;> rfl))
        · refine S_skip (b := false) (by kernel_rfl) rfl ?_
          refine S_skip (b := false) (by kernel_rfl) rfl ?_
          refine S_pure trivial (O_pkf (d := .u (.bool false)) (by kernel_rfl) (by kernel_rfl)) ?_
          exact Rs_weak (W_to (by kernel_rfl) (by kernel_rfl) (by kernel_rfl)) (K8 _ (by rw [hc] <;> rfl))
      · refine R_skip ?_
        refine N_s ?_
        refine R_seq ?_
        refine R_reg ?_
        obtain ⟨y12, hy12, h⟩ := bindS h
        refine S_pure trivial (O_ca (us := []) (r := .bool y12) (by kernel_rfl) (law11_awake.ok hy12)) ?_
        refine S_pure trivial (O_mv (d := .u (.bool y12)) (by kernel_rfl)) ?_
        have K13 : ∀ v14 : Bool, v14 = (y12 && (decide ((IntKind.i64.wrap ((IntKind.i64.wrap (y3.1 * y2)) + y4.1)) = y1))) → Rs Try.prog 78 (retQ [4] (.bool r)) [.s .ret] [⟨some 52, none, .mv (.t 51)⟩, ⟨some 53, some (52, true), .mv (.t 1)⟩, ⟨some 54, some (52, true), .bi .gtr (.t 53) (.c (.int .i64 0))⟩, ⟨some 55, some (52, true), .mv (.t 54)⟩, ⟨some 56, some (55, true), .mv (.t 7)⟩, ⟨some 57, some (55, true), .bi .geq (.t 56) (.c (.int .i64 0))⟩, ⟨some 58, some (52, true), .pk (.t 55) (.t 57) (.c (.bool false))⟩, ⟨some 59, some (52, true), .mv (.t 58)⟩, ⟨some 60, some (59, true), .mv (.t 7)⟩, ⟨some 61, some (59, true), .mv (.t 1)⟩, ⟨some 62, some (59, true), .bi .lss (.t 60) (.t 61)⟩, ⟨some 63, some (52, true), .pk (.t 59) (.t 62) (.c (.bool false))⟩, ⟨some 64, some (52, true), .mv (.t 63)⟩, ⟨some 65, some (64, false), .mv (.t 1)⟩, ⟨some 66, some (64, false), .bi .lss (.t 65) (.c (.int .i64 0))⟩, ⟨some 67, some (64, false), .mv (.t 66)⟩, ⟨some 68, some (67, true), .mv (.t 7)⟩, ⟨some 69, some (67, true), .bi .leq (.t 68) (.c (.int .i64 0))⟩, ⟨some 70, some (64, false), .pk (.t 67) (.t 69) (.c (.bool false))⟩, ⟨some 71, some (64, false), .mv (.t 70)⟩, ⟨some 72, some (71, true), .mv (.t 7)⟩, ⟨some 73, some (71, true), .mv (.t 1)⟩, ⟨some 74, some (71, true), .bi .gtr (.t 72) (.t 73)⟩, ⟨some 75, some (64, false), .pk (.t 71) (.t 74) (.c (.bool false))⟩, ⟨some 76, some (52, true), .pk (.t 64) (.c (.bool true)) (.t 75)⟩, ⟨some 77, none, .pk (.t 52) (.t 76) (.c (.bool false))⟩, ⟨some 4, none, .mv (.t 77)⟩] (mkSt [(1, .u (.int .i64 y2)), (7, .u (.int .i64 y4.1)), (51, .u (.bool v14))] [] 0) := by
          intro v14 e; subst e
          refine S_pure trivial (O_mv (d := .u (.bool ((y12 && (decide ((IntKind.i64.wrap ((IntKind.i64.wrap (y3.1 * y2)) + y4.1)) = y1)))))) (by kernel_rfl)) ?_
          have K15 : ∀ v16 : Bool, v16 = ((y12 && (decide ((IntKind.i64.wrap ((IntKind.i64.wrap (y3.1 * y2)) + y4.1)) = y1))) && ((((decide (0 < y2)) && (decide (0 ≤ y4.1))) && (decide (y4.1 < y2))) || (((decide (y2 < 0)) && (decide (y4.1 ≤ 0))) && (decide (y2 < y4.1))))) → Rs Try.prog 78 (retQ [4] (.bool r)) [.s .ret] [⟨some 4, none, .mv (.t 77)⟩] (mkSt [(77, .u (.bool v16))] [] 0) := by
            intro v16 e; subst e
            refine S_pure trivial (O_mv (d := .u (.bool (((y12 && (decide ((IntKind.i64.wrap ((IntKind.i64.wrap (y3.1 * y2)) + y4.1)) = y1))) && ((((decide (0 < y2)) && (decide (0 ≤ y4.1))) && (decide (y4.1 < y2))) || (((decide (y2 < 0)) && (decide (y4.1 ≤ 0))) && (decide (y2 < y4.1)))))))) (by kernel_rfl)) ?_
            refine Rs_nil ?_
            refine N_s ?_
            obtain rfl := (Option.some.inj h)
            refine R_ret ?_
            exact Q_ret (x := .bool (((y12 && (decide ((IntKind.i64.wrap ((IntKind.i64.wrap (y3.1 * y2)) + y4.1)) = y1))) && ((((decide (0 < y2)) && (decide (0 ≤ y4.1))) && (decide (y4.1 < y2))) || (((decide (y2 < 0)) && (decide (y4.1 ≤ 0))) && (decide (y2 < y4.1))))))) (by kernel_rfl) (.refl _)
          refine S_case0 (t := 52) (c := (y12 && (decide ((IntKind.i64.wrap ((IntKind.i64.wrap (y3.1 * y2)) + y4.1)) = y1)))) (by kernel_rfl) (fun hc => ?_) (fun hc => ?_)
          · refine S_pure (by show _ = _; kernel_rfl) (O_mv (d := .u (.int .i64 y2)) (by kernel_rfl)) ?_
            refine S_pure (by show _ = _; kernel_rfl) (O_gtr (k := .i64) (a := y2) (b := 0) (by kernel_rfl) (by kernel_rfl)) ?_
            refine S_pure (by show _ = _; kernel_rfl) (O_mv (d := .u (.bool ((decide (0 < y2))))) (by kernel_rfl)) ?_
            have K17 : ∀ v18 : Bool, v18 = ((decide (0 < y2)) && (decide (0 ≤ y4.1))) → Rs Try.prog 78 (retQ [4] (.bool r)) [.s .ret] [⟨some 59, some (52, true), .mv (.t 58)⟩, ⟨some 60, some (59, true), .mv (.t 7)⟩, ⟨some 61, some (59, true), .mv (.t 1)⟩, ⟨some 62, some (59, true), .bi .lss (.t 60) (.t 61)⟩, ⟨some 63, some (52, true), .pk (.t 59) (.t 62) (.c (.bool false))⟩, ⟨some 64, some (52, true), .mv (.t 63)⟩, ⟨some 65, some (64, false), .mv (.t 1)⟩, ⟨some 66, some (64, false), .bi .lss (.t 65) (.c (.int .i64 0))⟩, ⟨some 67, some (64, false), .mv (.t 66)⟩, ⟨some 68, some (67, true), .mv (.t 7)⟩, ⟨some 69, some (67, true), .bi .leq (.t 68) (.c (.int .i64 0))⟩, ⟨some 70, some (64, false), .pk (.t 67) (.t 69) (.c (.bool false))⟩, ⟨some 71, some (64, false), .mv (.t 70)⟩, ⟨some 72, some (71, true), .mv (.t 7)⟩, ⟨some 73, some (71, true), .mv (.t 1)⟩, ⟨some 74, some (71, true), .bi .gtr (.t 72) (.t 73)⟩, ⟨some 75, some (64, false), .pk (.t 71) (.t 74) (.c (.bool false))⟩, ⟨some 76, some (52, true), .pk (.t 64) (.c (.bool true)) (.t 75)⟩, ⟨some 77, none, .pk (.t 52) (.t 76) (.c (.bool false))⟩, ⟨some 4, none, .mv (.t 77)⟩] (mkSt [(1, .u (.int .i64 y2)), (7, .u (.int .i64 y4.1)), (52, .u (.bool true)), (58, .u (.bool v18))] [] 0) := by
              intro v18 e; subst e
              refine S_pure (by show _ = _; kernel_rfl) (O_mv (d := .u (.bool (((decide (0 < y2)) && (decide (0 ≤ y4.1)))))) (by kernel_rfl)) ?_
              have K19 : ∀ v20 : Bool, v20 = (((decide (0 < y2)) && (decide (0 ≤ y4.1))) && (decide (y4.1 < y2))) → Rs Try.prog 78 (retQ [4] (.bool r)) [.s .ret] [⟨some 64, some (52, true), .mv (.t 63)⟩, ⟨some 65, some (64, false), .mv (.t 1)⟩, ⟨some 66, some (64, false), .bi .lss (.t 65) (.c (.int .i64 0))⟩, ⟨some 67, some (64, false), .mv (.t 66)⟩, ⟨some 68, some (67, true), .mv (.t 7)⟩, ⟨some 69, some (67, true), .bi .leq (.t 68) (.c (.int .i64 0))⟩, ⟨some 70, some (64, false), .pk (.t 67) (.t 69) (.c (.bool false))⟩, ⟨some 71, some (64, false), .mv (.t 70)⟩, ⟨some 72, some (71, true), .mv (.t 7)⟩, ⟨some 73, some (71, true), .mv (.t 1)⟩, ⟨some 74, some (71, true), .bi .gtr (.t 72) (.t 73)⟩, ⟨some 75, some (64, false), .pk (.t 71) (.t 74) (.c (.bool false))⟩, ⟨some 76, some (52, true), .pk (.t 64) (.c (.bool true)) (.t 75)⟩, ⟨some 77, none, .pk (.t 52) (.t 76) (.c (.bool false))⟩, ⟨some 4, none, .mv (.t 77)⟩] (mkSt [(1, .u (.int .i64 y2)), (7, .u (.int .i64 y4.1)), (52, .u (.bool true)), (63, .u (.bool v20))] [] 0) := by
                intro v20 e; subst e
                refine S_pure (by show _ = _; kernel_rfl) (O_mv (d := .u (.bool ((((decide (0 < y2)) && (decide (0 ≤ y4.1))) && (decide (y4.1 < y2)))))) (by kernel_rfl)) ?_
                have K21 : ∀ v22 : Bool, v22 = ((((decide (0 < y2)) && (decide (0 ≤ y4.1))) && (decide (y4.1 < y2))) || (((decide (y2 < 0)) && (decide (y4.1 ≤ 0))) && (decide (y2 < y4.1)))) → Rs Try.prog 78 (retQ [4] (.bool r)) [.s .ret] [⟨some 77, none, .pk (.t 52) (.t 76) (.c (.bool false))⟩, ⟨some 4, none, .mv (.t 77)⟩] (mkSt [(52, .u (.bool true)), (76, .u (.bool v22))] [] 0) := by
                  intro v22 e; subst e
                  refine S_pure trivial (O_pkt (d := .u (.bool (((((decide (0 < y2)) && (decide (0 ≤ y4.1))) && (decide (y4.1 < y2))) || (((decide (y2 < 0)) && (decide (y4.1 ≤ 0))) && (decide (y2 < y4.1))))))) (by kernel_rfl) (by kernel_rfl)) ?_
                  exact Rs_weak (W_to (by kernel_rfl) (by kernel_rfl) (by kernel_rfl)) (K15 _ (by rw [hc] <;> rfl))
                refine S_case0 (t := 64) (c := (((decide (0 < y2)) && (decide (0 ≤ y4.1))) && (decide (y4.1 < y2)))) (by kernel_rfl) (fun hc => ?_) (fun hc => ?_)
                · refine S_skip (b := true) (by kernel_rfl) rfl ?_
                  refine S_skip (b := true) (by kernel_rfl) rfl ?_
                  refine S_skip (b := true) (by kernel_rfl) rfl ?_
                  refine S_skipu (by kernel_rfl) ?_
                  refine S_skipu (by kernel_rfl) ?_
                  refine S_skip (b := true) (by kernel_rfl) rfl ?_
                  refine S_skip (b := true) (by kernel_rfl) rfl ?_
                  refine S_skipu (by kernel_rfl) ?_
                  refine S_skipu (by kernel_rfl) ?_
                  refine S_skipu (by kernel_rfl) ?_
                  refine S_skip (b := true) (by kernel_rfl) rfl ?_
                  refine S_pure (by show _ = _; kernel_rfl) (O_pkt (d := .u (.bool true)) (by kernel_rfl) (by kernel_rfl)) ?_
                  exact Rs_weak (W_to (by kernel_rfl) (by kernel_rfl) (by kernel_rfl)) (K21 _ (by rw [hc] <;> rfl))
                · refine S_pure (by show _ = _; kernel_rfl) (O_mv (d := .u (.int .i64 y2)) (by kernel_rfl)) ?_
                  refine S_pure (by show _ = _; kernel_rfl) (O_lss (k := .i64) (a := y2) (b := 0) (by kernel_rfl) (by kernel_rfl)) ?_
                  refine S_pure (by show _ = _; kernel_rfl) (O_mv (d := .u (.bool ((decide (y2 < 0))))) (by kernel_rfl)) ?_
                  have K23 : ∀ v24 : Bool, v24 = ((decide (y2 < 0)) && (decide (y4.1 ≤ 0))) → Rs Try.prog 78 (retQ [4] (.bool r)) [.s .ret] [⟨some 71, some (64, false), .mv (.t 70)⟩, ⟨some 72, some (71, true), .mv (.t 7)⟩, ⟨some 73, some (71, true), .mv (.t 1)⟩, ⟨some 74, some (71, true), .bi .gtr (.t 72) (.t 73)⟩, ⟨some 75, some (64, false), .pk (.t 71) (.t 74) (.c (.bool false))⟩, ⟨some 76, some (52, true), .pk (.t 64) (.c (.bool true)) (.t 75)⟩, ⟨some 77, none, .pk (.t 52) (.t 76) (.c (.bool false))⟩, ⟨some 4, none, .mv (.t 77)⟩] (mkSt [(1, .u (.int .i64 y2)), (7, .u (.int .i64 y4.1)), (52, .u (.bool true)), (64, .u (.bool false)), (70, .u (.bool v24))] [] 0) := by
                    intro v24 e; subst e
                    refine S_pure (by show _ = _; kernel_rfl) (O_mv (d := .u (.bool (((decide (y2 < 0)) && (decide (y4.1 ≤ 0)))))) (by kernel_rfl)) ?_
                    have K25 : ∀ v26 : Bool, v26 = (((decide (y2 < 0)) && (decide (y4.1 ≤ 0))) && (decide (y2 < y4.1))) → Rs Try.prog 78 (retQ [4] (.bool r)) [.s .ret] [⟨some 76, some (52, true), .pk (.t 64) (.c (.bool true)) (.t 75)⟩, ⟨some 77, none, .pk (.t 52) (.t 76) (.c (.bool false))⟩, ⟨some 4, none, .mv (.t 77)⟩] (mkSt [(52, .u (.bool true)), (64, .u (.bool false)), (75, .u (.bool v26))] [] 0) := by
                      intro v26 e; subst e
                      refine S_pure (by show _ = _; kernel_rfl) (O_pkf (d := .u (.bool ((((decide (y2 < 0)) && (decide (y4.1 ≤ 0))) && (decide (y2 < y4.1)))))) (by kernel_rfl) (by kernel_rfl)) ?_
                      exact Rs_weak (W_to (by kernel_rfl) (by kernel_rfl) (by kernel_rfl)) (K21 _ (by rw [hc] <;> rfl))
                    refine S_case0 (t := 71) (c := ((decide (y2 < 0)) && (decide (y4.1 ≤ 0)))) (by kernel_rfl) (fun hc => ?_) (fun hc => ?_)
                    · refine S_pure (by show _ = _; kernel_rfl) (O_mv (d := .u (.int .i64 y4.1)) (by kernel_rfl)) ?_
                      refine S_pure (by show _ = _; kernel_rfl) (O_mv (d := .u (.int .i64 y2)) (by kernel_rfl)) ?_
                      refine S_pure (by show _ = _; kernel_rfl) (O_gtr (k := .i64) (a := y4.1) (b := y2) (by kernel_rfl) (by kernel_rfl)) ?_
                      refine S_pure (by show _ = _; kernel_rfl) (O_pkt (d := .u (.bool ((decide (y2 < y4.1))))) (by kernel_rfl) (by kernel_rfl)) ?_
                      exact Rs_weak (W_to (by kernel_rfl) (by kernel_rfl) (by kernel_rfl)) (K25 _ (by rw [hc] <;> rfl))
                    · refine S_skip (b := false) (by kernel_rfl) rfl ?_
                      refine S_skip (b := false) (by kernel_rfl) rfl ?_
                      refine S_skip (b := false) (by kernel_rfl) rfl ?_
                      refine S_pure (by show _ = _; kernel_rfl) (O_pkf (d := .u (.bool false)) (by kernel_rfl) (by kernel_rfl)) ?_
                      exact Rs_weak (W_to (by kernel_rfl) (by kernel_rfl) (by kernel_rfl)) (K25 _ (by rw [hc] <;> rfl))
                  refine S_case0 (t := 67) (c := (decide (y2 < 0))) (by kernel_rfl) (fun hc => ?_) (fun hc => ?_)
                  · refine S_pure (by show _ = _; kernel_rfl) (O_mv (d := .u (.int .i64 y4.1)) (by kernel_rfl)) ?_
                    refine S_pure (by show _ = _; kernel_rfl) (O_leq (k := .i64) (a := y4.1) (b := 0) (by kernel_rfl) (by kernel_rfl)) ?_
                    refine S_pure (by show _ = _; kernel_rfl) (O_pkt (d := .u (.bool ((decide (y4.1 ≤ 0))))) (by kernel_rfl) (by kernel_rfl)) ?_
                    exact Rs_weak (W_to (by kernel_rfl) (by kernel_rfl) (by kernel_rfl)) (K23 _ (by rw [hc] <;> rfl))
                  · refine S_skip (b := false) (by kernel_rfl) rfl ?_
                    refine S_skip (b := false) (by kernel_rfl) rfl ?_
                    refine S_pure (by show _ = _; kernel_rfl) (O_pkf (d := .u (.bool false)) (by kernel_rfl) (by kernel_rfl)) ?_
                    exact Rs_weak (W_to (by kernel_rfl) (by kernel_rfl) (by kernel_rfl)) (K23 _ (by rw [hc] <;> rfl))
              refine S_case0 (t := 59) (c := ((decide (0 < y2)) && (decide (0 ≤ y4.1)))) (by kernel_rfl) (fun hc => ?_) (fun hc => ?_)
              · refine S_pure (by show _ = _; kernel_rfl) (O_mv (d := .u (.int .i64 y4.1)) (by kernel_rfl)) ?_
                refine S_pure (by show _ = _; kernel_rfl) (O_mv (d := .u (.int .i64 y2)) (by kernel_rfl)) ?_
                refine S_pure (by show _ = _; kernel_rfl) (O_lss (k := .i64) (a := y4.1) (b := y2) (by kernel_rfl) (by kernel_rfl)) ?_
                refine S_pure (by show _ = _; kernel_rfl) (O_pkt (d := .u (.bool ((decide (y4.1 < y2))))) (by kernel_rfl) (by kernel_rfl)) ?_
                exact Rs_weak (W_to (by kernel_rfl) (by kernel_rfl) (by kernel_rfl)) (K19 _ (by rw [hc] <;> rfl))
              · refine S_skip (b := false) (by kernel_rfl) rfl ?_
                refine S_skip (b := false) (by kernel_rfl) rfl ?_
                refine S_skip (b := false) (by kernel_rfl) rfl ?_
                refine S_pure (by show _ = _; kernel_rfl) (O_pkf (d := .u (.bool false)) (by kernel_rfl) (by kernel_rfl)) ?_
                exact Rs_weak (W_to (by kernel_rfl) (by kernel_rfl) (by kernel_rfl)) (K19 _ (by rw [hc] <;> rfl))
            refine S_case0 (t := 55) (c := (decide (0 < y2))) (by kernel_rfl) (fun hc => ?_) (fun hc => ?_)
            · refine S_pure (by show _ = _; kernel_rfl) (O_mv (d := .u (.int .i64 y4.1)) (by kernel_rfl)) ?_
              refine S_pure (by show _ = _; kernel_rfl) (O_geq (k := .i64) (a := y4.1) (b := 0) (by kernel_rfl) (by kernel_rfl)) ?_
              refine S_pure (by show _ = _; kernel_rfl) (O_pkt (d := .u (.bool ((decide (0 ≤ y4.1))))) (by kernel_rfl) (by kernel_rfl)) ?_
              exact Rs_weak (W_to (by kernel_rfl) (by kernel_rfl) (by kernel_rfl)) (K17 _ (by rw [hc] <;> rfl))
            · refine S_skip (b := false) (by kernel_rfl) rfl ?_
              refine S_skip (b := false) (by kernel_rfl) rfl ?_
              refine S_pure (by show _ = _; kernel_rfl) (O_pkf (d := .u (.bool false)) (by kernel_rfl) (by kernel_rfl)) ?_
              exact Rs_weak (W_to (by kernel_rfl) (by kernel_rfl) (by kernel_rfl)) (K17 _ (by rw [hc] <;> rfl))
          · refine S_skip (b := false) (by kernel_rfl) rfl ?_
            refine S_skip (b := false) (by kernel_rfl) rfl ?_
            refine S_skip (b := false) (by kernel_rfl) rfl ?_
            refine S_skipu (by kernel_rfl) ?_
            refine S_skipu (by kernel_rfl) ?_
            refine S_skip (b := false) (by kernel_rfl) rfl ?_
            refine S_skip (b := false) (by kernel_rfl) rfl ?_
            refine S_skipu (by kernel_rfl) ?_
            refine S_skipu (by kernel_rfl) ?_
            refine S_skipu (by kernel_rfl) ?_
            refine S_skip (b := false) (by kernel_rfl) rfl ?_
            refine S_skip (b := false) (by kernel_rfl) rfl ?_
            refine S_skipu (by kernel_rfl) ?_
            refine S_skipu (by kernel_rfl) ?_
            refine S_skipu (by kernel_rfl) ?_
            refine S_skipu (by kernel_rfl) ?_
            refine S_skipu (by kernel_rfl) ?_
            refine S_skipu (by kernel_rfl) ?_
            refine S_skipu (by kernel_rfl) ?_
            refine S_skipu (by kernel_rfl) ?_
            refine S_skipu (by kernel_rfl) ?_
            refine S_skipu (by kernel_rfl) ?_
            refine S_skipu (by kernel_rfl) ?_
            refine S_skip (b := false) (by kernel_rfl) rfl ?_
            refine S_pure trivial (O_pkf (d := .u (.bool false)) (by kernel_rfl) (by kernel_rfl)) ?_
            exact Rs_weak (W_to (by kernel_rfl) (by kernel_rfl) (by kernel_rfl)) (K15 _ (by rw [hc] <;> rfl))
        refine S_case0 (t := 43) (c := y12) (by kernel_rfl) (fun hc => ?_) (fun hc => ?_)
        · refine S_pure (by show _ = _; kernel_rfl) (O_mv (d := .u (.int .i64 y3.1)) (by kernel_rfl)) ?_
          refine S_pure (by show _ = _; kernel_rfl) (O_mv (d := .u (.int .i64 y2)) (by kernel_rfl)) ?_
          refine S_pure (by show _ = _; kernel_rfl) (O_mul (k := .i64) (a := y3.1) (b := y2) (by kernel_rfl) (by kernel_rfl)) ?_
          refine S_pure (by show _ = _; kernel_rfl) (O_mv (d := .u (.int .i64 y4.1)) (by kernel_rfl)) ?_
          refine S_pure (by show _ = _; kernel_rfl) (O_add (k := .i64) (a := (IntKind.i64.wrap (y3.1 * y2))) (b := y4.1) (by kernel_rfl) (by kernel_rfl)) ?_
          refine S_pure (by show _ = _; kernel_rfl) (O_mv (d := .u (.int .i64 y1)) (by kernel_rfl)) ?_
          refine S_pure (by show _ = _; kernel_rfl) (O_eql (k := .i64) (a := (IntKind.i64.wrap ((IntKind.i64.wrap (y3.1 * y2)) + y4.1))) (b := y1) (by kernel_rfl) (by kernel_rfl)) ?_
          refine S_pure trivial (O_pkt (d := .u (.bool ((decide ((IntKind.i64.wrap ((IntKind.i64.wrap (y3.1 * y2)) + y4.1)) = y1))))) (by kernel_rfl) (by kernel_rfl)) ?_
          exact Rs_weak (W_to (by kernel_rfl) (by kernel_rfl) (by kernel_rfl)) (K13 _ (by rw [hc] <;> rfl))
        · refine S_skip (b := false) (by kernel_rfl) rfl ?_
          refine S_skip (b := false) (by kernel_rfl) rfl ?_
          refine S_skip (b := false) (by kernel_rfl) rfl ?_
          refine S_skip (b := false) (by kernel_rfl) rfl ?_
          refine S_skip (b := false) (by kernel_rfl) rfl ?_
          refine S_skip (b := false) (by kernel_rfl) rfl ?_
          refine S_skip (b := false) (by kernel_rfl) rfl ?_
          refine S_pure trivial (O_pkf (d := .u (.bool false)) (by kernel_rfl) (by kernel_rfl)) ?_
          exact Rs_weak (W_to (by kernel_rfl) (by kernel_rfl) (by kernel_rfl)) (K13 _ (by rw [hc] <;> rfl))
  refine S_case0 (t := 27) (c := (!decide (y3.2 = 0))) (by kernel_rfl) (fun hc => ?_) (fun hc => ?_)
  · refine S_skip (b := true) (by kernel_rfl) rfl ?_
    refine S_skip (b := true) (by kernel_rfl) rfl ?_
    refine S_pure trivial (O_pkt (d := .u (.bool true)) (by kernel_rfl) (by kernel_rfl)) ?_
    exact Rs_weak (W_to (by kernel_rfl) (by kernel_rfl) (by kernel_rfl)) (K5 _ (by rw [hc] <;> rfl))
  · refine S_pure (by show _ = _; kernel_rfl) (O_mv (d := .u (.int .i64 y4.2)) (by kernel_rfl)) ?_
    refine S_pure (by show _ = _; kernel_rfl) (O_neq (k := .i64) (a := y4.2) (b := 0) (by kernel_rfl) (by kernel_rfl)) ?_
    refine S_pure trivial (O_pkf (d := .u (.bool ((!decide (y4.2 = 0))))) (by kernel_rfl) (by kernel_rfl)) ?_
    exact Rs_weak (W_to (by kernel_rfl) (by kernel_rfl) (by kernel_rfl)) (K5 _ (by rw [hc] <;> rfl))

/-! ### selfstab/selfstablaw11.EvalApplies -/
def q_law11_EvalApplies_1 : AC := .reg [⟨some 41, none, .ca 18 []⟩, ⟨some 42, none, .mv (.t 41)⟩, ⟨some 43, some (42, true), .mv (.t 7)⟩, ⟨some 44, some (42, true), .mv (.t 9)⟩, ⟨some 45, some (42, true), .bi .eql (.t 43) (.t 44)⟩, ⟨some 46, none, .pk (.t 42) (.t 45) (.c (.bool false))⟩, ⟨some 47, none, .mv (.t 46)⟩, ⟨some 48, some (47, true), .mv (.t 8)⟩, ⟨some 49, some (47, true), .mv (.t 10)⟩, ⟨some 50, some (47, true), .bi .eql (.t 48) (.t 49)⟩, ⟨some 51, none, .pk (.t 47) (.t 50) (.c (.bool false))⟩, ⟨some 52, none, .mv (.t 51)⟩, ⟨some 53, some (52, true), .mv (.t 11)⟩, ⟨some 54, some (52, true), .mv (.t 13)⟩, ⟨some 55, some (52, true), .bi .eql (.t 53) (.t 54)⟩, ⟨some 56, none, .pk (.t 52) (.t 55) (.c (.bool false))⟩, ⟨some 57, none, .mv (.t 56)⟩, ⟨some 58, some (57, true), .mv (.t 12)⟩, ⟨some 59, some (57, true), .mv (.t 14)⟩, ⟨some 60, some (57, true), .bi .eql (.t 58) (.t 59)⟩, ⟨some 61, none, .pk (.t 57) (.t 60) (.c (.bool false))⟩, ⟨some 6, none, .mv (.t 61)⟩]
def q_law11_EvalApplies_2 : AC := .seq q_law11_EvalApplies_1 .ret
def q_law11_EvalApplies_3 : AC := .reg [⟨some 35, none, .mv (.t 0)⟩, ⟨some 36, none, .mv (.t 1)⟩, ⟨some 37, none, .mv (.t 2)⟩, ⟨some 38, none, .ca 36 [.t 35, .t 36, .t 37]⟩, ⟨some 34, none, .mv (.t 38)⟩, ⟨some 39, none, .ex (.t 34) 0⟩, ⟨some 40, none, .ex (.t 34) 1⟩, ⟨some 13, none, .mv (.t 39)⟩, ⟨some 14, none, .mv (.t 40)⟩]
def q_law11_EvalApplies_4 : AC := .seq q_law11_EvalApplies_3 q_law11_EvalApplies_2
def q_law11_EvalApplies_5 : AC := .reg [⟨some 28, none, .mv (.t 0)⟩, ⟨some 29, none, .mv (.t 1)⟩, ⟨some 30, none, .mv (.t 2)⟩, ⟨some 31, none, .ca 22 [.t 28, .t 29, .t 30]⟩, ⟨some 27, none, .mv (.t 31)⟩, ⟨some 32, none, .ex (.t 27) 0⟩, ⟨some 33, none, .ex (.t 27) 1⟩, ⟨some 11, none, .mv (.t 32)⟩, ⟨some 12, none, .mv (.t 33)⟩]
def q_law11_EvalApplies_6 : AC := .seq q_law11_EvalApplies_5 q_law11_EvalApplies_4
def q_law11_EvalApplies_7 : AC := .reg [⟨some 22, none, .mv (.t 0)⟩, ⟨some 23, none, .mv (.t 1)⟩, ⟨some 24, none, .ca 35 [.t 22, .t 23]⟩, ⟨some 21, none, .mv (.t 24)⟩, ⟨some 25, none, .ex (.t 21) 0⟩, ⟨some 26, none, .ex (.t 21) 1⟩, ⟨some 9, none, .mv (.t 25)⟩, ⟨some 10, none, .mv (.t 26)⟩]
def q_law11_EvalApplies_8 : AC := .seq q_law11_EvalApplies_7 q_law11_EvalApplies_6
def q_law11_EvalApplies_9 : AC := .reg [⟨some 16, none, .mv (.t 0)⟩, ⟨some 17, none, .mv (.t 1)⟩, ⟨some 18, none, .ca 34 [.t 16, .t 17]⟩, ⟨some 15, none, .mv (.t 18)⟩, ⟨some 19, none, .ex (.t 15) 0⟩, ⟨some 20, none, .ex (.t 15) 1⟩, ⟨some 7, none, .mv (.t 19)⟩, ⟨some 8, none, .mv (.t 20)⟩]
def q_law11_EvalApplies_10 : AC := .seq q_law11_EvalApplies_9 q_law11_EvalApplies_8
def q_law11_EvalApplies_11 : AC := .reg [⟨some 6, none, .mv (.c (.bool false))⟩]
def q_law11_EvalApplies_12 : AC := .seq q_law11_EvalApplies_11 q_law11_EvalApplies_10
def c_law11_EvalApplies : FC := ⟨62, [6], q_law11_EvalApplies_12⟩
theorem k_law11_EvalApplies : okF Try.prog 12 c_law11_EvalApplies = true := by decide +kernel
noncomputable def law11_EvalApplies (op_0 : Int) (a_1 : Int) (b_2 : Int) : Option Bool := ((eval_Unary op_0 a_1).bind (fun (y1 : Int × Int) => ((ref11_Unary op_0 a_1).bind (fun (y2 : Int × Int) => ((eval_Binary op_0 a_1 b_2).bind (fun (y3 : Int × Int) => ((ref11_Binary op_0 a_1 b_2).bind (fun (y4 : Int × Int) => ((law11_awake).bind (fun (y5 : Bool) => (some ((((y5 && (decide (y1.1 = y2.1))) && (decide (y1.2 = y2.2))) && (decide (y3.1 = y4.1))) && (decide (y3.2 = y4.2))))))))))))))
theorem law11_EvalApplies.ok {op_0 : Int} {a_1 : Int} {b_2 : Int} {r : Bool} (h : law11_EvalApplies op_0 a_1 b_2 = some r) : PC Try.prog 12 [.int .i64 op_0, .int .i64 a_1, .int .i64 b_2] (.bool r) := by
  refine PC_run k_law11_EvalApplies rfl (L := [(0, .u (.int .i64 op_0)), (1, .u (.int .i64 a_1)), (2, .u (.int .i64 b_2))]) rfl ?_
  show Run Try.prog 62 (retQ [6] (.bool r)) [] q_law11_EvalApplies_12 _
  refine R_seq ?_
  refine R_reg ?_
  refine S_pure trivial (O_mv (d := .u (.bool false)) (by kernel_rfl)) ?_
  refine Rs_nil ?_
  refine N_s ?_
  refine R_seq ?_
  refine R_reg ?_
  refine S_pure trivial (O_mv (d := .u (.int .i64 op_0)) (by kernel_rfl)) ?_
  refine S_pure trivial (O_mv (d := .u (.int .i64 a_1)) (by kernel_rfl)) ?_
  obtain ⟨y1, hy1, h⟩ := bindS h
  refine S_pure trivial (O_ca (us := [.int .i64 op_0, .int .i64 a_1]) (r := .tup [.int .i64 y1.1, .int .i64 y1.2]) (by kernel_rfl) (eval_Unary.ok hy1)) ?_
  refine S_pure trivial (O_mv (d := .u (.tup [.int .i64 y1.1, .int .i64 y1.2])) (by kernel_rfl)) ?_
  refine S_pure trivial (O_ex (us := [.int .i64 y1.1, .int .i64 y1.2]) (u := .int .i64 y1.1) (by kernel_rfl) (by kernel_rfl)) ?_
  refine S_pure trivial (O_ex (us := [.int .i64 y1.1, .int .i64 y1.2]) (u := .int .i64 y1.2) (by kernel_rfl) (by kernel_rfl)) ?_
  refine S_pure trivial (O_mv (d := .u (.int .i64 y1.1)) (by kernel_rfl)) ?_
  refine S_pure trivial (O_mv (d := .u (.int .i64 y1.2)) (by kernel_rfl)) ?_
  refine Rs_nil ?_
  refine N_s ?_
  refine R_seq ?_
  refine R_reg ?_
  refine S_pure trivial (O_mv (d := .u (.int .i64 op_0)) (by kernel_rfl)) ?_
  refine S_pure trivial (O_mv (d := .u (.int .i64 a_1)) (by kernel_rfl)) ?_
  obtain ⟨y2, hy2, h⟩ := bindS h
  refine S_pure trivial (O_ca (us := [.int .i64 op_0, .int .i64 a_1]) (r := .tup [.int .i64 y2.1, .int .i64 y2.2]) (by kernel_rfl) (ref11_Unary.ok hy2)) ?_
  refine S_pure trivial (O_mv (d := .u (.tup [.int .i64 y2.1, .int .i64 y2.2])) (by kernel_rfl)) ?_
  refine S_pure trivial (O_ex (us := [.int .i64 y2.1, .int .i64 y2.2]) (u := .int .i64 y2.1) (by kernel_rfl) (by kernel_rfl)) ?_
  refine S_pure trivial (O_ex (us := [.int .i64 y2.1, .int .i64 y2.2]) (u := .int .i64 y2.2) (by kernel_rfl) (by kernel_rfl)) ?_
  refine S_pure trivial (O_mv (d := .u (.int .i64 y2.1)) (by kernel_rfl)) ?_
  refine S_pure trivial (O_mv (d := .u (.int .i64 y2.2)) (by kernel_rfl)) ?_
  refine Rs_nil ?_
  refine N_s ?_
  refine R_seq ?_
  refine R_reg ?_
  refine S_pure trivial (O_mv (d := .u (.int .i64 op_0)) (by kernel_rfl)) ?_
  refine S_pure trivial (O_mv (d := .u (.int .i64 a_1)) (by kernel_rfl)) ?_
  refine S_pure trivial (O_mv (d := .u (.int .i64 b_2)) (by kernel_rfl)) ?_
  obtain ⟨y3, hy3, h⟩ := bindS h
  refine S_pure trivial (O_ca (us := [.int .i64 op_0, .int .i64 a_1, .int .i64 b_2]) (r := .tup [.int .i64 y3.1, .int .i64 y3.2]) (by kernel_rfl) (eval_Binary.ok hy3)) ?_
  refine S_pure trivial (O_mv (d := .u (.tup [.int .i64 y3.1, .int .i64 y3.2])) (by kernel_rfl)) ?_
  refine S_pure trivial (O_ex (us := [.int .i64 y3.1, .int .i64 y3.2]) (u := .int .i64 y3.1) (by kernel_rfl) (by kernel_rfl)) ?_
  refine S_pure trivial (O_ex (us := [.int .i64 y3.1, .int .i64 y3.2]) (u := .int .i64 y3.2) (by kernel_rfl) (by kernel_rfl)) ?_
  refine S_pure trivial (O_mv (d := .u (.int .i64 y3.1)) (by kernel_rfl)) ?_
  refine S_pure trivial (O_mv (d := .u (.int .i64 y3.2)) (by kernel_rfl)) ?_
  refine Rs_nil ?_
  refine N_s ?_
  refine R_seq ?_
  refine R_reg ?_
  refine S_pure trivial (O_mv (d := .u (.int .i64 op_0)) (by kernel_rfl)) ?_
  refine S_pure trivial (O_mv (d := .u (.int .i64 a_1)) (by kernel_rfl)) ?_
  refine S_pure trivial (O_mv (d := .u (.int .i64 b_2)) (by kernel_rfl)) ?_
  obtain ⟨y4, hy4, h⟩ := bindS h
  refine S_pure trivial (O_ca (us := [.int .i64 op_0, .int .i64 a_1, .int .i64 b_2]) (r := .tup [.int .i64 y4.1, .int .i64 y4.2]) (by kernel_rfl) (ref11_Binary.ok hy4)) ?_
  refine S_pure trivial (O_mv (d := .u (.tup [.int .i64 y4.1, .int .i64 y4.2])) (by kernel_rfl)) ?_
  refine S_pure trivial (O_ex (us := [.int .i64 y4.1, .int .i64 y4.2]) (u := .int .i64 y4.1) (by kernel_rfl) (by kernel_rfl)) ?_
  refine S_pure trivial (O_ex (us := [.int .i64 y4.1, .int .i64 y4.2]) (u := .int .i64 y4.2) (by kernel_rfl) (by kernel_rfl)) ?_
  refine S_pure trivial (O_mv (d := .u (.int .i64 y4.1)) (by kernel_rfl)) ?_
  refine S_pure trivial (O_mv (d := .u (.int .i64 y4.2)) (by kernel_rfl)) ?_
  refine Rs_nil ?_
  refine N_s ?_
  refine R_seq ?_
  refine R_reg ?_
  obtain ⟨y5, hy5, h⟩ := bindS h
  refine S_pure trivial (O_ca (us := []) (r := .bool y5) (by kernel_rfl) (law11_awake.ok hy5)) ?_
  refine S_pure trivial (O_mv (d := .u (.bool y5)) (by kernel_rfl)) ?_
  have K6 : ∀ v7 : Bool, v7 = (y5 && (decide (y1.1 = y2.1))) → Rs Try.prog 62 (retQ [6] (.bool r)) [.s .ret] [⟨some 47, none, .mv (.t 46)⟩, ⟨some 48, some (47, true), .mv (.t 8)⟩, ⟨some 49, some (47, true), .mv (.t 10)⟩, ⟨some 50, some (47, true), .bi .eql (.t 48) (.t 49)⟩, ⟨some 51, none, .pk (.t 47) (.t 50) (.c (.bool false))⟩, ⟨some 52, none, .mv (.t 51)⟩, ⟨some 53, some (52, true), .mv (.t 11)⟩, ⟨some 54, some (52, true), .mv (.t 13)⟩, ⟨some 55, some (52, true), .bi .eql (.t 53) (.t 54)⟩, ⟨some 56, none, .pk (.t 52) (.t 55) (.c (.bool false))⟩, ⟨some 57, none, .mv (.t 56)⟩, ⟨some 58, some (57, true), .mv (.t 12)⟩, ⟨some 59, some (57, true), .mv (.t 14)⟩, ⟨some 60, some (57, true), .bi .eql (.t 58) (.t 59)⟩, ⟨some 61, none, .pk (.t 57) (.t 60) (.c (.bool false))⟩, ⟨some 6, none, .mv (.t 61)⟩] (mkSt [(8, .u (.int .i64 y1.2)), (10, .u (.int .i64 y2.2)), (11, .u (.int .i64 y3.1)), (12, .u (.int .i64 y3.2)), (13, .u (.int .i64 y4.1)), (14, .u (.int .i64 y4.2)), (46, .u (.bool v7))] [] 0) := by
    intro v7 e; subst e
    refine S_pure trivial (O_mv (d := .u (.bool ((y5 && (decide (y1.1 = y2.1)))))) (by kernel_rfl)) ?_
    have K8 : ∀ v9 : Bool, v9 = ((y5 && (decide (y1.1 = y2.1))) && (decide (y1.2 = y2.2))) → Rs Try.prog 62 (retQ [6] (.bool r)) [.s .ret] [⟨some 52, none, .mv (.t 51)⟩, ⟨some 53, some (52, true), .mv (.t 11)⟩, ⟨some 54, some (52, true), .mv (.t 13)⟩, ⟨some 55, some (52, true), .bi .eql (.t 53) (.t 54)⟩, ⟨some 56, none, .pk (.t 52) (.t 55) (.c (.bool false))⟩, ⟨some 57, none, .mv (.t 56)⟩, ⟨some 58, some (57, true), .mv (.t 12)⟩, ⟨some 59, some (57, true), .mv (.t 14)⟩, ⟨some 60, some (57, true), .bi .eql (.t 58) (.t 59)⟩, ⟨some 61, none, .pk (.t 57) (.t 60) (.c (.bool false))⟩, ⟨some 6, none, .mv (.t 61)⟩] (mkSt [(11, .u (.int .i64 y3.1)), (12, .u (.int .i64 y3.2)), (13, .u (.int .i64 y4.1)), (14, .u (.int .i64 y4.2)), (51, .u (.bool v9))] [] 0) := by
      intro v9 e; subst e
      refine S_pure trivial (O_mv (d := .u (.bool (((y5 && (decide (y1.1 = y2.1))) && (decide (y1.2 = y2.2)))))) (by kernel_rfl)) ?_
      have K10 : ∀ v11 : Bool, v11 = (((y5 && (decide (y1.1 = y2.1))) && (decide (y1.2 = y2.2))) && (decide (y3.1 = y4.1))) → Rs Try.prog 62 (retQ [6] (.bool r)) [.s .ret] [⟨some 57, none, .mv (.t 56)⟩, ⟨some 58, some (57, true), .mv (.t 12)⟩, ⟨some 59, some (57, true), .mv (.t 14)⟩, ⟨some 60, some (57, true), .bi .eql (.t 58) (.t 59)⟩, ⟨some 61, none, .pk (.t 57) (.t 60) (.c (.bool false))⟩, ⟨some 6, none, .mv (.t 61)⟩] (mkSt [(12, .u (.int .i64 y3.2)), (14, .u (.int .i64 y4.2)), (56, .u (.bool v11))] [] 0) := by
        intro v11 e; subst e
        refine S_pure trivial (O_mv (d := .u (.bool ((((y5 && (decide (y1.1 = y2.1))) && (decide (y1.2 = y2.2))) && (decide (y3.1 = y4.1)))))) (by kernel_rfl)) ?_
        have K12 : ∀ v13 : Bool, v13 = ((((y5 && (decide (y1.1 = y2.1))) && (decide (y1.2 = y2.2))) && (decide (y3.1 = y4.1))) && (decide (y3.2 = y4.2))) → Rs Try.prog 62 (retQ [6] (.bool r)) [.s .ret] [⟨some 6, none, .mv (.t 61)⟩] (mkSt [(61, .u (.bool v13))] [] 0) := by
          intro v13 e; subst e
          refine S_pure trivial (O_mv (d := .u (.bool (((((y5 && (decide (y1.1 = y2.1))) && (decide (y1.2 = y2.2))) && (decide (y3.1 = y4.1))) && (decide (y3.2 = y4.2)))))) (by kernel_rfl)) ?_
          refine Rs_nil ?_
          refine N_s ?_
          obtain rfl := (Option.some.inj h)
          refine R_ret ?_
          exact Q_ret (x := .bool (((((y5 && (decide (y1.1 = y2.1))) && (decide (y1.2 = y2.2))) && (decide (y3.1 = y4.1))) && (decide (y3.2 = y4.2))))) (by kernel_rfl) (.refl _)
        refine S_case0 (t := 57) (c := (((y5 && (decide (y1.1 = y2.1))) && (decide (y1.2 = y2.2))) && (decide (y3.1 = y4.1)))) (by kernel_rfl) (fun hc => ?_) (fun hc => ?_)
        · refine S_pure (by show _ = _; kernel_rfl) (O_mv (d := .u (.int .i64 y3.2)) (by kernel_rfl)) ?_
          refine S_pure (by show _ = _; kernel_rfl) (O_mv (d := .u (.int .i64 y4.2)) (by kernel_rfl)) ?_
          refine S_pure (by show _ = _; kernel_rfl) (O_eql (k := .i64) (a := y3.2) (b := y4.2) (by kernel_rfl) (by kernel_rfl)) ?_
          refine S_pure trivial (O_pkt (d := .u (.bool ((decide (y3.2 = y4.2))))) (by kernel_rfl) (by kernel_rfl)) ?_
          exact Rs_weak (W_to (by kernel_rfl) (by kernel_rfl) (by kernel_rfl)) (K12 _ (by rw [hc] <;> rfl))
        · refine S_skip (b := false) (by kernel_rfl) rfl ?_
          refine S_skip (b := false) (by kernel_rfl) rfl ?_
          refine S_skip (b := false) (by kernel_rfl) rfl ?_
          refine S_pure trivial (O_pkf (d := .u (.bool false)) (by kernel_rfl) (by kernel_rfl)) ?_
          exact Rs_weak (W_to (by kernel_rfl) (by kernel_rfl) (by kernel_rfl)) (K12 _ (by rw [hc] <;> rfl))
      refine S_case0 (t := 52) (c := ((y5 && (decide (y1.1 = y2.1))) && (decide (y1.2 = y2.2)))) (by kernel_rfl) (fun hc => ?_) (fun hc => ?_)
      · refine S_pure (by show _ = _; kernel_rfl) (O_mv (d := .u (.int .i64 y3.1)) (by kernel_rfl)) ?_
        refine S_pure (by show _ = _; kernel_rfl) (O_mv (d := .u (.int .i64 y4.1)) (by kernel_rfl)) ?_
        refine S_pure (by show _ = _; kernel_rfl) (O_eql (k := .i64) (a := y3.1) (b := y4.1) (by kernel_rfl) (by kernel_rfl)) ?_
        refine S_pure trivial (O_pkt (d := .u (.bool ((decide (y3.1 = y4.1))))) (by kernel_rfl) (by kernel_rfl)) ?_
        exact Rs_weak (W_to (by kernel_rfl) (by kernel_rfl) (by kernel_rfl)) (K10 _ (by rw [hc] <;> rfl))
      · refine S_skip (b := false) (by kernel_rfl) rfl ?_
        refine S_skip (b := false) (by kernel_rfl) rfl ?_
        refine S_skip (b := false) (by kernel_rfl) rfl ?_
        refine S_pure trivial (O_pkf (d := .u (.bool false)) (by kernel_rfl) (by kernel_rfl)) ?_
        exact Rs_weak (W_to (by kernel_rfl) (by kernel_rfl) (by kernel_rfl)) (K10 _ (by rw [hc] <;> rfl))
    refine S_case0 (t := 47) (c := (y5 && (decide (y1.1 = y2.1)))) (by kernel_rfl) (fun hc => ?_) (fun hc => ?_)
    · refine S_pure (by show _ = _; kernel_rfl) (O_mv (d := .u (.int .i64 y1.2)) (by kernel_rfl)) ?_
      refine S_pure (by show _ = _; kernel_rfl) (O_mv (d := .u (.int .i64 y2.2)) (by kernel_rfl)) ?_
      refine S_pure (by show _ = _; kernel_rfl) (O_eql (k := .i64) (a := y1.2) (b := y2.2) (by kernel_rfl) (by kernel_rfl)) ?_
      refine S_pure trivial (O_pkt (d := .u (.bool ((decide (y1.2 = y2.2))))) (by kernel_rfl) (by kernel_rfl)) ?_
      exact Rs_weak (W_to (by kernel_rfl) (by kernel_rfl) (by kernel_rfl)) (K8 _ (by rw [hc] <;> rfl))
    · refine S_skip (b := false) (by kernel_rfl) rfl ?_
      refine S_skip (b := false) (by kernel_rfl) rfl ?_
      refine S_skip (b := false) (by kernel_rfl) rfl ?_
      refine S_pure trivial (O_pkf (d := .u (.bool false)) (by kernel_rfl) (by kernel_rfl)) ?_
      exact Rs_weak (W_to (by kernel_rfl) (by kernel_rfl) (by kernel_rfl)) (K8 _ (by rw [hc] <;> rfl))
  refine S_case0 (t := 42) (c := y5) (by kernel_rfl) (fun hc => ?_) (fun hc => ?_)
  · refine S_pure (by show _ = _; kernel_rfl) (O_mv (d := .u (.int .i64 y1.1)) (by kernel_rfl)) ?_
    refine S_pure (by show _ = _; kernel_rfl) (O_mv (d := .u (.int .i64 y2.1)) (by kernel_rfl)) ?_
    refine S_pure (by show _ = _; kernel_rfl) (O_eql (k := .i64) (a := y1.1) (b := y2.1) (by kernel_rfl) (by kernel_rfl)) ?_
    refine S_pure trivial (O_pkt (d := .u (.bool ((decide (y1.1 = y2.1))))) (by kernel_rfl) (by kernel_rfl)) ?_
    exact Rs_weak (W_to (by kernel_rfl) (by kernel_rfl) (by kernel_rfl)) (K6 _ (by rw [hc] <;> rfl))
  · refine S_skip (b := false) (by kernel_rfl) rfl ?_
    refine S_skip (b := false) (by kernel_rfl) rfl ?_
    refine S_skip (b := false) (by kernel_rfl) rfl ?_
    refine S_pure trivial (O_pkf (d := .u (.bool false)) (by kernel_rfl) (by kernel_rfl)) ?_
    exact Rs_weak (W_to (by kernel_rfl) (by kernel_rfl) (by kernel_rfl)) (K6 _ (by rw [hc] <;> rfl))

/-! ### selfstab/selfstablaw11.EvalSaturates -/
def q_law11_EvalSaturates_1 : AC := .reg [⟨some 6, none, .mv (.c (.bool false))⟩]
def q_law11_EvalSaturates_2 : AC := .seq q_law11_EvalSaturates_1 .ret
def q_law11_EvalSaturates_3 : AC := .cond (.t 83) q_law11_EvalSaturates_2 .skip
def q_law11_EvalSaturates_4 : AC := .reg [⟨some 84, none, .ca 18 []⟩, ⟨some 85, none, .mv (.t 84)⟩, ⟨some 86, some (85, true), .mv (.t 7)⟩, ⟨some 87, some (85, true), .ca 37 [.t 86]⟩, ⟨some 88, none, .pk (.t 85) (.t 87) (.c (.bool false))⟩, ⟨some 89, none, .mv (.t 88)⟩, ⟨some 90, some (89, true), .mv (.t 9)⟩, ⟨some 91, some (89, true), .ca 37 [.t 90]⟩, ⟨some 92, none, .pk (.t 89) (.t 91) (.c (.bool false))⟩, ⟨some 93, none, .mv (.t 92)⟩, ⟨some 94, some (93, true), .mv (.t 9)⟩, ⟨some 95, some (93, true), .mv (.t 11)⟩, ⟨some 96, some (93, true), .bi .eql (.t 94) (.t 95)⟩, ⟨some 97, none, .pk (.t 93) (.t 96) (.c (.bool false))⟩, ⟨some 98, none, .mv (.t 97)⟩, ⟨some 99, some (98, true), .mv (.t 13)⟩, ⟨some 100, some (98, true), .mv (.t 17)⟩, ⟨some 101, some (98, true), .bi .eql (.t 99) (.t 100)⟩, ⟨some 102, none, .pk (.t 98) (.t 101) (.c (.bool false))⟩, ⟨some 6, none, .mv (.t 102)⟩]
def q_law11_EvalSaturates_5 : AC := .seq q_law11_EvalSaturates_4 .ret
def q_law11_EvalSaturates_6 : AC := .reg [⟨some 62, none, .mv (.t 8)⟩, ⟨some 63, none, .bi .neq (.t 62) (.c (.int .i64 0))⟩, ⟨some 64, none, .mv (.t 63)⟩, ⟨some 65, some (64, false), .mv (.t 10)⟩, ⟨some 66, some (64, false), .bi .neq (.t 65) (.c (.int .i64 0))⟩, ⟨some 67, none, .pk (.t 64) (.c (.bool true)) (.t 66)⟩, ⟨some 68, none, .mv (.t 67)⟩, ⟨some 69, some (68, false), .mv (.t 12)⟩, ⟨some 70, some (68, false), .bi .neq (.t 69) (.c (.int .i64 0))⟩, ⟨some 71, none, .pk (.t 68) (.c (.bool true)) (.t 70)⟩, ⟨some 72, none, .mv (.t 71)⟩, ⟨some 73, some (72, false), .mv (.t 14)⟩, ⟨some 74, some (72, false), .bi .neq (.t 73) (.c (.int .i64 0))⟩, ⟨some 75, none, .pk (.t 72) (.c (.bool true)) (.t 74)⟩, ⟨some 76, none, .mv (.t 75)⟩, ⟨some 77, some (76, false), .mv (.t 16)⟩, ⟨some 78, some (76, false), .bi .neq (.t 77) (.c (.int .i64 0))⟩, ⟨some 79, none, .pk (.t 76) (.c (.bool true)) (.t 78)⟩, ⟨some 80, none, .mv (.t 79)⟩, ⟨some 81, some (80, false), .mv (.t 18)⟩, ⟨some 82, some (80, false), .bi .neq (.t 81) (.c (.int .i64 0))⟩, ⟨some 83, none, .pk (.t 80) (.c (.bool true)) (.t 82)⟩]
def q_law11_EvalSaturates_7 : AC := .seq q_law11_EvalSaturates_6 q_law11_EvalSaturates_3
def q_law11_EvalSaturates_8 : AC := .seq q_law11_EvalSaturates_7 q_law11_EvalSaturates_5
def q_law11_EvalSaturates_9 : AC := .reg [⟨some 57, none, .mv (.t 15)⟩, ⟨some 58, none, .mv (.t 1)⟩, ⟨some 59, none, .ca 22 [.c (.int .i64 33), .t 57, .t 58]⟩, ⟨some 56, none, .mv (.t 59)⟩, ⟨some 60, none, .ex (.t 56) 0⟩, ⟨some 61, none, .ex (.t 56) 1⟩, ⟨some 17, none, .mv (.t 60)⟩, ⟨some 18, none, .mv (.t 61)⟩]
def q_law11_EvalSaturates_10 : AC := .seq q_law11_EvalSaturates_9 q_law11_EvalSaturates_8
def q_law11_EvalSaturates_11 : AC := .reg [⟨some 52, none, .mv (.t 2)⟩, ⟨some 53, none, .ca 34 [.c (.int .i64 18), .t 52]⟩, ⟨some 51, none, .mv (.t 53)⟩, ⟨some 54, none, .ex (.t 51) 0⟩, ⟨some 55, none, .ex (.t 51) 1⟩, ⟨some 15, none, .mv (.t 54)⟩, ⟨some 16, none, .mv (.t 55)⟩]
def q_law11_EvalSaturates_12 : AC := .seq q_law11_EvalSaturates_11 q_law11_EvalSaturates_10
def q_law11_EvalSaturates_13 : AC := .reg [⟨some 46, none, .mv (.t 1)⟩, ⟨some 47, none, .mv (.t 2)⟩, ⟨some 48, none, .ca 22 [.c (.int .i64 34), .t 46, .t 47]⟩, ⟨some 45, none, .mv (.t 48)⟩, ⟨some 49, none, .ex (.t 45) 0⟩, ⟨some 50, none, .ex (.t 45) 1⟩, ⟨some 13, none, .mv (.t 49)⟩, ⟨some 14, none, .mv (.t 50)⟩]
def q_law11_EvalSaturates_14 : AC := .seq q_law11_EvalSaturates_13 q_law11_EvalSaturates_12
def q_law11_EvalSaturates_15 : AC := .reg [⟨some 40, none, .mv (.t 2)⟩, ⟨some 41, none, .mv (.t 1)⟩, ⟨some 42, none, .ca 22 [.c (.int .i64 30), .t 40, .t 41]⟩, ⟨some 39, none, .mv (.t 42)⟩, ⟨some 43, none, .ex (.t 39) 0⟩, ⟨some 44, none, .ex (.t 39) 1⟩, ⟨some 11, none, .mv (.t 43)⟩, ⟨some 12, none, .mv (.t 44)⟩]
def q_law11_EvalSaturates_16 : AC := .seq q_law11_EvalSaturates_15 q_law11_EvalSaturates_14
def q_law11_EvalSaturates_17 : AC := .reg [⟨some 34, none, .mv (.t 1)⟩, ⟨some 35, none, .mv (.t 2)⟩, ⟨some 36, none, .ca 22 [.c (.int .i64 30), .t 34, .t 35]⟩, ⟨some 33, none, .mv (.t 36)⟩, ⟨some 37, none, .ex (.t 33) 0⟩, ⟨some 38, none, .ex (.t 33) 1⟩, ⟨some 9, none, .mv (.t 37)⟩, ⟨some 10, none, .mv (.t 38)⟩]
def q_law11_EvalSaturates_18 : AC := .seq q_law11_EvalSaturates_17 q_law11_EvalSaturates_16
def q_law11_EvalSaturates_19 : AC := .reg [⟨some 27, none, .mv (.t 0)⟩, ⟨some 28, none, .mv (.t 1)⟩, ⟨some 29, none, .mv (.t 2)⟩, ⟨some 30, none, .ca 22 [.t 27, .t 28, .t 29]⟩, ⟨some 26, none, .mv (.t 30)⟩, ⟨some 31, none, .ex (.t 26) 0⟩, ⟨some 32, none, .ex (.t 26) 1⟩, ⟨some 7, none, .mv (.t 31)⟩, ⟨some 8, none, .mv (.t 32)⟩]
def q_law11_EvalSaturates_20 : AC := .seq q_law11_EvalSaturates_19 q_law11_EvalSaturates_18
def q_law11_EvalSaturates_21 : AC := .reg [⟨some 19, none, .mv (.t 1)⟩, ⟨some 20, none, .ca 21 [.t 19]⟩, ⟨some 21, none, .mv (.t 2)⟩, ⟨some 22, none, .ca 21 [.t 21]⟩, ⟨some 23, none, .mv (.t 0)⟩, ⟨some 24, none, .ca 23 [.t 23, .c (.int .i64 13)]⟩, ⟨some 25, none, .bi .add (.c (.int .i64 30)) (.t 24)⟩, ⟨some 1, none, .mv (.t 20)⟩, ⟨some 2, none, .mv (.t 22)⟩, ⟨some 0, none, .mv (.t 25)⟩]
def q_law11_EvalSaturates_22 : AC := .seq q_law11_EvalSaturates_21 q_law11_EvalSaturates_20
def q_law11_EvalSaturates_23 : AC := .reg [⟨some 6, none, .mv (.c (.bool false))⟩]
def q_law11_EvalSaturates_24 : AC := .seq q_law11_EvalSaturates_23 q_law11_EvalSaturates_22
def c_law11_EvalSaturates : FC := ⟨103, [6], q_law11_EvalSaturates_24⟩
theorem k_law11_EvalSaturates : okF Try.prog 13 c_law11_EvalSaturates = true := by decide +kernel
noncomputable def law11_EvalSaturates (op_0 : Int) (a_1 : Int) (b_2 : Int) : Option Bool := ((ref11_Saturate a_1).bind (fun (y1 : Int) => ((ref11_Saturate b_2).bind (fun (y2 : Int) => ((made_Mod op_0 13).bind (fun (y3 : Int) => ((eval_Binary ((IntKind.i64.wrap (30 + y3))) y1 y2).bind (fun (y4 : Int × Int) => ((eval_Binary 30 y1 y2).bind (fun (y5 : Int × Int) => ((eval_Binary 30 y2 y1).bind (fun (y6 : Int × Int) => ((eval_Binary 34 y1 y2).bind (fun (y7 : Int × Int) => ((eval_Unary 18 y2).bind (fun (y8 : Int × Int) => ((eval_Binary 33 y8.1 y1).bind (fun (y9 : Int × Int) => (bif ((((((!decide (y4.2 = 0)) || (!decide (y5.2 = 0))) || (!decide (y6.2 = 0))) || (!decide (y7.2 = 0))) || (!decide (y8.2 = 0))) || (!decide (y9.2 = 0))) then (some false) else ((law11_awake).bind (fun (y20 : Bool) => ((bif y20 then ((ref11_Number y4.1).bind (fun (y32 : Bool) => (some y32))) else (some false)).bind (fun (o23 : Bool) => ((bif o23 then ((ref11_Number y5.1).bind (fun (y31 : Bool) => (some y31))) else (some false)).bind (fun (o26 : Bool) => (some ((o26 && (decide (y5.1 = y6.1))) && (decide (y7.1 = y9.1)))))))))))))))))))))))))))))
theorem law11_EvalSaturates.ok {op_0 : Int} {a_1 : Int} {b_2 : Int} {r : Bool} (h : law11_EvalSaturates op_0 a_1 b_2 = some r) : PC Try.prog 13 [.int .i64 op_0, .int .i64 a_1, .int .i64 b_2] (.bool r) := by
  refine PC_run k_law11_EvalSaturates rfl (L := [(0, .u (.int .i64 op_0)), (1, .u (.int .i64 a_1)), (2, .u (.int .i64 b_2))]) rfl ?_
  show Run Try.prog 103 (retQ [6] (.bool r)) [] q_law11_EvalSaturates_24 _
  refine R_seq ?_
  refine R_reg ?_
  refine S_pure trivial (O_mv (d := .u (.bool false)) (by kernel_rfl)) ?_
  refine Rs_nil ?_
  refine N_s ?_
  refine R_seq ?_
  refine R_reg ?_
  refine S_pure trivial (O_mv (d := .u (.int .i64 a_1)) (by kernel_rfl)) ?_
  obtain ⟨y1, hy1, h⟩ := bindS h
  refine S_pure trivial (O_ca (us := [.int .i64 a_1]) (r := .int .i64 y1) (by kernel_rfl) (ref11_Saturate.ok hy1)) ?_
  refine S_pure trivial (O_mv (d := .u (.int .i64 b_2)) (by kernel_rfl)) ?_
  obtain ⟨y2, hy2, h⟩ := bindS h
  refine S_pure trivial (O_ca (us := [.int .i64 b_2]) (r := .int .i64 y2) (by kernel_rfl) (ref11_Saturate.ok hy2)) ?_
  refine S_pure trivial (O_mv (d := .u (.int .i64 op_0)) (by kernel_rfl)) ?_
  obtain ⟨y3, hy3, h⟩ := bindS h
  refine S_pure trivial (O_ca (us := [.int .i64 op_0, .int .i64 13]) (r := .int .i64 y3) (by kernel_rfl) (made_Mod.ok hy3)) ?_
  refine S_pure trivial (O_add (k := .i64) (a := 30) (b := y3) (by kernel_rfl) (by kernel_rfl)) ?_
  refine S_pure trivial (O_mv (d := .u (.int .i64 y1)) (by kernel_rfl)) ?_
  refine S_pure trivial (O_mv (d := .u (.int .i64 y2)) (by kernel_rfl)) ?_
  refine S_pure trivial (O_mv (d := .u (.int .i64 ((IntKind.i64.wrap (30 + y3))))) (by kernel_rfl)) ?_
  refine Rs_nil ?_
  refine N_s ?_
  refine R_seq ?_
  refine R_reg ?_
  refine S_pure trivial (O_mv (d := .u (.int .i64 ((IntKind.i64.wrap (30 + y3))))) (by kernel_rfl)) ?_
  refine S_pure trivial (O_mv (d := .u (.int .i64 y1)) (by kernel_rfl)) ?_
  refine S_pure trivial (O_mv (d := .u (.int .i64 y2)) (by kernel_rfl)) ?_
  obtain ⟨y4, hy4, h⟩ := bindS h
  refine S_pure trivial (O_ca (us := [.int .i64 ((IntKind.i64.wrap (30 + y3))), .int .i64 y1, .int .i64 y2]) (r := .tup [.int .i64 y4.1, .int .i64 y4.2]) (by kernel_rfl) (eval_Binary.ok hy4)) ?_
  refine S_pure trivial (O_mv (d := .u (.tup [.int .i64 y4.1, .int .i64 y4.2])) (by kernel_rfl)) ?_
  refine S_pure trivial (O_ex (us := [.int .i64 y4.1, .int .i64 y4.2]) (u := .int .i64 y4.1) (by kernel_rfl) (by kernel_rfl)) ?_
  refine S_pure trivial (O_ex (us := [.int .i64 y4.1, .int .i64 y4.2]) (u := .int .i64 y4.2) (by kernel_rfl) (by kernel_rfl)) ?_
  refine S_pure trivial (O_mv (d := .u (.int .i64 y4.1)) (by kernel_rfl)) ?_
  refine S_pure trivial (O_mv (d := .u (.int .i64 y4.2)) (by kernel_rfl)) ?_
  refine Rs_nil ?_
  refine N_s ?_
  refine R_seq ?_
  refine R_reg ?_
  refine S_pure trivial (O_mv (d := .u (.int .i64 y1)) (by kernel_rfl)) ?_
  refine S_pure trivial (O_mv (d := .u (.int .i64 y2)) (by kernel_rfl)) ?_
  obtain ⟨y5, hy5, h⟩ := bindS h
  refine S_pure trivial (O_ca (us := [.int .i64 30, .int .i64 y1, .int .i64 y2]) (r := .tup [.int .i64 y5.1, .int .i64 y5.2]) (by kernel_rfl) (eval_Binary.ok hy5)) ?_
  refine S_pure trivial (O_mv (d := .u (.tup [.int .i64 y5.1, .int .i64 y5.2])) (by kernel_rfl)) ?_
  refine S_pure trivial (O_ex (us := [.int .i64 y5.1, .int .i64 y5.2]) (u := .int .i64 y5.1) (by kernel_rfl) (by kernel_rfl)) ?_
  refine S_pure trivial (O_ex (us := [.int .i64 y5.1, .int .i64 y5.2]) (u := .int .i64 y5.2) (by kernel_rfl) (by kernel_rfl)) ?_
  refine S_pure trivial (O_mv (d := .u (.int .i64 y5.1)) (by kernel_rfl)) ?_
  refine S_pure trivial (O_mv (d := .u (.int .i64 y5.2)) (by kernel_rfl)) ?_
  refine Rs_nil ?_
  refine N_s ?_
  refine R_seq ?_
  refine R_reg ?_
  refine S_pure trivial (O_mv (d := .u (.int .i64 y2)) (by kernel_rfl)) ?_
  refine S_pure trivial (O_mv (d := .u (.int .i64 y1)) (by kernel_rfl)) ?_
  obtain ⟨y6, hy6, h⟩ := bindS h
  refine S_pure trivial (O_ca (us := [.int .i64 30, .int .i64 y2, .int .i64 y1]) (r := .tup [.int .i64 y6.1, .int .i64 y6.2]) (by kernel_rfl) (eval_Binary.ok hy6)) ?_
  refine S_pure trivial (O_mv (d := .u (.tup [.int .i64 y6.1, .int .i64 y6.2])) (by kernel_rfl)) ?_
  refine S_pure trivial (O_ex (us := [.int .i64 y6.1, .int .i64 y6.2]) (u := .int .i64 y6.1) (by kernel_rfl) (by kernel_rfl)) ?_
  refine S_pure trivial (O_ex (us := [.int .i64 y6.1, .int .i64 y6.2]) (u := .int .i64 y6.2) (by kernel_rfl) (by kernel_rfl)) ?_
  refine S_pure trivial (O_mv (d := .u (.int .i64 y6.1)) (by kernel_rfl)) ?_
  refine S_pure trivial (O_mv (d := .u (.int .i64 y6.2)) (by kernel_rfl)) ?_
  refine Rs_nil ?_
  refine N_s ?_
  refine R_seq ?_
  refine R_reg ?_
  refine S_pure trivial (O_mv (d := .u (.int .i64 y1)) (by kernel_rfl)) ?_
  refine S_pure trivial (O_mv (d := .u (.int .i64 y2)) (by kernel_rfl)) ?_
  obtain ⟨y7, hy7, h⟩ := bindS h
  refine S_pure trivial (O_ca (us := [.int .i64 34, .int .i64 y1, .int .i64 y2]) (r := .tup [.int .i64 y7.1, .int .i64 y7.2]) (by kernel_rfl) (eval_Binary.ok hy7)) ?_
  refine S_pure trivial (O_mv (d := .u (.tup [.int .i64 y7.1, .int .i64 y7.2])) (by kernel_rfl)) ?_
  refine S_pure trivial (O_ex (us := [.int .i64 y7.1, .int .i64 y7.2]) (u := .int .i64 y7.1) (by kernel_rfl) (by kernel_rfl)) ?_
  refine S_pure trivial (O_ex (us := [.int .i64 y7.1, .int .i64 y7.2]) (u := .int .i64 y7.2) (by kernel_rfl) (by kernel_rfl)) ?_
  refine S_pure trivial (O_mv (d := .u (.int .i64 y7.1)) (by kernel_rfl)) ?_
  refine S_pure trivial (O_mv (d := .u (.int .i64 y7.2)) (by kernel_rfl)) ?_
  refine Rs_nil ?_
  refine N_s ?_
  refine R_seq ?_
  refine R_reg ?_
  refine S_pure trivial (O_mv (d := .u (.int .i64 y2)) (by kernel_rfl)) ?_
  obtain ⟨y8, hy8, h⟩ := bindS h
  refine S_pure trivial (O_ca (us := [.int .i64 18, .int .i64 y2]) (r := .tup [.int .i64 y8.1, .int .i64 y8.2]) (by kernel_rfl) (eval_Unary.ok hy8)) ?_
  refine S_pure trivial (O_mv (d := .u (.tup [.int .i64 y8.1, .int .i64 y8.2])) (by kernel_rfl)) ?_
  refine S_pure trivial (O_ex (us := [.int .i64 y8.1, .int .i64 y8.2]) (u := .int .i64 y8.1) (by kernel_rfl) (by kernel_rfl)) ?_
  refine S_pure trivial (O_ex (us := [.int .i64 y8.1, .int .i64 y8.2]) (u := .int .i64 y8.2) (by kernel_rfl) (by kernel_rfl)) ?_
  refine S_pure trivial (O_mv (d := .u (.int .i64 y8.1)) (by kernel_rfl)) ?_
  refine S_pure trivial (O_mv (d := .u (.int .i64 y8.2)) (by kernel_rfl)) ?_
  refine Rs_nil ?_
  refine N_s ?_
  refine R_seq ?_
  refine R_reg ?_
  refine S_pure trivial (O_mv (d := .u (.int .i64 y8.1)) (by kernel_rfl)) ?_
  refine S_pure trivial (O_mv (d := .u (.int .i64 y1)) (by kernel_rfl)) ?_
  obtain ⟨y9, hy9, h⟩ := bindS h
  refine S_pure trivial (O_ca (us := [.int .i64 33, .int .i64 y8.1, .int .i64 y1]) (r := .tup [.int .i64 y9.1, .int .i64 y9.2]) (by kernel_rfl) (eval_Binary.ok hy9)) ?_
  refine S_pure trivial (O_mv (d := .u (.tup [.int .i64 y9.1, .int .i64 y9.2])) (by kernel_rfl)) ?_
  refine S_pure trivial (O_ex (us := [.int .i64 y9.1, .int .i64 y9.2]) (u := .int .i64 y9.1) (by kernel_rfl) (by kernel_rfl)) ?_
  refine S_pure trivial (O_ex (us := [.int .i64 y9.1, .int .i64 y9.2]) (u := .int .i64 y9.2) (by kernel_rfl) (by kernel_rfl)) ?_
  refine S_pure trivial (O_mv (d := .u (.int .i64 y9.1)) (by kernel_rfl)) ?_
  refine S_pure trivial (O_mv (d := .u (.int .i64 y9.2)) (by kernel_rfl)) ?_
  refine Rs_nil ?_
  refine N_s ?_
  refine R_seq ?_
  refine R_seq ?_
  refine R_reg ?_
  refine S_pure trivial (O_mv (d := .u (.int .i64 y4.2)) (by kernel_rfl)) ?_
  refine S_pure trivial (O_neq (k := .i64) (a := y4.2) (b := 0) (by kernel_rfl) (by kernel_rfl)) ?_
  refine S_pure trivial (O_mv (d := .u (.bool ((!decide (y4.2 = 0))))) (by kernel_rfl)) ?_
  have K10 : ∀ v11 : Bool, v11 = ((!decide (y4.2 = 0)) || (!decide (y5.2 = 0))) → Rs Try.prog 103 (retQ [6] (.bool r)) [.s q_law11_EvalSaturates_3, .s q_law11_EvalSaturates_5] [⟨some 68, none, .mv (.t 67)⟩, ⟨some 69, some (68, false), .mv (.t 12)⟩, ⟨some 70, some (68, false), .bi .neq (.t 69) (.c (.int .i64 0))⟩, ⟨some 71, none, .pk (.t 68) (.c (.bool true)) (.t 70)⟩, ⟨some 72, none, .mv (.t 71)⟩, ⟨some 73, some (72, false), .mv (.t 14)⟩, ⟨some 74, some (72, false), .bi .neq (.t 73) (.c (.int .i64 0))⟩, ⟨some 75, none, .pk (.t 72) (.c (.bool true)) (.t 74)⟩, ⟨some 76, none, .mv (.t 75)⟩, ⟨some 77, some (76, false), .mv (.t 16)⟩, ⟨some 78, some (76, false), .bi .neq (.t 77) (.c (.int .i64 0))⟩, ⟨some 79, none, .pk (.t 76) (.c (.bool true)) (.t 78)⟩, ⟨some 80, none, .mv (.t 79)⟩, ⟨some 81, some (80, false), .mv (.t 18)⟩, ⟨some 82, some (80, false), .bi .neq (.t 81) (.c (.int .i64 0))⟩, ⟨some 83, none, .pk (.t 80) (.c (.bool true)) (.t 82)⟩] (mkSt [(7, .u (.int .i64 y4.1)), (9, .u (.int .i64 y5.1)), (11, .u (.int .i64 y6.1)), (12, .u (.int .i64 y6.2)), (13, .u (.int .i64 y7.1)), (14, .u (.int .i64 y7.2)), (16, .u (.int .i64 y8.2)), (17, .u (.int .i64 y9.1)), (18, .u (.int .i64 y9.2)), (67, .u (.bool v11))] [] 0) := by
    intro v11 e; subst e
    refine S_pure trivial (O_mv (d := .u (.bool (((!decide (y4.2 = 0)) || (!decide (y5.2 = 0)))))) (by kernel_rfl)) ?_
    have K12 : ∀ v13 : Bool, v13 = (((!decide (y4.2 = 0)) || (!decide (y5.2 = 0))) || (!decide (y6.2 = 0))) → Rs Try.prog 103 (retQ [6] (.bool r)) [.s q_law11_EvalSaturates_3, .s q_law11_EvalSaturates_5] [⟨some 72, none, .mv (.t 71)⟩, ⟨some 73, some (72, false), .mv (.t 14)⟩, ⟨some 74, some (72, false), .bi .neq (.t 73) (.c (.int .i64 0))⟩, ⟨some 75, none, .pk (.t 72) (.c (.bool true)) (.t 74)⟩, ⟨some 76, none, .mv (.t 75)⟩, ⟨some 77, some (76, false), .mv (.t 16)⟩, ⟨some 78, some (76, false), .bi .neq (.t 77) (.c (.int .i64 0))⟩, ⟨some 79, none, .pk (.t 76) (.c (.bool true)) (.t 78)⟩, ⟨some 80, none, .mv (.t 79)⟩, ⟨some 81, some (80, false), .mv (.t 18)⟩, ⟨some 82, some (80, false), .bi .neq (.t 81) (.c (.int .i64 0))⟩, ⟨some 83, none, .pk (.t 80) (.c (.bool true)) (.t 82)⟩] (mkSt [(7, .u (.int .i64 y4.1)), (9, .u (.int .i64 y5.1)), (11, .u (.int .i64 y6.1)), (13, .u (.int .i64 y7.1)), (14, .u (.int .i64 y7.2)), (16, .u (.int .i64 y8.2)), (17, .u (.int .i64 y9.1)), (18, .u (.int .i64 y9.2)), (71, .u (.bool v13))] [] 0) := by
      intro v13 e; subst e
      refine S_pure trivial (O_mv (d := .u (.bool ((((!decide (y4.2 = 0)) || (!decide (y5.2 = 0))) || (!decide (y6.2 = 0)))))) (by kernel_rfl)) ?_
      have K14 : ∀ v15 : Bool, v15 = ((((!decide (y4.2 = 0)) || (!decide (y5.2 = 0))) || (!decide (y6.2 = 0))) || (!decide (y7.2 = 0))) → Rs Try.prog 103 (retQ [6] (.bool r)) [.s q_law11_EvalSaturates_3, .s q_law11_EvalSaturates_5] [⟨some 76, none, .mv (.t 75)⟩, ⟨some 77, some (76, false), .mv (.t 16)⟩, ⟨some 78, some (76, false), .bi .neq (.t 77) (.c (.int .i64 0))⟩, ⟨some 79, none, .pk (.t 76) (.c (.bool true)) (.t 78)⟩, ⟨some 80, none, .mv (.t 79)⟩, ⟨some 81, some (80, false), .mv (.t 18)⟩, ⟨some 82, some (80, false), .bi .neq (.t 81) (.c (.int .i64 0))⟩, ⟨some 83, none, .pk (.t 80) (.c (.bool true)) (.t 82)⟩] (mkSt [(7, .u (.int .i64 y4.1)), (9, .u (.int .i64 y5.1)), (11, .u (.int .i64 y6.1)), (13, .u (.int .i64 y7.1)), (16, .u (.int .i64 y8.2)), (17, .u (.int .i64 y9.1)), (18, .u (.int .i64 y9.2)), (75, .u (.bool v15))] [] 0) := by
        intro v15 e; subst e
        refine S_pure trivial (O_mv (d := .u (.bool (((((!decide (y4.2 = 0)) || (!decide (y5.2 = 0))) || (!decide (y6.2 = 0))) || (!decide (y7.2 = 0)))))) (by kernel_rfl)) ?_
        have K16 : ∀ v17 : Bool, v17 = (((((!decide (y4.2 = 0)) || (!decide (y5.2 = 0))) || (!decide (y6.2 = 0))) || (!decide (y7.2 = 0))) || (!decide (y8.2 = 0))) → Rs Try.prog 103 (retQ [6] (.bool r)) [.s q_law11_EvalSaturates_3, .s q_law11_EvalSaturates_5] [⟨some 80, none, .mv (.t 79)⟩, ⟨some 81, some (80, false), .mv (.t 18)⟩, ⟨some 82, some (80, false), .bi .neq (.t 81) (.c (.int .i64 0))⟩, ⟨some 83, none, .pk (.t 80) (.c (.bool true)) (.t 82)⟩] (mkSt [(7, .u (.int .i64 y4.1)), (9, .u (.int .i64 y5.1)), (11, .u (.int .i64 y6.1)), (13, .u (.int .i64 y7.1)), (17, .u (.int .i64 y9.1)), (18, .u (.int .i64 y9.2)), (79, .u (.bool v17))] [] 0) := by
          intro v17 e; subst e
          refine S_pure trivial (O_mv (d := .u (.bool ((((((!decide (y4.2 = 0)) || (!decide (y5.2 = 0))) || (!decide (y6.2 = 0))) || (!decide (y7.2 = 0))) || (!decide (y8.2 = 0)))))) (by kernel_rfl)) ?_
          have K18 : ∀ v19 : Bool, v19 = ((((((!decide (y4.2 = 0)) || (!decide (y5.2 = 0))) || (!decide (y6.2 = 0))) || (!decide (y7.2 = 0))) || (!decide (y8.2 = 0))) || (!decide (y9.2 = 0))) → Rs Try.prog 103 (retQ [6] (.bool r)) [.s q_law11_EvalSaturates_3, .s q_law11_EvalSaturates_5] [] (mkSt [(7, .u (.int .i64 y4.1)), (9, .u (.int .i64 y5.1)), (11, .u (.int .i64 y6.1)), (13, .u (.int .i64 y7.1)), (17, .u (.int .i64 y9.1)), (83, .u (.bool v19))] [] 0) := by
            intro v19 e; subst e
            refine Rs_nil ?_
            refine N_s ?_
            refine R_cond (c := ((((((!decide (y4.2 = 0)) || (!decide (y5.2 = 0))) || (!decide (y6.2 = 0))) || (!decide (y7.2 = 0))) || (!decide (y8.2 = 0))) || (!decide (y9.2 = 0)))) (by kernel_rfl) h (fun h => ?_) (fun h => ?_)
            · refine R_seq ?_
              refine R_reg ?_
              refine S_pure trivial (O_mv (d := .u (.bool false)) (by kernel_rfl)) ?_
              refine Rs_nil ?_
              refine N_s ?_
              obtain rfl := (Option.some.inj h)
              refine R_ret ?_
              exact Q_ret (x := .bool false) (by kernel_rfl) (.refl _)
            · refine R_skip ?_
              refine N_s ?_
              refine R_seq ?_
              refine R_reg ?_
              obtain ⟨y20, hy20, h⟩ := bindS h
              refine S_pure trivial (O_ca (us := []) (r := .bool y20) (by kernel_rfl) (law11_awake.ok hy20)) ?_
              refine S_pure trivial (O_mv (d := .u (.bool y20)) (by kernel_rfl)) ?_
              obtain ⟨o23, hE, h⟩ := bindS h
              have K21 : Rs Try.prog 103 (retQ [6] (.bool r)) [.s .ret] [⟨some 89, none, .mv (.t 88)⟩, ⟨some 90, some (89, true), .mv (.t 9)⟩, ⟨some 91, some (89, true), .ca 37 [.t 90]⟩, ⟨some 92, none, .pk (.t 89) (.t 91) (.c (.bool false))⟩, ⟨some 93, none, .mv (.t 92)⟩, ⟨some 94, some (93, true), .mv (.t 9)⟩, ⟨some 95, some (93, true), .mv (.t 11)⟩, ⟨some 96, some (93, true), .bi .eql (.t 94) (.t 95)⟩, ⟨some 97, none, .pk (.t 93) (.t 96) (.c (.bool false))⟩, ⟨some 98, none, .mv (.t 97)⟩, ⟨some 99, some (98, true), .mv (.t 13)⟩, ⟨some 100, some (98, true), .mv (.t 17)⟩, ⟨some 101, some (98, true), .bi .eql (.t 99) (.t 100)⟩, ⟨some 102, none, .pk (.t 98) (.t 101) (.c (.bool false))⟩, ⟨some 6, none, .mv (.t 102)⟩] (mkSt [(9, .u (.int .i64 y5.1)), (11, .u (.int .i64 y6.1)), (13, .u (.int .i64 y7.1)), (17, .u (.int .i64 y9.1)), (88, .u (.bool o23))] [] 0) := by
                refine S_pure trivial (O_mv (d := .u (.bool o23)) (by kernel_rfl)) ?_
                obtain ⟨o26, hE, h⟩ := bindS h
                have K24 : Rs Try.prog 103 (retQ [6] (.bool r)) [.s .ret] [⟨some 93, none, .mv (.t 92)⟩, ⟨some 94, some (93, true), .mv (.t 9)⟩, ⟨some 95, some (93, true), .mv (.t 11)⟩, ⟨some 96, some (93, true), .bi .eql (.t 94) (.t 95)⟩, ⟨some 97, none, .pk (.t 93) (.t 96) (.c (.bool false))⟩, ⟨some 98, none, .mv (.t 97)⟩, ⟨some 99, some (98, true), .mv (.t 13)⟩, ⟨some 100, some (98, true), .mv (.t 17)⟩, ⟨some 101, some (98, true), .bi .eql (.t 99) (.t 100)⟩, ⟨some 102, none, .pk (.t 98) (.t 101) (.c (.bool false))⟩, ⟨some 6, none, .mv (.t 102)⟩] (mkSt [(9, .u (.int .i64 y5.1)), (11, .u (.int .i64 y6.1)), (13, .u (.int .i64 y7.1)), (17, .u (.int .i64 y9.1)), (92, .u (.bool o26))] [] 0) := by
                  refine S_pure trivial (O_mv (d := .u (.bool o26)) (by kernel_rfl)) ?_
                  have K27 : ∀ v28 : Bool, v28 = (o26 && (decide (y5.1 = y6.1))) → Rs Try.prog 103 (retQ [6] (.bool r)) [.s .ret] [⟨some 98, none, .mv (.t 97)⟩, ⟨some 99, some (98, true), .mv (.t 13)⟩, ⟨some 100, some (98, true), .mv (.t 17)⟩, ⟨some 101, some (98, true), .bi .eql (.t 99) (.t 100)⟩, ⟨some 102, none, .pk (.t 98) (.t 101) (.c (.bool false))⟩, ⟨some 6, none, .mv (.t 102)⟩] (mkSt [(13, .u (.int .i64 y7.1)), (17, .u (.int .i64 y9.1)), (97, .u (.bool v28))] [] 0) := by
                    intro v28 e; subst e
                    refine S_pure trivial (O_mv (d := .u (.bool ((o26 && (decide (y5.1 = y6.1)))))) (by kernel_rfl)) ?_
                    have K29 : ∀ v30 : Bool, v30 = ((o26 && (decide (y5.1 = y6.1))) && (decide (y7.1 = y9.1))) → Rs Try.prog 103 (retQ [6] (.bool r)) [.s .ret] [⟨some 6, none, .mv (.t 102)⟩] (mkSt [(102, .u (.bool v30))] [] 0) := by
                      intro v30 e; subst e
                      refine S_pure trivial (O_mv (d := .u (.bool (((o26 && (decide (y5.1 = y6.1))) && (decide (y7.1 = y9.1)))))) (by kernel_rfl)) ?_
                      refine Rs_nil ?_
                      refine N_s ?_
                      obtain rfl := (Option.some.inj h)
                      refine R_ret ?_
                      exact Q_ret (x := .bool (((o26 && (decide (y5.1 = y6.1))) && (decide (y7.1 = y9.1))))) (by kernel_rfl) (.refl _)
                    refine S_case0 (t := 98) (c := (o26 && (decide (y5.1 = y6.1)))) (by kernel_rfl) (fun hc => ?_) (fun hc => ?_)
                    · refine S_pure (by show _ = _; kernel_rfl) (O_mv (d := .u (.int .i64 y7.1)) (by kernel_rfl)) ?_
                      refine S_pure (by show _ = _; kernel_rfl) (O_mv (d := .u (.int .i64 y9.1)) (by kernel_rfl)) ?_
                      refine S_pure (by show _ = _; kernel_rfl) (O_eql (k := .i64) (a := y7.1) (b := y9.1) (by kernel_rfl) (by kernel_rfl)) ?_
                      refine S_pure trivial (O_pkt (d := .u (.bool ((decide (y7.1 = y9.1))))) (by kernel_rfl) (by kernel_rfl)) ?_
                      exact Rs_weak (W_to (by kernel_rfl) (by kernel_rfl) (by kernel_rfl)) (K29 _ (by rw [hc] <;> rfl))
                    · refine S_skip (b := false) (by kernel_rfl) rfl ?_
                      refine S_skip (b := false) (by kernel_rfl) rfl ?_
                      refine S_skip (b := false) (by kernel_rfl) rfl ?_
                      refine S_pure trivial (O_pkf (d := .u (.bool false)) (by kernel_rfl) (by kernel_rfl)) ?_
                      exact Rs_weak (W_to (by kernel_rfl) (by kernel_rfl) (by kernel_rfl)) (K29 _ (by rw [hc] <;> rfl))
                  refine S_case0 (t := 93) (c := o26) (by kernel_rfl) (fun hc => ?_) (fun hc => ?_)
                  · refine S_pure (by show _ = _; kernel_rfl) (O_mv (d := .u (.int .i64 y5.1)) (by kernel_rfl)) ?_
                    refine S_pure (by show _ = _; kernel_rfl) (O_mv (d := .u (.int .i64 y6.1)) (by kernel_rfl)) ?_
                    refine S_pure (by show _ = _; kernel_rfl) (O_eql (k := .i64) (a := y5.1) (b := y6.1) (by kernel_rfl) (by kernel_rfl)) ?_
                    refine S_pure trivial (O_pkt (d := .u (.bool ((decide (y5.1 = y6.1))))) (by kernel_rfl) (by kernel_rfl)) ?_
                    exact Rs_weak (W_to (by kernel_rfl) (by kernel_rfl) (by kernel_rfl)) (K27 _ (by rw [hc] <;> rfl))
                  · refine S_skip (b := false) (by kernel_rfl) rfl ?_
                    refine S_skip (b := false) (by kernel_rfl) rfl ?_
                    refine S_skip (b := false) (by kernel_rfl) rfl ?_
                    refine S_pure trivial (O_pkf (d := .u (.bool false)) (by kernel_rfl) (by kernel_rfl)) ?_
                    exact Rs_weak (W_to (by kernel_rfl) (by kernel_rfl) (by kernel_rfl)) (K27 _ (by rw [hc] <;> rfl))
                replace h := hE
                refine S_case (t := 89) (c := o23) (by kernel_rfl) h (fun hc h => ?_) (fun hc h => ?_)
                · refine S_pure (by show _ = _; kernel_rfl) (O_mv (d := .u (.int .i64 y5.1)) (by kernel_rfl)) ?_
                  obtain ⟨y31, hy31, h⟩ := bindS h
                  refine S_pure (by show _ = _; kernel_rfl) (O_ca (us := [.int .i64 y5.1]) (r := .bool y31) (by kernel_rfl) (ref11_Number.ok hy31)) ?_
                  refine S_pure trivial (O_pkt (d := .u (.bool y31)) (by kernel_rfl) (by kernel_rfl)) ?_
                  obtain rfl := Option.some.inj h
                  exact Rs_weak (W_to (by kernel_rfl) (by kernel_rfl) (by kernel_rfl)) K24
                · refine S_skip (b := false) (by kernel_rfl) rfl ?_
                  refine S_skip (b := false) (by kernel_rfl) rfl ?_
                  refine S_pure trivial (O_pkf (d := .u (.bool false)) (by kernel_rfl) (by kernel_rfl)) ?_
                  obtain rfl := Option.some.inj h
                  exact Rs_weak (W_to (by kernel_rfl) (by kernel_rfl) (by kernel_rfl)) K24
              replace h := hE
              refine S_case (t := 85) (c := y20) (by kernel_rfl) h (fun hc h => ?_) (fun hc h => ?_)
              · refine S_pure (by show _ = _; kernel_rfl) (O_mv (d := .u (.int .i64 y4.1)) (by kernel_rfl)) ?_
                obtain ⟨y32, hy32, h⟩ := bindS h
                refine S_pure (by show _ = _; kernel_rfl) (O_ca (us := [.int .i64 y4.1]) (r := .bool y32) (by kernel_rfl) (ref11_Number.ok hy32)) ?_
                refine S_pure trivial (O_pkt (d := .u (.bool y32)) (by kernel_rfl) (by kernel_rfl)) ?_
                obtain rfl := Option.some.inj h
                exact Rs_weak (W_to (by kernel_rfl) (by kernel_rfl) (by kernel_rfl)) K21
              · refine S_skip (b := false) (by kernel_rfl) rfl ?_
                refine S_skip (b := false) (by kernel_rfl) rfl ?_
                refine S_pure trivial (O_pkf (d := .u (.bool false)) (by kernel_rfl) (by kernel_rfl)) ?_
                obtain rfl := Option.some.inj h
                exact Rs_weak (W_to (by kernel_rfl) (by kernel_rfl) (by kernel_rfl)) K21
          refine S_case0 (t := 80) (c := (((((!decide (y4.2 = 0)) || (!decide (y5.2 = 0))) || (!decide (y6.2 = 0))) || (!decide (y7.2 = 0))) || (!decide (y8.2 = 0)))) (by kernel_rfl) (fun hc => ?_) (fun hc => ?_)
          · refine S_skip (b := true) (by kernel_rfl) rfl ?_
            refine S_skip (b := true) (by kernel_rfl) rfl ?_
            refine S_pure trivial (O_pkt (d := .u (.bool true)) (by kernel_rfl) (by kernel_rfl)) ?_
            exact Rs_weak (W_to (by kernel_rfl) (by kernel_rfl) (by kernel_rfl)) (K18 _ (by rw [hc] <;> rfl))
          · refine S_pure (by show _ = _; kernel_rfl) (O_mv (d := .u (.int .i64 y9.2)) (by kernel_rfl)) ?_
            refine S_pure (by show _ = _; kernel_rfl) (O_neq (k := .i64) (a := y9.2) (b := 0) (by kernel_rfl) (by kernel_rfl)) ?_
            refine S_pure trivial (O_pkf (d := .u (.bool ((!decide (y9.2 = 0))))) (by kernel_rfl) (by kernel_rfl)) ?_
            exact Rs_weak (W_to (by kernel_rfl) (by kernel_rfl) (by kernel_rfl)) (K18 _ (by rw [hc] <;> rfl))
        refine S_case0 (t := 76) (c := ((((!decide (y4.2 = 0)) || (!decide (y5.2 = 0))) || (!decide (y6.2 = 0))) || (!decide (y7.2 = 0)))) (by kernel_rfl) (fun hc => ?_) (fun hc => ?_)
        · refine S_skip (b := true) (by kernel_rfl) rfl ?_
          refine S_skip (b := true) (by kernel_rfl) rfl ?_
          refine S_pure trivial (O_pkt (d := .u (.bool true)) (by kernel_rfl) (by kernel_rfl)) ?_
          exact Rs_weak (W_to (by kernel_rfl) (by kernel_rfl) (by kernel_rfl)) (K16 _ (by rw [hc] <;> rfl))
        · refine S_pure (by show _ = _; kernel_rfl) (O_mv (d := .u (.int .i64 y8.2)) (by kernel_rfl)) ?_
          refine S_pure (by show _ = _; kernel_rfl) (O_neq (k := .i64) (a := y8.2) (b := 0) (by kernel_rfl) (by kernel_rfl)) ?_
          refine S_pure trivial (O_pkf (d := .u (.bool ((!decide (y8.2 = 0))))) (by kernel_rfl) (by kernel_rfl)) ?_
          exact Rs_weak (W_to (by kernel_rfl) (by kernel_rfl) (by kernel_rfl)) (K16 _ (by rw [hc] <;> rfl))
      refine S_case0 (t := 72) (c := (((!decide (y4.2 = 0)) || (!decide (y5.2 = 0))) || (!decide (y6.2 = 0)))) (by kernel_rfl) (fun hc => ?_) (fun hc => ?_)
      · refine S_skip (b := true) (by kernel_rfl) rfl ?_
        refine S_skip (b := true) (by kernel_rfl) rfl ?_
        refine S_pure trivial (O_pkt (d := .u (.bool true)) (by kernel_rfl) (by kernel_rfl)) ?_
        exact Rs_weak (W_to (by kernel_rfl) (by kernel_rfl) (by kernel_rfl)) (K14 _ (by rw [hc] <;> rfl))
      · refine S_pure (by show _ = _; kernel_rfl) (O_mv (d := .u (.int .i64 y7.2)) (by kernel_rfl)) ?_
        refine S_pure (by show _ = _; kernel_rfl) (O_neq (k := .i64) (a := y7.2) (b := 0) (by kernel_rfl) (by kernel_rfl)) ?_
        refine S_pure trivial (O_pkf (d := .u (.bool ((!decide (y7.2 = 0))))) (by kernel_rfl) (by kernel_rfl)) ?_
        exact Rs_weak (W_to (by kernel_rfl) (by kernel_rfl) (by kernel_rfl)) (K14 _ (by rw [hc] <;> rfl))
    refine S_case0 (t := 68) (c := ((!decide (y4.2 = 0)) || (!decide (y5.2 = 0)))) (by kernel_rfl) (fun hc => ?_) (fun hc => ?_)
    · refine S_skip (b := true) (by kernel_rfl) rfl ?_
      refine S_skip (b := true) (by kernel_rfl) rfl ?_
      refine S_pure trivial (O_pkt (d := .u (.bool true)) (by kernel_rfl) (by kernel_rfl)) ?_
      exact Rs_weak (W_to (by kernel_rfl) (by kernel_rfl) (by kernel_rfl)) (K12 _ (by rw [hc] <;> rfl))
    · refine S_pure (by show _ = _; kernel_rfl) (O_mv (d := .u (.int .i64 y6.2)) (by kernel_rfl)) ?_
      refine S_pure (by show _ = _; kernel_rfl) (O_neq (k := .i64) (a := y6.2) (b := 0) (by kernel_rfl) (by kernel_rfl)) ?_
      refine S_pure trivial (O_pkf (d := .u (.bool ((!decide (y6.2 = 0))))) (by kernel_rfl) (by kernel_rfl)) ?_
      exact Rs_weak (W_to (by kernel_rfl) (by kernel_rfl) (by kernel_rfl)) (K12 _ (by rw [hc] <;> rfl))
  refine S_case0 (t := 64) (c := (!decide (y4.2 = 0))) (by kernel_rfl) (fun hc => ?_) (fun hc => ?_)
  · refine S_skip (b := true) (by kernel_rfl) rfl ?_
    refine S_skip (b := true) (by kernel_rfl) rfl ?_
    refine S_pure trivial (O_pkt (d := .u (.bool true)) (by kernel_rfl) (by kernel_rfl)) ?_
    exact Rs_weak (W_to (by kernel_rfl) (by kernel_rfl) (by kernel_rfl)) (K10 _ (by rw [hc] <;> rfl))
  · refine S_pure (by show _ = _; kernel_rfl) (O_mv (d := .u (.int .i64 y5.2)) (by kernel_rfl)) ?_
    refine S_pure (by show _ = _; kernel_rfl) (O_neq (k := .i64) (a := y5.2) (b := 0) (by kernel_rfl) (by kernel_rfl)) ?_
    refine S_pure trivial (O_pkf (d := .u (.bool ((!decide (y5.2 = 0))))) (by kernel_rfl) (by kernel_rfl)) ?_
    exact Rs_weak (W_to (by kernel_rfl) (by kernel_rfl) (by kernel_rfl)) (K10 _ (by rw [hc] <;> rfl))

/-! ### selfstab/selfstablaw11.EvalCompares -/
def q_law11_EvalCompares_1 : AC := .reg [⟨some 4, none, .mv (.c (.bool false))⟩]
def q_law11_EvalCompares_2 : AC := .seq q_law11_EvalCompares_1 .ret
def q_law11_EvalCompares_3 : AC := .cond (.t 124) q_law11_EvalCompares_2 .skip
def q_law11_EvalCompares_4 : AC := .reg [⟨some 125, none, .ca 18 []⟩, ⟨some 126, none, .mv (.t 125)⟩, ⟨some 127, some (126, true), .mv (.t 5)⟩, ⟨some 128, some (126, true), .mv (.t 7)⟩, ⟨some 129, some (126, true), .bi .add (.t 127) (.t 128)⟩, ⟨some 130, some (126, true), .mv (.t 9)⟩, ⟨some 131, some (126, true), .bi .add (.t 129) (.t 130)⟩, ⟨some 132, some (126, true), .bi .eql (.t 131) (.c (.int .i64 1))⟩, ⟨some 133, none, .pk (.t 126) (.t 132) (.c (.bool false))⟩, ⟨some 134, none, .mv (.t 133)⟩, ⟨some 135, some (134, true), .mv (.t 5)⟩, ⟨some 136, some (134, true), .mv (.t 11)⟩, ⟨some 137, some (134, true), .bi .add (.t 135) (.t 136)⟩, ⟨some 138, some (134, true), .bi .eql (.t 137) (.c (.int .i64 1))⟩, ⟨some 139, none, .pk (.t 134) (.t 138) (.c (.bool false))⟩, ⟨some 140, none, .mv (.t 139)⟩, ⟨some 141, some (140, true), .mv (.t 9)⟩, ⟨some 142, some (140, true), .mv (.t 13)⟩, ⟨some 143, some (140, true), .bi .add (.t 141) (.t 142)⟩, ⟨some 144, some (140, true), .bi .eql (.t 143) (.c (.int .i64 1))⟩, ⟨some 145, none, .pk (.t 140) (.t 144) (.c (.bool false))⟩, ⟨some 146, none, .mv (.t 145)⟩, ⟨some 147, some (146, true), .mv (.t 7)⟩, ⟨some 148, some (146, true), .mv (.t 15)⟩, ⟨some 149, some (146, true), .bi .add (.t 147) (.t 148)⟩, ⟨some 150, some (146, true), .bi .eql (.t 149) (.c (.int .i64 1))⟩, ⟨some 151, none, .pk (.t 146) (.t 150) (.c (.bool false))⟩, ⟨some 152, none, .mv (.t 151)⟩, ⟨some 153, some (152, true), .mv (.t 17)⟩, ⟨some 154, some (152, true), .mv (.t 23)⟩, ⟨some 155, some (152, true), .bi .add (.t 153) (.t 154)⟩, ⟨some 156, some (152, true), .bi .eql (.t 155) (.c (.int .i64 1))⟩, ⟨some 157, none, .pk (.t 152) (.t 156) (.c (.bool false))⟩, ⟨some 4, none, .mv (.t 157)⟩]
def q_law11_EvalCompares_5 : AC := .seq q_law11_EvalCompares_4 .ret
def q_law11_EvalCompares_6 : AC := .reg [⟨some 87, none, .mv (.t 6)⟩, ⟨some 88, none, .bi .neq (.t 87) (.c (.int .i64 0))⟩, ⟨some 89, none, .mv (.t 88)⟩, ⟨some 90, some (89, false), .mv (.t 8)⟩, ⟨some 91, some (89, false), .bi .neq (.t 90) (.c (.int .i64 0))⟩, ⟨some 92, none, .pk (.t 89) (.c (.bool true)) (.t 91)⟩, ⟨some 93, none, .mv (.t 92)⟩, ⟨some 94, some (93, false), .mv (.t 10)⟩, ⟨some 95, some (93, false), .bi .neq (.t 94) (.c (.int .i64 0))⟩, ⟨some 96, none, .pk (.t 93) (.c (.bool true)) (.t 95)⟩, ⟨some 97, none, .mv (.t 96)⟩, ⟨some 98, some (97, false), .mv (.t 12)⟩, ⟨some 99, some (97, false), .bi .neq (.t 98) (.c (.int .i64 0))⟩, ⟨some 100, none, .pk (.t 97) (.c (.bool true)) (.t 99)⟩, ⟨some 101, none, .mv (.t 100)⟩, ⟨some 102, some (101, false), .mv (.t 14)⟩, ⟨some 103, some (101, false), .bi .neq (.t 102) (.c (.int .i64 0))⟩, ⟨some 104, none, .pk (.t 101) (.c (.bool true)) (.t 103)⟩, ⟨some 105, none, .mv (.t 104)⟩, ⟨some 106, some (105, false), .mv (.t 16)⟩, ⟨some 107, some (105, false), .bi .neq (.t 106) (.c (.int .i64 0))⟩, ⟨some 108, none, .pk (.t 105) (.c (.bool true)) (.t 107)⟩, ⟨some 109, none, .mv (.t 108)⟩, ⟨some 110, some (109, false), .mv (.t 18)⟩, ⟨some 111, some (109, false), .bi .neq (.t 110) (.c (.int .i64 0))⟩, ⟨some 112, none, .pk (.t 109) (.c (.bool true)) (.t 111)⟩, ⟨some 113, none, .mv (.t 112)⟩, ⟨some 114, some (113, false), .mv (.t 20)⟩, ⟨some 115, some (113, false), .bi .neq (.t 114) (.c (.int .i64 0))⟩, ⟨some 116, none, .pk (.t 113) (.c (.bool true)) (.t 115)⟩, ⟨some 117, none, .mv (.t 116)⟩, ⟨some 118, some (117, false), .mv (.t 22)⟩, ⟨some 119, some (117, false), .bi .neq (.t 118) (.c (.int .i64 0))⟩, ⟨some 120, none, .pk (.t 117) (.c (.bool true)) (.t 119)⟩, ⟨some 121, none, .mv (.t 120)⟩, ⟨some 122, some (121, false), .mv (.t 24)⟩, ⟨some 123, some (121, false), .bi .neq (.t 122) (.c (.int .i64 0))⟩, ⟨some 124, none, .pk (.t 121) (.c (.bool true)) (.t 123)⟩]
def q_law11_EvalCompares_7 : AC := .seq q_law11_EvalCompares_6 q_law11_EvalCompares_3
def q_law11_EvalCompares_8 : AC := .seq q_law11_EvalCompares_7 q_law11_EvalCompares_5
def q_law11_EvalCompares_9 : AC := .reg [⟨some 82, none, .mv (.t 19)⟩, ⟨some 83, none, .mv (.t 21)⟩, ⟨some 84, none, .ca 22 [.c (.int .i64 42), .t 82, .t 83]⟩, ⟨some 81, none, .mv (.t 84)⟩, ⟨some 85, none, .ex (.t 81) 0⟩, ⟨some 86, none, .ex (.t 81) 1⟩, ⟨some 23, none, .mv (.t 85)⟩, ⟨some 24, none, .mv (.t 86)⟩]
def q_law11_EvalCompares_10 : AC := .seq q_law11_EvalCompares_9 q_law11_EvalCompares_8
def q_law11_EvalCompares_11 : AC := .reg [⟨some 77, none, .mv (.t 1)⟩, ⟨some 78, none, .ca 34 [.c (.int .i64 19), .t 77]⟩, ⟨some 76, none, .mv (.t 78)⟩, ⟨some 79, none, .ex (.t 76) 0⟩, ⟨some 80, none, .ex (.t 76) 1⟩, ⟨some 21, none, .mv (.t 79)⟩, ⟨some 22, none, .mv (.t 80)⟩]
def q_law11_EvalCompares_12 : AC := .seq q_law11_EvalCompares_11 q_law11_EvalCompares_10
def q_law11_EvalCompares_13 : AC := .reg [⟨some 72, none, .mv (.t 0)⟩, ⟨some 73, none, .ca 34 [.c (.int .i64 19), .t 72]⟩, ⟨some 71, none, .mv (.t 73)⟩, ⟨some 74, none, .ex (.t 71) 0⟩, ⟨some 75, none, .ex (.t 71) 1⟩, ⟨some 19, none, .mv (.t 74)⟩, ⟨some 20, none, .mv (.t 75)⟩]
def q_law11_EvalCompares_14 : AC := .seq q_law11_EvalCompares_13 q_law11_EvalCompares_12
def q_law11_EvalCompares_15 : AC := .reg [⟨some 66, none, .mv (.t 0)⟩, ⟨some 67, none, .mv (.t 1)⟩, ⟨some 68, none, .ca 22 [.c (.int .i64 41), .t 66, .t 67]⟩, ⟨some 65, none, .mv (.t 68)⟩, ⟨some 69, none, .ex (.t 65) 0⟩, ⟨some 70, none, .ex (.t 65) 1⟩, ⟨some 17, none, .mv (.t 69)⟩, ⟨some 18, none, .mv (.t 70)⟩]
def q_law11_EvalCompares_16 : AC := .seq q_law11_EvalCompares_15 q_law11_EvalCompares_14
def q_law11_EvalCompares_17 : AC := .reg [⟨some 60, none, .mv (.t 0)⟩, ⟨some 61, none, .mv (.t 1)⟩, ⟨some 62, none, .ca 22 [.c (.int .i64 36), .t 60, .t 61]⟩, ⟨some 59, none, .mv (.t 62)⟩, ⟨some 63, none, .ex (.t 59) 0⟩, ⟨some 64, none, .ex (.t 59) 1⟩, ⟨some 15, none, .mv (.t 63)⟩, ⟨some 16, none, .mv (.t 64)⟩]
def q_law11_EvalCompares_18 : AC := .seq q_law11_EvalCompares_17 q_law11_EvalCompares_16
def q_law11_EvalCompares_19 : AC := .reg [⟨some 54, none, .mv (.t 0)⟩, ⟨some 55, none, .mv (.t 1)⟩, ⟨some 56, none, .ca 22 [.c (.int .i64 38), .t 54, .t 55]⟩, ⟨some 53, none, .mv (.t 56)⟩, ⟨some 57, none, .ex (.t 53) 0⟩, ⟨some 58, none, .ex (.t 53) 1⟩, ⟨some 13, none, .mv (.t 57)⟩, ⟨some 14, none, .mv (.t 58)⟩]
def q_law11_EvalCompares_20 : AC := .seq q_law11_EvalCompares_19 q_law11_EvalCompares_18
def q_law11_EvalCompares_21 : AC := .reg [⟨some 48, none, .mv (.t 0)⟩, ⟨some 49, none, .mv (.t 1)⟩, ⟨some 50, none, .ca 22 [.c (.int .i64 40), .t 48, .t 49]⟩, ⟨some 47, none, .mv (.t 50)⟩, ⟨some 51, none, .ex (.t 47) 0⟩, ⟨some 52, none, .ex (.t 47) 1⟩, ⟨some 11, none, .mv (.t 51)⟩, ⟨some 12, none, .mv (.t 52)⟩]
def q_law11_EvalCompares_22 : AC := .seq q_law11_EvalCompares_21 q_law11_EvalCompares_20
def q_law11_EvalCompares_23 : AC := .reg [⟨some 42, none, .mv (.t 0)⟩, ⟨some 43, none, .mv (.t 1)⟩, ⟨some 44, none, .ca 22 [.c (.int .i64 39), .t 42, .t 43]⟩, ⟨some 41, none, .mv (.t 44)⟩, ⟨some 45, none, .ex (.t 41) 0⟩, ⟨some 46, none, .ex (.t 41) 1⟩, ⟨some 9, none, .mv (.t 45)⟩, ⟨some 10, none, .mv (.t 46)⟩]
def q_law11_EvalCompares_24 : AC := .seq q_law11_EvalCompares_23 q_law11_EvalCompares_22
def q_law11_EvalCompares_25 : AC := .reg [⟨some 36, none, .mv (.t 0)⟩, ⟨some 37, none, .mv (.t 1)⟩, ⟨some 38, none, .ca 22 [.c (.int .i64 35), .t 36, .t 37]⟩, ⟨some 35, none, .mv (.t 38)⟩, ⟨some 39, none, .ex (.t 35) 0⟩, ⟨some 40, none, .ex (.t 35) 1⟩, ⟨some 7, none, .mv (.t 39)⟩, ⟨some 8, none, .mv (.t 40)⟩]
def q_law11_EvalCompares_26 : AC := .seq q_law11_EvalCompares_25 q_law11_EvalCompares_24
def q_law11_EvalCompares_27 : AC := .reg [⟨some 30, none, .mv (.t 0)⟩, ⟨some 31, none, .mv (.t 1)⟩, ⟨some 32, none, .ca 22 [.c (.int .i64 37), .t 30, .t 31]⟩, ⟨some 29, none, .mv (.t 32)⟩, ⟨some 33, none, .ex (.t 29) 0⟩, ⟨some 34, none, .ex (.t 29) 1⟩, ⟨some 5, none, .mv (.t 33)⟩, ⟨some 6, none, .mv (.t 34)⟩]
def q_law11_EvalCompares_28 : AC := .seq q_law11_EvalCompares_27 q_law11_EvalCompares_26
def q_law11_EvalCompares_29 : AC := .reg [⟨some 25, none, .mv (.t 0)⟩, ⟨some 26, none, .ca 21 [.t 25]⟩, ⟨some 27, none, .mv (.t 1)⟩, ⟨some 28, none, .ca 21 [.t 27]⟩, ⟨some 0, none, .mv (.t 26)⟩, ⟨some 1, none, .mv (.t 28)⟩]
def q_law11_EvalCompares_30 : AC := .seq q_law11_EvalCompares_29 q_law11_EvalCompares_28
def q_law11_EvalCompares_31 : AC := .reg [⟨some 4, none, .mv (.c (.bool false))⟩]
def q_law11_EvalCompares_32 : AC := .seq q_law11_EvalCompares_31 q_law11_EvalCompares_30
def c_law11_EvalCompares : FC := ⟨158, [4], q_law11_EvalCompares_32⟩
theorem k_law11_EvalCompares : okF Try.prog 14 c_law11_EvalCompares = true := by decide +kernel
noncomputable def law11_EvalCompares (a_0 : Int) (a_1 : Int) : Option Bool := ((ref11_Saturate a_0).bind (fun (y1 : Int) => ((ref11_Saturate a_1).bind (fun (y2 : Int) => ((eval_Binary 37 y1 y2).bind (fun (y3 : Int × Int) => ((eval_Binary 35 y1 y2).bind (fun (y4 : Int × Int) => ((eval_Binary 39 y1 y2).bind (fun (y5 : Int × Int) => ((eval_Binary 40 y1 y2).bind (fun (y6 : Int × Int) => ((eval_Binary 38 y1 y2).bind (fun (y7 : Int × Int) => ((eval_Binary 36 y1 y2).bind (fun (y8 : Int × Int) => ((eval_Binary 41 y1 y2).bind (fun (y9 : Int × Int) => ((eval_Unary 19 y1).bind (fun (y10 : Int × Int) => ((eval_Unary 19 y2).bind (fun (y11 : Int × Int) => ((eval_Binary 42 y10.1 y11.1).bind (fun (y12 : Int × Int) => (bif ((((((((((!decide (y3.2 = 0)) || (!decide (y4.2 = 0))) || (!decide (y5.2 = 0))) || (!decide (y6.2 = 0))) || (!decide (y7.2 = 0))) || (!decide (y8.2 = 0))) || (!decide (y9.2 = 0))) || (!decide (y10.2 = 0))) || (!decide (y11.2 = 0))) || (!decide (y12.2 = 0))) then (some false) else ((law11_awake).bind (fun (y31 : Bool) => (some (((((y31 && (decide ((IntKind.i64.wrap ((IntKind.i64.wrap (y3.1 + y4.1)) + y5.1)) = 1))) && (decide ((IntKind.i64.wrap (y3.1 + y6.1)) = 1))) && (decide ((IntKind.i64.wrap (y5.1 + y7.1)) = 1))) && (decide ((IntKind.i64.wrap (y4.1 + y8.1)) = 1))) && (decide ((IntKind.i64.wrap (y9.1 + y12.1)) = 1)))))))))))))))))))))))))))))))
theorem law11_EvalCompares.ok {a_0 : Int} {a_1 : Int} {r : Bool} (h : law11_EvalCompares a_0 a_1 = some r) : PC Try.prog 14 [.int .i64 a_0, .int .i64 a_1] (.bool r) := by
  refine PC_run k_law11_EvalCompares rfl (L := [(0, .u (.int .i64 a_0)), (1, .u (.int .i64 a_1))]) rfl ?_
  show Run Try.prog 158 (retQ [4] (.bool r)) [] q_law11_EvalCompares_32 _
  refine R_seq ?_
  refine R_reg ?_
  refine S_pure trivial (O_mv (d := .u (.bool false)) (by kernel_rfl)) ?_
  refine Rs_nil ?_
  refine N_s ?_
  refine R_seq ?_
  refine R_reg ?_
  refine S_pure trivial (O_mv (d := .u (.int .i64 a_0)) (by kernel_rfl)) ?_
  obtain ⟨y1, hy1, h⟩ := bindS h
  refine S_pure trivial (O_ca (us := [.int .i64 a_0]) (r := .int .i64 y1) (by kernel_rfl) (ref11_Saturate.ok hy1)) ?_
  refine S_pure trivial (O_mv (d := .u (.int .i64 a_1)) (by kernel_rfl)) ?_
  obtain ⟨y2, hy2, h⟩ := bindS h
  refine S_pure trivial (O_ca (us := [.int .i64 a_1]) (r := .int .i64 y2) (by kernel_rfl) (ref11_Saturate.ok hy2)) ?_
  refine S_pure trivial (O_mv (d := .u (.int .i64 y1)) (by kernel_rfl)) ?_
  refine S_pure trivial (O_mv (d := .u (.int .i64 y2)) (by kernel_rfl)) ?_
  refine Rs_nil ?_
  refine N_s ?_
  refine R_seq ?_
  refine R_reg ?_
  refine S_pure trivial (O_mv (d := .u (.int .i64 y1)) (by kernel_rfl)) ?_
  refine S_pure trivial (O_mv (d := .u (.int .i64 y2)) (by kernel_rfl)) ?_
  obtain ⟨y3, hy3, h⟩ := bindS h
  refine S_pure trivial (O_ca (us := [.int .i64 37, .int .i64 y1, .int .i64 y2]) (r := .tup [.int .i64 y3.1, .int .i64 y3.2]) (by kernel_rfl) (eval_Binary.ok hy3)) ?_
  refine S_pure trivial (O_mv (d := .u (.tup [.int .i64 y3.1, .int .i64 y3.2])) (by kernel_rfl)) ?_
  refine S_pure trivial (O_ex (us := [.int .i64 y3.1, .int .i64 y3.2]) (u := .int .i64 y3.1) (by kernel_rfl) (by kernel_rfl)) ?_
  refine S_pure trivial (O_ex (us := [.int .i64 y3.1, .int .i64 y3.2]) (u := .int .i64 y3.2) (by kernel_rfl) (by kernel_rfl)) ?_
  refine S_pure trivial (O_mv (d := .u (.int .i64 y3.1)) (by kernel_rfl)) ?_
  refine S_pure trivial (O_mv (d := .u (.int .i64 y3.2)) (by kernel_rfl)) ?_
  refine Rs_nil ?_
  refine N_s ?_
  refine R_seq ?_
  refine R_reg ?_
  refine S_pure trivial (O_mv (d := .u (.int .i64 y1)) (by kernel_rfl)) ?_
  refine S_pure trivial (O_mv (d := .u (.int .i64 y2)) (by kernel_rfl)) ?_
  obtain ⟨y4, hy4, h⟩ := bindS h
  refine S_pure trivial (O_ca (us := [.int .i64 35, .int .i64 y1, .int .i64 y2]) (r := .tup [.int .i64 y4.1, .int .i64 y4.2]) (by kernel_rfl) (eval_Binary.ok hy4)) ?_
  refine S_pure trivial (O_mv (d := .u (.tup [.int .i64 y4.1, .int .i64 y4.2])) (by kernel_rfl)) ?_
  refine S_pure trivial (O_ex (us := [.int .i64 y4.1, .int .i64 y4.2]) (u := .int .i64 y4.1) (by kernel_rfl) (by kernel_rfl)) ?_
  refine S_pure trivial (O_ex (us := [.int .i64 y4.1, .int .i64 y4.2]) (u := .int .i64 y4.2) (by kernel_rfl) (by kernel_rfl)) ?_
  refine S_pure trivial (O_mv (d := .u (.int .i64 y4.1)) (by kernel_rfl)) ?_
  refine S_pure trivial (O_mv (d := .u (.int .i64 y4.2)) (by kernel_rfl)) ?_
  refine Rs_nil ?_
  refine N_s ?_
  refine R_seq ?_
  refine R_reg ?_
  refine S_pure trivial (O_mv (d := .u (.int .i64 y1)) (by kernel_rfl)) ?_
  refine S_pure trivial (O_mv (d := .u (.int .i64 y2)) (by kernel_rfl)) ?_
  obtain ⟨y5, hy5, h⟩ := bindS h
  refine S_pure trivial (O_ca (us := [.int .i64 39, .int .i64 y1, .int .i64 y2]) (r := .tup [.int .i64 y5.1, .int .i64 y5.2]) (by kernel_rfl) (eval_Binary.ok hy5)) ?_
  refine S_pure trivial (O_mv (d := .u (.tup [.int .i64 y5.1, .int .i64 y5.2])) (by kernel_rfl)) ?_
  refine S_pure trivial (O_ex (us := [.int .i64 y5.1, .int .i64 y5.2]) (u := .int .i64 y5.1) (by kernel_rfl) (by kernel_rfl)) ?_
  refine S_pure trivial (O_ex (us := [.int .i64 y5.1, .int .i64 y5.2]) (u := .int .i64 y5.2) (by kernel_rfl) (by kernel_rfl)) ?_
  refine S_pure trivial (O_mv (d := .u (.int .i64 y5.1)) (by kernel_rfl)) ?_
  refine S_pure trivial (O_mv (d := .u (.int .i64 y5.2)) (by kernel_rfl)) ?_
  refine Rs_nil ?_
  refine N_s ?_
  refine R_seq ?_
  refine R_reg ?_
  refine S_pure trivial (O_mv (d := .u (.int .i64 y1)) (by kernel_rfl)) ?_
  refine S_pure trivial (O_mv (d := .u (.int .i64 y2)) (by kernel_rfl)) ?_
  obtain ⟨y6, hy6, h⟩ := bindS h
  refine S_pure trivial (O_ca (us := [.int .i64 40, .int .i64 y1, .int .i64 y2]) (r := .tup [.int .i64 y6.1, .int .i64 y6.2]) (by kernel_rfl) (eval_Binary.ok hy6)) ?_
  refine S_pure trivial (O_mv (d := .u (.tup [.int .i64 y6.1, .int .i64 y6.2])) (by kernel_rfl)) ?_
  refine S_pure trivial (O_ex (us := [.int .i64 y6.1, .int .i64 y6.2]) (u := .int .i64 y6.1) (by kernel_rfl) (by kernel_rfl)) ?_
  refine S_pure trivial (O_ex (us := [.int .i64 y6.1, .int .i64 y6.2]) (u := .int .i64 y6.2) (by kernel_rfl) (by kernel_rfl)) ?_
  refine S_pure trivial (O_mv (d := .u (.int .i64 y6.1)) (by kernel_rfl)) ?_
  refine S_pure trivial (O_mv (d := .u (.int .i64 y6.2)) (by kernel_rfl)) ?_
  refine Rs_nil ?_
  refine N_s ?_
  refine R_seq ?_
  refine R_reg ?_
  refine S_pure trivial (O_mv (d := .u (.int .i64 y1)) (by kernel_rfl)) ?_
  refine S_pure trivial (O_mv (d := .u (.int .i64 y2)) (by kernel_rfl)) ?_
  obtain ⟨y7, hy7, h⟩ := bindS h
  refine S_pure trivial (O_ca (us := [.int .i64 38, .int .i64 y1, .int .i64 y2]) (r := .tup [.int .i64 y7.1, .int .i64 y7.2]) (by kernel_rfl) (eval_Binary.ok hy7)) ?_
  refine S_pure trivial (O_mv (d := .u (.tup [.int .i64 y7.1, .int .i64 y7.2])) (by kernel_rfl)) ?_
  refine S_pure trivial (O_ex (us := [.int .i64 y7.1, .int .i64 y7.2]) (u := .int .i64 y7.1) (by kernel_rfl) (by kernel_rfl)) ?_
  refine S_pure trivial (O_ex (us := [.int .i64 y7.1, .int .i64 y7.2]) (u := .int .i64 y7.2) (by kernel_rfl) (by kernel_rfl)) ?_
  refine S_pure trivial (O_mv (d := .u (.int .i64 y7.1)) (by kernel_rfl)) ?_
  refine S_pure trivial (O_mv (d := .u (.int .i64 y7.2)) (by kernel_rfl)) ?_
  refine Rs_nil ?_
  refine N_s ?_
  refine R_seq ?_
  refine R_reg ?_
  refine S_pure trivial (O_mv (d := .u (.int .i64 y1)) (by kernel_rfl)) ?_
  refine S_pure trivial (O_mv (d := .u (.int .i64 y2)) (by kernel_rfl)) ?_
  obtain ⟨y8, hy8, h⟩ := bindS h
  refine S_pure trivial (O_ca (us := [.int .i64 36, .int .i64 y1, .int .i64 y2]) (r := .tup [.int .i64 y8.1, .int .i64 y8.2]) (by kernel_rfl) (eval_Binary.ok hy8)) ?_
  refine S_pure trivial (O_mv (d := .u (.tup [.int .i64 y8.1, .int .i64 y8.2])) (by kernel_rfl)) ?_
  refine S_pure trivial (O_ex (us := [.int .i64 y8.1, .int .i64 y8.2]) (u := .int .i64 y8.1) (by kernel_rfl) (by kernel_rfl)) ?_
  refine S_pure trivial (O_ex (us := [.int .i64 y8.1, .int .i64 y8.2]) (u := .int .i64 y8.2) (by kernel_rfl) (by kernel_rfl)) ?_
  refine S_pure trivial (O_mv (d := .u (.int .i64 y8.1)) (by kernel_rfl)) ?_
  refine S_pure trivial (O_mv (d := .u (.int .i64 y8.2)) (by kernel_rfl)) ?_
  refine Rs_nil ?_
  refine N_s ?_
  refine R_seq ?_
  refine R_reg ?_
  refine S_pure trivial (O_mv (d := .u (.int .i64 y1)) (by kernel_rfl)) ?_
  refine S_pure trivial (O_mv (d := .u (.int .i64 y2)) (by kernel_rfl)) ?_
  obtain ⟨y9, hy9, h⟩ := bindS h
  refine S_pure trivial (O_ca (us := [.int .i64 41, .int .i64 y1, .int .i64 y2]) (r := .tup [.int .i64 y9.1, .int .i64 y9.2]) (by kernel_rfl) (eval_Binary.ok hy9)) ?_
  refine S_pure trivial (O_mv (d := .u (.tup [.int .i64 y9.1, .int .i64 y9.2])) (by kernel_rfl)) ?_
  refine S_pure trivial (O_ex (us := [.int .i64 y9.1, .int .i64 y9.2]) (u := .int .i64 y9.1) (by kernel_rfl) (by kernel_rfl)) ?_
  refine S_pure trivial (O_ex (us := [.int .i64 y9.1, .int .i64 y9.2]) (u := .int .i64 y9.2) (by kernel_rfl) (by kernel_rfl)) ?_
  refine S_pure trivial (O_mv (d := .u (.int .i64 y9.1)) (by kernel_rfl)) ?_
  refine S_pure trivial (O_mv (d := .u (.int .i64 y9.2)) (by kernel_rfl)) ?_
  refine Rs_nil ?_
  refine N_s ?_
  refine R_seq ?_
  refine R_reg ?_
  refine S_pure trivial (O_mv (d := .u (.int .i64 y1)) (by kernel_rfl)) ?_
  obtain ⟨y10, hy10, h⟩ := bindS h
  refine S_pure trivial (O_ca (us := [.int .i64 19, .int .i64 y1]) (r := .tup [.int .i64 y10.1, .int .i64 y10.2]) (by kernel_rfl) (eval_Unary.ok hy10)) ?_
  refine S_pure trivial (O_mv (d := .u (.tup [.int .i64 y10.1, .int .i64 y10.2])) (by kernel_rfl)) ?_
  refine S_pure trivial (O_ex (us := [.int .i64 y10.1, .int .i64 y10.2]) (u := .int .i64 y10.1) (by kernel_rfl) (by kernel_rfl)) ?_
  refine S_pure trivial (O_ex (us := [.int .i64 y10.1, .int .i64 y10.2]) (u := .int .i64 y10.2) (by kernel_rfl) (by kernel_rfl)) ?_
  refine S_pure trivial (O_mv (d := .u (.int .i64 y10.1)) (by kernel_rfl)) ?_
  refine S_pure trivial (O_mv (d := .u (.int .i64 y10.2)) (by kernel_rfl)) ?_
  refine Rs_nil ?_
  refine N_s ?_
  refine R_seq ?_
  refine R_reg ?_
  refine S_pure trivial (O_mv (d := .u (.int .i64 y2)) (by kernel_rfl)) ?_
  obtain ⟨y11, hy11, h⟩ := bindS h
  refine S_pure trivial (O_ca (us := [.int .i64 19, .int .i64 y2]) (r := .tup [.int .i64 y11.1, .int .i64 y11.2]) (by kernel_rfl) (eval_Unary.ok hy11)) ?_
  refine S_pure trivial (O_mv (d := .u (.tup [.int .i64 y11.1, .int .i64 y11.2])) (by kernel_rfl)) ?_
  refine S_pure trivial (O_ex (us := [.int .i64 y11.1, .int .i64 y11.2]) (u := .int .i64 y11.1) (by kernel_rfl) (by kernel_rfl)) ?_
  refine S_pure trivial (O_ex (us := [.int .i64 y11.1, .int .i64 y11.2]) (u := .int .i64 y11.2) (by kernel_rfl) (by kernel_rfl)) ?_
  refine S_pure trivial (O_mv (d := .u (.int .i64 y11.1)) (by kernel_rfl)) ?_
  refine S_pure trivial (O_mv (d := .u (.int .i64 y11.2)) (by kernel_rfl)) ?_
  refine Rs_nil ?_
  refine N_s ?_
  refine R_seq ?_
  refine R_reg ?_
  refine S_pure trivial (O_mv (d := .u (.int .i64 y10.1)) (by kernel_rfl)) ?_
  refine S_pure trivial (O_mv (d := .u (.int .i64 y11.1)) (by kernel_rfl)) ?_
  obtain ⟨y12, hy12, h⟩ := bindS h
  refine S_pure trivial (O_ca (us := [.int .i64 42, .int .i64 y10.1, .int .i64 y11.1]) (r := .tup [.int .i64 y12.1, .int .i64 y12.2]) (by kernel_rfl) (eval_Binary.ok hy12)) ?_
  refine S_pure trivial (O_mv (d := .u (.tup [.int .i64 y12.1, .int .i64 y12.2])) (by kernel_rfl)) ?_
  refine S_pure trivial (O_ex (us := [.int .i64 y12.1, .int .i64 y12.2]) (u := .int .i64 y12.1) (by kernel_rfl) (by kernel_rfl)) ?_
  refine S_pure trivial (O_ex (us := [.int .i64 y12.1, .int .i64 y12.2]) (u := .int .i64 y12.2) (by kernel_rfl) (by kernel_rfl)) ?_
  refine S_pure trivial (O_mv (d := .u (.int .i64 y12.1)) (by kernel_rfl)) ?_
  refine S_pure trivial (O_mv (d := .u (.int .i64 y12.2)) (by kernel_rfl)) ?_
  refine Rs_nil ?_
  refine N_s ?_
  refine R_seq ?_
  refine R_seq ?_
  refine R_reg ?_
  refine S_pure trivial (O_mv (d := .u (.int .i64 y3.2)) (by kernel_rfl)) ?_
  refine S_pure trivial (O_neq (k := .i64) (a := y3.2) (b := 0) (by kernel_rfl) (by kernel_rfl)) ?_
  refine S_pure trivial (O_mv (d := .u (.bool ((!decide (y3.2 = 0))))) (by kernel_rfl)) ?_
  have K13 : ∀ v14 : Bool, v14 = ((!decide (y3.2 = 0)) || (!decide (y4.2 = 0))) → Rs Try.prog 158 (retQ [4] (.bool r)) [.s q_law11_EvalCompares_3, .s q_law11_EvalCompares_5] [⟨some 93, none, .mv (.t 92)⟩, ⟨some 94, some (93, false), .mv (.t 10)⟩, ⟨some 95, some (93, false), .bi .neq (.t 94) (.c (.int .i64 0))⟩, ⟨some 96, none, .pk (.t 93) (.c (.bool true)) (.t 95)⟩, ⟨some 97, none, .mv (.t 96)⟩, ⟨some 98, some (97, false), .mv (.t 12)⟩, ⟨some 99, some (97, false), .bi .neq (.t 98) (.c (.int .i64 0))⟩, ⟨some 100, none, .pk (.t 97) (.c (.bool true)) (.t 99)⟩, ⟨some 101, none, .mv (.t 100)⟩, ⟨some 102, some (101, false), .mv (.t 14)⟩, ⟨some 103, some (101, false), .bi .neq (.t 102) (.c (.int .i64 0))⟩, ⟨some 104, none, .pk (.t 101) (.c (.bool true)) (.t 103)⟩, ⟨some 105, none, .mv (.t 104)⟩, ⟨some 106, some (105, false), .mv (.t 16)⟩, ⟨some 107, some (105, false), .bi .neq (.t 106) (.c (.int .i64 0))⟩, ⟨some 108, none, .pk (.t 105) (.c (.bool true)) (.t 107)⟩, ⟨some 109, none, .mv (.t 108)⟩, ⟨some 110, some (109, false), .mv (.t 18)⟩, ⟨some 111, some (109, false), .bi .neq (.t 110) (.c (.int .i64 0))⟩, ⟨some 112, none, .pk (.t 109) (.c (.bool true)) (.t 111)⟩, ⟨some 113, none, .mv (.t 112)⟩, ⟨some 114, some (113, false), .mv (.t 20)⟩, ⟨some 115, some (113, false), .bi .neq (.t 114) (.c (.int .i64 0))⟩, ⟨some 116, none, .pk (.t 113) (.c (.bool true)) (.t 115)⟩, ⟨some 117, none, .mv (.t 116)⟩, ⟨some 118, some (117, false), .mv (.t 22)⟩, ⟨some 119, some (117, false), .bi .neq (.t 118) (.c (.int .i64 0))⟩, ⟨some 120, none, .pk (.t 117) (.c (.bool true)) (.t 119)⟩, ⟨some 121, none, .mv (.t 120)⟩, ⟨some 122, some (121, false), .mv (.t 24)⟩, ⟨some 123, some (121, false), .bi .neq (.t 122) (.c (.int .i64 0))⟩, ⟨some 124, none, .pk (.t 121) (.c (.bool true)) (.t 123)⟩] (mkSt [(5, .u (.int .i64 y3.1)), (7, .u (.int .i64 y4.1)), (9, .u (.int .i64 y5.1)), (10, .u (.int .i64 y5.2)), (11, .u (.int .i64 y6.1)), (12, .u (.int .i64 y6.2)), (13, .u (.int .i64 y7.1)), (14, .u (.int .i64 y7.2)), (15, .u (.int .i64 y8.1)), (16, .u (.int .i64 y8.2)), (17, .u (.int .i64 y9.1)), (18, .u (.int .i64 y9.2)), (20, .u (.int .i64 y10.2)), (22, .u (.int .i64 y11.2)), (23, .u (.int .i64 y12.1)), (24, .u (.int .i64 y12.2)), (92, .u (.bool v14))] [] 0) := by
    intro v14 e; subst e
    refine S_pure trivial (O_mv (d := .u (.bool (((!decide (y3.2 = 0)) || (!decide (y4.2 = 0)))))) (by kernel_rfl)) ?_
    have K15 : ∀ v16 : Bool, v16 = (((!decide (y3.2 = 0)) || (!decide (y4.2 = 0))) || (!decide (y5.2 = 0))) → Rs Try.prog 158 (retQ [4] (.bool r)) [.s q_law11_EvalCompares_3, .s q_law11_EvalCompares_5] [⟨some 97, none, .mv (.t 96)⟩, ⟨some 98, some (97, false), .mv (.t 12)⟩, ⟨some 99, some (97, false), .bi .neq (.t 98) (.c (.int .i64 0))⟩, ⟨some 100, none, .pk (.t 97) (.c (.bool true)) (.t 99)⟩, ⟨some 101, none, .mv (.t 100)⟩, ⟨some 102, some (101, false), .mv (.t 14)⟩, ⟨some 103, some (101, false), .bi .neq (.t 102) (.c (.int .i64 0))⟩, ⟨some 104, none, .pk (.t 101) (.c (.bool true)) (.t 103)⟩, ⟨some 105, none, .mv (.t 104)⟩, ⟨some 106, some (105, false), .mv (.t 16)⟩, ⟨some 107, some (105, false), .bi .neq (.t 106) (.c (.int .i64 0))⟩, ⟨some 108, none, .pk (.t 105) (.c (.bool true)) (.t 107)⟩, ⟨some 109, none, .mv (.t 108)⟩, ⟨some 110, some (109, false), .mv (.t 18)⟩, ⟨some 111, some (109, false), .bi .neq (.t 110) (.c (.int .i64 0))⟩, ⟨some 112, none, .pk (.t 109) (.c (.bool true)) (.t 111)⟩, ⟨some 113, none, .mv (.t 112)⟩, ⟨some 114, some (113, false), .mv (.t 20)⟩, ⟨some 115, some (113, false), .bi .neq (.t 114) (.c (.int .i64 0))⟩, ⟨some 116, none, .pk (.t 113) (.c (.bool true)) (.t 115)⟩, ⟨some 117, none, .mv (.t 116)⟩, ⟨some 118, some (117, false), .mv (.t 22)⟩, ⟨some 119, some (117, false), .bi .neq (.t 118) (.c (.int .i64 0))⟩, ⟨some 120, none, .pk (.t 117) (.c (.bool true)) (.t 119)⟩, ⟨some 121, none, .mv (.t 120)⟩, ⟨some 122, some (121, false), .mv (.t 24)⟩, ⟨some 123, some (121, false), .bi .neq (.t 122) (.c (.int .i64 0))⟩, ⟨some 124, none, .pk (.t 121) (.c (.bool true)) (.t 123)⟩] (mkSt [(5, .u (.int .i64 y3.1)), (7, .u (.int .i64 y4.1)), (9, .u (.int .i64 y5.1)), (11, .u (.int .i64 y6.1)), (12, .u (.int .i64 y6.2)), (13, .u (.int .i64 y7.1)), (14, .u (.int .i64 y7.2)), (15, .u (.int .i64 y8.1)), (16, .u (.int .i64 y8.2)), (17, .u (.int .i64 y9.1)), (18, .u (.int .i64 y9.2)), (20, .u (.int .i64 y10.2)), (22, .u (.int .i64 y11.2)), (23, .u (.int .i64 y12.1)), (24, .u (.int .i64 y12.2)), (96, .u (.bool v16))] [] 0) := by
      intro v16 e; subst e
      refine S_pure trivial (O_mv (d := .u (.bool ((((!decide (y3.2 = 0)) || (!decide (y4.2 = 0))) || (!decide (y5.2 = 0)))))) (by kernel_rfl)) ?_
      have K17 : ∀ v18 : Bool, v18 = ((((!decide (y3.2 = 0)) || (!decide (y4.2 = 0))) || (!decide (y5.2 = 0))) || (!decide (y6.2 = 0))) → Rs Try.prog 158 (retQ [4] (.bool r)) [.s q_law11_EvalCompares_3, .s q_law11_EvalCompares_5] [⟨some 101, none, .mv (.t 100)⟩, ⟨some 102, some (101, false), .mv (.t 14)⟩, ⟨some 103, some (101, false), .bi .neq (.t 102) (.c (.int .i64 0))⟩, ⟨some 104, none, .pk (.t 101) (.c (.bool true)) (.t 103)⟩, ⟨some 105, none, .mv (.t 104)⟩, ⟨some 106, some (105, false), .mv (.t 16)⟩, ⟨some 107, some (105, false), .bi .neq (.t 106) (.c (.int .i64 0))⟩, ⟨some 108, none, .pk (.t 105) (.c (.bool true)) (.t 107)⟩, ⟨some 109, none, .mv (.t 108)⟩, ⟨some 110, some (109, false), .mv (.t 18)⟩, ⟨some 111, some (109, false), .bi .neq (.t 110) (.c (.int .i64 0))⟩, ⟨some 112, none, .pk (.t 109) (.c (.bool true)) (.t 111)⟩, ⟨some 113, none, .mv (.t 112)⟩, ⟨some 114, some (113, false), .mv (.t 20)⟩, ⟨some 115, some (113, false), .bi .neq (.t 114) (.c (.int .i64 0))⟩, ⟨some 116, none, .pk (.t 113) (.c (.bool true)) (.t 115)⟩, ⟨some 117, none, .mv (.t 116)⟩, ⟨some 118, some (117, false), .mv (.t 22)⟩, ⟨some 119, some (117, false), .bi .neq (.t 118) (.c (.int .i64 0))⟩, ⟨some 120, none, .pk (.t 117) (.c (.bool true)) (.t 119)⟩, ⟨some 121, none, .mv (.t 120)⟩, ⟨some 122, some (121, false), .mv (.t 24)⟩, ⟨some 123, some (121, false), .bi .neq (.t 122) (.c (.int .i64 0))⟩, ⟨some 124, none, .pk (.t 121) (.c (.bool true)) (.t 123)⟩] (mkSt [(5, .u (.int .i64 y3.1)), (7, .u (.int .i64 y4.1)), (9, .u (.int .i64 y5.1)), (11, .u (.int .i64 y6.1)), (13, .u (.int .i64 y7.1)), (14, .u (.int .i64 y7.2)), (15, .u (.int .i64 y8.1)), (16, .u (.int .i64 y8.2)), (17, .u (.int .i64 y9.1)), (18, .u (.int .i64 y9.2)), (20, .u (.int .i64 y10.2)), (22, .u (.int .i64 y11.2)), (23, .u (.int .i64 y12.1)), (24, .u (.int .i64 y12.2)), (100, .u (.bool v18))] [] 0) := by
        intro v18 e; subst e
        refine S_pure trivial (O_mv (d := .u (.bool (((((!decide (y3.2 = 0)) || (!decide (y4.2 = 0))) || (!decide (y5.2 = 0))) || (!decide (y6.2 = 0)))))) (by kernel_rfl)) ?_
        have K19 : ∀ v20 : Bool, v20 = (((((!decide (y3.2 = 0)) || (!decide (y4.2 = 0))) || (!decide (y5.2 = 0))) || (!decide (y6.2 = 0))) || (!decide (y7.2 = 0))) → Rs Try.prog 158 (retQ [4] (.bool r)) [.s q_law11_EvalCompares_3, .s q_law11_EvalCompares_5] [⟨some 105, none, .mv (.t 104)⟩, ⟨some 106, some (105, false), .mv (.t 16)⟩, ⟨some 107, some (105, false), .bi .neq (.t 106) (.c (.int .i64 0))⟩, ⟨some 108, none, .pk (.t 105) (.c (.bool true)) (.t 107)⟩, ⟨some 109, none, .mv (.t 108)⟩, ⟨some 110, some (109, false), .mv (.t 18)⟩, ⟨some 111, some (109, false), .bi .neq (.t 110) (.c (.int .i64 0))⟩, ⟨some 112, none, .pk (.t 109) (.c (.bool true)) (.t 111)⟩, ⟨some 113, none, .mv (.t 112)⟩, ⟨some 114, some (113, false), .mv (.t 20)⟩, ⟨some 115, some (113, false), .bi .neq (.t 114) (.c (.int .i64 0))⟩, ⟨some 116, none, .pk (.t 113) (.c (.bool true)) (.t 115)⟩, ⟨some 117, none, .mv (.t 116)⟩, ⟨some 118, some (117, false), .mv (.t 22)⟩, ⟨some 119, some (117, false), .bi .neq (.t 118) (.c (.int .i64 0))⟩, ⟨some 120, none, .pk (.t 117) (.c (.bool true)) (.t 119)⟩, ⟨some 121, none, .mv (.t 120)⟩, ⟨some 122, some (121, false), .mv (.t 24)⟩, ⟨some 123, some (121, false), .bi .neq (.t 122) (.c (.int .i64 0))⟩, ⟨some 124, none, .pk (.t 121) (.c (.bool true)) (.t 123)⟩] (mkSt [(5, .u (.int .i64 y3.1)), (7, .u (.int .i64 y4.1)), (9, .u (.int .i64 y5.1)), (11, .u (.int .i64 y6.1)), (13, .u (.int .i64 y7.1)), (15, .u (.int .i64 y8.1)), (16, .u (.int .i64 y8.2)), (17, .u (.int .i64 y9.1)), (18, .u (.int .i64 y9.2)), (20, .u (.int .i64 y10.2)), (22, .u (.int .i64 y11.2)), (23, .u (.int .i64 y12.1)), (24, .u (.int .i64 y12.2)), (104, .u (.bool v20))] [] 0) := by
          intro v20 e; subst e
          refine S_pure trivial (O_mv (d := .u (.bool ((((((!decide (y3.2 = 0)) || (!decide (y4.2 = 0))) || (!decide (y5.2 = 0))) || (!decide (y6.2 = 0))) || (!decide (y7.2 = 0)))))) (by kernel_rfl)) ?_
          have K21 : ∀ v22 : Bool, v22 = ((((((!decide (y3.2 = 0)) || (!decide (y4.2 = 0))) || (!decide (y5.2 = 0))) || (!decide (y6.2 = 0))) || (!decide (y7.2 = 0))) || (!decide (y8.2 = 0))) → Rs Try.prog 158 (retQ [4] (.bool r)) [.s q_law11_EvalCompares_3, .s q_law11_EvalCompares_5] [⟨some 109, none, .mv (.t 108)⟩, ⟨some 110, some (109, false), .mv (.t 18)⟩, ⟨some 111, some (109, false), .bi .neq (.t 110) (.c (.int .i64 0))⟩, ⟨some 112, none, .pk (.t 109) (.c (.bool true)) (.t 111)⟩, ⟨some 113, none, .mv (.t 112)⟩, ⟨some 114, some (113, false), .mv (.t 20)⟩, ⟨some 115, some (113, false), .bi .neq (.t 114) (.c (.int .i64 0))⟩, ⟨some 116, none, .pk (.t 113) (.c (.bool true)) (.t 115)⟩, ⟨some 117, none, .mv (.t 116)⟩, ⟨some 118, some (117, false), .mv (.t 22)⟩, ⟨some 119, some (117, false), .bi .neq (.t 118) (.c (.int .i64 0))⟩, ⟨some 120, none, .pk (.t 117) (.c (.bool true)) (.t 119)⟩, ⟨some 121, none, .mv (.t 120)⟩, ⟨some 122, some (121, false), .mv (.t 24)⟩, ⟨some 123, some (121, false), .bi .neq (.t 122) (.c (.int .i64 0))⟩, ⟨some 124, none, .pk (.t 121) (.c (.bool true)) (.t 123)⟩] (mkSt [(5, .u (.int .i64 y3.1)), (7, .u (.int .i64 y4.1)), (9, .u (.int .i64 y5.1)), (11, .u (.int .i64 y6.1)), (13, .u (.int .i64 y7.1)), (15, .u (.int .i64 y8.1)), (17, .u (.int .i64 y9.1)), (18, .u (.int .i64 y9.2)), (20, .u (.int .i64 y10.2)), (22, .u (.int .i64 y11.2)), (23, .u (.int .i64 y12.1)), (24, .u (.int .i64 y12.2)), (108, .u (.bool v22))] [] 0) := by
            intro v22 e; subst e
            refine S_pure trivial (O_mv (d := .u (.bool (((((((!decide (y3.2 = 0)) || (!decide (y4.2 = 0))) || (!decide (y5.2 = 0))) || (!decide (y6.2 = 0))) || (!decide (y7.2 = 0))) || (!decide (y8.2 = 0)))))) (by kernel_rfl)) ?_
            have K23 : ∀ v24 : Bool, v24 = (((((((!decide (y3.2 = 0)) || (!decide (y4.2 = 0))) || (!decide (y5.2 = 0))) || (!decide (y6.2 = 0))) || (!decide (y7.2 = 0))) || (!decide (y8.2 = 0))) || (!decide (y9.2 = 0))) → Rs Try.prog 158 (retQ [4] (.bool r)) [.s q_law11_EvalCompares_3, .s q_law11_EvalCompares_5] [⟨some 113, none, .mv (.t 112)⟩, ⟨some 114, some (113, false), .mv (.t 20)⟩, ⟨some 115, some (113, false), .bi .neq (.t 114) (.c (.int .i64 0))⟩, ⟨some 116, none, .pk (.t 113) (.c (.bool true)) (.t 115)⟩, ⟨some 117, none, .mv (.t 116)⟩, ⟨some 118, some (117, false), .mv (.t 22)⟩, ⟨some 119, some (117, false), .bi .neq (.t 118) (.c (.int .i64 0))⟩, ⟨some 120, none, .pk (.t 117) (.c (.bool true)) (.t 119)⟩, ⟨some 121, none, .mv (.t 120)⟩, ⟨some 122, some (121, false), .mv (.t 24)⟩, ⟨some 123, some (121, false), .bi .neq (.t 122) (.c (.int .i64 0))⟩, ⟨some 124, none, .pk (.t 121) (.c (.bool true)) (.t 123)⟩] (mkSt [(5, .u (.int .i64 y3.1)), (7, .u (.int .i64 y4.1)), (9, .u (.int .i64 y5.1)), (11, .u (.int .i64 y6.1)), (13, .u (.int .i64 y7.1)), (15, .u (.int .i64 y8.1)), (17, .u (.int .i64 y9.1)), (20, .u (.int .i64 y10.2)), (22, .u (.int .i64 y11.2)), (23, .u (.int .i64 y12.1)), (24, .u (.int .i64 y12.2)), (112, .u (.bool v24))] [] 0) := by
              intro v24 e; subst e
              refine S_pure trivial (O_mv (d := .u (.bool ((((((((!decide (y3.2 = 0)) || (!decide (y4.2 = 0))) || (!decide (y5.2 = 0))) || (!decide (y6.2 = 0))) || (!decide (y7.2 = 0))) || (!decide (y8.2 = 0))) || (!decide (y9.2 = 0)))))) (by kernel_rfl)) ?_
              have K25 : ∀ v26 : Bool, v26 = ((((((((!decide (y3.2 = 0)) || (!decide (y4.2 = 0))) || (!decide (y5.2 = 0))) || (!decide (y6.2 = 0))) || (!decide (y7.2 = 0))) || (!decide (y8.2 = 0))) || (!decide (y9.2 = 0))) || (!decide (y10.2 = 0))) → Rs Try.prog 158 (retQ [4] (.bool r)) [.s q_law11_EvalCompares_3, .s q_law11_EvalCompares_5] [⟨some 117, none, .mv (.t 116)⟩, ⟨some 118, some (117, false), .mv (.t 22)⟩, ⟨some 119, some (117, false), .bi .neq (.t 118) (.c (.int .i64 0))⟩, ⟨some 120, none, .pk (.t 117) (.c (.bool true)) (.t 119)⟩, ⟨some 121, none, .mv (.t 120)⟩, ⟨some 122, some (121, false), .mv (.t 24)⟩, ⟨some 123, some (121, false), .bi .neq (.t 122) (.c (.int .i64 0))⟩, ⟨some 124, none, .pk (.t 121) (.c (.bool true)) (.t 123)⟩] (mkSt [(5, .u (.int .i64 y3.1)), (7, .u (.int .i64 y4.1)), (9, .u (.int .i64 y5.1)), (11, .u (.int .i64 y6.1)), (13, .u (.int .i64 y7.1)), (15, .u (.int .i64 y8.1)), (17, .u (.int .i64 y9.1)), (22, .u (.int .i64 y11.2)), (23, .u (.int .i64 y12.1)), (24, .u (.int .i64 y12.2)), (116, .u (.bool v26))] [] 0) := by
                intro v26 e; subst e
                refine S_pure trivial (O_mv (d := .u (.bool (((((((((!decide (y3.2 = 0)) || (!decide (y4.2 = 0))) || (!decide (y5.2 = 0))) || (!decide (y6.2 = 0))) || (!decide (y7.2 = 0))) || (!decide (y8.2 = 0))) || (!decide (y9.2 = 0))) || (!decide (y10.2 = 0)))))) (by kernel_rfl)) ?_
                have K27 : ∀ v28 : Bool, v28 = (((((((((!decide (y3.2 = 0)) || (!decide (y4.2 = 0))) || (!decide (y5.2 = 0))) || (!decide (y6.2 = 0))) || (!decide (y7.2 = 0))) || (!decide (y8.2 = 0))) || (!decide (y9.2 = 0))) || (!decide (y10.2 = 0))) || (!decide (y11.2 = 0))) → Rs Try.prog 158 (retQ [4] (.bool r)) [.s q_law11_EvalCompares_3, .s q_law11_EvalCompares_5] [⟨some 121, none, .mv (.t 120)⟩, ⟨some 122, some (121, false), .mv (.t 24)⟩, ⟨some 123, some (121, false), .bi .neq (.t 122) (.c (.int .i64 0))⟩, ⟨some 124, none, .pk (.t 121) (.c (.bool true)) (.t 123)⟩] (mkSt [(5, .u (.int .i64 y3.1)), (7, .u (.int .i64 y4.1)), (9, .u (.int .i64 y5.1)), (11, .u (.int .i64 y6.1)), (13, .u (.int .i64 y7.1)), (15, .u (.int .i64 y8.1)), (17, .u (.int .i64 y9.1)), (23, .u (.int .i64 y12.1)), (24, .u (.int .i64 y12.2)), (120, .u (.bool v28))] [] 0) := by
                  intro v28 e; subst e
                  refine S_pure trivial (O_mv (d := .u (.bool ((((((((((!decide (y3.2 = 0)) || (!decide (y4.2 = 0))) || (!decide (y5.2 = 0))) || (!decide (y6.2 = 0))) || (!decide (y7.2 = 0))) || (!decide (y8.2 = 0))) || (!decide (y9.2 = 0))) || (!decide (y10.2 = 0))) || (!decide (y11.2 = 0)))))) (by kernel_rfl)) ?_
                  have K29 : ∀ v30 : Bool, v30 = ((((((((((!decide (y3.2 = 0)) || (!decide (y4.2 = 0))) || (!decide (y5.2 = 0))) || (!decide (y6.2 = 0))) || (!decide (y7.2 = 0))) || (!decide (y8.2 = 0))) || (!decide (y9.2 = 0))) || (!decide (y10.2 = 0))) || (!decide (y11.2 = 0))) || (!decide (y12.2 = 0))) → Rs Try.prog 158 (retQ [4] (.bool r)) [.s q_law11_EvalCompares_3, .s q_law11_EvalCompares_5] [] (mkSt [(5, .u (.int .i64 y3.1)), (7, .u (.int .i64 y4.1)), (9, .u (.int .i64 y5.1)), (11, .u (.int .i64 y6.1)), (13, .u (.int .i64 y7.1)), (15, .u (.int .i64 y8.1)), (17, .u (.int .i64 y9.1)), (23, .u (.int .i64 y12.1)), (124, .u (.bool v30))] [] 0) := by
                    intro v30 e; subst e
                    refine Rs_nil ?_
                    refine N_s ?_
                    refine R_cond (c := ((((((((((!decide (y3.2 = 0)) || (!decide (y4.2 = 0))) || (!decide (y5.2 = 0))) || (!decide (y6.2 = 0))) || (!decide (y7.2 = 0))) || (!decide (y8.2 = 0))) || (!decide (y9.2 = 0))) || (!decide (y10.2 = 0))) || (!decide (y11.2 = 0))) || (!decide (y12.2 = 0)))) (by kernel_rfl) h (fun h => ?_) (fun h => ?_)
                    · refine R_seq ?_
                      refine R_reg ?_
                      refine S_pure trivial (O_mv (d := .u (.bool false)) (by kernel_rfl)) ?_
                      refine Rs_nil ?_
                      refine N_s ?_
                      obtain rfl := (Option.some.inj h)
                      refine R_ret ?_
                      exact Q_ret (x := .bool false) (by kernel_rfl) (.refl _)
                    · refine R_skip ?_
                      refine N_s ?_
                      refine R_seq ?_
                      refine R_reg ?_
                      obtain ⟨y31, hy31, h⟩ := bindS h
                      refine S_pure trivial (O_ca (us := []) (r := .bool y31) (by kernel_rfl) (law11_awake.ok hy31)) ?_
                      refine S_pure trivial (O_mv (d := .u (.bool y31)) (by kernel_rfl)) ?_
                      have K32 : ∀ v33 : Bool, v33 = (y31 && (decide ((IntKind.i64.wrap ((IntKind.i64.wrap (y3.1 + y4.1)) + y5.1)) = 1))) → Rs Try.prog 158 (retQ [4] (.bool r)) [.s .ret] [⟨some 134, none, .mv (.t 133)⟩, ⟨some 135, some (134, true), .mv (.t 5)⟩, ⟨some 136, some (134, true), .mv (.t 11)⟩, ⟨some 137, some (134, true), .bi .add (.t 135) (.t 136)⟩, ⟨some 138, some (134, true), .bi .eql (.t 137) (.c (.int .i64 1))⟩, ⟨some 139, none, .pk (.t 134) (.t 138) (.c (.bool false))⟩, ⟨some 140, none, .mv (.t 139)⟩, ⟨some 141, some (140, true), .mv (.t 9)⟩, ⟨some 142, some (140, true), .mv (.t 13)⟩, ⟨some 143, some (140, true), .bi .add (.t 141) (.t 142)⟩, ⟨some 144, some (140, true), .bi .eql (.t 143) (.c (.int .i64 1))⟩, ⟨some 145, none, .pk (.t 140) (.t 144) (.c (.bool false))⟩, ⟨some 146, none, .mv (.t 145)⟩, ⟨some 147, some (146, true), .mv (.t 7)⟩, ⟨some 148, some (146, true), .mv (.t 15)⟩, ⟨some 149, some (146, true), .bi .add (.t 147) (.t 148)⟩, ⟨some 150, some (146, true), .bi .eql (.t 149) (.c (.int .i64 1))⟩, ⟨some 151, none, .pk (.t 146) (.t 150) (.c (.bool false))⟩, ⟨some 152, none, .mv (.t 151)⟩, ⟨some 153, some (152, true), .mv (.t 17)⟩, ⟨some 154, some (152, true), .mv (.t 23)⟩, ⟨some 155, some (152, true), .bi .add (.t 153) (.t 154)⟩, ⟨some 156, some (152, true), .bi .eql (.t 155) (.c (.int .i64 1))⟩, ⟨some 157, none, .pk (.t 152) (.t 156) (.c (.bool false))⟩, ⟨some 4, none, .mv (.t 157)⟩] (mkSt [(5, .u (.int .i64 y3.1)), (7, .u (.int .i64 y4.1)), (9, .u (.int .i64 y5.1)), (11, .u (.int .i64 y6.1)), (13, .u (.int .i64 y7.1)), (15, .u (.int .i64 y8.1)), (17, .u (.int .i64 y9.1)), (23, .u (.int .i64 y12.1)), (133, .u (.bool v33))] [] 0) := by
                        intro v33 e; subst e
                        refine S_pure trivial (O_mv (d := .u (.bool ((y31 && (decide ((IntKind.i64.wrap ((IntKind.i64.wrap (y3.1 + y4.1)) + y5.1)) = 1)))))) (by kernel_rfl)) ?_
                        have K34 : ∀ v35 : Bool, v35 = ((y31 && (decide ((IntKind.i64.wrap ((IntKind.i64.wrap (y3.1 + y4.1)) + y5.1)) = 1))) && (decide ((IntKind.i64.wrap (y3.1 + y6.1)) = 1))) → Rs Try.prog 158 (retQ [4] (.bool r)) [.s .ret] [⟨some 140, none, .mv (.t 139)⟩, ⟨some 141, some (140, true), .mv (.t 9)⟩, ⟨some 142, some (140, true), .mv (.t 13)⟩, ⟨some 143, some (140, true), .bi .add (.t 141) (.t 142)⟩, ⟨some 144, some (140, true), .bi .eql (.t 143) (.c (.int .i64 1))⟩, ⟨some 145, none, .pk (.t 140) (.t 144) (.c (.bool false))⟩, ⟨some 146, none, .mv (.t 145)⟩, ⟨some 147, some (146, true), .mv (.t 7)⟩, ⟨some 148, some (146, true), .mv (.t 15)⟩, ⟨some 149, some (146, true), .bi .add (.t 147) (.t 148)⟩, ⟨some 150, some (146, true), .bi .eql (.t 149) (.c (.int .i64 1))⟩, ⟨some 151, none, .pk (.t 146) (.t 150) (.c (.bool false))⟩, ⟨some 152, none, .mv (.t 151)⟩, ⟨some 153, some (152, true), .mv (.t 17)⟩, ⟨some 154, some (152, true), .mv (.t 23)⟩, ⟨some 155, some (152, true), .bi .add (.t 153) (.t 154)⟩, ⟨some 156, some (152, true), .bi .eql (.t 155) (.c (.int .i64 1))⟩, ⟨some 157, none, .pk (.t 152) (.t 156) (.c (.bool false))⟩, ⟨some 4, none, .mv (.t 157)⟩] (mkSt [(7, .u (.int .i64 y4.1)), (9, .u (.int .i64 y5.1)), (13, .u (.int .i64 y7.1)), (15, .u (.int .i64 y8.1)), (17, .u (.int .i64 y9.1)), (23, .u (.int .i64 y12.1)), (139, .u (.bool v35))] [] 0) := by
                          intro v35 e; subst e
                          refine S_pure trivial (O_mv (d := .u (.bool (((y31 && (decide ((IntKind.i64.wrap ((IntKind.i64.wrap (y3.1 + y4.1)) + y5.1)) = 1))) && (decide ((IntKind.i64.wrap (y3.1 + y6.1)) = 1)))))) (by kernel_rfl)) ?_
                          have K36 : ∀ v37 : Bool, v37 = (((y31 && (decide ((IntKind.i64.wrap ((IntKind.i64.wrap (y3.1 + y4.1)) + y5.1)) = 1))) && (decide ((IntKind.i64.wrap (y3.1 + y6.1)) = 1))) && (decide ((IntKind.i64.wrap (y5.1 + y7.1)) = 1))) → Rs Try.prog 158 (retQ [4] (.bool r)) [.s .ret] [⟨some 146, none, .mv (.t 145)⟩, ⟨some 147, some (146, true), .mv (.t 7)⟩, ⟨some 148, some (146, true), .mv (.t 15)⟩, ⟨some 149, some (146, true), .bi .add (.t 147) (.t 148)⟩, ⟨some 150, some (146, true), .bi .eql (.t 149) (.c (.int .i64 1))⟩, ⟨some 151, none, .pk (.t 146) (.t 150) (.c (.bool false))⟩, ⟨some 152, none, .mv (.t 151)⟩, ⟨some 153, some (152, true), .mv (.t 17)⟩, ⟨some 154, some (152, true), .mv (.t 23)⟩, ⟨some 155, some (152, true), .bi .add (.t 153) (.t 154)⟩, ⟨some 156, some (152, true), .bi .eql (.t 155) (.c (.int .i64 1))⟩, ⟨some 157, none, .pk (.t 152) (.t 156) (.c (.bool false))⟩, ⟨some 4, none, .mv (.t 157)⟩] (mkSt [(7, .u (.int .i64 y4.1)), (15, .u (.int .i64 y8.1)), (17, .u (.int .i64 y9.1)), (23, .u (.int .i64 y12.1)), (145, .u (.bool v37))] [] 0) := by
                            intro v37 e; subst e
                            refine S_pure trivial (O_mv (d := .u (.bool ((((y31 && (decide ((IntKind.i64.wrap ((IntKind.i64.wrap (y3.1 + y4.1)) + y5.1)) = 1))) && (decide ((IntKind.i64.wrap (y3.1 + y6.1)) = 1))) && (decide ((IntKind.i64.wrap (y5.1 + y7.1)) = 1)))))) (by kernel_rfl)) ?_
                            have K38 : ∀ v39 : Bool, v39 = ((((y31 && (decide ((IntKind.i64.wrap ((IntKind.i64.wrap (y3.1 + y4.1)) + y5.1)) = 1))) && (decide ((IntKind.i64.wrap (y3.1 + y6.1)) = 1))) && (decide ((IntKind.i64.wrap (y5.1 + y7.1)) = 1))) && (decide ((IntKind.i64.wrap (y4.1 + y8.1)) = 1))) → Rs Try.prog 158 (retQ [4] (.bool r)) [.s .ret] [⟨some 152, none, .mv (.t 151)⟩, ⟨some 153, some (152, true), .mv (.t 17)⟩, ⟨some 154, some (152, true), .mv (.t 23)⟩, ⟨some 155, some (152, true), .bi .add (.t 153) (.t 154)⟩, ⟨some 156, some (152, true), .bi .eql (.t 155) (.c (.int .i64 1))⟩, ⟨some 157, none, .pk (.t 152) (.t 156) (.c (.bool false))⟩, ⟨some 4, none, .mv (.t 157)⟩] (mkSt [(17, .u (.int .i64 y9.1)), (23, .u (.int .i64 y12.1)), (151, .u (.bool v39))] [] 0) := by
                              intro v39 e; subst e
                              refine S_pure trivial (O_mv (d := .u (.bool (((((y31 && (decide ((IntKind.i64.wrap ((IntKind.i64.wrap (y3.1 + y4.1)) + y5.1)) = 1))) && (decide ((IntKind.i64.wrap (y3.1 + y6.1)) = 1))) && (decide ((IntKind.i64.wrap (y5.1 + y7.1)) = 1))) && (decide ((IntKind.i64.wrap (y4.1 + y8.1)) = 1)))))) (by kernel_rfl)) ?_
                              have K40 : ∀ v41 : Bool, v41 = (((((y31 && (decide ((IntKind.i64.wrap ((IntKind.i64.wrap (y3.1 + y4.1)) + y5.1)) = 1))) && (decide ((IntKind.i64.wrap (y3.1 + y6.1)) = 1))) && (decide ((IntKind.i64.wrap (y5.1 + y7.1)) = 1))) && (decide ((IntKind.i64.wrap (y4.1 + y8.1)) = 1))) && (decide ((IntKind.i64.wrap (y9.1 + y12.1)) = 1))) → Rs Try.prog 158 (retQ [4] (.bool r)) [.s .ret] [⟨some 4, none, .mv (.t 157)⟩] (mkSt [(157, .u (.bool v41))] [] 0) := by
                                intro v41 e; subst e
                                refine S_pure trivial (O_mv (d := .u (.bool ((((((y31 && (decide ((IntKind.i64.wrap ((IntKind.i64.wrap (y3.1 + y4.1)) + y5.1)) = 1))) && (decide ((IntKind.i64.wrap (y3.1 + y6.1)) = 1))) && (decide ((IntKind.i64.wrap (y5.1 + y7.1)) = 1))) && (decide ((IntKind.i64.wrap (y4.1 + y8.1)) = 1))) && (decide ((IntKind.i64.wrap (y9.1 + y12.1)) = 1)))))) (by kernel_rfl)) ?_
                                refine Rs_nil ?_
                                refine N_s ?_
                                obtain rfl := (Option.some.inj h)
                                refine R_ret ?_
                                exact Q_ret (x := .bool ((((((y31 && (decide ((IntKind.i64.wrap ((IntKind.i64.wrap (y3.1 + y4.1)) + y5.1)) = 1))) && (decide ((IntKind.i64.wrap (y3.1 + y6.1)) = 1))) && (decide ((IntKind.i64.wrap (y5.1 + y7.1)) = 1))) && (decide ((IntKind.i64.wrap (y4.1 + y8.1)) = 1))) && (decide ((IntKind.i64.wrap (y9.1 + y12.1)) = 1))))) (by kernel_rfl) (.refl _)
                              refine S_case0 (t := 152) (c := ((((y31 && (decide ((IntKind.i64.wrap ((IntKind.i64.wrap (y3.1 + y4.1)) + y5.1)) = 1))) && (decide ((IntKind.i64.wrap (y3.1 + y6.1)) = 1))) && (decide ((IntKind.i64.wrap (y5.1 + y7.1)) = 1))) && (decide ((IntKind.i64.wrap (y4.1 + y8.1)) = 1)))) (by kernel_rfl) (fun hc => ?_) (fun hc => ?_)
                              · refine S_pure (by show _ = _; kernel_rfl) (O_mv (d := .u (.int .i64 y9.1)) (by kernel_rfl)) ?_
                                refine S_pure (by show _ = _; kernel_rfl) (O_mv (d := .u (.int .i64 y12.1)) (by kernel_rfl)) ?_
                                refine S_pure (by show _ = _; kernel_rfl) (O_add (k := .i64) (a := y9.1) (b := y12.1) (by kernel_rfl) (by kernel_rfl)) ?_
                                refine S_pure (by show _ = _; kernel_rfl) (O_eql (k := .i64) (a := (IntKind.i64.wrap (y9.1 + y12.1))) (b := 1) (by kernel_rfl) (by kernel_rfl)) ?_
                                refine S_pure trivial (O_pkt (d := .u (.bool ((decide ((IntKind.i64.wrap (y9.1 + y12.1)) = 1))))) (by kernel_rfl) (by kernel_rfl)) ?_
                                exact Rs_weak (W_to (by kernel_rfl) (by kernel_rfl) (by kernel_rfl)) (K40 _ (by rw [hc] <;> rfl))
                              · refine S_skip (b := false) (by kernel_rfl) rfl ?_
                                refine S_skip (b := false) (by kernel_rfl) rfl ?_
                                refine S_skip (b := false) (by kernel_rfl) rfl ?_
                                refine S_skip (b := false) (by kernel_rfl) rfl ?_
                                refine S_pure trivial (O_pkf (d := .u (.bool false)) (by kernel_rfl) (by kernel_rfl)) ?_
                                exact Rs_weak (W_to (by kernel_rfl) (by kernel_rfl) (by kernel_rfl)) (K40 _ (by rw [hc] <;> rfl))
                            refine S_case0 (t := 146) (c := (((y31 && (decide ((IntKind.i64.wrap ((IntKind.i64.wrap (y3.1 + y4.1)) + y5.1)) = 1))) && (decide ((IntKind.i64.wrap (y3.1 + y6.1)) = 1))) && (decide ((IntKind.i64.wrap (y5.1 + y7.1)) = 1)))) (by kernel_rfl) (fun hc => ?_) (fun hc => ?_)
                            · refine S_pure (by show _ = _; kernel_rfl) (O_mv (d := .u (.int .i64 y4.1)) (by kernel_rfl)) ?_
                              refine S_pure (by show _ = _; kernel_rfl) (O_mv (d := .u (.int .i64 y8.1)) (by kernel_rfl)) ?_
                              refine S_pure (by show _ = _; kernel_rfl) (O_add (k := .i64) (a := y4.1) (b := y8.1) (by kernel_rfl) (by kernel_rfl)) ?_
                              refine S_pure (by show _ = _; kernel_rfl) (O_eql (k := .i64) (a := (IntKind.i64.wrap (y4.1 + y8.1))) (b := 1) (by kernel_rfl) (by kernel_rfl)) ?_
                              refine S_pure trivial (O_pkt (d := .u (.bool ((decide ((IntKind.i64.wrap (y4.1 + y8.1)) = 1))))) (by kernel_rfl) (by kernel_rfl)) ?_
                              exact Rs_weak (W_to (by kernel_rfl) (by kernel_rfl) (by kernel_rfl)) (K38 _ (by rw [hc] <;> rfl))
                            · refine S_skip (b := false) (by kernel_rfl) rfl ?_
                              refine S_skip (b := false) (by kernel_rfl) rfl ?_
                              refine S_skip (b := false) (by kernel_rfl) rfl ?_
                              refine S_skip (b := false) (by kernel_rfl) rfl ?_
                              refine S_pure trivial (O_pkf (d := .u (.bool false)) (by kernel_rfl) (by kernel_rfl)) ?_
                              exact Rs_weak (W_to (by kernel_rfl) (by kernel_rfl) (by kernel_rfl)) (K38 _ (by rw [hc] <;> rfl))
                          refine S_case0 (t := 140) (c := ((y31 && (decide ((IntKind.i64.wrap ((IntKind.i64.wrap (y3.1 + y4.1)) + y5.1)) = 1))) && (decide ((IntKind.i64.wrap (y3.1 + y6.1)) = 1)))) (by kernel_rfl) (fun hc => ?_) (fun hc => ?_)
                          · refine S_pure (by show _ = _; kernel_rfl) (O_mv (d := .u (.int .i64 y5.1)) (by kernel_rfl)) ?_
                            refine S_pure (by show _ = _; kernel_rfl) (O_mv (d := .u (.int .i64 y7.1)) (by kernel_rfl)) ?_
                            refine S_pure (by show _ = _; kernel_rfl) (O_add (k := .i64) (a := y5.1) (b := y7.1) (by kernel_rfl) (by kernel_rfl)) ?_
                            refine S_pure (by show _ = _; kernel_rfl) (O_eql (k := .i64) (a := (IntKind.i64.wrap (y5.1 + y7.1))) (b := 1) (by kernel_rfl) (by kernel_rfl)) ?_
                            refine S_pure trivial (O_pkt (d := .u (.bool ((decide ((IntKind.i64.wrap (y5.1 + y7.1)) = 1))))) (by kernel_rfl) (by kernel_rfl)) ?_
                            exact Rs_weak (W_to (by kernel_rfl) (by kernel_rfl) (by kernel_rfl)) (K36 _ (by rw [hc] <;> rfl))
                          · refine S_skip (b := false) (by kernel_rfl) rfl ?_
                            refine S_skip (b := false) (by kernel_rfl) rfl ?_
                            refine S_skip (b := false) (by kernel_rfl) rfl ?_
                            refine S_skip (b := false) (by kernel_rfl) rfl ?_
                            refine S_pure trivial (O_pkf (d := .u (.bool false)) (by kernel_rfl) (by kernel_rfl)) ?_
                            exact Rs_weak (W_to (by kernel_rfl) (by kernel_rfl) (by kernel_rfl)) (K36 _ (by rw [hc] <;> rfl))
                        refine S_case0 (t := 134) (c := (y31 && (decide ((IntKind.i64.wrap ((IntKind.i64.wrap (y3.1 + y4.1)) + y5.1)) = 1)))) (by kernel_rfl) (fun hc => ?_) (fun hc => ?_)
                        · refine S_pure (by show _ = _; kernel_rfl) (O_mv (d := .u (.int .i64 y3.1)) (by kernel_rfl)) ?_
                          refine S_pure (by show _ = _; kernel_rfl) (O_mv (d := .u (.int .i64 y6.1)) (by kernel_rfl)) ?_
                          refine S_pure (by show _ = _; kernel_rfl) (O_add (k := .i64) (a := y3.1) (b := y6.1) (by kernel_rfl) (by kernel_rfl)) ?_
                          refine S_pure (by show _ = _; kernel_rfl) (O_eql (k := .i64) (a := (IntKind.i64.wrap (y3.1 + y6.1))) (b := 1) (by kernel_rfl) (by kernel_rfl)) ?_
                          refine S_pure trivial (O_pkt (d := .u (.bool ((decide ((IntKind.i64.wrap (y3.1 + y6.1)) = 1))))) (by kernel_rfl) (by kernel_rfl)) ?_
                          exact Rs_weak (W_to (by kernel_rfl) (by kernel_rfl) (by kernel_rfl)) (K34 _ (by rw [hc] <;> rfl))
                        · refine S_skip (b := false) (by kernel_rfl) rfl ?_
                          refine S_skip (b := false) (by kernel_rfl) rfl ?_
                          refine S_skip (b := false) (by kernel_rfl) rfl ?_
                          refine S_skip (b := false) (by kernel_rfl) rfl ?_
                          refine S_pure trivial (O_pkf (d := .u (.bool false)) (by kernel_rfl) (by kernel_rfl)) ?_
                          exact Rs_weak (W_to (by kernel_rfl) (by kernel_rfl) (by kernel_rfl)) (K34 _ (by rw [hc] <;> rfl))
                      refine S_case0 (t := 126) (c := y31) (by kernel_rfl) (fun hc => ?_) (fun hc => ?_)
                      · refine S_pure (by show _ = _; kernel_rfl) (O_mv (d := .u (.int .i64 y3.1)) (by kernel_rfl)) ?_
                        refine S_pure (by show _ = _; kernel_rfl) (O_mv (d := .u (.int .i64 y4.1)) (by kernel_rfl)) ?_
                        refine S_pure (by show _ = _; kernel_rfl) (O_add (k := .i64) (a := y3.1) (b := y4.1) (by kernel_rfl) (by kernel_rfl)) ?_
                        refine S_pure (by show _ = _; kernel_rfl) (O_mv (d := .u (.int .i64 y5.1)) (by kernel_rfl)) ?_
                        refine S_pure (by show _ = _; kernel_rfl) (O_add (k := .i64) (a := (IntKind.i64.wrap (y3.1 + y4.1))) (b := y5.1) (by kernel_rfl) (by kernel_rfl)) ?_
                        refine S_pure (by show _ = _; kernel_rfl) (O_eql (k := .i64) (a := (IntKind.i64.wrap ((IntKind.i64.wrap (y3.1 + y4.1)) + y5.1))) (b := 1) (by kernel_rfl) (by kernel_rfl)) ?_
                        refine S_pure trivial (O_pkt (d := .u (.bool ((decide ((IntKind.i64.wrap ((IntKind.i64.wrap (y3.1 + y4.1)) + y5.1)) = 1))))) (by kernel_rfl) (by kernel_rfl)) ?_
                        exact Rs_weak (W_to (by kernel_rfl) (by kernel_rfl) (by kernel_rfl)) (K32 _ (by rw [hc] <;> rfl))
                      · refine S_skip (b := false) (by kernel_rfl) rfl ?_
                        refine S_skip (b := false) (by kernel_rfl) rfl ?_
                        refine S_skip (b := false) (by kernel_rfl) rfl ?_
                        refine S_skip (b := false) (by kernel_rfl) rfl ?_
                        refine S_skip (b := false) (by kernel_rfl) rfl ?_
                        refine S_skip (b := false) (by kernel_rfl) rfl ?_
                        refine S_pure trivial (O_pkf (d := .u (.bool false)) (by kernel_rfl) (by kernel_rfl)) ?_
                        exact Rs_weak (W_to (by kernel_rfl) (by kernel_rfl) (by kernel_rfl)) (K32 _ (by rw [hc] <;> rfl))
                  refine S_case0 (t := 121) (c := (((((((((!decide (y3.2 = 0)) || (!decide (y4.2 = 0))) || (!decide (y5.2 = 0))) || (!decide (y6.2 = 0))) || (!decide (y7.2 = 0))) || (!decide (y8.2 = 0))) || (!decide (y9.2 = 0))) || (!decide (y10.2 = 0))) || (!decide (y11.2 = 0)))) (by kernel_rfl) (fun hc => ?_) (fun hc => ?_)
                  · refine S_skip (b := true) (by kernel_rfl) rfl ?_
                    refine S_skip (b := true) (by kernel_rfl) rfl ?_
                    refine S_pure trivial (O_pkt (d := .u (.bool true)) (by kernel_rfl) (by kernel_rfl)) ?_
                    exact Rs_weak (W_to (by kernel_rfl) (by kernel_rfl) (by kernel_rfl)) (K29 _ (by rw [hc] <;> rfl))
                  · refine S_pure (by show _ = _; kernel_rfl) (O_mv (d := .u (.int .i64 y12.2)) (by kernel_rfl)) ?_
                    refine S_pure (by show _ = _; kernel_rfl) (O_neq (k := .i64) (a := y12.2) (b := 0) (by kernel_rfl) (by kernel_rfl)) ?_
                    refine S_pure trivial (O_pkf (d := .u (.bool ((!decide (y12.2 = 0))))) (by kernel_rfl) (by kernel_rfl)) ?_
                    exact Rs_weak (W_to (by kernel_rfl) (by kernel_rfl) (by kernel_rfl)) (K29 _ (by rw [hc] <;> rfl))
                refine S_case0 (t := 117) (c := ((((((((!decide (y3.2 = 0)) || (!decide (y4.2 = 0))) || (!decide (y5.2 = 0))) || (!decide (y6.2 = 0))) || (!decide (y7.2 = 0))) || (!decide (y8.2 = 0))) || (!decide (y9.2 = 0))) || (!decide (y10.2 = 0)))) (by kernel_rfl) (fun hc => ?_) (fun hc => ?_)
                · refine S_skip (b := true) (by kernel_rfl) rfl ?_
                  refine S_skip (b := true) (by kernel_rfl) rfl ?_
                  refine S_pure trivial (O_pkt (d := .u (.bool true)) (by kernel_rfl) (by kernel_rfl)) ?_
                  exact Rs_weak (W_to (by kernel_rfl) (by kernel_rfl) (by kernel_rfl)) (K27 _ (by rw [hc] <;> rfl))
                · refine S_pure (by show _ = _; kernel_rfl) (O_mv (d := .u (.int .i64 y11.2)) (by kernel_rfl)) ?_
                  refine S_pure (by show _ = _; kernel_rfl) (O_neq (k := .i64) (a := y11.2) (b := 0) (by kernel_rfl) (by kernel_rfl)) ?_
                  refine S_pure trivial (O_pkf (d := .u (.bool ((!decide (y11.2 = 0))))) (by kernel_rfl) (by kernel_rfl)) ?_
                  exact Rs_weak (W_to (by kernel_rfl) (by kernel_rfl) (by kernel_rfl)) (K27 _ (by rw [hc] <;> rfl))
              refine S_case0 (t := 113) (c := (((((((!decide (y3.2 = 0)) || (!decide (y4.2 = 0))) || (!decide (y5.2 = 0))) || (!decide (y6.2 = 0))) || (!decide (y7.2 = 0))) || (!decide (y8.2 = 0))) || (!decide (y9.2 = 0)))) (by kernel_rfl) (fun hc => ?_) (fun hc => ?_)
              · refine S_skip (b := true) (by kernel_rfl) rfl ?_
                refine S_skip (b := true) (by kernel_rfl) rfl ?_
                refine S_pure trivial (O_pkt (d := .u (.bool true)) (by kernel_rfl) (by kernel_rfl)) ?_
                exact Rs_weak (W_to (by kernel_rfl) (by kernel_rfl) (by kernel_rfl)) (K25 _ (by rw [hc] <;> rfl))
              · refine S_pure (by show _ = _; kernel_rfl) (O_mv (d := .u (.int .i64 y10.2)) (by kernel_rfl)) ?_
                refine S_pure (by show _ = _; kernel_rfl) (O_neq (k := .i64) (a := y10.2) (b := 0) (by kernel_rfl) (by kernel_rfl)) ?_
                refine S_pure trivial (O_pkf (d := .u (.bool ((!decide (y10.2 = 0))))) (by kernel_rfl) (by kernel_rfl)) ?_
                exact Rs_weak (W_to (by kernel_rfl) (by kernel_rfl) (by kernel_rfl)) (K25 _ (by rw [hc] <;> rfl))
            refine S_case0 (t := 109) (c := ((((((!decide (y3.2 = 0)) || (!decide (y4.2 = 0))) || (!decide (y5.2 = 0))) || (!decide (y6.2 = 0))) || (!decide (y7.2 = 0))) || (!decide (y8.2 = 0)))) (by kernel_rfl) (fun hc => ?_) (fun hc => ?_)
            · refine S_skip (b := true) (by kernel_rfl) rfl ?_
              refine S_skip (b := true) (by kernel_rfl) rfl ?_
              refine S_pure trivial (O_pkt (d := .u (.bool true)) (by kernel_rfl) (by kernel_rfl)) ?_
              exact Rs_weak (W_to (by kernel_rfl) (by kernel_rfl) (by kernel_rfl)) (K23 _ (by rw [hc] <;> rfl))
            · refine S_pure (by show _ = _; kernel_rfl) (O_mv (d := .u (.int .i64 y9.2)) (by kernel_rfl)) ?_
              refine S_pure (by show _ = _; kernel_rfl) (O_neq (k := .i64) (a := y9.2) (b := 0) (by kernel_rfl) (by kernel_rfl)) ?_
              refine S_pure trivial (O_pkf (d := .u (.bool ((!decide (y9.2 = 0))))) (by kernel_rfl) (by kernel_rfl)) ?_
              exact Rs_weak (W_to (by kernel_rfl) (by kernel_rfl) (by kernel_rfl)) (K23 _ (by rw [hc] <;> rfl))
          refine S_case0 (t := 105) (c := (((((!decide (y3.2 = 0)) || (!decide (y4.2 = 0))) || (!decide (y5.2 = 0))) || (!decide (y6.2 = 0))) || (!decide (y7.2 = 0)))) (by kernel_rfl) (fun hc => ?_) (fun hc => ?_)
          · refine S_skip (b := true) (by kernel_rfl) rfl ?_
            refine S_skip (b := true) (by kernel_rfl) rfl ?_
            refine S_pure trivial (O_pkt (d := .u (.bool true)) (by kernel_rfl) (by kernel_rfl)) ?_
            exact Rs_weak (W_to (by kernel_rfl) (by kernel_rfl) (by kernel_rfl)) (K21 _ (by rw [hc] <;> rfl))
          · refine S_pure (by show _ = _; kernel_rfl) (O_mv (d := .u (.int .i64 y8.2)) (by kernel_rfl)) ?_
            refine S_pure (by show _ = _; kernel_rfl) (O_neq (k := .i64) (a := y8.2) (b := 0) (by kernel_rfl) (by kernel_rfl)) ?_
            refine S_pure trivial (O_pkf (d := .u (.bool ((!decide (y8.2 = 0))))) (by kernel_rfl) (by kernel_rfl)) ?_
            exact Rs_weak (W_to (by kernel_rfl) (by kernel_rfl) (by kernel_rfl)) (K21 _ (by rw [hc] <;> rfl))
        refine S_case0 (t := 101) (c := ((((!decide (y3.2 = 0)) || (!decide (y4.2 = 0))) || (!decide (y5.2 = 0))) || (!decide (y6.2 = 0)))) (by kernel_rfl) (fun hc => ?_) (fun hc => ?_)
        · refine S_skip (b := true) (by kernel_rfl) rfl ?_
          refine S_skip (b := true) (by kernel_rfl) rfl ?_
          refine S_pure trivial (O_pkt (d := .u (.bool true)) (by kernel_rfl) (by kernel_rfl)) ?_
          exact Rs_weak (W_to (by kernel_rfl) (by kernel_rfl) (by kernel_rfl)) (K19 _ (by rw [hc] <;> rfl))
        · refine S_pure (by show _ = _; kernel_rfl) (O_mv (d := .u (.int .i64 y7.2)) (by kernel_rfl)) ?_
          refine S_pure (by show _ = _; kernel_rfl) (O_neq (k := .i64) (a := y7.2) (b := 0) (by kernel_rfl) (by kernel_rfl)) ?_
          refine S_pure trivial (O_pkf (d := .u (.bool ((!decide (y7.2 = 0))))) (by kernel_rfl) (by kernel_rfl)) ?_
          exact Rs_weak (W_to (by kernel_rfl) (by kernel_rfl) (by kernel_rfl)) (K19 _ (by rw [hc] <;> rfl))
      refine S_case0 (t := 97) (c := (((!decide (y3.2 = 0)) || (!decide (y4.2 = 0))) || (!decide (y5.2 = 0)))) (by kernel_rfl) (fun hc => ?_) (fun hc => ?_)
      · refine S_skip (b := true) (by kernel_rfl) rfl ?_
        refine S_skip (b := true) (by kernel_rfl) rfl ?_
        refine S_pure trivial (O_pkt (d := .u (.bool true)) (by kernel_rfl) (by kernel_rfl)) ?_
        exact Rs_weak (W_to (by kernel_rfl) (by kernel_rfl) (by kernel_rfl)) (K17 _ (by rw [hc] <;> rfl))
      · refine S_pure (by show _ = _; kernel_rfl) (O_mv (d := .u (.int .i64 y6.2)) (by kernel_rfl)) ?_
        refine S_pure (by show _ = _; kernel_rfl) (O_neq (k := .i64) (a := y6.2) (b := 0) (by kernel_rfl) (by kernel_rfl)) ?_
        refine S_pure trivial (O_pkf (d := .u (.bool ((!decide (y6.2 = 0))))) (by kernel_rfl) (by kernel_rfl)) ?_
        exact Rs_weak (W_to (by kernel_rfl) (by kernel_rfl) (by kernel_rfl)) (K17 _ (by rw [hc] <;> rfl))
    refine S_case0 (t := 93) (c := ((!decide (y3.2 = 0)) || (!decide (y4.2 = 0)))) (by kernel_rfl) (fun hc => ?_) (fun hc => ?_)
    · refine S_skip (b := true) (by kernel_rfl) rfl ?_
      refine S_skip (b := true) (by kernel_rfl) rfl ?_
      refine S_pure trivial (O_pkt (d := .u (.bool true)) (by kernel_rfl) (by kernel_rfl)) ?_
      exact Rs_weak (W_to (by kernel_rfl) (by kernel_rfl) (by kernel_rfl)) (K15 _ (by rw [hc] <;> rfl))
    · refine S_pure (by show _ = _; kernel_rfl) (O_mv (d := .u (.int .i64 y5.2)) (by kernel_rfl)) ?_
      refine S_pure (by show _ = _; kernel_rfl) (O_neq (k := .i64) (a := y5.2) (b := 0) (by kernel_rfl) (by kernel_rfl)) ?_
      refine S_pure trivial (O_pkf (d := .u (.bool ((!decide (y5.2 = 0))))) (by kernel_rfl) (by kernel_rfl)) ?_
      exact Rs_weak (W_to (by kernel_rfl) (by kernel_rfl) (by kernel_rfl)) (K15 _ (by rw [hc] <;> rfl))
  refine S_case0 (t := 89) (c := (!decide (y3.2 = 0))) (by kernel_rfl) (fun hc => ?_) (fun hc => ?_)
  · refine S_skip (b := true) (by kernel_rfl) rfl ?_
    refine S_skip (b := true) (by kernel_rfl) rfl ?_
    refine S_pure trivial (O_pkt (d := .u (.bool true)) (by kernel_rfl) (by kernel_rfl)) ?_
    exact Rs_weak (W_to (by kernel_rfl) (by kernel_rfl) (by kernel_rfl)) (K13 _ (by rw [hc] <;> rfl))
  · refine S_pure (by show _ = _; kernel_rfl) (O_mv (d := .u (.int .i64 y4.2)) (by kernel_rfl)) ?_
    refine S_pure (by show _ = _; kernel_rfl) (O_neq (k := .i64) (a := y4.2) (b := 0) (by kernel_rfl) (by kernel_rfl)) ?_
    refine S_pure trivial (O_pkf (d := .u (.bool ((!decide (y4.2 = 0))))) (by kernel_rfl) (by kernel_rfl)) ?_
    exact Rs_weak (W_to (by kernel_rfl) (by kernel_rfl) (by kernel_rfl)) (K13 _ (by rw [hc] <;> rfl))

end Go.Proofs.Ytkpghgnbbfpbmaa
