/- Functions of the program over typed data, and that the program's functions come to their results: written by a program (lift.py). -/
import Derived.Test.YtkpghgnbbfpbmaaL07c
import Derived.Test.YtkpghgnbbfpbmaaChecked
set_option linter.unusedVariables false
set_option maxRecDepth 100000
set_option maxHeartbeats 1000000
namespace Go.Proofs.Ytkpghgnbbfpbmaa

/-! ### selfstab/selfstabmade.LightExpr -/
def q_made_LightExpr_1 : AC := .reg [⟨some 3, none, .mv (.t 0)⟩, ⟨some 4, none, .ln (.t 3)⟩, ⟨some 5, none, .bi .leq (.t 4) (.c (.int .i64 250))⟩, ⟨some 2, none, .mv (.t 5)⟩]
def q_made_LightExpr_2 : AC := .seq q_made_LightExpr_1 .ret
def q_made_LightExpr_3 : AC := .reg [⟨some 2, none, .mv (.c (.bool false))⟩]
def q_made_LightExpr_4 : AC := .seq q_made_LightExpr_3 q_made_LightExpr_2
def c_made_LightExpr : FC := ⟨6, [2], q_made_LightExpr_4⟩
theorem k_made_LightExpr : okF Try.prog 24 c_made_LightExpr = true := by decide +kernel
noncomputable def made_LightExpr (e_0 : List ApiTerm) : Option Bool := (some (decide ((List.length e_0 : Int) ≤ 250)))
theorem made_LightExpr.ok {e_0 : List ApiTerm} {r : Bool} (h : made_LightExpr e_0 = some r) : PC Try.prog 24 [.sl (List.map ApiTerm.cells e_0)] (.bool r) := by
  refine PC_run k_made_LightExpr rfl (L := [(0, .u (.sl (List.map ApiTerm.cells e_0)))]) rfl ?_
  show Run Try.prog 6 (retQ [2] (.bool r)) [] q_made_LightExpr_4 _
  refine R_seq ?_
  refine R_reg ?_
  refine S_pure trivial (O_mv (d := .u (.bool false)) (by kernel_rfl)) ?_
  refine Rs_nil ?_
  refine N_s ?_
  refine R_seq ?_
  refine R_reg ?_
  refine S_pure trivial (O_mv (d := .u (.sl (List.map ApiTerm.cells e_0))) (by kernel_rfl)) ?_
  refine S_pure trivial (O_ln (c := ApiTerm.cells) (li := e_0) (by kernel_rfl)) ?_
  refine S_pure trivial (O_leq (k := .i64) (a := (List.length e_0 : Int)) (b := 250) (by kernel_rfl) (by kernel_rfl)) ?_
  refine S_pure trivial (O_mv (d := .u (.bool ((decide ((List.length e_0 : Int) ≤ 250))))) (by kernel_rfl)) ?_
  refine Rs_nil ?_
  refine N_s ?_
  obtain rfl := (Option.some.inj h)
  refine R_ret ?_
  exact Q_ret (x := .bool ((decide ((List.length e_0 : Int) ≤ 250)))) (by kernel_rfl) (.refl _)

/-! ### selfstab/selfstablaw07.example -/
def q_law07_example_1 : AC := .reg [⟨some 1, none, .bd [.int .i64 0, .int .i64 0] [(0, 1, .c (.int .i64 23))]⟩, ⟨some 2, none, .bd [.int .i64 0, .int .i64 0] [(0, 1, .c (.int .i64 35))]⟩, ⟨some 3, none, .bd [.int .i64 0, .int .i64 0] [(0, 1, .c (.int .i64 12))]⟩, ⟨some 4, none, .bd [.int .i64 0, .int .i64 0] [(0, 1, .c (.int .i64 17))]⟩, ⟨some 5, none, .bs 2 [.t 1, .t 2, .t 3, .t 4]⟩, ⟨some 0, none, .mv (.t 5)⟩]
def q_law07_example_2 : AC := .seq q_law07_example_1 .ret
def q_law07_example_3 : AC := .reg [⟨some 0, none, .mv (.c (.nil))⟩]
def q_law07_example_4 : AC := .seq q_law07_example_3 q_law07_example_2
def c_law07_example : FC := ⟨6, [0], q_law07_example_4⟩
theorem k_law07_example : okF Try.prog 47 c_law07_example = true := by decide +kernel
noncomputable def law07_example : Option (List ApiTerm) := (some [(ApiTerm.mk 23 0), (ApiTerm.mk 35 0), (ApiTerm.mk 12 0), (ApiTerm.mk 17 0)])
theorem law07_example.ok {r : List ApiTerm} (h : law07_example = some r) : PC Try.prog 47 [] (.sl (List.map ApiTerm.cells r)) := by
  refine PC_run k_law07_example rfl (L := []) rfl ?_
  show Run Try.prog 6 (retQ [0] (.sl (List.map ApiTerm.cells r))) [] q_law07_example_4 _
  refine R_seq ?_
  refine R_reg ?_
  refine S_pure trivial (O_mv (d := .u (.nil)) (by kernel_rfl)) ?_
  refine Rs_nil ?_
  refine N_s ?_
  refine R_seq ?_
  refine R_reg ?_
  refine S_pure trivial (O_bd (ds := [.u (.int .i64 23), .u (.int .i64 0)]) (d := .u (.agg (ApiTerm.cells ((ApiTerm.mk 23 0))))) (by kernel_rfl) (by kernel_rfl)) ?_
  refine S_pure trivial (O_bd (ds := [.u (.int .i64 35), .u (.int .i64 0)]) (d := .u (.agg (ApiTerm.cells ((ApiTerm.mk 35 0))))) (by kernel_rfl) (by kernel_rfl)) ?_
  refine S_pure trivial (O_bd (ds := [.u (.int .i64 12), .u (.int .i64 0)]) (d := .u (.agg (ApiTerm.cells ((ApiTerm.mk 12 0))))) (by kernel_rfl) (by kernel_rfl)) ?_
  refine S_pure trivial (O_bd (ds := [.u (.int .i64 17), .u (.int .i64 0)]) (d := .u (.agg (ApiTerm.cells ((ApiTerm.mk 17 0))))) (by kernel_rfl) (by kernel_rfl)) ?_
  refine S_up trivial (O_bs (els := [[.u (.int .i64 23), .u (.int .i64 0)], [.u (.int .i64 35), .u (.int .i64 0)], [.u (.int .i64 12), .u (.int .i64 0)], [.u (.int .i64 17), .u (.int .i64 0)]]) (uss := List.map ApiTerm.cells ([(ApiTerm.mk 23 0), (ApiTerm.mk 35 0), (ApiTerm.mk 12 0), (ApiTerm.mk 17 0)])) (m := List.length ([(ApiTerm.mk 23 0), (ApiTerm.mk 35 0), (ApiTerm.mk 12 0), (ApiTerm.mk 17 0)])) (by kernel_rfl) rfl (by kernel_rfl) (by kernel_rfl)) ?_
  refine S_pure trivial (O_mv (d := .msl 0 [(ApiTerm.mk 23 0), (ApiTerm.mk 35 0), (ApiTerm.mk 12 0), (ApiTerm.mk 17 0)].length) (by kernel_rfl)) ?_
  refine Rs_nil ?_
  refine N_s ?_
  obtain rfl := (Option.some.inj h)
  refine R_ret ?_
  exact Q_retd (x := .sl (List.map ApiTerm.cells ([(ApiTerm.mk 23 0), (ApiTerm.mk 35 0), (ApiTerm.mk 12 0), (ApiTerm.mk 17 0)]))) (d := .msl 0 [(ApiTerm.mk 23 0), (ApiTerm.mk 35 0), (ApiTerm.mk 12 0), (ApiTerm.mk 17 0)].length) (by kernel_rfl) (fz_msl (s := 2) (c := ApiTerm.cells) (li := [(ApiTerm.mk 23 0), (ApiTerm.mk 35 0), (ApiTerm.mk 12 0), (ApiTerm.mk 17 0)]) (by kernel_rfl)) (.refl _)

/-! ### selfstab/selfstablaw07.awake -/
def q_law07_awake_1 : AC := .reg [⟨some 18, none, .mv (.t 2)⟩, ⟨some 19, none, .bi .eql (.t 18) (.c (.int .i64 0))⟩, ⟨some 20, none, .mv (.t 19)⟩, ⟨some 21, some (20, true), .mv (.t 1)⟩, ⟨some 22, some (20, true), .bi .eql (.t 21) (.c (.int .i64 3))⟩, ⟨some 23, none, .pk (.t 20) (.t 22) (.c (.bool false))⟩, ⟨some 24, none, .mv (.t 23)⟩, ⟨some 25, some (24, true), .mv (.t 4)⟩, ⟨some 26, some (24, true), .bi .eql (.t 25) (.c (.int .i64 6))⟩, ⟨some 27, none, .pk (.t 24) (.t 26) (.c (.bool false))⟩, ⟨some 0, none, .mv (.t 27)⟩]
def q_law07_awake_2 : AC := .seq q_law07_awake_1 .ret
def q_law07_awake_3 : AC := .reg [⟨some 12, none, .ca 47 []⟩, ⟨some 13, none, .sl 2 (.t 12) (some (.c (.int .i64 1))) none⟩, ⟨some 14, none, .bs 1 [.c (.int .i64 3)]⟩, ⟨some 15, none, .ca 26 [.t 13, .t 14, .c (.bool false)]⟩, ⟨some 11, none, .mv (.t 15)⟩, ⟨some 16, none, .ex (.t 11) 0⟩, ⟨some 17, none, .ex (.t 11) 1⟩, ⟨some 3, none, .mv (.t 16)⟩, ⟨some 4, none, .mv (.t 17)⟩]
def q_law07_awake_4 : AC := .seq q_law07_awake_3 q_law07_awake_2
def q_law07_awake_5 : AC := .reg [⟨some 6, none, .ca 47 []⟩, ⟨some 7, none, .bs 1 [.c (.int .i64 3)]⟩, ⟨some 8, none, .ca 26 [.t 6, .t 7, .c (.bool false)]⟩, ⟨some 5, none, .mv (.t 8)⟩, ⟨some 9, none, .ex (.t 5) 0⟩, ⟨some 10, none, .ex (.t 5) 1⟩, ⟨some 1, none, .mv (.t 9)⟩, ⟨some 2, none, .mv (.t 10)⟩]
def q_law07_awake_6 : AC := .seq q_law07_awake_5 q_law07_awake_4
def q_law07_awake_7 : AC := .reg [⟨some 0, none, .mv (.c (.bool false))⟩]
def q_law07_awake_8 : AC := .seq q_law07_awake_7 q_law07_awake_6
def c_law07_awake : FC := ⟨28, [0], q_law07_awake_8⟩
theorem k_law07_awake : okF Try.prog 25 c_law07_awake = true := by decide +kernel
noncomputable def law07_awake : Option Bool := ((law07_example).bind (fun (y1 : List ApiTerm) => ((types_Of y1 ([3]) false).bind (fun (y2 : Int × Int) => ((law07_example).bind (fun (y3 : List ApiTerm) => ((slc y3 1 ((List.length y3 : Int))).bind (fun (y4 : List ApiTerm) => ((types_Of y4 ([3]) false).bind (fun (y5 : Int × Int) => (some (((decide (y2.2 = 0)) && (decide (y2.1 = 3))) && (decide (y5.2 = 6))))))))))))))
theorem law07_awake.ok {r : Bool} (h : law07_awake = some r) : PC Try.prog 25 [] (.bool r) := by
  refine PC_run k_law07_awake rfl (L := []) rfl ?_
  show Run Try.prog 28 (retQ [0] (.bool r)) [] q_law07_awake_8 _
  refine R_seq ?_
  refine R_reg ?_
  refine S_pure trivial (O_mv (d := .u (.bool false)) (by kernel_rfl)) ?_
  refine Rs_nil ?_
  refine N_s ?_
  refine R_seq ?_
  refine R_reg ?_
  obtain ⟨y1, hy1, h⟩ := bindS h
  refine S_pure trivial (O_ca (us := []) (r := .sl (List.map ApiTerm.cells y1)) (by kernel_rfl) (law07_example.ok hy1)) ?_
  refine S_up trivial (O_bs (els := [[.u (.int .i64 3)]]) (uss := List.map (cInt .i64) ([3])) (m := List.length ([3])) (by kernel_rfl) rfl (by kernel_rfl) (by kernel_rfl)) ?_
  obtain ⟨y2, hy2, h⟩ := bindS h
  refine S_pure trivial (O_caf (ds := [.u (.sl (List.map ApiTerm.cells y1)), .msl 0 [3].length, .u (.bool false)]) (us := [.sl (List.map ApiTerm.cells y1), .sl (List.map (cInt .i64) ([3])), .bool false]) (r := .tup [.int .i64 y2.1, .int .i64 y2.2]) (by kernel_rfl) (fz_cons fz_u (fz_cons (fz_msl (s := 1) (c := (cInt .i64)) (li := [3]) (by kernel_rfl)) (fz_cons fz_u fz_nil))) (types_Of.ok hy2) rfl) ?_
  refine S_pure trivial (O_mv (d := .u (.tup [.int .i64 y2.1, .int .i64 y2.2])) (by kernel_rfl)) ?_
  refine S_pure trivial (O_ex (us := [.int .i64 y2.1, .int .i64 y2.2]) (u := .int .i64 y2.1) (by kernel_rfl) (by kernel_rfl)) ?_
  refine S_pure trivial (O_ex (us := [.int .i64 y2.1, .int .i64 y2.2]) (u := .int .i64 y2.2) (by kernel_rfl) (by kernel_rfl)) ?_
  refine S_pure trivial (O_mv (d := .u (.int .i64 y2.1)) (by kernel_rfl)) ?_
  refine S_pure trivial (O_mv (d := .u (.int .i64 y2.2)) (by kernel_rfl)) ?_
  refine Rs_nil ?_
  refine N_s ?_
  refine R_seq ?_
  refine R_reg ?_
  obtain ⟨y3, hy3, h⟩ := bindS h
  refine S_pure trivial (O_ca (us := []) (r := .sl (List.map ApiTerm.cells y3)) (by kernel_rfl) (law07_example.ok hy3)) ?_
  obtain ⟨y4, hy4, h⟩ := bindS h
  refine S_pure trivial (O_sl (c := ApiTerm.cells) (li := y3) (li' := y4) (a := 1) (b := (List.length y3 : Int)) (by kernel_rfl) (by kernel_rfl) (by kernel_rfl) hy4 (fun _ => rfl)) ?_
  refine S_up trivial (O_bs (els := [[.u (.int .i64 3)]]) (uss := List.map (cInt .i64) ([3])) (m := List.length ([3])) (by kernel_rfl) rfl (by kernel_rfl) (by kernel_rfl)) ?_
  obtain ⟨y5, hy5, h⟩ := bindS h
  refine S_pure trivial (O_caf (ds := [.u (.sl (List.map ApiTerm.cells y4)), .msl 1 [3].length, .u (.bool false)]) (us := [.sl (List.map ApiTerm.cells y4), .sl (List.map (cInt .i64) ([3])), .bool false]) (r := .tup [.int .i64 y5.1, .int .i64 y5.2]) (by kernel_rfl) (fz_cons fz_u (fz_cons (fz_msl (s := 1) (c := (cInt .i64)) (li := [3]) (by kernel_rfl)) (fz_cons fz_u fz_nil))) (types_Of.ok hy5) rfl) ?_
  refine S_pure trivial (O_mv (d := .u (.tup [.int .i64 y5.1, .int .i64 y5.2])) (by kernel_rfl)) ?_
  refine S_pure trivial (O_ex (us := [.int .i64 y5.1, .int .i64 y5.2]) (u := .int .i64 y5.1) (by kernel_rfl) (by kernel_rfl)) ?_
  refine S_pure trivial (O_ex (us := [.int .i64 y5.1, .int .i64 y5.2]) (u := .int .i64 y5.2) (by kernel_rfl) (by kernel_rfl)) ?_
  refine S_pure trivial (O_mv (d := .u (.int .i64 y5.1)) (by kernel_rfl)) ?_
  refine S_pure trivial (O_mv (d := .u (.int .i64 y5.2)) (by kernel_rfl)) ?_
  refine Rs_nil ?_
  refine N_s ?_
  refine R_seq ?_
  refine R_reg ?_
  refine S_pure trivial (O_mv (d := .u (.int .i64 y2.2)) (by kernel_rfl)) ?_
  refine S_pure trivial (O_eql (k := .i64) (a := y2.2) (b := 0) (by kernel_rfl) (by kernel_rfl)) ?_
  refine S_pure trivial (O_mv (d := .u (.bool ((decide (y2.2 = 0))))) (by kernel_rfl)) ?_
  have K6 : ∀ v7 : Bool, v7 = ((decide (y2.2 = 0)) && (decide (y2.1 = 3))) → Rs Try.prog 28 (retQ [0] (.bool r)) [.s .ret] [⟨some 24, none, .mv (.t 23)⟩, ⟨some 25, some (24, true), .mv (.t 4)⟩, ⟨some 26, some (24, true), .bi .eql (.t 25) (.c (.int .i64 6))⟩, ⟨some 27, none, .pk (.t 24) (.t 26) (.c (.bool false))⟩, ⟨some 0, none, .mv (.t 27)⟩] (mkSt [(4, .u (.int .i64 y5.2)), (23, .u (.bool v7))] [] 2) := by
    intro v7 e; subst e
    refine S_pure trivial (O_mv (d := .u (.bool (((decide (y2.2 = 0)) && (decide (y2.1 = 3)))))) (by kernel_rfl)) ?_
    have K8 : ∀ v9 : Bool, v9 = (((decide (y2.2 = 0)) && (decide (y2.1 = 3))) && (decide (y5.2 = 6))) → Rs Try.prog 28 (retQ [0] (.bool r)) [.s .ret] [⟨some 0, none, .mv (.t 27)⟩] (mkSt [(27, .u (.bool v9))] [] 2) := by
      intro v9 e; subst e
      refine S_pure trivial (O_mv (d := .u (.bool ((((decide (y2.2 = 0)) && (decide (y2.1 = 3))) && (decide (y5.2 = 6)))))) (by kernel_rfl)) ?_
      refine Rs_nil ?_
      refine N_s ?_
      obtain rfl := (Option.some.inj h)
      refine R_ret ?_
      exact Q_ret (x := .bool ((((decide (y2.2 = 0)) && (decide (y2.1 = 3))) && (decide (y5.2 = 6))))) (by kernel_rfl) (.refl _)
    refine S_case0 (t := 24) (c := ((decide (y2.2 = 0)) && (decide (y2.1 = 3)))) (by kernel_rfl) (fun hc => ?_) (fun hc => ?_)
    · refine S_pure (by show _ = _; kernel_rfl) (O_mv (d := .u (.int .i64 y5.2)) (by kernel_rfl)) ?_
      refine S_pure (by show _ = _; kernel_rfl) (O_eql (k := .i64) (a := y5.2) (b := 6) (by kernel_rfl) (by kernel_rfl)) ?_
      refine S_pure trivial (O_pkt (d := .u (.bool ((decide (y5.2 = 6))))) (by kernel_rfl) (by kernel_rfl)) ?_
      exact Rs_weak (W_to (by kernel_rfl) (by kernel_rfl) (by kernel_rfl)) (K8 _ (by rw [hc] <;> rfl))
    · refine S_skip (b := false) (by kernel_rfl) rfl ?_
      refine S_skip (b := false) (by kernel_rfl) rfl ?_
      refine S_pure trivial (O_pkf (d := .u (.bool false)) (by kernel_rfl) (by kernel_rfl)) ?_
      exact Rs_weak (W_to (by kernel_rfl) (by kernel_rfl) (by kernel_rfl)) (K8 _ (by rw [hc] <;> rfl))
  refine S_case0 (t := 20) (c := (decide (y2.2 = 0))) (by kernel_rfl) (fun hc => ?_) (fun hc => ?_)
  · refine S_pure (by show _ = _; kernel_rfl) (O_mv (d := .u (.int .i64 y2.1)) (by kernel_rfl)) ?_
    refine S_pure (by show _ = _; kernel_rfl) (O_eql (k := .i64) (a := y2.1) (b := 3) (by kernel_rfl) (by kernel_rfl)) ?_
    refine S_pure trivial (O_pkt (d := .u (.bool ((decide (y2.1 = 3))))) (by kernel_rfl) (by kernel_rfl)) ?_
    exact Rs_weak (W_to (by kernel_rfl) (by kernel_rfl) (by kernel_rfl)) (K6 _ (by rw [hc] <;> rfl))
  · refine S_skip (b := false) (by kernel_rfl) rfl ?_
    refine S_skip (b := false) (by kernel_rfl) rfl ?_
    refine S_pure trivial (O_pkf (d := .u (.bool false)) (by kernel_rfl) (by kernel_rfl)) ?_
    exact Rs_weak (W_to (by kernel_rfl) (by kernel_rfl) (by kernel_rfl)) (K6 _ (by rw [hc] <;> rfl))

/-! ### selfstab/selfstablaw07.TypesFind -/
def q_law07_TypesFind_1 : AC := .reg [⟨some 19, none, .ca 25 []⟩, ⟨some 6, none, .mv (.t 19)⟩]
def q_law07_TypesFind_2 : AC := .seq q_law07_TypesFind_1 .ret
def q_law07_TypesFind_3 : AC := .cond (.t 18) q_law07_TypesFind_2 .skip
def q_law07_TypesFind_4 : AC := .reg [⟨some 34, none, .ca 25 []⟩, ⟨some 35, none, .mv (.t 34)⟩, ⟨some 36, some (35, true), .mv (.t 7)⟩, ⟨some 37, some (35, true), .mv (.t 9)⟩, ⟨some 38, some (35, true), .bi .eql (.t 36) (.t 37)⟩, ⟨some 39, none, .pk (.t 35) (.t 38) (.c (.bool false))⟩, ⟨some 40, none, .mv (.t 39)⟩, ⟨some 41, some (40, true), .mv (.t 8)⟩, ⟨some 42, some (40, true), .mv (.t 10)⟩, ⟨some 43, some (40, true), .bi .eql (.t 41) (.t 42)⟩, ⟨some 44, none, .pk (.t 40) (.t 43) (.c (.bool false))⟩, ⟨some 6, none, .mv (.t 44)⟩]
def q_law07_TypesFind_5 : AC := .seq q_law07_TypesFind_4 .ret
def q_law07_TypesFind_6 : AC := .reg [⟨some 28, none, .mv (.t 0)⟩, ⟨some 29, none, .mv (.t 1)⟩, ⟨some 30, none, .mv (.t 2)⟩, ⟨some 31, none, .ca 27 [.t 28, .t 29, .t 30]⟩, ⟨some 27, none, .mv (.t 31)⟩, ⟨some 32, none, .ex (.t 27) 0⟩, ⟨some 33, none, .ex (.t 27) 1⟩, ⟨some 9, none, .mv (.t 32)⟩, ⟨some 10, none, .mv (.t 33)⟩]
def q_law07_TypesFind_7 : AC := .seq q_law07_TypesFind_6 q_law07_TypesFind_5
def q_law07_TypesFind_8 : AC := .reg [⟨some 21, none, .mv (.t 0)⟩, ⟨some 22, none, .mv (.t 1)⟩, ⟨some 23, none, .mv (.t 2)⟩, ⟨some 24, none, .ca 26 [.t 21, .t 22, .t 23]⟩, ⟨some 20, none, .mv (.t 24)⟩, ⟨some 25, none, .ex (.t 20) 0⟩, ⟨some 26, none, .ex (.t 20) 1⟩, ⟨some 7, none, .mv (.t 25)⟩, ⟨some 8, none, .mv (.t 26)⟩]
def q_law07_TypesFind_9 : AC := .seq q_law07_TypesFind_8 q_law07_TypesFind_7
def q_law07_TypesFind_10 : AC := .reg [⟨some 11, none, .mv (.t 0)⟩, ⟨some 12, none, .ca 24 [.t 11]⟩, ⟨some 13, none, .un .not (.t 12)⟩, ⟨some 14, none, .mv (.t 13)⟩, ⟨some 15, some (14, false), .mv (.t 1)⟩, ⟨some 16, some (14, false), .ln (.t 15)⟩, ⟨some 17, some (14, false), .bi .gtr (.t 16) (.c (.int .i64 10))⟩, ⟨some 18, none, .pk (.t 14) (.c (.bool true)) (.t 17)⟩]
def q_law07_TypesFind_11 : AC := .seq q_law07_TypesFind_10 q_law07_TypesFind_3
def q_law07_TypesFind_12 : AC := .seq q_law07_TypesFind_11 q_law07_TypesFind_9
def q_law07_TypesFind_13 : AC := .reg [⟨some 6, none, .mv (.c (.bool false))⟩]
def q_law07_TypesFind_14 : AC := .seq q_law07_TypesFind_13 q_law07_TypesFind_12
def c_law07_TypesFind : FC := ⟨45, [6], q_law07_TypesFind_14⟩
theorem k_law07_TypesFind : okF Try.prog 7 c_law07_TypesFind = true := by decide +kernel
noncomputable def law07_TypesFind (e_0 : List ApiTerm) (kinds_1 : List Int) (bound_2 : Bool) : Option Bool := ((made_LightExpr e_0).bind (fun (y1 : Bool) => (bif ((!y1) || (decide (10 < (List.length kinds_1 : Int)))) then ((law07_awake).bind (fun (y4 : Bool) => (some y4))) else ((types_Of e_0 kinds_1 bound_2).bind (fun (y5 : Int × Int) => ((ref07_Of e_0 kinds_1 bound_2).bind (fun (y6 : Int × Int) => ((law07_awake).bind (fun (y7 : Bool) => (some ((y7 && (decide (y5.1 = y6.1))) && (decide (y5.2 = y6.2)))))))))))))
theorem law07_TypesFind.ok {e_0 : List ApiTerm} {kinds_1 : List Int} {bound_2 : Bool} {r : Bool} (h : law07_TypesFind e_0 kinds_1 bound_2 = some r) : PC Try.prog 7 [.sl (List.map ApiTerm.cells e_0), .sl (List.map (cInt .i64) kinds_1), .bool bound_2] (.bool r) := by
  refine PC_run k_law07_TypesFind rfl (L := [(0, .u (.sl (List.map ApiTerm.cells e_0))), (1, .u (.sl (List.map (cInt .i64) kinds_1))), (2, .u (.bool bound_2))]) rfl ?_
  show Run Try.prog 45 (retQ [6] (.bool r)) [] q_law07_TypesFind_14 _
  refine R_seq ?_
  refine R_reg ?_
  refine S_pure trivial (O_mv (d := .u (.bool false)) (by kernel_rfl)) ?_
  refine Rs_nil ?_
  refine N_s ?_
  refine R_seq ?_
  refine R_seq ?_
  refine R_reg ?_
  refine S_pure trivial (O_mv (d := .u (.sl (List.map ApiTerm.cells e_0))) (by kernel_rfl)) ?_
  obtain ⟨y1, hy1, h⟩ := bindS h
  refine S_pure trivial (O_ca (us := [.sl (List.map ApiTerm.cells e_0)]) (r := .bool y1) (by kernel_rfl) (made_LightExpr.ok hy1)) ?_
  refine S_pure trivial (O_not (b := y1) (by kernel_rfl)) ?_
  refine S_pure trivial (O_mv (d := .u (.bool ((!y1)))) (by kernel_rfl)) ?_
  have K2 : ∀ v3 : Bool, v3 = ((!y1) || (decide (10 < (List.length kinds_1 : Int)))) → Rs Try.prog 45 (retQ [6] (.bool r)) [.s q_law07_TypesFind_3, .s q_law07_TypesFind_9] [] (mkSt [(0, .u (.sl (List.map ApiTerm.cells e_0))), (1, .u (.sl (List.map (cInt .i64) kinds_1))), (2, .u (.bool bound_2)), (18, .u (.bool v3))] [] 0) := by
    intro v3 e; subst e
    refine Rs_nil ?_
    refine N_s ?_
    refine R_cond (c := ((!y1) || (decide (10 < (List.length kinds_1 : Int))))) (by kernel_rfl) h (fun h => ?_) (fun h => ?_)
    · refine R_seq ?_
      refine R_reg ?_
      obtain ⟨y4, hy4, h⟩ := bindS h
      refine S_pure trivial (O_ca (us := []) (r := .bool y4) (by kernel_rfl) (law07_awake.ok hy4)) ?_
      refine S_pure trivial (O_mv (d := .u (.bool y4)) (by kernel_rfl)) ?_
      refine Rs_nil ?_
      refine N_s ?_
      obtain rfl := (Option.some.inj h)
      refine R_ret ?_
      exact Q_ret (x := .bool y4) (by kernel_rfl) (.refl _)
    · refine R_skip ?_
      refine N_s ?_
      refine R_seq ?_
      refine R_reg ?_
      refine S_pure trivial (O_mv (d := .u (.sl (List.map ApiTerm.cells e_0))) (by kernel_rfl)) ?_
      refine S_pure trivial (O_mv (d := .u (.sl (List.map (cInt .i64) kinds_1))) (by kernel_rfl)) ?_
      refine S_pure trivial (O_mv (d := .u (.bool bound_2)) (by kernel_rfl)) ?_
      obtain ⟨y5, hy5, h⟩ := bindS h
      refine S_pure trivial (O_ca (us := [.sl (List.map ApiTerm.cells e_0), .sl (List.map (cInt .i64) kinds_1), .bool bound_2]) (r := .tup [.int .i64 y5.1, .int .i64 y5.2]) (by kernel_rfl) (types_Of.ok hy5)) ?_
      refine S_pure trivial (O_mv (d := .u (.tup [.int .i64 y5.1, .int .i64 y5.2])) (by kernel_rfl)) ?_
      refine S_pure trivial (O_ex (us := [.int .i64 y5.1, .int .i64 y5.2]) (u := .int .i64 y5.1) (by kernel_rfl) (by kernel_rfl)) ?_
      refine S_pure trivial (O_ex (us := [.int .i64 y5.1, .int .i64 y5.2]) (u := .int .i64 y5.2) (by kernel_rfl) (by kernel_rfl)) ?_
      refine S_pure trivial (O_mv (d := .u (.int .i64 y5.1)) (by kernel_rfl)) ?_
      refine S_pure trivial (O_mv (d := .u (.int .i64 y5.2)) (by kernel_rfl)) ?_
      refine Rs_nil ?_
      refine N_s ?_
      refine R_seq ?_
      refine R_reg ?_
      refine S_pure trivial (O_mv (d := .u (.sl (List.map ApiTerm.cells e_0))) (by kernel_rfl)) ?_
      refine S_pure trivial (O_mv (d := .u (.sl (List.map (cInt .i64) kinds_1))) (by kernel_rfl)) ?_
      refine S_pure trivial (O_mv (d := .u (.bool bound_2)) (by kernel_rfl)) ?_
      obtain ⟨y6, hy6, h⟩ := bindS h
      refine S_pure trivial (O_ca (us := [.sl (List.map ApiTerm.cells e_0), .sl (List.map (cInt .i64) kinds_1), .bool bound_2]) (r := .tup [.int .i64 y6.1, .int .i64 y6.2]) (by kernel_rfl) (ref07_Of.ok hy6)) ?_
      refine S_pure trivial (O_mv (d := .u (.tup [.int .i64 y6.1, .int .i64 y6.2])) (by kernel_rfl)) ?_
      refine S_pure trivial (O_ex (us := [.int .i64 y6.1, .int .i64 y6.2]) (u := .int .i64 y6.1) (by kernel_rfl) (by kernel_rfl)) ?_
      refine S_pure trivial (O_ex (us := [.int .i64 y6.1, .int .i64 y6.2]) (u := .int .i64 y6.2) (by kernel_rfl) (by kernel_rfl)) ?_
      refine S_pure trivial (O_mv (d := .u (.int .i64 y6.1)) (by kernel_rfl)) ?_
      refine S_pure trivial (O_mv (d := .u (.int .i64 y6.2)) (by kernel_rfl)) ?_
      refine Rs_nil ?_
      refine N_s ?_
      refine R_seq ?_
      refine R_reg ?_
      obtain ⟨y7, hy7, h⟩ := bindS h
      refine S_pure trivial (O_ca (us := []) (r := .bool y7) (by kernel_rfl) (law07_awake.ok hy7)) ?_
      refine S_pure trivial (O_mv (d := .u (.bool y7)) (by kernel_rfl)) ?_
      have K8 : ∀ v9 : Bool, v9 = (y7 && (decide (y5.1 = y6.1))) → Rs Try.prog 45 (retQ [6] (.bool r)) [.s .ret] [⟨some 40, none, .mv (.t 39)⟩, ⟨some 41, some (40, true), .mv (.t 8)⟩, ⟨some 42, some (40, true), .mv (.t 10)⟩, ⟨some 43, some (40, true), .bi .eql (.t 41) (.t 42)⟩, ⟨some 44, none, .pk (.t 40) (.t 43) (.c (.bool false))⟩, ⟨some 6, none, .mv (.t 44)⟩] (mkSt [(8, .u (.int .i64 y5.2)), (10, .u (.int .i64 y6.2)), (39, .u (.bool v9))] [] 0) := by
        intro v9 e; subst e
        refine S_pure trivial (O_mv (d := .u (.bool ((y7 && (decide (y5.1 = y6.1)))))) (by kernel_rfl)) ?_
        have K10 : ∀ v11 : Bool, v11 = ((y7 && (decide (y5.1 = y6.1))) && (decide (y5.2 = y6.2))) → Rs Try.prog 45 (retQ [6] (.bool r)) [.s .ret] [⟨some 6, none, .mv (.t 44)⟩] (mkSt [(44, .u (.bool v11))] [] 0) := by
          intro v11 e; subst e
          refine S_pure trivial (O_mv (d := .u (.bool (((y7 && (decide (y5.1 = y6.1))) && (decide (y5.2 = y6.2)))))) (by kernel_rfl)) ?_
          refine Rs_nil ?_
          refine N_s ?_
          obtain rfl := (Option.some.inj h)
          refine R_ret ?_
          exact Q_ret (x := .bool (((y7 && (decide (y5.1 = y6.1))) && (decide (y5.2 = y6.2))))) (by kernel_rfl) (.refl _)
        refine S_case0 (t := 40) (c := (y7 && (decide (y5.1 = y6.1)))) (by kernel_rfl) (fun hc => ?_) (fun hc => ?_)
        · refine S_pure (by show _ = _; kernel_rfl) (O_mv (d := .u (.int .i64 y5.2)) (by kernel_rfl)) ?_
          refine S_pure (by show _ = _; kernel_rfl) (O_mv (d := .u (.int .i64 y6.2)) (by kernel_rfl)) ?_
          refine S_pure (by show _ = _; kernel_rfl) (O_eql (k := .i64) (a := y5.2) (b := y6.2) (by kernel_rfl) (by kernel_rfl)) ?_
          refine S_pure trivial (O_pkt (d := .u (.bool ((decide (y5.2 = y6.2))))) (by kernel_rfl) (by kernel_rfl)) ?_
          exact Rs_weak (W_to (by kernel_rfl) (by kernel_rfl) (by kernel_rfl)) (K10 _ (by rw [hc] <;> rfl))
        · refine S_skip (b := false) (by kernel_rfl) rfl ?_
          refine S_skip (b := false) (by kernel_rfl) rfl ?_
          refine S_skip (b := false) (by kernel_rfl) rfl ?_
          refine S_pure trivial (O_pkf (d := .u (.bool false)) (by kernel_rfl) (by kernel_rfl)) ?_
          exact Rs_weak (W_to (by kernel_rfl) (by kernel_rfl) (by kernel_rfl)) (K10 _ (by rw [hc] <;> rfl))
      refine S_case0 (t := 35) (c := y7) (by kernel_rfl) (fun hc => ?_) (fun hc => ?_)
      · refine S_pure (by show _ = _; kernel_rfl) (O_mv (d := .u (.int .i64 y5.1)) (by kernel_rfl)) ?_
        refine S_pure (by show _ = _; kernel_rfl) (O_mv (d := .u (.int .i64 y6.1)) (by kernel_rfl)) ?_
        refine S_pure (by show _ = _; kernel_rfl) (O_eql (k := .i64) (a := y5.1) (b := y6.1) (by kernel_rfl) (by kernel_rfl)) ?_
        refine S_pure trivial (O_pkt (d := .u (.bool ((decide (y5.1 = y6.1))))) (by kernel_rfl) (by kernel_rfl)) ?_
        exact Rs_weak (W_to (by kernel_rfl) (by kernel_rfl) (by kernel_rfl)) (K8 _ (by rw [hc] <;> rfl))
      · refine S_skip (b := false) (by kernel_rfl) rfl ?_
        refine S_skip (b := false) (by kernel_rfl) rfl ?_
        refine S_skip (b := false) (by kernel_rfl) rfl ?_
        refine S_pure trivial (O_pkf (d := .u (.bool false)) (by kernel_rfl) (by kernel_rfl)) ?_
        exact Rs_weak (W_to (by kernel_rfl) (by kernel_rfl) (by kernel_rfl)) (K8 _ (by rw [hc] <;> rfl))
  refine S_case0 (t := 14) (c := (!y1)) (by kernel_rfl) (fun hc => ?_) (fun hc => ?_)
  · refine S_skip (b := true) (by kernel_rfl) rfl ?_
    refine S_skip (b := true) (by kernel_rfl) rfl ?_
    refine S_skip (b := true) (by kernel_rfl) rfl ?_
    refine S_pure trivial (O_pkt (d := .u (.bool true)) (by kernel_rfl) (by kernel_rfl)) ?_
    exact Rs_weak (W_to (by kernel_rfl) (by kernel_rfl) (by kernel_rfl)) (K2 _ (by rw [hc] <;> rfl))
  · refine S_pure (by show _ = _; kernel_rfl) (O_mv (d := .u (.sl (List.map (cInt .i64) kinds_1))) (by kernel_rfl)) ?_
    refine S_pure (by show _ = _; kernel_rfl) (O_ln (c := (cInt .i64)) (li := kinds_1) (by kernel_rfl)) ?_
    refine S_pure (by show _ = _; kernel_rfl) (O_gtr (k := .i64) (a := (List.length kinds_1 : Int)) (b := 10) (by kernel_rfl) (by kernel_rfl)) ?_
    refine S_pure trivial (O_pkf (d := .u (.bool ((decide (10 < (List.length kinds_1 : Int)))))) (by kernel_rfl) (by kernel_rfl)) ?_
    exact Rs_weak (W_to (by kernel_rfl) (by kernel_rfl) (by kernel_rfl)) (K2 _ (by rw [hc] <;> rfl))

/-! ### selfstab/selfstablaw07.TypesKeepWithABound -/
def q_law07_TypesKeepWithABound_1 : AC := .reg [⟨some 42, none, .ca 25 []⟩, ⟨some 43, none, .mv (.t 42)⟩, ⟨some 44, some (43, true), .mv (.t 5)⟩, ⟨some 45, some (43, true), .bi .eql (.t 44) (.c (.int .i64 0))⟩, ⟨some 46, none, .pk (.t 43) (.t 45) (.c (.bool false))⟩, ⟨some 47, none, .mv (.t 46)⟩, ⟨some 48, some (47, true), .mv (.t 6)⟩, ⟨some 49, some (47, true), .bi .eql (.t 48) (.c (.int .i64 6))⟩, ⟨some 50, some (47, true), .mv (.t 49)⟩, ⟨some 51, some (50, false), .mv (.t 6)⟩, ⟨some 52, some (50, false), .mv (.t 8)⟩, ⟨some 53, some (50, false), .bi .eql (.t 51) (.t 52)⟩, ⟨some 54, some (47, true), .pk (.t 50) (.c (.bool true)) (.t 53)⟩, ⟨some 55, none, .pk (.t 47) (.t 54) (.c (.bool false))⟩, ⟨some 4, none, .mv (.t 55)⟩]
def q_law07_TypesKeepWithABound_2 : AC := .seq q_law07_TypesKeepWithABound_1 .ret
def q_law07_TypesKeepWithABound_3 : AC := .reg [⟨some 17, none, .ca 25 []⟩, ⟨some 4, none, .mv (.t 17)⟩]
def q_law07_TypesKeepWithABound_4 : AC := .seq q_law07_TypesKeepWithABound_3 .ret
def q_law07_TypesKeepWithABound_5 : AC := .cond (.t 16) q_law07_TypesKeepWithABound_4 .skip
def q_law07_TypesKeepWithABound_6 : AC := .reg [⟨some 32, none, .ca 25 []⟩, ⟨some 33, none, .mv (.t 32)⟩, ⟨some 34, some (33, true), .mv (.t 8)⟩, ⟨some 35, some (33, true), .bi .eql (.t 34) (.c (.int .i64 0))⟩, ⟨some 36, none, .pk (.t 33) (.t 35) (.c (.bool false))⟩, ⟨some 37, none, .mv (.t 36)⟩, ⟨some 38, some (37, true), .mv (.t 7)⟩, ⟨some 39, some (37, true), .mv (.t 5)⟩, ⟨some 40, some (37, true), .bi .eql (.t 38) (.t 39)⟩, ⟨some 41, none, .pk (.t 37) (.t 40) (.c (.bool false))⟩, ⟨some 4, none, .mv (.t 41)⟩]
def q_law07_TypesKeepWithABound_7 : AC := .seq q_law07_TypesKeepWithABound_6 .ret
def q_law07_TypesKeepWithABound_8 : AC := .cond (.t 31) q_law07_TypesKeepWithABound_7 .skip
def q_law07_TypesKeepWithABound_9 : AC := .reg [⟨some 30, none, .mv (.t 6)⟩, ⟨some 31, none, .bi .eql (.t 30) (.c (.int .i64 0))⟩]
def q_law07_TypesKeepWithABound_10 : AC := .seq q_law07_TypesKeepWithABound_9 q_law07_TypesKeepWithABound_8
def q_law07_TypesKeepWithABound_11 : AC := .seq q_law07_TypesKeepWithABound_10 q_law07_TypesKeepWithABound_2
def q_law07_TypesKeepWithABound_12 : AC := .reg [⟨some 25, none, .mv (.t 0)⟩, ⟨some 26, none, .mv (.t 1)⟩, ⟨some 27, none, .ca 26 [.t 25, .t 26, .c (.bool true)]⟩, ⟨some 24, none, .mv (.t 27)⟩, ⟨some 28, none, .ex (.t 24) 0⟩, ⟨some 29, none, .ex (.t 24) 1⟩, ⟨some 7, none, .mv (.t 28)⟩, ⟨some 8, none, .mv (.t 29)⟩]
def q_law07_TypesKeepWithABound_13 : AC := .seq q_law07_TypesKeepWithABound_12 q_law07_TypesKeepWithABound_11
def q_law07_TypesKeepWithABound_14 : AC := .reg [⟨some 19, none, .mv (.t 0)⟩, ⟨some 20, none, .mv (.t 1)⟩, ⟨some 21, none, .ca 26 [.t 19, .t 20, .c (.bool false)]⟩, ⟨some 18, none, .mv (.t 21)⟩, ⟨some 22, none, .ex (.t 18) 0⟩, ⟨some 23, none, .ex (.t 18) 1⟩, ⟨some 5, none, .mv (.t 22)⟩, ⟨some 6, none, .mv (.t 23)⟩]
def q_law07_TypesKeepWithABound_15 : AC := .seq q_law07_TypesKeepWithABound_14 q_law07_TypesKeepWithABound_13
def q_law07_TypesKeepWithABound_16 : AC := .reg [⟨some 9, none, .mv (.t 0)⟩, ⟨some 10, none, .ca 24 [.t 9]⟩, ⟨some 11, none, .un .not (.t 10)⟩, ⟨some 12, none, .mv (.t 11)⟩, ⟨some 13, some (12, false), .mv (.t 1)⟩, ⟨some 14, some (12, false), .ln (.t 13)⟩, ⟨some 15, some (12, false), .bi .gtr (.t 14) (.c (.int .i64 10))⟩, ⟨some 16, none, .pk (.t 12) (.c (.bool true)) (.t 15)⟩]
def q_law07_TypesKeepWithABound_17 : AC := .seq q_law07_TypesKeepWithABound_16 q_law07_TypesKeepWithABound_5
def q_law07_TypesKeepWithABound_18 : AC := .seq q_law07_TypesKeepWithABound_17 q_law07_TypesKeepWithABound_15
def q_law07_TypesKeepWithABound_19 : AC := .reg [⟨some 4, none, .mv (.c (.bool false))⟩]
def q_law07_TypesKeepWithABound_20 : AC := .seq q_law07_TypesKeepWithABound_19 q_law07_TypesKeepWithABound_18
def c_law07_TypesKeepWithABound : FC := ⟨56, [4], q_law07_TypesKeepWithABound_20⟩
theorem k_law07_TypesKeepWithABound : okF Try.prog 9 c_law07_TypesKeepWithABound = true := by decide +kernel
noncomputable def law07_TypesKeepWithABound (e_0 : List ApiTerm) (kinds_1 : List Int) : Option Bool := ((made_LightExpr e_0).bind (fun (y1 : Bool) => (bif ((!y1) || (decide (10 < (List.length kinds_1 : Int)))) then ((law07_awake).bind (fun (y4 : Bool) => (some y4))) else ((types_Of e_0 kinds_1 false).bind (fun (y5 : Int × Int) => ((types_Of e_0 kinds_1 true).bind (fun (y6 : Int × Int) => (bif (decide (y5.2 = 0)) then ((law07_awake).bind (fun (y7 : Bool) => (some ((y7 && (decide (y6.2 = 0))) && (decide (y6.1 = y5.1)))))) else ((law07_awake).bind (fun (y12 : Bool) => (some ((y12 && (decide (y5.1 = 0))) && ((decide (y5.2 = 6)) || (decide (y5.2 = y6.2)))))))))))))))
theorem law07_TypesKeepWithABound.ok {e_0 : List ApiTerm} {kinds_1 : List Int} {r : Bool} (h : law07_TypesKeepWithABound e_0 kinds_1 = some r) : PC Try.prog 9 [.sl (List.map ApiTerm.cells e_0), .sl (List.map (cInt .i64) kinds_1)] (.bool r) := by
  refine PC_run k_law07_TypesKeepWithABound rfl (L := [(0, .u (.sl (List.map ApiTerm.cells e_0))), (1, .u (.sl (List.map (cInt .i64) kinds_1)))]) rfl ?_
  show Run Try.prog 56 (retQ [4] (.bool r)) [] q_law07_TypesKeepWithABound_20 _
  refine R_seq ?_
  refine R_reg ?_
  refine S_pure trivial (O_mv (d := .u (.bool false)) (by kernel_rfl)) ?_
  refine Rs_nil ?_
  refine N_s ?_
  refine R_seq ?_
  refine R_seq ?_
  refine R_reg ?_
  refine S_pure trivial (O_mv (d := .u (.sl (List.map ApiTerm.cells e_0))) (by kernel_rfl)) ?_
  obtain ⟨y1, hy1, h⟩ := bindS h
  refine S_pure trivial (O_ca (us := [.sl (List.map ApiTerm.cells e_0)]) (r := .bool y1) (by kernel_rfl) (made_LightExpr.ok hy1)) ?_
  refine S_pure trivial (O_not (b := y1) (by kernel_rfl)) ?_
  refine S_pure trivial (O_mv (d := .u (.bool ((!y1)))) (by kernel_rfl)) ?_
  have K2 : ∀ v3 : Bool, v3 = ((!y1) || (decide (10 < (List.length kinds_1 : Int)))) → Rs Try.prog 56 (retQ [4] (.bool r)) [.s q_law07_TypesKeepWithABound_5, .s q_law07_TypesKeepWithABound_15] [] (mkSt [(0, .u (.sl (List.map ApiTerm.cells e_0))), (1, .u (.sl (List.map (cInt .i64) kinds_1))), (16, .u (.bool v3))] [] 0) := by
    intro v3 e; subst e
    refine Rs_nil ?_
    refine N_s ?_
    refine R_cond (c := ((!y1) || (decide (10 < (List.length kinds_1 : Int))))) (by kernel_rfl) h (fun h => ?_) (fun h => ?_)
    · refine R_seq ?_
      refine R_reg ?_
      obtain ⟨y4, hy4, h⟩ := bindS h
      refine S_pure trivial (O_ca (us := []) (r := .bool y4) (by kernel_rfl) (law07_awake.ok hy4)) ?_
      refine S_pure trivial (O_mv (d := .u (.bool y4)) (by kernel_rfl)) ?_
      refine Rs_nil ?_
      refine N_s ?_
      obtain rfl := (Option.some.inj h)
      refine R_ret ?_
      exact Q_ret (x := .bool y4) (by kernel_rfl) (.refl _)
    · refine R_skip ?_
      refine N_s ?_
      refine R_seq ?_
      refine R_reg ?_
      refine S_pure trivial (O_mv (d := .u (.sl (List.map ApiTerm.cells e_0))) (by kernel_rfl)) ?_
      refine S_pure trivial (O_mv (d := .u (.sl (List.map (cInt .i64) kinds_1))) (by kernel_rfl)) ?_
      obtain ⟨y5, hy5, h⟩ := bindS h
      refine S_pure trivial (O_ca (us := [.sl (List.map ApiTerm.cells e_0), .sl (List.map (cInt .i64) kinds_1), .bool false]) (r := .tup [.int .i64 y5.1, .int .i64 y5.2]) (by kernel_rfl) (types_Of.ok hy5)) ?_
      refine S_pure trivial (O_mv (d := .u (.tup [.int .i64 y5.1, .int .i64 y5.2])) (by kernel_rfl)) ?_
      refine S_pure trivial (O_ex (us := [.int .i64 y5.1, .int .i64 y5.2]) (u := .int .i64 y5.1) (by kernel_rfl) (by kernel_rfl)) ?_
      refine S_pure trivial (O_ex (us := [.int .i64 y5.1, .int .i64 y5.2]) (u := .int .i64 y5.2) (by kernel_rfl) (by kernel_rfl)) ?_
      refine S_pure trivial (O_mv (d := .u (.int .i64 y5.1)) (by kernel_rfl)) ?_
      refine S_pure trivial (O_mv (d := .u (.int .i64 y5.2)) (by kernel_rfl)) ?_
      refine Rs_nil ?_
      refine N_s ?_
      refine R_seq ?_
      refine R_reg ?_
      refine S_pure trivial (O_mv (d := .u (.sl (List.map ApiTerm.cells e_0))) (by kernel_rfl)) ?_
      refine S_pure trivial (O_mv (d := .u (.sl (List.map (cInt .i64) kinds_1))) (by kernel_rfl)) ?_
      obtain ⟨y6, hy6, h⟩ := bindS h
      refine S_pure trivial (O_ca (us := [.sl (List.map ApiTerm.cells e_0), .sl (List.map (cInt .i64) kinds_1), .bool true]) (r := .tup [.int .i64 y6.1, .int .i64 y6.2]) (by kernel_rfl) (types_Of.ok hy6)) ?_
      refine S_pure trivial (O_mv (d := .u (.tup [.int .i64 y6.1, .int .i64 y6.2])) (by kernel_rfl)) ?_
      refine S_pure trivial (O_ex (us := [.int .i64 y6.1, .int .i64 y6.2]) (u := .int .i64 y6.1) (by kernel_rfl) (by kernel_rfl)) ?_
      refine S_pure trivial (O_ex (us := [.int .i64 y6.1, .int .i64 y6.2]) (u := .int .i64 y6.2) (by kernel_rfl) (by kernel_rfl)) ?_
      refine S_pure trivial (O_mv (d := .u (.int .i64 y6.1)) (by kernel_rfl)) ?_
      refine S_pure trivial (O_mv (d := .u (.int .i64 y6.2)) (by kernel_rfl)) ?_
      refine Rs_nil ?_
      refine N_s ?_
      refine R_seq ?_
      refine R_seq ?_
      refine R_reg ?_
      refine S_pure trivial (O_mv (d := .u (.int .i64 y5.2)) (by kernel_rfl)) ?_
      refine S_pure trivial (O_eql (k := .i64) (a := y5.2) (b := 0) (by kernel_rfl) (by kernel_rfl)) ?_
      refine Rs_nil ?_
      refine N_s ?_
      refine R_cond (c := (decide (y5.2 = 0))) (by kernel_rfl) h (fun h => ?_) (fun h => ?_)
      · refine R_seq ?_
        refine R_reg ?_
        obtain ⟨y7, hy7, h⟩ := bindS h
        refine S_pure trivial (O_ca (us := []) (r := .bool y7) (by kernel_rfl) (law07_awake.ok hy7)) ?_
        refine S_pure trivial (O_mv (d := .u (.bool y7)) (by kernel_rfl)) ?_
        have K8 : ∀ v9 : Bool, v9 = (y7 && (decide (y6.2 = 0))) → Rs Try.prog 56 (retQ [4] (.bool r)) [.s .ret, .s q_law07_TypesKeepWithABound_2] [⟨some 37, none, .mv (.t 36)⟩, ⟨some 38, some (37, true), .mv (.t 7)⟩, ⟨some 39, some (37, true), .mv (.t 5)⟩, ⟨some 40, some (37, true), .bi .eql (.t 38) (.t 39)⟩, ⟨some 41, none, .pk (.t 37) (.t 40) (.c (.bool false))⟩, ⟨some 4, none, .mv (.t 41)⟩] (mkSt [(5, .u (.int .i64 y5.1)), (7, .u (.int .i64 y6.1)), (36, .u (.bool v9))] [] 0) := by
          intro v9 e; subst e
          refine S_pure trivial (O_mv (d := .u (.bool ((y7 && (decide (y6.2 = 0)))))) (by kernel_rfl)) ?_
          have K10 : ∀ v11 : Bool, v11 = ((y7 && (decide (y6.2 = 0))) && (decide (y6.1 = y5.1))) → Rs Try.prog 56 (retQ [4] (.bool r)) [.s .ret, .s q_law07_TypesKeepWithABound_2] [⟨some 4, none, .mv (.t 41)⟩] (mkSt [(41, .u (.bool v11))] [] 0) := by
            intro v11 e; subst e
            refine S_pure trivial (O_mv (d := .u (.bool (((y7 && (decide (y6.2 = 0))) && (decide (y6.1 = y5.1)))))) (by kernel_rfl)) ?_
            refine Rs_nil ?_
            refine N_s ?_
            obtain rfl := (Option.some.inj h)
            refine R_ret ?_
            exact Q_ret (x := .bool (((y7 && (decide (y6.2 = 0))) && (decide (y6.1 = y5.1))))) (by kernel_rfl) (.refl _)
          refine S_case0 (t := 37) (c := (y7 && (decide (y6.2 = 0)))) (by kernel_rfl) (fun hc => ?_) (fun hc => ?_)
          · refine S_pure (by show _ = _; kernel_rfl) (O_mv (d := .u (.int .i64 y6.1)) (by kernel_rfl)) ?_
            refine S_pure (by show _ = _; kernel_rfl) (O_mv (d := .u (.int .i64 y5.1)) (by kernel_rfl)) ?_
            refine S_pure (by show _ = _; kernel_rfl) (O_eql (k := .i64) (a := y6.1) (b := y5.1) (by kernel_rfl) (by kernel_rfl)) ?_
            refine S_pure trivial (O_pkt (d := .u (.bool ((decide (y6.1 = y5.1))))) (by kernel_rfl) (by kernel_rfl)) ?_
            exact Rs_weak (W_to (by kernel_rfl) (by kernel_rfl) (by kernel_rfl)) (K10 _ (by rw [hc] <;> rfl))
          · refine S_skip (b := false) (by kernel_rfl) rfl ?_
            refine S_skip (b := false) (by kernel_rfl) rfl ?_
            refine S_skip (b := false) (by kernel_rfl) rfl ?_
            refine S_pure trivial (O_pkf (d := .u (.bool false)) (by kernel_rfl) (by kernel_rfl)) ?_
            exact Rs_weak (W_to (by kernel_rfl) (by kernel_rfl) (by kernel_rfl)) (K10 _ (by rw [hc] <;> rfl))
        refine S_case0 (t := 33) (c := y7) (by kernel_rfl) (fun hc => ?_) (fun hc => ?_)
        · refine S_pure (by show _ = _; kernel_rfl) (O_mv (d := .u (.int .i64 y6.2)) (by kernel_rfl)) ?_
          refine S_pure (by show _ = _; kernel_rfl) (O_eql (k := .i64) (a := y6.2) (b := 0) (by kernel_rfl) (by kernel_rfl)) ?_
          refine S_pure trivial (O_pkt (d := .u (.bool ((decide (y6.2 = 0))))) (by kernel_rfl) (by kernel_rfl)) ?_
          exact Rs_weak (W_to (by kernel_rfl) (by kernel_rfl) (by kernel_rfl)) (K8 _ (by rw [hc] <;> rfl))
        · refine S_skip (b := false) (by kernel_rfl) rfl ?_
          refine S_skip (b := false) (by kernel_rfl) rfl ?_
          refine S_pure trivial (O_pkf (d := .u (.bool false)) (by kernel_rfl) (by kernel_rfl)) ?_
          exact Rs_weak (W_to (by kernel_rfl) (by kernel_rfl) (by kernel_rfl)) (K8 _ (by rw [hc] <;> rfl))
      · refine R_skip ?_
        refine N_s ?_
        refine R_seq ?_
        refine R_reg ?_
        obtain ⟨y12, hy12, h⟩ := bindS h
        refine S_pure trivial (O_ca (us := []) (r := .bool y12) (by kernel_rfl) (law07_awake.ok hy12)) ?_
        refine S_pure trivial (O_mv (d := .u (.bool y12)) (by kernel_rfl)) ?_
        have K13 : ∀ v14 : Bool, v14 = (y12 && (decide (y5.1 = 0))) → Rs Try.prog 56 (retQ [4] (.bool r)) [.s .ret] [⟨some 47, none, .mv (.t 46)⟩, ⟨some 48, some (47, true), .mv (.t 6)⟩, ⟨some 49, some (47, true), .bi .eql (.t 48) (.c (.int .i64 6))⟩, ⟨some 50, some (47, true), .mv (.t 49)⟩, ⟨some 51, some (50, false), .mv (.t 6)⟩, ⟨some 52, some (50, false), .mv (.t 8)⟩, ⟨some 53, some (50, false), .bi .eql (.t 51) (.t 52)⟩, ⟨some 54, some (47, true), .pk (.t 50) (.c (.bool true)) (.t 53)⟩, ⟨some 55, none, .pk (.t 47) (.t 54) (.c (.bool false))⟩, ⟨some 4, none, .mv (.t 55)⟩] (mkSt [(6, .u (.int .i64 y5.2)), (8, .u (.int .i64 y6.2)), (46, .u (.bool v14))] [] 0) := by
          intro v14 e; subst e
          refine S_pure trivial (O_mv (d := .u (.bool ((y12 && (decide (y5.1 = 0)))))) (by kernel_rfl)) ?_
          have K15 : ∀ v16 : Bool, v16 = ((y12 && (decide (y5.1 = 0))) && ((decide (y5.2 = 6)) || (decide (y5.2 = y6.2)))) → Rs Try.prog 56 (retQ [4] (.bool r)) [.s .ret] [⟨some 4, none, .mv (.t 55)⟩] (mkSt [(55, .u (.bool v16))] [] 0) := by
            intro v16 e; subst e
            refine S_pure trivial (O_mv (d := .u (.bool (((y12 && (decide (y5.1 = 0))) && ((decide (y5.2 = 6)) || (decide (y5.2 = y6.2))))))) (by kernel_rfl)) ?_
            refine Rs_nil ?_
            refine N_s ?_
            obtain rfl := (Option.some.inj h)
            refine R_ret ?_
            exact Q_ret (x := .bool (((y12 && (decide (y5.1 = 0))) && ((decide (y5.2 = 6)) || (decide (y5.2 = y6.2)))))) (by kernel_rfl) (.refl _)
          refine S_case0 (t := 47) (c := (y12 && (decide (y5.1 = 0)))) (by kernel_rfl) (fun hc => ?_) (fun hc => ?_)
          · refine S_pure (by show _ = _; kernel_rfl) (O_mv (d := .u (.int .i64 y5.2)) (by kernel_rfl)) ?_
            refine S_pure (by show _ = _; kernel_rfl) (O_eql (k := .i64) (a := y5.2) (b := 6) (by kernel_rfl) (by kernel_rfl)) ?_
            refine S_pure (by show _ = _; kernel_rfl) (O_mv (d := .u (.bool ((decide (y5.2 = 6))))) (by kernel_rfl)) ?_
            have K17 : ∀ v18 : Bool, v18 = ((decide (y5.2 = 6)) || (decide (y5.2 = y6.2))) → Rs Try.prog 56 (retQ [4] (.bool r)) [.s .ret] [⟨some 55, none, .pk (.t 47) (.t 54) (.c (.bool false))⟩, ⟨some 4, none, .mv (.t 55)⟩] (mkSt [(47, .u (.bool true)), (54, .u (.bool v18))] [] 0) := by
              intro v18 e; subst e
              refine S_pure trivial (O_pkt (d := .u (.bool (((decide (y5.2 = 6)) || (decide (y5.2 = y6.2)))))) (by kernel_rfl) (by kernel_rfl)) ?_
              exact Rs_weak (W_to (by kernel_rfl) (by kernel_rfl) (by kernel_rfl)) (K15 _ (by rw [hc] <;> rfl))
            refine S_case0 (t := 50) (c := (decide (y5.2 = 6))) (by kernel_rfl) (fun hc => ?_) (fun hc => ?_)
            · refine S_skip (b := true) (by kernel_rfl) rfl ?_
              refine S_skip (b := true) (by kernel_rfl) rfl ?_
              refine S_skip (b := true) (by kernel_rfl) rfl ?_
              refine S_pure (by show _ = _; kernel_rfl) (O_pkt (d := .u (.bool true)) (by kernel_rfl) (by kernel_rfl)) ?_
              exact Rs_weak (W_to (by kernel_rfl) (by kernel_rfl) (by kernel_rfl)) (K17 _ (by rw [hc] <;> rfl))
            · refine S_pure (by show _ = _; kernel_rfl) (O_mv (d := .u (.int .i64 y5.2)) (by kernel_rfl)) ?_
              refine S_pure (by show _ = _; kernel_rfl) (O_mv (d := .u (.int .i64 y6.2)) (by kernel_rfl)) ?_
              refine S_pure (by show _ = _; kernel_rfl) (O_eql (k := .i64) (a := y5.2) (b := y6.2) (by kernel_rfl) (by kernel_rfl)) ?_
              refine S_pure (by show _ = _; kernel_rfl) (O_pkf (d := .u (.bool ((decide (y5.2 = y6.2))))) (by kernel_rfl) (by kernel_rfl)) ?_
              exact Rs_weak (W_to (by kernel_rfl) (by kernel_rfl) (by kernel_rfl)) (K17 _ (by rw [hc] <;> rfl))
          · refine S_skip (b := false) (by kernel_rfl) rfl ?_
            refine S_skip (b := false) (by kernel_rfl) rfl ?_
            refine S_skip (b := false) (by kernel_rfl) rfl ?_
            refine S_skipu (by kernel_rfl) ?_
            refine S_skipu (by kernel_rfl) ?_
            refine S_skipu (by kernel_rfl) ?_
            refine S_skip (b := false) (by kernel_rfl) rfl ?_
            refine S_pure trivial (O_pkf (d := .u (.bool false)) (by kernel_rfl) (by kernel_rfl)) ?_
            exact Rs_weak (W_to (by kernel_rfl) (by kernel_rfl) (by kernel_rfl)) (K15 _ (by rw [hc] <;> rfl))
        refine S_case0 (t := 43) (c := y12) (by kernel_rfl) (fun hc => ?_) (fun hc => ?_)
        · refine S_pure (by show _ = _; kernel_rfl) (O_mv (d := .u (.int .i64 y5.1)) (by kernel_rfl)) ?_
          refine S_pure (by show _ = _; kernel_rfl) (O_eql (k := .i64) (a := y5.1) (b := 0) (by kernel_rfl) (by kernel_rfl)) ?_
          refine S_pure trivial (O_pkt (d := .u (.bool ((decide (y5.1 = 0))))) (by kernel_rfl) (by kernel_rfl)) ?_
          exact Rs_weak (W_to (by kernel_rfl) (by kernel_rfl) (by kernel_rfl)) (K13 _ (by rw [hc] <;> rfl))
        · refine S_skip (b := false) (by kernel_rfl) rfl ?_
          refine S_skip (b := false) (by kernel_rfl) rfl ?_
          refine S_pure trivial (O_pkf (d := .u (.bool false)) (by kernel_rfl) (by kernel_rfl)) ?_
          exact Rs_weak (W_to (by kernel_rfl) (by kernel_rfl) (by kernel_rfl)) (K13 _ (by rw [hc] <;> rfl))
  refine S_case0 (t := 12) (c := (!y1)) (by kernel_rfl) (fun hc => ?_) (fun hc => ?_)
  · refine S_skip (b := true) (by kernel_rfl) rfl ?_
    refine S_skip (b := true) (by kernel_rfl) rfl ?_
    refine S_skip (b := true) (by kernel_rfl) rfl ?_
    refine S_pure trivial (O_pkt (d := .u (.bool true)) (by kernel_rfl) (by kernel_rfl)) ?_
    exact Rs_weak (W_to (by kernel_rfl) (by kernel_rfl) (by kernel_rfl)) (K2 _ (by rw [hc] <;> rfl))
  · refine S_pure (by show _ = _; kernel_rfl) (O_mv (d := .u (.sl (List.map (cInt .i64) kinds_1))) (by kernel_rfl)) ?_
    refine S_pure (by show _ = _; kernel_rfl) (O_ln (c := (cInt .i64)) (li := kinds_1) (by kernel_rfl)) ?_
    refine S_pure (by show _ = _; kernel_rfl) (O_gtr (k := .i64) (a := (List.length kinds_1 : Int)) (b := 10) (by kernel_rfl) (by kernel_rfl)) ?_
    refine S_pure trivial (O_pkf (d := .u (.bool ((decide (10 < (List.length kinds_1 : Int)))))) (by kernel_rfl) (by kernel_rfl)) ?_
    exact Rs_weak (W_to (by kernel_rfl) (by kernel_rfl) (by kernel_rfl)) (K2 _ (by rw [hc] <;> rfl))

end Go.Proofs.Ytkpghgnbbfpbmaa
