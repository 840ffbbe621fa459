/- Functions of the program over typed data, and that the program's functions come to their results: written by a program (lift.py). -/
import Derived.Test.YtkpghgnbbfpbmaaL07a
import Derived.Test.YtkpghgnbbfpbmaaChecked
set_option linter.unusedVariables false
set_option maxRecDepth 100000
set_option maxHeartbeats 1000000
namespace Go.Proofs.Ytkpghgnbbfpbmaa

/-! ### selfstab/term.End -/
def q_term_End_1 : AC := .reg [⟨some 4, none, .mv (.c (.int .i64 (-1)))⟩]
def q_term_End_2 : AC := .seq q_term_End_1 .ret
def q_term_End_3 : AC := .cond (.t 24) q_term_End_2 .skip
def q_term_End_4 : AC := .reg [⟨some 25, none, .mv (.t 5)⟩, ⟨some 26, none, .mv (.t 0)⟩, ⟨some 27, none, .mv (.t 1)⟩, ⟨some 28, none, .ia 2 (.t 26) (.t 27)⟩, ⟨some 29, none, .fa 0 (.t 28)⟩, ⟨some 30, none, .ld false 1 (.t 29)⟩, ⟨some 31, none, .ca 102 [.t 30]⟩, ⟨some 32, none, .bi .sub (.t 31) (.c (.int .i64 1))⟩, ⟨some 33, none, .bi .add (.t 25) (.t 32)⟩, ⟨some 5, none, .mv (.t 33)⟩]
def q_term_End_5 : AC := .reg [⟨some 10, none, .mv (.t 1)⟩, ⟨some 11, none, .bi .add (.t 10) (.c (.int .i64 1))⟩, ⟨some 1, none, .mv (.t 11)⟩]
def q_term_End_6 : AC := .reg [⟨some 34, none, .mv (.t 1)⟩, ⟨some 4, none, .mv (.t 34)⟩]
def q_term_End_7 : AC := .seq q_term_End_6 .ret
def q_term_End_8 : AC := .reg [⟨some 12, none, .mv (.t 1)⟩, ⟨some 13, none, .mv (.t 0)⟩, ⟨some 14, none, .ln (.t 13)⟩, ⟨some 15, none, .bi .geq (.t 12) (.t 14)⟩, ⟨some 16, none, .mv (.t 15)⟩, ⟨some 17, some (16, false), .mv (.t 0)⟩, ⟨some 18, some (16, false), .mv (.t 1)⟩, ⟨some 19, some (16, false), .ia 2 (.t 17) (.t 18)⟩, ⟨some 20, some (16, false), .fa 0 (.t 19)⟩, ⟨some 21, some (16, false), .ld false 1 (.t 20)⟩, ⟨some 22, some (16, false), .ca 102 [.t 21]⟩, ⟨some 23, some (16, false), .bi .lss (.t 22) (.c (.int .i64 0))⟩, ⟨some 24, none, .pk (.t 16) (.c (.bool true)) (.t 23)⟩]
def q_term_End_9 : AC := .seq q_term_End_8 q_term_End_3
def q_term_End_10 : AC := .seq q_term_End_9 q_term_End_4
def q_term_End_11 : AC := .block 1 q_term_End_10
def q_term_End_12 : AC := .seq q_term_End_11 q_term_End_5
def q_term_End_13 : AC := .cond (.t 9) .skip (.exit 0)
def q_term_End_14 : AC := .reg [⟨some 8, none, .mv (.t 5)⟩, ⟨some 9, none, .bi .gtr (.t 8) (.c (.int .i64 0))⟩]
def q_term_End_15 : AC := .seq q_term_End_14 q_term_End_13
def q_term_End_16 : AC := .seq q_term_End_15 q_term_End_12
def q_term_End_17 : AC := .loop q_term_End_16
def q_term_End_18 : AC := .block 0 q_term_End_17
def q_term_End_19 : AC := .reg [⟨some 5, none, .mv (.c (.int .i64 1))⟩]
def q_term_End_20 : AC := .seq q_term_End_19 q_term_End_18
def q_term_End_21 : AC := .seq q_term_End_20 q_term_End_7
def q_term_End_22 : AC := .reg [⟨some 4, none, .mv (.c (.int .i64 (-1)))⟩]
def q_term_End_23 : AC := .seq q_term_End_22 .ret
def q_term_End_24 : AC := .cond (.t 7) q_term_End_23 .skip
def q_term_End_25 : AC := .reg [⟨some 6, none, .mv (.t 1)⟩, ⟨some 7, none, .bi .lss (.t 6) (.c (.int .i64 0))⟩]
def q_term_End_26 : AC := .seq q_term_End_25 q_term_End_24
def q_term_End_27 : AC := .seq q_term_End_26 q_term_End_21
def q_term_End_28 : AC := .reg [⟨some 4, none, .mv (.c (.int .i64 0))⟩]
def q_term_End_29 : AC := .seq q_term_End_28 q_term_End_27
def c_term_End : FC := ⟨35, [4], q_term_End_29⟩
theorem k_term_End : okF Try.prog 96 c_term_End = true := by decide +kernel
noncomputable def term_End.l16 (e_0 : List ApiTerm) (s7 : Int × Int) : Option ((Int × Int) ⊕ (Int ⊕ Int)) := (bif (decide (0 < s7.2)) then ((bif (decide ((List.length e_0 : Int) ≤ s7.1)) then (some true) else ((idx e_0 s7.1).bind (fun (y14 : ApiTerm) => ((term_Arity y14.Op).bind (fun (y15 : Int) => (some (decide (y15 < 0)))))))).bind (fun (o11 : Bool) => (bif o11 then (some (Sum.inr (Sum.inr (-1)))) else ((idx e_0 s7.1).bind (fun (y12 : ApiTerm) => ((term_Arity y12.Op).bind (fun (y13 : Int) => (some (Sum.inl ((IntKind.i64.wrap (s7.1 + 1)), (IntKind.i64.wrap (s7.2 + (IntKind.i64.wrap (y13 - 1)))))))))))))) else (some (Sum.inr (Sum.inl s7.1))))
noncomputable def term_End (e_0 : List ApiTerm) (at_1 : Int) : Option Int := (bif (decide (at_1 < 0)) then (some (-1)) else ((loopO (term_End.l16 e_0) (at_1, 1)).bind (Sum.elim (fun (w3 : Int) => (some w3)) (fun (w5 : Int) => (some w5)))))
theorem term_End.ok {e_0 : List ApiTerm} {at_1 : Int} {r : Int} (h : term_End e_0 at_1 = some r) : PC Try.prog 96 [.sl (List.map ApiTerm.cells e_0), .int .i64 at_1] (.int .i64 r) := by
  refine PC_run k_term_End rfl (L := [(0, .u (.sl (List.map ApiTerm.cells e_0))), (1, .u (.int .i64 at_1))]) rfl ?_
  show Run Try.prog 35 (retQ [4] (.int .i64 r)) [] q_term_End_29 _
  refine R_seq ?_
  refine R_reg ?_
  refine S_pure trivial (O_mv (d := .u (.int .i64 0)) (by kernel_rfl)) ?_
  refine Rs_nil ?_
  refine N_s ?_
  refine R_seq ?_
  refine R_seq ?_
  refine R_reg ?_
  refine S_pure trivial (O_mv (d := .u (.int .i64 at_1)) (by kernel_rfl)) ?_
  refine S_pure trivial (O_lss (k := .i64) (a := at_1) (b := 0) (by kernel_rfl) (by kernel_rfl)) ?_
  refine Rs_nil ?_
  refine N_s ?_
  refine R_cond (c := (decide (at_1 < 0))) (by kernel_rfl) h (fun h => ?_) (fun h => ?_)
  · refine R_seq ?_
    refine R_reg ?_
    refine S_pure trivial (O_mv (d := .u (.int .i64 ((-1)))) (by kernel_rfl)) ?_
    refine Rs_nil ?_
    refine N_s ?_
    obtain rfl := (Option.some.inj h)
    refine R_ret ?_
    exact Q_ret (x := .int .i64 ((-1))) (by kernel_rfl) (.refl _)
  · refine R_skip ?_
    refine N_s ?_
    refine R_seq ?_
    refine R_seq ?_
    refine R_reg ?_
    refine S_pure trivial (O_mv (d := .u (.int .i64 1)) (by kernel_rfl)) ?_
    refine Rs_nil ?_
    refine N_s ?_
    refine R_block ?_
    obtain ⟨o1, hE, h⟩ := bindS h
    have K4 : ∀ (w3 : Int), (Sum.inl w3) = o1 → Run Try.prog 35 (retQ [4] (.int .i64 r)) [] q_term_End_7 (mkSt [(1, .u (.int .i64 w3))] [] 0) := by
      intro w3 e; subst e
      replace h := elimL h
      refine R_seq ?_
      refine R_reg ?_
      refine S_pure trivial (O_mv (d := .u (.int .i64 w3)) (by kernel_rfl)) ?_
      refine S_pure trivial (O_mv (d := .u (.int .i64 w3)) (by kernel_rfl)) ?_
      refine Rs_nil ?_
      refine N_s ?_
      obtain rfl := (Option.some.inj h)
      refine R_ret ?_
      exact Q_ret (x := .int .i64 w3) (by kernel_rfl) (.refl _)
    have K6 : ∀ (w5 : Int), (Sum.inr w5) = o1 → w5 = r := by
      intro w5 e; subst e
      replace h := elimR h
      exact Option.some.inj h
    refine R_loop (term_End.l16 e_0) (fun s7 => (mkSt [(0, .u (.sl (List.map ApiTerm.cells e_0))), (1, .u (.int .i64 s7.1)), (5, .u (.int .i64 s7.2))] [] 0)) hE (W_to (by kernel_rfl) (by kernel_rfl) (by kernel_rfl)) ?_
    intro K2 s7 x8 h hK2 hO2
    refine R_seq ?_
    refine R_seq ?_
    refine R_reg ?_
    refine S_pure trivial (O_mv (d := .u (.int .i64 s7.2)) (by kernel_rfl)) ?_
    refine S_pure trivial (O_gtr (k := .i64) (a := s7.2) (b := 0) (by kernel_rfl) (by kernel_rfl)) ?_
    refine Rs_nil ?_
    refine N_s ?_
    refine R_cond (c := (decide (0 < s7.2))) (by kernel_rfl) h (fun h => ?_) (fun h => ?_)
    · refine R_skip ?_
      refine N_s ?_
      refine R_seq ?_
      refine R_block ?_
      refine R_seq ?_
      refine R_seq ?_
      refine R_reg ?_
      refine S_pure trivial (O_mv (d := .u (.int .i64 s7.1)) (by kernel_rfl)) ?_
      refine S_pure trivial (O_mv (d := .u (.sl (List.map ApiTerm.cells e_0))) (by kernel_rfl)) ?_
      refine S_pure trivial (O_ln (c := ApiTerm.cells) (li := e_0) (by kernel_rfl)) ?_
      refine S_pure trivial (O_geq (k := .i64) (a := s7.1) (b := (List.length e_0 : Int)) (by kernel_rfl) (by kernel_rfl)) ?_
      refine S_pure trivial (O_mv (d := .u (.bool ((decide ((List.length e_0 : Int) ≤ s7.1))))) (by kernel_rfl)) ?_
      obtain ⟨o11, hE, h⟩ := bindS h
      have K9 : Rs Try.prog 35 (retQ [4] (.int .i64 r)) [.s q_term_End_3, .s q_term_End_4, .b 1, .s q_term_End_5, .k K2, .b 0, .s q_term_End_7] [] (mkSt [(0, .u (.sl (List.map ApiTerm.cells e_0))), (1, .u (.int .i64 s7.1)), (5, .u (.int .i64 s7.2)), (24, .u (.bool o11))] [] 0) := by
        refine Rs_nil ?_
        refine N_s ?_
        refine R_cond (c := o11) (by kernel_rfl) h (fun h => ?_) (fun h => ?_)
        · refine R_seq ?_
          refine R_reg ?_
          refine S_pure trivial (O_mv (d := .u (.int .i64 ((-1)))) (by kernel_rfl)) ?_
          refine Rs_nil ?_
          refine N_s ?_
          obtain rfl := (K6 _ (hO2 _ h))
          refine R_ret ?_
          exact Q_ret (x := .int .i64 ((-1))) (by kernel_rfl) (.refl _)
        · refine R_skip ?_
          refine N_s ?_
          refine R_reg ?_
          refine S_pure trivial (O_mv (d := .u (.int .i64 s7.2)) (by kernel_rfl)) ?_
          refine S_pure trivial (O_mv (d := .u (.sl (List.map ApiTerm.cells e_0))) (by kernel_rfl)) ?_
          refine S_pure trivial (O_mv (d := .u (.int .i64 s7.1)) (by kernel_rfl)) ?_
          obtain ⟨y12, hy12, h⟩ := bindS h
          refine S_pure trivial (O_ia (c := ApiTerm.cells) (li := e_0) (i := s7.1) (k := .i64) (a := y12) (u := ApiTerm.cells y12) (by kernel_rfl) (by kernel_rfl) hy12 rfl rfl) ?_
          refine S_pure trivial (O_faf (cells := ApiTerm.cells y12) (o := 0) (by kernel_rfl)) ?_
          refine S_pure trivial (O_ldf (cells := ApiTerm.cells y12) (off := 0) (u := .int .i64 y12.Op) (by kernel_rfl) (by kernel_rfl)) ?_
          obtain ⟨y13, hy13, h⟩ := bindS h
          refine S_pure trivial (O_ca (us := [.int .i64 y12.Op]) (r := .int .i64 y13) (by kernel_rfl) (term_Arity.ok hy13)) ?_
          refine S_pure trivial (O_sub (k := .i64) (a := y13) (b := 1) (by kernel_rfl) (by kernel_rfl)) ?_
          refine S_pure trivial (O_add (k := .i64) (a := s7.2) (b := (IntKind.i64.wrap (y13 - 1))) (by kernel_rfl) (by kernel_rfl)) ?_
          refine S_pure trivial (O_mv (d := .u (.int .i64 ((IntKind.i64.wrap (s7.2 + (IntKind.i64.wrap (y13 - 1))))))) (by kernel_rfl)) ?_
          refine Rs_nil ?_
          refine N_b ?_
          refine N_s ?_
          refine R_reg ?_
          refine S_pure trivial (O_mv (d := .u (.int .i64 s7.1)) (by kernel_rfl)) ?_
          refine S_pure trivial (O_add (k := .i64) (a := s7.1) (b := 1) (by kernel_rfl) (by kernel_rfl)) ?_
          refine S_pure trivial (O_mv (d := .u (.int .i64 ((IntKind.i64.wrap (s7.1 + 1))))) (by kernel_rfl)) ?_
          refine Rs_nil ?_
          exact N_k (hK2 _ h _ (W_to (by kernel_rfl) (by kernel_rfl) (by kernel_rfl)))
      replace h := hE
      refine S_case (t := 16) (c := (decide ((List.length e_0 : Int) ≤ s7.1))) (by kernel_rfl) h (fun hc h => ?_) (fun hc h => ?_)
      · refine S_skip (b := true) (by kernel_rfl) rfl ?_
        refine S_skip (b := true) (by kernel_rfl) rfl ?_
        refine S_skip (b := true) (by kernel_rfl) rfl ?_
        refine S_skip (b := true) (by kernel_rfl) rfl ?_
        refine S_skip (b := true) (by kernel_rfl) rfl ?_
        refine S_skip (b := true) (by kernel_rfl) rfl ?_
        refine S_skip (b := true) (by kernel_rfl) rfl ?_
        refine S_pure trivial (O_pkt (d := .u (.bool true)) (by kernel_rfl) (by kernel_rfl)) ?_
        obtain rfl := Option.some.inj h
        exact Rs_weak (W_to (by kernel_rfl) (by kernel_rfl) (by kernel_rfl)) K9
      · refine S_pure (by show _ = _; kernel_rfl) (O_mv (d := .u (.sl (List.map ApiTerm.cells e_0))) (by kernel_rfl)) ?_
        refine S_pure (by show _ = _; kernel_rfl) (O_mv (d := .u (.int .i64 s7.1)) (by kernel_rfl)) ?_
        obtain ⟨y14, hy14, h⟩ := bindS h
        refine S_pure (by show _ = _; kernel_rfl) (O_ia (c := ApiTerm.cells) (li := e_0) (i := s7.1) (k := .i64) (a := y14) (u := ApiTerm.cells y14) (by kernel_rfl) (by kernel_rfl) hy14 rfl rfl) ?_
        refine S_pure (by show _ = _; kernel_rfl) (O_faf (cells := ApiTerm.cells y14) (o := 0) (by kernel_rfl)) ?_
        refine S_pure (by show _ = _; kernel_rfl) (O_ldf (cells := ApiTerm.cells y14) (off := 0) (u := .int .i64 y14.Op) (by kernel_rfl) (by kernel_rfl)) ?_
        obtain ⟨y15, hy15, h⟩ := bindS h
        refine S_pure (by show _ = _; kernel_rfl) (O_ca (us := [.int .i64 y14.Op]) (r := .int .i64 y15) (by kernel_rfl) (term_Arity.ok hy15)) ?_
        refine S_pure (by show _ = _; kernel_rfl) (O_lss (k := .i64) (a := y15) (b := 0) (by kernel_rfl) (by kernel_rfl)) ?_
        refine S_pure trivial (O_pkf (d := .u (.bool ((decide (y15 < 0))))) (by kernel_rfl) (by kernel_rfl)) ?_
        obtain rfl := Option.some.inj h
        exact Rs_weak (W_to (by kernel_rfl) (by kernel_rfl) (by kernel_rfl)) K9
    · refine R_exit ?_
      refine E_s ?_
      refine E_k ?_
      refine E_b ?_
      refine N_s ?_
      exact R_weak (W_to (by kernel_rfl) (by kernel_rfl) (by kernel_rfl)) (K4 _ (hO2 _ h))

/-! ### selfstab/term.one -/
def q_term_one_1 : AC := .reg [⟨some 3, none, .mv (.t 0)⟩, ⟨some 4, none, .ca 96 [.t 3, .c (.int .i64 0)]⟩, ⟨some 5, none, .mv (.t 0)⟩, ⟨some 6, none, .ln (.t 5)⟩, ⟨some 7, none, .bi .eql (.t 4) (.t 6)⟩, ⟨some 2, none, .mv (.t 7)⟩]
def q_term_one_2 : AC := .seq q_term_one_1 .ret
def q_term_one_3 : AC := .reg [⟨some 2, none, .mv (.c (.bool false))⟩]
def q_term_one_4 : AC := .seq q_term_one_3 q_term_one_2
def c_term_one : FC := ⟨8, [2], q_term_one_4⟩
theorem k_term_one : okF Try.prog 79 c_term_one = true := by decide +kernel
noncomputable def term_one (e_0 : List ApiTerm) : Option Bool := ((term_End e_0 0).bind (fun (y1 : Int) => (some (decide (y1 = (List.length e_0 : Int))))))
theorem term_one.ok {e_0 : List ApiTerm} {r : Bool} (h : term_one e_0 = some r) : PC Try.prog 79 [.sl (List.map ApiTerm.cells e_0)] (.bool r) := by
  refine PC_run k_term_one rfl (L := [(0, .u (.sl (List.map ApiTerm.cells e_0)))]) rfl ?_
  show Run Try.prog 8 (retQ [2] (.bool r)) [] q_term_one_4 _
  refine R_seq ?_
  refine R_reg ?_
  refine S_pure trivial (O_mv (d := .u (.bool false)) (by kernel_rfl)) ?_
  refine Rs_nil ?_
  refine N_s ?_
  refine R_seq ?_
  refine R_reg ?_
  refine S_pure trivial (O_mv (d := .u (.sl (List.map ApiTerm.cells e_0))) (by kernel_rfl)) ?_
  obtain ⟨y1, hy1, h⟩ := bindS h
  refine S_pure trivial (O_ca (us := [.sl (List.map ApiTerm.cells e_0), .int .i64 0]) (r := .int .i64 y1) (by kernel_rfl) (term_End.ok hy1)) ?_
  refine S_pure trivial (O_mv (d := .u (.sl (List.map ApiTerm.cells e_0))) (by kernel_rfl)) ?_
  refine S_pure trivial (O_ln (c := ApiTerm.cells) (li := e_0) (by kernel_rfl)) ?_
  refine S_pure trivial (O_eql (k := .i64) (a := y1) (b := (List.length e_0 : Int)) (by kernel_rfl) (by kernel_rfl)) ?_
  refine S_pure trivial (O_mv (d := .u (.bool ((decide (y1 = (List.length e_0 : Int)))))) (by kernel_rfl)) ?_
  refine Rs_nil ?_
  refine N_s ?_
  obtain rfl := (Option.some.inj h)
  refine R_ret ?_
  exact Q_ret (x := .bool ((decide (y1 = (List.length e_0 : Int))))) (by kernel_rfl) (.refl _)

/-! ### selfstab/term.Depth$1 -/
def q_term_Depth_1_1 : AC := .reg [⟨some 5, none, .mv (.t 1)⟩, ⟨some 6, none, .bi .add (.t 5) (.c (.int .i64 1))⟩, ⟨some 4, none, .mv (.t 6)⟩]
def q_term_Depth_1_2 : AC := .seq q_term_Depth_1_1 .ret
def q_term_Depth_1_3 : AC := .reg [⟨some 4, none, .mv (.c (.int .i64 0))⟩]
def q_term_Depth_1_4 : AC := .seq q_term_Depth_1_3 q_term_Depth_1_2
def c_term_Depth_1 : FC := ⟨7, [4], q_term_Depth_1_4⟩
theorem k_term_Depth_1 : okF Try.prog 98 c_term_Depth_1 = true := by decide +kernel
noncomputable def term_Depth_1 (a_0 : Int) (most_1 : Int) : Option Int := (some (IntKind.i64.wrap (most_1 + 1)))
theorem term_Depth_1.ok {a_0 : Int} {most_1 : Int} {r : Int} (h : term_Depth_1 a_0 most_1 = some r) : PC Try.prog 98 [.int .i64 a_0, .int .i64 most_1] (.int .i64 r) := by
  refine PC_run k_term_Depth_1 rfl (L := [(0, .u (.int .i64 a_0)), (1, .u (.int .i64 most_1))]) rfl ?_
  show Run Try.prog 7 (retQ [4] (.int .i64 r)) [] q_term_Depth_1_4 _
  refine R_seq ?_
  refine R_reg ?_
  refine S_pure trivial (O_mv (d := .u (.int .i64 0)) (by kernel_rfl)) ?_
  refine Rs_nil ?_
  refine N_s ?_
  refine R_seq ?_
  refine R_reg ?_
  refine S_pure trivial (O_mv (d := .u (.int .i64 most_1)) (by kernel_rfl)) ?_
  refine S_pure trivial (O_add (k := .i64) (a := most_1) (b := 1) (by kernel_rfl) (by kernel_rfl)) ?_
  refine S_pure trivial (O_mv (d := .u (.int .i64 ((IntKind.i64.wrap (most_1 + 1))))) (by kernel_rfl)) ?_
  refine Rs_nil ?_
  refine N_s ?_
  obtain rfl := (Option.some.inj h)
  refine R_ret ?_
  exact Q_ret (x := .int .i64 ((IntKind.i64.wrap (most_1 + 1)))) (by kernel_rfl) (.refl _)

/-! ### selfstab/term.fold -/
def q_term_fold_term_Depth_1_1 : AC := .reg [⟨some 16, none, .mv (.t 6)⟩, ⟨some 17, none, .bi .sub (.t 16) (.c (.int .i64 1))⟩, ⟨some 6, none, .mv (.t 17)⟩]
def q_term_fold_term_Depth_1_2 : AC := .reg [⟨some 51, none, .mv (.t 5)⟩, ⟨some 52, none, .ia 1 (.t 51) (.c (.int .i64 0))⟩, ⟨some 53, none, .ld false 1 (.t 52)⟩, ⟨some 4, none, .mv (.t 53)⟩]
def q_term_fold_term_Depth_1_3 : AC := .seq q_term_fold_term_Depth_1_2 .ret
def q_term_fold_term_Depth_1_4 : AC := .reg [⟨some 40, none, .mv (.t 5)⟩, ⟨some 41, none, .mv (.t 1)⟩, ⟨some 42, none, .mv (.t 0)⟩, ⟨some 43, none, .mv (.t 6)⟩, ⟨some 44, none, .ia 2 (.t 42) (.t 43)⟩, ⟨some 45, none, .fa 0 (.t 44)⟩, ⟨some 46, none, .ld false 1 (.t 45)⟩, ⟨some 47, none, .mv (.t 7)⟩, ⟨some 48, none, .cl (.t 41) [.t 46, .t 47]⟩, ⟨some 49, none, .bs 1 [.t 48]⟩, ⟨some 50, none, .ap 1 8 (.t 40) (.t 49)⟩, ⟨some 5, none, .mv (.t 50)⟩]
def q_term_fold_term_Depth_1_5 : AC := .reg [⟨some 39, none, .bi .add (.t 24) (.c (.int .i64 1))⟩, ⟨some 24, none, .mv (.t 39)⟩]
def q_term_fold_term_Depth_1_6 : AC := .reg [⟨some 34, none, .mv (.t 5)⟩, ⟨some 35, none, .mv (.t 5)⟩, ⟨some 36, none, .ln (.t 35)⟩, ⟨some 37, none, .bi .sub (.t 36) (.c (.int .i64 1))⟩, ⟨some 38, none, .sl 1 (.t 34) none (some (.t 37))⟩, ⟨some 5, none, .mv (.t 38)⟩]
def q_term_fold_term_Depth_1_7 : AC := .reg [⟨some 26, none, .mv (.t 7)⟩, ⟨some 27, none, .mv (.t 5)⟩, ⟨some 28, none, .mv (.t 5)⟩, ⟨some 29, none, .ln (.t 28)⟩, ⟨some 30, none, .bi .sub (.t 29) (.c (.int .i64 1))⟩, ⟨some 31, none, .ia 1 (.t 27) (.t 30)⟩, ⟨some 32, none, .ld false 1 (.t 31)⟩, ⟨some 33, none, .mx [.t 26, .t 32]⟩, ⟨some 7, none, .mv (.t 33)⟩]
def q_term_fold_term_Depth_1_8 : AC := .seq q_term_fold_term_Depth_1_7 q_term_fold_term_Depth_1_6
def q_term_fold_term_Depth_1_9 : AC := .block 3 q_term_fold_term_Depth_1_8
def q_term_fold_term_Depth_1_10 : AC := .seq q_term_fold_term_Depth_1_9 q_term_fold_term_Depth_1_5
def q_term_fold_term_Depth_1_11 : AC := .cond (.t 25) .skip (.exit 2)
def q_term_fold_term_Depth_1_12 : AC := .seq q_term_fold_term_Depth_1_11 q_term_fold_term_Depth_1_10
def q_term_fold_term_Depth_1_13 : AC := .reg [⟨some 25, none, .bi .lss (.t 24) (.t 23)⟩]
def q_term_fold_term_Depth_1_14 : AC := .seq q_term_fold_term_Depth_1_13 q_term_fold_term_Depth_1_12
def q_term_fold_term_Depth_1_15 : AC := .loop q_term_fold_term_Depth_1_14
def q_term_fold_term_Depth_1_16 : AC := .block 2 q_term_fold_term_Depth_1_15
def q_term_fold_term_Depth_1_17 : AC := .reg [⟨some 18, none, .mv (.t 0)⟩, ⟨some 19, none, .mv (.t 6)⟩, ⟨some 20, none, .ia 2 (.t 18) (.t 19)⟩, ⟨some 21, none, .fa 0 (.t 20)⟩, ⟨some 22, none, .ld false 1 (.t 21)⟩, ⟨some 23, none, .ca 102 [.t 22]⟩, ⟨some 24, none, .mv (.c (.int .i64 0))⟩]
def q_term_fold_term_Depth_1_18 : AC := .seq q_term_fold_term_Depth_1_17 q_term_fold_term_Depth_1_16
def q_term_fold_term_Depth_1_19 : AC := .seq q_term_fold_term_Depth_1_18 q_term_fold_term_Depth_1_4
def q_term_fold_term_Depth_1_20 : AC := .reg [⟨some 7, none, .mv (.c (.int .i64 0))⟩]
def q_term_fold_term_Depth_1_21 : AC := .seq q_term_fold_term_Depth_1_20 q_term_fold_term_Depth_1_19
def q_term_fold_term_Depth_1_22 : AC := .block 1 q_term_fold_term_Depth_1_21
def q_term_fold_term_Depth_1_23 : AC := .seq q_term_fold_term_Depth_1_22 q_term_fold_term_Depth_1_1
def q_term_fold_term_Depth_1_24 : AC := .cond (.t 15) .skip (.exit 0)
def q_term_fold_term_Depth_1_25 : AC := .reg [⟨some 14, none, .mv (.t 6)⟩, ⟨some 15, none, .bi .geq (.t 14) (.c (.int .i64 0))⟩]
def q_term_fold_term_Depth_1_26 : AC := .seq q_term_fold_term_Depth_1_25 q_term_fold_term_Depth_1_24
def q_term_fold_term_Depth_1_27 : AC := .seq q_term_fold_term_Depth_1_26 q_term_fold_term_Depth_1_23
def q_term_fold_term_Depth_1_28 : AC := .loop q_term_fold_term_Depth_1_27
def q_term_fold_term_Depth_1_29 : AC := .block 0 q_term_fold_term_Depth_1_28
def q_term_fold_term_Depth_1_30 : AC := .reg [⟨some 11, none, .mv (.t 0)⟩, ⟨some 12, none, .ln (.t 11)⟩, ⟨some 13, none, .bi .sub (.t 12) (.c (.int .i64 1))⟩, ⟨some 6, none, .mv (.t 13)⟩]
def q_term_fold_term_Depth_1_31 : AC := .seq q_term_fold_term_Depth_1_30 q_term_fold_term_Depth_1_29
def q_term_fold_term_Depth_1_32 : AC := .seq q_term_fold_term_Depth_1_31 q_term_fold_term_Depth_1_3
def q_term_fold_term_Depth_1_33 : AC := .reg [⟨some 5, none, .mv (.c (.nil))⟩]
def q_term_fold_term_Depth_1_34 : AC := .seq q_term_fold_term_Depth_1_33 q_term_fold_term_Depth_1_32
def q_term_fold_term_Depth_1_35 : AC := .reg [⟨some 4, none, .mv (.c (.int .i64 0))⟩]
def q_term_fold_term_Depth_1_36 : AC := .seq q_term_fold_term_Depth_1_35 .ret
def q_term_fold_term_Depth_1_37 : AC := .cond (.t 10) q_term_fold_term_Depth_1_36 .skip
def q_term_fold_term_Depth_1_38 : AC := .reg [⟨some 8, none, .mv (.t 0)⟩, ⟨some 9, none, .ca 79 [.t 8]⟩, ⟨some 10, none, .un .not (.t 9)⟩]
def q_term_fold_term_Depth_1_39 : AC := .seq q_term_fold_term_Depth_1_38 q_term_fold_term_Depth_1_37
def q_term_fold_term_Depth_1_40 : AC := .seq q_term_fold_term_Depth_1_39 q_term_fold_term_Depth_1_34
def q_term_fold_term_Depth_1_41 : AC := .reg [⟨some 4, none, .mv (.c (.int .i64 0))⟩]
def q_term_fold_term_Depth_1_42 : AC := .seq q_term_fold_term_Depth_1_41 q_term_fold_term_Depth_1_40
def c_term_fold_term_Depth_1 : FC := ⟨54, [4], q_term_fold_term_Depth_1_42⟩
theorem k_term_fold_term_Depth_1 : okF Try.prog 97 c_term_fold_term_Depth_1 = true := by decide +kernel
noncomputable def term_fold_term_Depth_1.l21 (y10 : Int) (s17 : Int × Int × (List Int)) : Option ((Int × Int × (List Int)) ⊕ ((Int × (List Int)))) := (bif (decide (s17.2.1 < y10)) then ((idx s17.2.2 ((IntKind.i64.wrap ((s17.2.2.length : Int) - 1)))).bind (fun (y19 : Int) => ((slc s17.2.2 0 ((IntKind.i64.wrap ((s17.2.2.length : Int) - 1)))).bind (fun (y20 : List Int) => (some (Sum.inl ((max s17.1 y19), (IntKind.i64.wrap (s17.2.1 + 1)), y20))))))) else (some (Sum.inr (s17.1, s17.2.2))))
noncomputable def term_fold_term_Depth_1.l22 (e_0 : List ApiTerm) (s7 : Int × (List Int)) : Option ((Int × (List Int)) ⊕ (((List Int)))) := (bif (decide (0 ≤ s7.1)) then ((idx e_0 s7.1).bind (fun (y9 : ApiTerm) => ((term_Arity y9.Op).bind (fun (y10 : Int) => ((loopO (term_fold_term_Depth_1.l21 y10) (0, 0, s7.2)).bind (fun (w13 : Int × (List Int)) => ((idx e_0 s7.1).bind (fun (y15 : ApiTerm) => ((term_Depth_1 y15.Op w13.1).bind (fun (y16 : Int) => (bif (room (List.length w13.2 + List.length ([y16])) 8) then (some (Sum.inl ((IntKind.i64.wrap (s7.1 - 1)), (w13.2 ++ [y16])))) else none))))))))))) else (some (Sum.inr s7.2)))
noncomputable def term_fold_term_Depth_1 (e_0 : List ApiTerm) : Option Int := ((term_one e_0).bind (fun (y1 : Bool) => (bif (!y1) then (some 0) else ((loopO (term_fold_term_Depth_1.l22 e_0) ((IntKind.i64.wrap ((List.length e_0 : Int) - 1)), ([] : List Int))).bind (fun (w4 : (List Int)) => ((idx w4 0).bind (fun (y6 : Int) => (some y6))))))))
theorem term_fold_term_Depth_1.ok {e_0 : List ApiTerm} {r : Int} (h : term_fold_term_Depth_1 e_0 = some r) : PC Try.prog 97 [.sl (List.map ApiTerm.cells e_0), .fn 98 [] []] (.int .i64 r) := by
  refine PC_run k_term_fold_term_Depth_1 rfl (L := [(0, .u (.sl (List.map ApiTerm.cells e_0))), (1, .u (.fn 98 [] []))]) rfl ?_
  show Run Try.prog 54 (retQ [4] (.int .i64 r)) [] q_term_fold_term_Depth_1_42 _
  refine R_seq ?_
  refine R_reg ?_
  refine S_pure trivial (O_mv (d := .u (.int .i64 0)) (by kernel_rfl)) ?_
  refine Rs_nil ?_
  refine N_s ?_
  refine R_seq ?_
  refine R_seq ?_
  refine R_reg ?_
  refine S_pure trivial (O_mv (d := .u (.sl (List.map ApiTerm.cells e_0))) (by kernel_rfl)) ?_
  obtain ⟨y1, hy1, h⟩ := bindS h
  refine S_pure trivial (O_ca (us := [.sl (List.map ApiTerm.cells e_0)]) (r := .bool y1) (by kernel_rfl) (term_one.ok hy1)) ?_
  refine S_pure trivial (O_not (b := y1) (by kernel_rfl)) ?_
  refine Rs_nil ?_
  refine N_s ?_
  refine R_cond (c := (!y1)) (by kernel_rfl) h (fun h => ?_) (fun h => ?_)
  · refine R_seq ?_
    refine R_reg ?_
    refine S_pure trivial (O_mv (d := .u (.int .i64 0)) (by kernel_rfl)) ?_
    refine Rs_nil ?_
    refine N_s ?_
    obtain rfl := (Option.some.inj h)
    refine R_ret ?_
    exact Q_ret (x := .int .i64 0) (by kernel_rfl) (.refl _)
  · refine R_skip ?_
    refine N_s ?_
    refine R_seq ?_
    refine R_reg ?_
    refine S_pure trivial (O_mv (d := .u (.nil)) (by kernel_rfl)) ?_
    refine Rs_nil ?_
    refine N_s ?_
    refine R_seq ?_
    refine R_seq ?_
    refine R_reg ?_
    refine S_pure trivial (O_mv (d := .u (.sl (List.map ApiTerm.cells e_0))) (by kernel_rfl)) ?_
    refine S_pure trivial (O_ln (c := ApiTerm.cells) (li := e_0) (by kernel_rfl)) ?_
    refine S_pure trivial (O_sub (k := .i64) (a := (List.length e_0 : Int)) (b := 1) (by kernel_rfl) (by kernel_rfl)) ?_
    refine S_pure trivial (O_mv (d := .u (.int .i64 ((IntKind.i64.wrap ((List.length e_0 : Int) - 1))))) (by kernel_rfl)) ?_
    refine Rs_nil ?_
    refine N_s ?_
    refine R_block ?_
    refine R_weak (W_ghost 5 1 (by kernel_rfl)) ?_
    obtain ⟨o2, hE, h⟩ := bindS h
    have K5 : ∀ (w4 : (List Int)), w4 = o2 → Run Try.prog 54 (retQ [4] (.int .i64 r)) [] q_term_fold_term_Depth_1_3 (mkSt [(5, .msl 0 w4.length)] [(0, .row 1 (List.map (cInt .i64) w4))] 2) := by
      intro w4 e; subst e
      refine R_seq ?_
      refine R_reg ?_
      refine S_pure trivial (O_mv (d := .msl 0 w4.length) (by kernel_rfl)) ?_
      obtain ⟨y6, hy6, h⟩ := bindS h
      refine S_pure trivial (O_iam (c := (cInt .i64)) (li := w4) (i := 0) (k := .i64) (a := y6) (b := 0) (by kernel_rfl) (by kernel_rfl) (by kernel_rfl) hy6) ?_
      refine S_pure trivial (O_ldr (b := 0) (s := 1) (off := 0) (c := (cInt .i64)) (li := w4) (i := 0) (u := .int .i64 y6) (by kernel_rfl) (by kernel_rfl) hy6 rfl (by kernel_rfl)) ?_
      refine S_pure trivial (O_mv (d := .u (.int .i64 y6)) (by kernel_rfl)) ?_
      refine Rs_nil ?_
      refine N_s ?_
      obtain rfl := (Option.some.inj h)
      refine R_ret ?_
      exact Q_ret (x := .int .i64 y6) (by kernel_rfl) (.refl _)
    refine R_loop (term_fold_term_Depth_1.l22 e_0) (fun s7 => (mkSt [(0, .u (.sl (List.map ApiTerm.cells e_0))), (1, .u (.fn 98 [] [])), (5, .msl 0 s7.2.length), (6, .u (.int .i64 s7.1))] [(0, .row 1 (List.map (cInt .i64) s7.2))] 2)) hE (W_to (by kernel_rfl) (by kernel_rfl) (by kernel_rfl)) ?_
    intro K3 s7 x8 h hK3 hO3
    refine R_seq ?_
    refine R_seq ?_
    refine R_reg ?_
    refine S_pure trivial (O_mv (d := .u (.int .i64 s7.1)) (by kernel_rfl)) ?_
    refine S_pure trivial (O_geq (k := .i64) (a := s7.1) (b := 0) (by kernel_rfl) (by kernel_rfl)) ?_
    refine Rs_nil ?_
    refine N_s ?_
    refine R_cond (c := (decide (0 ≤ s7.1))) (by kernel_rfl) h (fun h => ?_) (fun h => ?_)
    · refine R_skip ?_
      refine N_s ?_
      refine R_seq ?_
      refine R_block ?_
      refine R_seq ?_
      refine R_reg ?_
      refine S_pure trivial (O_mv (d := .u (.int .i64 0)) (by kernel_rfl)) ?_
      refine Rs_nil ?_
      refine N_s ?_
      refine R_seq ?_
      refine R_seq ?_
      refine R_reg ?_
      refine S_pure trivial (O_mv (d := .u (.sl (List.map ApiTerm.cells e_0))) (by kernel_rfl)) ?_
      refine S_pure trivial (O_mv (d := .u (.int .i64 s7.1)) (by kernel_rfl)) ?_
      obtain ⟨y9, hy9, h⟩ := bindS h
      refine S_pure trivial (O_ia (c := ApiTerm.cells) (li := e_0) (i := s7.1) (k := .i64) (a := y9) (u := ApiTerm.cells y9) (by kernel_rfl) (by kernel_rfl) hy9 rfl rfl) ?_
      refine S_pure trivial (O_faf (cells := ApiTerm.cells y9) (o := 0) (by kernel_rfl)) ?_
      refine S_pure trivial (O_ldf (cells := ApiTerm.cells y9) (off := 0) (u := .int .i64 y9.Op) (by kernel_rfl) (by kernel_rfl)) ?_
      obtain ⟨y10, hy10, h⟩ := bindS h
      refine S_pure trivial (O_ca (us := [.int .i64 y9.Op]) (r := .int .i64 y10) (by kernel_rfl) (term_Arity.ok hy10)) ?_
      refine S_pure trivial (O_mv (d := .u (.int .i64 0)) (by kernel_rfl)) ?_
      refine Rs_nil ?_
      refine N_s ?_
      refine R_block ?_
      obtain ⟨o11, hE, h⟩ := bindS h
      have K14 : ∀ (w13 : Int × (List Int)), w13 = o11 → Run Try.prog 54 (retQ [4] (.int .i64 r)) [.b 1, .s q_term_fold_term_Depth_1_1, .k K3, .b 0, .s q_term_fold_term_Depth_1_3] q_term_fold_term_Depth_1_4 (mkSt [(0, .u (.sl (List.map ApiTerm.cells e_0))), (1, .u (.fn 98 [] [])), (5, .msl 0 w13.2.length), (6, .u (.int .i64 s7.1)), (7, .u (.int .i64 w13.1))] [(0, .row 1 (List.map (cInt .i64) w13.2))] 2) := by
        intro w13 e; subst e
        refine R_reg ?_
        refine S_pure trivial (O_mv (d := .msl 0 w13.2.length) (by kernel_rfl)) ?_
        refine S_pure trivial (O_mv (d := .u (.fn 98 [] [])) (by kernel_rfl)) ?_
        refine S_pure trivial (O_mv (d := .u (.sl (List.map ApiTerm.cells e_0))) (by kernel_rfl)) ?_
        refine S_pure trivial (O_mv (d := .u (.int .i64 s7.1)) (by kernel_rfl)) ?_
        obtain ⟨y15, hy15, h⟩ := bindS h
        refine S_pure trivial (O_ia (c := ApiTerm.cells) (li := e_0) (i := s7.1) (k := .i64) (a := y15) (u := ApiTerm.cells y15) (by kernel_rfl) (by kernel_rfl) hy15 rfl rfl) ?_
        refine S_pure trivial (O_faf (cells := ApiTerm.cells y15) (o := 0) (by kernel_rfl)) ?_
        refine S_pure trivial (O_ldf (cells := ApiTerm.cells y15) (off := 0) (u := .int .i64 y15.Op) (by kernel_rfl) (by kernel_rfl)) ?_
        refine S_pure trivial (O_mv (d := .u (.int .i64 w13.1)) (by kernel_rfl)) ?_
        obtain ⟨y16, hy16, h⟩ := bindS h
        refine S_pure trivial (O_cl (fs' := []) (cs := []) (us := [.int .i64 y15.Op, .int .i64 w13.1]) (r := .int .i64 y16) (by kernel_rfl) (by kernel_rfl) (term_Depth_1.ok hy16)) ?_
        refine S_up trivial (O_bs (els := [[.u (.int .i64 y16)]]) (uss := List.map (cInt .i64) ([y16])) (m := List.length ([y16])) (by kernel_rfl) rfl (by kernel_rfl) (by kernel_rfl)) ?_
        obtain ⟨hb, h⟩ := chkS h
        refine S_app (L' := [(49, .msl 2 [y16].length), (48, .u (.int .i64 y16)), (47, .u (.int .i64 w13.1)), (46, .u (.int .i64 y15.Op)), (45, .u (.fp (ApiTerm.cells y15) 0)), (44, .u (.fp (ApiTerm.cells y15) 0)), (43, .u (.int .i64 s7.1)), (42, .u (.sl (List.map ApiTerm.cells e_0))), (41, .u (.fn 98 [] [])), (40, .any), (0, .u (.sl (List.map ApiTerm.cells e_0))), (1, .u (.fn 98 [] [])), (5, .any), (6, .u (.int .i64 s7.1)), (7, .u (.int .i64 w13.1))]) (O' := [(2, .row 1 (List.map (cInt .i64) ([y16]))), (0, .row 1 (List.map (cInt .i64) w13.2))]) trivial (O_apm (c := (cInt .i64)) (li := w13.2) (lj := [y16]) (b := 0) (by kernel_rfl) (by kernel_rfl) (by show Srcs _ _ _ (.msl 2 [y16].length); exact Srcs.own (c := (cInt .i64)) (li := [y16]) 2 (by kernel_rfl)) hb) (by kernel_rfl) (by kernel_rfl) ?_
        refine S_pure trivial (O_mv (d := .msl 0 (w13.2 ++ [y16]).length) (by kernel_rfl)) ?_
        refine Rs_nil ?_
        refine N_b ?_
        refine N_s ?_
        refine R_reg ?_
        refine S_pure trivial (O_mv (d := .u (.int .i64 s7.1)) (by kernel_rfl)) ?_
        refine S_pure trivial (O_sub (k := .i64) (a := s7.1) (b := 1) (by kernel_rfl) (by kernel_rfl)) ?_
        refine S_pure trivial (O_mv (d := .u (.int .i64 ((IntKind.i64.wrap (s7.1 - 1))))) (by kernel_rfl)) ?_
        refine Rs_nil ?_
        exact N_k (hK3 _ h _ (W_to (by kernel_rfl) (by kernel_rfl) (by kernel_rfl)))
      refine R_loop (term_fold_term_Depth_1.l21 y10) (fun s17 => (mkSt [(0, .u (.sl (List.map ApiTerm.cells e_0))), (1, .u (.fn 98 [] [])), (5, .msl 0 s17.2.2.length), (6, .u (.int .i64 s7.1)), (7, .u (.int .i64 s17.1)), (23, .u (.int .i64 y10)), (24, .u (.int .i64 s17.2.1))] [(0, .row 1 (List.map (cInt .i64) s17.2.2))] 2)) hE (W_to (by kernel_rfl) (by kernel_rfl) (by kernel_rfl)) ?_
      intro K12 s17 x18 h hK12 hO12
      refine R_seq ?_
      refine R_reg ?_
      refine S_pure trivial (O_lss (k := .i64) (a := s17.2.1) (b := y10) (by kernel_rfl) (by kernel_rfl)) ?_
      refine Rs_nil ?_
      refine N_s ?_
      refine R_seq ?_
      refine R_cond (c := (decide (s17.2.1 < y10))) (by kernel_rfl) h (fun h => ?_) (fun h => ?_)
      · refine R_skip ?_
        refine N_s ?_
        refine R_seq ?_
        refine R_block ?_
        refine R_seq ?_
        refine R_reg ?_
        refine S_pure trivial (O_mv (d := .u (.int .i64 s17.1)) (by kernel_rfl)) ?_
        refine S_pure trivial (O_mv (d := .msl 0 s17.2.2.length) (by kernel_rfl)) ?_
        refine S_pure trivial (O_mv (d := .msl 0 s17.2.2.length) (by kernel_rfl)) ?_
        refine S_pure trivial (O_lnm (b := 0) (m := s17.2.2.length) (by kernel_rfl)) ?_
        refine S_pure trivial (O_sub (k := .i64) (a := (s17.2.2.length : Int)) (b := 1) (by kernel_rfl) (by kernel_rfl)) ?_
        obtain ⟨y19, hy19, h⟩ := bindS h
        refine S_pure trivial (O_iam (c := (cInt .i64)) (li := s17.2.2) (i := (IntKind.i64.wrap ((s17.2.2.length : Int) - 1))) (k := .i64) (a := y19) (b := 0) (by kernel_rfl) (by kernel_rfl) (by kernel_rfl) hy19) ?_
        refine S_pure trivial (O_ldr (b := 0) (s := 1) (off := 0) (c := (cInt .i64)) (li := s17.2.2) (i := (IntKind.i64.wrap ((s17.2.2.length : Int) - 1))) (u := .int .i64 y19) (by kernel_rfl) (by kernel_rfl) hy19 rfl (by kernel_rfl)) ?_
        refine S_pure trivial (O_mx (k := .i64) (a := s17.1) (b := y19) (by kernel_rfl) (by kernel_rfl)) ?_
        refine S_pure trivial (O_mv (d := .u (.int .i64 ((max s17.1 y19)))) (by kernel_rfl)) ?_
        refine Rs_nil ?_
        refine N_s ?_
        refine R_reg ?_
        refine S_pure trivial (O_mv (d := .msl 0 s17.2.2.length) (by kernel_rfl)) ?_
        refine S_pure trivial (O_mv (d := .msl 0 s17.2.2.length) (by kernel_rfl)) ?_
        refine S_pure trivial (O_lnm (b := 0) (m := s17.2.2.length) (by kernel_rfl)) ?_
        refine S_pure trivial (O_sub (k := .i64) (a := (s17.2.2.length : Int)) (b := 1) (by kernel_rfl) (by kernel_rfl)) ?_
        obtain ⟨y20, hy20, h⟩ := bindS h
        refine S_pure trivial (O_slm (c := (cInt .i64)) (li := s17.2.2) (li' := y20) (a := (IntKind.i64.wrap ((s17.2.2.length : Int) - 1))) (b := 0) (k := .i64) (by kernel_rfl) (by kernel_rfl) hy20) ?_
        refine Rs_weak (W_shrink (c := (cInt .i64)) (li := s17.2.2) (li' := y20) 0 1 (by kernel_rfl) hy20) ?_
        refine S_pure trivial (O_mv (d := .msl 0 y20.length) (by kernel_rfl)) ?_
        refine Rs_nil ?_
        refine N_b ?_
        refine N_s ?_
        refine R_reg ?_
        refine S_pure trivial (O_add (k := .i64) (a := s17.2.1) (b := 1) (by kernel_rfl) (by kernel_rfl)) ?_
        refine S_pure trivial (O_mv (d := .u (.int .i64 ((IntKind.i64.wrap (s17.2.1 + 1))))) (by kernel_rfl)) ?_
        refine Rs_nil ?_
        exact N_k (hK12 _ h _ (W_to (by kernel_rfl) (by kernel_rfl) (by kernel_rfl)))
      · refine R_exit ?_
        refine E_s ?_
        refine E_k ?_
        refine E_b ?_
        refine N_s ?_
        exact R_weak (W_to (by kernel_rfl) (by kernel_rfl) (by kernel_rfl)) (K14 _ (hO12 _ h))
    · refine R_exit ?_
      refine E_s ?_
      refine E_k ?_
      refine E_b ?_
      refine N_s ?_
      exact R_weak (W_to (by kernel_rfl) (by kernel_rfl) (by kernel_rfl)) (K5 _ (hO3 _ h))

/-! ### selfstab/term.Depth -/
def q_term_Depth_1 : AC := .reg [⟨some 3, none, .mv (.t 0)⟩, ⟨some 4, none, .ca 97 [.t 3, .c (.fn 98 [] [])]⟩, ⟨some 2, none, .mv (.t 4)⟩]
def q_term_Depth_2 : AC := .seq q_term_Depth_1 .ret
def q_term_Depth_3 : AC := .reg [⟨some 2, none, .mv (.c (.int .i64 0))⟩]
def q_term_Depth_4 : AC := .seq q_term_Depth_3 q_term_Depth_2
def c_term_Depth : FC := ⟨5, [2], q_term_Depth_4⟩
theorem k_term_Depth : okF Try.prog 80 c_term_Depth = true := by decide +kernel
noncomputable def term_Depth (e_0 : List ApiTerm) : Option Int := ((term_fold_term_Depth_1 e_0).bind (fun (y1 : Int) => (some y1)))
theorem term_Depth.ok {e_0 : List ApiTerm} {r : Int} (h : term_Depth e_0 = some r) : PC Try.prog 80 [.sl (List.map ApiTerm.cells e_0)] (.int .i64 r) := by
  refine PC_run k_term_Depth rfl (L := [(0, .u (.sl (List.map ApiTerm.cells e_0)))]) rfl ?_
  show Run Try.prog 5 (retQ [2] (.int .i64 r)) [] q_term_Depth_4 _
  refine R_seq ?_
  refine R_reg ?_
  refine S_pure trivial (O_mv (d := .u (.int .i64 0)) (by kernel_rfl)) ?_
  refine Rs_nil ?_
  refine N_s ?_
  refine R_seq ?_
  refine R_reg ?_
  refine S_pure trivial (O_mv (d := .u (.sl (List.map ApiTerm.cells e_0))) (by kernel_rfl)) ?_
  obtain ⟨y1, hy1, h⟩ := bindS h
  refine S_pure trivial (O_ca (us := [.sl (List.map ApiTerm.cells e_0), .fn 98 [] []]) (r := .int .i64 y1) (by kernel_rfl) (term_fold_term_Depth_1.ok hy1)) ?_
  refine S_pure trivial (O_mv (d := .u (.int .i64 y1)) (by kernel_rfl)) ?_
  refine Rs_nil ?_
  refine N_s ?_
  obtain rfl := (Option.some.inj h)
  refine R_ret ?_
  exact Q_ret (x := .int .i64 y1) (by kernel_rfl) (.refl _)

/-! ### selfstab/term.aggregate -/
def q_term_aggregate_1 : AC := .reg [⟨some 3, none, .mv (.t 0)⟩, ⟨some 4, none, .bi .geq (.t 3) (.c (.int .i64 20))⟩, ⟨some 5, none, .mv (.t 4)⟩, ⟨some 6, some (5, true), .mv (.t 0)⟩, ⟨some 7, some (5, true), .bi .leq (.t 6) (.c (.int .i64 29))⟩, ⟨some 8, none, .pk (.t 5) (.t 7) (.c (.bool false))⟩, ⟨some 2, none, .mv (.t 8)⟩]
def q_term_aggregate_2 : AC := .seq q_term_aggregate_1 .ret
def q_term_aggregate_3 : AC := .reg [⟨some 2, none, .mv (.c (.bool false))⟩]
def q_term_aggregate_4 : AC := .seq q_term_aggregate_3 q_term_aggregate_2
def c_term_aggregate : FC := ⟨9, [2], q_term_aggregate_4⟩
theorem k_term_aggregate : okF Try.prog 100 c_term_aggregate = true := by decide +kernel
noncomputable def term_aggregate (op_0 : Int) : Option Bool := (some ((decide (20 ≤ op_0)) && (decide (op_0 ≤ 29))))
theorem term_aggregate.ok {op_0 : Int} {r : Bool} (h : term_aggregate op_0 = some r) : PC Try.prog 100 [.int .i64 op_0] (.bool r) := by
  refine PC_run k_term_aggregate rfl (L := [(0, .u (.int .i64 op_0))]) rfl ?_
  show Run Try.prog 9 (retQ [2] (.bool r)) [] q_term_aggregate_4 _
  refine R_seq ?_
  refine R_reg ?_
  refine S_pure trivial (O_mv (d := .u (.bool false)) (by kernel_rfl)) ?_
  refine Rs_nil ?_
  refine N_s ?_
  refine R_seq ?_
  refine R_reg ?_
  refine S_pure trivial (O_mv (d := .u (.int .i64 op_0)) (by kernel_rfl)) ?_
  refine S_pure trivial (O_geq (k := .i64) (a := op_0) (b := 20) (by kernel_rfl) (by kernel_rfl)) ?_
  refine S_pure trivial (O_mv (d := .u (.bool ((decide (20 ≤ op_0))))) (by kernel_rfl)) ?_
  have K1 : ∀ v2 : Bool, v2 = ((decide (20 ≤ op_0)) && (decide (op_0 ≤ 29))) → Rs Try.prog 9 (retQ [2] (.bool r)) [.s .ret] [⟨some 2, none, .mv (.t 8)⟩] (mkSt [(8, .u (.bool v2))] [] 0) := by
    intro v2 e; subst e
    refine S_pure trivial (O_mv (d := .u (.bool (((decide (20 ≤ op_0)) && (decide (op_0 ≤ 29)))))) (by kernel_rfl)) ?_
    refine Rs_nil ?_
    refine N_s ?_
    obtain rfl := (Option.some.inj h)
    refine R_ret ?_
    exact Q_ret (x := .bool (((decide (20 ≤ op_0)) && (decide (op_0 ≤ 29))))) (by kernel_rfl) (.refl _)
  refine S_case0 (t := 5) (c := (decide (20 ≤ op_0))) (by kernel_rfl) (fun hc => ?_) (fun hc => ?_)
  · refine S_pure (by show _ = _; kernel_rfl) (O_mv (d := .u (.int .i64 op_0)) (by kernel_rfl)) ?_
    refine S_pure (by show _ = _; kernel_rfl) (O_leq (k := .i64) (a := op_0) (b := 29) (by kernel_rfl) (by kernel_rfl)) ?_
    refine S_pure trivial (O_pkt (d := .u (.bool ((decide (op_0 ≤ 29))))) (by kernel_rfl) (by kernel_rfl)) ?_
    exact Rs_weak (W_to (by kernel_rfl) (by kernel_rfl) (by kernel_rfl)) (K1 _ (by rw [hc] <;> rfl))
  · refine S_skip (b := false) (by kernel_rfl) rfl ?_
    refine S_skip (b := false) (by kernel_rfl) rfl ?_
    refine S_pure trivial (O_pkf (d := .u (.bool false)) (by kernel_rfl) (by kernel_rfl)) ?_
    exact Rs_weak (W_to (by kernel_rfl) (by kernel_rfl) (by kernel_rfl)) (K1 _ (by rw [hc] <;> rfl))

/-! ### selfstab/term.Nest$1 -/
def q_term_Nest_1_1 : AC := .reg [⟨some 9, none, .mv (.t 1)⟩, ⟨some 4, none, .mv (.t 9)⟩]
def q_term_Nest_1_2 : AC := .seq q_term_Nest_1_1 .ret
def q_term_Nest_1_3 : AC := .reg [⟨some 7, none, .mv (.t 1)⟩, ⟨some 8, none, .bi .add (.t 7) (.c (.int .i64 1))⟩, ⟨some 1, none, .mv (.t 8)⟩]
def q_term_Nest_1_4 : AC := .cond (.t 6) q_term_Nest_1_3 .skip
def q_term_Nest_1_5 : AC := .reg [⟨some 5, none, .mv (.t 0)⟩, ⟨some 6, none, .ca 100 [.t 5]⟩]
def q_term_Nest_1_6 : AC := .seq q_term_Nest_1_5 q_term_Nest_1_4
def q_term_Nest_1_7 : AC := .seq q_term_Nest_1_6 q_term_Nest_1_2
def q_term_Nest_1_8 : AC := .reg [⟨some 4, none, .mv (.c (.int .i64 0))⟩]
def q_term_Nest_1_9 : AC := .seq q_term_Nest_1_8 q_term_Nest_1_7
def c_term_Nest_1 : FC := ⟨10, [4], q_term_Nest_1_9⟩
theorem k_term_Nest_1 : okF Try.prog 99 c_term_Nest_1 = true := by decide +kernel
noncomputable def term_Nest_1 (op_0 : Int) (most_1 : Int) : Option Int := ((term_aggregate op_0).bind (fun (y1 : Bool) => (bif y1 then (some (IntKind.i64.wrap (most_1 + 1))) else (some most_1))))
theorem term_Nest_1.ok {op_0 : Int} {most_1 : Int} {r : Int} (h : term_Nest_1 op_0 most_1 = some r) : PC Try.prog 99 [.int .i64 op_0, .int .i64 most_1] (.int .i64 r) := by
  refine PC_run k_term_Nest_1 rfl (L := [(0, .u (.int .i64 op_0)), (1, .u (.int .i64 most_1))]) rfl ?_
  show Run Try.prog 10 (retQ [4] (.int .i64 r)) [] q_term_Nest_1_9 _
  refine R_seq ?_
  refine R_reg ?_
  refine S_pure trivial (O_mv (d := .u (.int .i64 0)) (by kernel_rfl)) ?_
  refine Rs_nil ?_
  refine N_s ?_
  refine R_seq ?_
  refine R_seq ?_
  refine R_reg ?_
  refine S_pure trivial (O_mv (d := .u (.int .i64 op_0)) (by kernel_rfl)) ?_
  obtain ⟨y1, hy1, h⟩ := bindS h
  refine S_pure trivial (O_ca (us := [.int .i64 op_0]) (r := .bool y1) (by kernel_rfl) (term_aggregate.ok hy1)) ?_
  refine Rs_nil ?_
  refine N_s ?_
  refine R_cond (c := y1) (by kernel_rfl) h (fun h => ?_) (fun h => ?_)
  · refine R_reg ?_
    refine S_pure trivial (O_mv (d := .u (.int .i64 most_1)) (by kernel_rfl)) ?_
    refine S_pure trivial (O_add (k := .i64) (a := most_1) (b := 1) (by kernel_rfl) (by kernel_rfl)) ?_
    refine S_pure trivial (O_mv (d := .u (.int .i64 ((IntKind.i64.wrap (most_1 + 1))))) (by kernel_rfl)) ?_
    refine Rs_nil ?_
    refine N_s ?_
    refine R_seq ?_
    refine R_reg ?_
    refine S_pure trivial (O_mv (d := .u (.int .i64 ((IntKind.i64.wrap (most_1 + 1))))) (by kernel_rfl)) ?_
    refine S_pure trivial (O_mv (d := .u (.int .i64 ((IntKind.i64.wrap (most_1 + 1))))) (by kernel_rfl)) ?_
    refine Rs_nil ?_
    refine N_s ?_
    obtain rfl := (Option.some.inj h)
    refine R_ret ?_
    exact Q_ret (x := .int .i64 ((IntKind.i64.wrap (most_1 + 1)))) (by kernel_rfl) (.refl _)
  · refine R_skip ?_
    refine N_s ?_
    refine R_seq ?_
    refine R_reg ?_
    refine S_pure trivial (O_mv (d := .u (.int .i64 most_1)) (by kernel_rfl)) ?_
    refine S_pure trivial (O_mv (d := .u (.int .i64 most_1)) (by kernel_rfl)) ?_
    refine Rs_nil ?_
    refine N_s ?_
    obtain rfl := (Option.some.inj h)
    refine R_ret ?_
    exact Q_ret (x := .int .i64 most_1) (by kernel_rfl) (.refl _)

/-! ### selfstab/term.fold -/
def q_term_fold_term_Nest_1_1 : AC := .reg [⟨some 16, none, .mv (.t 6)⟩, ⟨some 17, none, .bi .sub (.t 16) (.c (.int .i64 1))⟩, ⟨some 6, none, .mv (.t 17)⟩]
def q_term_fold_term_Nest_1_2 : AC := .reg [⟨some 51, none, .mv (.t 5)⟩, ⟨some 52, none, .ia 1 (.t 51) (.c (.int .i64 0))⟩, ⟨some 53, none, .ld false 1 (.t 52)⟩, ⟨some 4, none, .mv (.t 53)⟩]
def q_term_fold_term_Nest_1_3 : AC := .seq q_term_fold_term_Nest_1_2 .ret
def q_term_fold_term_Nest_1_4 : AC := .reg [⟨some 40, none, .mv (.t 5)⟩, ⟨some 41, none, .mv (.t 1)⟩, ⟨some 42, none, .mv (.t 0)⟩, ⟨some 43, none, .mv (.t 6)⟩, ⟨some 44, none, .ia 2 (.t 42) (.t 43)⟩, ⟨some 45, none, .fa 0 (.t 44)⟩, ⟨some 46, none, .ld false 1 (.t 45)⟩, ⟨some 47, none, .mv (.t 7)⟩, ⟨some 48, none, .cl (.t 41) [.t 46, .t 47]⟩, ⟨some 49, none, .bs 1 [.t 48]⟩, ⟨some 50, none, .ap 1 8 (.t 40) (.t 49)⟩, ⟨some 5, none, .mv (.t 50)⟩]
def q_term_fold_term_Nest_1_5 : AC := .reg [⟨some 39, none, .bi .add (.t 24) (.c (.int .i64 1))⟩, ⟨some 24, none, .mv (.t 39)⟩]
def q_term_fold_term_Nest_1_6 : AC := .reg [⟨some 34, none, .mv (.t 5)⟩, ⟨some 35, none, .mv (.t 5)⟩, ⟨some 36, none, .ln (.t 35)⟩, ⟨some 37, none, .bi .sub (.t 36) (.c (.int .i64 1))⟩, ⟨some 38, none, .sl 1 (.t 34) none (some (.t 37))⟩, ⟨some 5, none, .mv (.t 38)⟩]
def q_term_fold_term_Nest_1_7 : AC := .reg [⟨some 26, none, .mv (.t 7)⟩, ⟨some 27, none, .mv (.t 5)⟩, ⟨some 28, none, .mv (.t 5)⟩, ⟨some 29, none, .ln (.t 28)⟩, ⟨some 30, none, .bi .sub (.t 29) (.c (.int .i64 1))⟩, ⟨some 31, none, .ia 1 (.t 27) (.t 30)⟩, ⟨some 32, none, .ld false 1 (.t 31)⟩, ⟨some 33, none, .mx [.t 26, .t 32]⟩, ⟨some 7, none, .mv (.t 33)⟩]
def q_term_fold_term_Nest_1_8 : AC := .seq q_term_fold_term_Nest_1_7 q_term_fold_term_Nest_1_6
def q_term_fold_term_Nest_1_9 : AC := .block 3 q_term_fold_term_Nest_1_8
def q_term_fold_term_Nest_1_10 : AC := .seq q_term_fold_term_Nest_1_9 q_term_fold_term_Nest_1_5
def q_term_fold_term_Nest_1_11 : AC := .cond (.t 25) .skip (.exit 2)
def q_term_fold_term_Nest_1_12 : AC := .seq q_term_fold_term_Nest_1_11 q_term_fold_term_Nest_1_10
def q_term_fold_term_Nest_1_13 : AC := .reg [⟨some 25, none, .bi .lss (.t 24) (.t 23)⟩]
def q_term_fold_term_Nest_1_14 : AC := .seq q_term_fold_term_Nest_1_13 q_term_fold_term_Nest_1_12
def q_term_fold_term_Nest_1_15 : AC := .loop q_term_fold_term_Nest_1_14
def q_term_fold_term_Nest_1_16 : AC := .block 2 q_term_fold_term_Nest_1_15
def q_term_fold_term_Nest_1_17 : AC := .reg [⟨some 18, none, .mv (.t 0)⟩, ⟨some 19, none, .mv (.t 6)⟩, ⟨some 20, none, .ia 2 (.t 18) (.t 19)⟩, ⟨some 21, none, .fa 0 (.t 20)⟩, ⟨some 22, none, .ld false 1 (.t 21)⟩, ⟨some 23, none, .ca 102 [.t 22]⟩, ⟨some 24, none, .mv (.c (.int .i64 0))⟩]
def q_term_fold_term_Nest_1_18 : AC := .seq q_term_fold_term_Nest_1_17 q_term_fold_term_Nest_1_16
def q_term_fold_term_Nest_1_19 : AC := .seq q_term_fold_term_Nest_1_18 q_term_fold_term_Nest_1_4
def q_term_fold_term_Nest_1_20 : AC := .reg [⟨some 7, none, .mv (.c (.int .i64 0))⟩]
def q_term_fold_term_Nest_1_21 : AC := .seq q_term_fold_term_Nest_1_20 q_term_fold_term_Nest_1_19
def q_term_fold_term_Nest_1_22 : AC := .block 1 q_term_fold_term_Nest_1_21
def q_term_fold_term_Nest_1_23 : AC := .seq q_term_fold_term_Nest_1_22 q_term_fold_term_Nest_1_1
def q_term_fold_term_Nest_1_24 : AC := .cond (.t 15) .skip (.exit 0)
def q_term_fold_term_Nest_1_25 : AC := .reg [⟨some 14, none, .mv (.t 6)⟩, ⟨some 15, none, .bi .geq (.t 14) (.c (.int .i64 0))⟩]
def q_term_fold_term_Nest_1_26 : AC := .seq q_term_fold_term_Nest_1_25 q_term_fold_term_Nest_1_24
def q_term_fold_term_Nest_1_27 : AC := .seq q_term_fold_term_Nest_1_26 q_term_fold_term_Nest_1_23
def q_term_fold_term_Nest_1_28 : AC := .loop q_term_fold_term_Nest_1_27
def q_term_fold_term_Nest_1_29 : AC := .block 0 q_term_fold_term_Nest_1_28
def q_term_fold_term_Nest_1_30 : AC := .reg [⟨some 11, none, .mv (.t 0)⟩, ⟨some 12, none, .ln (.t 11)⟩, ⟨some 13, none, .bi .sub (.t 12) (.c (.int .i64 1))⟩, ⟨some 6, none, .mv (.t 13)⟩]
def q_term_fold_term_Nest_1_31 : AC := .seq q_term_fold_term_Nest_1_30 q_term_fold_term_Nest_1_29
def q_term_fold_term_Nest_1_32 : AC := .seq q_term_fold_term_Nest_1_31 q_term_fold_term_Nest_1_3
def q_term_fold_term_Nest_1_33 : AC := .reg [⟨some 5, none, .mv (.c (.nil))⟩]
def q_term_fold_term_Nest_1_34 : AC := .seq q_term_fold_term_Nest_1_33 q_term_fold_term_Nest_1_32
def q_term_fold_term_Nest_1_35 : AC := .reg [⟨some 4, none, .mv (.c (.int .i64 0))⟩]
def q_term_fold_term_Nest_1_36 : AC := .seq q_term_fold_term_Nest_1_35 .ret
def q_term_fold_term_Nest_1_37 : AC := .cond (.t 10) q_term_fold_term_Nest_1_36 .skip
def q_term_fold_term_Nest_1_38 : AC := .reg [⟨some 8, none, .mv (.t 0)⟩, ⟨some 9, none, .ca 79 [.t 8]⟩, ⟨some 10, none, .un .not (.t 9)⟩]
def q_term_fold_term_Nest_1_39 : AC := .seq q_term_fold_term_Nest_1_38 q_term_fold_term_Nest_1_37
def q_term_fold_term_Nest_1_40 : AC := .seq q_term_fold_term_Nest_1_39 q_term_fold_term_Nest_1_34
def q_term_fold_term_Nest_1_41 : AC := .reg [⟨some 4, none, .mv (.c (.int .i64 0))⟩]
def q_term_fold_term_Nest_1_42 : AC := .seq q_term_fold_term_Nest_1_41 q_term_fold_term_Nest_1_40
def c_term_fold_term_Nest_1 : FC := ⟨54, [4], q_term_fold_term_Nest_1_42⟩
theorem k_term_fold_term_Nest_1 : okF Try.prog 97 c_term_fold_term_Nest_1 = true := by decide +kernel
noncomputable def term_fold_term_Nest_1.l21 (y10 : Int) (s17 : Int × Int × (List Int)) : Option ((Int × Int × (List Int)) ⊕ ((Int × (List Int)))) := (bif (decide (s17.2.1 < y10)) then ((idx s17.2.2 ((IntKind.i64.wrap ((s17.2.2.length : Int) - 1)))).bind (fun (y19 : Int) => ((slc s17.2.2 0 ((IntKind.i64.wrap ((s17.2.2.length : Int) - 1)))).bind (fun (y20 : List Int) => (some (Sum.inl ((max s17.1 y19), (IntKind.i64.wrap (s17.2.1 + 1)), y20))))))) else (some (Sum.inr (s17.1, s17.2.2))))
noncomputable def term_fold_term_Nest_1.l22 (e_0 : List ApiTerm) (s7 : Int × (List Int)) : Option ((Int × (List Int)) ⊕ (((List Int)))) := (bif (decide (0 ≤ s7.1)) then ((idx e_0 s7.1).bind (fun (y9 : ApiTerm) => ((term_Arity y9.Op).bind (fun (y10 : Int) => ((loopO (term_fold_term_Nest_1.l21 y10) (0, 0, s7.2)).bind (fun (w13 : Int × (List Int)) => ((idx e_0 s7.1).bind (fun (y15 : ApiTerm) => ((term_Nest_1 y15.Op w13.1).bind (fun (y16 : Int) => (bif (room (List.length w13.2 + List.length ([y16])) 8) then (some (Sum.inl ((IntKind.i64.wrap (s7.1 - 1)), (w13.2 ++ [y16])))) else none))))))))))) else (some (Sum.inr s7.2)))
noncomputable def term_fold_term_Nest_1 (e_0 : List ApiTerm) : Option Int := ((term_one e_0).bind (fun (y1 : Bool) => (bif (!y1) then (some 0) else ((loopO (term_fold_term_Nest_1.l22 e_0) ((IntKind.i64.wrap ((List.length e_0 : Int) - 1)), ([] : List Int))).bind (fun (w4 : (List Int)) => ((idx w4 0).bind (fun (y6 : Int) => (some y6))))))))
theorem term_fold_term_Nest_1.ok {e_0 : List ApiTerm} {r : Int} (h : term_fold_term_Nest_1 e_0 = some r) : PC Try.prog 97 [.sl (List.map ApiTerm.cells e_0), .fn 99 [] []] (.int .i64 r) := by
  refine PC_run k_term_fold_term_Nest_1 rfl (L := [(0, .u (.sl (List.map ApiTerm.cells e_0))), (1, .u (.fn 99 [] []))]) rfl ?_
  show Run Try.prog 54 (retQ [4] (.int .i64 r)) [] q_term_fold_term_Nest_1_42 _
  refine R_seq ?_
  refine R_reg ?_
  refine S_pure trivial (O_mv (d := .u (.int .i64 0)) (by kernel_rfl)) ?_
  refine Rs_nil ?_
  refine N_s ?_
  refine R_seq ?_
  refine R_seq ?_
  refine R_reg ?_
  refine S_pure trivial (O_mv (d := .u (.sl (List.map ApiTerm.cells e_0))) (by kernel_rfl)) ?_
  obtain ⟨y1, hy1, h⟩ := bindS h
  refine S_pure trivial (O_ca (us := [.sl (List.map ApiTerm.cells e_0)]) (r := .bool y1) (by kernel_rfl) (term_one.ok hy1)) ?_
  refine S_pure trivial (O_not (b := y1) (by kernel_rfl)) ?_
  refine Rs_nil ?_
  refine N_s ?_
  refine R_cond (c := (!y1)) (by kernel_rfl) h (fun h => ?_) (fun h => ?_)
  · refine R_seq ?_
    refine R_reg ?_
    refine S_pure trivial (O_mv (d := .u (.int .i64 0)) (by kernel_rfl)) ?_
    refine Rs_nil ?_
    refine N_s ?_
    obtain rfl := (Option.some.inj h)
    refine R_ret ?_
    exact Q_ret (x := .int .i64 0) (by kernel_rfl) (.refl _)
  · refine R_skip ?_
    refine N_s ?_
    refine R_seq ?_
    refine R_reg ?_
    refine S_pure trivial (O_mv (d := .u (.nil)) (by kernel_rfl)) ?_
    refine Rs_nil ?_
    refine N_s ?_
    refine R_seq ?_
    refine R_seq ?_
    refine R_reg ?_
    refine S_pure trivial (O_mv (d := .u (.sl (List.map ApiTerm.cells e_0))) (by kernel_rfl)) ?_
    refine S_pure trivial (O_ln (c := ApiTerm.cells) (li := e_0) (by kernel_rfl)) ?_
    refine S_pure trivial (O_sub (k := .i64) (a := (List.length e_0 : Int)) (b := 1) (by kernel_rfl) (by kernel_rfl)) ?_
    refine S_pure trivial (O_mv (d := .u (.int .i64 ((IntKind.i64.wrap ((List.length e_0 : Int) - 1))))) (by kernel_rfl)) ?_
    refine Rs_nil ?_
    refine N_s ?_
    refine R_block ?_
    refine R_weak (W_ghost 5 1 (by kernel_rfl)) ?_
    obtain ⟨o2, hE, h⟩ := bindS h
    have K5 : ∀ (w4 : (List Int)), w4 = o2 → Run Try.prog 54 (retQ [4] (.int .i64 r)) [] q_term_fold_term_Nest_1_3 (mkSt [(5, .msl 0 w4.length)] [(0, .row 1 (List.map (cInt .i64) w4))] 2) := by
      intro w4 e; subst e
      refine R_seq ?_
      refine R_reg ?_
      refine S_pure trivial (O_mv (d := .msl 0 w4.length) (by kernel_rfl)) ?_
      obtain ⟨y6, hy6, h⟩ := bindS h
      refine S_pure trivial (O_iam (c := (cInt .i64)) (li := w4) (i := 0) (k := .i64) (a := y6) (b := 0) (by kernel_rfl) (by kernel_rfl) (by kernel_rfl) hy6) ?_
      refine S_pure trivial (O_ldr (b := 0) (s := 1) (off := 0) (c := (cInt .i64)) (li := w4) (i := 0) (u := .int .i64 y6) (by kernel_rfl) (by kernel_rfl) hy6 rfl (by kernel_rfl)) ?_
      refine S_pure trivial (O_mv (d := .u (.int .i64 y6)) (by kernel_rfl)) ?_
      refine Rs_nil ?_
      refine N_s ?_
      obtain rfl := (Option.some.inj h)
      refine R_ret ?_
      exact Q_ret (x := .int .i64 y6) (by kernel_rfl) (.refl _)
    refine R_loop (term_fold_term_Nest_1.l22 e_0) (fun s7 => (mkSt [(0, .u (.sl (List.map ApiTerm.cells e_0))), (1, .u (.fn 99 [] [])), (5, .msl 0 s7.2.length), (6, .u (.int .i64 s7.1))] [(0, .row 1 (List.map (cInt .i64) s7.2))] 2)) hE (W_to (by kernel_rfl) (by kernel_rfl) (by kernel_rfl)) ?_
    intro K3 s7 x8 h hK3 hO3
    refine R_seq ?_
    refine R_seq ?_
    refine R_reg ?_
    refine S_pure trivial (O_mv (d := .u (.int .i64 s7.1)) (by kernel_rfl)) ?_
    refine S_pure trivial (O_geq (k := .i64) (a := s7.1) (b := 0) (by kernel_rfl) (by kernel_rfl)) ?_
    refine Rs_nil ?_
    refine N_s ?_
    refine R_cond (c := (decide (0 ≤ s7.1))) (by kernel_rfl) h (fun h => ?_) (fun h => ?_)
    · refine R_skip ?_
      refine N_s ?_
      refine R_seq ?_
      refine R_block ?_
      refine R_seq ?_
      refine R_reg ?_
      refine S_pure trivial (O_mv (d := .u (.int .i64 0)) (by kernel_rfl)) ?_
      refine Rs_nil ?_
      refine N_s ?_
      refine R_seq ?_
      refine R_seq ?_
      refine R_reg ?_
      refine S_pure trivial (O_mv (d := .u (.sl (List.map ApiTerm.cells e_0))) (by kernel_rfl)) ?_
      refine S_pure trivial (O_mv (d := .u (.int .i64 s7.1)) (by kernel_rfl)) ?_
      obtain ⟨y9, hy9, h⟩ := bindS h
      refine S_pure trivial (O_ia (c := ApiTerm.cells) (li := e_0) (i := s7.1) (k := .i64) (a := y9) (u := ApiTerm.cells y9) (by kernel_rfl) (by kernel_rfl) hy9 rfl rfl) ?_
      refine S_pure trivial (O_faf (cells := ApiTerm.cells y9) (o := 0) (by kernel_rfl)) ?_
      refine S_pure trivial (O_ldf (cells := ApiTerm.cells y9) (off := 0) (u := .int .i64 y9.Op) (by kernel_rfl) (by kernel_rfl)) ?_
      obtain ⟨y10, hy10, h⟩ := bindS h
      refine S_pure trivial (O_ca (us := [.int .i64 y9.Op]) (r := .int .i64 y10) (by kernel_rfl) (term_Arity.ok hy10)) ?_
      refine S_pure trivial (O_mv (d := .u (.int .i64 0)) (by kernel_rfl)) ?_
      refine Rs_nil ?_
      refine N_s ?_
      refine R_block ?_
      obtain ⟨o11, hE, h⟩ := bindS h
      have K14 : ∀ (w13 : Int × (List Int)), w13 = o11 → Run Try.prog 54 (retQ [4] (.int .i64 r)) [.b 1, .s q_term_fold_term_Nest_1_1, .k K3, .b 0, .s q_term_fold_term_Nest_1_3] q_term_fold_term_Nest_1_4 (mkSt [(0, .u (.sl (List.map ApiTerm.cells e_0))), (1, .u (.fn 99 [] [])), (5, .msl 0 w13.2.length), (6, .u (.int .i64 s7.1)), (7, .u (.int .i64 w13.1))] [(0, .row 1 (List.map (cInt .i64) w13.2))] 2) := by
        intro w13 e; subst e
        refine R_reg ?_
        refine S_pure trivial (O_mv (d := .msl 0 w13.2.length) (by kernel_rfl)) ?_
        refine S_pure trivial (O_mv (d := .u (.fn 99 [] [])) (by kernel_rfl)) ?_
        refine S_pure trivial (O_mv (d := .u (.sl (List.map ApiTerm.cells e_0))) (by kernel_rfl)) ?_
        refine S_pure trivial (O_mv (d := .u (.int .i64 s7.1)) (by kernel_rfl)) ?_
        obtain ⟨y15, hy15, h⟩ := bindS h
        refine S_pure trivial (O_ia (c := ApiTerm.cells) (li := e_0) (i := s7.1) (k := .i64) (a := y15) (u := ApiTerm.cells y15) (by kernel_rfl) (by kernel_rfl) hy15 rfl rfl) ?_
        refine S_pure trivial (O_faf (cells := ApiTerm.cells y15) (o := 0) (by kernel_rfl)) ?_
        refine S_pure trivial (O_ldf (cells := ApiTerm.cells y15) (off := 0) (u := .int .i64 y15.Op) (by kernel_rfl) (by kernel_rfl)) ?_
        refine S_pure trivial (O_mv (d := .u (.int .i64 w13.1)) (by kernel_rfl)) ?_
        obtain ⟨y16, hy16, h⟩ := bindS h
        refine S_pure trivial (O_cl (fs' := []) (cs := []) (us := [.int .i64 y15.Op, .int .i64 w13.1]) (r := .int .i64 y16) (by kernel_rfl) (by kernel_rfl) (term_Nest_1.ok hy16)) ?_
        refine S_up trivial (O_bs (els := [[.u (.int .i64 y16)]]) (uss := List.map (cInt .i64) ([y16])) (m := List.length ([y16])) (by kernel_rfl) rfl (by kernel_rfl) (by kernel_rfl)) ?_
        obtain ⟨hb, h⟩ := chkS h
        refine S_app (L' := [(49, .msl 2 [y16].length), (48, .u (.int .i64 y16)), (47, .u (.int .i64 w13.1)), (46, .u (.int .i64 y15.Op)), (45, .u (.fp (ApiTerm.cells y15) 0)), (44, .u (.fp (ApiTerm.cells y15) 0)), (43, .u (.int .i64 s7.1)), (42, .u (.sl (List.map ApiTerm.cells e_0))), (41, .u (.fn 99 [] [])), (40, .any), (0, .u (.sl (List.map ApiTerm.cells e_0))), (1, .u (.fn 99 [] [])), (5, .any), (6, .u (.int .i64 s7.1)), (7, .u (.int .i64 w13.1))]) (O' := [(2, .row 1 (List.map (cInt .i64) ([y16]))), (0, .row 1 (List.map (cInt .i64) w13.2))]) trivial (O_apm (c := (cInt .i64)) (li := w13.2) (lj := [y16]) (b := 0) (by kernel_rfl) (by kernel_rfl) (by show Srcs _ _ _ (.msl 2 [y16].length); exact Srcs.own (c := (cInt .i64)) (li := [y16]) 2 (by kernel_rfl)) hb) (by kernel_rfl) (by kernel_rfl) ?_
        refine S_pure trivial (O_mv (d := .msl 0 (w13.2 ++ [y16]).length) (by kernel_rfl)) ?_
        refine Rs_nil ?_
        refine N_b ?_
        refine N_s ?_
        refine R_reg ?_
        refine S_pure trivial (O_mv (d := .u (.int .i64 s7.1)) (by kernel_rfl)) ?_
        refine S_pure trivial (O_sub (k := .i64) (a := s7.1) (b := 1) (by kernel_rfl) (by kernel_rfl)) ?_
        refine S_pure trivial (O_mv (d := .u (.int .i64 ((IntKind.i64.wrap (s7.1 - 1))))) (by kernel_rfl)) ?_
        refine Rs_nil ?_
        exact N_k (hK3 _ h _ (W_to (by kernel_rfl) (by kernel_rfl) (by kernel_rfl)))
      refine R_loop (term_fold_term_Nest_1.l21 y10) (fun s17 => (mkSt [(0, .u (.sl (List.map ApiTerm.cells e_0))), (1, .u (.fn 99 [] [])), (5, .msl 0 s17.2.2.length), (6, .u (.int .i64 s7.1)), (7, .u (.int .i64 s17.1)), (23, .u (.int .i64 y10)), (24, .u (.int .i64 s17.2.1))] [(0, .row 1 (List.map (cInt .i64) s17.2.2))] 2)) hE (W_to (by kernel_rfl) (by kernel_rfl) (by kernel_rfl)) ?_
      intro K12 s17 x18 h hK12 hO12
      refine R_seq ?_
      refine R_reg ?_
      refine S_pure trivial (O_lss (k := .i64) (a := s17.2.1) (b := y10) (by kernel_rfl) (by kernel_rfl)) ?_
      refine Rs_nil ?_
      refine N_s ?_
      refine R_seq ?_
      refine R_cond (c := (decide (s17.2.1 < y10))) (by kernel_rfl) h (fun h => ?_) (fun h => ?_)
      · refine R_skip ?_
        refine N_s ?_
        refine R_seq ?_
        refine R_block ?_
        refine R_seq ?_
        refine R_reg ?_
        refine S_pure trivial (O_mv (d := .u (.int .i64 s17.1)) (by kernel_rfl)) ?_
        refine S_pure trivial (O_mv (d := .msl 0 s17.2.2.length) (by kernel_rfl)) ?_
        refine S_pure trivial (O_mv (d := .msl 0 s17.2.2.length) (by kernel_rfl)) ?_
        refine S_pure trivial (O_lnm (b := 0) (m := s17.2.2.length) (by kernel_rfl)) ?_
        refine S_pure trivial (O_sub (k := .i64) (a := (s17.2.2.length : Int)) (b := 1) (by kernel_rfl) (by kernel_rfl)) ?_
        obtain ⟨y19, hy19, h⟩ := bindS h
        refine S_pure trivial (O_iam (c := (cInt .i64)) (li := s17.2.2) (i := (IntKind.i64.wrap ((s17.2.2.length : Int) - 1))) (k := .i64) (a := y19) (b := 0) (by kernel_rfl) (by kernel_rfl) (by kernel_rfl) hy19) ?_
        refine S_pure trivial (O_ldr (b := 0) (s := 1) (off := 0) (c := (cInt .i64)) (li := s17.2.2) (i := (IntKind.i64.wrap ((s17.2.2.length : Int) - 1))) (u := .int .i64 y19) (by kernel_rfl) (by kernel_rfl) hy19 rfl (by kernel_rfl)) ?_
        refine S_pure trivial (O_mx (k := .i64) (a := s17.1) (b := y19) (by kernel_rfl) (by kernel_rfl)) ?_
        refine S_pure trivial (O_mv (d := .u (.int .i64 ((max s17.1 y19)))) (by kernel_rfl)) ?_
        refine Rs_nil ?_
        refine N_s ?_
        refine R_reg ?_
        refine S_pure trivial (O_mv (d := .msl 0 s17.2.2.length) (by kernel_rfl)) ?_
        refine S_pure trivial (O_mv (d := .msl 0 s17.2.2.length) (by kernel_rfl)) ?_
        refine S_pure trivial (O_lnm (b := 0) (m := s17.2.2.length) (by kernel_rfl)) ?_
        refine S_pure trivial (O_sub (k := .i64) (a := (s17.2.2.length : Int)) (b := 1) (by kernel_rfl) (by kernel_rfl)) ?_
        obtain ⟨y20, hy20, h⟩ := bindS h
        refine S_pure trivial (O_slm (c := (cInt .i64)) (li := s17.2.2) (li' := y20) (a := (IntKind.i64.wrap ((s17.2.2.length : Int) - 1))) (b := 0) (k := .i64) (by kernel_rfl) (by kernel_rfl) hy20) ?_
        refine Rs_weak (W_shrink (c := (cInt .i64)) (li := s17.2.2) (li' := y20) 0 1 (by kernel_rfl) hy20) ?_
        refine S_pure trivial (O_mv (d := .msl 0 y20.length) (by kernel_rfl)) ?_
        refine Rs_nil ?_
        refine N_b ?_
        refine N_s ?_
        refine R_reg ?_
        refine S_pure trivial (O_add (k := .i64) (a := s17.2.1) (b := 1) (by kernel_rfl) (by kernel_rfl)) ?_
        refine S_pure trivial (O_mv (d := .u (.int .i64 ((IntKind.i64.wrap (s17.2.1 + 1))))) (by kernel_rfl)) ?_
        refine Rs_nil ?_
        exact N_k (hK12 _ h _ (W_to (by kernel_rfl) (by kernel_rfl) (by kernel_rfl)))
      · refine R_exit ?_
        refine E_s ?_
        refine E_k ?_
        refine E_b ?_
        refine N_s ?_
        exact R_weak (W_to (by kernel_rfl) (by kernel_rfl) (by kernel_rfl)) (K14 _ (hO12 _ h))
    · refine R_exit ?_
      refine E_s ?_
      refine E_k ?_
      refine E_b ?_
      refine N_s ?_
      exact R_weak (W_to (by kernel_rfl) (by kernel_rfl) (by kernel_rfl)) (K5 _ (hO3 _ h))

/-! ### selfstab/term.Nest -/
def q_term_Nest_1 : AC := .reg [⟨some 3, none, .mv (.t 0)⟩, ⟨some 4, none, .ca 97 [.t 3, .c (.fn 99 [] [])]⟩, ⟨some 2, none, .mv (.t 4)⟩]
def q_term_Nest_2 : AC := .seq q_term_Nest_1 .ret
def q_term_Nest_3 : AC := .reg [⟨some 2, none, .mv (.c (.int .i64 0))⟩]
def q_term_Nest_4 : AC := .seq q_term_Nest_3 q_term_Nest_2
def c_term_Nest : FC := ⟨5, [2], q_term_Nest_4⟩
theorem k_term_Nest : okF Try.prog 81 c_term_Nest = true := by decide +kernel
noncomputable def term_Nest (e_0 : List ApiTerm) : Option Int := ((term_fold_term_Nest_1 e_0).bind (fun (y1 : Int) => (some y1)))
theorem term_Nest.ok {e_0 : List ApiTerm} {r : Int} (h : term_Nest e_0 = some r) : PC Try.prog 81 [.sl (List.map ApiTerm.cells e_0)] (.int .i64 r) := by
  refine PC_run k_term_Nest rfl (L := [(0, .u (.sl (List.map ApiTerm.cells e_0)))]) rfl ?_
  show Run Try.prog 5 (retQ [2] (.int .i64 r)) [] q_term_Nest_4 _
  refine R_seq ?_
  refine R_reg ?_
  refine S_pure trivial (O_mv (d := .u (.int .i64 0)) (by kernel_rfl)) ?_
  refine Rs_nil ?_
  refine N_s ?_
  refine R_seq ?_
  refine R_reg ?_
  refine S_pure trivial (O_mv (d := .u (.sl (List.map ApiTerm.cells e_0))) (by kernel_rfl)) ?_
  obtain ⟨y1, hy1, h⟩ := bindS h
  refine S_pure trivial (O_ca (us := [.sl (List.map ApiTerm.cells e_0), .fn 99 [] []]) (r := .int .i64 y1) (by kernel_rfl) (term_fold_term_Nest_1.ok hy1)) ?_
  refine S_pure trivial (O_mv (d := .u (.int .i64 y1)) (by kernel_rfl)) ?_
  refine Rs_nil ?_
  refine N_s ?_
  obtain rfl := (Option.some.inj h)
  refine R_ret ?_
  exact Q_ret (x := .int .i64 y1) (by kernel_rfl) (.refl _)

/-! ### selfstab/term.limit -/
def q_term_limit_1 : AC := .reg [⟨some 4, none, .mv (.c (.int .i64 0))⟩]
def q_term_limit_2 : AC := .seq q_term_limit_1 .ret
def q_term_limit_3 : AC := .reg [⟨some 11, none, .mv (.t 1)⟩, ⟨some 12, none, .bi .sub (.t 11) (.c (.int .i64 1))⟩, ⟨some 4, none, .mv (.t 12)⟩]
def q_term_limit_4 : AC := .seq q_term_limit_3 .ret
def q_term_limit_5 : AC := .cond (.t 8) q_term_limit_4 .skip
def q_term_limit_6 : AC := .reg [⟨some 4, none, .mv (.c (.int .i64 1073741824))⟩]
def q_term_limit_7 : AC := .seq q_term_limit_6 .ret
def q_term_limit_8 : AC := .reg [⟨some 10, none, .bi .eql (.t 5) (.c (.int .i64 12))⟩, ⟨some 8, none, .mv (.t 10)⟩]
def q_term_limit_9 : AC := .cond (.t 8) .skip q_term_limit_8
def q_term_limit_10 : AC := .reg [⟨some 9, none, .bi .eql (.t 5) (.c (.int .i64 5))⟩, ⟨some 8, none, .mv (.t 9)⟩]
def q_term_limit_11 : AC := .seq q_term_limit_10 q_term_limit_9
def q_term_limit_12 : AC := .seq q_term_limit_11 q_term_limit_5
def q_term_limit_13 : AC := .cond (.t 6) q_term_limit_7 q_term_limit_12
def q_term_limit_14 : AC := .reg [⟨some 7, none, .bi .eql (.t 5) (.c (.int .i64 1))⟩, ⟨some 6, none, .mv (.t 7)⟩]
def q_term_limit_15 : AC := .seq q_term_limit_14 q_term_limit_13
def q_term_limit_16 : AC := .block 0 q_term_limit_15
def q_term_limit_17 : AC := .reg [⟨some 5, none, .mv (.t 0)⟩]
def q_term_limit_18 : AC := .seq q_term_limit_17 q_term_limit_16
def q_term_limit_19 : AC := .seq q_term_limit_18 q_term_limit_2
def q_term_limit_20 : AC := .reg [⟨some 4, none, .mv (.c (.int .i64 0))⟩]
def q_term_limit_21 : AC := .seq q_term_limit_20 q_term_limit_19
def c_term_limit : FC := ⟨13, [4], q_term_limit_21⟩
theorem k_term_limit : okF Try.prog 82 c_term_limit = true := by decide +kernel
noncomputable def term_limit (op_0 : Int) (vars_1 : Int) : Option Int := (bif (decide (op_0 = 1)) then (some 1073741824) else ((bif (decide (op_0 = 5)) then (some (decide (op_0 = 5))) else (some (decide (op_0 = 12)))).bind (fun (w2 : Bool) => (bif w2 then (some (IntKind.i64.wrap (vars_1 - 1))) else (some 0)))))
theorem term_limit.ok {op_0 : Int} {vars_1 : Int} {r : Int} (h : term_limit op_0 vars_1 = some r) : PC Try.prog 82 [.int .i64 op_0, .int .i64 vars_1] (.int .i64 r) := by
  refine PC_run k_term_limit rfl (L := [(0, .u (.int .i64 op_0)), (1, .u (.int .i64 vars_1))]) rfl ?_
  show Run Try.prog 13 (retQ [4] (.int .i64 r)) [] q_term_limit_21 _
  refine R_seq ?_
  refine R_reg ?_
  refine S_pure trivial (O_mv (d := .u (.int .i64 0)) (by kernel_rfl)) ?_
  refine Rs_nil ?_
  refine N_s ?_
  refine R_seq ?_
  refine R_seq ?_
  refine R_reg ?_
  refine S_pure trivial (O_mv (d := .u (.int .i64 op_0)) (by kernel_rfl)) ?_
  refine Rs_nil ?_
  refine N_s ?_
  refine R_block ?_
  refine R_seq ?_
  refine R_reg ?_
  refine S_pure trivial (O_eql (k := .i64) (a := op_0) (b := 1) (by kernel_rfl) (by kernel_rfl)) ?_
  refine S_pure trivial (O_mv (d := .u (.bool ((decide (op_0 = 1))))) (by kernel_rfl)) ?_
  refine Rs_nil ?_
  refine N_s ?_
  refine R_cond (c := (decide (op_0 = 1))) (by kernel_rfl) h (fun h => ?_) (fun h => ?_)
  · refine R_seq ?_
    refine R_reg ?_
    refine S_pure trivial (O_mv (d := .u (.int .i64 1073741824)) (by kernel_rfl)) ?_
    refine Rs_nil ?_
    refine N_s ?_
    obtain rfl := (Option.some.inj h)
    refine R_ret ?_
    exact Q_ret (x := .int .i64 1073741824) (by kernel_rfl) (.refl _)
  · obtain ⟨o1, hE, h⟩ := bindS h
    have K3 : ∀ (w2 : Bool), w2 = o1 → Run Try.prog 13 (retQ [4] (.int .i64 r)) [.b 0, .s q_term_limit_2] q_term_limit_5 (mkSt [(1, .u (.int .i64 vars_1)), (8, .u (.bool w2))] [] 0) := by
      intro w2 e; subst e
      refine R_cond (c := w2) (by kernel_rfl) h (fun h => ?_) (fun h => ?_)
      · refine R_seq ?_
        refine R_reg ?_
        refine S_pure trivial (O_mv (d := .u (.int .i64 vars_1)) (by kernel_rfl)) ?_
        refine S_pure trivial (O_sub (k := .i64) (a := vars_1) (b := 1) (by kernel_rfl) (by kernel_rfl)) ?_
        refine S_pure trivial (O_mv (d := .u (.int .i64 ((IntKind.i64.wrap (vars_1 - 1))))) (by kernel_rfl)) ?_
        refine Rs_nil ?_
        refine N_s ?_
        obtain rfl := (Option.some.inj h)
        refine R_ret ?_
        exact Q_ret (x := .int .i64 ((IntKind.i64.wrap (vars_1 - 1)))) (by kernel_rfl) (.refl _)
      · refine R_skip ?_
        refine N_b ?_
        refine N_s ?_
        refine R_seq ?_
        refine R_reg ?_
        refine S_pure trivial (O_mv (d := .u (.int .i64 0)) (by kernel_rfl)) ?_
        refine Rs_nil ?_
        refine N_s ?_
        obtain rfl := (Option.some.inj h)
        refine R_ret ?_
        exact Q_ret (x := .int .i64 0) (by kernel_rfl) (.refl _)
    replace h := hE
    refine R_seq ?_
    refine R_seq ?_
    refine R_reg ?_
    refine S_pure trivial (O_eql (k := .i64) (a := op_0) (b := 5) (by kernel_rfl) (by kernel_rfl)) ?_
    refine S_pure trivial (O_mv (d := .u (.bool ((decide (op_0 = 5))))) (by kernel_rfl)) ?_
    refine Rs_nil ?_
    refine N_s ?_
    refine R_cond (c := (decide (op_0 = 5))) (by kernel_rfl) h (fun h => ?_) (fun h => ?_)
    · refine R_skip ?_
      refine N_s ?_
      exact R_weak (W_to (by kernel_rfl) (by kernel_rfl) (by kernel_rfl)) (K3 _ (Option.some.inj h))
    · refine R_reg ?_
      refine S_pure trivial (O_eql (k := .i64) (a := op_0) (b := 12) (by kernel_rfl) (by kernel_rfl)) ?_
      refine S_pure trivial (O_mv (d := .u (.bool ((decide (op_0 = 12))))) (by kernel_rfl)) ?_
      refine Rs_nil ?_
      refine N_s ?_
      exact R_weak (W_to (by kernel_rfl) (by kernel_rfl) (by kernel_rfl)) (K3 _ (Option.some.inj h))

/-! ### selfstab/term.Valid -/
def q_term_Valid_1 : AC := .reg [⟨some 43, none, .bi .add (.t 27) (.c (.int .i64 1))⟩, ⟨some 27, none, .mv (.t 43)⟩]
def q_term_Valid_2 : AC := .reg [⟨some 4, none, .mv (.c (.bool true))⟩]
def q_term_Valid_3 : AC := .seq q_term_Valid_2 .ret
def q_term_Valid_4 : AC := .reg [⟨some 4, none, .mv (.c (.bool false))⟩]
def q_term_Valid_5 : AC := .seq q_term_Valid_4 .ret
def q_term_Valid_6 : AC := .cond (.t 42) q_term_Valid_5 .skip
def q_term_Valid_7 : AC := .reg [⟨some 4, none, .mv (.c (.bool false))⟩]
def q_term_Valid_8 : AC := .seq q_term_Valid_7 .ret
def q_term_Valid_9 : AC := .cond (.t 24) q_term_Valid_8 .skip
def q_term_Valid_10 : AC := .rgd [⟨some 31, none, .fa 1 (.t 6)⟩,
   ⟨some 32, none, .ld false 1 (.t 31)⟩,
   ⟨some 33, none, .bi .lss (.t 32) (.c (.int .i64 0))⟩,
   ⟨some 34, none, .mv (.t 33)⟩,
   ⟨some 35, some (34, false), .fa 1 (.t 6)⟩,
   ⟨some 36, some (34, false), .ld false 1 (.t 35)⟩,
   ⟨some 37, some (34, false), .fa 0 (.t 6)⟩,
   ⟨some 38, some (34, false), .ld false 1 (.t 37)⟩,
   ⟨some 39, some (34, false), .mv (.t 1)⟩,
   ⟨some 40, some (34, false), .ca 82 [.t 38, .t 39]⟩,
   ⟨some 41, some (34, false), .bi .gtr (.t 36) (.t 40)⟩,
   ⟨some 42, none, .pk (.t 34) (.c (.bool true)) (.t 41)⟩] [(4, 6), (5, 6), (4, 7), (5, 7), (4, 8), (5, 8), (6, 8), (7, 8), (4, 9), (5, 9)]
def q_term_Valid_11 : AC := .seq q_term_Valid_10 q_term_Valid_6
def q_term_Valid_12 : AC := .reg [⟨some 29, none, .ia 2 (.t 25) (.t 27)⟩, ⟨some 30, none, .ld true 2 (.t 29)⟩, ⟨some 6, none, .al [.int .i64 0, .int .i64 0]⟩, ⟨none, none, .st 2 (.t 6) (.t 30)⟩]
def q_term_Valid_13 : AC := .seq q_term_Valid_12 q_term_Valid_11
def q_term_Valid_14 : AC := .block 1 q_term_Valid_13
def q_term_Valid_15 : AC := .seq q_term_Valid_14 q_term_Valid_1
def q_term_Valid_16 : AC := .cond (.t 28) .skip (.exit 0)
def q_term_Valid_17 : AC := .seq q_term_Valid_16 q_term_Valid_15
def q_term_Valid_18 : AC := .reg [⟨some 28, none, .bi .lss (.t 27) (.t 26)⟩]
def q_term_Valid_19 : AC := .seq q_term_Valid_18 q_term_Valid_17
def q_term_Valid_20 : AC := .loop q_term_Valid_19
def q_term_Valid_21 : AC := .block 0 q_term_Valid_20
def q_term_Valid_22 : AC := .reg [⟨some 25, none, .mv (.t 0)⟩, ⟨some 26, none, .ln (.t 25)⟩, ⟨some 27, none, .mv (.c (.int .i64 0))⟩]
def q_term_Valid_23 : AC := .seq q_term_Valid_22 q_term_Valid_21
def q_term_Valid_24 : AC := .seq q_term_Valid_23 q_term_Valid_3
def q_term_Valid_25 : AC := .reg [⟨some 7, none, .mv (.t 0)⟩, ⟨some 8, none, .ln (.t 7)⟩, ⟨some 9, none, .bi .gtr (.t 8) (.c (.int .i64 200))⟩, ⟨some 10, none, .mv (.t 9)⟩, ⟨some 11, some (10, false), .mv (.t 0)⟩, ⟨some 12, some (10, false), .ca 79 [.t 11]⟩, ⟨some 13, some (10, false), .un .not (.t 12)⟩, ⟨some 14, none, .pk (.t 10) (.c (.bool true)) (.t 13)⟩, ⟨some 15, none, .mv (.t 14)⟩, ⟨some 16, some (15, false), .mv (.t 0)⟩, ⟨some 17, some (15, false), .ca 80 [.t 16]⟩, ⟨some 18, some (15, false), .bi .gtr (.t 17) (.c (.int .i64 24))⟩, ⟨some 19, none, .pk (.t 15) (.c (.bool true)) (.t 18)⟩, ⟨some 20, none, .mv (.t 19)⟩, ⟨some 21, some (20, false), .mv (.t 0)⟩, ⟨some 22, some (20, false), .ca 81 [.t 21]⟩, ⟨some 23, some (20, false), .bi .gtr (.t 22) (.c (.int .i64 2))⟩, ⟨some 24, none, .pk (.t 20) (.c (.bool true)) (.t 23)⟩]
def q_term_Valid_26 : AC := .seq q_term_Valid_25 q_term_Valid_9
def q_term_Valid_27 : AC := .seq q_term_Valid_26 q_term_Valid_24
def q_term_Valid_28 : AC := .reg [⟨some 4, none, .mv (.c (.bool false))⟩]
def q_term_Valid_29 : AC := .seq q_term_Valid_28 q_term_Valid_27
def c_term_Valid : FC := ⟨44, [4], q_term_Valid_29⟩
theorem k_term_Valid : okF Try.prog 49 c_term_Valid = true := by decide +kernel
noncomputable def term_Valid.l23 (e_0 : List ApiTerm) (vars_1 : Int) (s16 : Int) : Option (Int ⊕ (Unit ⊕ Bool)) := (bif (decide (s16 < (List.length e_0 : Int))) then ((idx e_0 s16).bind (fun (y18 : ApiTerm) => ((bif (decide (y18.Arg < 0)) then (some true) else ((term_limit y18.Op vars_1).bind (fun (y22 : Int) => (some (decide (y22 < y18.Arg)))))).bind (fun (w20 : Bool) => (bif w20 then (some (Sum.inr (Sum.inr false))) else (some (Sum.inl (IntKind.i64.wrap (s16 + 1))))))))) else (some (Sum.inr (Sum.inl ()))))
noncomputable def term_Valid (e_0 : List ApiTerm) (vars_1 : Int) : Option Bool := ((bif (decide (200 < (List.length e_0 : Int))) then (some true) else ((term_one e_0).bind (fun (y26 : Bool) => (some (!y26))))).bind (fun (o3 : Bool) => ((bif o3 then (some true) else ((term_Depth e_0).bind (fun (y25 : Int) => (some (decide (24 < y25)))))).bind (fun (o6 : Bool) => ((bif o6 then (some true) else ((term_Nest e_0).bind (fun (y24 : Int) => (some (decide (2 < y24)))))).bind (fun (o9 : Bool) => (bif o9 then (some false) else ((loopO (term_Valid.l23 e_0 vars_1) 0).bind (Sum.elim (fun (w12 : Unit) => (some true)) (fun (w14 : Bool) => (some w14)))))))))))
theorem term_Valid.ok {e_0 : List ApiTerm} {vars_1 : Int} {r : Bool} (h : term_Valid e_0 vars_1 = some r) : PC Try.prog 49 [.sl (List.map ApiTerm.cells e_0), .int .i64 vars_1] (.bool r) := by
  refine PC_run k_term_Valid rfl (L := [(0, .u (.sl (List.map ApiTerm.cells e_0))), (1, .u (.int .i64 vars_1))]) rfl ?_
  show Run Try.prog 44 (retQ [4] (.bool r)) [] q_term_Valid_29 _
  refine R_seq ?_
  refine R_reg ?_
  refine S_pure trivial (O_mv (d := .u (.bool false)) (by kernel_rfl)) ?_
  refine Rs_nil ?_
  refine N_s ?_
  refine R_seq ?_
  refine R_seq ?_
  refine R_reg ?_
  refine S_pure trivial (O_mv (d := .u (.sl (List.map ApiTerm.cells e_0))) (by kernel_rfl)) ?_
  refine S_pure trivial (O_ln (c := ApiTerm.cells) (li := e_0) (by kernel_rfl)) ?_
  refine S_pure trivial (O_gtr (k := .i64) (a := (List.length e_0 : Int)) (b := 200) (by kernel_rfl) (by kernel_rfl)) ?_
  refine S_pure trivial (O_mv (d := .u (.bool ((decide (200 < (List.length e_0 : Int)))))) (by kernel_rfl)) ?_
  obtain ⟨o3, hE, h⟩ := bindS h
  have K1 : Rs Try.prog 44 (retQ [4] (.bool r)) [.s q_term_Valid_9, .s q_term_Valid_24] [⟨some 15, none, .mv (.t 14)⟩, ⟨some 16, some (15, false), .mv (.t 0)⟩, ⟨some 17, some (15, false), .ca 80 [.t 16]⟩, ⟨some 18, some (15, false), .bi .gtr (.t 17) (.c (.int .i64 24))⟩, ⟨some 19, none, .pk (.t 15) (.c (.bool true)) (.t 18)⟩, ⟨some 20, none, .mv (.t 19)⟩, ⟨some 21, some (20, false), .mv (.t 0)⟩, ⟨some 22, some (20, false), .ca 81 [.t 21]⟩, ⟨some 23, some (20, false), .bi .gtr (.t 22) (.c (.int .i64 2))⟩, ⟨some 24, none, .pk (.t 20) (.c (.bool true)) (.t 23)⟩] (mkSt [(0, .u (.sl (List.map ApiTerm.cells e_0))), (1, .u (.int .i64 vars_1)), (14, .u (.bool o3))] [] 0) := by
    refine S_pure trivial (O_mv (d := .u (.bool o3)) (by kernel_rfl)) ?_
    obtain ⟨o6, hE, h⟩ := bindS h
    have K4 : Rs Try.prog 44 (retQ [4] (.bool r)) [.s q_term_Valid_9, .s q_term_Valid_24] [⟨some 20, none, .mv (.t 19)⟩, ⟨some 21, some (20, false), .mv (.t 0)⟩, ⟨some 22, some (20, false), .ca 81 [.t 21]⟩, ⟨some 23, some (20, false), .bi .gtr (.t 22) (.c (.int .i64 2))⟩, ⟨some 24, none, .pk (.t 20) (.c (.bool true)) (.t 23)⟩] (mkSt [(0, .u (.sl (List.map ApiTerm.cells e_0))), (1, .u (.int .i64 vars_1)), (19, .u (.bool o6))] [] 0) := by
      refine S_pure trivial (O_mv (d := .u (.bool o6)) (by kernel_rfl)) ?_
      obtain ⟨o9, hE, h⟩ := bindS h
      have K7 : Rs Try.prog 44 (retQ [4] (.bool r)) [.s q_term_Valid_9, .s q_term_Valid_24] [] (mkSt [(0, .u (.sl (List.map ApiTerm.cells e_0))), (1, .u (.int .i64 vars_1)), (24, .u (.bool o9))] [] 0) := by
        refine Rs_nil ?_
        refine N_s ?_
        refine R_cond (c := o9) (by kernel_rfl) h (fun h => ?_) (fun h => ?_)
        · refine R_seq ?_
          refine R_reg ?_
          refine S_pure trivial (O_mv (d := .u (.bool false)) (by kernel_rfl)) ?_
          refine Rs_nil ?_
          refine N_s ?_
          obtain rfl := (Option.some.inj h)
          refine R_ret ?_
          exact Q_ret (x := .bool false) (by kernel_rfl) (.refl _)
        · refine R_skip ?_
          refine N_s ?_
          refine R_seq ?_
          refine R_seq ?_
          refine R_reg ?_
          refine S_pure trivial (O_mv (d := .u (.sl (List.map ApiTerm.cells e_0))) (by kernel_rfl)) ?_
          refine S_pure trivial (O_ln (c := ApiTerm.cells) (li := e_0) (by kernel_rfl)) ?_
          refine S_pure trivial (O_mv (d := .u (.int .i64 0)) (by kernel_rfl)) ?_
          refine Rs_nil ?_
          refine N_s ?_
          refine R_block ?_
          obtain ⟨o10, hE, h⟩ := bindS h
          have K13 : ∀ (w12 : Unit), (Sum.inl w12) = o10 → Run Try.prog 44 (retQ [4] (.bool r)) [] q_term_Valid_3 (mkSt [] [] 1) := by
            intro w12 e; subst e
            replace h := elimL h
            refine R_seq ?_
            refine R_reg ?_
            refine S_pure trivial (O_mv (d := .u (.bool true)) (by kernel_rfl)) ?_
            refine Rs_nil ?_
            refine N_s ?_
            obtain rfl := (Option.some.inj h)
            refine R_ret ?_
            exact Q_ret (x := .bool true) (by kernel_rfl) (.refl _)
          have K15 : ∀ (w14 : Bool), (Sum.inr w14) = o10 → w14 = r := by
            intro w14 e; subst e
            replace h := elimR h
            exact Option.some.inj h
          refine R_loop (term_Valid.l23 e_0 vars_1) (fun s16 => (mkSt [(1, .u (.int .i64 vars_1)), (25, .u (.sl (List.map ApiTerm.cells e_0))), (26, .u (.int .i64 ((List.length e_0 : Int)))), (27, .u (.int .i64 s16))] [] 1)) hE (W_to (by kernel_rfl) (by kernel_rfl) (by kernel_rfl)) ?_
          intro K11 s16 x17 h hK11 hO11
          refine R_seq ?_
          refine R_reg ?_
          refine S_pure trivial (O_lss (k := .i64) (a := s16) (b := (List.length e_0 : Int)) (by kernel_rfl) (by kernel_rfl)) ?_
          refine Rs_nil ?_
          refine N_s ?_
          refine R_seq ?_
          refine R_cond (c := (decide (s16 < (List.length e_0 : Int)))) (by kernel_rfl) h (fun h => ?_) (fun h => ?_)
          · refine R_skip ?_
            refine N_s ?_
            refine R_seq ?_
            refine R_block ?_
            refine R_seq ?_
            refine R_reg ?_
            obtain ⟨y18, hy18, h⟩ := bindS h
            refine S_pure trivial (O_ia (c := ApiTerm.cells) (li := e_0) (i := s16) (k := .i64) (a := y18) (u := ApiTerm.cells y18) (by kernel_rfl) (by kernel_rfl) hy18 rfl rfl) ?_
            refine S_pure trivial (O_lda (cells := ApiTerm.cells y18) (off := 0) (us := ApiTerm.cells y18) (by kernel_rfl) rfl (by kernel_rfl)) ?_
            refine S_up trivial (O_al (zs := [.int .i64 0, .int .i64 0])) ?_
            show Rs _ _ _ _ _ (mkSt [(6, .ref 1 2 0 0), (30, .u (.agg (ApiTerm.cells y18))), (29, .u (.fp (ApiTerm.cells y18) 0)), (28, .u (.bool ((decide (s16 < (List.length e_0 : Int)))))), (1, .u (.int .i64 vars_1)), (25, .u (.sl (List.map ApiTerm.cells e_0))), (26, .u (.int .i64 ((List.length e_0 : Int)))), (27, .u (.int .i64 s16))] [(1, .drow 2 [[.u (.int .i64 0), .u (.int .i64 0)]])] 2)
            refine S_set trivial (O_st (b := 1) (s := 2) (off := 0) (d := .u (.agg (ApiTerm.cells y18))) (xs := [.u (.int .i64 y18.Op), .u (.int .i64 y18.Arg)]) (ds := [.u (.int .i64 0), .u (.int .i64 0)]) (ob := .drow 2 [[.u (.int .i64 y18.Op), .u (.int .i64 y18.Arg)]]) (by kernel_rfl) (by kernel_rfl) (by kernel_rfl) (by kernel_rfl) (by kernel_rfl) (by kernel_rfl)) ?_
            refine Rs_nil ?_
            refine N_s ?_
            obtain ⟨o19, hE, h⟩ := bindS h
            have K21 : ∀ (w20 : Bool), w20 = o19 → Run Try.prog 44 (retQ [4] (.bool r)) [.b 1, .s q_term_Valid_1, .k K11, .b 0, .s q_term_Valid_3] q_term_Valid_6 (mkSt [(1, .u (.int .i64 vars_1)), (25, .u (.sl (List.map ApiTerm.cells e_0))), (26, .u (.int .i64 ((List.length e_0 : Int)))), (27, .u (.int .i64 s16)), (42, .u (.bool w20))] [] 2) := by
              intro w20 e; subst e
              refine R_cond (c := w20) (by kernel_rfl) h (fun h => ?_) (fun h => ?_)
              · refine R_seq ?_
                refine R_reg ?_
                refine S_pure trivial (O_mv (d := .u (.bool false)) (by kernel_rfl)) ?_
                refine Rs_nil ?_
                refine N_s ?_
                obtain rfl := (K15 _ (hO11 _ h))
                refine R_ret ?_
                exact Q_ret (x := .bool false) (by kernel_rfl) (.refl _)
              · refine R_skip ?_
                refine N_b ?_
                refine N_s ?_
                refine R_reg ?_
                refine S_pure trivial (O_add (k := .i64) (a := s16) (b := 1) (by kernel_rfl) (by kernel_rfl)) ?_
                refine S_pure trivial (O_mv (d := .u (.int .i64 ((IntKind.i64.wrap (s16 + 1))))) (by kernel_rfl)) ?_
                refine Rs_nil ?_
                exact N_k (hK11 _ h _ (W_to (by kernel_rfl) (by kernel_rfl) (by kernel_rfl)))
            replace h := hE
            refine R_seq ?_
            refine R_rgd (show Try.prog.follows .mixedOrders = true from Checked.mixed Try.checked) ?_
            refine Rg_pure 1000 [1] trivial (O_far (b := 1) (s := 2) (i := 0) (o := 0) (by kernel_rfl)) (by kernel_rfl) ?_
            refine Rg_pure 1001 [1] trivial (O_ldo (b := 1) (s := 2) (off := 1) (ds := [.u (.int .i64 y18.Op), .u (.int .i64 y18.Arg)]) (d := .u (.int .i64 y18.Arg)) (by kernel_rfl) (by kernel_rfl) rfl (by kernel_rfl)) (by kernel_rfl) ?_
            refine Rg_pure 1002 [] trivial (O_lss (k := .i64) (a := y18.Arg) (b := 0) (by kernel_rfl) (by kernel_rfl)) (by kernel_rfl) ?_
            refine Rg_pure 1003 [] trivial (O_mv (d := .u (.bool ((decide (y18.Arg < 0))))) (by kernel_rfl)) (by kernel_rfl) ?_
            refine Rg_case (t := 34) (c := (decide (y18.Arg < 0))) (by kernel_rfl) h (fun hc h => ?_) (fun hc h => ?_)
            · refine Rg_skip (b := true) 1004 (by kernel_rfl) rfl (by kernel_rfl) ?_
              refine Rg_skip (b := true) 1005 (by kernel_rfl) rfl (by kernel_rfl) ?_
              refine Rg_skip (b := true) 1006 (by kernel_rfl) rfl (by kernel_rfl) ?_
              refine Rg_skip (b := true) 1007 (by kernel_rfl) rfl (by kernel_rfl) ?_
              refine Rg_skip (b := true) 1008 (by kernel_rfl) rfl (by kernel_rfl) ?_
              refine Rg_skip (b := true) 1009 (by kernel_rfl) rfl (by kernel_rfl) ?_
              refine Rg_skip (b := true) 1010 (by kernel_rfl) rfl (by kernel_rfl) ?_
              refine Rg_pure 1011 [] trivial (O_pkt (d := .u (.bool true)) (by kernel_rfl) (by kernel_rfl)) (by kernel_rfl) ?_
              refine Rg_nil (by kernel_rfl) ?_
              refine N_s ?_
              exact R_weak (W_to (by kernel_rfl) (by kernel_rfl) (by kernel_rfl)) (K21 _ (Option.some.inj h))
            · refine Rg_pure 1004 [1] (by show _ = _; kernel_rfl) (O_far (b := 1) (s := 2) (i := 0) (o := 0) (by kernel_rfl)) (by kernel_rfl) ?_
              refine Rg_pure 1005 [1] (by show _ = _; kernel_rfl) (O_ldo (b := 1) (s := 2) (off := 1) (ds := [.u (.int .i64 y18.Op), .u (.int .i64 y18.Arg)]) (d := .u (.int .i64 y18.Arg)) (by kernel_rfl) (by kernel_rfl) rfl (by kernel_rfl)) (by kernel_rfl) ?_
              refine Rg_pure 1006 [1] (by show _ = _; kernel_rfl) (O_far (b := 1) (s := 2) (i := 0) (o := 0) (by kernel_rfl)) (by kernel_rfl) ?_
              refine Rg_pure 1007 [1] (by show _ = _; kernel_rfl) (O_ldo (b := 1) (s := 2) (off := 0) (ds := [.u (.int .i64 y18.Op), .u (.int .i64 y18.Arg)]) (d := .u (.int .i64 y18.Op)) (by kernel_rfl) (by kernel_rfl) rfl (by kernel_rfl)) (by kernel_rfl) ?_
              refine Rg_pure 1008 [] (by show _ = _; kernel_rfl) (O_mv (d := .u (.int .i64 vars_1)) (by kernel_rfl)) (by kernel_rfl) ?_
              obtain ⟨y22, hy22, h⟩ := bindS h
              refine Rg_pure 1009 [] (by show _ = _; kernel_rfl) (O_ca (us := [.int .i64 y18.Op, .int .i64 vars_1]) (r := .int .i64 y22) (by kernel_rfl) (term_limit.ok hy22)) (by kernel_rfl) ?_
              refine Rg_pure 1010 [] (by show _ = _; kernel_rfl) (O_gtr (k := .i64) (a := y18.Arg) (b := y22) (by kernel_rfl) (by kernel_rfl)) (by kernel_rfl) ?_
              refine Rg_pure 1011 [] trivial (O_pkf (d := .u (.bool ((decide (y22 < y18.Arg))))) (by kernel_rfl) (by kernel_rfl)) (by kernel_rfl) ?_
              refine Rg_nil (by kernel_rfl) ?_
              refine N_s ?_
              exact R_weak (W_to (by kernel_rfl) (by kernel_rfl) (by kernel_rfl)) (K21 _ (Option.some.inj h))
          · refine R_exit ?_
            refine E_s ?_
            refine E_k ?_
            refine E_b ?_
            refine N_s ?_
            exact R_weak (W_to (by kernel_rfl) (by kernel_rfl) (by kernel_rfl)) (K13 _ (hO11 _ h))
      replace h := hE
      refine S_case (t := 20) (c := o6) (by kernel_rfl) h (fun hc h => ?_) (fun hc h => ?_)
      · refine S_skip (b := true) (by kernel_rfl) rfl ?_
        refine S_skip (b := true) (by kernel_rfl) rfl ?_
        refine S_skip (b := true) (by kernel_rfl) rfl ?_
        refine S_pure trivial (O_pkt (d := .u (.bool true)) (by kernel_rfl) (by kernel_rfl)) ?_
        obtain rfl := Option.some.inj h
        exact Rs_weak (W_to (by kernel_rfl) (by kernel_rfl) (by kernel_rfl)) K7
      · refine S_pure (by show _ = _; kernel_rfl) (O_mv (d := .u (.sl (List.map ApiTerm.cells e_0))) (by kernel_rfl)) ?_
        obtain ⟨y24, hy24, h⟩ := bindS h
        refine S_pure (by show _ = _; kernel_rfl) (O_ca (us := [.sl (List.map ApiTerm.cells e_0)]) (r := .int .i64 y24) (by kernel_rfl) (term_Nest.ok hy24)) ?_
        refine S_pure (by show _ = _; kernel_rfl) (O_gtr (k := .i64) (a := y24) (b := 2) (by kernel_rfl) (by kernel_rfl)) ?_
        refine S_pure trivial (O_pkf (d := .u (.bool ((decide (2 < y24))))) (by kernel_rfl) (by kernel_rfl)) ?_
        obtain rfl := Option.some.inj h
        exact Rs_weak (W_to (by kernel_rfl) (by kernel_rfl) (by kernel_rfl)) K7
    replace h := hE
    refine S_case (t := 15) (c := o3) (by kernel_rfl) h (fun hc h => ?_) (fun hc h => ?_)
    · refine S_skip (b := true) (by kernel_rfl) rfl ?_
      refine S_skip (b := true) (by kernel_rfl) rfl ?_
      refine S_skip (b := true) (by kernel_rfl) rfl ?_
      refine S_pure trivial (O_pkt (d := .u (.bool true)) (by kernel_rfl) (by kernel_rfl)) ?_
      obtain rfl := Option.some.inj h
      exact Rs_weak (W_to (by kernel_rfl) (by kernel_rfl) (by kernel_rfl)) K4
    · refine S_pure (by show _ = _; kernel_rfl) (O_mv (d := .u (.sl (List.map ApiTerm.cells e_0))) (by kernel_rfl)) ?_
      obtain ⟨y25, hy25, h⟩ := bindS h
      refine S_pure (by show _ = _; kernel_rfl) (O_ca (us := [.sl (List.map ApiTerm.cells e_0)]) (r := .int .i64 y25) (by kernel_rfl) (term_Depth.ok hy25)) ?_
      refine S_pure (by show _ = _; kernel_rfl) (O_gtr (k := .i64) (a := y25) (b := 24) (by kernel_rfl) (by kernel_rfl)) ?_
      refine S_pure trivial (O_pkf (d := .u (.bool ((decide (24 < y25))))) (by kernel_rfl) (by kernel_rfl)) ?_
      obtain rfl := Option.some.inj h
      exact Rs_weak (W_to (by kernel_rfl) (by kernel_rfl) (by kernel_rfl)) K4
  replace h := hE
  refine S_case (t := 10) (c := (decide (200 < (List.length e_0 : Int)))) (by kernel_rfl) h (fun hc h => ?_) (fun hc h => ?_)
  · refine S_skip (b := true) (by kernel_rfl) rfl ?_
    refine S_skip (b := true) (by kernel_rfl) rfl ?_
    refine S_skip (b := true) (by kernel_rfl) rfl ?_
    refine S_pure trivial (O_pkt (d := .u (.bool true)) (by kernel_rfl) (by kernel_rfl)) ?_
    obtain rfl := Option.some.inj h
    exact Rs_weak (W_to (by kernel_rfl) (by kernel_rfl) (by kernel_rfl)) K1
  · refine S_pure (by show _ = _; kernel_rfl) (O_mv (d := .u (.sl (List.map ApiTerm.cells e_0))) (by kernel_rfl)) ?_
    obtain ⟨y26, hy26, h⟩ := bindS h
    refine S_pure (by show _ = _; kernel_rfl) (O_ca (us := [.sl (List.map ApiTerm.cells e_0)]) (r := .bool y26) (by kernel_rfl) (term_one.ok hy26)) ?_
    refine S_pure (by show _ = _; kernel_rfl) (O_not (b := y26) (by kernel_rfl)) ?_
    refine S_pure trivial (O_pkf (d := .u (.bool ((!y26)))) (by kernel_rfl) (by kernel_rfl)) ?_
    obtain rfl := Option.some.inj h
    exact Rs_weak (W_to (by kernel_rfl) (by kernel_rfl) (by kernel_rfl)) K1

/-! ### selfstab/types.Of -/
def q_types_Of_1 : AC := .reg [⟨some 6, none, .mv (.c (.int .i64 0))⟩, ⟨some 7, none, .mv (.c (.int .i64 6))⟩]
def q_types_Of_2 : AC := .seq q_types_Of_1 .ret
def q_types_Of_3 : AC := .reg [⟨some 35, none, .mv (.t 10)⟩, ⟨some 6, none, .mv (.t 35)⟩, ⟨some 7, none, .mv (.c (.int .i64 0))⟩]
def q_types_Of_4 : AC := .seq q_types_Of_3 .ret
def q_types_Of_5 : AC := .cond (.t 34) q_types_Of_4 .skip
def q_types_Of_6 : AC := .reg [⟨some 33, none, .mv (.t 10)⟩, ⟨some 34, none, .bi .neq (.t 33) (.c (.int .i64 0))⟩]
def q_types_Of_7 : AC := .seq q_types_Of_6 q_types_Of_5
def q_types_Of_8 : AC := .reg [⟨some 29, none, .mv (.t 0)⟩, ⟨some 30, none, .mv (.t 1)⟩, ⟨some 31, none, .mv (.t 2)⟩, ⟨some 32, none, .ca 50 [.t 29, .t 30, .t 31]⟩, ⟨some 10, none, .mv (.t 32)⟩]
def q_types_Of_9 : AC := .seq q_types_Of_8 q_types_Of_7
def q_types_Of_10 : AC := .seq q_types_Of_9 q_types_Of_2
def q_types_Of_11 : AC := .reg [⟨some 6, none, .mv (.c (.int .i64 0))⟩, ⟨some 7, none, .mv (.c (.int .i64 7))⟩]
def q_types_Of_12 : AC := .seq q_types_Of_11 .ret
def q_types_Of_13 : AC := .cond (.t 28) q_types_Of_12 .skip
def q_types_Of_14 : AC := .reg [⟨some 24, none, .mv (.t 0)⟩, ⟨some 25, none, .mv (.t 1)⟩, ⟨some 26, none, .ln (.t 25)⟩, ⟨some 27, none, .ca 49 [.t 24, .t 26]⟩, ⟨some 28, none, .un .not (.t 27)⟩]
def q_types_Of_15 : AC := .seq q_types_Of_14 q_types_Of_13
def q_types_Of_16 : AC := .seq q_types_Of_15 q_types_Of_10
def q_types_Of_17 : AC := .reg [⟨some 23, none, .bi .add (.t 16) (.c (.int .i64 1))⟩, ⟨some 16, none, .mv (.t 23)⟩]
def q_types_Of_18 : AC := .reg [⟨some 6, none, .mv (.c (.int .i64 0))⟩, ⟨some 7, none, .mv (.c (.int .i64 7))⟩]
def q_types_Of_19 : AC := .seq q_types_Of_18 .ret
def q_types_Of_20 : AC := .cond (.t 22) q_types_Of_19 .skip
def q_types_Of_21 : AC := .reg [⟨some 20, none, .mv (.t 9)⟩, ⟨some 21, none, .ca 48 [.t 20]⟩, ⟨some 22, none, .un .not (.t 21)⟩]
def q_types_Of_22 : AC := .seq q_types_Of_21 q_types_Of_20
def q_types_Of_23 : AC := .reg [⟨some 18, none, .ia 1 (.t 14) (.t 16)⟩, ⟨some 19, none, .ld false 1 (.t 18)⟩, ⟨some 9, none, .mv (.t 19)⟩]
def q_types_Of_24 : AC := .seq q_types_Of_23 q_types_Of_22
def q_types_Of_25 : AC := .block 1 q_types_Of_24
def q_types_Of_26 : AC := .seq q_types_Of_25 q_types_Of_17
def q_types_Of_27 : AC := .cond (.t 17) .skip (.exit 0)
def q_types_Of_28 : AC := .seq q_types_Of_27 q_types_Of_26
def q_types_Of_29 : AC := .reg [⟨some 17, none, .bi .lss (.t 16) (.t 15)⟩]
def q_types_Of_30 : AC := .seq q_types_Of_29 q_types_Of_28
def q_types_Of_31 : AC := .loop q_types_Of_30
def q_types_Of_32 : AC := .block 0 q_types_Of_31
def q_types_Of_33 : AC := .reg [⟨some 14, none, .mv (.t 1)⟩, ⟨some 15, none, .ln (.t 14)⟩, ⟨some 16, none, .mv (.c (.int .i64 0))⟩]
def q_types_Of_34 : AC := .seq q_types_Of_33 q_types_Of_32
def q_types_Of_35 : AC := .seq q_types_Of_34 q_types_Of_16
def q_types_Of_36 : AC := .reg [⟨some 6, none, .mv (.c (.int .i64 0))⟩, ⟨some 7, none, .mv (.c (.int .i64 7))⟩]
def q_types_Of_37 : AC := .seq q_types_Of_36 .ret
def q_types_Of_38 : AC := .cond (.t 13) q_types_Of_37 .skip
def q_types_Of_39 : AC := .reg [⟨some 11, none, .mv (.t 1)⟩, ⟨some 12, none, .ln (.t 11)⟩, ⟨some 13, none, .bi .gtr (.t 12) (.c (.int .i64 6))⟩]
def q_types_Of_40 : AC := .seq q_types_Of_39 q_types_Of_38
def q_types_Of_41 : AC := .seq q_types_Of_40 q_types_Of_35
def q_types_Of_42 : AC := .reg [⟨some 6, none, .mv (.c (.int .i64 0))⟩, ⟨some 7, none, .mv (.c (.int .i64 0))⟩]
def q_types_Of_43 : AC := .seq q_types_Of_42 q_types_Of_41
def c_types_Of : FC := ⟨36, [6, 7], q_types_Of_43⟩
theorem k_types_Of : okF Try.prog 26 c_types_Of = true := by decide +kernel
noncomputable def types_Of.l13 (kinds_1 : List Int) (s9 : Int) : Option (Int ⊕ (Unit ⊕ (Int × Int))) := (bif (decide (s9 < (List.length kinds_1 : Int))) then ((idx kinds_1 s9).bind (fun (y11 : Int) => ((types_kind y11).bind (fun (y12 : Bool) => (bif (!y12) then (some (Sum.inr (Sum.inr (0, 7)))) else (some (Sum.inl (IntKind.i64.wrap (s9 + 1))))))))) else (some (Sum.inr (Sum.inl ()))))
noncomputable def types_Of (e_0 : List ApiTerm) (kinds_1 : List Int) (bound_2 : Bool) : Option (Int × Int) := (bif (decide (6 < (List.length kinds_1 : Int))) then (some (0, 7)) else ((loopO (types_Of.l13 kinds_1) 0).bind (Sum.elim (fun (w3 : Unit) => ((term_Valid e_0 ((List.length kinds_1 : Int))).bind (fun (y5 : Bool) => (bif (!y5) then (some (0, 7)) else ((types_of e_0 kinds_1 bound_2).bind (fun (y6 : Int) => (bif (!decide (y6 = 0)) then (some (y6, 0)) else (some (0, 6))))))))) (fun (w7 : (Int × Int)) => (some w7)))))
theorem types_Of.ok {e_0 : List ApiTerm} {kinds_1 : List Int} {bound_2 : Bool} {r : Int × Int} (h : types_Of e_0 kinds_1 bound_2 = some r) : PC Try.prog 26 [.sl (List.map ApiTerm.cells e_0), .sl (List.map (cInt .i64) kinds_1), .bool bound_2] (.tup [.int .i64 r.1, .int .i64 r.2]) := by
  refine PC_run k_types_Of rfl (L := [(0, .u (.sl (List.map ApiTerm.cells e_0))), (1, .u (.sl (List.map (cInt .i64) kinds_1))), (2, .u (.bool bound_2))]) rfl ?_
  show Run Try.prog 36 (retQ [6, 7] (.tup [.int .i64 r.1, .int .i64 r.2])) [] q_types_Of_43 _
  refine R_seq ?_
  refine R_reg ?_
  refine S_pure trivial (O_mv (d := .u (.int .i64 0)) (by kernel_rfl)) ?_
  refine S_pure trivial (O_mv (d := .u (.int .i64 0)) (by kernel_rfl)) ?_
  refine Rs_nil ?_
  refine N_s ?_
  refine R_seq ?_
  refine R_seq ?_
  refine R_reg ?_
  refine S_pure trivial (O_mv (d := .u (.sl (List.map (cInt .i64) kinds_1))) (by kernel_rfl)) ?_
  refine S_pure trivial (O_ln (c := (cInt .i64)) (li := kinds_1) (by kernel_rfl)) ?_
  refine S_pure trivial (O_gtr (k := .i64) (a := (List.length kinds_1 : Int)) (b := 6) (by kernel_rfl) (by kernel_rfl)) ?_
  refine Rs_nil ?_
  refine N_s ?_
  refine R_cond (c := (decide (6 < (List.length kinds_1 : Int)))) (by kernel_rfl) h (fun h => ?_) (fun h => ?_)
  · refine R_seq ?_
    refine R_reg ?_
    refine S_pure trivial (O_mv (d := .u (.int .i64 0)) (by kernel_rfl)) ?_
    refine S_pure trivial (O_mv (d := .u (.int .i64 7)) (by kernel_rfl)) ?_
    refine Rs_nil ?_
    refine N_s ?_
    obtain rfl := (Option.some.inj h)
    refine R_ret ?_
    exact Q_ret (x := .tup [.int .i64 0, .int .i64 7]) (by kernel_rfl) (.refl _)
  · refine R_skip ?_
    refine N_s ?_
    refine R_seq ?_
    refine R_seq ?_
    refine R_reg ?_
    refine S_pure trivial (O_mv (d := .u (.sl (List.map (cInt .i64) kinds_1))) (by kernel_rfl)) ?_
    refine S_pure trivial (O_ln (c := (cInt .i64)) (li := kinds_1) (by kernel_rfl)) ?_
    refine S_pure trivial (O_mv (d := .u (.int .i64 0)) (by kernel_rfl)) ?_
    refine Rs_nil ?_
    refine N_s ?_
    refine R_block ?_
    obtain ⟨o1, hE, h⟩ := bindS h
    have K4 : ∀ (w3 : Unit), (Sum.inl w3) = o1 → Run Try.prog 36 (retQ [6, 7] (.tup [.int .i64 r.1, .int .i64 r.2])) [] q_types_Of_16 (mkSt [(0, .u (.sl (List.map ApiTerm.cells e_0))), (1, .u (.sl (List.map (cInt .i64) kinds_1))), (2, .u (.bool bound_2))] [] 0) := by
      intro w3 e; subst e
      replace h := elimL h
      refine R_seq ?_
      refine R_seq ?_
      refine R_reg ?_
      refine S_pure trivial (O_mv (d := .u (.sl (List.map ApiTerm.cells e_0))) (by kernel_rfl)) ?_
      refine S_pure trivial (O_mv (d := .u (.sl (List.map (cInt .i64) kinds_1))) (by kernel_rfl)) ?_
      refine S_pure trivial (O_ln (c := (cInt .i64)) (li := kinds_1) (by kernel_rfl)) ?_
      obtain ⟨y5, hy5, h⟩ := bindS h
      refine S_pure trivial (O_ca (us := [.sl (List.map ApiTerm.cells e_0), .int .i64 ((List.length kinds_1 : Int))]) (r := .bool y5) (by kernel_rfl) (term_Valid.ok hy5)) ?_
      refine S_pure trivial (O_not (b := y5) (by kernel_rfl)) ?_
      refine Rs_nil ?_
      refine N_s ?_
      refine R_cond (c := (!y5)) (by kernel_rfl) h (fun h => ?_) (fun h => ?_)
      · refine R_seq ?_
        refine R_reg ?_
        refine S_pure trivial (O_mv (d := .u (.int .i64 0)) (by kernel_rfl)) ?_
        refine S_pure trivial (O_mv (d := .u (.int .i64 7)) (by kernel_rfl)) ?_
        refine Rs_nil ?_
        refine N_s ?_
        obtain rfl := (Option.some.inj h)
        refine R_ret ?_
        exact Q_ret (x := .tup [.int .i64 0, .int .i64 7]) (by kernel_rfl) (.refl _)
      · refine R_skip ?_
        refine N_s ?_
        refine R_seq ?_
        refine R_seq ?_
        refine R_reg ?_
        refine S_pure trivial (O_mv (d := .u (.sl (List.map ApiTerm.cells e_0))) (by kernel_rfl)) ?_
        refine S_pure trivial (O_mv (d := .u (.sl (List.map (cInt .i64) kinds_1))) (by kernel_rfl)) ?_
        refine S_pure trivial (O_mv (d := .u (.bool bound_2)) (by kernel_rfl)) ?_
        obtain ⟨y6, hy6, h⟩ := bindS h
        refine S_pure trivial (O_ca (us := [.sl (List.map ApiTerm.cells e_0), .sl (List.map (cInt .i64) kinds_1), .bool bound_2]) (r := .int .i64 y6) (by kernel_rfl) (types_of.ok hy6)) ?_
        refine S_pure trivial (O_mv (d := .u (.int .i64 y6)) (by kernel_rfl)) ?_
        refine Rs_nil ?_
        refine N_s ?_
        refine R_seq ?_
        refine R_reg ?_
        refine S_pure trivial (O_mv (d := .u (.int .i64 y6)) (by kernel_rfl)) ?_
        refine S_pure trivial (O_neq (k := .i64) (a := y6) (b := 0) (by kernel_rfl) (by kernel_rfl)) ?_
        refine Rs_nil ?_
        refine N_s ?_
        refine R_cond (c := (!decide (y6 = 0))) (by kernel_rfl) h (fun h => ?_) (fun h => ?_)
        · refine R_seq ?_
          refine R_reg ?_
          refine S_pure trivial (O_mv (d := .u (.int .i64 y6)) (by kernel_rfl)) ?_
          refine S_pure trivial (O_mv (d := .u (.int .i64 y6)) (by kernel_rfl)) ?_
          refine S_pure trivial (O_mv (d := .u (.int .i64 0)) (by kernel_rfl)) ?_
          refine Rs_nil ?_
          refine N_s ?_
          obtain rfl := (Option.some.inj h)
          refine R_ret ?_
          exact Q_ret (x := .tup [.int .i64 y6, .int .i64 0]) (by kernel_rfl) (.refl _)
        · refine R_skip ?_
          refine N_s ?_
          refine R_seq ?_
          refine R_reg ?_
          refine S_pure trivial (O_mv (d := .u (.int .i64 0)) (by kernel_rfl)) ?_
          refine S_pure trivial (O_mv (d := .u (.int .i64 6)) (by kernel_rfl)) ?_
          refine Rs_nil ?_
          refine N_s ?_
          obtain rfl := (Option.some.inj h)
          refine R_ret ?_
          exact Q_ret (x := .tup [.int .i64 0, .int .i64 6]) (by kernel_rfl) (.refl _)
    have K8 : ∀ (w7 : (Int × Int)), (Sum.inr w7) = o1 → w7 = r := by
      intro w7 e; subst e
      replace h := elimR h
      exact Option.some.inj h
    refine R_loop (types_Of.l13 kinds_1) (fun s9 => (mkSt [(0, .u (.sl (List.map ApiTerm.cells e_0))), (1, .u (.sl (List.map (cInt .i64) kinds_1))), (2, .u (.bool bound_2)), (14, .u (.sl (List.map (cInt .i64) kinds_1))), (15, .u (.int .i64 ((List.length kinds_1 : Int)))), (16, .u (.int .i64 s9))] [] 0)) hE (W_to (by kernel_rfl) (by kernel_rfl) (by kernel_rfl)) ?_
    intro K2 s9 x10 h hK2 hO2
    refine R_seq ?_
    refine R_reg ?_
    refine S_pure trivial (O_lss (k := .i64) (a := s9) (b := (List.length kinds_1 : Int)) (by kernel_rfl) (by kernel_rfl)) ?_
    refine Rs_nil ?_
    refine N_s ?_
    refine R_seq ?_
    refine R_cond (c := (decide (s9 < (List.length kinds_1 : Int)))) (by kernel_rfl) h (fun h => ?_) (fun h => ?_)
    · refine R_skip ?_
      refine N_s ?_
      refine R_seq ?_
      refine R_block ?_
      refine R_seq ?_
      refine R_reg ?_
      obtain ⟨y11, hy11, h⟩ := bindS h
      refine S_pure trivial (O_ia (c := (cInt .i64)) (li := kinds_1) (i := s9) (k := .i64) (a := y11) (u := (cInt .i64) y11) (by kernel_rfl) (by kernel_rfl) hy11 rfl rfl) ?_
      refine S_pure trivial (O_ldf (cells := (cInt .i64) y11) (off := 0) (u := .int .i64 y11) (by kernel_rfl) (by kernel_rfl)) ?_
      refine S_pure trivial (O_mv (d := .u (.int .i64 y11)) (by kernel_rfl)) ?_
      refine Rs_nil ?_
      refine N_s ?_
      refine R_seq ?_
      refine R_reg ?_
      refine S_pure trivial (O_mv (d := .u (.int .i64 y11)) (by kernel_rfl)) ?_
      obtain ⟨y12, hy12, h⟩ := bindS h
      refine S_pure trivial (O_ca (us := [.int .i64 y11]) (r := .bool y12) (by kernel_rfl) (types_kind.ok hy12)) ?_
      refine S_pure trivial (O_not (b := y12) (by kernel_rfl)) ?_
      refine Rs_nil ?_
      refine N_s ?_
      refine R_cond (c := (!y12)) (by kernel_rfl) h (fun h => ?_) (fun h => ?_)
      · refine R_seq ?_
        refine R_reg ?_
        refine S_pure trivial (O_mv (d := .u (.int .i64 0)) (by kernel_rfl)) ?_
        refine S_pure trivial (O_mv (d := .u (.int .i64 7)) (by kernel_rfl)) ?_
        refine Rs_nil ?_
        refine N_s ?_
        obtain rfl := (K8 _ (hO2 _ h))
        refine R_ret ?_
        exact Q_ret (x := .tup [.int .i64 0, .int .i64 7]) (by kernel_rfl) (.refl _)
      · refine R_skip ?_
        refine N_b ?_
        refine N_s ?_
        refine R_reg ?_
        refine S_pure trivial (O_add (k := .i64) (a := s9) (b := 1) (by kernel_rfl) (by kernel_rfl)) ?_
        refine S_pure trivial (O_mv (d := .u (.int .i64 ((IntKind.i64.wrap (s9 + 1))))) (by kernel_rfl)) ?_
        refine Rs_nil ?_
        exact N_k (hK2 _ h _ (W_to (by kernel_rfl) (by kernel_rfl) (by kernel_rfl)))
    · refine R_exit ?_
      refine E_s ?_
      refine E_k ?_
      refine E_b ?_
      refine N_s ?_
      exact R_weak (W_to (by kernel_rfl) (by kernel_rfl) (by kernel_rfl)) (K4 _ (hO2 _ h))

end Go.Proofs.Ytkpghgnbbfpbmaa
