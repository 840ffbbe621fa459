/- Functions of the program over typed data, and that the program's functions come to their results: written by a program (lift.py). -/
import Derived.Test.YtkpghgnbbfpbmaaDs
import Derived.Test.YtkpghgnbbfpbmaaChecked
set_option linter.unusedVariables false
set_option maxRecDepth 100000
set_option maxHeartbeats 1000000
namespace Go.Proofs.Ytkpghgnbbfpbmaa

structure ApiTerm where
  Op : Int
  Arg : Int
def ApiTerm.cells (x : ApiTerm) : List U := [.int .i64 x.Op, .int .i64 x.Arg]

structure TypesChecker where
  e : List ApiTerm
  kinds : List Int
  at_ : Int
def TypesChecker.cells (x : TypesChecker) : List U := [.sl (List.map ApiTerm.cells x.e), .sl (List.map (cInt .i64) x.kinds), .int .i64 x.at_]

/-! ### selfstab/term.Arity -/
def q_term_Arity_1 : AC := .reg [⟨some 2, none, .mv (.c (.int .i64 (-1)))⟩]
def q_term_Arity_2 : AC := .seq q_term_Arity_1 .ret
def q_term_Arity_3 : AC := .reg [⟨some 2, none, .mv (.c (.int .i64 0))⟩]
def q_term_Arity_4 : AC := .seq q_term_Arity_3 .ret
def q_term_Arity_5 : AC := .reg [⟨some 2, none, .mv (.c (.int .i64 1))⟩]
def q_term_Arity_6 : AC := .seq q_term_Arity_5 .ret
def q_term_Arity_7 : AC := .reg [⟨some 2, none, .mv (.c (.int .i64 2))⟩]
def q_term_Arity_8 : AC := .seq q_term_Arity_7 .ret
def q_term_Arity_9 : AC := .cond (.t 16) q_term_Arity_8 .skip
def q_term_Arity_10 : AC := .reg [⟨some 17, none, .mv (.t 0)⟩, ⟨some 18, none, .bi .leq (.t 17) (.c (.int .i64 42))⟩, ⟨some 16, none, .mv (.t 18)⟩]
def q_term_Arity_11 : AC := .seq q_term_Arity_10 q_term_Arity_9
def q_term_Arity_12 : AC := .cond (.t 13) q_term_Arity_6 q_term_Arity_11
def q_term_Arity_13 : AC := .reg [⟨some 14, none, .mv (.t 0)⟩, ⟨some 15, none, .bi .leq (.t 14) (.c (.int .i64 29))⟩, ⟨some 13, none, .mv (.t 15)⟩]
def q_term_Arity_14 : AC := .seq q_term_Arity_13 q_term_Arity_12
def q_term_Arity_15 : AC := .cond (.t 10) q_term_Arity_4 q_term_Arity_14
def q_term_Arity_16 : AC := .reg [⟨some 11, none, .mv (.t 0)⟩, ⟨some 12, none, .bi .leq (.t 11) (.c (.int .i64 17))⟩, ⟨some 10, none, .mv (.t 12)⟩]
def q_term_Arity_17 : AC := .seq q_term_Arity_16 q_term_Arity_15
def q_term_Arity_18 : AC := .cond (.t 3) q_term_Arity_2 q_term_Arity_17
def q_term_Arity_19 : AC := .reg [⟨some 2, none, .mv (.c (.int .i64 3))⟩]
def q_term_Arity_20 : AC := .seq q_term_Arity_19 .ret
def q_term_Arity_21 : AC := .reg [⟨some 4, none, .mv (.t 0)⟩, ⟨some 5, none, .bi .lss (.t 4) (.c (.int .i64 1))⟩, ⟨some 6, none, .mv (.t 5)⟩, ⟨some 7, some (6, false), .mv (.t 0)⟩, ⟨some 8, some (6, false), .bi .gtr (.t 7) (.c (.int .i64 43))⟩, ⟨some 9, none, .pk (.t 6) (.c (.bool true)) (.t 8)⟩, ⟨some 3, none, .mv (.t 9)⟩]
def q_term_Arity_22 : AC := .seq q_term_Arity_21 q_term_Arity_18
def q_term_Arity_23 : AC := .block 0 q_term_Arity_22
def q_term_Arity_24 : AC := .seq q_term_Arity_23 q_term_Arity_20
def q_term_Arity_25 : AC := .reg [⟨some 2, none, .mv (.c (.int .i64 0))⟩]
def q_term_Arity_26 : AC := .seq q_term_Arity_25 q_term_Arity_24
def c_term_Arity : FC := ⟨19, [2], q_term_Arity_26⟩
theorem k_term_Arity : okF Try.prog 102 c_term_Arity = true := by decide +kernel
noncomputable def term_Arity (op_0 : Int) : Option Int := (bif ((decide (op_0 < 1)) || (decide (43 < op_0))) then (some (-1)) else (bif (decide (op_0 ≤ 17)) then (some 0) else (bif (decide (op_0 ≤ 29)) then (some 1) else (bif (decide (op_0 ≤ 42)) then (some 2) else (some 3)))))
theorem term_Arity.ok {op_0 : Int} {r : Int} (h : term_Arity op_0 = some r) : PC Try.prog 102 [.int .i64 op_0] (.int .i64 r) := by
  refine PC_run k_term_Arity rfl (L := [(0, .u (.int .i64 op_0))]) rfl ?_
  show Run Try.prog 19 (retQ [2] (.int .i64 r)) [] q_term_Arity_26 _
  refine R_seq ?_
  refine R_reg ?_
  refine S_pure trivial (O_mv (d := .u (.int .i64 0)) (by kernel_rfl)) ?_
  refine Rs_nil ?_
  refine N_s ?_
  refine R_seq ?_
  refine R_block ?_
  refine R_seq ?_
  refine R_reg ?_
  refine S_pure trivial (O_mv (d := .u (.int .i64 op_0)) (by kernel_rfl)) ?_
  refine S_pure trivial (O_lss (k := .i64) (a := op_0) (b := 1) (by kernel_rfl) (by kernel_rfl)) ?_
  refine S_pure trivial (O_mv (d := .u (.bool ((decide (op_0 < 1))))) (by kernel_rfl)) ?_
  have K1 : ∀ v2 : Bool, v2 = ((decide (op_0 < 1)) || (decide (43 < op_0))) → Rs Try.prog 19 (retQ [2] (.int .i64 r)) [.s q_term_Arity_18, .b 0, .s q_term_Arity_20] [⟨some 3, none, .mv (.t 9)⟩] (mkSt [(0, .u (.int .i64 op_0)), (9, .u (.bool v2))] [] 0) := by
    intro v2 e; subst e
    refine S_pure trivial (O_mv (d := .u (.bool (((decide (op_0 < 1)) || (decide (43 < op_0)))))) (by kernel_rfl)) ?_
    refine Rs_nil ?_
    refine N_s ?_
    refine R_cond (c := ((decide (op_0 < 1)) || (decide (43 < op_0)))) (by kernel_rfl) h (fun h => ?_) (fun h => ?_)
    · refine R_seq ?_
      refine R_reg ?_
      refine S_pure trivial (O_mv (d := .u (.int .i64 ((-1)))) (by kernel_rfl)) ?_
      refine Rs_nil ?_
      refine N_s ?_
      obtain rfl := (Option.some.inj h)
      refine R_ret ?_
      exact Q_ret (x := .int .i64 ((-1))) (by kernel_rfl) (.refl _)
    · refine R_seq ?_
      refine R_reg ?_
      refine S_pure trivial (O_mv (d := .u (.int .i64 op_0)) (by kernel_rfl)) ?_
      refine S_pure trivial (O_leq (k := .i64) (a := op_0) (b := 17) (by kernel_rfl) (by kernel_rfl)) ?_
      refine S_pure trivial (O_mv (d := .u (.bool ((decide (op_0 ≤ 17))))) (by kernel_rfl)) ?_
      refine Rs_nil ?_
      refine N_s ?_
      refine R_cond (c := (decide (op_0 ≤ 17))) (by kernel_rfl) h (fun h => ?_) (fun h => ?_)
      · refine R_seq ?_
        refine R_reg ?_
        refine S_pure trivial (O_mv (d := .u (.int .i64 0)) (by kernel_rfl)) ?_
        refine Rs_nil ?_
        refine N_s ?_
        obtain rfl := (Option.some.inj h)
        refine R_ret ?_
        exact Q_ret (x := .int .i64 0) (by kernel_rfl) (.refl _)
      · refine R_seq ?_
        refine R_reg ?_
        refine S_pure trivial (O_mv (d := .u (.int .i64 op_0)) (by kernel_rfl)) ?_
        refine S_pure trivial (O_leq (k := .i64) (a := op_0) (b := 29) (by kernel_rfl) (by kernel_rfl)) ?_
        refine S_pure trivial (O_mv (d := .u (.bool ((decide (op_0 ≤ 29))))) (by kernel_rfl)) ?_
        refine Rs_nil ?_
        refine N_s ?_
        refine R_cond (c := (decide (op_0 ≤ 29))) (by kernel_rfl) h (fun h => ?_) (fun h => ?_)
        · refine R_seq ?_
          refine R_reg ?_
          refine S_pure trivial (O_mv (d := .u (.int .i64 1)) (by kernel_rfl)) ?_
          refine Rs_nil ?_
          refine N_s ?_
          obtain rfl := (Option.some.inj h)
          refine R_ret ?_
          exact Q_ret (x := .int .i64 1) (by kernel_rfl) (.refl _)
        · refine R_seq ?_
          refine R_reg ?_
          refine S_pure trivial (O_mv (d := .u (.int .i64 op_0)) (by kernel_rfl)) ?_
          refine S_pure trivial (O_leq (k := .i64) (a := op_0) (b := 42) (by kernel_rfl) (by kernel_rfl)) ?_
          refine S_pure trivial (O_mv (d := .u (.bool ((decide (op_0 ≤ 42))))) (by kernel_rfl)) ?_
          refine Rs_nil ?_
          refine N_s ?_
          refine R_cond (c := (decide (op_0 ≤ 42))) (by kernel_rfl) h (fun h => ?_) (fun h => ?_)
          · refine R_seq ?_
            refine R_reg ?_
            refine S_pure trivial (O_mv (d := .u (.int .i64 2)) (by kernel_rfl)) ?_
            refine Rs_nil ?_
            refine N_s ?_
            obtain rfl := (Option.some.inj h)
            refine R_ret ?_
            exact Q_ret (x := .int .i64 2) (by kernel_rfl) (.refl _)
          · refine R_skip ?_
            refine N_b ?_
            refine N_s ?_
            refine R_seq ?_
            refine R_reg ?_
            refine S_pure trivial (O_mv (d := .u (.int .i64 3)) (by kernel_rfl)) ?_
            refine Rs_nil ?_
            refine N_s ?_
            obtain rfl := (Option.some.inj h)
            refine R_ret ?_
            exact Q_ret (x := .int .i64 3) (by kernel_rfl) (.refl _)
  refine S_case0 (t := 6) (c := (decide (op_0 < 1))) (by kernel_rfl) (fun hc => ?_) (fun hc => ?_)
  · refine S_skip (b := true) (by kernel_rfl) rfl ?_
    refine S_skip (b := true) (by kernel_rfl) rfl ?_
    refine S_pure trivial (O_pkt (d := .u (.bool true)) (by kernel_rfl) (by kernel_rfl)) ?_
    exact Rs_weak (W_to (by kernel_rfl) (by kernel_rfl) (by kernel_rfl)) (K1 _ (by rw [hc] <;> rfl))
  · refine S_pure (by show _ = _; kernel_rfl) (O_mv (d := .u (.int .i64 op_0)) (by kernel_rfl)) ?_
    refine S_pure (by show _ = _; kernel_rfl) (O_gtr (k := .i64) (a := op_0) (b := 43) (by kernel_rfl) (by kernel_rfl)) ?_
    refine S_pure trivial (O_pkf (d := .u (.bool ((decide (43 < op_0))))) (by kernel_rfl) (by kernel_rfl)) ?_
    exact Rs_weak (W_to (by kernel_rfl) (by kernel_rfl) (by kernel_rfl)) (K1 _ (by rw [hc] <;> rfl))

/-! ### selfstab/types.when -/
def q_types_when_1 : AC := .reg [⟨some 4, none, .mv (.c (.int .i64 0))⟩]
def q_types_when_2 : AC := .seq q_types_when_1 .ret
def q_types_when_3 : AC := .reg [⟨some 6, none, .mv (.t 1)⟩, ⟨some 4, none, .mv (.t 6)⟩]
def q_types_when_4 : AC := .seq q_types_when_3 .ret
def q_types_when_5 : AC := .cond (.t 5) q_types_when_4 .skip
def q_types_when_6 : AC := .reg [⟨some 5, none, .mv (.t 0)⟩]
def q_types_when_7 : AC := .seq q_types_when_6 q_types_when_5
def q_types_when_8 : AC := .seq q_types_when_7 q_types_when_2
def q_types_when_9 : AC := .reg [⟨some 4, none, .mv (.c (.int .i64 0))⟩]
def q_types_when_10 : AC := .seq q_types_when_9 q_types_when_8
def c_types_when : FC := ⟨7, [4], q_types_when_10⟩
theorem k_types_when : okF Try.prog 103 c_types_when = true := by decide +kernel
noncomputable def types_when (ok_0 : Bool) (k_1 : Int) : Option Int := (bif ok_0 then (some k_1) else (some 0))
theorem types_when.ok {ok_0 : Bool} {k_1 : Int} {r : Int} (h : types_when ok_0 k_1 = some r) : PC Try.prog 103 [.bool ok_0, .int .i64 k_1] (.int .i64 r) := by
  refine PC_run k_types_when rfl (L := [(0, .u (.bool ok_0)), (1, .u (.int .i64 k_1))]) rfl ?_
  show Run Try.prog 7 (retQ [4] (.int .i64 r)) [] q_types_when_10 _
  refine R_seq ?_
  refine R_reg ?_
  refine S_pure trivial (O_mv (d := .u (.int .i64 0)) (by kernel_rfl)) ?_
  refine Rs_nil ?_
  refine N_s ?_
  refine R_seq ?_
  refine R_seq ?_
  refine R_reg ?_
  refine S_pure trivial (O_mv (d := .u (.bool ok_0)) (by kernel_rfl)) ?_
  refine Rs_nil ?_
  refine N_s ?_
  refine R_cond (c := ok_0) (by kernel_rfl) h (fun h => ?_) (fun h => ?_)
  · refine R_seq ?_
    refine R_reg ?_
    refine S_pure trivial (O_mv (d := .u (.int .i64 k_1)) (by kernel_rfl)) ?_
    refine S_pure trivial (O_mv (d := .u (.int .i64 k_1)) (by kernel_rfl)) ?_
    refine Rs_nil ?_
    refine N_s ?_
    obtain rfl := (Option.some.inj h)
    refine R_ret ?_
    exact Q_ret (x := .int .i64 k_1) (by kernel_rfl) (.refl _)
  · refine R_skip ?_
    refine N_s ?_
    refine R_seq ?_
    refine R_reg ?_
    refine S_pure trivial (O_mv (d := .u (.int .i64 0)) (by kernel_rfl)) ?_
    refine Rs_nil ?_
    refine N_s ?_
    obtain rfl := (Option.some.inj h)
    refine R_ret ?_
    exact Q_ret (x := .int .i64 0) (by kernel_rfl) (.refl _)

/-! ### selfstab/types.all -/
def q_types_all_1 : AC := .reg [⟨some 4, none, .mv (.c (.bool true))⟩]
def q_types_all_2 : AC := .seq q_types_all_1 .ret
def q_types_all_3 : AC := .reg [⟨some 16, none, .bi .add (.t 9) (.c (.int .i64 1))⟩, ⟨some 9, none, .mv (.t 16)⟩]
def q_types_all_4 : AC := .reg [⟨some 4, none, .mv (.c (.bool false))⟩]
def q_types_all_5 : AC := .seq q_types_all_4 .ret
def q_types_all_6 : AC := .cond (.t 15) q_types_all_5 .skip
def q_types_all_7 : AC := .reg [⟨some 13, none, .mv (.t 6)⟩, ⟨some 14, none, .mv (.t 1)⟩, ⟨some 15, none, .bi .neq (.t 13) (.t 14)⟩]
def q_types_all_8 : AC := .seq q_types_all_7 q_types_all_6
def q_types_all_9 : AC := .reg [⟨some 11, none, .ia 1 (.t 7) (.t 9)⟩, ⟨some 12, none, .ld false 1 (.t 11)⟩, ⟨some 6, none, .mv (.t 12)⟩]
def q_types_all_10 : AC := .seq q_types_all_9 q_types_all_8
def q_types_all_11 : AC := .block 1 q_types_all_10
def q_types_all_12 : AC := .seq q_types_all_11 q_types_all_3
def q_types_all_13 : AC := .cond (.t 10) .skip (.exit 0)
def q_types_all_14 : AC := .seq q_types_all_13 q_types_all_12
def q_types_all_15 : AC := .reg [⟨some 10, none, .bi .lss (.t 9) (.t 8)⟩]
def q_types_all_16 : AC := .seq q_types_all_15 q_types_all_14
def q_types_all_17 : AC := .loop q_types_all_16
def q_types_all_18 : AC := .block 0 q_types_all_17
def q_types_all_19 : AC := .reg [⟨some 7, none, .mv (.t 0)⟩, ⟨some 8, none, .ln (.t 7)⟩, ⟨some 9, none, .mv (.c (.int .i64 0))⟩]
def q_types_all_20 : AC := .seq q_types_all_19 q_types_all_18
def q_types_all_21 : AC := .seq q_types_all_20 q_types_all_2
def q_types_all_22 : AC := .reg [⟨some 4, none, .mv (.c (.bool false))⟩]
def q_types_all_23 : AC := .seq q_types_all_22 q_types_all_21
def c_types_all : FC := ⟨17, [4], q_types_all_23⟩
theorem k_types_all : okF Try.prog 104 c_types_all = true := by decide +kernel
noncomputable def types_all.l10 (l_0 : List Int) (k_1 : Int) (s7 : Int) : Option (Int ⊕ (Unit ⊕ Bool)) := (bif (decide (s7 < (List.length l_0 : Int))) then ((idx l_0 s7).bind (fun (y9 : Int) => (bif (!decide (y9 = k_1)) then (some (Sum.inr (Sum.inr false))) else (some (Sum.inl (IntKind.i64.wrap (s7 + 1))))))) else (some (Sum.inr (Sum.inl ()))))
noncomputable def types_all (l_0 : List Int) (k_1 : Int) : Option Bool := ((loopO (types_all.l10 l_0 k_1) 0).bind (Sum.elim (fun (w3 : Unit) => (some true)) (fun (w5 : Bool) => (some w5))))
theorem types_all.ok {l_0 : List Int} {k_1 : Int} {r : Bool} (h : types_all l_0 k_1 = some r) : PC Try.prog 104 [.sl (List.map (cInt .i64) l_0), .int .i64 k_1] (.bool r) := by
  refine PC_run k_types_all rfl (L := [(0, .u (.sl (List.map (cInt .i64) l_0))), (1, .u (.int .i64 k_1))]) rfl ?_
  show Run Try.prog 17 (retQ [4] (.bool r)) [] q_types_all_23 _
  refine R_seq ?_
  refine R_reg ?_
  refine S_pure trivial (O_mv (d := .u (.bool false)) (by kernel_rfl)) ?_
  refine Rs_nil ?_
  refine N_s ?_
  refine R_seq ?_
  refine R_seq ?_
  refine R_reg ?_
  refine S_pure trivial (O_mv (d := .u (.sl (List.map (cInt .i64) l_0))) (by kernel_rfl)) ?_
  refine S_pure trivial (O_ln (c := (cInt .i64)) (li := l_0) (by kernel_rfl)) ?_
  refine S_pure trivial (O_mv (d := .u (.int .i64 0)) (by kernel_rfl)) ?_
  refine Rs_nil ?_
  refine N_s ?_
  refine R_block ?_
  obtain ⟨o1, hE, h⟩ := bindS h
  have K4 : ∀ (w3 : Unit), (Sum.inl w3) = o1 → Run Try.prog 17 (retQ [4] (.bool r)) [] q_types_all_2 (mkSt [] [] 0) := by
    intro w3 e; subst e
    replace h := elimL h
    refine R_seq ?_
    refine R_reg ?_
    refine S_pure trivial (O_mv (d := .u (.bool true)) (by kernel_rfl)) ?_
    refine Rs_nil ?_
    refine N_s ?_
    obtain rfl := (Option.some.inj h)
    refine R_ret ?_
    exact Q_ret (x := .bool true) (by kernel_rfl) (.refl _)
  have K6 : ∀ (w5 : Bool), (Sum.inr w5) = o1 → w5 = r := by
    intro w5 e; subst e
    replace h := elimR h
    exact Option.some.inj h
  refine R_loop (types_all.l10 l_0 k_1) (fun s7 => (mkSt [(1, .u (.int .i64 k_1)), (7, .u (.sl (List.map (cInt .i64) l_0))), (8, .u (.int .i64 ((List.length l_0 : Int)))), (9, .u (.int .i64 s7))] [] 0)) hE (W_to (by kernel_rfl) (by kernel_rfl) (by kernel_rfl)) ?_
  intro K2 s7 x8 h hK2 hO2
  refine R_seq ?_
  refine R_reg ?_
  refine S_pure trivial (O_lss (k := .i64) (a := s7) (b := (List.length l_0 : Int)) (by kernel_rfl) (by kernel_rfl)) ?_
  refine Rs_nil ?_
  refine N_s ?_
  refine R_seq ?_
  refine R_cond (c := (decide (s7 < (List.length l_0 : Int)))) (by kernel_rfl) h (fun h => ?_) (fun h => ?_)
  · refine R_skip ?_
    refine N_s ?_
    refine R_seq ?_
    refine R_block ?_
    refine R_seq ?_
    refine R_reg ?_
    obtain ⟨y9, hy9, h⟩ := bindS h
    refine S_pure trivial (O_ia (c := (cInt .i64)) (li := l_0) (i := s7) (k := .i64) (a := y9) (u := (cInt .i64) y9) (by kernel_rfl) (by kernel_rfl) hy9 rfl rfl) ?_
    refine S_pure trivial (O_ldf (cells := (cInt .i64) y9) (off := 0) (u := .int .i64 y9) (by kernel_rfl) (by kernel_rfl)) ?_
    refine S_pure trivial (O_mv (d := .u (.int .i64 y9)) (by kernel_rfl)) ?_
    refine Rs_nil ?_
    refine N_s ?_
    refine R_seq ?_
    refine R_reg ?_
    refine S_pure trivial (O_mv (d := .u (.int .i64 y9)) (by kernel_rfl)) ?_
    refine S_pure trivial (O_mv (d := .u (.int .i64 k_1)) (by kernel_rfl)) ?_
    refine S_pure trivial (O_neq (k := .i64) (a := y9) (b := k_1) (by kernel_rfl) (by kernel_rfl)) ?_
    refine Rs_nil ?_
    refine N_s ?_
    refine R_cond (c := (!decide (y9 = k_1))) (by kernel_rfl) h (fun h => ?_) (fun h => ?_)
    · refine R_seq ?_
      refine R_reg ?_
      refine S_pure trivial (O_mv (d := .u (.bool false)) (by kernel_rfl)) ?_
      refine Rs_nil ?_
      refine N_s ?_
      obtain rfl := (K6 _ (hO2 _ h))
      refine R_ret ?_
      exact Q_ret (x := .bool false) (by kernel_rfl) (.refl _)
    · refine R_skip ?_
      refine N_b ?_
      refine N_s ?_
      refine R_reg ?_
      refine S_pure trivial (O_add (k := .i64) (a := s7) (b := 1) (by kernel_rfl) (by kernel_rfl)) ?_
      refine S_pure trivial (O_mv (d := .u (.int .i64 ((IntKind.i64.wrap (s7 + 1))))) (by kernel_rfl)) ?_
      refine Rs_nil ?_
      exact N_k (hK2 _ h _ (W_to (by kernel_rfl) (by kernel_rfl) (by kernel_rfl)))
  · refine R_exit ?_
    refine E_s ?_
    refine E_k ?_
    refine E_b ?_
    refine N_s ?_
    exact R_weak (W_to (by kernel_rfl) (by kernel_rfl) (by kernel_rfl)) (K4 _ (hO2 _ h))

/-! ### selfstab/types.kind -/
def q_types_kind_1 : AC := .reg [⟨some 3, none, .mv (.t 0)⟩, ⟨some 4, none, .bi .eql (.t 3) (.c (.int .i64 1))⟩, ⟨some 5, none, .mv (.t 4)⟩, ⟨some 6, some (5, false), .mv (.t 0)⟩, ⟨some 7, some (5, false), .bi .eql (.t 6) (.c (.int .i64 2))⟩, ⟨some 8, none, .pk (.t 5) (.c (.bool true)) (.t 7)⟩, ⟨some 9, none, .mv (.t 8)⟩, ⟨some 10, some (9, false), .mv (.t 0)⟩, ⟨some 11, some (9, false), .bi .eql (.t 10) (.c (.int .i64 3))⟩, ⟨some 12, none, .pk (.t 9) (.c (.bool true)) (.t 11)⟩, ⟨some 2, none, .mv (.t 12)⟩]
def q_types_kind_2 : AC := .seq q_types_kind_1 .ret
def q_types_kind_3 : AC := .reg [⟨some 2, none, .mv (.c (.bool false))⟩]
def q_types_kind_4 : AC := .seq q_types_kind_3 q_types_kind_2
def c_types_kind : FC := ⟨13, [2], q_types_kind_4⟩
theorem k_types_kind : okF Try.prog 48 c_types_kind = true := by decide +kernel
noncomputable def types_kind (k_0 : Int) : Option Bool := (some (((decide (k_0 = 1)) || (decide (k_0 = 2))) || (decide (k_0 = 3))))
theorem types_kind.ok {k_0 : Int} {r : Bool} (h : types_kind k_0 = some r) : PC Try.prog 48 [.int .i64 k_0] (.bool r) := by
  refine PC_run k_types_kind rfl (L := [(0, .u (.int .i64 k_0))]) rfl ?_
  show Run Try.prog 13 (retQ [2] (.bool r)) [] q_types_kind_4 _
  refine R_seq ?_
  refine R_reg ?_
  refine S_pure trivial (O_mv (d := .u (.bool false)) (by kernel_rfl)) ?_
  refine Rs_nil ?_
  refine N_s ?_
  refine R_seq ?_
  refine R_reg ?_
  refine S_pure trivial (O_mv (d := .u (.int .i64 k_0)) (by kernel_rfl)) ?_
  refine S_pure trivial (O_eql (k := .i64) (a := k_0) (b := 1) (by kernel_rfl) (by kernel_rfl)) ?_
  refine S_pure trivial (O_mv (d := .u (.bool ((decide (k_0 = 1))))) (by kernel_rfl)) ?_
  have K1 : ∀ v2 : Bool, v2 = ((decide (k_0 = 1)) || (decide (k_0 = 2))) → Rs Try.prog 13 (retQ [2] (.bool r)) [.s .ret] [⟨some 9, none, .mv (.t 8)⟩, ⟨some 10, some (9, false), .mv (.t 0)⟩, ⟨some 11, some (9, false), .bi .eql (.t 10) (.c (.int .i64 3))⟩, ⟨some 12, none, .pk (.t 9) (.c (.bool true)) (.t 11)⟩, ⟨some 2, none, .mv (.t 12)⟩] (mkSt [(0, .u (.int .i64 k_0)), (8, .u (.bool v2))] [] 0) := by
    intro v2 e; subst e
    refine S_pure trivial (O_mv (d := .u (.bool (((decide (k_0 = 1)) || (decide (k_0 = 2)))))) (by kernel_rfl)) ?_
    have K3 : ∀ v4 : Bool, v4 = (((decide (k_0 = 1)) || (decide (k_0 = 2))) || (decide (k_0 = 3))) → Rs Try.prog 13 (retQ [2] (.bool r)) [.s .ret] [⟨some 2, none, .mv (.t 12)⟩] (mkSt [(12, .u (.bool v4))] [] 0) := by
      intro v4 e; subst e
      refine S_pure trivial (O_mv (d := .u (.bool ((((decide (k_0 = 1)) || (decide (k_0 = 2))) || (decide (k_0 = 3)))))) (by kernel_rfl)) ?_
      refine Rs_nil ?_
      refine N_s ?_
      obtain rfl := (Option.some.inj h)
      refine R_ret ?_
      exact Q_ret (x := .bool ((((decide (k_0 = 1)) || (decide (k_0 = 2))) || (decide (k_0 = 3))))) (by kernel_rfl) (.refl _)
    refine S_case0 (t := 9) (c := ((decide (k_0 = 1)) || (decide (k_0 = 2)))) (by kernel_rfl) (fun hc => ?_) (fun hc => ?_)
    · refine S_skip (b := true) (by kernel_rfl) rfl ?_
      refine S_skip (b := true) (by kernel_rfl) rfl ?_
      refine S_pure trivial (O_pkt (d := .u (.bool true)) (by kernel_rfl) (by kernel_rfl)) ?_
      exact Rs_weak (W_to (by kernel_rfl) (by kernel_rfl) (by kernel_rfl)) (K3 _ (by rw [hc] <;> rfl))
    · refine S_pure (by show _ = _; kernel_rfl) (O_mv (d := .u (.int .i64 k_0)) (by kernel_rfl)) ?_
      refine S_pure (by show _ = _; kernel_rfl) (O_eql (k := .i64) (a := k_0) (b := 3) (by kernel_rfl) (by kernel_rfl)) ?_
      refine S_pure trivial (O_pkf (d := .u (.bool ((decide (k_0 = 3))))) (by kernel_rfl) (by kernel_rfl)) ?_
      exact Rs_weak (W_to (by kernel_rfl) (by kernel_rfl) (by kernel_rfl)) (K3 _ (by rw [hc] <;> rfl))
  refine S_case0 (t := 5) (c := (decide (k_0 = 1))) (by kernel_rfl) (fun hc => ?_) (fun hc => ?_)
  · refine S_skip (b := true) (by kernel_rfl) rfl ?_
    refine S_skip (b := true) (by kernel_rfl) rfl ?_
    refine S_pure trivial (O_pkt (d := .u (.bool true)) (by kernel_rfl) (by kernel_rfl)) ?_
    exact Rs_weak (W_to (by kernel_rfl) (by kernel_rfl) (by kernel_rfl)) (K1 _ (by rw [hc] <;> rfl))
  · refine S_pure (by show _ = _; kernel_rfl) (O_mv (d := .u (.int .i64 k_0)) (by kernel_rfl)) ?_
    refine S_pure (by show _ = _; kernel_rfl) (O_eql (k := .i64) (a := k_0) (b := 2) (by kernel_rfl) (by kernel_rfl)) ?_
    refine S_pure trivial (O_pkf (d := .u (.bool ((decide (k_0 = 2))))) (by kernel_rfl) (by kernel_rfl)) ?_
    exact Rs_weak (W_to (by kernel_rfl) (by kernel_rfl) (by kernel_rfl)) (K1 _ (by rw [hc] <;> rfl))

/-! ### (*selfstab/types.checker).operands -/
def q_types_checker_operands_1 : AC := .reg [⟨some 23, none, .mv (.t 7)⟩, ⟨some 6, none, .mv (.t 23)⟩]
def q_types_checker_operands_2 : AC := .seq q_types_checker_operands_1 .ret
def q_types_checker_operands_3 : AC := .reg [⟨some 22, none, .bi .add (.t 13) (.c (.int .i64 1))⟩, ⟨some 13, none, .mv (.t 22)⟩]
def q_types_checker_operands_4 : AC := .reg [⟨some 16, none, .mv (.t 7)⟩, ⟨some 17, none, .mv (.t 8)⟩, ⟨some 18, none, .mv (.t 0)⟩, ⟨some 19, none, .mv (.t 2)⟩, ⟨some 20, none, .ca 83 [.t 18, .t 19]⟩, ⟨some 21, none, .ia 1 (.t 16) (.t 17)⟩, ⟨none, none, .st 1 (.t 21) (.t 20)⟩]
def q_types_checker_operands_5 : AC := .reg [⟨some 15, none, .mv (.t 13)⟩, ⟨some 8, none, .mv (.t 15)⟩]
def q_types_checker_operands_6 : AC := .seq q_types_checker_operands_5 q_types_checker_operands_4
def q_types_checker_operands_7 : AC := .block 1 q_types_checker_operands_6
def q_types_checker_operands_8 : AC := .seq q_types_checker_operands_7 q_types_checker_operands_3
def q_types_checker_operands_9 : AC := .cond (.t 14) .skip (.exit 0)
def q_types_checker_operands_10 : AC := .seq q_types_checker_operands_9 q_types_checker_operands_8
def q_types_checker_operands_11 : AC := .reg [⟨some 14, none, .bi .lss (.t 13) (.t 12)⟩]
def q_types_checker_operands_12 : AC := .seq q_types_checker_operands_11 q_types_checker_operands_10
def q_types_checker_operands_13 : AC := .loop q_types_checker_operands_12
def q_types_checker_operands_14 : AC := .block 0 q_types_checker_operands_13
def q_types_checker_operands_15 : AC := .reg [⟨some 11, none, .mv (.t 7)⟩, ⟨some 12, none, .ln (.t 11)⟩, ⟨some 13, none, .mv (.c (.int .i64 0))⟩]
def q_types_checker_operands_16 : AC := .seq q_types_checker_operands_15 q_types_checker_operands_14
def q_types_checker_operands_17 : AC := .seq q_types_checker_operands_16 q_types_checker_operands_2
def q_types_checker_operands_18 : AC := .reg [⟨some 9, none, .mv (.t 1)⟩, ⟨some 10, none, .mk 1 8 [.int .i64 0] (.t 9) (.t 9)⟩, ⟨some 7, none, .mv (.t 10)⟩]
def q_types_checker_operands_19 : AC := .seq q_types_checker_operands_18 q_types_checker_operands_17
def q_types_checker_operands_20 : AC := .reg [⟨some 6, none, .mv (.c (.nil))⟩]
def q_types_checker_operands_21 : AC := .seq q_types_checker_operands_20 q_types_checker_operands_19
def c_types_checker_operands : FC := ⟨24, [6], q_types_checker_operands_21⟩
theorem k_types_checker_operands : okF Try.prog 101 c_types_checker_operands = true := by decide +kernel
noncomputable def types_checker_operands.l10 (bound_2 : Bool) (rec_types_checker_read : TypesChecker → Bool → Option (Int × TypesChecker)) (y1 : List Int) (s6 : Int × (List ApiTerm) × (List Int) × Int × (List Int)) : Option ((Int × (List ApiTerm) × (List Int) × Int × (List Int)) ⊕ (((List ApiTerm) × (List Int) × Int × (List Int)))) := (bif (decide (s6.1 < (y1.length : Int))) then ((rec_types_checker_read ((TypesChecker.mk s6.2.1 s6.2.2.1 s6.2.2.2.1)) bound_2).bind (fun (y8 : Int × TypesChecker) => ((idx s6.2.2.2.2 s6.1).bind (fun (y9 : Int) => (some (Sum.inl ((IntKind.i64.wrap (s6.1 + 1)), y8.2.e, y8.2.kinds, y8.2.at_, (List.set s6.2.2.2.2 (Int.toNat s6.1) y8.1)))))))) else (some (Sum.inr (s6.2.1, s6.2.2.1, s6.2.2.2.1, s6.2.2.2.2))))
noncomputable def types_checker_operands.body (rec_types_checker_operands : TypesChecker → Int → Bool → Option ((List Int) × TypesChecker)) (rec_types_checker_read : TypesChecker → Bool → Option (Int × TypesChecker)) (c_0 : TypesChecker) (n_1 : Int) (bound_2 : Bool) : Option ((List Int) × TypesChecker) := ((mksl 8 0 n_1 n_1).bind (fun (y1 : List Int) => ((loopO (types_checker_operands.l10 bound_2 rec_types_checker_read y1) (0, c_0.e, c_0.kinds, c_0.at_, y1)).bind (fun (w4 : (List ApiTerm) × (List Int) × Int × (List Int)) => (some (w4.2.2.2, (TypesChecker.mk w4.1 w4.2.1 w4.2.2.1)))))))
theorem types_checker_operands.body_ok {rec_types_checker_operands : TypesChecker → Int → Bool → Option ((List Int) × TypesChecker)} {rec_types_checker_read : TypesChecker → Bool → Option (Int × TypesChecker)} (h_rec_types_checker_operands : ∀ z0 z1 z2 r, rec_types_checker_operands z0 z1 z2 = some r → PCr Try.prog 101 3 (TypesChecker.cells z0) [.int .i64 z1, .bool z2] (.sl (List.map (cInt .i64) r.1)) (TypesChecker.cells r.2)) (h_rec_types_checker_read : ∀ z0 z1 r, rec_types_checker_read z0 z1 = some r → PCr Try.prog 83 3 (TypesChecker.cells z0) [.bool z1] (.int .i64 r.1) (TypesChecker.cells r.2)) {c_0 : TypesChecker} {n_1 : Int} {bound_2 : Bool} {r : (List Int) × TypesChecker} (h : types_checker_operands.body rec_types_checker_operands rec_types_checker_read c_0 n_1 bound_2 = some r) : PCr Try.prog 101 3 (TypesChecker.cells c_0) [.int .i64 n_1, .bool bound_2] (.sl (List.map (cInt .i64) r.1)) (TypesChecker.cells r.2) := by
  refine PCr_run k_types_checker_operands (by rfl) (by rfl) (by rfl) (ds := [.u (.sl (List.map ApiTerm.cells c_0.e)), .u (.sl (List.map (cInt .i64) c_0.kinds)), .u (.int .i64 c_0.at_)]) (by kernel_rfl) (L := [(1, .u (.int .i64 n_1)), (2, .u (.bool bound_2))]) (by rfl) ?_
  intro c_ k_
  show Run Try.prog 24 (retQR [6] (.sl (List.map (cInt .i64) r.1)) 3 (TypesChecker.cells r.2) c_ k_) [] q_types_checker_operands_21 _
  refine R_seq ?_
  refine R_reg ?_
  refine S_pure trivial (O_mv (d := .u (.nil)) (by kernel_rfl)) ?_
  refine Rs_nil ?_
  refine N_s ?_
  refine R_seq ?_
  refine R_reg ?_
  refine S_pure trivial (O_mv (d := .u (.int .i64 n_1)) (by kernel_rfl)) ?_
  obtain ⟨y1, hy1, h⟩ := bindS h
  refine S_up trivial (O_mk (c := (cInt .i64)) (z := 0) (a := n_1) (b := n_1) (li := y1) (by kernel_rfl) (by kernel_rfl) hy1 (by kernel_rfl)) ?_
  refine S_pure trivial (O_mv (d := .msl 1 y1.length) (by kernel_rfl)) ?_
  refine Rs_nil ?_
  refine N_s ?_
  refine R_seq ?_
  refine R_seq ?_
  refine R_reg ?_
  refine S_pure trivial (O_mv (d := .msl 1 y1.length) (by kernel_rfl)) ?_
  refine S_pure trivial (O_lnm (b := 1) (m := y1.length) (by kernel_rfl)) ?_
  refine S_pure trivial (O_mv (d := .u (.int .i64 0)) (by kernel_rfl)) ?_
  refine Rs_nil ?_
  refine N_s ?_
  refine R_block ?_
  obtain ⟨o2, hE, h⟩ := bindS h
  have K5 : ∀ (w4 : (List ApiTerm) × (List Int) × Int × (List Int)), w4 = o2 → Run Try.prog 24 (retQR [6] (.sl (List.map (cInt .i64) r.1)) 3 (TypesChecker.cells r.2) c_ k_) [] q_types_checker_operands_2 (mkSt [(0, .pref 0 3 0 0 c_ k_), (7, .msl 1 w4.2.2.2.length)] [(0, .drow 3 [[.u (.sl (List.map ApiTerm.cells w4.1)), .u (.sl (List.map (cInt .i64) w4.2.1)), .u (.int .i64 w4.2.2.1)]]), (1, .row 1 (List.map (cInt .i64) w4.2.2.2))] 2) := by
    intro w4 e; subst e
    refine R_seq ?_
    refine R_reg ?_
    refine S_pure trivial (O_mv (d := .msl 1 w4.2.2.2.length) (by kernel_rfl)) ?_
    refine S_pure trivial (O_mv (d := .msl 1 w4.2.2.2.length) (by kernel_rfl)) ?_
    refine Rs_nil ?_
    refine N_s ?_
    obtain rfl := (Option.some.inj h)
    refine R_ret ?_
    exact Q_retR (x := .sl (List.map (cInt .i64) w4.2.2.2)) (d := .msl 1 w4.2.2.2.length) (ds' := [.u (.sl (List.map ApiTerm.cells w4.1)), .u (.sl (List.map (cInt .i64) w4.2.1)), .u (.int .i64 w4.2.2.1)]) (by kernel_rfl) (fz_msl (s := 1) (c := (cInt .i64)) (li := w4.2.2.2) (by kernel_rfl)) (.refl _) (by kernel_rfl) (by kernel_rfl) (by kernel_rfl)
  refine R_loop (types_checker_operands.l10 bound_2 rec_types_checker_read y1) (fun s6 => (mkSt [(0, .pref 0 3 0 0 c_ k_), (2, .u (.bool bound_2)), (7, .msl 1 s6.2.2.2.2.length), (12, .u (.int .i64 ((y1.length : Int)))), (13, .u (.int .i64 s6.1))] [(0, .drow 3 [[.u (.sl (List.map ApiTerm.cells s6.2.1)), .u (.sl (List.map (cInt .i64) s6.2.2.1)), .u (.int .i64 s6.2.2.2.1)]]), (1, .row 1 (List.map (cInt .i64) s6.2.2.2.2))] 2)) hE (W_to (by kernel_rfl) (by kernel_rfl) (by kernel_rfl)) ?_
  intro K3 s6 x7 h hK3 hO3
  refine R_seq ?_
  refine R_reg ?_
  refine S_pure trivial (O_lss (k := .i64) (a := s6.1) (b := (y1.length : Int)) (by kernel_rfl) (by kernel_rfl)) ?_
  refine Rs_nil ?_
  refine N_s ?_
  refine R_seq ?_
  refine R_cond (c := (decide (s6.1 < (y1.length : Int)))) (by kernel_rfl) h (fun h => ?_) (fun h => ?_)
  · refine R_skip ?_
    refine N_s ?_
    refine R_seq ?_
    refine R_block ?_
    refine R_seq ?_
    refine R_reg ?_
    refine S_pure trivial (O_mv (d := .u (.int .i64 s6.1)) (by kernel_rfl)) ?_
    refine S_pure trivial (O_mv (d := .u (.int .i64 s6.1)) (by kernel_rfl)) ?_
    refine Rs_nil ?_
    refine N_s ?_
    refine R_reg ?_
    refine S_pure trivial (O_mv (d := .msl 1 s6.2.2.2.2.length) (by kernel_rfl)) ?_
    refine S_pure trivial (O_mv (d := .u (.int .i64 s6.1)) (by kernel_rfl)) ?_
    refine S_pure trivial (O_mv (d := .pref 0 3 0 0 c_ k_) (by kernel_rfl)) ?_
    refine S_pure trivial (O_mv (d := .u (.bool bound_2)) (by kernel_rfl)) ?_
    obtain ⟨y8, hy8, h⟩ := bindS h
    refine S_callr (b := 0) (s := 3) (d0 := .pref 0 3 0 0 c_ k_) (ds := [.u (.sl (List.map ApiTerm.cells s6.2.1)), .u (.sl (List.map (cInt .i64) s6.2.2.1)), .u (.int .i64 s6.2.2.2.1)]) (ds' := [.u (.sl (List.map ApiTerm.cells y8.2.e)), .u (.sl (List.map (cInt .i64) y8.2.kinds)), .u (.int .i64 y8.2.at_)]) (cells := TypesChecker.cells ((TypesChecker.mk s6.2.1 s6.2.2.1 s6.2.2.2.1))) (cells' := TypesChecker.cells y8.2) (us := [.bool bound_2]) (r := .int .i64 y8.1) trivial (by kernel_rfl) (.pref _ _) (by kernel_rfl) (by kernel_rfl) (by kernel_rfl) (h_rec_types_checker_read _ _ _ hy8) (by kernel_rfl) ?_
    obtain ⟨y9, hy9, h⟩ := bindS h
    refine S_pure trivial (O_iam (c := (cInt .i64)) (li := s6.2.2.2.2) (i := s6.1) (k := .i64) (a := y9) (b := 1) (by kernel_rfl) (by kernel_rfl) (by kernel_rfl) hy9) ?_
    refine S_set trivial (O_str (c := (cInt .i64)) (li := s6.2.2.2.2) (i := s6.1) (a := y9) (a' := y8.1) (b := 1) (s := 1) (off := 0) (d := .u (.int .i64 y8.1)) (xs := [.u (.int .i64 y8.1)]) (us := [.int .i64 y8.1]) (by kernel_rfl) (by kernel_rfl) (by kernel_rfl) (by kernel_rfl) (by kernel_rfl) hy9 (by kernel_rfl) (by kernel_rfl)) ?_
    refine S_re (t := 16) (d := .msl 1 (List.set s6.2.2.2.2 (Int.toNat s6.1) y8.1).length) (re_len (m := s6.2.2.2.2.length) (by kernel_rfl) List.length_set.symm) ?_
    refine S_re (t := 7) (d := .msl 1 (List.set s6.2.2.2.2 (Int.toNat s6.1) y8.1).length) (re_len (m := s6.2.2.2.2.length) (by kernel_rfl) List.length_set.symm) ?_
    refine Rs_nil ?_
    refine N_b ?_
    refine N_s ?_
    refine R_reg ?_
    refine S_pure trivial (O_add (k := .i64) (a := s6.1) (b := 1) (by kernel_rfl) (by kernel_rfl)) ?_
    refine S_pure trivial (O_mv (d := .u (.int .i64 ((IntKind.i64.wrap (s6.1 + 1))))) (by kernel_rfl)) ?_
    refine Rs_nil ?_
    exact N_k (hK3 _ h _ (W_to (by kernel_rfl) (by kernel_rfl) (by kernel_rfl)))
  · refine R_exit ?_
    refine E_s ?_
    refine E_k ?_
    refine E_b ?_
    refine N_s ?_
    exact R_weak (W_to (by kernel_rfl) (by kernel_rfl) (by kernel_rfl)) (K5 _ (hO3 _ h))

/-! ### (*selfstab/types.checker).read -/
def q_types_checker_read_1 : AC := .reg [⟨some 156, none, .mv (.t 7)⟩, ⟨some 157, none, .ca 104 [.t 156, .c (.int .i64 1)]⟩, ⟨some 158, none, .ca 103 [.t 157, .c (.int .i64 1)]⟩, ⟨some 4, none, .mv (.t 158)⟩]
def q_types_checker_read_2 : AC := .seq q_types_checker_read_1 .ret
def q_types_checker_read_3 : AC := .reg [⟨some 4, none, .mv (.c (.int .i64 1))⟩]
def q_types_checker_read_4 : AC := .seq q_types_checker_read_3 .ret
def q_types_checker_read_5 : AC := .reg [⟨some 54, none, .mv (.t 1)⟩, ⟨some 55, none, .ca 103 [.t 54, .c (.int .i64 1)]⟩, ⟨some 4, none, .mv (.t 55)⟩]
def q_types_checker_read_6 : AC := .seq q_types_checker_read_5 .ret
def q_types_checker_read_7 : AC := .reg [⟨some 4, none, .mv (.c (.int .i64 2))⟩]
def q_types_checker_read_8 : AC := .seq q_types_checker_read_7 .ret
def q_types_checker_read_9 : AC := .reg [⟨some 62, none, .mv (.t 1)⟩, ⟨some 63, none, .ca 103 [.t 62, .c (.int .i64 2)]⟩, ⟨some 4, none, .mv (.t 63)⟩]
def q_types_checker_read_10 : AC := .seq q_types_checker_read_9 .ret
def q_types_checker_read_11 : AC := .reg [⟨some 4, none, .mv (.c (.int .i64 3))⟩]
def q_types_checker_read_12 : AC := .seq q_types_checker_read_11 .ret
def q_types_checker_read_13 : AC := .reg [⟨some 69, none, .mv (.t 1)⟩, ⟨some 70, none, .ca 103 [.t 69, .c (.int .i64 3)]⟩, ⟨some 4, none, .mv (.t 70)⟩]
def q_types_checker_read_14 : AC := .seq q_types_checker_read_13 .ret
def q_types_checker_read_15 : AC := .rgd [⟨some 73, none, .mv (.t 0)⟩,
   ⟨some 74, none, .nc (.t 73)⟩,
   ⟨some 75, none, .fa 1 (.t 74)⟩,
   ⟨some 76, none, .ld false 1 (.t 75)⟩,
   ⟨some 77, none, .fa 1 (.t 5)⟩,
   ⟨some 78, none, .ld false 1 (.t 77)⟩,
   ⟨some 79, none, .ia 1 (.t 76) (.t 78)⟩,
   ⟨some 80, none, .ld false 1 (.t 79)⟩,
   ⟨some 4, none, .mv (.t 80)⟩] [(0, 4), (1, 4), (2, 4), (3, 4), (0, 5), (1, 5), (2, 5), (3, 5)]
def q_types_checker_read_16 : AC := .seq q_types_checker_read_15 .ret
def q_types_checker_read_17 : AC := .rgd [⟨some 83, none, .mv (.t 1)⟩,
   ⟨some 84, none, .mv (.t 0)⟩,
   ⟨some 85, none, .nc (.t 84)⟩,
   ⟨some 86, none, .fa 1 (.t 85)⟩,
   ⟨some 87, none, .ld false 1 (.t 86)⟩,
   ⟨some 88, none, .fa 1 (.t 5)⟩,
   ⟨some 89, none, .ld false 1 (.t 88)⟩,
   ⟨some 90, none, .ia 1 (.t 87) (.t 89)⟩,
   ⟨some 91, none, .ld false 1 (.t 90)⟩,
   ⟨some 92, none, .ca 103 [.t 83, .t 91]⟩,
   ⟨some 4, none, .mv (.t 92)⟩] [(0, 1), (0, 2), (0, 3), (0, 4), (0, 5), (1, 5), (2, 5), (3, 5), (4, 5), (0, 6), (1, 6), (2, 6), (3, 6), (4, 6), (0, 7), (0, 8)]
def q_types_checker_read_18 : AC := .seq q_types_checker_read_17 .ret
def q_types_checker_read_19 : AC := .reg [⟨some 99, none, .mv (.t 7)⟩, ⟨some 100, none, .ca 104 [.t 99, .c (.int .i64 2)]⟩, ⟨some 101, none, .ca 103 [.t 100, .c (.int .i64 2)]⟩, ⟨some 4, none, .mv (.t 101)⟩]
def q_types_checker_read_20 : AC := .seq q_types_checker_read_19 .ret
def q_types_checker_read_21 : AC := .reg [⟨some 104, none, .mv (.t 7)⟩, ⟨some 105, none, .ca 104 [.t 104, .c (.int .i64 2)]⟩, ⟨some 106, none, .ca 103 [.t 105, .c (.int .i64 1)]⟩, ⟨some 4, none, .mv (.t 106)⟩]
def q_types_checker_read_22 : AC := .seq q_types_checker_read_21 .ret
def q_types_checker_read_23 : AC := .reg [⟨some 109, none, .mv (.t 7)⟩, ⟨some 110, none, .ca 104 [.t 109, .c (.int .i64 2)]⟩, ⟨some 111, none, .ca 103 [.t 110, .c (.int .i64 3)]⟩, ⟨some 4, none, .mv (.t 111)⟩]
def q_types_checker_read_24 : AC := .seq q_types_checker_read_23 .ret
def q_types_checker_read_25 : AC := .rgd [⟨some 115, none, .mv (.t 7)⟩,
   ⟨some 116, none, .ia 1 (.t 115) (.c (.int .i64 0))⟩,
   ⟨some 117, none, .ld false 1 (.t 116)⟩,
   ⟨some 118, none, .ca 48 [.t 117]⟩,
   ⟨some 119, none, .mv (.t 118)⟩,
   ⟨some 120, some (119, true), .mv (.t 7)⟩,
   ⟨some 121, some (119, true), .ia 1 (.t 120) (.c (.int .i64 0))⟩,
   ⟨some 122, some (119, true), .ld false 1 (.t 121)⟩,
   ⟨some 123, some (119, true), .mv (.t 7)⟩,
   ⟨some 124, some (119, true), .ia 1 (.t 123) (.c (.int .i64 1))⟩,
   ⟨some 125, some (119, true), .ld false 1 (.t 124)⟩,
   ⟨some 126, some (119, true), .bi .eql (.t 122) (.t 125)⟩,
   ⟨some 127, none, .pk (.t 119) (.t 126) (.c (.bool false))⟩,
   ⟨some 128, none, .ca 103 [.t 127, .c (.int .i64 2)]⟩,
   ⟨some 4, none, .mv (.t 128)⟩] [(5, 8), (6, 8), (7, 8), (5, 9), (6, 9), (7, 9), (5, 10), (6, 10), (7, 10)]
def q_types_checker_read_26 : AC := .seq q_types_checker_read_25 .ret
def q_types_checker_read_27 : AC := .reg [⟨some 134, none, .mv (.t 7)⟩, ⟨some 135, none, .ca 104 [.t 134, .c (.int .i64 1)]⟩, ⟨some 136, none, .ca 103 [.t 135, .c (.int .i64 2)]⟩, ⟨some 4, none, .mv (.t 136)⟩]
def q_types_checker_read_28 : AC := .seq q_types_checker_read_27 .ret
def q_types_checker_read_29 : AC := .rgd [⟨some 139, none, .mv (.t 7)⟩,
   ⟨some 140, none, .ia 1 (.t 139) (.c (.int .i64 0))⟩,
   ⟨some 141, none, .ld false 1 (.t 140)⟩,
   ⟨some 142, none, .bi .eql (.t 141) (.c (.int .i64 2))⟩,
   ⟨some 143, none, .mv (.t 142)⟩,
   ⟨some 144, some (143, true), .mv (.t 7)⟩,
   ⟨some 145, some (143, true), .ia 1 (.t 144) (.c (.int .i64 1))⟩,
   ⟨some 146, some (143, true), .ld false 1 (.t 145)⟩,
   ⟨some 147, some (143, true), .mv (.t 7)⟩,
   ⟨some 148, some (143, true), .ia 1 (.t 147) (.c (.int .i64 2))⟩,
   ⟨some 149, some (143, true), .ld false 1 (.t 148)⟩,
   ⟨some 150, some (143, true), .bi .eql (.t 146) (.t 149)⟩,
   ⟨some 151, none, .pk (.t 143) (.t 150) (.c (.bool false))⟩,
   ⟨some 152, none, .mv (.t 7)⟩,
   ⟨some 153, none, .ia 1 (.t 152) (.c (.int .i64 1))⟩,
   ⟨some 154, none, .ld false 1 (.t 153)⟩,
   ⟨some 155, none, .ca 103 [.t 151, .t 154]⟩,
   ⟨some 4, none, .mv (.t 155)⟩] [(5, 8), (6, 8), (7, 8), (5, 9), (6, 9), (7, 9), (5, 10), (6, 10), (7, 10), (0, 13), (1, 13), (2, 13), (3, 13), (4, 13), (5, 13), (6, 13), (7, 13), (8, 13), (9, 13), (10, 13), (11, 13), (12, 13), (0, 14), (1, 14), (2, 14), (3, 14), (4, 14), (5, 14), (6, 14), (7, 14), (8, 14), (9, 14), (10, 14), (11, 14), (12, 14), (0, 15), (1, 15), (2, 15), (3, 15), (4, 15), (5, 15), (6, 15), (7, 15), (8, 15), (9, 15), (10, 15), (11, 15), (12, 15)]
def q_types_checker_read_30 : AC := .seq q_types_checker_read_29 .ret
def q_types_checker_read_31 : AC := .cond (.t 137) q_types_checker_read_30 .skip
def q_types_checker_read_32 : AC := .reg [⟨some 138, none, .bi .eql (.t 43) (.c (.int .i64 43))⟩, ⟨some 137, none, .mv (.t 138)⟩]
def q_types_checker_read_33 : AC := .seq q_types_checker_read_32 q_types_checker_read_31
def q_types_checker_read_34 : AC := .cond (.t 129) q_types_checker_read_28 q_types_checker_read_33
def q_types_checker_read_35 : AC := .reg [⟨some 133, none, .bi .eql (.t 43) (.c (.int .i64 40))⟩, ⟨some 129, none, .mv (.t 133)⟩]
def q_types_checker_read_36 : AC := .cond (.t 129) .skip q_types_checker_read_35
def q_types_checker_read_37 : AC := .reg [⟨some 132, none, .bi .eql (.t 43) (.c (.int .i64 39))⟩, ⟨some 129, none, .mv (.t 132)⟩]
def q_types_checker_read_38 : AC := .seq q_types_checker_read_37 q_types_checker_read_36
def q_types_checker_read_39 : AC := .cond (.t 129) .skip q_types_checker_read_38
def q_types_checker_read_40 : AC := .reg [⟨some 131, none, .bi .eql (.t 43) (.c (.int .i64 38))⟩, ⟨some 129, none, .mv (.t 131)⟩]
def q_types_checker_read_41 : AC := .seq q_types_checker_read_40 q_types_checker_read_39
def q_types_checker_read_42 : AC := .cond (.t 129) .skip q_types_checker_read_41
def q_types_checker_read_43 : AC := .reg [⟨some 130, none, .bi .eql (.t 43) (.c (.int .i64 37))⟩, ⟨some 129, none, .mv (.t 130)⟩]
def q_types_checker_read_44 : AC := .seq q_types_checker_read_43 q_types_checker_read_42
def q_types_checker_read_45 : AC := .seq q_types_checker_read_44 q_types_checker_read_34
def q_types_checker_read_46 : AC := .cond (.t 112) q_types_checker_read_26 q_types_checker_read_45
def q_types_checker_read_47 : AC := .reg [⟨some 114, none, .bi .eql (.t 43) (.c (.int .i64 36))⟩, ⟨some 112, none, .mv (.t 114)⟩]
def q_types_checker_read_48 : AC := .cond (.t 112) .skip q_types_checker_read_47
def q_types_checker_read_49 : AC := .reg [⟨some 113, none, .bi .eql (.t 43) (.c (.int .i64 35))⟩, ⟨some 112, none, .mv (.t 113)⟩]
def q_types_checker_read_50 : AC := .seq q_types_checker_read_49 q_types_checker_read_48
def q_types_checker_read_51 : AC := .seq q_types_checker_read_50 q_types_checker_read_46
def q_types_checker_read_52 : AC := .cond (.t 107) q_types_checker_read_24 q_types_checker_read_51
def q_types_checker_read_53 : AC := .reg [⟨some 108, none, .bi .eql (.t 43) (.c (.int .i64 23))⟩, ⟨some 107, none, .mv (.t 108)⟩]
def q_types_checker_read_54 : AC := .seq q_types_checker_read_53 q_types_checker_read_52
def q_types_checker_read_55 : AC := .cond (.t 102) q_types_checker_read_22 q_types_checker_read_54
def q_types_checker_read_56 : AC := .reg [⟨some 103, none, .bi .eql (.t 43) (.c (.int .i64 22))⟩, ⟨some 102, none, .mv (.t 103)⟩]
def q_types_checker_read_57 : AC := .seq q_types_checker_read_56 q_types_checker_read_55
def q_types_checker_read_58 : AC := .cond (.t 93) q_types_checker_read_20 q_types_checker_read_57
def q_types_checker_read_59 : AC := .reg [⟨some 98, none, .bi .eql (.t 43) (.c (.int .i64 42))⟩, ⟨some 93, none, .mv (.t 98)⟩]
def q_types_checker_read_60 : AC := .cond (.t 93) .skip q_types_checker_read_59
def q_types_checker_read_61 : AC := .reg [⟨some 97, none, .bi .eql (.t 43) (.c (.int .i64 41))⟩, ⟨some 93, none, .mv (.t 97)⟩]
def q_types_checker_read_62 : AC := .seq q_types_checker_read_61 q_types_checker_read_60
def q_types_checker_read_63 : AC := .cond (.t 93) .skip q_types_checker_read_62
def q_types_checker_read_64 : AC := .reg [⟨some 96, none, .bi .eql (.t 43) (.c (.int .i64 21))⟩, ⟨some 93, none, .mv (.t 96)⟩]
def q_types_checker_read_65 : AC := .seq q_types_checker_read_64 q_types_checker_read_63
def q_types_checker_read_66 : AC := .cond (.t 93) .skip q_types_checker_read_65
def q_types_checker_read_67 : AC := .reg [⟨some 95, none, .bi .eql (.t 43) (.c (.int .i64 20))⟩, ⟨some 93, none, .mv (.t 95)⟩]
def q_types_checker_read_68 : AC := .seq q_types_checker_read_67 q_types_checker_read_66
def q_types_checker_read_69 : AC := .cond (.t 93) .skip q_types_checker_read_68
def q_types_checker_read_70 : AC := .reg [⟨some 94, none, .bi .eql (.t 43) (.c (.int .i64 19))⟩, ⟨some 93, none, .mv (.t 94)⟩]
def q_types_checker_read_71 : AC := .seq q_types_checker_read_70 q_types_checker_read_69
def q_types_checker_read_72 : AC := .seq q_types_checker_read_71 q_types_checker_read_58
def q_types_checker_read_73 : AC := .cond (.t 81) q_types_checker_read_18 q_types_checker_read_72
def q_types_checker_read_74 : AC := .reg [⟨some 82, none, .bi .eql (.t 43) (.c (.int .i64 12))⟩, ⟨some 81, none, .mv (.t 82)⟩]
def q_types_checker_read_75 : AC := .seq q_types_checker_read_74 q_types_checker_read_73
def q_types_checker_read_76 : AC := .cond (.t 71) q_types_checker_read_16 q_types_checker_read_75
def q_types_checker_read_77 : AC := .reg [⟨some 72, none, .bi .eql (.t 43) (.c (.int .i64 5))⟩, ⟨some 71, none, .mv (.t 72)⟩]
def q_types_checker_read_78 : AC := .seq q_types_checker_read_77 q_types_checker_read_76
def q_types_checker_read_79 : AC := .cond (.t 66) q_types_checker_read_14 q_types_checker_read_78
def q_types_checker_read_80 : AC := .reg [⟨some 68, none, .bi .eql (.t 43) (.c (.int .i64 17))⟩, ⟨some 66, none, .mv (.t 68)⟩]
def q_types_checker_read_81 : AC := .cond (.t 66) .skip q_types_checker_read_80
def q_types_checker_read_82 : AC := .reg [⟨some 67, none, .bi .eql (.t 43) (.c (.int .i64 11))⟩, ⟨some 66, none, .mv (.t 67)⟩]
def q_types_checker_read_83 : AC := .seq q_types_checker_read_82 q_types_checker_read_81
def q_types_checker_read_84 : AC := .seq q_types_checker_read_83 q_types_checker_read_79
def q_types_checker_read_85 : AC := .cond (.t 64) q_types_checker_read_12 q_types_checker_read_84
def q_types_checker_read_86 : AC := .reg [⟨some 65, none, .bi .eql (.t 43) (.c (.int .i64 4))⟩, ⟨some 64, none, .mv (.t 65)⟩]
def q_types_checker_read_87 : AC := .seq q_types_checker_read_86 q_types_checker_read_85
def q_types_checker_read_88 : AC := .cond (.t 60) q_types_checker_read_10 q_types_checker_read_87
def q_types_checker_read_89 : AC := .reg [⟨some 61, none, .bi .eql (.t 43) (.c (.int .i64 15))⟩, ⟨some 60, none, .mv (.t 61)⟩]
def q_types_checker_read_90 : AC := .seq q_types_checker_read_89 q_types_checker_read_88
def q_types_checker_read_91 : AC := .cond (.t 56) q_types_checker_read_8 q_types_checker_read_90
def q_types_checker_read_92 : AC := .reg [⟨some 59, none, .bi .eql (.t 43) (.c (.int .i64 10))⟩, ⟨some 56, none, .mv (.t 59)⟩]
def q_types_checker_read_93 : AC := .cond (.t 56) .skip q_types_checker_read_92
def q_types_checker_read_94 : AC := .reg [⟨some 58, none, .bi .eql (.t 43) (.c (.int .i64 3))⟩, ⟨some 56, none, .mv (.t 58)⟩]
def q_types_checker_read_95 : AC := .seq q_types_checker_read_94 q_types_checker_read_93
def q_types_checker_read_96 : AC := .cond (.t 56) .skip q_types_checker_read_95
def q_types_checker_read_97 : AC := .reg [⟨some 57, none, .bi .eql (.t 43) (.c (.int .i64 2))⟩, ⟨some 56, none, .mv (.t 57)⟩]
def q_types_checker_read_98 : AC := .seq q_types_checker_read_97 q_types_checker_read_96
def q_types_checker_read_99 : AC := .seq q_types_checker_read_98 q_types_checker_read_91
def q_types_checker_read_100 : AC := .cond (.t 50) q_types_checker_read_6 q_types_checker_read_99
def q_types_checker_read_101 : AC := .reg [⟨some 53, none, .bi .eql (.t 43) (.c (.int .i64 16))⟩, ⟨some 50, none, .mv (.t 53)⟩]
def q_types_checker_read_102 : AC := .cond (.t 50) .skip q_types_checker_read_101
def q_types_checker_read_103 : AC := .reg [⟨some 52, none, .bi .eql (.t 43) (.c (.int .i64 14))⟩, ⟨some 50, none, .mv (.t 52)⟩]
def q_types_checker_read_104 : AC := .seq q_types_checker_read_103 q_types_checker_read_102
def q_types_checker_read_105 : AC := .cond (.t 50) .skip q_types_checker_read_104
def q_types_checker_read_106 : AC := .reg [⟨some 51, none, .bi .eql (.t 43) (.c (.int .i64 13))⟩, ⟨some 50, none, .mv (.t 51)⟩]
def q_types_checker_read_107 : AC := .seq q_types_checker_read_106 q_types_checker_read_105
def q_types_checker_read_108 : AC := .seq q_types_checker_read_107 q_types_checker_read_100
def q_types_checker_read_109 : AC := .cond (.t 44) q_types_checker_read_4 q_types_checker_read_108
def q_types_checker_read_110 : AC := .reg [⟨some 49, none, .bi .eql (.t 43) (.c (.int .i64 9))⟩, ⟨some 44, none, .mv (.t 49)⟩]
def q_types_checker_read_111 : AC := .cond (.t 44) .skip q_types_checker_read_110
def q_types_checker_read_112 : AC := .reg [⟨some 48, none, .bi .eql (.t 43) (.c (.int .i64 8))⟩, ⟨some 44, none, .mv (.t 48)⟩]
def q_types_checker_read_113 : AC := .seq q_types_checker_read_112 q_types_checker_read_111
def q_types_checker_read_114 : AC := .cond (.t 44) .skip q_types_checker_read_113
def q_types_checker_read_115 : AC := .reg [⟨some 47, none, .bi .eql (.t 43) (.c (.int .i64 7))⟩, ⟨some 44, none, .mv (.t 47)⟩]
def q_types_checker_read_116 : AC := .seq q_types_checker_read_115 q_types_checker_read_114
def q_types_checker_read_117 : AC := .cond (.t 44) .skip q_types_checker_read_116
def q_types_checker_read_118 : AC := .reg [⟨some 46, none, .bi .eql (.t 43) (.c (.int .i64 6))⟩, ⟨some 44, none, .mv (.t 46)⟩]
def q_types_checker_read_119 : AC := .seq q_types_checker_read_118 q_types_checker_read_117
def q_types_checker_read_120 : AC := .cond (.t 44) .skip q_types_checker_read_119
def q_types_checker_read_121 : AC := .reg [⟨some 45, none, .bi .eql (.t 43) (.c (.int .i64 1))⟩, ⟨some 44, none, .mv (.t 45)⟩]
def q_types_checker_read_122 : AC := .seq q_types_checker_read_121 q_types_checker_read_120
def q_types_checker_read_123 : AC := .seq q_types_checker_read_122 q_types_checker_read_109
def q_types_checker_read_124 : AC := .block 0 q_types_checker_read_123
def q_types_checker_read_125 : AC := .reg [⟨some 42, none, .fa 0 (.t 5)⟩, ⟨some 43, none, .ld false 1 (.t 42)⟩]
def q_types_checker_read_126 : AC := .seq q_types_checker_read_125 q_types_checker_read_124
def q_types_checker_read_127 : AC := .seq q_types_checker_read_126 q_types_checker_read_2
def q_types_checker_read_128 : AC := .reg [⟨some 36, none, .mv (.t 0)⟩, ⟨some 37, none, .fa 0 (.t 5)⟩, ⟨some 38, none, .ld false 1 (.t 37)⟩, ⟨some 39, none, .ca 102 [.t 38]⟩, ⟨some 40, none, .mv (.t 6)⟩, ⟨some 41, none, .ca 101 [.t 36, .t 39, .t 40]⟩, ⟨some 7, none, .mv (.t 41)⟩]
def q_types_checker_read_129 : AC := .seq q_types_checker_read_128 q_types_checker_read_127
def q_types_checker_read_130 : AC := .reg [⟨some 25, none, .mv (.t 1)⟩, ⟨some 26, none, .mv (.t 25)⟩, ⟨some 27, some (26, false), .fa 0 (.t 5)⟩, ⟨some 28, some (26, false), .ld false 1 (.t 27)⟩, ⟨some 29, some (26, false), .bi .geq (.t 28) (.c (.int .i64 20))⟩, ⟨some 30, some (26, false), .mv (.t 29)⟩, ⟨some 31, some (30, true), .fa 0 (.t 5)⟩, ⟨some 32, some (30, true), .ld false 1 (.t 31)⟩, ⟨some 33, some (30, true), .bi .leq (.t 32) (.c (.int .i64 29))⟩, ⟨some 34, some (26, false), .pk (.t 30) (.t 33) (.c (.bool false))⟩, ⟨some 35, none, .pk (.t 26) (.c (.bool true)) (.t 34)⟩, ⟨some 6, none, .mv (.t 35)⟩]
def q_types_checker_read_131 : AC := .seq q_types_checker_read_130 q_types_checker_read_129
def q_types_checker_read_132 : AC := .reg [⟨some 18, none, .mv (.t 0)⟩, ⟨some 19, none, .nc (.t 18)⟩, ⟨some 20, none, .fa 2 (.t 19)⟩, ⟨some 21, none, .ld false 1 (.t 20)⟩, ⟨some 22, none, .bi .add (.t 21) (.c (.int .i64 1))⟩, ⟨some 23, none, .nc (.t 18)⟩, ⟨some 24, none, .fa 2 (.t 23)⟩, ⟨none, none, .st 1 (.t 24) (.t 22)⟩]
def q_types_checker_read_133 : AC := .seq q_types_checker_read_132 q_types_checker_read_131
def q_types_checker_read_134 : AC := .rgd [⟨some 8, none, .mv (.t 0)⟩,
   ⟨some 9, none, .nc (.t 8)⟩,
   ⟨some 10, none, .fa 0 (.t 9)⟩,
   ⟨some 11, none, .ld false 1 (.t 10)⟩,
   ⟨some 12, none, .mv (.t 0)⟩,
   ⟨some 13, none, .nc (.t 12)⟩,
   ⟨some 14, none, .fa 2 (.t 13)⟩,
   ⟨some 15, none, .ld false 1 (.t 14)⟩,
   ⟨some 16, none, .ia 2 (.t 11) (.t 15)⟩,
   ⟨some 17, none, .ld true 2 (.t 16)⟩,
   ⟨some 5, none, .al [.int .i64 0, .int .i64 0]⟩,
   ⟨none, none, .st 2 (.t 5) (.t 17)⟩] [(0, 4), (1, 4), (2, 4), (3, 4), (0, 5), (1, 5), (2, 5), (3, 5), (0, 6), (1, 6), (2, 6), (3, 6), (0, 7), (1, 7), (2, 7), (3, 7), (0, 10), (1, 10), (2, 10), (3, 10), (4, 10), (5, 10), (6, 10), (7, 10), (8, 10), (9, 10)]
def q_types_checker_read_135 : AC := .seq q_types_checker_read_134 q_types_checker_read_133
def q_types_checker_read_136 : AC := .reg [⟨some 4, none, .mv (.c (.int .i64 0))⟩]
def q_types_checker_read_137 : AC := .seq q_types_checker_read_136 q_types_checker_read_135
def c_types_checker_read : FC := ⟨159, [4], q_types_checker_read_137⟩
theorem k_types_checker_read : okF Try.prog 83 c_types_checker_read = true := by decide +kernel
noncomputable def types_checker_read.body (rec_types_checker_operands : TypesChecker → Int → Bool → Option ((List Int) × TypesChecker)) (rec_types_checker_read : TypesChecker → Bool → Option (Int × TypesChecker)) (a_0 : TypesChecker) (a_1 : Bool) : Option (Int × TypesChecker) := ((idx a_0.e a_0.at_).bind (fun (y1 : ApiTerm) => ((term_Arity y1.Op).bind (fun (y4 : Int) => ((rec_types_checker_operands ((TypesChecker.mk a_0.e a_0.kinds ((IntKind.i64.wrap (a_0.at_ + 1))))) y4 ((a_1 || ((decide (20 ≤ y1.Op)) && (decide (y1.Op ≤ 29)))))).bind (fun (y5 : (List Int) × TypesChecker) => ((bif (decide (y1.Op = 1)) then (some (decide (y1.Op = 1))) else (bif (decide (y1.Op = 6)) then (some (decide (y1.Op = 6))) else (bif (decide (y1.Op = 7)) then (some (decide (y1.Op = 7))) else (bif (decide (y1.Op = 8)) then (some (decide (y1.Op = 8))) else (some (decide (y1.Op = 9))))))).bind (fun (w7 : Bool) => (bif w7 then (some (1, y5.2)) else ((bif (decide (y1.Op = 13)) then (some (decide (y1.Op = 13))) else (bif (decide (y1.Op = 14)) then (some (decide (y1.Op = 14))) else (some (decide (y1.Op = 16))))).bind (fun (w10 : Bool) => (bif w10 then ((types_when a_1 1).bind (fun (y12 : Int) => (some (y12, y5.2)))) else ((bif (decide (y1.Op = 2)) then (some (decide (y1.Op = 2))) else (bif (decide (y1.Op = 3)) then (some (decide (y1.Op = 3))) else (some (decide (y1.Op = 10))))).bind (fun (w14 : Bool) => (bif w14 then (some (2, y5.2)) else (bif (decide (y1.Op = 15)) then ((types_when a_1 2).bind (fun (y16 : Int) => (some (y16, y5.2)))) else (bif (decide (y1.Op = 4)) then (some (3, y5.2)) else ((bif (decide (y1.Op = 11)) then (some (decide (y1.Op = 11))) else (some (decide (y1.Op = 17)))).bind (fun (w18 : Bool) => (bif w18 then ((types_when a_1 3).bind (fun (y20 : Int) => (some (y20, y5.2)))) else (bif (decide (y1.Op = 5)) then ((idx y5.2.kinds y1.Arg).bind (fun (y21 : Int) => (some (y21, y5.2)))) else (bif (decide (y1.Op = 12)) then ((idx y5.2.kinds y1.Arg).bind (fun (y22 : Int) => ((types_when a_1 y22).bind (fun (y23 : Int) => (some (y23, y5.2)))))) else ((bif (decide (y1.Op = 19)) then (some (decide (y1.Op = 19))) else (bif (decide (y1.Op = 20)) then (some (decide (y1.Op = 20))) else (bif (decide (y1.Op = 21)) then (some (decide (y1.Op = 21))) else (bif (decide (y1.Op = 41)) then (some (decide (y1.Op = 41))) else (some (decide (y1.Op = 42))))))).bind (fun (w25 : Bool) => (bif w25 then ((types_all y5.1 2).bind (fun (y27 : Bool) => ((types_when y27 2).bind (fun (y28 : Int) => (some (y28, y5.2)))))) else (bif (decide (y1.Op = 22)) then ((types_all y5.1 2).bind (fun (y29 : Bool) => ((types_when y29 1).bind (fun (y30 : Int) => (some (y30, y5.2)))))) else (bif (decide (y1.Op = 23)) then ((types_all y5.1 2).bind (fun (y31 : Bool) => ((types_when y31 3).bind (fun (y32 : Int) => (some (y32, y5.2)))))) else ((bif (decide (y1.Op = 35)) then (some (decide (y1.Op = 35))) else (some (decide (y1.Op = 36)))).bind (fun (w34 : Bool) => (bif w34 then ((idx y5.1 0).bind (fun (y36 : Int) => ((types_kind y36).bind (fun (y37 : Bool) => (bif y37 then ((idx y5.1 0).bind (fun (y38 : Int) => ((idx y5.1 1).bind (fun (y39 : Int) => ((types_when ((decide (y38 = y39))) 2).bind (fun (y40 : Int) => (some (y40, y5.2)))))))) else ((types_when false 2).bind (fun (y41 : Int) => (some (y41, y5.2))))))))) else ((bif (decide (y1.Op = 37)) then (some (decide (y1.Op = 37))) else (bif (decide (y1.Op = 38)) then (some (decide (y1.Op = 38))) else (bif (decide (y1.Op = 39)) then (some (decide (y1.Op = 39))) else (some (decide (y1.Op = 40)))))).bind (fun (w43 : Bool) => (bif w43 then ((types_all y5.1 1).bind (fun (y45 : Bool) => ((types_when y45 2).bind (fun (y46 : Int) => (some (y46, y5.2)))))) else (bif (decide (y1.Op = 43)) then ((idx y5.1 0).bind (fun (y47 : Int) => (bif (decide (y47 = 2)) then ((idx y5.1 1).bind (fun (y48 : Int) => ((idx y5.1 2).bind (fun (y49 : Int) => ((idx y5.1 1).bind (fun (y50 : Int) => ((types_when ((decide (y48 = y49))) y50).bind (fun (y51 : Int) => (some (y51, y5.2)))))))))) else ((idx y5.1 1).bind (fun (y52 : Int) => ((types_when false y52).bind (fun (y53 : Int) => (some (y53, y5.2))))))))) else ((types_all y5.1 1).bind (fun (y54 : Bool) => ((types_when y54 1).bind (fun (y55 : Int) => (some (y55, y5.2))))))))))))))))))))))))))))))))))))))))
theorem types_checker_read.body_ok {rec_types_checker_operands : TypesChecker → Int → Bool → Option ((List Int) × TypesChecker)} {rec_types_checker_read : TypesChecker → Bool → Option (Int × TypesChecker)} (h_rec_types_checker_operands : ∀ z0 z1 z2 r, rec_types_checker_operands z0 z1 z2 = some r → PCr Try.prog 101 3 (TypesChecker.cells z0) [.int .i64 z1, .bool z2] (.sl (List.map (cInt .i64) r.1)) (TypesChecker.cells r.2)) (h_rec_types_checker_read : ∀ z0 z1 r, rec_types_checker_read z0 z1 = some r → PCr Try.prog 83 3 (TypesChecker.cells z0) [.bool z1] (.int .i64 r.1) (TypesChecker.cells r.2)) {a_0 : TypesChecker} {a_1 : Bool} {r : Int × TypesChecker} (h : types_checker_read.body rec_types_checker_operands rec_types_checker_read a_0 a_1 = some r) : PCr Try.prog 83 3 (TypesChecker.cells a_0) [.bool a_1] (.int .i64 r.1) (TypesChecker.cells r.2) := by
  refine PCr_run k_types_checker_read (by rfl) (by rfl) (by rfl) (ds := [.u (.sl (List.map ApiTerm.cells a_0.e)), .u (.sl (List.map (cInt .i64) a_0.kinds)), .u (.int .i64 a_0.at_)]) (by kernel_rfl) (L := [(1, .u (.bool a_1))]) (by rfl) ?_
  intro c_ k_
  show Run Try.prog 159 (retQR [4] (.int .i64 r.1) 3 (TypesChecker.cells r.2) c_ k_) [] q_types_checker_read_137 _
  refine R_seq ?_
  refine R_reg ?_
  refine S_pure trivial (O_mv (d := .u (.int .i64 0)) (by kernel_rfl)) ?_
  refine Rs_nil ?_
  refine N_s ?_
  refine R_seq ?_
  refine R_rgd (show Try.prog.follows .mixedOrders = true from Checked.mixed Try.checked) ?_
  refine Rg_pure 1000 [0] trivial (O_mv (d := .pref 0 3 0 0 c_ k_) (by kernel_rfl)) (by kernel_rfl) ?_
  refine Rg_pure 1001 [0] trivial (O_ncp (b := 0) (s := 3) (i := 0) (off := 0) (c := c_) (k := k_) (by kernel_rfl)) (by kernel_rfl) ?_
  refine Rg_pure 1002 [0] trivial (O_far (b := 0) (s := 3) (i := 0) (o := 0) (by kernel_rfl)) (by kernel_rfl) ?_
  refine Rg_pure 1003 [0] trivial (O_ldo (b := 0) (s := 3) (off := 0) (ds := [.u (.sl (List.map ApiTerm.cells a_0.e)), .u (.sl (List.map (cInt .i64) a_0.kinds)), .u (.int .i64 a_0.at_)]) (d := .u (.sl (List.map ApiTerm.cells a_0.e))) (by kernel_rfl) (by kernel_rfl) rfl (by kernel_rfl)) (by kernel_rfl) ?_
  refine Rg_pure 1004 [0] trivial (O_mv (d := .pref 0 3 0 0 c_ k_) (by kernel_rfl)) (by kernel_rfl) ?_
  refine Rg_pure 1005 [0] trivial (O_ncp (b := 0) (s := 3) (i := 0) (off := 0) (c := c_) (k := k_) (by kernel_rfl)) (by kernel_rfl) ?_
  refine Rg_pure 1006 [0] trivial (O_far (b := 0) (s := 3) (i := 0) (o := 0) (by kernel_rfl)) (by kernel_rfl) ?_
  refine Rg_pure 1007 [0] trivial (O_ldo (b := 0) (s := 3) (off := 2) (ds := [.u (.sl (List.map ApiTerm.cells a_0.e)), .u (.sl (List.map (cInt .i64) a_0.kinds)), .u (.int .i64 a_0.at_)]) (d := .u (.int .i64 a_0.at_)) (by kernel_rfl) (by kernel_rfl) rfl (by kernel_rfl)) (by kernel_rfl) ?_
  obtain ⟨y1, hy1, h⟩ := bindS h
  refine Rg_pure 1008 [] trivial (O_ia (c := ApiTerm.cells) (li := a_0.e) (i := a_0.at_) (k := .i64) (a := y1) (u := ApiTerm.cells y1) (by kernel_rfl) (by kernel_rfl) hy1 rfl rfl) (by kernel_rfl) ?_
  refine Rg_pure 1009 [] trivial (O_lda (cells := ApiTerm.cells y1) (off := 0) (us := ApiTerm.cells y1) (by kernel_rfl) rfl (by kernel_rfl)) (by kernel_rfl) ?_
  refine Rg_new [] trivial (O_al (zs := [.int .i64 0, .int .i64 0])) (by kernel_rfl) ?_
  show Rg _ _ _ _ _ _ _ (mkSt [(5, .ref 1 2 0 0), (17, .u (.agg (ApiTerm.cells y1))), (16, .u (.fp (ApiTerm.cells y1) 0)), (15, .u (.int .i64 a_0.at_)), (14, .ref 0 3 0 2), (13, .ref 0 3 0 0), (12, .pref 0 3 0 0 c_ k_), (11, .u (.sl (List.map ApiTerm.cells a_0.e))), (10, .ref 0 3 0 0), (9, .ref 0 3 0 0), (8, .pref 0 3 0 0 c_ k_), (4, .u (.int .i64 0)), (0, .pref 0 3 0 0 c_ k_), (1, .u (.bool a_1))] [(1, .drow 2 [[.u (.int .i64 0), .u (.int .i64 0)]]), (0, .drow 3 [[.u (.sl (List.map ApiTerm.cells a_0.e)), .u (.sl (List.map (cInt .i64) a_0.kinds)), .u (.int .i64 a_0.at_)]])] 2)
  refine Rg_set 1011 [1] trivial (O_st (b := 1) (s := 2) (off := 0) (d := .u (.agg (ApiTerm.cells y1))) (xs := [.u (.int .i64 y1.Op), .u (.int .i64 y1.Arg)]) (ds := [.u (.int .i64 0), .u (.int .i64 0)]) (ob := .drow 2 [[.u (.int .i64 y1.Op), .u (.int .i64 y1.Arg)]]) (by kernel_rfl) (by kernel_rfl) (by kernel_rfl) (by kernel_rfl) (by kernel_rfl) (by kernel_rfl)) (by kernel_rfl) ?_
  refine Rg_nil (by kernel_rfl) ?_
  refine N_s ?_
  refine R_seq ?_
  refine R_reg ?_
  refine S_pure trivial (O_mv (d := .pref 0 3 0 0 c_ k_) (by kernel_rfl)) ?_
  refine S_pure trivial (O_ncp (b := 0) (s := 3) (i := 0) (off := 0) (c := c_) (k := k_) (by kernel_rfl)) ?_
  refine S_pure trivial (O_far (b := 0) (s := 3) (i := 0) (o := 0) (by kernel_rfl)) ?_
  refine S_pure trivial (O_ldo (b := 0) (s := 3) (off := 2) (ds := [.u (.sl (List.map ApiTerm.cells a_0.e)), .u (.sl (List.map (cInt .i64) a_0.kinds)), .u (.int .i64 a_0.at_)]) (d := .u (.int .i64 a_0.at_)) (by kernel_rfl) (by kernel_rfl) rfl (by kernel_rfl)) ?_
  refine S_pure trivial (O_add (k := .i64) (a := a_0.at_) (b := 1) (by kernel_rfl) (by kernel_rfl)) ?_
  refine S_pure trivial (O_ncp (b := 0) (s := 3) (i := 0) (off := 0) (c := c_) (k := k_) (by kernel_rfl)) ?_
  refine S_pure trivial (O_far (b := 0) (s := 3) (i := 0) (o := 0) (by kernel_rfl)) ?_
  refine S_set trivial (O_st (b := 0) (s := 3) (off := 2) (d := .u (.int .i64 ((IntKind.i64.wrap (a_0.at_ + 1))))) (xs := [.u (.int .i64 ((IntKind.i64.wrap (a_0.at_ + 1))))]) (ds := [.u (.sl (List.map ApiTerm.cells a_0.e)), .u (.sl (List.map (cInt .i64) a_0.kinds)), .u (.int .i64 a_0.at_)]) (ob := .drow 3 [[.u (.sl (List.map ApiTerm.cells a_0.e)), .u (.sl (List.map (cInt .i64) a_0.kinds)), .u (.int .i64 ((IntKind.i64.wrap (a_0.at_ + 1))))]]) (by kernel_rfl) (by kernel_rfl) (by kernel_rfl) (by kernel_rfl) (by kernel_rfl) (by kernel_rfl)) ?_
  refine Rs_nil ?_
  refine N_s ?_
  refine R_seq ?_
  refine R_reg ?_
  refine S_pure trivial (O_mv (d := .u (.bool a_1)) (by kernel_rfl)) ?_
  refine S_pure trivial (O_mv (d := .u (.bool a_1)) (by kernel_rfl)) ?_
  have K2 : ∀ v3 : Bool, v3 = (a_1 || ((decide (20 ≤ y1.Op)) && (decide (y1.Op ≤ 29)))) → Rs Try.prog 159 (retQR [4] (.int .i64 r.1) 3 (TypesChecker.cells r.2) c_ k_) [.s q_types_checker_read_129] [⟨some 6, none, .mv (.t 35)⟩] (mkSt [(0, .pref 0 3 0 0 c_ k_), (1, .u (.bool a_1)), (5, .ref 1 2 0 0), (35, .u (.bool v3))] [(0, .drow 3 [[.u (.sl (List.map ApiTerm.cells a_0.e)), .u (.sl (List.map (cInt .i64) a_0.kinds)), .u (.int .i64 ((IntKind.i64.wrap (a_0.at_ + 1))))]]), (1, .drow 2 [[.u (.int .i64 y1.Op), .u (.int .i64 y1.Arg)]])] 2) := by
    intro v3 e; subst e
    refine S_pure trivial (O_mv (d := .u (.bool ((a_1 || ((decide (20 ≤ y1.Op)) && (decide (y1.Op ≤ 29))))))) (by kernel_rfl)) ?_
    refine Rs_nil ?_
    refine N_s ?_
    refine R_seq ?_
    refine R_reg ?_
    refine S_pure trivial (O_mv (d := .pref 0 3 0 0 c_ k_) (by kernel_rfl)) ?_
    refine S_pure trivial (O_far (b := 1) (s := 2) (i := 0) (o := 0) (by kernel_rfl)) ?_
    refine S_pure trivial (O_ldo (b := 1) (s := 2) (off := 0) (ds := [.u (.int .i64 y1.Op), .u (.int .i64 y1.Arg)]) (d := .u (.int .i64 y1.Op)) (by kernel_rfl) (by kernel_rfl) rfl (by kernel_rfl)) ?_
    obtain ⟨y4, hy4, h⟩ := bindS h
    refine S_pure trivial (O_ca (us := [.int .i64 y1.Op]) (r := .int .i64 y4) (by kernel_rfl) (term_Arity.ok hy4)) ?_
    refine S_pure trivial (O_mv (d := .u (.bool ((a_1 || ((decide (20 ≤ y1.Op)) && (decide (y1.Op ≤ 29))))))) (by kernel_rfl)) ?_
    obtain ⟨y5, hy5, h⟩ := bindS h
    refine S_callr (b := 0) (s := 3) (d0 := .pref 0 3 0 0 c_ k_) (ds := [.u (.sl (List.map ApiTerm.cells a_0.e)), .u (.sl (List.map (cInt .i64) a_0.kinds)), .u (.int .i64 ((IntKind.i64.wrap (a_0.at_ + 1))))]) (ds' := [.u (.sl (List.map ApiTerm.cells y5.2.e)), .u (.sl (List.map (cInt .i64) y5.2.kinds)), .u (.int .i64 y5.2.at_)]) (cells := TypesChecker.cells ((TypesChecker.mk a_0.e a_0.kinds ((IntKind.i64.wrap (a_0.at_ + 1)))))) (cells' := TypesChecker.cells y5.2) (us := [.int .i64 y4, .bool ((a_1 || ((decide (20 ≤ y1.Op)) && (decide (y1.Op ≤ 29)))))]) (r := .sl (List.map (cInt .i64) y5.1)) trivial (by kernel_rfl) (.pref _ _) (by kernel_rfl) (by kernel_rfl) (by kernel_rfl) (h_rec_types_checker_operands _ _ _ _ hy5) (by kernel_rfl) ?_
    refine S_pure trivial (O_mv (d := .u (.sl (List.map (cInt .i64) y5.1))) (by kernel_rfl)) ?_
    refine Rs_nil ?_
    refine N_s ?_
    refine R_seq ?_
    refine R_seq ?_
    refine R_reg ?_
    refine S_pure trivial (O_far (b := 1) (s := 2) (i := 0) (o := 0) (by kernel_rfl)) ?_
    refine S_pure trivial (O_ldo (b := 1) (s := 2) (off := 0) (ds := [.u (.int .i64 y1.Op), .u (.int .i64 y1.Arg)]) (d := .u (.int .i64 y1.Op)) (by kernel_rfl) (by kernel_rfl) rfl (by kernel_rfl)) ?_
    refine Rs_nil ?_
    refine N_s ?_
    refine R_block ?_
    obtain ⟨o6, hE, h⟩ := bindS h
    have K8 : ∀ (w7 : Bool), w7 = o6 → Run Try.prog 159 (retQR [4] (.int .i64 r.1) 3 (TypesChecker.cells r.2) c_ k_) [.b 0, .s q_types_checker_read_2] q_types_checker_read_109 (mkSt [(0, .pref 0 3 0 0 c_ k_), (1, .u (.bool a_1)), (5, .ref 1 2 0 0), (7, .u (.sl (List.map (cInt .i64) y5.1))), (43, .u (.int .i64 y1.Op)), (44, .u (.bool w7))] [(0, .drow 3 [[.u (.sl (List.map ApiTerm.cells y5.2.e)), .u (.sl (List.map (cInt .i64) y5.2.kinds)), .u (.int .i64 y5.2.at_)]]), (1, .drow 2 [[.u (.int .i64 y1.Op), .u (.int .i64 y1.Arg)]])] 2) := by
      intro w7 e; subst e
      refine R_cond (c := w7) (by kernel_rfl) h (fun h => ?_) (fun h => ?_)
      · refine R_seq ?_
        refine R_reg ?_
        refine S_pure trivial (O_mv (d := .u (.int .i64 1)) (by kernel_rfl)) ?_
        refine Rs_nil ?_
        refine N_s ?_
        obtain rfl := (Option.some.inj h)
        refine R_ret ?_
        exact Q_retR (x := .int .i64 1) (d := .u (.int .i64 1)) (ds' := [.u (.sl (List.map ApiTerm.cells y5.2.e)), .u (.sl (List.map (cInt .i64) y5.2.kinds)), .u (.int .i64 y5.2.at_)]) (by kernel_rfl) (by kernel_rfl) (.refl _) (by kernel_rfl) (by kernel_rfl) (by kernel_rfl)
      · obtain ⟨o9, hE, h⟩ := bindS h
        have K11 : ∀ (w10 : Bool), w10 = o9 → Run Try.prog 159 (retQR [4] (.int .i64 r.1) 3 (TypesChecker.cells r.2) c_ k_) [.b 0, .s q_types_checker_read_2] q_types_checker_read_100 (mkSt [(0, .pref 0 3 0 0 c_ k_), (1, .u (.bool a_1)), (5, .ref 1 2 0 0), (7, .u (.sl (List.map (cInt .i64) y5.1))), (43, .u (.int .i64 y1.Op)), (50, .u (.bool w10))] [(0, .drow 3 [[.u (.sl (List.map ApiTerm.cells y5.2.e)), .u (.sl (List.map (cInt .i64) y5.2.kinds)), .u (.int .i64 y5.2.at_)]]), (1, .drow 2 [[.u (.int .i64 y1.Op), .u (.int .i64 y1.Arg)]])] 2) := by
          intro w10 e; subst e
          refine R_cond (c := w10) (by kernel_rfl) h (fun h => ?_) (fun h => ?_)
          · refine R_seq ?_
            refine R_reg ?_
            refine S_pure trivial (O_mv (d := .u (.bool a_1)) (by kernel_rfl)) ?_
            obtain ⟨y12, hy12, h⟩ := bindS h
            refine S_pure trivial (O_ca (us := [.bool a_1, .int .i64 1]) (r := .int .i64 y12) (by kernel_rfl) (types_when.ok hy12)) ?_
            refine S_pure trivial (O_mv (d := .u (.int .i64 y12)) (by kernel_rfl)) ?_
            refine Rs_nil ?_
            refine N_s ?_
            obtain rfl := (Option.some.inj h)
            refine R_ret ?_
            exact Q_retR (x := .int .i64 y12) (d := .u (.int .i64 y12)) (ds' := [.u (.sl (List.map ApiTerm.cells y5.2.e)), .u (.sl (List.map (cInt .i64) y5.2.kinds)), .u (.int .i64 y5.2.at_)]) (by kernel_rfl) (by kernel_rfl) (.refl _) (by kernel_rfl) (by kernel_rfl) (by kernel_rfl)
          · obtain ⟨o13, hE, h⟩ := bindS h
            have K15 : ∀ (w14 : Bool), w14 = o13 → Run Try.prog 159 (retQR [4] (.int .i64 r.1) 3 (TypesChecker.cells r.2) c_ k_) [.b 0, .s q_types_checker_read_2] q_types_checker_read_91 (mkSt [(0, .pref 0 3 0 0 c_ k_), (1, .u (.bool a_1)), (5, .ref 1 2 0 0), (7, .u (.sl (List.map (cInt .i64) y5.1))), (43, .u (.int .i64 y1.Op)), (56, .u (.bool w14))] [(0, .drow 3 [[.u (.sl (List.map ApiTerm.cells y5.2.e)), .u (.sl (List.map (cInt .i64) y5.2.kinds)), .u (.int .i64 y5.2.at_)]]), (1, .drow 2 [[.u (.int .i64 y1.Op), .u (.int .i64 y1.Arg)]])] 2) := by
              intro w14 e; subst e
              refine R_cond (c := w14) (by kernel_rfl) h (fun h => ?_) (fun h => ?_)
              · refine R_seq ?_
                refine R_reg ?_
                refine S_pure trivial (O_mv (d := .u (.int .i64 2)) (by kernel_rfl)) ?_
                refine Rs_nil ?_
                refine N_s ?_
                obtain rfl := (Option.some.inj h)
                refine R_ret ?_
                exact Q_retR (x := .int .i64 2) (d := .u (.int .i64 2)) (ds' := [.u (.sl (List.map ApiTerm.cells y5.2.e)), .u (.sl (List.map (cInt .i64) y5.2.kinds)), .u (.int .i64 y5.2.at_)]) (by kernel_rfl) (by kernel_rfl) (.refl _) (by kernel_rfl) (by kernel_rfl) (by kernel_rfl)
              · refine R_seq ?_
                refine R_reg ?_
                refine S_pure trivial (O_eql (k := .i64) (a := y1.Op) (b := 15) (by kernel_rfl) (by kernel_rfl)) ?_
                refine S_pure trivial (O_mv (d := .u (.bool ((decide (y1.Op = 15))))) (by kernel_rfl)) ?_
                refine Rs_nil ?_
                refine N_s ?_
                refine R_cond (c := (decide (y1.Op = 15))) (by kernel_rfl) h (fun h => ?_) (fun h => ?_)
                · refine R_seq ?_
                  refine R_reg ?_
                  refine S_pure trivial (O_mv (d := .u (.bool a_1)) (by kernel_rfl)) ?_
                  obtain ⟨y16, hy16, h⟩ := bindS h
                  refine S_pure trivial (O_ca (us := [.bool a_1, .int .i64 2]) (r := .int .i64 y16) (by kernel_rfl) (types_when.ok hy16)) ?_
                  refine S_pure trivial (O_mv (d := .u (.int .i64 y16)) (by kernel_rfl)) ?_
                  refine Rs_nil ?_
                  refine N_s ?_
                  obtain rfl := (Option.some.inj h)
                  refine R_ret ?_
                  exact Q_retR (x := .int .i64 y16) (d := .u (.int .i64 y16)) (ds' := [.u (.sl (List.map ApiTerm.cells y5.2.e)), .u (.sl (List.map (cInt .i64) y5.2.kinds)), .u (.int .i64 y5.2.at_)]) (by kernel_rfl) (by kernel_rfl) (.refl _) (by kernel_rfl) (by kernel_rfl) (by kernel_rfl)
                · refine R_seq ?_
                  refine R_reg ?_
                  refine S_pure trivial (O_eql (k := .i64) (a := y1.Op) (b := 4) (by kernel_rfl) (by kernel_rfl)) ?_
                  refine S_pure trivial (O_mv (d := .u (.bool ((decide (y1.Op = 4))))) (by kernel_rfl)) ?_
                  refine Rs_nil ?_
                  refine N_s ?_
                  refine R_cond (c := (decide (y1.Op = 4))) (by kernel_rfl) h (fun h => ?_) (fun h => ?_)
                  · refine R_seq ?_
                    refine R_reg ?_
                    refine S_pure trivial (O_mv (d := .u (.int .i64 3)) (by kernel_rfl)) ?_
                    refine Rs_nil ?_
                    refine N_s ?_
                    obtain rfl := (Option.some.inj h)
                    refine R_ret ?_
                    exact Q_retR (x := .int .i64 3) (d := .u (.int .i64 3)) (ds' := [.u (.sl (List.map ApiTerm.cells y5.2.e)), .u (.sl (List.map (cInt .i64) y5.2.kinds)), .u (.int .i64 y5.2.at_)]) (by kernel_rfl) (by kernel_rfl) (.refl _) (by kernel_rfl) (by kernel_rfl) (by kernel_rfl)
                  · obtain ⟨o17, hE, h⟩ := bindS h
                    have K19 : ∀ (w18 : Bool), w18 = o17 → Run Try.prog 159 (retQR [4] (.int .i64 r.1) 3 (TypesChecker.cells r.2) c_ k_) [.b 0, .s q_types_checker_read_2] q_types_checker_read_79 (mkSt [(0, .pref 0 3 0 0 c_ k_), (1, .u (.bool a_1)), (5, .ref 1 2 0 0), (7, .u (.sl (List.map (cInt .i64) y5.1))), (43, .u (.int .i64 y1.Op)), (66, .u (.bool w18))] [(0, .drow 3 [[.u (.sl (List.map ApiTerm.cells y5.2.e)), .u (.sl (List.map (cInt .i64) y5.2.kinds)), .u (.int .i64 y5.2.at_)]]), (1, .drow 2 [[.u (.int .i64 y1.Op), .u (.int .i64 y1.Arg)]])] 2) := by
                      intro w18 e; subst e
                      refine R_cond (c := w18) (by kernel_rfl) h (fun h => ?_) (fun h => ?_)
                      · refine R_seq ?_
                        refine R_reg ?_
                        refine S_pure trivial (O_mv (d := .u (.bool a_1)) (by kernel_rfl)) ?_
                        obtain ⟨y20, hy20, h⟩ := bindS h
                        refine S_pure trivial (O_ca (us := [.bool a_1, .int .i64 3]) (r := .int .i64 y20) (by kernel_rfl) (types_when.ok hy20)) ?_
                        refine S_pure trivial (O_mv (d := .u (.int .i64 y20)) (by kernel_rfl)) ?_
                        refine Rs_nil ?_
                        refine N_s ?_
                        obtain rfl := (Option.some.inj h)
                        refine R_ret ?_
                        exact Q_retR (x := .int .i64 y20) (d := .u (.int .i64 y20)) (ds' := [.u (.sl (List.map ApiTerm.cells y5.2.e)), .u (.sl (List.map (cInt .i64) y5.2.kinds)), .u (.int .i64 y5.2.at_)]) (by kernel_rfl) (by kernel_rfl) (.refl _) (by kernel_rfl) (by kernel_rfl) (by kernel_rfl)
                      · refine R_seq ?_
                        refine R_reg ?_
                        refine S_pure trivial (O_eql (k := .i64) (a := y1.Op) (b := 5) (by kernel_rfl) (by kernel_rfl)) ?_
                        refine S_pure trivial (O_mv (d := .u (.bool ((decide (y1.Op = 5))))) (by kernel_rfl)) ?_
                        refine Rs_nil ?_
                        refine N_s ?_
                        refine R_cond (c := (decide (y1.Op = 5))) (by kernel_rfl) h (fun h => ?_) (fun h => ?_)
                        · refine R_seq ?_
                          refine R_rgd (show Try.prog.follows .mixedOrders = true from Checked.mixed Try.checked) ?_
                          refine Rg_pure 1000 [0] trivial (O_mv (d := .pref 0 3 0 0 c_ k_) (by kernel_rfl)) (by kernel_rfl) ?_
                          refine Rg_pure 1001 [0] trivial (O_ncp (b := 0) (s := 3) (i := 0) (off := 0) (c := c_) (k := k_) (by kernel_rfl)) (by kernel_rfl) ?_
                          refine Rg_pure 1002 [0] trivial (O_far (b := 0) (s := 3) (i := 0) (o := 0) (by kernel_rfl)) (by kernel_rfl) ?_
                          refine Rg_pure 1003 [0] trivial (O_ldo (b := 0) (s := 3) (off := 1) (ds := [.u (.sl (List.map ApiTerm.cells y5.2.e)), .u (.sl (List.map (cInt .i64) y5.2.kinds)), .u (.int .i64 y5.2.at_)]) (d := .u (.sl (List.map (cInt .i64) y5.2.kinds))) (by kernel_rfl) (by kernel_rfl) rfl (by kernel_rfl)) (by kernel_rfl) ?_
                          refine Rg_pure 1004 [1] trivial (O_far (b := 1) (s := 2) (i := 0) (o := 0) (by kernel_rfl)) (by kernel_rfl) ?_
                          refine Rg_pure 1005 [1] trivial (O_ldo (b := 1) (s := 2) (off := 1) (ds := [.u (.int .i64 y1.Op), .u (.int .i64 y1.Arg)]) (d := .u (.int .i64 y1.Arg)) (by kernel_rfl) (by kernel_rfl) rfl (by kernel_rfl)) (by kernel_rfl) ?_
                          obtain ⟨y21, hy21, h⟩ := bindS h
                          refine Rg_pure 1006 [] trivial (O_ia (c := (cInt .i64)) (li := y5.2.kinds) (i := y1.Arg) (k := .i64) (a := y21) (u := (cInt .i64) y21) (by kernel_rfl) (by kernel_rfl) hy21 rfl rfl) (by kernel_rfl) ?_
                          refine Rg_pure 1007 [] trivial (O_ldf (cells := (cInt .i64) y21) (off := 0) (u := .int .i64 y21) (by kernel_rfl) (by kernel_rfl)) (by kernel_rfl) ?_
                          refine Rg_pure 1008 [] trivial (O_mv (d := .u (.int .i64 y21)) (by kernel_rfl)) (by kernel_rfl) ?_
                          refine Rg_nil (by kernel_rfl) ?_
                          refine N_s ?_
                          obtain rfl := (Option.some.inj h)
                          refine R_ret ?_
                          exact Q_retR (x := .int .i64 y21) (d := .u (.int .i64 y21)) (ds' := [.u (.sl (List.map ApiTerm.cells y5.2.e)), .u (.sl (List.map (cInt .i64) y5.2.kinds)), .u (.int .i64 y5.2.at_)]) (by kernel_rfl) (by kernel_rfl) (.refl _) (by kernel_rfl) (by kernel_rfl) (by kernel_rfl)
                        · refine R_seq ?_
                          refine R_reg ?_
                          refine S_pure trivial (O_eql (k := .i64) (a := y1.Op) (b := 12) (by kernel_rfl) (by kernel_rfl)) ?_
                          refine S_pure trivial (O_mv (d := .u (.bool ((decide (y1.Op = 12))))) (by kernel_rfl)) ?_
                          refine Rs_nil ?_
                          refine N_s ?_
                          refine R_cond (c := (decide (y1.Op = 12))) (by kernel_rfl) h (fun h => ?_) (fun h => ?_)
                          · refine R_seq ?_
                            refine R_rgd (show Try.prog.follows .mixedOrders = true from Checked.mixed Try.checked) ?_
                            refine Rg_pure 1000 [] trivial (O_mv (d := .u (.bool a_1)) (by kernel_rfl)) (by kernel_rfl) ?_
                            refine Rg_pure 1001 [0] trivial (O_mv (d := .pref 0 3 0 0 c_ k_) (by kernel_rfl)) (by kernel_rfl) ?_
                            refine Rg_pure 1002 [0] trivial (O_ncp (b := 0) (s := 3) (i := 0) (off := 0) (c := c_) (k := k_) (by kernel_rfl)) (by kernel_rfl) ?_
                            refine Rg_pure 1003 [0] trivial (O_far (b := 0) (s := 3) (i := 0) (o := 0) (by kernel_rfl)) (by kernel_rfl) ?_
                            refine Rg_pure 1004 [0] trivial (O_ldo (b := 0) (s := 3) (off := 1) (ds := [.u (.sl (List.map ApiTerm.cells y5.2.e)), .u (.sl (List.map (cInt .i64) y5.2.kinds)), .u (.int .i64 y5.2.at_)]) (d := .u (.sl (List.map (cInt .i64) y5.2.kinds))) (by kernel_rfl) (by kernel_rfl) rfl (by kernel_rfl)) (by kernel_rfl) ?_
                            refine Rg_pure 1005 [1] trivial (O_far (b := 1) (s := 2) (i := 0) (o := 0) (by kernel_rfl)) (by kernel_rfl) ?_
                            refine Rg_pure 1006 [1] trivial (O_ldo (b := 1) (s := 2) (off := 1) (ds := [.u (.int .i64 y1.Op), .u (.int .i64 y1.Arg)]) (d := .u (.int .i64 y1.Arg)) (by kernel_rfl) (by kernel_rfl) rfl (by kernel_rfl)) (by kernel_rfl) ?_
                            obtain ⟨y22, hy22, h⟩ := bindS h
                            refine Rg_pure 1007 [] trivial (O_ia (c := (cInt .i64)) (li := y5.2.kinds) (i := y1.Arg) (k := .i64) (a := y22) (u := (cInt .i64) y22) (by kernel_rfl) (by kernel_rfl) hy22 rfl rfl) (by kernel_rfl) ?_
                            refine Rg_pure 1008 [] trivial (O_ldf (cells := (cInt .i64) y22) (off := 0) (u := .int .i64 y22) (by kernel_rfl) (by kernel_rfl)) (by kernel_rfl) ?_
                            obtain ⟨y23, hy23, h⟩ := bindS h
                            refine Rg_pure 1009 [] trivial (O_ca (us := [.bool a_1, .int .i64 y22]) (r := .int .i64 y23) (by kernel_rfl) (types_when.ok hy23)) (by kernel_rfl) ?_
                            refine Rg_pure 1010 [] trivial (O_mv (d := .u (.int .i64 y23)) (by kernel_rfl)) (by kernel_rfl) ?_
                            refine Rg_nil (by kernel_rfl) ?_
                            refine N_s ?_
                            obtain rfl := (Option.some.inj h)
                            refine R_ret ?_
                            exact Q_retR (x := .int .i64 y23) (d := .u (.int .i64 y23)) (ds' := [.u (.sl (List.map ApiTerm.cells y5.2.e)), .u (.sl (List.map (cInt .i64) y5.2.kinds)), .u (.int .i64 y5.2.at_)]) (by kernel_rfl) (by kernel_rfl) (.refl _) (by kernel_rfl) (by kernel_rfl) (by kernel_rfl)
                          · obtain ⟨o24, hE, h⟩ := bindS h
                            have K26 : ∀ (w25 : Bool), w25 = o24 → Run Try.prog 159 (retQR [4] (.int .i64 r.1) 3 (TypesChecker.cells r.2) c_ k_) [.b 0, .s q_types_checker_read_2] q_types_checker_read_58 (mkSt [(0, .pref 0 3 0 0 c_ k_), (7, .u (.sl (List.map (cInt .i64) y5.1))), (43, .u (.int .i64 y1.Op)), (93, .u (.bool w25))] [(0, .drow 3 [[.u (.sl (List.map ApiTerm.cells y5.2.e)), .u (.sl (List.map (cInt .i64) y5.2.kinds)), .u (.int .i64 y5.2.at_)]])] 2) := by
                              intro w25 e; subst e
                              refine R_cond (c := w25) (by kernel_rfl) h (fun h => ?_) (fun h => ?_)
                              · refine R_seq ?_
                                refine R_reg ?_
                                refine S_pure trivial (O_mv (d := .u (.sl (List.map (cInt .i64) y5.1))) (by kernel_rfl)) ?_
                                obtain ⟨y27, hy27, h⟩ := bindS h
                                refine S_pure trivial (O_ca (us := [.sl (List.map (cInt .i64) y5.1), .int .i64 2]) (r := .bool y27) (by kernel_rfl) (types_all.ok hy27)) ?_
                                obtain ⟨y28, hy28, h⟩ := bindS h
                                refine S_pure trivial (O_ca (us := [.bool y27, .int .i64 2]) (r := .int .i64 y28) (by kernel_rfl) (types_when.ok hy28)) ?_
                                refine S_pure trivial (O_mv (d := .u (.int .i64 y28)) (by kernel_rfl)) ?_
                                refine Rs_nil ?_
                                refine N_s ?_
                                obtain rfl := (Option.some.inj h)
                                refine R_ret ?_
                                exact Q_retR (x := .int .i64 y28) (d := .u (.int .i64 y28)) (ds' := [.u (.sl (List.map ApiTerm.cells y5.2.e)), .u (.sl (List.map (cInt .i64) y5.2.kinds)), .u (.int .i64 y5.2.at_)]) (by kernel_rfl) (by kernel_rfl) (.refl _) (by kernel_rfl) (by kernel_rfl) (by kernel_rfl)
                              · refine R_seq ?_
                                refine R_reg ?_
                                refine S_pure trivial (O_eql (k := .i64) (a := y1.Op) (b := 22) (by kernel_rfl) (by kernel_rfl)) ?_
                                refine S_pure trivial (O_mv (d := .u (.bool ((decide (y1.Op = 22))))) (by kernel_rfl)) ?_
                                refine Rs_nil ?_
                                refine N_s ?_
                                refine R_cond (c := (decide (y1.Op = 22))) (by kernel_rfl) h (fun h => ?_) (fun h => ?_)
                                · refine R_seq ?_
                                  refine R_reg ?_
                                  refine S_pure trivial (O_mv (d := .u (.sl (List.map (cInt .i64) y5.1))) (by kernel_rfl)) ?_
                                  obtain ⟨y29, hy29, h⟩ := bindS h
                                  refine S_pure trivial (O_ca (us := [.sl (List.map (cInt .i64) y5.1), .int .i64 2]) (r := .bool y29) (by kernel_rfl) (types_all.ok hy29)) ?_
                                  obtain ⟨y30, hy30, h⟩ := bindS h
                                  refine S_pure trivial (O_ca (us := [.bool y29, .int .i64 1]) (r := .int .i64 y30) (by kernel_rfl) (types_when.ok hy30)) ?_
                                  refine S_pure trivial (O_mv (d := .u (.int .i64 y30)) (by kernel_rfl)) ?_
                                  refine Rs_nil ?_
                                  refine N_s ?_
                                  obtain rfl := (Option.some.inj h)
                                  refine R_ret ?_
                                  exact Q_retR (x := .int .i64 y30) (d := .u (.int .i64 y30)) (ds' := [.u (.sl (List.map ApiTerm.cells y5.2.e)), .u (.sl (List.map (cInt .i64) y5.2.kinds)), .u (.int .i64 y5.2.at_)]) (by kernel_rfl) (by kernel_rfl) (.refl _) (by kernel_rfl) (by kernel_rfl) (by kernel_rfl)
                                · refine R_seq ?_
                                  refine R_reg ?_
                                  refine S_pure trivial (O_eql (k := .i64) (a := y1.Op) (b := 23) (by kernel_rfl) (by kernel_rfl)) ?_
                                  refine S_pure trivial (O_mv (d := .u (.bool ((decide (y1.Op = 23))))) (by kernel_rfl)) ?_
                                  refine Rs_nil ?_
                                  refine N_s ?_
                                  refine R_cond (c := (decide (y1.Op = 23))) (by kernel_rfl) h (fun h => ?_) (fun h => ?_)
                                  · refine R_seq ?_
                                    refine R_reg ?_
                                    refine S_pure trivial (O_mv (d := .u (.sl (List.map (cInt .i64) y5.1))) (by kernel_rfl)) ?_
                                    obtain ⟨y31, hy31, h⟩ := bindS h
                                    refine S_pure trivial (O_ca (us := [.sl (List.map (cInt .i64) y5.1), .int .i64 2]) (r := .bool y31) (by kernel_rfl) (types_all.ok hy31)) ?_
                                    obtain ⟨y32, hy32, h⟩ := bindS h
                                    refine S_pure trivial (O_ca (us := [.bool y31, .int .i64 3]) (r := .int .i64 y32) (by kernel_rfl) (types_when.ok hy32)) ?_
                                    refine S_pure trivial (O_mv (d := .u (.int .i64 y32)) (by kernel_rfl)) ?_
                                    refine Rs_nil ?_
                                    refine N_s ?_
                                    obtain rfl := (Option.some.inj h)
                                    refine R_ret ?_
                                    exact Q_retR (x := .int .i64 y32) (d := .u (.int .i64 y32)) (ds' := [.u (.sl (List.map ApiTerm.cells y5.2.e)), .u (.sl (List.map (cInt .i64) y5.2.kinds)), .u (.int .i64 y5.2.at_)]) (by kernel_rfl) (by kernel_rfl) (.refl _) (by kernel_rfl) (by kernel_rfl) (by kernel_rfl)
                                  · obtain ⟨o33, hE, h⟩ := bindS h
                                    have K35 : ∀ (w34 : Bool), w34 = o33 → Run Try.prog 159 (retQR [4] (.int .i64 r.1) 3 (TypesChecker.cells r.2) c_ k_) [.b 0, .s q_types_checker_read_2] q_types_checker_read_46 (mkSt [(0, .pref 0 3 0 0 c_ k_), (7, .u (.sl (List.map (cInt .i64) y5.1))), (43, .u (.int .i64 y1.Op)), (112, .u (.bool w34))] [(0, .drow 3 [[.u (.sl (List.map ApiTerm.cells y5.2.e)), .u (.sl (List.map (cInt .i64) y5.2.kinds)), .u (.int .i64 y5.2.at_)]])] 2) := by
                                      intro w34 e; subst e
                                      refine R_cond (c := w34) (by kernel_rfl) h (fun h => ?_) (fun h => ?_)
                                      · refine R_seq ?_
                                        refine R_rgd (show Try.prog.follows .mixedOrders = true from Checked.mixed Try.checked) ?_
                                        refine Rg_pure 1000 [] trivial (O_mv (d := .u (.sl (List.map (cInt .i64) y5.1))) (by kernel_rfl)) (by kernel_rfl) ?_
                                        obtain ⟨y36, hy36, h⟩ := bindS h
                                        refine Rg_pure 1001 [] trivial (O_ia (c := (cInt .i64)) (li := y5.1) (i := 0) (k := .i64) (a := y36) (u := (cInt .i64) y36) (by kernel_rfl) (by kernel_rfl) hy36 rfl rfl) (by kernel_rfl) ?_
                                        refine Rg_pure 1002 [] trivial (O_ldf (cells := (cInt .i64) y36) (off := 0) (u := .int .i64 y36) (by kernel_rfl) (by kernel_rfl)) (by kernel_rfl) ?_
                                        obtain ⟨y37, hy37, h⟩ := bindS h
                                        refine Rg_pure 1003 [] trivial (O_ca (us := [.int .i64 y36]) (r := .bool y37) (by kernel_rfl) (types_kind.ok hy37)) (by kernel_rfl) ?_
                                        refine Rg_pure 1004 [] trivial (O_mv (d := .u (.bool y37)) (by kernel_rfl)) (by kernel_rfl) ?_
                                        refine Rg_case (t := 119) (c := y37) (by kernel_rfl) h (fun hc h => ?_) (fun hc h => ?_)
                                        · refine Rg_pure 1005 [] (by show _ = _; kernel_rfl) (O_mv (d := .u (.sl (List.map (cInt .i64) y5.1))) (by kernel_rfl)) (by kernel_rfl) ?_
                                          obtain ⟨y38, hy38, h⟩ := bindS h
                                          refine Rg_pure 1006 [] (by show _ = _; kernel_rfl) (O_ia (c := (cInt .i64)) (li := y5.1) (i := 0) (k := .i64) (a := y38) (u := (cInt .i64) y38) (by kernel_rfl) (by kernel_rfl) hy38 rfl rfl) (by kernel_rfl) ?_
                                          refine Rg_pure 1007 [] (by show _ = _; kernel_rfl) (O_ldf (cells := (cInt .i64) y38) (off := 0) (u := .int .i64 y38) (by kernel_rfl) (by kernel_rfl)) (by kernel_rfl) ?_
                                          refine Rg_pure 1008 [] (by show _ = _; kernel_rfl) (O_mv (d := .u (.sl (List.map (cInt .i64) y5.1))) (by kernel_rfl)) (by kernel_rfl) ?_
                                          obtain ⟨y39, hy39, h⟩ := bindS h
                                          refine Rg_pure 1009 [] (by show _ = _; kernel_rfl) (O_ia (c := (cInt .i64)) (li := y5.1) (i := 1) (k := .i64) (a := y39) (u := (cInt .i64) y39) (by kernel_rfl) (by kernel_rfl) hy39 rfl rfl) (by kernel_rfl) ?_
                                          refine Rg_pure 1010 [] (by show _ = _; kernel_rfl) (O_ldf (cells := (cInt .i64) y39) (off := 0) (u := .int .i64 y39) (by kernel_rfl) (by kernel_rfl)) (by kernel_rfl) ?_
                                          refine Rg_pure 1011 [] (by show _ = _; kernel_rfl) (O_eql (k := .i64) (a := y38) (b := y39) (by kernel_rfl) (by kernel_rfl)) (by kernel_rfl) ?_
                                          refine Rg_pure 1012 [] trivial (O_pkt (d := .u (.bool ((decide (y38 = y39))))) (by kernel_rfl) (by kernel_rfl)) (by kernel_rfl) ?_
                                          obtain ⟨y40, hy40, h⟩ := bindS h
                                          refine Rg_pure 1013 [] trivial (O_ca (us := [.bool ((decide (y38 = y39))), .int .i64 2]) (r := .int .i64 y40) (by kernel_rfl) (types_when.ok hy40)) (by kernel_rfl) ?_
                                          refine Rg_pure 1014 [] trivial (O_mv (d := .u (.int .i64 y40)) (by kernel_rfl)) (by kernel_rfl) ?_
                                          refine Rg_nil (by kernel_rfl) ?_
                                          refine N_s ?_
                                          obtain rfl := (Option.some.inj h)
                                          refine R_ret ?_
                                          exact Q_retR (x := .int .i64 y40) (d := .u (.int .i64 y40)) (ds' := [.u (.sl (List.map ApiTerm.cells y5.2.e)), .u (.sl (List.map (cInt .i64) y5.2.kinds)), .u (.int .i64 y5.2.at_)]) (by kernel_rfl) (by kernel_rfl) (.refl _) (by kernel_rfl) (by kernel_rfl) (by kernel_rfl)
                                        · refine Rg_skip (b := false) 1005 (by kernel_rfl) rfl (by kernel_rfl) ?_
                                          refine Rg_skip (b := false) 1006 (by kernel_rfl) rfl (by kernel_rfl) ?_
                                          refine Rg_skip (b := false) 1007 (by kernel_rfl) rfl (by kernel_rfl) ?_
                                          refine Rg_skip (b := false) 1008 (by kernel_rfl) rfl (by kernel_rfl) ?_
                                          refine Rg_skip (b := false) 1009 (by kernel_rfl) rfl (by kernel_rfl) ?_
                                          refine Rg_skip (b := false) 1010 (by kernel_rfl) rfl (by kernel_rfl) ?_
                                          refine Rg_skip (b := false) 1011 (by kernel_rfl) rfl (by kernel_rfl) ?_
                                          refine Rg_pure 1012 [] trivial (O_pkf (d := .u (.bool false)) (by kernel_rfl) (by kernel_rfl)) (by kernel_rfl) ?_
                                          obtain ⟨y41, hy41, h⟩ := bindS h
                                          refine Rg_pure 1013 [] trivial (O_ca (us := [.bool false, .int .i64 2]) (r := .int .i64 y41) (by kernel_rfl) (types_when.ok hy41)) (by kernel_rfl) ?_
                                          refine Rg_pure 1014 [] trivial (O_mv (d := .u (.int .i64 y41)) (by kernel_rfl)) (by kernel_rfl) ?_
                                          refine Rg_nil (by kernel_rfl) ?_
                                          refine N_s ?_
                                          obtain rfl := (Option.some.inj h)
                                          refine R_ret ?_
                                          exact Q_retR (x := .int .i64 y41) (d := .u (.int .i64 y41)) (ds' := [.u (.sl (List.map ApiTerm.cells y5.2.e)), .u (.sl (List.map (cInt .i64) y5.2.kinds)), .u (.int .i64 y5.2.at_)]) (by kernel_rfl) (by kernel_rfl) (.refl _) (by kernel_rfl) (by kernel_rfl) (by kernel_rfl)
                                      · obtain ⟨o42, hE, h⟩ := bindS h
                                        have K44 : ∀ (w43 : Bool), w43 = o42 → Run Try.prog 159 (retQR [4] (.int .i64 r.1) 3 (TypesChecker.cells r.2) c_ k_) [.b 0, .s q_types_checker_read_2] q_types_checker_read_34 (mkSt [(0, .pref 0 3 0 0 c_ k_), (7, .u (.sl (List.map (cInt .i64) y5.1))), (43, .u (.int .i64 y1.Op)), (129, .u (.bool w43))] [(0, .drow 3 [[.u (.sl (List.map ApiTerm.cells y5.2.e)), .u (.sl (List.map (cInt .i64) y5.2.kinds)), .u (.int .i64 y5.2.at_)]])] 2) := by
                                          intro w43 e; subst e
                                          refine R_cond (c := w43) (by kernel_rfl) h (fun h => ?_) (fun h => ?_)
                                          · refine R_seq ?_
                                            refine R_reg ?_
                                            refine S_pure trivial (O_mv (d := .u (.sl (List.map (cInt .i64) y5.1))) (by kernel_rfl)) ?_
                                            obtain ⟨y45, hy45, h⟩ := bindS h
                                            refine S_pure trivial (O_ca (us := [.sl (List.map (cInt .i64) y5.1), .int .i64 1]) (r := .bool y45) (by kernel_rfl) (types_all.ok hy45)) ?_
                                            obtain ⟨y46, hy46, h⟩ := bindS h
                                            refine S_pure trivial (O_ca (us := [.bool y45, .int .i64 2]) (r := .int .i64 y46) (by kernel_rfl) (types_when.ok hy46)) ?_
                                            refine S_pure trivial (O_mv (d := .u (.int .i64 y46)) (by kernel_rfl)) ?_
                                            refine Rs_nil ?_
                                            refine N_s ?_
                                            obtain rfl := (Option.some.inj h)
                                            refine R_ret ?_
                                            exact Q_retR (x := .int .i64 y46) (d := .u (.int .i64 y46)) (ds' := [.u (.sl (List.map ApiTerm.cells y5.2.e)), .u (.sl (List.map (cInt .i64) y5.2.kinds)), .u (.int .i64 y5.2.at_)]) (by kernel_rfl) (by kernel_rfl) (.refl _) (by kernel_rfl) (by kernel_rfl) (by kernel_rfl)
                                          · refine R_seq ?_
                                            refine R_reg ?_
                                            refine S_pure trivial (O_eql (k := .i64) (a := y1.Op) (b := 43) (by kernel_rfl) (by kernel_rfl)) ?_
                                            refine S_pure trivial (O_mv (d := .u (.bool ((decide (y1.Op = 43))))) (by kernel_rfl)) ?_
                                            refine Rs_nil ?_
                                            refine N_s ?_
                                            refine R_cond (c := (decide (y1.Op = 43))) (by kernel_rfl) h (fun h => ?_) (fun h => ?_)
                                            · refine R_seq ?_
                                              refine R_rgd (show Try.prog.follows .mixedOrders = true from Checked.mixed Try.checked) ?_
                                              refine Rg_pure 1000 [] trivial (O_mv (d := .u (.sl (List.map (cInt .i64) y5.1))) (by kernel_rfl)) (by kernel_rfl) ?_
                                              obtain ⟨y47, hy47, h⟩ := bindS h
                                              refine Rg_pure 1001 [] trivial (O_ia (c := (cInt .i64)) (li := y5.1) (i := 0) (k := .i64) (a := y47) (u := (cInt .i64) y47) (by kernel_rfl) (by kernel_rfl) hy47 rfl rfl) (by kernel_rfl) ?_
                                              refine Rg_pure 1002 [] trivial (O_ldf (cells := (cInt .i64) y47) (off := 0) (u := .int .i64 y47) (by kernel_rfl) (by kernel_rfl)) (by kernel_rfl) ?_
                                              refine Rg_pure 1003 [] trivial (O_eql (k := .i64) (a := y47) (b := 2) (by kernel_rfl) (by kernel_rfl)) (by kernel_rfl) ?_
                                              refine Rg_pure 1004 [] trivial (O_mv (d := .u (.bool ((decide (y47 = 2))))) (by kernel_rfl)) (by kernel_rfl) ?_
                                              refine Rg_case (t := 143) (c := (decide (y47 = 2))) (by kernel_rfl) h (fun hc h => ?_) (fun hc h => ?_)
                                              · refine Rg_pure 1005 [] (by show _ = _; kernel_rfl) (O_mv (d := .u (.sl (List.map (cInt .i64) y5.1))) (by kernel_rfl)) (by kernel_rfl) ?_
                                                obtain ⟨y48, hy48, h⟩ := bindS h
                                                refine Rg_pure 1006 [] (by show _ = _; kernel_rfl) (O_ia (c := (cInt .i64)) (li := y5.1) (i := 1) (k := .i64) (a := y48) (u := (cInt .i64) y48) (by kernel_rfl) (by kernel_rfl) hy48 rfl rfl) (by kernel_rfl) ?_
                                                refine Rg_pure 1007 [] (by show _ = _; kernel_rfl) (O_ldf (cells := (cInt .i64) y48) (off := 0) (u := .int .i64 y48) (by kernel_rfl) (by kernel_rfl)) (by kernel_rfl) ?_
                                                refine Rg_pure 1008 [] (by show _ = _; kernel_rfl) (O_mv (d := .u (.sl (List.map (cInt .i64) y5.1))) (by kernel_rfl)) (by kernel_rfl) ?_
                                                obtain ⟨y49, hy49, h⟩ := bindS h
                                                refine Rg_pure 1009 [] (by show _ = _; kernel_rfl) (O_ia (c := (cInt .i64)) (li := y5.1) (i := 2) (k := .i64) (a := y49) (u := (cInt .i64) y49) (by kernel_rfl) (by kernel_rfl) hy49 rfl rfl) (by kernel_rfl) ?_
                                                refine Rg_pure 1010 [] (by show _ = _; kernel_rfl) (O_ldf (cells := (cInt .i64) y49) (off := 0) (u := .int .i64 y49) (by kernel_rfl) (by kernel_rfl)) (by kernel_rfl) ?_
                                                refine Rg_pure 1011 [] (by show _ = _; kernel_rfl) (O_eql (k := .i64) (a := y48) (b := y49) (by kernel_rfl) (by kernel_rfl)) (by kernel_rfl) ?_
                                                refine Rg_pure 1012 [] trivial (O_pkt (d := .u (.bool ((decide (y48 = y49))))) (by kernel_rfl) (by kernel_rfl)) (by kernel_rfl) ?_
                                                refine Rg_pure 1013 [] trivial (O_mv (d := .u (.sl (List.map (cInt .i64) y5.1))) (by kernel_rfl)) (by kernel_rfl) ?_
                                                obtain ⟨y50, hy50, h⟩ := bindS h
                                                refine Rg_pure 1014 [] trivial (O_ia (c := (cInt .i64)) (li := y5.1) (i := 1) (k := .i64) (a := y50) (u := (cInt .i64) y50) (by kernel_rfl) (by kernel_rfl) hy50 rfl rfl) (by kernel_rfl) ?_
                                                refine Rg_pure 1015 [] trivial (O_ldf (cells := (cInt .i64) y50) (off := 0) (u := .int .i64 y50) (by kernel_rfl) (by kernel_rfl)) (by kernel_rfl) ?_
                                                obtain ⟨y51, hy51, h⟩ := bindS h
                                                refine Rg_pure 1016 [] trivial (O_ca (us := [.bool ((decide (y48 = y49))), .int .i64 y50]) (r := .int .i64 y51) (by kernel_rfl) (types_when.ok hy51)) (by kernel_rfl) ?_
                                                refine Rg_pure 1017 [] trivial (O_mv (d := .u (.int .i64 y51)) (by kernel_rfl)) (by kernel_rfl) ?_
                                                refine Rg_nil (by kernel_rfl) ?_
                                                refine N_s ?_
                                                obtain rfl := (Option.some.inj h)
                                                refine R_ret ?_
                                                exact Q_retR (x := .int .i64 y51) (d := .u (.int .i64 y51)) (ds' := [.u (.sl (List.map ApiTerm.cells y5.2.e)), .u (.sl (List.map (cInt .i64) y5.2.kinds)), .u (.int .i64 y5.2.at_)]) (by kernel_rfl) (by kernel_rfl) (.refl _) (by kernel_rfl) (by kernel_rfl) (by kernel_rfl)
                                              · refine Rg_skip (b := false) 1005 (by kernel_rfl) rfl (by kernel_rfl) ?_
                                                refine Rg_skip (b := false) 1006 (by kernel_rfl) rfl (by kernel_rfl) ?_
                                                refine Rg_skip (b := false) 1007 (by kernel_rfl) rfl (by kernel_rfl) ?_
                                                refine Rg_skip (b := false) 1008 (by kernel_rfl) rfl (by kernel_rfl) ?_
                                                refine Rg_skip (b := false) 1009 (by kernel_rfl) rfl (by kernel_rfl) ?_
                                                refine Rg_skip (b := false) 1010 (by kernel_rfl) rfl (by kernel_rfl) ?_
                                                refine Rg_skip (b := false) 1011 (by kernel_rfl) rfl (by kernel_rfl) ?_
                                                refine Rg_pure 1012 [] trivial (O_pkf (d := .u (.bool false)) (by kernel_rfl) (by kernel_rfl)) (by kernel_rfl) ?_
                                                refine Rg_pure 1013 [] trivial (O_mv (d := .u (.sl (List.map (cInt .i64) y5.1))) (by kernel_rfl)) (by kernel_rfl) ?_
                                                obtain ⟨y52, hy52, h⟩ := bindS h
                                                refine Rg_pure 1014 [] trivial (O_ia (c := (cInt .i64)) (li := y5.1) (i := 1) (k := .i64) (a := y52) (u := (cInt .i64) y52) (by kernel_rfl) (by kernel_rfl) hy52 rfl rfl) (by kernel_rfl) ?_
                                                refine Rg_pure 1015 [] trivial (O_ldf (cells := (cInt .i64) y52) (off := 0) (u := .int .i64 y52) (by kernel_rfl) (by kernel_rfl)) (by kernel_rfl) ?_
                                                obtain ⟨y53, hy53, h⟩ := bindS h
                                                refine Rg_pure 1016 [] trivial (O_ca (us := [.bool false, .int .i64 y52]) (r := .int .i64 y53) (by kernel_rfl) (types_when.ok hy53)) (by kernel_rfl) ?_
                                                refine Rg_pure 1017 [] trivial (O_mv (d := .u (.int .i64 y53)) (by kernel_rfl)) (by kernel_rfl) ?_
                                                refine Rg_nil (by kernel_rfl) ?_
                                                refine N_s ?_
                                                obtain rfl := (Option.some.inj h)
                                                refine R_ret ?_
                                                exact Q_retR (x := .int .i64 y53) (d := .u (.int .i64 y53)) (ds' := [.u (.sl (List.map ApiTerm.cells y5.2.e)), .u (.sl (List.map (cInt .i64) y5.2.kinds)), .u (.int .i64 y5.2.at_)]) (by kernel_rfl) (by kernel_rfl) (.refl _) (by kernel_rfl) (by kernel_rfl) (by kernel_rfl)
                                            · refine R_skip ?_
                                              refine N_b ?_
                                              refine N_s ?_
                                              refine R_seq ?_
                                              refine R_reg ?_
                                              refine S_pure trivial (O_mv (d := .u (.sl (List.map (cInt .i64) y5.1))) (by kernel_rfl)) ?_
                                              obtain ⟨y54, hy54, h⟩ := bindS h
                                              refine S_pure trivial (O_ca (us := [.sl (List.map (cInt .i64) y5.1), .int .i64 1]) (r := .bool y54) (by kernel_rfl) (types_all.ok hy54)) ?_
                                              obtain ⟨y55, hy55, h⟩ := bindS h
                                              refine S_pure trivial (O_ca (us := [.bool y54, .int .i64 1]) (r := .int .i64 y55) (by kernel_rfl) (types_when.ok hy55)) ?_
                                              refine S_pure trivial (O_mv (d := .u (.int .i64 y55)) (by kernel_rfl)) ?_
                                              refine Rs_nil ?_
                                              refine N_s ?_
                                              obtain rfl := (Option.some.inj h)
                                              refine R_ret ?_
                                              exact Q_retR (x := .int .i64 y55) (d := .u (.int .i64 y55)) (ds' := [.u (.sl (List.map ApiTerm.cells y5.2.e)), .u (.sl (List.map (cInt .i64) y5.2.kinds)), .u (.int .i64 y5.2.at_)]) (by kernel_rfl) (by kernel_rfl) (.refl _) (by kernel_rfl) (by kernel_rfl) (by kernel_rfl)
                                        replace h := hE
                                        refine R_seq ?_
                                        refine R_seq ?_
                                        refine R_reg ?_
                                        refine S_pure trivial (O_eql (k := .i64) (a := y1.Op) (b := 37) (by kernel_rfl) (by kernel_rfl)) ?_
                                        refine S_pure trivial (O_mv (d := .u (.bool ((decide (y1.Op = 37))))) (by kernel_rfl)) ?_
                                        refine Rs_nil ?_
                                        refine N_s ?_
                                        refine R_cond (c := (decide (y1.Op = 37))) (by kernel_rfl) h (fun h => ?_) (fun h => ?_)
                                        · refine R_skip ?_
                                          refine N_s ?_
                                          exact R_weak (W_to (by kernel_rfl) (by kernel_rfl) (by kernel_rfl)) (K44 _ (Option.some.inj h))
                                        · refine R_seq ?_
                                          refine R_reg ?_
                                          refine S_pure trivial (O_eql (k := .i64) (a := y1.Op) (b := 38) (by kernel_rfl) (by kernel_rfl)) ?_
                                          refine S_pure trivial (O_mv (d := .u (.bool ((decide (y1.Op = 38))))) (by kernel_rfl)) ?_
                                          refine Rs_nil ?_
                                          refine N_s ?_
                                          refine R_cond (c := (decide (y1.Op = 38))) (by kernel_rfl) h (fun h => ?_) (fun h => ?_)
                                          · refine R_skip ?_
                                            refine N_s ?_
                                            exact R_weak (W_to (by kernel_rfl) (by kernel_rfl) (by kernel_rfl)) (K44 _ (Option.some.inj h))
                                          · refine R_seq ?_
                                            refine R_reg ?_
                                            refine S_pure trivial (O_eql (k := .i64) (a := y1.Op) (b := 39) (by kernel_rfl) (by kernel_rfl)) ?_
                                            refine S_pure trivial (O_mv (d := .u (.bool ((decide (y1.Op = 39))))) (by kernel_rfl)) ?_
                                            refine Rs_nil ?_
                                            refine N_s ?_
                                            refine R_cond (c := (decide (y1.Op = 39))) (by kernel_rfl) h (fun h => ?_) (fun h => ?_)
                                            · refine R_skip ?_
                                              refine N_s ?_
                                              exact R_weak (W_to (by kernel_rfl) (by kernel_rfl) (by kernel_rfl)) (K44 _ (Option.some.inj h))
                                            · refine R_reg ?_
                                              refine S_pure trivial (O_eql (k := .i64) (a := y1.Op) (b := 40) (by kernel_rfl) (by kernel_rfl)) ?_
                                              refine S_pure trivial (O_mv (d := .u (.bool ((decide (y1.Op = 40))))) (by kernel_rfl)) ?_
                                              refine Rs_nil ?_
                                              refine N_s ?_
                                              exact R_weak (W_to (by kernel_rfl) (by kernel_rfl) (by kernel_rfl)) (K44 _ (Option.some.inj h))
                                    replace h := hE
                                    refine R_seq ?_
                                    refine R_seq ?_
                                    refine R_reg ?_
                                    refine S_pure trivial (O_eql (k := .i64) (a := y1.Op) (b := 35) (by kernel_rfl) (by kernel_rfl)) ?_
                                    refine S_pure trivial (O_mv (d := .u (.bool ((decide (y1.Op = 35))))) (by kernel_rfl)) ?_
                                    refine Rs_nil ?_
                                    refine N_s ?_
                                    refine R_cond (c := (decide (y1.Op = 35))) (by kernel_rfl) h (fun h => ?_) (fun h => ?_)
                                    · refine R_skip ?_
                                      refine N_s ?_
                                      exact R_weak (W_to (by kernel_rfl) (by kernel_rfl) (by kernel_rfl)) (K35 _ (Option.some.inj h))
                                    · refine R_reg ?_
                                      refine S_pure trivial (O_eql (k := .i64) (a := y1.Op) (b := 36) (by kernel_rfl) (by kernel_rfl)) ?_
                                      refine S_pure trivial (O_mv (d := .u (.bool ((decide (y1.Op = 36))))) (by kernel_rfl)) ?_
                                      refine Rs_nil ?_
                                      refine N_s ?_
                                      exact R_weak (W_to (by kernel_rfl) (by kernel_rfl) (by kernel_rfl)) (K35 _ (Option.some.inj h))
                            replace h := hE
                            refine R_seq ?_
                            refine R_seq ?_
                            refine R_reg ?_
                            refine S_pure trivial (O_eql (k := .i64) (a := y1.Op) (b := 19) (by kernel_rfl) (by kernel_rfl)) ?_
                            refine S_pure trivial (O_mv (d := .u (.bool ((decide (y1.Op = 19))))) (by kernel_rfl)) ?_
                            refine Rs_nil ?_
                            refine N_s ?_
                            refine R_cond (c := (decide (y1.Op = 19))) (by kernel_rfl) h (fun h => ?_) (fun h => ?_)
                            · refine R_skip ?_
                              refine N_s ?_
                              exact R_weak (W_to (by kernel_rfl) (by kernel_rfl) (by kernel_rfl)) (K26 _ (Option.some.inj h))
                            · refine R_seq ?_
                              refine R_reg ?_
                              refine S_pure trivial (O_eql (k := .i64) (a := y1.Op) (b := 20) (by kernel_rfl) (by kernel_rfl)) ?_
                              refine S_pure trivial (O_mv (d := .u (.bool ((decide (y1.Op = 20))))) (by kernel_rfl)) ?_
                              refine Rs_nil ?_
                              refine N_s ?_
                              refine R_cond (c := (decide (y1.Op = 20))) (by kernel_rfl) h (fun h => ?_) (fun h => ?_)
                              · refine R_skip ?_
                                refine N_s ?_
                                exact R_weak (W_to (by kernel_rfl) (by kernel_rfl) (by kernel_rfl)) (K26 _ (Option.some.inj h))
                              · refine R_seq ?_
                                refine R_reg ?_
                                refine S_pure trivial (O_eql (k := .i64) (a := y1.Op) (b := 21) (by kernel_rfl) (by kernel_rfl)) ?_
                                refine S_pure trivial (O_mv (d := .u (.bool ((decide (y1.Op = 21))))) (by kernel_rfl)) ?_
                                refine Rs_nil ?_
                                refine N_s ?_
                                refine R_cond (c := (decide (y1.Op = 21))) (by kernel_rfl) h (fun h => ?_) (fun h => ?_)
                                · refine R_skip ?_
                                  refine N_s ?_
                                  exact R_weak (W_to (by kernel_rfl) (by kernel_rfl) (by kernel_rfl)) (K26 _ (Option.some.inj h))
                                · refine R_seq ?_
                                  refine R_reg ?_
                                  refine S_pure trivial (O_eql (k := .i64) (a := y1.Op) (b := 41) (by kernel_rfl) (by kernel_rfl)) ?_
                                  refine S_pure trivial (O_mv (d := .u (.bool ((decide (y1.Op = 41))))) (by kernel_rfl)) ?_
                                  refine Rs_nil ?_
                                  refine N_s ?_
                                  refine R_cond (c := (decide (y1.Op = 41))) (by kernel_rfl) h (fun h => ?_) (fun h => ?_)
                                  · refine R_skip ?_
                                    refine N_s ?_
                                    exact R_weak (W_to (by kernel_rfl) (by kernel_rfl) (by kernel_rfl)) (K26 _ (Option.some.inj h))
                                  · refine R_reg ?_
                                    refine S_pure trivial (O_eql (k := .i64) (a := y1.Op) (b := 42) (by kernel_rfl) (by kernel_rfl)) ?_
                                    refine S_pure trivial (O_mv (d := .u (.bool ((decide (y1.Op = 42))))) (by kernel_rfl)) ?_
                                    refine Rs_nil ?_
                                    refine N_s ?_
                                    exact R_weak (W_to (by kernel_rfl) (by kernel_rfl) (by kernel_rfl)) (K26 _ (Option.some.inj h))
                    replace h := hE
                    refine R_seq ?_
                    refine R_seq ?_
                    refine R_reg ?_
                    refine S_pure trivial (O_eql (k := .i64) (a := y1.Op) (b := 11) (by kernel_rfl) (by kernel_rfl)) ?_
                    refine S_pure trivial (O_mv (d := .u (.bool ((decide (y1.Op = 11))))) (by kernel_rfl)) ?_
                    refine Rs_nil ?_
                    refine N_s ?_
                    refine R_cond (c := (decide (y1.Op = 11))) (by kernel_rfl) h (fun h => ?_) (fun h => ?_)
                    · refine R_skip ?_
                      refine N_s ?_
                      exact R_weak (W_to (by kernel_rfl) (by kernel_rfl) (by kernel_rfl)) (K19 _ (Option.some.inj h))
                    · refine R_reg ?_
                      refine S_pure trivial (O_eql (k := .i64) (a := y1.Op) (b := 17) (by kernel_rfl) (by kernel_rfl)) ?_
                      refine S_pure trivial (O_mv (d := .u (.bool ((decide (y1.Op = 17))))) (by kernel_rfl)) ?_
                      refine Rs_nil ?_
                      refine N_s ?_
                      exact R_weak (W_to (by kernel_rfl) (by kernel_rfl) (by kernel_rfl)) (K19 _ (Option.some.inj h))
            replace h := hE
            refine R_seq ?_
            refine R_seq ?_
            refine R_reg ?_
            refine S_pure trivial (O_eql (k := .i64) (a := y1.Op) (b := 2) (by kernel_rfl) (by kernel_rfl)) ?_
            refine S_pure trivial (O_mv (d := .u (.bool ((decide (y1.Op = 2))))) (by kernel_rfl)) ?_
            refine Rs_nil ?_
            refine N_s ?_
            refine R_cond (c := (decide (y1.Op = 2))) (by kernel_rfl) h (fun h => ?_) (fun h => ?_)
            · refine R_skip ?_
              refine N_s ?_
              exact R_weak (W_to (by kernel_rfl) (by kernel_rfl) (by kernel_rfl)) (K15 _ (Option.some.inj h))
            · refine R_seq ?_
              refine R_reg ?_
              refine S_pure trivial (O_eql (k := .i64) (a := y1.Op) (b := 3) (by kernel_rfl) (by kernel_rfl)) ?_
              refine S_pure trivial (O_mv (d := .u (.bool ((decide (y1.Op = 3))))) (by kernel_rfl)) ?_
              refine Rs_nil ?_
              refine N_s ?_
              refine R_cond (c := (decide (y1.Op = 3))) (by kernel_rfl) h (fun h => ?_) (fun h => ?_)
              · refine R_skip ?_
                refine N_s ?_
                exact R_weak (W_to (by kernel_rfl) (by kernel_rfl) (by kernel_rfl)) (K15 _ (Option.some.inj h))
              · refine R_reg ?_
                refine S_pure trivial (O_eql (k := .i64) (a := y1.Op) (b := 10) (by kernel_rfl) (by kernel_rfl)) ?_
                refine S_pure trivial (O_mv (d := .u (.bool ((decide (y1.Op = 10))))) (by kernel_rfl)) ?_
                refine Rs_nil ?_
                refine N_s ?_
                exact R_weak (W_to (by kernel_rfl) (by kernel_rfl) (by kernel_rfl)) (K15 _ (Option.some.inj h))
        replace h := hE
        refine R_seq ?_
        refine R_seq ?_
        refine R_reg ?_
        refine S_pure trivial (O_eql (k := .i64) (a := y1.Op) (b := 13) (by kernel_rfl) (by kernel_rfl)) ?_
        refine S_pure trivial (O_mv (d := .u (.bool ((decide (y1.Op = 13))))) (by kernel_rfl)) ?_
        refine Rs_nil ?_
        refine N_s ?_
        refine R_cond (c := (decide (y1.Op = 13))) (by kernel_rfl) h (fun h => ?_) (fun h => ?_)
        · refine R_skip ?_
          refine N_s ?_
          exact R_weak (W_to (by kernel_rfl) (by kernel_rfl) (by kernel_rfl)) (K11 _ (Option.some.inj h))
        · refine R_seq ?_
          refine R_reg ?_
          refine S_pure trivial (O_eql (k := .i64) (a := y1.Op) (b := 14) (by kernel_rfl) (by kernel_rfl)) ?_
          refine S_pure trivial (O_mv (d := .u (.bool ((decide (y1.Op = 14))))) (by kernel_rfl)) ?_
          refine Rs_nil ?_
          refine N_s ?_
          refine R_cond (c := (decide (y1.Op = 14))) (by kernel_rfl) h (fun h => ?_) (fun h => ?_)
          · refine R_skip ?_
            refine N_s ?_
            exact R_weak (W_to (by kernel_rfl) (by kernel_rfl) (by kernel_rfl)) (K11 _ (Option.some.inj h))
          · refine R_reg ?_
            refine S_pure trivial (O_eql (k := .i64) (a := y1.Op) (b := 16) (by kernel_rfl) (by kernel_rfl)) ?_
            refine S_pure trivial (O_mv (d := .u (.bool ((decide (y1.Op = 16))))) (by kernel_rfl)) ?_
            refine Rs_nil ?_
            refine N_s ?_
            exact R_weak (W_to (by kernel_rfl) (by kernel_rfl) (by kernel_rfl)) (K11 _ (Option.some.inj h))
    replace h := hE
    refine R_seq ?_
    refine R_seq ?_
    refine R_reg ?_
    refine S_pure trivial (O_eql (k := .i64) (a := y1.Op) (b := 1) (by kernel_rfl) (by kernel_rfl)) ?_
    refine S_pure trivial (O_mv (d := .u (.bool ((decide (y1.Op = 1))))) (by kernel_rfl)) ?_
    refine Rs_nil ?_
    refine N_s ?_
    refine R_cond (c := (decide (y1.Op = 1))) (by kernel_rfl) h (fun h => ?_) (fun h => ?_)
    · refine R_skip ?_
      refine N_s ?_
      exact R_weak (W_to (by kernel_rfl) (by kernel_rfl) (by kernel_rfl)) (K8 _ (Option.some.inj h))
    · refine R_seq ?_
      refine R_reg ?_
      refine S_pure trivial (O_eql (k := .i64) (a := y1.Op) (b := 6) (by kernel_rfl) (by kernel_rfl)) ?_
      refine S_pure trivial (O_mv (d := .u (.bool ((decide (y1.Op = 6))))) (by kernel_rfl)) ?_
      refine Rs_nil ?_
      refine N_s ?_
      refine R_cond (c := (decide (y1.Op = 6))) (by kernel_rfl) h (fun h => ?_) (fun h => ?_)
      · refine R_skip ?_
        refine N_s ?_
        exact R_weak (W_to (by kernel_rfl) (by kernel_rfl) (by kernel_rfl)) (K8 _ (Option.some.inj h))
      · refine R_seq ?_
        refine R_reg ?_
        refine S_pure trivial (O_eql (k := .i64) (a := y1.Op) (b := 7) (by kernel_rfl) (by kernel_rfl)) ?_
        refine S_pure trivial (O_mv (d := .u (.bool ((decide (y1.Op = 7))))) (by kernel_rfl)) ?_
        refine Rs_nil ?_
        refine N_s ?_
        refine R_cond (c := (decide (y1.Op = 7))) (by kernel_rfl) h (fun h => ?_) (fun h => ?_)
        · refine R_skip ?_
          refine N_s ?_
          exact R_weak (W_to (by kernel_rfl) (by kernel_rfl) (by kernel_rfl)) (K8 _ (Option.some.inj h))
        · refine R_seq ?_
          refine R_reg ?_
          refine S_pure trivial (O_eql (k := .i64) (a := y1.Op) (b := 8) (by kernel_rfl) (by kernel_rfl)) ?_
          refine S_pure trivial (O_mv (d := .u (.bool ((decide (y1.Op = 8))))) (by kernel_rfl)) ?_
          refine Rs_nil ?_
          refine N_s ?_
          refine R_cond (c := (decide (y1.Op = 8))) (by kernel_rfl) h (fun h => ?_) (fun h => ?_)
          · refine R_skip ?_
            refine N_s ?_
            exact R_weak (W_to (by kernel_rfl) (by kernel_rfl) (by kernel_rfl)) (K8 _ (Option.some.inj h))
          · refine R_reg ?_
            refine S_pure trivial (O_eql (k := .i64) (a := y1.Op) (b := 9) (by kernel_rfl) (by kernel_rfl)) ?_
            refine S_pure trivial (O_mv (d := .u (.bool ((decide (y1.Op = 9))))) (by kernel_rfl)) ?_
            refine Rs_nil ?_
            refine N_s ?_
            exact R_weak (W_to (by kernel_rfl) (by kernel_rfl) (by kernel_rfl)) (K8 _ (Option.some.inj h))
  refine S_case0 (t := 26) (c := a_1) (by kernel_rfl) (fun hc => ?_) (fun hc => ?_)
  · refine S_skip (b := true) (by kernel_rfl) rfl ?_
    refine S_skip (b := true) (by kernel_rfl) rfl ?_
    refine S_skip (b := true) (by kernel_rfl) rfl ?_
    refine S_skip (b := true) (by kernel_rfl) rfl ?_
    refine S_skipu (by kernel_rfl) ?_
    refine S_skipu (by kernel_rfl) ?_
    refine S_skipu (by kernel_rfl) ?_
    refine S_skip (b := true) (by kernel_rfl) rfl ?_
    refine S_pure trivial (O_pkt (d := .u (.bool true)) (by kernel_rfl) (by kernel_rfl)) ?_
    exact Rs_weak (W_to (by kernel_rfl) (by kernel_rfl) (by kernel_rfl)) (K2 _ (by rw [hc] <;> rfl))
  · refine S_pure (by show _ = _; kernel_rfl) (O_far (b := 1) (s := 2) (i := 0) (o := 0) (by kernel_rfl)) ?_
    refine S_pure (by show _ = _; kernel_rfl) (O_ldo (b := 1) (s := 2) (off := 0) (ds := [.u (.int .i64 y1.Op), .u (.int .i64 y1.Arg)]) (d := .u (.int .i64 y1.Op)) (by kernel_rfl) (by kernel_rfl) rfl (by kernel_rfl)) ?_
    refine S_pure (by show _ = _; kernel_rfl) (O_geq (k := .i64) (a := y1.Op) (b := 20) (by kernel_rfl) (by kernel_rfl)) ?_
    refine S_pure (by show _ = _; kernel_rfl) (O_mv (d := .u (.bool ((decide (20 ≤ y1.Op))))) (by kernel_rfl)) ?_
    have K56 : ∀ v57 : Bool, v57 = ((decide (20 ≤ y1.Op)) && (decide (y1.Op ≤ 29))) → Rs Try.prog 159 (retQR [4] (.int .i64 r.1) 3 (TypesChecker.cells r.2) c_ k_) [.s q_types_checker_read_129] [⟨some 35, none, .pk (.t 26) (.c (.bool true)) (.t 34)⟩, ⟨some 6, none, .mv (.t 35)⟩] (mkSt [(0, .pref 0 3 0 0 c_ k_), (1, .u (.bool a_1)), (5, .ref 1 2 0 0), (26, .u (.bool false)), (34, .u (.bool v57))] [(0, .drow 3 [[.u (.sl (List.map ApiTerm.cells a_0.e)), .u (.sl (List.map (cInt .i64) a_0.kinds)), .u (.int .i64 ((IntKind.i64.wrap (a_0.at_ + 1))))]]), (1, .drow 2 [[.u (.int .i64 y1.Op), .u (.int .i64 y1.Arg)]])] 2) := by
      intro v57 e; subst e
      refine S_pure trivial (O_pkf (d := .u (.bool (((decide (20 ≤ y1.Op)) && (decide (y1.Op ≤ 29)))))) (by kernel_rfl) (by kernel_rfl)) ?_
      exact Rs_weak (W_to (by kernel_rfl) (by kernel_rfl) (by kernel_rfl)) (K2 _ (by rw [hc] <;> rfl))
    refine S_case0 (t := 30) (c := (decide (20 ≤ y1.Op))) (by kernel_rfl) (fun hc => ?_) (fun hc => ?_)
    · refine S_pure (by show _ = _; kernel_rfl) (O_far (b := 1) (s := 2) (i := 0) (o := 0) (by kernel_rfl)) ?_
      refine S_pure (by show _ = _; kernel_rfl) (O_ldo (b := 1) (s := 2) (off := 0) (ds := [.u (.int .i64 y1.Op), .u (.int .i64 y1.Arg)]) (d := .u (.int .i64 y1.Op)) (by kernel_rfl) (by kernel_rfl) rfl (by kernel_rfl)) ?_
      refine S_pure (by show _ = _; kernel_rfl) (O_leq (k := .i64) (a := y1.Op) (b := 29) (by kernel_rfl) (by kernel_rfl)) ?_
      refine S_pure (by show _ = _; kernel_rfl) (O_pkt (d := .u (.bool ((decide (y1.Op ≤ 29))))) (by kernel_rfl) (by kernel_rfl)) ?_
      exact Rs_weak (W_to (by kernel_rfl) (by kernel_rfl) (by kernel_rfl)) (K56 _ (by rw [hc] <;> rfl))
    · refine S_skip (b := false) (by kernel_rfl) rfl ?_
      refine S_skip (b := false) (by kernel_rfl) rfl ?_
      refine S_skip (b := false) (by kernel_rfl) rfl ?_
      refine S_pure (by show _ = _; kernel_rfl) (O_pkf (d := .u (.bool false)) (by kernel_rfl) (by kernel_rfl)) ?_
      exact Rs_weak (W_to (by kernel_rfl) (by kernel_rfl) (by kernel_rfl)) (K56 _ (by rw [hc] <;> rfl))

noncomputable def types_checker_operands_types_checker_read.rec : Nat → (TypesChecker → Int → Bool → Option ((List Int) × TypesChecker)) × (TypesChecker → Bool → Option (Int × TypesChecker))
  | 0 => (fun _ _ _ => none, fun _ _ => none)
  | k + 1 => (types_checker_operands.body (types_checker_operands_types_checker_read.rec k).1 (types_checker_operands_types_checker_read.rec k).2, types_checker_read.body (types_checker_operands_types_checker_read.rec k).1 (types_checker_operands_types_checker_read.rec k).2)
theorem types_checker_operands_types_checker_read.rec_ok : ∀ k : Nat, (∀ x0 x1 x2 r, (types_checker_operands_types_checker_read.rec k).1 x0 x1 x2 = some r → PCr Try.prog 101 3 (TypesChecker.cells x0) [.int .i64 x1, .bool x2] (.sl (List.map (cInt .i64) r.1)) (TypesChecker.cells r.2)) ∧ (∀ x0 x1 r, (types_checker_operands_types_checker_read.rec k).2 x0 x1 = some r → PCr Try.prog 83 3 (TypesChecker.cells x0) [.bool x1] (.int .i64 r.1) (TypesChecker.cells r.2))
  | 0 => ⟨(fun _ _ _ _ h => by simp [types_checker_operands_types_checker_read.rec] at h), (fun _ _ _ h => by simp [types_checker_operands_types_checker_read.rec] at h)⟩
  | k + 1 => ⟨(fun _ _ _ _ h => types_checker_operands.body_ok (types_checker_operands_types_checker_read.rec_ok k).1 (types_checker_operands_types_checker_read.rec_ok k).2 h), (fun _ _ _ h => types_checker_read.body_ok (types_checker_operands_types_checker_read.rec_ok k).1 (types_checker_operands_types_checker_read.rec_ok k).2 h)⟩
noncomputable def types_checker_operands (x0 : TypesChecker) (x1 : Int) (x2 : Bool) : Option ((List Int) × TypesChecker) := supO fun k => (types_checker_operands_types_checker_read.rec k).1 x0 x1 x2
theorem types_checker_operands.ok {x0 : TypesChecker} {x1 : Int} {x2 : Bool} {r : (List Int) × TypesChecker} (h : types_checker_operands x0 x1 x2 = some r) : PCr Try.prog 101 3 (TypesChecker.cells x0) [.int .i64 x1, .bool x2] (.sl (List.map (cInt .i64) r.1)) (TypesChecker.cells r.2) := by
  obtain ⟨k, hk⟩ := supO_some h
  exact (types_checker_operands_types_checker_read.rec_ok k).1 _ _ _ r hk
noncomputable def types_checker_read (x0 : TypesChecker) (x1 : Bool) : Option (Int × TypesChecker) := supO fun k => (types_checker_operands_types_checker_read.rec k).2 x0 x1
theorem types_checker_read.ok {x0 : TypesChecker} {x1 : Bool} {r : Int × TypesChecker} (h : types_checker_read x0 x1 = some r) : PCr Try.prog 83 3 (TypesChecker.cells x0) [.bool x1] (.int .i64 r.1) (TypesChecker.cells r.2) := by
  obtain ⟨k, hk⟩ := supO_some h
  exact (types_checker_operands_types_checker_read.rec_ok k).2 _ _ r hk

/-! ### selfstab/types.of -/
def q_types_of_1 : AC := .reg [⟨some 11, none, .mv (.t 2)⟩, ⟨some 12, none, .ca 83 [.t 7, .t 11]⟩, ⟨some 6, none, .mv (.t 12)⟩]
def q_types_of_2 : AC := .seq q_types_of_1 .ret
def q_types_of_3 : AC := .reg [⟨some 8, none, .mv (.t 0)⟩, ⟨some 9, none, .mv (.t 1)⟩, ⟨some 10, none, .bd [.nil, .nil, .int .i64 0] [(0, 1, .t 8), (1, 1, .t 9)]⟩, ⟨some 7, none, .al [.nil, .nil, .int .i64 0]⟩, ⟨none, none, .st 3 (.t 7) (.t 10)⟩]
def q_types_of_4 : AC := .seq q_types_of_3 q_types_of_2
def q_types_of_5 : AC := .reg [⟨some 6, none, .mv (.c (.int .i64 0))⟩]
def q_types_of_6 : AC := .seq q_types_of_5 q_types_of_4
def c_types_of : FC := ⟨13, [6], q_types_of_6⟩
theorem k_types_of : okF Try.prog 50 c_types_of = true := by decide +kernel
noncomputable def types_of (e_0 : List ApiTerm) (kinds_1 : List Int) (bound_2 : Bool) : Option Int := ((types_checker_read ((TypesChecker.mk e_0 kinds_1 0)) bound_2).bind (fun (y1 : Int × TypesChecker) => (some y1.1)))
theorem types_of.ok {e_0 : List ApiTerm} {kinds_1 : List Int} {bound_2 : Bool} {r : Int} (h : types_of e_0 kinds_1 bound_2 = some r) : PC Try.prog 50 [.sl (List.map ApiTerm.cells e_0), .sl (List.map (cInt .i64) kinds_1), .bool bound_2] (.int .i64 r) := by
  refine PC_run k_types_of rfl (L := [(0, .u (.sl (List.map ApiTerm.cells e_0))), (1, .u (.sl (List.map (cInt .i64) kinds_1))), (2, .u (.bool bound_2))]) rfl ?_
  show Run Try.prog 13 (retQ [6] (.int .i64 r)) [] q_types_of_6 _
  refine R_seq ?_
  refine R_reg ?_
  refine S_pure trivial (O_mv (d := .u (.int .i64 0)) (by kernel_rfl)) ?_
  refine Rs_nil ?_
  refine N_s ?_
  refine R_seq ?_
  refine R_reg ?_
  refine S_pure trivial (O_mv (d := .u (.sl (List.map ApiTerm.cells e_0))) (by kernel_rfl)) ?_
  refine S_pure trivial (O_mv (d := .u (.sl (List.map (cInt .i64) kinds_1))) (by kernel_rfl)) ?_
  refine S_pure trivial (O_bd (ds := [.u (.sl (List.map ApiTerm.cells e_0)), .u (.sl (List.map (cInt .i64) kinds_1)), .u (.int .i64 0)]) (d := .u (.agg (TypesChecker.cells ((TypesChecker.mk e_0 kinds_1 0))))) (by kernel_rfl) (by kernel_rfl)) ?_
  refine S_up trivial (O_al (zs := [.nil, .nil, .int .i64 0])) ?_
  show Rs _ _ _ _ _ (mkSt [(7, .ref 0 3 0 0), (10, .u (.agg (TypesChecker.cells ((TypesChecker.mk e_0 kinds_1 0))))), (9, .u (.sl (List.map (cInt .i64) kinds_1))), (8, .u (.sl (List.map ApiTerm.cells e_0))), (6, .u (.int .i64 0)), (0, .u (.sl (List.map ApiTerm.cells e_0))), (1, .u (.sl (List.map (cInt .i64) kinds_1))), (2, .u (.bool bound_2))] [(0, .drow 3 [[.u (.nil), .u (.nil), .u (.int .i64 0)]])] 1)
  refine S_set trivial (O_st (b := 0) (s := 3) (off := 0) (d := .u (.agg (TypesChecker.cells ((TypesChecker.mk e_0 kinds_1 0))))) (xs := [.u (.sl (List.map ApiTerm.cells e_0)), .u (.sl (List.map (cInt .i64) kinds_1)), .u (.int .i64 0)]) (ds := [.u (.nil), .u (.nil), .u (.int .i64 0)]) (ob := .drow 3 [[.u (.sl (List.map ApiTerm.cells e_0)), .u (.sl (List.map (cInt .i64) kinds_1)), .u (.int .i64 0)]]) (by kernel_rfl) (by kernel_rfl) (by kernel_rfl) (by kernel_rfl) (by kernel_rfl) (by kernel_rfl)) ?_
  refine Rs_nil ?_
  refine N_s ?_
  refine R_seq ?_
  refine R_reg ?_
  refine S_pure trivial (O_mv (d := .u (.bool bound_2)) (by kernel_rfl)) ?_
  obtain ⟨y1, hy1, h⟩ := bindS h
  refine S_callr (b := 0) (s := 3) (d0 := .ref 0 3 0 0) (ds := [.u (.sl (List.map ApiTerm.cells e_0)), .u (.sl (List.map (cInt .i64) kinds_1)), .u (.int .i64 0)]) (ds' := [.u (.sl (List.map ApiTerm.cells y1.2.e)), .u (.sl (List.map (cInt .i64) y1.2.kinds)), .u (.int .i64 y1.2.at_)]) (cells := TypesChecker.cells ((TypesChecker.mk e_0 kinds_1 0))) (cells' := TypesChecker.cells y1.2) (us := [.bool bound_2]) (r := .int .i64 y1.1) trivial (by kernel_rfl) .ref (by kernel_rfl) (by kernel_rfl) (by kernel_rfl) (types_checker_read.ok hy1) (by kernel_rfl) ?_
  refine S_pure trivial (O_mv (d := .u (.int .i64 y1.1)) (by kernel_rfl)) ?_
  refine Rs_nil ?_
  refine N_s ?_
  obtain rfl := (Option.some.inj h)
  refine R_ret ?_
  exact Q_ret (x := .int .i64 y1.1) (by kernel_rfl) (.refl _)

end Go.Proofs.Ytkpghgnbbfpbmaa
