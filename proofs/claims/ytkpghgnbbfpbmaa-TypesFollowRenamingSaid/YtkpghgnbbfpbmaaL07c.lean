/- Functions of the program over typed data, and that the program's functions come to their results: written by a program (lift.py). -/
import Derived.Test.YtkpghgnbbfpbmaaL07b
import Derived.Test.YtkpghgnbbfpbmaaChecked
set_option linter.unusedVariables false
set_option maxRecDepth 100000
set_option maxHeartbeats 1000000
namespace Go.Proofs.Ytkpghgnbbfpbmaa

/-! ### selfstab/selfstabref07.known -/
def q_ref07_known_1 : AC := .reg [⟨some 3, none, .mv (.t 0)⟩, ⟨some 4, none, .bi .eql (.t 3) (.c (.int .i64 1))⟩, ⟨some 5, none, .mv (.t 4)⟩, ⟨some 6, some (5, false), .mv (.t 0)⟩, ⟨some 7, some (5, false), .bi .eql (.t 6) (.c (.int .i64 2))⟩, ⟨some 8, none, .pk (.t 5) (.c (.bool true)) (.t 7)⟩, ⟨some 9, none, .mv (.t 8)⟩, ⟨some 10, some (9, false), .mv (.t 0)⟩, ⟨some 11, some (9, false), .bi .eql (.t 10) (.c (.int .i64 3))⟩, ⟨some 12, none, .pk (.t 9) (.c (.bool true)) (.t 11)⟩, ⟨some 2, none, .mv (.t 12)⟩]
def q_ref07_known_2 : AC := .seq q_ref07_known_1 .ret
def q_ref07_known_3 : AC := .reg [⟨some 2, none, .mv (.c (.bool false))⟩]
def q_ref07_known_4 : AC := .seq q_ref07_known_3 q_ref07_known_2
def c_ref07_known : FC := ⟨13, [2], q_ref07_known_4⟩
theorem k_ref07_known : okF Try.prog 51 c_ref07_known = true := by decide +kernel
noncomputable def ref07_known (kind_0 : Int) : Option Bool := (some (((decide (kind_0 = 1)) || (decide (kind_0 = 2))) || (decide (kind_0 = 3))))
theorem ref07_known.ok {kind_0 : Int} {r : Bool} (h : ref07_known kind_0 = some r) : PC Try.prog 51 [.int .i64 kind_0] (.bool r) := by
  refine PC_run k_ref07_known rfl (L := [(0, .u (.int .i64 kind_0))]) rfl ?_
  show Run Try.prog 13 (retQ [2] (.bool r)) [] q_ref07_known_4 _
  refine R_seq ?_
  refine R_reg ?_
  refine S_pure trivial (O_mv (d := .u (.bool false)) (by kernel_rfl)) ?_
  refine Rs_nil ?_
  refine N_s ?_
  refine R_seq ?_
  refine R_reg ?_
  refine S_pure trivial (O_mv (d := .u (.int .i64 kind_0)) (by kernel_rfl)) ?_
  refine S_pure trivial (O_eql (k := .i64) (a := kind_0) (b := 1) (by kernel_rfl) (by kernel_rfl)) ?_
  refine S_pure trivial (O_mv (d := .u (.bool ((decide (kind_0 = 1))))) (by kernel_rfl)) ?_
  have K1 : ∀ v2 : Bool, v2 = ((decide (kind_0 = 1)) || (decide (kind_0 = 2))) → Rs Try.prog 13 (retQ [2] (.bool r)) [.s .ret] [⟨some 9, none, .mv (.t 8)⟩, ⟨some 10, some (9, false), .mv (.t 0)⟩, ⟨some 11, some (9, false), .bi .eql (.t 10) (.c (.int .i64 3))⟩, ⟨some 12, none, .pk (.t 9) (.c (.bool true)) (.t 11)⟩, ⟨some 2, none, .mv (.t 12)⟩] (mkSt [(0, .u (.int .i64 kind_0)), (8, .u (.bool v2))] [] 0) := by
    intro v2 e; subst e
    refine S_pure trivial (O_mv (d := .u (.bool (((decide (kind_0 = 1)) || (decide (kind_0 = 2)))))) (by kernel_rfl)) ?_
    have K3 : ∀ v4 : Bool, v4 = (((decide (kind_0 = 1)) || (decide (kind_0 = 2))) || (decide (kind_0 = 3))) → Rs Try.prog 13 (retQ [2] (.bool r)) [.s .ret] [⟨some 2, none, .mv (.t 12)⟩] (mkSt [(12, .u (.bool v4))] [] 0) := by
      intro v4 e; subst e
      refine S_pure trivial (O_mv (d := .u (.bool ((((decide (kind_0 = 1)) || (decide (kind_0 = 2))) || (decide (kind_0 = 3)))))) (by kernel_rfl)) ?_
      refine Rs_nil ?_
      refine N_s ?_
      obtain rfl := (Option.some.inj h)
      refine R_ret ?_
      exact Q_ret (x := .bool ((((decide (kind_0 = 1)) || (decide (kind_0 = 2))) || (decide (kind_0 = 3))))) (by kernel_rfl) (.refl _)
    refine S_case0 (t := 9) (c := ((decide (kind_0 = 1)) || (decide (kind_0 = 2)))) (by kernel_rfl) (fun hc => ?_) (fun hc => ?_)
    · refine S_skip (b := true) (by kernel_rfl) rfl ?_
      refine S_skip (b := true) (by kernel_rfl) rfl ?_
      refine S_pure trivial (O_pkt (d := .u (.bool true)) (by kernel_rfl) (by kernel_rfl)) ?_
      exact Rs_weak (W_to (by kernel_rfl) (by kernel_rfl) (by kernel_rfl)) (K3 _ (by rw [hc] <;> rfl))
    · refine S_pure (by show _ = _; kernel_rfl) (O_mv (d := .u (.int .i64 kind_0)) (by kernel_rfl)) ?_
      refine S_pure (by show _ = _; kernel_rfl) (O_eql (k := .i64) (a := kind_0) (b := 3) (by kernel_rfl) (by kernel_rfl)) ?_
      refine S_pure trivial (O_pkf (d := .u (.bool ((decide (kind_0 = 3))))) (by kernel_rfl) (by kernel_rfl)) ?_
      exact Rs_weak (W_to (by kernel_rfl) (by kernel_rfl) (by kernel_rfl)) (K3 _ (by rw [hc] <;> rfl))
  refine S_case0 (t := 5) (c := (decide (kind_0 = 1))) (by kernel_rfl) (fun hc => ?_) (fun hc => ?_)
  · refine S_skip (b := true) (by kernel_rfl) rfl ?_
    refine S_skip (b := true) (by kernel_rfl) rfl ?_
    refine S_pure trivial (O_pkt (d := .u (.bool true)) (by kernel_rfl) (by kernel_rfl)) ?_
    exact Rs_weak (W_to (by kernel_rfl) (by kernel_rfl) (by kernel_rfl)) (K1 _ (by rw [hc] <;> rfl))
  · refine S_pure (by show _ = _; kernel_rfl) (O_mv (d := .u (.int .i64 kind_0)) (by kernel_rfl)) ?_
    refine S_pure (by show _ = _; kernel_rfl) (O_eql (k := .i64) (a := kind_0) (b := 2) (by kernel_rfl) (by kernel_rfl)) ?_
    refine S_pure trivial (O_pkf (d := .u (.bool ((decide (kind_0 = 2))))) (by kernel_rfl) (by kernel_rfl)) ?_
    exact Rs_weak (W_to (by kernel_rfl) (by kernel_rfl) (by kernel_rfl)) (K1 _ (by rw [hc] <;> rfl))

/-! ### selfstab/selfstabref05.Arity -/
def q_ref05_Arity_1 : AC := .reg [⟨some 2, none, .mv (.c (.int .i64 2))⟩]
def q_ref05_Arity_2 : AC := .seq q_ref05_Arity_1 .ret
def q_ref05_Arity_3 : AC := .reg [⟨some 2, none, .mv (.c (.int .i64 3))⟩]
def q_ref05_Arity_4 : AC := .seq q_ref05_Arity_3 .ret
def q_ref05_Arity_5 : AC := .cond (.t 24) q_ref05_Arity_4 .skip
def q_ref05_Arity_6 : AC := .reg [⟨some 25, none, .mv (.t 0)⟩, ⟨some 26, none, .bi .eql (.t 25) (.c (.int .i64 43))⟩, ⟨some 24, none, .mv (.t 26)⟩]
def q_ref05_Arity_7 : AC := .seq q_ref05_Arity_6 q_ref05_Arity_5
def q_ref05_Arity_8 : AC := .cond (.t 17) q_ref05_Arity_2 q_ref05_Arity_7
def q_ref05_Arity_9 : AC := .reg [⟨some 2, none, .mv (.c (.int .i64 (-1)))⟩]
def q_ref05_Arity_10 : AC := .seq q_ref05_Arity_9 .ret
def q_ref05_Arity_11 : AC := .reg [⟨some 2, none, .mv (.c (.int .i64 1))⟩]
def q_ref05_Arity_12 : AC := .seq q_ref05_Arity_11 .ret
def q_ref05_Arity_13 : AC := .reg [⟨some 18, none, .mv (.t 0)⟩, ⟨some 19, none, .bi .geq (.t 18) (.c (.int .i64 30))⟩, ⟨some 20, none, .mv (.t 19)⟩, ⟨some 21, some (20, true), .mv (.t 0)⟩, ⟨some 22, some (20, true), .bi .leq (.t 21) (.c (.int .i64 42))⟩, ⟨some 23, none, .pk (.t 20) (.t 22) (.c (.bool false))⟩, ⟨some 17, none, .mv (.t 23)⟩]
def q_ref05_Arity_14 : AC := .seq q_ref05_Arity_13 q_ref05_Arity_8
def q_ref05_Arity_15 : AC := .cond (.t 10) q_ref05_Arity_12 q_ref05_Arity_14
def q_ref05_Arity_16 : AC := .reg [⟨some 2, none, .mv (.c (.int .i64 0))⟩]
def q_ref05_Arity_17 : AC := .seq q_ref05_Arity_16 .ret
def q_ref05_Arity_18 : AC := .reg [⟨some 11, none, .mv (.t 0)⟩, ⟨some 12, none, .bi .geq (.t 11) (.c (.int .i64 18))⟩, ⟨some 13, none, .mv (.t 12)⟩, ⟨some 14, some (13, true), .mv (.t 0)⟩, ⟨some 15, some (13, true), .bi .leq (.t 14) (.c (.int .i64 29))⟩, ⟨some 16, none, .pk (.t 13) (.t 15) (.c (.bool false))⟩, ⟨some 10, none, .mv (.t 16)⟩]
def q_ref05_Arity_19 : AC := .seq q_ref05_Arity_18 q_ref05_Arity_15
def q_ref05_Arity_20 : AC := .cond (.t 3) q_ref05_Arity_17 q_ref05_Arity_19
def q_ref05_Arity_21 : AC := .reg [⟨some 4, none, .mv (.t 0)⟩, ⟨some 5, none, .bi .geq (.t 4) (.c (.int .i64 1))⟩, ⟨some 6, none, .mv (.t 5)⟩, ⟨some 7, some (6, true), .mv (.t 0)⟩, ⟨some 8, some (6, true), .bi .leq (.t 7) (.c (.int .i64 17))⟩, ⟨some 9, none, .pk (.t 6) (.t 8) (.c (.bool false))⟩, ⟨some 3, none, .mv (.t 9)⟩]
def q_ref05_Arity_22 : AC := .seq q_ref05_Arity_21 q_ref05_Arity_20
def q_ref05_Arity_23 : AC := .block 0 q_ref05_Arity_22
def q_ref05_Arity_24 : AC := .seq q_ref05_Arity_23 q_ref05_Arity_10
def q_ref05_Arity_25 : AC := .reg [⟨some 2, none, .mv (.c (.int .i64 0))⟩]
def q_ref05_Arity_26 : AC := .seq q_ref05_Arity_25 q_ref05_Arity_24
def c_ref05_Arity : FC := ⟨27, [2], q_ref05_Arity_26⟩
theorem k_ref05_Arity : okF Try.prog 29 c_ref05_Arity = true := by decide +kernel
noncomputable def ref05_Arity (op_0 : Int) : Option Int := (bif ((decide (1 ≤ op_0)) && (decide (op_0 ≤ 17))) then (some 0) else (bif ((decide (18 ≤ op_0)) && (decide (op_0 ≤ 29))) then (some 1) else (bif ((decide (30 ≤ op_0)) && (decide (op_0 ≤ 42))) then (some 2) else (bif (decide (op_0 = 43)) then (some 3) else (some (-1))))))
theorem ref05_Arity.ok {op_0 : Int} {r : Int} (h : ref05_Arity op_0 = some r) : PC Try.prog 29 [.int .i64 op_0] (.int .i64 r) := by
  refine PC_run k_ref05_Arity rfl (L := [(0, .u (.int .i64 op_0))]) rfl ?_
  show Run Try.prog 27 (retQ [2] (.int .i64 r)) [] q_ref05_Arity_26 _
  refine R_seq ?_
  refine R_reg ?_
  refine S_pure trivial (O_mv (d := .u (.int .i64 0)) (by kernel_rfl)) ?_
  refine Rs_nil ?_
  refine N_s ?_
  refine R_seq ?_
  refine R_block ?_
  refine R_seq ?_
  refine R_reg ?_
  refine S_pure trivial (O_mv (d := .u (.int .i64 op_0)) (by kernel_rfl)) ?_
  refine S_pure trivial (O_geq (k := .i64) (a := op_0) (b := 1) (by kernel_rfl) (by kernel_rfl)) ?_
  refine S_pure trivial (O_mv (d := .u (.bool ((decide (1 ≤ op_0))))) (by kernel_rfl)) ?_
  have K1 : ∀ v2 : Bool, v2 = ((decide (1 ≤ op_0)) && (decide (op_0 ≤ 17))) → Rs Try.prog 27 (retQ [2] (.int .i64 r)) [.s q_ref05_Arity_20, .b 0, .s q_ref05_Arity_10] [⟨some 3, none, .mv (.t 9)⟩] (mkSt [(0, .u (.int .i64 op_0)), (9, .u (.bool v2))] [] 0) := by
    intro v2 e; subst e
    refine S_pure trivial (O_mv (d := .u (.bool (((decide (1 ≤ op_0)) && (decide (op_0 ≤ 17)))))) (by kernel_rfl)) ?_
    refine Rs_nil ?_
    refine N_s ?_
    refine R_cond (c := ((decide (1 ≤ op_0)) && (decide (op_0 ≤ 17)))) (by kernel_rfl) h (fun h => ?_) (fun h => ?_)
    · refine R_seq ?_
      refine R_reg ?_
      refine S_pure trivial (O_mv (d := .u (.int .i64 0)) (by kernel_rfl)) ?_
      refine Rs_nil ?_
      refine N_s ?_
      obtain rfl := (Option.some.inj h)
      refine R_ret ?_
      exact Q_ret (x := .int .i64 0) (by kernel_rfl) (.refl _)
    · refine R_seq ?_
      refine R_reg ?_
      refine S_pure trivial (O_mv (d := .u (.int .i64 op_0)) (by kernel_rfl)) ?_
      refine S_pure trivial (O_geq (k := .i64) (a := op_0) (b := 18) (by kernel_rfl) (by kernel_rfl)) ?_
      refine S_pure trivial (O_mv (d := .u (.bool ((decide (18 ≤ op_0))))) (by kernel_rfl)) ?_
      have K3 : ∀ v4 : Bool, v4 = ((decide (18 ≤ op_0)) && (decide (op_0 ≤ 29))) → Rs Try.prog 27 (retQ [2] (.int .i64 r)) [.s q_ref05_Arity_15, .b 0, .s q_ref05_Arity_10] [⟨some 10, none, .mv (.t 16)⟩] (mkSt [(0, .u (.int .i64 op_0)), (16, .u (.bool v4))] [] 0) := by
        intro v4 e; subst e
        refine S_pure trivial (O_mv (d := .u (.bool (((decide (18 ≤ op_0)) && (decide (op_0 ≤ 29)))))) (by kernel_rfl)) ?_
        refine Rs_nil ?_
        refine N_s ?_
        refine R_cond (c := ((decide (18 ≤ op_0)) && (decide (op_0 ≤ 29)))) (by kernel_rfl) h (fun h => ?_) (fun h => ?_)
        · refine R_seq ?_
          refine R_reg ?_
          refine S_pure trivial (O_mv (d := .u (.int .i64 1)) (by kernel_rfl)) ?_
          refine Rs_nil ?_
          refine N_s ?_
          obtain rfl := (Option.some.inj h)
          refine R_ret ?_
          exact Q_ret (x := .int .i64 1) (by kernel_rfl) (.refl _)
        · refine R_seq ?_
          refine R_reg ?_
          refine S_pure trivial (O_mv (d := .u (.int .i64 op_0)) (by kernel_rfl)) ?_
          refine S_pure trivial (O_geq (k := .i64) (a := op_0) (b := 30) (by kernel_rfl) (by kernel_rfl)) ?_
          refine S_pure trivial (O_mv (d := .u (.bool ((decide (30 ≤ op_0))))) (by kernel_rfl)) ?_
          have K5 : ∀ v6 : Bool, v6 = ((decide (30 ≤ op_0)) && (decide (op_0 ≤ 42))) → Rs Try.prog 27 (retQ [2] (.int .i64 r)) [.s q_ref05_Arity_8, .b 0, .s q_ref05_Arity_10] [⟨some 17, none, .mv (.t 23)⟩] (mkSt [(0, .u (.int .i64 op_0)), (23, .u (.bool v6))] [] 0) := by
            intro v6 e; subst e
            refine S_pure trivial (O_mv (d := .u (.bool (((decide (30 ≤ op_0)) && (decide (op_0 ≤ 42)))))) (by kernel_rfl)) ?_
            refine Rs_nil ?_
            refine N_s ?_
            refine R_cond (c := ((decide (30 ≤ op_0)) && (decide (op_0 ≤ 42)))) (by kernel_rfl) h (fun h => ?_) (fun h => ?_)
            · refine R_seq ?_
              refine R_reg ?_
              refine S_pure trivial (O_mv (d := .u (.int .i64 2)) (by kernel_rfl)) ?_
              refine Rs_nil ?_
              refine N_s ?_
              obtain rfl := (Option.some.inj h)
              refine R_ret ?_
              exact Q_ret (x := .int .i64 2) (by kernel_rfl) (.refl _)
            · refine R_seq ?_
              refine R_reg ?_
              refine S_pure trivial (O_mv (d := .u (.int .i64 op_0)) (by kernel_rfl)) ?_
              refine S_pure trivial (O_eql (k := .i64) (a := op_0) (b := 43) (by kernel_rfl) (by kernel_rfl)) ?_
              refine S_pure trivial (O_mv (d := .u (.bool ((decide (op_0 = 43))))) (by kernel_rfl)) ?_
              refine Rs_nil ?_
              refine N_s ?_
              refine R_cond (c := (decide (op_0 = 43))) (by kernel_rfl) h (fun h => ?_) (fun h => ?_)
              · refine R_seq ?_
                refine R_reg ?_
                refine S_pure trivial (O_mv (d := .u (.int .i64 3)) (by kernel_rfl)) ?_
                refine Rs_nil ?_
                refine N_s ?_
                obtain rfl := (Option.some.inj h)
                refine R_ret ?_
                exact Q_ret (x := .int .i64 3) (by kernel_rfl) (.refl _)
              · refine R_skip ?_
                refine N_b ?_
                refine N_s ?_
                refine R_seq ?_
                refine R_reg ?_
                refine S_pure trivial (O_mv (d := .u (.int .i64 ((-1)))) (by kernel_rfl)) ?_
                refine Rs_nil ?_
                refine N_s ?_
                obtain rfl := (Option.some.inj h)
                refine R_ret ?_
                exact Q_ret (x := .int .i64 ((-1))) (by kernel_rfl) (.refl _)
          refine S_case0 (t := 20) (c := (decide (30 ≤ op_0))) (by kernel_rfl) (fun hc => ?_) (fun hc => ?_)
          · refine S_pure (by show _ = _; kernel_rfl) (O_mv (d := .u (.int .i64 op_0)) (by kernel_rfl)) ?_
            refine S_pure (by show _ = _; kernel_rfl) (O_leq (k := .i64) (a := op_0) (b := 42) (by kernel_rfl) (by kernel_rfl)) ?_
            refine S_pure trivial (O_pkt (d := .u (.bool ((decide (op_0 ≤ 42))))) (by kernel_rfl) (by kernel_rfl)) ?_
            exact Rs_weak (W_to (by kernel_rfl) (by kernel_rfl) (by kernel_rfl)) (K5 _ (by rw [hc] <;> rfl))
          · refine S_skip (b := false) (by kernel_rfl) rfl ?_
            refine S_skip (b := false) (by kernel_rfl) rfl ?_
            refine S_pure trivial (O_pkf (d := .u (.bool false)) (by kernel_rfl) (by kernel_rfl)) ?_
            exact Rs_weak (W_to (by kernel_rfl) (by kernel_rfl) (by kernel_rfl)) (K5 _ (by rw [hc] <;> rfl))
      refine S_case0 (t := 13) (c := (decide (18 ≤ op_0))) (by kernel_rfl) (fun hc => ?_) (fun hc => ?_)
      · refine S_pure (by show _ = _; kernel_rfl) (O_mv (d := .u (.int .i64 op_0)) (by kernel_rfl)) ?_
        refine S_pure (by show _ = _; kernel_rfl) (O_leq (k := .i64) (a := op_0) (b := 29) (by kernel_rfl) (by kernel_rfl)) ?_
        refine S_pure trivial (O_pkt (d := .u (.bool ((decide (op_0 ≤ 29))))) (by kernel_rfl) (by kernel_rfl)) ?_
        exact Rs_weak (W_to (by kernel_rfl) (by kernel_rfl) (by kernel_rfl)) (K3 _ (by rw [hc] <;> rfl))
      · refine S_skip (b := false) (by kernel_rfl) rfl ?_
        refine S_skip (b := false) (by kernel_rfl) rfl ?_
        refine S_pure trivial (O_pkf (d := .u (.bool false)) (by kernel_rfl) (by kernel_rfl)) ?_
        exact Rs_weak (W_to (by kernel_rfl) (by kernel_rfl) (by kernel_rfl)) (K3 _ (by rw [hc] <;> rfl))
  refine S_case0 (t := 6) (c := (decide (1 ≤ op_0))) (by kernel_rfl) (fun hc => ?_) (fun hc => ?_)
  · refine S_pure (by show _ = _; kernel_rfl) (O_mv (d := .u (.int .i64 op_0)) (by kernel_rfl)) ?_
    refine S_pure (by show _ = _; kernel_rfl) (O_leq (k := .i64) (a := op_0) (b := 17) (by kernel_rfl) (by kernel_rfl)) ?_
    refine S_pure trivial (O_pkt (d := .u (.bool ((decide (op_0 ≤ 17))))) (by kernel_rfl) (by kernel_rfl)) ?_
    exact Rs_weak (W_to (by kernel_rfl) (by kernel_rfl) (by kernel_rfl)) (K1 _ (by rw [hc] <;> rfl))
  · refine S_skip (b := false) (by kernel_rfl) rfl ?_
    refine S_skip (b := false) (by kernel_rfl) rfl ?_
    refine S_pure trivial (O_pkf (d := .u (.bool false)) (by kernel_rfl) (by kernel_rfl)) ?_
    exact Rs_weak (W_to (by kernel_rfl) (by kernel_rfl) (by kernel_rfl)) (K1 _ (by rw [hc] <;> rfl))

/-! ### selfstab/selfstabref05.End -/
def q_ref05_End_1 : AC := .reg [⟨some 4, none, .mv (.c (.int .i64 (-1)))⟩]
def q_ref05_End_2 : AC := .seq q_ref05_End_1 .ret
def q_ref05_End_3 : AC := .reg [⟨some 4, none, .mv (.c (.int .i64 (-1)))⟩]
def q_ref05_End_4 : AC := .seq q_ref05_End_3 .ret
def q_ref05_End_5 : AC := .cond (.t 15) q_ref05_End_4 .skip
def q_ref05_End_6 : AC := .reg [⟨some 21, none, .mv (.t 6)⟩, ⟨some 22, none, .bi .add (.t 21) (.c (.int .i64 1))⟩, ⟨some 6, none, .mv (.t 22)⟩]
def q_ref05_End_7 : AC := .reg [⟨some 37, none, .mv (.t 6)⟩, ⟨some 38, none, .bi .add (.t 37) (.c (.int .i64 1))⟩, ⟨some 4, none, .mv (.t 38)⟩]
def q_ref05_End_8 : AC := .seq q_ref05_End_7 .ret
def q_ref05_End_9 : AC := .cond (.t 36) q_ref05_End_8 .skip
def q_ref05_End_10 : AC := .reg [⟨some 35, none, .mv (.t 5)⟩, ⟨some 36, none, .bi .eql (.t 35) (.c (.int .i64 0))⟩]
def q_ref05_End_11 : AC := .seq q_ref05_End_10 q_ref05_End_9
def q_ref05_End_12 : AC := .reg [⟨some 31, none, .mv (.t 5)⟩, ⟨some 32, none, .mv (.t 7)⟩, ⟨some 33, none, .bi .sub (.t 32) (.c (.int .i64 1))⟩, ⟨some 34, none, .bi .add (.t 31) (.t 33)⟩, ⟨some 5, none, .mv (.t 34)⟩]
def q_ref05_End_13 : AC := .seq q_ref05_End_12 q_ref05_End_11
def q_ref05_End_14 : AC := .reg [⟨some 4, none, .mv (.c (.int .i64 (-1)))⟩]
def q_ref05_End_15 : AC := .seq q_ref05_End_14 .ret
def q_ref05_End_16 : AC := .cond (.t 30) q_ref05_End_15 .skip
def q_ref05_End_17 : AC := .reg [⟨some 29, none, .mv (.t 7)⟩, ⟨some 30, none, .bi .lss (.t 29) (.c (.int .i64 0))⟩]
def q_ref05_End_18 : AC := .seq q_ref05_End_17 q_ref05_End_16
def q_ref05_End_19 : AC := .seq q_ref05_End_18 q_ref05_End_13
def q_ref05_End_20 : AC := .reg [⟨some 23, none, .mv (.t 0)⟩, ⟨some 24, none, .mv (.t 6)⟩, ⟨some 25, none, .ia 2 (.t 23) (.t 24)⟩, ⟨some 26, none, .fa 0 (.t 25)⟩, ⟨some 27, none, .ld false 1 (.t 26)⟩, ⟨some 28, none, .ca 29 [.t 27]⟩, ⟨some 7, none, .mv (.t 28)⟩]
def q_ref05_End_21 : AC := .seq q_ref05_End_20 q_ref05_End_19
def q_ref05_End_22 : AC := .block 1 q_ref05_End_21
def q_ref05_End_23 : AC := .seq q_ref05_End_22 q_ref05_End_6
def q_ref05_End_24 : AC := .cond (.t 20) .skip (.exit 0)
def q_ref05_End_25 : AC := .reg [⟨some 17, none, .mv (.t 6)⟩, ⟨some 18, none, .mv (.t 0)⟩, ⟨some 19, none, .ln (.t 18)⟩, ⟨some 20, none, .bi .lss (.t 17) (.t 19)⟩]
def q_ref05_End_26 : AC := .seq q_ref05_End_25 q_ref05_End_24
def q_ref05_End_27 : AC := .seq q_ref05_End_26 q_ref05_End_23
def q_ref05_End_28 : AC := .loop q_ref05_End_27
def q_ref05_End_29 : AC := .block 0 q_ref05_End_28
def q_ref05_End_30 : AC := .reg [⟨some 16, none, .mv (.t 1)⟩, ⟨some 6, none, .mv (.t 16)⟩]
def q_ref05_End_31 : AC := .seq q_ref05_End_30 q_ref05_End_29
def q_ref05_End_32 : AC := .seq q_ref05_End_31 q_ref05_End_2
def q_ref05_End_33 : AC := .reg [⟨some 5, none, .mv (.c (.int .i64 1))⟩]
def q_ref05_End_34 : AC := .seq q_ref05_End_33 q_ref05_End_32
def q_ref05_End_35 : AC := .reg [⟨some 8, none, .mv (.t 1)⟩, ⟨some 9, none, .bi .lss (.t 8) (.c (.int .i64 0))⟩, ⟨some 10, none, .mv (.t 9)⟩, ⟨some 11, some (10, false), .mv (.t 1)⟩, ⟨some 12, some (10, false), .mv (.t 0)⟩, ⟨some 13, some (10, false), .ln (.t 12)⟩, ⟨some 14, some (10, false), .bi .geq (.t 11) (.t 13)⟩, ⟨some 15, none, .pk (.t 10) (.c (.bool true)) (.t 14)⟩]
def q_ref05_End_36 : AC := .seq q_ref05_End_35 q_ref05_End_5
def q_ref05_End_37 : AC := .seq q_ref05_End_36 q_ref05_End_34
def q_ref05_End_38 : AC := .reg [⟨some 4, none, .mv (.c (.int .i64 0))⟩]
def q_ref05_End_39 : AC := .seq q_ref05_End_38 q_ref05_End_37
def c_ref05_End : FC := ⟨39, [4], q_ref05_End_39⟩
theorem k_ref05_End : okF Try.prog 31 c_ref05_End = true := by decide +kernel
noncomputable def ref05_End.l13 (e_0 : List ApiTerm) (s9 : Int × Int) : Option ((Int × Int) ⊕ (Unit ⊕ Int)) := (bif (decide (s9.2 < (List.length e_0 : Int))) then ((idx e_0 s9.2).bind (fun (y11 : ApiTerm) => ((ref05_Arity y11.Op).bind (fun (y12 : Int) => (bif (decide (y12 < 0)) then (some (Sum.inr (Sum.inr (-1)))) else (bif (decide ((IntKind.i64.wrap (s9.1 + (IntKind.i64.wrap (y12 - 1)))) = 0)) then (some (Sum.inr (Sum.inr (IntKind.i64.wrap (s9.2 + 1))))) else (some (Sum.inl ((IntKind.i64.wrap (s9.1 + (IntKind.i64.wrap (y12 - 1)))), (IntKind.i64.wrap (s9.2 + 1))))))))))) else (some (Sum.inr (Sum.inl ()))))
noncomputable def ref05_End (e_0 : List ApiTerm) (at_1 : Int) : Option Int := (bif ((decide (at_1 < 0)) || (decide ((List.length e_0 : Int) ≤ at_1))) then (some (-1)) else ((loopO (ref05_End.l13 e_0) (1, at_1)).bind (Sum.elim (fun (w5 : Unit) => (some (-1))) (fun (w7 : Int) => (some w7)))))
theorem ref05_End.ok {e_0 : List ApiTerm} {at_1 : Int} {r : Int} (h : ref05_End e_0 at_1 = some r) : PC Try.prog 31 [.sl (List.map ApiTerm.cells e_0), .int .i64 at_1] (.int .i64 r) := by
  refine PC_run k_ref05_End rfl (L := [(0, .u (.sl (List.map ApiTerm.cells e_0))), (1, .u (.int .i64 at_1))]) rfl ?_
  show Run Try.prog 39 (retQ [4] (.int .i64 r)) [] q_ref05_End_39 _
  refine R_seq ?_
  refine R_reg ?_
  refine S_pure trivial (O_mv (d := .u (.int .i64 0)) (by kernel_rfl)) ?_
  refine Rs_nil ?_
  refine N_s ?_
  refine R_seq ?_
  refine R_seq ?_
  refine R_reg ?_
  refine S_pure trivial (O_mv (d := .u (.int .i64 at_1)) (by kernel_rfl)) ?_
  refine S_pure trivial (O_lss (k := .i64) (a := at_1) (b := 0) (by kernel_rfl) (by kernel_rfl)) ?_
  refine S_pure trivial (O_mv (d := .u (.bool ((decide (at_1 < 0))))) (by kernel_rfl)) ?_
  have K1 : ∀ v2 : Bool, v2 = ((decide (at_1 < 0)) || (decide ((List.length e_0 : Int) ≤ at_1))) → Rs Try.prog 39 (retQ [4] (.int .i64 r)) [.s q_ref05_End_5, .s q_ref05_End_34] [] (mkSt [(0, .u (.sl (List.map ApiTerm.cells e_0))), (1, .u (.int .i64 at_1)), (15, .u (.bool v2))] [] 0) := by
    intro v2 e; subst e
    refine Rs_nil ?_
    refine N_s ?_
    refine R_cond (c := ((decide (at_1 < 0)) || (decide ((List.length e_0 : Int) ≤ at_1)))) (by kernel_rfl) h (fun h => ?_) (fun h => ?_)
    · refine R_seq ?_
      refine R_reg ?_
      refine S_pure trivial (O_mv (d := .u (.int .i64 ((-1)))) (by kernel_rfl)) ?_
      refine Rs_nil ?_
      refine N_s ?_
      obtain rfl := (Option.some.inj h)
      refine R_ret ?_
      exact Q_ret (x := .int .i64 ((-1))) (by kernel_rfl) (.refl _)
    · refine R_skip ?_
      refine N_s ?_
      refine R_seq ?_
      refine R_reg ?_
      refine S_pure trivial (O_mv (d := .u (.int .i64 1)) (by kernel_rfl)) ?_
      refine Rs_nil ?_
      refine N_s ?_
      refine R_seq ?_
      refine R_seq ?_
      refine R_reg ?_
      refine S_pure trivial (O_mv (d := .u (.int .i64 at_1)) (by kernel_rfl)) ?_
      refine S_pure trivial (O_mv (d := .u (.int .i64 at_1)) (by kernel_rfl)) ?_
      refine Rs_nil ?_
      refine N_s ?_
      refine R_block ?_
      obtain ⟨o3, hE, h⟩ := bindS h
      have K6 : ∀ (w5 : Unit), (Sum.inl w5) = o3 → Run Try.prog 39 (retQ [4] (.int .i64 r)) [] q_ref05_End_2 (mkSt [] [] 0) := by
        intro w5 e; subst e
        replace h := elimL h
        refine R_seq ?_
        refine R_reg ?_
        refine S_pure trivial (O_mv (d := .u (.int .i64 ((-1)))) (by kernel_rfl)) ?_
        refine Rs_nil ?_
        refine N_s ?_
        obtain rfl := (Option.some.inj h)
        refine R_ret ?_
        exact Q_ret (x := .int .i64 ((-1))) (by kernel_rfl) (.refl _)
      have K8 : ∀ (w7 : Int), (Sum.inr w7) = o3 → w7 = r := by
        intro w7 e; subst e
        replace h := elimR h
        exact Option.some.inj h
      refine R_loop (ref05_End.l13 e_0) (fun s9 => (mkSt [(0, .u (.sl (List.map ApiTerm.cells e_0))), (5, .u (.int .i64 s9.1)), (6, .u (.int .i64 s9.2))] [] 0)) hE (W_to (by kernel_rfl) (by kernel_rfl) (by kernel_rfl)) ?_
      intro K4 s9 x10 h hK4 hO4
      refine R_seq ?_
      refine R_seq ?_
      refine R_reg ?_
      refine S_pure trivial (O_mv (d := .u (.int .i64 s9.2)) (by kernel_rfl)) ?_
      refine S_pure trivial (O_mv (d := .u (.sl (List.map ApiTerm.cells e_0))) (by kernel_rfl)) ?_
      refine S_pure trivial (O_ln (c := ApiTerm.cells) (li := e_0) (by kernel_rfl)) ?_
      refine S_pure trivial (O_lss (k := .i64) (a := s9.2) (b := (List.length e_0 : Int)) (by kernel_rfl) (by kernel_rfl)) ?_
      refine Rs_nil ?_
      refine N_s ?_
      refine R_cond (c := (decide (s9.2 < (List.length e_0 : Int)))) (by kernel_rfl) h (fun h => ?_) (fun h => ?_)
      · refine R_skip ?_
        refine N_s ?_
        refine R_seq ?_
        refine R_block ?_
        refine R_seq ?_
        refine R_reg ?_
        refine S_pure trivial (O_mv (d := .u (.sl (List.map ApiTerm.cells e_0))) (by kernel_rfl)) ?_
        refine S_pure trivial (O_mv (d := .u (.int .i64 s9.2)) (by kernel_rfl)) ?_
        obtain ⟨y11, hy11, h⟩ := bindS h
        refine S_pure trivial (O_ia (c := ApiTerm.cells) (li := e_0) (i := s9.2) (k := .i64) (a := y11) (u := ApiTerm.cells y11) (by kernel_rfl) (by kernel_rfl) hy11 rfl rfl) ?_
        refine S_pure trivial (O_faf (cells := ApiTerm.cells y11) (o := 0) (by kernel_rfl)) ?_
        refine S_pure trivial (O_ldf (cells := ApiTerm.cells y11) (off := 0) (u := .int .i64 y11.Op) (by kernel_rfl) (by kernel_rfl)) ?_
        obtain ⟨y12, hy12, h⟩ := bindS h
        refine S_pure trivial (O_ca (us := [.int .i64 y11.Op]) (r := .int .i64 y12) (by kernel_rfl) (ref05_Arity.ok hy12)) ?_
        refine S_pure trivial (O_mv (d := .u (.int .i64 y12)) (by kernel_rfl)) ?_
        refine Rs_nil ?_
        refine N_s ?_
        refine R_seq ?_
        refine R_seq ?_
        refine R_reg ?_
        refine S_pure trivial (O_mv (d := .u (.int .i64 y12)) (by kernel_rfl)) ?_
        refine S_pure trivial (O_lss (k := .i64) (a := y12) (b := 0) (by kernel_rfl) (by kernel_rfl)) ?_
        refine Rs_nil ?_
        refine N_s ?_
        refine R_cond (c := (decide (y12 < 0))) (by kernel_rfl) h (fun h => ?_) (fun h => ?_)
        · refine R_seq ?_
          refine R_reg ?_
          refine S_pure trivial (O_mv (d := .u (.int .i64 ((-1)))) (by kernel_rfl)) ?_
          refine Rs_nil ?_
          refine N_s ?_
          obtain rfl := (K8 _ (hO4 _ h))
          refine R_ret ?_
          exact Q_ret (x := .int .i64 ((-1))) (by kernel_rfl) (.refl _)
        · refine R_skip ?_
          refine N_s ?_
          refine R_seq ?_
          refine R_reg ?_
          refine S_pure trivial (O_mv (d := .u (.int .i64 s9.1)) (by kernel_rfl)) ?_
          refine S_pure trivial (O_mv (d := .u (.int .i64 y12)) (by kernel_rfl)) ?_
          refine S_pure trivial (O_sub (k := .i64) (a := y12) (b := 1) (by kernel_rfl) (by kernel_rfl)) ?_
          refine S_pure trivial (O_add (k := .i64) (a := s9.1) (b := (IntKind.i64.wrap (y12 - 1))) (by kernel_rfl) (by kernel_rfl)) ?_
          refine S_pure trivial (O_mv (d := .u (.int .i64 ((IntKind.i64.wrap (s9.1 + (IntKind.i64.wrap (y12 - 1))))))) (by kernel_rfl)) ?_
          refine Rs_nil ?_
          refine N_s ?_
          refine R_seq ?_
          refine R_reg ?_
          refine S_pure trivial (O_mv (d := .u (.int .i64 ((IntKind.i64.wrap (s9.1 + (IntKind.i64.wrap (y12 - 1))))))) (by kernel_rfl)) ?_
          refine S_pure trivial (O_eql (k := .i64) (a := (IntKind.i64.wrap (s9.1 + (IntKind.i64.wrap (y12 - 1))))) (b := 0) (by kernel_rfl) (by kernel_rfl)) ?_
          refine Rs_nil ?_
          refine N_s ?_
          refine R_cond (c := (decide ((IntKind.i64.wrap (s9.1 + (IntKind.i64.wrap (y12 - 1)))) = 0))) (by kernel_rfl) h (fun h => ?_) (fun h => ?_)
          · refine R_seq ?_
            refine R_reg ?_
            refine S_pure trivial (O_mv (d := .u (.int .i64 s9.2)) (by kernel_rfl)) ?_
            refine S_pure trivial (O_add (k := .i64) (a := s9.2) (b := 1) (by kernel_rfl) (by kernel_rfl)) ?_
            refine S_pure trivial (O_mv (d := .u (.int .i64 ((IntKind.i64.wrap (s9.2 + 1))))) (by kernel_rfl)) ?_
            refine Rs_nil ?_
            refine N_s ?_
            obtain rfl := (K8 _ (hO4 _ h))
            refine R_ret ?_
            exact Q_ret (x := .int .i64 ((IntKind.i64.wrap (s9.2 + 1)))) (by kernel_rfl) (.refl _)
          · refine R_skip ?_
            refine N_b ?_
            refine N_s ?_
            refine R_reg ?_
            refine S_pure trivial (O_mv (d := .u (.int .i64 s9.2)) (by kernel_rfl)) ?_
            refine S_pure trivial (O_add (k := .i64) (a := s9.2) (b := 1) (by kernel_rfl) (by kernel_rfl)) ?_
            refine S_pure trivial (O_mv (d := .u (.int .i64 ((IntKind.i64.wrap (s9.2 + 1))))) (by kernel_rfl)) ?_
            refine Rs_nil ?_
            exact N_k (hK4 _ h _ (W_to (by kernel_rfl) (by kernel_rfl) (by kernel_rfl)))
      · refine R_exit ?_
        refine E_s ?_
        refine E_k ?_
        refine E_b ?_
        refine N_s ?_
        exact R_weak (W_to (by kernel_rfl) (by kernel_rfl) (by kernel_rfl)) (K6 _ (hO4 _ h))
  refine S_case0 (t := 10) (c := (decide (at_1 < 0))) (by kernel_rfl) (fun hc => ?_) (fun hc => ?_)
  · refine S_skip (b := true) (by kernel_rfl) rfl ?_
    refine S_skip (b := true) (by kernel_rfl) rfl ?_
    refine S_skip (b := true) (by kernel_rfl) rfl ?_
    refine S_skip (b := true) (by kernel_rfl) rfl ?_
    refine S_pure trivial (O_pkt (d := .u (.bool true)) (by kernel_rfl) (by kernel_rfl)) ?_
    exact Rs_weak (W_to (by kernel_rfl) (by kernel_rfl) (by kernel_rfl)) (K1 _ (by rw [hc] <;> rfl))
  · refine S_pure (by show _ = _; kernel_rfl) (O_mv (d := .u (.int .i64 at_1)) (by kernel_rfl)) ?_
    refine S_pure (by show _ = _; kernel_rfl) (O_mv (d := .u (.sl (List.map ApiTerm.cells e_0))) (by kernel_rfl)) ?_
    refine S_pure (by show _ = _; kernel_rfl) (O_ln (c := ApiTerm.cells) (li := e_0) (by kernel_rfl)) ?_
    refine S_pure (by show _ = _; kernel_rfl) (O_geq (k := .i64) (a := at_1) (b := (List.length e_0 : Int)) (by kernel_rfl) (by kernel_rfl)) ?_
    refine S_pure trivial (O_pkf (d := .u (.bool ((decide ((List.length e_0 : Int) ≤ at_1))))) (by kernel_rfl) (by kernel_rfl)) ?_
    exact Rs_weak (W_to (by kernel_rfl) (by kernel_rfl) (by kernel_rfl)) (K1 _ (by rw [hc] <;> rfl))

/-! ### selfstab/selfstabref05.one -/
def q_ref05_one_1 : AC := .reg [⟨some 3, none, .mv (.t 0)⟩, ⟨some 4, none, .ln (.t 3)⟩, ⟨some 5, none, .bi .gtr (.t 4) (.c (.int .i64 0))⟩, ⟨some 6, none, .mv (.t 5)⟩, ⟨some 7, some (6, true), .mv (.t 0)⟩, ⟨some 8, some (6, true), .ca 31 [.t 7, .c (.int .i64 0)]⟩, ⟨some 9, some (6, true), .mv (.t 0)⟩, ⟨some 10, some (6, true), .ln (.t 9)⟩, ⟨some 11, some (6, true), .bi .eql (.t 8) (.t 10)⟩, ⟨some 12, none, .pk (.t 6) (.t 11) (.c (.bool false))⟩, ⟨some 2, none, .mv (.t 12)⟩]
def q_ref05_one_2 : AC := .seq q_ref05_one_1 .ret
def q_ref05_one_3 : AC := .reg [⟨some 2, none, .mv (.c (.bool false))⟩]
def q_ref05_one_4 : AC := .seq q_ref05_one_3 q_ref05_one_2
def c_ref05_one : FC := ⟨13, [2], q_ref05_one_4⟩
theorem k_ref05_one : okF Try.prog 53 c_ref05_one = true := by decide +kernel
noncomputable def ref05_one (e_0 : List ApiTerm) : Option Bool := ((bif (decide (0 < (List.length e_0 : Int))) then ((ref05_End e_0 0).bind (fun (y4 : Int) => (some (decide (y4 = (List.length e_0 : Int)))))) else (some false)).bind (fun (o3 : Bool) => (some o3)))
theorem ref05_one.ok {e_0 : List ApiTerm} {r : Bool} (h : ref05_one e_0 = some r) : PC Try.prog 53 [.sl (List.map ApiTerm.cells e_0)] (.bool r) := by
  refine PC_run k_ref05_one rfl (L := [(0, .u (.sl (List.map ApiTerm.cells e_0)))]) rfl ?_
  show Run Try.prog 13 (retQ [2] (.bool r)) [] q_ref05_one_4 _
  refine R_seq ?_
  refine R_reg ?_
  refine S_pure trivial (O_mv (d := .u (.bool false)) (by kernel_rfl)) ?_
  refine Rs_nil ?_
  refine N_s ?_
  refine R_seq ?_
  refine R_reg ?_
  refine S_pure trivial (O_mv (d := .u (.sl (List.map ApiTerm.cells e_0))) (by kernel_rfl)) ?_
  refine S_pure trivial (O_ln (c := ApiTerm.cells) (li := e_0) (by kernel_rfl)) ?_
  refine S_pure trivial (O_gtr (k := .i64) (a := (List.length e_0 : Int)) (b := 0) (by kernel_rfl) (by kernel_rfl)) ?_
  refine S_pure trivial (O_mv (d := .u (.bool ((decide (0 < (List.length e_0 : Int)))))) (by kernel_rfl)) ?_
  obtain ⟨o3, hE, h⟩ := bindS h
  have K1 : Rs Try.prog 13 (retQ [2] (.bool r)) [.s .ret] [⟨some 2, none, .mv (.t 12)⟩] (mkSt [(12, .u (.bool o3))] [] 0) := by
    refine S_pure trivial (O_mv (d := .u (.bool o3)) (by kernel_rfl)) ?_
    refine Rs_nil ?_
    refine N_s ?_
    obtain rfl := (Option.some.inj h)
    refine R_ret ?_
    exact Q_ret (x := .bool o3) (by kernel_rfl) (.refl _)
  replace h := hE
  refine S_case (t := 6) (c := (decide (0 < (List.length e_0 : Int)))) (by kernel_rfl) h (fun hc h => ?_) (fun hc h => ?_)
  · refine S_pure (by show _ = _; kernel_rfl) (O_mv (d := .u (.sl (List.map ApiTerm.cells e_0))) (by kernel_rfl)) ?_
    obtain ⟨y4, hy4, h⟩ := bindS h
    refine S_pure (by show _ = _; kernel_rfl) (O_ca (us := [.sl (List.map ApiTerm.cells e_0), .int .i64 0]) (r := .int .i64 y4) (by kernel_rfl) (ref05_End.ok hy4)) ?_
    refine S_pure (by show _ = _; kernel_rfl) (O_mv (d := .u (.sl (List.map ApiTerm.cells e_0))) (by kernel_rfl)) ?_
    refine S_pure (by show _ = _; kernel_rfl) (O_ln (c := ApiTerm.cells) (li := e_0) (by kernel_rfl)) ?_
    refine S_pure (by show _ = _; kernel_rfl) (O_eql (k := .i64) (a := y4) (b := (List.length e_0 : Int)) (by kernel_rfl) (by kernel_rfl)) ?_
    refine S_pure trivial (O_pkt (d := .u (.bool ((decide (y4 = (List.length e_0 : Int)))))) (by kernel_rfl) (by kernel_rfl)) ?_
    obtain rfl := Option.some.inj h
    exact Rs_weak (W_to (by kernel_rfl) (by kernel_rfl) (by kernel_rfl)) K1
  · refine S_skip (b := false) (by kernel_rfl) rfl ?_
    refine S_skip (b := false) (by kernel_rfl) rfl ?_
    refine S_skip (b := false) (by kernel_rfl) rfl ?_
    refine S_skip (b := false) (by kernel_rfl) rfl ?_
    refine S_skip (b := false) (by kernel_rfl) rfl ?_
    refine S_pure trivial (O_pkf (d := .u (.bool false)) (by kernel_rfl) (by kernel_rfl)) ?_
    obtain rfl := Option.some.inj h
    exact Rs_weak (W_to (by kernel_rfl) (by kernel_rfl) (by kernel_rfl)) K1

/-! ### selfstab/selfstabref05.Aggregate -/
def q_ref05_Aggregate_1 : AC := .reg [⟨some 3, none, .mv (.t 0)⟩, ⟨some 4, none, .bi .geq (.t 3) (.c (.int .i64 20))⟩, ⟨some 5, none, .mv (.t 4)⟩, ⟨some 6, some (5, true), .mv (.t 0)⟩, ⟨some 7, some (5, true), .bi .leq (.t 6) (.c (.int .i64 29))⟩, ⟨some 8, none, .pk (.t 5) (.t 7) (.c (.bool false))⟩, ⟨some 2, none, .mv (.t 8)⟩]
def q_ref05_Aggregate_2 : AC := .seq q_ref05_Aggregate_1 .ret
def q_ref05_Aggregate_3 : AC := .reg [⟨some 2, none, .mv (.c (.bool false))⟩]
def q_ref05_Aggregate_4 : AC := .seq q_ref05_Aggregate_3 q_ref05_Aggregate_2
def c_ref05_Aggregate : FC := ⟨9, [2], q_ref05_Aggregate_4⟩
theorem k_ref05_Aggregate : okF Try.prog 28 c_ref05_Aggregate = true := by decide +kernel
noncomputable def ref05_Aggregate (op_0 : Int) : Option Bool := (some ((decide (20 ≤ op_0)) && (decide (op_0 ≤ 29))))
theorem ref05_Aggregate.ok {op_0 : Int} {r : Bool} (h : ref05_Aggregate op_0 = some r) : PC Try.prog 28 [.int .i64 op_0] (.bool r) := by
  refine PC_run k_ref05_Aggregate rfl (L := [(0, .u (.int .i64 op_0))]) rfl ?_
  show Run Try.prog 9 (retQ [2] (.bool r)) [] q_ref05_Aggregate_4 _
  refine R_seq ?_
  refine R_reg ?_
  refine S_pure trivial (O_mv (d := .u (.bool false)) (by kernel_rfl)) ?_
  refine Rs_nil ?_
  refine N_s ?_
  refine R_seq ?_
  refine R_reg ?_
  refine S_pure trivial (O_mv (d := .u (.int .i64 op_0)) (by kernel_rfl)) ?_
  refine S_pure trivial (O_geq (k := .i64) (a := op_0) (b := 20) (by kernel_rfl) (by kernel_rfl)) ?_
  refine S_pure trivial (O_mv (d := .u (.bool ((decide (20 ≤ op_0))))) (by kernel_rfl)) ?_
  have K1 : ∀ v2 : Bool, v2 = ((decide (20 ≤ op_0)) && (decide (op_0 ≤ 29))) → Rs Try.prog 9 (retQ [2] (.bool r)) [.s .ret] [⟨some 2, none, .mv (.t 8)⟩] (mkSt [(8, .u (.bool v2))] [] 0) := by
    intro v2 e; subst e
    refine S_pure trivial (O_mv (d := .u (.bool (((decide (20 ≤ op_0)) && (decide (op_0 ≤ 29)))))) (by kernel_rfl)) ?_
    refine Rs_nil ?_
    refine N_s ?_
    obtain rfl := (Option.some.inj h)
    refine R_ret ?_
    exact Q_ret (x := .bool (((decide (20 ≤ op_0)) && (decide (op_0 ≤ 29))))) (by kernel_rfl) (.refl _)
  refine S_case0 (t := 5) (c := (decide (20 ≤ op_0))) (by kernel_rfl) (fun hc => ?_) (fun hc => ?_)
  · refine S_pure (by show _ = _; kernel_rfl) (O_mv (d := .u (.int .i64 op_0)) (by kernel_rfl)) ?_
    refine S_pure (by show _ = _; kernel_rfl) (O_leq (k := .i64) (a := op_0) (b := 29) (by kernel_rfl) (by kernel_rfl)) ?_
    refine S_pure trivial (O_pkt (d := .u (.bool ((decide (op_0 ≤ 29))))) (by kernel_rfl) (by kernel_rfl)) ?_
    exact Rs_weak (W_to (by kernel_rfl) (by kernel_rfl) (by kernel_rfl)) (K1 _ (by rw [hc] <;> rfl))
  · refine S_skip (b := false) (by kernel_rfl) rfl ?_
    refine S_skip (b := false) (by kernel_rfl) rfl ?_
    refine S_pure trivial (O_pkf (d := .u (.bool false)) (by kernel_rfl) (by kernel_rfl)) ?_
    exact Rs_weak (W_to (by kernel_rfl) (by kernel_rfl) (by kernel_rfl)) (K1 _ (by rw [hc] <;> rfl))

/-! ### selfstab/selfstabref05.levels -/
def q_ref05_levels_1 : AC := .cond (.t 65) .skip (.exit 4)
def q_ref05_levels_2 : AC := .reg [⟨some 79, none, .mv (.t 6)⟩, ⟨some 80, none, .mv (.t 6)⟩, ⟨some 81, none, .ln (.t 80)⟩, ⟨some 82, none, .bi .sub (.t 81) (.c (.int .i64 1))⟩, ⟨some 83, none, .ia 1 (.t 79) (.t 82)⟩, ⟨some 84, none, .ld false 1 (.t 83)⟩, ⟨some 85, none, .bi .sub (.t 84) (.c (.int .i64 1))⟩, ⟨some 86, none, .ia 1 (.t 79) (.t 82)⟩, ⟨none, none, .st 1 (.t 86) (.t 85)⟩]
def q_ref05_levels_3 : AC := .cond (.t 78) q_ref05_levels_2 .skip
def q_ref05_levels_4 : AC := .reg [⟨some 76, none, .mv (.t 6)⟩, ⟨some 77, none, .ln (.t 76)⟩, ⟨some 78, none, .bi .gtr (.t 77) (.c (.int .i64 0))⟩]
def q_ref05_levels_5 : AC := .seq q_ref05_levels_4 q_ref05_levels_3
def q_ref05_levels_6 : AC := .rgd [⟨some 66, none, .mv (.t 6)⟩,
   ⟨some 67, none, .mv (.t 6)⟩,
   ⟨some 68, none, .ln (.t 67)⟩,
   ⟨some 69, none, .bi .sub (.t 68) (.c (.int .i64 1))⟩,
   ⟨some 70, none, .sl 1 (.t 66) none (some (.t 69))⟩,
   ⟨some 71, none, .mv (.t 7)⟩,
   ⟨some 72, none, .mv (.t 7)⟩,
   ⟨some 73, none, .ln (.t 72)⟩,
   ⟨some 74, none, .bi .sub (.t 73) (.c (.int .i64 1))⟩,
   ⟨some 75, none, .sl 1 (.t 71) none (some (.t 74))⟩,
   ⟨some 6, none, .mv (.t 70)⟩,
   ⟨some 7, none, .mv (.t 75)⟩] [(0, 1), (0, 2), (0, 3), (0, 5), (1, 5), (2, 5), (3, 5), (4, 5), (0, 6), (1, 6), (2, 6), (3, 6), (4, 6), (5, 6), (0, 7), (1, 7), (2, 7), (3, 7), (4, 7), (5, 7), (0, 8), (1, 8), (2, 8), (3, 8), (4, 8), (5, 8), (0, 9), (1, 9), (2, 9), (3, 9), (4, 9), (5, 10), (6, 10), (7, 10), (8, 10), (9, 10)]
def q_ref05_levels_7 : AC := .seq q_ref05_levels_6 q_ref05_levels_5
def q_ref05_levels_8 : AC := .block 5 q_ref05_levels_7
def q_ref05_levels_9 : AC := .reg [⟨some 15, none, .mv (.t 8)⟩, ⟨some 16, none, .bi .add (.t 15) (.c (.int .i64 1))⟩, ⟨some 8, none, .mv (.t 16)⟩]
def q_ref05_levels_10 : AC := .reg [⟨some 87, none, .mv (.t 4)⟩, ⟨some 88, none, .mv (.t 5)⟩, ⟨some 2, none, .mv (.t 87)⟩, ⟨some 3, none, .mv (.t 88)⟩]
def q_ref05_levels_11 : AC := .seq q_ref05_levels_10 .ret
def q_ref05_levels_12 : AC := .reg [⟨some 54, none, .mv (.t 6)⟩, ⟨some 55, none, .ln (.t 54)⟩, ⟨some 56, none, .bi .gtr (.t 55) (.c (.int .i64 0))⟩, ⟨some 57, none, .mv (.t 56)⟩, ⟨some 58, some (57, true), .mv (.t 6)⟩, ⟨some 59, some (57, true), .mv (.t 6)⟩, ⟨some 60, some (57, true), .ln (.t 59)⟩, ⟨some 61, some (57, true), .bi .sub (.t 60) (.c (.int .i64 1))⟩, ⟨some 62, some (57, true), .ia 1 (.t 58) (.t 61)⟩, ⟨some 63, some (57, true), .ld false 1 (.t 62)⟩, ⟨some 64, some (57, true), .bi .eql (.t 63) (.c (.int .i64 0))⟩, ⟨some 65, none, .pk (.t 57) (.t 64) (.c (.bool false))⟩]
def q_ref05_levels_13 : AC := .seq q_ref05_levels_12 q_ref05_levels_1
def q_ref05_levels_14 : AC := .seq q_ref05_levels_13 q_ref05_levels_8
def q_ref05_levels_15 : AC := .loop q_ref05_levels_14
def q_ref05_levels_16 : AC := .block 4 q_ref05_levels_15
def q_ref05_levels_17 : AC := .reg [⟨some 47, none, .mv (.t 4)⟩, ⟨some 48, none, .mv (.t 6)⟩, ⟨some 49, none, .ln (.t 48)⟩, ⟨some 50, none, .mx [.t 47, .t 49]⟩, ⟨some 51, none, .mv (.t 5)⟩, ⟨some 52, none, .mv (.t 9)⟩, ⟨some 53, none, .mx [.t 51, .t 52]⟩, ⟨some 4, none, .mv (.t 50)⟩, ⟨some 5, none, .mv (.t 53)⟩]
def q_ref05_levels_18 : AC := .seq q_ref05_levels_17 q_ref05_levels_16
def q_ref05_levels_19 : AC := .reg [⟨some 39, none, .mv (.t 10)⟩, ⟨some 40, none, .bi .add (.t 39) (.c (.int .i64 1))⟩, ⟨some 10, none, .mv (.t 40)⟩]
def q_ref05_levels_20 : AC := .reg [⟨some 45, none, .mv (.t 9)⟩, ⟨some 46, none, .bi .add (.t 45) (.c (.int .i64 1))⟩, ⟨some 9, none, .mv (.t 46)⟩]
def q_ref05_levels_21 : AC := .cond (.t 44) q_ref05_levels_20 .skip
def q_ref05_levels_22 : AC := .reg [⟨some 41, none, .mv (.t 7)⟩, ⟨some 42, none, .mv (.t 10)⟩, ⟨some 43, none, .ia 1 (.t 41) (.t 42)⟩, ⟨some 44, none, .ld false 1 (.t 43)⟩]
def q_ref05_levels_23 : AC := .seq q_ref05_levels_22 q_ref05_levels_21
def q_ref05_levels_24 : AC := .block 3 q_ref05_levels_23
def q_ref05_levels_25 : AC := .seq q_ref05_levels_24 q_ref05_levels_19
def q_ref05_levels_26 : AC := .cond (.t 38) .skip (.exit 2)
def q_ref05_levels_27 : AC := .reg [⟨some 35, none, .mv (.t 10)⟩, ⟨some 36, none, .mv (.t 7)⟩, ⟨some 37, none, .ln (.t 36)⟩, ⟨some 38, none, .bi .lss (.t 35) (.t 37)⟩]
def q_ref05_levels_28 : AC := .seq q_ref05_levels_27 q_ref05_levels_26
def q_ref05_levels_29 : AC := .seq q_ref05_levels_28 q_ref05_levels_25
def q_ref05_levels_30 : AC := .loop q_ref05_levels_29
def q_ref05_levels_31 : AC := .block 2 q_ref05_levels_30
def q_ref05_levels_32 : AC := .reg [⟨some 10, none, .mv (.c (.int .i64 0))⟩]
def q_ref05_levels_33 : AC := .seq q_ref05_levels_32 q_ref05_levels_31
def q_ref05_levels_34 : AC := .seq q_ref05_levels_33 q_ref05_levels_18
def q_ref05_levels_35 : AC := .reg [⟨some 9, none, .mv (.c (.int .i64 0))⟩]
def q_ref05_levels_36 : AC := .seq q_ref05_levels_35 q_ref05_levels_34
def q_ref05_levels_37 : AC := .rgd [⟨some 17, none, .mv (.t 6)⟩,
   ⟨some 18, none, .mv (.t 0)⟩,
   ⟨some 19, none, .mv (.t 8)⟩,
   ⟨some 20, none, .ia 2 (.t 18) (.t 19)⟩,
   ⟨some 21, none, .fa 0 (.t 20)⟩,
   ⟨some 22, none, .ld false 1 (.t 21)⟩,
   ⟨some 23, none, .ca 29 [.t 22]⟩,
   ⟨some 24, none, .bs 1 [.t 23]⟩,
   ⟨some 25, none, .ap 1 8 (.t 17) (.t 24)⟩,
   ⟨some 26, none, .mv (.t 7)⟩,
   ⟨some 27, none, .mv (.t 0)⟩,
   ⟨some 28, none, .mv (.t 8)⟩,
   ⟨some 29, none, .ia 2 (.t 27) (.t 28)⟩,
   ⟨some 30, none, .fa 0 (.t 29)⟩,
   ⟨some 31, none, .ld false 1 (.t 30)⟩,
   ⟨some 32, none, .ca 28 [.t 31]⟩,
   ⟨some 33, none, .bs 1 [.t 32]⟩,
   ⟨some 34, none, .ap 1 1 (.t 26) (.t 33)⟩,
   ⟨some 6, none, .mv (.t 25)⟩,
   ⟨some 7, none, .mv (.t 34)⟩] [(0, 1), (0, 2), (1, 2), (0, 3), (0, 4), (0, 5), (0, 6), (0, 7), (0, 9), (1, 9), (2, 9), (3, 9), (4, 9), (5, 9), (6, 9), (7, 9), (8, 9), (0, 10), (1, 10), (2, 10), (3, 10), (4, 10), (5, 10), (6, 10), (7, 10), (8, 10), (9, 10), (0, 11), (1, 11), (2, 11), (3, 11), (4, 11), (5, 11), (6, 11), (7, 11), (8, 11), (9, 11), (10, 11), (0, 12), (1, 12), (2, 12), (3, 12), (4, 12), (5, 12), (6, 12), (7, 12), (8, 12), (9, 12), (0, 13), (1, 13), (2, 13), (3, 13), (4, 13), (5, 13), (6, 13), (7, 13), (8, 13), (9, 13), (0, 14), (1, 14), (2, 14), (3, 14), (4, 14), (5, 14), (6, 14), (7, 14), (8, 14), (9, 14), (9, 15), (9, 16)]
def q_ref05_levels_38 : AC := .seq q_ref05_levels_37 q_ref05_levels_36
def q_ref05_levels_39 : AC := .block 1 q_ref05_levels_38
def q_ref05_levels_40 : AC := .seq q_ref05_levels_39 q_ref05_levels_9
def q_ref05_levels_41 : AC := .cond (.t 14) .skip (.exit 0)
def q_ref05_levels_42 : AC := .reg [⟨some 11, none, .mv (.t 8)⟩, ⟨some 12, none, .mv (.t 0)⟩, ⟨some 13, none, .ln (.t 12)⟩, ⟨some 14, none, .bi .lss (.t 11) (.t 13)⟩]
def q_ref05_levels_43 : AC := .seq q_ref05_levels_42 q_ref05_levels_41
def q_ref05_levels_44 : AC := .seq q_ref05_levels_43 q_ref05_levels_40
def q_ref05_levels_45 : AC := .loop q_ref05_levels_44
def q_ref05_levels_46 : AC := .block 0 q_ref05_levels_45
def q_ref05_levels_47 : AC := .reg [⟨some 8, none, .mv (.c (.int .i64 0))⟩]
def q_ref05_levels_48 : AC := .seq q_ref05_levels_47 q_ref05_levels_46
def q_ref05_levels_49 : AC := .seq q_ref05_levels_48 q_ref05_levels_11
def q_ref05_levels_50 : AC := .reg [⟨some 7, none, .mv (.c (.nil))⟩]
def q_ref05_levels_51 : AC := .seq q_ref05_levels_50 q_ref05_levels_49
def q_ref05_levels_52 : AC := .reg [⟨some 6, none, .mv (.c (.nil))⟩]
def q_ref05_levels_53 : AC := .seq q_ref05_levels_52 q_ref05_levels_51
def q_ref05_levels_54 : AC := .reg [⟨some 4, none, .mv (.c (.int .i64 0))⟩, ⟨some 5, none, .mv (.c (.int .i64 0))⟩]
def q_ref05_levels_55 : AC := .seq q_ref05_levels_54 q_ref05_levels_53
def q_ref05_levels_56 : AC := .reg [⟨some 2, none, .mv (.c (.int .i64 0))⟩, ⟨some 3, none, .mv (.c (.int .i64 0))⟩]
def q_ref05_levels_57 : AC := .seq q_ref05_levels_56 q_ref05_levels_55
def c_ref05_levels : FC := ⟨89, [2, 3], q_ref05_levels_57⟩
theorem k_ref05_levels : okF Try.prog 87 c_ref05_levels = true := by decide +kernel
noncomputable def ref05_levels.l36 (s19 : (List Int) × (List Bool)) : Option (((List Int) × (List Bool)) ⊕ (((List Int) × (List Bool)))) := ((bif (decide (0 < (s19.1.length : Int))) then ((idx s19.1 ((IntKind.i64.wrap ((s19.1.length : Int) - 1)))).bind (fun (y35 : Int) => (some (decide (y35 = 0))))) else (some false)).bind (fun (o23 : Bool) => (bif o23 then ((slc s19.1 0 ((IntKind.i64.wrap ((s19.1.length : Int) - 1)))).bind (fun (y24 : List Int) => ((slc s19.2 0 ((IntKind.i64.wrap ((s19.2.length : Int) - 1)))).bind (fun (y30 : List Bool) => (bif (decide (0 < (y24.length : Int))) then ((idx y24 ((IntKind.i64.wrap ((y24.length : Int) - 1)))).bind (fun (y33 : Int) => ((idx y24 ((IntKind.i64.wrap ((y24.length : Int) - 1)))).bind (fun (y34 : Int) => (some (Sum.inl ((List.set y24 (Int.toNat ((IntKind.i64.wrap ((y24.length : Int) - 1)))) ((IntKind.i64.wrap (y33 - 1)))), y30))))))) else (some (Sum.inl (y24, y30)))))))) else (some (Sum.inr (s19.1, s19.2))))))
noncomputable def ref05_levels.l40 (s5 : Int × Int × Int × (List Int) × (List Bool)) (y10 : Bool) (s37 : Int × Int) : Option ((Int × Int) ⊕ Int) := (bif (decide (s37.2 < ((s5.2.2.2.2 ++ [y10]).length : Int))) then ((idx ((s5.2.2.2.2 ++ [y10])) s37.2).bind (fun (y39 : Bool) => (bif y39 then (some (Sum.inl ((IntKind.i64.wrap (s37.1 + 1)), (IntKind.i64.wrap (s37.2 + 1))))) else (some (Sum.inl (s37.1, (IntKind.i64.wrap (s37.2 + 1)))))))) else (some (Sum.inr s37.1)))
noncomputable def ref05_levels.l41 (e_0 : List ApiTerm) (s5 : Int × Int × Int × (List Int) × (List Bool)) : Option ((Int × Int × Int × (List Int) × (List Bool)) ⊕ ((Int × Int))) := (bif (decide (s5.2.2.1 < (List.length e_0 : Int))) then ((idx e_0 s5.2.2.1).bind (fun (y7 : ApiTerm) => ((ref05_Arity y7.Op).bind (fun (y8 : Int) => (bif (room (List.length s5.2.2.2.1 + List.length ([y8])) 8) then ((idx e_0 s5.2.2.1).bind (fun (y9 : ApiTerm) => ((ref05_Aggregate y9.Op).bind (fun (y10 : Bool) => (bif (room (List.length s5.2.2.2.2 + List.length ([y10])) 1) then ((loopO (ref05_levels.l40 s5 y10) (0, 0)).bind (fun (w13 : Int) => ((loopO (ref05_levels.l36) ((s5.2.2.2.1 ++ [y8]), (s5.2.2.2.2 ++ [y10]))).bind (fun (w17 : (List Int) × (List Bool)) => (some (Sum.inl ((max s5.1 (((s5.2.2.2.1 ++ [y8]).length : Int))), (max s5.2.1 w13), (IntKind.i64.wrap (s5.2.2.1 + 1)), w17.1, w17.2))))))) else none))))) else none))))) else (some (Sum.inr (s5.1, s5.2.1))))
noncomputable def ref05_levels (e_0 : List ApiTerm) : Option (Int × Int) := ((loopO (ref05_levels.l41 e_0) (0, 0, 0, ([] : List Int), ([] : List Bool))).bind (fun (w3 : Int × Int) => (some (w3.1, w3.2))))
theorem ref05_levels.ok {e_0 : List ApiTerm} {r : Int × Int} (h : ref05_levels e_0 = some r) : PC Try.prog 87 [.sl (List.map ApiTerm.cells e_0)] (.tup [.int .i64 r.1, .int .i64 r.2]) := by
  refine PC_run k_ref05_levels rfl (L := [(0, .u (.sl (List.map ApiTerm.cells e_0)))]) rfl ?_
  show Run Try.prog 89 (retQ [2, 3] (.tup [.int .i64 r.1, .int .i64 r.2])) [] q_ref05_levels_57 _
  refine R_seq ?_
  refine R_reg ?_
  refine S_pure trivial (O_mv (d := .u (.int .i64 0)) (by kernel_rfl)) ?_
  refine S_pure trivial (O_mv (d := .u (.int .i64 0)) (by kernel_rfl)) ?_
  refine Rs_nil ?_
  refine N_s ?_
  refine R_seq ?_
  refine R_reg ?_
  refine S_pure trivial (O_mv (d := .u (.int .i64 0)) (by kernel_rfl)) ?_
  refine S_pure trivial (O_mv (d := .u (.int .i64 0)) (by kernel_rfl)) ?_
  refine Rs_nil ?_
  refine N_s ?_
  refine R_seq ?_
  refine R_reg ?_
  refine S_pure trivial (O_mv (d := .u (.nil)) (by kernel_rfl)) ?_
  refine Rs_nil ?_
  refine N_s ?_
  refine R_seq ?_
  refine R_reg ?_
  refine S_pure trivial (O_mv (d := .u (.nil)) (by kernel_rfl)) ?_
  refine Rs_nil ?_
  refine N_s ?_
  refine R_seq ?_
  refine R_seq ?_
  refine R_reg ?_
  refine S_pure trivial (O_mv (d := .u (.int .i64 0)) (by kernel_rfl)) ?_
  refine Rs_nil ?_
  refine N_s ?_
  refine R_block ?_
  refine R_weak (Weak.trans (W_ghost 6 1 (by kernel_rfl)) (W_ghost 7 1 (by kernel_rfl))) ?_
  obtain ⟨o1, hE, h⟩ := bindS h
  have K4 : ∀ (w3 : Int × Int), w3 = o1 → Run Try.prog 89 (retQ [2, 3] (.tup [.int .i64 r.1, .int .i64 r.2])) [] q_ref05_levels_11 (mkSt [(4, .u (.int .i64 w3.1)), (5, .u (.int .i64 w3.2))] [] 4) := by
    intro w3 e; subst e
    refine R_seq ?_
    refine R_reg ?_
    refine S_pure trivial (O_mv (d := .u (.int .i64 w3.1)) (by kernel_rfl)) ?_
    refine S_pure trivial (O_mv (d := .u (.int .i64 w3.2)) (by kernel_rfl)) ?_
    refine S_pure trivial (O_mv (d := .u (.int .i64 w3.1)) (by kernel_rfl)) ?_
    refine S_pure trivial (O_mv (d := .u (.int .i64 w3.2)) (by kernel_rfl)) ?_
    refine Rs_nil ?_
    refine N_s ?_
    obtain rfl := (Option.some.inj h)
    refine R_ret ?_
    exact Q_ret (x := .tup [.int .i64 w3.1, .int .i64 w3.2]) (by kernel_rfl) (.refl _)
  refine R_loop (ref05_levels.l41 e_0) (fun s5 => (mkSt [(0, .u (.sl (List.map ApiTerm.cells e_0))), (4, .u (.int .i64 s5.1)), (5, .u (.int .i64 s5.2.1)), (6, .msl 0 s5.2.2.2.1.length), (7, .msl 1 s5.2.2.2.2.length), (8, .u (.int .i64 s5.2.2.1))] [(0, .row 1 (List.map (cInt .i64) s5.2.2.2.1)), (1, .row 1 (List.map cBool s5.2.2.2.2))] 4)) hE (W_to (by kernel_rfl) (by kernel_rfl) (by kernel_rfl)) ?_
  intro K2 s5 x6 h hK2 hO2
  refine R_seq ?_
  refine R_seq ?_
  refine R_reg ?_
  refine S_pure trivial (O_mv (d := .u (.int .i64 s5.2.2.1)) (by kernel_rfl)) ?_
  refine S_pure trivial (O_mv (d := .u (.sl (List.map ApiTerm.cells e_0))) (by kernel_rfl)) ?_
  refine S_pure trivial (O_ln (c := ApiTerm.cells) (li := e_0) (by kernel_rfl)) ?_
  refine S_pure trivial (O_lss (k := .i64) (a := s5.2.2.1) (b := (List.length e_0 : Int)) (by kernel_rfl) (by kernel_rfl)) ?_
  refine Rs_nil ?_
  refine N_s ?_
  refine R_cond (c := (decide (s5.2.2.1 < (List.length e_0 : Int)))) (by kernel_rfl) h (fun h => ?_) (fun h => ?_)
  · refine R_skip ?_
    refine N_s ?_
    refine R_seq ?_
    refine R_block ?_
    refine R_seq ?_
    refine R_rgd (show Try.prog.follows .mixedOrders = true from Checked.mixed Try.checked) ?_
    refine Rg_pure 1000 [0] trivial (O_mv (d := .msl 0 s5.2.2.2.1.length) (by kernel_rfl)) (by kernel_rfl) ?_
    refine Rg_pure 1001 [] trivial (O_mv (d := .u (.sl (List.map ApiTerm.cells e_0))) (by kernel_rfl)) (by kernel_rfl) ?_
    refine Rg_pure 1002 [] trivial (O_mv (d := .u (.int .i64 s5.2.2.1)) (by kernel_rfl)) (by kernel_rfl) ?_
    obtain ⟨y7, hy7, h⟩ := bindS h
    refine Rg_pure 1003 [] trivial (O_ia (c := ApiTerm.cells) (li := e_0) (i := s5.2.2.1) (k := .i64) (a := y7) (u := ApiTerm.cells y7) (by kernel_rfl) (by kernel_rfl) hy7 rfl rfl) (by kernel_rfl) ?_
    refine Rg_pure 1004 [] trivial (O_faf (cells := ApiTerm.cells y7) (o := 0) (by kernel_rfl)) (by kernel_rfl) ?_
    refine Rg_pure 1005 [] trivial (O_ldf (cells := ApiTerm.cells y7) (off := 0) (u := .int .i64 y7.Op) (by kernel_rfl) (by kernel_rfl)) (by kernel_rfl) ?_
    obtain ⟨y8, hy8, h⟩ := bindS h
    refine Rg_pure 1006 [] trivial (O_ca (us := [.int .i64 y7.Op]) (r := .int .i64 y8) (by kernel_rfl) (ref05_Arity.ok hy8)) (by kernel_rfl) ?_
    refine Rg_new [] trivial (O_bs (els := [[.u (.int .i64 y8)]]) (uss := List.map (cInt .i64) ([y8])) (m := List.length ([y8])) (by kernel_rfl) rfl (by kernel_rfl) (by kernel_rfl)) (by kernel_rfl) ?_
    obtain ⟨hb, h⟩ := chkS h
    refine Rg_app (L' := [(24, .msl 4 [y8].length), (23, .u (.int .i64 y8)), (22, .u (.int .i64 y7.Op)), (21, .u (.fp (ApiTerm.cells y7) 0)), (20, .u (.fp (ApiTerm.cells y7) 0)), (19, .u (.int .i64 s5.2.2.1)), (18, .u (.sl (List.map ApiTerm.cells e_0))), (17, .any), (14, .u (.bool ((decide (s5.2.2.1 < (List.length e_0 : Int)))))), (13, .u (.int .i64 ((List.length e_0 : Int)))), (12, .u (.sl (List.map ApiTerm.cells e_0))), (11, .u (.int .i64 s5.2.2.1)), (0, .u (.sl (List.map ApiTerm.cells e_0))), (4, .u (.int .i64 s5.1)), (5, .u (.int .i64 s5.2.1)), (6, .any), (7, .msl 1 s5.2.2.2.2.length), (8, .u (.int .i64 s5.2.2.1))]) (O' := [(4, .row 1 (List.map (cInt .i64) ([y8]))), (0, .row 1 (List.map (cInt .i64) s5.2.2.2.1)), (1, .row 1 (List.map cBool s5.2.2.2.2))]) 1008 [0, 4] trivial (O_apm (c := (cInt .i64)) (li := s5.2.2.2.1) (lj := [y8]) (b := 0) (by kernel_rfl) (by kernel_rfl) (by show Srcs _ _ _ (.msl 4 [y8].length); exact Srcs.own (c := (cInt .i64)) (li := [y8]) 4 (by kernel_rfl)) hb) (by kernel_rfl) (by kernel_rfl) (by kernel_rfl) ?_
    refine Rg_pure 1009 [1] trivial (O_mv (d := .msl 1 s5.2.2.2.2.length) (by kernel_rfl)) (by kernel_rfl) ?_
    refine Rg_pure 1010 [] trivial (O_mv (d := .u (.sl (List.map ApiTerm.cells e_0))) (by kernel_rfl)) (by kernel_rfl) ?_
    refine Rg_pure 1011 [] trivial (O_mv (d := .u (.int .i64 s5.2.2.1)) (by kernel_rfl)) (by kernel_rfl) ?_
    obtain ⟨y9, hy9, h⟩ := bindS h
    refine Rg_pure 1012 [] trivial (O_ia (c := ApiTerm.cells) (li := e_0) (i := s5.2.2.1) (k := .i64) (a := y9) (u := ApiTerm.cells y9) (by kernel_rfl) (by kernel_rfl) hy9 rfl rfl) (by kernel_rfl) ?_
    refine Rg_pure 1013 [] trivial (O_faf (cells := ApiTerm.cells y9) (o := 0) (by kernel_rfl)) (by kernel_rfl) ?_
    refine Rg_pure 1014 [] trivial (O_ldf (cells := ApiTerm.cells y9) (off := 0) (u := .int .i64 y9.Op) (by kernel_rfl) (by kernel_rfl)) (by kernel_rfl) ?_
    obtain ⟨y10, hy10, h⟩ := bindS h
    refine Rg_pure 1015 [] trivial (O_ca (us := [.int .i64 y9.Op]) (r := .bool y10) (by kernel_rfl) (ref05_Aggregate.ok hy10)) (by kernel_rfl) ?_
    refine Rg_new [] trivial (O_bs (els := [[.u (.bool y10)]]) (uss := List.map cBool ([y10])) (m := List.length ([y10])) (by kernel_rfl) rfl (by kernel_rfl) (by kernel_rfl)) (by kernel_rfl) ?_
    obtain ⟨hb, h⟩ := chkS h
    refine Rg_app (L' := [(33, .msl 5 [y10].length), (32, .u (.bool y10)), (31, .u (.int .i64 y9.Op)), (30, .u (.fp (ApiTerm.cells y9) 0)), (29, .u (.fp (ApiTerm.cells y9) 0)), (28, .u (.int .i64 s5.2.2.1)), (27, .u (.sl (List.map ApiTerm.cells e_0))), (26, .any), (25, .msl 0 (s5.2.2.2.1 ++ [y8]).length), (24, .msl 4 [y8].length), (23, .u (.int .i64 y8)), (22, .u (.int .i64 y7.Op)), (21, .u (.fp (ApiTerm.cells y7) 0)), (20, .u (.fp (ApiTerm.cells y7) 0)), (19, .u (.int .i64 s5.2.2.1)), (18, .u (.sl (List.map ApiTerm.cells e_0))), (17, .any), (14, .u (.bool ((decide (s5.2.2.1 < (List.length e_0 : Int)))))), (13, .u (.int .i64 ((List.length e_0 : Int)))), (12, .u (.sl (List.map ApiTerm.cells e_0))), (11, .u (.int .i64 s5.2.2.1)), (0, .u (.sl (List.map ApiTerm.cells e_0))), (4, .u (.int .i64 s5.1)), (5, .u (.int .i64 s5.2.1)), (6, .any), (7, .any), (8, .u (.int .i64 s5.2.2.1))]) (O' := [(5, .row 1 (List.map cBool ([y10]))), (0, .row 1 (List.map (cInt .i64) ((s5.2.2.2.1 ++ [y8])))), (4, .row 1 (List.map (cInt .i64) ([y8]))), (0, .row 1 (List.map (cInt .i64) s5.2.2.2.1)), (1, .row 1 (List.map cBool s5.2.2.2.2))]) 1017 [1, 5] trivial (O_apm (c := cBool) (li := s5.2.2.2.2) (lj := [y10]) (b := 1) (by kernel_rfl) (by kernel_rfl) (by show Srcs _ _ _ (.msl 5 [y10].length); exact Srcs.own (c := cBool) (li := [y10]) 5 (by kernel_rfl)) hb) (by kernel_rfl) (by kernel_rfl) (by kernel_rfl) ?_
    refine Rg_pure 1018 [0] trivial (O_mv (d := .msl 0 (s5.2.2.2.1 ++ [y8]).length) (by kernel_rfl)) (by kernel_rfl) ?_
    refine Rg_pure 1019 [1] trivial (O_mv (d := .msl 1 (s5.2.2.2.2 ++ [y10]).length) (by kernel_rfl)) (by kernel_rfl) ?_
    refine Rg_nil (by kernel_rfl) ?_
    refine N_s ?_
    refine R_seq ?_
    refine R_reg ?_
    refine S_pure trivial (O_mv (d := .u (.int .i64 0)) (by kernel_rfl)) ?_
    refine Rs_nil ?_
    refine N_s ?_
    refine R_seq ?_
    refine R_seq ?_
    refine R_reg ?_
    refine S_pure trivial (O_mv (d := .u (.int .i64 0)) (by kernel_rfl)) ?_
    refine Rs_nil ?_
    refine N_s ?_
    refine R_block ?_
    obtain ⟨o11, hE, h⟩ := bindS h
    have K14 : ∀ (w13 : Int), w13 = o11 → Run Try.prog 89 (retQ [2, 3] (.tup [.int .i64 r.1, .int .i64 r.2])) [.b 1, .s q_ref05_levels_9, .k K2, .b 0, .s q_ref05_levels_11] q_ref05_levels_18 (mkSt [(0, .u (.sl (List.map ApiTerm.cells e_0))), (4, .u (.int .i64 s5.1)), (5, .u (.int .i64 s5.2.1)), (6, .msl 0 (s5.2.2.2.1 ++ [y8]).length), (7, .msl 1 (s5.2.2.2.2 ++ [y10]).length), (8, .u (.int .i64 s5.2.2.1)), (9, .u (.int .i64 w13))] [(0, .row 1 (List.map (cInt .i64) ((s5.2.2.2.1 ++ [y8])))), (1, .row 1 (List.map cBool ((s5.2.2.2.2 ++ [y10]))))] 6) := by
      intro w13 e; subst e
      refine R_seq ?_
      refine R_reg ?_
      refine S_pure trivial (O_mv (d := .u (.int .i64 s5.1)) (by kernel_rfl)) ?_
      refine S_pure trivial (O_mv (d := .msl 0 (s5.2.2.2.1 ++ [y8]).length) (by kernel_rfl)) ?_
      refine S_pure trivial (O_lnm (b := 0) (m := (s5.2.2.2.1 ++ [y8]).length) (by kernel_rfl)) ?_
      refine S_pure trivial (O_mx (k := .i64) (a := s5.1) (b := ((s5.2.2.2.1 ++ [y8]).length : Int)) (by kernel_rfl) (by kernel_rfl)) ?_
      refine S_pure trivial (O_mv (d := .u (.int .i64 s5.2.1)) (by kernel_rfl)) ?_
      refine S_pure trivial (O_mv (d := .u (.int .i64 w13)) (by kernel_rfl)) ?_
      refine S_pure trivial (O_mx (k := .i64) (a := s5.2.1) (b := w13) (by kernel_rfl) (by kernel_rfl)) ?_
      refine S_pure trivial (O_mv (d := .u (.int .i64 ((max s5.1 (((s5.2.2.2.1 ++ [y8]).length : Int)))))) (by kernel_rfl)) ?_
      refine S_pure trivial (O_mv (d := .u (.int .i64 ((max s5.2.1 w13)))) (by kernel_rfl)) ?_
      refine Rs_nil ?_
      refine N_s ?_
      refine R_block ?_
      obtain ⟨o15, hE, h⟩ := bindS h
      have K18 : ∀ (w17 : (List Int) × (List Bool)), w17 = o15 → Run Try.prog 89 (retQ [2, 3] (.tup [.int .i64 r.1, .int .i64 r.2])) [.k K2, .b 0, .s q_ref05_levels_11] q_ref05_levels_9 (mkSt [(0, .u (.sl (List.map ApiTerm.cells e_0))), (4, .u (.int .i64 ((max s5.1 (((s5.2.2.2.1 ++ [y8]).length : Int)))))), (5, .u (.int .i64 ((max s5.2.1 w13)))), (6, .msl 0 w17.1.length), (7, .msl 1 w17.2.length), (8, .u (.int .i64 s5.2.2.1))] [(0, .row 1 (List.map (cInt .i64) w17.1)), (1, .row 1 (List.map cBool w17.2))] 6) := by
        intro w17 e; subst e
        refine R_reg ?_
        refine S_pure trivial (O_mv (d := .u (.int .i64 s5.2.2.1)) (by kernel_rfl)) ?_
        refine S_pure trivial (O_add (k := .i64) (a := s5.2.2.1) (b := 1) (by kernel_rfl) (by kernel_rfl)) ?_
        refine S_pure trivial (O_mv (d := .u (.int .i64 ((IntKind.i64.wrap (s5.2.2.1 + 1))))) (by kernel_rfl)) ?_
        refine Rs_nil ?_
        exact N_k (hK2 _ h _ (W_to (by kernel_rfl) (by kernel_rfl) (by kernel_rfl)))
      refine R_loop (ref05_levels.l36) (fun s19 => (mkSt [(0, .u (.sl (List.map ApiTerm.cells e_0))), (4, .u (.int .i64 ((max s5.1 (((s5.2.2.2.1 ++ [y8]).length : Int)))))), (5, .u (.int .i64 ((max s5.2.1 w13)))), (6, .msl 0 s19.1.length), (7, .msl 1 s19.2.length), (8, .u (.int .i64 s5.2.2.1))] [(0, .row 1 (List.map (cInt .i64) s19.1)), (1, .row 1 (List.map cBool s19.2))] 6)) hE (W_to (by kernel_rfl) (by kernel_rfl) (by kernel_rfl)) ?_
      intro K16 s19 x20 h hK16 hO16
      refine R_seq ?_
      refine R_seq ?_
      refine R_reg ?_
      refine S_pure trivial (O_mv (d := .msl 0 s19.1.length) (by kernel_rfl)) ?_
      refine S_pure trivial (O_lnm (b := 0) (m := s19.1.length) (by kernel_rfl)) ?_
      refine S_pure trivial (O_gtr (k := .i64) (a := (s19.1.length : Int)) (b := 0) (by kernel_rfl) (by kernel_rfl)) ?_
      refine S_pure trivial (O_mv (d := .u (.bool ((decide (0 < (s19.1.length : Int)))))) (by kernel_rfl)) ?_
      obtain ⟨o23, hE, h⟩ := bindS h
      have K21 : Rs Try.prog 89 (retQ [2, 3] (.tup [.int .i64 r.1, .int .i64 r.2])) [.s q_ref05_levels_1, .s q_ref05_levels_8, .k K16, .b 4, .b 1, .s q_ref05_levels_9, .k K2, .b 0, .s q_ref05_levels_11] [] (mkSt [(0, .u (.sl (List.map ApiTerm.cells e_0))), (4, .u (.int .i64 ((max s5.1 (((s5.2.2.2.1 ++ [y8]).length : Int)))))), (5, .u (.int .i64 ((max s5.2.1 w13)))), (6, .msl 0 s19.1.length), (7, .msl 1 s19.2.length), (8, .u (.int .i64 s5.2.2.1)), (65, .u (.bool o23))] [(0, .row 1 (List.map (cInt .i64) s19.1)), (1, .row 1 (List.map cBool s19.2))] 6) := by
        refine Rs_nil ?_
        refine N_s ?_
        refine R_cond (c := o23) (by kernel_rfl) h (fun h => ?_) (fun h => ?_)
        · refine R_skip ?_
          refine N_s ?_
          refine R_block ?_
          refine R_seq ?_
          refine R_rgd (show Try.prog.follows .mixedOrders = true from Checked.mixed Try.checked) ?_
          refine Rg_pure 1000 [0] trivial (O_mv (d := .msl 0 s19.1.length) (by kernel_rfl)) (by kernel_rfl) ?_
          refine Rg_pure 1001 [0] trivial (O_mv (d := .msl 0 s19.1.length) (by kernel_rfl)) (by kernel_rfl) ?_
          refine Rg_pure 1002 [0] trivial (O_lnm (b := 0) (m := s19.1.length) (by kernel_rfl)) (by kernel_rfl) ?_
          refine Rg_pure 1003 [] trivial (O_sub (k := .i64) (a := (s19.1.length : Int)) (b := 1) (by kernel_rfl) (by kernel_rfl)) (by kernel_rfl) ?_
          obtain ⟨y24, hy24, h⟩ := bindS h
          refine Rg_pure 1004 [0] trivial (O_slm (c := (cInt .i64)) (li := s19.1) (li' := y24) (a := (IntKind.i64.wrap ((s19.1.length : Int) - 1))) (b := 0) (k := .i64) (by kernel_rfl) (by kernel_rfl) hy24) (by kernel_rfl) ?_
          refine Rg_pure 1005 [1] trivial (O_mv (d := .msl 1 s19.2.length) (by kernel_rfl)) (by kernel_rfl) ?_
          refine Rg_pure 1006 [1] trivial (O_mv (d := .msl 1 s19.2.length) (by kernel_rfl)) (by kernel_rfl) ?_
          refine Rg_pure 1007 [1] trivial (O_lnm (b := 1) (m := s19.2.length) (by kernel_rfl)) (by kernel_rfl) ?_
          refine Rg_pure 1008 [] trivial (O_sub (k := .i64) (a := (s19.2.length : Int)) (b := 1) (by kernel_rfl) (by kernel_rfl)) (by kernel_rfl) ?_
          obtain ⟨y30, hy30, h⟩ := bindS h
          refine Rg_pure 1009 [1] trivial (O_slm (c := cBool) (li := s19.2) (li' := y30) (a := (IntKind.i64.wrap ((s19.2.length : Int) - 1))) (b := 1) (k := .i64) (by kernel_rfl) (by kernel_rfl) hy30) (by kernel_rfl) ?_
          refine Rg_pure 1010 [0] trivial (O_mv (d := .msl 0 y24.length) (by kernel_rfl)) (by kernel_rfl) ?_
          refine Rg_pure 1011 [1] trivial (O_mv (d := .msl 1 y30.length) (by kernel_rfl)) (by kernel_rfl) ?_
          refine Rg_nil (by kernel_rfl) ?_
          refine N_s ?_
          refine R_weak (Weak.trans (W_shrink (c := (cInt .i64)) (li := s19.1) (li' := y24) 0 1 (by kernel_rfl) hy24) (W_shrink (c := cBool) (li := s19.2) (li' := y30) 1 1 (by kernel_rfl) hy30)) ?_
          refine R_seq ?_
          refine R_reg ?_
          refine S_pure trivial (O_mv (d := .msl 0 y24.length) (by kernel_rfl)) ?_
          refine S_pure trivial (O_lnm (b := 0) (m := y24.length) (by kernel_rfl)) ?_
          refine S_pure trivial (O_gtr (k := .i64) (a := (y24.length : Int)) (b := 0) (by kernel_rfl) (by kernel_rfl)) ?_
          refine Rs_nil ?_
          refine N_s ?_
          refine R_cond (c := (decide (0 < (y24.length : Int)))) (by kernel_rfl) h (fun h => ?_) (fun h => ?_)
          · refine R_reg ?_
            refine S_pure trivial (O_mv (d := .msl 0 y24.length) (by kernel_rfl)) ?_
            refine S_pure trivial (O_mv (d := .msl 0 y24.length) (by kernel_rfl)) ?_
            refine S_pure trivial (O_lnm (b := 0) (m := y24.length) (by kernel_rfl)) ?_
            refine S_pure trivial (O_sub (k := .i64) (a := (y24.length : Int)) (b := 1) (by kernel_rfl) (by kernel_rfl)) ?_
            obtain ⟨y33, hy33, h⟩ := bindS h
            refine S_pure trivial (O_iam (c := (cInt .i64)) (li := y24) (i := (IntKind.i64.wrap ((y24.length : Int) - 1))) (k := .i64) (a := y33) (b := 0) (by kernel_rfl) (by kernel_rfl) (by kernel_rfl) hy33) ?_
            refine S_pure trivial (O_ldr (b := 0) (s := 1) (off := 0) (c := (cInt .i64)) (li := y24) (i := (IntKind.i64.wrap ((y24.length : Int) - 1))) (u := .int .i64 y33) (by kernel_rfl) (by kernel_rfl) hy33 rfl (by kernel_rfl)) ?_
            refine S_pure trivial (O_sub (k := .i64) (a := y33) (b := 1) (by kernel_rfl) (by kernel_rfl)) ?_
            obtain ⟨y34, hy34, h⟩ := bindS h
            refine S_pure trivial (O_iam (c := (cInt .i64)) (li := y24) (i := (IntKind.i64.wrap ((y24.length : Int) - 1))) (k := .i64) (a := y34) (b := 0) (by kernel_rfl) (by kernel_rfl) (by kernel_rfl) hy34) ?_
            refine S_set trivial (O_str (c := (cInt .i64)) (li := y24) (i := (IntKind.i64.wrap ((y24.length : Int) - 1))) (a := y34) (a' := (IntKind.i64.wrap (y33 - 1))) (b := 0) (s := 1) (off := 0) (d := .u (.int .i64 ((IntKind.i64.wrap (y33 - 1))))) (xs := [.u (.int .i64 ((IntKind.i64.wrap (y33 - 1))))]) (us := [.int .i64 ((IntKind.i64.wrap (y33 - 1)))]) (by kernel_rfl) (by kernel_rfl) (by kernel_rfl) (by kernel_rfl) (by kernel_rfl) hy34 (by kernel_rfl) (by kernel_rfl)) ?_
            refine S_re (t := 80) (d := .msl 0 (List.set y24 (Int.toNat ((IntKind.i64.wrap ((y24.length : Int) - 1)))) ((IntKind.i64.wrap (y33 - 1)))).length) (re_len (m := y24.length) (by kernel_rfl) List.length_set.symm) ?_
            refine S_re (t := 79) (d := .msl 0 (List.set y24 (Int.toNat ((IntKind.i64.wrap ((y24.length : Int) - 1)))) ((IntKind.i64.wrap (y33 - 1)))).length) (re_len (m := y24.length) (by kernel_rfl) List.length_set.symm) ?_
            refine S_re (t := 76) (d := .msl 0 (List.set y24 (Int.toNat ((IntKind.i64.wrap ((y24.length : Int) - 1)))) ((IntKind.i64.wrap (y33 - 1)))).length) (re_len (m := y24.length) (by kernel_rfl) List.length_set.symm) ?_
            refine S_re (t := 6) (d := .msl 0 (List.set y24 (Int.toNat ((IntKind.i64.wrap ((y24.length : Int) - 1)))) ((IntKind.i64.wrap (y33 - 1)))).length) (re_len (m := y24.length) (by kernel_rfl) List.length_set.symm) ?_
            refine S_re (t := 70) (d := .msl 0 (List.set y24 (Int.toNat ((IntKind.i64.wrap ((y24.length : Int) - 1)))) ((IntKind.i64.wrap (y33 - 1)))).length) (re_len (m := y24.length) (by kernel_rfl) List.length_set.symm) ?_
            refine Rs_nil ?_
            refine N_b ?_
            exact N_k (hK16 _ h _ (W_to (by kernel_rfl) (by kernel_rfl) (by kernel_rfl)))
          · refine R_skip ?_
            refine N_b ?_
            exact N_k (hK16 _ h _ (W_to (by kernel_rfl) (by kernel_rfl) (by kernel_rfl)))
        · refine R_exit ?_
          refine E_s ?_
          refine E_k ?_
          refine E_b ?_
          refine N_b ?_
          refine N_s ?_
          exact R_weak (W_to (by kernel_rfl) (by kernel_rfl) (by kernel_rfl)) (K18 _ (hO16 _ h))
      replace h := hE
      refine S_case (t := 57) (c := (decide (0 < (s19.1.length : Int)))) (by kernel_rfl) h (fun hc h => ?_) (fun hc h => ?_)
      · refine S_pure (by show _ = _; kernel_rfl) (O_mv (d := .msl 0 s19.1.length) (by kernel_rfl)) ?_
        refine S_pure (by show _ = _; kernel_rfl) (O_mv (d := .msl 0 s19.1.length) (by kernel_rfl)) ?_
        refine S_pure (by show _ = _; kernel_rfl) (O_lnm (b := 0) (m := s19.1.length) (by kernel_rfl)) ?_
        refine S_pure (by show _ = _; kernel_rfl) (O_sub (k := .i64) (a := (s19.1.length : Int)) (b := 1) (by kernel_rfl) (by kernel_rfl)) ?_
        obtain ⟨y35, hy35, h⟩ := bindS h
        refine S_pure (by show _ = _; kernel_rfl) (O_iam (c := (cInt .i64)) (li := s19.1) (i := (IntKind.i64.wrap ((s19.1.length : Int) - 1))) (k := .i64) (a := y35) (b := 0) (by kernel_rfl) (by kernel_rfl) (by kernel_rfl) hy35) ?_
        refine S_pure (by show _ = _; kernel_rfl) (O_ldr (b := 0) (s := 1) (off := 0) (c := (cInt .i64)) (li := s19.1) (i := (IntKind.i64.wrap ((s19.1.length : Int) - 1))) (u := .int .i64 y35) (by kernel_rfl) (by kernel_rfl) hy35 rfl (by kernel_rfl)) ?_
        refine S_pure (by show _ = _; kernel_rfl) (O_eql (k := .i64) (a := y35) (b := 0) (by kernel_rfl) (by kernel_rfl)) ?_
        refine S_pure trivial (O_pkt (d := .u (.bool ((decide (y35 = 0))))) (by kernel_rfl) (by kernel_rfl)) ?_
        obtain rfl := Option.some.inj h
        exact Rs_weak (W_to (by kernel_rfl) (by kernel_rfl) (by kernel_rfl)) K21
      · refine S_skip (b := false) (by kernel_rfl) rfl ?_
        refine S_skip (b := false) (by kernel_rfl) rfl ?_
        refine S_skip (b := false) (by kernel_rfl) rfl ?_
        refine S_skip (b := false) (by kernel_rfl) rfl ?_
        refine S_skip (b := false) (by kernel_rfl) rfl ?_
        refine S_skip (b := false) (by kernel_rfl) rfl ?_
        refine S_skip (b := false) (by kernel_rfl) rfl ?_
        refine S_pure trivial (O_pkf (d := .u (.bool false)) (by kernel_rfl) (by kernel_rfl)) ?_
        obtain rfl := Option.some.inj h
        exact Rs_weak (W_to (by kernel_rfl) (by kernel_rfl) (by kernel_rfl)) K21
    refine R_loop (ref05_levels.l40 s5 y10) (fun s37 => (mkSt [(0, .u (.sl (List.map ApiTerm.cells e_0))), (4, .u (.int .i64 s5.1)), (5, .u (.int .i64 s5.2.1)), (6, .msl 0 (s5.2.2.2.1 ++ [y8]).length), (7, .msl 1 (s5.2.2.2.2 ++ [y10]).length), (8, .u (.int .i64 s5.2.2.1)), (9, .u (.int .i64 s37.1)), (10, .u (.int .i64 s37.2))] [(0, .row 1 (List.map (cInt .i64) ((s5.2.2.2.1 ++ [y8])))), (1, .row 1 (List.map cBool ((s5.2.2.2.2 ++ [y10]))))] 6)) hE (W_to (by kernel_rfl) (by kernel_rfl) (by kernel_rfl)) ?_
    intro K12 s37 x38 h hK12 hO12
    refine R_seq ?_
    refine R_seq ?_
    refine R_reg ?_
    refine S_pure trivial (O_mv (d := .u (.int .i64 s37.2)) (by kernel_rfl)) ?_
    refine S_pure trivial (O_mv (d := .msl 1 (s5.2.2.2.2 ++ [y10]).length) (by kernel_rfl)) ?_
    refine S_pure trivial (O_lnm (b := 1) (m := (s5.2.2.2.2 ++ [y10]).length) (by kernel_rfl)) ?_
    refine S_pure trivial (O_lss (k := .i64) (a := s37.2) (b := ((s5.2.2.2.2 ++ [y10]).length : Int)) (by kernel_rfl) (by kernel_rfl)) ?_
    refine Rs_nil ?_
    refine N_s ?_
    refine R_cond (c := (decide (s37.2 < ((s5.2.2.2.2 ++ [y10]).length : Int)))) (by kernel_rfl) h (fun h => ?_) (fun h => ?_)
    · refine R_skip ?_
      refine N_s ?_
      refine R_seq ?_
      refine R_block ?_
      refine R_seq ?_
      refine R_reg ?_
      refine S_pure trivial (O_mv (d := .msl 1 (s5.2.2.2.2 ++ [y10]).length) (by kernel_rfl)) ?_
      refine S_pure trivial (O_mv (d := .u (.int .i64 s37.2)) (by kernel_rfl)) ?_
      obtain ⟨y39, hy39, h⟩ := bindS h
      refine S_pure trivial (O_iam (c := cBool) (li := (s5.2.2.2.2 ++ [y10])) (i := s37.2) (k := .i64) (a := y39) (b := 1) (by kernel_rfl) (by kernel_rfl) (by kernel_rfl) hy39) ?_
      refine S_pure trivial (O_ldr (b := 1) (s := 1) (off := 0) (c := cBool) (li := (s5.2.2.2.2 ++ [y10])) (i := s37.2) (u := .bool y39) (by kernel_rfl) (by kernel_rfl) hy39 rfl (by kernel_rfl)) ?_
      refine Rs_nil ?_
      refine N_s ?_
      refine R_cond (c := y39) (by kernel_rfl) h (fun h => ?_) (fun h => ?_)
      · refine R_reg ?_
        refine S_pure trivial (O_mv (d := .u (.int .i64 s37.1)) (by kernel_rfl)) ?_
        refine S_pure trivial (O_add (k := .i64) (a := s37.1) (b := 1) (by kernel_rfl) (by kernel_rfl)) ?_
        refine S_pure trivial (O_mv (d := .u (.int .i64 ((IntKind.i64.wrap (s37.1 + 1))))) (by kernel_rfl)) ?_
        refine Rs_nil ?_
        refine N_b ?_
        refine N_s ?_
        refine R_reg ?_
        refine S_pure trivial (O_mv (d := .u (.int .i64 s37.2)) (by kernel_rfl)) ?_
        refine S_pure trivial (O_add (k := .i64) (a := s37.2) (b := 1) (by kernel_rfl) (by kernel_rfl)) ?_
        refine S_pure trivial (O_mv (d := .u (.int .i64 ((IntKind.i64.wrap (s37.2 + 1))))) (by kernel_rfl)) ?_
        refine Rs_nil ?_
        exact N_k (hK12 _ h _ (W_to (by kernel_rfl) (by kernel_rfl) (by kernel_rfl)))
      · refine R_skip ?_
        refine N_b ?_
        refine N_s ?_
        refine R_reg ?_
        refine S_pure trivial (O_mv (d := .u (.int .i64 s37.2)) (by kernel_rfl)) ?_
        refine S_pure trivial (O_add (k := .i64) (a := s37.2) (b := 1) (by kernel_rfl) (by kernel_rfl)) ?_
        refine S_pure trivial (O_mv (d := .u (.int .i64 ((IntKind.i64.wrap (s37.2 + 1))))) (by kernel_rfl)) ?_
        refine Rs_nil ?_
        exact N_k (hK12 _ h _ (W_to (by kernel_rfl) (by kernel_rfl) (by kernel_rfl)))
    · refine R_exit ?_
      refine E_s ?_
      refine E_k ?_
      refine E_b ?_
      refine N_s ?_
      exact R_weak (W_to (by kernel_rfl) (by kernel_rfl) (by kernel_rfl)) (K14 _ (hO12 _ h))
  · refine R_exit ?_
    refine E_s ?_
    refine E_k ?_
    refine E_b ?_
    refine N_s ?_
    exact R_weak (W_to (by kernel_rfl) (by kernel_rfl) (by kernel_rfl)) (K4 _ (hO2 _ h))

/-! ### selfstab/selfstabref05.Depth -/
def q_ref05_Depth_1 : AC := .reg [⟨some 13, none, .mv (.t 3)⟩, ⟨some 2, none, .mv (.t 13)⟩]
def q_ref05_Depth_2 : AC := .seq q_ref05_Depth_1 .ret
def q_ref05_Depth_3 : AC := .reg [⟨some 9, none, .mv (.t 0)⟩, ⟨some 10, none, .ca 87 [.t 9]⟩, ⟨some 8, none, .mv (.t 10)⟩, ⟨some 11, none, .ex (.t 8) 0⟩, ⟨some 12, none, .ex (.t 8) 1⟩, ⟨some 3, none, .mv (.t 11)⟩, ⟨some 4, none, .mv (.t 12)⟩]
def q_ref05_Depth_4 : AC := .seq q_ref05_Depth_3 q_ref05_Depth_2
def q_ref05_Depth_5 : AC := .reg [⟨some 2, none, .mv (.c (.int .i64 0))⟩]
def q_ref05_Depth_6 : AC := .seq q_ref05_Depth_5 .ret
def q_ref05_Depth_7 : AC := .cond (.t 7) q_ref05_Depth_6 .skip
def q_ref05_Depth_8 : AC := .reg [⟨some 5, none, .mv (.t 0)⟩, ⟨some 6, none, .ca 53 [.t 5]⟩, ⟨some 7, none, .un .not (.t 6)⟩]
def q_ref05_Depth_9 : AC := .seq q_ref05_Depth_8 q_ref05_Depth_7
def q_ref05_Depth_10 : AC := .seq q_ref05_Depth_9 q_ref05_Depth_4
def q_ref05_Depth_11 : AC := .reg [⟨some 2, none, .mv (.c (.int .i64 0))⟩]
def q_ref05_Depth_12 : AC := .seq q_ref05_Depth_11 q_ref05_Depth_10
def c_ref05_Depth : FC := ⟨14, [2], q_ref05_Depth_12⟩
theorem k_ref05_Depth : okF Try.prog 54 c_ref05_Depth = true := by decide +kernel
noncomputable def ref05_Depth (e_0 : List ApiTerm) : Option Int := ((ref05_one e_0).bind (fun (y1 : Bool) => (bif (!y1) then (some 0) else ((ref05_levels e_0).bind (fun (y2 : Int × Int) => (some y2.1))))))
theorem ref05_Depth.ok {e_0 : List ApiTerm} {r : Int} (h : ref05_Depth e_0 = some r) : PC Try.prog 54 [.sl (List.map ApiTerm.cells e_0)] (.int .i64 r) := by
  refine PC_run k_ref05_Depth rfl (L := [(0, .u (.sl (List.map ApiTerm.cells e_0)))]) rfl ?_
  show Run Try.prog 14 (retQ [2] (.int .i64 r)) [] q_ref05_Depth_12 _
  refine R_seq ?_
  refine R_reg ?_
  refine S_pure trivial (O_mv (d := .u (.int .i64 0)) (by kernel_rfl)) ?_
  refine Rs_nil ?_
  refine N_s ?_
  refine R_seq ?_
  refine R_seq ?_
  refine R_reg ?_
  refine S_pure trivial (O_mv (d := .u (.sl (List.map ApiTerm.cells e_0))) (by kernel_rfl)) ?_
  obtain ⟨y1, hy1, h⟩ := bindS h
  refine S_pure trivial (O_ca (us := [.sl (List.map ApiTerm.cells e_0)]) (r := .bool y1) (by kernel_rfl) (ref05_one.ok hy1)) ?_
  refine S_pure trivial (O_not (b := y1) (by kernel_rfl)) ?_
  refine Rs_nil ?_
  refine N_s ?_
  refine R_cond (c := (!y1)) (by kernel_rfl) h (fun h => ?_) (fun h => ?_)
  · refine R_seq ?_
    refine R_reg ?_
    refine S_pure trivial (O_mv (d := .u (.int .i64 0)) (by kernel_rfl)) ?_
    refine Rs_nil ?_
    refine N_s ?_
    obtain rfl := (Option.some.inj h)
    refine R_ret ?_
    exact Q_ret (x := .int .i64 0) (by kernel_rfl) (.refl _)
  · refine R_skip ?_
    refine N_s ?_
    refine R_seq ?_
    refine R_reg ?_
    refine S_pure trivial (O_mv (d := .u (.sl (List.map ApiTerm.cells e_0))) (by kernel_rfl)) ?_
    obtain ⟨y2, hy2, h⟩ := bindS h
    refine S_pure trivial (O_ca (us := [.sl (List.map ApiTerm.cells e_0)]) (r := .tup [.int .i64 y2.1, .int .i64 y2.2]) (by kernel_rfl) (ref05_levels.ok hy2)) ?_
    refine S_pure trivial (O_mv (d := .u (.tup [.int .i64 y2.1, .int .i64 y2.2])) (by kernel_rfl)) ?_
    refine S_pure trivial (O_ex (us := [.int .i64 y2.1, .int .i64 y2.2]) (u := .int .i64 y2.1) (by kernel_rfl) (by kernel_rfl)) ?_
    refine S_pure trivial (O_ex (us := [.int .i64 y2.1, .int .i64 y2.2]) (u := .int .i64 y2.2) (by kernel_rfl) (by kernel_rfl)) ?_
    refine S_pure trivial (O_mv (d := .u (.int .i64 y2.1)) (by kernel_rfl)) ?_
    refine S_pure trivial (O_mv (d := .u (.int .i64 y2.2)) (by kernel_rfl)) ?_
    refine Rs_nil ?_
    refine N_s ?_
    refine R_seq ?_
    refine R_reg ?_
    refine S_pure trivial (O_mv (d := .u (.int .i64 y2.1)) (by kernel_rfl)) ?_
    refine S_pure trivial (O_mv (d := .u (.int .i64 y2.1)) (by kernel_rfl)) ?_
    refine Rs_nil ?_
    refine N_s ?_
    obtain rfl := (Option.some.inj h)
    refine R_ret ?_
    exact Q_ret (x := .int .i64 y2.1) (by kernel_rfl) (.refl _)

/-! ### selfstab/selfstabref05.Nest -/
def q_ref05_Nest_1 : AC := .reg [⟨some 13, none, .mv (.t 4)⟩, ⟨some 2, none, .mv (.t 13)⟩]
def q_ref05_Nest_2 : AC := .seq q_ref05_Nest_1 .ret
def q_ref05_Nest_3 : AC := .reg [⟨some 9, none, .mv (.t 0)⟩, ⟨some 10, none, .ca 87 [.t 9]⟩, ⟨some 8, none, .mv (.t 10)⟩, ⟨some 11, none, .ex (.t 8) 0⟩, ⟨some 12, none, .ex (.t 8) 1⟩, ⟨some 3, none, .mv (.t 11)⟩, ⟨some 4, none, .mv (.t 12)⟩]
def q_ref05_Nest_4 : AC := .seq q_ref05_Nest_3 q_ref05_Nest_2
def q_ref05_Nest_5 : AC := .reg [⟨some 2, none, .mv (.c (.int .i64 0))⟩]
def q_ref05_Nest_6 : AC := .seq q_ref05_Nest_5 .ret
def q_ref05_Nest_7 : AC := .cond (.t 7) q_ref05_Nest_6 .skip
def q_ref05_Nest_8 : AC := .reg [⟨some 5, none, .mv (.t 0)⟩, ⟨some 6, none, .ca 53 [.t 5]⟩, ⟨some 7, none, .un .not (.t 6)⟩]
def q_ref05_Nest_9 : AC := .seq q_ref05_Nest_8 q_ref05_Nest_7
def q_ref05_Nest_10 : AC := .seq q_ref05_Nest_9 q_ref05_Nest_4
def q_ref05_Nest_11 : AC := .reg [⟨some 2, none, .mv (.c (.int .i64 0))⟩]
def q_ref05_Nest_12 : AC := .seq q_ref05_Nest_11 q_ref05_Nest_10
def c_ref05_Nest : FC := ⟨14, [2], q_ref05_Nest_12⟩
theorem k_ref05_Nest : okF Try.prog 55 c_ref05_Nest = true := by decide +kernel
noncomputable def ref05_Nest (e_0 : List ApiTerm) : Option Int := ((ref05_one e_0).bind (fun (y1 : Bool) => (bif (!y1) then (some 0) else ((ref05_levels e_0).bind (fun (y2 : Int × Int) => (some y2.2))))))
theorem ref05_Nest.ok {e_0 : List ApiTerm} {r : Int} (h : ref05_Nest e_0 = some r) : PC Try.prog 55 [.sl (List.map ApiTerm.cells e_0)] (.int .i64 r) := by
  refine PC_run k_ref05_Nest rfl (L := [(0, .u (.sl (List.map ApiTerm.cells e_0)))]) rfl ?_
  show Run Try.prog 14 (retQ [2] (.int .i64 r)) [] q_ref05_Nest_12 _
  refine R_seq ?_
  refine R_reg ?_
  refine S_pure trivial (O_mv (d := .u (.int .i64 0)) (by kernel_rfl)) ?_
  refine Rs_nil ?_
  refine N_s ?_
  refine R_seq ?_
  refine R_seq ?_
  refine R_reg ?_
  refine S_pure trivial (O_mv (d := .u (.sl (List.map ApiTerm.cells e_0))) (by kernel_rfl)) ?_
  obtain ⟨y1, hy1, h⟩ := bindS h
  refine S_pure trivial (O_ca (us := [.sl (List.map ApiTerm.cells e_0)]) (r := .bool y1) (by kernel_rfl) (ref05_one.ok hy1)) ?_
  refine S_pure trivial (O_not (b := y1) (by kernel_rfl)) ?_
  refine Rs_nil ?_
  refine N_s ?_
  refine R_cond (c := (!y1)) (by kernel_rfl) h (fun h => ?_) (fun h => ?_)
  · refine R_seq ?_
    refine R_reg ?_
    refine S_pure trivial (O_mv (d := .u (.int .i64 0)) (by kernel_rfl)) ?_
    refine Rs_nil ?_
    refine N_s ?_
    obtain rfl := (Option.some.inj h)
    refine R_ret ?_
    exact Q_ret (x := .int .i64 0) (by kernel_rfl) (.refl _)
  · refine R_skip ?_
    refine N_s ?_
    refine R_seq ?_
    refine R_reg ?_
    refine S_pure trivial (O_mv (d := .u (.sl (List.map ApiTerm.cells e_0))) (by kernel_rfl)) ?_
    obtain ⟨y2, hy2, h⟩ := bindS h
    refine S_pure trivial (O_ca (us := [.sl (List.map ApiTerm.cells e_0)]) (r := .tup [.int .i64 y2.1, .int .i64 y2.2]) (by kernel_rfl) (ref05_levels.ok hy2)) ?_
    refine S_pure trivial (O_mv (d := .u (.tup [.int .i64 y2.1, .int .i64 y2.2])) (by kernel_rfl)) ?_
    refine S_pure trivial (O_ex (us := [.int .i64 y2.1, .int .i64 y2.2]) (u := .int .i64 y2.1) (by kernel_rfl) (by kernel_rfl)) ?_
    refine S_pure trivial (O_ex (us := [.int .i64 y2.1, .int .i64 y2.2]) (u := .int .i64 y2.2) (by kernel_rfl) (by kernel_rfl)) ?_
    refine S_pure trivial (O_mv (d := .u (.int .i64 y2.1)) (by kernel_rfl)) ?_
    refine S_pure trivial (O_mv (d := .u (.int .i64 y2.2)) (by kernel_rfl)) ?_
    refine Rs_nil ?_
    refine N_s ?_
    refine R_seq ?_
    refine R_reg ?_
    refine S_pure trivial (O_mv (d := .u (.int .i64 y2.2)) (by kernel_rfl)) ?_
    refine S_pure trivial (O_mv (d := .u (.int .i64 y2.2)) (by kernel_rfl)) ?_
    refine Rs_nil ?_
    refine N_s ?_
    obtain rfl := (Option.some.inj h)
    refine R_ret ?_
    exact Q_ret (x := .int .i64 y2.2) (by kernel_rfl) (.refl _)

/-! ### selfstab/selfstabref05.argument -/
def q_ref05_argument_1 : AC := .reg [⟨some 29, none, .fa 1 (.t 2)⟩, ⟨some 30, none, .ld false 1 (.t 29)⟩, ⟨some 31, none, .bi .eql (.t 30) (.c (.int .i64 0))⟩, ⟨some 4, none, .mv (.t 31)⟩]
def q_ref05_argument_2 : AC := .seq q_ref05_argument_1 .ret
def q_ref05_argument_3 : AC := .reg [⟨some 20, none, .fa 1 (.t 2)⟩, ⟨some 21, none, .ld false 1 (.t 20)⟩, ⟨some 22, none, .bi .geq (.t 21) (.c (.int .i64 0))⟩, ⟨some 23, none, .mv (.t 22)⟩, ⟨some 24, some (23, true), .fa 1 (.t 2)⟩, ⟨some 25, some (23, true), .ld false 1 (.t 24)⟩, ⟨some 26, some (23, true), .mv (.t 1)⟩, ⟨some 27, some (23, true), .bi .lss (.t 25) (.t 26)⟩, ⟨some 28, none, .pk (.t 23) (.t 27) (.c (.bool false))⟩, ⟨some 4, none, .mv (.t 28)⟩]
def q_ref05_argument_4 : AC := .seq q_ref05_argument_3 .ret
def q_ref05_argument_5 : AC := .cond (.t 17) q_ref05_argument_4 .skip
def q_ref05_argument_6 : AC := .reg [⟨some 9, none, .fa 1 (.t 2)⟩, ⟨some 10, none, .ld false 1 (.t 9)⟩, ⟨some 11, none, .bi .geq (.t 10) (.c (.int .i64 0))⟩, ⟨some 12, none, .mv (.t 11)⟩, ⟨some 13, some (12, true), .fa 1 (.t 2)⟩, ⟨some 14, some (12, true), .ld false 1 (.t 13)⟩, ⟨some 15, some (12, true), .bi .leq (.t 14) (.c (.int .i64 1073741824))⟩, ⟨some 16, none, .pk (.t 12) (.t 15) (.c (.bool false))⟩, ⟨some 4, none, .mv (.t 16)⟩]
def q_ref05_argument_7 : AC := .seq q_ref05_argument_6 .ret
def q_ref05_argument_8 : AC := .reg [⟨some 19, none, .bi .eql (.t 6) (.c (.int .i64 12))⟩, ⟨some 17, none, .mv (.t 19)⟩]
def q_ref05_argument_9 : AC := .cond (.t 17) .skip q_ref05_argument_8
def q_ref05_argument_10 : AC := .reg [⟨some 18, none, .bi .eql (.t 6) (.c (.int .i64 5))⟩, ⟨some 17, none, .mv (.t 18)⟩]
def q_ref05_argument_11 : AC := .seq q_ref05_argument_10 q_ref05_argument_9
def q_ref05_argument_12 : AC := .seq q_ref05_argument_11 q_ref05_argument_5
def q_ref05_argument_13 : AC := .cond (.t 7) q_ref05_argument_7 q_ref05_argument_12
def q_ref05_argument_14 : AC := .reg [⟨some 8, none, .bi .eql (.t 6) (.c (.int .i64 1))⟩, ⟨some 7, none, .mv (.t 8)⟩]
def q_ref05_argument_15 : AC := .seq q_ref05_argument_14 q_ref05_argument_13
def q_ref05_argument_16 : AC := .block 0 q_ref05_argument_15
def q_ref05_argument_17 : AC := .reg [⟨some 5, none, .fa 0 (.t 2)⟩, ⟨some 6, none, .ld false 1 (.t 5)⟩]
def q_ref05_argument_18 : AC := .seq q_ref05_argument_17 q_ref05_argument_16
def q_ref05_argument_19 : AC := .seq q_ref05_argument_18 q_ref05_argument_2
def q_ref05_argument_20 : AC := .reg [⟨some 2, none, .bx (.t 0)⟩, ⟨some 4, none, .mv (.c (.bool false))⟩]
def q_ref05_argument_21 : AC := .seq q_ref05_argument_20 q_ref05_argument_19
def c_ref05_argument : FC := ⟨32, [4], q_ref05_argument_21⟩
theorem k_ref05_argument : okF Try.prog 56 c_ref05_argument = true := by decide +kernel
noncomputable def ref05_argument (t_0 : ApiTerm) (vars_1 : Int) : Option Bool := (bif (decide (t_0.Op = 1)) then (some ((decide (0 ≤ t_0.Arg)) && (decide (t_0.Arg ≤ 1073741824)))) else ((bif (decide (t_0.Op = 5)) then (some (decide (t_0.Op = 5))) else (some (decide (t_0.Op = 12)))).bind (fun (w4 : Bool) => (bif w4 then (some ((decide (0 ≤ t_0.Arg)) && (decide (t_0.Arg < vars_1)))) else (some (decide (t_0.Arg = 0)))))))
theorem ref05_argument.ok {t_0 : ApiTerm} {vars_1 : Int} {r : Bool} (h : ref05_argument t_0 vars_1 = some r) : PC Try.prog 56 [.agg (ApiTerm.cells t_0), .int .i64 vars_1] (.bool r) := by
  refine PC_run k_ref05_argument rfl (L := [(0, .u (.agg (ApiTerm.cells t_0))), (1, .u (.int .i64 vars_1))]) rfl ?_
  show Run Try.prog 32 (retQ [4] (.bool r)) [] q_ref05_argument_21 _
  refine R_seq ?_
  refine R_reg ?_
  refine S_up trivial (O_bx (d := .u (.agg (ApiTerm.cells t_0))) (ds := [.u (.int .i64 t_0.Op), .u (.int .i64 t_0.Arg)]) (by kernel_rfl) (by kernel_rfl)) ?_
  show Rs _ _ _ _ _ (mkSt [(2, .ref 0 2 0 0), (0, .u (.agg (ApiTerm.cells t_0))), (1, .u (.int .i64 vars_1))] [(0, .drow 2 [[.u (.int .i64 t_0.Op), .u (.int .i64 t_0.Arg)]])] 1)
  refine S_pure trivial (O_mv (d := .u (.bool false)) (by kernel_rfl)) ?_
  refine Rs_nil ?_
  refine N_s ?_
  refine R_seq ?_
  refine R_seq ?_
  refine R_reg ?_
  refine S_pure trivial (O_far (b := 0) (s := 2) (i := 0) (o := 0) (by kernel_rfl)) ?_
  refine S_pure trivial (O_ldo (b := 0) (s := 2) (off := 0) (ds := [.u (.int .i64 t_0.Op), .u (.int .i64 t_0.Arg)]) (d := .u (.int .i64 t_0.Op)) (by kernel_rfl) (by kernel_rfl) rfl (by kernel_rfl)) ?_
  refine Rs_nil ?_
  refine N_s ?_
  refine R_block ?_
  refine R_seq ?_
  refine R_reg ?_
  refine S_pure trivial (O_eql (k := .i64) (a := t_0.Op) (b := 1) (by kernel_rfl) (by kernel_rfl)) ?_
  refine S_pure trivial (O_mv (d := .u (.bool ((decide (t_0.Op = 1))))) (by kernel_rfl)) ?_
  refine Rs_nil ?_
  refine N_s ?_
  refine R_cond (c := (decide (t_0.Op = 1))) (by kernel_rfl) h (fun h => ?_) (fun h => ?_)
  · refine R_seq ?_
    refine R_reg ?_
    refine S_pure trivial (O_far (b := 0) (s := 2) (i := 0) (o := 0) (by kernel_rfl)) ?_
    refine S_pure trivial (O_ldo (b := 0) (s := 2) (off := 1) (ds := [.u (.int .i64 t_0.Op), .u (.int .i64 t_0.Arg)]) (d := .u (.int .i64 t_0.Arg)) (by kernel_rfl) (by kernel_rfl) rfl (by kernel_rfl)) ?_
    refine S_pure trivial (O_geq (k := .i64) (a := t_0.Arg) (b := 0) (by kernel_rfl) (by kernel_rfl)) ?_
    refine S_pure trivial (O_mv (d := .u (.bool ((decide (0 ≤ t_0.Arg))))) (by kernel_rfl)) ?_
    have K1 : ∀ v2 : Bool, v2 = ((decide (0 ≤ t_0.Arg)) && (decide (t_0.Arg ≤ 1073741824))) → Rs Try.prog 32 (retQ [4] (.bool r)) [.s .ret, .b 0, .s q_ref05_argument_2] [⟨some 4, none, .mv (.t 16)⟩] (mkSt [(16, .u (.bool v2))] [] 1) := by
      intro v2 e; subst e
      refine S_pure trivial (O_mv (d := .u (.bool (((decide (0 ≤ t_0.Arg)) && (decide (t_0.Arg ≤ 1073741824)))))) (by kernel_rfl)) ?_
      refine Rs_nil ?_
      refine N_s ?_
      obtain rfl := (Option.some.inj h)
      refine R_ret ?_
      exact Q_ret (x := .bool (((decide (0 ≤ t_0.Arg)) && (decide (t_0.Arg ≤ 1073741824))))) (by kernel_rfl) (.refl _)
    refine S_case0 (t := 12) (c := (decide (0 ≤ t_0.Arg))) (by kernel_rfl) (fun hc => ?_) (fun hc => ?_)
    · refine S_pure (by show _ = _; kernel_rfl) (O_far (b := 0) (s := 2) (i := 0) (o := 0) (by kernel_rfl)) ?_
      refine S_pure (by show _ = _; kernel_rfl) (O_ldo (b := 0) (s := 2) (off := 1) (ds := [.u (.int .i64 t_0.Op), .u (.int .i64 t_0.Arg)]) (d := .u (.int .i64 t_0.Arg)) (by kernel_rfl) (by kernel_rfl) rfl (by kernel_rfl)) ?_
      refine S_pure (by show _ = _; kernel_rfl) (O_leq (k := .i64) (a := t_0.Arg) (b := 1073741824) (by kernel_rfl) (by kernel_rfl)) ?_
      refine S_pure trivial (O_pkt (d := .u (.bool ((decide (t_0.Arg ≤ 1073741824))))) (by kernel_rfl) (by kernel_rfl)) ?_
      exact Rs_weak (W_to (by kernel_rfl) (by kernel_rfl) (by kernel_rfl)) (K1 _ (by rw [hc] <;> rfl))
    · refine S_skip (b := false) (by kernel_rfl) rfl ?_
      refine S_skip (b := false) (by kernel_rfl) rfl ?_
      refine S_skip (b := false) (by kernel_rfl) rfl ?_
      refine S_pure trivial (O_pkf (d := .u (.bool false)) (by kernel_rfl) (by kernel_rfl)) ?_
      exact Rs_weak (W_to (by kernel_rfl) (by kernel_rfl) (by kernel_rfl)) (K1 _ (by rw [hc] <;> rfl))
  · obtain ⟨o3, hE, h⟩ := bindS h
    have K5 : ∀ (w4 : Bool), w4 = o3 → Run Try.prog 32 (retQ [4] (.bool r)) [.b 0, .s q_ref05_argument_2] q_ref05_argument_5 (mkSt [(1, .u (.int .i64 vars_1)), (2, .ref 0 2 0 0), (17, .u (.bool w4))] [(0, .drow 2 [[.u (.int .i64 t_0.Op), .u (.int .i64 t_0.Arg)]])] 1) := by
      intro w4 e; subst e
      refine R_cond (c := w4) (by kernel_rfl) h (fun h => ?_) (fun h => ?_)
      · refine R_seq ?_
        refine R_reg ?_
        refine S_pure trivial (O_far (b := 0) (s := 2) (i := 0) (o := 0) (by kernel_rfl)) ?_
        refine S_pure trivial (O_ldo (b := 0) (s := 2) (off := 1) (ds := [.u (.int .i64 t_0.Op), .u (.int .i64 t_0.Arg)]) (d := .u (.int .i64 t_0.Arg)) (by kernel_rfl) (by kernel_rfl) rfl (by kernel_rfl)) ?_
        refine S_pure trivial (O_geq (k := .i64) (a := t_0.Arg) (b := 0) (by kernel_rfl) (by kernel_rfl)) ?_
        refine S_pure trivial (O_mv (d := .u (.bool ((decide (0 ≤ t_0.Arg))))) (by kernel_rfl)) ?_
        have K6 : ∀ v7 : Bool, v7 = ((decide (0 ≤ t_0.Arg)) && (decide (t_0.Arg < vars_1))) → Rs Try.prog 32 (retQ [4] (.bool r)) [.s .ret, .b 0, .s q_ref05_argument_2] [⟨some 4, none, .mv (.t 28)⟩] (mkSt [(28, .u (.bool v7))] [] 1) := by
          intro v7 e; subst e
          refine S_pure trivial (O_mv (d := .u (.bool (((decide (0 ≤ t_0.Arg)) && (decide (t_0.Arg < vars_1)))))) (by kernel_rfl)) ?_
          refine Rs_nil ?_
          refine N_s ?_
          obtain rfl := (Option.some.inj h)
          refine R_ret ?_
          exact Q_ret (x := .bool (((decide (0 ≤ t_0.Arg)) && (decide (t_0.Arg < vars_1))))) (by kernel_rfl) (.refl _)
        refine S_case0 (t := 23) (c := (decide (0 ≤ t_0.Arg))) (by kernel_rfl) (fun hc => ?_) (fun hc => ?_)
        · refine S_pure (by show _ = _; kernel_rfl) (O_far (b := 0) (s := 2) (i := 0) (o := 0) (by kernel_rfl)) ?_
          refine S_pure (by show _ = _; kernel_rfl) (O_ldo (b := 0) (s := 2) (off := 1) (ds := [.u (.int .i64 t_0.Op), .u (.int .i64 t_0.Arg)]) (d := .u (.int .i64 t_0.Arg)) (by kernel_rfl) (by kernel_rfl) rfl (by kernel_rfl)) ?_
          refine S_pure (by show _ = _; kernel_rfl) (O_mv (d := .u (.int .i64 vars_1)) (by kernel_rfl)) ?_
          refine S_pure (by show _ = _; kernel_rfl) (O_lss (k := .i64) (a := t_0.Arg) (b := vars_1) (by kernel_rfl) (by kernel_rfl)) ?_
          refine S_pure trivial (O_pkt (d := .u (.bool ((decide (t_0.Arg < vars_1))))) (by kernel_rfl) (by kernel_rfl)) ?_
          exact Rs_weak (W_to (by kernel_rfl) (by kernel_rfl) (by kernel_rfl)) (K6 _ (by rw [hc] <;> rfl))
        · refine S_skip (b := false) (by kernel_rfl) rfl ?_
          refine S_skip (b := false) (by kernel_rfl) rfl ?_
          refine S_skip (b := false) (by kernel_rfl) rfl ?_
          refine S_skip (b := false) (by kernel_rfl) rfl ?_
          refine S_pure trivial (O_pkf (d := .u (.bool false)) (by kernel_rfl) (by kernel_rfl)) ?_
          exact Rs_weak (W_to (by kernel_rfl) (by kernel_rfl) (by kernel_rfl)) (K6 _ (by rw [hc] <;> rfl))
      · refine R_skip ?_
        refine N_b ?_
        refine N_s ?_
        refine R_seq ?_
        refine R_reg ?_
        refine S_pure trivial (O_far (b := 0) (s := 2) (i := 0) (o := 0) (by kernel_rfl)) ?_
        refine S_pure trivial (O_ldo (b := 0) (s := 2) (off := 1) (ds := [.u (.int .i64 t_0.Op), .u (.int .i64 t_0.Arg)]) (d := .u (.int .i64 t_0.Arg)) (by kernel_rfl) (by kernel_rfl) rfl (by kernel_rfl)) ?_
        refine S_pure trivial (O_eql (k := .i64) (a := t_0.Arg) (b := 0) (by kernel_rfl) (by kernel_rfl)) ?_
        refine S_pure trivial (O_mv (d := .u (.bool ((decide (t_0.Arg = 0))))) (by kernel_rfl)) ?_
        refine Rs_nil ?_
        refine N_s ?_
        obtain rfl := (Option.some.inj h)
        refine R_ret ?_
        exact Q_ret (x := .bool ((decide (t_0.Arg = 0)))) (by kernel_rfl) (.refl _)
    replace h := hE
    refine R_seq ?_
    refine R_seq ?_
    refine R_reg ?_
    refine S_pure trivial (O_eql (k := .i64) (a := t_0.Op) (b := 5) (by kernel_rfl) (by kernel_rfl)) ?_
    refine S_pure trivial (O_mv (d := .u (.bool ((decide (t_0.Op = 5))))) (by kernel_rfl)) ?_
    refine Rs_nil ?_
    refine N_s ?_
    refine R_cond (c := (decide (t_0.Op = 5))) (by kernel_rfl) h (fun h => ?_) (fun h => ?_)
    · refine R_skip ?_
      refine N_s ?_
      exact R_weak (W_to (by kernel_rfl) (by kernel_rfl) (by kernel_rfl)) (K5 _ (Option.some.inj h))
    · refine R_reg ?_
      refine S_pure trivial (O_eql (k := .i64) (a := t_0.Op) (b := 12) (by kernel_rfl) (by kernel_rfl)) ?_
      refine S_pure trivial (O_mv (d := .u (.bool ((decide (t_0.Op = 12))))) (by kernel_rfl)) ?_
      refine Rs_nil ?_
      refine N_s ?_
      exact R_weak (W_to (by kernel_rfl) (by kernel_rfl) (by kernel_rfl)) (K5 _ (Option.some.inj h))

/-! ### selfstab/selfstabref05.Valid -/
def q_ref05_Valid_1 : AC := .reg [⟨some 4, none, .mv (.c (.bool true))⟩]
def q_ref05_Valid_2 : AC := .seq q_ref05_Valid_1 .ret
def q_ref05_Valid_3 : AC := .reg [⟨some 4, none, .mv (.c (.bool false))⟩]
def q_ref05_Valid_4 : AC := .seq q_ref05_Valid_3 .ret
def q_ref05_Valid_5 : AC := .cond (.t 23) q_ref05_Valid_4 .skip
def q_ref05_Valid_6 : AC := .reg [⟨some 28, none, .mv (.t 5)⟩, ⟨some 29, none, .bi .add (.t 28) (.c (.int .i64 1))⟩, ⟨some 5, none, .mv (.t 29)⟩]
def q_ref05_Valid_7 : AC := .reg [⟨some 4, none, .mv (.c (.bool false))⟩]
def q_ref05_Valid_8 : AC := .seq q_ref05_Valid_7 .ret
def q_ref05_Valid_9 : AC := .cond (.t 36) q_ref05_Valid_8 .skip
def q_ref05_Valid_10 : AC := .reg [⟨some 30, none, .mv (.t 0)⟩, ⟨some 31, none, .mv (.t 5)⟩, ⟨some 32, none, .ia 2 (.t 30) (.t 31)⟩, ⟨some 33, none, .ld true 2 (.t 32)⟩, ⟨some 34, none, .mv (.t 1)⟩, ⟨some 35, none, .ca 56 [.t 33, .t 34]⟩, ⟨some 36, none, .un .not (.t 35)⟩]
def q_ref05_Valid_11 : AC := .seq q_ref05_Valid_10 q_ref05_Valid_9
def q_ref05_Valid_12 : AC := .block 1 q_ref05_Valid_11
def q_ref05_Valid_13 : AC := .seq q_ref05_Valid_12 q_ref05_Valid_6
def q_ref05_Valid_14 : AC := .cond (.t 27) .skip (.exit 0)
def q_ref05_Valid_15 : AC := .reg [⟨some 24, none, .mv (.t 5)⟩, ⟨some 25, none, .mv (.t 0)⟩, ⟨some 26, none, .ln (.t 25)⟩, ⟨some 27, none, .bi .lss (.t 24) (.t 26)⟩]
def q_ref05_Valid_16 : AC := .seq q_ref05_Valid_15 q_ref05_Valid_14
def q_ref05_Valid_17 : AC := .seq q_ref05_Valid_16 q_ref05_Valid_13
def q_ref05_Valid_18 : AC := .loop q_ref05_Valid_17
def q_ref05_Valid_19 : AC := .block 0 q_ref05_Valid_18
def q_ref05_Valid_20 : AC := .reg [⟨some 5, none, .mv (.c (.int .i64 0))⟩]
def q_ref05_Valid_21 : AC := .seq q_ref05_Valid_20 q_ref05_Valid_19
def q_ref05_Valid_22 : AC := .seq q_ref05_Valid_21 q_ref05_Valid_2
def q_ref05_Valid_23 : AC := .reg [⟨some 6, none, .mv (.t 0)⟩, ⟨some 7, none, .ln (.t 6)⟩, ⟨some 8, none, .bi .gtr (.t 7) (.c (.int .i64 200))⟩, ⟨some 9, none, .mv (.t 8)⟩, ⟨some 10, some (9, false), .mv (.t 0)⟩, ⟨some 11, some (9, false), .ca 53 [.t 10]⟩, ⟨some 12, some (9, false), .un .not (.t 11)⟩, ⟨some 13, none, .pk (.t 9) (.c (.bool true)) (.t 12)⟩, ⟨some 14, none, .mv (.t 13)⟩, ⟨some 15, some (14, false), .mv (.t 0)⟩, ⟨some 16, some (14, false), .ca 54 [.t 15]⟩, ⟨some 17, some (14, false), .bi .gtr (.t 16) (.c (.int .i64 24))⟩, ⟨some 18, none, .pk (.t 14) (.c (.bool true)) (.t 17)⟩, ⟨some 19, none, .mv (.t 18)⟩, ⟨some 20, some (19, false), .mv (.t 0)⟩, ⟨some 21, some (19, false), .ca 55 [.t 20]⟩, ⟨some 22, some (19, false), .bi .gtr (.t 21) (.c (.int .i64 2))⟩, ⟨some 23, none, .pk (.t 19) (.c (.bool true)) (.t 22)⟩]
def q_ref05_Valid_24 : AC := .seq q_ref05_Valid_23 q_ref05_Valid_5
def q_ref05_Valid_25 : AC := .seq q_ref05_Valid_24 q_ref05_Valid_22
def q_ref05_Valid_26 : AC := .reg [⟨some 4, none, .mv (.c (.bool false))⟩]
def q_ref05_Valid_27 : AC := .seq q_ref05_Valid_26 q_ref05_Valid_25
def c_ref05_Valid : FC := ⟨37, [4], q_ref05_Valid_27⟩
theorem k_ref05_Valid : okF Try.prog 32 c_ref05_Valid = true := by decide +kernel
noncomputable def ref05_Valid.l20 (e_0 : List ApiTerm) (vars_1 : Int) (s16 : Int) : Option (Int ⊕ (Unit ⊕ Bool)) := (bif (decide (s16 < (List.length e_0 : Int))) then ((idx e_0 s16).bind (fun (y18 : ApiTerm) => ((ref05_argument y18 vars_1).bind (fun (y19 : Bool) => (bif (!y19) then (some (Sum.inr (Sum.inr false))) else (some (Sum.inl (IntKind.i64.wrap (s16 + 1))))))))) else (some (Sum.inr (Sum.inl ()))))
noncomputable def ref05_Valid (e_0 : List ApiTerm) (vars_1 : Int) : Option Bool := ((bif (decide (200 < (List.length e_0 : Int))) then (some true) else ((ref05_one e_0).bind (fun (y23 : Bool) => (some (!y23))))).bind (fun (o3 : Bool) => ((bif o3 then (some true) else ((ref05_Depth e_0).bind (fun (y22 : Int) => (some (decide (24 < y22)))))).bind (fun (o6 : Bool) => ((bif o6 then (some true) else ((ref05_Nest e_0).bind (fun (y21 : Int) => (some (decide (2 < y21)))))).bind (fun (o9 : Bool) => (bif o9 then (some false) else ((loopO (ref05_Valid.l20 e_0 vars_1) 0).bind (Sum.elim (fun (w12 : Unit) => (some true)) (fun (w14 : Bool) => (some w14)))))))))))
theorem ref05_Valid.ok {e_0 : List ApiTerm} {vars_1 : Int} {r : Bool} (h : ref05_Valid e_0 vars_1 = some r) : PC Try.prog 32 [.sl (List.map ApiTerm.cells e_0), .int .i64 vars_1] (.bool r) := by
  refine PC_run k_ref05_Valid rfl (L := [(0, .u (.sl (List.map ApiTerm.cells e_0))), (1, .u (.int .i64 vars_1))]) rfl ?_
  show Run Try.prog 37 (retQ [4] (.bool r)) [] q_ref05_Valid_27 _
  refine R_seq ?_
  refine R_reg ?_
  refine S_pure trivial (O_mv (d := .u (.bool false)) (by kernel_rfl)) ?_
  refine Rs_nil ?_
  refine N_s ?_
  refine R_seq ?_
  refine R_seq ?_
  refine R_reg ?_
  refine S_pure trivial (O_mv (d := .u (.sl (List.map ApiTerm.cells e_0))) (by kernel_rfl)) ?_
  refine S_pure trivial (O_ln (c := ApiTerm.cells) (li := e_0) (by kernel_rfl)) ?_
  refine S_pure trivial (O_gtr (k := .i64) (a := (List.length e_0 : Int)) (b := 200) (by kernel_rfl) (by kernel_rfl)) ?_
  refine S_pure trivial (O_mv (d := .u (.bool ((decide (200 < (List.length e_0 : Int)))))) (by kernel_rfl)) ?_
  obtain ⟨o3, hE, h⟩ := bindS h
  have K1 : Rs Try.prog 37 (retQ [4] (.bool r)) [.s q_ref05_Valid_5, .s q_ref05_Valid_22] [⟨some 14, none, .mv (.t 13)⟩, ⟨some 15, some (14, false), .mv (.t 0)⟩, ⟨some 16, some (14, false), .ca 54 [.t 15]⟩, ⟨some 17, some (14, false), .bi .gtr (.t 16) (.c (.int .i64 24))⟩, ⟨some 18, none, .pk (.t 14) (.c (.bool true)) (.t 17)⟩, ⟨some 19, none, .mv (.t 18)⟩, ⟨some 20, some (19, false), .mv (.t 0)⟩, ⟨some 21, some (19, false), .ca 55 [.t 20]⟩, ⟨some 22, some (19, false), .bi .gtr (.t 21) (.c (.int .i64 2))⟩, ⟨some 23, none, .pk (.t 19) (.c (.bool true)) (.t 22)⟩] (mkSt [(0, .u (.sl (List.map ApiTerm.cells e_0))), (1, .u (.int .i64 vars_1)), (13, .u (.bool o3))] [] 0) := by
    refine S_pure trivial (O_mv (d := .u (.bool o3)) (by kernel_rfl)) ?_
    obtain ⟨o6, hE, h⟩ := bindS h
    have K4 : Rs Try.prog 37 (retQ [4] (.bool r)) [.s q_ref05_Valid_5, .s q_ref05_Valid_22] [⟨some 19, none, .mv (.t 18)⟩, ⟨some 20, some (19, false), .mv (.t 0)⟩, ⟨some 21, some (19, false), .ca 55 [.t 20]⟩, ⟨some 22, some (19, false), .bi .gtr (.t 21) (.c (.int .i64 2))⟩, ⟨some 23, none, .pk (.t 19) (.c (.bool true)) (.t 22)⟩] (mkSt [(0, .u (.sl (List.map ApiTerm.cells e_0))), (1, .u (.int .i64 vars_1)), (18, .u (.bool o6))] [] 0) := by
      refine S_pure trivial (O_mv (d := .u (.bool o6)) (by kernel_rfl)) ?_
      obtain ⟨o9, hE, h⟩ := bindS h
      have K7 : Rs Try.prog 37 (retQ [4] (.bool r)) [.s q_ref05_Valid_5, .s q_ref05_Valid_22] [] (mkSt [(0, .u (.sl (List.map ApiTerm.cells e_0))), (1, .u (.int .i64 vars_1)), (23, .u (.bool o9))] [] 0) := by
        refine Rs_nil ?_
        refine N_s ?_
        refine R_cond (c := o9) (by kernel_rfl) h (fun h => ?_) (fun h => ?_)
        · refine R_seq ?_
          refine R_reg ?_
          refine S_pure trivial (O_mv (d := .u (.bool false)) (by kernel_rfl)) ?_
          refine Rs_nil ?_
          refine N_s ?_
          obtain rfl := (Option.some.inj h)
          refine R_ret ?_
          exact Q_ret (x := .bool false) (by kernel_rfl) (.refl _)
        · refine R_skip ?_
          refine N_s ?_
          refine R_seq ?_
          refine R_seq ?_
          refine R_reg ?_
          refine S_pure trivial (O_mv (d := .u (.int .i64 0)) (by kernel_rfl)) ?_
          refine Rs_nil ?_
          refine N_s ?_
          refine R_block ?_
          obtain ⟨o10, hE, h⟩ := bindS h
          have K13 : ∀ (w12 : Unit), (Sum.inl w12) = o10 → Run Try.prog 37 (retQ [4] (.bool r)) [] q_ref05_Valid_2 (mkSt [] [] 0) := by
            intro w12 e; subst e
            replace h := elimL h
            refine R_seq ?_
            refine R_reg ?_
            refine S_pure trivial (O_mv (d := .u (.bool true)) (by kernel_rfl)) ?_
            refine Rs_nil ?_
            refine N_s ?_
            obtain rfl := (Option.some.inj h)
            refine R_ret ?_
            exact Q_ret (x := .bool true) (by kernel_rfl) (.refl _)
          have K15 : ∀ (w14 : Bool), (Sum.inr w14) = o10 → w14 = r := by
            intro w14 e; subst e
            replace h := elimR h
            exact Option.some.inj h
          refine R_loop (ref05_Valid.l20 e_0 vars_1) (fun s16 => (mkSt [(0, .u (.sl (List.map ApiTerm.cells e_0))), (1, .u (.int .i64 vars_1)), (5, .u (.int .i64 s16))] [] 0)) hE (W_to (by kernel_rfl) (by kernel_rfl) (by kernel_rfl)) ?_
          intro K11 s16 x17 h hK11 hO11
          refine R_seq ?_
          refine R_seq ?_
          refine R_reg ?_
          refine S_pure trivial (O_mv (d := .u (.int .i64 s16)) (by kernel_rfl)) ?_
          refine S_pure trivial (O_mv (d := .u (.sl (List.map ApiTerm.cells e_0))) (by kernel_rfl)) ?_
          refine S_pure trivial (O_ln (c := ApiTerm.cells) (li := e_0) (by kernel_rfl)) ?_
          refine S_pure trivial (O_lss (k := .i64) (a := s16) (b := (List.length e_0 : Int)) (by kernel_rfl) (by kernel_rfl)) ?_
          refine Rs_nil ?_
          refine N_s ?_
          refine R_cond (c := (decide (s16 < (List.length e_0 : Int)))) (by kernel_rfl) h (fun h => ?_) (fun h => ?_)
          · refine R_skip ?_
            refine N_s ?_
            refine R_seq ?_
            refine R_block ?_
            refine R_seq ?_
            refine R_reg ?_
            refine S_pure trivial (O_mv (d := .u (.sl (List.map ApiTerm.cells e_0))) (by kernel_rfl)) ?_
            refine S_pure trivial (O_mv (d := .u (.int .i64 s16)) (by kernel_rfl)) ?_
            obtain ⟨y18, hy18, h⟩ := bindS h
            refine S_pure trivial (O_ia (c := ApiTerm.cells) (li := e_0) (i := s16) (k := .i64) (a := y18) (u := ApiTerm.cells y18) (by kernel_rfl) (by kernel_rfl) hy18 rfl rfl) ?_
            refine S_pure trivial (O_lda (cells := ApiTerm.cells y18) (off := 0) (us := ApiTerm.cells y18) (by kernel_rfl) rfl (by kernel_rfl)) ?_
            refine S_pure trivial (O_mv (d := .u (.int .i64 vars_1)) (by kernel_rfl)) ?_
            obtain ⟨y19, hy19, h⟩ := bindS h
            refine S_pure trivial (O_ca (us := [.agg (ApiTerm.cells y18), .int .i64 vars_1]) (r := .bool y19) (by kernel_rfl) (ref05_argument.ok hy19)) ?_
            refine S_pure trivial (O_not (b := y19) (by kernel_rfl)) ?_
            refine Rs_nil ?_
            refine N_s ?_
            refine R_cond (c := (!y19)) (by kernel_rfl) h (fun h => ?_) (fun h => ?_)
            · refine R_seq ?_
              refine R_reg ?_
              refine S_pure trivial (O_mv (d := .u (.bool false)) (by kernel_rfl)) ?_
              refine Rs_nil ?_
              refine N_s ?_
              obtain rfl := (K15 _ (hO11 _ h))
              refine R_ret ?_
              exact Q_ret (x := .bool false) (by kernel_rfl) (.refl _)
            · refine R_skip ?_
              refine N_b ?_
              refine N_s ?_
              refine R_reg ?_
              refine S_pure trivial (O_mv (d := .u (.int .i64 s16)) (by kernel_rfl)) ?_
              refine S_pure trivial (O_add (k := .i64) (a := s16) (b := 1) (by kernel_rfl) (by kernel_rfl)) ?_
              refine S_pure trivial (O_mv (d := .u (.int .i64 ((IntKind.i64.wrap (s16 + 1))))) (by kernel_rfl)) ?_
              refine Rs_nil ?_
              exact N_k (hK11 _ h _ (W_to (by kernel_rfl) (by kernel_rfl) (by kernel_rfl)))
          · refine R_exit ?_
            refine E_s ?_
            refine E_k ?_
            refine E_b ?_
            refine N_s ?_
            exact R_weak (W_to (by kernel_rfl) (by kernel_rfl) (by kernel_rfl)) (K13 _ (hO11 _ h))
      replace h := hE
      refine S_case (t := 19) (c := o6) (by kernel_rfl) h (fun hc h => ?_) (fun hc h => ?_)
      · refine S_skip (b := true) (by kernel_rfl) rfl ?_
        refine S_skip (b := true) (by kernel_rfl) rfl ?_
        refine S_skip (b := true) (by kernel_rfl) rfl ?_
        refine S_pure trivial (O_pkt (d := .u (.bool true)) (by kernel_rfl) (by kernel_rfl)) ?_
        obtain rfl := Option.some.inj h
        exact Rs_weak (W_to (by kernel_rfl) (by kernel_rfl) (by kernel_rfl)) K7
      · refine S_pure (by show _ = _; kernel_rfl) (O_mv (d := .u (.sl (List.map ApiTerm.cells e_0))) (by kernel_rfl)) ?_
        obtain ⟨y21, hy21, h⟩ := bindS h
        refine S_pure (by show _ = _; kernel_rfl) (O_ca (us := [.sl (List.map ApiTerm.cells e_0)]) (r := .int .i64 y21) (by kernel_rfl) (ref05_Nest.ok hy21)) ?_
        refine S_pure (by show _ = _; kernel_rfl) (O_gtr (k := .i64) (a := y21) (b := 2) (by kernel_rfl) (by kernel_rfl)) ?_
        refine S_pure trivial (O_pkf (d := .u (.bool ((decide (2 < y21))))) (by kernel_rfl) (by kernel_rfl)) ?_
        obtain rfl := Option.some.inj h
        exact Rs_weak (W_to (by kernel_rfl) (by kernel_rfl) (by kernel_rfl)) K7
    replace h := hE
    refine S_case (t := 14) (c := o3) (by kernel_rfl) h (fun hc h => ?_) (fun hc h => ?_)
    · refine S_skip (b := true) (by kernel_rfl) rfl ?_
      refine S_skip (b := true) (by kernel_rfl) rfl ?_
      refine S_skip (b := true) (by kernel_rfl) rfl ?_
      refine S_pure trivial (O_pkt (d := .u (.bool true)) (by kernel_rfl) (by kernel_rfl)) ?_
      obtain rfl := Option.some.inj h
      exact Rs_weak (W_to (by kernel_rfl) (by kernel_rfl) (by kernel_rfl)) K4
    · refine S_pure (by show _ = _; kernel_rfl) (O_mv (d := .u (.sl (List.map ApiTerm.cells e_0))) (by kernel_rfl)) ?_
      obtain ⟨y22, hy22, h⟩ := bindS h
      refine S_pure (by show _ = _; kernel_rfl) (O_ca (us := [.sl (List.map ApiTerm.cells e_0)]) (r := .int .i64 y22) (by kernel_rfl) (ref05_Depth.ok hy22)) ?_
      refine S_pure (by show _ = _; kernel_rfl) (O_gtr (k := .i64) (a := y22) (b := 24) (by kernel_rfl) (by kernel_rfl)) ?_
      refine S_pure trivial (O_pkf (d := .u (.bool ((decide (24 < y22))))) (by kernel_rfl) (by kernel_rfl)) ?_
      obtain rfl := Option.some.inj h
      exact Rs_weak (W_to (by kernel_rfl) (by kernel_rfl) (by kernel_rfl)) K4
  replace h := hE
  refine S_case (t := 9) (c := (decide (200 < (List.length e_0 : Int)))) (by kernel_rfl) h (fun hc h => ?_) (fun hc h => ?_)
  · refine S_skip (b := true) (by kernel_rfl) rfl ?_
    refine S_skip (b := true) (by kernel_rfl) rfl ?_
    refine S_skip (b := true) (by kernel_rfl) rfl ?_
    refine S_pure trivial (O_pkt (d := .u (.bool true)) (by kernel_rfl) (by kernel_rfl)) ?_
    obtain rfl := Option.some.inj h
    exact Rs_weak (W_to (by kernel_rfl) (by kernel_rfl) (by kernel_rfl)) K1
  · refine S_pure (by show _ = _; kernel_rfl) (O_mv (d := .u (.sl (List.map ApiTerm.cells e_0))) (by kernel_rfl)) ?_
    obtain ⟨y23, hy23, h⟩ := bindS h
    refine S_pure (by show _ = _; kernel_rfl) (O_ca (us := [.sl (List.map ApiTerm.cells e_0)]) (r := .bool y23) (by kernel_rfl) (ref05_one.ok hy23)) ?_
    refine S_pure (by show _ = _; kernel_rfl) (O_not (b := y23) (by kernel_rfl)) ?_
    refine S_pure trivial (O_pkf (d := .u (.bool ((!y23)))) (by kernel_rfl) (by kernel_rfl)) ?_
    obtain rfl := Option.some.inj h
    exact Rs_weak (W_to (by kernel_rfl) (by kernel_rfl) (by kernel_rfl)) K1

/-! ### selfstab/selfstabref07.leaf -/
def q_ref07_leaf_1 : AC := .reg [⟨some 6, none, .mv (.c (.int .i64 0))⟩]
def q_ref07_leaf_2 : AC := .seq q_ref07_leaf_1 .ret
def q_ref07_leaf_3 : AC := .cond (.t 18) q_ref07_leaf_2 .skip
def q_ref07_leaf_4 : AC := .reg [⟨some 6, none, .mv (.c (.int .i64 1))⟩]
def q_ref07_leaf_5 : AC := .seq q_ref07_leaf_4 .ret
def q_ref07_leaf_6 : AC := .reg [⟨some 6, none, .mv (.c (.int .i64 2))⟩]
def q_ref07_leaf_7 : AC := .seq q_ref07_leaf_6 .ret
def q_ref07_leaf_8 : AC := .reg [⟨some 6, none, .mv (.c (.int .i64 3))⟩]
def q_ref07_leaf_9 : AC := .seq q_ref07_leaf_8 .ret
def q_ref07_leaf_10 : AC := .reg [⟨some 33, none, .mv (.t 1)⟩, ⟨some 34, none, .fa 1 (.t 3)⟩, ⟨some 35, none, .ld false 1 (.t 34)⟩, ⟨some 36, none, .ia 1 (.t 33) (.t 35)⟩, ⟨some 37, none, .ld false 1 (.t 36)⟩, ⟨some 6, none, .mv (.t 37)⟩]
def q_ref07_leaf_11 : AC := .seq q_ref07_leaf_10 .ret
def q_ref07_leaf_12 : AC := .cond (.t 30) q_ref07_leaf_11 .skip
def q_ref07_leaf_13 : AC := .reg [⟨some 32, none, .bi .eql (.t 20) (.c (.int .i64 12))⟩, ⟨some 30, none, .mv (.t 32)⟩]
def q_ref07_leaf_14 : AC := .cond (.t 30) .skip q_ref07_leaf_13
def q_ref07_leaf_15 : AC := .reg [⟨some 31, none, .bi .eql (.t 20) (.c (.int .i64 5))⟩, ⟨some 30, none, .mv (.t 31)⟩]
def q_ref07_leaf_16 : AC := .seq q_ref07_leaf_15 q_ref07_leaf_14
def q_ref07_leaf_17 : AC := .seq q_ref07_leaf_16 q_ref07_leaf_12
def q_ref07_leaf_18 : AC := .cond (.t 26) q_ref07_leaf_9 q_ref07_leaf_17
def q_ref07_leaf_19 : AC := .reg [⟨some 29, none, .bi .eql (.t 20) (.c (.int .i64 17))⟩, ⟨some 26, none, .mv (.t 29)⟩]
def q_ref07_leaf_20 : AC := .cond (.t 26) .skip q_ref07_leaf_19
def q_ref07_leaf_21 : AC := .reg [⟨some 28, none, .bi .eql (.t 20) (.c (.int .i64 11))⟩, ⟨some 26, none, .mv (.t 28)⟩]
def q_ref07_leaf_22 : AC := .seq q_ref07_leaf_21 q_ref07_leaf_20
def q_ref07_leaf_23 : AC := .cond (.t 26) .skip q_ref07_leaf_22
def q_ref07_leaf_24 : AC := .reg [⟨some 27, none, .bi .eql (.t 20) (.c (.int .i64 4))⟩, ⟨some 26, none, .mv (.t 27)⟩]
def q_ref07_leaf_25 : AC := .seq q_ref07_leaf_24 q_ref07_leaf_23
def q_ref07_leaf_26 : AC := .seq q_ref07_leaf_25 q_ref07_leaf_18
def q_ref07_leaf_27 : AC := .cond (.t 21) q_ref07_leaf_7 q_ref07_leaf_26
def q_ref07_leaf_28 : AC := .reg [⟨some 25, none, .bi .eql (.t 20) (.c (.int .i64 15))⟩, ⟨some 21, none, .mv (.t 25)⟩]
def q_ref07_leaf_29 : AC := .cond (.t 21) .skip q_ref07_leaf_28
def q_ref07_leaf_30 : AC := .reg [⟨some 24, none, .bi .eql (.t 20) (.c (.int .i64 10))⟩, ⟨some 21, none, .mv (.t 24)⟩]
def q_ref07_leaf_31 : AC := .seq q_ref07_leaf_30 q_ref07_leaf_29
def q_ref07_leaf_32 : AC := .cond (.t 21) .skip q_ref07_leaf_31
def q_ref07_leaf_33 : AC := .reg [⟨some 23, none, .bi .eql (.t 20) (.c (.int .i64 3))⟩, ⟨some 21, none, .mv (.t 23)⟩]
def q_ref07_leaf_34 : AC := .seq q_ref07_leaf_33 q_ref07_leaf_32
def q_ref07_leaf_35 : AC := .cond (.t 21) .skip q_ref07_leaf_34
def q_ref07_leaf_36 : AC := .reg [⟨some 22, none, .bi .eql (.t 20) (.c (.int .i64 2))⟩, ⟨some 21, none, .mv (.t 22)⟩]
def q_ref07_leaf_37 : AC := .seq q_ref07_leaf_36 q_ref07_leaf_35
def q_ref07_leaf_38 : AC := .seq q_ref07_leaf_37 q_ref07_leaf_27
def q_ref07_leaf_39 : AC := .block 0 q_ref07_leaf_38
def q_ref07_leaf_40 : AC := .reg [⟨some 19, none, .fa 0 (.t 3)⟩, ⟨some 20, none, .ld false 1 (.t 19)⟩]
def q_ref07_leaf_41 : AC := .seq q_ref07_leaf_40 q_ref07_leaf_39
def q_ref07_leaf_42 : AC := .seq q_ref07_leaf_41 q_ref07_leaf_5
def q_ref07_leaf_43 : AC := .reg [⟨some 7, none, .mv (.t 2)⟩, ⟨some 8, none, .un .not (.t 7)⟩, ⟨some 9, none, .mv (.t 8)⟩, ⟨some 10, some (9, true), .fa 0 (.t 3)⟩, ⟨some 11, some (9, true), .ld false 1 (.t 10)⟩, ⟨some 12, some (9, true), .bi .eql (.t 11) (.c (.int .i64 11))⟩, ⟨some 13, some (9, true), .mv (.t 12)⟩, ⟨some 14, some (13, false), .fa 0 (.t 3)⟩, ⟨some 15, some (13, false), .ld false 1 (.t 14)⟩, ⟨some 16, some (13, false), .bi .geq (.t 15) (.c (.int .i64 12))⟩, ⟨some 17, some (9, true), .pk (.t 13) (.c (.bool true)) (.t 16)⟩, ⟨some 18, none, .pk (.t 9) (.t 17) (.c (.bool false))⟩]
def q_ref07_leaf_44 : AC := .seq q_ref07_leaf_43 q_ref07_leaf_3
def q_ref07_leaf_45 : AC := .seq q_ref07_leaf_44 q_ref07_leaf_42
def q_ref07_leaf_46 : AC := .reg [⟨some 3, none, .bx (.t 0)⟩, ⟨some 6, none, .mv (.c (.int .i64 0))⟩]
def q_ref07_leaf_47 : AC := .seq q_ref07_leaf_46 q_ref07_leaf_45
def c_ref07_leaf : FC := ⟨38, [6], q_ref07_leaf_47⟩
theorem k_ref07_leaf : okF Try.prog 84 c_ref07_leaf = true := by decide +kernel
noncomputable def ref07_leaf (t_0 : ApiTerm) (kinds_1 : List Int) (bound_2 : Bool) : Option Int := (bif ((!bound_2) && ((decide (t_0.Op = 11)) || (decide (12 ≤ t_0.Op)))) then (some 0) else ((bif (decide (t_0.Op = 2)) then (some (decide (t_0.Op = 2))) else (bif (decide (t_0.Op = 3)) then (some (decide (t_0.Op = 3))) else (bif (decide (t_0.Op = 10)) then (some (decide (t_0.Op = 10))) else (some (decide (t_0.Op = 15)))))).bind (fun (w4 : Bool) => (bif w4 then (some 2) else ((bif (decide (t_0.Op = 4)) then (some (decide (t_0.Op = 4))) else (bif (decide (t_0.Op = 11)) then (some (decide (t_0.Op = 11))) else (some (decide (t_0.Op = 17))))).bind (fun (w7 : Bool) => (bif w7 then (some 3) else ((bif (decide (t_0.Op = 5)) then (some (decide (t_0.Op = 5))) else (some (decide (t_0.Op = 12)))).bind (fun (w10 : Bool) => (bif w10 then ((idx kinds_1 t_0.Arg).bind (fun (y12 : Int) => (some y12))) else (some 1)))))))))))
theorem ref07_leaf.ok {t_0 : ApiTerm} {kinds_1 : List Int} {bound_2 : Bool} {r : Int} (h : ref07_leaf t_0 kinds_1 bound_2 = some r) : PC Try.prog 84 [.agg (ApiTerm.cells t_0), .sl (List.map (cInt .i64) kinds_1), .bool bound_2] (.int .i64 r) := by
  refine PC_run k_ref07_leaf rfl (L := [(0, .u (.agg (ApiTerm.cells t_0))), (1, .u (.sl (List.map (cInt .i64) kinds_1))), (2, .u (.bool bound_2))]) rfl ?_
  show Run Try.prog 38 (retQ [6] (.int .i64 r)) [] q_ref07_leaf_47 _
  refine R_seq ?_
  refine R_reg ?_
  refine S_up trivial (O_bx (d := .u (.agg (ApiTerm.cells t_0))) (ds := [.u (.int .i64 t_0.Op), .u (.int .i64 t_0.Arg)]) (by kernel_rfl) (by kernel_rfl)) ?_
  show Rs _ _ _ _ _ (mkSt [(3, .ref 0 2 0 0), (0, .u (.agg (ApiTerm.cells t_0))), (1, .u (.sl (List.map (cInt .i64) kinds_1))), (2, .u (.bool bound_2))] [(0, .drow 2 [[.u (.int .i64 t_0.Op), .u (.int .i64 t_0.Arg)]])] 1)
  refine S_pure trivial (O_mv (d := .u (.int .i64 0)) (by kernel_rfl)) ?_
  refine Rs_nil ?_
  refine N_s ?_
  refine R_seq ?_
  refine R_seq ?_
  refine R_reg ?_
  refine S_pure trivial (O_mv (d := .u (.bool bound_2)) (by kernel_rfl)) ?_
  refine S_pure trivial (O_not (b := bound_2) (by kernel_rfl)) ?_
  refine S_pure trivial (O_mv (d := .u (.bool ((!bound_2)))) (by kernel_rfl)) ?_
  have K1 : ∀ v2 : Bool, v2 = ((!bound_2) && ((decide (t_0.Op = 11)) || (decide (12 ≤ t_0.Op)))) → Rs Try.prog 38 (retQ [6] (.int .i64 r)) [.s q_ref07_leaf_3, .s q_ref07_leaf_42] [] (mkSt [(1, .u (.sl (List.map (cInt .i64) kinds_1))), (3, .ref 0 2 0 0), (18, .u (.bool v2))] [(0, .drow 2 [[.u (.int .i64 t_0.Op), .u (.int .i64 t_0.Arg)]])] 1) := by
    intro v2 e; subst e
    refine Rs_nil ?_
    refine N_s ?_
    refine R_cond (c := ((!bound_2) && ((decide (t_0.Op = 11)) || (decide (12 ≤ t_0.Op))))) (by kernel_rfl) h (fun h => ?_) (fun h => ?_)
    · refine R_seq ?_
      refine R_reg ?_
      refine S_pure trivial (O_mv (d := .u (.int .i64 0)) (by kernel_rfl)) ?_
      refine Rs_nil ?_
      refine N_s ?_
      obtain rfl := (Option.some.inj h)
      refine R_ret ?_
      exact Q_ret (x := .int .i64 0) (by kernel_rfl) (.refl _)
    · refine R_skip ?_
      refine N_s ?_
      refine R_seq ?_
      refine R_seq ?_
      refine R_reg ?_
      refine S_pure trivial (O_far (b := 0) (s := 2) (i := 0) (o := 0) (by kernel_rfl)) ?_
      refine S_pure trivial (O_ldo (b := 0) (s := 2) (off := 0) (ds := [.u (.int .i64 t_0.Op), .u (.int .i64 t_0.Arg)]) (d := .u (.int .i64 t_0.Op)) (by kernel_rfl) (by kernel_rfl) rfl (by kernel_rfl)) ?_
      refine Rs_nil ?_
      refine N_s ?_
      refine R_block ?_
      obtain ⟨o3, hE, h⟩ := bindS h
      have K5 : ∀ (w4 : Bool), w4 = o3 → Run Try.prog 38 (retQ [6] (.int .i64 r)) [.b 0, .s q_ref07_leaf_5] q_ref07_leaf_27 (mkSt [(1, .u (.sl (List.map (cInt .i64) kinds_1))), (3, .ref 0 2 0 0), (20, .u (.int .i64 t_0.Op)), (21, .u (.bool w4))] [(0, .drow 2 [[.u (.int .i64 t_0.Op), .u (.int .i64 t_0.Arg)]])] 1) := by
        intro w4 e; subst e
        refine R_cond (c := w4) (by kernel_rfl) h (fun h => ?_) (fun h => ?_)
        · refine R_seq ?_
          refine R_reg ?_
          refine S_pure trivial (O_mv (d := .u (.int .i64 2)) (by kernel_rfl)) ?_
          refine Rs_nil ?_
          refine N_s ?_
          obtain rfl := (Option.some.inj h)
          refine R_ret ?_
          exact Q_ret (x := .int .i64 2) (by kernel_rfl) (.refl _)
        · obtain ⟨o6, hE, h⟩ := bindS h
          have K8 : ∀ (w7 : Bool), w7 = o6 → Run Try.prog 38 (retQ [6] (.int .i64 r)) [.b 0, .s q_ref07_leaf_5] q_ref07_leaf_18 (mkSt [(1, .u (.sl (List.map (cInt .i64) kinds_1))), (3, .ref 0 2 0 0), (20, .u (.int .i64 t_0.Op)), (26, .u (.bool w7))] [(0, .drow 2 [[.u (.int .i64 t_0.Op), .u (.int .i64 t_0.Arg)]])] 1) := by
            intro w7 e; subst e
            refine R_cond (c := w7) (by kernel_rfl) h (fun h => ?_) (fun h => ?_)
            · refine R_seq ?_
              refine R_reg ?_
              refine S_pure trivial (O_mv (d := .u (.int .i64 3)) (by kernel_rfl)) ?_
              refine Rs_nil ?_
              refine N_s ?_
              obtain rfl := (Option.some.inj h)
              refine R_ret ?_
              exact Q_ret (x := .int .i64 3) (by kernel_rfl) (.refl _)
            · obtain ⟨o9, hE, h⟩ := bindS h
              have K11 : ∀ (w10 : Bool), w10 = o9 → Run Try.prog 38 (retQ [6] (.int .i64 r)) [.b 0, .s q_ref07_leaf_5] q_ref07_leaf_12 (mkSt [(1, .u (.sl (List.map (cInt .i64) kinds_1))), (3, .ref 0 2 0 0), (30, .u (.bool w10))] [(0, .drow 2 [[.u (.int .i64 t_0.Op), .u (.int .i64 t_0.Arg)]])] 1) := by
                intro w10 e; subst e
                refine R_cond (c := w10) (by kernel_rfl) h (fun h => ?_) (fun h => ?_)
                · refine R_seq ?_
                  refine R_reg ?_
                  refine S_pure trivial (O_mv (d := .u (.sl (List.map (cInt .i64) kinds_1))) (by kernel_rfl)) ?_
                  refine S_pure trivial (O_far (b := 0) (s := 2) (i := 0) (o := 0) (by kernel_rfl)) ?_
                  refine S_pure trivial (O_ldo (b := 0) (s := 2) (off := 1) (ds := [.u (.int .i64 t_0.Op), .u (.int .i64 t_0.Arg)]) (d := .u (.int .i64 t_0.Arg)) (by kernel_rfl) (by kernel_rfl) rfl (by kernel_rfl)) ?_
                  obtain ⟨y12, hy12, h⟩ := bindS h
                  refine S_pure trivial (O_ia (c := (cInt .i64)) (li := kinds_1) (i := t_0.Arg) (k := .i64) (a := y12) (u := (cInt .i64) y12) (by kernel_rfl) (by kernel_rfl) hy12 rfl rfl) ?_
                  refine S_pure trivial (O_ldf (cells := (cInt .i64) y12) (off := 0) (u := .int .i64 y12) (by kernel_rfl) (by kernel_rfl)) ?_
                  refine S_pure trivial (O_mv (d := .u (.int .i64 y12)) (by kernel_rfl)) ?_
                  refine Rs_nil ?_
                  refine N_s ?_
                  obtain rfl := (Option.some.inj h)
                  refine R_ret ?_
                  exact Q_ret (x := .int .i64 y12) (by kernel_rfl) (.refl _)
                · refine R_skip ?_
                  refine N_b ?_
                  refine N_s ?_
                  refine R_seq ?_
                  refine R_reg ?_
                  refine S_pure trivial (O_mv (d := .u (.int .i64 1)) (by kernel_rfl)) ?_
                  refine Rs_nil ?_
                  refine N_s ?_
                  obtain rfl := (Option.some.inj h)
                  refine R_ret ?_
                  exact Q_ret (x := .int .i64 1) (by kernel_rfl) (.refl _)
              replace h := hE
              refine R_seq ?_
              refine R_seq ?_
              refine R_reg ?_
              refine S_pure trivial (O_eql (k := .i64) (a := t_0.Op) (b := 5) (by kernel_rfl) (by kernel_rfl)) ?_
              refine S_pure trivial (O_mv (d := .u (.bool ((decide (t_0.Op = 5))))) (by kernel_rfl)) ?_
              refine Rs_nil ?_
              refine N_s ?_
              refine R_cond (c := (decide (t_0.Op = 5))) (by kernel_rfl) h (fun h => ?_) (fun h => ?_)
              · refine R_skip ?_
                refine N_s ?_
                exact R_weak (W_to (by kernel_rfl) (by kernel_rfl) (by kernel_rfl)) (K11 _ (Option.some.inj h))
              · refine R_reg ?_
                refine S_pure trivial (O_eql (k := .i64) (a := t_0.Op) (b := 12) (by kernel_rfl) (by kernel_rfl)) ?_
                refine S_pure trivial (O_mv (d := .u (.bool ((decide (t_0.Op = 12))))) (by kernel_rfl)) ?_
                refine Rs_nil ?_
                refine N_s ?_
                exact R_weak (W_to (by kernel_rfl) (by kernel_rfl) (by kernel_rfl)) (K11 _ (Option.some.inj h))
          replace h := hE
          refine R_seq ?_
          refine R_seq ?_
          refine R_reg ?_
          refine S_pure trivial (O_eql (k := .i64) (a := t_0.Op) (b := 4) (by kernel_rfl) (by kernel_rfl)) ?_
          refine S_pure trivial (O_mv (d := .u (.bool ((decide (t_0.Op = 4))))) (by kernel_rfl)) ?_
          refine Rs_nil ?_
          refine N_s ?_
          refine R_cond (c := (decide (t_0.Op = 4))) (by kernel_rfl) h (fun h => ?_) (fun h => ?_)
          · refine R_skip ?_
            refine N_s ?_
            exact R_weak (W_to (by kernel_rfl) (by kernel_rfl) (by kernel_rfl)) (K8 _ (Option.some.inj h))
          · refine R_seq ?_
            refine R_reg ?_
            refine S_pure trivial (O_eql (k := .i64) (a := t_0.Op) (b := 11) (by kernel_rfl) (by kernel_rfl)) ?_
            refine S_pure trivial (O_mv (d := .u (.bool ((decide (t_0.Op = 11))))) (by kernel_rfl)) ?_
            refine Rs_nil ?_
            refine N_s ?_
            refine R_cond (c := (decide (t_0.Op = 11))) (by kernel_rfl) h (fun h => ?_) (fun h => ?_)
            · refine R_skip ?_
              refine N_s ?_
              exact R_weak (W_to (by kernel_rfl) (by kernel_rfl) (by kernel_rfl)) (K8 _ (Option.some.inj h))
            · refine R_reg ?_
              refine S_pure trivial (O_eql (k := .i64) (a := t_0.Op) (b := 17) (by kernel_rfl) (by kernel_rfl)) ?_
              refine S_pure trivial (O_mv (d := .u (.bool ((decide (t_0.Op = 17))))) (by kernel_rfl)) ?_
              refine Rs_nil ?_
              refine N_s ?_
              exact R_weak (W_to (by kernel_rfl) (by kernel_rfl) (by kernel_rfl)) (K8 _ (Option.some.inj h))
      replace h := hE
      refine R_seq ?_
      refine R_seq ?_
      refine R_reg ?_
      refine S_pure trivial (O_eql (k := .i64) (a := t_0.Op) (b := 2) (by kernel_rfl) (by kernel_rfl)) ?_
      refine S_pure trivial (O_mv (d := .u (.bool ((decide (t_0.Op = 2))))) (by kernel_rfl)) ?_
      refine Rs_nil ?_
      refine N_s ?_
      refine R_cond (c := (decide (t_0.Op = 2))) (by kernel_rfl) h (fun h => ?_) (fun h => ?_)
      · refine R_skip ?_
        refine N_s ?_
        exact R_weak (W_to (by kernel_rfl) (by kernel_rfl) (by kernel_rfl)) (K5 _ (Option.some.inj h))
      · refine R_seq ?_
        refine R_reg ?_
        refine S_pure trivial (O_eql (k := .i64) (a := t_0.Op) (b := 3) (by kernel_rfl) (by kernel_rfl)) ?_
        refine S_pure trivial (O_mv (d := .u (.bool ((decide (t_0.Op = 3))))) (by kernel_rfl)) ?_
        refine Rs_nil ?_
        refine N_s ?_
        refine R_cond (c := (decide (t_0.Op = 3))) (by kernel_rfl) h (fun h => ?_) (fun h => ?_)
        · refine R_skip ?_
          refine N_s ?_
          exact R_weak (W_to (by kernel_rfl) (by kernel_rfl) (by kernel_rfl)) (K5 _ (Option.some.inj h))
        · refine R_seq ?_
          refine R_reg ?_
          refine S_pure trivial (O_eql (k := .i64) (a := t_0.Op) (b := 10) (by kernel_rfl) (by kernel_rfl)) ?_
          refine S_pure trivial (O_mv (d := .u (.bool ((decide (t_0.Op = 10))))) (by kernel_rfl)) ?_
          refine Rs_nil ?_
          refine N_s ?_
          refine R_cond (c := (decide (t_0.Op = 10))) (by kernel_rfl) h (fun h => ?_) (fun h => ?_)
          · refine R_skip ?_
            refine N_s ?_
            exact R_weak (W_to (by kernel_rfl) (by kernel_rfl) (by kernel_rfl)) (K5 _ (Option.some.inj h))
          · refine R_reg ?_
            refine S_pure trivial (O_eql (k := .i64) (a := t_0.Op) (b := 15) (by kernel_rfl) (by kernel_rfl)) ?_
            refine S_pure trivial (O_mv (d := .u (.bool ((decide (t_0.Op = 15))))) (by kernel_rfl)) ?_
            refine Rs_nil ?_
            refine N_s ?_
            exact R_weak (W_to (by kernel_rfl) (by kernel_rfl) (by kernel_rfl)) (K5 _ (Option.some.inj h))
  refine S_case0 (t := 9) (c := (!bound_2)) (by kernel_rfl) (fun hc => ?_) (fun hc => ?_)
  · refine S_pure (by show _ = _; kernel_rfl) (O_far (b := 0) (s := 2) (i := 0) (o := 0) (by kernel_rfl)) ?_
    refine S_pure (by show _ = _; kernel_rfl) (O_ldo (b := 0) (s := 2) (off := 0) (ds := [.u (.int .i64 t_0.Op), .u (.int .i64 t_0.Arg)]) (d := .u (.int .i64 t_0.Op)) (by kernel_rfl) (by kernel_rfl) rfl (by kernel_rfl)) ?_
    refine S_pure (by show _ = _; kernel_rfl) (O_eql (k := .i64) (a := t_0.Op) (b := 11) (by kernel_rfl) (by kernel_rfl)) ?_
    refine S_pure (by show _ = _; kernel_rfl) (O_mv (d := .u (.bool ((decide (t_0.Op = 11))))) (by kernel_rfl)) ?_
    have K13 : ∀ v14 : Bool, v14 = ((decide (t_0.Op = 11)) || (decide (12 ≤ t_0.Op))) → Rs Try.prog 38 (retQ [6] (.int .i64 r)) [.s q_ref07_leaf_3, .s q_ref07_leaf_42] [⟨some 18, none, .pk (.t 9) (.t 17) (.c (.bool false))⟩] (mkSt [(1, .u (.sl (List.map (cInt .i64) kinds_1))), (3, .ref 0 2 0 0), (9, .u (.bool true)), (17, .u (.bool v14))] [(0, .drow 2 [[.u (.int .i64 t_0.Op), .u (.int .i64 t_0.Arg)]])] 1) := by
      intro v14 e; subst e
      refine S_pure trivial (O_pkt (d := .u (.bool (((decide (t_0.Op = 11)) || (decide (12 ≤ t_0.Op)))))) (by kernel_rfl) (by kernel_rfl)) ?_
      exact Rs_weak (W_to (by kernel_rfl) (by kernel_rfl) (by kernel_rfl)) (K1 _ (by rw [hc] <;> rfl))
    refine S_case0 (t := 13) (c := (decide (t_0.Op = 11))) (by kernel_rfl) (fun hc => ?_) (fun hc => ?_)
    · refine S_skip (b := true) (by kernel_rfl) rfl ?_
      refine S_skip (b := true) (by kernel_rfl) rfl ?_
      refine S_skip (b := true) (by kernel_rfl) rfl ?_
      refine S_pure (by show _ = _; kernel_rfl) (O_pkt (d := .u (.bool true)) (by kernel_rfl) (by kernel_rfl)) ?_
      exact Rs_weak (W_to (by kernel_rfl) (by kernel_rfl) (by kernel_rfl)) (K13 _ (by rw [hc] <;> rfl))
    · refine S_pure (by show _ = _; kernel_rfl) (O_far (b := 0) (s := 2) (i := 0) (o := 0) (by kernel_rfl)) ?_
      refine S_pure (by show _ = _; kernel_rfl) (O_ldo (b := 0) (s := 2) (off := 0) (ds := [.u (.int .i64 t_0.Op), .u (.int .i64 t_0.Arg)]) (d := .u (.int .i64 t_0.Op)) (by kernel_rfl) (by kernel_rfl) rfl (by kernel_rfl)) ?_
      refine S_pure (by show _ = _; kernel_rfl) (O_geq (k := .i64) (a := t_0.Op) (b := 12) (by kernel_rfl) (by kernel_rfl)) ?_
      refine S_pure (by show _ = _; kernel_rfl) (O_pkf (d := .u (.bool ((decide (12 ≤ t_0.Op))))) (by kernel_rfl) (by kernel_rfl)) ?_
      exact Rs_weak (W_to (by kernel_rfl) (by kernel_rfl) (by kernel_rfl)) (K13 _ (by rw [hc] <;> rfl))
  · refine S_skip (b := false) (by kernel_rfl) rfl ?_
    refine S_skip (b := false) (by kernel_rfl) rfl ?_
    refine S_skip (b := false) (by kernel_rfl) rfl ?_
    refine S_skip (b := false) (by kernel_rfl) rfl ?_
    refine S_skipu (by kernel_rfl) ?_
    refine S_skipu (by kernel_rfl) ?_
    refine S_skipu (by kernel_rfl) ?_
    refine S_skip (b := false) (by kernel_rfl) rfl ?_
    refine S_pure trivial (O_pkf (d := .u (.bool false)) (by kernel_rfl) (by kernel_rfl)) ?_
    exact Rs_weak (W_to (by kernel_rfl) (by kernel_rfl) (by kernel_rfl)) (K1 _ (by rw [hc] <;> rfl))

/-! ### selfstab/selfstabref07.single -/
def q_ref07_single_1 : AC := .reg [⟨some 19, none, .mv (.t 6)⟩, ⟨some 4, none, .mv (.t 19)⟩]
def q_ref07_single_2 : AC := .seq q_ref07_single_1 .ret
def q_ref07_single_3 : AC := .reg [⟨some 4, none, .mv (.c (.int .i64 0))⟩]
def q_ref07_single_4 : AC := .seq q_ref07_single_3 .ret
def q_ref07_single_5 : AC := .cond (.t 18) q_ref07_single_4 .skip
def q_ref07_single_6 : AC := .reg [⟨some 16, none, .mv (.t 1)⟩, ⟨some 17, none, .mv (.t 5)⟩, ⟨some 18, none, .bi .neq (.t 16) (.t 17)⟩]
def q_ref07_single_7 : AC := .seq q_ref07_single_6 q_ref07_single_5
def q_ref07_single_8 : AC := .seq q_ref07_single_7 q_ref07_single_2
def q_ref07_single_9 : AC := .reg [⟨some 5, none, .mv (.c (.int .i64 2))⟩, ⟨some 6, none, .mv (.c (.int .i64 2))⟩]
def q_ref07_single_10 : AC := .reg [⟨some 5, none, .mv (.c (.int .i64 2))⟩]
def q_ref07_single_11 : AC := .reg [⟨some 5, none, .mv (.c (.int .i64 2))⟩, ⟨some 6, none, .mv (.c (.int .i64 3))⟩]
def q_ref07_single_12 : AC := .cond (.t 14) q_ref07_single_11 .skip
def q_ref07_single_13 : AC := .reg [⟨some 15, none, .bi .eql (.t 7) (.c (.int .i64 23))⟩, ⟨some 14, none, .mv (.t 15)⟩]
def q_ref07_single_14 : AC := .seq q_ref07_single_13 q_ref07_single_12
def q_ref07_single_15 : AC := .cond (.t 12) q_ref07_single_10 q_ref07_single_14
def q_ref07_single_16 : AC := .reg [⟨some 13, none, .bi .eql (.t 7) (.c (.int .i64 22))⟩, ⟨some 12, none, .mv (.t 13)⟩]
def q_ref07_single_17 : AC := .seq q_ref07_single_16 q_ref07_single_15
def q_ref07_single_18 : AC := .cond (.t 8) q_ref07_single_9 q_ref07_single_17
def q_ref07_single_19 : AC := .reg [⟨some 11, none, .bi .eql (.t 7) (.c (.int .i64 21))⟩, ⟨some 8, none, .mv (.t 11)⟩]
def q_ref07_single_20 : AC := .cond (.t 8) .skip q_ref07_single_19
def q_ref07_single_21 : AC := .reg [⟨some 10, none, .bi .eql (.t 7) (.c (.int .i64 20))⟩, ⟨some 8, none, .mv (.t 10)⟩]
def q_ref07_single_22 : AC := .seq q_ref07_single_21 q_ref07_single_20
def q_ref07_single_23 : AC := .cond (.t 8) .skip q_ref07_single_22
def q_ref07_single_24 : AC := .reg [⟨some 9, none, .bi .eql (.t 7) (.c (.int .i64 19))⟩, ⟨some 8, none, .mv (.t 9)⟩]
def q_ref07_single_25 : AC := .seq q_ref07_single_24 q_ref07_single_23
def q_ref07_single_26 : AC := .seq q_ref07_single_25 q_ref07_single_18
def q_ref07_single_27 : AC := .block 0 q_ref07_single_26
def q_ref07_single_28 : AC := .reg [⟨some 7, none, .mv (.t 0)⟩]
def q_ref07_single_29 : AC := .seq q_ref07_single_28 q_ref07_single_27
def q_ref07_single_30 : AC := .seq q_ref07_single_29 q_ref07_single_8
def q_ref07_single_31 : AC := .reg [⟨some 5, none, .mv (.c (.int .i64 1))⟩, ⟨some 6, none, .mv (.c (.int .i64 1))⟩]
def q_ref07_single_32 : AC := .seq q_ref07_single_31 q_ref07_single_30
def q_ref07_single_33 : AC := .reg [⟨some 4, none, .mv (.c (.int .i64 0))⟩]
def q_ref07_single_34 : AC := .seq q_ref07_single_33 q_ref07_single_32
def c_ref07_single : FC := ⟨20, [4], q_ref07_single_34⟩
theorem k_ref07_single : okF Try.prog 85 c_ref07_single = true := by decide +kernel
noncomputable def ref07_single (op_0 : Int) (a_1 : Int) : Option Int := (((bif (decide (op_0 = 19)) then (some (decide (op_0 = 19))) else (bif (decide (op_0 = 20)) then (some (decide (op_0 = 20))) else (some (decide (op_0 = 21))))).bind (fun (w5 : Bool) => (bif w5 then (some (2, 2)) else (bif (decide (op_0 = 22)) then (some (2, 1)) else (bif (decide (op_0 = 23)) then (some (2, 3)) else (some (1, 1))))))).bind (fun (w2 : Int × Int) => (bif (!decide (a_1 = w2.1)) then (some 0) else (some w2.2))))
theorem ref07_single.ok {op_0 : Int} {a_1 : Int} {r : Int} (h : ref07_single op_0 a_1 = some r) : PC Try.prog 85 [.int .i64 op_0, .int .i64 a_1] (.int .i64 r) := by
  refine PC_run k_ref07_single rfl (L := [(0, .u (.int .i64 op_0)), (1, .u (.int .i64 a_1))]) rfl ?_
  show Run Try.prog 20 (retQ [4] (.int .i64 r)) [] q_ref07_single_34 _
  refine R_seq ?_
  refine R_reg ?_
  refine S_pure trivial (O_mv (d := .u (.int .i64 0)) (by kernel_rfl)) ?_
  refine Rs_nil ?_
  refine N_s ?_
  refine R_seq ?_
  refine R_reg ?_
  refine S_pure trivial (O_mv (d := .u (.int .i64 1)) (by kernel_rfl)) ?_
  refine S_pure trivial (O_mv (d := .u (.int .i64 1)) (by kernel_rfl)) ?_
  refine Rs_nil ?_
  refine N_s ?_
  obtain ⟨o1, hE, h⟩ := bindS h
  have K3 : ∀ (w2 : Int × Int), w2 = o1 → Run Try.prog 20 (retQ [4] (.int .i64 r)) [] q_ref07_single_8 (mkSt [(1, .u (.int .i64 a_1)), (5, .u (.int .i64 w2.1)), (6, .u (.int .i64 w2.2))] [] 0) := by
    intro w2 e; subst e
    refine R_seq ?_
    refine R_seq ?_
    refine R_reg ?_
    refine S_pure trivial (O_mv (d := .u (.int .i64 a_1)) (by kernel_rfl)) ?_
    refine S_pure trivial (O_mv (d := .u (.int .i64 w2.1)) (by kernel_rfl)) ?_
    refine S_pure trivial (O_neq (k := .i64) (a := a_1) (b := w2.1) (by kernel_rfl) (by kernel_rfl)) ?_
    refine Rs_nil ?_
    refine N_s ?_
    refine R_cond (c := (!decide (a_1 = w2.1))) (by kernel_rfl) h (fun h => ?_) (fun h => ?_)
    · refine R_seq ?_
      refine R_reg ?_
      refine S_pure trivial (O_mv (d := .u (.int .i64 0)) (by kernel_rfl)) ?_
      refine Rs_nil ?_
      refine N_s ?_
      obtain rfl := (Option.some.inj h)
      refine R_ret ?_
      exact Q_ret (x := .int .i64 0) (by kernel_rfl) (.refl _)
    · refine R_skip ?_
      refine N_s ?_
      refine R_seq ?_
      refine R_reg ?_
      refine S_pure trivial (O_mv (d := .u (.int .i64 w2.2)) (by kernel_rfl)) ?_
      refine S_pure trivial (O_mv (d := .u (.int .i64 w2.2)) (by kernel_rfl)) ?_
      refine Rs_nil ?_
      refine N_s ?_
      obtain rfl := (Option.some.inj h)
      refine R_ret ?_
      exact Q_ret (x := .int .i64 w2.2) (by kernel_rfl) (.refl _)
  replace h := hE
  refine R_seq ?_
  refine R_seq ?_
  refine R_reg ?_
  refine S_pure trivial (O_mv (d := .u (.int .i64 op_0)) (by kernel_rfl)) ?_
  refine Rs_nil ?_
  refine N_s ?_
  refine R_block ?_
  obtain ⟨o4, hE, h⟩ := bindS h
  have K6 : ∀ (w5 : Bool), w5 = o4 → Run Try.prog 20 (retQ [4] (.int .i64 r)) [.b 0, .s q_ref07_single_8] q_ref07_single_18 (mkSt [(1, .u (.int .i64 a_1)), (5, .u (.int .i64 1)), (6, .u (.int .i64 1)), (7, .u (.int .i64 op_0)), (8, .u (.bool w5))] [] 0) := by
    intro w5 e; subst e
    refine R_cond (c := w5) (by kernel_rfl) h (fun h => ?_) (fun h => ?_)
    · refine R_reg ?_
      refine S_pure trivial (O_mv (d := .u (.int .i64 2)) (by kernel_rfl)) ?_
      refine S_pure trivial (O_mv (d := .u (.int .i64 2)) (by kernel_rfl)) ?_
      refine Rs_nil ?_
      refine N_b ?_
      refine N_s ?_
      exact R_weak (W_to (by kernel_rfl) (by kernel_rfl) (by kernel_rfl)) (K3 _ (Option.some.inj h))
    · refine R_seq ?_
      refine R_reg ?_
      refine S_pure trivial (O_eql (k := .i64) (a := op_0) (b := 22) (by kernel_rfl) (by kernel_rfl)) ?_
      refine S_pure trivial (O_mv (d := .u (.bool ((decide (op_0 = 22))))) (by kernel_rfl)) ?_
      refine Rs_nil ?_
      refine N_s ?_
      refine R_cond (c := (decide (op_0 = 22))) (by kernel_rfl) h (fun h => ?_) (fun h => ?_)
      · refine R_reg ?_
        refine S_pure trivial (O_mv (d := .u (.int .i64 2)) (by kernel_rfl)) ?_
        refine Rs_nil ?_
        refine N_b ?_
        refine N_s ?_
        exact R_weak (W_to (by kernel_rfl) (by kernel_rfl) (by kernel_rfl)) (K3 _ (Option.some.inj h))
      · refine R_seq ?_
        refine R_reg ?_
        refine S_pure trivial (O_eql (k := .i64) (a := op_0) (b := 23) (by kernel_rfl) (by kernel_rfl)) ?_
        refine S_pure trivial (O_mv (d := .u (.bool ((decide (op_0 = 23))))) (by kernel_rfl)) ?_
        refine Rs_nil ?_
        refine N_s ?_
        refine R_cond (c := (decide (op_0 = 23))) (by kernel_rfl) h (fun h => ?_) (fun h => ?_)
        · refine R_reg ?_
          refine S_pure trivial (O_mv (d := .u (.int .i64 2)) (by kernel_rfl)) ?_
          refine S_pure trivial (O_mv (d := .u (.int .i64 3)) (by kernel_rfl)) ?_
          refine Rs_nil ?_
          refine N_b ?_
          refine N_s ?_
          exact R_weak (W_to (by kernel_rfl) (by kernel_rfl) (by kernel_rfl)) (K3 _ (Option.some.inj h))
        · refine R_skip ?_
          refine N_b ?_
          refine N_s ?_
          exact R_weak (W_to (by kernel_rfl) (by kernel_rfl) (by kernel_rfl)) (K3 _ (Option.some.inj h))
  replace h := hE
  refine R_seq ?_
  refine R_seq ?_
  refine R_reg ?_
  refine S_pure trivial (O_eql (k := .i64) (a := op_0) (b := 19) (by kernel_rfl) (by kernel_rfl)) ?_
  refine S_pure trivial (O_mv (d := .u (.bool ((decide (op_0 = 19))))) (by kernel_rfl)) ?_
  refine Rs_nil ?_
  refine N_s ?_
  refine R_cond (c := (decide (op_0 = 19))) (by kernel_rfl) h (fun h => ?_) (fun h => ?_)
  · refine R_skip ?_
    refine N_s ?_
    exact R_weak (W_to (by kernel_rfl) (by kernel_rfl) (by kernel_rfl)) (K6 _ (Option.some.inj h))
  · refine R_seq ?_
    refine R_reg ?_
    refine S_pure trivial (O_eql (k := .i64) (a := op_0) (b := 20) (by kernel_rfl) (by kernel_rfl)) ?_
    refine S_pure trivial (O_mv (d := .u (.bool ((decide (op_0 = 20))))) (by kernel_rfl)) ?_
    refine Rs_nil ?_
    refine N_s ?_
    refine R_cond (c := (decide (op_0 = 20))) (by kernel_rfl) h (fun h => ?_) (fun h => ?_)
    · refine R_skip ?_
      refine N_s ?_
      exact R_weak (W_to (by kernel_rfl) (by kernel_rfl) (by kernel_rfl)) (K6 _ (Option.some.inj h))
    · refine R_reg ?_
      refine S_pure trivial (O_eql (k := .i64) (a := op_0) (b := 21) (by kernel_rfl) (by kernel_rfl)) ?_
      refine S_pure trivial (O_mv (d := .u (.bool ((decide (op_0 = 21))))) (by kernel_rfl)) ?_
      refine Rs_nil ?_
      refine N_s ?_
      exact R_weak (W_to (by kernel_rfl) (by kernel_rfl) (by kernel_rfl)) (K6 _ (Option.some.inj h))

/-! ### selfstab/selfstabref05.Operand -/
def q_ref05_Operand_1 : AC := .reg [⟨some 37, none, .mv (.t 7)⟩, ⟨some 6, none, .mv (.t 37)⟩]
def q_ref05_Operand_2 : AC := .seq q_ref05_Operand_1 .ret
def q_ref05_Operand_3 : AC := .reg [⟨some 6, none, .mv (.c (.int .i64 (-1)))⟩]
def q_ref05_Operand_4 : AC := .seq q_ref05_Operand_3 .ret
def q_ref05_Operand_5 : AC := .cond (.t 26) q_ref05_Operand_4 .skip
def q_ref05_Operand_6 : AC := .reg [⟨some 32, none, .mv (.t 8)⟩, ⟨some 33, none, .bi .add (.t 32) (.c (.int .i64 1))⟩, ⟨some 8, none, .mv (.t 33)⟩]
def q_ref05_Operand_7 : AC := .reg [⟨some 34, none, .mv (.t 0)⟩, ⟨some 35, none, .mv (.t 7)⟩, ⟨some 36, none, .ca 31 [.t 34, .t 35]⟩, ⟨some 7, none, .mv (.t 36)⟩]
def q_ref05_Operand_8 : AC := .block 1 q_ref05_Operand_7
def q_ref05_Operand_9 : AC := .seq q_ref05_Operand_8 q_ref05_Operand_6
def q_ref05_Operand_10 : AC := .cond (.t 31) .skip (.exit 0)
def q_ref05_Operand_11 : AC := .reg [⟨some 29, none, .mv (.t 8)⟩, ⟨some 30, none, .mv (.t 2)⟩, ⟨some 31, none, .bi .lss (.t 29) (.t 30)⟩]
def q_ref05_Operand_12 : AC := .seq q_ref05_Operand_11 q_ref05_Operand_10
def q_ref05_Operand_13 : AC := .seq q_ref05_Operand_12 q_ref05_Operand_9
def q_ref05_Operand_14 : AC := .loop q_ref05_Operand_13
def q_ref05_Operand_15 : AC := .block 0 q_ref05_Operand_14
def q_ref05_Operand_16 : AC := .reg [⟨some 8, none, .mv (.c (.int .i64 0))⟩]
def q_ref05_Operand_17 : AC := .seq q_ref05_Operand_16 q_ref05_Operand_15
def q_ref05_Operand_18 : AC := .seq q_ref05_Operand_17 q_ref05_Operand_2
def q_ref05_Operand_19 : AC := .reg [⟨some 27, none, .mv (.t 1)⟩, ⟨some 28, none, .bi .add (.t 27) (.c (.int .i64 1))⟩, ⟨some 7, none, .mv (.t 28)⟩]
def q_ref05_Operand_20 : AC := .seq q_ref05_Operand_19 q_ref05_Operand_18
def q_ref05_Operand_21 : AC := .reg [⟨some 9, none, .mv (.t 0)⟩, ⟨some 10, none, .mv (.t 1)⟩, ⟨some 11, none, .ca 31 [.t 9, .t 10]⟩, ⟨some 12, none, .bi .lss (.t 11) (.c (.int .i64 0))⟩, ⟨some 13, none, .mv (.t 12)⟩, ⟨some 14, some (13, false), .mv (.t 2)⟩, ⟨some 15, some (13, false), .bi .lss (.t 14) (.c (.int .i64 0))⟩, ⟨some 16, none, .pk (.t 13) (.c (.bool true)) (.t 15)⟩, ⟨some 17, none, .mv (.t 16)⟩, ⟨some 18, some (17, false), .mv (.t 2)⟩, ⟨some 19, some (17, false), .mv (.t 0)⟩, ⟨some 20, some (17, false), .mv (.t 1)⟩, ⟨some 21, some (17, false), .ia 2 (.t 19) (.t 20)⟩, ⟨some 22, some (17, false), .fa 0 (.t 21)⟩, ⟨some 23, some (17, false), .ld false 1 (.t 22)⟩, ⟨some 24, some (17, false), .ca 29 [.t 23]⟩, ⟨some 25, some (17, false), .bi .geq (.t 18) (.t 24)⟩, ⟨some 26, none, .pk (.t 17) (.c (.bool true)) (.t 25)⟩]
def q_ref05_Operand_22 : AC := .seq q_ref05_Operand_21 q_ref05_Operand_5
def q_ref05_Operand_23 : AC := .seq q_ref05_Operand_22 q_ref05_Operand_20
def q_ref05_Operand_24 : AC := .reg [⟨some 6, none, .mv (.c (.int .i64 0))⟩]
def q_ref05_Operand_25 : AC := .seq q_ref05_Operand_24 q_ref05_Operand_23
def c_ref05_Operand : FC := ⟨38, [6], q_ref05_Operand_25⟩
theorem k_ref05_Operand : okF Try.prog 30 c_ref05_Operand = true := by decide +kernel
noncomputable def ref05_Operand.l14 (e_0 : List ApiTerm) (k_2 : Int) (s11 : Int × Int) : Option ((Int × Int) ⊕ Int) := (bif (decide (s11.2 < k_2)) then ((ref05_End e_0 s11.1).bind (fun (y13 : Int) => (some (Sum.inl (y13, (IntKind.i64.wrap (s11.2 + 1))))))) else (some (Sum.inr s11.1)))
noncomputable def ref05_Operand (e_0 : List ApiTerm) (at_1 : Int) (k_2 : Int) : Option Int := ((ref05_End e_0 at_1).bind (fun (y1 : Int) => ((bif ((decide (y1 < 0)) || (decide (k_2 < 0))) then (some true) else ((idx e_0 at_1).bind (fun (y15 : ApiTerm) => ((ref05_Arity y15.Op).bind (fun (y16 : Int) => (some (decide (y16 ≤ k_2)))))))).bind (fun (o6 : Bool) => (bif o6 then (some (-1)) else ((loopO (ref05_Operand.l14 e_0 k_2) ((IntKind.i64.wrap (at_1 + 1)), 0)).bind (fun (w9 : Int) => (some w9))))))))
theorem ref05_Operand.ok {e_0 : List ApiTerm} {at_1 : Int} {k_2 : Int} {r : Int} (h : ref05_Operand e_0 at_1 k_2 = some r) : PC Try.prog 30 [.sl (List.map ApiTerm.cells e_0), .int .i64 at_1, .int .i64 k_2] (.int .i64 r) := by
  refine PC_run k_ref05_Operand rfl (L := [(0, .u (.sl (List.map ApiTerm.cells e_0))), (1, .u (.int .i64 at_1)), (2, .u (.int .i64 k_2))]) rfl ?_
  show Run Try.prog 38 (retQ [6] (.int .i64 r)) [] q_ref05_Operand_25 _
  refine R_seq ?_
  refine R_reg ?_
  refine S_pure trivial (O_mv (d := .u (.int .i64 0)) (by kernel_rfl)) ?_
  refine Rs_nil ?_
  refine N_s ?_
  refine R_seq ?_
  refine R_seq ?_
  refine R_reg ?_
  refine S_pure trivial (O_mv (d := .u (.sl (List.map ApiTerm.cells e_0))) (by kernel_rfl)) ?_
  refine S_pure trivial (O_mv (d := .u (.int .i64 at_1)) (by kernel_rfl)) ?_
  obtain ⟨y1, hy1, h⟩ := bindS h
  refine S_pure trivial (O_ca (us := [.sl (List.map ApiTerm.cells e_0), .int .i64 at_1]) (r := .int .i64 y1) (by kernel_rfl) (ref05_End.ok hy1)) ?_
  refine S_pure trivial (O_lss (k := .i64) (a := y1) (b := 0) (by kernel_rfl) (by kernel_rfl)) ?_
  refine S_pure trivial (O_mv (d := .u (.bool ((decide (y1 < 0))))) (by kernel_rfl)) ?_
  have K2 : ∀ v3 : Bool, v3 = ((decide (y1 < 0)) || (decide (k_2 < 0))) → Rs Try.prog 38 (retQ [6] (.int .i64 r)) [.s q_ref05_Operand_5, .s q_ref05_Operand_20] [⟨some 17, none, .mv (.t 16)⟩, ⟨some 18, some (17, false), .mv (.t 2)⟩, ⟨some 19, some (17, false), .mv (.t 0)⟩, ⟨some 20, some (17, false), .mv (.t 1)⟩, ⟨some 21, some (17, false), .ia 2 (.t 19) (.t 20)⟩, ⟨some 22, some (17, false), .fa 0 (.t 21)⟩, ⟨some 23, some (17, false), .ld false 1 (.t 22)⟩, ⟨some 24, some (17, false), .ca 29 [.t 23]⟩, ⟨some 25, some (17, false), .bi .geq (.t 18) (.t 24)⟩, ⟨some 26, none, .pk (.t 17) (.c (.bool true)) (.t 25)⟩] (mkSt [(0, .u (.sl (List.map ApiTerm.cells e_0))), (1, .u (.int .i64 at_1)), (2, .u (.int .i64 k_2)), (16, .u (.bool v3))] [] 0) := by
    intro v3 e; subst e
    refine S_pure trivial (O_mv (d := .u (.bool (((decide (y1 < 0)) || (decide (k_2 < 0)))))) (by kernel_rfl)) ?_
    obtain ⟨o6, hE, h⟩ := bindS h
    have K4 : Rs Try.prog 38 (retQ [6] (.int .i64 r)) [.s q_ref05_Operand_5, .s q_ref05_Operand_20] [] (mkSt [(0, .u (.sl (List.map ApiTerm.cells e_0))), (1, .u (.int .i64 at_1)), (2, .u (.int .i64 k_2)), (26, .u (.bool o6))] [] 0) := by
      refine Rs_nil ?_
      refine N_s ?_
      refine R_cond (c := o6) (by kernel_rfl) h (fun h => ?_) (fun h => ?_)
      · refine R_seq ?_
        refine R_reg ?_
        refine S_pure trivial (O_mv (d := .u (.int .i64 ((-1)))) (by kernel_rfl)) ?_
        refine Rs_nil ?_
        refine N_s ?_
        obtain rfl := (Option.some.inj h)
        refine R_ret ?_
        exact Q_ret (x := .int .i64 ((-1))) (by kernel_rfl) (.refl _)
      · refine R_skip ?_
        refine N_s ?_
        refine R_seq ?_
        refine R_reg ?_
        refine S_pure trivial (O_mv (d := .u (.int .i64 at_1)) (by kernel_rfl)) ?_
        refine S_pure trivial (O_add (k := .i64) (a := at_1) (b := 1) (by kernel_rfl) (by kernel_rfl)) ?_
        refine S_pure trivial (O_mv (d := .u (.int .i64 ((IntKind.i64.wrap (at_1 + 1))))) (by kernel_rfl)) ?_
        refine Rs_nil ?_
        refine N_s ?_
        refine R_seq ?_
        refine R_seq ?_
        refine R_reg ?_
        refine S_pure trivial (O_mv (d := .u (.int .i64 0)) (by kernel_rfl)) ?_
        refine Rs_nil ?_
        refine N_s ?_
        refine R_block ?_
        obtain ⟨o7, hE, h⟩ := bindS h
        have K10 : ∀ (w9 : Int), w9 = o7 → Run Try.prog 38 (retQ [6] (.int .i64 r)) [] q_ref05_Operand_2 (mkSt [(7, .u (.int .i64 w9))] [] 0) := by
          intro w9 e; subst e
          refine R_seq ?_
          refine R_reg ?_
          refine S_pure trivial (O_mv (d := .u (.int .i64 w9)) (by kernel_rfl)) ?_
          refine S_pure trivial (O_mv (d := .u (.int .i64 w9)) (by kernel_rfl)) ?_
          refine Rs_nil ?_
          refine N_s ?_
          obtain rfl := (Option.some.inj h)
          refine R_ret ?_
          exact Q_ret (x := .int .i64 w9) (by kernel_rfl) (.refl _)
        refine R_loop (ref05_Operand.l14 e_0 k_2) (fun s11 => (mkSt [(0, .u (.sl (List.map ApiTerm.cells e_0))), (2, .u (.int .i64 k_2)), (7, .u (.int .i64 s11.1)), (8, .u (.int .i64 s11.2))] [] 0)) hE (W_to (by kernel_rfl) (by kernel_rfl) (by kernel_rfl)) ?_
        intro K8 s11 x12 h hK8 hO8
        refine R_seq ?_
        refine R_seq ?_
        refine R_reg ?_
        refine S_pure trivial (O_mv (d := .u (.int .i64 s11.2)) (by kernel_rfl)) ?_
        refine S_pure trivial (O_mv (d := .u (.int .i64 k_2)) (by kernel_rfl)) ?_
        refine S_pure trivial (O_lss (k := .i64) (a := s11.2) (b := k_2) (by kernel_rfl) (by kernel_rfl)) ?_
        refine Rs_nil ?_
        refine N_s ?_
        refine R_cond (c := (decide (s11.2 < k_2))) (by kernel_rfl) h (fun h => ?_) (fun h => ?_)
        · refine R_skip ?_
          refine N_s ?_
          refine R_seq ?_
          refine R_block ?_
          refine R_reg ?_
          refine S_pure trivial (O_mv (d := .u (.sl (List.map ApiTerm.cells e_0))) (by kernel_rfl)) ?_
          refine S_pure trivial (O_mv (d := .u (.int .i64 s11.1)) (by kernel_rfl)) ?_
          obtain ⟨y13, hy13, h⟩ := bindS h
          refine S_pure trivial (O_ca (us := [.sl (List.map ApiTerm.cells e_0), .int .i64 s11.1]) (r := .int .i64 y13) (by kernel_rfl) (ref05_End.ok hy13)) ?_
          refine S_pure trivial (O_mv (d := .u (.int .i64 y13)) (by kernel_rfl)) ?_
          refine Rs_nil ?_
          refine N_b ?_
          refine N_s ?_
          refine R_reg ?_
          refine S_pure trivial (O_mv (d := .u (.int .i64 s11.2)) (by kernel_rfl)) ?_
          refine S_pure trivial (O_add (k := .i64) (a := s11.2) (b := 1) (by kernel_rfl) (by kernel_rfl)) ?_
          refine S_pure trivial (O_mv (d := .u (.int .i64 ((IntKind.i64.wrap (s11.2 + 1))))) (by kernel_rfl)) ?_
          refine Rs_nil ?_
          exact N_k (hK8 _ h _ (W_to (by kernel_rfl) (by kernel_rfl) (by kernel_rfl)))
        · refine R_exit ?_
          refine E_s ?_
          refine E_k ?_
          refine E_b ?_
          refine N_s ?_
          exact R_weak (W_to (by kernel_rfl) (by kernel_rfl) (by kernel_rfl)) (K10 _ (hO8 _ h))
    replace h := hE
    refine S_case (t := 17) (c := ((decide (y1 < 0)) || (decide (k_2 < 0)))) (by kernel_rfl) h (fun hc h => ?_) (fun hc h => ?_)
    · refine S_skip (b := true) (by kernel_rfl) rfl ?_
      refine S_skip (b := true) (by kernel_rfl) rfl ?_
      refine S_skip (b := true) (by kernel_rfl) rfl ?_
      refine S_skip (b := true) (by kernel_rfl) rfl ?_
      refine S_skip (b := true) (by kernel_rfl) rfl ?_
      refine S_skip (b := true) (by kernel_rfl) rfl ?_
      refine S_skip (b := true) (by kernel_rfl) rfl ?_
      refine S_skip (b := true) (by kernel_rfl) rfl ?_
      refine S_pure trivial (O_pkt (d := .u (.bool true)) (by kernel_rfl) (by kernel_rfl)) ?_
      obtain rfl := Option.some.inj h
      exact Rs_weak (W_to (by kernel_rfl) (by kernel_rfl) (by kernel_rfl)) K4
    · refine S_pure (by show _ = _; kernel_rfl) (O_mv (d := .u (.int .i64 k_2)) (by kernel_rfl)) ?_
      refine S_pure (by show _ = _; kernel_rfl) (O_mv (d := .u (.sl (List.map ApiTerm.cells e_0))) (by kernel_rfl)) ?_
      refine S_pure (by show _ = _; kernel_rfl) (O_mv (d := .u (.int .i64 at_1)) (by kernel_rfl)) ?_
      obtain ⟨y15, hy15, h⟩ := bindS h
      refine S_pure (by show _ = _; kernel_rfl) (O_ia (c := ApiTerm.cells) (li := e_0) (i := at_1) (k := .i64) (a := y15) (u := ApiTerm.cells y15) (by kernel_rfl) (by kernel_rfl) hy15 rfl rfl) ?_
      refine S_pure (by show _ = _; kernel_rfl) (O_faf (cells := ApiTerm.cells y15) (o := 0) (by kernel_rfl)) ?_
      refine S_pure (by show _ = _; kernel_rfl) (O_ldf (cells := ApiTerm.cells y15) (off := 0) (u := .int .i64 y15.Op) (by kernel_rfl) (by kernel_rfl)) ?_
      obtain ⟨y16, hy16, h⟩ := bindS h
      refine S_pure (by show _ = _; kernel_rfl) (O_ca (us := [.int .i64 y15.Op]) (r := .int .i64 y16) (by kernel_rfl) (ref05_Arity.ok hy16)) ?_
      refine S_pure (by show _ = _; kernel_rfl) (O_geq (k := .i64) (a := k_2) (b := y16) (by kernel_rfl) (by kernel_rfl)) ?_
      refine S_pure trivial (O_pkf (d := .u (.bool ((decide (y16 ≤ k_2))))) (by kernel_rfl) (by kernel_rfl)) ?_
      obtain rfl := Option.some.inj h
      exact Rs_weak (W_to (by kernel_rfl) (by kernel_rfl) (by kernel_rfl)) K4
  refine S_case0 (t := 13) (c := (decide (y1 < 0))) (by kernel_rfl) (fun hc => ?_) (fun hc => ?_)
  · refine S_skip (b := true) (by kernel_rfl) rfl ?_
    refine S_skip (b := true) (by kernel_rfl) rfl ?_
    refine S_pure trivial (O_pkt (d := .u (.bool true)) (by kernel_rfl) (by kernel_rfl)) ?_
    exact Rs_weak (W_to (by kernel_rfl) (by kernel_rfl) (by kernel_rfl)) (K2 _ (by rw [hc] <;> rfl))
  · refine S_pure (by show _ = _; kernel_rfl) (O_mv (d := .u (.int .i64 k_2)) (by kernel_rfl)) ?_
    refine S_pure (by show _ = _; kernel_rfl) (O_lss (k := .i64) (a := k_2) (b := 0) (by kernel_rfl) (by kernel_rfl)) ?_
    refine S_pure trivial (O_pkf (d := .u (.bool ((decide (k_2 < 0))))) (by kernel_rfl) (by kernel_rfl)) ?_
    exact Rs_weak (W_to (by kernel_rfl) (by kernel_rfl) (by kernel_rfl)) (K2 _ (by rw [hc] <;> rfl))

/-! ### selfstab/selfstabref07.double -/
def q_ref07_double_1 : AC := .reg [⟨some 6, none, .mv (.c (.int .i64 0))⟩]
def q_ref07_double_2 : AC := .seq q_ref07_double_1 .ret
def q_ref07_double_3 : AC := .cond (.t 20) q_ref07_double_2 .skip
def q_ref07_double_4 : AC := .reg [⟨some 6, none, .mv (.c (.int .i64 2))⟩]
def q_ref07_double_5 : AC := .seq q_ref07_double_4 .ret
def q_ref07_double_6 : AC := .reg [⟨some 6, none, .mv (.c (.int .i64 1))⟩]
def q_ref07_double_7 : AC := .seq q_ref07_double_6 .ret
def q_ref07_double_8 : AC := .reg [⟨some 6, none, .mv (.c (.int .i64 0))⟩]
def q_ref07_double_9 : AC := .seq q_ref07_double_8 .ret
def q_ref07_double_10 : AC := .cond (.t 33) q_ref07_double_9 .skip
def q_ref07_double_11 : AC := .reg [⟨some 6, none, .mv (.c (.int .i64 2))⟩]
def q_ref07_double_12 : AC := .seq q_ref07_double_11 .ret
def q_ref07_double_13 : AC := .reg [⟨some 6, none, .mv (.c (.int .i64 2))⟩]
def q_ref07_double_14 : AC := .seq q_ref07_double_13 .ret
def q_ref07_double_15 : AC := .cond (.t 41) q_ref07_double_14 .skip
def q_ref07_double_16 : AC := .reg [⟨some 6, none, .mv (.c (.int .i64 0))⟩]
def q_ref07_double_17 : AC := .seq q_ref07_double_16 .ret
def q_ref07_double_18 : AC := .reg [⟨some 42, none, .mv (.t 0)⟩, ⟨some 43, none, .bi .geq (.t 42) (.c (.int .i64 37))⟩, ⟨some 44, none, .mv (.t 43)⟩, ⟨some 45, some (44, true), .mv (.t 0)⟩, ⟨some 46, some (44, true), .bi .leq (.t 45) (.c (.int .i64 40))⟩, ⟨some 47, none, .pk (.t 44) (.t 46) (.c (.bool false))⟩, ⟨some 41, none, .mv (.t 47)⟩]
def q_ref07_double_19 : AC := .seq q_ref07_double_18 q_ref07_double_15
def q_ref07_double_20 : AC := .cond (.t 34) q_ref07_double_17 q_ref07_double_19
def q_ref07_double_21 : AC := .reg [⟨some 28, none, .mv (.t 1)⟩, ⟨some 29, none, .bi .neq (.t 28) (.c (.int .i64 2))⟩, ⟨some 30, none, .mv (.t 29)⟩, ⟨some 31, some (30, false), .mv (.t 2)⟩, ⟨some 32, some (30, false), .bi .neq (.t 31) (.c (.int .i64 2))⟩, ⟨some 33, none, .pk (.t 30) (.c (.bool true)) (.t 32)⟩]
def q_ref07_double_22 : AC := .seq q_ref07_double_21 q_ref07_double_10
def q_ref07_double_23 : AC := .seq q_ref07_double_22 q_ref07_double_12
def q_ref07_double_24 : AC := .reg [⟨some 35, none, .mv (.t 1)⟩, ⟨some 36, none, .bi .neq (.t 35) (.c (.int .i64 1))⟩, ⟨some 37, none, .mv (.t 36)⟩, ⟨some 38, some (37, false), .mv (.t 2)⟩, ⟨some 39, some (37, false), .bi .neq (.t 38) (.c (.int .i64 1))⟩, ⟨some 40, none, .pk (.t 37) (.c (.bool true)) (.t 39)⟩, ⟨some 34, none, .mv (.t 40)⟩]
def q_ref07_double_25 : AC := .seq q_ref07_double_24 q_ref07_double_20
def q_ref07_double_26 : AC := .cond (.t 21) q_ref07_double_23 q_ref07_double_25
def q_ref07_double_27 : AC := .reg [⟨some 14, none, .mv (.t 1)⟩, ⟨some 15, none, .mv (.t 2)⟩, ⟨some 16, none, .bi .neq (.t 14) (.t 15)⟩, ⟨some 17, none, .mv (.t 16)⟩, ⟨some 18, some (17, false), .mv (.t 1)⟩, ⟨some 19, some (17, false), .bi .eql (.t 18) (.c (.int .i64 0))⟩, ⟨some 20, none, .pk (.t 17) (.c (.bool true)) (.t 19)⟩]
def q_ref07_double_28 : AC := .seq q_ref07_double_27 q_ref07_double_3
def q_ref07_double_29 : AC := .seq q_ref07_double_28 q_ref07_double_5
def q_ref07_double_30 : AC := .reg [⟨some 22, none, .mv (.t 0)⟩, ⟨some 23, none, .bi .eql (.t 22) (.c (.int .i64 41))⟩, ⟨some 24, none, .mv (.t 23)⟩, ⟨some 25, some (24, false), .mv (.t 0)⟩, ⟨some 26, some (24, false), .bi .eql (.t 25) (.c (.int .i64 42))⟩, ⟨some 27, none, .pk (.t 24) (.c (.bool true)) (.t 26)⟩, ⟨some 21, none, .mv (.t 27)⟩]
def q_ref07_double_31 : AC := .seq q_ref07_double_30 q_ref07_double_26
def q_ref07_double_32 : AC := .cond (.t 7) q_ref07_double_29 q_ref07_double_31
def q_ref07_double_33 : AC := .reg [⟨some 8, none, .mv (.t 0)⟩, ⟨some 9, none, .bi .eql (.t 8) (.c (.int .i64 35))⟩, ⟨some 10, none, .mv (.t 9)⟩, ⟨some 11, some (10, false), .mv (.t 0)⟩, ⟨some 12, some (10, false), .bi .eql (.t 11) (.c (.int .i64 36))⟩, ⟨some 13, none, .pk (.t 10) (.c (.bool true)) (.t 12)⟩, ⟨some 7, none, .mv (.t 13)⟩]
def q_ref07_double_34 : AC := .seq q_ref07_double_33 q_ref07_double_32
def q_ref07_double_35 : AC := .block 0 q_ref07_double_34
def q_ref07_double_36 : AC := .seq q_ref07_double_35 q_ref07_double_7
def q_ref07_double_37 : AC := .reg [⟨some 6, none, .mv (.c (.int .i64 0))⟩]
def q_ref07_double_38 : AC := .seq q_ref07_double_37 q_ref07_double_36
def c_ref07_double : FC := ⟨48, [6], q_ref07_double_38⟩
theorem k_ref07_double : okF Try.prog 86 c_ref07_double = true := by decide +kernel
noncomputable def ref07_double (op_0 : Int) (a_1 : Int) (b_2 : Int) : Option Int := (bif ((decide (op_0 = 35)) || (decide (op_0 = 36))) then (bif ((!decide (a_1 = b_2)) || (decide (a_1 = 0))) then (some 0) else (some 2)) else (bif ((decide (op_0 = 41)) || (decide (op_0 = 42))) then (bif ((!decide (a_1 = 2)) || (!decide (b_2 = 2))) then (some 0) else (some 2)) else (bif ((!decide (a_1 = 1)) || (!decide (b_2 = 1))) then (some 0) else (bif ((decide (37 ≤ op_0)) && (decide (op_0 ≤ 40))) then (some 2) else (some 1)))))
theorem ref07_double.ok {op_0 : Int} {a_1 : Int} {b_2 : Int} {r : Int} (h : ref07_double op_0 a_1 b_2 = some r) : PC Try.prog 86 [.int .i64 op_0, .int .i64 a_1, .int .i64 b_2] (.int .i64 r) := by
  refine PC_run k_ref07_double rfl (L := [(0, .u (.int .i64 op_0)), (1, .u (.int .i64 a_1)), (2, .u (.int .i64 b_2))]) rfl ?_
  show Run Try.prog 48 (retQ [6] (.int .i64 r)) [] q_ref07_double_38 _
  refine R_seq ?_
  refine R_reg ?_
  refine S_pure trivial (O_mv (d := .u (.int .i64 0)) (by kernel_rfl)) ?_
  refine Rs_nil ?_
  refine N_s ?_
  refine R_seq ?_
  refine R_block ?_
  refine R_seq ?_
  refine R_reg ?_
  refine S_pure trivial (O_mv (d := .u (.int .i64 op_0)) (by kernel_rfl)) ?_
  refine S_pure trivial (O_eql (k := .i64) (a := op_0) (b := 35) (by kernel_rfl) (by kernel_rfl)) ?_
  refine S_pure trivial (O_mv (d := .u (.bool ((decide (op_0 = 35))))) (by kernel_rfl)) ?_
  have K1 : ∀ v2 : Bool, v2 = ((decide (op_0 = 35)) || (decide (op_0 = 36))) → Rs Try.prog 48 (retQ [6] (.int .i64 r)) [.s q_ref07_double_32, .b 0, .s q_ref07_double_7] [⟨some 7, none, .mv (.t 13)⟩] (mkSt [(0, .u (.int .i64 op_0)), (1, .u (.int .i64 a_1)), (2, .u (.int .i64 b_2)), (13, .u (.bool v2))] [] 0) := by
    intro v2 e; subst e
    refine S_pure trivial (O_mv (d := .u (.bool (((decide (op_0 = 35)) || (decide (op_0 = 36)))))) (by kernel_rfl)) ?_
    refine Rs_nil ?_
    refine N_s ?_
    refine R_cond (c := ((decide (op_0 = 35)) || (decide (op_0 = 36)))) (by kernel_rfl) h (fun h => ?_) (fun h => ?_)
    · refine R_seq ?_
      refine R_seq ?_
      refine R_reg ?_
      refine S_pure trivial (O_mv (d := .u (.int .i64 a_1)) (by kernel_rfl)) ?_
      refine S_pure trivial (O_mv (d := .u (.int .i64 b_2)) (by kernel_rfl)) ?_
      refine S_pure trivial (O_neq (k := .i64) (a := a_1) (b := b_2) (by kernel_rfl) (by kernel_rfl)) ?_
      refine S_pure trivial (O_mv (d := .u (.bool ((!decide (a_1 = b_2))))) (by kernel_rfl)) ?_
      have K3 : ∀ v4 : Bool, v4 = ((!decide (a_1 = b_2)) || (decide (a_1 = 0))) → Rs Try.prog 48 (retQ [6] (.int .i64 r)) [.s q_ref07_double_3, .s q_ref07_double_5, .b 0, .s q_ref07_double_7] [] (mkSt [(20, .u (.bool v4))] [] 0) := by
        intro v4 e; subst e
        refine Rs_nil ?_
        refine N_s ?_
        refine R_cond (c := ((!decide (a_1 = b_2)) || (decide (a_1 = 0)))) (by kernel_rfl) h (fun h => ?_) (fun h => ?_)
        · refine R_seq ?_
          refine R_reg ?_
          refine S_pure trivial (O_mv (d := .u (.int .i64 0)) (by kernel_rfl)) ?_
          refine Rs_nil ?_
          refine N_s ?_
          obtain rfl := (Option.some.inj h)
          refine R_ret ?_
          exact Q_ret (x := .int .i64 0) (by kernel_rfl) (.refl _)
        · refine R_skip ?_
          refine N_s ?_
          refine R_seq ?_
          refine R_reg ?_
          refine S_pure trivial (O_mv (d := .u (.int .i64 2)) (by kernel_rfl)) ?_
          refine Rs_nil ?_
          refine N_s ?_
          obtain rfl := (Option.some.inj h)
          refine R_ret ?_
          exact Q_ret (x := .int .i64 2) (by kernel_rfl) (.refl _)
      refine S_case0 (t := 17) (c := (!decide (a_1 = b_2))) (by kernel_rfl) (fun hc => ?_) (fun hc => ?_)
      · refine S_skip (b := true) (by kernel_rfl) rfl ?_
        refine S_skip (b := true) (by kernel_rfl) rfl ?_
        refine S_pure trivial (O_pkt (d := .u (.bool true)) (by kernel_rfl) (by kernel_rfl)) ?_
        exact Rs_weak (W_to (by kernel_rfl) (by kernel_rfl) (by kernel_rfl)) (K3 _ (by rw [hc] <;> rfl))
      · refine S_pure (by show _ = _; kernel_rfl) (O_mv (d := .u (.int .i64 a_1)) (by kernel_rfl)) ?_
        refine S_pure (by show _ = _; kernel_rfl) (O_eql (k := .i64) (a := a_1) (b := 0) (by kernel_rfl) (by kernel_rfl)) ?_
        refine S_pure trivial (O_pkf (d := .u (.bool ((decide (a_1 = 0))))) (by kernel_rfl) (by kernel_rfl)) ?_
        exact Rs_weak (W_to (by kernel_rfl) (by kernel_rfl) (by kernel_rfl)) (K3 _ (by rw [hc] <;> rfl))
    · refine R_seq ?_
      refine R_reg ?_
      refine S_pure trivial (O_mv (d := .u (.int .i64 op_0)) (by kernel_rfl)) ?_
      refine S_pure trivial (O_eql (k := .i64) (a := op_0) (b := 41) (by kernel_rfl) (by kernel_rfl)) ?_
      refine S_pure trivial (O_mv (d := .u (.bool ((decide (op_0 = 41))))) (by kernel_rfl)) ?_
      have K5 : ∀ v6 : Bool, v6 = ((decide (op_0 = 41)) || (decide (op_0 = 42))) → Rs Try.prog 48 (retQ [6] (.int .i64 r)) [.s q_ref07_double_26, .b 0, .s q_ref07_double_7] [⟨some 21, none, .mv (.t 27)⟩] (mkSt [(0, .u (.int .i64 op_0)), (1, .u (.int .i64 a_1)), (2, .u (.int .i64 b_2)), (27, .u (.bool v6))] [] 0) := by
        intro v6 e; subst e
        refine S_pure trivial (O_mv (d := .u (.bool (((decide (op_0 = 41)) || (decide (op_0 = 42)))))) (by kernel_rfl)) ?_
        refine Rs_nil ?_
        refine N_s ?_
        refine R_cond (c := ((decide (op_0 = 41)) || (decide (op_0 = 42)))) (by kernel_rfl) h (fun h => ?_) (fun h => ?_)
        · refine R_seq ?_
          refine R_seq ?_
          refine R_reg ?_
          refine S_pure trivial (O_mv (d := .u (.int .i64 a_1)) (by kernel_rfl)) ?_
          refine S_pure trivial (O_neq (k := .i64) (a := a_1) (b := 2) (by kernel_rfl) (by kernel_rfl)) ?_
          refine S_pure trivial (O_mv (d := .u (.bool ((!decide (a_1 = 2))))) (by kernel_rfl)) ?_
          have K7 : ∀ v8 : Bool, v8 = ((!decide (a_1 = 2)) || (!decide (b_2 = 2))) → Rs Try.prog 48 (retQ [6] (.int .i64 r)) [.s q_ref07_double_10, .s q_ref07_double_12, .b 0, .s q_ref07_double_7] [] (mkSt [(33, .u (.bool v8))] [] 0) := by
            intro v8 e; subst e
            refine Rs_nil ?_
            refine N_s ?_
            refine R_cond (c := ((!decide (a_1 = 2)) || (!decide (b_2 = 2)))) (by kernel_rfl) h (fun h => ?_) (fun h => ?_)
            · refine R_seq ?_
              refine R_reg ?_
              refine S_pure trivial (O_mv (d := .u (.int .i64 0)) (by kernel_rfl)) ?_
              refine Rs_nil ?_
              refine N_s ?_
              obtain rfl := (Option.some.inj h)
              refine R_ret ?_
              exact Q_ret (x := .int .i64 0) (by kernel_rfl) (.refl _)
            · refine R_skip ?_
              refine N_s ?_
              refine R_seq ?_
              refine R_reg ?_
              refine S_pure trivial (O_mv (d := .u (.int .i64 2)) (by kernel_rfl)) ?_
              refine Rs_nil ?_
              refine N_s ?_
              obtain rfl := (Option.some.inj h)
              refine R_ret ?_
              exact Q_ret (x := .int .i64 2) (by kernel_rfl) (.refl _)
          refine S_case0 (t := 30) (c := (!decide (a_1 = 2))) (by kernel_rfl) (fun hc => ?_) (fun hc => ?_)
          · refine S_skip (b := true) (by kernel_rfl) rfl ?_
            refine S_skip (b := true) (by kernel_rfl) rfl ?_
            refine S_pure trivial (O_pkt (d := .u (.bool true)) (by kernel_rfl) (by kernel_rfl)) ?_
            exact Rs_weak (W_to (by kernel_rfl) (by kernel_rfl) (by kernel_rfl)) (K7 _ (by rw [hc] <;> rfl))
          · refine S_pure (by show _ = _; kernel_rfl) (O_mv (d := .u (.int .i64 b_2)) (by kernel_rfl)) ?_
            refine S_pure (by show _ = _; kernel_rfl) (O_neq (k := .i64) (a := b_2) (b := 2) (by kernel_rfl) (by kernel_rfl)) ?_
            refine S_pure trivial (O_pkf (d := .u (.bool ((!decide (b_2 = 2))))) (by kernel_rfl) (by kernel_rfl)) ?_
            exact Rs_weak (W_to (by kernel_rfl) (by kernel_rfl) (by kernel_rfl)) (K7 _ (by rw [hc] <;> rfl))
        · refine R_seq ?_
          refine R_reg ?_
          refine S_pure trivial (O_mv (d := .u (.int .i64 a_1)) (by kernel_rfl)) ?_
          refine S_pure trivial (O_neq (k := .i64) (a := a_1) (b := 1) (by kernel_rfl) (by kernel_rfl)) ?_
          refine S_pure trivial (O_mv (d := .u (.bool ((!decide (a_1 = 1))))) (by kernel_rfl)) ?_
          have K9 : ∀ v10 : Bool, v10 = ((!decide (a_1 = 1)) || (!decide (b_2 = 1))) → Rs Try.prog 48 (retQ [6] (.int .i64 r)) [.s q_ref07_double_20, .b 0, .s q_ref07_double_7] [⟨some 34, none, .mv (.t 40)⟩] (mkSt [(0, .u (.int .i64 op_0)), (40, .u (.bool v10))] [] 0) := by
            intro v10 e; subst e
            refine S_pure trivial (O_mv (d := .u (.bool (((!decide (a_1 = 1)) || (!decide (b_2 = 1)))))) (by kernel_rfl)) ?_
            refine Rs_nil ?_
            refine N_s ?_
            refine R_cond (c := ((!decide (a_1 = 1)) || (!decide (b_2 = 1)))) (by kernel_rfl) h (fun h => ?_) (fun h => ?_)
            · refine R_seq ?_
              refine R_reg ?_
              refine S_pure trivial (O_mv (d := .u (.int .i64 0)) (by kernel_rfl)) ?_
              refine Rs_nil ?_
              refine N_s ?_
              obtain rfl := (Option.some.inj h)
              refine R_ret ?_
              exact Q_ret (x := .int .i64 0) (by kernel_rfl) (.refl _)
            · refine R_seq ?_
              refine R_reg ?_
              refine S_pure trivial (O_mv (d := .u (.int .i64 op_0)) (by kernel_rfl)) ?_
              refine S_pure trivial (O_geq (k := .i64) (a := op_0) (b := 37) (by kernel_rfl) (by kernel_rfl)) ?_
              refine S_pure trivial (O_mv (d := .u (.bool ((decide (37 ≤ op_0))))) (by kernel_rfl)) ?_
              have K11 : ∀ v12 : Bool, v12 = ((decide (37 ≤ op_0)) && (decide (op_0 ≤ 40))) → Rs Try.prog 48 (retQ [6] (.int .i64 r)) [.s q_ref07_double_15, .b 0, .s q_ref07_double_7] [⟨some 41, none, .mv (.t 47)⟩] (mkSt [(47, .u (.bool v12))] [] 0) := by
                intro v12 e; subst e
                refine S_pure trivial (O_mv (d := .u (.bool (((decide (37 ≤ op_0)) && (decide (op_0 ≤ 40)))))) (by kernel_rfl)) ?_
                refine Rs_nil ?_
                refine N_s ?_
                refine R_cond (c := ((decide (37 ≤ op_0)) && (decide (op_0 ≤ 40)))) (by kernel_rfl) h (fun h => ?_) (fun h => ?_)
                · refine R_seq ?_
                  refine R_reg ?_
                  refine S_pure trivial (O_mv (d := .u (.int .i64 2)) (by kernel_rfl)) ?_
                  refine Rs_nil ?_
                  refine N_s ?_
                  obtain rfl := (Option.some.inj h)
                  refine R_ret ?_
                  exact Q_ret (x := .int .i64 2) (by kernel_rfl) (.refl _)
                · refine R_skip ?_
                  refine N_b ?_
                  refine N_s ?_
                  refine R_seq ?_
                  refine R_reg ?_
                  refine S_pure trivial (O_mv (d := .u (.int .i64 1)) (by kernel_rfl)) ?_
                  refine Rs_nil ?_
                  refine N_s ?_
                  obtain rfl := (Option.some.inj h)
                  refine R_ret ?_
                  exact Q_ret (x := .int .i64 1) (by kernel_rfl) (.refl _)
              refine S_case0 (t := 44) (c := (decide (37 ≤ op_0))) (by kernel_rfl) (fun hc => ?_) (fun hc => ?_)
              · refine S_pure (by show _ = _; kernel_rfl) (O_mv (d := .u (.int .i64 op_0)) (by kernel_rfl)) ?_
                refine S_pure (by show _ = _; kernel_rfl) (O_leq (k := .i64) (a := op_0) (b := 40) (by kernel_rfl) (by kernel_rfl)) ?_
                refine S_pure trivial (O_pkt (d := .u (.bool ((decide (op_0 ≤ 40))))) (by kernel_rfl) (by kernel_rfl)) ?_
                exact Rs_weak (W_to (by kernel_rfl) (by kernel_rfl) (by kernel_rfl)) (K11 _ (by rw [hc] <;> rfl))
              · refine S_skip (b := false) (by kernel_rfl) rfl ?_
                refine S_skip (b := false) (by kernel_rfl) rfl ?_
                refine S_pure trivial (O_pkf (d := .u (.bool false)) (by kernel_rfl) (by kernel_rfl)) ?_
                exact Rs_weak (W_to (by kernel_rfl) (by kernel_rfl) (by kernel_rfl)) (K11 _ (by rw [hc] <;> rfl))
          refine S_case0 (t := 37) (c := (!decide (a_1 = 1))) (by kernel_rfl) (fun hc => ?_) (fun hc => ?_)
          · refine S_skip (b := true) (by kernel_rfl) rfl ?_
            refine S_skip (b := true) (by kernel_rfl) rfl ?_
            refine S_pure trivial (O_pkt (d := .u (.bool true)) (by kernel_rfl) (by kernel_rfl)) ?_
            exact Rs_weak (W_to (by kernel_rfl) (by kernel_rfl) (by kernel_rfl)) (K9 _ (by rw [hc] <;> rfl))
          · refine S_pure (by show _ = _; kernel_rfl) (O_mv (d := .u (.int .i64 b_2)) (by kernel_rfl)) ?_
            refine S_pure (by show _ = _; kernel_rfl) (O_neq (k := .i64) (a := b_2) (b := 1) (by kernel_rfl) (by kernel_rfl)) ?_
            refine S_pure trivial (O_pkf (d := .u (.bool ((!decide (b_2 = 1))))) (by kernel_rfl) (by kernel_rfl)) ?_
            exact Rs_weak (W_to (by kernel_rfl) (by kernel_rfl) (by kernel_rfl)) (K9 _ (by rw [hc] <;> rfl))
      refine S_case0 (t := 24) (c := (decide (op_0 = 41))) (by kernel_rfl) (fun hc => ?_) (fun hc => ?_)
      · refine S_skip (b := true) (by kernel_rfl) rfl ?_
        refine S_skip (b := true) (by kernel_rfl) rfl ?_
        refine S_pure trivial (O_pkt (d := .u (.bool true)) (by kernel_rfl) (by kernel_rfl)) ?_
        exact Rs_weak (W_to (by kernel_rfl) (by kernel_rfl) (by kernel_rfl)) (K5 _ (by rw [hc] <;> rfl))
      · refine S_pure (by show _ = _; kernel_rfl) (O_mv (d := .u (.int .i64 op_0)) (by kernel_rfl)) ?_
        refine S_pure (by show _ = _; kernel_rfl) (O_eql (k := .i64) (a := op_0) (b := 42) (by kernel_rfl) (by kernel_rfl)) ?_
        refine S_pure trivial (O_pkf (d := .u (.bool ((decide (op_0 = 42))))) (by kernel_rfl) (by kernel_rfl)) ?_
        exact Rs_weak (W_to (by kernel_rfl) (by kernel_rfl) (by kernel_rfl)) (K5 _ (by rw [hc] <;> rfl))
  refine S_case0 (t := 10) (c := (decide (op_0 = 35))) (by kernel_rfl) (fun hc => ?_) (fun hc => ?_)
  · refine S_skip (b := true) (by kernel_rfl) rfl ?_
    refine S_skip (b := true) (by kernel_rfl) rfl ?_
    refine S_pure trivial (O_pkt (d := .u (.bool true)) (by kernel_rfl) (by kernel_rfl)) ?_
    exact Rs_weak (W_to (by kernel_rfl) (by kernel_rfl) (by kernel_rfl)) (K1 _ (by rw [hc] <;> rfl))
  · refine S_pure (by show _ = _; kernel_rfl) (O_mv (d := .u (.int .i64 op_0)) (by kernel_rfl)) ?_
    refine S_pure (by show _ = _; kernel_rfl) (O_eql (k := .i64) (a := op_0) (b := 36) (by kernel_rfl) (by kernel_rfl)) ?_
    refine S_pure trivial (O_pkf (d := .u (.bool ((decide (op_0 = 36))))) (by kernel_rfl) (by kernel_rfl)) ?_
    exact Rs_weak (W_to (by kernel_rfl) (by kernel_rfl) (by kernel_rfl)) (K1 _ (by rw [hc] <;> rfl))

/-! ### selfstab/selfstabref07.kind -/
def q_ref07_kind_1 : AC := .reg [⟨some 87, none, .mv (.t 11)⟩, ⟨some 8, none, .mv (.t 87)⟩]
def q_ref07_kind_2 : AC := .seq q_ref07_kind_1 .ret
def q_ref07_kind_3 : AC := .reg [⟨some 8, none, .mv (.c (.int .i64 0))⟩]
def q_ref07_kind_4 : AC := .seq q_ref07_kind_3 .ret
def q_ref07_kind_5 : AC := .cond (.t 86) q_ref07_kind_4 .skip
def q_ref07_kind_6 : AC := .reg [⟨some 80, none, .mv (.t 10)⟩, ⟨some 81, none, .bi .neq (.t 80) (.c (.int .i64 2))⟩, ⟨some 82, none, .mv (.t 81)⟩, ⟨some 83, some (82, false), .mv (.t 11)⟩, ⟨some 84, some (82, false), .mv (.t 12)⟩, ⟨some 85, some (82, false), .bi .neq (.t 83) (.t 84)⟩, ⟨some 86, none, .pk (.t 82) (.c (.bool true)) (.t 85)⟩]
def q_ref07_kind_7 : AC := .seq q_ref07_kind_6 q_ref07_kind_5
def q_ref07_kind_8 : AC := .seq q_ref07_kind_7 q_ref07_kind_2
def q_ref07_kind_9 : AC := .reg [⟨some 60, none, .mv (.t 0)⟩, ⟨some 61, none, .mv (.t 1)⟩, ⟨some 62, none, .bi .add (.t 61) (.c (.int .i64 1))⟩, ⟨some 63, none, .mv (.t 2)⟩, ⟨some 64, none, .mv (.t 3)⟩, ⟨some 65, none, .ca 52 [.t 60, .t 62, .t 63, .t 64]⟩, ⟨some 66, none, .mv (.t 0)⟩, ⟨some 67, none, .mv (.t 0)⟩, ⟨some 68, none, .mv (.t 1)⟩, ⟨some 69, none, .ca 30 [.t 67, .t 68, .c (.int .i64 1)]⟩, ⟨some 70, none, .mv (.t 2)⟩, ⟨some 71, none, .mv (.t 3)⟩, ⟨some 72, none, .ca 52 [.t 66, .t 69, .t 70, .t 71]⟩, ⟨some 73, none, .mv (.t 0)⟩, ⟨some 74, none, .mv (.t 0)⟩, ⟨some 75, none, .mv (.t 1)⟩, ⟨some 76, none, .ca 30 [.t 74, .t 75, .c (.int .i64 2)]⟩, ⟨some 77, none, .mv (.t 2)⟩, ⟨some 78, none, .mv (.t 3)⟩, ⟨some 79, none, .ca 52 [.t 73, .t 76, .t 77, .t 78]⟩, ⟨some 10, none, .mv (.t 65)⟩, ⟨some 11, none, .mv (.t 72)⟩, ⟨some 12, none, .mv (.t 79)⟩]
def q_ref07_kind_10 : AC := .seq q_ref07_kind_9 q_ref07_kind_8
def q_ref07_kind_11 : AC := .reg [⟨some 22, none, .mv (.t 0)⟩, ⟨some 23, none, .mv (.t 1)⟩, ⟨some 24, none, .ia 2 (.t 22) (.t 23)⟩, ⟨some 25, none, .ld true 2 (.t 24)⟩, ⟨some 26, none, .mv (.t 2)⟩, ⟨some 27, none, .mv (.t 3)⟩, ⟨some 28, none, .ca 84 [.t 25, .t 26, .t 27]⟩, ⟨some 8, none, .mv (.t 28)⟩]
def q_ref07_kind_12 : AC := .seq q_ref07_kind_11 .ret
def q_ref07_kind_13 : AC := .reg [⟨some 31, none, .mv (.t 9)⟩, ⟨some 32, none, .mv (.t 0)⟩, ⟨some 33, none, .mv (.t 1)⟩, ⟨some 34, none, .bi .add (.t 33) (.c (.int .i64 1))⟩, ⟨some 35, none, .mv (.t 2)⟩, ⟨some 36, none, .mv (.t 3)⟩, ⟨some 37, none, .mv (.t 36)⟩, ⟨some 38, some (37, false), .mv (.t 9)⟩, ⟨some 39, some (37, false), .ca 28 [.t 38]⟩, ⟨some 40, none, .pk (.t 37) (.c (.bool true)) (.t 39)⟩, ⟨some 41, none, .ca 52 [.t 32, .t 34, .t 35, .t 40]⟩, ⟨some 42, none, .ca 85 [.t 31, .t 41]⟩, ⟨some 8, none, .mv (.t 42)⟩]
def q_ref07_kind_14 : AC := .seq q_ref07_kind_13 .ret
def q_ref07_kind_15 : AC := .reg [⟨some 45, none, .mv (.t 9)⟩, ⟨some 46, none, .mv (.t 0)⟩, ⟨some 47, none, .mv (.t 1)⟩, ⟨some 48, none, .bi .add (.t 47) (.c (.int .i64 1))⟩, ⟨some 49, none, .mv (.t 2)⟩, ⟨some 50, none, .mv (.t 3)⟩, ⟨some 51, none, .ca 52 [.t 46, .t 48, .t 49, .t 50]⟩, ⟨some 52, none, .mv (.t 0)⟩, ⟨some 53, none, .mv (.t 0)⟩, ⟨some 54, none, .mv (.t 1)⟩, ⟨some 55, none, .ca 30 [.t 53, .t 54, .c (.int .i64 1)]⟩, ⟨some 56, none, .mv (.t 2)⟩, ⟨some 57, none, .mv (.t 3)⟩, ⟨some 58, none, .ca 52 [.t 52, .t 55, .t 56, .t 57]⟩, ⟨some 59, none, .ca 86 [.t 45, .t 51, .t 58]⟩, ⟨some 8, none, .mv (.t 59)⟩]
def q_ref07_kind_16 : AC := .seq q_ref07_kind_15 .ret
def q_ref07_kind_17 : AC := .cond (.t 43) q_ref07_kind_16 .skip
def q_ref07_kind_18 : AC := .reg [⟨some 44, none, .bi .eql (.t 19) (.c (.int .i64 2))⟩, ⟨some 43, none, .mv (.t 44)⟩]
def q_ref07_kind_19 : AC := .seq q_ref07_kind_18 q_ref07_kind_17
def q_ref07_kind_20 : AC := .cond (.t 29) q_ref07_kind_14 q_ref07_kind_19
def q_ref07_kind_21 : AC := .reg [⟨some 30, none, .bi .eql (.t 19) (.c (.int .i64 1))⟩, ⟨some 29, none, .mv (.t 30)⟩]
def q_ref07_kind_22 : AC := .seq q_ref07_kind_21 q_ref07_kind_20
def q_ref07_kind_23 : AC := .cond (.t 20) q_ref07_kind_12 q_ref07_kind_22
def q_ref07_kind_24 : AC := .reg [⟨some 21, none, .bi .eql (.t 19) (.c (.int .i64 0))⟩, ⟨some 20, none, .mv (.t 21)⟩]
def q_ref07_kind_25 : AC := .seq q_ref07_kind_24 q_ref07_kind_23
def q_ref07_kind_26 : AC := .block 0 q_ref07_kind_25
def q_ref07_kind_27 : AC := .reg [⟨some 18, none, .mv (.t 9)⟩, ⟨some 19, none, .ca 29 [.t 18]⟩]
def q_ref07_kind_28 : AC := .seq q_ref07_kind_27 q_ref07_kind_26
def q_ref07_kind_29 : AC := .seq q_ref07_kind_28 q_ref07_kind_10
def q_ref07_kind_30 : AC := .reg [⟨some 13, none, .mv (.t 0)⟩, ⟨some 14, none, .mv (.t 1)⟩, ⟨some 15, none, .ia 2 (.t 13) (.t 14)⟩, ⟨some 16, none, .fa 0 (.t 15)⟩, ⟨some 17, none, .ld false 1 (.t 16)⟩, ⟨some 9, none, .mv (.t 17)⟩]
def q_ref07_kind_31 : AC := .seq q_ref07_kind_30 q_ref07_kind_29
def q_ref07_kind_32 : AC := .reg [⟨some 8, none, .mv (.c (.int .i64 0))⟩]
def q_ref07_kind_33 : AC := .seq q_ref07_kind_32 q_ref07_kind_31
def c_ref07_kind : FC := ⟨88, [8], q_ref07_kind_33⟩
theorem k_ref07_kind : okF Try.prog 52 c_ref07_kind = true := by decide +kernel
noncomputable def ref07_kind.body (rec_ref07_kind : (List ApiTerm) → Int → (List Int) → Bool → Option Int) (e_0 : List ApiTerm) (at_1 : Int) (kinds_2 : List Int) (bound_3 : Bool) : Option Int := ((idx e_0 at_1).bind (fun (y1 : ApiTerm) => ((ref05_Arity y1.Op).bind (fun (y2 : Int) => (bif (decide (y2 = 0)) then ((idx e_0 at_1).bind (fun (y3 : ApiTerm) => ((ref07_leaf y3 kinds_2 bound_3).bind (fun (y4 : Int) => (some y4))))) else (bif (decide (y2 = 1)) then ((bif bound_3 then (some true) else ((ref05_Aggregate y1.Op).bind (fun (y10 : Bool) => (some y10)))).bind (fun (o7 : Bool) => ((rec_ref07_kind e_0 ((IntKind.i64.wrap (at_1 + 1))) kinds_2 o7).bind (fun (y8 : Int) => ((ref07_single y1.Op y8).bind (fun (y9 : Int) => (some y9))))))) else (bif (decide (y2 = 2)) then ((rec_ref07_kind e_0 ((IntKind.i64.wrap (at_1 + 1))) kinds_2 bound_3).bind (fun (y11 : Int) => ((ref05_Operand e_0 at_1 1).bind (fun (y12 : Int) => ((rec_ref07_kind e_0 y12 kinds_2 bound_3).bind (fun (y13 : Int) => ((ref07_double y1.Op y11 y13).bind (fun (y14 : Int) => (some y14))))))))) else ((rec_ref07_kind e_0 ((IntKind.i64.wrap (at_1 + 1))) kinds_2 bound_3).bind (fun (y15 : Int) => ((ref05_Operand e_0 at_1 1).bind (fun (y16 : Int) => ((rec_ref07_kind e_0 y16 kinds_2 bound_3).bind (fun (y17 : Int) => ((ref05_Operand e_0 at_1 2).bind (fun (y18 : Int) => ((rec_ref07_kind e_0 y18 kinds_2 bound_3).bind (fun (y19 : Int) => (bif ((!decide (y15 = 2)) || (!decide (y17 = y19))) then (some 0) else (some y17)))))))))))))))))))
theorem ref07_kind.body_ok {rec_ref07_kind : (List ApiTerm) → Int → (List Int) → Bool → Option Int} (h_rec_ref07_kind : ∀ z0 z1 z2 z3 r, rec_ref07_kind z0 z1 z2 z3 = some r → PC Try.prog 52 [.sl (List.map ApiTerm.cells z0), .int .i64 z1, .sl (List.map (cInt .i64) z2), .bool z3] (.int .i64 r)) {e_0 : List ApiTerm} {at_1 : Int} {kinds_2 : List Int} {bound_3 : Bool} {r : Int} (h : ref07_kind.body rec_ref07_kind e_0 at_1 kinds_2 bound_3 = some r) : PC Try.prog 52 [.sl (List.map ApiTerm.cells e_0), .int .i64 at_1, .sl (List.map (cInt .i64) kinds_2), .bool bound_3] (.int .i64 r) := by
  refine PC_run k_ref07_kind rfl (L := [(0, .u (.sl (List.map ApiTerm.cells e_0))), (1, .u (.int .i64 at_1)), (2, .u (.sl (List.map (cInt .i64) kinds_2))), (3, .u (.bool bound_3))]) rfl ?_
  show Run Try.prog 88 (retQ [8] (.int .i64 r)) [] q_ref07_kind_33 _
  refine R_seq ?_
  refine R_reg ?_
  refine S_pure trivial (O_mv (d := .u (.int .i64 0)) (by kernel_rfl)) ?_
  refine Rs_nil ?_
  refine N_s ?_
  refine R_seq ?_
  refine R_reg ?_
  refine S_pure trivial (O_mv (d := .u (.sl (List.map ApiTerm.cells e_0))) (by kernel_rfl)) ?_
  refine S_pure trivial (O_mv (d := .u (.int .i64 at_1)) (by kernel_rfl)) ?_
  obtain ⟨y1, hy1, h⟩ := bindS h
  refine S_pure trivial (O_ia (c := ApiTerm.cells) (li := e_0) (i := at_1) (k := .i64) (a := y1) (u := ApiTerm.cells y1) (by kernel_rfl) (by kernel_rfl) hy1 rfl rfl) ?_
  refine S_pure trivial (O_faf (cells := ApiTerm.cells y1) (o := 0) (by kernel_rfl)) ?_
  refine S_pure trivial (O_ldf (cells := ApiTerm.cells y1) (off := 0) (u := .int .i64 y1.Op) (by kernel_rfl) (by kernel_rfl)) ?_
  refine S_pure trivial (O_mv (d := .u (.int .i64 y1.Op)) (by kernel_rfl)) ?_
  refine Rs_nil ?_
  refine N_s ?_
  refine R_seq ?_
  refine R_seq ?_
  refine R_reg ?_
  refine S_pure trivial (O_mv (d := .u (.int .i64 y1.Op)) (by kernel_rfl)) ?_
  obtain ⟨y2, hy2, h⟩ := bindS h
  refine S_pure trivial (O_ca (us := [.int .i64 y1.Op]) (r := .int .i64 y2) (by kernel_rfl) (ref05_Arity.ok hy2)) ?_
  refine Rs_nil ?_
  refine N_s ?_
  refine R_block ?_
  refine R_seq ?_
  refine R_reg ?_
  refine S_pure trivial (O_eql (k := .i64) (a := y2) (b := 0) (by kernel_rfl) (by kernel_rfl)) ?_
  refine S_pure trivial (O_mv (d := .u (.bool ((decide (y2 = 0))))) (by kernel_rfl)) ?_
  refine Rs_nil ?_
  refine N_s ?_
  refine R_cond (c := (decide (y2 = 0))) (by kernel_rfl) h (fun h => ?_) (fun h => ?_)
  · refine R_seq ?_
    refine R_reg ?_
    refine S_pure trivial (O_mv (d := .u (.sl (List.map ApiTerm.cells e_0))) (by kernel_rfl)) ?_
    refine S_pure trivial (O_mv (d := .u (.int .i64 at_1)) (by kernel_rfl)) ?_
    obtain ⟨y3, hy3, h⟩ := bindS h
    refine S_pure trivial (O_ia (c := ApiTerm.cells) (li := e_0) (i := at_1) (k := .i64) (a := y3) (u := ApiTerm.cells y3) (by kernel_rfl) (by kernel_rfl) hy3 rfl rfl) ?_
    refine S_pure trivial (O_lda (cells := ApiTerm.cells y3) (off := 0) (us := ApiTerm.cells y3) (by kernel_rfl) rfl (by kernel_rfl)) ?_
    refine S_pure trivial (O_mv (d := .u (.sl (List.map (cInt .i64) kinds_2))) (by kernel_rfl)) ?_
    refine S_pure trivial (O_mv (d := .u (.bool bound_3)) (by kernel_rfl)) ?_
    obtain ⟨y4, hy4, h⟩ := bindS h
    refine S_pure trivial (O_ca (us := [.agg (ApiTerm.cells y3), .sl (List.map (cInt .i64) kinds_2), .bool bound_3]) (r := .int .i64 y4) (by kernel_rfl) (ref07_leaf.ok hy4)) ?_
    refine S_pure trivial (O_mv (d := .u (.int .i64 y4)) (by kernel_rfl)) ?_
    refine Rs_nil ?_
    refine N_s ?_
    obtain rfl := (Option.some.inj h)
    refine R_ret ?_
    exact Q_ret (x := .int .i64 y4) (by kernel_rfl) (.refl _)
  · refine R_seq ?_
    refine R_reg ?_
    refine S_pure trivial (O_eql (k := .i64) (a := y2) (b := 1) (by kernel_rfl) (by kernel_rfl)) ?_
    refine S_pure trivial (O_mv (d := .u (.bool ((decide (y2 = 1))))) (by kernel_rfl)) ?_
    refine Rs_nil ?_
    refine N_s ?_
    refine R_cond (c := (decide (y2 = 1))) (by kernel_rfl) h (fun h => ?_) (fun h => ?_)
    · refine R_seq ?_
      refine R_reg ?_
      refine S_pure trivial (O_mv (d := .u (.int .i64 y1.Op)) (by kernel_rfl)) ?_
      refine S_pure trivial (O_mv (d := .u (.sl (List.map ApiTerm.cells e_0))) (by kernel_rfl)) ?_
      refine S_pure trivial (O_mv (d := .u (.int .i64 at_1)) (by kernel_rfl)) ?_
      refine S_pure trivial (O_add (k := .i64) (a := at_1) (b := 1) (by kernel_rfl) (by kernel_rfl)) ?_
      refine S_pure trivial (O_mv (d := .u (.sl (List.map (cInt .i64) kinds_2))) (by kernel_rfl)) ?_
      refine S_pure trivial (O_mv (d := .u (.bool bound_3)) (by kernel_rfl)) ?_
      refine S_pure trivial (O_mv (d := .u (.bool bound_3)) (by kernel_rfl)) ?_
      obtain ⟨o7, hE, h⟩ := bindS h
      have K5 : Rs Try.prog 88 (retQ [8] (.int .i64 r)) [.s .ret, .b 0, .s q_ref07_kind_10] [⟨some 41, none, .ca 52 [.t 32, .t 34, .t 35, .t 40]⟩, ⟨some 42, none, .ca 85 [.t 31, .t 41]⟩, ⟨some 8, none, .mv (.t 42)⟩] (mkSt [(31, .u (.int .i64 y1.Op)), (32, .u (.sl (List.map ApiTerm.cells e_0))), (34, .u (.int .i64 ((IntKind.i64.wrap (at_1 + 1))))), (35, .u (.sl (List.map (cInt .i64) kinds_2))), (40, .u (.bool o7))] [] 0) := by
        obtain ⟨y8, hy8, h⟩ := bindS h
        refine S_pure trivial (O_ca (us := [.sl (List.map ApiTerm.cells e_0), .int .i64 ((IntKind.i64.wrap (at_1 + 1))), .sl (List.map (cInt .i64) kinds_2), .bool o7]) (r := .int .i64 y8) (by kernel_rfl) (h_rec_ref07_kind _ _ _ _ _ hy8)) ?_
        obtain ⟨y9, hy9, h⟩ := bindS h
        refine S_pure trivial (O_ca (us := [.int .i64 y1.Op, .int .i64 y8]) (r := .int .i64 y9) (by kernel_rfl) (ref07_single.ok hy9)) ?_
        refine S_pure trivial (O_mv (d := .u (.int .i64 y9)) (by kernel_rfl)) ?_
        refine Rs_nil ?_
        refine N_s ?_
        obtain rfl := (Option.some.inj h)
        refine R_ret ?_
        exact Q_ret (x := .int .i64 y9) (by kernel_rfl) (.refl _)
      replace h := hE
      refine S_case (t := 37) (c := bound_3) (by kernel_rfl) h (fun hc h => ?_) (fun hc h => ?_)
      · refine S_skip (b := true) (by kernel_rfl) rfl ?_
        refine S_skip (b := true) (by kernel_rfl) rfl ?_
        refine S_pure trivial (O_pkt (d := .u (.bool true)) (by kernel_rfl) (by kernel_rfl)) ?_
        obtain rfl := Option.some.inj h
        exact Rs_weak (W_to (by kernel_rfl) (by kernel_rfl) (by kernel_rfl)) K5
      · refine S_pure (by show _ = _; kernel_rfl) (O_mv (d := .u (.int .i64 y1.Op)) (by kernel_rfl)) ?_
        obtain ⟨y10, hy10, h⟩ := bindS h
        refine S_pure (by show _ = _; kernel_rfl) (O_ca (us := [.int .i64 y1.Op]) (r := .bool y10) (by kernel_rfl) (ref05_Aggregate.ok hy10)) ?_
        refine S_pure trivial (O_pkf (d := .u (.bool y10)) (by kernel_rfl) (by kernel_rfl)) ?_
        obtain rfl := Option.some.inj h
        exact Rs_weak (W_to (by kernel_rfl) (by kernel_rfl) (by kernel_rfl)) K5
    · refine R_seq ?_
      refine R_reg ?_
      refine S_pure trivial (O_eql (k := .i64) (a := y2) (b := 2) (by kernel_rfl) (by kernel_rfl)) ?_
      refine S_pure trivial (O_mv (d := .u (.bool ((decide (y2 = 2))))) (by kernel_rfl)) ?_
      refine Rs_nil ?_
      refine N_s ?_
      refine R_cond (c := (decide (y2 = 2))) (by kernel_rfl) h (fun h => ?_) (fun h => ?_)
      · refine R_seq ?_
        refine R_reg ?_
        refine S_pure trivial (O_mv (d := .u (.int .i64 y1.Op)) (by kernel_rfl)) ?_
        refine S_pure trivial (O_mv (d := .u (.sl (List.map ApiTerm.cells e_0))) (by kernel_rfl)) ?_
        refine S_pure trivial (O_mv (d := .u (.int .i64 at_1)) (by kernel_rfl)) ?_
        refine S_pure trivial (O_add (k := .i64) (a := at_1) (b := 1) (by kernel_rfl) (by kernel_rfl)) ?_
        refine S_pure trivial (O_mv (d := .u (.sl (List.map (cInt .i64) kinds_2))) (by kernel_rfl)) ?_
        refine S_pure trivial (O_mv (d := .u (.bool bound_3)) (by kernel_rfl)) ?_
        obtain ⟨y11, hy11, h⟩ := bindS h
        refine S_pure trivial (O_ca (us := [.sl (List.map ApiTerm.cells e_0), .int .i64 ((IntKind.i64.wrap (at_1 + 1))), .sl (List.map (cInt .i64) kinds_2), .bool bound_3]) (r := .int .i64 y11) (by kernel_rfl) (h_rec_ref07_kind _ _ _ _ _ hy11)) ?_
        refine S_pure trivial (O_mv (d := .u (.sl (List.map ApiTerm.cells e_0))) (by kernel_rfl)) ?_
        refine S_pure trivial (O_mv (d := .u (.sl (List.map ApiTerm.cells e_0))) (by kernel_rfl)) ?_
        refine S_pure trivial (O_mv (d := .u (.int .i64 at_1)) (by kernel_rfl)) ?_
        obtain ⟨y12, hy12, h⟩ := bindS h
        refine S_pure trivial (O_ca (us := [.sl (List.map ApiTerm.cells e_0), .int .i64 at_1, .int .i64 1]) (r := .int .i64 y12) (by kernel_rfl) (ref05_Operand.ok hy12)) ?_
        refine S_pure trivial (O_mv (d := .u (.sl (List.map (cInt .i64) kinds_2))) (by kernel_rfl)) ?_
        refine S_pure trivial (O_mv (d := .u (.bool bound_3)) (by kernel_rfl)) ?_
        obtain ⟨y13, hy13, h⟩ := bindS h
        refine S_pure trivial (O_ca (us := [.sl (List.map ApiTerm.cells e_0), .int .i64 y12, .sl (List.map (cInt .i64) kinds_2), .bool bound_3]) (r := .int .i64 y13) (by kernel_rfl) (h_rec_ref07_kind _ _ _ _ _ hy13)) ?_
        obtain ⟨y14, hy14, h⟩ := bindS h
        refine S_pure trivial (O_ca (us := [.int .i64 y1.Op, .int .i64 y11, .int .i64 y13]) (r := .int .i64 y14) (by kernel_rfl) (ref07_double.ok hy14)) ?_
        refine S_pure trivial (O_mv (d := .u (.int .i64 y14)) (by kernel_rfl)) ?_
        refine Rs_nil ?_
        refine N_s ?_
        obtain rfl := (Option.some.inj h)
        refine R_ret ?_
        exact Q_ret (x := .int .i64 y14) (by kernel_rfl) (.refl _)
      · refine R_skip ?_
        refine N_b ?_
        refine N_s ?_
        refine R_seq ?_
        refine R_reg ?_
        refine S_pure trivial (O_mv (d := .u (.sl (List.map ApiTerm.cells e_0))) (by kernel_rfl)) ?_
        refine S_pure trivial (O_mv (d := .u (.int .i64 at_1)) (by kernel_rfl)) ?_
        refine S_pure trivial (O_add (k := .i64) (a := at_1) (b := 1) (by kernel_rfl) (by kernel_rfl)) ?_
        refine S_pure trivial (O_mv (d := .u (.sl (List.map (cInt .i64) kinds_2))) (by kernel_rfl)) ?_
        refine S_pure trivial (O_mv (d := .u (.bool bound_3)) (by kernel_rfl)) ?_
        obtain ⟨y15, hy15, h⟩ := bindS h
        refine S_pure trivial (O_ca (us := [.sl (List.map ApiTerm.cells e_0), .int .i64 ((IntKind.i64.wrap (at_1 + 1))), .sl (List.map (cInt .i64) kinds_2), .bool bound_3]) (r := .int .i64 y15) (by kernel_rfl) (h_rec_ref07_kind _ _ _ _ _ hy15)) ?_
        refine S_pure trivial (O_mv (d := .u (.sl (List.map ApiTerm.cells e_0))) (by kernel_rfl)) ?_
        refine S_pure trivial (O_mv (d := .u (.sl (List.map ApiTerm.cells e_0))) (by kernel_rfl)) ?_
        refine S_pure trivial (O_mv (d := .u (.int .i64 at_1)) (by kernel_rfl)) ?_
        obtain ⟨y16, hy16, h⟩ := bindS h
        refine S_pure trivial (O_ca (us := [.sl (List.map ApiTerm.cells e_0), .int .i64 at_1, .int .i64 1]) (r := .int .i64 y16) (by kernel_rfl) (ref05_Operand.ok hy16)) ?_
        refine S_pure trivial (O_mv (d := .u (.sl (List.map (cInt .i64) kinds_2))) (by kernel_rfl)) ?_
        refine S_pure trivial (O_mv (d := .u (.bool bound_3)) (by kernel_rfl)) ?_
        obtain ⟨y17, hy17, h⟩ := bindS h
        refine S_pure trivial (O_ca (us := [.sl (List.map ApiTerm.cells e_0), .int .i64 y16, .sl (List.map (cInt .i64) kinds_2), .bool bound_3]) (r := .int .i64 y17) (by kernel_rfl) (h_rec_ref07_kind _ _ _ _ _ hy17)) ?_
        refine S_pure trivial (O_mv (d := .u (.sl (List.map ApiTerm.cells e_0))) (by kernel_rfl)) ?_
        refine S_pure trivial (O_mv (d := .u (.sl (List.map ApiTerm.cells e_0))) (by kernel_rfl)) ?_
        refine S_pure trivial (O_mv (d := .u (.int .i64 at_1)) (by kernel_rfl)) ?_
        obtain ⟨y18, hy18, h⟩ := bindS h
        refine S_pure trivial (O_ca (us := [.sl (List.map ApiTerm.cells e_0), .int .i64 at_1, .int .i64 2]) (r := .int .i64 y18) (by kernel_rfl) (ref05_Operand.ok hy18)) ?_
        refine S_pure trivial (O_mv (d := .u (.sl (List.map (cInt .i64) kinds_2))) (by kernel_rfl)) ?_
        refine S_pure trivial (O_mv (d := .u (.bool bound_3)) (by kernel_rfl)) ?_
        obtain ⟨y19, hy19, h⟩ := bindS h
        refine S_pure trivial (O_ca (us := [.sl (List.map ApiTerm.cells e_0), .int .i64 y18, .sl (List.map (cInt .i64) kinds_2), .bool bound_3]) (r := .int .i64 y19) (by kernel_rfl) (h_rec_ref07_kind _ _ _ _ _ hy19)) ?_
        refine S_pure trivial (O_mv (d := .u (.int .i64 y15)) (by kernel_rfl)) ?_
        refine S_pure trivial (O_mv (d := .u (.int .i64 y17)) (by kernel_rfl)) ?_
        refine S_pure trivial (O_mv (d := .u (.int .i64 y19)) (by kernel_rfl)) ?_
        refine Rs_nil ?_
        refine N_s ?_
        refine R_seq ?_
        refine R_seq ?_
        refine R_reg ?_
        refine S_pure trivial (O_mv (d := .u (.int .i64 y15)) (by kernel_rfl)) ?_
        refine S_pure trivial (O_neq (k := .i64) (a := y15) (b := 2) (by kernel_rfl) (by kernel_rfl)) ?_
        refine S_pure trivial (O_mv (d := .u (.bool ((!decide (y15 = 2))))) (by kernel_rfl)) ?_
        have K20 : ∀ v21 : Bool, v21 = ((!decide (y15 = 2)) || (!decide (y17 = y19))) → Rs Try.prog 88 (retQ [8] (.int .i64 r)) [.s q_ref07_kind_5, .s q_ref07_kind_2] [] (mkSt [(11, .u (.int .i64 y17)), (86, .u (.bool v21))] [] 0) := by
          intro v21 e; subst e
          refine Rs_nil ?_
          refine N_s ?_
          refine R_cond (c := ((!decide (y15 = 2)) || (!decide (y17 = y19)))) (by kernel_rfl) h (fun h => ?_) (fun h => ?_)
          · refine R_seq ?_
            refine R_reg ?_
            refine S_pure trivial (O_mv (d := .u (.int .i64 0)) (by kernel_rfl)) ?_
            refine Rs_nil ?_
            refine N_s ?_
            obtain rfl := (Option.some.inj h)
            refine R_ret ?_
            exact Q_ret (x := .int .i64 0) (by kernel_rfl) (.refl _)
          · refine R_skip ?_
            refine N_s ?_
            refine R_seq ?_
            refine R_reg ?_
            refine S_pure trivial (O_mv (d := .u (.int .i64 y17)) (by kernel_rfl)) ?_
            refine S_pure trivial (O_mv (d := .u (.int .i64 y17)) (by kernel_rfl)) ?_
            refine Rs_nil ?_
            refine N_s ?_
            obtain rfl := (Option.some.inj h)
            refine R_ret ?_
            exact Q_ret (x := .int .i64 y17) (by kernel_rfl) (.refl _)
        refine S_case0 (t := 82) (c := (!decide (y15 = 2))) (by kernel_rfl) (fun hc => ?_) (fun hc => ?_)
        · refine S_skip (b := true) (by kernel_rfl) rfl ?_
          refine S_skip (b := true) (by kernel_rfl) rfl ?_
          refine S_skip (b := true) (by kernel_rfl) rfl ?_
          refine S_pure trivial (O_pkt (d := .u (.bool true)) (by kernel_rfl) (by kernel_rfl)) ?_
          exact Rs_weak (W_to (by kernel_rfl) (by kernel_rfl) (by kernel_rfl)) (K20 _ (by rw [hc] <;> rfl))
        · refine S_pure (by show _ = _; kernel_rfl) (O_mv (d := .u (.int .i64 y17)) (by kernel_rfl)) ?_
          refine S_pure (by show _ = _; kernel_rfl) (O_mv (d := .u (.int .i64 y19)) (by kernel_rfl)) ?_
          refine S_pure (by show _ = _; kernel_rfl) (O_neq (k := .i64) (a := y17) (b := y19) (by kernel_rfl) (by kernel_rfl)) ?_
          refine S_pure trivial (O_pkf (d := .u (.bool ((!decide (y17 = y19))))) (by kernel_rfl) (by kernel_rfl)) ?_
          exact Rs_weak (W_to (by kernel_rfl) (by kernel_rfl) (by kernel_rfl)) (K20 _ (by rw [hc] <;> rfl))

noncomputable def ref07_kind.rec : Nat → ((List ApiTerm) → Int → (List Int) → Bool → Option Int)
  | 0 => fun _ _ _ _ => none
  | k + 1 => ref07_kind.body (ref07_kind.rec k)
theorem ref07_kind.rec_ok : ∀ k : Nat, (∀ x0 x1 x2 x3 r, (ref07_kind.rec k) x0 x1 x2 x3 = some r → PC Try.prog 52 [.sl (List.map ApiTerm.cells x0), .int .i64 x1, .sl (List.map (cInt .i64) x2), .bool x3] (.int .i64 r))
  | 0 => (fun _ _ _ _ _ h => by simp [ref07_kind.rec] at h)
  | k + 1 => (fun _ _ _ _ _ h => ref07_kind.body_ok (ref07_kind.rec_ok k) h)
noncomputable def ref07_kind (x0 : List ApiTerm) (x1 : Int) (x2 : List Int) (x3 : Bool) : Option Int := supO fun k => (ref07_kind.rec k) x0 x1 x2 x3
theorem ref07_kind.ok {x0 : List ApiTerm} {x1 : Int} {x2 : List Int} {x3 : Bool} {r : Int} (h : ref07_kind x0 x1 x2 x3 = some r) : PC Try.prog 52 [.sl (List.map ApiTerm.cells x0), .int .i64 x1, .sl (List.map (cInt .i64) x2), .bool x3] (.int .i64 r) := by
  obtain ⟨k, hk⟩ := supO_some h
  exact (ref07_kind.rec_ok k) _ _ _ _ r hk

/-! ### selfstab/selfstabref07.Of -/
def q_ref07_Of_1 : AC := .reg [⟨some 36, none, .mv (.t 9)⟩, ⟨some 6, none, .mv (.t 36)⟩, ⟨some 7, none, .mv (.c (.int .i64 0))⟩]
def q_ref07_Of_2 : AC := .seq q_ref07_Of_1 .ret
def q_ref07_Of_3 : AC := .reg [⟨some 6, none, .mv (.c (.int .i64 0))⟩, ⟨some 7, none, .mv (.c (.int .i64 6))⟩]
def q_ref07_Of_4 : AC := .seq q_ref07_Of_3 .ret
def q_ref07_Of_5 : AC := .cond (.t 35) q_ref07_Of_4 .skip
def q_ref07_Of_6 : AC := .reg [⟨some 34, none, .mv (.t 9)⟩, ⟨some 35, none, .bi .eql (.t 34) (.c (.int .i64 0))⟩]
def q_ref07_Of_7 : AC := .seq q_ref07_Of_6 q_ref07_Of_5
def q_ref07_Of_8 : AC := .seq q_ref07_Of_7 q_ref07_Of_2
def q_ref07_Of_9 : AC := .reg [⟨some 30, none, .mv (.t 0)⟩, ⟨some 31, none, .mv (.t 1)⟩, ⟨some 32, none, .mv (.t 2)⟩, ⟨some 33, none, .ca 52 [.t 30, .c (.int .i64 0), .t 31, .t 32]⟩, ⟨some 9, none, .mv (.t 33)⟩]
def q_ref07_Of_10 : AC := .seq q_ref07_Of_9 q_ref07_Of_8
def q_ref07_Of_11 : AC := .reg [⟨some 6, none, .mv (.c (.int .i64 0))⟩, ⟨some 7, none, .mv (.c (.int .i64 7))⟩]
def q_ref07_Of_12 : AC := .seq q_ref07_Of_11 .ret
def q_ref07_Of_13 : AC := .cond (.t 29) q_ref07_Of_12 .skip
def q_ref07_Of_14 : AC := .reg [⟨some 25, none, .mv (.t 0)⟩, ⟨some 26, none, .mv (.t 1)⟩, ⟨some 27, none, .ln (.t 26)⟩, ⟨some 28, none, .ca 32 [.t 25, .t 27]⟩, ⟨some 29, none, .un .not (.t 28)⟩]
def q_ref07_Of_15 : AC := .seq q_ref07_Of_14 q_ref07_Of_13
def q_ref07_Of_16 : AC := .seq q_ref07_Of_15 q_ref07_Of_10
def q_ref07_Of_17 : AC := .reg [⟨some 17, none, .mv (.t 8)⟩, ⟨some 18, none, .bi .add (.t 17) (.c (.int .i64 1))⟩, ⟨some 8, none, .mv (.t 18)⟩]
def q_ref07_Of_18 : AC := .reg [⟨some 6, none, .mv (.c (.int .i64 0))⟩, ⟨some 7, none, .mv (.c (.int .i64 7))⟩]
def q_ref07_Of_19 : AC := .seq q_ref07_Of_18 .ret
def q_ref07_Of_20 : AC := .cond (.t 24) q_ref07_Of_19 .skip
def q_ref07_Of_21 : AC := .reg [⟨some 19, none, .mv (.t 1)⟩, ⟨some 20, none, .mv (.t 8)⟩, ⟨some 21, none, .ia 1 (.t 19) (.t 20)⟩, ⟨some 22, none, .ld false 1 (.t 21)⟩, ⟨some 23, none, .ca 51 [.t 22]⟩, ⟨some 24, none, .un .not (.t 23)⟩]
def q_ref07_Of_22 : AC := .seq q_ref07_Of_21 q_ref07_Of_20
def q_ref07_Of_23 : AC := .block 1 q_ref07_Of_22
def q_ref07_Of_24 : AC := .seq q_ref07_Of_23 q_ref07_Of_17
def q_ref07_Of_25 : AC := .cond (.t 16) .skip (.exit 0)
def q_ref07_Of_26 : AC := .reg [⟨some 13, none, .mv (.t 8)⟩, ⟨some 14, none, .mv (.t 1)⟩, ⟨some 15, none, .ln (.t 14)⟩, ⟨some 16, none, .bi .lss (.t 13) (.t 15)⟩]
def q_ref07_Of_27 : AC := .seq q_ref07_Of_26 q_ref07_Of_25
def q_ref07_Of_28 : AC := .seq q_ref07_Of_27 q_ref07_Of_24
def q_ref07_Of_29 : AC := .loop q_ref07_Of_28
def q_ref07_Of_30 : AC := .block 0 q_ref07_Of_29
def q_ref07_Of_31 : AC := .reg [⟨some 8, none, .mv (.c (.int .i64 0))⟩]
def q_ref07_Of_32 : AC := .seq q_ref07_Of_31 q_ref07_Of_30
def q_ref07_Of_33 : AC := .seq q_ref07_Of_32 q_ref07_Of_16
def q_ref07_Of_34 : AC := .reg [⟨some 6, none, .mv (.c (.int .i64 0))⟩, ⟨some 7, none, .mv (.c (.int .i64 7))⟩]
def q_ref07_Of_35 : AC := .seq q_ref07_Of_34 .ret
def q_ref07_Of_36 : AC := .cond (.t 12) q_ref07_Of_35 .skip
def q_ref07_Of_37 : AC := .reg [⟨some 10, none, .mv (.t 1)⟩, ⟨some 11, none, .ln (.t 10)⟩, ⟨some 12, none, .bi .gtr (.t 11) (.c (.int .i64 6))⟩]
def q_ref07_Of_38 : AC := .seq q_ref07_Of_37 q_ref07_Of_36
def q_ref07_Of_39 : AC := .seq q_ref07_Of_38 q_ref07_Of_33
def q_ref07_Of_40 : AC := .reg [⟨some 6, none, .mv (.c (.int .i64 0))⟩, ⟨some 7, none, .mv (.c (.int .i64 0))⟩]
def q_ref07_Of_41 : AC := .seq q_ref07_Of_40 q_ref07_Of_39
def c_ref07_Of : FC := ⟨37, [6, 7], q_ref07_Of_41⟩
theorem k_ref07_Of : okF Try.prog 27 c_ref07_Of = true := by decide +kernel
noncomputable def ref07_Of.l13 (kinds_1 : List Int) (s9 : Int) : Option (Int ⊕ (Unit ⊕ (Int × Int))) := (bif (decide (s9 < (List.length kinds_1 : Int))) then ((idx kinds_1 s9).bind (fun (y11 : Int) => ((ref07_known y11).bind (fun (y12 : Bool) => (bif (!y12) then (some (Sum.inr (Sum.inr (0, 7)))) else (some (Sum.inl (IntKind.i64.wrap (s9 + 1))))))))) else (some (Sum.inr (Sum.inl ()))))
noncomputable def ref07_Of (e_0 : List ApiTerm) (kinds_1 : List Int) (bound_2 : Bool) : Option (Int × Int) := (bif (decide (6 < (List.length kinds_1 : Int))) then (some (0, 7)) else ((loopO (ref07_Of.l13 kinds_1) 0).bind (Sum.elim (fun (w3 : Unit) => ((ref05_Valid e_0 ((List.length kinds_1 : Int))).bind (fun (y5 : Bool) => (bif (!y5) then (some (0, 7)) else ((ref07_kind e_0 0 kinds_1 bound_2).bind (fun (y6 : Int) => (bif (decide (y6 = 0)) then (some (0, 6)) else (some (y6, 0))))))))) (fun (w7 : (Int × Int)) => (some w7)))))
theorem ref07_Of.ok {e_0 : List ApiTerm} {kinds_1 : List Int} {bound_2 : Bool} {r : Int × Int} (h : ref07_Of e_0 kinds_1 bound_2 = some r) : PC Try.prog 27 [.sl (List.map ApiTerm.cells e_0), .sl (List.map (cInt .i64) kinds_1), .bool bound_2] (.tup [.int .i64 r.1, .int .i64 r.2]) := by
  refine PC_run k_ref07_Of rfl (L := [(0, .u (.sl (List.map ApiTerm.cells e_0))), (1, .u (.sl (List.map (cInt .i64) kinds_1))), (2, .u (.bool bound_2))]) rfl ?_
  show Run Try.prog 37 (retQ [6, 7] (.tup [.int .i64 r.1, .int .i64 r.2])) [] q_ref07_Of_41 _
  refine R_seq ?_
  refine R_reg ?_
  refine S_pure trivial (O_mv (d := .u (.int .i64 0)) (by kernel_rfl)) ?_
  refine S_pure trivial (O_mv (d := .u (.int .i64 0)) (by kernel_rfl)) ?_
  refine Rs_nil ?_
  refine N_s ?_
  refine R_seq ?_
  refine R_seq ?_
  refine R_reg ?_
  refine S_pure trivial (O_mv (d := .u (.sl (List.map (cInt .i64) kinds_1))) (by kernel_rfl)) ?_
  refine S_pure trivial (O_ln (c := (cInt .i64)) (li := kinds_1) (by kernel_rfl)) ?_
  refine S_pure trivial (O_gtr (k := .i64) (a := (List.length kinds_1 : Int)) (b := 6) (by kernel_rfl) (by kernel_rfl)) ?_
  refine Rs_nil ?_
  refine N_s ?_
  refine R_cond (c := (decide (6 < (List.length kinds_1 : Int)))) (by kernel_rfl) h (fun h => ?_) (fun h => ?_)
  · refine R_seq ?_
    refine R_reg ?_
    refine S_pure trivial (O_mv (d := .u (.int .i64 0)) (by kernel_rfl)) ?_
    refine S_pure trivial (O_mv (d := .u (.int .i64 7)) (by kernel_rfl)) ?_
    refine Rs_nil ?_
    refine N_s ?_
    obtain rfl := (Option.some.inj h)
    refine R_ret ?_
    exact Q_ret (x := .tup [.int .i64 0, .int .i64 7]) (by kernel_rfl) (.refl _)
  · refine R_skip ?_
    refine N_s ?_
    refine R_seq ?_
    refine R_seq ?_
    refine R_reg ?_
    refine S_pure trivial (O_mv (d := .u (.int .i64 0)) (by kernel_rfl)) ?_
    refine Rs_nil ?_
    refine N_s ?_
    refine R_block ?_
    obtain ⟨o1, hE, h⟩ := bindS h
    have K4 : ∀ (w3 : Unit), (Sum.inl w3) = o1 → Run Try.prog 37 (retQ [6, 7] (.tup [.int .i64 r.1, .int .i64 r.2])) [] q_ref07_Of_16 (mkSt [(0, .u (.sl (List.map ApiTerm.cells e_0))), (1, .u (.sl (List.map (cInt .i64) kinds_1))), (2, .u (.bool bound_2))] [] 0) := by
      intro w3 e; subst e
      replace h := elimL h
      refine R_seq ?_
      refine R_seq ?_
      refine R_reg ?_
      refine S_pure trivial (O_mv (d := .u (.sl (List.map ApiTerm.cells e_0))) (by kernel_rfl)) ?_
      refine S_pure trivial (O_mv (d := .u (.sl (List.map (cInt .i64) kinds_1))) (by kernel_rfl)) ?_
      refine S_pure trivial (O_ln (c := (cInt .i64)) (li := kinds_1) (by kernel_rfl)) ?_
      obtain ⟨y5, hy5, h⟩ := bindS h
      refine S_pure trivial (O_ca (us := [.sl (List.map ApiTerm.cells e_0), .int .i64 ((List.length kinds_1 : Int))]) (r := .bool y5) (by kernel_rfl) (ref05_Valid.ok hy5)) ?_
      refine S_pure trivial (O_not (b := y5) (by kernel_rfl)) ?_
      refine Rs_nil ?_
      refine N_s ?_
      refine R_cond (c := (!y5)) (by kernel_rfl) h (fun h => ?_) (fun h => ?_)
      · refine R_seq ?_
        refine R_reg ?_
        refine S_pure trivial (O_mv (d := .u (.int .i64 0)) (by kernel_rfl)) ?_
        refine S_pure trivial (O_mv (d := .u (.int .i64 7)) (by kernel_rfl)) ?_
        refine Rs_nil ?_
        refine N_s ?_
        obtain rfl := (Option.some.inj h)
        refine R_ret ?_
        exact Q_ret (x := .tup [.int .i64 0, .int .i64 7]) (by kernel_rfl) (.refl _)
      · refine R_skip ?_
        refine N_s ?_
        refine R_seq ?_
        refine R_reg ?_
        refine S_pure trivial (O_mv (d := .u (.sl (List.map ApiTerm.cells e_0))) (by kernel_rfl)) ?_
        refine S_pure trivial (O_mv (d := .u (.sl (List.map (cInt .i64) kinds_1))) (by kernel_rfl)) ?_
        refine S_pure trivial (O_mv (d := .u (.bool bound_2)) (by kernel_rfl)) ?_
        obtain ⟨y6, hy6, h⟩ := bindS h
        refine S_pure trivial (O_ca (us := [.sl (List.map ApiTerm.cells e_0), .int .i64 0, .sl (List.map (cInt .i64) kinds_1), .bool bound_2]) (r := .int .i64 y6) (by kernel_rfl) (ref07_kind.ok hy6)) ?_
        refine S_pure trivial (O_mv (d := .u (.int .i64 y6)) (by kernel_rfl)) ?_
        refine Rs_nil ?_
        refine N_s ?_
        refine R_seq ?_
        refine R_seq ?_
        refine R_reg ?_
        refine S_pure trivial (O_mv (d := .u (.int .i64 y6)) (by kernel_rfl)) ?_
        refine S_pure trivial (O_eql (k := .i64) (a := y6) (b := 0) (by kernel_rfl) (by kernel_rfl)) ?_
        refine Rs_nil ?_
        refine N_s ?_
        refine R_cond (c := (decide (y6 = 0))) (by kernel_rfl) h (fun h => ?_) (fun h => ?_)
        · refine R_seq ?_
          refine R_reg ?_
          refine S_pure trivial (O_mv (d := .u (.int .i64 0)) (by kernel_rfl)) ?_
          refine S_pure trivial (O_mv (d := .u (.int .i64 6)) (by kernel_rfl)) ?_
          refine Rs_nil ?_
          refine N_s ?_
          obtain rfl := (Option.some.inj h)
          refine R_ret ?_
          exact Q_ret (x := .tup [.int .i64 0, .int .i64 6]) (by kernel_rfl) (.refl _)
        · refine R_skip ?_
          refine N_s ?_
          refine R_seq ?_
          refine R_reg ?_
          refine S_pure trivial (O_mv (d := .u (.int .i64 y6)) (by kernel_rfl)) ?_
          refine S_pure trivial (O_mv (d := .u (.int .i64 y6)) (by kernel_rfl)) ?_
          refine S_pure trivial (O_mv (d := .u (.int .i64 0)) (by kernel_rfl)) ?_
          refine Rs_nil ?_
          refine N_s ?_
          obtain rfl := (Option.some.inj h)
          refine R_ret ?_
          exact Q_ret (x := .tup [.int .i64 y6, .int .i64 0]) (by kernel_rfl) (.refl _)
    have K8 : ∀ (w7 : (Int × Int)), (Sum.inr w7) = o1 → w7 = r := by
      intro w7 e; subst e
      replace h := elimR h
      exact Option.some.inj h
    refine R_loop (ref07_Of.l13 kinds_1) (fun s9 => (mkSt [(0, .u (.sl (List.map ApiTerm.cells e_0))), (1, .u (.sl (List.map (cInt .i64) kinds_1))), (2, .u (.bool bound_2)), (8, .u (.int .i64 s9))] [] 0)) hE (W_to (by kernel_rfl) (by kernel_rfl) (by kernel_rfl)) ?_
    intro K2 s9 x10 h hK2 hO2
    refine R_seq ?_
    refine R_seq ?_
    refine R_reg ?_
    refine S_pure trivial (O_mv (d := .u (.int .i64 s9)) (by kernel_rfl)) ?_
    refine S_pure trivial (O_mv (d := .u (.sl (List.map (cInt .i64) kinds_1))) (by kernel_rfl)) ?_
    refine S_pure trivial (O_ln (c := (cInt .i64)) (li := kinds_1) (by kernel_rfl)) ?_
    refine S_pure trivial (O_lss (k := .i64) (a := s9) (b := (List.length kinds_1 : Int)) (by kernel_rfl) (by kernel_rfl)) ?_
    refine Rs_nil ?_
    refine N_s ?_
    refine R_cond (c := (decide (s9 < (List.length kinds_1 : Int)))) (by kernel_rfl) h (fun h => ?_) (fun h => ?_)
    · refine R_skip ?_
      refine N_s ?_
      refine R_seq ?_
      refine R_block ?_
      refine R_seq ?_
      refine R_reg ?_
      refine S_pure trivial (O_mv (d := .u (.sl (List.map (cInt .i64) kinds_1))) (by kernel_rfl)) ?_
      refine S_pure trivial (O_mv (d := .u (.int .i64 s9)) (by kernel_rfl)) ?_
      obtain ⟨y11, hy11, h⟩ := bindS h
      refine S_pure trivial (O_ia (c := (cInt .i64)) (li := kinds_1) (i := s9) (k := .i64) (a := y11) (u := (cInt .i64) y11) (by kernel_rfl) (by kernel_rfl) hy11 rfl rfl) ?_
      refine S_pure trivial (O_ldf (cells := (cInt .i64) y11) (off := 0) (u := .int .i64 y11) (by kernel_rfl) (by kernel_rfl)) ?_
      obtain ⟨y12, hy12, h⟩ := bindS h
      refine S_pure trivial (O_ca (us := [.int .i64 y11]) (r := .bool y12) (by kernel_rfl) (ref07_known.ok hy12)) ?_
      refine S_pure trivial (O_not (b := y12) (by kernel_rfl)) ?_
      refine Rs_nil ?_
      refine N_s ?_
      refine R_cond (c := (!y12)) (by kernel_rfl) h (fun h => ?_) (fun h => ?_)
      · refine R_seq ?_
        refine R_reg ?_
        refine S_pure trivial (O_mv (d := .u (.int .i64 0)) (by kernel_rfl)) ?_
        refine S_pure trivial (O_mv (d := .u (.int .i64 7)) (by kernel_rfl)) ?_
        refine Rs_nil ?_
        refine N_s ?_
        obtain rfl := (K8 _ (hO2 _ h))
        refine R_ret ?_
        exact Q_ret (x := .tup [.int .i64 0, .int .i64 7]) (by kernel_rfl) (.refl _)
      · refine R_skip ?_
        refine N_b ?_
        refine N_s ?_
        refine R_reg ?_
        refine S_pure trivial (O_mv (d := .u (.int .i64 s9)) (by kernel_rfl)) ?_
        refine S_pure trivial (O_add (k := .i64) (a := s9) (b := 1) (by kernel_rfl) (by kernel_rfl)) ?_
        refine S_pure trivial (O_mv (d := .u (.int .i64 ((IntKind.i64.wrap (s9 + 1))))) (by kernel_rfl)) ?_
        refine Rs_nil ?_
        exact N_k (hK2 _ h _ (W_to (by kernel_rfl) (by kernel_rfl) (by kernel_rfl)))
    · refine R_exit ?_
      refine E_s ?_
      refine E_k ?_
      refine E_b ?_
      refine N_s ?_
      exact R_weak (W_to (by kernel_rfl) (by kernel_rfl) (by kernel_rfl)) (K4 _ (hO2 _ h))

end Go.Proofs.Ytkpghgnbbfpbmaa
