/- Functions of the program over typed data, and that the program's functions come to their results: written by a program (lift.py). -/
import Derived.Test.YtkpghgnbbfpbmaaL11a
import Derived.Test.YtkpghgnbbfpbmaaChecked
set_option linter.unusedVariables false
set_option maxRecDepth 100000
set_option maxHeartbeats 1000000
namespace Go.Proofs.Ytkpghgnbbfpbmaa

/-! ### selfstab/selfstabref05.Aggregate -/
def q_ref05_Aggregate_1 : AC := .reg [⟨some 3, none, .mv (.t 0)⟩, ⟨some 4, none, .bi .geq (.t 3) (.c (.int .i64 20))⟩, ⟨some 5, none, .mv (.t 4)⟩, ⟨some 6, some (5, true), .mv (.t 0)⟩, ⟨some 7, some (5, true), .bi .leq (.t 6) (.c (.int .i64 29))⟩, ⟨some 8, none, .pk (.t 5) (.t 7) (.c (.bool false))⟩, ⟨some 2, none, .mv (.t 8)⟩]
def q_ref05_Aggregate_2 : AC := .seq q_ref05_Aggregate_1 .ret
def q_ref05_Aggregate_3 : AC := .reg [⟨some 2, none, .mv (.c (.bool false))⟩]
def q_ref05_Aggregate_4 : AC := .seq q_ref05_Aggregate_3 q_ref05_Aggregate_2
def c_ref05_Aggregate : FC := ⟨9, [2], q_ref05_Aggregate_4⟩
theorem k_ref05_Aggregate : okF Try.prog 28 c_ref05_Aggregate = true := by decide +kernel
noncomputable def ref05_Aggregate (op_0 : Int) : Option Bool := (some ((decide (20 ≤ op_0)) && (decide (op_0 ≤ 29))))
theorem ref05_Aggregate.ok {op_0 : Int} {r : Bool} (h : ref05_Aggregate op_0 = some r) : PC Try.prog 28 [.int .i64 op_0] (.bool r) := by
  refine PC_run k_ref05_Aggregate rfl (L := [(0, .u (.int .i64 op_0))]) rfl ?_
  show Run Try.prog 9 (retQ [2] (.bool r)) [] q_ref05_Aggregate_4 _
  refine R_seq ?_
  refine R_reg ?_
  refine S_pure trivial (O_mv (d := .u (.bool false)) (by kernel_rfl)) ?_
  refine Rs_nil ?_
  refine N_s ?_
  refine R_seq ?_
  refine R_reg ?_
  refine S_pure trivial (O_mv (d := .u (.int .i64 op_0)) (by kernel_rfl)) ?_
  refine S_pure trivial (O_geq (k := .i64) (a := op_0) (b := 20) (by kernel_rfl) (by kernel_rfl)) ?_
  refine S_pure trivial (O_mv (d := .u (.bool ((decide (20 ≤ op_0))))) (by kernel_rfl)) ?_
  have K1 : ∀ v2 : Bool, v2 = ((decide (20 ≤ op_0)) && (decide (op_0 ≤ 29))) → Rs Try.prog 9 (retQ [2] (.bool r)) [.s .ret] [⟨some 2, none, .mv (.t 8)⟩] (mkSt [(8, .u (.bool v2))] [] 0) := by
    intro v2 e; subst e
    refine S_pure trivial (O_mv (d := .u (.bool (((decide (20 ≤ op_0)) && (decide (op_0 ≤ 29)))))) (by kernel_rfl)) ?_
    refine Rs_nil ?_
    refine N_s ?_
    obtain rfl := (Option.some.inj h)
    refine R_ret ?_
    exact Q_ret (x := .bool (((decide (20 ≤ op_0)) && (decide (op_0 ≤ 29))))) (by kernel_rfl) (.refl _)
  refine S_case0 (t := 5) (c := (decide (20 ≤ op_0))) (by kernel_rfl) (fun hc => ?_) (fun hc => ?_)
  · refine S_pure (by show _ = _; kernel_rfl) (O_mv (d := .u (.int .i64 op_0)) (by kernel_rfl)) ?_
    refine S_pure (by show _ = _; kernel_rfl) (O_leq (k := .i64) (a := op_0) (b := 29) (by kernel_rfl) (by kernel_rfl)) ?_
    refine S_pure trivial (O_pkt (d := .u (.bool ((decide (op_0 ≤ 29))))) (by kernel_rfl) (by kernel_rfl)) ?_
    exact Rs_weak (W_to (by kernel_rfl) (by kernel_rfl) (by kernel_rfl)) (K1 _ (by rw [hc] <;> rfl))
  · refine S_skip (b := false) (by kernel_rfl) rfl ?_
    refine S_skip (b := false) (by kernel_rfl) rfl ?_
    refine S_pure trivial (O_pkf (d := .u (.bool false)) (by kernel_rfl) (by kernel_rfl)) ?_
    exact Rs_weak (W_to (by kernel_rfl) (by kernel_rfl) (by kernel_rfl)) (K1 _ (by rw [hc] <;> rfl))

/-! ### selfstab/selfstabref11.Number -/
def q_ref11_Number_1 : AC := .reg [⟨some 3, none, .mv (.t 0)⟩, ⟨some 4, none, .bi .geq (.t 3) (.c (.int .i64 (-1073741824)))⟩, ⟨some 5, none, .mv (.t 4)⟩, ⟨some 6, some (5, true), .mv (.t 0)⟩, ⟨some 7, some (5, true), .bi .leq (.t 6) (.c (.int .i64 1073741824))⟩, ⟨some 8, none, .pk (.t 5) (.t 7) (.c (.bool false))⟩, ⟨some 2, none, .mv (.t 8)⟩]
def q_ref11_Number_2 : AC := .seq q_ref11_Number_1 .ret
def q_ref11_Number_3 : AC := .reg [⟨some 2, none, .mv (.c (.bool false))⟩]
def q_ref11_Number_4 : AC := .seq q_ref11_Number_3 q_ref11_Number_2
def c_ref11_Number : FC := ⟨9, [2], q_ref11_Number_4⟩
theorem k_ref11_Number : okF Try.prog 37 c_ref11_Number = true := by decide +kernel
noncomputable def ref11_Number (a_0 : Int) : Option Bool := (some ((decide ((-1073741824) ≤ a_0)) && (decide (a_0 ≤ 1073741824))))
theorem ref11_Number.ok {a_0 : Int} {r : Bool} (h : ref11_Number a_0 = some r) : PC Try.prog 37 [.int .i64 a_0] (.bool r) := by
  refine PC_run k_ref11_Number rfl (L := [(0, .u (.int .i64 a_0))]) rfl ?_
  show Run Try.prog 9 (retQ [2] (.bool r)) [] q_ref11_Number_4 _
  refine R_seq ?_
  refine R_reg ?_
  refine S_pure trivial (O_mv (d := .u (.bool false)) (by kernel_rfl)) ?_
  refine Rs_nil ?_
  refine N_s ?_
  refine R_seq ?_
  refine R_reg ?_
  refine S_pure trivial (O_mv (d := .u (.int .i64 a_0)) (by kernel_rfl)) ?_
  refine S_pure trivial (O_geq (k := .i64) (a := a_0) (b := (-1073741824)) (by kernel_rfl) (by kernel_rfl)) ?_
  refine S_pure trivial (O_mv (d := .u (.bool ((decide ((-1073741824) ≤ a_0))))) (by kernel_rfl)) ?_
  have K1 : ∀ v2 : Bool, v2 = ((decide ((-1073741824) ≤ a_0)) && (decide (a_0 ≤ 1073741824))) → Rs Try.prog 9 (retQ [2] (.bool r)) [.s .ret] [⟨some 2, none, .mv (.t 8)⟩] (mkSt [(8, .u (.bool v2))] [] 0) := by
    intro v2 e; subst e
    refine S_pure trivial (O_mv (d := .u (.bool (((decide ((-1073741824) ≤ a_0)) && (decide (a_0 ≤ 1073741824)))))) (by kernel_rfl)) ?_
    refine Rs_nil ?_
    refine N_s ?_
    obtain rfl := (Option.some.inj h)
    refine R_ret ?_
    exact Q_ret (x := .bool (((decide ((-1073741824) ≤ a_0)) && (decide (a_0 ≤ 1073741824))))) (by kernel_rfl) (.refl _)
  refine S_case0 (t := 5) (c := (decide ((-1073741824) ≤ a_0))) (by kernel_rfl) (fun hc => ?_) (fun hc => ?_)
  · refine S_pure (by show _ = _; kernel_rfl) (O_mv (d := .u (.int .i64 a_0)) (by kernel_rfl)) ?_
    refine S_pure (by show _ = _; kernel_rfl) (O_leq (k := .i64) (a := a_0) (b := 1073741824) (by kernel_rfl) (by kernel_rfl)) ?_
    refine S_pure trivial (O_pkt (d := .u (.bool ((decide (a_0 ≤ 1073741824))))) (by kernel_rfl) (by kernel_rfl)) ?_
    exact Rs_weak (W_to (by kernel_rfl) (by kernel_rfl) (by kernel_rfl)) (K1 _ (by rw [hc] <;> rfl))
  · refine S_skip (b := false) (by kernel_rfl) rfl ?_
    refine S_skip (b := false) (by kernel_rfl) rfl ?_
    refine S_pure trivial (O_pkf (d := .u (.bool false)) (by kernel_rfl) (by kernel_rfl)) ?_
    exact Rs_weak (W_to (by kernel_rfl) (by kernel_rfl) (by kernel_rfl)) (K1 _ (by rw [hc] <;> rfl))

/-! ### selfstab/selfstabref11.truth -/
def q_ref11_truth_1 : AC := .reg [⟨some 2, none, .mv (.c (.int .i64 0))⟩]
def q_ref11_truth_2 : AC := .seq q_ref11_truth_1 .ret
def q_ref11_truth_3 : AC := .reg [⟨some 2, none, .mv (.c (.int .i64 1))⟩]
def q_ref11_truth_4 : AC := .seq q_ref11_truth_3 .ret
def q_ref11_truth_5 : AC := .cond (.t 3) q_ref11_truth_4 .skip
def q_ref11_truth_6 : AC := .reg [⟨some 3, none, .mv (.t 0)⟩]
def q_ref11_truth_7 : AC := .seq q_ref11_truth_6 q_ref11_truth_5
def q_ref11_truth_8 : AC := .seq q_ref11_truth_7 q_ref11_truth_2
def q_ref11_truth_9 : AC := .reg [⟨some 2, none, .mv (.c (.int .i64 0))⟩]
def q_ref11_truth_10 : AC := .seq q_ref11_truth_9 q_ref11_truth_8
def c_ref11_truth : FC := ⟨4, [2], q_ref11_truth_10⟩
theorem k_ref11_truth : okF Try.prog 58 c_ref11_truth = true := by decide +kernel
noncomputable def ref11_truth (b_0 : Bool) : Option Int := (bif b_0 then (some 1) else (some 0))
theorem ref11_truth.ok {b_0 : Bool} {r : Int} (h : ref11_truth b_0 = some r) : PC Try.prog 58 [.bool b_0] (.int .i64 r) := by
  refine PC_run k_ref11_truth rfl (L := [(0, .u (.bool b_0))]) rfl ?_
  show Run Try.prog 4 (retQ [2] (.int .i64 r)) [] q_ref11_truth_10 _
  refine R_seq ?_
  refine R_reg ?_
  refine S_pure trivial (O_mv (d := .u (.int .i64 0)) (by kernel_rfl)) ?_
  refine Rs_nil ?_
  refine N_s ?_
  refine R_seq ?_
  refine R_seq ?_
  refine R_reg ?_
  refine S_pure trivial (O_mv (d := .u (.bool b_0)) (by kernel_rfl)) ?_
  refine Rs_nil ?_
  refine N_s ?_
  refine R_cond (c := b_0) (by kernel_rfl) h (fun h => ?_) (fun h => ?_)
  · refine R_seq ?_
    refine R_reg ?_
    refine S_pure trivial (O_mv (d := .u (.int .i64 1)) (by kernel_rfl)) ?_
    refine Rs_nil ?_
    refine N_s ?_
    obtain rfl := (Option.some.inj h)
    refine R_ret ?_
    exact Q_ret (x := .int .i64 1) (by kernel_rfl) (.refl _)
  · refine R_skip ?_
    refine N_s ?_
    refine R_seq ?_
    refine R_reg ?_
    refine S_pure trivial (O_mv (d := .u (.int .i64 0)) (by kernel_rfl)) ?_
    refine Rs_nil ?_
    refine N_s ?_
    obtain rfl := (Option.some.inj h)
    refine R_ret ?_
    exact Q_ret (x := .int .i64 0) (by kernel_rfl) (.refl _)

/-! ### selfstab/selfstabref11.Saturate -/
def q_ref11_Saturate_1 : AC := .reg [⟨some 3, none, .mv (.t 0)⟩, ⟨some 4, none, .mx [.t 3, .c (.int .i64 (-1073741824))]⟩, ⟨some 5, none, .mn [.t 4, .c (.int .i64 1073741824)]⟩, ⟨some 2, none, .mv (.t 5)⟩]
def q_ref11_Saturate_2 : AC := .seq q_ref11_Saturate_1 .ret
def q_ref11_Saturate_3 : AC := .reg [⟨some 2, none, .mv (.c (.int .i64 0))⟩]
def q_ref11_Saturate_4 : AC := .seq q_ref11_Saturate_3 q_ref11_Saturate_2
def c_ref11_Saturate : FC := ⟨6, [2], q_ref11_Saturate_4⟩
theorem k_ref11_Saturate : okF Try.prog 21 c_ref11_Saturate = true := by decide +kernel
noncomputable def ref11_Saturate (a_0 : Int) : Option Int := (some (min ((max a_0 ((-1073741824)))) 1073741824))
theorem ref11_Saturate.ok {a_0 : Int} {r : Int} (h : ref11_Saturate a_0 = some r) : PC Try.prog 21 [.int .i64 a_0] (.int .i64 r) := by
  refine PC_run k_ref11_Saturate rfl (L := [(0, .u (.int .i64 a_0))]) rfl ?_
  show Run Try.prog 6 (retQ [2] (.int .i64 r)) [] q_ref11_Saturate_4 _
  refine R_seq ?_
  refine R_reg ?_
  refine S_pure trivial (O_mv (d := .u (.int .i64 0)) (by kernel_rfl)) ?_
  refine Rs_nil ?_
  refine N_s ?_
  refine R_seq ?_
  refine R_reg ?_
  refine S_pure trivial (O_mv (d := .u (.int .i64 a_0)) (by kernel_rfl)) ?_
  refine S_pure trivial (O_mx (k := .i64) (a := a_0) (b := (-1073741824)) (by kernel_rfl) (by kernel_rfl)) ?_
  refine S_pure trivial (O_mn (k := .i64) (a := (max a_0 ((-1073741824)))) (b := 1073741824) (by kernel_rfl) (by kernel_rfl)) ?_
  refine S_pure trivial (O_mv (d := .u (.int .i64 ((min ((max a_0 ((-1073741824)))) 1073741824)))) (by kernel_rfl)) ?_
  refine Rs_nil ?_
  refine N_s ?_
  obtain rfl := (Option.some.inj h)
  refine R_ret ?_
  exact Q_ret (x := .int .i64 ((min ((max a_0 ((-1073741824)))) 1073741824))) (by kernel_rfl) (.refl _)

/-! ### selfstab/selfstabref11.occurs -/
def q_ref11_occurs_1 : AC := .reg [⟨some 4, none, .mv (.c (.bool false))⟩]
def q_ref11_occurs_2 : AC := .seq q_ref11_occurs_1 .ret
def q_ref11_occurs_3 : AC := .reg [⟨some 10, none, .mv (.t 5)⟩, ⟨some 11, none, .bi .add (.t 10) (.c (.int .i64 1))⟩, ⟨some 5, none, .mv (.t 11)⟩]
def q_ref11_occurs_4 : AC := .reg [⟨some 4, none, .mv (.c (.bool true))⟩]
def q_ref11_occurs_5 : AC := .seq q_ref11_occurs_4 .ret
def q_ref11_occurs_6 : AC := .cond (.t 17) q_ref11_occurs_5 .skip
def q_ref11_occurs_7 : AC := .reg [⟨some 12, none, .mv (.t 0)⟩, ⟨some 13, none, .mv (.t 5)⟩, ⟨some 14, none, .ia 1 (.t 12) (.t 13)⟩, ⟨some 15, none, .ld false 1 (.t 14)⟩, ⟨some 16, none, .mv (.t 1)⟩, ⟨some 17, none, .bi .eql (.t 15) (.t 16)⟩]
def q_ref11_occurs_8 : AC := .seq q_ref11_occurs_7 q_ref11_occurs_6
def q_ref11_occurs_9 : AC := .block 1 q_ref11_occurs_8
def q_ref11_occurs_10 : AC := .seq q_ref11_occurs_9 q_ref11_occurs_3
def q_ref11_occurs_11 : AC := .cond (.t 9) .skip (.exit 0)
def q_ref11_occurs_12 : AC := .reg [⟨some 6, none, .mv (.t 5)⟩, ⟨some 7, none, .mv (.t 0)⟩, ⟨some 8, none, .ln (.t 7)⟩, ⟨some 9, none, .bi .lss (.t 6) (.t 8)⟩]
def q_ref11_occurs_13 : AC := .seq q_ref11_occurs_12 q_ref11_occurs_11
def q_ref11_occurs_14 : AC := .seq q_ref11_occurs_13 q_ref11_occurs_10
def q_ref11_occurs_15 : AC := .loop q_ref11_occurs_14
def q_ref11_occurs_16 : AC := .block 0 q_ref11_occurs_15
def q_ref11_occurs_17 : AC := .reg [⟨some 5, none, .mv (.c (.int .i64 0))⟩]
def q_ref11_occurs_18 : AC := .seq q_ref11_occurs_17 q_ref11_occurs_16
def q_ref11_occurs_19 : AC := .seq q_ref11_occurs_18 q_ref11_occurs_2
def q_ref11_occurs_20 : AC := .reg [⟨some 4, none, .mv (.c (.bool false))⟩]
def q_ref11_occurs_21 : AC := .seq q_ref11_occurs_20 q_ref11_occurs_19
def c_ref11_occurs : FC := ⟨18, [4], q_ref11_occurs_21⟩
theorem k_ref11_occurs : okF Try.prog 77 c_ref11_occurs = true := by decide +kernel
noncomputable def ref11_occurs.l10 (l_0 : List Int) (v_1 : Int) (s7 : Int) : Option (Int ⊕ (Unit ⊕ Bool)) := (bif (decide (s7 < (List.length l_0 : Int))) then ((idx l_0 s7).bind (fun (y9 : Int) => (bif (decide (y9 = v_1)) then (some (Sum.inr (Sum.inr true))) else (some (Sum.inl (IntKind.i64.wrap (s7 + 1))))))) else (some (Sum.inr (Sum.inl ()))))
noncomputable def ref11_occurs (l_0 : List Int) (v_1 : Int) : Option Bool := ((loopO (ref11_occurs.l10 l_0 v_1) 0).bind (Sum.elim (fun (w3 : Unit) => (some false)) (fun (w5 : Bool) => (some w5))))
theorem ref11_occurs.ok {l_0 : List Int} {v_1 : Int} {r : Bool} (h : ref11_occurs l_0 v_1 = some r) : PC Try.prog 77 [.sl (List.map (cInt .i64) l_0), .int .i64 v_1] (.bool r) := by
  refine PC_run k_ref11_occurs rfl (L := [(0, .u (.sl (List.map (cInt .i64) l_0))), (1, .u (.int .i64 v_1))]) rfl ?_
  show Run Try.prog 18 (retQ [4] (.bool r)) [] q_ref11_occurs_21 _
  refine R_seq ?_
  refine R_reg ?_
  refine S_pure trivial (O_mv (d := .u (.bool false)) (by kernel_rfl)) ?_
  refine Rs_nil ?_
  refine N_s ?_
  refine R_seq ?_
  refine R_seq ?_
  refine R_reg ?_
  refine S_pure trivial (O_mv (d := .u (.int .i64 0)) (by kernel_rfl)) ?_
  refine Rs_nil ?_
  refine N_s ?_
  refine R_block ?_
  obtain ⟨o1, hE, h⟩ := bindS h
  have K4 : ∀ (w3 : Unit), (Sum.inl w3) = o1 → Run Try.prog 18 (retQ [4] (.bool r)) [] q_ref11_occurs_2 (mkSt [] [] 0) := by
    intro w3 e; subst e
    replace h := elimL h
    refine R_seq ?_
    refine R_reg ?_
    refine S_pure trivial (O_mv (d := .u (.bool false)) (by kernel_rfl)) ?_
    refine Rs_nil ?_
    refine N_s ?_
    obtain rfl := (Option.some.inj h)
    refine R_ret ?_
    exact Q_ret (x := .bool false) (by kernel_rfl) (.refl _)
  have K6 : ∀ (w5 : Bool), (Sum.inr w5) = o1 → w5 = r := by
    intro w5 e; subst e
    replace h := elimR h
    exact Option.some.inj h
  refine R_loop (ref11_occurs.l10 l_0 v_1) (fun s7 => (mkSt [(0, .u (.sl (List.map (cInt .i64) l_0))), (1, .u (.int .i64 v_1)), (5, .u (.int .i64 s7))] [] 0)) hE (W_to (by kernel_rfl) (by kernel_rfl) (by kernel_rfl)) ?_
  intro K2 s7 x8 h hK2 hO2
  refine R_seq ?_
  refine R_seq ?_
  refine R_reg ?_
  refine S_pure trivial (O_mv (d := .u (.int .i64 s7)) (by kernel_rfl)) ?_
  refine S_pure trivial (O_mv (d := .u (.sl (List.map (cInt .i64) l_0))) (by kernel_rfl)) ?_
  refine S_pure trivial (O_ln (c := (cInt .i64)) (li := l_0) (by kernel_rfl)) ?_
  refine S_pure trivial (O_lss (k := .i64) (a := s7) (b := (List.length l_0 : Int)) (by kernel_rfl) (by kernel_rfl)) ?_
  refine Rs_nil ?_
  refine N_s ?_
  refine R_cond (c := (decide (s7 < (List.length l_0 : Int)))) (by kernel_rfl) h (fun h => ?_) (fun h => ?_)
  · refine R_skip ?_
    refine N_s ?_
    refine R_seq ?_
    refine R_block ?_
    refine R_seq ?_
    refine R_reg ?_
    refine S_pure trivial (O_mv (d := .u (.sl (List.map (cInt .i64) l_0))) (by kernel_rfl)) ?_
    refine S_pure trivial (O_mv (d := .u (.int .i64 s7)) (by kernel_rfl)) ?_
    obtain ⟨y9, hy9, h⟩ := bindS h
    refine S_pure trivial (O_ia (c := (cInt .i64)) (li := l_0) (i := s7) (k := .i64) (a := y9) (u := (cInt .i64) y9) (by kernel_rfl) (by kernel_rfl) hy9 rfl rfl) ?_
    refine S_pure trivial (O_ldf (cells := (cInt .i64) y9) (off := 0) (u := .int .i64 y9) (by kernel_rfl) (by kernel_rfl)) ?_
    refine S_pure trivial (O_mv (d := .u (.int .i64 v_1)) (by kernel_rfl)) ?_
    refine S_pure trivial (O_eql (k := .i64) (a := y9) (b := v_1) (by kernel_rfl) (by kernel_rfl)) ?_
    refine Rs_nil ?_
    refine N_s ?_
    refine R_cond (c := (decide (y9 = v_1))) (by kernel_rfl) h (fun h => ?_) (fun h => ?_)
    · refine R_seq ?_
      refine R_reg ?_
      refine S_pure trivial (O_mv (d := .u (.bool true)) (by kernel_rfl)) ?_
      refine Rs_nil ?_
      refine N_s ?_
      obtain rfl := (K6 _ (hO2 _ h))
      refine R_ret ?_
      exact Q_ret (x := .bool true) (by kernel_rfl) (.refl _)
    · refine R_skip ?_
      refine N_b ?_
      refine N_s ?_
      refine R_reg ?_
      refine S_pure trivial (O_mv (d := .u (.int .i64 s7)) (by kernel_rfl)) ?_
      refine S_pure trivial (O_add (k := .i64) (a := s7) (b := 1) (by kernel_rfl) (by kernel_rfl)) ?_
      refine S_pure trivial (O_mv (d := .u (.int .i64 ((IntKind.i64.wrap (s7 + 1))))) (by kernel_rfl)) ?_
      refine Rs_nil ?_
      exact N_k (hK2 _ h _ (W_to (by kernel_rfl) (by kernel_rfl) (by kernel_rfl)))
  · refine R_exit ?_
    refine E_s ?_
    refine E_k ?_
    refine E_b ?_
    refine N_s ?_
    exact R_weak (W_to (by kernel_rfl) (by kernel_rfl) (by kernel_rfl)) (K4 _ (hO2 _ h))

/-! ### selfstab/selfstabref11.fold -/
def q_ref11_fold_1 : AC := .reg [⟨some 35, none, .mv (.t 11)⟩, ⟨some 6, none, .mv (.t 35)⟩]
def q_ref11_fold_2 : AC := .cond (.t 34) q_ref11_fold_1 .skip
def q_ref11_fold_3 : AC := .reg [⟨some 56, none, .mv (.t 10)⟩, ⟨some 57, none, .mv (.t 1)⟩, ⟨some 58, none, .mv (.t 11)⟩, ⟨some 59, none, .ia 1 (.t 57) (.t 58)⟩, ⟨some 60, none, .ld false 1 (.t 59)⟩, ⟨some 61, none, .bi .add (.t 56) (.t 60)⟩, ⟨some 10, none, .mv (.t 61)⟩]
def q_ref11_fold_4 : AC := .reg [⟨some 50, none, .mv (.t 8)⟩, ⟨some 51, none, .mv (.t 1)⟩, ⟨some 52, none, .mv (.t 11)⟩, ⟨some 53, none, .ia 1 (.t 51) (.t 52)⟩, ⟨some 54, none, .ld false 1 (.t 53)⟩, ⟨some 55, none, .mx [.t 50, .t 54]⟩, ⟨some 8, none, .mv (.t 55)⟩]
def q_ref11_fold_5 : AC := .seq q_ref11_fold_4 q_ref11_fold_3
def q_ref11_fold_6 : AC := .reg [⟨some 42, none, .mv (.t 9)⟩, ⟨some 43, none, .mv (.t 8)⟩, ⟨some 44, none, .mv (.t 1)⟩, ⟨some 45, none, .mv (.t 11)⟩, ⟨some 46, none, .ia 1 (.t 44) (.t 45)⟩, ⟨some 47, none, .ld false 1 (.t 46)⟩, ⟨some 48, none, .mn [.t 43, .t 47]⟩, ⟨some 49, none, .mx [.t 42, .t 48]⟩, ⟨some 9, none, .mv (.t 49)⟩]
def q_ref11_fold_7 : AC := .seq q_ref11_fold_6 q_ref11_fold_5
def q_ref11_fold_8 : AC := .reg [⟨some 36, none, .mv (.t 7)⟩, ⟨some 37, none, .mv (.t 1)⟩, ⟨some 38, none, .mv (.t 11)⟩, ⟨some 39, none, .ia 1 (.t 37) (.t 38)⟩, ⟨some 40, none, .ld false 1 (.t 39)⟩, ⟨some 41, none, .mn [.t 36, .t 40]⟩, ⟨some 7, none, .mv (.t 41)⟩]
def q_ref11_fold_9 : AC := .seq q_ref11_fold_8 q_ref11_fold_7
def q_ref11_fold_10 : AC := .reg [⟨some 17, none, .mv (.t 11)⟩, ⟨some 18, none, .bi .add (.t 17) (.c (.int .i64 1))⟩, ⟨some 11, none, .mv (.t 18)⟩]
def q_ref11_fold_11 : AC := .reg [⟨some 105, none, .mv (.t 1)⟩, ⟨some 106, none, .ia 1 (.t 105) (.c (.int .i64 0))⟩, ⟨some 107, none, .ld false 1 (.t 106)⟩, ⟨some 4, none, .mv (.t 107)⟩]
def q_ref11_fold_12 : AC := .seq q_ref11_fold_11 .ret
def q_ref11_fold_13 : AC := .reg [⟨some 4, none, .mv (.c (.int .i64 0))⟩]
def q_ref11_fold_14 : AC := .seq q_ref11_fold_13 .ret
def q_ref11_fold_15 : AC := .cond (.t 104) q_ref11_fold_14 .skip
def q_ref11_fold_16 : AC := .reg [⟨some 102, none, .mv (.t 1)⟩, ⟨some 103, none, .ln (.t 102)⟩, ⟨some 104, none, .bi .eql (.t 103) (.c (.int .i64 0))⟩]
def q_ref11_fold_17 : AC := .seq q_ref11_fold_16 q_ref11_fold_15
def q_ref11_fold_18 : AC := .seq q_ref11_fold_17 q_ref11_fold_12
def q_ref11_fold_19 : AC := .reg [⟨some 65, none, .mv (.t 5)⟩, ⟨some 66, none, .mv (.t 1)⟩, ⟨some 67, none, .ln (.t 66)⟩, ⟨some 68, none, .bi .eql (.t 65) (.t 67)⟩, ⟨some 69, none, .ca 58 [.t 68]⟩, ⟨some 4, none, .mv (.t 69)⟩]
def q_ref11_fold_20 : AC := .seq q_ref11_fold_19 .ret
def q_ref11_fold_21 : AC := .reg [⟨some 72, none, .mv (.t 5)⟩, ⟨some 73, none, .bi .gtr (.t 72) (.c (.int .i64 0))⟩, ⟨some 74, none, .ca 58 [.t 73]⟩, ⟨some 4, none, .mv (.t 74)⟩]
def q_ref11_fold_22 : AC := .seq q_ref11_fold_21 .ret
def q_ref11_fold_23 : AC := .reg [⟨some 77, none, .mv (.t 5)⟩, ⟨some 4, none, .mv (.t 77)⟩]
def q_ref11_fold_24 : AC := .seq q_ref11_fold_23 .ret
def q_ref11_fold_25 : AC := .reg [⟨some 80, none, .mv (.t 6)⟩, ⟨some 4, none, .mv (.t 80)⟩]
def q_ref11_fold_26 : AC := .seq q_ref11_fold_25 .ret
def q_ref11_fold_27 : AC := .reg [⟨some 83, none, .mv (.t 7)⟩, ⟨some 4, none, .mv (.t 83)⟩]
def q_ref11_fold_28 : AC := .seq q_ref11_fold_27 .ret
def q_ref11_fold_29 : AC := .reg [⟨some 86, none, .mv (.t 8)⟩, ⟨some 4, none, .mv (.t 86)⟩]
def q_ref11_fold_30 : AC := .seq q_ref11_fold_29 .ret
def q_ref11_fold_31 : AC := .reg [⟨some 89, none, .mv (.t 10)⟩, ⟨some 90, none, .ca 21 [.t 89]⟩, ⟨some 4, none, .mv (.t 90)⟩]
def q_ref11_fold_32 : AC := .seq q_ref11_fold_31 .ret
def q_ref11_fold_33 : AC := .reg [⟨some 93, none, .mv (.t 9)⟩, ⟨some 4, none, .mv (.t 93)⟩]
def q_ref11_fold_34 : AC := .seq q_ref11_fold_33 .ret
def q_ref11_fold_35 : AC := .reg [⟨some 101, none, .mv (.t 12)⟩, ⟨some 4, none, .mv (.t 101)⟩]
def q_ref11_fold_36 : AC := .seq q_ref11_fold_35 .ret
def q_ref11_fold_37 : AC := .reg [⟨some 99, none, .mv (.t 12)⟩, ⟨some 100, none, .bi .add (.t 99) (.c (.int .i64 1))⟩, ⟨some 12, none, .mv (.t 100)⟩]
def q_ref11_fold_38 : AC := .block 4 q_ref11_fold_37
def q_ref11_fold_39 : AC := .cond (.t 98) .skip (.exit 3)
def q_ref11_fold_40 : AC := .reg [⟨some 96, none, .mv (.t 1)⟩, ⟨some 97, none, .mv (.t 12)⟩, ⟨some 98, none, .ca 77 [.t 96, .t 97]⟩]
def q_ref11_fold_41 : AC := .seq q_ref11_fold_40 q_ref11_fold_39
def q_ref11_fold_42 : AC := .seq q_ref11_fold_41 q_ref11_fold_38
def q_ref11_fold_43 : AC := .loop q_ref11_fold_42
def q_ref11_fold_44 : AC := .block 3 q_ref11_fold_43
def q_ref11_fold_45 : AC := .seq q_ref11_fold_44 q_ref11_fold_36
def q_ref11_fold_46 : AC := .reg [⟨some 12, none, .mv (.c (.int .i64 0))⟩]
def q_ref11_fold_47 : AC := .seq q_ref11_fold_46 q_ref11_fold_45
def q_ref11_fold_48 : AC := .cond (.t 94) q_ref11_fold_47 .skip
def q_ref11_fold_49 : AC := .reg [⟨some 95, none, .bi .eql (.t 62) (.c (.int .i64 27))⟩, ⟨some 94, none, .mv (.t 95)⟩]
def q_ref11_fold_50 : AC := .seq q_ref11_fold_49 q_ref11_fold_48
def q_ref11_fold_51 : AC := .cond (.t 91) q_ref11_fold_34 q_ref11_fold_50
def q_ref11_fold_52 : AC := .reg [⟨some 92, none, .bi .eql (.t 62) (.c (.int .i64 28))⟩, ⟨some 91, none, .mv (.t 92)⟩]
def q_ref11_fold_53 : AC := .seq q_ref11_fold_52 q_ref11_fold_51
def q_ref11_fold_54 : AC := .cond (.t 87) q_ref11_fold_32 q_ref11_fold_53
def q_ref11_fold_55 : AC := .reg [⟨some 88, none, .bi .eql (.t 62) (.c (.int .i64 26))⟩, ⟨some 87, none, .mv (.t 88)⟩]
def q_ref11_fold_56 : AC := .seq q_ref11_fold_55 q_ref11_fold_54
def q_ref11_fold_57 : AC := .cond (.t 84) q_ref11_fold_30 q_ref11_fold_56
def q_ref11_fold_58 : AC := .reg [⟨some 85, none, .bi .eql (.t 62) (.c (.int .i64 25))⟩, ⟨some 84, none, .mv (.t 85)⟩]
def q_ref11_fold_59 : AC := .seq q_ref11_fold_58 q_ref11_fold_57
def q_ref11_fold_60 : AC := .cond (.t 81) q_ref11_fold_28 q_ref11_fold_59
def q_ref11_fold_61 : AC := .reg [⟨some 82, none, .bi .eql (.t 62) (.c (.int .i64 24))⟩, ⟨some 81, none, .mv (.t 82)⟩]
def q_ref11_fold_62 : AC := .seq q_ref11_fold_61 q_ref11_fold_60
def q_ref11_fold_63 : AC := .cond (.t 78) q_ref11_fold_26 q_ref11_fold_62
def q_ref11_fold_64 : AC := .reg [⟨some 79, none, .bi .eql (.t 62) (.c (.int .i64 23))⟩, ⟨some 78, none, .mv (.t 79)⟩]
def q_ref11_fold_65 : AC := .seq q_ref11_fold_64 q_ref11_fold_63
def q_ref11_fold_66 : AC := .cond (.t 75) q_ref11_fold_24 q_ref11_fold_65
def q_ref11_fold_67 : AC := .reg [⟨some 76, none, .bi .eql (.t 62) (.c (.int .i64 22))⟩, ⟨some 75, none, .mv (.t 76)⟩]
def q_ref11_fold_68 : AC := .seq q_ref11_fold_67 q_ref11_fold_66
def q_ref11_fold_69 : AC := .cond (.t 70) q_ref11_fold_22 q_ref11_fold_68
def q_ref11_fold_70 : AC := .reg [⟨some 71, none, .bi .eql (.t 62) (.c (.int .i64 21))⟩, ⟨some 70, none, .mv (.t 71)⟩]
def q_ref11_fold_71 : AC := .seq q_ref11_fold_70 q_ref11_fold_69
def q_ref11_fold_72 : AC := .cond (.t 63) q_ref11_fold_20 q_ref11_fold_71
def q_ref11_fold_73 : AC := .reg [⟨some 64, none, .bi .eql (.t 62) (.c (.int .i64 20))⟩, ⟨some 63, none, .mv (.t 64)⟩]
def q_ref11_fold_74 : AC := .seq q_ref11_fold_73 q_ref11_fold_72
def q_ref11_fold_75 : AC := .block 2 q_ref11_fold_74
def q_ref11_fold_76 : AC := .reg [⟨some 62, none, .mv (.t 0)⟩]
def q_ref11_fold_77 : AC := .seq q_ref11_fold_76 q_ref11_fold_75
def q_ref11_fold_78 : AC := .seq q_ref11_fold_77 q_ref11_fold_18
def q_ref11_fold_79 : AC := .reg [⟨some 26, none, .mv (.t 1)⟩, ⟨some 27, none, .mv (.t 11)⟩, ⟨some 28, none, .ia 1 (.t 26) (.t 27)⟩, ⟨some 29, none, .ld false 1 (.t 28)⟩, ⟨some 30, none, .bi .neq (.t 29) (.c (.int .i64 0))⟩, ⟨some 31, none, .mv (.t 30)⟩, ⟨some 32, some (31, true), .mv (.t 6)⟩, ⟨some 33, some (31, true), .bi .lss (.t 32) (.c (.int .i64 0))⟩, ⟨some 34, none, .pk (.t 31) (.t 33) (.c (.bool false))⟩]
def q_ref11_fold_80 : AC := .seq q_ref11_fold_79 q_ref11_fold_2
def q_ref11_fold_81 : AC := .seq q_ref11_fold_80 q_ref11_fold_9
def q_ref11_fold_82 : AC := .reg [⟨some 24, none, .mv (.t 5)⟩, ⟨some 25, none, .bi .add (.t 24) (.c (.int .i64 1))⟩, ⟨some 5, none, .mv (.t 25)⟩]
def q_ref11_fold_83 : AC := .cond (.t 23) q_ref11_fold_82 .skip
def q_ref11_fold_84 : AC := .reg [⟨some 19, none, .mv (.t 1)⟩, ⟨some 20, none, .mv (.t 11)⟩, ⟨some 21, none, .ia 1 (.t 19) (.t 20)⟩, ⟨some 22, none, .ld false 1 (.t 21)⟩, ⟨some 23, none, .bi .neq (.t 22) (.c (.int .i64 0))⟩]
def q_ref11_fold_85 : AC := .seq q_ref11_fold_84 q_ref11_fold_83
def q_ref11_fold_86 : AC := .seq q_ref11_fold_85 q_ref11_fold_81
def q_ref11_fold_87 : AC := .block 1 q_ref11_fold_86
def q_ref11_fold_88 : AC := .seq q_ref11_fold_87 q_ref11_fold_10
def q_ref11_fold_89 : AC := .cond (.t 16) .skip (.exit 0)
def q_ref11_fold_90 : AC := .reg [⟨some 13, none, .mv (.t 11)⟩, ⟨some 14, none, .mv (.t 1)⟩, ⟨some 15, none, .ln (.t 14)⟩, ⟨some 16, none, .bi .lss (.t 13) (.t 15)⟩]
def q_ref11_fold_91 : AC := .seq q_ref11_fold_90 q_ref11_fold_89
def q_ref11_fold_92 : AC := .seq q_ref11_fold_91 q_ref11_fold_88
def q_ref11_fold_93 : AC := .loop q_ref11_fold_92
def q_ref11_fold_94 : AC := .block 0 q_ref11_fold_93
def q_ref11_fold_95 : AC := .reg [⟨some 11, none, .mv (.c (.int .i64 0))⟩]
def q_ref11_fold_96 : AC := .seq q_ref11_fold_95 q_ref11_fold_94
def q_ref11_fold_97 : AC := .seq q_ref11_fold_96 q_ref11_fold_78
def q_ref11_fold_98 : AC := .reg [⟨some 5, none, .mv (.c (.int .i64 0))⟩, ⟨some 6, none, .mv (.c (.int .i64 (-1)))⟩, ⟨some 7, none, .mv (.c (.int .i64 1073741824))⟩, ⟨some 8, none, .mv (.c (.int .i64 (-1073741824)))⟩, ⟨some 9, none, .mv (.c (.int .i64 (-1073741824)))⟩, ⟨some 10, none, .mv (.c (.int .i64 0))⟩]
def q_ref11_fold_99 : AC := .seq q_ref11_fold_98 q_ref11_fold_97
def q_ref11_fold_100 : AC := .reg [⟨some 4, none, .mv (.c (.int .i64 0))⟩]
def q_ref11_fold_101 : AC := .seq q_ref11_fold_100 q_ref11_fold_99
def c_ref11_fold : FC := ⟨108, [4], q_ref11_fold_101⟩
theorem k_ref11_fold : okF Try.prog 45 c_ref11_fold = true := by decide +kernel
noncomputable def ref11_fold.l15 (l_1 : List Int) (s12 : Int) : Option (Int ⊕ Int) := ((ref11_occurs l_1 s12).bind (fun (y14 : Bool) => (bif y14 then (some (Sum.inl (IntKind.i64.wrap (s12 + 1)))) else (some (Sum.inr s12)))))
noncomputable def ref11_fold.l33 (l_1 : List Int) (s17 : Int × Int × Int × Int × Int × Int × Int) : Option ((Int × Int × Int × Int × Int × Int × Int) ⊕ ((Int × Int × Int × Int × Int × Int))) := (bif (decide (s17.2.2.2.2.2.2 < (List.length l_1 : Int))) then (((idx l_1 s17.2.2.2.2.2.2).bind (fun (y32 : Int) => (bif (!decide (y32 = 0)) then (some (IntKind.i64.wrap (s17.1 + 1))) else (some s17.1)))).bind (fun (w20 : Int) => (((idx l_1 s17.2.2.2.2.2.2).bind (fun (y29 : Int) => (bif ((!decide (y29 = 0)) && (decide (s17.2.1 < 0))) then (some s17.2.2.2.2.2.2) else (some s17.2.1)))).bind (fun (w23 : Int) => ((idx l_1 s17.2.2.2.2.2.2).bind (fun (y25 : Int) => ((idx l_1 s17.2.2.2.2.2.2).bind (fun (y26 : Int) => ((idx l_1 s17.2.2.2.2.2.2).bind (fun (y27 : Int) => ((idx l_1 s17.2.2.2.2.2.2).bind (fun (y28 : Int) => (some (Sum.inl (w20, w23, (min s17.2.2.1 y25), (max s17.2.2.2.1 y27), (max s17.2.2.2.2.1 ((min s17.2.2.2.1 y26))), (IntKind.i64.wrap (s17.2.2.2.2.2.1 + y28)), (IntKind.i64.wrap (s17.2.2.2.2.2.2 + 1))))))))))))))))) else (some (Sum.inr (s17.1, s17.2.1, s17.2.2.1, s17.2.2.2.1, s17.2.2.2.2.1, s17.2.2.2.2.2.1))))
noncomputable def ref11_fold (op_0 : Int) (l_1 : List Int) : Option Int := ((loopO (ref11_fold.l33 l_1) (0, (-1), 1073741824, (-1073741824), (-1073741824), 0, 0)).bind (fun (w3 : Int × Int × Int × Int × Int × Int) => (bif (decide (op_0 = 20)) then ((ref11_truth ((decide (w3.1 = (List.length l_1 : Int))))).bind (fun (y5 : Int) => (some y5))) else (bif (decide (op_0 = 21)) then ((ref11_truth ((decide (0 < w3.1)))).bind (fun (y6 : Int) => (some y6))) else (bif (decide (op_0 = 22)) then (some w3.1) else (bif (decide (op_0 = 23)) then (some w3.2.1) else (bif (decide (op_0 = 24)) then (some w3.2.2.1) else (bif (decide (op_0 = 25)) then (some w3.2.2.2.1) else (bif (decide (op_0 = 26)) then ((ref11_Saturate w3.2.2.2.2.2).bind (fun (y7 : Int) => (some y7))) else (bif (decide (op_0 = 28)) then (some w3.2.2.2.2.1) else (bif (decide (op_0 = 27)) then ((loopO (ref11_fold.l15 l_1) 0).bind (fun (w10 : Int) => (some w10))) else (bif (decide ((List.length l_1 : Int) = 0)) then (some 0) else ((idx l_1 0).bind (fun (y16 : Int) => (some y16)))))))))))))))
theorem ref11_fold.ok {op_0 : Int} {l_1 : List Int} {r : Int} (h : ref11_fold op_0 l_1 = some r) : PC Try.prog 45 [.int .i64 op_0, .sl (List.map (cInt .i64) l_1)] (.int .i64 r) := by
  refine PC_run k_ref11_fold rfl (L := [(0, .u (.int .i64 op_0)), (1, .u (.sl (List.map (cInt .i64) l_1)))]) rfl ?_
  show Run Try.prog 108 (retQ [4] (.int .i64 r)) [] q_ref11_fold_101 _
  refine R_seq ?_
  refine R_reg ?_
  refine S_pure trivial (O_mv (d := .u (.int .i64 0)) (by kernel_rfl)) ?_
  refine Rs_nil ?_
  refine N_s ?_
  refine R_seq ?_
  refine R_reg ?_
  refine S_pure trivial (O_mv (d := .u (.int .i64 0)) (by kernel_rfl)) ?_
  refine S_pure trivial (O_mv (d := .u (.int .i64 ((-1)))) (by kernel_rfl)) ?_
  refine S_pure trivial (O_mv (d := .u (.int .i64 1073741824)) (by kernel_rfl)) ?_
  refine S_pure trivial (O_mv (d := .u (.int .i64 ((-1073741824)))) (by kernel_rfl)) ?_
  refine S_pure trivial (O_mv (d := .u (.int .i64 ((-1073741824)))) (by kernel_rfl)) ?_
  refine S_pure trivial (O_mv (d := .u (.int .i64 0)) (by kernel_rfl)) ?_
  refine Rs_nil ?_
  refine N_s ?_
  refine R_seq ?_
  refine R_seq ?_
  refine R_reg ?_
  refine S_pure trivial (O_mv (d := .u (.int .i64 0)) (by kernel_rfl)) ?_
  refine Rs_nil ?_
  refine N_s ?_
  refine R_block ?_
  obtain ⟨o1, hE, h⟩ := bindS h
  have K4 : ∀ (w3 : Int × Int × Int × Int × Int × Int), w3 = o1 → Run Try.prog 108 (retQ [4] (.int .i64 r)) [] q_ref11_fold_78 (mkSt [(0, .u (.int .i64 op_0)), (1, .u (.sl (List.map (cInt .i64) l_1))), (5, .u (.int .i64 w3.1)), (6, .u (.int .i64 w3.2.1)), (7, .u (.int .i64 w3.2.2.1)), (8, .u (.int .i64 w3.2.2.2.1)), (9, .u (.int .i64 w3.2.2.2.2.1)), (10, .u (.int .i64 w3.2.2.2.2.2))] [] 0) := by
    intro w3 e; subst e
    refine R_seq ?_
    refine R_seq ?_
    refine R_reg ?_
    refine S_pure trivial (O_mv (d := .u (.int .i64 op_0)) (by kernel_rfl)) ?_
    refine Rs_nil ?_
    refine N_s ?_
    refine R_block ?_
    refine R_seq ?_
    refine R_reg ?_
    refine S_pure trivial (O_eql (k := .i64) (a := op_0) (b := 20) (by kernel_rfl) (by kernel_rfl)) ?_
    refine S_pure trivial (O_mv (d := .u (.bool ((decide (op_0 = 20))))) (by kernel_rfl)) ?_
    refine Rs_nil ?_
    refine N_s ?_
    refine R_cond (c := (decide (op_0 = 20))) (by kernel_rfl) h (fun h => ?_) (fun h => ?_)
    · refine R_seq ?_
      refine R_reg ?_
      refine S_pure trivial (O_mv (d := .u (.int .i64 w3.1)) (by kernel_rfl)) ?_
      refine S_pure trivial (O_mv (d := .u (.sl (List.map (cInt .i64) l_1))) (by kernel_rfl)) ?_
      refine S_pure trivial (O_ln (c := (cInt .i64)) (li := l_1) (by kernel_rfl)) ?_
      refine S_pure trivial (O_eql (k := .i64) (a := w3.1) (b := (List.length l_1 : Int)) (by kernel_rfl) (by kernel_rfl)) ?_
      obtain ⟨y5, hy5, h⟩ := bindS h
      refine S_pure trivial (O_ca (us := [.bool ((decide (w3.1 = (List.length l_1 : Int))))]) (r := .int .i64 y5) (by kernel_rfl) (ref11_truth.ok hy5)) ?_
      refine S_pure trivial (O_mv (d := .u (.int .i64 y5)) (by kernel_rfl)) ?_
      refine Rs_nil ?_
      refine N_s ?_
      obtain rfl := (Option.some.inj h)
      refine R_ret ?_
      exact Q_ret (x := .int .i64 y5) (by kernel_rfl) (.refl _)
    · refine R_seq ?_
      refine R_reg ?_
      refine S_pure trivial (O_eql (k := .i64) (a := op_0) (b := 21) (by kernel_rfl) (by kernel_rfl)) ?_
      refine S_pure trivial (O_mv (d := .u (.bool ((decide (op_0 = 21))))) (by kernel_rfl)) ?_
      refine Rs_nil ?_
      refine N_s ?_
      refine R_cond (c := (decide (op_0 = 21))) (by kernel_rfl) h (fun h => ?_) (fun h => ?_)
      · refine R_seq ?_
        refine R_reg ?_
        refine S_pure trivial (O_mv (d := .u (.int .i64 w3.1)) (by kernel_rfl)) ?_
        refine S_pure trivial (O_gtr (k := .i64) (a := w3.1) (b := 0) (by kernel_rfl) (by kernel_rfl)) ?_
        obtain ⟨y6, hy6, h⟩ := bindS h
        refine S_pure trivial (O_ca (us := [.bool ((decide (0 < w3.1)))]) (r := .int .i64 y6) (by kernel_rfl) (ref11_truth.ok hy6)) ?_
        refine S_pure trivial (O_mv (d := .u (.int .i64 y6)) (by kernel_rfl)) ?_
        refine Rs_nil ?_
        refine N_s ?_
        obtain rfl := (Option.some.inj h)
        refine R_ret ?_
        exact Q_ret (x := .int .i64 y6) (by kernel_rfl) (.refl _)
      · refine R_seq ?_
        refine R_reg ?_
        refine S_pure trivial (O_eql (k := .i64) (a := op_0) (b := 22) (by kernel_rfl) (by kernel_rfl)) ?_
        refine S_pure trivial (O_mv (d := .u (.bool ((decide (op_0 = 22))))) (by kernel_rfl)) ?_
        refine Rs_nil ?_
        refine N_s ?_
        refine R_cond (c := (decide (op_0 = 22))) (by kernel_rfl) h (fun h => ?_) (fun h => ?_)
        · refine R_seq ?_
          refine R_reg ?_
          refine S_pure trivial (O_mv (d := .u (.int .i64 w3.1)) (by kernel_rfl)) ?_
          refine S_pure trivial (O_mv (d := .u (.int .i64 w3.1)) (by kernel_rfl)) ?_
          refine Rs_nil ?_
          refine N_s ?_
          obtain rfl := (Option.some.inj h)
          refine R_ret ?_
          exact Q_ret (x := .int .i64 w3.1) (by kernel_rfl) (.refl _)
        · refine R_seq ?_
          refine R_reg ?_
          refine S_pure trivial (O_eql (k := .i64) (a := op_0) (b := 23) (by kernel_rfl) (by kernel_rfl)) ?_
          refine S_pure trivial (O_mv (d := .u (.bool ((decide (op_0 = 23))))) (by kernel_rfl)) ?_
          refine Rs_nil ?_
          refine N_s ?_
          refine R_cond (c := (decide (op_0 = 23))) (by kernel_rfl) h (fun h => ?_) (fun h => ?_)
          · refine R_seq ?_
            refine R_reg ?_
            refine S_pure trivial (O_mv (d := .u (.int .i64 w3.2.1)) (by kernel_rfl)) ?_
            refine S_pure trivial (O_mv (d := .u (.int .i64 w3.2.1)) (by kernel_rfl)) ?_
            refine Rs_nil ?_
            refine N_s ?_
            obtain rfl := (Option.some.inj h)
            refine R_ret ?_
            exact Q_ret (x := .int .i64 w3.2.1) (by kernel_rfl) (.refl _)
          · refine R_seq ?_
            refine R_reg ?_
            refine S_pure trivial (O_eql (k := .i64) (a := op_0) (b := 24) (by kernel_rfl) (by kernel_rfl)) ?_
            refine S_pure trivial (O_mv (d := .u (.bool ((decide (op_0 = 24))))) (by kernel_rfl)) ?_
            refine Rs_nil ?_
            refine N_s ?_
            refine R_cond (c := (decide (op_0 = 24))) (by kernel_rfl) h (fun h => ?_) (fun h => ?_)
            · refine R_seq ?_
              refine R_reg ?_
              refine S_pure trivial (O_mv (d := .u (.int .i64 w3.2.2.1)) (by kernel_rfl)) ?_
              refine S_pure trivial (O_mv (d := .u (.int .i64 w3.2.2.1)) (by kernel_rfl)) ?_
              refine Rs_nil ?_
              refine N_s ?_
              obtain rfl := (Option.some.inj h)
              refine R_ret ?_
              exact Q_ret (x := .int .i64 w3.2.2.1) (by kernel_rfl) (.refl _)
            · refine R_seq ?_
              refine R_reg ?_
              refine S_pure trivial (O_eql (k := .i64) (a := op_0) (b := 25) (by kernel_rfl) (by kernel_rfl)) ?_
              refine S_pure trivial (O_mv (d := .u (.bool ((decide (op_0 = 25))))) (by kernel_rfl)) ?_
              refine Rs_nil ?_
              refine N_s ?_
              refine R_cond (c := (decide (op_0 = 25))) (by kernel_rfl) h (fun h => ?_) (fun h => ?_)
              · refine R_seq ?_
                refine R_reg ?_
                refine S_pure trivial (O_mv (d := .u (.int .i64 w3.2.2.2.1)) (by kernel_rfl)) ?_
                refine S_pure trivial (O_mv (d := .u (.int .i64 w3.2.2.2.1)) (by kernel_rfl)) ?_
                refine Rs_nil ?_
                refine N_s ?_
                obtain rfl := (Option.some.inj h)
                refine R_ret ?_
                exact Q_ret (x := .int .i64 w3.2.2.2.1) (by kernel_rfl) (.refl _)
              · refine R_seq ?_
                refine R_reg ?_
                refine S_pure trivial (O_eql (k := .i64) (a := op_0) (b := 26) (by kernel_rfl) (by kernel_rfl)) ?_
                refine S_pure trivial (O_mv (d := .u (.bool ((decide (op_0 = 26))))) (by kernel_rfl)) ?_
                refine Rs_nil ?_
                refine N_s ?_
                refine R_cond (c := (decide (op_0 = 26))) (by kernel_rfl) h (fun h => ?_) (fun h => ?_)
                · refine R_seq ?_
                  refine R_reg ?_
                  refine S_pure trivial (O_mv (d := .u (.int .i64 w3.2.2.2.2.2)) (by kernel_rfl)) ?_
                  obtain ⟨y7, hy7, h⟩ := bindS h
                  refine S_pure trivial (O_ca (us := [.int .i64 w3.2.2.2.2.2]) (r := .int .i64 y7) (by kernel_rfl) (ref11_Saturate.ok hy7)) ?_
                  refine S_pure trivial (O_mv (d := .u (.int .i64 y7)) (by kernel_rfl)) ?_
                  refine Rs_nil ?_
                  refine N_s ?_
                  obtain rfl := (Option.some.inj h)
                  refine R_ret ?_
                  exact Q_ret (x := .int .i64 y7) (by kernel_rfl) (.refl _)
                · refine R_seq ?_
                  refine R_reg ?_
                  refine S_pure trivial (O_eql (k := .i64) (a := op_0) (b := 28) (by kernel_rfl) (by kernel_rfl)) ?_
                  refine S_pure trivial (O_mv (d := .u (.bool ((decide (op_0 = 28))))) (by kernel_rfl)) ?_
                  refine Rs_nil ?_
                  refine N_s ?_
                  refine R_cond (c := (decide (op_0 = 28))) (by kernel_rfl) h (fun h => ?_) (fun h => ?_)
                  · refine R_seq ?_
                    refine R_reg ?_
                    refine S_pure trivial (O_mv (d := .u (.int .i64 w3.2.2.2.2.1)) (by kernel_rfl)) ?_
                    refine S_pure trivial (O_mv (d := .u (.int .i64 w3.2.2.2.2.1)) (by kernel_rfl)) ?_
                    refine Rs_nil ?_
                    refine N_s ?_
                    obtain rfl := (Option.some.inj h)
                    refine R_ret ?_
                    exact Q_ret (x := .int .i64 w3.2.2.2.2.1) (by kernel_rfl) (.refl _)
                  · refine R_seq ?_
                    refine R_reg ?_
                    refine S_pure trivial (O_eql (k := .i64) (a := op_0) (b := 27) (by kernel_rfl) (by kernel_rfl)) ?_
                    refine S_pure trivial (O_mv (d := .u (.bool ((decide (op_0 = 27))))) (by kernel_rfl)) ?_
                    refine Rs_nil ?_
                    refine N_s ?_
                    refine R_cond (c := (decide (op_0 = 27))) (by kernel_rfl) h (fun h => ?_) (fun h => ?_)
                    · refine R_seq ?_
                      refine R_reg ?_
                      refine S_pure trivial (O_mv (d := .u (.int .i64 0)) (by kernel_rfl)) ?_
                      refine Rs_nil ?_
                      refine N_s ?_
                      refine R_seq ?_
                      refine R_block ?_
                      obtain ⟨o8, hE, h⟩ := bindS h
                      have K11 : ∀ (w10 : Int), w10 = o8 → Run Try.prog 108 (retQ [4] (.int .i64 r)) [.b 2, .s q_ref11_fold_18] q_ref11_fold_36 (mkSt [(12, .u (.int .i64 w10))] [] 0) := by
                        intro w10 e; subst e
                        refine R_seq ?_
                        refine R_reg ?_
                        refine S_pure trivial (O_mv (d := .u (.int .i64 w10)) (by kernel_rfl)) ?_
                        refine S_pure trivial (O_mv (d := .u (.int .i64 w10)) (by kernel_rfl)) ?_
                        refine Rs_nil ?_
                        refine N_s ?_
                        obtain rfl := (Option.some.inj h)
                        refine R_ret ?_
                        exact Q_ret (x := .int .i64 w10) (by kernel_rfl) (.refl _)
                      refine R_loop (ref11_fold.l15 l_1) (fun s12 => (mkSt [(1, .u (.sl (List.map (cInt .i64) l_1))), (12, .u (.int .i64 s12))] [] 0)) hE (W_to (by kernel_rfl) (by kernel_rfl) (by kernel_rfl)) ?_
                      intro K9 s12 x13 h hK9 hO9
                      refine R_seq ?_
                      refine R_seq ?_
                      refine R_reg ?_
                      refine S_pure trivial (O_mv (d := .u (.sl (List.map (cInt .i64) l_1))) (by kernel_rfl)) ?_
                      refine S_pure trivial (O_mv (d := .u (.int .i64 s12)) (by kernel_rfl)) ?_
                      obtain ⟨y14, hy14, h⟩ := bindS h
                      refine S_pure trivial (O_ca (us := [.sl (List.map (cInt .i64) l_1), .int .i64 s12]) (r := .bool y14) (by kernel_rfl) (ref11_occurs.ok hy14)) ?_
                      refine Rs_nil ?_
                      refine N_s ?_
                      refine R_cond (c := y14) (by kernel_rfl) h (fun h => ?_) (fun h => ?_)
                      · refine R_skip ?_
                        refine N_s ?_
                        refine R_block ?_
                        refine R_reg ?_
                        refine S_pure trivial (O_mv (d := .u (.int .i64 s12)) (by kernel_rfl)) ?_
                        refine S_pure trivial (O_add (k := .i64) (a := s12) (b := 1) (by kernel_rfl) (by kernel_rfl)) ?_
                        refine S_pure trivial (O_mv (d := .u (.int .i64 ((IntKind.i64.wrap (s12 + 1))))) (by kernel_rfl)) ?_
                        refine Rs_nil ?_
                        refine N_b ?_
                        exact N_k (hK9 _ h _ (W_to (by kernel_rfl) (by kernel_rfl) (by kernel_rfl)))
                      · refine R_exit ?_
                        refine E_s ?_
                        refine E_k ?_
                        refine E_b ?_
                        refine N_s ?_
                        exact R_weak (W_to (by kernel_rfl) (by kernel_rfl) (by kernel_rfl)) (K11 _ (hO9 _ h))
                    · refine R_skip ?_
                      refine N_b ?_
                      refine N_s ?_
                      refine R_seq ?_
                      refine R_seq ?_
                      refine R_reg ?_
                      refine S_pure trivial (O_mv (d := .u (.sl (List.map (cInt .i64) l_1))) (by kernel_rfl)) ?_
                      refine S_pure trivial (O_ln (c := (cInt .i64)) (li := l_1) (by kernel_rfl)) ?_
                      refine S_pure trivial (O_eql (k := .i64) (a := (List.length l_1 : Int)) (b := 0) (by kernel_rfl) (by kernel_rfl)) ?_
                      refine Rs_nil ?_
                      refine N_s ?_
                      refine R_cond (c := (decide ((List.length l_1 : Int) = 0))) (by kernel_rfl) h (fun h => ?_) (fun h => ?_)
                      · refine R_seq ?_
                        refine R_reg ?_
                        refine S_pure trivial (O_mv (d := .u (.int .i64 0)) (by kernel_rfl)) ?_
                        refine Rs_nil ?_
                        refine N_s ?_
                        obtain rfl := (Option.some.inj h)
                        refine R_ret ?_
                        exact Q_ret (x := .int .i64 0) (by kernel_rfl) (.refl _)
                      · refine R_skip ?_
                        refine N_s ?_
                        refine R_seq ?_
                        refine R_reg ?_
                        refine S_pure trivial (O_mv (d := .u (.sl (List.map (cInt .i64) l_1))) (by kernel_rfl)) ?_
                        obtain ⟨y16, hy16, h⟩ := bindS h
                        refine S_pure trivial (O_ia (c := (cInt .i64)) (li := l_1) (i := 0) (k := .i64) (a := y16) (u := (cInt .i64) y16) (by kernel_rfl) (by kernel_rfl) hy16 rfl rfl) ?_
                        refine S_pure trivial (O_ldf (cells := (cInt .i64) y16) (off := 0) (u := .int .i64 y16) (by kernel_rfl) (by kernel_rfl)) ?_
                        refine S_pure trivial (O_mv (d := .u (.int .i64 y16)) (by kernel_rfl)) ?_
                        refine Rs_nil ?_
                        refine N_s ?_
                        obtain rfl := (Option.some.inj h)
                        refine R_ret ?_
                        exact Q_ret (x := .int .i64 y16) (by kernel_rfl) (.refl _)
  refine R_loop (ref11_fold.l33 l_1) (fun s17 => (mkSt [(0, .u (.int .i64 op_0)), (1, .u (.sl (List.map (cInt .i64) l_1))), (5, .u (.int .i64 s17.1)), (6, .u (.int .i64 s17.2.1)), (7, .u (.int .i64 s17.2.2.1)), (8, .u (.int .i64 s17.2.2.2.1)), (9, .u (.int .i64 s17.2.2.2.2.1)), (10, .u (.int .i64 s17.2.2.2.2.2.1)), (11, .u (.int .i64 s17.2.2.2.2.2.2))] [] 0)) hE (W_to (by kernel_rfl) (by kernel_rfl) (by kernel_rfl)) ?_
  intro K2 s17 x18 h hK2 hO2
  refine R_seq ?_
  refine R_seq ?_
  refine R_reg ?_
  refine S_pure trivial (O_mv (d := .u (.int .i64 s17.2.2.2.2.2.2)) (by kernel_rfl)) ?_
  refine S_pure trivial (O_mv (d := .u (.sl (List.map (cInt .i64) l_1))) (by kernel_rfl)) ?_
  refine S_pure trivial (O_ln (c := (cInt .i64)) (li := l_1) (by kernel_rfl)) ?_
  refine S_pure trivial (O_lss (k := .i64) (a := s17.2.2.2.2.2.2) (b := (List.length l_1 : Int)) (by kernel_rfl) (by kernel_rfl)) ?_
  refine Rs_nil ?_
  refine N_s ?_
  refine R_cond (c := (decide (s17.2.2.2.2.2.2 < (List.length l_1 : Int)))) (by kernel_rfl) h (fun h => ?_) (fun h => ?_)
  · refine R_skip ?_
    refine N_s ?_
    refine R_seq ?_
    refine R_block ?_
    obtain ⟨o19, hE, h⟩ := bindS h
    have K21 : ∀ (w20 : Int), w20 = o19 → Run Try.prog 108 (retQ [4] (.int .i64 r)) [.b 1, .s q_ref11_fold_10, .k K2, .b 0, .s q_ref11_fold_78] q_ref11_fold_81 (mkSt [(0, .u (.int .i64 op_0)), (1, .u (.sl (List.map (cInt .i64) l_1))), (5, .u (.int .i64 w20)), (6, .u (.int .i64 s17.2.1)), (7, .u (.int .i64 s17.2.2.1)), (8, .u (.int .i64 s17.2.2.2.1)), (9, .u (.int .i64 s17.2.2.2.2.1)), (10, .u (.int .i64 s17.2.2.2.2.2.1)), (11, .u (.int .i64 s17.2.2.2.2.2.2))] [] 0) := by
      intro w20 e; subst e
      obtain ⟨o22, hE, h⟩ := bindS h
      have K24 : ∀ (w23 : Int), w23 = o22 → Run Try.prog 108 (retQ [4] (.int .i64 r)) [.b 1, .s q_ref11_fold_10, .k K2, .b 0, .s q_ref11_fold_78] q_ref11_fold_9 (mkSt [(0, .u (.int .i64 op_0)), (1, .u (.sl (List.map (cInt .i64) l_1))), (5, .u (.int .i64 w20)), (6, .u (.int .i64 w23)), (7, .u (.int .i64 s17.2.2.1)), (8, .u (.int .i64 s17.2.2.2.1)), (9, .u (.int .i64 s17.2.2.2.2.1)), (10, .u (.int .i64 s17.2.2.2.2.2.1)), (11, .u (.int .i64 s17.2.2.2.2.2.2))] [] 0) := by
        intro w23 e; subst e
        refine R_seq ?_
        refine R_reg ?_
        refine S_pure trivial (O_mv (d := .u (.int .i64 s17.2.2.1)) (by kernel_rfl)) ?_
        refine S_pure trivial (O_mv (d := .u (.sl (List.map (cInt .i64) l_1))) (by kernel_rfl)) ?_
        refine S_pure trivial (O_mv (d := .u (.int .i64 s17.2.2.2.2.2.2)) (by kernel_rfl)) ?_
        obtain ⟨y25, hy25, h⟩ := bindS h
        refine S_pure trivial (O_ia (c := (cInt .i64)) (li := l_1) (i := s17.2.2.2.2.2.2) (k := .i64) (a := y25) (u := (cInt .i64) y25) (by kernel_rfl) (by kernel_rfl) hy25 rfl rfl) ?_
        refine S_pure trivial (O_ldf (cells := (cInt .i64) y25) (off := 0) (u := .int .i64 y25) (by kernel_rfl) (by kernel_rfl)) ?_
        refine S_pure trivial (O_mn (k := .i64) (a := s17.2.2.1) (b := y25) (by kernel_rfl) (by kernel_rfl)) ?_
        refine S_pure trivial (O_mv (d := .u (.int .i64 ((min s17.2.2.1 y25)))) (by kernel_rfl)) ?_
        refine Rs_nil ?_
        refine N_s ?_
        refine R_seq ?_
        refine R_reg ?_
        refine S_pure trivial (O_mv (d := .u (.int .i64 s17.2.2.2.2.1)) (by kernel_rfl)) ?_
        refine S_pure trivial (O_mv (d := .u (.int .i64 s17.2.2.2.1)) (by kernel_rfl)) ?_
        refine S_pure trivial (O_mv (d := .u (.sl (List.map (cInt .i64) l_1))) (by kernel_rfl)) ?_
        refine S_pure trivial (O_mv (d := .u (.int .i64 s17.2.2.2.2.2.2)) (by kernel_rfl)) ?_
        obtain ⟨y26, hy26, h⟩ := bindS h
        refine S_pure trivial (O_ia (c := (cInt .i64)) (li := l_1) (i := s17.2.2.2.2.2.2) (k := .i64) (a := y26) (u := (cInt .i64) y26) (by kernel_rfl) (by kernel_rfl) hy26 rfl rfl) ?_
        refine S_pure trivial (O_ldf (cells := (cInt .i64) y26) (off := 0) (u := .int .i64 y26) (by kernel_rfl) (by kernel_rfl)) ?_
        refine S_pure trivial (O_mn (k := .i64) (a := s17.2.2.2.1) (b := y26) (by kernel_rfl) (by kernel_rfl)) ?_
        refine S_pure trivial (O_mx (k := .i64) (a := s17.2.2.2.2.1) (b := (min s17.2.2.2.1 y26)) (by kernel_rfl) (by kernel_rfl)) ?_
        refine S_pure trivial (O_mv (d := .u (.int .i64 ((max s17.2.2.2.2.1 ((min s17.2.2.2.1 y26)))))) (by kernel_rfl)) ?_
        refine Rs_nil ?_
        refine N_s ?_
        refine R_seq ?_
        refine R_reg ?_
        refine S_pure trivial (O_mv (d := .u (.int .i64 s17.2.2.2.1)) (by kernel_rfl)) ?_
        refine S_pure trivial (O_mv (d := .u (.sl (List.map (cInt .i64) l_1))) (by kernel_rfl)) ?_
        refine S_pure trivial (O_mv (d := .u (.int .i64 s17.2.2.2.2.2.2)) (by kernel_rfl)) ?_
        obtain ⟨y27, hy27, h⟩ := bindS h
        refine S_pure trivial (O_ia (c := (cInt .i64)) (li := l_1) (i := s17.2.2.2.2.2.2) (k := .i64) (a := y27) (u := (cInt .i64) y27) (by kernel_rfl) (by kernel_rfl) hy27 rfl rfl) ?_
        refine S_pure trivial (O_ldf (cells := (cInt .i64) y27) (off := 0) (u := .int .i64 y27) (by kernel_rfl) (by kernel_rfl)) ?_
        refine S_pure trivial (O_mx (k := .i64) (a := s17.2.2.2.1) (b := y27) (by kernel_rfl) (by kernel_rfl)) ?_
        refine S_pure trivial (O_mv (d := .u (.int .i64 ((max s17.2.2.2.1 y27)))) (by kernel_rfl)) ?_
        refine Rs_nil ?_
        refine N_s ?_
        refine R_reg ?_
        refine S_pure trivial (O_mv (d := .u (.int .i64 s17.2.2.2.2.2.1)) (by kernel_rfl)) ?_
        refine S_pure trivial (O_mv (d := .u (.sl (List.map (cInt .i64) l_1))) (by kernel_rfl)) ?_
        refine S_pure trivial (O_mv (d := .u (.int .i64 s17.2.2.2.2.2.2)) (by kernel_rfl)) ?_
        obtain ⟨y28, hy28, h⟩ := bindS h
        refine S_pure trivial (O_ia (c := (cInt .i64)) (li := l_1) (i := s17.2.2.2.2.2.2) (k := .i64) (a := y28) (u := (cInt .i64) y28) (by kernel_rfl) (by kernel_rfl) hy28 rfl rfl) ?_
        refine S_pure trivial (O_ldf (cells := (cInt .i64) y28) (off := 0) (u := .int .i64 y28) (by kernel_rfl) (by kernel_rfl)) ?_
        refine S_pure trivial (O_add (k := .i64) (a := s17.2.2.2.2.2.1) (b := y28) (by kernel_rfl) (by kernel_rfl)) ?_
        refine S_pure trivial (O_mv (d := .u (.int .i64 ((IntKind.i64.wrap (s17.2.2.2.2.2.1 + y28))))) (by kernel_rfl)) ?_
        refine Rs_nil ?_
        refine N_b ?_
        refine N_s ?_
        refine R_reg ?_
        refine S_pure trivial (O_mv (d := .u (.int .i64 s17.2.2.2.2.2.2)) (by kernel_rfl)) ?_
        refine S_pure trivial (O_add (k := .i64) (a := s17.2.2.2.2.2.2) (b := 1) (by kernel_rfl) (by kernel_rfl)) ?_
        refine S_pure trivial (O_mv (d := .u (.int .i64 ((IntKind.i64.wrap (s17.2.2.2.2.2.2 + 1))))) (by kernel_rfl)) ?_
        refine Rs_nil ?_
        exact N_k (hK2 _ h _ (W_to (by kernel_rfl) (by kernel_rfl) (by kernel_rfl)))
      replace h := hE
      refine R_seq ?_
      refine R_seq ?_
      refine R_reg ?_
      refine S_pure trivial (O_mv (d := .u (.sl (List.map (cInt .i64) l_1))) (by kernel_rfl)) ?_
      refine S_pure trivial (O_mv (d := .u (.int .i64 s17.2.2.2.2.2.2)) (by kernel_rfl)) ?_
      obtain ⟨y29, hy29, h⟩ := bindS h
      refine S_pure trivial (O_ia (c := (cInt .i64)) (li := l_1) (i := s17.2.2.2.2.2.2) (k := .i64) (a := y29) (u := (cInt .i64) y29) (by kernel_rfl) (by kernel_rfl) hy29 rfl rfl) ?_
      refine S_pure trivial (O_ldf (cells := (cInt .i64) y29) (off := 0) (u := .int .i64 y29) (by kernel_rfl) (by kernel_rfl)) ?_
      refine S_pure trivial (O_neq (k := .i64) (a := y29) (b := 0) (by kernel_rfl) (by kernel_rfl)) ?_
      refine S_pure trivial (O_mv (d := .u (.bool ((!decide (y29 = 0))))) (by kernel_rfl)) ?_
      have K30 : ∀ v31 : Bool, v31 = ((!decide (y29 = 0)) && (decide (s17.2.1 < 0))) → Rs Try.prog 108 (retQ [4] (.int .i64 r)) [.s q_ref11_fold_2, .s q_ref11_fold_9, .b 1, .s q_ref11_fold_10, .k K2, .b 0, .s q_ref11_fold_78] [] (mkSt [(0, .u (.int .i64 op_0)), (1, .u (.sl (List.map (cInt .i64) l_1))), (5, .u (.int .i64 w20)), (6, .u (.int .i64 s17.2.1)), (7, .u (.int .i64 s17.2.2.1)), (8, .u (.int .i64 s17.2.2.2.1)), (9, .u (.int .i64 s17.2.2.2.2.1)), (10, .u (.int .i64 s17.2.2.2.2.2.1)), (11, .u (.int .i64 s17.2.2.2.2.2.2)), (34, .u (.bool v31))] [] 0) := by
        intro v31 e; subst e
        refine Rs_nil ?_
        refine N_s ?_
        refine R_cond (c := ((!decide (y29 = 0)) && (decide (s17.2.1 < 0)))) (by kernel_rfl) h (fun h => ?_) (fun h => ?_)
        · refine R_reg ?_
          refine S_pure trivial (O_mv (d := .u (.int .i64 s17.2.2.2.2.2.2)) (by kernel_rfl)) ?_
          refine S_pure trivial (O_mv (d := .u (.int .i64 s17.2.2.2.2.2.2)) (by kernel_rfl)) ?_
          refine Rs_nil ?_
          refine N_s ?_
          exact R_weak (W_to (by kernel_rfl) (by kernel_rfl) (by kernel_rfl)) (K24 _ (Option.some.inj h))
        · refine R_skip ?_
          refine N_s ?_
          exact R_weak (W_to (by kernel_rfl) (by kernel_rfl) (by kernel_rfl)) (K24 _ (Option.some.inj h))
      refine S_case0 (t := 31) (c := (!decide (y29 = 0))) (by kernel_rfl) (fun hc => ?_) (fun hc => ?_)
      · refine S_pure (by show _ = _; kernel_rfl) (O_mv (d := .u (.int .i64 s17.2.1)) (by kernel_rfl)) ?_
        refine S_pure (by show _ = _; kernel_rfl) (O_lss (k := .i64) (a := s17.2.1) (b := 0) (by kernel_rfl) (by kernel_rfl)) ?_
        refine S_pure trivial (O_pkt (d := .u (.bool ((decide (s17.2.1 < 0))))) (by kernel_rfl) (by kernel_rfl)) ?_
        exact Rs_weak (W_to (by kernel_rfl) (by kernel_rfl) (by kernel_rfl)) (K30 _ (by rw [hc] <;> rfl))
      · refine S_skip (b := false) (by kernel_rfl) rfl ?_
        refine S_skip (b := false) (by kernel_rfl) rfl ?_
        refine S_pure trivial (O_pkf (d := .u (.bool false)) (by kernel_rfl) (by kernel_rfl)) ?_
        exact Rs_weak (W_to (by kernel_rfl) (by kernel_rfl) (by kernel_rfl)) (K30 _ (by rw [hc] <;> rfl))
    replace h := hE
    refine R_seq ?_
    refine R_seq ?_
    refine R_reg ?_
    refine S_pure trivial (O_mv (d := .u (.sl (List.map (cInt .i64) l_1))) (by kernel_rfl)) ?_
    refine S_pure trivial (O_mv (d := .u (.int .i64 s17.2.2.2.2.2.2)) (by kernel_rfl)) ?_
    obtain ⟨y32, hy32, h⟩ := bindS h
    refine S_pure trivial (O_ia (c := (cInt .i64)) (li := l_1) (i := s17.2.2.2.2.2.2) (k := .i64) (a := y32) (u := (cInt .i64) y32) (by kernel_rfl) (by kernel_rfl) hy32 rfl rfl) ?_
    refine S_pure trivial (O_ldf (cells := (cInt .i64) y32) (off := 0) (u := .int .i64 y32) (by kernel_rfl) (by kernel_rfl)) ?_
    refine S_pure trivial (O_neq (k := .i64) (a := y32) (b := 0) (by kernel_rfl) (by kernel_rfl)) ?_
    refine Rs_nil ?_
    refine N_s ?_
    refine R_cond (c := (!decide (y32 = 0))) (by kernel_rfl) h (fun h => ?_) (fun h => ?_)
    · refine R_reg ?_
      refine S_pure trivial (O_mv (d := .u (.int .i64 s17.1)) (by kernel_rfl)) ?_
      refine S_pure trivial (O_add (k := .i64) (a := s17.1) (b := 1) (by kernel_rfl) (by kernel_rfl)) ?_
      refine S_pure trivial (O_mv (d := .u (.int .i64 ((IntKind.i64.wrap (s17.1 + 1))))) (by kernel_rfl)) ?_
      refine Rs_nil ?_
      refine N_s ?_
      exact R_weak (W_to (by kernel_rfl) (by kernel_rfl) (by kernel_rfl)) (K21 _ (Option.some.inj h))
    · refine R_skip ?_
      refine N_s ?_
      exact R_weak (W_to (by kernel_rfl) (by kernel_rfl) (by kernel_rfl)) (K21 _ (Option.some.inj h))
  · refine R_exit ?_
    refine E_s ?_
    refine E_k ?_
    refine E_b ?_
    refine N_s ?_
    exact R_weak (W_to (by kernel_rfl) (by kernel_rfl) (by kernel_rfl)) (K4 _ (hO2 _ h))

/-! ### selfstab/selfstabref11.Fold -/
def q_ref11_Fold_1 : AC := .reg [⟨some 25, none, .mv (.t 0)⟩, ⟨some 26, none, .mv (.t 1)⟩, ⟨some 27, none, .ca 45 [.t 25, .t 26]⟩, ⟨some 4, none, .mv (.t 27)⟩, ⟨some 5, none, .mv (.c (.int .i64 0))⟩]
def q_ref11_Fold_2 : AC := .seq q_ref11_Fold_1 .ret
def q_ref11_Fold_3 : AC := .reg [⟨some 17, none, .mv (.t 6)⟩, ⟨some 18, none, .bi .add (.t 17) (.c (.int .i64 1))⟩, ⟨some 6, none, .mv (.t 18)⟩]
def q_ref11_Fold_4 : AC := .reg [⟨some 4, none, .mv (.c (.int .i64 0))⟩, ⟨some 5, none, .mv (.c (.int .i64 2))⟩]
def q_ref11_Fold_5 : AC := .seq q_ref11_Fold_4 .ret
def q_ref11_Fold_6 : AC := .cond (.t 24) q_ref11_Fold_5 .skip
def q_ref11_Fold_7 : AC := .reg [⟨some 19, none, .mv (.t 1)⟩, ⟨some 20, none, .mv (.t 6)⟩, ⟨some 21, none, .ia 1 (.t 19) (.t 20)⟩, ⟨some 22, none, .ld false 1 (.t 21)⟩, ⟨some 23, none, .ca 37 [.t 22]⟩, ⟨some 24, none, .un .not (.t 23)⟩]
def q_ref11_Fold_8 : AC := .seq q_ref11_Fold_7 q_ref11_Fold_6
def q_ref11_Fold_9 : AC := .block 1 q_ref11_Fold_8
def q_ref11_Fold_10 : AC := .seq q_ref11_Fold_9 q_ref11_Fold_3
def q_ref11_Fold_11 : AC := .cond (.t 16) .skip (.exit 0)
def q_ref11_Fold_12 : AC := .reg [⟨some 13, none, .mv (.t 6)⟩, ⟨some 14, none, .mv (.t 1)⟩, ⟨some 15, none, .ln (.t 14)⟩, ⟨some 16, none, .bi .lss (.t 13) (.t 15)⟩]
def q_ref11_Fold_13 : AC := .seq q_ref11_Fold_12 q_ref11_Fold_11
def q_ref11_Fold_14 : AC := .seq q_ref11_Fold_13 q_ref11_Fold_10
def q_ref11_Fold_15 : AC := .loop q_ref11_Fold_14
def q_ref11_Fold_16 : AC := .block 0 q_ref11_Fold_15
def q_ref11_Fold_17 : AC := .reg [⟨some 6, none, .mv (.c (.int .i64 0))⟩]
def q_ref11_Fold_18 : AC := .seq q_ref11_Fold_17 q_ref11_Fold_16
def q_ref11_Fold_19 : AC := .seq q_ref11_Fold_18 q_ref11_Fold_2
def q_ref11_Fold_20 : AC := .reg [⟨some 4, none, .mv (.c (.int .i64 0))⟩, ⟨some 5, none, .mv (.c (.int .i64 3))⟩]
def q_ref11_Fold_21 : AC := .seq q_ref11_Fold_20 .ret
def q_ref11_Fold_22 : AC := .cond (.t 12) q_ref11_Fold_21 .skip
def q_ref11_Fold_23 : AC := .reg [⟨some 10, none, .mv (.t 1)⟩, ⟨some 11, none, .ln (.t 10)⟩, ⟨some 12, none, .bi .geq (.t 11) (.c (.int .i64 24))⟩]
def q_ref11_Fold_24 : AC := .seq q_ref11_Fold_23 q_ref11_Fold_22
def q_ref11_Fold_25 : AC := .seq q_ref11_Fold_24 q_ref11_Fold_19
def q_ref11_Fold_26 : AC := .reg [⟨some 4, none, .mv (.c (.int .i64 0))⟩, ⟨some 5, none, .mv (.c (.int .i64 2))⟩]
def q_ref11_Fold_27 : AC := .seq q_ref11_Fold_26 .ret
def q_ref11_Fold_28 : AC := .cond (.t 9) q_ref11_Fold_27 .skip
def q_ref11_Fold_29 : AC := .reg [⟨some 7, none, .mv (.t 0)⟩, ⟨some 8, none, .ca 28 [.t 7]⟩, ⟨some 9, none, .un .not (.t 8)⟩]
def q_ref11_Fold_30 : AC := .seq q_ref11_Fold_29 q_ref11_Fold_28
def q_ref11_Fold_31 : AC := .seq q_ref11_Fold_30 q_ref11_Fold_25
def q_ref11_Fold_32 : AC := .reg [⟨some 4, none, .mv (.c (.int .i64 0))⟩, ⟨some 5, none, .mv (.c (.int .i64 0))⟩]
def q_ref11_Fold_33 : AC := .seq q_ref11_Fold_32 q_ref11_Fold_31
def c_ref11_Fold : FC := ⟨28, [4, 5], q_ref11_Fold_33⟩
theorem k_ref11_Fold : okF Try.prog 20 c_ref11_Fold = true := by decide +kernel
noncomputable def ref11_Fold.l13 (l_1 : List Int) (s9 : Int) : Option (Int ⊕ (Unit ⊕ (Int × Int))) := (bif (decide (s9 < (List.length l_1 : Int))) then ((idx l_1 s9).bind (fun (y11 : Int) => ((ref11_Number y11).bind (fun (y12 : Bool) => (bif (!y12) then (some (Sum.inr (Sum.inr (0, 2)))) else (some (Sum.inl (IntKind.i64.wrap (s9 + 1))))))))) else (some (Sum.inr (Sum.inl ()))))
noncomputable def ref11_Fold (op_0 : Int) (l_1 : List Int) : Option (Int × Int) := ((ref05_Aggregate op_0).bind (fun (y1 : Bool) => (bif (!y1) then (some (0, 2)) else (bif (decide (24 ≤ (List.length l_1 : Int))) then (some (0, 3)) else ((loopO (ref11_Fold.l13 l_1) 0).bind (Sum.elim (fun (w4 : Unit) => ((ref11_fold op_0 l_1).bind (fun (y6 : Int) => (some (y6, 0))))) (fun (w7 : (Int × Int)) => (some w7))))))))
theorem ref11_Fold.ok {op_0 : Int} {l_1 : List Int} {r : Int × Int} (h : ref11_Fold op_0 l_1 = some r) : PC Try.prog 20 [.int .i64 op_0, .sl (List.map (cInt .i64) l_1)] (.tup [.int .i64 r.1, .int .i64 r.2]) := by
  refine PC_run k_ref11_Fold rfl (L := [(0, .u (.int .i64 op_0)), (1, .u (.sl (List.map (cInt .i64) l_1)))]) rfl ?_
  show Run Try.prog 28 (retQ [4, 5] (.tup [.int .i64 r.1, .int .i64 r.2])) [] q_ref11_Fold_33 _
  refine R_seq ?_
  refine R_reg ?_
  refine S_pure trivial (O_mv (d := .u (.int .i64 0)) (by kernel_rfl)) ?_
  refine S_pure trivial (O_mv (d := .u (.int .i64 0)) (by kernel_rfl)) ?_
  refine Rs_nil ?_
  refine N_s ?_
  refine R_seq ?_
  refine R_seq ?_
  refine R_reg ?_
  refine S_pure trivial (O_mv (d := .u (.int .i64 op_0)) (by kernel_rfl)) ?_
  obtain ⟨y1, hy1, h⟩ := bindS h
  refine S_pure trivial (O_ca (us := [.int .i64 op_0]) (r := .bool y1) (by kernel_rfl) (ref05_Aggregate.ok hy1)) ?_
  refine S_pure trivial (O_not (b := y1) (by kernel_rfl)) ?_
  refine Rs_nil ?_
  refine N_s ?_
  refine R_cond (c := (!y1)) (by kernel_rfl) h (fun h => ?_) (fun h => ?_)
  · refine R_seq ?_
    refine R_reg ?_
    refine S_pure trivial (O_mv (d := .u (.int .i64 0)) (by kernel_rfl)) ?_
    refine S_pure trivial (O_mv (d := .u (.int .i64 2)) (by kernel_rfl)) ?_
    refine Rs_nil ?_
    refine N_s ?_
    obtain rfl := (Option.some.inj h)
    refine R_ret ?_
    exact Q_ret (x := .tup [.int .i64 0, .int .i64 2]) (by kernel_rfl) (.refl _)
  · refine R_skip ?_
    refine N_s ?_
    refine R_seq ?_
    refine R_seq ?_
    refine R_reg ?_
    refine S_pure trivial (O_mv (d := .u (.sl (List.map (cInt .i64) l_1))) (by kernel_rfl)) ?_
    refine S_pure trivial (O_ln (c := (cInt .i64)) (li := l_1) (by kernel_rfl)) ?_
    refine S_pure trivial (O_geq (k := .i64) (a := (List.length l_1 : Int)) (b := 24) (by kernel_rfl) (by kernel_rfl)) ?_
    refine Rs_nil ?_
    refine N_s ?_
    refine R_cond (c := (decide (24 ≤ (List.length l_1 : Int)))) (by kernel_rfl) h (fun h => ?_) (fun h => ?_)
    · refine R_seq ?_
      refine R_reg ?_
      refine S_pure trivial (O_mv (d := .u (.int .i64 0)) (by kernel_rfl)) ?_
      refine S_pure trivial (O_mv (d := .u (.int .i64 3)) (by kernel_rfl)) ?_
      refine Rs_nil ?_
      refine N_s ?_
      obtain rfl := (Option.some.inj h)
      refine R_ret ?_
      exact Q_ret (x := .tup [.int .i64 0, .int .i64 3]) (by kernel_rfl) (.refl _)
    · refine R_skip ?_
      refine N_s ?_
      refine R_seq ?_
      refine R_seq ?_
      refine R_reg ?_
      refine S_pure trivial (O_mv (d := .u (.int .i64 0)) (by kernel_rfl)) ?_
      refine Rs_nil ?_
      refine N_s ?_
      refine R_block ?_
      obtain ⟨o2, hE, h⟩ := bindS h
      have K5 : ∀ (w4 : Unit), (Sum.inl w4) = o2 → Run Try.prog 28 (retQ [4, 5] (.tup [.int .i64 r.1, .int .i64 r.2])) [] q_ref11_Fold_2 (mkSt [(0, .u (.int .i64 op_0)), (1, .u (.sl (List.map (cInt .i64) l_1)))] [] 0) := by
        intro w4 e; subst e
        replace h := elimL h
        refine R_seq ?_
        refine R_reg ?_
        refine S_pure trivial (O_mv (d := .u (.int .i64 op_0)) (by kernel_rfl)) ?_
        refine S_pure trivial (O_mv (d := .u (.sl (List.map (cInt .i64) l_1))) (by kernel_rfl)) ?_
        obtain ⟨y6, hy6, h⟩ := bindS h
        refine S_pure trivial (O_ca (us := [.int .i64 op_0, .sl (List.map (cInt .i64) l_1)]) (r := .int .i64 y6) (by kernel_rfl) (ref11_fold.ok hy6)) ?_
        refine S_pure trivial (O_mv (d := .u (.int .i64 y6)) (by kernel_rfl)) ?_
        refine S_pure trivial (O_mv (d := .u (.int .i64 0)) (by kernel_rfl)) ?_
        refine Rs_nil ?_
        refine N_s ?_
        obtain rfl := (Option.some.inj h)
        refine R_ret ?_
        exact Q_ret (x := .tup [.int .i64 y6, .int .i64 0]) (by kernel_rfl) (.refl _)
      have K8 : ∀ (w7 : (Int × Int)), (Sum.inr w7) = o2 → w7 = r := by
        intro w7 e; subst e
        replace h := elimR h
        exact Option.some.inj h
      refine R_loop (ref11_Fold.l13 l_1) (fun s9 => (mkSt [(0, .u (.int .i64 op_0)), (1, .u (.sl (List.map (cInt .i64) l_1))), (6, .u (.int .i64 s9))] [] 0)) hE (W_to (by kernel_rfl) (by kernel_rfl) (by kernel_rfl)) ?_
      intro K3 s9 x10 h hK3 hO3
      refine R_seq ?_
      refine R_seq ?_
      refine R_reg ?_
      refine S_pure trivial (O_mv (d := .u (.int .i64 s9)) (by kernel_rfl)) ?_
      refine S_pure trivial (O_mv (d := .u (.sl (List.map (cInt .i64) l_1))) (by kernel_rfl)) ?_
      refine S_pure trivial (O_ln (c := (cInt .i64)) (li := l_1) (by kernel_rfl)) ?_
      refine S_pure trivial (O_lss (k := .i64) (a := s9) (b := (List.length l_1 : Int)) (by kernel_rfl) (by kernel_rfl)) ?_
      refine Rs_nil ?_
      refine N_s ?_
      refine R_cond (c := (decide (s9 < (List.length l_1 : Int)))) (by kernel_rfl) h (fun h => ?_) (fun h => ?_)
      · refine R_skip ?_
        refine N_s ?_
        refine R_seq ?_
        refine R_block ?_
        refine R_seq ?_
        refine R_reg ?_
        refine S_pure trivial (O_mv (d := .u (.sl (List.map (cInt .i64) l_1))) (by kernel_rfl)) ?_
        refine S_pure trivial (O_mv (d := .u (.int .i64 s9)) (by kernel_rfl)) ?_
        obtain ⟨y11, hy11, h⟩ := bindS h
        refine S_pure trivial (O_ia (c := (cInt .i64)) (li := l_1) (i := s9) (k := .i64) (a := y11) (u := (cInt .i64) y11) (by kernel_rfl) (by kernel_rfl) hy11 rfl rfl) ?_
        refine S_pure trivial (O_ldf (cells := (cInt .i64) y11) (off := 0) (u := .int .i64 y11) (by kernel_rfl) (by kernel_rfl)) ?_
        obtain ⟨y12, hy12, h⟩ := bindS h
        refine S_pure trivial (O_ca (us := [.int .i64 y11]) (r := .bool y12) (by kernel_rfl) (ref11_Number.ok hy12)) ?_
        refine S_pure trivial (O_not (b := y12) (by kernel_rfl)) ?_
        refine Rs_nil ?_
        refine N_s ?_
        refine R_cond (c := (!y12)) (by kernel_rfl) h (fun h => ?_) (fun h => ?_)
        · refine R_seq ?_
          refine R_reg ?_
          refine S_pure trivial (O_mv (d := .u (.int .i64 0)) (by kernel_rfl)) ?_
          refine S_pure trivial (O_mv (d := .u (.int .i64 2)) (by kernel_rfl)) ?_
          refine Rs_nil ?_
          refine N_s ?_
          obtain rfl := (K8 _ (hO3 _ h))
          refine R_ret ?_
          exact Q_ret (x := .tup [.int .i64 0, .int .i64 2]) (by kernel_rfl) (.refl _)
        · refine R_skip ?_
          refine N_b ?_
          refine N_s ?_
          refine R_reg ?_
          refine S_pure trivial (O_mv (d := .u (.int .i64 s9)) (by kernel_rfl)) ?_
          refine S_pure trivial (O_add (k := .i64) (a := s9) (b := 1) (by kernel_rfl) (by kernel_rfl)) ?_
          refine S_pure trivial (O_mv (d := .u (.int .i64 ((IntKind.i64.wrap (s9 + 1))))) (by kernel_rfl)) ?_
          refine Rs_nil ?_
          exact N_k (hK3 _ h _ (W_to (by kernel_rfl) (by kernel_rfl) (by kernel_rfl)))
      · refine R_exit ?_
        refine E_s ?_
        refine E_k ?_
        refine E_b ?_
        refine N_s ?_
        exact R_weak (W_to (by kernel_rfl) (by kernel_rfl) (by kernel_rfl)) (K5 _ (hO3 _ h))

/-! ### selfstab/selfstabref11.quotient -/
def q_ref11_quotient_1 : AC := .reg [⟨some 22, none, .mv (.t 5)⟩, ⟨some 23, none, .bi .sub (.t 22) (.c (.int .i64 1))⟩, ⟨some 5, none, .mv (.t 23)⟩]
def q_ref11_quotient_2 : AC := .cond (.t 21) q_ref11_quotient_1 .skip
def q_ref11_quotient_3 : AC := .reg [⟨some 24, none, .mv (.t 5)⟩, ⟨some 4, none, .mv (.t 24)⟩]
def q_ref11_quotient_4 : AC := .seq q_ref11_quotient_3 .ret
def q_ref11_quotient_5 : AC := .reg [⟨some 11, none, .mv (.t 0)⟩, ⟨some 12, none, .mv (.t 1)⟩, ⟨some 13, none, .bi .rem (.t 11) (.t 12)⟩, ⟨some 14, none, .bi .neq (.t 13) (.c (.int .i64 0))⟩, ⟨some 15, none, .mv (.t 14)⟩, ⟨some 16, some (15, true), .mv (.t 0)⟩, ⟨some 17, some (15, true), .bi .lss (.t 16) (.c (.int .i64 0))⟩, ⟨some 18, some (15, true), .mv (.t 1)⟩, ⟨some 19, some (15, true), .bi .lss (.t 18) (.c (.int .i64 0))⟩, ⟨some 20, some (15, true), .bb .neq (.t 17) (.t 19)⟩, ⟨some 21, none, .pk (.t 15) (.t 20) (.c (.bool false))⟩]
def q_ref11_quotient_6 : AC := .seq q_ref11_quotient_5 q_ref11_quotient_2
def q_ref11_quotient_7 : AC := .seq q_ref11_quotient_6 q_ref11_quotient_4
def q_ref11_quotient_8 : AC := .reg [⟨some 8, none, .mv (.t 0)⟩, ⟨some 9, none, .mv (.t 1)⟩, ⟨some 10, none, .bi .quo (.t 8) (.t 9)⟩, ⟨some 5, none, .mv (.t 10)⟩]
def q_ref11_quotient_9 : AC := .seq q_ref11_quotient_8 q_ref11_quotient_7
def q_ref11_quotient_10 : AC := .reg [⟨some 4, none, .mv (.c (.int .i64 0))⟩]
def q_ref11_quotient_11 : AC := .seq q_ref11_quotient_10 .ret
def q_ref11_quotient_12 : AC := .cond (.t 7) q_ref11_quotient_11 .skip
def q_ref11_quotient_13 : AC := .reg [⟨some 6, none, .mv (.t 1)⟩, ⟨some 7, none, .bi .eql (.t 6) (.c (.int .i64 0))⟩]
def q_ref11_quotient_14 : AC := .seq q_ref11_quotient_13 q_ref11_quotient_12
def q_ref11_quotient_15 : AC := .seq q_ref11_quotient_14 q_ref11_quotient_9
def q_ref11_quotient_16 : AC := .reg [⟨some 4, none, .mv (.c (.int .i64 0))⟩]
def q_ref11_quotient_17 : AC := .seq q_ref11_quotient_16 q_ref11_quotient_15
def c_ref11_quotient : FC := ⟨25, [4], q_ref11_quotient_17⟩
theorem k_ref11_quotient : okF Try.prog 88 c_ref11_quotient = true := by decide +kernel
noncomputable def ref11_quotient (a_0 : Int) (b_1 : Int) : Option Int := (bif (decide (b_1 = 0)) then (some 0) else (bif (!decide (b_1 = 0)) then (bif (!decide (b_1 = 0)) then (bif ((!decide ((Int.tmod a_0 b_1) = 0)) && (!decide ((decide (a_0 < 0)) = (decide (b_1 < 0))))) then (some (IntKind.i64.wrap ((IntKind.i64.wrap (Int.tdiv a_0 b_1)) - 1))) else (some (IntKind.i64.wrap (Int.tdiv a_0 b_1)))) else none) else none))
theorem ref11_quotient.ok {a_0 : Int} {b_1 : Int} {r : Int} (h : ref11_quotient a_0 b_1 = some r) : PC Try.prog 88 [.int .i64 a_0, .int .i64 b_1] (.int .i64 r) := by
  refine PC_run k_ref11_quotient rfl (L := [(0, .u (.int .i64 a_0)), (1, .u (.int .i64 b_1))]) rfl ?_
  show Run Try.prog 25 (retQ [4] (.int .i64 r)) [] q_ref11_quotient_17 _
  refine R_seq ?_
  refine R_reg ?_
  refine S_pure trivial (O_mv (d := .u (.int .i64 0)) (by kernel_rfl)) ?_
  refine Rs_nil ?_
  refine N_s ?_
  refine R_seq ?_
  refine R_seq ?_
  refine R_reg ?_
  refine S_pure trivial (O_mv (d := .u (.int .i64 b_1)) (by kernel_rfl)) ?_
  refine S_pure trivial (O_eql (k := .i64) (a := b_1) (b := 0) (by kernel_rfl) (by kernel_rfl)) ?_
  refine Rs_nil ?_
  refine N_s ?_
  refine R_cond (c := (decide (b_1 = 0))) (by kernel_rfl) h (fun h => ?_) (fun h => ?_)
  · refine R_seq ?_
    refine R_reg ?_
    refine S_pure trivial (O_mv (d := .u (.int .i64 0)) (by kernel_rfl)) ?_
    refine Rs_nil ?_
    refine N_s ?_
    obtain rfl := (Option.some.inj h)
    refine R_ret ?_
    exact Q_ret (x := .int .i64 0) (by kernel_rfl) (.refl _)
  · refine R_skip ?_
    refine N_s ?_
    refine R_seq ?_
    refine R_reg ?_
    refine S_pure trivial (O_mv (d := .u (.int .i64 a_0)) (by kernel_rfl)) ?_
    refine S_pure trivial (O_mv (d := .u (.int .i64 b_1)) (by kernel_rfl)) ?_
    obtain ⟨hb, h⟩ := chkS h
    refine S_pure trivial (O_quo (k := .i64) (a := a_0) (b := b_1) (by kernel_rfl) (by kernel_rfl) hb) ?_
    refine S_pure trivial (O_mv (d := .u (.int .i64 ((IntKind.i64.wrap (Int.tdiv a_0 b_1))))) (by kernel_rfl)) ?_
    refine Rs_nil ?_
    refine N_s ?_
    refine R_seq ?_
    refine R_seq ?_
    refine R_reg ?_
    refine S_pure trivial (O_mv (d := .u (.int .i64 a_0)) (by kernel_rfl)) ?_
    refine S_pure trivial (O_mv (d := .u (.int .i64 b_1)) (by kernel_rfl)) ?_
    obtain ⟨hb, h⟩ := chkS h
    refine S_pure trivial (O_rem (k := .i64) (a := a_0) (b := b_1) (by kernel_rfl) (by kernel_rfl) hb) ?_
    refine S_pure trivial (O_neq (k := .i64) (a := (Int.tmod a_0 b_1)) (b := 0) (by kernel_rfl) (by kernel_rfl)) ?_
    refine S_pure trivial (O_mv (d := .u (.bool ((!decide ((Int.tmod a_0 b_1) = 0))))) (by kernel_rfl)) ?_
    have K1 : ∀ v2 : Bool, v2 = ((!decide ((Int.tmod a_0 b_1) = 0)) && (!decide ((decide (a_0 < 0)) = (decide (b_1 < 0))))) → Rs Try.prog 25 (retQ [4] (.int .i64 r)) [.s q_ref11_quotient_2, .s q_ref11_quotient_4] [] (mkSt [(5, .u (.int .i64 ((IntKind.i64.wrap (Int.tdiv a_0 b_1))))), (21, .u (.bool v2))] [] 0) := by
      intro v2 e; subst e
      refine Rs_nil ?_
      refine N_s ?_
      refine R_cond (c := ((!decide ((Int.tmod a_0 b_1) = 0)) && (!decide ((decide (a_0 < 0)) = (decide (b_1 < 0)))))) (by kernel_rfl) h (fun h => ?_) (fun h => ?_)
      · refine R_reg ?_
        refine S_pure trivial (O_mv (d := .u (.int .i64 ((IntKind.i64.wrap (Int.tdiv a_0 b_1))))) (by kernel_rfl)) ?_
        refine S_pure trivial (O_sub (k := .i64) (a := (IntKind.i64.wrap (Int.tdiv a_0 b_1))) (b := 1) (by kernel_rfl) (by kernel_rfl)) ?_
        refine S_pure trivial (O_mv (d := .u (.int .i64 ((IntKind.i64.wrap ((IntKind.i64.wrap (Int.tdiv a_0 b_1)) - 1))))) (by kernel_rfl)) ?_
        refine Rs_nil ?_
        refine N_s ?_
        refine R_seq ?_
        refine R_reg ?_
        refine S_pure trivial (O_mv (d := .u (.int .i64 ((IntKind.i64.wrap ((IntKind.i64.wrap (Int.tdiv a_0 b_1)) - 1))))) (by kernel_rfl)) ?_
        refine S_pure trivial (O_mv (d := .u (.int .i64 ((IntKind.i64.wrap ((IntKind.i64.wrap (Int.tdiv a_0 b_1)) - 1))))) (by kernel_rfl)) ?_
        refine Rs_nil ?_
        refine N_s ?_
        obtain rfl := (Option.some.inj h)
        refine R_ret ?_
        exact Q_ret (x := .int .i64 ((IntKind.i64.wrap ((IntKind.i64.wrap (Int.tdiv a_0 b_1)) - 1)))) (by kernel_rfl) (.refl _)
      · refine R_skip ?_
        refine N_s ?_
        refine R_seq ?_
        refine R_reg ?_
        refine S_pure trivial (O_mv (d := .u (.int .i64 ((IntKind.i64.wrap (Int.tdiv a_0 b_1))))) (by kernel_rfl)) ?_
        refine S_pure trivial (O_mv (d := .u (.int .i64 ((IntKind.i64.wrap (Int.tdiv a_0 b_1))))) (by kernel_rfl)) ?_
        refine Rs_nil ?_
        refine N_s ?_
        obtain rfl := (Option.some.inj h)
        refine R_ret ?_
        exact Q_ret (x := .int .i64 ((IntKind.i64.wrap (Int.tdiv a_0 b_1)))) (by kernel_rfl) (.refl _)
    refine S_case0 (t := 15) (c := (!decide ((Int.tmod a_0 b_1) = 0))) (by kernel_rfl) (fun hc => ?_) (fun hc => ?_)
    · refine S_pure (by show _ = _; kernel_rfl) (O_mv (d := .u (.int .i64 a_0)) (by kernel_rfl)) ?_
      refine S_pure (by show _ = _; kernel_rfl) (O_lss (k := .i64) (a := a_0) (b := 0) (by kernel_rfl) (by kernel_rfl)) ?_
      refine S_pure (by show _ = _; kernel_rfl) (O_mv (d := .u (.int .i64 b_1)) (by kernel_rfl)) ?_
      refine S_pure (by show _ = _; kernel_rfl) (O_lss (k := .i64) (a := b_1) (b := 0) (by kernel_rfl) (by kernel_rfl)) ?_
      refine S_pure (by show _ = _; kernel_rfl) (O_bneq (a := (decide (a_0 < 0))) (b := (decide (b_1 < 0))) (by kernel_rfl) (by kernel_rfl)) ?_
      refine S_pure trivial (O_pkt (d := .u (.bool ((!decide ((decide (a_0 < 0)) = (decide (b_1 < 0))))))) (by kernel_rfl) (by kernel_rfl)) ?_
      exact Rs_weak (W_to (by kernel_rfl) (by kernel_rfl) (by kernel_rfl)) (K1 _ (by rw [hc] <;> rfl))
    · refine S_skip (b := false) (by kernel_rfl) rfl ?_
      refine S_skip (b := false) (by kernel_rfl) rfl ?_
      refine S_skip (b := false) (by kernel_rfl) rfl ?_
      refine S_skip (b := false) (by kernel_rfl) rfl ?_
      refine S_skip (b := false) (by kernel_rfl) rfl ?_
      refine S_pure trivial (O_pkf (d := .u (.bool false)) (by kernel_rfl) (by kernel_rfl)) ?_
      exact Rs_weak (W_to (by kernel_rfl) (by kernel_rfl) (by kernel_rfl)) (K1 _ (by rw [hc] <;> rfl))

/-! ### selfstab/selfstabref11.apply -/
def q_ref11_apply_1 : AC := .reg [⟨some 84, none, .mv (.t 1)⟩, ⟨some 85, none, .bi .neq (.t 84) (.c (.int .i64 0))⟩, ⟨some 86, none, .mv (.t 85)⟩, ⟨some 87, some (86, false), .mv (.t 2)⟩, ⟨some 88, some (86, false), .bi .neq (.t 87) (.c (.int .i64 0))⟩, ⟨some 89, none, .pk (.t 86) (.c (.bool true)) (.t 88)⟩, ⟨some 90, none, .ca 58 [.t 89]⟩, ⟨some 6, none, .mv (.t 90)⟩]
def q_ref11_apply_2 : AC := .seq q_ref11_apply_1 .ret
def q_ref11_apply_3 : AC := .reg [⟨some 10, none, .mv (.t 1)⟩, ⟨some 11, none, .mv (.t 2)⟩, ⟨some 12, none, .bi .mul (.t 10) (.t 11)⟩, ⟨some 6, none, .mv (.t 12)⟩]
def q_ref11_apply_4 : AC := .seq q_ref11_apply_3 .ret
def q_ref11_apply_5 : AC := .reg [⟨some 15, none, .mv (.t 1)⟩, ⟨some 16, none, .mv (.t 2)⟩, ⟨some 17, none, .ca 88 [.t 15, .t 16]⟩, ⟨some 6, none, .mv (.t 17)⟩]
def q_ref11_apply_6 : AC := .seq q_ref11_apply_5 .ret
def q_ref11_apply_7 : AC := .reg [⟨some 22, none, .mv (.t 1)⟩, ⟨some 23, none, .mv (.t 2)⟩, ⟨some 24, none, .mv (.t 1)⟩, ⟨some 25, none, .mv (.t 2)⟩, ⟨some 26, none, .ca 88 [.t 24, .t 25]⟩, ⟨some 27, none, .bi .mul (.t 23) (.t 26)⟩, ⟨some 28, none, .bi .sub (.t 22) (.t 27)⟩, ⟨some 6, none, .mv (.t 28)⟩]
def q_ref11_apply_8 : AC := .seq q_ref11_apply_7 .ret
def q_ref11_apply_9 : AC := .reg [⟨some 6, none, .mv (.c (.int .i64 0))⟩]
def q_ref11_apply_10 : AC := .seq q_ref11_apply_9 .ret
def q_ref11_apply_11 : AC := .cond (.t 21) q_ref11_apply_10 .skip
def q_ref11_apply_12 : AC := .reg [⟨some 20, none, .mv (.t 2)⟩, ⟨some 21, none, .bi .eql (.t 20) (.c (.int .i64 0))⟩]
def q_ref11_apply_13 : AC := .seq q_ref11_apply_12 q_ref11_apply_11
def q_ref11_apply_14 : AC := .seq q_ref11_apply_13 q_ref11_apply_8
def q_ref11_apply_15 : AC := .reg [⟨some 31, none, .mv (.t 1)⟩, ⟨some 32, none, .mv (.t 2)⟩, ⟨some 33, none, .bi .add (.t 31) (.t 32)⟩, ⟨some 6, none, .mv (.t 33)⟩]
def q_ref11_apply_16 : AC := .seq q_ref11_apply_15 .ret
def q_ref11_apply_17 : AC := .reg [⟨some 36, none, .mv (.t 1)⟩, ⟨some 37, none, .mv (.t 2)⟩, ⟨some 38, none, .bi .sub (.t 36) (.t 37)⟩, ⟨some 6, none, .mv (.t 38)⟩]
def q_ref11_apply_18 : AC := .seq q_ref11_apply_17 .ret
def q_ref11_apply_19 : AC := .reg [⟨some 41, none, .mv (.t 1)⟩, ⟨some 42, none, .mv (.t 2)⟩, ⟨some 43, none, .bi .eql (.t 41) (.t 42)⟩, ⟨some 44, none, .ca 58 [.t 43]⟩, ⟨some 6, none, .mv (.t 44)⟩]
def q_ref11_apply_20 : AC := .seq q_ref11_apply_19 .ret
def q_ref11_apply_21 : AC := .reg [⟨some 47, none, .mv (.t 1)⟩, ⟨some 48, none, .mv (.t 2)⟩, ⟨some 49, none, .bi .neq (.t 47) (.t 48)⟩, ⟨some 50, none, .ca 58 [.t 49]⟩, ⟨some 6, none, .mv (.t 50)⟩]
def q_ref11_apply_22 : AC := .seq q_ref11_apply_21 .ret
def q_ref11_apply_23 : AC := .reg [⟨some 53, none, .mv (.t 1)⟩, ⟨some 54, none, .mv (.t 2)⟩, ⟨some 55, none, .bi .lss (.t 53) (.t 54)⟩, ⟨some 56, none, .ca 58 [.t 55]⟩, ⟨some 6, none, .mv (.t 56)⟩]
def q_ref11_apply_24 : AC := .seq q_ref11_apply_23 .ret
def q_ref11_apply_25 : AC := .reg [⟨some 59, none, .mv (.t 1)⟩, ⟨some 60, none, .mv (.t 2)⟩, ⟨some 61, none, .bi .leq (.t 59) (.t 60)⟩, ⟨some 62, none, .ca 58 [.t 61]⟩, ⟨some 6, none, .mv (.t 62)⟩]
def q_ref11_apply_26 : AC := .seq q_ref11_apply_25 .ret
def q_ref11_apply_27 : AC := .reg [⟨some 65, none, .mv (.t 1)⟩, ⟨some 66, none, .mv (.t 2)⟩, ⟨some 67, none, .bi .gtr (.t 65) (.t 66)⟩, ⟨some 68, none, .ca 58 [.t 67]⟩, ⟨some 6, none, .mv (.t 68)⟩]
def q_ref11_apply_28 : AC := .seq q_ref11_apply_27 .ret
def q_ref11_apply_29 : AC := .reg [⟨some 71, none, .mv (.t 1)⟩, ⟨some 72, none, .mv (.t 2)⟩, ⟨some 73, none, .bi .geq (.t 71) (.t 72)⟩, ⟨some 74, none, .ca 58 [.t 73]⟩, ⟨some 6, none, .mv (.t 74)⟩]
def q_ref11_apply_30 : AC := .seq q_ref11_apply_29 .ret
def q_ref11_apply_31 : AC := .reg [⟨some 77, none, .mv (.t 1)⟩, ⟨some 78, none, .bi .neq (.t 77) (.c (.int .i64 0))⟩, ⟨some 79, none, .mv (.t 78)⟩, ⟨some 80, some (79, true), .mv (.t 2)⟩, ⟨some 81, some (79, true), .bi .neq (.t 80) (.c (.int .i64 0))⟩, ⟨some 82, none, .pk (.t 79) (.t 81) (.c (.bool false))⟩, ⟨some 83, none, .ca 58 [.t 82]⟩, ⟨some 6, none, .mv (.t 83)⟩]
def q_ref11_apply_32 : AC := .seq q_ref11_apply_31 .ret
def q_ref11_apply_33 : AC := .cond (.t 75) q_ref11_apply_32 .skip
def q_ref11_apply_34 : AC := .reg [⟨some 76, none, .bi .eql (.t 7) (.c (.int .i64 41))⟩, ⟨some 75, none, .mv (.t 76)⟩]
def q_ref11_apply_35 : AC := .seq q_ref11_apply_34 q_ref11_apply_33
def q_ref11_apply_36 : AC := .cond (.t 69) q_ref11_apply_30 q_ref11_apply_35
def q_ref11_apply_37 : AC := .reg [⟨some 70, none, .bi .eql (.t 7) (.c (.int .i64 40))⟩, ⟨some 69, none, .mv (.t 70)⟩]
def q_ref11_apply_38 : AC := .seq q_ref11_apply_37 q_ref11_apply_36
def q_ref11_apply_39 : AC := .cond (.t 63) q_ref11_apply_28 q_ref11_apply_38
def q_ref11_apply_40 : AC := .reg [⟨some 64, none, .bi .eql (.t 7) (.c (.int .i64 39))⟩, ⟨some 63, none, .mv (.t 64)⟩]
def q_ref11_apply_41 : AC := .seq q_ref11_apply_40 q_ref11_apply_39
def q_ref11_apply_42 : AC := .cond (.t 57) q_ref11_apply_26 q_ref11_apply_41
def q_ref11_apply_43 : AC := .reg [⟨some 58, none, .bi .eql (.t 7) (.c (.int .i64 38))⟩, ⟨some 57, none, .mv (.t 58)⟩]
def q_ref11_apply_44 : AC := .seq q_ref11_apply_43 q_ref11_apply_42
def q_ref11_apply_45 : AC := .cond (.t 51) q_ref11_apply_24 q_ref11_apply_44
def q_ref11_apply_46 : AC := .reg [⟨some 52, none, .bi .eql (.t 7) (.c (.int .i64 37))⟩, ⟨some 51, none, .mv (.t 52)⟩]
def q_ref11_apply_47 : AC := .seq q_ref11_apply_46 q_ref11_apply_45
def q_ref11_apply_48 : AC := .cond (.t 45) q_ref11_apply_22 q_ref11_apply_47
def q_ref11_apply_49 : AC := .reg [⟨some 46, none, .bi .eql (.t 7) (.c (.int .i64 36))⟩, ⟨some 45, none, .mv (.t 46)⟩]
def q_ref11_apply_50 : AC := .seq q_ref11_apply_49 q_ref11_apply_48
def q_ref11_apply_51 : AC := .cond (.t 39) q_ref11_apply_20 q_ref11_apply_50
def q_ref11_apply_52 : AC := .reg [⟨some 40, none, .bi .eql (.t 7) (.c (.int .i64 35))⟩, ⟨some 39, none, .mv (.t 40)⟩]
def q_ref11_apply_53 : AC := .seq q_ref11_apply_52 q_ref11_apply_51
def q_ref11_apply_54 : AC := .cond (.t 34) q_ref11_apply_18 q_ref11_apply_53
def q_ref11_apply_55 : AC := .reg [⟨some 35, none, .bi .eql (.t 7) (.c (.int .i64 34))⟩, ⟨some 34, none, .mv (.t 35)⟩]
def q_ref11_apply_56 : AC := .seq q_ref11_apply_55 q_ref11_apply_54
def q_ref11_apply_57 : AC := .cond (.t 29) q_ref11_apply_16 q_ref11_apply_56
def q_ref11_apply_58 : AC := .reg [⟨some 30, none, .bi .eql (.t 7) (.c (.int .i64 33))⟩, ⟨some 29, none, .mv (.t 30)⟩]
def q_ref11_apply_59 : AC := .seq q_ref11_apply_58 q_ref11_apply_57
def q_ref11_apply_60 : AC := .cond (.t 18) q_ref11_apply_14 q_ref11_apply_59
def q_ref11_apply_61 : AC := .reg [⟨some 19, none, .bi .eql (.t 7) (.c (.int .i64 32))⟩, ⟨some 18, none, .mv (.t 19)⟩]
def q_ref11_apply_62 : AC := .seq q_ref11_apply_61 q_ref11_apply_60
def q_ref11_apply_63 : AC := .cond (.t 13) q_ref11_apply_6 q_ref11_apply_62
def q_ref11_apply_64 : AC := .reg [⟨some 14, none, .bi .eql (.t 7) (.c (.int .i64 31))⟩, ⟨some 13, none, .mv (.t 14)⟩]
def q_ref11_apply_65 : AC := .seq q_ref11_apply_64 q_ref11_apply_63
def q_ref11_apply_66 : AC := .cond (.t 8) q_ref11_apply_4 q_ref11_apply_65
def q_ref11_apply_67 : AC := .reg [⟨some 9, none, .bi .eql (.t 7) (.c (.int .i64 30))⟩, ⟨some 8, none, .mv (.t 9)⟩]
def q_ref11_apply_68 : AC := .seq q_ref11_apply_67 q_ref11_apply_66
def q_ref11_apply_69 : AC := .block 0 q_ref11_apply_68
def q_ref11_apply_70 : AC := .reg [⟨some 7, none, .mv (.t 0)⟩]
def q_ref11_apply_71 : AC := .seq q_ref11_apply_70 q_ref11_apply_69
def q_ref11_apply_72 : AC := .seq q_ref11_apply_71 q_ref11_apply_2
def q_ref11_apply_73 : AC := .reg [⟨some 6, none, .mv (.c (.int .i64 0))⟩]
def q_ref11_apply_74 : AC := .seq q_ref11_apply_73 q_ref11_apply_72
def c_ref11_apply : FC := ⟨91, [6], q_ref11_apply_74⟩
theorem k_ref11_apply : okF Try.prog 59 c_ref11_apply = true := by decide +kernel
noncomputable def ref11_apply (op_0 : Int) (a_1 : Int) (b_2 : Int) : Option Int := (bif (decide (op_0 = 30)) then (some (IntKind.i64.wrap (a_1 * b_2))) else (bif (decide (op_0 = 31)) then ((ref11_quotient a_1 b_2).bind (fun (y1 : Int) => (some y1))) else (bif (decide (op_0 = 32)) then (bif (decide (b_2 = 0)) then (some 0) else ((ref11_quotient a_1 b_2).bind (fun (y2 : Int) => (some (IntKind.i64.wrap (a_1 - (IntKind.i64.wrap (b_2 * y2)))))))) else (bif (decide (op_0 = 33)) then (some (IntKind.i64.wrap (a_1 + b_2))) else (bif (decide (op_0 = 34)) then (some (IntKind.i64.wrap (a_1 - b_2))) else (bif (decide (op_0 = 35)) then ((ref11_truth ((decide (a_1 = b_2)))).bind (fun (y3 : Int) => (some y3))) else (bif (decide (op_0 = 36)) then ((ref11_truth ((!decide (a_1 = b_2)))).bind (fun (y4 : Int) => (some y4))) else (bif (decide (op_0 = 37)) then ((ref11_truth ((decide (a_1 < b_2)))).bind (fun (y5 : Int) => (some y5))) else (bif (decide (op_0 = 38)) then ((ref11_truth ((decide (a_1 ≤ b_2)))).bind (fun (y6 : Int) => (some y6))) else (bif (decide (op_0 = 39)) then ((ref11_truth ((decide (b_2 < a_1)))).bind (fun (y7 : Int) => (some y7))) else (bif (decide (op_0 = 40)) then ((ref11_truth ((decide (b_2 ≤ a_1)))).bind (fun (y8 : Int) => (some y8))) else (bif (decide (op_0 = 41)) then ((ref11_truth (((!decide (a_1 = 0)) && (!decide (b_2 = 0))))).bind (fun (y11 : Int) => (some y11))) else ((ref11_truth (((!decide (a_1 = 0)) || (!decide (b_2 = 0))))).bind (fun (y14 : Int) => (some y14)))))))))))))))
theorem ref11_apply.ok {op_0 : Int} {a_1 : Int} {b_2 : Int} {r : Int} (h : ref11_apply op_0 a_1 b_2 = some r) : PC Try.prog 59 [.int .i64 op_0, .int .i64 a_1, .int .i64 b_2] (.int .i64 r) := by
  refine PC_run k_ref11_apply rfl (L := [(0, .u (.int .i64 op_0)), (1, .u (.int .i64 a_1)), (2, .u (.int .i64 b_2))]) rfl ?_
  show Run Try.prog 91 (retQ [6] (.int .i64 r)) [] q_ref11_apply_74 _
  refine R_seq ?_
  refine R_reg ?_
  refine S_pure trivial (O_mv (d := .u (.int .i64 0)) (by kernel_rfl)) ?_
  refine Rs_nil ?_
  refine N_s ?_
  refine R_seq ?_
  refine R_seq ?_
  refine R_reg ?_
  refine S_pure trivial (O_mv (d := .u (.int .i64 op_0)) (by kernel_rfl)) ?_
  refine Rs_nil ?_
  refine N_s ?_
  refine R_block ?_
  refine R_seq ?_
  refine R_reg ?_
  refine S_pure trivial (O_eql (k := .i64) (a := op_0) (b := 30) (by kernel_rfl) (by kernel_rfl)) ?_
  refine S_pure trivial (O_mv (d := .u (.bool ((decide (op_0 = 30))))) (by kernel_rfl)) ?_
  refine Rs_nil ?_
  refine N_s ?_
  refine R_cond (c := (decide (op_0 = 30))) (by kernel_rfl) h (fun h => ?_) (fun h => ?_)
  · refine R_seq ?_
    refine R_reg ?_
    refine S_pure trivial (O_mv (d := .u (.int .i64 a_1)) (by kernel_rfl)) ?_
    refine S_pure trivial (O_mv (d := .u (.int .i64 b_2)) (by kernel_rfl)) ?_
    refine S_pure trivial (O_mul (k := .i64) (a := a_1) (b := b_2) (by kernel_rfl) (by kernel_rfl)) ?_
    refine S_pure trivial (O_mv (d := .u (.int .i64 ((IntKind.i64.wrap (a_1 * b_2))))) (by kernel_rfl)) ?_
    refine Rs_nil ?_
    refine N_s ?_
    obtain rfl := (Option.some.inj h)
    refine R_ret ?_
    exact Q_ret (x := .int .i64 ((IntKind.i64.wrap (a_1 * b_2)))) (by kernel_rfl) (.refl _)
  · refine R_seq ?_
    refine R_reg ?_
    refine S_pure trivial (O_eql (k := .i64) (a := op_0) (b := 31) (by kernel_rfl) (by kernel_rfl)) ?_
    refine S_pure trivial (O_mv (d := .u (.bool ((decide (op_0 = 31))))) (by kernel_rfl)) ?_
    refine Rs_nil ?_
    refine N_s ?_
    refine R_cond (c := (decide (op_0 = 31))) (by kernel_rfl) h (fun h => ?_) (fun h => ?_)
    · refine R_seq ?_
      refine R_reg ?_
      refine S_pure trivial (O_mv (d := .u (.int .i64 a_1)) (by kernel_rfl)) ?_
      refine S_pure trivial (O_mv (d := .u (.int .i64 b_2)) (by kernel_rfl)) ?_
      obtain ⟨y1, hy1, h⟩ := bindS h
      refine S_pure trivial (O_ca (us := [.int .i64 a_1, .int .i64 b_2]) (r := .int .i64 y1) (by kernel_rfl) (ref11_quotient.ok hy1)) ?_
      refine S_pure trivial (O_mv (d := .u (.int .i64 y1)) (by kernel_rfl)) ?_
      refine Rs_nil ?_
      refine N_s ?_
      obtain rfl := (Option.some.inj h)
      refine R_ret ?_
      exact Q_ret (x := .int .i64 y1) (by kernel_rfl) (.refl _)
    · refine R_seq ?_
      refine R_reg ?_
      refine S_pure trivial (O_eql (k := .i64) (a := op_0) (b := 32) (by kernel_rfl) (by kernel_rfl)) ?_
      refine S_pure trivial (O_mv (d := .u (.bool ((decide (op_0 = 32))))) (by kernel_rfl)) ?_
      refine Rs_nil ?_
      refine N_s ?_
      refine R_cond (c := (decide (op_0 = 32))) (by kernel_rfl) h (fun h => ?_) (fun h => ?_)
      · refine R_seq ?_
        refine R_seq ?_
        refine R_reg ?_
        refine S_pure trivial (O_mv (d := .u (.int .i64 b_2)) (by kernel_rfl)) ?_
        refine S_pure trivial (O_eql (k := .i64) (a := b_2) (b := 0) (by kernel_rfl) (by kernel_rfl)) ?_
        refine Rs_nil ?_
        refine N_s ?_
        refine R_cond (c := (decide (b_2 = 0))) (by kernel_rfl) h (fun h => ?_) (fun h => ?_)
        · refine R_seq ?_
          refine R_reg ?_
          refine S_pure trivial (O_mv (d := .u (.int .i64 0)) (by kernel_rfl)) ?_
          refine Rs_nil ?_
          refine N_s ?_
          obtain rfl := (Option.some.inj h)
          refine R_ret ?_
          exact Q_ret (x := .int .i64 0) (by kernel_rfl) (.refl _)
        · refine R_skip ?_
          refine N_s ?_
          refine R_seq ?_
          refine R_reg ?_
          refine S_pure trivial (O_mv (d := .u (.int .i64 a_1)) (by kernel_rfl)) ?_
          refine S_pure trivial (O_mv (d := .u (.int .i64 b_2)) (by kernel_rfl)) ?_
          refine S_pure trivial (O_mv (d := .u (.int .i64 a_1)) (by kernel_rfl)) ?_
          refine S_pure trivial (O_mv (d := .u (.int .i64 b_2)) (by kernel_rfl)) ?_
          obtain ⟨y2, hy2, h⟩ := bindS h
          refine S_pure trivial (O_ca (us := [.int .i64 a_1, .int .i64 b_2]) (r := .int .i64 y2) (by kernel_rfl) (ref11_quotient.ok hy2)) ?_
          refine S_pure trivial (O_mul (k := .i64) (a := b_2) (b := y2) (by kernel_rfl) (by kernel_rfl)) ?_
          refine S_pure trivial (O_sub (k := .i64) (a := a_1) (b := (IntKind.i64.wrap (b_2 * y2))) (by kernel_rfl) (by kernel_rfl)) ?_
          refine S_pure trivial (O_mv (d := .u (.int .i64 ((IntKind.i64.wrap (a_1 - (IntKind.i64.wrap (b_2 * y2))))))) (by kernel_rfl)) ?_
          refine Rs_nil ?_
          refine N_s ?_
          obtain rfl := (Option.some.inj h)
          refine R_ret ?_
          exact Q_ret (x := .int .i64 ((IntKind.i64.wrap (a_1 - (IntKind.i64.wrap (b_2 * y2)))))) (by kernel_rfl) (.refl _)
      · refine R_seq ?_
        refine R_reg ?_
        refine S_pure trivial (O_eql (k := .i64) (a := op_0) (b := 33) (by kernel_rfl) (by kernel_rfl)) ?_
        refine S_pure trivial (O_mv (d := .u (.bool ((decide (op_0 = 33))))) (by kernel_rfl)) ?_
        refine Rs_nil ?_
        refine N_s ?_
        refine R_cond (c := (decide (op_0 = 33))) (by kernel_rfl) h (fun h => ?_) (fun h => ?_)
        · refine R_seq ?_
          refine R_reg ?_
          refine S_pure trivial (O_mv (d := .u (.int .i64 a_1)) (by kernel_rfl)) ?_
          refine S_pure trivial (O_mv (d := .u (.int .i64 b_2)) (by kernel_rfl)) ?_
          refine S_pure trivial (O_add (k := .i64) (a := a_1) (b := b_2) (by kernel_rfl) (by kernel_rfl)) ?_
          refine S_pure trivial (O_mv (d := .u (.int .i64 ((IntKind.i64.wrap (a_1 + b_2))))) (by kernel_rfl)) ?_
          refine Rs_nil ?_
          refine N_s ?_
          obtain rfl := (Option.some.inj h)
          refine R_ret ?_
          exact Q_ret (x := .int .i64 ((IntKind.i64.wrap (a_1 + b_2)))) (by kernel_rfl) (.refl _)
        · refine R_seq ?_
          refine R_reg ?_
          refine S_pure trivial (O_eql (k := .i64) (a := op_0) (b := 34) (by kernel_rfl) (by kernel_rfl)) ?_
          refine S_pure trivial (O_mv (d := .u (.bool ((decide (op_0 = 34))))) (by kernel_rfl)) ?_
          refine Rs_nil ?_
          refine N_s ?_
          refine R_cond (c := (decide (op_0 = 34))) (by kernel_rfl) h (fun h => ?_) (fun h => ?_)
          · refine R_seq ?_
            refine R_reg ?_
            refine S_pure trivial (O_mv (d := .u (.int .i64 a_1)) (by kernel_rfl)) ?_
            refine S_pure trivial (O_mv (d := .u (.int .i64 b_2)) (by kernel_rfl)) ?_
            refine S_pure trivial (O_sub (k := .i64) (a := a_1) (b := b_2) (by kernel_rfl) (by kernel_rfl)) ?_
            refine S_pure trivial (O_mv (d := .u (.int .i64 ((IntKind.i64.wrap (a_1 - b_2))))) (by kernel_rfl)) ?_
            refine Rs_nil ?_
            refine N_s ?_
            obtain rfl := (Option.some.inj h)
            refine R_ret ?_
            exact Q_ret (x := .int .i64 ((IntKind.i64.wrap (a_1 - b_2)))) (by kernel_rfl) (.refl _)
          · refine R_seq ?_
            refine R_reg ?_
            refine S_pure trivial (O_eql (k := .i64) (a := op_0) (b := 35) (by kernel_rfl) (by kernel_rfl)) ?_
            refine S_pure trivial (O_mv (d := .u (.bool ((decide (op_0 = 35))))) (by kernel_rfl)) ?_
            refine Rs_nil ?_
            refine N_s ?_
            refine R_cond (c := (decide (op_0 = 35))) (by kernel_rfl) h (fun h => ?_) (fun h => ?_)
            · refine R_seq ?_
              refine R_reg ?_
              refine S_pure trivial (O_mv (d := .u (.int .i64 a_1)) (by kernel_rfl)) ?_
              refine S_pure trivial (O_mv (d := .u (.int .i64 b_2)) (by kernel_rfl)) ?_
              refine S_pure trivial (O_eql (k := .i64) (a := a_1) (b := b_2) (by kernel_rfl) (by kernel_rfl)) ?_
              obtain ⟨y3, hy3, h⟩ := bindS h
              refine S_pure trivial (O_ca (us := [.bool ((decide (a_1 = b_2)))]) (r := .int .i64 y3) (by kernel_rfl) (ref11_truth.ok hy3)) ?_
              refine S_pure trivial (O_mv (d := .u (.int .i64 y3)) (by kernel_rfl)) ?_
              refine Rs_nil ?_
              refine N_s ?_
              obtain rfl := (Option.some.inj h)
              refine R_ret ?_
              exact Q_ret (x := .int .i64 y3) (by kernel_rfl) (.refl _)
            · refine R_seq ?_
              refine R_reg ?_
              refine S_pure trivial (O_eql (k := .i64) (a := op_0) (b := 36) (by kernel_rfl) (by kernel_rfl)) ?_
              refine S_pure trivial (O_mv (d := .u (.bool ((decide (op_0 = 36))))) (by kernel_rfl)) ?_
              refine Rs_nil ?_
              refine N_s ?_
              refine R_cond (c := (decide (op_0 = 36))) (by kernel_rfl) h (fun h => ?_) (fun h => ?_)
              · refine R_seq ?_
                refine R_reg ?_
                refine S_pure trivial (O_mv (d := .u (.int .i64 a_1)) (by kernel_rfl)) ?_
                refine S_pure trivial (O_mv (d := .u (.int .i64 b_2)) (by kernel_rfl)) ?_
                refine S_pure trivial (O_neq (k := .i64) (a := a_1) (b := b_2) (by kernel_rfl) (by kernel_rfl)) ?_
                obtain ⟨y4, hy4, h⟩ := bindS h
                refine S_pure trivial (O_ca (us := [.bool ((!decide (a_1 = b_2)))]) (r := .int .i64 y4) (by kernel_rfl) (ref11_truth.ok hy4)) ?_
                refine S_pure trivial (O_mv (d := .u (.int .i64 y4)) (by kernel_rfl)) ?_
                refine Rs_nil ?_
                refine N_s ?_
                obtain rfl := (Option.some.inj h)
                refine R_ret ?_
                exact Q_ret (x := .int .i64 y4) (by kernel_rfl) (.refl _)
              · refine R_seq ?_
                refine R_reg ?_
                refine S_pure trivial (O_eql (k := .i64) (a := op_0) (b := 37) (by kernel_rfl) (by kernel_rfl)) ?_
                refine S_pure trivial (O_mv (d := .u (.bool ((decide (op_0 = 37))))) (by kernel_rfl)) ?_
                refine Rs_nil ?_
                refine N_s ?_
                refine R_cond (c := (decide (op_0 = 37))) (by kernel_rfl) h (fun h => ?_) (fun h => ?_)
                · refine R_seq ?_
                  refine R_reg ?_
                  refine S_pure trivial (O_mv (d := .u (.int .i64 a_1)) (by kernel_rfl)) ?_
                  refine S_pure trivial (O_mv (d := .u (.int .i64 b_2)) (by kernel_rfl)) ?_
                  refine S_pure trivial (O_lss (k := .i64) (a := a_1) (b := b_2) (by kernel_rfl) (by kernel_rfl)) ?_
                  obtain ⟨y5, hy5, h⟩ := bindS h
                  refine S_pure trivial (O_ca (us := [.bool ((decide (a_1 < b_2)))]) (r := .int .i64 y5) (by kernel_rfl) (ref11_truth.ok hy5)) ?_
                  refine S_pure trivial (O_mv (d := .u (.int .i64 y5)) (by kernel_rfl)) ?_
                  refine Rs_nil ?_
                  refine N_s ?_
                  obtain rfl := (Option.some.inj h)
                  refine R_ret ?_
                  exact Q_ret (x := .int .i64 y5) (by kernel_rfl) (.refl _)
                · refine R_seq ?_
                  refine R_reg ?_
                  refine S_pure trivial (O_eql (k := .i64) (a := op_0) (b := 38) (by kernel_rfl) (by kernel_rfl)) ?_
                  refine S_pure trivial (O_mv (d := .u (.bool ((decide (op_0 = 38))))) (by kernel_rfl)) ?_
                  refine Rs_nil ?_
                  refine N_s ?_
                  refine R_cond (c := (decide (op_0 = 38))) (by kernel_rfl) h (fun h => ?_) (fun h => ?_)
                  · refine R_seq ?_
                    refine R_reg ?_
                    refine S_pure trivial (O_mv (d := .u (.int .i64 a_1)) (by kernel_rfl)) ?_
                    refine S_pure trivial (O_mv (d := .u (.int .i64 b_2)) (by kernel_rfl)) ?_
                    refine S_pure trivial (O_leq (k := .i64) (a := a_1) (b := b_2) (by kernel_rfl) (by kernel_rfl)) ?_
                    obtain ⟨y6, hy6, h⟩ := bindS h
                    refine S_pure trivial (O_ca (us := [.bool ((decide (a_1 ≤ b_2)))]) (r := .int .i64 y6) (by kernel_rfl) (ref11_truth.ok hy6)) ?_
                    refine S_pure trivial (O_mv (d := .u (.int .i64 y6)) (by kernel_rfl)) ?_
                    refine Rs_nil ?_
                    refine N_s ?_
                    obtain rfl := (Option.some.inj h)
                    refine R_ret ?_
                    exact Q_ret (x := .int .i64 y6) (by kernel_rfl) (.refl _)
                  · refine R_seq ?_
                    refine R_reg ?_
                    refine S_pure trivial (O_eql (k := .i64) (a := op_0) (b := 39) (by kernel_rfl) (by kernel_rfl)) ?_
                    refine S_pure trivial (O_mv (d := .u (.bool ((decide (op_0 = 39))))) (by kernel_rfl)) ?_
                    refine Rs_nil ?_
                    refine N_s ?_
                    refine R_cond (c := (decide (op_0 = 39))) (by kernel_rfl) h (fun h => ?_) (fun h => ?_)
                    · refine R_seq ?_
                      refine R_reg ?_
                      refine S_pure trivial (O_mv (d := .u (.int .i64 a_1)) (by kernel_rfl)) ?_
                      refine S_pure trivial (O_mv (d := .u (.int .i64 b_2)) (by kernel_rfl)) ?_
                      refine S_pure trivial (O_gtr (k := .i64) (a := a_1) (b := b_2) (by kernel_rfl) (by kernel_rfl)) ?_
                      obtain ⟨y7, hy7, h⟩ := bindS h
                      refine S_pure trivial (O_ca (us := [.bool ((decide (b_2 < a_1)))]) (r := .int .i64 y7) (by kernel_rfl) (ref11_truth.ok hy7)) ?_
                      refine S_pure trivial (O_mv (d := .u (.int .i64 y7)) (by kernel_rfl)) ?_
                      refine Rs_nil ?_
                      refine N_s ?_
                      obtain rfl := (Option.some.inj h)
                      refine R_ret ?_
                      exact Q_ret (x := .int .i64 y7) (by kernel_rfl) (.refl _)
                    · refine R_seq ?_
                      refine R_reg ?_
                      refine S_pure trivial (O_eql (k := .i64) (a := op_0) (b := 40) (by kernel_rfl) (by kernel_rfl)) ?_
                      refine S_pure trivial (O_mv (d := .u (.bool ((decide (op_0 = 40))))) (by kernel_rfl)) ?_
                      refine Rs_nil ?_
                      refine N_s ?_
                      refine R_cond (c := (decide (op_0 = 40))) (by kernel_rfl) h (fun h => ?_) (fun h => ?_)
                      · refine R_seq ?_
                        refine R_reg ?_
                        refine S_pure trivial (O_mv (d := .u (.int .i64 a_1)) (by kernel_rfl)) ?_
                        refine S_pure trivial (O_mv (d := .u (.int .i64 b_2)) (by kernel_rfl)) ?_
                        refine S_pure trivial (O_geq (k := .i64) (a := a_1) (b := b_2) (by kernel_rfl) (by kernel_rfl)) ?_
                        obtain ⟨y8, hy8, h⟩ := bindS h
                        refine S_pure trivial (O_ca (us := [.bool ((decide (b_2 ≤ a_1)))]) (r := .int .i64 y8) (by kernel_rfl) (ref11_truth.ok hy8)) ?_
                        refine S_pure trivial (O_mv (d := .u (.int .i64 y8)) (by kernel_rfl)) ?_
                        refine Rs_nil ?_
                        refine N_s ?_
                        obtain rfl := (Option.some.inj h)
                        refine R_ret ?_
                        exact Q_ret (x := .int .i64 y8) (by kernel_rfl) (.refl _)
                      · refine R_seq ?_
                        refine R_reg ?_
                        refine S_pure trivial (O_eql (k := .i64) (a := op_0) (b := 41) (by kernel_rfl) (by kernel_rfl)) ?_
                        refine S_pure trivial (O_mv (d := .u (.bool ((decide (op_0 = 41))))) (by kernel_rfl)) ?_
                        refine Rs_nil ?_
                        refine N_s ?_
                        refine R_cond (c := (decide (op_0 = 41))) (by kernel_rfl) h (fun h => ?_) (fun h => ?_)
                        · refine R_seq ?_
                          refine R_reg ?_
                          refine S_pure trivial (O_mv (d := .u (.int .i64 a_1)) (by kernel_rfl)) ?_
                          refine S_pure trivial (O_neq (k := .i64) (a := a_1) (b := 0) (by kernel_rfl) (by kernel_rfl)) ?_
                          refine S_pure trivial (O_mv (d := .u (.bool ((!decide (a_1 = 0))))) (by kernel_rfl)) ?_
                          have K9 : ∀ v10 : Bool, v10 = ((!decide (a_1 = 0)) && (!decide (b_2 = 0))) → Rs Try.prog 91 (retQ [6] (.int .i64 r)) [.s .ret, .b 0, .s q_ref11_apply_2] [⟨some 83, none, .ca 58 [.t 82]⟩, ⟨some 6, none, .mv (.t 83)⟩] (mkSt [(82, .u (.bool v10))] [] 0) := by
                            intro v10 e; subst e
                            obtain ⟨y11, hy11, h⟩ := bindS h
                            refine S_pure trivial (O_ca (us := [.bool (((!decide (a_1 = 0)) && (!decide (b_2 = 0))))]) (r := .int .i64 y11) (by kernel_rfl) (ref11_truth.ok hy11)) ?_
                            refine S_pure trivial (O_mv (d := .u (.int .i64 y11)) (by kernel_rfl)) ?_
                            refine Rs_nil ?_
                            refine N_s ?_
                            obtain rfl := (Option.some.inj h)
                            refine R_ret ?_
                            exact Q_ret (x := .int .i64 y11) (by kernel_rfl) (.refl _)
                          refine S_case0 (t := 79) (c := (!decide (a_1 = 0))) (by kernel_rfl) (fun hc => ?_) (fun hc => ?_)
                          · refine S_pure (by show _ = _; kernel_rfl) (O_mv (d := .u (.int .i64 b_2)) (by kernel_rfl)) ?_
                            refine S_pure (by show _ = _; kernel_rfl) (O_neq (k := .i64) (a := b_2) (b := 0) (by kernel_rfl) (by kernel_rfl)) ?_
                            refine S_pure trivial (O_pkt (d := .u (.bool ((!decide (b_2 = 0))))) (by kernel_rfl) (by kernel_rfl)) ?_
                            exact Rs_weak (W_to (by kernel_rfl) (by kernel_rfl) (by kernel_rfl)) (K9 _ (by rw [hc] <;> rfl))
                          · refine S_skip (b := false) (by kernel_rfl) rfl ?_
                            refine S_skip (b := false) (by kernel_rfl) rfl ?_
                            refine S_pure trivial (O_pkf (d := .u (.bool false)) (by kernel_rfl) (by kernel_rfl)) ?_
                            exact Rs_weak (W_to (by kernel_rfl) (by kernel_rfl) (by kernel_rfl)) (K9 _ (by rw [hc] <;> rfl))
                        · refine R_skip ?_
                          refine N_b ?_
                          refine N_s ?_
                          refine R_seq ?_
                          refine R_reg ?_
                          refine S_pure trivial (O_mv (d := .u (.int .i64 a_1)) (by kernel_rfl)) ?_
                          refine S_pure trivial (O_neq (k := .i64) (a := a_1) (b := 0) (by kernel_rfl) (by kernel_rfl)) ?_
                          refine S_pure trivial (O_mv (d := .u (.bool ((!decide (a_1 = 0))))) (by kernel_rfl)) ?_
                          have K12 : ∀ v13 : Bool, v13 = ((!decide (a_1 = 0)) || (!decide (b_2 = 0))) → Rs Try.prog 91 (retQ [6] (.int .i64 r)) [.s .ret] [⟨some 90, none, .ca 58 [.t 89]⟩, ⟨some 6, none, .mv (.t 90)⟩] (mkSt [(89, .u (.bool v13))] [] 0) := by
                            intro v13 e; subst e
                            obtain ⟨y14, hy14, h⟩ := bindS h
                            refine S_pure trivial (O_ca (us := [.bool (((!decide (a_1 = 0)) || (!decide (b_2 = 0))))]) (r := .int .i64 y14) (by kernel_rfl) (ref11_truth.ok hy14)) ?_
                            refine S_pure trivial (O_mv (d := .u (.int .i64 y14)) (by kernel_rfl)) ?_
                            refine Rs_nil ?_
                            refine N_s ?_
                            obtain rfl := (Option.some.inj h)
                            refine R_ret ?_
                            exact Q_ret (x := .int .i64 y14) (by kernel_rfl) (.refl _)
                          refine S_case0 (t := 86) (c := (!decide (a_1 = 0))) (by kernel_rfl) (fun hc => ?_) (fun hc => ?_)
                          · refine S_skip (b := true) (by kernel_rfl) rfl ?_
                            refine S_skip (b := true) (by kernel_rfl) rfl ?_
                            refine S_pure trivial (O_pkt (d := .u (.bool true)) (by kernel_rfl) (by kernel_rfl)) ?_
                            exact Rs_weak (W_to (by kernel_rfl) (by kernel_rfl) (by kernel_rfl)) (K12 _ (by rw [hc] <;> rfl))
                          · refine S_pure (by show _ = _; kernel_rfl) (O_mv (d := .u (.int .i64 b_2)) (by kernel_rfl)) ?_
                            refine S_pure (by show _ = _; kernel_rfl) (O_neq (k := .i64) (a := b_2) (b := 0) (by kernel_rfl) (by kernel_rfl)) ?_
                            refine S_pure trivial (O_pkf (d := .u (.bool ((!decide (b_2 = 0))))) (by kernel_rfl) (by kernel_rfl)) ?_
                            exact Rs_weak (W_to (by kernel_rfl) (by kernel_rfl) (by kernel_rfl)) (K12 _ (by rw [hc] <;> rfl))

/-! ### selfstab/selfstabref11.Binary -/
def q_ref11_Binary_1 : AC := .reg [⟨some 6, none, .mv (.c (.int .i64 0))⟩, ⟨some 7, none, .mv (.c (.int .i64 2))⟩]
def q_ref11_Binary_2 : AC := .seq q_ref11_Binary_1 .ret
def q_ref11_Binary_3 : AC := .cond (.t 23) q_ref11_Binary_2 .skip
def q_ref11_Binary_4 : AC := .reg [⟨some 24, none, .mv (.t 0)⟩, ⟨some 25, none, .mv (.t 1)⟩, ⟨some 26, none, .mv (.t 2)⟩, ⟨some 27, none, .ca 59 [.t 24, .t 25, .t 26]⟩, ⟨some 28, none, .ca 21 [.t 27]⟩, ⟨some 6, none, .mv (.t 28)⟩, ⟨some 7, none, .mv (.c (.int .i64 0))⟩]
def q_ref11_Binary_5 : AC := .seq q_ref11_Binary_4 .ret
def q_ref11_Binary_6 : AC := .reg [⟨some 8, none, .mv (.t 0)⟩, ⟨some 9, none, .bi .lss (.t 8) (.c (.int .i64 30))⟩, ⟨some 10, none, .mv (.t 9)⟩, ⟨some 11, some (10, false), .mv (.t 0)⟩, ⟨some 12, some (10, false), .bi .gtr (.t 11) (.c (.int .i64 42))⟩, ⟨some 13, none, .pk (.t 10) (.c (.bool true)) (.t 12)⟩, ⟨some 14, none, .mv (.t 13)⟩, ⟨some 15, some (14, false), .mv (.t 1)⟩, ⟨some 16, some (14, false), .ca 37 [.t 15]⟩, ⟨some 17, some (14, false), .un .not (.t 16)⟩, ⟨some 18, none, .pk (.t 14) (.c (.bool true)) (.t 17)⟩, ⟨some 19, none, .mv (.t 18)⟩, ⟨some 20, some (19, false), .mv (.t 2)⟩, ⟨some 21, some (19, false), .ca 37 [.t 20]⟩, ⟨some 22, some (19, false), .un .not (.t 21)⟩, ⟨some 23, none, .pk (.t 19) (.c (.bool true)) (.t 22)⟩]
def q_ref11_Binary_7 : AC := .seq q_ref11_Binary_6 q_ref11_Binary_3
def q_ref11_Binary_8 : AC := .seq q_ref11_Binary_7 q_ref11_Binary_5
def q_ref11_Binary_9 : AC := .reg [⟨some 6, none, .mv (.c (.int .i64 0))⟩, ⟨some 7, none, .mv (.c (.int .i64 0))⟩]
def q_ref11_Binary_10 : AC := .seq q_ref11_Binary_9 q_ref11_Binary_8
def c_ref11_Binary : FC := ⟨29, [6, 7], q_ref11_Binary_10⟩
theorem k_ref11_Binary : okF Try.prog 36 c_ref11_Binary = true := by decide +kernel
noncomputable def ref11_Binary (op_0 : Int) (a_1 : Int) (b_2 : Int) : Option (Int × Int) := ((bif ((decide (op_0 < 30)) || (decide (42 < op_0))) then (some true) else ((ref11_Number a_1).bind (fun (y12 : Bool) => (some (!y12))))).bind (fun (o5 : Bool) => ((bif o5 then (some true) else ((ref11_Number b_2).bind (fun (y11 : Bool) => (some (!y11))))).bind (fun (o8 : Bool) => (bif o8 then (some (0, 2)) else ((ref11_apply op_0 a_1 b_2).bind (fun (y9 : Int) => ((ref11_Saturate y9).bind (fun (y10 : Int) => (some (y10, 0)))))))))))
theorem ref11_Binary.ok {op_0 : Int} {a_1 : Int} {b_2 : Int} {r : Int × Int} (h : ref11_Binary op_0 a_1 b_2 = some r) : PC Try.prog 36 [.int .i64 op_0, .int .i64 a_1, .int .i64 b_2] (.tup [.int .i64 r.1, .int .i64 r.2]) := by
  refine PC_run k_ref11_Binary rfl (L := [(0, .u (.int .i64 op_0)), (1, .u (.int .i64 a_1)), (2, .u (.int .i64 b_2))]) rfl ?_
  show Run Try.prog 29 (retQ [6, 7] (.tup [.int .i64 r.1, .int .i64 r.2])) [] q_ref11_Binary_10 _
  refine R_seq ?_
  refine R_reg ?_
  refine S_pure trivial (O_mv (d := .u (.int .i64 0)) (by kernel_rfl)) ?_
  refine S_pure trivial (O_mv (d := .u (.int .i64 0)) (by kernel_rfl)) ?_
  refine Rs_nil ?_
  refine N_s ?_
  refine R_seq ?_
  refine R_seq ?_
  refine R_reg ?_
  refine S_pure trivial (O_mv (d := .u (.int .i64 op_0)) (by kernel_rfl)) ?_
  refine S_pure trivial (O_lss (k := .i64) (a := op_0) (b := 30) (by kernel_rfl) (by kernel_rfl)) ?_
  refine S_pure trivial (O_mv (d := .u (.bool ((decide (op_0 < 30))))) (by kernel_rfl)) ?_
  have K1 : ∀ v2 : Bool, v2 = ((decide (op_0 < 30)) || (decide (42 < op_0))) → Rs Try.prog 29 (retQ [6, 7] (.tup [.int .i64 r.1, .int .i64 r.2])) [.s q_ref11_Binary_3, .s q_ref11_Binary_5] [⟨some 14, none, .mv (.t 13)⟩, ⟨some 15, some (14, false), .mv (.t 1)⟩, ⟨some 16, some (14, false), .ca 37 [.t 15]⟩, ⟨some 17, some (14, false), .un .not (.t 16)⟩, ⟨some 18, none, .pk (.t 14) (.c (.bool true)) (.t 17)⟩, ⟨some 19, none, .mv (.t 18)⟩, ⟨some 20, some (19, false), .mv (.t 2)⟩, ⟨some 21, some (19, false), .ca 37 [.t 20]⟩, ⟨some 22, some (19, false), .un .not (.t 21)⟩, ⟨some 23, none, .pk (.t 19) (.c (.bool true)) (.t 22)⟩] (mkSt [(0, .u (.int .i64 op_0)), (1, .u (.int .i64 a_1)), (2, .u (.int .i64 b_2)), (13, .u (.bool v2))] [] 0) := by
    intro v2 e; subst e
    refine S_pure trivial (O_mv (d := .u (.bool (((decide (op_0 < 30)) || (decide (42 < op_0)))))) (by kernel_rfl)) ?_
    obtain ⟨o5, hE, h⟩ := bindS h
    have K3 : Rs Try.prog 29 (retQ [6, 7] (.tup [.int .i64 r.1, .int .i64 r.2])) [.s q_ref11_Binary_3, .s q_ref11_Binary_5] [⟨some 19, none, .mv (.t 18)⟩, ⟨some 20, some (19, false), .mv (.t 2)⟩, ⟨some 21, some (19, false), .ca 37 [.t 20]⟩, ⟨some 22, some (19, false), .un .not (.t 21)⟩, ⟨some 23, none, .pk (.t 19) (.c (.bool true)) (.t 22)⟩] (mkSt [(0, .u (.int .i64 op_0)), (1, .u (.int .i64 a_1)), (2, .u (.int .i64 b_2)), (18, .u (.bool o5))] [] 0) := by
      refine S_pure trivial (O_mv (d := .u (.bool o5)) (by kernel_rfl)) ?_
      obtain ⟨o8, hE, h⟩ := bindS h
      have K6 : Rs Try.prog 29 (retQ [6, 7] (.tup [.int .i64 r.1, .int .i64 r.2])) [.s q_ref11_Binary_3, .s q_ref11_Binary_5] [] (mkSt [(0, .u (.int .i64 op_0)), (1, .u (.int .i64 a_1)), (2, .u (.int .i64 b_2)), (23, .u (.bool o8))] [] 0) := by
        refine Rs_nil ?_
        refine N_s ?_
        refine R_cond (c := o8) (by kernel_rfl) h (fun h => ?_) (fun h => ?_)
        · refine R_seq ?_
          refine R_reg ?_
          refine S_pure trivial (O_mv (d := .u (.int .i64 0)) (by kernel_rfl)) ?_
          refine S_pure trivial (O_mv (d := .u (.int .i64 2)) (by kernel_rfl)) ?_
          refine Rs_nil ?_
          refine N_s ?_
          obtain rfl := (Option.some.inj h)
          refine R_ret ?_
          exact Q_ret (x := .tup [.int .i64 0, .int .i64 2]) (by kernel_rfl) (.refl _)
        · refine R_skip ?_
          refine N_s ?_
          refine R_seq ?_
          refine R_reg ?_
          refine S_pure trivial (O_mv (d := .u (.int .i64 op_0)) (by kernel_rfl)) ?_
          refine S_pure trivial (O_mv (d := .u (.int .i64 a_1)) (by kernel_rfl)) ?_
          refine S_pure trivial (O_mv (d := .u (.int .i64 b_2)) (by kernel_rfl)) ?_
          obtain ⟨y9, hy9, h⟩ := bindS h
          refine S_pure trivial (O_ca (us := [.int .i64 op_0, .int .i64 a_1, .int .i64 b_2]) (r := .int .i64 y9) (by kernel_rfl) (ref11_apply.ok hy9)) ?_
          obtain ⟨y10, hy10, h⟩ := bindS h
          refine S_pure trivial (O_ca (us := [.int .i64 y9]) (r := .int .i64 y10) (by kernel_rfl) (ref11_Saturate.ok hy10)) ?_
          refine S_pure trivial (O_mv (d := .u (.int .i64 y10)) (by kernel_rfl)) ?_
          refine S_pure trivial (O_mv (d := .u (.int .i64 0)) (by kernel_rfl)) ?_
          refine Rs_nil ?_
          refine N_s ?_
          obtain rfl := (Option.some.inj h)
          refine R_ret ?_
          exact Q_ret (x := .tup [.int .i64 y10, .int .i64 0]) (by kernel_rfl) (.refl _)
      replace h := hE
      refine S_case (t := 19) (c := o5) (by kernel_rfl) h (fun hc h => ?_) (fun hc h => ?_)
      · refine S_skip (b := true) (by kernel_rfl) rfl ?_
        refine S_skip (b := true) (by kernel_rfl) rfl ?_
        refine S_skip (b := true) (by kernel_rfl) rfl ?_
        refine S_pure trivial (O_pkt (d := .u (.bool true)) (by kernel_rfl) (by kernel_rfl)) ?_
        obtain rfl := Option.some.inj h
        exact Rs_weak (W_to (by kernel_rfl) (by kernel_rfl) (by kernel_rfl)) K6
      · refine S_pure (by show _ = _; kernel_rfl) (O_mv (d := .u (.int .i64 b_2)) (by kernel_rfl)) ?_
        obtain ⟨y11, hy11, h⟩ := bindS h
        refine S_pure (by show _ = _; kernel_rfl) (O_ca (us := [.int .i64 b_2]) (r := .bool y11) (by kernel_rfl) (ref11_Number.ok hy11)) ?_
        refine S_pure (by show _ = _; kernel_rfl) (O_not (b := y11) (by kernel_rfl)) ?_
        refine S_pure trivial (O_pkf (d := .u (.bool ((!y11)))) (by kernel_rfl) (by kernel_rfl)) ?_
        obtain rfl := Option.some.inj h
        exact Rs_weak (W_to (by kernel_rfl) (by kernel_rfl) (by kernel_rfl)) K6
    replace h := hE
    refine S_case (t := 14) (c := ((decide (op_0 < 30)) || (decide (42 < op_0)))) (by kernel_rfl) h (fun hc h => ?_) (fun hc h => ?_)
    · refine S_skip (b := true) (by kernel_rfl) rfl ?_
      refine S_skip (b := true) (by kernel_rfl) rfl ?_
      refine S_skip (b := true) (by kernel_rfl) rfl ?_
      refine S_pure trivial (O_pkt (d := .u (.bool true)) (by kernel_rfl) (by kernel_rfl)) ?_
      obtain rfl := Option.some.inj h
      exact Rs_weak (W_to (by kernel_rfl) (by kernel_rfl) (by kernel_rfl)) K3
    · refine S_pure (by show _ = _; kernel_rfl) (O_mv (d := .u (.int .i64 a_1)) (by kernel_rfl)) ?_
      obtain ⟨y12, hy12, h⟩ := bindS h
      refine S_pure (by show _ = _; kernel_rfl) (O_ca (us := [.int .i64 a_1]) (r := .bool y12) (by kernel_rfl) (ref11_Number.ok hy12)) ?_
      refine S_pure (by show _ = _; kernel_rfl) (O_not (b := y12) (by kernel_rfl)) ?_
      refine S_pure trivial (O_pkf (d := .u (.bool ((!y12)))) (by kernel_rfl) (by kernel_rfl)) ?_
      obtain rfl := Option.some.inj h
      exact Rs_weak (W_to (by kernel_rfl) (by kernel_rfl) (by kernel_rfl)) K3
  refine S_case0 (t := 10) (c := (decide (op_0 < 30))) (by kernel_rfl) (fun hc => ?_) (fun hc => ?_)
  · refine S_skip (b := true) (by kernel_rfl) rfl ?_
    refine S_skip (b := true) (by kernel_rfl) rfl ?_
    refine S_pure trivial (O_pkt (d := .u (.bool true)) (by kernel_rfl) (by kernel_rfl)) ?_
    exact Rs_weak (W_to (by kernel_rfl) (by kernel_rfl) (by kernel_rfl)) (K1 _ (by rw [hc] <;> rfl))
  · refine S_pure (by show _ = _; kernel_rfl) (O_mv (d := .u (.int .i64 op_0)) (by kernel_rfl)) ?_
    refine S_pure (by show _ = _; kernel_rfl) (O_gtr (k := .i64) (a := op_0) (b := 42) (by kernel_rfl) (by kernel_rfl)) ?_
    refine S_pure trivial (O_pkf (d := .u (.bool ((decide (42 < op_0))))) (by kernel_rfl) (by kernel_rfl)) ?_
    exact Rs_weak (W_to (by kernel_rfl) (by kernel_rfl) (by kernel_rfl)) (K1 _ (by rw [hc] <;> rfl))

/-! ### selfstab/selfstabref11.Unary -/
def q_ref11_Unary_1 : AC := .reg [⟨some 4, none, .mv (.c (.int .i64 0))⟩, ⟨some 5, none, .mv (.c (.int .i64 2))⟩]
def q_ref11_Unary_2 : AC := .seq q_ref11_Unary_1 .ret
def q_ref11_Unary_3 : AC := .cond (.t 16) q_ref11_Unary_2 .skip
def q_ref11_Unary_4 : AC := .reg [⟨some 21, none, .mv (.t 1)⟩, ⟨some 22, none, .bi .eql (.t 21) (.c (.int .i64 0))⟩, ⟨some 23, none, .ca 58 [.t 22]⟩, ⟨some 4, none, .mv (.t 23)⟩, ⟨some 5, none, .mv (.c (.int .i64 0))⟩]
def q_ref11_Unary_5 : AC := .seq q_ref11_Unary_4 .ret
def q_ref11_Unary_6 : AC := .reg [⟨some 19, none, .mv (.t 1)⟩, ⟨some 20, none, .un .neg (.t 19)⟩, ⟨some 4, none, .mv (.t 20)⟩, ⟨some 5, none, .mv (.c (.int .i64 0))⟩]
def q_ref11_Unary_7 : AC := .seq q_ref11_Unary_6 .ret
def q_ref11_Unary_8 : AC := .cond (.t 18) q_ref11_Unary_7 .skip
def q_ref11_Unary_9 : AC := .reg [⟨some 17, none, .mv (.t 0)⟩, ⟨some 18, none, .bi .eql (.t 17) (.c (.int .i64 18))⟩]
def q_ref11_Unary_10 : AC := .seq q_ref11_Unary_9 q_ref11_Unary_8
def q_ref11_Unary_11 : AC := .seq q_ref11_Unary_10 q_ref11_Unary_5
def q_ref11_Unary_12 : AC := .reg [⟨some 6, none, .mv (.t 0)⟩, ⟨some 7, none, .bi .neq (.t 6) (.c (.int .i64 18))⟩, ⟨some 8, none, .mv (.t 7)⟩, ⟨some 9, some (8, true), .mv (.t 0)⟩, ⟨some 10, some (8, true), .bi .neq (.t 9) (.c (.int .i64 19))⟩, ⟨some 11, none, .pk (.t 8) (.t 10) (.c (.bool false))⟩, ⟨some 12, none, .mv (.t 11)⟩, ⟨some 13, some (12, false), .mv (.t 1)⟩, ⟨some 14, some (12, false), .ca 37 [.t 13]⟩, ⟨some 15, some (12, false), .un .not (.t 14)⟩, ⟨some 16, none, .pk (.t 12) (.c (.bool true)) (.t 15)⟩]
def q_ref11_Unary_13 : AC := .seq q_ref11_Unary_12 q_ref11_Unary_3
def q_ref11_Unary_14 : AC := .seq q_ref11_Unary_13 q_ref11_Unary_11
def q_ref11_Unary_15 : AC := .reg [⟨some 4, none, .mv (.c (.int .i64 0))⟩, ⟨some 5, none, .mv (.c (.int .i64 0))⟩]
def q_ref11_Unary_16 : AC := .seq q_ref11_Unary_15 q_ref11_Unary_14
def c_ref11_Unary : FC := ⟨24, [4, 5], q_ref11_Unary_16⟩
theorem k_ref11_Unary : okF Try.prog 35 c_ref11_Unary = true := by decide +kernel
noncomputable def ref11_Unary (op_0 : Int) (a_1 : Int) : Option (Int × Int) := ((bif ((!decide (op_0 = 18)) && (!decide (op_0 = 19))) then (some true) else ((ref11_Number a_1).bind (fun (y7 : Bool) => (some (!y7))))).bind (fun (o5 : Bool) => (bif o5 then (some (0, 2)) else (bif (decide (op_0 = 18)) then (some ((IntKind.i64.wrap (0 - a_1)), 0)) else ((ref11_truth ((decide (a_1 = 0)))).bind (fun (y6 : Int) => (some (y6, 0))))))))
theorem ref11_Unary.ok {op_0 : Int} {a_1 : Int} {r : Int × Int} (h : ref11_Unary op_0 a_1 = some r) : PC Try.prog 35 [.int .i64 op_0, .int .i64 a_1] (.tup [.int .i64 r.1, .int .i64 r.2]) := by
  refine PC_run k_ref11_Unary rfl (L := [(0, .u (.int .i64 op_0)), (1, .u (.int .i64 a_1))]) rfl ?_
  show Run Try.prog 24 (retQ [4, 5] (.tup [.int .i64 r.1, .int .i64 r.2])) [] q_ref11_Unary_16 _
  refine R_seq ?_
  refine R_reg ?_
  refine S_pure trivial (O_mv (d := .u (.int .i64 0)) (by kernel_rfl)) ?_
  refine S_pure trivial (O_mv (d := .u (.int .i64 0)) (by kernel_rfl)) ?_
  refine Rs_nil ?_
  refine N_s ?_
  refine R_seq ?_
  refine R_seq ?_
  refine R_reg ?_
  refine S_pure trivial (O_mv (d := .u (.int .i64 op_0)) (by kernel_rfl)) ?_
  refine S_pure trivial (O_neq (k := .i64) (a := op_0) (b := 18) (by kernel_rfl) (by kernel_rfl)) ?_
  refine S_pure trivial (O_mv (d := .u (.bool ((!decide (op_0 = 18))))) (by kernel_rfl)) ?_
  have K1 : ∀ v2 : Bool, v2 = ((!decide (op_0 = 18)) && (!decide (op_0 = 19))) → Rs Try.prog 24 (retQ [4, 5] (.tup [.int .i64 r.1, .int .i64 r.2])) [.s q_ref11_Unary_3, .s q_ref11_Unary_11] [⟨some 12, none, .mv (.t 11)⟩, ⟨some 13, some (12, false), .mv (.t 1)⟩, ⟨some 14, some (12, false), .ca 37 [.t 13]⟩, ⟨some 15, some (12, false), .un .not (.t 14)⟩, ⟨some 16, none, .pk (.t 12) (.c (.bool true)) (.t 15)⟩] (mkSt [(0, .u (.int .i64 op_0)), (1, .u (.int .i64 a_1)), (11, .u (.bool v2))] [] 0) := by
    intro v2 e; subst e
    refine S_pure trivial (O_mv (d := .u (.bool (((!decide (op_0 = 18)) && (!decide (op_0 = 19)))))) (by kernel_rfl)) ?_
    obtain ⟨o5, hE, h⟩ := bindS h
    have K3 : Rs Try.prog 24 (retQ [4, 5] (.tup [.int .i64 r.1, .int .i64 r.2])) [.s q_ref11_Unary_3, .s q_ref11_Unary_11] [] (mkSt [(0, .u (.int .i64 op_0)), (1, .u (.int .i64 a_1)), (16, .u (.bool o5))] [] 0) := by
      refine Rs_nil ?_
      refine N_s ?_
      refine R_cond (c := o5) (by kernel_rfl) h (fun h => ?_) (fun h => ?_)
      · refine R_seq ?_
        refine R_reg ?_
        refine S_pure trivial (O_mv (d := .u (.int .i64 0)) (by kernel_rfl)) ?_
        refine S_pure trivial (O_mv (d := .u (.int .i64 2)) (by kernel_rfl)) ?_
        refine Rs_nil ?_
        refine N_s ?_
        obtain rfl := (Option.some.inj h)
        refine R_ret ?_
        exact Q_ret (x := .tup [.int .i64 0, .int .i64 2]) (by kernel_rfl) (.refl _)
      · refine R_skip ?_
        refine N_s ?_
        refine R_seq ?_
        refine R_seq ?_
        refine R_reg ?_
        refine S_pure trivial (O_mv (d := .u (.int .i64 op_0)) (by kernel_rfl)) ?_
        refine S_pure trivial (O_eql (k := .i64) (a := op_0) (b := 18) (by kernel_rfl) (by kernel_rfl)) ?_
        refine Rs_nil ?_
        refine N_s ?_
        refine R_cond (c := (decide (op_0 = 18))) (by kernel_rfl) h (fun h => ?_) (fun h => ?_)
        · refine R_seq ?_
          refine R_reg ?_
          refine S_pure trivial (O_mv (d := .u (.int .i64 a_1)) (by kernel_rfl)) ?_
          refine S_pure trivial (O_neg (k := .i64) (a := a_1) (by kernel_rfl)) ?_
          refine S_pure trivial (O_mv (d := .u (.int .i64 ((IntKind.i64.wrap (0 - a_1))))) (by kernel_rfl)) ?_
          refine S_pure trivial (O_mv (d := .u (.int .i64 0)) (by kernel_rfl)) ?_
          refine Rs_nil ?_
          refine N_s ?_
          obtain rfl := (Option.some.inj h)
          refine R_ret ?_
          exact Q_ret (x := .tup [.int .i64 ((IntKind.i64.wrap (0 - a_1))), .int .i64 0]) (by kernel_rfl) (.refl _)
        · refine R_skip ?_
          refine N_s ?_
          refine R_seq ?_
          refine R_reg ?_
          refine S_pure trivial (O_mv (d := .u (.int .i64 a_1)) (by kernel_rfl)) ?_
          refine S_pure trivial (O_eql (k := .i64) (a := a_1) (b := 0) (by kernel_rfl) (by kernel_rfl)) ?_
          obtain ⟨y6, hy6, h⟩ := bindS h
          refine S_pure trivial (O_ca (us := [.bool ((decide (a_1 = 0)))]) (r := .int .i64 y6) (by kernel_rfl) (ref11_truth.ok hy6)) ?_
          refine S_pure trivial (O_mv (d := .u (.int .i64 y6)) (by kernel_rfl)) ?_
          refine S_pure trivial (O_mv (d := .u (.int .i64 0)) (by kernel_rfl)) ?_
          refine Rs_nil ?_
          refine N_s ?_
          obtain rfl := (Option.some.inj h)
          refine R_ret ?_
          exact Q_ret (x := .tup [.int .i64 y6, .int .i64 0]) (by kernel_rfl) (.refl _)
    replace h := hE
    refine S_case (t := 12) (c := ((!decide (op_0 = 18)) && (!decide (op_0 = 19)))) (by kernel_rfl) h (fun hc h => ?_) (fun hc h => ?_)
    · refine S_skip (b := true) (by kernel_rfl) rfl ?_
      refine S_skip (b := true) (by kernel_rfl) rfl ?_
      refine S_skip (b := true) (by kernel_rfl) rfl ?_
      refine S_pure trivial (O_pkt (d := .u (.bool true)) (by kernel_rfl) (by kernel_rfl)) ?_
      obtain rfl := Option.some.inj h
      exact Rs_weak (W_to (by kernel_rfl) (by kernel_rfl) (by kernel_rfl)) K3
    · refine S_pure (by show _ = _; kernel_rfl) (O_mv (d := .u (.int .i64 a_1)) (by kernel_rfl)) ?_
      obtain ⟨y7, hy7, h⟩ := bindS h
      refine S_pure (by show _ = _; kernel_rfl) (O_ca (us := [.int .i64 a_1]) (r := .bool y7) (by kernel_rfl) (ref11_Number.ok hy7)) ?_
      refine S_pure (by show _ = _; kernel_rfl) (O_not (b := y7) (by kernel_rfl)) ?_
      refine S_pure trivial (O_pkf (d := .u (.bool ((!y7)))) (by kernel_rfl) (by kernel_rfl)) ?_
      obtain rfl := Option.some.inj h
      exact Rs_weak (W_to (by kernel_rfl) (by kernel_rfl) (by kernel_rfl)) K3
  refine S_case0 (t := 8) (c := (!decide (op_0 = 18))) (by kernel_rfl) (fun hc => ?_) (fun hc => ?_)
  · refine S_pure (by show _ = _; kernel_rfl) (O_mv (d := .u (.int .i64 op_0)) (by kernel_rfl)) ?_
    refine S_pure (by show _ = _; kernel_rfl) (O_neq (k := .i64) (a := op_0) (b := 19) (by kernel_rfl) (by kernel_rfl)) ?_
    refine S_pure trivial (O_pkt (d := .u (.bool ((!decide (op_0 = 19))))) (by kernel_rfl) (by kernel_rfl)) ?_
    exact Rs_weak (W_to (by kernel_rfl) (by kernel_rfl) (by kernel_rfl)) (K1 _ (by rw [hc] <;> rfl))
  · refine S_skip (b := false) (by kernel_rfl) rfl ?_
    refine S_skip (b := false) (by kernel_rfl) rfl ?_
    refine S_pure trivial (O_pkf (d := .u (.bool false)) (by kernel_rfl) (by kernel_rfl)) ?_
    exact Rs_weak (W_to (by kernel_rfl) (by kernel_rfl) (by kernel_rfl)) (K1 _ (by rw [hc] <;> rfl))

/-! ### selfstab/selfstabmade.Mod -/
def q_made_Mod_1 : AC := .reg [⟨some 14, none, .mv (.t 5)⟩, ⟨some 4, none, .mv (.t 14)⟩]
def q_made_Mod_2 : AC := .seq q_made_Mod_1 .ret
def q_made_Mod_3 : AC := .reg [⟨some 11, none, .mv (.t 5)⟩, ⟨some 12, none, .mv (.t 1)⟩, ⟨some 13, none, .bi .add (.t 11) (.t 12)⟩, ⟨some 5, none, .mv (.t 13)⟩]
def q_made_Mod_4 : AC := .cond (.t 10) q_made_Mod_3 .skip
def q_made_Mod_5 : AC := .reg [⟨some 9, none, .mv (.t 5)⟩, ⟨some 10, none, .bi .lss (.t 9) (.c (.int .i64 0))⟩]
def q_made_Mod_6 : AC := .seq q_made_Mod_5 q_made_Mod_4
def q_made_Mod_7 : AC := .seq q_made_Mod_6 q_made_Mod_2
def q_made_Mod_8 : AC := .reg [⟨some 6, none, .mv (.t 0)⟩, ⟨some 7, none, .mv (.t 1)⟩, ⟨some 8, none, .bi .rem (.t 6) (.t 7)⟩, ⟨some 5, none, .mv (.t 8)⟩]
def q_made_Mod_9 : AC := .seq q_made_Mod_8 q_made_Mod_7
def q_made_Mod_10 : AC := .reg [⟨some 4, none, .mv (.c (.int .i64 0))⟩]
def q_made_Mod_11 : AC := .seq q_made_Mod_10 q_made_Mod_9
def c_made_Mod : FC := ⟨15, [4], q_made_Mod_11⟩
theorem k_made_Mod : okF Try.prog 23 c_made_Mod = true := by decide +kernel
noncomputable def made_Mod (k_0 : Int) (n_1 : Int) : Option Int := (bif (!decide (n_1 = 0)) then (bif (decide ((Int.tmod k_0 n_1) < 0)) then (some (IntKind.i64.wrap ((Int.tmod k_0 n_1) + n_1))) else (some (Int.tmod k_0 n_1))) else none)
theorem made_Mod.ok {k_0 : Int} {n_1 : Int} {r : Int} (h : made_Mod k_0 n_1 = some r) : PC Try.prog 23 [.int .i64 k_0, .int .i64 n_1] (.int .i64 r) := by
  refine PC_run k_made_Mod rfl (L := [(0, .u (.int .i64 k_0)), (1, .u (.int .i64 n_1))]) rfl ?_
  show Run Try.prog 15 (retQ [4] (.int .i64 r)) [] q_made_Mod_11 _
  refine R_seq ?_
  refine R_reg ?_
  refine S_pure trivial (O_mv (d := .u (.int .i64 0)) (by kernel_rfl)) ?_
  refine Rs_nil ?_
  refine N_s ?_
  refine R_seq ?_
  refine R_reg ?_
  refine S_pure trivial (O_mv (d := .u (.int .i64 k_0)) (by kernel_rfl)) ?_
  refine S_pure trivial (O_mv (d := .u (.int .i64 n_1)) (by kernel_rfl)) ?_
  obtain ⟨hb, h⟩ := chkS h
  refine S_pure trivial (O_rem (k := .i64) (a := k_0) (b := n_1) (by kernel_rfl) (by kernel_rfl) hb) ?_
  refine S_pure trivial (O_mv (d := .u (.int .i64 ((Int.tmod k_0 n_1)))) (by kernel_rfl)) ?_
  refine Rs_nil ?_
  refine N_s ?_
  refine R_seq ?_
  refine R_seq ?_
  refine R_reg ?_
  refine S_pure trivial (O_mv (d := .u (.int .i64 ((Int.tmod k_0 n_1)))) (by kernel_rfl)) ?_
  refine S_pure trivial (O_lss (k := .i64) (a := (Int.tmod k_0 n_1)) (b := 0) (by kernel_rfl) (by kernel_rfl)) ?_
  refine Rs_nil ?_
  refine N_s ?_
  refine R_cond (c := (decide ((Int.tmod k_0 n_1) < 0))) (by kernel_rfl) h (fun h => ?_) (fun h => ?_)
  · refine R_reg ?_
    refine S_pure trivial (O_mv (d := .u (.int .i64 ((Int.tmod k_0 n_1)))) (by kernel_rfl)) ?_
    refine S_pure trivial (O_mv (d := .u (.int .i64 n_1)) (by kernel_rfl)) ?_
    refine S_pure trivial (O_add (k := .i64) (a := (Int.tmod k_0 n_1)) (b := n_1) (by kernel_rfl) (by kernel_rfl)) ?_
    refine S_pure trivial (O_mv (d := .u (.int .i64 ((IntKind.i64.wrap ((Int.tmod k_0 n_1) + n_1))))) (by kernel_rfl)) ?_
    refine Rs_nil ?_
    refine N_s ?_
    refine R_seq ?_
    refine R_reg ?_
    refine S_pure trivial (O_mv (d := .u (.int .i64 ((IntKind.i64.wrap ((Int.tmod k_0 n_1) + n_1))))) (by kernel_rfl)) ?_
    refine S_pure trivial (O_mv (d := .u (.int .i64 ((IntKind.i64.wrap ((Int.tmod k_0 n_1) + n_1))))) (by kernel_rfl)) ?_
    refine Rs_nil ?_
    refine N_s ?_
    obtain rfl := (Option.some.inj h)
    refine R_ret ?_
    exact Q_ret (x := .int .i64 ((IntKind.i64.wrap ((Int.tmod k_0 n_1) + n_1)))) (by kernel_rfl) (.refl _)
  · refine R_skip ?_
    refine N_s ?_
    refine R_seq ?_
    refine R_reg ?_
    refine S_pure trivial (O_mv (d := .u (.int .i64 ((Int.tmod k_0 n_1)))) (by kernel_rfl)) ?_
    refine S_pure trivial (O_mv (d := .u (.int .i64 ((Int.tmod k_0 n_1)))) (by kernel_rfl)) ?_
    refine Rs_nil ?_
    refine N_s ?_
    obtain rfl := (Option.some.inj h)
    refine R_ret ?_
    exact Q_ret (x := .int .i64 ((Int.tmod k_0 n_1))) (by kernel_rfl) (.refl _)

end Go.Proofs.Ytkpghgnbbfpbmaa
