/- Functions of the program over typed data, and that the program's functions come to their results: written by a program (lift.py). -/
import Derived.Test.YtkpghgnbbfpbmaaDq
import Derived.Test.YtkpghgnbbfpbmaaChecked
set_option linter.unusedVariables false
set_option maxRecDepth 100000
set_option maxHeartbeats 1000000
namespace Go.Proofs.Ytkpghgnbbfpbmaa

/-! ### selfstab/eval.small -/
def q_eval_small_1 : AC := .reg [⟨some 2, none, .mv (.c (.bool false))⟩]
def q_eval_small_2 : AC := .seq q_eval_small_1 .ret
def q_eval_small_3 : AC := .cond (.t 16) q_eval_small_2 .skip
def q_eval_small_4 : AC := .reg [⟨some 17, none, .bi .add (.t 7) (.c (.int .i64 1))⟩, ⟨some 7, none, .mv (.t 17)⟩]
def q_eval_small_5 : AC := .reg [⟨some 2, none, .mv (.c (.bool true))⟩]
def q_eval_small_6 : AC := .seq q_eval_small_5 .ret
def q_eval_small_7 : AC := .reg [⟨some 11, none, .mv (.t 4)⟩, ⟨some 12, none, .bi .lss (.t 11) (.c (.int .i64 (-1073741824)))⟩, ⟨some 13, none, .mv (.t 12)⟩, ⟨some 14, some (13, false), .mv (.t 4)⟩, ⟨some 15, some (13, false), .bi .gtr (.t 14) (.c (.int .i64 1073741824))⟩, ⟨some 16, none, .pk (.t 13) (.c (.bool true)) (.t 15)⟩]
def q_eval_small_8 : AC := .seq q_eval_small_7 q_eval_small_3
def q_eval_small_9 : AC := .reg [⟨some 9, none, .ia 1 (.t 5) (.t 7)⟩, ⟨some 10, none, .ld false 1 (.t 9)⟩, ⟨some 4, none, .mv (.t 10)⟩]
def q_eval_small_10 : AC := .seq q_eval_small_9 q_eval_small_8
def q_eval_small_11 : AC := .block 1 q_eval_small_10
def q_eval_small_12 : AC := .seq q_eval_small_11 q_eval_small_4
def q_eval_small_13 : AC := .cond (.t 8) .skip (.exit 0)
def q_eval_small_14 : AC := .seq q_eval_small_13 q_eval_small_12
def q_eval_small_15 : AC := .reg [⟨some 8, none, .bi .lss (.t 7) (.t 6)⟩]
def q_eval_small_16 : AC := .seq q_eval_small_15 q_eval_small_14
def q_eval_small_17 : AC := .loop q_eval_small_16
def q_eval_small_18 : AC := .block 0 q_eval_small_17
def q_eval_small_19 : AC := .reg [⟨some 5, none, .mv (.t 0)⟩, ⟨some 6, none, .ln (.t 5)⟩, ⟨some 7, none, .mv (.c (.int .i64 0))⟩]
def q_eval_small_20 : AC := .seq q_eval_small_19 q_eval_small_18
def q_eval_small_21 : AC := .seq q_eval_small_20 q_eval_small_6
def q_eval_small_22 : AC := .reg [⟨some 2, none, .mv (.c (.bool false))⟩]
def q_eval_small_23 : AC := .seq q_eval_small_22 q_eval_small_21
def c_eval_small : FC := ⟨18, [2], q_eval_small_23⟩
theorem k_eval_small : okF Try.prog 43 c_eval_small = true := by decide +kernel
noncomputable def eval_small.l12 (l_0 : List Int) (s7 : Int) : Option (Int ⊕ (Unit ⊕ Bool)) := (bif (decide (s7 < (List.length l_0 : Int))) then ((idx l_0 s7).bind (fun (y9 : Int) => (bif ((decide (y9 < (-1073741824))) || (decide (1073741824 < y9))) then (some (Sum.inr (Sum.inr false))) else (some (Sum.inl (IntKind.i64.wrap (s7 + 1))))))) else (some (Sum.inr (Sum.inl ()))))
noncomputable def eval_small (l_0 : List Int) : Option Bool := ((loopO (eval_small.l12 l_0) 0).bind (Sum.elim (fun (w3 : Unit) => (some true)) (fun (w5 : Bool) => (some w5))))
theorem eval_small.ok {l_0 : List Int} {r : Bool} (h : eval_small l_0 = some r) : PC Try.prog 43 [.sl (List.map (cInt .i64) l_0)] (.bool r) := by
  refine PC_run k_eval_small rfl (L := [(0, .u (.sl (List.map (cInt .i64) l_0)))]) rfl ?_
  show Run Try.prog 18 (retQ [2] (.bool r)) [] q_eval_small_23 _
  refine R_seq ?_
  refine R_reg ?_
  refine S_pure trivial (O_mv (d := .u (.bool false)) (by kernel_rfl)) ?_
  refine Rs_nil ?_
  refine N_s ?_
  refine R_seq ?_
  refine R_seq ?_
  refine R_reg ?_
  refine S_pure trivial (O_mv (d := .u (.sl (List.map (cInt .i64) l_0))) (by kernel_rfl)) ?_
  refine S_pure trivial (O_ln (c := (cInt .i64)) (li := l_0) (by kernel_rfl)) ?_
  refine S_pure trivial (O_mv (d := .u (.int .i64 0)) (by kernel_rfl)) ?_
  refine Rs_nil ?_
  refine N_s ?_
  refine R_block ?_
  obtain ⟨o1, hE, h⟩ := bindS h
  have K4 : ∀ (w3 : Unit), (Sum.inl w3) = o1 → Run Try.prog 18 (retQ [2] (.bool r)) [] q_eval_small_6 (mkSt [] [] 0) := by
    intro w3 e; subst e
    replace h := elimL h
    refine R_seq ?_
    refine R_reg ?_
    refine S_pure trivial (O_mv (d := .u (.bool true)) (by kernel_rfl)) ?_
    refine Rs_nil ?_
    refine N_s ?_
    obtain rfl := (Option.some.inj h)
    refine R_ret ?_
    exact Q_ret (x := .bool true) (by kernel_rfl) (.refl _)
  have K6 : ∀ (w5 : Bool), (Sum.inr w5) = o1 → w5 = r := by
    intro w5 e; subst e
    replace h := elimR h
    exact Option.some.inj h
  refine R_loop (eval_small.l12 l_0) (fun s7 => (mkSt [(5, .u (.sl (List.map (cInt .i64) l_0))), (6, .u (.int .i64 ((List.length l_0 : Int)))), (7, .u (.int .i64 s7))] [] 0)) hE (W_to (by kernel_rfl) (by kernel_rfl) (by kernel_rfl)) ?_
  intro K2 s7 x8 h hK2 hO2
  refine R_seq ?_
  refine R_reg ?_
  refine S_pure trivial (O_lss (k := .i64) (a := s7) (b := (List.length l_0 : Int)) (by kernel_rfl) (by kernel_rfl)) ?_
  refine Rs_nil ?_
  refine N_s ?_
  refine R_seq ?_
  refine R_cond (c := (decide (s7 < (List.length l_0 : Int)))) (by kernel_rfl) h (fun h => ?_) (fun h => ?_)
  · refine R_skip ?_
    refine N_s ?_
    refine R_seq ?_
    refine R_block ?_
    refine R_seq ?_
    refine R_reg ?_
    obtain ⟨y9, hy9, h⟩ := bindS h
    refine S_pure trivial (O_ia (c := (cInt .i64)) (li := l_0) (i := s7) (k := .i64) (a := y9) (u := (cInt .i64) y9) (by kernel_rfl) (by kernel_rfl) hy9 rfl rfl) ?_
    refine S_pure trivial (O_ldf (cells := (cInt .i64) y9) (off := 0) (u := .int .i64 y9) (by kernel_rfl) (by kernel_rfl)) ?_
    refine S_pure trivial (O_mv (d := .u (.int .i64 y9)) (by kernel_rfl)) ?_
    refine Rs_nil ?_
    refine N_s ?_
    refine R_seq ?_
    refine R_reg ?_
    refine S_pure trivial (O_mv (d := .u (.int .i64 y9)) (by kernel_rfl)) ?_
    refine S_pure trivial (O_lss (k := .i64) (a := y9) (b := (-1073741824)) (by kernel_rfl) (by kernel_rfl)) ?_
    refine S_pure trivial (O_mv (d := .u (.bool ((decide (y9 < (-1073741824)))))) (by kernel_rfl)) ?_
    have K10 : ∀ v11 : Bool, v11 = ((decide (y9 < (-1073741824))) || (decide (1073741824 < y9))) → Rs Try.prog 18 (retQ [2] (.bool r)) [.s q_eval_small_3, .b 1, .s q_eval_small_4, .k K2, .b 0, .s q_eval_small_6] [] (mkSt [(5, .u (.sl (List.map (cInt .i64) l_0))), (6, .u (.int .i64 ((List.length l_0 : Int)))), (7, .u (.int .i64 s7)), (16, .u (.bool v11))] [] 0) := by
      intro v11 e; subst e
      refine Rs_nil ?_
      refine N_s ?_
      refine R_cond (c := ((decide (y9 < (-1073741824))) || (decide (1073741824 < y9)))) (by kernel_rfl) h (fun h => ?_) (fun h => ?_)
      · refine R_seq ?_
        refine R_reg ?_
        refine S_pure trivial (O_mv (d := .u (.bool false)) (by kernel_rfl)) ?_
        refine Rs_nil ?_
        refine N_s ?_
        obtain rfl := (K6 _ (hO2 _ h))
        refine R_ret ?_
        exact Q_ret (x := .bool false) (by kernel_rfl) (.refl _)
      · refine R_skip ?_
        refine N_b ?_
        refine N_s ?_
        refine R_reg ?_
        refine S_pure trivial (O_add (k := .i64) (a := s7) (b := 1) (by kernel_rfl) (by kernel_rfl)) ?_
        refine S_pure trivial (O_mv (d := .u (.int .i64 ((IntKind.i64.wrap (s7 + 1))))) (by kernel_rfl)) ?_
        refine Rs_nil ?_
        exact N_k (hK2 _ h _ (W_to (by kernel_rfl) (by kernel_rfl) (by kernel_rfl)))
    refine S_case0 (t := 13) (c := (decide (y9 < (-1073741824)))) (by kernel_rfl) (fun hc => ?_) (fun hc => ?_)
    · refine S_skip (b := true) (by kernel_rfl) rfl ?_
      refine S_skip (b := true) (by kernel_rfl) rfl ?_
      refine S_pure trivial (O_pkt (d := .u (.bool true)) (by kernel_rfl) (by kernel_rfl)) ?_
      exact Rs_weak (W_to (by kernel_rfl) (by kernel_rfl) (by kernel_rfl)) (K10 _ (by rw [hc] <;> rfl))
    · refine S_pure (by show _ = _; kernel_rfl) (O_mv (d := .u (.int .i64 y9)) (by kernel_rfl)) ?_
      refine S_pure (by show _ = _; kernel_rfl) (O_gtr (k := .i64) (a := y9) (b := 1073741824) (by kernel_rfl) (by kernel_rfl)) ?_
      refine S_pure trivial (O_pkf (d := .u (.bool ((decide (1073741824 < y9))))) (by kernel_rfl) (by kernel_rfl)) ?_
      exact Rs_weak (W_to (by kernel_rfl) (by kernel_rfl) (by kernel_rfl)) (K10 _ (by rw [hc] <;> rfl))
  · refine R_exit ?_
    refine E_s ?_
    refine E_k ?_
    refine E_b ?_
    refine N_s ?_
    exact R_weak (W_to (by kernel_rfl) (by kernel_rfl) (by kernel_rfl)) (K4 _ (hO2 _ h))

/-! ### selfstab/interp.saturated -/
def q_interp_saturated_1 : AC := .reg [⟨some 3, none, .mv (.t 0)⟩, ⟨some 4, none, .mn [.c (.int .i64 1073741824), .t 3]⟩, ⟨some 5, none, .mx [.c (.int .i64 (-1073741824)), .t 4]⟩, ⟨some 2, none, .mv (.t 5)⟩]
def q_interp_saturated_2 : AC := .seq q_interp_saturated_1 .ret
def q_interp_saturated_3 : AC := .reg [⟨some 2, none, .mv (.c (.int .i64 0))⟩]
def q_interp_saturated_4 : AC := .seq q_interp_saturated_3 q_interp_saturated_2
def c_interp_saturated : FC := ⟨6, [2], q_interp_saturated_4⟩
theorem k_interp_saturated : okF Try.prog 76 c_interp_saturated = true := by decide +kernel
noncomputable def interp_saturated (n_0 : Int) : Option Int := (some (max ((-1073741824)) ((min 1073741824 n_0))))
theorem interp_saturated.ok {n_0 : Int} {r : Int} (h : interp_saturated n_0 = some r) : PC Try.prog 76 [.int .i64 n_0] (.int .i64 r) := by
  refine PC_run k_interp_saturated rfl (L := [(0, .u (.int .i64 n_0))]) rfl ?_
  show Run Try.prog 6 (retQ [2] (.int .i64 r)) [] q_interp_saturated_4 _
  refine R_seq ?_
  refine R_reg ?_
  refine S_pure trivial (O_mv (d := .u (.int .i64 0)) (by kernel_rfl)) ?_
  refine Rs_nil ?_
  refine N_s ?_
  refine R_seq ?_
  refine R_reg ?_
  refine S_pure trivial (O_mv (d := .u (.int .i64 n_0)) (by kernel_rfl)) ?_
  refine S_pure trivial (O_mn (k := .i64) (a := 1073741824) (b := n_0) (by kernel_rfl) (by kernel_rfl)) ?_
  refine S_pure trivial (O_mx (k := .i64) (a := (-1073741824)) (b := (min 1073741824 n_0)) (by kernel_rfl) (by kernel_rfl)) ?_
  refine S_pure trivial (O_mv (d := .u (.int .i64 ((max ((-1073741824)) ((min 1073741824 n_0)))))) (by kernel_rfl)) ?_
  refine Rs_nil ?_
  refine N_s ?_
  obtain rfl := (Option.some.inj h)
  refine R_ret ?_
  exact Q_ret (x := .int .i64 ((max ((-1073741824)) ((min 1073741824 n_0))))) (by kernel_rfl) (.refl _)

/-! ### selfstab/interp.quotient -/
def q_interp_quotient_1 : AC := .reg [⟨some 22, none, .mv (.t 5)⟩, ⟨some 23, none, .bi .sub (.t 22) (.c (.int .i64 1))⟩, ⟨some 5, none, .mv (.t 23)⟩]
def q_interp_quotient_2 : AC := .cond (.t 21) q_interp_quotient_1 .skip
def q_interp_quotient_3 : AC := .reg [⟨some 24, none, .mv (.t 5)⟩, ⟨some 4, none, .mv (.t 24)⟩]
def q_interp_quotient_4 : AC := .seq q_interp_quotient_3 .ret
def q_interp_quotient_5 : AC := .reg [⟨some 11, none, .mv (.t 0)⟩, ⟨some 12, none, .mv (.t 1)⟩, ⟨some 13, none, .bi .rem (.t 11) (.t 12)⟩, ⟨some 14, none, .bi .neq (.t 13) (.c (.int .i64 0))⟩, ⟨some 15, none, .mv (.t 14)⟩, ⟨some 16, some (15, true), .mv (.t 0)⟩, ⟨some 17, some (15, true), .bi .lss (.t 16) (.c (.int .i64 0))⟩, ⟨some 18, some (15, true), .mv (.t 1)⟩, ⟨some 19, some (15, true), .bi .lss (.t 18) (.c (.int .i64 0))⟩, ⟨some 20, some (15, true), .bb .neq (.t 17) (.t 19)⟩, ⟨some 21, none, .pk (.t 15) (.t 20) (.c (.bool false))⟩]
def q_interp_quotient_6 : AC := .seq q_interp_quotient_5 q_interp_quotient_2
def q_interp_quotient_7 : AC := .seq q_interp_quotient_6 q_interp_quotient_4
def q_interp_quotient_8 : AC := .reg [⟨some 8, none, .mv (.t 0)⟩, ⟨some 9, none, .mv (.t 1)⟩, ⟨some 10, none, .bi .quo (.t 8) (.t 9)⟩, ⟨some 5, none, .mv (.t 10)⟩]
def q_interp_quotient_9 : AC := .seq q_interp_quotient_8 q_interp_quotient_7
def q_interp_quotient_10 : AC := .reg [⟨some 4, none, .mv (.c (.int .i64 0))⟩]
def q_interp_quotient_11 : AC := .seq q_interp_quotient_10 .ret
def q_interp_quotient_12 : AC := .cond (.t 7) q_interp_quotient_11 .skip
def q_interp_quotient_13 : AC := .reg [⟨some 6, none, .mv (.t 1)⟩, ⟨some 7, none, .bi .eql (.t 6) (.c (.int .i64 0))⟩]
def q_interp_quotient_14 : AC := .seq q_interp_quotient_13 q_interp_quotient_12
def q_interp_quotient_15 : AC := .seq q_interp_quotient_14 q_interp_quotient_9
def q_interp_quotient_16 : AC := .reg [⟨some 4, none, .mv (.c (.int .i64 0))⟩]
def q_interp_quotient_17 : AC := .seq q_interp_quotient_16 q_interp_quotient_15
def c_interp_quotient : FC := ⟨25, [4], q_interp_quotient_17⟩
theorem k_interp_quotient : okF Try.prog 78 c_interp_quotient = true := by decide +kernel
noncomputable def interp_quotient (a_0 : Int) (b_1 : Int) : Option Int := (bif (decide (b_1 = 0)) then (some 0) else (bif (!decide (b_1 = 0)) then (bif (!decide (b_1 = 0)) then (bif ((!decide ((Int.tmod a_0 b_1) = 0)) && (!decide ((decide (a_0 < 0)) = (decide (b_1 < 0))))) then (some (IntKind.i64.wrap ((IntKind.i64.wrap (Int.tdiv a_0 b_1)) - 1))) else (some (IntKind.i64.wrap (Int.tdiv a_0 b_1)))) else none) else none))
theorem interp_quotient.ok {a_0 : Int} {b_1 : Int} {r : Int} (h : interp_quotient a_0 b_1 = some r) : PC Try.prog 78 [.int .i64 a_0, .int .i64 b_1] (.int .i64 r) := by
  refine PC_run k_interp_quotient rfl (L := [(0, .u (.int .i64 a_0)), (1, .u (.int .i64 b_1))]) rfl ?_
  show Run Try.prog 25 (retQ [4] (.int .i64 r)) [] q_interp_quotient_17 _
  refine R_seq ?_
  refine R_reg ?_
  refine S_pure trivial (O_mv (d := .u (.int .i64 0)) (by kernel_rfl)) ?_
  refine Rs_nil ?_
  refine N_s ?_
  refine R_seq ?_
  refine R_seq ?_
  refine R_reg ?_
  refine S_pure trivial (O_mv (d := .u (.int .i64 b_1)) (by kernel_rfl)) ?_
  refine S_pure trivial (O_eql (k := .i64) (a := b_1) (b := 0) (by kernel_rfl) (by kernel_rfl)) ?_
  refine Rs_nil ?_
  refine N_s ?_
  refine R_cond (c := (decide (b_1 = 0))) (by kernel_rfl) h (fun h => ?_) (fun h => ?_)
  · refine R_seq ?_
    refine R_reg ?_
    refine S_pure trivial (O_mv (d := .u (.int .i64 0)) (by kernel_rfl)) ?_
    refine Rs_nil ?_
    refine N_s ?_
    obtain rfl := (Option.some.inj h)
    refine R_ret ?_
    exact Q_ret (x := .int .i64 0) (by kernel_rfl) (.refl _)
  · refine R_skip ?_
    refine N_s ?_
    refine R_seq ?_
    refine R_reg ?_
    refine S_pure trivial (O_mv (d := .u (.int .i64 a_0)) (by kernel_rfl)) ?_
    refine S_pure trivial (O_mv (d := .u (.int .i64 b_1)) (by kernel_rfl)) ?_
    obtain ⟨hb, h⟩ := chkS h
    refine S_pure trivial (O_quo (k := .i64) (a := a_0) (b := b_1) (by kernel_rfl) (by kernel_rfl) hb) ?_
    refine S_pure trivial (O_mv (d := .u (.int .i64 ((IntKind.i64.wrap (Int.tdiv a_0 b_1))))) (by kernel_rfl)) ?_
    refine Rs_nil ?_
    refine N_s ?_
    refine R_seq ?_
    refine R_seq ?_
    refine R_reg ?_
    refine S_pure trivial (O_mv (d := .u (.int .i64 a_0)) (by kernel_rfl)) ?_
    refine S_pure trivial (O_mv (d := .u (.int .i64 b_1)) (by kernel_rfl)) ?_
    obtain ⟨hb, h⟩ := chkS h
    refine S_pure trivial (O_rem (k := .i64) (a := a_0) (b := b_1) (by kernel_rfl) (by kernel_rfl) hb) ?_
    refine S_pure trivial (O_neq (k := .i64) (a := (Int.tmod a_0 b_1)) (b := 0) (by kernel_rfl) (by kernel_rfl)) ?_
    refine S_pure trivial (O_mv (d := .u (.bool ((!decide ((Int.tmod a_0 b_1) = 0))))) (by kernel_rfl)) ?_
    have K1 : ∀ v2 : Bool, v2 = ((!decide ((Int.tmod a_0 b_1) = 0)) && (!decide ((decide (a_0 < 0)) = (decide (b_1 < 0))))) → Rs Try.prog 25 (retQ [4] (.int .i64 r)) [.s q_interp_quotient_2, .s q_interp_quotient_4] [] (mkSt [(5, .u (.int .i64 ((IntKind.i64.wrap (Int.tdiv a_0 b_1))))), (21, .u (.bool v2))] [] 0) := by
      intro v2 e; subst e
      refine Rs_nil ?_
      refine N_s ?_
      refine R_cond (c := ((!decide ((Int.tmod a_0 b_1) = 0)) && (!decide ((decide (a_0 < 0)) = (decide (b_1 < 0)))))) (by kernel_rfl) h (fun h => ?_) (fun h => ?_)
      · refine R_reg ?_
        refine S_pure trivial (O_mv (d := .u (.int .i64 ((IntKind.i64.wrap (Int.tdiv a_0 b_1))))) (by kernel_rfl)) ?_
        refine S_pure trivial (O_sub (k := .i64) (a := (IntKind.i64.wrap (Int.tdiv a_0 b_1))) (b := 1) (by kernel_rfl) (by kernel_rfl)) ?_
        refine S_pure trivial (O_mv (d := .u (.int .i64 ((IntKind.i64.wrap ((IntKind.i64.wrap (Int.tdiv a_0 b_1)) - 1))))) (by kernel_rfl)) ?_
        refine Rs_nil ?_
        refine N_s ?_
        refine R_seq ?_
        refine R_reg ?_
        refine S_pure trivial (O_mv (d := .u (.int .i64 ((IntKind.i64.wrap ((IntKind.i64.wrap (Int.tdiv a_0 b_1)) - 1))))) (by kernel_rfl)) ?_
        refine S_pure trivial (O_mv (d := .u (.int .i64 ((IntKind.i64.wrap ((IntKind.i64.wrap (Int.tdiv a_0 b_1)) - 1))))) (by kernel_rfl)) ?_
        refine Rs_nil ?_
        refine N_s ?_
        obtain rfl := (Option.some.inj h)
        refine R_ret ?_
        exact Q_ret (x := .int .i64 ((IntKind.i64.wrap ((IntKind.i64.wrap (Int.tdiv a_0 b_1)) - 1)))) (by kernel_rfl) (.refl _)
      · refine R_skip ?_
        refine N_s ?_
        refine R_seq ?_
        refine R_reg ?_
        refine S_pure trivial (O_mv (d := .u (.int .i64 ((IntKind.i64.wrap (Int.tdiv a_0 b_1))))) (by kernel_rfl)) ?_
        refine S_pure trivial (O_mv (d := .u (.int .i64 ((IntKind.i64.wrap (Int.tdiv a_0 b_1))))) (by kernel_rfl)) ?_
        refine Rs_nil ?_
        refine N_s ?_
        obtain rfl := (Option.some.inj h)
        refine R_ret ?_
        exact Q_ret (x := .int .i64 ((IntKind.i64.wrap (Int.tdiv a_0 b_1)))) (by kernel_rfl) (.refl _)
    refine S_case0 (t := 15) (c := (!decide ((Int.tmod a_0 b_1) = 0))) (by kernel_rfl) (fun hc => ?_) (fun hc => ?_)
    · refine S_pure (by show _ = _; kernel_rfl) (O_mv (d := .u (.int .i64 a_0)) (by kernel_rfl)) ?_
      refine S_pure (by show _ = _; kernel_rfl) (O_lss (k := .i64) (a := a_0) (b := 0) (by kernel_rfl) (by kernel_rfl)) ?_
      refine S_pure (by show _ = _; kernel_rfl) (O_mv (d := .u (.int .i64 b_1)) (by kernel_rfl)) ?_
      refine S_pure (by show _ = _; kernel_rfl) (O_lss (k := .i64) (a := b_1) (b := 0) (by kernel_rfl) (by kernel_rfl)) ?_
      refine S_pure (by show _ = _; kernel_rfl) (O_bneq (a := (decide (a_0 < 0))) (b := (decide (b_1 < 0))) (by kernel_rfl) (by kernel_rfl)) ?_
      refine S_pure trivial (O_pkt (d := .u (.bool ((!decide ((decide (a_0 < 0)) = (decide (b_1 < 0))))))) (by kernel_rfl) (by kernel_rfl)) ?_
      exact Rs_weak (W_to (by kernel_rfl) (by kernel_rfl) (by kernel_rfl)) (K1 _ (by rw [hc] <;> rfl))
    · refine S_skip (b := false) (by kernel_rfl) rfl ?_
      refine S_skip (b := false) (by kernel_rfl) rfl ?_
      refine S_skip (b := false) (by kernel_rfl) rfl ?_
      refine S_skip (b := false) (by kernel_rfl) rfl ?_
      refine S_skip (b := false) (by kernel_rfl) rfl ?_
      refine S_pure trivial (O_pkf (d := .u (.bool false)) (by kernel_rfl) (by kernel_rfl)) ?_
      exact Rs_weak (W_to (by kernel_rfl) (by kernel_rfl) (by kernel_rfl)) (K1 _ (by rw [hc] <;> rfl))

/-! ### selfstab/interp.truth -/
def q_interp_truth_1 : AC := .reg [⟨some 2, none, .mv (.c (.int .i64 0))⟩]
def q_interp_truth_2 : AC := .seq q_interp_truth_1 .ret
def q_interp_truth_3 : AC := .reg [⟨some 2, none, .mv (.c (.int .i64 1))⟩]
def q_interp_truth_4 : AC := .seq q_interp_truth_3 .ret
def q_interp_truth_5 : AC := .cond (.t 3) q_interp_truth_4 .skip
def q_interp_truth_6 : AC := .reg [⟨some 3, none, .mv (.t 0)⟩]
def q_interp_truth_7 : AC := .seq q_interp_truth_6 q_interp_truth_5
def q_interp_truth_8 : AC := .seq q_interp_truth_7 q_interp_truth_2
def q_interp_truth_9 : AC := .reg [⟨some 2, none, .mv (.c (.int .i64 0))⟩]
def q_interp_truth_10 : AC := .seq q_interp_truth_9 q_interp_truth_8
def c_interp_truth : FC := ⟨4, [2], q_interp_truth_10⟩
theorem k_interp_truth : okF Try.prog 71 c_interp_truth = true := by decide +kernel
noncomputable def interp_truth (b_0 : Bool) : Option Int := (bif b_0 then (some 1) else (some 0))
theorem interp_truth.ok {b_0 : Bool} {r : Int} (h : interp_truth b_0 = some r) : PC Try.prog 71 [.bool b_0] (.int .i64 r) := by
  refine PC_run k_interp_truth rfl (L := [(0, .u (.bool b_0))]) rfl ?_
  show Run Try.prog 4 (retQ [2] (.int .i64 r)) [] q_interp_truth_10 _
  refine R_seq ?_
  refine R_reg ?_
  refine S_pure trivial (O_mv (d := .u (.int .i64 0)) (by kernel_rfl)) ?_
  refine Rs_nil ?_
  refine N_s ?_
  refine R_seq ?_
  refine R_seq ?_
  refine R_reg ?_
  refine S_pure trivial (O_mv (d := .u (.bool b_0)) (by kernel_rfl)) ?_
  refine Rs_nil ?_
  refine N_s ?_
  refine R_cond (c := b_0) (by kernel_rfl) h (fun h => ?_) (fun h => ?_)
  · refine R_seq ?_
    refine R_reg ?_
    refine S_pure trivial (O_mv (d := .u (.int .i64 1)) (by kernel_rfl)) ?_
    refine Rs_nil ?_
    refine N_s ?_
    obtain rfl := (Option.some.inj h)
    refine R_ret ?_
    exact Q_ret (x := .int .i64 1) (by kernel_rfl) (.refl _)
  · refine R_skip ?_
    refine N_s ?_
    refine R_seq ?_
    refine R_reg ?_
    refine S_pure trivial (O_mv (d := .u (.int .i64 0)) (by kernel_rfl)) ?_
    refine Rs_nil ?_
    refine N_s ?_
    obtain rfl := (Option.some.inj h)
    refine R_ret ?_
    exact Q_ret (x := .int .i64 0) (by kernel_rfl) (.refl _)

/-! ### selfstab/interp.Binary -/
def q_interp_Binary_1 : AC := .reg [⟨some 88, none, .mv (.t 1)⟩, ⟨some 89, none, .bi .neq (.t 88) (.c (.int .i64 0))⟩, ⟨some 90, none, .mv (.t 89)⟩, ⟨some 91, some (90, false), .mv (.t 2)⟩, ⟨some 92, some (90, false), .bi .neq (.t 91) (.c (.int .i64 0))⟩, ⟨some 93, none, .pk (.t 90) (.c (.bool true)) (.t 92)⟩, ⟨some 94, none, .ca 71 [.t 93]⟩, ⟨some 6, none, .mv (.t 94)⟩]
def q_interp_Binary_2 : AC := .seq q_interp_Binary_1 .ret
def q_interp_Binary_3 : AC := .reg [⟨some 10, none, .mv (.t 1)⟩, ⟨some 11, none, .mv (.t 2)⟩, ⟨some 12, none, .bi .mul (.t 10) (.t 11)⟩, ⟨some 13, none, .ca 76 [.t 12]⟩, ⟨some 6, none, .mv (.t 13)⟩]
def q_interp_Binary_4 : AC := .seq q_interp_Binary_3 .ret
def q_interp_Binary_5 : AC := .reg [⟨some 16, none, .mv (.t 1)⟩, ⟨some 17, none, .mv (.t 2)⟩, ⟨some 18, none, .ca 78 [.t 16, .t 17]⟩, ⟨some 19, none, .ca 76 [.t 18]⟩, ⟨some 6, none, .mv (.t 19)⟩]
def q_interp_Binary_6 : AC := .seq q_interp_Binary_5 .ret
def q_interp_Binary_7 : AC := .reg [⟨some 24, none, .mv (.t 1)⟩, ⟨some 25, none, .mv (.t 2)⟩, ⟨some 26, none, .mv (.t 1)⟩, ⟨some 27, none, .mv (.t 2)⟩, ⟨some 28, none, .ca 78 [.t 26, .t 27]⟩, ⟨some 29, none, .bi .mul (.t 25) (.t 28)⟩, ⟨some 30, none, .bi .sub (.t 24) (.t 29)⟩, ⟨some 6, none, .mv (.t 30)⟩]
def q_interp_Binary_8 : AC := .seq q_interp_Binary_7 .ret
def q_interp_Binary_9 : AC := .reg [⟨some 6, none, .mv (.c (.int .i64 0))⟩]
def q_interp_Binary_10 : AC := .seq q_interp_Binary_9 .ret
def q_interp_Binary_11 : AC := .cond (.t 23) q_interp_Binary_10 .skip
def q_interp_Binary_12 : AC := .reg [⟨some 22, none, .mv (.t 2)⟩, ⟨some 23, none, .bi .eql (.t 22) (.c (.int .i64 0))⟩]
def q_interp_Binary_13 : AC := .seq q_interp_Binary_12 q_interp_Binary_11
def q_interp_Binary_14 : AC := .seq q_interp_Binary_13 q_interp_Binary_8
def q_interp_Binary_15 : AC := .reg [⟨some 33, none, .mv (.t 1)⟩, ⟨some 34, none, .mv (.t 2)⟩, ⟨some 35, none, .bi .add (.t 33) (.t 34)⟩, ⟨some 36, none, .ca 76 [.t 35]⟩, ⟨some 6, none, .mv (.t 36)⟩]
def q_interp_Binary_16 : AC := .seq q_interp_Binary_15 .ret
def q_interp_Binary_17 : AC := .reg [⟨some 39, none, .mv (.t 1)⟩, ⟨some 40, none, .mv (.t 2)⟩, ⟨some 41, none, .bi .sub (.t 39) (.t 40)⟩, ⟨some 42, none, .ca 76 [.t 41]⟩, ⟨some 6, none, .mv (.t 42)⟩]
def q_interp_Binary_18 : AC := .seq q_interp_Binary_17 .ret
def q_interp_Binary_19 : AC := .reg [⟨some 45, none, .mv (.t 1)⟩, ⟨some 46, none, .mv (.t 2)⟩, ⟨some 47, none, .bi .eql (.t 45) (.t 46)⟩, ⟨some 48, none, .ca 71 [.t 47]⟩, ⟨some 6, none, .mv (.t 48)⟩]
def q_interp_Binary_20 : AC := .seq q_interp_Binary_19 .ret
def q_interp_Binary_21 : AC := .reg [⟨some 51, none, .mv (.t 1)⟩, ⟨some 52, none, .mv (.t 2)⟩, ⟨some 53, none, .bi .neq (.t 51) (.t 52)⟩, ⟨some 54, none, .ca 71 [.t 53]⟩, ⟨some 6, none, .mv (.t 54)⟩]
def q_interp_Binary_22 : AC := .seq q_interp_Binary_21 .ret
def q_interp_Binary_23 : AC := .reg [⟨some 57, none, .mv (.t 1)⟩, ⟨some 58, none, .mv (.t 2)⟩, ⟨some 59, none, .bi .lss (.t 57) (.t 58)⟩, ⟨some 60, none, .ca 71 [.t 59]⟩, ⟨some 6, none, .mv (.t 60)⟩]
def q_interp_Binary_24 : AC := .seq q_interp_Binary_23 .ret
def q_interp_Binary_25 : AC := .reg [⟨some 63, none, .mv (.t 1)⟩, ⟨some 64, none, .mv (.t 2)⟩, ⟨some 65, none, .bi .leq (.t 63) (.t 64)⟩, ⟨some 66, none, .ca 71 [.t 65]⟩, ⟨some 6, none, .mv (.t 66)⟩]
def q_interp_Binary_26 : AC := .seq q_interp_Binary_25 .ret
def q_interp_Binary_27 : AC := .reg [⟨some 69, none, .mv (.t 1)⟩, ⟨some 70, none, .mv (.t 2)⟩, ⟨some 71, none, .bi .gtr (.t 69) (.t 70)⟩, ⟨some 72, none, .ca 71 [.t 71]⟩, ⟨some 6, none, .mv (.t 72)⟩]
def q_interp_Binary_28 : AC := .seq q_interp_Binary_27 .ret
def q_interp_Binary_29 : AC := .reg [⟨some 75, none, .mv (.t 1)⟩, ⟨some 76, none, .mv (.t 2)⟩, ⟨some 77, none, .bi .geq (.t 75) (.t 76)⟩, ⟨some 78, none, .ca 71 [.t 77]⟩, ⟨some 6, none, .mv (.t 78)⟩]
def q_interp_Binary_30 : AC := .seq q_interp_Binary_29 .ret
def q_interp_Binary_31 : AC := .reg [⟨some 81, none, .mv (.t 1)⟩, ⟨some 82, none, .bi .neq (.t 81) (.c (.int .i64 0))⟩, ⟨some 83, none, .mv (.t 82)⟩, ⟨some 84, some (83, true), .mv (.t 2)⟩, ⟨some 85, some (83, true), .bi .neq (.t 84) (.c (.int .i64 0))⟩, ⟨some 86, none, .pk (.t 83) (.t 85) (.c (.bool false))⟩, ⟨some 87, none, .ca 71 [.t 86]⟩, ⟨some 6, none, .mv (.t 87)⟩]
def q_interp_Binary_32 : AC := .seq q_interp_Binary_31 .ret
def q_interp_Binary_33 : AC := .cond (.t 79) q_interp_Binary_32 .skip
def q_interp_Binary_34 : AC := .reg [⟨some 80, none, .bi .eql (.t 7) (.c (.int .i64 41))⟩, ⟨some 79, none, .mv (.t 80)⟩]
def q_interp_Binary_35 : AC := .seq q_interp_Binary_34 q_interp_Binary_33
def q_interp_Binary_36 : AC := .cond (.t 73) q_interp_Binary_30 q_interp_Binary_35
def q_interp_Binary_37 : AC := .reg [⟨some 74, none, .bi .eql (.t 7) (.c (.int .i64 40))⟩, ⟨some 73, none, .mv (.t 74)⟩]
def q_interp_Binary_38 : AC := .seq q_interp_Binary_37 q_interp_Binary_36
def q_interp_Binary_39 : AC := .cond (.t 67) q_interp_Binary_28 q_interp_Binary_38
def q_interp_Binary_40 : AC := .reg [⟨some 68, none, .bi .eql (.t 7) (.c (.int .i64 39))⟩, ⟨some 67, none, .mv (.t 68)⟩]
def q_interp_Binary_41 : AC := .seq q_interp_Binary_40 q_interp_Binary_39
def q_interp_Binary_42 : AC := .cond (.t 61) q_interp_Binary_26 q_interp_Binary_41
def q_interp_Binary_43 : AC := .reg [⟨some 62, none, .bi .eql (.t 7) (.c (.int .i64 38))⟩, ⟨some 61, none, .mv (.t 62)⟩]
def q_interp_Binary_44 : AC := .seq q_interp_Binary_43 q_interp_Binary_42
def q_interp_Binary_45 : AC := .cond (.t 55) q_interp_Binary_24 q_interp_Binary_44
def q_interp_Binary_46 : AC := .reg [⟨some 56, none, .bi .eql (.t 7) (.c (.int .i64 37))⟩, ⟨some 55, none, .mv (.t 56)⟩]
def q_interp_Binary_47 : AC := .seq q_interp_Binary_46 q_interp_Binary_45
def q_interp_Binary_48 : AC := .cond (.t 49) q_interp_Binary_22 q_interp_Binary_47
def q_interp_Binary_49 : AC := .reg [⟨some 50, none, .bi .eql (.t 7) (.c (.int .i64 36))⟩, ⟨some 49, none, .mv (.t 50)⟩]
def q_interp_Binary_50 : AC := .seq q_interp_Binary_49 q_interp_Binary_48
def q_interp_Binary_51 : AC := .cond (.t 43) q_interp_Binary_20 q_interp_Binary_50
def q_interp_Binary_52 : AC := .reg [⟨some 44, none, .bi .eql (.t 7) (.c (.int .i64 35))⟩, ⟨some 43, none, .mv (.t 44)⟩]
def q_interp_Binary_53 : AC := .seq q_interp_Binary_52 q_interp_Binary_51
def q_interp_Binary_54 : AC := .cond (.t 37) q_interp_Binary_18 q_interp_Binary_53
def q_interp_Binary_55 : AC := .reg [⟨some 38, none, .bi .eql (.t 7) (.c (.int .i64 34))⟩, ⟨some 37, none, .mv (.t 38)⟩]
def q_interp_Binary_56 : AC := .seq q_interp_Binary_55 q_interp_Binary_54
def q_interp_Binary_57 : AC := .cond (.t 31) q_interp_Binary_16 q_interp_Binary_56
def q_interp_Binary_58 : AC := .reg [⟨some 32, none, .bi .eql (.t 7) (.c (.int .i64 33))⟩, ⟨some 31, none, .mv (.t 32)⟩]
def q_interp_Binary_59 : AC := .seq q_interp_Binary_58 q_interp_Binary_57
def q_interp_Binary_60 : AC := .cond (.t 20) q_interp_Binary_14 q_interp_Binary_59
def q_interp_Binary_61 : AC := .reg [⟨some 21, none, .bi .eql (.t 7) (.c (.int .i64 32))⟩, ⟨some 20, none, .mv (.t 21)⟩]
def q_interp_Binary_62 : AC := .seq q_interp_Binary_61 q_interp_Binary_60
def q_interp_Binary_63 : AC := .cond (.t 14) q_interp_Binary_6 q_interp_Binary_62
def q_interp_Binary_64 : AC := .reg [⟨some 15, none, .bi .eql (.t 7) (.c (.int .i64 31))⟩, ⟨some 14, none, .mv (.t 15)⟩]
def q_interp_Binary_65 : AC := .seq q_interp_Binary_64 q_interp_Binary_63
def q_interp_Binary_66 : AC := .cond (.t 8) q_interp_Binary_4 q_interp_Binary_65
def q_interp_Binary_67 : AC := .reg [⟨some 9, none, .bi .eql (.t 7) (.c (.int .i64 30))⟩, ⟨some 8, none, .mv (.t 9)⟩]
def q_interp_Binary_68 : AC := .seq q_interp_Binary_67 q_interp_Binary_66
def q_interp_Binary_69 : AC := .block 0 q_interp_Binary_68
def q_interp_Binary_70 : AC := .reg [⟨some 7, none, .mv (.t 0)⟩]
def q_interp_Binary_71 : AC := .seq q_interp_Binary_70 q_interp_Binary_69
def q_interp_Binary_72 : AC := .seq q_interp_Binary_71 q_interp_Binary_2
def q_interp_Binary_73 : AC := .reg [⟨some 6, none, .mv (.c (.int .i64 0))⟩]
def q_interp_Binary_74 : AC := .seq q_interp_Binary_73 q_interp_Binary_72
def c_interp_Binary : FC := ⟨95, [6], q_interp_Binary_74⟩
theorem k_interp_Binary : okF Try.prog 46 c_interp_Binary = true := by decide +kernel
noncomputable def interp_Binary (op_0 : Int) (a_1 : Int) (b_2 : Int) : Option Int := (bif (decide (op_0 = 30)) then ((interp_saturated ((IntKind.i64.wrap (a_1 * b_2)))).bind (fun (y1 : Int) => (some y1))) else (bif (decide (op_0 = 31)) then ((interp_quotient a_1 b_2).bind (fun (y2 : Int) => ((interp_saturated y2).bind (fun (y3 : Int) => (some y3))))) else (bif (decide (op_0 = 32)) then (bif (decide (b_2 = 0)) then (some 0) else ((interp_quotient a_1 b_2).bind (fun (y4 : Int) => (some (IntKind.i64.wrap (a_1 - (IntKind.i64.wrap (b_2 * y4)))))))) else (bif (decide (op_0 = 33)) then ((interp_saturated ((IntKind.i64.wrap (a_1 + b_2)))).bind (fun (y5 : Int) => (some y5))) else (bif (decide (op_0 = 34)) then ((interp_saturated ((IntKind.i64.wrap (a_1 - b_2)))).bind (fun (y6 : Int) => (some y6))) else (bif (decide (op_0 = 35)) then ((interp_truth ((decide (a_1 = b_2)))).bind (fun (y7 : Int) => (some y7))) else (bif (decide (op_0 = 36)) then ((interp_truth ((!decide (a_1 = b_2)))).bind (fun (y8 : Int) => (some y8))) else (bif (decide (op_0 = 37)) then ((interp_truth ((decide (a_1 < b_2)))).bind (fun (y9 : Int) => (some y9))) else (bif (decide (op_0 = 38)) then ((interp_truth ((decide (a_1 ≤ b_2)))).bind (fun (y10 : Int) => (some y10))) else (bif (decide (op_0 = 39)) then ((interp_truth ((decide (b_2 < a_1)))).bind (fun (y11 : Int) => (some y11))) else (bif (decide (op_0 = 40)) then ((interp_truth ((decide (b_2 ≤ a_1)))).bind (fun (y12 : Int) => (some y12))) else (bif (decide (op_0 = 41)) then ((interp_truth (((!decide (a_1 = 0)) && (!decide (b_2 = 0))))).bind (fun (y15 : Int) => (some y15))) else ((interp_truth (((!decide (a_1 = 0)) || (!decide (b_2 = 0))))).bind (fun (y18 : Int) => (some y18)))))))))))))))
theorem interp_Binary.ok {op_0 : Int} {a_1 : Int} {b_2 : Int} {r : Int} (h : interp_Binary op_0 a_1 b_2 = some r) : PC Try.prog 46 [.int .i64 op_0, .int .i64 a_1, .int .i64 b_2] (.int .i64 r) := by
  refine PC_run k_interp_Binary rfl (L := [(0, .u (.int .i64 op_0)), (1, .u (.int .i64 a_1)), (2, .u (.int .i64 b_2))]) rfl ?_
  show Run Try.prog 95 (retQ [6] (.int .i64 r)) [] q_interp_Binary_74 _
  refine R_seq ?_
  refine R_reg ?_
  refine S_pure trivial (O_mv (d := .u (.int .i64 0)) (by kernel_rfl)) ?_
  refine Rs_nil ?_
  refine N_s ?_
  refine R_seq ?_
  refine R_seq ?_
  refine R_reg ?_
  refine S_pure trivial (O_mv (d := .u (.int .i64 op_0)) (by kernel_rfl)) ?_
  refine Rs_nil ?_
  refine N_s ?_
  refine R_block ?_
  refine R_seq ?_
  refine R_reg ?_
  refine S_pure trivial (O_eql (k := .i64) (a := op_0) (b := 30) (by kernel_rfl) (by kernel_rfl)) ?_
  refine S_pure trivial (O_mv (d := .u (.bool ((decide (op_0 = 30))))) (by kernel_rfl)) ?_
  refine Rs_nil ?_
  refine N_s ?_
  refine R_cond (c := (decide (op_0 = 30))) (by kernel_rfl) h (fun h => ?_) (fun h => ?_)
  · refine R_seq ?_
    refine R_reg ?_
    refine S_pure trivial (O_mv (d := .u (.int .i64 a_1)) (by kernel_rfl)) ?_
    refine S_pure trivial (O_mv (d := .u (.int .i64 b_2)) (by kernel_rfl)) ?_
    refine S_pure trivial (O_mul (k := .i64) (a := a_1) (b := b_2) (by kernel_rfl) (by kernel_rfl)) ?_
    obtain ⟨y1, hy1, h⟩ := bindS h
    refine S_pure trivial (O_ca (us := [.int .i64 ((IntKind.i64.wrap (a_1 * b_2)))]) (r := .int .i64 y1) (by kernel_rfl) (interp_saturated.ok hy1)) ?_
    refine S_pure trivial (O_mv (d := .u (.int .i64 y1)) (by kernel_rfl)) ?_
    refine Rs_nil ?_
    refine N_s ?_
    obtain rfl := (Option.some.inj h)
    refine R_ret ?_
    exact Q_ret (x := .int .i64 y1) (by kernel_rfl) (.refl _)
  · refine R_seq ?_
    refine R_reg ?_
    refine S_pure trivial (O_eql (k := .i64) (a := op_0) (b := 31) (by kernel_rfl) (by kernel_rfl)) ?_
    refine S_pure trivial (O_mv (d := .u (.bool ((decide (op_0 = 31))))) (by kernel_rfl)) ?_
    refine Rs_nil ?_
    refine N_s ?_
    refine R_cond (c := (decide (op_0 = 31))) (by kernel_rfl) h (fun h => ?_) (fun h => ?_)
    · refine R_seq ?_
      refine R_reg ?_
      refine S_pure trivial (O_mv (d := .u (.int .i64 a_1)) (by kernel_rfl)) ?_
      refine S_pure trivial (O_mv (d := .u (.int .i64 b_2)) (by kernel_rfl)) ?_
      obtain ⟨y2, hy2, h⟩ := bindS h
      refine S_pure trivial (O_ca (us := [.int .i64 a_1, .int .i64 b_2]) (r := .int .i64 y2) (by kernel_rfl) (interp_quotient.ok hy2)) ?_
      obtain ⟨y3, hy3, h⟩ := bindS h
      refine S_pure trivial (O_ca (us := [.int .i64 y2]) (r := .int .i64 y3) (by kernel_rfl) (interp_saturated.ok hy3)) ?_
      refine S_pure trivial (O_mv (d := .u (.int .i64 y3)) (by kernel_rfl)) ?_
      refine Rs_nil ?_
      refine N_s ?_
      obtain rfl := (Option.some.inj h)
      refine R_ret ?_
      exact Q_ret (x := .int .i64 y3) (by kernel_rfl) (.refl _)
    · refine R_seq ?_
      refine R_reg ?_
      refine S_pure trivial (O_eql (k := .i64) (a := op_0) (b := 32) (by kernel_rfl) (by kernel_rfl)) ?_
      refine S_pure trivial (O_mv (d := .u (.bool ((decide (op_0 = 32))))) (by kernel_rfl)) ?_
      refine Rs_nil ?_
      refine N_s ?_
      refine R_cond (c := (decide (op_0 = 32))) (by kernel_rfl) h (fun h => ?_) (fun h => ?_)
      · refine R_seq ?_
        refine R_seq ?_
        refine R_reg ?_
        refine S_pure trivial (O_mv (d := .u (.int .i64 b_2)) (by kernel_rfl)) ?_
        refine S_pure trivial (O_eql (k := .i64) (a := b_2) (b := 0) (by kernel_rfl) (by kernel_rfl)) ?_
        refine Rs_nil ?_
        refine N_s ?_
        refine R_cond (c := (decide (b_2 = 0))) (by kernel_rfl) h (fun h => ?_) (fun h => ?_)
        · refine R_seq ?_
          refine R_reg ?_
          refine S_pure trivial (O_mv (d := .u (.int .i64 0)) (by kernel_rfl)) ?_
          refine Rs_nil ?_
          refine N_s ?_
          obtain rfl := (Option.some.inj h)
          refine R_ret ?_
          exact Q_ret (x := .int .i64 0) (by kernel_rfl) (.refl _)
        · refine R_skip ?_
          refine N_s ?_
          refine R_seq ?_
          refine R_reg ?_
          refine S_pure trivial (O_mv (d := .u (.int .i64 a_1)) (by kernel_rfl)) ?_
          refine S_pure trivial (O_mv (d := .u (.int .i64 b_2)) (by kernel_rfl)) ?_
          refine S_pure trivial (O_mv (d := .u (.int .i64 a_1)) (by kernel_rfl)) ?_
          refine S_pure trivial (O_mv (d := .u (.int .i64 b_2)) (by kernel_rfl)) ?_
          obtain ⟨y4, hy4, h⟩ := bindS h
          refine S_pure trivial (O_ca (us := [.int .i64 a_1, .int .i64 b_2]) (r := .int .i64 y4) (by kernel_rfl) (interp_quotient.ok hy4)) ?_
          refine S_pure trivial (O_mul (k := .i64) (a := b_2) (b := y4) (by kernel_rfl) (by kernel_rfl)) ?_
          refine S_pure trivial (O_sub (k := .i64) (a := a_1) (b := (IntKind.i64.wrap (b_2 * y4))) (by kernel_rfl) (by kernel_rfl)) ?_
          refine S_pure trivial (O_mv (d := .u (.int .i64 ((IntKind.i64.wrap (a_1 - (IntKind.i64.wrap (b_2 * y4))))))) (by kernel_rfl)) ?_
          refine Rs_nil ?_
          refine N_s ?_
          obtain rfl := (Option.some.inj h)
          refine R_ret ?_
          exact Q_ret (x := .int .i64 ((IntKind.i64.wrap (a_1 - (IntKind.i64.wrap (b_2 * y4)))))) (by kernel_rfl) (.refl _)
      · refine R_seq ?_
        refine R_reg ?_
        refine S_pure trivial (O_eql (k := .i64) (a := op_0) (b := 33) (by kernel_rfl) (by kernel_rfl)) ?_
        refine S_pure trivial (O_mv (d := .u (.bool ((decide (op_0 = 33))))) (by kernel_rfl)) ?_
        refine Rs_nil ?_
        refine N_s ?_
        refine R_cond (c := (decide (op_0 = 33))) (by kernel_rfl) h (fun h => ?_) (fun h => ?_)
        · refine R_seq ?_
          refine R_reg ?_
          refine S_pure trivial (O_mv (d := .u (.int .i64 a_1)) (by kernel_rfl)) ?_
          refine S_pure trivial (O_mv (d := .u (.int .i64 b_2)) (by kernel_rfl)) ?_
          refine S_pure trivial (O_add (k := .i64) (a := a_1) (b := b_2) (by kernel_rfl) (by kernel_rfl)) ?_
          obtain ⟨y5, hy5, h⟩ := bindS h
          refine S_pure trivial (O_ca (us := [.int .i64 ((IntKind.i64.wrap (a_1 + b_2)))]) (r := .int .i64 y5) (by kernel_rfl) (interp_saturated.ok hy5)) ?_
          refine S_pure trivial (O_mv (d := .u (.int .i64 y5)) (by kernel_rfl)) ?_
          refine Rs_nil ?_
          refine N_s ?_
          obtain rfl := (Option.some.inj h)
          refine R_ret ?_
          exact Q_ret (x := .int .i64 y5) (by kernel_rfl) (.refl _)
        · refine R_seq ?_
          refine R_reg ?_
          refine S_pure trivial (O_eql (k := .i64) (a := op_0) (b := 34) (by kernel_rfl) (by kernel_rfl)) ?_
          refine S_pure trivial (O_mv (d := .u (.bool ((decide (op_0 = 34))))) (by kernel_rfl)) ?_
          refine Rs_nil ?_
          refine N_s ?_
          refine R_cond (c := (decide (op_0 = 34))) (by kernel_rfl) h (fun h => ?_) (fun h => ?_)
          · refine R_seq ?_
            refine R_reg ?_
            refine S_pure trivial (O_mv (d := .u (.int .i64 a_1)) (by kernel_rfl)) ?_
            refine S_pure trivial (O_mv (d := .u (.int .i64 b_2)) (by kernel_rfl)) ?_
            refine S_pure trivial (O_sub (k := .i64) (a := a_1) (b := b_2) (by kernel_rfl) (by kernel_rfl)) ?_
            obtain ⟨y6, hy6, h⟩ := bindS h
            refine S_pure trivial (O_ca (us := [.int .i64 ((IntKind.i64.wrap (a_1 - b_2)))]) (r := .int .i64 y6) (by kernel_rfl) (interp_saturated.ok hy6)) ?_
            refine S_pure trivial (O_mv (d := .u (.int .i64 y6)) (by kernel_rfl)) ?_
            refine Rs_nil ?_
            refine N_s ?_
            obtain rfl := (Option.some.inj h)
            refine R_ret ?_
            exact Q_ret (x := .int .i64 y6) (by kernel_rfl) (.refl _)
          · refine R_seq ?_
            refine R_reg ?_
            refine S_pure trivial (O_eql (k := .i64) (a := op_0) (b := 35) (by kernel_rfl) (by kernel_rfl)) ?_
            refine S_pure trivial (O_mv (d := .u (.bool ((decide (op_0 = 35))))) (by kernel_rfl)) ?_
            refine Rs_nil ?_
            refine N_s ?_
            refine R_cond (c := (decide (op_0 = 35))) (by kernel_rfl) h (fun h => ?_) (fun h => ?_)
            · refine R_seq ?_
              refine R_reg ?_
              refine S_pure trivial (O_mv (d := .u (.int .i64 a_1)) (by kernel_rfl)) ?_
              refine S_pure trivial (O_mv (d := .u (.int .i64 b_2)) (by kernel_rfl)) ?_
              refine S_pure trivial (O_eql (k := .i64) (a := a_1) (b := b_2) (by kernel_rfl) (by kernel_rfl)) ?_
              obtain ⟨y7, hy7, h⟩ := bindS h
              refine S_pure trivial (O_ca (us := [.bool ((decide (a_1 = b_2)))]) (r := .int .i64 y7) (by kernel_rfl) (interp_truth.ok hy7)) ?_
              refine S_pure trivial (O_mv (d := .u (.int .i64 y7)) (by kernel_rfl)) ?_
              refine Rs_nil ?_
              refine N_s ?_
              obtain rfl := (Option.some.inj h)
              refine R_ret ?_
              exact Q_ret (x := .int .i64 y7) (by kernel_rfl) (.refl _)
            · refine R_seq ?_
              refine R_reg ?_
              refine S_pure trivial (O_eql (k := .i64) (a := op_0) (b := 36) (by kernel_rfl) (by kernel_rfl)) ?_
              refine S_pure trivial (O_mv (d := .u (.bool ((decide (op_0 = 36))))) (by kernel_rfl)) ?_
              refine Rs_nil ?_
              refine N_s ?_
              refine R_cond (c := (decide (op_0 = 36))) (by kernel_rfl) h (fun h => ?_) (fun h => ?_)
              · refine R_seq ?_
                refine R_reg ?_
                refine S_pure trivial (O_mv (d := .u (.int .i64 a_1)) (by kernel_rfl)) ?_
                refine S_pure trivial (O_mv (d := .u (.int .i64 b_2)) (by kernel_rfl)) ?_
                refine S_pure trivial (O_neq (k := .i64) (a := a_1) (b := b_2) (by kernel_rfl) (by kernel_rfl)) ?_
                obtain ⟨y8, hy8, h⟩ := bindS h
                refine S_pure trivial (O_ca (us := [.bool ((!decide (a_1 = b_2)))]) (r := .int .i64 y8) (by kernel_rfl) (interp_truth.ok hy8)) ?_
                refine S_pure trivial (O_mv (d := .u (.int .i64 y8)) (by kernel_rfl)) ?_
                refine Rs_nil ?_
                refine N_s ?_
                obtain rfl := (Option.some.inj h)
                refine R_ret ?_
                exact Q_ret (x := .int .i64 y8) (by kernel_rfl) (.refl _)
              · refine R_seq ?_
                refine R_reg ?_
                refine S_pure trivial (O_eql (k := .i64) (a := op_0) (b := 37) (by kernel_rfl) (by kernel_rfl)) ?_
                refine S_pure trivial (O_mv (d := .u (.bool ((decide (op_0 = 37))))) (by kernel_rfl)) ?_
                refine Rs_nil ?_
                refine N_s ?_
                refine R_cond (c := (decide (op_0 = 37))) (by kernel_rfl) h (fun h => ?_) (fun h => ?_)
                · refine R_seq ?_
                  refine R_reg ?_
                  refine S_pure trivial (O_mv (d := .u (.int .i64 a_1)) (by kernel_rfl)) ?_
                  refine S_pure trivial (O_mv (d := .u (.int .i64 b_2)) (by kernel_rfl)) ?_
                  refine S_pure trivial (O_lss (k := .i64) (a := a_1) (b := b_2) (by kernel_rfl) (by kernel_rfl)) ?_
                  obtain ⟨y9, hy9, h⟩ := bindS h
                  refine S_pure trivial (O_ca (us := [.bool ((decide (a_1 < b_2)))]) (r := .int .i64 y9) (by kernel_rfl) (interp_truth.ok hy9)) ?_
                  refine S_pure trivial (O_mv (d := .u (.int .i64 y9)) (by kernel_rfl)) ?_
                  refine Rs_nil ?_
                  refine N_s ?_
                  obtain rfl := (Option.some.inj h)
                  refine R_ret ?_
                  exact Q_ret (x := .int .i64 y9) (by kernel_rfl) (.refl _)
                · refine R_seq ?_
                  refine R_reg ?_
                  refine S_pure trivial (O_eql (k := .i64) (a := op_0) (b := 38) (by kernel_rfl) (by kernel_rfl)) ?_
                  refine S_pure trivial (O_mv (d := .u (.bool ((decide (op_0 = 38))))) (by kernel_rfl)) ?_
                  refine Rs_nil ?_
                  refine N_s ?_
                  refine R_cond (c := (decide (op_0 = 38))) (by kernel_rfl) h (fun h => ?_) (fun h => ?_)
                  · refine R_seq ?_
                    refine R_reg ?_
                    refine S_pure trivial (O_mv (d := .u (.int .i64 a_1)) (by kernel_rfl)) ?_
                    refine S_pure trivial (O_mv (d := .u (.int .i64 b_2)) (by kernel_rfl)) ?_
                    refine S_pure trivial (O_leq (k := .i64) (a := a_1) (b := b_2) (by kernel_rfl) (by kernel_rfl)) ?_
                    obtain ⟨y10, hy10, h⟩ := bindS h
                    refine S_pure trivial (O_ca (us := [.bool ((decide (a_1 ≤ b_2)))]) (r := .int .i64 y10) (by kernel_rfl) (interp_truth.ok hy10)) ?_
                    refine S_pure trivial (O_mv (d := .u (.int .i64 y10)) (by kernel_rfl)) ?_
                    refine Rs_nil ?_
                    refine N_s ?_
                    obtain rfl := (Option.some.inj h)
                    refine R_ret ?_
                    exact Q_ret (x := .int .i64 y10) (by kernel_rfl) (.refl _)
                  · refine R_seq ?_
                    refine R_reg ?_
                    refine S_pure trivial (O_eql (k := .i64) (a := op_0) (b := 39) (by kernel_rfl) (by kernel_rfl)) ?_
                    refine S_pure trivial (O_mv (d := .u (.bool ((decide (op_0 = 39))))) (by kernel_rfl)) ?_
                    refine Rs_nil ?_
                    refine N_s ?_
                    refine R_cond (c := (decide (op_0 = 39))) (by kernel_rfl) h (fun h => ?_) (fun h => ?_)
                    · refine R_seq ?_
                      refine R_reg ?_
                      refine S_pure trivial (O_mv (d := .u (.int .i64 a_1)) (by kernel_rfl)) ?_
                      refine S_pure trivial (O_mv (d := .u (.int .i64 b_2)) (by kernel_rfl)) ?_
                      refine S_pure trivial (O_gtr (k := .i64) (a := a_1) (b := b_2) (by kernel_rfl) (by kernel_rfl)) ?_
                      obtain ⟨y11, hy11, h⟩ := bindS h
                      refine S_pure trivial (O_ca (us := [.bool ((decide (b_2 < a_1)))]) (r := .int .i64 y11) (by kernel_rfl) (interp_truth.ok hy11)) ?_
                      refine S_pure trivial (O_mv (d := .u (.int .i64 y11)) (by kernel_rfl)) ?_
                      refine Rs_nil ?_
                      refine N_s ?_
                      obtain rfl := (Option.some.inj h)
                      refine R_ret ?_
                      exact Q_ret (x := .int .i64 y11) (by kernel_rfl) (.refl _)
                    · refine R_seq ?_
                      refine R_reg ?_
                      refine S_pure trivial (O_eql (k := .i64) (a := op_0) (b := 40) (by kernel_rfl) (by kernel_rfl)) ?_
                      refine S_pure trivial (O_mv (d := .u (.bool ((decide (op_0 = 40))))) (by kernel_rfl)) ?_
                      refine Rs_nil ?_
                      refine N_s ?_
                      refine R_cond (c := (decide (op_0 = 40))) (by kernel_rfl) h (fun h => ?_) (fun h => ?_)
                      · refine R_seq ?_
                        refine R_reg ?_
                        refine S_pure trivial (O_mv (d := .u (.int .i64 a_1)) (by kernel_rfl)) ?_
                        refine S_pure trivial (O_mv (d := .u (.int .i64 b_2)) (by kernel_rfl)) ?_
                        refine S_pure trivial (O_geq (k := .i64) (a := a_1) (b := b_2) (by kernel_rfl) (by kernel_rfl)) ?_
                        obtain ⟨y12, hy12, h⟩ := bindS h
                        refine S_pure trivial (O_ca (us := [.bool ((decide (b_2 ≤ a_1)))]) (r := .int .i64 y12) (by kernel_rfl) (interp_truth.ok hy12)) ?_
                        refine S_pure trivial (O_mv (d := .u (.int .i64 y12)) (by kernel_rfl)) ?_
                        refine Rs_nil ?_
                        refine N_s ?_
                        obtain rfl := (Option.some.inj h)
                        refine R_ret ?_
                        exact Q_ret (x := .int .i64 y12) (by kernel_rfl) (.refl _)
                      · refine R_seq ?_
                        refine R_reg ?_
                        refine S_pure trivial (O_eql (k := .i64) (a := op_0) (b := 41) (by kernel_rfl) (by kernel_rfl)) ?_
                        refine S_pure trivial (O_mv (d := .u (.bool ((decide (op_0 = 41))))) (by kernel_rfl)) ?_
                        refine Rs_nil ?_
                        refine N_s ?_
                        refine R_cond (c := (decide (op_0 = 41))) (by kernel_rfl) h (fun h => ?_) (fun h => ?_)
                        · refine R_seq ?_
                          refine R_reg ?_
                          refine S_pure trivial (O_mv (d := .u (.int .i64 a_1)) (by kernel_rfl)) ?_
                          refine S_pure trivial (O_neq (k := .i64) (a := a_1) (b := 0) (by kernel_rfl) (by kernel_rfl)) ?_
                          refine S_pure trivial (O_mv (d := .u (.bool ((!decide (a_1 = 0))))) (by kernel_rfl)) ?_
                          have K13 : ∀ v14 : Bool, v14 = ((!decide (a_1 = 0)) && (!decide (b_2 = 0))) → Rs Try.prog 95 (retQ [6] (.int .i64 r)) [.s .ret, .b 0, .s q_interp_Binary_2] [⟨some 87, none, .ca 71 [.t 86]⟩, ⟨some 6, none, .mv (.t 87)⟩] (mkSt [(86, .u (.bool v14))] [] 0) := by
                            intro v14 e; subst e
                            obtain ⟨y15, hy15, h⟩ := bindS h
                            refine S_pure trivial (O_ca (us := [.bool (((!decide (a_1 = 0)) && (!decide (b_2 = 0))))]) (r := .int .i64 y15) (by kernel_rfl) (interp_truth.ok hy15)) ?_
                            refine S_pure trivial (O_mv (d := .u (.int .i64 y15)) (by kernel_rfl)) ?_
                            refine Rs_nil ?_
                            refine N_s ?_
                            obtain rfl := (Option.some.inj h)
                            refine R_ret ?_
                            exact Q_ret (x := .int .i64 y15) (by kernel_rfl) (.refl _)
                          refine S_case0 (t := 83) (c := (!decide (a_1 = 0))) (by kernel_rfl) (fun hc => ?_) (fun hc => ?_)
                          · refine S_pure (by show _ = _; kernel_rfl) (O_mv (d := .u (.int .i64 b_2)) (by kernel_rfl)) ?_
                            refine S_pure (by show _ = _; kernel_rfl) (O_neq (k := .i64) (a := b_2) (b := 0) (by kernel_rfl) (by kernel_rfl)) ?_
                            refine S_pure trivial (O_pkt (d := .u (.bool ((!decide (b_2 = 0))))) (by kernel_rfl) (by kernel_rfl)) ?_
                            exact Rs_weak (W_to (by kernel_rfl) (by kernel_rfl) (by kernel_rfl)) (K13 _ (by rw [hc] <;> rfl))
                          · refine S_skip (b := false) (by kernel_rfl) rfl ?_
                            refine S_skip (b := false) (by kernel_rfl) rfl ?_
                            refine S_pure trivial (O_pkf (d := .u (.bool false)) (by kernel_rfl) (by kernel_rfl)) ?_
                            exact Rs_weak (W_to (by kernel_rfl) (by kernel_rfl) (by kernel_rfl)) (K13 _ (by rw [hc] <;> rfl))
                        · refine R_skip ?_
                          refine N_b ?_
                          refine N_s ?_
                          refine R_seq ?_
                          refine R_reg ?_
                          refine S_pure trivial (O_mv (d := .u (.int .i64 a_1)) (by kernel_rfl)) ?_
                          refine S_pure trivial (O_neq (k := .i64) (a := a_1) (b := 0) (by kernel_rfl) (by kernel_rfl)) ?_
                          refine S_pure trivial (O_mv (d := .u (.bool ((!decide (a_1 = 0))))) (by kernel_rfl)) ?_
                          have K16 : ∀ v17 : Bool, v17 = ((!decide (a_1 = 0)) || (!decide (b_2 = 0))) → Rs Try.prog 95 (retQ [6] (.int .i64 r)) [.s .ret] [⟨some 94, none, .ca 71 [.t 93]⟩, ⟨some 6, none, .mv (.t 94)⟩] (mkSt [(93, .u (.bool v17))] [] 0) := by
                            intro v17 e; subst e
                            obtain ⟨y18, hy18, h⟩ := bindS h
                            refine S_pure trivial (O_ca (us := [.bool (((!decide (a_1 = 0)) || (!decide (b_2 = 0))))]) (r := .int .i64 y18) (by kernel_rfl) (interp_truth.ok hy18)) ?_
                            refine S_pure trivial (O_mv (d := .u (.int .i64 y18)) (by kernel_rfl)) ?_
                            refine Rs_nil ?_
                            refine N_s ?_
                            obtain rfl := (Option.some.inj h)
                            refine R_ret ?_
                            exact Q_ret (x := .int .i64 y18) (by kernel_rfl) (.refl _)
                          refine S_case0 (t := 90) (c := (!decide (a_1 = 0))) (by kernel_rfl) (fun hc => ?_) (fun hc => ?_)
                          · refine S_skip (b := true) (by kernel_rfl) rfl ?_
                            refine S_skip (b := true) (by kernel_rfl) rfl ?_
                            refine S_pure trivial (O_pkt (d := .u (.bool true)) (by kernel_rfl) (by kernel_rfl)) ?_
                            exact Rs_weak (W_to (by kernel_rfl) (by kernel_rfl) (by kernel_rfl)) (K16 _ (by rw [hc] <;> rfl))
                          · refine S_pure (by show _ = _; kernel_rfl) (O_mv (d := .u (.int .i64 b_2)) (by kernel_rfl)) ?_
                            refine S_pure (by show _ = _; kernel_rfl) (O_neq (k := .i64) (a := b_2) (b := 0) (by kernel_rfl) (by kernel_rfl)) ?_
                            refine S_pure trivial (O_pkf (d := .u (.bool ((!decide (b_2 = 0))))) (by kernel_rfl) (by kernel_rfl)) ?_
                            exact Rs_weak (W_to (by kernel_rfl) (by kernel_rfl) (by kernel_rfl)) (K16 _ (by rw [hc] <;> rfl))

/-! ### selfstab/eval.Binary -/
def q_eval_Binary_1 : AC := .reg [⟨some 6, none, .mv (.c (.int .i64 0))⟩, ⟨some 7, none, .mv (.c (.int .i64 2))⟩]
def q_eval_Binary_2 : AC := .seq q_eval_Binary_1 .ret
def q_eval_Binary_3 : AC := .cond (.t 20) q_eval_Binary_2 .skip
def q_eval_Binary_4 : AC := .reg [⟨some 21, none, .mv (.t 0)⟩, ⟨some 22, none, .mv (.t 1)⟩, ⟨some 23, none, .mv (.t 2)⟩, ⟨some 24, none, .ca 46 [.t 21, .t 22, .t 23]⟩, ⟨some 6, none, .mv (.t 24)⟩, ⟨some 7, none, .mv (.c (.int .i64 0))⟩]
def q_eval_Binary_5 : AC := .seq q_eval_Binary_4 .ret
def q_eval_Binary_6 : AC := .reg [⟨some 8, none, .mv (.t 0)⟩, ⟨some 9, none, .bi .lss (.t 8) (.c (.int .i64 30))⟩, ⟨some 10, none, .mv (.t 9)⟩, ⟨some 11, some (10, false), .mv (.t 0)⟩, ⟨some 12, some (10, false), .bi .gtr (.t 11) (.c (.int .i64 42))⟩, ⟨some 13, none, .pk (.t 10) (.c (.bool true)) (.t 12)⟩, ⟨some 14, none, .mv (.t 13)⟩, ⟨some 15, some (14, false), .mv (.t 1)⟩, ⟨some 16, some (14, false), .mv (.t 2)⟩, ⟨some 17, some (14, false), .bs 1 [.t 15, .t 16]⟩, ⟨some 18, some (14, false), .ca 43 [.t 17]⟩, ⟨some 19, some (14, false), .un .not (.t 18)⟩, ⟨some 20, none, .pk (.t 14) (.c (.bool true)) (.t 19)⟩]
def q_eval_Binary_7 : AC := .seq q_eval_Binary_6 q_eval_Binary_3
def q_eval_Binary_8 : AC := .seq q_eval_Binary_7 q_eval_Binary_5
def q_eval_Binary_9 : AC := .reg [⟨some 6, none, .mv (.c (.int .i64 0))⟩, ⟨some 7, none, .mv (.c (.int .i64 0))⟩]
def q_eval_Binary_10 : AC := .seq q_eval_Binary_9 q_eval_Binary_8
def c_eval_Binary : FC := ⟨25, [6, 7], q_eval_Binary_10⟩
theorem k_eval_Binary : okF Try.prog 22 c_eval_Binary = true := by decide +kernel
noncomputable def eval_Binary (op_0 : Int) (a_1 : Int) (b_2 : Int) : Option (Int × Int) := ((bif ((decide (op_0 < 30)) || (decide (42 < op_0))) then (some true) else ((eval_small ([a_1, b_2])).bind (fun (y7 : Bool) => (some (!y7))))).bind (fun (o5 : Bool) => (bif o5 then (some (0, 2)) else ((interp_Binary op_0 a_1 b_2).bind (fun (y6 : Int) => (some (y6, 0)))))))
theorem eval_Binary.ok {op_0 : Int} {a_1 : Int} {b_2 : Int} {r : Int × Int} (h : eval_Binary op_0 a_1 b_2 = some r) : PC Try.prog 22 [.int .i64 op_0, .int .i64 a_1, .int .i64 b_2] (.tup [.int .i64 r.1, .int .i64 r.2]) := by
  refine PC_run k_eval_Binary rfl (L := [(0, .u (.int .i64 op_0)), (1, .u (.int .i64 a_1)), (2, .u (.int .i64 b_2))]) rfl ?_
  show Run Try.prog 25 (retQ [6, 7] (.tup [.int .i64 r.1, .int .i64 r.2])) [] q_eval_Binary_10 _
  refine R_seq ?_
  refine R_reg ?_
  refine S_pure trivial (O_mv (d := .u (.int .i64 0)) (by kernel_rfl)) ?_
  refine S_pure trivial (O_mv (d := .u (.int .i64 0)) (by kernel_rfl)) ?_
  refine Rs_nil ?_
  refine N_s ?_
  refine R_seq ?_
  refine R_seq ?_
  refine R_reg ?_
  refine S_pure trivial (O_mv (d := .u (.int .i64 op_0)) (by kernel_rfl)) ?_
  refine S_pure trivial (O_lss (k := .i64) (a := op_0) (b := 30) (by kernel_rfl) (by kernel_rfl)) ?_
  refine S_pure trivial (O_mv (d := .u (.bool ((decide (op_0 < 30))))) (by kernel_rfl)) ?_
  have K1 : ∀ v2 : Bool, v2 = ((decide (op_0 < 30)) || (decide (42 < op_0))) → Rs Try.prog 25 (retQ [6, 7] (.tup [.int .i64 r.1, .int .i64 r.2])) [.s q_eval_Binary_3, .s q_eval_Binary_5] [⟨some 14, none, .mv (.t 13)⟩, ⟨some 15, some (14, false), .mv (.t 1)⟩, ⟨some 16, some (14, false), .mv (.t 2)⟩, ⟨some 17, some (14, false), .bs 1 [.t 15, .t 16]⟩, ⟨some 18, some (14, false), .ca 43 [.t 17]⟩, ⟨some 19, some (14, false), .un .not (.t 18)⟩, ⟨some 20, none, .pk (.t 14) (.c (.bool true)) (.t 19)⟩] (mkSt [(0, .u (.int .i64 op_0)), (1, .u (.int .i64 a_1)), (2, .u (.int .i64 b_2)), (13, .u (.bool v2))] [] 0) := by
    intro v2 e; subst e
    refine S_pure trivial (O_mv (d := .u (.bool (((decide (op_0 < 30)) || (decide (42 < op_0)))))) (by kernel_rfl)) ?_
    obtain ⟨o5, hE, h⟩ := bindS h
    have K3 : Rs Try.prog 25 (retQ [6, 7] (.tup [.int .i64 r.1, .int .i64 r.2])) [.s q_eval_Binary_3, .s q_eval_Binary_5] [] (mkSt [(0, .u (.int .i64 op_0)), (1, .u (.int .i64 a_1)), (2, .u (.int .i64 b_2)), (20, .u (.bool o5))] [] 0) := by
      refine Rs_nil ?_
      refine N_s ?_
      refine R_cond (c := o5) (by kernel_rfl) h (fun h => ?_) (fun h => ?_)
      · refine R_seq ?_
        refine R_reg ?_
        refine S_pure trivial (O_mv (d := .u (.int .i64 0)) (by kernel_rfl)) ?_
        refine S_pure trivial (O_mv (d := .u (.int .i64 2)) (by kernel_rfl)) ?_
        refine Rs_nil ?_
        refine N_s ?_
        obtain rfl := (Option.some.inj h)
        refine R_ret ?_
        exact Q_ret (x := .tup [.int .i64 0, .int .i64 2]) (by kernel_rfl) (.refl _)
      · refine R_skip ?_
        refine N_s ?_
        refine R_seq ?_
        refine R_reg ?_
        refine S_pure trivial (O_mv (d := .u (.int .i64 op_0)) (by kernel_rfl)) ?_
        refine S_pure trivial (O_mv (d := .u (.int .i64 a_1)) (by kernel_rfl)) ?_
        refine S_pure trivial (O_mv (d := .u (.int .i64 b_2)) (by kernel_rfl)) ?_
        obtain ⟨y6, hy6, h⟩ := bindS h
        refine S_pure trivial (O_ca (us := [.int .i64 op_0, .int .i64 a_1, .int .i64 b_2]) (r := .int .i64 y6) (by kernel_rfl) (interp_Binary.ok hy6)) ?_
        refine S_pure trivial (O_mv (d := .u (.int .i64 y6)) (by kernel_rfl)) ?_
        refine S_pure trivial (O_mv (d := .u (.int .i64 0)) (by kernel_rfl)) ?_
        refine Rs_nil ?_
        refine N_s ?_
        obtain rfl := (Option.some.inj h)
        refine R_ret ?_
        exact Q_ret (x := .tup [.int .i64 y6, .int .i64 0]) (by kernel_rfl) (.refl _)
    replace h := hE
    refine S_case (t := 14) (c := ((decide (op_0 < 30)) || (decide (42 < op_0)))) (by kernel_rfl) h (fun hc h => ?_) (fun hc h => ?_)
    · refine S_skip (b := true) (by kernel_rfl) rfl ?_
      refine S_skip (b := true) (by kernel_rfl) rfl ?_
      refine S_skip (b := true) (by kernel_rfl) rfl ?_
      refine S_skip (b := true) (by kernel_rfl) rfl ?_
      refine S_skip (b := true) (by kernel_rfl) rfl ?_
      refine S_pure trivial (O_pkt (d := .u (.bool true)) (by kernel_rfl) (by kernel_rfl)) ?_
      obtain rfl := Option.some.inj h
      exact Rs_weak (W_to (by kernel_rfl) (by kernel_rfl) (by kernel_rfl)) K3
    · refine S_pure (by show _ = _; kernel_rfl) (O_mv (d := .u (.int .i64 a_1)) (by kernel_rfl)) ?_
      refine S_pure (by show _ = _; kernel_rfl) (O_mv (d := .u (.int .i64 b_2)) (by kernel_rfl)) ?_
      refine S_up (by show _ = _; kernel_rfl) (O_bs (els := [[.u (.int .i64 a_1)], [.u (.int .i64 b_2)]]) (uss := List.map (cInt .i64) ([a_1, b_2])) (m := List.length ([a_1, b_2])) (by kernel_rfl) rfl (by kernel_rfl) (by kernel_rfl)) ?_
      obtain ⟨y7, hy7, h⟩ := bindS h
      refine S_pure (by show _ = _; kernel_rfl) (O_caf (ds := [.msl 0 [a_1, b_2].length]) (us := [.sl (List.map (cInt .i64) ([a_1, b_2]))]) (r := .bool y7) (by kernel_rfl) (fz_cons (fz_msl (s := 1) (c := (cInt .i64)) (li := [a_1, b_2]) (by kernel_rfl)) fz_nil) (eval_small.ok hy7) rfl) ?_
      refine S_pure (by show _ = _; kernel_rfl) (O_not (b := y7) (by kernel_rfl)) ?_
      refine S_pure trivial (O_pkf (d := .u (.bool ((!y7)))) (by kernel_rfl) (by kernel_rfl)) ?_
      obtain rfl := Option.some.inj h
      exact Rs_weak (W_to (by kernel_rfl) (by kernel_rfl) (by kernel_rfl)) K3
  refine S_case0 (t := 10) (c := (decide (op_0 < 30))) (by kernel_rfl) (fun hc => ?_) (fun hc => ?_)
  · refine S_skip (b := true) (by kernel_rfl) rfl ?_
    refine S_skip (b := true) (by kernel_rfl) rfl ?_
    refine S_pure trivial (O_pkt (d := .u (.bool true)) (by kernel_rfl) (by kernel_rfl)) ?_
    exact Rs_weak (W_to (by kernel_rfl) (by kernel_rfl) (by kernel_rfl)) (K1 _ (by rw [hc] <;> rfl))
  · refine S_pure (by show _ = _; kernel_rfl) (O_mv (d := .u (.int .i64 op_0)) (by kernel_rfl)) ?_
    refine S_pure (by show _ = _; kernel_rfl) (O_gtr (k := .i64) (a := op_0) (b := 42) (by kernel_rfl) (by kernel_rfl)) ?_
    refine S_pure trivial (O_pkf (d := .u (.bool ((decide (42 < op_0))))) (by kernel_rfl) (by kernel_rfl)) ?_
    exact Rs_weak (W_to (by kernel_rfl) (by kernel_rfl) (by kernel_rfl)) (K1 _ (by rw [hc] <;> rfl))

/-! ### slices.Index(()int,int) -/
def q_slices_Index_1 : AC := .reg [⟨some 4, none, .mv (.c (.int .i64 (-1)))⟩]
def q_slices_Index_2 : AC := .seq q_slices_Index_1 .ret
def q_slices_Index_3 : AC := .reg [⟨some 18, none, .bi .add (.t 8) (.c (.int .i64 1))⟩, ⟨some 8, none, .mv (.t 18)⟩]
def q_slices_Index_4 : AC := .reg [⟨some 17, none, .mv (.t 5)⟩, ⟨some 4, none, .mv (.t 17)⟩]
def q_slices_Index_5 : AC := .seq q_slices_Index_4 .ret
def q_slices_Index_6 : AC := .cond (.t 16) q_slices_Index_5 .skip
def q_slices_Index_7 : AC := .reg [⟨some 11, none, .mv (.t 1)⟩, ⟨some 12, none, .mv (.t 0)⟩, ⟨some 13, none, .mv (.t 5)⟩, ⟨some 14, none, .ia 1 (.t 12) (.t 13)⟩, ⟨some 15, none, .ld false 1 (.t 14)⟩, ⟨some 16, none, .bi .eql (.t 11) (.t 15)⟩]
def q_slices_Index_8 : AC := .seq q_slices_Index_7 q_slices_Index_6
def q_slices_Index_9 : AC := .reg [⟨some 10, none, .mv (.t 8)⟩, ⟨some 5, none, .mv (.t 10)⟩]
def q_slices_Index_10 : AC := .seq q_slices_Index_9 q_slices_Index_8
def q_slices_Index_11 : AC := .block 1 q_slices_Index_10
def q_slices_Index_12 : AC := .seq q_slices_Index_11 q_slices_Index_3
def q_slices_Index_13 : AC := .cond (.t 9) .skip (.exit 0)
def q_slices_Index_14 : AC := .seq q_slices_Index_13 q_slices_Index_12
def q_slices_Index_15 : AC := .reg [⟨some 9, none, .bi .lss (.t 8) (.t 7)⟩]
def q_slices_Index_16 : AC := .seq q_slices_Index_15 q_slices_Index_14
def q_slices_Index_17 : AC := .loop q_slices_Index_16
def q_slices_Index_18 : AC := .block 0 q_slices_Index_17
def q_slices_Index_19 : AC := .reg [⟨some 6, none, .mv (.t 0)⟩, ⟨some 7, none, .ln (.t 6)⟩, ⟨some 8, none, .mv (.c (.int .i64 0))⟩]
def q_slices_Index_20 : AC := .seq q_slices_Index_19 q_slices_Index_18
def q_slices_Index_21 : AC := .seq q_slices_Index_20 q_slices_Index_2
def q_slices_Index_22 : AC := .reg [⟨some 4, none, .mv (.c (.int .i64 0))⟩]
def q_slices_Index_23 : AC := .seq q_slices_Index_22 q_slices_Index_21
def c_slices_Index : FC := ⟨19, [4], q_slices_Index_23⟩
theorem k_slices_Index : okF Try.prog 95 c_slices_Index = true := by decide +kernel
noncomputable def slices_Index.l10 (s_0 : List Int) (v_1 : Int) (s7 : Int) : Option (Int ⊕ (Unit ⊕ Int)) := (bif (decide (s7 < (List.length s_0 : Int))) then ((idx s_0 s7).bind (fun (y9 : Int) => (bif (decide (v_1 = y9)) then (some (Sum.inr (Sum.inr s7))) else (some (Sum.inl (IntKind.i64.wrap (s7 + 1))))))) else (some (Sum.inr (Sum.inl ()))))
noncomputable def slices_Index (s_0 : List Int) (v_1 : Int) : Option Int := ((loopO (slices_Index.l10 s_0 v_1) 0).bind (Sum.elim (fun (w3 : Unit) => (some (-1))) (fun (w5 : Int) => (some w5))))
theorem slices_Index.ok {s_0 : List Int} {v_1 : Int} {r : Int} (h : slices_Index s_0 v_1 = some r) : PC Try.prog 95 [.sl (List.map (cInt .i64) s_0), .int .i64 v_1] (.int .i64 r) := by
  refine PC_run k_slices_Index rfl (L := [(0, .u (.sl (List.map (cInt .i64) s_0))), (1, .u (.int .i64 v_1))]) rfl ?_
  show Run Try.prog 19 (retQ [4] (.int .i64 r)) [] q_slices_Index_23 _
  refine R_seq ?_
  refine R_reg ?_
  refine S_pure trivial (O_mv (d := .u (.int .i64 0)) (by kernel_rfl)) ?_
  refine Rs_nil ?_
  refine N_s ?_
  refine R_seq ?_
  refine R_seq ?_
  refine R_reg ?_
  refine S_pure trivial (O_mv (d := .u (.sl (List.map (cInt .i64) s_0))) (by kernel_rfl)) ?_
  refine S_pure trivial (O_ln (c := (cInt .i64)) (li := s_0) (by kernel_rfl)) ?_
  refine S_pure trivial (O_mv (d := .u (.int .i64 0)) (by kernel_rfl)) ?_
  refine Rs_nil ?_
  refine N_s ?_
  refine R_block ?_
  obtain ⟨o1, hE, h⟩ := bindS h
  have K4 : ∀ (w3 : Unit), (Sum.inl w3) = o1 → Run Try.prog 19 (retQ [4] (.int .i64 r)) [] q_slices_Index_2 (mkSt [] [] 0) := by
    intro w3 e; subst e
    replace h := elimL h
    refine R_seq ?_
    refine R_reg ?_
    refine S_pure trivial (O_mv (d := .u (.int .i64 ((-1)))) (by kernel_rfl)) ?_
    refine Rs_nil ?_
    refine N_s ?_
    obtain rfl := (Option.some.inj h)
    refine R_ret ?_
    exact Q_ret (x := .int .i64 ((-1))) (by kernel_rfl) (.refl _)
  have K6 : ∀ (w5 : Int), (Sum.inr w5) = o1 → w5 = r := by
    intro w5 e; subst e
    replace h := elimR h
    exact Option.some.inj h
  refine R_loop (slices_Index.l10 s_0 v_1) (fun s7 => (mkSt [(0, .u (.sl (List.map (cInt .i64) s_0))), (1, .u (.int .i64 v_1)), (7, .u (.int .i64 ((List.length s_0 : Int)))), (8, .u (.int .i64 s7))] [] 0)) hE (W_to (by kernel_rfl) (by kernel_rfl) (by kernel_rfl)) ?_
  intro K2 s7 x8 h hK2 hO2
  refine R_seq ?_
  refine R_reg ?_
  refine S_pure trivial (O_lss (k := .i64) (a := s7) (b := (List.length s_0 : Int)) (by kernel_rfl) (by kernel_rfl)) ?_
  refine Rs_nil ?_
  refine N_s ?_
  refine R_seq ?_
  refine R_cond (c := (decide (s7 < (List.length s_0 : Int)))) (by kernel_rfl) h (fun h => ?_) (fun h => ?_)
  · refine R_skip ?_
    refine N_s ?_
    refine R_seq ?_
    refine R_block ?_
    refine R_seq ?_
    refine R_reg ?_
    refine S_pure trivial (O_mv (d := .u (.int .i64 s7)) (by kernel_rfl)) ?_
    refine S_pure trivial (O_mv (d := .u (.int .i64 s7)) (by kernel_rfl)) ?_
    refine Rs_nil ?_
    refine N_s ?_
    refine R_seq ?_
    refine R_reg ?_
    refine S_pure trivial (O_mv (d := .u (.int .i64 v_1)) (by kernel_rfl)) ?_
    refine S_pure trivial (O_mv (d := .u (.sl (List.map (cInt .i64) s_0))) (by kernel_rfl)) ?_
    refine S_pure trivial (O_mv (d := .u (.int .i64 s7)) (by kernel_rfl)) ?_
    obtain ⟨y9, hy9, h⟩ := bindS h
    refine S_pure trivial (O_ia (c := (cInt .i64)) (li := s_0) (i := s7) (k := .i64) (a := y9) (u := (cInt .i64) y9) (by kernel_rfl) (by kernel_rfl) hy9 rfl rfl) ?_
    refine S_pure trivial (O_ldf (cells := (cInt .i64) y9) (off := 0) (u := .int .i64 y9) (by kernel_rfl) (by kernel_rfl)) ?_
    refine S_pure trivial (O_eql (k := .i64) (a := v_1) (b := y9) (by kernel_rfl) (by kernel_rfl)) ?_
    refine Rs_nil ?_
    refine N_s ?_
    refine R_cond (c := (decide (v_1 = y9))) (by kernel_rfl) h (fun h => ?_) (fun h => ?_)
    · refine R_seq ?_
      refine R_reg ?_
      refine S_pure trivial (O_mv (d := .u (.int .i64 s7)) (by kernel_rfl)) ?_
      refine S_pure trivial (O_mv (d := .u (.int .i64 s7)) (by kernel_rfl)) ?_
      refine Rs_nil ?_
      refine N_s ?_
      obtain rfl := (K6 _ (hO2 _ h))
      refine R_ret ?_
      exact Q_ret (x := .int .i64 s7) (by kernel_rfl) (.refl _)
    · refine R_skip ?_
      refine N_b ?_
      refine N_s ?_
      refine R_reg ?_
      refine S_pure trivial (O_add (k := .i64) (a := s7) (b := 1) (by kernel_rfl) (by kernel_rfl)) ?_
      refine S_pure trivial (O_mv (d := .u (.int .i64 ((IntKind.i64.wrap (s7 + 1))))) (by kernel_rfl)) ?_
      refine Rs_nil ?_
      exact N_k (hK2 _ h _ (W_to (by kernel_rfl) (by kernel_rfl) (by kernel_rfl)))
  · refine R_exit ?_
    refine E_s ?_
    refine E_k ?_
    refine E_b ?_
    refine N_s ?_
    exact R_weak (W_to (by kernel_rfl) (by kernel_rfl) (by kernel_rfl)) (K4 _ (hO2 _ h))

/-! ### slices.Contains(()int,int) -/
def q_slices_Contains_1 : AC := .reg [⟨some 5, none, .mv (.t 0)⟩, ⟨some 6, none, .mv (.t 1)⟩, ⟨some 7, none, .ca 95 [.t 5, .t 6]⟩, ⟨some 8, none, .bi .geq (.t 7) (.c (.int .i64 0))⟩, ⟨some 4, none, .mv (.t 8)⟩]
def q_slices_Contains_2 : AC := .seq q_slices_Contains_1 .ret
def q_slices_Contains_3 : AC := .reg [⟨some 4, none, .mv (.c (.bool false))⟩]
def q_slices_Contains_4 : AC := .seq q_slices_Contains_3 q_slices_Contains_2
def c_slices_Contains : FC := ⟨9, [4], q_slices_Contains_4⟩
theorem k_slices_Contains : okF Try.prog 72 c_slices_Contains = true := by decide +kernel
noncomputable def slices_Contains (s_0 : List Int) (v_1 : Int) : Option Bool := ((slices_Index s_0 v_1).bind (fun (y1 : Int) => (some (decide (0 ≤ y1)))))
theorem slices_Contains.ok {s_0 : List Int} {v_1 : Int} {r : Bool} (h : slices_Contains s_0 v_1 = some r) : PC Try.prog 72 [.sl (List.map (cInt .i64) s_0), .int .i64 v_1] (.bool r) := by
  refine PC_run k_slices_Contains rfl (L := [(0, .u (.sl (List.map (cInt .i64) s_0))), (1, .u (.int .i64 v_1))]) rfl ?_
  show Run Try.prog 9 (retQ [4] (.bool r)) [] q_slices_Contains_4 _
  refine R_seq ?_
  refine R_reg ?_
  refine S_pure trivial (O_mv (d := .u (.bool false)) (by kernel_rfl)) ?_
  refine Rs_nil ?_
  refine N_s ?_
  refine R_seq ?_
  refine R_reg ?_
  refine S_pure trivial (O_mv (d := .u (.sl (List.map (cInt .i64) s_0))) (by kernel_rfl)) ?_
  refine S_pure trivial (O_mv (d := .u (.int .i64 v_1)) (by kernel_rfl)) ?_
  obtain ⟨y1, hy1, h⟩ := bindS h
  refine S_pure trivial (O_ca (us := [.sl (List.map (cInt .i64) s_0), .int .i64 v_1]) (r := .int .i64 y1) (by kernel_rfl) (slices_Index.ok hy1)) ?_
  refine S_pure trivial (O_geq (k := .i64) (a := y1) (b := 0) (by kernel_rfl) (by kernel_rfl)) ?_
  refine S_pure trivial (O_mv (d := .u (.bool ((decide (0 ≤ y1))))) (by kernel_rfl)) ?_
  refine Rs_nil ?_
  refine N_s ?_
  obtain rfl := (Option.some.inj h)
  refine R_ret ?_
  exact Q_ret (x := .bool ((decide (0 ≤ y1)))) (by kernel_rfl) (.refl _)

/-! ### selfstab/interp.isTrue -/
def q_interp_isTrue_1 : AC := .reg [⟨some 3, none, .mv (.t 0)⟩, ⟨some 4, none, .bi .neq (.t 3) (.c (.int .i64 0))⟩, ⟨some 2, none, .mv (.t 4)⟩]
def q_interp_isTrue_2 : AC := .seq q_interp_isTrue_1 .ret
def q_interp_isTrue_3 : AC := .reg [⟨some 2, none, .mv (.c (.bool false))⟩]
def q_interp_isTrue_4 : AC := .seq q_interp_isTrue_3 q_interp_isTrue_2
def c_interp_isTrue : FC := ⟨5, [2], q_interp_isTrue_4⟩
theorem k_interp_isTrue : okF Try.prog 74 c_interp_isTrue = true := by decide +kernel
noncomputable def interp_isTrue (n_0 : Int) : Option Bool := (some (!decide (n_0 = 0)))
theorem interp_isTrue.ok {n_0 : Int} {r : Bool} (h : interp_isTrue n_0 = some r) : PC Try.prog 74 [.int .i64 n_0] (.bool r) := by
  refine PC_run k_interp_isTrue rfl (L := [(0, .u (.int .i64 n_0))]) rfl ?_
  show Run Try.prog 5 (retQ [2] (.bool r)) [] q_interp_isTrue_4 _
  refine R_seq ?_
  refine R_reg ?_
  refine S_pure trivial (O_mv (d := .u (.bool false)) (by kernel_rfl)) ?_
  refine Rs_nil ?_
  refine N_s ?_
  refine R_seq ?_
  refine R_reg ?_
  refine S_pure trivial (O_mv (d := .u (.int .i64 n_0)) (by kernel_rfl)) ?_
  refine S_pure trivial (O_neq (k := .i64) (a := n_0) (b := 0) (by kernel_rfl) (by kernel_rfl)) ?_
  refine S_pure trivial (O_mv (d := .u (.bool ((!decide (n_0 = 0))))) (by kernel_rfl)) ?_
  refine Rs_nil ?_
  refine N_s ?_
  obtain rfl := (Option.some.inj h)
  refine R_ret ?_
  exact Q_ret (x := .bool ((!decide (n_0 = 0)))) (by kernel_rfl) (.refl _)

/-! ### slices.IndexFunc(()int,int) -/
def q_slices_IndexFunc_interp_isTrue_1 : AC := .reg [⟨some 4, none, .mv (.c (.int .i64 (-1)))⟩]
def q_slices_IndexFunc_interp_isTrue_2 : AC := .seq q_slices_IndexFunc_interp_isTrue_1 .ret
def q_slices_IndexFunc_interp_isTrue_3 : AC := .reg [⟨some 18, none, .bi .add (.t 8) (.c (.int .i64 1))⟩, ⟨some 8, none, .mv (.t 18)⟩]
def q_slices_IndexFunc_interp_isTrue_4 : AC := .reg [⟨some 17, none, .mv (.t 5)⟩, ⟨some 4, none, .mv (.t 17)⟩]
def q_slices_IndexFunc_interp_isTrue_5 : AC := .seq q_slices_IndexFunc_interp_isTrue_4 .ret
def q_slices_IndexFunc_interp_isTrue_6 : AC := .cond (.t 16) q_slices_IndexFunc_interp_isTrue_5 .skip
def q_slices_IndexFunc_interp_isTrue_7 : AC := .reg [⟨some 11, none, .mv (.t 1)⟩, ⟨some 12, none, .mv (.t 0)⟩, ⟨some 13, none, .mv (.t 5)⟩, ⟨some 14, none, .ia 1 (.t 12) (.t 13)⟩, ⟨some 15, none, .ld false 1 (.t 14)⟩, ⟨some 16, none, .cl (.t 11) [.t 15]⟩]
def q_slices_IndexFunc_interp_isTrue_8 : AC := .seq q_slices_IndexFunc_interp_isTrue_7 q_slices_IndexFunc_interp_isTrue_6
def q_slices_IndexFunc_interp_isTrue_9 : AC := .reg [⟨some 10, none, .mv (.t 8)⟩, ⟨some 5, none, .mv (.t 10)⟩]
def q_slices_IndexFunc_interp_isTrue_10 : AC := .seq q_slices_IndexFunc_interp_isTrue_9 q_slices_IndexFunc_interp_isTrue_8
def q_slices_IndexFunc_interp_isTrue_11 : AC := .block 1 q_slices_IndexFunc_interp_isTrue_10
def q_slices_IndexFunc_interp_isTrue_12 : AC := .seq q_slices_IndexFunc_interp_isTrue_11 q_slices_IndexFunc_interp_isTrue_3
def q_slices_IndexFunc_interp_isTrue_13 : AC := .cond (.t 9) .skip (.exit 0)
def q_slices_IndexFunc_interp_isTrue_14 : AC := .seq q_slices_IndexFunc_interp_isTrue_13 q_slices_IndexFunc_interp_isTrue_12
def q_slices_IndexFunc_interp_isTrue_15 : AC := .reg [⟨some 9, none, .bi .lss (.t 8) (.t 7)⟩]
def q_slices_IndexFunc_interp_isTrue_16 : AC := .seq q_slices_IndexFunc_interp_isTrue_15 q_slices_IndexFunc_interp_isTrue_14
def q_slices_IndexFunc_interp_isTrue_17 : AC := .loop q_slices_IndexFunc_interp_isTrue_16
def q_slices_IndexFunc_interp_isTrue_18 : AC := .block 0 q_slices_IndexFunc_interp_isTrue_17
def q_slices_IndexFunc_interp_isTrue_19 : AC := .reg [⟨some 6, none, .mv (.t 0)⟩, ⟨some 7, none, .ln (.t 6)⟩, ⟨some 8, none, .mv (.c (.int .i64 0))⟩]
def q_slices_IndexFunc_interp_isTrue_20 : AC := .seq q_slices_IndexFunc_interp_isTrue_19 q_slices_IndexFunc_interp_isTrue_18
def q_slices_IndexFunc_interp_isTrue_21 : AC := .seq q_slices_IndexFunc_interp_isTrue_20 q_slices_IndexFunc_interp_isTrue_2
def q_slices_IndexFunc_interp_isTrue_22 : AC := .reg [⟨some 4, none, .mv (.c (.int .i64 0))⟩]
def q_slices_IndexFunc_interp_isTrue_23 : AC := .seq q_slices_IndexFunc_interp_isTrue_22 q_slices_IndexFunc_interp_isTrue_21
def c_slices_IndexFunc_interp_isTrue : FC := ⟨19, [4], q_slices_IndexFunc_interp_isTrue_23⟩
theorem k_slices_IndexFunc_interp_isTrue : okF Try.prog 75 c_slices_IndexFunc_interp_isTrue = true := by decide +kernel
noncomputable def slices_IndexFunc_interp_isTrue.l11 (s_0 : List Int) (s7 : Int) : Option (Int ⊕ (Unit ⊕ Int)) := (bif (decide (s7 < (List.length s_0 : Int))) then ((idx s_0 s7).bind (fun (y9 : Int) => ((interp_isTrue y9).bind (fun (y10 : Bool) => (bif y10 then (some (Sum.inr (Sum.inr s7))) else (some (Sum.inl (IntKind.i64.wrap (s7 + 1))))))))) else (some (Sum.inr (Sum.inl ()))))
noncomputable def slices_IndexFunc_interp_isTrue (s_0 : List Int) : Option Int := ((loopO (slices_IndexFunc_interp_isTrue.l11 s_0) 0).bind (Sum.elim (fun (w3 : Unit) => (some (-1))) (fun (w5 : Int) => (some w5))))
theorem slices_IndexFunc_interp_isTrue.ok {s_0 : List Int} {r : Int} (h : slices_IndexFunc_interp_isTrue s_0 = some r) : PC Try.prog 75 [.sl (List.map (cInt .i64) s_0), .fn 74 [] []] (.int .i64 r) := by
  refine PC_run k_slices_IndexFunc_interp_isTrue rfl (L := [(0, .u (.sl (List.map (cInt .i64) s_0))), (1, .u (.fn 74 [] []))]) rfl ?_
  show Run Try.prog 19 (retQ [4] (.int .i64 r)) [] q_slices_IndexFunc_interp_isTrue_23 _
  refine R_seq ?_
  refine R_reg ?_
  refine S_pure trivial (O_mv (d := .u (.int .i64 0)) (by kernel_rfl)) ?_
  refine Rs_nil ?_
  refine N_s ?_
  refine R_seq ?_
  refine R_seq ?_
  refine R_reg ?_
  refine S_pure trivial (O_mv (d := .u (.sl (List.map (cInt .i64) s_0))) (by kernel_rfl)) ?_
  refine S_pure trivial (O_ln (c := (cInt .i64)) (li := s_0) (by kernel_rfl)) ?_
  refine S_pure trivial (O_mv (d := .u (.int .i64 0)) (by kernel_rfl)) ?_
  refine Rs_nil ?_
  refine N_s ?_
  refine R_block ?_
  obtain ⟨o1, hE, h⟩ := bindS h
  have K4 : ∀ (w3 : Unit), (Sum.inl w3) = o1 → Run Try.prog 19 (retQ [4] (.int .i64 r)) [] q_slices_IndexFunc_interp_isTrue_2 (mkSt [] [] 0) := by
    intro w3 e; subst e
    replace h := elimL h
    refine R_seq ?_
    refine R_reg ?_
    refine S_pure trivial (O_mv (d := .u (.int .i64 ((-1)))) (by kernel_rfl)) ?_
    refine Rs_nil ?_
    refine N_s ?_
    obtain rfl := (Option.some.inj h)
    refine R_ret ?_
    exact Q_ret (x := .int .i64 ((-1))) (by kernel_rfl) (.refl _)
  have K6 : ∀ (w5 : Int), (Sum.inr w5) = o1 → w5 = r := by
    intro w5 e; subst e
    replace h := elimR h
    exact Option.some.inj h
  refine R_loop (slices_IndexFunc_interp_isTrue.l11 s_0) (fun s7 => (mkSt [(0, .u (.sl (List.map (cInt .i64) s_0))), (1, .u (.fn 74 [] [])), (7, .u (.int .i64 ((List.length s_0 : Int)))), (8, .u (.int .i64 s7))] [] 0)) hE (W_to (by kernel_rfl) (by kernel_rfl) (by kernel_rfl)) ?_
  intro K2 s7 x8 h hK2 hO2
  refine R_seq ?_
  refine R_reg ?_
  refine S_pure trivial (O_lss (k := .i64) (a := s7) (b := (List.length s_0 : Int)) (by kernel_rfl) (by kernel_rfl)) ?_
  refine Rs_nil ?_
  refine N_s ?_
  refine R_seq ?_
  refine R_cond (c := (decide (s7 < (List.length s_0 : Int)))) (by kernel_rfl) h (fun h => ?_) (fun h => ?_)
  · refine R_skip ?_
    refine N_s ?_
    refine R_seq ?_
    refine R_block ?_
    refine R_seq ?_
    refine R_reg ?_
    refine S_pure trivial (O_mv (d := .u (.int .i64 s7)) (by kernel_rfl)) ?_
    refine S_pure trivial (O_mv (d := .u (.int .i64 s7)) (by kernel_rfl)) ?_
    refine Rs_nil ?_
    refine N_s ?_
    refine R_seq ?_
    refine R_reg ?_
    refine S_pure trivial (O_mv (d := .u (.fn 74 [] [])) (by kernel_rfl)) ?_
    refine S_pure trivial (O_mv (d := .u (.sl (List.map (cInt .i64) s_0))) (by kernel_rfl)) ?_
    refine S_pure trivial (O_mv (d := .u (.int .i64 s7)) (by kernel_rfl)) ?_
    obtain ⟨y9, hy9, h⟩ := bindS h
    refine S_pure trivial (O_ia (c := (cInt .i64)) (li := s_0) (i := s7) (k := .i64) (a := y9) (u := (cInt .i64) y9) (by kernel_rfl) (by kernel_rfl) hy9 rfl rfl) ?_
    refine S_pure trivial (O_ldf (cells := (cInt .i64) y9) (off := 0) (u := .int .i64 y9) (by kernel_rfl) (by kernel_rfl)) ?_
    obtain ⟨y10, hy10, h⟩ := bindS h
    refine S_pure trivial (O_cl (fs' := []) (cs := []) (us := [.int .i64 y9]) (r := .bool y10) (by kernel_rfl) (by kernel_rfl) (interp_isTrue.ok hy10)) ?_
    refine Rs_nil ?_
    refine N_s ?_
    refine R_cond (c := y10) (by kernel_rfl) h (fun h => ?_) (fun h => ?_)
    · refine R_seq ?_
      refine R_reg ?_
      refine S_pure trivial (O_mv (d := .u (.int .i64 s7)) (by kernel_rfl)) ?_
      refine S_pure trivial (O_mv (d := .u (.int .i64 s7)) (by kernel_rfl)) ?_
      refine Rs_nil ?_
      refine N_s ?_
      obtain rfl := (K6 _ (hO2 _ h))
      refine R_ret ?_
      exact Q_ret (x := .int .i64 s7) (by kernel_rfl) (.refl _)
    · refine R_skip ?_
      refine N_b ?_
      refine N_s ?_
      refine R_reg ?_
      refine S_pure trivial (O_add (k := .i64) (a := s7) (b := 1) (by kernel_rfl) (by kernel_rfl)) ?_
      refine S_pure trivial (O_mv (d := .u (.int .i64 ((IntKind.i64.wrap (s7 + 1))))) (by kernel_rfl)) ?_
      refine Rs_nil ?_
      exact N_k (hK2 _ h _ (W_to (by kernel_rfl) (by kernel_rfl) (by kernel_rfl)))
  · refine R_exit ?_
    refine E_s ?_
    refine E_k ?_
    refine E_b ?_
    refine N_s ?_
    exact R_weak (W_to (by kernel_rfl) (by kernel_rfl) (by kernel_rfl)) (K4 _ (hO2 _ h))

/-! ### slices.ContainsFunc(()int,int) -/
def q_slices_ContainsFunc_interp_isTrue_1 : AC := .reg [⟨some 5, none, .mv (.t 0)⟩, ⟨some 6, none, .mv (.t 1)⟩, ⟨some 7, none, .ca 75 [.t 5, .t 6]⟩, ⟨some 8, none, .bi .geq (.t 7) (.c (.int .i64 0))⟩, ⟨some 4, none, .mv (.t 8)⟩]
def q_slices_ContainsFunc_interp_isTrue_2 : AC := .seq q_slices_ContainsFunc_interp_isTrue_1 .ret
def q_slices_ContainsFunc_interp_isTrue_3 : AC := .reg [⟨some 4, none, .mv (.c (.bool false))⟩]
def q_slices_ContainsFunc_interp_isTrue_4 : AC := .seq q_slices_ContainsFunc_interp_isTrue_3 q_slices_ContainsFunc_interp_isTrue_2
def c_slices_ContainsFunc_interp_isTrue : FC := ⟨9, [4], q_slices_ContainsFunc_interp_isTrue_4⟩
theorem k_slices_ContainsFunc_interp_isTrue : okF Try.prog 73 c_slices_ContainsFunc_interp_isTrue = true := by decide +kernel
noncomputable def slices_ContainsFunc_interp_isTrue (s_0 : List Int) : Option Bool := ((slices_IndexFunc_interp_isTrue s_0).bind (fun (y1 : Int) => (some (decide (0 ≤ y1)))))
theorem slices_ContainsFunc_interp_isTrue.ok {s_0 : List Int} {r : Bool} (h : slices_ContainsFunc_interp_isTrue s_0 = some r) : PC Try.prog 73 [.sl (List.map (cInt .i64) s_0), .fn 74 [] []] (.bool r) := by
  refine PC_run k_slices_ContainsFunc_interp_isTrue rfl (L := [(0, .u (.sl (List.map (cInt .i64) s_0))), (1, .u (.fn 74 [] []))]) rfl ?_
  show Run Try.prog 9 (retQ [4] (.bool r)) [] q_slices_ContainsFunc_interp_isTrue_4 _
  refine R_seq ?_
  refine R_reg ?_
  refine S_pure trivial (O_mv (d := .u (.bool false)) (by kernel_rfl)) ?_
  refine Rs_nil ?_
  refine N_s ?_
  refine R_seq ?_
  refine R_reg ?_
  refine S_pure trivial (O_mv (d := .u (.sl (List.map (cInt .i64) s_0))) (by kernel_rfl)) ?_
  refine S_pure trivial (O_mv (d := .u (.fn 74 [] [])) (by kernel_rfl)) ?_
  obtain ⟨y1, hy1, h⟩ := bindS h
  refine S_pure trivial (O_ca (us := [.sl (List.map (cInt .i64) s_0), .fn 74 [] []]) (r := .int .i64 y1) (by kernel_rfl) (slices_IndexFunc_interp_isTrue.ok hy1)) ?_
  refine S_pure trivial (O_geq (k := .i64) (a := y1) (b := 0) (by kernel_rfl) (by kernel_rfl)) ?_
  refine S_pure trivial (O_mv (d := .u (.bool ((decide (0 ≤ y1))))) (by kernel_rfl)) ?_
  refine Rs_nil ?_
  refine N_s ?_
  obtain rfl := (Option.some.inj h)
  refine R_ret ?_
  exact Q_ret (x := .bool ((decide (0 ≤ y1)))) (by kernel_rfl) (.refl _)

/-! ### selfstab/interp.Fold -/
def q_interp_Fold_1 : AC := .reg [⟨some 111, none, .mv (.t 1)⟩, ⟨some 112, none, .ia 1 (.t 111) (.c (.int .i64 0))⟩, ⟨some 113, none, .ld false 1 (.t 112)⟩, ⟨some 4, none, .mv (.t 113)⟩]
def q_interp_Fold_2 : AC := .seq q_interp_Fold_1 .ret
def q_interp_Fold_3 : AC := .reg [⟨some 4, none, .mv (.c (.int .i64 0))⟩]
def q_interp_Fold_4 : AC := .seq q_interp_Fold_3 .ret
def q_interp_Fold_5 : AC := .cond (.t 110) q_interp_Fold_4 .skip
def q_interp_Fold_6 : AC := .reg [⟨some 108, none, .mv (.t 1)⟩, ⟨some 109, none, .ln (.t 108)⟩, ⟨some 110, none, .bi .eql (.t 109) (.c (.int .i64 0))⟩]
def q_interp_Fold_7 : AC := .seq q_interp_Fold_6 q_interp_Fold_5
def q_interp_Fold_8 : AC := .seq q_interp_Fold_7 q_interp_Fold_2
def q_interp_Fold_9 : AC := .reg [⟨some 45, none, .mv (.t 5)⟩, ⟨some 4, none, .mv (.t 45)⟩]
def q_interp_Fold_10 : AC := .seq q_interp_Fold_9 .ret
def q_interp_Fold_11 : AC := .reg [⟨some 62, none, .mv (.t 8)⟩, ⟨some 4, none, .mv (.t 62)⟩]
def q_interp_Fold_12 : AC := .seq q_interp_Fold_11 .ret
def q_interp_Fold_13 : AC := .reg [⟨some 84, none, .mv (.t 12)⟩, ⟨some 4, none, .mv (.t 84)⟩]
def q_interp_Fold_14 : AC := .seq q_interp_Fold_13 .ret
def q_interp_Fold_15 : AC := .reg [⟨some 83, none, .mv (.t 11)⟩, ⟨some 4, none, .mv (.t 83)⟩]
def q_interp_Fold_16 : AC := .seq q_interp_Fold_15 .ret
def q_interp_Fold_17 : AC := .cond (.t 82) q_interp_Fold_16 .skip
def q_interp_Fold_18 : AC := .reg [⟨some 81, none, .mv (.t 0)⟩, ⟨some 82, none, .bi .eql (.t 81) (.c (.int .i64 25))⟩]
def q_interp_Fold_19 : AC := .seq q_interp_Fold_18 q_interp_Fold_17
def q_interp_Fold_20 : AC := .seq q_interp_Fold_19 q_interp_Fold_14
def q_interp_Fold_21 : AC := .reg [⟨some 97, none, .mv (.t 15)⟩, ⟨some 98, none, .ca 76 [.t 97]⟩, ⟨some 4, none, .mv (.t 98)⟩]
def q_interp_Fold_22 : AC := .seq q_interp_Fold_21 .ret
def q_interp_Fold_23 : AC := .reg [⟨some 80, none, .bi .add (.t 68) (.c (.int .i64 1))⟩, ⟨some 68, none, .mv (.t 80)⟩]
def q_interp_Fold_24 : AC := .reg [⟨some 72, none, .mv (.t 11)⟩, ⟨some 73, none, .mv (.t 14)⟩, ⟨some 74, none, .mx [.t 72, .t 73]⟩, ⟨some 75, none, .mv (.t 12)⟩, ⟨some 76, none, .mv (.t 11)⟩, ⟨some 77, none, .mv (.t 14)⟩, ⟨some 78, none, .mn [.t 76, .t 77]⟩, ⟨some 79, none, .mx [.t 75, .t 78]⟩, ⟨some 11, none, .mv (.t 74)⟩, ⟨some 12, none, .mv (.t 79)⟩]
def q_interp_Fold_25 : AC := .reg [⟨some 70, none, .ia 1 (.t 66) (.t 68)⟩, ⟨some 71, none, .ld false 1 (.t 70)⟩, ⟨some 14, none, .mv (.t 71)⟩]
def q_interp_Fold_26 : AC := .seq q_interp_Fold_25 q_interp_Fold_24
def q_interp_Fold_27 : AC := .block 6 q_interp_Fold_26
def q_interp_Fold_28 : AC := .seq q_interp_Fold_27 q_interp_Fold_23
def q_interp_Fold_29 : AC := .cond (.t 69) .skip (.exit 5)
def q_interp_Fold_30 : AC := .seq q_interp_Fold_29 q_interp_Fold_28
def q_interp_Fold_31 : AC := .reg [⟨some 69, none, .bi .lss (.t 68) (.t 67)⟩]
def q_interp_Fold_32 : AC := .seq q_interp_Fold_31 q_interp_Fold_30
def q_interp_Fold_33 : AC := .loop q_interp_Fold_32
def q_interp_Fold_34 : AC := .block 5 q_interp_Fold_33
def q_interp_Fold_35 : AC := .reg [⟨some 66, none, .mv (.t 1)⟩, ⟨some 67, none, .ln (.t 66)⟩, ⟨some 68, none, .mv (.c (.int .i64 0))⟩]
def q_interp_Fold_36 : AC := .seq q_interp_Fold_35 q_interp_Fold_34
def q_interp_Fold_37 : AC := .seq q_interp_Fold_36 q_interp_Fold_20
def q_interp_Fold_38 : AC := .reg [⟨some 11, none, .mv (.c (.int .i64 (-1073741824)))⟩, ⟨some 12, none, .mv (.c (.int .i64 (-1073741824)))⟩]
def q_interp_Fold_39 : AC := .seq q_interp_Fold_38 q_interp_Fold_37
def q_interp_Fold_40 : AC := .reg [⟨some 96, none, .bi .add (.t 89) (.c (.int .i64 1))⟩, ⟨some 89, none, .mv (.t 96)⟩]
def q_interp_Fold_41 : AC := .reg [⟨some 93, none, .mv (.t 15)⟩, ⟨some 94, none, .mv (.t 17)⟩, ⟨some 95, none, .bi .add (.t 93) (.t 94)⟩, ⟨some 15, none, .mv (.t 95)⟩]
def q_interp_Fold_42 : AC := .reg [⟨some 91, none, .ia 1 (.t 87) (.t 89)⟩, ⟨some 92, none, .ld false 1 (.t 91)⟩, ⟨some 17, none, .mv (.t 92)⟩]
def q_interp_Fold_43 : AC := .seq q_interp_Fold_42 q_interp_Fold_41
def q_interp_Fold_44 : AC := .block 8 q_interp_Fold_43
def q_interp_Fold_45 : AC := .seq q_interp_Fold_44 q_interp_Fold_40
def q_interp_Fold_46 : AC := .cond (.t 90) .skip (.exit 7)
def q_interp_Fold_47 : AC := .seq q_interp_Fold_46 q_interp_Fold_45
def q_interp_Fold_48 : AC := .reg [⟨some 90, none, .bi .lss (.t 89) (.t 88)⟩]
def q_interp_Fold_49 : AC := .seq q_interp_Fold_48 q_interp_Fold_47
def q_interp_Fold_50 : AC := .loop q_interp_Fold_49
def q_interp_Fold_51 : AC := .block 7 q_interp_Fold_50
def q_interp_Fold_52 : AC := .reg [⟨some 87, none, .mv (.t 1)⟩, ⟨some 88, none, .ln (.t 87)⟩, ⟨some 89, none, .mv (.c (.int .i64 0))⟩]
def q_interp_Fold_53 : AC := .seq q_interp_Fold_52 q_interp_Fold_51
def q_interp_Fold_54 : AC := .seq q_interp_Fold_53 q_interp_Fold_22
def q_interp_Fold_55 : AC := .reg [⟨some 15, none, .mv (.c (.int .i64 0))⟩]
def q_interp_Fold_56 : AC := .seq q_interp_Fold_55 q_interp_Fold_54
def q_interp_Fold_57 : AC := .reg [⟨some 101, none, .mv (.t 18)⟩, ⟨some 102, none, .bi .add (.t 101) (.c (.int .i64 1))⟩, ⟨some 18, none, .mv (.t 102)⟩]
def q_interp_Fold_58 : AC := .reg [⟨some 107, none, .mv (.t 18)⟩, ⟨some 4, none, .mv (.t 107)⟩]
def q_interp_Fold_59 : AC := .seq q_interp_Fold_58 .ret
def q_interp_Fold_60 : AC := .cond (.t 106) q_interp_Fold_59 .skip
def q_interp_Fold_61 : AC := .reg [⟨some 103, none, .mv (.t 1)⟩, ⟨some 104, none, .mv (.t 18)⟩, ⟨some 105, none, .ca 72 [.t 103, .t 104]⟩, ⟨some 106, none, .un .not (.t 105)⟩]
def q_interp_Fold_62 : AC := .seq q_interp_Fold_61 q_interp_Fold_60
def q_interp_Fold_63 : AC := .block 10 q_interp_Fold_62
def q_interp_Fold_64 : AC := .seq q_interp_Fold_63 q_interp_Fold_57
def q_interp_Fold_65 : AC := .loop q_interp_Fold_64
def q_interp_Fold_66 : AC := .block 9 q_interp_Fold_65
def q_interp_Fold_67 : AC := .reg [⟨some 18, none, .mv (.c (.int .i64 0))⟩]
def q_interp_Fold_68 : AC := .seq q_interp_Fold_67 q_interp_Fold_66
def q_interp_Fold_69 : AC := .cond (.t 99) q_interp_Fold_68 .skip
def q_interp_Fold_70 : AC := .reg [⟨some 100, none, .bi .eql (.t 19) (.c (.int .i64 27))⟩, ⟨some 99, none, .mv (.t 100)⟩]
def q_interp_Fold_71 : AC := .seq q_interp_Fold_70 q_interp_Fold_69
def q_interp_Fold_72 : AC := .cond (.t 85) q_interp_Fold_56 q_interp_Fold_71
def q_interp_Fold_73 : AC := .reg [⟨some 86, none, .bi .eql (.t 19) (.c (.int .i64 26))⟩, ⟨some 85, none, .mv (.t 86)⟩]
def q_interp_Fold_74 : AC := .seq q_interp_Fold_73 q_interp_Fold_72
def q_interp_Fold_75 : AC := .cond (.t 63) q_interp_Fold_39 q_interp_Fold_74
def q_interp_Fold_76 : AC := .reg [⟨some 22, none, .mv (.t 1)⟩, ⟨some 23, none, .ca 72 [.t 22, .c (.int .i64 0)]⟩, ⟨some 24, none, .un .not (.t 23)⟩, ⟨some 25, none, .ca 71 [.t 24]⟩, ⟨some 4, none, .mv (.t 25)⟩]
def q_interp_Fold_77 : AC := .seq q_interp_Fold_76 .ret
def q_interp_Fold_78 : AC := .reg [⟨some 28, none, .mv (.t 1)⟩, ⟨some 29, none, .ca 73 [.t 28, .c (.fn 74 [] [])]⟩, ⟨some 30, none, .ca 71 [.t 29]⟩, ⟨some 4, none, .mv (.t 30)⟩]
def q_interp_Fold_79 : AC := .seq q_interp_Fold_78 .ret
def q_interp_Fold_80 : AC := .reg [⟨some 44, none, .bi .add (.t 35) (.c (.int .i64 1))⟩, ⟨some 35, none, .mv (.t 44)⟩]
def q_interp_Fold_81 : AC := .reg [⟨some 39, none, .mv (.t 5)⟩, ⟨some 40, none, .mv (.t 7)⟩, ⟨some 41, none, .ca 74 [.t 40]⟩, ⟨some 42, none, .ca 71 [.t 41]⟩, ⟨some 43, none, .bi .add (.t 39) (.t 42)⟩, ⟨some 5, none, .mv (.t 43)⟩]
def q_interp_Fold_82 : AC := .reg [⟨some 37, none, .ia 1 (.t 33) (.t 35)⟩, ⟨some 38, none, .ld false 1 (.t 37)⟩, ⟨some 7, none, .mv (.t 38)⟩]
def q_interp_Fold_83 : AC := .seq q_interp_Fold_82 q_interp_Fold_81
def q_interp_Fold_84 : AC := .block 2 q_interp_Fold_83
def q_interp_Fold_85 : AC := .seq q_interp_Fold_84 q_interp_Fold_80
def q_interp_Fold_86 : AC := .cond (.t 36) .skip (.exit 1)
def q_interp_Fold_87 : AC := .seq q_interp_Fold_86 q_interp_Fold_85
def q_interp_Fold_88 : AC := .reg [⟨some 36, none, .bi .lss (.t 35) (.t 34)⟩]
def q_interp_Fold_89 : AC := .seq q_interp_Fold_88 q_interp_Fold_87
def q_interp_Fold_90 : AC := .loop q_interp_Fold_89
def q_interp_Fold_91 : AC := .block 1 q_interp_Fold_90
def q_interp_Fold_92 : AC := .reg [⟨some 33, none, .mv (.t 1)⟩, ⟨some 34, none, .ln (.t 33)⟩, ⟨some 35, none, .mv (.c (.int .i64 0))⟩]
def q_interp_Fold_93 : AC := .seq q_interp_Fold_92 q_interp_Fold_91
def q_interp_Fold_94 : AC := .seq q_interp_Fold_93 q_interp_Fold_10
def q_interp_Fold_95 : AC := .reg [⟨some 5, none, .mv (.c (.int .i64 0))⟩]
def q_interp_Fold_96 : AC := .seq q_interp_Fold_95 q_interp_Fold_94
def q_interp_Fold_97 : AC := .reg [⟨some 48, none, .mv (.t 1)⟩, ⟨some 49, none, .ca 75 [.t 48, .c (.fn 74 [] [])]⟩, ⟨some 4, none, .mv (.t 49)⟩]
def q_interp_Fold_98 : AC := .seq q_interp_Fold_97 .ret
def q_interp_Fold_99 : AC := .reg [⟨some 61, none, .bi .add (.t 54) (.c (.int .i64 1))⟩, ⟨some 54, none, .mv (.t 61)⟩]
def q_interp_Fold_100 : AC := .reg [⟨some 58, none, .mv (.t 8)⟩, ⟨some 59, none, .mv (.t 10)⟩, ⟨some 60, none, .mn [.t 58, .t 59]⟩, ⟨some 8, none, .mv (.t 60)⟩]
def q_interp_Fold_101 : AC := .reg [⟨some 56, none, .ia 1 (.t 52) (.t 54)⟩, ⟨some 57, none, .ld false 1 (.t 56)⟩, ⟨some 10, none, .mv (.t 57)⟩]
def q_interp_Fold_102 : AC := .seq q_interp_Fold_101 q_interp_Fold_100
def q_interp_Fold_103 : AC := .block 4 q_interp_Fold_102
def q_interp_Fold_104 : AC := .seq q_interp_Fold_103 q_interp_Fold_99
def q_interp_Fold_105 : AC := .cond (.t 55) .skip (.exit 3)
def q_interp_Fold_106 : AC := .seq q_interp_Fold_105 q_interp_Fold_104
def q_interp_Fold_107 : AC := .reg [⟨some 55, none, .bi .lss (.t 54) (.t 53)⟩]
def q_interp_Fold_108 : AC := .seq q_interp_Fold_107 q_interp_Fold_106
def q_interp_Fold_109 : AC := .loop q_interp_Fold_108
def q_interp_Fold_110 : AC := .block 3 q_interp_Fold_109
def q_interp_Fold_111 : AC := .reg [⟨some 52, none, .mv (.t 1)⟩, ⟨some 53, none, .ln (.t 52)⟩, ⟨some 54, none, .mv (.c (.int .i64 0))⟩]
def q_interp_Fold_112 : AC := .seq q_interp_Fold_111 q_interp_Fold_110
def q_interp_Fold_113 : AC := .seq q_interp_Fold_112 q_interp_Fold_12
def q_interp_Fold_114 : AC := .reg [⟨some 8, none, .mv (.c (.int .i64 1073741824))⟩]
def q_interp_Fold_115 : AC := .seq q_interp_Fold_114 q_interp_Fold_113
def q_interp_Fold_116 : AC := .reg [⟨some 65, none, .bi .eql (.t 19) (.c (.int .i64 28))⟩, ⟨some 63, none, .mv (.t 65)⟩]
def q_interp_Fold_117 : AC := .cond (.t 63) .skip q_interp_Fold_116
def q_interp_Fold_118 : AC := .reg [⟨some 64, none, .bi .eql (.t 19) (.c (.int .i64 25))⟩, ⟨some 63, none, .mv (.t 64)⟩]
def q_interp_Fold_119 : AC := .seq q_interp_Fold_118 q_interp_Fold_117
def q_interp_Fold_120 : AC := .seq q_interp_Fold_119 q_interp_Fold_75
def q_interp_Fold_121 : AC := .cond (.t 50) q_interp_Fold_115 q_interp_Fold_120
def q_interp_Fold_122 : AC := .reg [⟨some 51, none, .bi .eql (.t 19) (.c (.int .i64 24))⟩, ⟨some 50, none, .mv (.t 51)⟩]
def q_interp_Fold_123 : AC := .seq q_interp_Fold_122 q_interp_Fold_121
def q_interp_Fold_124 : AC := .cond (.t 46) q_interp_Fold_98 q_interp_Fold_123
def q_interp_Fold_125 : AC := .reg [⟨some 47, none, .bi .eql (.t 19) (.c (.int .i64 23))⟩, ⟨some 46, none, .mv (.t 47)⟩]
def q_interp_Fold_126 : AC := .seq q_interp_Fold_125 q_interp_Fold_124
def q_interp_Fold_127 : AC := .cond (.t 31) q_interp_Fold_96 q_interp_Fold_126
def q_interp_Fold_128 : AC := .reg [⟨some 32, none, .bi .eql (.t 19) (.c (.int .i64 22))⟩, ⟨some 31, none, .mv (.t 32)⟩]
def q_interp_Fold_129 : AC := .seq q_interp_Fold_128 q_interp_Fold_127
def q_interp_Fold_130 : AC := .cond (.t 26) q_interp_Fold_79 q_interp_Fold_129
def q_interp_Fold_131 : AC := .reg [⟨some 27, none, .bi .eql (.t 19) (.c (.int .i64 21))⟩, ⟨some 26, none, .mv (.t 27)⟩]
def q_interp_Fold_132 : AC := .seq q_interp_Fold_131 q_interp_Fold_130
def q_interp_Fold_133 : AC := .cond (.t 20) q_interp_Fold_77 q_interp_Fold_132
def q_interp_Fold_134 : AC := .reg [⟨some 21, none, .bi .eql (.t 19) (.c (.int .i64 20))⟩, ⟨some 20, none, .mv (.t 21)⟩]
def q_interp_Fold_135 : AC := .seq q_interp_Fold_134 q_interp_Fold_133
def q_interp_Fold_136 : AC := .block 0 q_interp_Fold_135
def q_interp_Fold_137 : AC := .reg [⟨some 19, none, .mv (.t 0)⟩]
def q_interp_Fold_138 : AC := .seq q_interp_Fold_137 q_interp_Fold_136
def q_interp_Fold_139 : AC := .seq q_interp_Fold_138 q_interp_Fold_8
def q_interp_Fold_140 : AC := .reg [⟨some 4, none, .mv (.c (.int .i64 0))⟩]
def q_interp_Fold_141 : AC := .seq q_interp_Fold_140 q_interp_Fold_139
def c_interp_Fold : FC := ⟨114, [4], q_interp_Fold_141⟩
theorem k_interp_Fold : okF Try.prog 44 c_interp_Fold = true := by decide +kernel
noncomputable def interp_Fold.l14 (l_1 : List Int) (s9 : Int × Int) : Option ((Int × Int) ⊕ Int) := (bif (decide (s9.2 < (List.length l_1 : Int))) then ((idx l_1 s9.2).bind (fun (y11 : Int) => ((interp_isTrue y11).bind (fun (y12 : Bool) => ((interp_truth y12).bind (fun (y13 : Int) => (some (Sum.inl ((IntKind.i64.wrap (s9.1 + y13)), (IntKind.i64.wrap (s9.2 + 1))))))))))) else (some (Sum.inr s9.1)))
noncomputable def interp_Fold.l23 (l_1 : List Int) (s20 : Int × Int) : Option ((Int × Int) ⊕ Int) := (bif (decide (s20.2 < (List.length l_1 : Int))) then ((idx l_1 s20.2).bind (fun (y22 : Int) => (some (Sum.inl ((min s20.1 y22), (IntKind.i64.wrap (s20.2 + 1))))))) else (some (Sum.inr s20.1)))
noncomputable def interp_Fold.l34 (l_1 : List Int) (s31 : Int × Int × Int) : Option ((Int × Int × Int) ⊕ ((Int × Int))) := (bif (decide (s31.2.2 < (List.length l_1 : Int))) then ((idx l_1 s31.2.2).bind (fun (y33 : Int) => (some (Sum.inl ((max s31.1 y33), (max s31.2.1 ((min s31.1 y33))), (IntKind.i64.wrap (s31.2.2 + 1))))))) else (some (Sum.inr (s31.1, s31.2.1))))
noncomputable def interp_Fold.l43 (l_1 : List Int) (s40 : Int × Int) : Option ((Int × Int) ⊕ Int) := (bif (decide (s40.2 < (List.length l_1 : Int))) then ((idx l_1 s40.2).bind (fun (y42 : Int) => (some (Sum.inl ((IntKind.i64.wrap (s40.1 + y42)), (IntKind.i64.wrap (s40.2 + 1))))))) else (some (Sum.inr s40.1)))
noncomputable def interp_Fold.l51 (l_1 : List Int) (s48 : Int) : Option (Int ⊕ Int) := ((slices_Contains l_1 s48).bind (fun (y50 : Bool) => (bif (!y50) then (some (Sum.inr s48)) else (some (Sum.inl (IntKind.i64.wrap (s48 + 1)))))))
noncomputable def interp_Fold (op_0 : Int) (l_1 : List Int) : Option Int := (bif (decide (op_0 = 20)) then ((slices_Contains l_1 0).bind (fun (y1 : Bool) => ((interp_truth ((!y1))).bind (fun (y2 : Int) => (some y2))))) else (bif (decide (op_0 = 21)) then ((slices_ContainsFunc_interp_isTrue l_1).bind (fun (y3 : Bool) => ((interp_truth y3).bind (fun (y4 : Int) => (some y4))))) else (bif (decide (op_0 = 22)) then ((loopO (interp_Fold.l14 l_1) (0, 0)).bind (fun (w7 : Int) => (some w7))) else (bif (decide (op_0 = 23)) then ((slices_IndexFunc_interp_isTrue l_1).bind (fun (y15 : Int) => (some y15))) else (bif (decide (op_0 = 24)) then ((loopO (interp_Fold.l23 l_1) (1073741824, 0)).bind (fun (w18 : Int) => (some w18))) else ((bif (decide (op_0 = 25)) then (some (decide (op_0 = 25))) else (some (decide (op_0 = 28)))).bind (fun (w25 : Bool) => (bif w25 then ((loopO (interp_Fold.l34 l_1) ((-1073741824), (-1073741824), 0)).bind (fun (w29 : Int × Int) => (bif (decide (op_0 = 25)) then (some w29.1) else (some w29.2)))) else (bif (decide (op_0 = 26)) then ((loopO (interp_Fold.l43 l_1) (0, 0)).bind (fun (w37 : Int) => ((interp_saturated w37).bind (fun (y39 : Int) => (some y39))))) else (bif (decide (op_0 = 27)) then ((loopO (interp_Fold.l51 l_1) 0).bind (fun (w46 : Int) => (some w46))) else (bif (decide ((List.length l_1 : Int) = 0)) then (some 0) else ((idx l_1 0).bind (fun (y52 : Int) => (some y52))))))))))))))
theorem interp_Fold.ok {op_0 : Int} {l_1 : List Int} {r : Int} (h : interp_Fold op_0 l_1 = some r) : PC Try.prog 44 [.int .i64 op_0, .sl (List.map (cInt .i64) l_1)] (.int .i64 r) := by
  refine PC_run k_interp_Fold rfl (L := [(0, .u (.int .i64 op_0)), (1, .u (.sl (List.map (cInt .i64) l_1)))]) rfl ?_
  show Run Try.prog 114 (retQ [4] (.int .i64 r)) [] q_interp_Fold_141 _
  refine R_seq ?_
  refine R_reg ?_
  refine S_pure trivial (O_mv (d := .u (.int .i64 0)) (by kernel_rfl)) ?_
  refine Rs_nil ?_
  refine N_s ?_
  refine R_seq ?_
  refine R_seq ?_
  refine R_reg ?_
  refine S_pure trivial (O_mv (d := .u (.int .i64 op_0)) (by kernel_rfl)) ?_
  refine Rs_nil ?_
  refine N_s ?_
  refine R_block ?_
  refine R_seq ?_
  refine R_reg ?_
  refine S_pure trivial (O_eql (k := .i64) (a := op_0) (b := 20) (by kernel_rfl) (by kernel_rfl)) ?_
  refine S_pure trivial (O_mv (d := .u (.bool ((decide (op_0 = 20))))) (by kernel_rfl)) ?_
  refine Rs_nil ?_
  refine N_s ?_
  refine R_cond (c := (decide (op_0 = 20))) (by kernel_rfl) h (fun h => ?_) (fun h => ?_)
  · refine R_seq ?_
    refine R_reg ?_
    refine S_pure trivial (O_mv (d := .u (.sl (List.map (cInt .i64) l_1))) (by kernel_rfl)) ?_
    obtain ⟨y1, hy1, h⟩ := bindS h
    refine S_pure trivial (O_ca (us := [.sl (List.map (cInt .i64) l_1), .int .i64 0]) (r := .bool y1) (by kernel_rfl) (slices_Contains.ok hy1)) ?_
    refine S_pure trivial (O_not (b := y1) (by kernel_rfl)) ?_
    obtain ⟨y2, hy2, h⟩ := bindS h
    refine S_pure trivial (O_ca (us := [.bool ((!y1))]) (r := .int .i64 y2) (by kernel_rfl) (interp_truth.ok hy2)) ?_
    refine S_pure trivial (O_mv (d := .u (.int .i64 y2)) (by kernel_rfl)) ?_
    refine Rs_nil ?_
    refine N_s ?_
    obtain rfl := (Option.some.inj h)
    refine R_ret ?_
    exact Q_ret (x := .int .i64 y2) (by kernel_rfl) (.refl _)
  · refine R_seq ?_
    refine R_reg ?_
    refine S_pure trivial (O_eql (k := .i64) (a := op_0) (b := 21) (by kernel_rfl) (by kernel_rfl)) ?_
    refine S_pure trivial (O_mv (d := .u (.bool ((decide (op_0 = 21))))) (by kernel_rfl)) ?_
    refine Rs_nil ?_
    refine N_s ?_
    refine R_cond (c := (decide (op_0 = 21))) (by kernel_rfl) h (fun h => ?_) (fun h => ?_)
    · refine R_seq ?_
      refine R_reg ?_
      refine S_pure trivial (O_mv (d := .u (.sl (List.map (cInt .i64) l_1))) (by kernel_rfl)) ?_
      obtain ⟨y3, hy3, h⟩ := bindS h
      refine S_pure trivial (O_ca (us := [.sl (List.map (cInt .i64) l_1), .fn 74 [] []]) (r := .bool y3) (by kernel_rfl) (slices_ContainsFunc_interp_isTrue.ok hy3)) ?_
      obtain ⟨y4, hy4, h⟩ := bindS h
      refine S_pure trivial (O_ca (us := [.bool y3]) (r := .int .i64 y4) (by kernel_rfl) (interp_truth.ok hy4)) ?_
      refine S_pure trivial (O_mv (d := .u (.int .i64 y4)) (by kernel_rfl)) ?_
      refine Rs_nil ?_
      refine N_s ?_
      obtain rfl := (Option.some.inj h)
      refine R_ret ?_
      exact Q_ret (x := .int .i64 y4) (by kernel_rfl) (.refl _)
    · refine R_seq ?_
      refine R_reg ?_
      refine S_pure trivial (O_eql (k := .i64) (a := op_0) (b := 22) (by kernel_rfl) (by kernel_rfl)) ?_
      refine S_pure trivial (O_mv (d := .u (.bool ((decide (op_0 = 22))))) (by kernel_rfl)) ?_
      refine Rs_nil ?_
      refine N_s ?_
      refine R_cond (c := (decide (op_0 = 22))) (by kernel_rfl) h (fun h => ?_) (fun h => ?_)
      · refine R_seq ?_
        refine R_reg ?_
        refine S_pure trivial (O_mv (d := .u (.int .i64 0)) (by kernel_rfl)) ?_
        refine Rs_nil ?_
        refine N_s ?_
        refine R_seq ?_
        refine R_seq ?_
        refine R_reg ?_
        refine S_pure trivial (O_mv (d := .u (.sl (List.map (cInt .i64) l_1))) (by kernel_rfl)) ?_
        refine S_pure trivial (O_ln (c := (cInt .i64)) (li := l_1) (by kernel_rfl)) ?_
        refine S_pure trivial (O_mv (d := .u (.int .i64 0)) (by kernel_rfl)) ?_
        refine Rs_nil ?_
        refine N_s ?_
        refine R_block ?_
        obtain ⟨o5, hE, h⟩ := bindS h
        have K8 : ∀ (w7 : Int), w7 = o5 → Run Try.prog 114 (retQ [4] (.int .i64 r)) [.b 0, .s q_interp_Fold_8] q_interp_Fold_10 (mkSt [(5, .u (.int .i64 w7))] [] 0) := by
          intro w7 e; subst e
          refine R_seq ?_
          refine R_reg ?_
          refine S_pure trivial (O_mv (d := .u (.int .i64 w7)) (by kernel_rfl)) ?_
          refine S_pure trivial (O_mv (d := .u (.int .i64 w7)) (by kernel_rfl)) ?_
          refine Rs_nil ?_
          refine N_s ?_
          obtain rfl := (Option.some.inj h)
          refine R_ret ?_
          exact Q_ret (x := .int .i64 w7) (by kernel_rfl) (.refl _)
        refine R_loop (interp_Fold.l14 l_1) (fun s9 => (mkSt [(5, .u (.int .i64 s9.1)), (33, .u (.sl (List.map (cInt .i64) l_1))), (34, .u (.int .i64 ((List.length l_1 : Int)))), (35, .u (.int .i64 s9.2))] [] 0)) hE (W_to (by kernel_rfl) (by kernel_rfl) (by kernel_rfl)) ?_
        intro K6 s9 x10 h hK6 hO6
        refine R_seq ?_
        refine R_reg ?_
        refine S_pure trivial (O_lss (k := .i64) (a := s9.2) (b := (List.length l_1 : Int)) (by kernel_rfl) (by kernel_rfl)) ?_
        refine Rs_nil ?_
        refine N_s ?_
        refine R_seq ?_
        refine R_cond (c := (decide (s9.2 < (List.length l_1 : Int)))) (by kernel_rfl) h (fun h => ?_) (fun h => ?_)
        · refine R_skip ?_
          refine N_s ?_
          refine R_seq ?_
          refine R_block ?_
          refine R_seq ?_
          refine R_reg ?_
          obtain ⟨y11, hy11, h⟩ := bindS h
          refine S_pure trivial (O_ia (c := (cInt .i64)) (li := l_1) (i := s9.2) (k := .i64) (a := y11) (u := (cInt .i64) y11) (by kernel_rfl) (by kernel_rfl) hy11 rfl rfl) ?_
          refine S_pure trivial (O_ldf (cells := (cInt .i64) y11) (off := 0) (u := .int .i64 y11) (by kernel_rfl) (by kernel_rfl)) ?_
          refine S_pure trivial (O_mv (d := .u (.int .i64 y11)) (by kernel_rfl)) ?_
          refine Rs_nil ?_
          refine N_s ?_
          refine R_reg ?_
          refine S_pure trivial (O_mv (d := .u (.int .i64 s9.1)) (by kernel_rfl)) ?_
          refine S_pure trivial (O_mv (d := .u (.int .i64 y11)) (by kernel_rfl)) ?_
          obtain ⟨y12, hy12, h⟩ := bindS h
          refine S_pure trivial (O_ca (us := [.int .i64 y11]) (r := .bool y12) (by kernel_rfl) (interp_isTrue.ok hy12)) ?_
          obtain ⟨y13, hy13, h⟩ := bindS h
          refine S_pure trivial (O_ca (us := [.bool y12]) (r := .int .i64 y13) (by kernel_rfl) (interp_truth.ok hy13)) ?_
          refine S_pure trivial (O_add (k := .i64) (a := s9.1) (b := y13) (by kernel_rfl) (by kernel_rfl)) ?_
          refine S_pure trivial (O_mv (d := .u (.int .i64 ((IntKind.i64.wrap (s9.1 + y13))))) (by kernel_rfl)) ?_
          refine Rs_nil ?_
          refine N_b ?_
          refine N_s ?_
          refine R_reg ?_
          refine S_pure trivial (O_add (k := .i64) (a := s9.2) (b := 1) (by kernel_rfl) (by kernel_rfl)) ?_
          refine S_pure trivial (O_mv (d := .u (.int .i64 ((IntKind.i64.wrap (s9.2 + 1))))) (by kernel_rfl)) ?_
          refine Rs_nil ?_
          exact N_k (hK6 _ h _ (W_to (by kernel_rfl) (by kernel_rfl) (by kernel_rfl)))
        · refine R_exit ?_
          refine E_s ?_
          refine E_k ?_
          refine E_b ?_
          refine N_s ?_
          exact R_weak (W_to (by kernel_rfl) (by kernel_rfl) (by kernel_rfl)) (K8 _ (hO6 _ h))
      · refine R_seq ?_
        refine R_reg ?_
        refine S_pure trivial (O_eql (k := .i64) (a := op_0) (b := 23) (by kernel_rfl) (by kernel_rfl)) ?_
        refine S_pure trivial (O_mv (d := .u (.bool ((decide (op_0 = 23))))) (by kernel_rfl)) ?_
        refine Rs_nil ?_
        refine N_s ?_
        refine R_cond (c := (decide (op_0 = 23))) (by kernel_rfl) h (fun h => ?_) (fun h => ?_)
        · refine R_seq ?_
          refine R_reg ?_
          refine S_pure trivial (O_mv (d := .u (.sl (List.map (cInt .i64) l_1))) (by kernel_rfl)) ?_
          obtain ⟨y15, hy15, h⟩ := bindS h
          refine S_pure trivial (O_ca (us := [.sl (List.map (cInt .i64) l_1), .fn 74 [] []]) (r := .int .i64 y15) (by kernel_rfl) (slices_IndexFunc_interp_isTrue.ok hy15)) ?_
          refine S_pure trivial (O_mv (d := .u (.int .i64 y15)) (by kernel_rfl)) ?_
          refine Rs_nil ?_
          refine N_s ?_
          obtain rfl := (Option.some.inj h)
          refine R_ret ?_
          exact Q_ret (x := .int .i64 y15) (by kernel_rfl) (.refl _)
        · refine R_seq ?_
          refine R_reg ?_
          refine S_pure trivial (O_eql (k := .i64) (a := op_0) (b := 24) (by kernel_rfl) (by kernel_rfl)) ?_
          refine S_pure trivial (O_mv (d := .u (.bool ((decide (op_0 = 24))))) (by kernel_rfl)) ?_
          refine Rs_nil ?_
          refine N_s ?_
          refine R_cond (c := (decide (op_0 = 24))) (by kernel_rfl) h (fun h => ?_) (fun h => ?_)
          · refine R_seq ?_
            refine R_reg ?_
            refine S_pure trivial (O_mv (d := .u (.int .i64 1073741824)) (by kernel_rfl)) ?_
            refine Rs_nil ?_
            refine N_s ?_
            refine R_seq ?_
            refine R_seq ?_
            refine R_reg ?_
            refine S_pure trivial (O_mv (d := .u (.sl (List.map (cInt .i64) l_1))) (by kernel_rfl)) ?_
            refine S_pure trivial (O_ln (c := (cInt .i64)) (li := l_1) (by kernel_rfl)) ?_
            refine S_pure trivial (O_mv (d := .u (.int .i64 0)) (by kernel_rfl)) ?_
            refine Rs_nil ?_
            refine N_s ?_
            refine R_block ?_
            obtain ⟨o16, hE, h⟩ := bindS h
            have K19 : ∀ (w18 : Int), w18 = o16 → Run Try.prog 114 (retQ [4] (.int .i64 r)) [.b 0, .s q_interp_Fold_8] q_interp_Fold_12 (mkSt [(8, .u (.int .i64 w18))] [] 0) := by
              intro w18 e; subst e
              refine R_seq ?_
              refine R_reg ?_
              refine S_pure trivial (O_mv (d := .u (.int .i64 w18)) (by kernel_rfl)) ?_
              refine S_pure trivial (O_mv (d := .u (.int .i64 w18)) (by kernel_rfl)) ?_
              refine Rs_nil ?_
              refine N_s ?_
              obtain rfl := (Option.some.inj h)
              refine R_ret ?_
              exact Q_ret (x := .int .i64 w18) (by kernel_rfl) (.refl _)
            refine R_loop (interp_Fold.l23 l_1) (fun s20 => (mkSt [(8, .u (.int .i64 s20.1)), (52, .u (.sl (List.map (cInt .i64) l_1))), (53, .u (.int .i64 ((List.length l_1 : Int)))), (54, .u (.int .i64 s20.2))] [] 0)) hE (W_to (by kernel_rfl) (by kernel_rfl) (by kernel_rfl)) ?_
            intro K17 s20 x21 h hK17 hO17
            refine R_seq ?_
            refine R_reg ?_
            refine S_pure trivial (O_lss (k := .i64) (a := s20.2) (b := (List.length l_1 : Int)) (by kernel_rfl) (by kernel_rfl)) ?_
            refine Rs_nil ?_
            refine N_s ?_
            refine R_seq ?_
            refine R_cond (c := (decide (s20.2 < (List.length l_1 : Int)))) (by kernel_rfl) h (fun h => ?_) (fun h => ?_)
            · refine R_skip ?_
              refine N_s ?_
              refine R_seq ?_
              refine R_block ?_
              refine R_seq ?_
              refine R_reg ?_
              obtain ⟨y22, hy22, h⟩ := bindS h
              refine S_pure trivial (O_ia (c := (cInt .i64)) (li := l_1) (i := s20.2) (k := .i64) (a := y22) (u := (cInt .i64) y22) (by kernel_rfl) (by kernel_rfl) hy22 rfl rfl) ?_
              refine S_pure trivial (O_ldf (cells := (cInt .i64) y22) (off := 0) (u := .int .i64 y22) (by kernel_rfl) (by kernel_rfl)) ?_
              refine S_pure trivial (O_mv (d := .u (.int .i64 y22)) (by kernel_rfl)) ?_
              refine Rs_nil ?_
              refine N_s ?_
              refine R_reg ?_
              refine S_pure trivial (O_mv (d := .u (.int .i64 s20.1)) (by kernel_rfl)) ?_
              refine S_pure trivial (O_mv (d := .u (.int .i64 y22)) (by kernel_rfl)) ?_
              refine S_pure trivial (O_mn (k := .i64) (a := s20.1) (b := y22) (by kernel_rfl) (by kernel_rfl)) ?_
              refine S_pure trivial (O_mv (d := .u (.int .i64 ((min s20.1 y22)))) (by kernel_rfl)) ?_
              refine Rs_nil ?_
              refine N_b ?_
              refine N_s ?_
              refine R_reg ?_
              refine S_pure trivial (O_add (k := .i64) (a := s20.2) (b := 1) (by kernel_rfl) (by kernel_rfl)) ?_
              refine S_pure trivial (O_mv (d := .u (.int .i64 ((IntKind.i64.wrap (s20.2 + 1))))) (by kernel_rfl)) ?_
              refine Rs_nil ?_
              exact N_k (hK17 _ h _ (W_to (by kernel_rfl) (by kernel_rfl) (by kernel_rfl)))
            · refine R_exit ?_
              refine E_s ?_
              refine E_k ?_
              refine E_b ?_
              refine N_s ?_
              exact R_weak (W_to (by kernel_rfl) (by kernel_rfl) (by kernel_rfl)) (K19 _ (hO17 _ h))
          · obtain ⟨o24, hE, h⟩ := bindS h
            have K26 : ∀ (w25 : Bool), w25 = o24 → Run Try.prog 114 (retQ [4] (.int .i64 r)) [.b 0, .s q_interp_Fold_8] q_interp_Fold_75 (mkSt [(0, .u (.int .i64 op_0)), (1, .u (.sl (List.map (cInt .i64) l_1))), (19, .u (.int .i64 op_0)), (63, .u (.bool w25))] [] 0) := by
              intro w25 e; subst e
              refine R_cond (c := w25) (by kernel_rfl) h (fun h => ?_) (fun h => ?_)
              · refine R_seq ?_
                refine R_reg ?_
                refine S_pure trivial (O_mv (d := .u (.int .i64 ((-1073741824)))) (by kernel_rfl)) ?_
                refine S_pure trivial (O_mv (d := .u (.int .i64 ((-1073741824)))) (by kernel_rfl)) ?_
                refine Rs_nil ?_
                refine N_s ?_
                refine R_seq ?_
                refine R_seq ?_
                refine R_reg ?_
                refine S_pure trivial (O_mv (d := .u (.sl (List.map (cInt .i64) l_1))) (by kernel_rfl)) ?_
                refine S_pure trivial (O_ln (c := (cInt .i64)) (li := l_1) (by kernel_rfl)) ?_
                refine S_pure trivial (O_mv (d := .u (.int .i64 0)) (by kernel_rfl)) ?_
                refine Rs_nil ?_
                refine N_s ?_
                refine R_block ?_
                obtain ⟨o27, hE, h⟩ := bindS h
                have K30 : ∀ (w29 : Int × Int), w29 = o27 → Run Try.prog 114 (retQ [4] (.int .i64 r)) [.b 0, .s q_interp_Fold_8] q_interp_Fold_20 (mkSt [(0, .u (.int .i64 op_0)), (11, .u (.int .i64 w29.1)), (12, .u (.int .i64 w29.2))] [] 0) := by
                  intro w29 e; subst e
                  refine R_seq ?_
                  refine R_seq ?_
                  refine R_reg ?_
                  refine S_pure trivial (O_mv (d := .u (.int .i64 op_0)) (by kernel_rfl)) ?_
                  refine S_pure trivial (O_eql (k := .i64) (a := op_0) (b := 25) (by kernel_rfl) (by kernel_rfl)) ?_
                  refine Rs_nil ?_
                  refine N_s ?_
                  refine R_cond (c := (decide (op_0 = 25))) (by kernel_rfl) h (fun h => ?_) (fun h => ?_)
                  · refine R_seq ?_
                    refine R_reg ?_
                    refine S_pure trivial (O_mv (d := .u (.int .i64 w29.1)) (by kernel_rfl)) ?_
                    refine S_pure trivial (O_mv (d := .u (.int .i64 w29.1)) (by kernel_rfl)) ?_
                    refine Rs_nil ?_
                    refine N_s ?_
                    obtain rfl := (Option.some.inj h)
                    refine R_ret ?_
                    exact Q_ret (x := .int .i64 w29.1) (by kernel_rfl) (.refl _)
                  · refine R_skip ?_
                    refine N_s ?_
                    refine R_seq ?_
                    refine R_reg ?_
                    refine S_pure trivial (O_mv (d := .u (.int .i64 w29.2)) (by kernel_rfl)) ?_
                    refine S_pure trivial (O_mv (d := .u (.int .i64 w29.2)) (by kernel_rfl)) ?_
                    refine Rs_nil ?_
                    refine N_s ?_
                    obtain rfl := (Option.some.inj h)
                    refine R_ret ?_
                    exact Q_ret (x := .int .i64 w29.2) (by kernel_rfl) (.refl _)
                refine R_loop (interp_Fold.l34 l_1) (fun s31 => (mkSt [(0, .u (.int .i64 op_0)), (11, .u (.int .i64 s31.1)), (12, .u (.int .i64 s31.2.1)), (66, .u (.sl (List.map (cInt .i64) l_1))), (67, .u (.int .i64 ((List.length l_1 : Int)))), (68, .u (.int .i64 s31.2.2))] [] 0)) hE (W_to (by kernel_rfl) (by kernel_rfl) (by kernel_rfl)) ?_
                intro K28 s31 x32 h hK28 hO28
                refine R_seq ?_
                refine R_reg ?_
                refine S_pure trivial (O_lss (k := .i64) (a := s31.2.2) (b := (List.length l_1 : Int)) (by kernel_rfl) (by kernel_rfl)) ?_
                refine Rs_nil ?_
                refine N_s ?_
                refine R_seq ?_
                refine R_cond (c := (decide (s31.2.2 < (List.length l_1 : Int)))) (by kernel_rfl) h (fun h => ?_) (fun h => ?_)
                · refine R_skip ?_
                  refine N_s ?_
                  refine R_seq ?_
                  refine R_block ?_
                  refine R_seq ?_
                  refine R_reg ?_
                  obtain ⟨y33, hy33, h⟩ := bindS h
                  refine S_pure trivial (O_ia (c := (cInt .i64)) (li := l_1) (i := s31.2.2) (k := .i64) (a := y33) (u := (cInt .i64) y33) (by kernel_rfl) (by kernel_rfl) hy33 rfl rfl) ?_
                  refine S_pure trivial (O_ldf (cells := (cInt .i64) y33) (off := 0) (u := .int .i64 y33) (by kernel_rfl) (by kernel_rfl)) ?_
                  refine S_pure trivial (O_mv (d := .u (.int .i64 y33)) (by kernel_rfl)) ?_
                  refine Rs_nil ?_
                  refine N_s ?_
                  refine R_reg ?_
                  refine S_pure trivial (O_mv (d := .u (.int .i64 s31.1)) (by kernel_rfl)) ?_
                  refine S_pure trivial (O_mv (d := .u (.int .i64 y33)) (by kernel_rfl)) ?_
                  refine S_pure trivial (O_mx (k := .i64) (a := s31.1) (b := y33) (by kernel_rfl) (by kernel_rfl)) ?_
                  refine S_pure trivial (O_mv (d := .u (.int .i64 s31.2.1)) (by kernel_rfl)) ?_
                  refine S_pure trivial (O_mv (d := .u (.int .i64 s31.1)) (by kernel_rfl)) ?_
                  refine S_pure trivial (O_mv (d := .u (.int .i64 y33)) (by kernel_rfl)) ?_
                  refine S_pure trivial (O_mn (k := .i64) (a := s31.1) (b := y33) (by kernel_rfl) (by kernel_rfl)) ?_
                  refine S_pure trivial (O_mx (k := .i64) (a := s31.2.1) (b := (min s31.1 y33)) (by kernel_rfl) (by kernel_rfl)) ?_
                  refine S_pure trivial (O_mv (d := .u (.int .i64 ((max s31.1 y33)))) (by kernel_rfl)) ?_
                  refine S_pure trivial (O_mv (d := .u (.int .i64 ((max s31.2.1 ((min s31.1 y33)))))) (by kernel_rfl)) ?_
                  refine Rs_nil ?_
                  refine N_b ?_
                  refine N_s ?_
                  refine R_reg ?_
                  refine S_pure trivial (O_add (k := .i64) (a := s31.2.2) (b := 1) (by kernel_rfl) (by kernel_rfl)) ?_
                  refine S_pure trivial (O_mv (d := .u (.int .i64 ((IntKind.i64.wrap (s31.2.2 + 1))))) (by kernel_rfl)) ?_
                  refine Rs_nil ?_
                  exact N_k (hK28 _ h _ (W_to (by kernel_rfl) (by kernel_rfl) (by kernel_rfl)))
                · refine R_exit ?_
                  refine E_s ?_
                  refine E_k ?_
                  refine E_b ?_
                  refine N_s ?_
                  exact R_weak (W_to (by kernel_rfl) (by kernel_rfl) (by kernel_rfl)) (K30 _ (hO28 _ h))
              · refine R_seq ?_
                refine R_reg ?_
                refine S_pure trivial (O_eql (k := .i64) (a := op_0) (b := 26) (by kernel_rfl) (by kernel_rfl)) ?_
                refine S_pure trivial (O_mv (d := .u (.bool ((decide (op_0 = 26))))) (by kernel_rfl)) ?_
                refine Rs_nil ?_
                refine N_s ?_
                refine R_cond (c := (decide (op_0 = 26))) (by kernel_rfl) h (fun h => ?_) (fun h => ?_)
                · refine R_seq ?_
                  refine R_reg ?_
                  refine S_pure trivial (O_mv (d := .u (.int .i64 0)) (by kernel_rfl)) ?_
                  refine Rs_nil ?_
                  refine N_s ?_
                  refine R_seq ?_
                  refine R_seq ?_
                  refine R_reg ?_
                  refine S_pure trivial (O_mv (d := .u (.sl (List.map (cInt .i64) l_1))) (by kernel_rfl)) ?_
                  refine S_pure trivial (O_ln (c := (cInt .i64)) (li := l_1) (by kernel_rfl)) ?_
                  refine S_pure trivial (O_mv (d := .u (.int .i64 0)) (by kernel_rfl)) ?_
                  refine Rs_nil ?_
                  refine N_s ?_
                  refine R_block ?_
                  obtain ⟨o35, hE, h⟩ := bindS h
                  have K38 : ∀ (w37 : Int), w37 = o35 → Run Try.prog 114 (retQ [4] (.int .i64 r)) [.b 0, .s q_interp_Fold_8] q_interp_Fold_22 (mkSt [(15, .u (.int .i64 w37))] [] 0) := by
                    intro w37 e; subst e
                    refine R_seq ?_
                    refine R_reg ?_
                    refine S_pure trivial (O_mv (d := .u (.int .i64 w37)) (by kernel_rfl)) ?_
                    obtain ⟨y39, hy39, h⟩ := bindS h
                    refine S_pure trivial (O_ca (us := [.int .i64 w37]) (r := .int .i64 y39) (by kernel_rfl) (interp_saturated.ok hy39)) ?_
                    refine S_pure trivial (O_mv (d := .u (.int .i64 y39)) (by kernel_rfl)) ?_
                    refine Rs_nil ?_
                    refine N_s ?_
                    obtain rfl := (Option.some.inj h)
                    refine R_ret ?_
                    exact Q_ret (x := .int .i64 y39) (by kernel_rfl) (.refl _)
                  refine R_loop (interp_Fold.l43 l_1) (fun s40 => (mkSt [(15, .u (.int .i64 s40.1)), (87, .u (.sl (List.map (cInt .i64) l_1))), (88, .u (.int .i64 ((List.length l_1 : Int)))), (89, .u (.int .i64 s40.2))] [] 0)) hE (W_to (by kernel_rfl) (by kernel_rfl) (by kernel_rfl)) ?_
                  intro K36 s40 x41 h hK36 hO36
                  refine R_seq ?_
                  refine R_reg ?_
                  refine S_pure trivial (O_lss (k := .i64) (a := s40.2) (b := (List.length l_1 : Int)) (by kernel_rfl) (by kernel_rfl)) ?_
                  refine Rs_nil ?_
                  refine N_s ?_
                  refine R_seq ?_
                  refine R_cond (c := (decide (s40.2 < (List.length l_1 : Int)))) (by kernel_rfl) h (fun h => ?_) (fun h => ?_)
                  · refine R_skip ?_
                    refine N_s ?_
                    refine R_seq ?_
                    refine R_block ?_
                    refine R_seq ?_
                    refine R_reg ?_
                    obtain ⟨y42, hy42, h⟩ := bindS h
                    refine S_pure trivial (O_ia (c := (cInt .i64)) (li := l_1) (i := s40.2) (k := .i64) (a := y42) (u := (cInt .i64) y42) (by kernel_rfl) (by kernel_rfl) hy42 rfl rfl) ?_
                    refine S_pure trivial (O_ldf (cells := (cInt .i64) y42) (off := 0) (u := .int .i64 y42) (by kernel_rfl) (by kernel_rfl)) ?_
                    refine S_pure trivial (O_mv (d := .u (.int .i64 y42)) (by kernel_rfl)) ?_
                    refine Rs_nil ?_
                    refine N_s ?_
                    refine R_reg ?_
                    refine S_pure trivial (O_mv (d := .u (.int .i64 s40.1)) (by kernel_rfl)) ?_
                    refine S_pure trivial (O_mv (d := .u (.int .i64 y42)) (by kernel_rfl)) ?_
                    refine S_pure trivial (O_add (k := .i64) (a := s40.1) (b := y42) (by kernel_rfl) (by kernel_rfl)) ?_
                    refine S_pure trivial (O_mv (d := .u (.int .i64 ((IntKind.i64.wrap (s40.1 + y42))))) (by kernel_rfl)) ?_
                    refine Rs_nil ?_
                    refine N_b ?_
                    refine N_s ?_
                    refine R_reg ?_
                    refine S_pure trivial (O_add (k := .i64) (a := s40.2) (b := 1) (by kernel_rfl) (by kernel_rfl)) ?_
                    refine S_pure trivial (O_mv (d := .u (.int .i64 ((IntKind.i64.wrap (s40.2 + 1))))) (by kernel_rfl)) ?_
                    refine Rs_nil ?_
                    exact N_k (hK36 _ h _ (W_to (by kernel_rfl) (by kernel_rfl) (by kernel_rfl)))
                  · refine R_exit ?_
                    refine E_s ?_
                    refine E_k ?_
                    refine E_b ?_
                    refine N_s ?_
                    exact R_weak (W_to (by kernel_rfl) (by kernel_rfl) (by kernel_rfl)) (K38 _ (hO36 _ h))
                · refine R_seq ?_
                  refine R_reg ?_
                  refine S_pure trivial (O_eql (k := .i64) (a := op_0) (b := 27) (by kernel_rfl) (by kernel_rfl)) ?_
                  refine S_pure trivial (O_mv (d := .u (.bool ((decide (op_0 = 27))))) (by kernel_rfl)) ?_
                  refine Rs_nil ?_
                  refine N_s ?_
                  refine R_cond (c := (decide (op_0 = 27))) (by kernel_rfl) h (fun h => ?_) (fun h => ?_)
                  · refine R_seq ?_
                    refine R_reg ?_
                    refine S_pure trivial (O_mv (d := .u (.int .i64 0)) (by kernel_rfl)) ?_
                    refine Rs_nil ?_
                    refine N_s ?_
                    refine R_block ?_
                    obtain ⟨o44, hE, h⟩ := bindS h
                    have K47 : ∀ (w46 : Int), w46 = o44 → w46 = r := by
                      intro w46 e; subst e
                      exact Option.some.inj h
                    refine R_loop (interp_Fold.l51 l_1) (fun s48 => (mkSt [(1, .u (.sl (List.map (cInt .i64) l_1))), (18, .u (.int .i64 s48))] [] 0)) hE (W_to (by kernel_rfl) (by kernel_rfl) (by kernel_rfl)) ?_
                    intro K45 s48 x49 h hK45 hO45
                    refine R_seq ?_
                    refine R_block ?_
                    refine R_seq ?_
                    refine R_reg ?_
                    refine S_pure trivial (O_mv (d := .u (.sl (List.map (cInt .i64) l_1))) (by kernel_rfl)) ?_
                    refine S_pure trivial (O_mv (d := .u (.int .i64 s48)) (by kernel_rfl)) ?_
                    obtain ⟨y50, hy50, h⟩ := bindS h
                    refine S_pure trivial (O_ca (us := [.sl (List.map (cInt .i64) l_1), .int .i64 s48]) (r := .bool y50) (by kernel_rfl) (slices_Contains.ok hy50)) ?_
                    refine S_pure trivial (O_not (b := y50) (by kernel_rfl)) ?_
                    refine Rs_nil ?_
                    refine N_s ?_
                    refine R_cond (c := (!y50)) (by kernel_rfl) h (fun h => ?_) (fun h => ?_)
                    · refine R_seq ?_
                      refine R_reg ?_
                      refine S_pure trivial (O_mv (d := .u (.int .i64 s48)) (by kernel_rfl)) ?_
                      refine S_pure trivial (O_mv (d := .u (.int .i64 s48)) (by kernel_rfl)) ?_
                      refine Rs_nil ?_
                      refine N_s ?_
                      obtain rfl := (K47 _ (hO45 _ h))
                      refine R_ret ?_
                      exact Q_ret (x := .int .i64 s48) (by kernel_rfl) (.refl _)
                    · refine R_skip ?_
                      refine N_b ?_
                      refine N_s ?_
                      refine R_reg ?_
                      refine S_pure trivial (O_mv (d := .u (.int .i64 s48)) (by kernel_rfl)) ?_
                      refine S_pure trivial (O_add (k := .i64) (a := s48) (b := 1) (by kernel_rfl) (by kernel_rfl)) ?_
                      refine S_pure trivial (O_mv (d := .u (.int .i64 ((IntKind.i64.wrap (s48 + 1))))) (by kernel_rfl)) ?_
                      refine Rs_nil ?_
                      exact N_k (hK45 _ h _ (W_to (by kernel_rfl) (by kernel_rfl) (by kernel_rfl)))
                  · refine R_skip ?_
                    refine N_b ?_
                    refine N_s ?_
                    refine R_seq ?_
                    refine R_seq ?_
                    refine R_reg ?_
                    refine S_pure trivial (O_mv (d := .u (.sl (List.map (cInt .i64) l_1))) (by kernel_rfl)) ?_
                    refine S_pure trivial (O_ln (c := (cInt .i64)) (li := l_1) (by kernel_rfl)) ?_
                    refine S_pure trivial (O_eql (k := .i64) (a := (List.length l_1 : Int)) (b := 0) (by kernel_rfl) (by kernel_rfl)) ?_
                    refine Rs_nil ?_
                    refine N_s ?_
                    refine R_cond (c := (decide ((List.length l_1 : Int) = 0))) (by kernel_rfl) h (fun h => ?_) (fun h => ?_)
                    · refine R_seq ?_
                      refine R_reg ?_
                      refine S_pure trivial (O_mv (d := .u (.int .i64 0)) (by kernel_rfl)) ?_
                      refine Rs_nil ?_
                      refine N_s ?_
                      obtain rfl := (Option.some.inj h)
                      refine R_ret ?_
                      exact Q_ret (x := .int .i64 0) (by kernel_rfl) (.refl _)
                    · refine R_skip ?_
                      refine N_s ?_
                      refine R_seq ?_
                      refine R_reg ?_
                      refine S_pure trivial (O_mv (d := .u (.sl (List.map (cInt .i64) l_1))) (by kernel_rfl)) ?_
                      obtain ⟨y52, hy52, h⟩ := bindS h
                      refine S_pure trivial (O_ia (c := (cInt .i64)) (li := l_1) (i := 0) (k := .i64) (a := y52) (u := (cInt .i64) y52) (by kernel_rfl) (by kernel_rfl) hy52 rfl rfl) ?_
                      refine S_pure trivial (O_ldf (cells := (cInt .i64) y52) (off := 0) (u := .int .i64 y52) (by kernel_rfl) (by kernel_rfl)) ?_
                      refine S_pure trivial (O_mv (d := .u (.int .i64 y52)) (by kernel_rfl)) ?_
                      refine Rs_nil ?_
                      refine N_s ?_
                      obtain rfl := (Option.some.inj h)
                      refine R_ret ?_
                      exact Q_ret (x := .int .i64 y52) (by kernel_rfl) (.refl _)
            replace h := hE
            refine R_seq ?_
            refine R_seq ?_
            refine R_reg ?_
            refine S_pure trivial (O_eql (k := .i64) (a := op_0) (b := 25) (by kernel_rfl) (by kernel_rfl)) ?_
            refine S_pure trivial (O_mv (d := .u (.bool ((decide (op_0 = 25))))) (by kernel_rfl)) ?_
            refine Rs_nil ?_
            refine N_s ?_
            refine R_cond (c := (decide (op_0 = 25))) (by kernel_rfl) h (fun h => ?_) (fun h => ?_)
            · refine R_skip ?_
              refine N_s ?_
              exact R_weak (W_to (by kernel_rfl) (by kernel_rfl) (by kernel_rfl)) (K26 _ (Option.some.inj h))
            · refine R_reg ?_
              refine S_pure trivial (O_eql (k := .i64) (a := op_0) (b := 28) (by kernel_rfl) (by kernel_rfl)) ?_
              refine S_pure trivial (O_mv (d := .u (.bool ((decide (op_0 = 28))))) (by kernel_rfl)) ?_
              refine Rs_nil ?_
              refine N_s ?_
              exact R_weak (W_to (by kernel_rfl) (by kernel_rfl) (by kernel_rfl)) (K26 _ (Option.some.inj h))

/-! ### selfstab/eval.Fold -/
def q_eval_Fold_1 : AC := .reg [⟨some 4, none, .mv (.c (.int .i64 0))⟩, ⟨some 5, none, .mv (.c (.int .i64 2))⟩]
def q_eval_Fold_2 : AC := .seq q_eval_Fold_1 .ret
def q_eval_Fold_3 : AC := .reg [⟨some 4, none, .mv (.c (.int .i64 0))⟩, ⟨some 5, none, .mv (.c (.int .i64 3))⟩]
def q_eval_Fold_4 : AC := .seq q_eval_Fold_3 .ret
def q_eval_Fold_5 : AC := .reg [⟨some 4, none, .mv (.c (.int .i64 0))⟩, ⟨some 5, none, .mv (.c (.int .i64 2))⟩]
def q_eval_Fold_6 : AC := .seq q_eval_Fold_5 .ret
def q_eval_Fold_7 : AC := .cond (.t 17) q_eval_Fold_6 .skip
def q_eval_Fold_8 : AC := .reg [⟨some 18, none, .mv (.t 1)⟩, ⟨some 19, none, .ca 43 [.t 18]⟩, ⟨some 20, none, .un .not (.t 19)⟩, ⟨some 17, none, .mv (.t 20)⟩]
def q_eval_Fold_9 : AC := .seq q_eval_Fold_8 q_eval_Fold_7
def q_eval_Fold_10 : AC := .cond (.t 13) q_eval_Fold_4 q_eval_Fold_9
def q_eval_Fold_11 : AC := .reg [⟨some 14, none, .mv (.t 1)⟩, ⟨some 15, none, .ln (.t 14)⟩, ⟨some 16, none, .bi .geq (.t 15) (.c (.int .i64 24))⟩, ⟨some 13, none, .mv (.t 16)⟩]
def q_eval_Fold_12 : AC := .seq q_eval_Fold_11 q_eval_Fold_10
def q_eval_Fold_13 : AC := .cond (.t 6) q_eval_Fold_2 q_eval_Fold_12
def q_eval_Fold_14 : AC := .reg [⟨some 21, none, .mv (.t 0)⟩, ⟨some 22, none, .mv (.t 1)⟩, ⟨some 23, none, .ca 44 [.t 21, .t 22]⟩, ⟨some 4, none, .mv (.t 23)⟩, ⟨some 5, none, .mv (.c (.int .i64 0))⟩]
def q_eval_Fold_15 : AC := .seq q_eval_Fold_14 .ret
def q_eval_Fold_16 : AC := .reg [⟨some 7, none, .mv (.t 0)⟩, ⟨some 8, none, .bi .lss (.t 7) (.c (.int .i64 20))⟩, ⟨some 9, none, .mv (.t 8)⟩, ⟨some 10, some (9, false), .mv (.t 0)⟩, ⟨some 11, some (9, false), .bi .gtr (.t 10) (.c (.int .i64 29))⟩, ⟨some 12, none, .pk (.t 9) (.c (.bool true)) (.t 11)⟩, ⟨some 6, none, .mv (.t 12)⟩]
def q_eval_Fold_17 : AC := .seq q_eval_Fold_16 q_eval_Fold_13
def q_eval_Fold_18 : AC := .block 0 q_eval_Fold_17
def q_eval_Fold_19 : AC := .seq q_eval_Fold_18 q_eval_Fold_15
def q_eval_Fold_20 : AC := .reg [⟨some 4, none, .mv (.c (.int .i64 0))⟩, ⟨some 5, none, .mv (.c (.int .i64 0))⟩]
def q_eval_Fold_21 : AC := .seq q_eval_Fold_20 q_eval_Fold_19
def c_eval_Fold : FC := ⟨24, [4, 5], q_eval_Fold_21⟩
theorem k_eval_Fold : okF Try.prog 19 c_eval_Fold = true := by decide +kernel
noncomputable def eval_Fold (op_0 : Int) (l_1 : List Int) : Option (Int × Int) := (bif ((decide (op_0 < 20)) || (decide (29 < op_0))) then (some (0, 2)) else (bif (decide (24 ≤ (List.length l_1 : Int))) then (some (0, 3)) else ((eval_small l_1).bind (fun (y3 : Bool) => (bif (!y3) then (some (0, 2)) else ((interp_Fold op_0 l_1).bind (fun (y4 : Int) => (some (y4, 0)))))))))
theorem eval_Fold.ok {op_0 : Int} {l_1 : List Int} {r : Int × Int} (h : eval_Fold op_0 l_1 = some r) : PC Try.prog 19 [.int .i64 op_0, .sl (List.map (cInt .i64) l_1)] (.tup [.int .i64 r.1, .int .i64 r.2]) := by
  refine PC_run k_eval_Fold rfl (L := [(0, .u (.int .i64 op_0)), (1, .u (.sl (List.map (cInt .i64) l_1)))]) rfl ?_
  show Run Try.prog 24 (retQ [4, 5] (.tup [.int .i64 r.1, .int .i64 r.2])) [] q_eval_Fold_21 _
  refine R_seq ?_
  refine R_reg ?_
  refine S_pure trivial (O_mv (d := .u (.int .i64 0)) (by kernel_rfl)) ?_
  refine S_pure trivial (O_mv (d := .u (.int .i64 0)) (by kernel_rfl)) ?_
  refine Rs_nil ?_
  refine N_s ?_
  refine R_seq ?_
  refine R_block ?_
  refine R_seq ?_
  refine R_reg ?_
  refine S_pure trivial (O_mv (d := .u (.int .i64 op_0)) (by kernel_rfl)) ?_
  refine S_pure trivial (O_lss (k := .i64) (a := op_0) (b := 20) (by kernel_rfl) (by kernel_rfl)) ?_
  refine S_pure trivial (O_mv (d := .u (.bool ((decide (op_0 < 20))))) (by kernel_rfl)) ?_
  have K1 : ∀ v2 : Bool, v2 = ((decide (op_0 < 20)) || (decide (29 < op_0))) → Rs Try.prog 24 (retQ [4, 5] (.tup [.int .i64 r.1, .int .i64 r.2])) [.s q_eval_Fold_13, .b 0, .s q_eval_Fold_15] [⟨some 6, none, .mv (.t 12)⟩] (mkSt [(0, .u (.int .i64 op_0)), (1, .u (.sl (List.map (cInt .i64) l_1))), (12, .u (.bool v2))] [] 0) := by
    intro v2 e; subst e
    refine S_pure trivial (O_mv (d := .u (.bool (((decide (op_0 < 20)) || (decide (29 < op_0)))))) (by kernel_rfl)) ?_
    refine Rs_nil ?_
    refine N_s ?_
    refine R_cond (c := ((decide (op_0 < 20)) || (decide (29 < op_0)))) (by kernel_rfl) h (fun h => ?_) (fun h => ?_)
    · refine R_seq ?_
      refine R_reg ?_
      refine S_pure trivial (O_mv (d := .u (.int .i64 0)) (by kernel_rfl)) ?_
      refine S_pure trivial (O_mv (d := .u (.int .i64 2)) (by kernel_rfl)) ?_
      refine Rs_nil ?_
      refine N_s ?_
      obtain rfl := (Option.some.inj h)
      refine R_ret ?_
      exact Q_ret (x := .tup [.int .i64 0, .int .i64 2]) (by kernel_rfl) (.refl _)
    · refine R_seq ?_
      refine R_reg ?_
      refine S_pure trivial (O_mv (d := .u (.sl (List.map (cInt .i64) l_1))) (by kernel_rfl)) ?_
      refine S_pure trivial (O_ln (c := (cInt .i64)) (li := l_1) (by kernel_rfl)) ?_
      refine S_pure trivial (O_geq (k := .i64) (a := (List.length l_1 : Int)) (b := 24) (by kernel_rfl) (by kernel_rfl)) ?_
      refine S_pure trivial (O_mv (d := .u (.bool ((decide (24 ≤ (List.length l_1 : Int)))))) (by kernel_rfl)) ?_
      refine Rs_nil ?_
      refine N_s ?_
      refine R_cond (c := (decide (24 ≤ (List.length l_1 : Int)))) (by kernel_rfl) h (fun h => ?_) (fun h => ?_)
      · refine R_seq ?_
        refine R_reg ?_
        refine S_pure trivial (O_mv (d := .u (.int .i64 0)) (by kernel_rfl)) ?_
        refine S_pure trivial (O_mv (d := .u (.int .i64 3)) (by kernel_rfl)) ?_
        refine Rs_nil ?_
        refine N_s ?_
        obtain rfl := (Option.some.inj h)
        refine R_ret ?_
        exact Q_ret (x := .tup [.int .i64 0, .int .i64 3]) (by kernel_rfl) (.refl _)
      · refine R_seq ?_
        refine R_reg ?_
        refine S_pure trivial (O_mv (d := .u (.sl (List.map (cInt .i64) l_1))) (by kernel_rfl)) ?_
        obtain ⟨y3, hy3, h⟩ := bindS h
        refine S_pure trivial (O_ca (us := [.sl (List.map (cInt .i64) l_1)]) (r := .bool y3) (by kernel_rfl) (eval_small.ok hy3)) ?_
        refine S_pure trivial (O_not (b := y3) (by kernel_rfl)) ?_
        refine S_pure trivial (O_mv (d := .u (.bool ((!y3)))) (by kernel_rfl)) ?_
        refine Rs_nil ?_
        refine N_s ?_
        refine R_cond (c := (!y3)) (by kernel_rfl) h (fun h => ?_) (fun h => ?_)
        · refine R_seq ?_
          refine R_reg ?_
          refine S_pure trivial (O_mv (d := .u (.int .i64 0)) (by kernel_rfl)) ?_
          refine S_pure trivial (O_mv (d := .u (.int .i64 2)) (by kernel_rfl)) ?_
          refine Rs_nil ?_
          refine N_s ?_
          obtain rfl := (Option.some.inj h)
          refine R_ret ?_
          exact Q_ret (x := .tup [.int .i64 0, .int .i64 2]) (by kernel_rfl) (.refl _)
        · refine R_skip ?_
          refine N_b ?_
          refine N_s ?_
          refine R_seq ?_
          refine R_reg ?_
          refine S_pure trivial (O_mv (d := .u (.int .i64 op_0)) (by kernel_rfl)) ?_
          refine S_pure trivial (O_mv (d := .u (.sl (List.map (cInt .i64) l_1))) (by kernel_rfl)) ?_
          obtain ⟨y4, hy4, h⟩ := bindS h
          refine S_pure trivial (O_ca (us := [.int .i64 op_0, .sl (List.map (cInt .i64) l_1)]) (r := .int .i64 y4) (by kernel_rfl) (interp_Fold.ok hy4)) ?_
          refine S_pure trivial (O_mv (d := .u (.int .i64 y4)) (by kernel_rfl)) ?_
          refine S_pure trivial (O_mv (d := .u (.int .i64 0)) (by kernel_rfl)) ?_
          refine Rs_nil ?_
          refine N_s ?_
          obtain rfl := (Option.some.inj h)
          refine R_ret ?_
          exact Q_ret (x := .tup [.int .i64 y4, .int .i64 0]) (by kernel_rfl) (.refl _)
  refine S_case0 (t := 9) (c := (decide (op_0 < 20))) (by kernel_rfl) (fun hc => ?_) (fun hc => ?_)
  · refine S_skip (b := true) (by kernel_rfl) rfl ?_
    refine S_skip (b := true) (by kernel_rfl) rfl ?_
    refine S_pure trivial (O_pkt (d := .u (.bool true)) (by kernel_rfl) (by kernel_rfl)) ?_
    exact Rs_weak (W_to (by kernel_rfl) (by kernel_rfl) (by kernel_rfl)) (K1 _ (by rw [hc] <;> rfl))
  · refine S_pure (by show _ = _; kernel_rfl) (O_mv (d := .u (.int .i64 op_0)) (by kernel_rfl)) ?_
    refine S_pure (by show _ = _; kernel_rfl) (O_gtr (k := .i64) (a := op_0) (b := 29) (by kernel_rfl) (by kernel_rfl)) ?_
    refine S_pure trivial (O_pkf (d := .u (.bool ((decide (29 < op_0))))) (by kernel_rfl) (by kernel_rfl)) ?_
    exact Rs_weak (W_to (by kernel_rfl) (by kernel_rfl) (by kernel_rfl)) (K1 _ (by rw [hc] <;> rfl))

/-! ### selfstab/interp.Unary -/
def q_interp_Unary_1 : AC := .reg [⟨some 9, none, .mv (.t 1)⟩, ⟨some 10, none, .bi .eql (.t 9) (.c (.int .i64 0))⟩, ⟨some 11, none, .ca 71 [.t 10]⟩, ⟨some 4, none, .mv (.t 11)⟩]
def q_interp_Unary_2 : AC := .seq q_interp_Unary_1 .ret
def q_interp_Unary_3 : AC := .reg [⟨some 7, none, .mv (.t 1)⟩, ⟨some 8, none, .un .neg (.t 7)⟩, ⟨some 4, none, .mv (.t 8)⟩]
def q_interp_Unary_4 : AC := .seq q_interp_Unary_3 .ret
def q_interp_Unary_5 : AC := .cond (.t 6) q_interp_Unary_4 .skip
def q_interp_Unary_6 : AC := .reg [⟨some 5, none, .mv (.t 0)⟩, ⟨some 6, none, .bi .eql (.t 5) (.c (.int .i64 18))⟩]
def q_interp_Unary_7 : AC := .seq q_interp_Unary_6 q_interp_Unary_5
def q_interp_Unary_8 : AC := .seq q_interp_Unary_7 q_interp_Unary_2
def q_interp_Unary_9 : AC := .reg [⟨some 4, none, .mv (.c (.int .i64 0))⟩]
def q_interp_Unary_10 : AC := .seq q_interp_Unary_9 q_interp_Unary_8
def c_interp_Unary : FC := ⟨12, [4], q_interp_Unary_10⟩
theorem k_interp_Unary : okF Try.prog 57 c_interp_Unary = true := by decide +kernel
noncomputable def interp_Unary (op_0 : Int) (a_1 : Int) : Option Int := (bif (decide (op_0 = 18)) then (some (IntKind.i64.wrap (0 - a_1))) else ((interp_truth ((decide (a_1 = 0)))).bind (fun (y1 : Int) => (some y1))))
theorem interp_Unary.ok {op_0 : Int} {a_1 : Int} {r : Int} (h : interp_Unary op_0 a_1 = some r) : PC Try.prog 57 [.int .i64 op_0, .int .i64 a_1] (.int .i64 r) := by
  refine PC_run k_interp_Unary rfl (L := [(0, .u (.int .i64 op_0)), (1, .u (.int .i64 a_1))]) rfl ?_
  show Run Try.prog 12 (retQ [4] (.int .i64 r)) [] q_interp_Unary_10 _
  refine R_seq ?_
  refine R_reg ?_
  refine S_pure trivial (O_mv (d := .u (.int .i64 0)) (by kernel_rfl)) ?_
  refine Rs_nil ?_
  refine N_s ?_
  refine R_seq ?_
  refine R_seq ?_
  refine R_reg ?_
  refine S_pure trivial (O_mv (d := .u (.int .i64 op_0)) (by kernel_rfl)) ?_
  refine S_pure trivial (O_eql (k := .i64) (a := op_0) (b := 18) (by kernel_rfl) (by kernel_rfl)) ?_
  refine Rs_nil ?_
  refine N_s ?_
  refine R_cond (c := (decide (op_0 = 18))) (by kernel_rfl) h (fun h => ?_) (fun h => ?_)
  · refine R_seq ?_
    refine R_reg ?_
    refine S_pure trivial (O_mv (d := .u (.int .i64 a_1)) (by kernel_rfl)) ?_
    refine S_pure trivial (O_neg (k := .i64) (a := a_1) (by kernel_rfl)) ?_
    refine S_pure trivial (O_mv (d := .u (.int .i64 ((IntKind.i64.wrap (0 - a_1))))) (by kernel_rfl)) ?_
    refine Rs_nil ?_
    refine N_s ?_
    obtain rfl := (Option.some.inj h)
    refine R_ret ?_
    exact Q_ret (x := .int .i64 ((IntKind.i64.wrap (0 - a_1)))) (by kernel_rfl) (.refl _)
  · refine R_skip ?_
    refine N_s ?_
    refine R_seq ?_
    refine R_reg ?_
    refine S_pure trivial (O_mv (d := .u (.int .i64 a_1)) (by kernel_rfl)) ?_
    refine S_pure trivial (O_eql (k := .i64) (a := a_1) (b := 0) (by kernel_rfl) (by kernel_rfl)) ?_
    obtain ⟨y1, hy1, h⟩ := bindS h
    refine S_pure trivial (O_ca (us := [.bool ((decide (a_1 = 0)))]) (r := .int .i64 y1) (by kernel_rfl) (interp_truth.ok hy1)) ?_
    refine S_pure trivial (O_mv (d := .u (.int .i64 y1)) (by kernel_rfl)) ?_
    refine Rs_nil ?_
    refine N_s ?_
    obtain rfl := (Option.some.inj h)
    refine R_ret ?_
    exact Q_ret (x := .int .i64 y1) (by kernel_rfl) (.refl _)

/-! ### selfstab/eval.Unary -/
def q_eval_Unary_1 : AC := .reg [⟨some 4, none, .mv (.c (.int .i64 0))⟩, ⟨some 5, none, .mv (.c (.int .i64 2))⟩]
def q_eval_Unary_2 : AC := .seq q_eval_Unary_1 .ret
def q_eval_Unary_3 : AC := .cond (.t 17) q_eval_Unary_2 .skip
def q_eval_Unary_4 : AC := .reg [⟨some 18, none, .mv (.t 0)⟩, ⟨some 19, none, .mv (.t 1)⟩, ⟨some 20, none, .ca 57 [.t 18, .t 19]⟩, ⟨some 4, none, .mv (.t 20)⟩, ⟨some 5, none, .mv (.c (.int .i64 0))⟩]
def q_eval_Unary_5 : AC := .seq q_eval_Unary_4 .ret
def q_eval_Unary_6 : AC := .reg [⟨some 6, none, .mv (.t 0)⟩, ⟨some 7, none, .bi .neq (.t 6) (.c (.int .i64 18))⟩, ⟨some 8, none, .mv (.t 7)⟩, ⟨some 9, some (8, true), .mv (.t 0)⟩, ⟨some 10, some (8, true), .bi .neq (.t 9) (.c (.int .i64 19))⟩, ⟨some 11, none, .pk (.t 8) (.t 10) (.c (.bool false))⟩, ⟨some 12, none, .mv (.t 11)⟩, ⟨some 13, some (12, false), .mv (.t 1)⟩, ⟨some 14, some (12, false), .bs 1 [.t 13]⟩, ⟨some 15, some (12, false), .ca 43 [.t 14]⟩, ⟨some 16, some (12, false), .un .not (.t 15)⟩, ⟨some 17, none, .pk (.t 12) (.c (.bool true)) (.t 16)⟩]
def q_eval_Unary_7 : AC := .seq q_eval_Unary_6 q_eval_Unary_3
def q_eval_Unary_8 : AC := .seq q_eval_Unary_7 q_eval_Unary_5
def q_eval_Unary_9 : AC := .reg [⟨some 4, none, .mv (.c (.int .i64 0))⟩, ⟨some 5, none, .mv (.c (.int .i64 0))⟩]
def q_eval_Unary_10 : AC := .seq q_eval_Unary_9 q_eval_Unary_8
def c_eval_Unary : FC := ⟨21, [4, 5], q_eval_Unary_10⟩
theorem k_eval_Unary : okF Try.prog 34 c_eval_Unary = true := by decide +kernel
noncomputable def eval_Unary (op_0 : Int) (a_1 : Int) : Option (Int × Int) := ((bif ((!decide (op_0 = 18)) && (!decide (op_0 = 19))) then (some true) else ((eval_small ([a_1])).bind (fun (y7 : Bool) => (some (!y7))))).bind (fun (o5 : Bool) => (bif o5 then (some (0, 2)) else ((interp_Unary op_0 a_1).bind (fun (y6 : Int) => (some (y6, 0)))))))
theorem eval_Unary.ok {op_0 : Int} {a_1 : Int} {r : Int × Int} (h : eval_Unary op_0 a_1 = some r) : PC Try.prog 34 [.int .i64 op_0, .int .i64 a_1] (.tup [.int .i64 r.1, .int .i64 r.2]) := by
  refine PC_run k_eval_Unary rfl (L := [(0, .u (.int .i64 op_0)), (1, .u (.int .i64 a_1))]) rfl ?_
  show Run Try.prog 21 (retQ [4, 5] (.tup [.int .i64 r.1, .int .i64 r.2])) [] q_eval_Unary_10 _
  refine R_seq ?_
  refine R_reg ?_
  refine S_pure trivial (O_mv (d := .u (.int .i64 0)) (by kernel_rfl)) ?_
  refine S_pure trivial (O_mv (d := .u (.int .i64 0)) (by kernel_rfl)) ?_
  refine Rs_nil ?_
  refine N_s ?_
  refine R_seq ?_
  refine R_seq ?_
  refine R_reg ?_
  refine S_pure trivial (O_mv (d := .u (.int .i64 op_0)) (by kernel_rfl)) ?_
  refine S_pure trivial (O_neq (k := .i64) (a := op_0) (b := 18) (by kernel_rfl) (by kernel_rfl)) ?_
  refine S_pure trivial (O_mv (d := .u (.bool ((!decide (op_0 = 18))))) (by kernel_rfl)) ?_
  have K1 : ∀ v2 : Bool, v2 = ((!decide (op_0 = 18)) && (!decide (op_0 = 19))) → Rs Try.prog 21 (retQ [4, 5] (.tup [.int .i64 r.1, .int .i64 r.2])) [.s q_eval_Unary_3, .s q_eval_Unary_5] [⟨some 12, none, .mv (.t 11)⟩, ⟨some 13, some (12, false), .mv (.t 1)⟩, ⟨some 14, some (12, false), .bs 1 [.t 13]⟩, ⟨some 15, some (12, false), .ca 43 [.t 14]⟩, ⟨some 16, some (12, false), .un .not (.t 15)⟩, ⟨some 17, none, .pk (.t 12) (.c (.bool true)) (.t 16)⟩] (mkSt [(0, .u (.int .i64 op_0)), (1, .u (.int .i64 a_1)), (11, .u (.bool v2))] [] 0) := by
    intro v2 e; subst e
    refine S_pure trivial (O_mv (d := .u (.bool (((!decide (op_0 = 18)) && (!decide (op_0 = 19)))))) (by kernel_rfl)) ?_
    obtain ⟨o5, hE, h⟩ := bindS h
    have K3 : Rs Try.prog 21 (retQ [4, 5] (.tup [.int .i64 r.1, .int .i64 r.2])) [.s q_eval_Unary_3, .s q_eval_Unary_5] [] (mkSt [(0, .u (.int .i64 op_0)), (1, .u (.int .i64 a_1)), (17, .u (.bool o5))] [] 0) := by
      refine Rs_nil ?_
      refine N_s ?_
      refine R_cond (c := o5) (by kernel_rfl) h (fun h => ?_) (fun h => ?_)
      · refine R_seq ?_
        refine R_reg ?_
        refine S_pure trivial (O_mv (d := .u (.int .i64 0)) (by kernel_rfl)) ?_
        refine S_pure trivial (O_mv (d := .u (.int .i64 2)) (by kernel_rfl)) ?_
        refine Rs_nil ?_
        refine N_s ?_
        obtain rfl := (Option.some.inj h)
        refine R_ret ?_
        exact Q_ret (x := .tup [.int .i64 0, .int .i64 2]) (by kernel_rfl) (.refl _)
      · refine R_skip ?_
        refine N_s ?_
        refine R_seq ?_
        refine R_reg ?_
        refine S_pure trivial (O_mv (d := .u (.int .i64 op_0)) (by kernel_rfl)) ?_
        refine S_pure trivial (O_mv (d := .u (.int .i64 a_1)) (by kernel_rfl)) ?_
        obtain ⟨y6, hy6, h⟩ := bindS h
        refine S_pure trivial (O_ca (us := [.int .i64 op_0, .int .i64 a_1]) (r := .int .i64 y6) (by kernel_rfl) (interp_Unary.ok hy6)) ?_
        refine S_pure trivial (O_mv (d := .u (.int .i64 y6)) (by kernel_rfl)) ?_
        refine S_pure trivial (O_mv (d := .u (.int .i64 0)) (by kernel_rfl)) ?_
        refine Rs_nil ?_
        refine N_s ?_
        obtain rfl := (Option.some.inj h)
        refine R_ret ?_
        exact Q_ret (x := .tup [.int .i64 y6, .int .i64 0]) (by kernel_rfl) (.refl _)
    replace h := hE
    refine S_case (t := 12) (c := ((!decide (op_0 = 18)) && (!decide (op_0 = 19)))) (by kernel_rfl) h (fun hc h => ?_) (fun hc h => ?_)
    · refine S_skip (b := true) (by kernel_rfl) rfl ?_
      refine S_skip (b := true) (by kernel_rfl) rfl ?_
      refine S_skip (b := true) (by kernel_rfl) rfl ?_
      refine S_skip (b := true) (by kernel_rfl) rfl ?_
      refine S_pure trivial (O_pkt (d := .u (.bool true)) (by kernel_rfl) (by kernel_rfl)) ?_
      obtain rfl := Option.some.inj h
      exact Rs_weak (W_to (by kernel_rfl) (by kernel_rfl) (by kernel_rfl)) K3
    · refine S_pure (by show _ = _; kernel_rfl) (O_mv (d := .u (.int .i64 a_1)) (by kernel_rfl)) ?_
      refine S_up (by show _ = _; kernel_rfl) (O_bs (els := [[.u (.int .i64 a_1)]]) (uss := List.map (cInt .i64) ([a_1])) (m := List.length ([a_1])) (by kernel_rfl) rfl (by kernel_rfl) (by kernel_rfl)) ?_
      obtain ⟨y7, hy7, h⟩ := bindS h
      refine S_pure (by show _ = _; kernel_rfl) (O_caf (ds := [.msl 0 [a_1].length]) (us := [.sl (List.map (cInt .i64) ([a_1]))]) (r := .bool y7) (by kernel_rfl) (fz_cons (fz_msl (s := 1) (c := (cInt .i64)) (li := [a_1]) (by kernel_rfl)) fz_nil) (eval_small.ok hy7) rfl) ?_
      refine S_pure (by show _ = _; kernel_rfl) (O_not (b := y7) (by kernel_rfl)) ?_
      refine S_pure trivial (O_pkf (d := .u (.bool ((!y7)))) (by kernel_rfl) (by kernel_rfl)) ?_
      obtain rfl := Option.some.inj h
      exact Rs_weak (W_to (by kernel_rfl) (by kernel_rfl) (by kernel_rfl)) K3
  refine S_case0 (t := 8) (c := (!decide (op_0 = 18))) (by kernel_rfl) (fun hc => ?_) (fun hc => ?_)
  · refine S_pure (by show _ = _; kernel_rfl) (O_mv (d := .u (.int .i64 op_0)) (by kernel_rfl)) ?_
    refine S_pure (by show _ = _; kernel_rfl) (O_neq (k := .i64) (a := op_0) (b := 19) (by kernel_rfl) (by kernel_rfl)) ?_
    refine S_pure trivial (O_pkt (d := .u (.bool ((!decide (op_0 = 19))))) (by kernel_rfl) (by kernel_rfl)) ?_
    exact Rs_weak (W_to (by kernel_rfl) (by kernel_rfl) (by kernel_rfl)) (K1 _ (by rw [hc] <;> rfl))
  · refine S_skip (b := false) (by kernel_rfl) rfl ?_
    refine S_skip (b := false) (by kernel_rfl) rfl ?_
    refine S_pure trivial (O_pkf (d := .u (.bool false)) (by kernel_rfl) (by kernel_rfl)) ?_
    exact Rs_weak (W_to (by kernel_rfl) (by kernel_rfl) (by kernel_rfl)) (K1 _ (by rw [hc] <;> rfl))

/-! ### selfstab/selfstablaw11.awake -/
def q_law11_awake_1 : AC := .reg [⟨some 14, none, .mv (.t 2)⟩, ⟨some 15, none, .bi .eql (.t 14) (.c (.int .i64 0))⟩, ⟨some 16, none, .mv (.t 15)⟩, ⟨some 17, some (16, true), .mv (.t 4)⟩, ⟨some 18, some (16, true), .bi .eql (.t 17) (.c (.int .i64 0))⟩, ⟨some 19, none, .pk (.t 16) (.t 18) (.c (.bool false))⟩, ⟨some 20, none, .mv (.t 19)⟩, ⟨some 21, some (20, true), .mv (.t 1)⟩, ⟨some 22, some (20, true), .bi .eql (.t 21) (.c (.int .i64 (-4)))⟩, ⟨some 23, none, .pk (.t 20) (.t 22) (.c (.bool false))⟩, ⟨some 24, none, .mv (.t 23)⟩, ⟨some 25, some (24, true), .mv (.t 3)⟩, ⟨some 26, some (24, true), .bi .eql (.t 25) (.c (.int .i64 3))⟩, ⟨some 27, none, .pk (.t 24) (.t 26) (.c (.bool false))⟩, ⟨some 0, none, .mv (.t 27)⟩]
def q_law11_awake_2 : AC := .seq q_law11_awake_1 .ret
def q_law11_awake_3 : AC := .reg [⟨some 10, none, .bs 1 [.c (.int .i64 0), .c (.int .i64 2), .c (.int .i64 1), .c (.int .i64 0)]⟩, ⟨some 11, none, .ca 19 [.c (.int .i64 27), .t 10]⟩, ⟨some 9, none, .mv (.t 11)⟩, ⟨some 12, none, .ex (.t 9) 0⟩, ⟨some 13, none, .ex (.t 9) 1⟩, ⟨some 3, none, .mv (.t 12)⟩, ⟨some 4, none, .mv (.t 13)⟩]
def q_law11_awake_4 : AC := .seq q_law11_awake_3 q_law11_awake_2
def q_law11_awake_5 : AC := .reg [⟨some 6, none, .ca 22 [.c (.int .i64 31), .c (.int .i64 (-7)), .c (.int .i64 2)]⟩, ⟨some 5, none, .mv (.t 6)⟩, ⟨some 7, none, .ex (.t 5) 0⟩, ⟨some 8, none, .ex (.t 5) 1⟩, ⟨some 1, none, .mv (.t 7)⟩, ⟨some 2, none, .mv (.t 8)⟩]
def q_law11_awake_6 : AC := .seq q_law11_awake_5 q_law11_awake_4
def q_law11_awake_7 : AC := .reg [⟨some 0, none, .mv (.c (.bool false))⟩]
def q_law11_awake_8 : AC := .seq q_law11_awake_7 q_law11_awake_6
def c_law11_awake : FC := ⟨28, [0], q_law11_awake_8⟩
theorem k_law11_awake : okF Try.prog 18 c_law11_awake = true := by decide +kernel
noncomputable def law11_awake : Option Bool := ((eval_Binary 31 ((-7)) 2).bind (fun (y1 : Int × Int) => ((eval_Fold 27 ([0, 2, 1, 0])).bind (fun (y2 : Int × Int) => (some ((((decide (y1.2 = 0)) && (decide (y2.2 = 0))) && (decide (y1.1 = (-4)))) && (decide (y2.1 = 3))))))))
theorem law11_awake.ok {r : Bool} (h : law11_awake = some r) : PC Try.prog 18 [] (.bool r) := by
  refine PC_run k_law11_awake rfl (L := []) rfl ?_
  show Run Try.prog 28 (retQ [0] (.bool r)) [] q_law11_awake_8 _
  refine R_seq ?_
  refine R_reg ?_
  refine S_pure trivial (O_mv (d := .u (.bool false)) (by kernel_rfl)) ?_
  refine Rs_nil ?_
  refine N_s ?_
  refine R_seq ?_
  refine R_reg ?_
  obtain ⟨y1, hy1, h⟩ := bindS h
  refine S_pure trivial (O_ca (us := [.int .i64 31, .int .i64 ((-7)), .int .i64 2]) (r := .tup [.int .i64 y1.1, .int .i64 y1.2]) (by kernel_rfl) (eval_Binary.ok hy1)) ?_
  refine S_pure trivial (O_mv (d := .u (.tup [.int .i64 y1.1, .int .i64 y1.2])) (by kernel_rfl)) ?_
  refine S_pure trivial (O_ex (us := [.int .i64 y1.1, .int .i64 y1.2]) (u := .int .i64 y1.1) (by kernel_rfl) (by kernel_rfl)) ?_
  refine S_pure trivial (O_ex (us := [.int .i64 y1.1, .int .i64 y1.2]) (u := .int .i64 y1.2) (by kernel_rfl) (by kernel_rfl)) ?_
  refine S_pure trivial (O_mv (d := .u (.int .i64 y1.1)) (by kernel_rfl)) ?_
  refine S_pure trivial (O_mv (d := .u (.int .i64 y1.2)) (by kernel_rfl)) ?_
  refine Rs_nil ?_
  refine N_s ?_
  refine R_seq ?_
  refine R_reg ?_
  refine S_up trivial (O_bs (els := [[.u (.int .i64 0)], [.u (.int .i64 2)], [.u (.int .i64 1)], [.u (.int .i64 0)]]) (uss := List.map (cInt .i64) ([0, 2, 1, 0])) (m := List.length ([0, 2, 1, 0])) (by kernel_rfl) rfl (by kernel_rfl) (by kernel_rfl)) ?_
  obtain ⟨y2, hy2, h⟩ := bindS h
  refine S_pure trivial (O_caf (ds := [.u (.int .i64 27), .msl 0 [0, 2, 1, 0].length]) (us := [.int .i64 27, .sl (List.map (cInt .i64) ([0, 2, 1, 0]))]) (r := .tup [.int .i64 y2.1, .int .i64 y2.2]) (by kernel_rfl) (fz_cons fz_u (fz_cons (fz_msl (s := 1) (c := (cInt .i64)) (li := [0, 2, 1, 0]) (by kernel_rfl)) fz_nil)) (eval_Fold.ok hy2) rfl) ?_
  refine S_pure trivial (O_mv (d := .u (.tup [.int .i64 y2.1, .int .i64 y2.2])) (by kernel_rfl)) ?_
  refine S_pure trivial (O_ex (us := [.int .i64 y2.1, .int .i64 y2.2]) (u := .int .i64 y2.1) (by kernel_rfl) (by kernel_rfl)) ?_
  refine S_pure trivial (O_ex (us := [.int .i64 y2.1, .int .i64 y2.2]) (u := .int .i64 y2.2) (by kernel_rfl) (by kernel_rfl)) ?_
  refine S_pure trivial (O_mv (d := .u (.int .i64 y2.1)) (by kernel_rfl)) ?_
  refine S_pure trivial (O_mv (d := .u (.int .i64 y2.2)) (by kernel_rfl)) ?_
  refine Rs_nil ?_
  refine N_s ?_
  refine R_seq ?_
  refine R_reg ?_
  refine S_pure trivial (O_mv (d := .u (.int .i64 y1.2)) (by kernel_rfl)) ?_
  refine S_pure trivial (O_eql (k := .i64) (a := y1.2) (b := 0) (by kernel_rfl) (by kernel_rfl)) ?_
  refine S_pure trivial (O_mv (d := .u (.bool ((decide (y1.2 = 0))))) (by kernel_rfl)) ?_
  have K3 : ∀ v4 : Bool, v4 = ((decide (y1.2 = 0)) && (decide (y2.2 = 0))) → Rs Try.prog 28 (retQ [0] (.bool r)) [.s .ret] [⟨some 20, none, .mv (.t 19)⟩, ⟨some 21, some (20, true), .mv (.t 1)⟩, ⟨some 22, some (20, true), .bi .eql (.t 21) (.c (.int .i64 (-4)))⟩, ⟨some 23, none, .pk (.t 20) (.t 22) (.c (.bool false))⟩, ⟨some 24, none, .mv (.t 23)⟩, ⟨some 25, some (24, true), .mv (.t 3)⟩, ⟨some 26, some (24, true), .bi .eql (.t 25) (.c (.int .i64 3))⟩, ⟨some 27, none, .pk (.t 24) (.t 26) (.c (.bool false))⟩, ⟨some 0, none, .mv (.t 27)⟩] (mkSt [(1, .u (.int .i64 y1.1)), (3, .u (.int .i64 y2.1)), (19, .u (.bool v4))] [] 1) := by
    intro v4 e; subst e
    refine S_pure trivial (O_mv (d := .u (.bool (((decide (y1.2 = 0)) && (decide (y2.2 = 0)))))) (by kernel_rfl)) ?_
    have K5 : ∀ v6 : Bool, v6 = (((decide (y1.2 = 0)) && (decide (y2.2 = 0))) && (decide (y1.1 = (-4)))) → Rs Try.prog 28 (retQ [0] (.bool r)) [.s .ret] [⟨some 24, none, .mv (.t 23)⟩, ⟨some 25, some (24, true), .mv (.t 3)⟩, ⟨some 26, some (24, true), .bi .eql (.t 25) (.c (.int .i64 3))⟩, ⟨some 27, none, .pk (.t 24) (.t 26) (.c (.bool false))⟩, ⟨some 0, none, .mv (.t 27)⟩] (mkSt [(3, .u (.int .i64 y2.1)), (23, .u (.bool v6))] [] 1) := by
      intro v6 e; subst e
      refine S_pure trivial (O_mv (d := .u (.bool ((((decide (y1.2 = 0)) && (decide (y2.2 = 0))) && (decide (y1.1 = (-4))))))) (by kernel_rfl)) ?_
      have K7 : ∀ v8 : Bool, v8 = ((((decide (y1.2 = 0)) && (decide (y2.2 = 0))) && (decide (y1.1 = (-4)))) && (decide (y2.1 = 3))) → Rs Try.prog 28 (retQ [0] (.bool r)) [.s .ret] [⟨some 0, none, .mv (.t 27)⟩] (mkSt [(27, .u (.bool v8))] [] 1) := by
        intro v8 e; subst e
        refine S_pure trivial (O_mv (d := .u (.bool (((((decide (y1.2 = 0)) && (decide (y2.2 = 0))) && (decide (y1.1 = (-4)))) && (decide (y2.1 = 3)))))) (by kernel_rfl)) ?_
        refine Rs_nil ?_
        refine N_s ?_
        obtain rfl := (Option.some.inj h)
        refine R_ret ?_
        exact Q_ret (x := .bool (((((decide (y1.2 = 0)) && (decide (y2.2 = 0))) && (decide (y1.1 = (-4)))) && (decide (y2.1 = 3))))) (by kernel_rfl) (.refl _)
      refine S_case0 (t := 24) (c := (((decide (y1.2 = 0)) && (decide (y2.2 = 0))) && (decide (y1.1 = (-4))))) (by kernel_rfl) (fun hc => ?_) (fun hc => ?_)
      · refine S_pure (by show _ = _; kernel_rfl) (O_mv (d := .u (.int .i64 y2.1)) (by kernel_rfl)) ?_
        refine S_pure (by show _ = _; kernel_rfl) (O_eql (k := .i64) (a := y2.1) (b := 3) (by kernel_rfl) (by kernel_rfl)) ?_
        refine S_pure trivial (O_pkt (d := .u (.bool ((decide (y2.1 = 3))))) (by kernel_rfl) (by kernel_rfl)) ?_
        exact Rs_weak (W_to (by kernel_rfl) (by kernel_rfl) (by kernel_rfl)) (K7 _ (by rw [hc] <;> rfl))
      · refine S_skip (b := false) (by kernel_rfl) rfl ?_
        refine S_skip (b := false) (by kernel_rfl) rfl ?_
        refine S_pure trivial (O_pkf (d := .u (.bool false)) (by kernel_rfl) (by kernel_rfl)) ?_
        exact Rs_weak (W_to (by kernel_rfl) (by kernel_rfl) (by kernel_rfl)) (K7 _ (by rw [hc] <;> rfl))
    refine S_case0 (t := 20) (c := ((decide (y1.2 = 0)) && (decide (y2.2 = 0)))) (by kernel_rfl) (fun hc => ?_) (fun hc => ?_)
    · refine S_pure (by show _ = _; kernel_rfl) (O_mv (d := .u (.int .i64 y1.1)) (by kernel_rfl)) ?_
      refine S_pure (by show _ = _; kernel_rfl) (O_eql (k := .i64) (a := y1.1) (b := (-4)) (by kernel_rfl) (by kernel_rfl)) ?_
      refine S_pure trivial (O_pkt (d := .u (.bool ((decide (y1.1 = (-4)))))) (by kernel_rfl) (by kernel_rfl)) ?_
      exact Rs_weak (W_to (by kernel_rfl) (by kernel_rfl) (by kernel_rfl)) (K5 _ (by rw [hc] <;> rfl))
    · refine S_skip (b := false) (by kernel_rfl) rfl ?_
      refine S_skip (b := false) (by kernel_rfl) rfl ?_
      refine S_pure trivial (O_pkf (d := .u (.bool false)) (by kernel_rfl) (by kernel_rfl)) ?_
      exact Rs_weak (W_to (by kernel_rfl) (by kernel_rfl) (by kernel_rfl)) (K5 _ (by rw [hc] <;> rfl))
  refine S_case0 (t := 16) (c := (decide (y1.2 = 0))) (by kernel_rfl) (fun hc => ?_) (fun hc => ?_)
  · refine S_pure (by show _ = _; kernel_rfl) (O_mv (d := .u (.int .i64 y2.2)) (by kernel_rfl)) ?_
    refine S_pure (by show _ = _; kernel_rfl) (O_eql (k := .i64) (a := y2.2) (b := 0) (by kernel_rfl) (by kernel_rfl)) ?_
    refine S_pure trivial (O_pkt (d := .u (.bool ((decide (y2.2 = 0))))) (by kernel_rfl) (by kernel_rfl)) ?_
    exact Rs_weak (W_to (by kernel_rfl) (by kernel_rfl) (by kernel_rfl)) (K3 _ (by rw [hc] <;> rfl))
  · refine S_skip (b := false) (by kernel_rfl) rfl ?_
    refine S_skip (b := false) (by kernel_rfl) rfl ?_
    refine S_pure trivial (O_pkf (d := .u (.bool false)) (by kernel_rfl) (by kernel_rfl)) ?_
    exact Rs_weak (W_to (by kernel_rfl) (by kernel_rfl) (by kernel_rfl)) (K3 _ (by rw [hc] <;> rfl))

end Go.Proofs.Ytkpghgnbbfpbmaa
