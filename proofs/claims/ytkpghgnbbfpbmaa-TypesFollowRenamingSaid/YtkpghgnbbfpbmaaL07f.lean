/- Functions of the program over typed data, and that the program's functions come to their results: written by a program (lift.py). -/
import Derived.Test.YtkpghgnbbfpbmaaL07e
import Derived.Test.YtkpghgnbbfpbmaaChecked
set_option linter.unusedVariables false
set_option maxRecDepth 100000
set_option maxHeartbeats 1000000
namespace Go.Proofs.Ytkpghgnbbfpbmaa

/-! ### selfstab/selfstabref05.Rename -/
def q_ref05_Rename_1 : AC := .reg [⟨some 4, none, .mv (.c (.nil))⟩, ⟨some 5, none, .mv (.c (.int .i64 2))⟩]
def q_ref05_Rename_2 : AC := .seq q_ref05_Rename_1 .ret
def q_ref05_Rename_3 : AC := .cond (.t 31) q_ref05_Rename_2 .skip
def q_ref05_Rename_4 : AC := .reg [⟨some 18, none, .mv (.t 6)⟩, ⟨some 19, none, .bi .add (.t 18) (.c (.int .i64 1))⟩, ⟨some 6, none, .mv (.t 19)⟩]
def q_ref05_Rename_5 : AC := .reg [⟨some 66, none, .mv (.t 7)⟩, ⟨some 4, none, .mv (.t 66)⟩, ⟨some 5, none, .mv (.c (.int .i64 0))⟩]
def q_ref05_Rename_6 : AC := .seq q_ref05_Rename_5 .ret
def q_ref05_Rename_7 : AC := .reg [⟨some 38, none, .mv (.t 8)⟩, ⟨some 39, none, .bi .add (.t 38) (.c (.int .i64 1))⟩, ⟨some 8, none, .mv (.t 39)⟩]
def q_ref05_Rename_8 : AC := .reg [⟨some 54, none, .mv (.t 7)⟩, ⟨some 55, none, .mv (.t 8)⟩, ⟨some 56, none, .mv (.t 1)⟩, ⟨some 57, none, .mv (.t 7)⟩, ⟨some 58, none, .mv (.t 8)⟩, ⟨some 59, none, .ia 2 (.t 57) (.t 58)⟩, ⟨some 60, none, .fa 1 (.t 59)⟩, ⟨some 61, none, .ld false 1 (.t 60)⟩, ⟨some 62, none, .ia 1 (.t 56) (.t 61)⟩, ⟨some 63, none, .ld false 1 (.t 62)⟩, ⟨some 64, none, .ia 2 (.t 54) (.t 55)⟩, ⟨some 65, none, .fa 1 (.t 64)⟩, ⟨none, none, .st 1 (.t 65) (.t 63)⟩]
def q_ref05_Rename_9 : AC := .cond (.t 53) q_ref05_Rename_8 .skip
def q_ref05_Rename_10 : AC := .reg [⟨some 40, none, .mv (.t 7)⟩, ⟨some 41, none, .mv (.t 8)⟩, ⟨some 42, none, .ia 2 (.t 40) (.t 41)⟩, ⟨some 43, none, .fa 0 (.t 42)⟩, ⟨some 44, none, .ld false 1 (.t 43)⟩, ⟨some 45, none, .bi .eql (.t 44) (.c (.int .i64 5))⟩, ⟨some 46, none, .mv (.t 45)⟩, ⟨some 47, some (46, false), .mv (.t 7)⟩, ⟨some 48, some (46, false), .mv (.t 8)⟩, ⟨some 49, some (46, false), .ia 2 (.t 47) (.t 48)⟩, ⟨some 50, some (46, false), .fa 0 (.t 49)⟩, ⟨some 51, some (46, false), .ld false 1 (.t 50)⟩, ⟨some 52, some (46, false), .bi .eql (.t 51) (.c (.int .i64 12))⟩, ⟨some 53, none, .pk (.t 46) (.c (.bool true)) (.t 52)⟩]
def q_ref05_Rename_11 : AC := .seq q_ref05_Rename_10 q_ref05_Rename_9
def q_ref05_Rename_12 : AC := .block 3 q_ref05_Rename_11
def q_ref05_Rename_13 : AC := .seq q_ref05_Rename_12 q_ref05_Rename_7
def q_ref05_Rename_14 : AC := .cond (.t 37) .skip (.exit 2)
def q_ref05_Rename_15 : AC := .reg [⟨some 34, none, .mv (.t 8)⟩, ⟨some 35, none, .mv (.t 7)⟩, ⟨some 36, none, .ln (.t 35)⟩, ⟨some 37, none, .bi .lss (.t 34) (.t 36)⟩]
def q_ref05_Rename_16 : AC := .seq q_ref05_Rename_15 q_ref05_Rename_14
def q_ref05_Rename_17 : AC := .seq q_ref05_Rename_16 q_ref05_Rename_13
def q_ref05_Rename_18 : AC := .loop q_ref05_Rename_17
def q_ref05_Rename_19 : AC := .block 2 q_ref05_Rename_18
def q_ref05_Rename_20 : AC := .reg [⟨some 8, none, .mv (.c (.int .i64 0))⟩]
def q_ref05_Rename_21 : AC := .seq q_ref05_Rename_20 q_ref05_Rename_19
def q_ref05_Rename_22 : AC := .seq q_ref05_Rename_21 q_ref05_Rename_6
def q_ref05_Rename_23 : AC := .reg [⟨some 32, none, .mv (.t 0)⟩, ⟨some 33, none, .ap 2 16 (.c (.nil)) (.t 32)⟩, ⟨some 7, none, .mv (.t 33)⟩]
def q_ref05_Rename_24 : AC := .seq q_ref05_Rename_23 q_ref05_Rename_22
def q_ref05_Rename_25 : AC := .reg [⟨some 20, none, .mv (.t 1)⟩, ⟨some 21, none, .mv (.t 6)⟩, ⟨some 22, none, .ia 1 (.t 20) (.t 21)⟩, ⟨some 23, none, .ld false 1 (.t 22)⟩, ⟨some 24, none, .bi .lss (.t 23) (.c (.int .i64 0))⟩, ⟨some 25, none, .mv (.t 24)⟩, ⟨some 26, some (25, false), .mv (.t 1)⟩, ⟨some 27, some (25, false), .mv (.t 6)⟩, ⟨some 28, some (25, false), .ia 1 (.t 26) (.t 27)⟩, ⟨some 29, some (25, false), .ld false 1 (.t 28)⟩, ⟨some 30, some (25, false), .bi .geq (.t 29) (.c (.int .i64 6))⟩, ⟨some 31, none, .pk (.t 25) (.c (.bool true)) (.t 30)⟩]
def q_ref05_Rename_26 : AC := .seq q_ref05_Rename_25 q_ref05_Rename_3
def q_ref05_Rename_27 : AC := .block 1 q_ref05_Rename_26
def q_ref05_Rename_28 : AC := .seq q_ref05_Rename_27 q_ref05_Rename_4
def q_ref05_Rename_29 : AC := .cond (.t 17) .skip (.exit 0)
def q_ref05_Rename_30 : AC := .reg [⟨some 14, none, .mv (.t 6)⟩, ⟨some 15, none, .mv (.t 1)⟩, ⟨some 16, none, .ln (.t 15)⟩, ⟨some 17, none, .bi .lss (.t 14) (.t 16)⟩]
def q_ref05_Rename_31 : AC := .seq q_ref05_Rename_30 q_ref05_Rename_29
def q_ref05_Rename_32 : AC := .seq q_ref05_Rename_31 q_ref05_Rename_28
def q_ref05_Rename_33 : AC := .loop q_ref05_Rename_32
def q_ref05_Rename_34 : AC := .block 0 q_ref05_Rename_33
def q_ref05_Rename_35 : AC := .reg [⟨some 6, none, .mv (.c (.int .i64 0))⟩]
def q_ref05_Rename_36 : AC := .seq q_ref05_Rename_35 q_ref05_Rename_34
def q_ref05_Rename_37 : AC := .seq q_ref05_Rename_36 q_ref05_Rename_24
def q_ref05_Rename_38 : AC := .reg [⟨some 4, none, .mv (.c (.nil))⟩, ⟨some 5, none, .mv (.c (.int .i64 7))⟩]
def q_ref05_Rename_39 : AC := .seq q_ref05_Rename_38 .ret
def q_ref05_Rename_40 : AC := .cond (.t 13) q_ref05_Rename_39 .skip
def q_ref05_Rename_41 : AC := .reg [⟨some 9, none, .mv (.t 0)⟩, ⟨some 10, none, .mv (.t 1)⟩, ⟨some 11, none, .ln (.t 10)⟩, ⟨some 12, none, .ca 32 [.t 9, .t 11]⟩, ⟨some 13, none, .un .not (.t 12)⟩]
def q_ref05_Rename_42 : AC := .seq q_ref05_Rename_41 q_ref05_Rename_40
def q_ref05_Rename_43 : AC := .seq q_ref05_Rename_42 q_ref05_Rename_37
def q_ref05_Rename_44 : AC := .reg [⟨some 4, none, .mv (.c (.nil))⟩, ⟨some 5, none, .mv (.c (.int .i64 0))⟩]
def q_ref05_Rename_45 : AC := .seq q_ref05_Rename_44 q_ref05_Rename_43
def c_ref05_Rename : FC := ⟨67, [4, 5], q_ref05_Rename_45⟩
theorem k_ref05_Rename : okF Try.prog 33 c_ref05_Rename = true := by decide +kernel
noncomputable def ref05_Rename.l20 (m_1 : List Int) (s10 : Int × (List ApiTerm)) : Option ((Int × (List ApiTerm)) ⊕ (((List ApiTerm)))) := (bif (decide (s10.1 < (s10.2.length : Int))) then ((idx s10.2 s10.1).bind (fun (y12 : ApiTerm) => ((bif (decide (y12.Op = 5)) then (some true) else ((idx s10.2 s10.1).bind (fun (y19 : ApiTerm) => (some (decide (y19.Op = 12)))))).bind (fun (o15 : Bool) => (bif o15 then ((idx s10.2 s10.1).bind (fun (y16 : ApiTerm) => ((idx m_1 y16.Arg).bind (fun (y17 : Int) => ((idx s10.2 s10.1).bind (fun (y18 : ApiTerm) => (some (Sum.inl ((IntKind.i64.wrap (s10.1 + 1)), (List.set s10.2 (Int.toNat s10.1) ((ApiTerm.mk y18.Op y17)))))))))))) else (some (Sum.inl ((IntKind.i64.wrap (s10.1 + 1)), s10.2)))))))) else (some (Sum.inr s10.2)))
noncomputable def ref05_Rename.l30 (m_1 : List Int) (s23 : Int) : Option (Int ⊕ (Unit ⊕ ((List ApiTerm) × Int))) := (bif (decide (s23 < (List.length m_1 : Int))) then ((idx m_1 s23).bind (fun (y25 : Int) => ((bif (decide (y25 < 0)) then (some true) else ((idx m_1 s23).bind (fun (y29 : Int) => (some (decide (6 ≤ y29)))))).bind (fun (o28 : Bool) => (bif o28 then (some (Sum.inr (Sum.inr ([], 2)))) else (some (Sum.inl (IntKind.i64.wrap (s23 + 1))))))))) else (some (Sum.inr (Sum.inl ()))))
noncomputable def ref05_Rename (e_0 : List ApiTerm) (m_1 : List Int) : Option ((List ApiTerm) × Int) := ((ref05_Valid e_0 ((List.length m_1 : Int))).bind (fun (y1 : Bool) => (bif (!y1) then (some ([], 7)) else ((loopO (ref05_Rename.l30 m_1) 0).bind (Sum.elim (fun (w4 : Unit) => (bif (room (List.length e_0) 16) then ((loopO (ref05_Rename.l20 m_1) (0, e_0)).bind (fun (w8 : (List ApiTerm)) => (some (w8, 0)))) else none)) (fun (w21 : ((List ApiTerm) × Int)) => (some w21)))))))
theorem ref05_Rename.ok {e_0 : List ApiTerm} {m_1 : List Int} {r : (List ApiTerm) × Int} (h : ref05_Rename e_0 m_1 = some r) : PC Try.prog 33 [.sl (List.map ApiTerm.cells e_0), .sl (List.map (cInt .i64) m_1)] (.tup [.sl (List.map ApiTerm.cells r.1), .int .i64 r.2]) := by
  refine PC_run k_ref05_Rename rfl (L := [(0, .u (.sl (List.map ApiTerm.cells e_0))), (1, .u (.sl (List.map (cInt .i64) m_1)))]) rfl ?_
  show Run Try.prog 67 (retQ [4, 5] (.tup [.sl (List.map ApiTerm.cells r.1), .int .i64 r.2])) [] q_ref05_Rename_45 _
  refine R_seq ?_
  refine R_reg ?_
  refine S_pure trivial (O_mv (d := .u (.nil)) (by kernel_rfl)) ?_
  refine S_pure trivial (O_mv (d := .u (.int .i64 0)) (by kernel_rfl)) ?_
  refine Rs_nil ?_
  refine N_s ?_
  refine R_seq ?_
  refine R_seq ?_
  refine R_reg ?_
  refine S_pure trivial (O_mv (d := .u (.sl (List.map ApiTerm.cells e_0))) (by kernel_rfl)) ?_
  refine S_pure trivial (O_mv (d := .u (.sl (List.map (cInt .i64) m_1))) (by kernel_rfl)) ?_
  refine S_pure trivial (O_ln (c := (cInt .i64)) (li := m_1) (by kernel_rfl)) ?_
  obtain ⟨y1, hy1, h⟩ := bindS h
  refine S_pure trivial (O_ca (us := [.sl (List.map ApiTerm.cells e_0), .int .i64 ((List.length m_1 : Int))]) (r := .bool y1) (by kernel_rfl) (ref05_Valid.ok hy1)) ?_
  refine S_pure trivial (O_not (b := y1) (by kernel_rfl)) ?_
  refine Rs_nil ?_
  refine N_s ?_
  refine R_cond (c := (!y1)) (by kernel_rfl) h (fun h => ?_) (fun h => ?_)
  · refine R_seq ?_
    refine R_reg ?_
    refine S_pure trivial (O_mv (d := .u (.nil)) (by kernel_rfl)) ?_
    refine S_pure trivial (O_mv (d := .u (.int .i64 7)) (by kernel_rfl)) ?_
    refine Rs_nil ?_
    refine N_s ?_
    refine R_weak (W_nq 4 (by kernel_rfl) .nil) ?_
    obtain rfl := (Option.some.inj h)
    refine R_ret ?_
    exact Q_ret (x := .tup [.sl (List.map ApiTerm.cells ([])), .int .i64 7]) (by kernel_rfl) (.refl _)
  · refine R_skip ?_
    refine N_s ?_
    refine R_seq ?_
    refine R_seq ?_
    refine R_reg ?_
    refine S_pure trivial (O_mv (d := .u (.int .i64 0)) (by kernel_rfl)) ?_
    refine Rs_nil ?_
    refine N_s ?_
    refine R_block ?_
    obtain ⟨o2, hE, h⟩ := bindS h
    have K5 : ∀ (w4 : Unit), (Sum.inl w4) = o2 → Run Try.prog 67 (retQ [4, 5] (.tup [.sl (List.map ApiTerm.cells r.1), .int .i64 r.2])) [] q_ref05_Rename_24 (mkSt [(0, .u (.sl (List.map ApiTerm.cells e_0))), (1, .u (.sl (List.map (cInt .i64) m_1)))] [] 0) := by
      intro w4 e; subst e
      replace h := elimL h
      refine R_seq ?_
      refine R_reg ?_
      refine S_pure trivial (O_mv (d := .u (.sl (List.map ApiTerm.cells e_0))) (by kernel_rfl)) ?_
      obtain ⟨hb, h⟩ := chkS h
      refine S_up trivial (O_apn (c := ApiTerm.cells) (li := e_0) (by kernel_rfl) (by show Srcs _ _ _ (.u (.sl (List.map ApiTerm.cells e_0))); exact Srcs.typed (c := ApiTerm.cells) (li := e_0) (fun _ => rfl)) hb) ?_
      refine S_pure trivial (O_mv (d := .msl 0 e_0.length) (by kernel_rfl)) ?_
      refine Rs_nil ?_
      refine N_s ?_
      refine R_seq ?_
      refine R_seq ?_
      refine R_reg ?_
      refine S_pure trivial (O_mv (d := .u (.int .i64 0)) (by kernel_rfl)) ?_
      refine Rs_nil ?_
      refine N_s ?_
      refine R_block ?_
      obtain ⟨o6, hE, h⟩ := bindS h
      have K9 : ∀ (w8 : (List ApiTerm)), w8 = o6 → Run Try.prog 67 (retQ [4, 5] (.tup [.sl (List.map ApiTerm.cells r.1), .int .i64 r.2])) [] q_ref05_Rename_6 (mkSt [(7, .msl 0 w8.length)] [(0, .row 2 (List.map ApiTerm.cells w8))] 1) := by
        intro w8 e; subst e
        refine R_seq ?_
        refine R_reg ?_
        refine S_pure trivial (O_mv (d := .msl 0 w8.length) (by kernel_rfl)) ?_
        refine S_pure trivial (O_mv (d := .msl 0 w8.length) (by kernel_rfl)) ?_
        refine S_pure trivial (O_mv (d := .u (.int .i64 0)) (by kernel_rfl)) ?_
        refine Rs_nil ?_
        refine N_s ?_
        obtain rfl := (Option.some.inj h)
        refine R_ret ?_
        exact Q_retd (x := .tup [.sl (List.map ApiTerm.cells w8), .int .i64 0]) (d := .tup [.msl 0 w8.length, .u (.int .i64 0)]) (by kernel_rfl) (fz_tup (fz_cons (fz_msl (s := 2) (c := ApiTerm.cells) (li := w8) (by kernel_rfl)) (fz_cons fz_u fz_nil))) (.refl _)
      refine R_loop (ref05_Rename.l20 m_1) (fun s10 => (mkSt [(1, .u (.sl (List.map (cInt .i64) m_1))), (7, .msl 0 s10.2.length), (8, .u (.int .i64 s10.1))] [(0, .row 2 (List.map ApiTerm.cells s10.2))] 1)) hE (W_to (by kernel_rfl) (by kernel_rfl) (by kernel_rfl)) ?_
      intro K7 s10 x11 h hK7 hO7
      refine R_seq ?_
      refine R_seq ?_
      refine R_reg ?_
      refine S_pure trivial (O_mv (d := .u (.int .i64 s10.1)) (by kernel_rfl)) ?_
      refine S_pure trivial (O_mv (d := .msl 0 s10.2.length) (by kernel_rfl)) ?_
      refine S_pure trivial (O_lnm (b := 0) (m := s10.2.length) (by kernel_rfl)) ?_
      refine S_pure trivial (O_lss (k := .i64) (a := s10.1) (b := (s10.2.length : Int)) (by kernel_rfl) (by kernel_rfl)) ?_
      refine Rs_nil ?_
      refine N_s ?_
      refine R_cond (c := (decide (s10.1 < (s10.2.length : Int)))) (by kernel_rfl) h (fun h => ?_) (fun h => ?_)
      · refine R_skip ?_
        refine N_s ?_
        refine R_seq ?_
        refine R_block ?_
        refine R_seq ?_
        refine R_reg ?_
        refine S_pure trivial (O_mv (d := .msl 0 s10.2.length) (by kernel_rfl)) ?_
        refine S_pure trivial (O_mv (d := .u (.int .i64 s10.1)) (by kernel_rfl)) ?_
        obtain ⟨y12, hy12, h⟩ := bindS h
        refine S_pure trivial (O_iam (c := ApiTerm.cells) (li := s10.2) (i := s10.1) (k := .i64) (a := y12) (b := 0) (by kernel_rfl) (by kernel_rfl) (by kernel_rfl) hy12) ?_
        refine S_pure trivial (O_far (b := 0) (s := 2) (i := (s10.1).toNat) (o := 0) (by kernel_rfl)) ?_
        refine S_pure trivial (O_ldr (b := 0) (s := 2) (off := 0) (c := ApiTerm.cells) (li := s10.2) (i := s10.1) (u := .int .i64 y12.Op) (by kernel_rfl) (by kernel_rfl) hy12 rfl (by kernel_rfl)) ?_
        refine S_pure trivial (O_eql (k := .i64) (a := y12.Op) (b := 5) (by kernel_rfl) (by kernel_rfl)) ?_
        refine S_pure trivial (O_mv (d := .u (.bool ((decide (y12.Op = 5))))) (by kernel_rfl)) ?_
        obtain ⟨o15, hE, h⟩ := bindS h
        have K13 : Rs Try.prog 67 (retQ [4, 5] (.tup [.sl (List.map ApiTerm.cells r.1), .int .i64 r.2])) [.s q_ref05_Rename_9, .b 3, .s q_ref05_Rename_7, .k K7, .b 2, .s q_ref05_Rename_6] [] (mkSt [(1, .u (.sl (List.map (cInt .i64) m_1))), (7, .msl 0 s10.2.length), (8, .u (.int .i64 s10.1)), (53, .u (.bool o15))] [(0, .row 2 (List.map ApiTerm.cells s10.2))] 1) := by
          refine Rs_nil ?_
          refine N_s ?_
          refine R_cond (c := o15) (by kernel_rfl) h (fun h => ?_) (fun h => ?_)
          · refine R_reg ?_
            refine S_pure trivial (O_mv (d := .msl 0 s10.2.length) (by kernel_rfl)) ?_
            refine S_pure trivial (O_mv (d := .u (.int .i64 s10.1)) (by kernel_rfl)) ?_
            refine S_pure trivial (O_mv (d := .u (.sl (List.map (cInt .i64) m_1))) (by kernel_rfl)) ?_
            refine S_pure trivial (O_mv (d := .msl 0 s10.2.length) (by kernel_rfl)) ?_
            refine S_pure trivial (O_mv (d := .u (.int .i64 s10.1)) (by kernel_rfl)) ?_
            obtain ⟨y16, hy16, h⟩ := bindS h
            refine S_pure trivial (O_iam (c := ApiTerm.cells) (li := s10.2) (i := s10.1) (k := .i64) (a := y16) (b := 0) (by kernel_rfl) (by kernel_rfl) (by kernel_rfl) hy16) ?_
            refine S_pure trivial (O_far (b := 0) (s := 2) (i := (s10.1).toNat) (o := 0) (by kernel_rfl)) ?_
            refine S_pure trivial (O_ldr (b := 0) (s := 2) (off := 1) (c := ApiTerm.cells) (li := s10.2) (i := s10.1) (u := .int .i64 y16.Arg) (by kernel_rfl) (by kernel_rfl) hy16 rfl (by kernel_rfl)) ?_
            obtain ⟨y17, hy17, h⟩ := bindS h
            refine S_pure trivial (O_ia (c := (cInt .i64)) (li := m_1) (i := y16.Arg) (k := .i64) (a := y17) (u := (cInt .i64) y17) (by kernel_rfl) (by kernel_rfl) hy17 rfl rfl) ?_
            refine S_pure trivial (O_ldf (cells := (cInt .i64) y17) (off := 0) (u := .int .i64 y17) (by kernel_rfl) (by kernel_rfl)) ?_
            obtain ⟨y18, hy18, h⟩ := bindS h
            refine S_pure trivial (O_iam (c := ApiTerm.cells) (li := s10.2) (i := s10.1) (k := .i64) (a := y18) (b := 0) (by kernel_rfl) (by kernel_rfl) (by kernel_rfl) hy18) ?_
            refine S_pure trivial (O_far (b := 0) (s := 2) (i := (s10.1).toNat) (o := 0) (by kernel_rfl)) ?_
            refine S_set trivial (O_str (c := ApiTerm.cells) (li := s10.2) (i := s10.1) (a := y18) (a' := (ApiTerm.mk y18.Op y17)) (b := 0) (s := 2) (off := 1) (d := .u (.int .i64 y17)) (xs := [.u (.int .i64 y17)]) (us := [.int .i64 y17]) (by kernel_rfl) (by kernel_rfl) (by kernel_rfl) (by kernel_rfl) (by kernel_rfl) hy18 (by kernel_rfl) (by kernel_rfl)) ?_
            refine S_re (t := 57) (d := .msl 0 (List.set s10.2 (Int.toNat s10.1) ((ApiTerm.mk y18.Op y17))).length) (re_len (m := s10.2.length) (by kernel_rfl) List.length_set.symm) ?_
            refine S_re (t := 54) (d := .msl 0 (List.set s10.2 (Int.toNat s10.1) ((ApiTerm.mk y18.Op y17))).length) (re_len (m := s10.2.length) (by kernel_rfl) List.length_set.symm) ?_
            refine S_re (t := 7) (d := .msl 0 (List.set s10.2 (Int.toNat s10.1) ((ApiTerm.mk y18.Op y17))).length) (re_len (m := s10.2.length) (by kernel_rfl) List.length_set.symm) ?_
            refine Rs_nil ?_
            refine N_b ?_
            refine N_s ?_
            refine R_reg ?_
            refine S_pure trivial (O_mv (d := .u (.int .i64 s10.1)) (by kernel_rfl)) ?_
            refine S_pure trivial (O_add (k := .i64) (a := s10.1) (b := 1) (by kernel_rfl) (by kernel_rfl)) ?_
            refine S_pure trivial (O_mv (d := .u (.int .i64 ((IntKind.i64.wrap (s10.1 + 1))))) (by kernel_rfl)) ?_
            refine Rs_nil ?_
            exact N_k (hK7 _ h _ (W_to (by kernel_rfl) (by kernel_rfl) (by kernel_rfl)))
          · refine R_skip ?_
            refine N_b ?_
            refine N_s ?_
            refine R_reg ?_
            refine S_pure trivial (O_mv (d := .u (.int .i64 s10.1)) (by kernel_rfl)) ?_
            refine S_pure trivial (O_add (k := .i64) (a := s10.1) (b := 1) (by kernel_rfl) (by kernel_rfl)) ?_
            refine S_pure trivial (O_mv (d := .u (.int .i64 ((IntKind.i64.wrap (s10.1 + 1))))) (by kernel_rfl)) ?_
            refine Rs_nil ?_
            exact N_k (hK7 _ h _ (W_to (by kernel_rfl) (by kernel_rfl) (by kernel_rfl)))
        replace h := hE
        refine S_case (t := 46) (c := (decide (y12.Op = 5))) (by kernel_rfl) h (fun hc h => ?_) (fun hc h => ?_)
        · refine S_skip (b := true) (by kernel_rfl) rfl ?_
          refine S_skip (b := true) (by kernel_rfl) rfl ?_
          refine S_skip (b := true) (by kernel_rfl) rfl ?_
          refine S_skip (b := true) (by kernel_rfl) rfl ?_
          refine S_skip (b := true) (by kernel_rfl) rfl ?_
          refine S_skip (b := true) (by kernel_rfl) rfl ?_
          refine S_pure trivial (O_pkt (d := .u (.bool true)) (by kernel_rfl) (by kernel_rfl)) ?_
          obtain rfl := Option.some.inj h
          exact Rs_weak (W_to (by kernel_rfl) (by kernel_rfl) (by kernel_rfl)) K13
        · refine S_pure (by show _ = _; kernel_rfl) (O_mv (d := .msl 0 s10.2.length) (by kernel_rfl)) ?_
          refine S_pure (by show _ = _; kernel_rfl) (O_mv (d := .u (.int .i64 s10.1)) (by kernel_rfl)) ?_
          obtain ⟨y19, hy19, h⟩ := bindS h
          refine S_pure (by show _ = _; kernel_rfl) (O_iam (c := ApiTerm.cells) (li := s10.2) (i := s10.1) (k := .i64) (a := y19) (b := 0) (by kernel_rfl) (by kernel_rfl) (by kernel_rfl) hy19) ?_
          refine S_pure (by show _ = _; kernel_rfl) (O_far (b := 0) (s := 2) (i := (s10.1).toNat) (o := 0) (by kernel_rfl)) ?_
          refine S_pure (by show _ = _; kernel_rfl) (O_ldr (b := 0) (s := 2) (off := 0) (c := ApiTerm.cells) (li := s10.2) (i := s10.1) (u := .int .i64 y19.Op) (by kernel_rfl) (by kernel_rfl) hy19 rfl (by kernel_rfl)) ?_
          refine S_pure (by show _ = _; kernel_rfl) (O_eql (k := .i64) (a := y19.Op) (b := 12) (by kernel_rfl) (by kernel_rfl)) ?_
          refine S_pure trivial (O_pkf (d := .u (.bool ((decide (y19.Op = 12))))) (by kernel_rfl) (by kernel_rfl)) ?_
          obtain rfl := Option.some.inj h
          exact Rs_weak (W_to (by kernel_rfl) (by kernel_rfl) (by kernel_rfl)) K13
      · refine R_exit ?_
        refine E_s ?_
        refine E_k ?_
        refine E_b ?_
        refine N_s ?_
        exact R_weak (W_to (by kernel_rfl) (by kernel_rfl) (by kernel_rfl)) (K9 _ (hO7 _ h))
    have K22 : ∀ (w21 : ((List ApiTerm) × Int)), (Sum.inr w21) = o2 → w21 = r := by
      intro w21 e; subst e
      replace h := elimR h
      exact Option.some.inj h
    refine R_loop (ref05_Rename.l30 m_1) (fun s23 => (mkSt [(0, .u (.sl (List.map ApiTerm.cells e_0))), (1, .u (.sl (List.map (cInt .i64) m_1))), (6, .u (.int .i64 s23))] [] 0)) hE (W_to (by kernel_rfl) (by kernel_rfl) (by kernel_rfl)) ?_
    intro K3 s23 x24 h hK3 hO3
    refine R_seq ?_
    refine R_seq ?_
    refine R_reg ?_
    refine S_pure trivial (O_mv (d := .u (.int .i64 s23)) (by kernel_rfl)) ?_
    refine S_pure trivial (O_mv (d := .u (.sl (List.map (cInt .i64) m_1))) (by kernel_rfl)) ?_
    refine S_pure trivial (O_ln (c := (cInt .i64)) (li := m_1) (by kernel_rfl)) ?_
    refine S_pure trivial (O_lss (k := .i64) (a := s23) (b := (List.length m_1 : Int)) (by kernel_rfl) (by kernel_rfl)) ?_
    refine Rs_nil ?_
    refine N_s ?_
    refine R_cond (c := (decide (s23 < (List.length m_1 : Int)))) (by kernel_rfl) h (fun h => ?_) (fun h => ?_)
    · refine R_skip ?_
      refine N_s ?_
      refine R_seq ?_
      refine R_block ?_
      refine R_seq ?_
      refine R_reg ?_
      refine S_pure trivial (O_mv (d := .u (.sl (List.map (cInt .i64) m_1))) (by kernel_rfl)) ?_
      refine S_pure trivial (O_mv (d := .u (.int .i64 s23)) (by kernel_rfl)) ?_
      obtain ⟨y25, hy25, h⟩ := bindS h
      refine S_pure trivial (O_ia (c := (cInt .i64)) (li := m_1) (i := s23) (k := .i64) (a := y25) (u := (cInt .i64) y25) (by kernel_rfl) (by kernel_rfl) hy25 rfl rfl) ?_
      refine S_pure trivial (O_ldf (cells := (cInt .i64) y25) (off := 0) (u := .int .i64 y25) (by kernel_rfl) (by kernel_rfl)) ?_
      refine S_pure trivial (O_lss (k := .i64) (a := y25) (b := 0) (by kernel_rfl) (by kernel_rfl)) ?_
      refine S_pure trivial (O_mv (d := .u (.bool ((decide (y25 < 0))))) (by kernel_rfl)) ?_
      obtain ⟨o28, hE, h⟩ := bindS h
      have K26 : Rs Try.prog 67 (retQ [4, 5] (.tup [.sl (List.map ApiTerm.cells r.1), .int .i64 r.2])) [.s q_ref05_Rename_3, .b 1, .s q_ref05_Rename_4, .k K3, .b 0, .s q_ref05_Rename_24] [] (mkSt [(0, .u (.sl (List.map ApiTerm.cells e_0))), (1, .u (.sl (List.map (cInt .i64) m_1))), (6, .u (.int .i64 s23)), (31, .u (.bool o28))] [] 0) := by
        refine Rs_nil ?_
        refine N_s ?_
        refine R_cond (c := o28) (by kernel_rfl) h (fun h => ?_) (fun h => ?_)
        · refine R_seq ?_
          refine R_reg ?_
          refine S_pure trivial (O_mv (d := .u (.nil)) (by kernel_rfl)) ?_
          refine S_pure trivial (O_mv (d := .u (.int .i64 2)) (by kernel_rfl)) ?_
          refine Rs_nil ?_
          refine N_s ?_
          refine R_weak (W_nq 4 (by kernel_rfl) .nil) ?_
          obtain rfl := (K22 _ (hO3 _ h))
          refine R_ret ?_
          exact Q_ret (x := .tup [.sl (List.map ApiTerm.cells ([])), .int .i64 2]) (by kernel_rfl) (.refl _)
        · refine R_skip ?_
          refine N_b ?_
          refine N_s ?_
          refine R_reg ?_
          refine S_pure trivial (O_mv (d := .u (.int .i64 s23)) (by kernel_rfl)) ?_
          refine S_pure trivial (O_add (k := .i64) (a := s23) (b := 1) (by kernel_rfl) (by kernel_rfl)) ?_
          refine S_pure trivial (O_mv (d := .u (.int .i64 ((IntKind.i64.wrap (s23 + 1))))) (by kernel_rfl)) ?_
          refine Rs_nil ?_
          exact N_k (hK3 _ h _ (W_to (by kernel_rfl) (by kernel_rfl) (by kernel_rfl)))
      replace h := hE
      refine S_case (t := 25) (c := (decide (y25 < 0))) (by kernel_rfl) h (fun hc h => ?_) (fun hc h => ?_)
      · refine S_skip (b := true) (by kernel_rfl) rfl ?_
        refine S_skip (b := true) (by kernel_rfl) rfl ?_
        refine S_skip (b := true) (by kernel_rfl) rfl ?_
        refine S_skip (b := true) (by kernel_rfl) rfl ?_
        refine S_skip (b := true) (by kernel_rfl) rfl ?_
        refine S_pure trivial (O_pkt (d := .u (.bool true)) (by kernel_rfl) (by kernel_rfl)) ?_
        obtain rfl := Option.some.inj h
        exact Rs_weak (W_to (by kernel_rfl) (by kernel_rfl) (by kernel_rfl)) K26
      · refine S_pure (by show _ = _; kernel_rfl) (O_mv (d := .u (.sl (List.map (cInt .i64) m_1))) (by kernel_rfl)) ?_
        refine S_pure (by show _ = _; kernel_rfl) (O_mv (d := .u (.int .i64 s23)) (by kernel_rfl)) ?_
        obtain ⟨y29, hy29, h⟩ := bindS h
        refine S_pure (by show _ = _; kernel_rfl) (O_ia (c := (cInt .i64)) (li := m_1) (i := s23) (k := .i64) (a := y29) (u := (cInt .i64) y29) (by kernel_rfl) (by kernel_rfl) hy29 rfl rfl) ?_
        refine S_pure (by show _ = _; kernel_rfl) (O_ldf (cells := (cInt .i64) y29) (off := 0) (u := .int .i64 y29) (by kernel_rfl) (by kernel_rfl)) ?_
        refine S_pure (by show _ = _; kernel_rfl) (O_geq (k := .i64) (a := y29) (b := 6) (by kernel_rfl) (by kernel_rfl)) ?_
        refine S_pure trivial (O_pkf (d := .u (.bool ((decide (6 ≤ y29))))) (by kernel_rfl) (by kernel_rfl)) ?_
        obtain rfl := Option.some.inj h
        exact Rs_weak (W_to (by kernel_rfl) (by kernel_rfl) (by kernel_rfl)) K26
    · refine R_exit ?_
      refine E_s ?_
      refine E_k ?_
      refine E_b ?_
      refine N_s ?_
      exact R_weak (W_to (by kernel_rfl) (by kernel_rfl) (by kernel_rfl)) (K5 _ (hO3 _ h))

/-! ### selfstab/selfstablaw07.TypesFollowRenaming -/
def q_law07_TypesFollowRenaming_1 : AC := .reg [⟨some 107, none, .ca 25 []⟩, ⟨some 108, none, .mv (.t 107)⟩, ⟨some 109, some (108, true), .mv (.t 14)⟩, ⟨some 110, some (108, true), .mv (.t 16)⟩, ⟨some 111, some (108, true), .bi .eql (.t 109) (.t 110)⟩, ⟨some 112, none, .pk (.t 108) (.t 111) (.c (.bool false))⟩, ⟨some 113, none, .mv (.t 112)⟩, ⟨some 114, some (113, true), .mv (.t 15)⟩, ⟨some 115, some (113, true), .mv (.t 17)⟩, ⟨some 116, some (113, true), .bi .eql (.t 114) (.t 115)⟩, ⟨some 117, none, .pk (.t 113) (.t 116) (.c (.bool false))⟩, ⟨some 8, none, .mv (.t 117)⟩]
def q_law07_TypesFollowRenaming_2 : AC := .seq q_law07_TypesFollowRenaming_1 .ret
def q_law07_TypesFollowRenaming_3 : AC := .reg [⟨some 101, none, .mv (.t 9)⟩, ⟨some 102, none, .mv (.t 11)⟩, ⟨some 103, none, .mv (.t 3)⟩, ⟨some 104, none, .ca 26 [.t 101, .t 102, .t 103]⟩, ⟨some 100, none, .mv (.t 104)⟩, ⟨some 105, none, .ex (.t 100) 0⟩, ⟨some 106, none, .ex (.t 100) 1⟩, ⟨some 16, none, .mv (.t 105)⟩, ⟨some 17, none, .mv (.t 106)⟩]
def q_law07_TypesFollowRenaming_4 : AC := .seq q_law07_TypesFollowRenaming_3 q_law07_TypesFollowRenaming_2
def q_law07_TypesFollowRenaming_5 : AC := .reg [⟨some 95, none, .ca 25 []⟩, ⟨some 96, none, .mv (.t 95)⟩, ⟨some 97, some (96, true), .mv (.t 14)⟩, ⟨some 98, some (96, true), .bi .eql (.t 97) (.c (.int .i64 0))⟩, ⟨some 99, none, .pk (.t 96) (.t 98) (.c (.bool false))⟩, ⟨some 8, none, .mv (.t 99)⟩]
def q_law07_TypesFollowRenaming_6 : AC := .seq q_law07_TypesFollowRenaming_5 .ret
def q_law07_TypesFollowRenaming_7 : AC := .cond (.t 94) q_law07_TypesFollowRenaming_6 .skip
def q_law07_TypesFollowRenaming_8 : AC := .reg [⟨some 93, none, .mv (.t 15)⟩, ⟨some 94, none, .bi .eql (.t 93) (.c (.int .i64 7))⟩]
def q_law07_TypesFollowRenaming_9 : AC := .seq q_law07_TypesFollowRenaming_8 q_law07_TypesFollowRenaming_7
def q_law07_TypesFollowRenaming_10 : AC := .seq q_law07_TypesFollowRenaming_9 q_law07_TypesFollowRenaming_4
def q_law07_TypesFollowRenaming_11 : AC := .reg [⟨some 87, none, .mv (.t 0)⟩, ⟨some 88, none, .mv (.t 1)⟩, ⟨some 89, none, .mv (.t 3)⟩, ⟨some 90, none, .ca 26 [.t 87, .t 88, .t 89]⟩, ⟨some 86, none, .mv (.t 90)⟩, ⟨some 91, none, .ex (.t 86) 0⟩, ⟨some 92, none, .ex (.t 86) 1⟩, ⟨some 14, none, .mv (.t 91)⟩, ⟨some 15, none, .mv (.t 92)⟩]
def q_law07_TypesFollowRenaming_12 : AC := .seq q_law07_TypesFollowRenaming_11 q_law07_TypesFollowRenaming_10
def q_law07_TypesFollowRenaming_13 : AC := .reg [⟨some 71, none, .mv (.t 13)⟩, ⟨some 72, none, .bi .add (.t 71) (.c (.int .i64 1))⟩, ⟨some 13, none, .mv (.t 72)⟩]
def q_law07_TypesFollowRenaming_14 : AC := .reg [⟨some 85, none, .ca 25 []⟩, ⟨some 8, none, .mv (.t 85)⟩]
def q_law07_TypesFollowRenaming_15 : AC := .seq q_law07_TypesFollowRenaming_14 .ret
def q_law07_TypesFollowRenaming_16 : AC := .cond (.t 84) q_law07_TypesFollowRenaming_15 .skip
def q_law07_TypesFollowRenaming_17 : AC := .rgd [⟨some 73, none, .mv (.t 11)⟩,
   ⟨some 74, none, .mv (.t 2)⟩,
   ⟨some 75, none, .mv (.t 13)⟩,
   ⟨some 76, none, .ia 1 (.t 74) (.t 75)⟩,
   ⟨some 77, none, .ld false 1 (.t 76)⟩,
   ⟨some 78, none, .ia 1 (.t 73) (.t 77)⟩,
   ⟨some 79, none, .ld false 1 (.t 78)⟩,
   ⟨some 80, none, .mv (.t 1)⟩,
   ⟨some 81, none, .mv (.t 13)⟩,
   ⟨some 82, none, .ia 1 (.t 80) (.t 81)⟩,
   ⟨some 83, none, .ld false 1 (.t 82)⟩,
   ⟨some 84, none, .bi .neq (.t 79) (.t 83)⟩] [(0, 1), (0, 2), (1, 2), (0, 3), (0, 4), (0, 7), (1, 7), (2, 7), (3, 7), (4, 7), (5, 7), (6, 7), (0, 8), (1, 8), (2, 8), (3, 8), (4, 8), (5, 8), (6, 8), (7, 8), (0, 9), (1, 9), (2, 9), (3, 9), (4, 9), (5, 9), (6, 9), (0, 10), (1, 10), (2, 10), (3, 10), (4, 10), (5, 10), (6, 10)]
def q_law07_TypesFollowRenaming_18 : AC := .seq q_law07_TypesFollowRenaming_17 q_law07_TypesFollowRenaming_16
def q_law07_TypesFollowRenaming_19 : AC := .block 3 q_law07_TypesFollowRenaming_18
def q_law07_TypesFollowRenaming_20 : AC := .seq q_law07_TypesFollowRenaming_19 q_law07_TypesFollowRenaming_13
def q_law07_TypesFollowRenaming_21 : AC := .cond (.t 70) .skip (.exit 2)
def q_law07_TypesFollowRenaming_22 : AC := .reg [⟨some 67, none, .mv (.t 13)⟩, ⟨some 68, none, .mv (.t 2)⟩, ⟨some 69, none, .ln (.t 68)⟩, ⟨some 70, none, .bi .lss (.t 67) (.t 69)⟩]
def q_law07_TypesFollowRenaming_23 : AC := .seq q_law07_TypesFollowRenaming_22 q_law07_TypesFollowRenaming_21
def q_law07_TypesFollowRenaming_24 : AC := .seq q_law07_TypesFollowRenaming_23 q_law07_TypesFollowRenaming_20
def q_law07_TypesFollowRenaming_25 : AC := .loop q_law07_TypesFollowRenaming_24
def q_law07_TypesFollowRenaming_26 : AC := .block 2 q_law07_TypesFollowRenaming_25
def q_law07_TypesFollowRenaming_27 : AC := .reg [⟨some 13, none, .mv (.c (.int .i64 0))⟩]
def q_law07_TypesFollowRenaming_28 : AC := .seq q_law07_TypesFollowRenaming_27 q_law07_TypesFollowRenaming_26
def q_law07_TypesFollowRenaming_29 : AC := .seq q_law07_TypesFollowRenaming_28 q_law07_TypesFollowRenaming_12
def q_law07_TypesFollowRenaming_30 : AC := .reg [⟨some 40, none, .ca 25 []⟩, ⟨some 8, none, .mv (.t 40)⟩]
def q_law07_TypesFollowRenaming_31 : AC := .seq q_law07_TypesFollowRenaming_30 .ret
def q_law07_TypesFollowRenaming_32 : AC := .cond (.t 39) q_law07_TypesFollowRenaming_31 .skip
def q_law07_TypesFollowRenaming_33 : AC := .reg [⟨some 55, none, .mv (.t 12)⟩, ⟨some 56, none, .bi .add (.t 55) (.c (.int .i64 1))⟩, ⟨some 12, none, .mv (.t 56)⟩]
def q_law07_TypesFollowRenaming_34 : AC := .rgd [⟨some 57, none, .mv (.t 11)⟩,
   ⟨some 58, none, .mv (.t 2)⟩,
   ⟨some 59, none, .mv (.t 12)⟩,
   ⟨some 60, none, .ia 1 (.t 58) (.t 59)⟩,
   ⟨some 61, none, .ld false 1 (.t 60)⟩,
   ⟨some 62, none, .mv (.t 1)⟩,
   ⟨some 63, none, .mv (.t 12)⟩,
   ⟨some 64, none, .ia 1 (.t 62) (.t 63)⟩,
   ⟨some 65, none, .ld false 1 (.t 64)⟩,
   ⟨some 66, none, .ia 1 (.t 57) (.t 61)⟩,
   ⟨none, none, .st 1 (.t 66) (.t 65)⟩] [(0, 1), (0, 2), (1, 2), (0, 3), (0, 4), (0, 5), (1, 5), (2, 5), (3, 5), (4, 5), (0, 6), (1, 6), (2, 6), (3, 6), (4, 6), (5, 6), (0, 7), (1, 7), (2, 7), (3, 7), (4, 7), (0, 8), (1, 8), (2, 8), (3, 8), (4, 8)]
def q_law07_TypesFollowRenaming_35 : AC := .block 1 q_law07_TypesFollowRenaming_34
def q_law07_TypesFollowRenaming_36 : AC := .seq q_law07_TypesFollowRenaming_35 q_law07_TypesFollowRenaming_33
def q_law07_TypesFollowRenaming_37 : AC := .cond (.t 54) .skip (.exit 0)
def q_law07_TypesFollowRenaming_38 : AC := .reg [⟨some 51, none, .mv (.t 12)⟩, ⟨some 52, none, .mv (.t 2)⟩, ⟨some 53, none, .ln (.t 52)⟩, ⟨some 54, none, .bi .lss (.t 51) (.t 53)⟩]
def q_law07_TypesFollowRenaming_39 : AC := .seq q_law07_TypesFollowRenaming_38 q_law07_TypesFollowRenaming_37
def q_law07_TypesFollowRenaming_40 : AC := .seq q_law07_TypesFollowRenaming_39 q_law07_TypesFollowRenaming_36
def q_law07_TypesFollowRenaming_41 : AC := .loop q_law07_TypesFollowRenaming_40
def q_law07_TypesFollowRenaming_42 : AC := .block 0 q_law07_TypesFollowRenaming_41
def q_law07_TypesFollowRenaming_43 : AC := .reg [⟨some 12, none, .mv (.c (.int .i64 0))⟩]
def q_law07_TypesFollowRenaming_44 : AC := .seq q_law07_TypesFollowRenaming_43 q_law07_TypesFollowRenaming_42
def q_law07_TypesFollowRenaming_45 : AC := .seq q_law07_TypesFollowRenaming_44 q_law07_TypesFollowRenaming_29
def q_law07_TypesFollowRenaming_46 : AC := .reg [⟨some 50, none, .bs 1 [.c (.int .i64 1), .c (.int .i64 1), .c (.int .i64 1), .c (.int .i64 1), .c (.int .i64 1), .c (.int .i64 1)]⟩, ⟨some 11, none, .mv (.t 50)⟩]
def q_law07_TypesFollowRenaming_47 : AC := .seq q_law07_TypesFollowRenaming_46 q_law07_TypesFollowRenaming_45
def q_law07_TypesFollowRenaming_48 : AC := .reg [⟨some 49, none, .ca 25 []⟩, ⟨some 8, none, .mv (.t 49)⟩]
def q_law07_TypesFollowRenaming_49 : AC := .seq q_law07_TypesFollowRenaming_48 .ret
def q_law07_TypesFollowRenaming_50 : AC := .cond (.t 48) q_law07_TypesFollowRenaming_49 .skip
def q_law07_TypesFollowRenaming_51 : AC := .reg [⟨some 47, none, .mv (.t 10)⟩, ⟨some 48, none, .bi .neq (.t 47) (.c (.int .i64 0))⟩]
def q_law07_TypesFollowRenaming_52 : AC := .seq q_law07_TypesFollowRenaming_51 q_law07_TypesFollowRenaming_50
def q_law07_TypesFollowRenaming_53 : AC := .seq q_law07_TypesFollowRenaming_52 q_law07_TypesFollowRenaming_47
def q_law07_TypesFollowRenaming_54 : AC := .reg [⟨some 42, none, .mv (.t 0)⟩, ⟨some 43, none, .mv (.t 2)⟩, ⟨some 44, none, .ca 33 [.t 42, .t 43]⟩, ⟨some 41, none, .mv (.t 44)⟩, ⟨some 45, none, .ex (.t 41) 0⟩, ⟨some 46, none, .ex (.t 41) 1⟩, ⟨some 9, none, .mv (.t 45)⟩, ⟨some 10, none, .mv (.t 46)⟩]
def q_law07_TypesFollowRenaming_55 : AC := .seq q_law07_TypesFollowRenaming_54 q_law07_TypesFollowRenaming_53
def q_law07_TypesFollowRenaming_56 : AC := .reg [⟨some 18, none, .mv (.t 0)⟩, ⟨some 19, none, .ca 24 [.t 18]⟩, ⟨some 20, none, .un .not (.t 19)⟩, ⟨some 21, none, .mv (.t 20)⟩, ⟨some 22, some (21, false), .mv (.t 1)⟩, ⟨some 23, some (21, false), .ln (.t 22)⟩, ⟨some 24, some (21, false), .bi .gtr (.t 23) (.c (.int .i64 6))⟩, ⟨some 25, none, .pk (.t 21) (.c (.bool true)) (.t 24)⟩, ⟨some 26, none, .mv (.t 25)⟩, ⟨some 27, some (26, false), .mv (.t 2)⟩, ⟨some 28, some (26, false), .ln (.t 27)⟩, ⟨some 29, some (26, false), .mv (.t 1)⟩, ⟨some 30, some (26, false), .ln (.t 29)⟩, ⟨some 31, some (26, false), .bi .neq (.t 28) (.t 30)⟩, ⟨some 32, none, .pk (.t 26) (.c (.bool true)) (.t 31)⟩, ⟨some 33, none, .mv (.t 32)⟩, ⟨some 34, some (33, false), .mv (.t 0)⟩, ⟨some 35, some (33, false), .mv (.t 1)⟩, ⟨some 36, some (33, false), .ln (.t 35)⟩, ⟨some 37, some (33, false), .ca 32 [.t 34, .t 36]⟩, ⟨some 38, some (33, false), .un .not (.t 37)⟩, ⟨some 39, none, .pk (.t 33) (.c (.bool true)) (.t 38)⟩]
def q_law07_TypesFollowRenaming_57 : AC := .seq q_law07_TypesFollowRenaming_56 q_law07_TypesFollowRenaming_32
def q_law07_TypesFollowRenaming_58 : AC := .seq q_law07_TypesFollowRenaming_57 q_law07_TypesFollowRenaming_55
def q_law07_TypesFollowRenaming_59 : AC := .reg [⟨some 8, none, .mv (.c (.bool false))⟩]
def q_law07_TypesFollowRenaming_60 : AC := .seq q_law07_TypesFollowRenaming_59 q_law07_TypesFollowRenaming_58
def c_law07_TypesFollowRenaming : FC := ⟨118, [8], q_law07_TypesFollowRenaming_60⟩
theorem k_law07_TypesFollowRenaming : okF Try.prog 11 c_law07_TypesFollowRenaming = true := by decide +kernel
noncomputable def law07_TypesFollowRenaming.l38 (kinds_1 : List Int) (m_2 : List Int) (w14 : (List Int)) (s32 : Int) : Option (Int ⊕ (Unit ⊕ Bool)) := (bif (decide (s32 < (List.length m_2 : Int))) then ((idx m_2 s32).bind (fun (y34 : Int) => ((idx w14 y34).bind (fun (y35 : Int) => ((idx kinds_1 s32).bind (fun (y36 : Int) => (bif (!decide (y35 = y36)) then ((law07_awake).bind (fun (y37 : Bool) => (some (Sum.inr (Sum.inr y37))))) else (some (Sum.inl (IntKind.i64.wrap (s32 + 1))))))))))) else (some (Sum.inr (Sum.inl ()))))
noncomputable def law07_TypesFollowRenaming.l44 (kinds_1 : List Int) (m_2 : List Int) (s39 : Int × (List Int)) : Option ((Int × (List Int)) ⊕ (((List Int)))) := (bif (decide (s39.1 < (List.length m_2 : Int))) then ((idx m_2 s39.1).bind (fun (y41 : Int) => ((idx kinds_1 s39.1).bind (fun (y42 : Int) => ((idx s39.2 y41).bind (fun (y43 : Int) => (some (Sum.inl ((IntKind.i64.wrap (s39.1 + 1)), (List.set s39.2 (Int.toNat y41) y42)))))))))) else (some (Sum.inr s39.2)))
noncomputable def law07_TypesFollowRenaming (e_0 : List ApiTerm) (kinds_1 : List Int) (m_2 : List Int) (bound_3 : Bool) : Option Bool := ((made_LightExpr e_0).bind (fun (y1 : Bool) => ((bif (((!y1) || (decide (6 < (List.length kinds_1 : Int)))) || (!decide ((List.length m_2 : Int) = (List.length kinds_1 : Int)))) then (some true) else ((ref05_Valid e_0 ((List.length kinds_1 : Int))).bind (fun (y45 : Bool) => (some (!y45))))).bind (fun (o8 : Bool) => (bif o8 then ((law07_awake).bind (fun (y9 : Bool) => (some y9))) else ((ref05_Rename e_0 m_2).bind (fun (y10 : (List ApiTerm) × Int) => (bif (!decide (y10.2 = 0)) then ((law07_awake).bind (fun (y11 : Bool) => (some y11))) else ((loopO (law07_TypesFollowRenaming.l44 kinds_1 m_2) (0, [1, 1, 1, 1, 1, 1])).bind (fun (w14 : (List Int)) => ((loopO (law07_TypesFollowRenaming.l38 kinds_1 m_2 w14) 0).bind (Sum.elim (fun (w18 : Unit) => ((types_Of e_0 kinds_1 bound_3).bind (fun (y20 : Int × Int) => (bif (decide (y20.2 = 7)) then ((law07_awake).bind (fun (y21 : Bool) => (some (y21 && (decide (y20.1 = 0)))))) else ((types_Of y10.1 w14 bound_3).bind (fun (y24 : Int × Int) => ((law07_awake).bind (fun (y25 : Bool) => (some ((y25 && (decide (y20.1 = y24.1))) && (decide (y20.2 = y24.2)))))))))))) (fun (w30 : Bool) => (some w30))))))))))))))
theorem law07_TypesFollowRenaming.ok {e_0 : List ApiTerm} {kinds_1 : List Int} {m_2 : List Int} {bound_3 : Bool} {r : Bool} (h : law07_TypesFollowRenaming e_0 kinds_1 m_2 bound_3 = some r) : PC Try.prog 11 [.sl (List.map ApiTerm.cells e_0), .sl (List.map (cInt .i64) kinds_1), .sl (List.map (cInt .i64) m_2), .bool bound_3] (.bool r) := by
  refine PC_run k_law07_TypesFollowRenaming rfl (L := [(0, .u (.sl (List.map ApiTerm.cells e_0))), (1, .u (.sl (List.map (cInt .i64) kinds_1))), (2, .u (.sl (List.map (cInt .i64) m_2))), (3, .u (.bool bound_3))]) rfl ?_
  show Run Try.prog 118 (retQ [8] (.bool r)) [] q_law07_TypesFollowRenaming_60 _
  refine R_seq ?_
  refine R_reg ?_
  refine S_pure trivial (O_mv (d := .u (.bool false)) (by kernel_rfl)) ?_
  refine Rs_nil ?_
  refine N_s ?_
  refine R_seq ?_
  refine R_seq ?_
  refine R_reg ?_
  refine S_pure trivial (O_mv (d := .u (.sl (List.map ApiTerm.cells e_0))) (by kernel_rfl)) ?_
  obtain ⟨y1, hy1, h⟩ := bindS h
  refine S_pure trivial (O_ca (us := [.sl (List.map ApiTerm.cells e_0)]) (r := .bool y1) (by kernel_rfl) (made_LightExpr.ok hy1)) ?_
  refine S_pure trivial (O_not (b := y1) (by kernel_rfl)) ?_
  refine S_pure trivial (O_mv (d := .u (.bool ((!y1)))) (by kernel_rfl)) ?_
  have K2 : ∀ v3 : Bool, v3 = ((!y1) || (decide (6 < (List.length kinds_1 : Int)))) → Rs Try.prog 118 (retQ [8] (.bool r)) [.s q_law07_TypesFollowRenaming_32, .s q_law07_TypesFollowRenaming_55] [⟨some 26, none, .mv (.t 25)⟩, ⟨some 27, some (26, false), .mv (.t 2)⟩, ⟨some 28, some (26, false), .ln (.t 27)⟩, ⟨some 29, some (26, false), .mv (.t 1)⟩, ⟨some 30, some (26, false), .ln (.t 29)⟩, ⟨some 31, some (26, false), .bi .neq (.t 28) (.t 30)⟩, ⟨some 32, none, .pk (.t 26) (.c (.bool true)) (.t 31)⟩, ⟨some 33, none, .mv (.t 32)⟩, ⟨some 34, some (33, false), .mv (.t 0)⟩, ⟨some 35, some (33, false), .mv (.t 1)⟩, ⟨some 36, some (33, false), .ln (.t 35)⟩, ⟨some 37, some (33, false), .ca 32 [.t 34, .t 36]⟩, ⟨some 38, some (33, false), .un .not (.t 37)⟩, ⟨some 39, none, .pk (.t 33) (.c (.bool true)) (.t 38)⟩] (mkSt [(0, .u (.sl (List.map ApiTerm.cells e_0))), (1, .u (.sl (List.map (cInt .i64) kinds_1))), (2, .u (.sl (List.map (cInt .i64) m_2))), (3, .u (.bool bound_3)), (25, .u (.bool v3))] [] 0) := by
    intro v3 e; subst e
    refine S_pure trivial (O_mv (d := .u (.bool (((!y1) || (decide (6 < (List.length kinds_1 : Int))))))) (by kernel_rfl)) ?_
    have K4 : ∀ v5 : Bool, v5 = (((!y1) || (decide (6 < (List.length kinds_1 : Int)))) || (!decide ((List.length m_2 : Int) = (List.length kinds_1 : Int)))) → Rs Try.prog 118 (retQ [8] (.bool r)) [.s q_law07_TypesFollowRenaming_32, .s q_law07_TypesFollowRenaming_55] [⟨some 33, none, .mv (.t 32)⟩, ⟨some 34, some (33, false), .mv (.t 0)⟩, ⟨some 35, some (33, false), .mv (.t 1)⟩, ⟨some 36, some (33, false), .ln (.t 35)⟩, ⟨some 37, some (33, false), .ca 32 [.t 34, .t 36]⟩, ⟨some 38, some (33, false), .un .not (.t 37)⟩, ⟨some 39, none, .pk (.t 33) (.c (.bool true)) (.t 38)⟩] (mkSt [(0, .u (.sl (List.map ApiTerm.cells e_0))), (1, .u (.sl (List.map (cInt .i64) kinds_1))), (2, .u (.sl (List.map (cInt .i64) m_2))), (3, .u (.bool bound_3)), (32, .u (.bool v5))] [] 0) := by
      intro v5 e; subst e
      refine S_pure trivial (O_mv (d := .u (.bool ((((!y1) || (decide (6 < (List.length kinds_1 : Int)))) || (!decide ((List.length m_2 : Int) = (List.length kinds_1 : Int))))))) (by kernel_rfl)) ?_
      obtain ⟨o8, hE, h⟩ := bindS h
      have K6 : Rs Try.prog 118 (retQ [8] (.bool r)) [.s q_law07_TypesFollowRenaming_32, .s q_law07_TypesFollowRenaming_55] [] (mkSt [(0, .u (.sl (List.map ApiTerm.cells e_0))), (1, .u (.sl (List.map (cInt .i64) kinds_1))), (2, .u (.sl (List.map (cInt .i64) m_2))), (3, .u (.bool bound_3)), (39, .u (.bool o8))] [] 0) := by
        refine Rs_nil ?_
        refine N_s ?_
        refine R_cond (c := o8) (by kernel_rfl) h (fun h => ?_) (fun h => ?_)
        · refine R_seq ?_
          refine R_reg ?_
          obtain ⟨y9, hy9, h⟩ := bindS h
          refine S_pure trivial (O_ca (us := []) (r := .bool y9) (by kernel_rfl) (law07_awake.ok hy9)) ?_
          refine S_pure trivial (O_mv (d := .u (.bool y9)) (by kernel_rfl)) ?_
          refine Rs_nil ?_
          refine N_s ?_
          obtain rfl := (Option.some.inj h)
          refine R_ret ?_
          exact Q_ret (x := .bool y9) (by kernel_rfl) (.refl _)
        · refine R_skip ?_
          refine N_s ?_
          refine R_seq ?_
          refine R_reg ?_
          refine S_pure trivial (O_mv (d := .u (.sl (List.map ApiTerm.cells e_0))) (by kernel_rfl)) ?_
          refine S_pure trivial (O_mv (d := .u (.sl (List.map (cInt .i64) m_2))) (by kernel_rfl)) ?_
          obtain ⟨y10, hy10, h⟩ := bindS h
          refine S_pure trivial (O_ca (us := [.sl (List.map ApiTerm.cells e_0), .sl (List.map (cInt .i64) m_2)]) (r := .tup [.sl (List.map ApiTerm.cells y10.1), .int .i64 y10.2]) (by kernel_rfl) (ref05_Rename.ok hy10)) ?_
          refine S_pure trivial (O_mv (d := .u (.tup [.sl (List.map ApiTerm.cells y10.1), .int .i64 y10.2])) (by kernel_rfl)) ?_
          refine S_pure trivial (O_ex (us := [.sl (List.map ApiTerm.cells y10.1), .int .i64 y10.2]) (u := .sl (List.map ApiTerm.cells y10.1)) (by kernel_rfl) (by kernel_rfl)) ?_
          refine S_pure trivial (O_ex (us := [.sl (List.map ApiTerm.cells y10.1), .int .i64 y10.2]) (u := .int .i64 y10.2) (by kernel_rfl) (by kernel_rfl)) ?_
          refine S_pure trivial (O_mv (d := .u (.sl (List.map ApiTerm.cells y10.1))) (by kernel_rfl)) ?_
          refine S_pure trivial (O_mv (d := .u (.int .i64 y10.2)) (by kernel_rfl)) ?_
          refine Rs_nil ?_
          refine N_s ?_
          refine R_seq ?_
          refine R_seq ?_
          refine R_reg ?_
          refine S_pure trivial (O_mv (d := .u (.int .i64 y10.2)) (by kernel_rfl)) ?_
          refine S_pure trivial (O_neq (k := .i64) (a := y10.2) (b := 0) (by kernel_rfl) (by kernel_rfl)) ?_
          refine Rs_nil ?_
          refine N_s ?_
          refine R_cond (c := (!decide (y10.2 = 0))) (by kernel_rfl) h (fun h => ?_) (fun h => ?_)
          · refine R_seq ?_
            refine R_reg ?_
            obtain ⟨y11, hy11, h⟩ := bindS h
            refine S_pure trivial (O_ca (us := []) (r := .bool y11) (by kernel_rfl) (law07_awake.ok hy11)) ?_
            refine S_pure trivial (O_mv (d := .u (.bool y11)) (by kernel_rfl)) ?_
            refine Rs_nil ?_
            refine N_s ?_
            obtain rfl := (Option.some.inj h)
            refine R_ret ?_
            exact Q_ret (x := .bool y11) (by kernel_rfl) (.refl _)
          · refine R_skip ?_
            refine N_s ?_
            refine R_seq ?_
            refine R_reg ?_
            refine S_up trivial (O_bs (els := [[.u (.int .i64 1)], [.u (.int .i64 1)], [.u (.int .i64 1)], [.u (.int .i64 1)], [.u (.int .i64 1)], [.u (.int .i64 1)]]) (uss := List.map (cInt .i64) ([1, 1, 1, 1, 1, 1])) (m := List.length ([1, 1, 1, 1, 1, 1])) (by kernel_rfl) rfl (by kernel_rfl) (by kernel_rfl)) ?_
            refine S_pure trivial (O_mv (d := .msl 0 [1, 1, 1, 1, 1, 1].length) (by kernel_rfl)) ?_
            refine Rs_nil ?_
            refine N_s ?_
            refine R_seq ?_
            refine R_seq ?_
            refine R_reg ?_
            refine S_pure trivial (O_mv (d := .u (.int .i64 0)) (by kernel_rfl)) ?_
            refine Rs_nil ?_
            refine N_s ?_
            refine R_block ?_
            obtain ⟨o12, hE, h⟩ := bindS h
            have K15 : ∀ (w14 : (List Int)), w14 = o12 → Run Try.prog 118 (retQ [8] (.bool r)) [] q_law07_TypesFollowRenaming_29 (mkSt [(0, .u (.sl (List.map ApiTerm.cells e_0))), (1, .u (.sl (List.map (cInt .i64) kinds_1))), (2, .u (.sl (List.map (cInt .i64) m_2))), (3, .u (.bool bound_3)), (9, .u (.sl (List.map ApiTerm.cells y10.1))), (11, .msl 0 w14.length)] [(0, .row 1 (List.map (cInt .i64) w14))] 1) := by
              intro w14 e; subst e
              refine R_seq ?_
              refine R_seq ?_
              refine R_reg ?_
              refine S_pure trivial (O_mv (d := .u (.int .i64 0)) (by kernel_rfl)) ?_
              refine Rs_nil ?_
              refine N_s ?_
              refine R_block ?_
              obtain ⟨o16, hE, h⟩ := bindS h
              have K19 : ∀ (w18 : Unit), (Sum.inl w18) = o16 → Run Try.prog 118 (retQ [8] (.bool r)) [] q_law07_TypesFollowRenaming_12 (mkSt [(0, .u (.sl (List.map ApiTerm.cells e_0))), (1, .u (.sl (List.map (cInt .i64) kinds_1))), (3, .u (.bool bound_3)), (9, .u (.sl (List.map ApiTerm.cells y10.1))), (11, .msl 0 w14.length)] [(0, .row 1 (List.map (cInt .i64) w14))] 1) := by
                intro w18 e; subst e
                replace h := elimL h
                refine R_seq ?_
                refine R_reg ?_
                refine S_pure trivial (O_mv (d := .u (.sl (List.map ApiTerm.cells e_0))) (by kernel_rfl)) ?_
                refine S_pure trivial (O_mv (d := .u (.sl (List.map (cInt .i64) kinds_1))) (by kernel_rfl)) ?_
                refine S_pure trivial (O_mv (d := .u (.bool bound_3)) (by kernel_rfl)) ?_
                obtain ⟨y20, hy20, h⟩ := bindS h
                refine S_pure trivial (O_ca (us := [.sl (List.map ApiTerm.cells e_0), .sl (List.map (cInt .i64) kinds_1), .bool bound_3]) (r := .tup [.int .i64 y20.1, .int .i64 y20.2]) (by kernel_rfl) (types_Of.ok hy20)) ?_
                refine S_pure trivial (O_mv (d := .u (.tup [.int .i64 y20.1, .int .i64 y20.2])) (by kernel_rfl)) ?_
                refine S_pure trivial (O_ex (us := [.int .i64 y20.1, .int .i64 y20.2]) (u := .int .i64 y20.1) (by kernel_rfl) (by kernel_rfl)) ?_
                refine S_pure trivial (O_ex (us := [.int .i64 y20.1, .int .i64 y20.2]) (u := .int .i64 y20.2) (by kernel_rfl) (by kernel_rfl)) ?_
                refine S_pure trivial (O_mv (d := .u (.int .i64 y20.1)) (by kernel_rfl)) ?_
                refine S_pure trivial (O_mv (d := .u (.int .i64 y20.2)) (by kernel_rfl)) ?_
                refine Rs_nil ?_
                refine N_s ?_
                refine R_seq ?_
                refine R_seq ?_
                refine R_reg ?_
                refine S_pure trivial (O_mv (d := .u (.int .i64 y20.2)) (by kernel_rfl)) ?_
                refine S_pure trivial (O_eql (k := .i64) (a := y20.2) (b := 7) (by kernel_rfl) (by kernel_rfl)) ?_
                refine Rs_nil ?_
                refine N_s ?_
                refine R_cond (c := (decide (y20.2 = 7))) (by kernel_rfl) h (fun h => ?_) (fun h => ?_)
                · refine R_seq ?_
                  refine R_reg ?_
                  obtain ⟨y21, hy21, h⟩ := bindS h
                  refine S_pure trivial (O_ca (us := []) (r := .bool y21) (by kernel_rfl) (law07_awake.ok hy21)) ?_
                  refine S_pure trivial (O_mv (d := .u (.bool y21)) (by kernel_rfl)) ?_
                  have K22 : ∀ v23 : Bool, v23 = (y21 && (decide (y20.1 = 0))) → Rs Try.prog 118 (retQ [8] (.bool r)) [.s .ret, .s q_law07_TypesFollowRenaming_4] [⟨some 8, none, .mv (.t 99)⟩] (mkSt [(99, .u (.bool v23))] [] 1) := by
                    intro v23 e; subst e
                    refine S_pure trivial (O_mv (d := .u (.bool ((y21 && (decide (y20.1 = 0)))))) (by kernel_rfl)) ?_
                    refine Rs_nil ?_
                    refine N_s ?_
                    obtain rfl := (Option.some.inj h)
                    refine R_ret ?_
                    exact Q_ret (x := .bool ((y21 && (decide (y20.1 = 0))))) (by kernel_rfl) (.refl _)
                  refine S_case0 (t := 96) (c := y21) (by kernel_rfl) (fun hc => ?_) (fun hc => ?_)
                  · refine S_pure (by show _ = _; kernel_rfl) (O_mv (d := .u (.int .i64 y20.1)) (by kernel_rfl)) ?_
                    refine S_pure (by show _ = _; kernel_rfl) (O_eql (k := .i64) (a := y20.1) (b := 0) (by kernel_rfl) (by kernel_rfl)) ?_
                    refine S_pure trivial (O_pkt (d := .u (.bool ((decide (y20.1 = 0))))) (by kernel_rfl) (by kernel_rfl)) ?_
                    exact Rs_weak (W_to (by kernel_rfl) (by kernel_rfl) (by kernel_rfl)) (K22 _ (by rw [hc] <;> rfl))
                  · refine S_skip (b := false) (by kernel_rfl) rfl ?_
                    refine S_skip (b := false) (by kernel_rfl) rfl ?_
                    refine S_pure trivial (O_pkf (d := .u (.bool false)) (by kernel_rfl) (by kernel_rfl)) ?_
                    exact Rs_weak (W_to (by kernel_rfl) (by kernel_rfl) (by kernel_rfl)) (K22 _ (by rw [hc] <;> rfl))
                · refine R_skip ?_
                  refine N_s ?_
                  refine R_seq ?_
                  refine R_reg ?_
                  refine S_pure trivial (O_mv (d := .u (.sl (List.map ApiTerm.cells y10.1))) (by kernel_rfl)) ?_
                  refine S_pure trivial (O_mv (d := .msl 0 w14.length) (by kernel_rfl)) ?_
                  refine S_pure trivial (O_mv (d := .u (.bool bound_3)) (by kernel_rfl)) ?_
                  obtain ⟨y24, hy24, h⟩ := bindS h
                  refine S_pure trivial (O_caf (ds := [.u (.sl (List.map ApiTerm.cells y10.1)), .msl 0 w14.length, .u (.bool bound_3)]) (us := [.sl (List.map ApiTerm.cells y10.1), .sl (List.map (cInt .i64) w14), .bool bound_3]) (r := .tup [.int .i64 y24.1, .int .i64 y24.2]) (by kernel_rfl) (fz_cons fz_u (fz_cons (fz_msl (s := 1) (c := (cInt .i64)) (li := w14) (by kernel_rfl)) (fz_cons fz_u fz_nil))) (types_Of.ok hy24) rfl) ?_
                  refine S_pure trivial (O_mv (d := .u (.tup [.int .i64 y24.1, .int .i64 y24.2])) (by kernel_rfl)) ?_
                  refine S_pure trivial (O_ex (us := [.int .i64 y24.1, .int .i64 y24.2]) (u := .int .i64 y24.1) (by kernel_rfl) (by kernel_rfl)) ?_
                  refine S_pure trivial (O_ex (us := [.int .i64 y24.1, .int .i64 y24.2]) (u := .int .i64 y24.2) (by kernel_rfl) (by kernel_rfl)) ?_
                  refine S_pure trivial (O_mv (d := .u (.int .i64 y24.1)) (by kernel_rfl)) ?_
                  refine S_pure trivial (O_mv (d := .u (.int .i64 y24.2)) (by kernel_rfl)) ?_
                  refine Rs_nil ?_
                  refine N_s ?_
                  refine R_seq ?_
                  refine R_reg ?_
                  obtain ⟨y25, hy25, h⟩ := bindS h
                  refine S_pure trivial (O_ca (us := []) (r := .bool y25) (by kernel_rfl) (law07_awake.ok hy25)) ?_
                  refine S_pure trivial (O_mv (d := .u (.bool y25)) (by kernel_rfl)) ?_
                  have K26 : ∀ v27 : Bool, v27 = (y25 && (decide (y20.1 = y24.1))) → Rs Try.prog 118 (retQ [8] (.bool r)) [.s .ret] [⟨some 113, none, .mv (.t 112)⟩, ⟨some 114, some (113, true), .mv (.t 15)⟩, ⟨some 115, some (113, true), .mv (.t 17)⟩, ⟨some 116, some (113, true), .bi .eql (.t 114) (.t 115)⟩, ⟨some 117, none, .pk (.t 113) (.t 116) (.c (.bool false))⟩, ⟨some 8, none, .mv (.t 117)⟩] (mkSt [(15, .u (.int .i64 y20.2)), (17, .u (.int .i64 y24.2)), (112, .u (.bool v27))] [] 1) := by
                    intro v27 e; subst e
                    refine S_pure trivial (O_mv (d := .u (.bool ((y25 && (decide (y20.1 = y24.1)))))) (by kernel_rfl)) ?_
                    have K28 : ∀ v29 : Bool, v29 = ((y25 && (decide (y20.1 = y24.1))) && (decide (y20.2 = y24.2))) → Rs Try.prog 118 (retQ [8] (.bool r)) [.s .ret] [⟨some 8, none, .mv (.t 117)⟩] (mkSt [(117, .u (.bool v29))] [] 1) := by
                      intro v29 e; subst e
                      refine S_pure trivial (O_mv (d := .u (.bool (((y25 && (decide (y20.1 = y24.1))) && (decide (y20.2 = y24.2)))))) (by kernel_rfl)) ?_
                      refine Rs_nil ?_
                      refine N_s ?_
                      obtain rfl := (Option.some.inj h)
                      refine R_ret ?_
                      exact Q_ret (x := .bool (((y25 && (decide (y20.1 = y24.1))) && (decide (y20.2 = y24.2))))) (by kernel_rfl) (.refl _)
                    refine S_case0 (t := 113) (c := (y25 && (decide (y20.1 = y24.1)))) (by kernel_rfl) (fun hc => ?_) (fun hc => ?_)
                    · refine S_pure (by show _ = _; kernel_rfl) (O_mv (d := .u (.int .i64 y20.2)) (by kernel_rfl)) ?_
                      refine S_pure (by show _ = _; kernel_rfl) (O_mv (d := .u (.int .i64 y24.2)) (by kernel_rfl)) ?_
                      refine S_pure (by show _ = _; kernel_rfl) (O_eql (k := .i64) (a := y20.2) (b := y24.2) (by kernel_rfl) (by kernel_rfl)) ?_
                      refine S_pure trivial (O_pkt (d := .u (.bool ((decide (y20.2 = y24.2))))) (by kernel_rfl) (by kernel_rfl)) ?_
                      exact Rs_weak (W_to (by kernel_rfl) (by kernel_rfl) (by kernel_rfl)) (K28 _ (by rw [hc] <;> rfl))
                    · refine S_skip (b := false) (by kernel_rfl) rfl ?_
                      refine S_skip (b := false) (by kernel_rfl) rfl ?_
                      refine S_skip (b := false) (by kernel_rfl) rfl ?_
                      refine S_pure trivial (O_pkf (d := .u (.bool false)) (by kernel_rfl) (by kernel_rfl)) ?_
                      exact Rs_weak (W_to (by kernel_rfl) (by kernel_rfl) (by kernel_rfl)) (K28 _ (by rw [hc] <;> rfl))
                  refine S_case0 (t := 108) (c := y25) (by kernel_rfl) (fun hc => ?_) (fun hc => ?_)
                  · refine S_pure (by show _ = _; kernel_rfl) (O_mv (d := .u (.int .i64 y20.1)) (by kernel_rfl)) ?_
                    refine S_pure (by show _ = _; kernel_rfl) (O_mv (d := .u (.int .i64 y24.1)) (by kernel_rfl)) ?_
                    refine S_pure (by show _ = _; kernel_rfl) (O_eql (k := .i64) (a := y20.1) (b := y24.1) (by kernel_rfl) (by kernel_rfl)) ?_
                    refine S_pure trivial (O_pkt (d := .u (.bool ((decide (y20.1 = y24.1))))) (by kernel_rfl) (by kernel_rfl)) ?_
                    exact Rs_weak (W_to (by kernel_rfl) (by kernel_rfl) (by kernel_rfl)) (K26 _ (by rw [hc] <;> rfl))
                  · refine S_skip (b := false) (by kernel_rfl) rfl ?_
                    refine S_skip (b := false) (by kernel_rfl) rfl ?_
                    refine S_skip (b := false) (by kernel_rfl) rfl ?_
                    refine S_pure trivial (O_pkf (d := .u (.bool false)) (by kernel_rfl) (by kernel_rfl)) ?_
                    exact Rs_weak (W_to (by kernel_rfl) (by kernel_rfl) (by kernel_rfl)) (K26 _ (by rw [hc] <;> rfl))
              have K31 : ∀ (w30 : Bool), (Sum.inr w30) = o16 → w30 = r := by
                intro w30 e; subst e
                replace h := elimR h
                exact Option.some.inj h
              refine R_loop (law07_TypesFollowRenaming.l38 kinds_1 m_2 w14) (fun s32 => (mkSt [(0, .u (.sl (List.map ApiTerm.cells e_0))), (1, .u (.sl (List.map (cInt .i64) kinds_1))), (2, .u (.sl (List.map (cInt .i64) m_2))), (3, .u (.bool bound_3)), (9, .u (.sl (List.map ApiTerm.cells y10.1))), (11, .msl 0 w14.length), (13, .u (.int .i64 s32))] [(0, .row 1 (List.map (cInt .i64) w14))] 1)) hE (W_to (by kernel_rfl) (by kernel_rfl) (by kernel_rfl)) ?_
              intro K17 s32 x33 h hK17 hO17
              refine R_seq ?_
              refine R_seq ?_
              refine R_reg ?_
              refine S_pure trivial (O_mv (d := .u (.int .i64 s32)) (by kernel_rfl)) ?_
              refine S_pure trivial (O_mv (d := .u (.sl (List.map (cInt .i64) m_2))) (by kernel_rfl)) ?_
              refine S_pure trivial (O_ln (c := (cInt .i64)) (li := m_2) (by kernel_rfl)) ?_
              refine S_pure trivial (O_lss (k := .i64) (a := s32) (b := (List.length m_2 : Int)) (by kernel_rfl) (by kernel_rfl)) ?_
              refine Rs_nil ?_
              refine N_s ?_
              refine R_cond (c := (decide (s32 < (List.length m_2 : Int)))) (by kernel_rfl) h (fun h => ?_) (fun h => ?_)
              · refine R_skip ?_
                refine N_s ?_
                refine R_seq ?_
                refine R_block ?_
                refine R_seq ?_
                refine R_rgd (show Try.prog.follows .mixedOrders = true from Checked.mixed Try.checked) ?_
                refine Rg_pure 1000 [0] trivial (O_mv (d := .msl 0 w14.length) (by kernel_rfl)) (by kernel_rfl) ?_
                refine Rg_pure 1001 [] trivial (O_mv (d := .u (.sl (List.map (cInt .i64) m_2))) (by kernel_rfl)) (by kernel_rfl) ?_
                refine Rg_pure 1002 [] trivial (O_mv (d := .u (.int .i64 s32)) (by kernel_rfl)) (by kernel_rfl) ?_
                obtain ⟨y34, hy34, h⟩ := bindS h
                refine Rg_pure 1003 [] trivial (O_ia (c := (cInt .i64)) (li := m_2) (i := s32) (k := .i64) (a := y34) (u := (cInt .i64) y34) (by kernel_rfl) (by kernel_rfl) hy34 rfl rfl) (by kernel_rfl) ?_
                refine Rg_pure 1004 [] trivial (O_ldf (cells := (cInt .i64) y34) (off := 0) (u := .int .i64 y34) (by kernel_rfl) (by kernel_rfl)) (by kernel_rfl) ?_
                obtain ⟨y35, hy35, h⟩ := bindS h
                refine Rg_pure 1005 [0] trivial (O_iam (c := (cInt .i64)) (li := w14) (i := y34) (k := .i64) (a := y35) (b := 0) (by kernel_rfl) (by kernel_rfl) (by kernel_rfl) hy35) (by kernel_rfl) ?_
                refine Rg_pure 1006 [0] trivial (O_ldr (b := 0) (s := 1) (off := 0) (c := (cInt .i64)) (li := w14) (i := y34) (u := .int .i64 y35) (by kernel_rfl) (by kernel_rfl) hy35 rfl (by kernel_rfl)) (by kernel_rfl) ?_
                refine Rg_pure 1007 [] trivial (O_mv (d := .u (.sl (List.map (cInt .i64) kinds_1))) (by kernel_rfl)) (by kernel_rfl) ?_
                refine Rg_pure 1008 [] trivial (O_mv (d := .u (.int .i64 s32)) (by kernel_rfl)) (by kernel_rfl) ?_
                obtain ⟨y36, hy36, h⟩ := bindS h
                refine Rg_pure 1009 [] trivial (O_ia (c := (cInt .i64)) (li := kinds_1) (i := s32) (k := .i64) (a := y36) (u := (cInt .i64) y36) (by kernel_rfl) (by kernel_rfl) hy36 rfl rfl) (by kernel_rfl) ?_
                refine Rg_pure 1010 [] trivial (O_ldf (cells := (cInt .i64) y36) (off := 0) (u := .int .i64 y36) (by kernel_rfl) (by kernel_rfl)) (by kernel_rfl) ?_
                refine Rg_pure 1011 [] trivial (O_neq (k := .i64) (a := y35) (b := y36) (by kernel_rfl) (by kernel_rfl)) (by kernel_rfl) ?_
                refine Rg_nil (by kernel_rfl) ?_
                refine N_s ?_
                refine R_cond (c := (!decide (y35 = y36))) (by kernel_rfl) h (fun h => ?_) (fun h => ?_)
                · refine R_seq ?_
                  refine R_reg ?_
                  obtain ⟨y37, hy37, h⟩ := bindS h
                  refine S_pure trivial (O_ca (us := []) (r := .bool y37) (by kernel_rfl) (law07_awake.ok hy37)) ?_
                  refine S_pure trivial (O_mv (d := .u (.bool y37)) (by kernel_rfl)) ?_
                  refine Rs_nil ?_
                  refine N_s ?_
                  obtain rfl := (K31 _ (hO17 _ h))
                  refine R_ret ?_
                  exact Q_ret (x := .bool y37) (by kernel_rfl) (.refl _)
                · refine R_skip ?_
                  refine N_b ?_
                  refine N_s ?_
                  refine R_reg ?_
                  refine S_pure trivial (O_mv (d := .u (.int .i64 s32)) (by kernel_rfl)) ?_
                  refine S_pure trivial (O_add (k := .i64) (a := s32) (b := 1) (by kernel_rfl) (by kernel_rfl)) ?_
                  refine S_pure trivial (O_mv (d := .u (.int .i64 ((IntKind.i64.wrap (s32 + 1))))) (by kernel_rfl)) ?_
                  refine Rs_nil ?_
                  exact N_k (hK17 _ h _ (W_to (by kernel_rfl) (by kernel_rfl) (by kernel_rfl)))
              · refine R_exit ?_
                refine E_s ?_
                refine E_k ?_
                refine E_b ?_
                refine N_s ?_
                exact R_weak (W_to (by kernel_rfl) (by kernel_rfl) (by kernel_rfl)) (K19 _ (hO17 _ h))
            refine R_loop (law07_TypesFollowRenaming.l44 kinds_1 m_2) (fun s39 => (mkSt [(0, .u (.sl (List.map ApiTerm.cells e_0))), (1, .u (.sl (List.map (cInt .i64) kinds_1))), (2, .u (.sl (List.map (cInt .i64) m_2))), (3, .u (.bool bound_3)), (9, .u (.sl (List.map ApiTerm.cells y10.1))), (11, .msl 0 s39.2.length), (12, .u (.int .i64 s39.1))] [(0, .row 1 (List.map (cInt .i64) s39.2))] 1)) hE (W_to (by kernel_rfl) (by kernel_rfl) (by kernel_rfl)) ?_
            intro K13 s39 x40 h hK13 hO13
            refine R_seq ?_
            refine R_seq ?_
            refine R_reg ?_
            refine S_pure trivial (O_mv (d := .u (.int .i64 s39.1)) (by kernel_rfl)) ?_
            refine S_pure trivial (O_mv (d := .u (.sl (List.map (cInt .i64) m_2))) (by kernel_rfl)) ?_
            refine S_pure trivial (O_ln (c := (cInt .i64)) (li := m_2) (by kernel_rfl)) ?_
            refine S_pure trivial (O_lss (k := .i64) (a := s39.1) (b := (List.length m_2 : Int)) (by kernel_rfl) (by kernel_rfl)) ?_
            refine Rs_nil ?_
            refine N_s ?_
            refine R_cond (c := (decide (s39.1 < (List.length m_2 : Int)))) (by kernel_rfl) h (fun h => ?_) (fun h => ?_)
            · refine R_skip ?_
              refine N_s ?_
              refine R_seq ?_
              refine R_block ?_
              refine R_rgd (show Try.prog.follows .mixedOrders = true from Checked.mixed Try.checked) ?_
              refine Rg_pure 1000 [0] trivial (O_mv (d := .msl 0 s39.2.length) (by kernel_rfl)) (by kernel_rfl) ?_
              refine Rg_pure 1001 [] trivial (O_mv (d := .u (.sl (List.map (cInt .i64) m_2))) (by kernel_rfl)) (by kernel_rfl) ?_
              refine Rg_pure 1002 [] trivial (O_mv (d := .u (.int .i64 s39.1)) (by kernel_rfl)) (by kernel_rfl) ?_
              obtain ⟨y41, hy41, h⟩ := bindS h
              refine Rg_pure 1003 [] trivial (O_ia (c := (cInt .i64)) (li := m_2) (i := s39.1) (k := .i64) (a := y41) (u := (cInt .i64) y41) (by kernel_rfl) (by kernel_rfl) hy41 rfl rfl) (by kernel_rfl) ?_
              refine Rg_pure 1004 [] trivial (O_ldf (cells := (cInt .i64) y41) (off := 0) (u := .int .i64 y41) (by kernel_rfl) (by kernel_rfl)) (by kernel_rfl) ?_
              refine Rg_pure 1005 [] trivial (O_mv (d := .u (.sl (List.map (cInt .i64) kinds_1))) (by kernel_rfl)) (by kernel_rfl) ?_
              refine Rg_pure 1006 [] trivial (O_mv (d := .u (.int .i64 s39.1)) (by kernel_rfl)) (by kernel_rfl) ?_
              obtain ⟨y42, hy42, h⟩ := bindS h
              refine Rg_pure 1007 [] trivial (O_ia (c := (cInt .i64)) (li := kinds_1) (i := s39.1) (k := .i64) (a := y42) (u := (cInt .i64) y42) (by kernel_rfl) (by kernel_rfl) hy42 rfl rfl) (by kernel_rfl) ?_
              refine Rg_pure 1008 [] trivial (O_ldf (cells := (cInt .i64) y42) (off := 0) (u := .int .i64 y42) (by kernel_rfl) (by kernel_rfl)) (by kernel_rfl) ?_
              obtain ⟨y43, hy43, h⟩ := bindS h
              refine Rg_pure 1009 [0] trivial (O_iam (c := (cInt .i64)) (li := s39.2) (i := y41) (k := .i64) (a := y43) (b := 0) (by kernel_rfl) (by kernel_rfl) (by kernel_rfl) hy43) (by kernel_rfl) ?_
              refine Rg_set 1010 [0] trivial (O_str (c := (cInt .i64)) (li := s39.2) (i := y41) (a := y43) (a' := y42) (b := 0) (s := 1) (off := 0) (d := .u (.int .i64 y42)) (xs := [.u (.int .i64 y42)]) (us := [.int .i64 y42]) (by kernel_rfl) (by kernel_rfl) (by kernel_rfl) (by kernel_rfl) (by kernel_rfl) hy43 (by kernel_rfl) (by kernel_rfl)) (by kernel_rfl) ?_
              refine Rg_re (t := 57) (d := .msl 0 (List.set s39.2 (Int.toNat y41) y42).length) (re_len (m := s39.2.length) (by kernel_rfl) List.length_set.symm) ?_
              refine Rg_re (t := 11) (d := .msl 0 (List.set s39.2 (Int.toNat y41) y42).length) (re_len (m := s39.2.length) (by kernel_rfl) List.length_set.symm) ?_
              refine Rg_nil (by kernel_rfl) ?_
              refine N_b ?_
              refine N_s ?_
              refine R_reg ?_
              refine S_pure trivial (O_mv (d := .u (.int .i64 s39.1)) (by kernel_rfl)) ?_
              refine S_pure trivial (O_add (k := .i64) (a := s39.1) (b := 1) (by kernel_rfl) (by kernel_rfl)) ?_
              refine S_pure trivial (O_mv (d := .u (.int .i64 ((IntKind.i64.wrap (s39.1 + 1))))) (by kernel_rfl)) ?_
              refine Rs_nil ?_
              exact N_k (hK13 _ h _ (W_to (by kernel_rfl) (by kernel_rfl) (by kernel_rfl)))
            · refine R_exit ?_
              refine E_s ?_
              refine E_k ?_
              refine E_b ?_
              refine N_s ?_
              exact R_weak (W_to (by kernel_rfl) (by kernel_rfl) (by kernel_rfl)) (K15 _ (hO13 _ h))
      replace h := hE
      refine S_case (t := 33) (c := (((!y1) || (decide (6 < (List.length kinds_1 : Int)))) || (!decide ((List.length m_2 : Int) = (List.length kinds_1 : Int))))) (by kernel_rfl) h (fun hc h => ?_) (fun hc h => ?_)
      · refine S_skip (b := true) (by kernel_rfl) rfl ?_
        refine S_skip (b := true) (by kernel_rfl) rfl ?_
        refine S_skip (b := true) (by kernel_rfl) rfl ?_
        refine S_skip (b := true) (by kernel_rfl) rfl ?_
        refine S_skip (b := true) (by kernel_rfl) rfl ?_
        refine S_pure trivial (O_pkt (d := .u (.bool true)) (by kernel_rfl) (by kernel_rfl)) ?_
        obtain rfl := Option.some.inj h
        exact Rs_weak (W_to (by kernel_rfl) (by kernel_rfl) (by kernel_rfl)) K6
      · refine S_pure (by show _ = _; kernel_rfl) (O_mv (d := .u (.sl (List.map ApiTerm.cells e_0))) (by kernel_rfl)) ?_
        refine S_pure (by show _ = _; kernel_rfl) (O_mv (d := .u (.sl (List.map (cInt .i64) kinds_1))) (by kernel_rfl)) ?_
        refine S_pure (by show _ = _; kernel_rfl) (O_ln (c := (cInt .i64)) (li := kinds_1) (by kernel_rfl)) ?_
        obtain ⟨y45, hy45, h⟩ := bindS h
        refine S_pure (by show _ = _; kernel_rfl) (O_ca (us := [.sl (List.map ApiTerm.cells e_0), .int .i64 ((List.length kinds_1 : Int))]) (r := .bool y45) (by kernel_rfl) (ref05_Valid.ok hy45)) ?_
        refine S_pure (by show _ = _; kernel_rfl) (O_not (b := y45) (by kernel_rfl)) ?_
        refine S_pure trivial (O_pkf (d := .u (.bool ((!y45)))) (by kernel_rfl) (by kernel_rfl)) ?_
        obtain rfl := Option.some.inj h
        exact Rs_weak (W_to (by kernel_rfl) (by kernel_rfl) (by kernel_rfl)) K6
    refine S_case0 (t := 26) (c := ((!y1) || (decide (6 < (List.length kinds_1 : Int))))) (by kernel_rfl) (fun hc => ?_) (fun hc => ?_)
    · refine S_skip (b := true) (by kernel_rfl) rfl ?_
      refine S_skip (b := true) (by kernel_rfl) rfl ?_
      refine S_skip (b := true) (by kernel_rfl) rfl ?_
      refine S_skip (b := true) (by kernel_rfl) rfl ?_
      refine S_skip (b := true) (by kernel_rfl) rfl ?_
      refine S_pure trivial (O_pkt (d := .u (.bool true)) (by kernel_rfl) (by kernel_rfl)) ?_
      exact Rs_weak (W_to (by kernel_rfl) (by kernel_rfl) (by kernel_rfl)) (K4 _ (by rw [hc] <;> rfl))
    · refine S_pure (by show _ = _; kernel_rfl) (O_mv (d := .u (.sl (List.map (cInt .i64) m_2))) (by kernel_rfl)) ?_
      refine S_pure (by show _ = _; kernel_rfl) (O_ln (c := (cInt .i64)) (li := m_2) (by kernel_rfl)) ?_
      refine S_pure (by show _ = _; kernel_rfl) (O_mv (d := .u (.sl (List.map (cInt .i64) kinds_1))) (by kernel_rfl)) ?_
      refine S_pure (by show _ = _; kernel_rfl) (O_ln (c := (cInt .i64)) (li := kinds_1) (by kernel_rfl)) ?_
      refine S_pure (by show _ = _; kernel_rfl) (O_neq (k := .i64) (a := (List.length m_2 : Int)) (b := (List.length kinds_1 : Int)) (by kernel_rfl) (by kernel_rfl)) ?_
      refine S_pure trivial (O_pkf (d := .u (.bool ((!decide ((List.length m_2 : Int) = (List.length kinds_1 : Int)))))) (by kernel_rfl) (by kernel_rfl)) ?_
      exact Rs_weak (W_to (by kernel_rfl) (by kernel_rfl) (by kernel_rfl)) (K4 _ (by rw [hc] <;> rfl))
  refine S_case0 (t := 21) (c := (!y1)) (by kernel_rfl) (fun hc => ?_) (fun hc => ?_)
  · refine S_skip (b := true) (by kernel_rfl) rfl ?_
    refine S_skip (b := true) (by kernel_rfl) rfl ?_
    refine S_skip (b := true) (by kernel_rfl) rfl ?_
    refine S_pure trivial (O_pkt (d := .u (.bool true)) (by kernel_rfl) (by kernel_rfl)) ?_
    exact Rs_weak (W_to (by kernel_rfl) (by kernel_rfl) (by kernel_rfl)) (K2 _ (by rw [hc] <;> rfl))
  · refine S_pure (by show _ = _; kernel_rfl) (O_mv (d := .u (.sl (List.map (cInt .i64) kinds_1))) (by kernel_rfl)) ?_
    refine S_pure (by show _ = _; kernel_rfl) (O_ln (c := (cInt .i64)) (li := kinds_1) (by kernel_rfl)) ?_
    refine S_pure (by show _ = _; kernel_rfl) (O_gtr (k := .i64) (a := (List.length kinds_1 : Int)) (b := 6) (by kernel_rfl) (by kernel_rfl)) ?_
    refine S_pure trivial (O_pkf (d := .u (.bool ((decide (6 < (List.length kinds_1 : Int)))))) (by kernel_rfl) (by kernel_rfl)) ?_
    exact Rs_weak (W_to (by kernel_rfl) (by kernel_rfl) (by kernel_rfl)) (K2 _ (by rw [hc] <;> rfl))

end Go.Proofs.Ytkpghgnbbfpbmaa
