/- The law EvalFoldsAgree returns true for every input, and its arguments read behind the call as they read before. Conditions: none. -/
import Derived.Test.YtkpghgnbbfpbmaaPe
import Derived.Test.YtkpghgnbbfpbmaaDr
import Derived.Test.YtkpghgnbbfpbmaaRows
set_option linter.unusedVariables false
set_option maxRecDepth 100000
namespace Go.Proofs.Ytkpghgnbbfpbmaa.evalFoldsAgree
open Go.ChangeShapes Go.WideShapes Go.ChangeAt Go.RowKit
theorem own : ownKnob Try.prog.godebug = none := by kernel_rfl
theorem laidOut : laidOutB Try.prog = true := by kernel_rfl
theorem lifted (os : Os) (started : os.Started) (H : Type) (enc : TypeId × Value → H) :
    ReturnsInHanded {} Try.checked os 6 .any (Rows.evalFoldsAgreeSpec.pre6 enc Try.prog Try.f6 Rows.evalFoldsAgreeRow.domain false) (Rows.evalFoldsAgreeSpec.post enc Try.prog Try.f6 false true false false) := by
  refine returnsInHanded_of_change_sized (C := Try.checked) own started (by kernel_rfl) Try.func6
    (ChangeSpec.witness6 (enc := enc) (C := Try.checked) false ⟨#[], #[.slice none 0 0], []⟩ 8 (by kernel_rfl) (by kernel_rfl) (by kernel_rfl) (by kernel_rfl)) ?_
  intro W base args ds gs before hval0 hW hcnd hsz0 _
  have hval : ∀ (j : Nat) t v, Try.f6.params[j]? = some t → args[j]? = some v → Value.okWide Try.prog W .any base t v := hval0
  have hW' := hW
  obtain ⟨p, q, hA0, hV, rfl, hfz, hnd⟩ := hW
  have hA : DataW.TrodAll enc Try.prog W 0 (fun _ => true) true Try.f6.params.toList args.toList ds p := hA0
  rw [Try.params6] at hA hval
  obtain ⟨v0, vs0, d0, ds0, p0, q0, hargs, rfl, rfl, h0, r0⟩ := trodAll_cons hA
  obtain ⟨rfl, rfl, rfl⟩ := trodAll_nil r0
  obtain rfl : args = #[v0] := by cases args; simp_all
  obtain ⟨rfl, rfl⟩ := trodVars_none hV
  obtain ⟨a0, w0, u0⟩ := arg_one (Rd_slice Try.underlying22 (Rd_int Try.underlying3) (fun _ => by kernel_rfl) (by decide +kernel)) h0 (f := fun x => .sl (List.map (cInt .i64) x)) (fun _ => rfl) (one_sl Try.underlying22 (hval 0 22 v0 rfl rfl))
  have lt0 : ∀ x ∈ p0, x.block < W.heap.size := by obtain ⟨m, hm⟩ := h0; exact DataW.trod_lt m _ _ _ hm
  clear hA0 hval0 hsz0
  have hp := law11_EvalFoldsAgree.ok (pure_EvalFoldsAgree a0 w0)
  refine (PC.true_calls hp (w := W) (vs := [v0]) rfl (rels_cons u0 rels_nil)).mono fun e W' ⟨he, bel⟩ => ?_
  subst he
  exact ⟨_, rfl, _, _, _, [], _, [], hW', trodAll_mk1 (shut_bool Try.underlying4 _), (trodAll_cons_mk (Below.trod laidOut (by kernel_rfl) (of_decide_eq_true (by kernel_rfl)) h0 bel lt0) trodAll_mk0), rfl, bel.frame _, fun h => by cases h⟩
theorem over : Rows.evalFoldsAgreeRow.holds Try.pinned (OpenSpec.ofChange Rows.evalFoldsAgreeSpec) :=
  OpenClaim.holds_of_wide 6 Try.f6 rfl rfl rfl rfl rfl rfl rfl ⟨rfl, rfl, rfl, rfl, rfl⟩ rfl rfl rfl rfl rfl (by kernel_rfl) Try.func6 (by kernel_rfl)
    (of_decide_eq_true (by kernel_rfl)) (by unfold Func.isWrapper; first | (rw [if_pos (by decide +kernel)]; kernel_rfl) | (rw [if_neg (by decide +kernel)]; exact ⟨rfl, rfl⟩))
    (fun os started H enc _ => lifted os started H enc)
end Go.Proofs.Ytkpghgnbbfpbmaa.evalFoldsAgree
namespace Go.Proofs.Ytkpghgnbbfpbmaa
/-- The row, under a short name, for the claim. -/
theorem evalFoldsAgree_holds : Rows.EvalFoldsAgreeSaid := evalFoldsAgree.over
end Go.Proofs.Ytkpghgnbbfpbmaa
#print axioms Go.Proofs.Ytkpghgnbbfpbmaa.evalFoldsAgree_holds
