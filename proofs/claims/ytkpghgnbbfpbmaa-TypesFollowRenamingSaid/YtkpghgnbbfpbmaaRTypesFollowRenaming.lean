/- The law TypesFollowRenaming returns true for every input, and its arguments read behind the call as they read before. Conditions: none. -/
import Derived.Test.YtkpghgnbbfpbmaaPp
import Derived.Test.YtkpghgnbbfpbmaaDr
import Derived.Test.YtkpghgnbbfpbmaaRows
set_option linter.unusedVariables false
set_option maxRecDepth 100000
namespace Go.Proofs.Ytkpghgnbbfpbmaa.typesFollowRenaming
open Go.ChangeShapes Go.WideShapes Go.ChangeAt Go.RowKit
theorem rd_ApiTerm : Rd Try.prog 40 ApiTerm.cells ApiTerm.V := Rd_struct (l := [(3, 1), (3, 1)]) Try.underlying40 (.cons (Rd_int Try.underlying3) (.cons (Rd_int Try.underlying3) .nil)) (by kernel_rfl) (by kernel_rfl) (fun p => ⟨p.1, p.2.1⟩) (fun _ => rfl) (fun _ h => ⟨h.1, h.2.1⟩)
theorem own : ownKnob Try.prog.godebug = none := by kernel_rfl
theorem laidOut : laidOutB Try.prog = true := by kernel_rfl
theorem lifted (os : Os) (started : os.Started) (H : Type) (enc : TypeId × Value → H) :
    ReturnsInHanded {} Try.checked os 11 .any (Rows.typesFollowRenamingSpec.pre6 enc Try.prog Try.f11 Rows.typesFollowRenamingRow.domain false) (Rows.typesFollowRenamingSpec.post enc Try.prog Try.f11 false true false false) := by
  refine returnsInHanded_of_change_sized (C := Try.checked) own started (by kernel_rfl) Try.func11
    (ChangeSpec.witness6 (enc := enc) (C := Try.checked) false ⟨#[], #[.slice none 0 0, .slice none 0 0, .slice none 0 0, .bool false], []⟩ 8 (by kernel_rfl) (by kernel_rfl) (by kernel_rfl) (by kernel_rfl)) ?_
  intro W base args ds gs before hval0 hW hcnd hsz0 _
  have hval : ∀ (j : Nat) t v, Try.f11.params[j]? = some t → args[j]? = some v → Value.okWide Try.prog W .any base t v := hval0
  have hW' := hW
  obtain ⟨p, q, hA0, hV, rfl, hfz, hnd⟩ := hW
  have hA : DataW.TrodAll enc Try.prog W 0 (fun _ => true) true Try.f11.params.toList args.toList ds p := hA0
  rw [Try.params11] at hA hval
  obtain ⟨v0, vs0, d0, ds0, p0, q0, hargs, rfl, rfl, h0, r0⟩ := trodAll_cons hA
  obtain ⟨v1, vs1, d1, ds1, p1, q1, rfl, rfl, rfl, h1, r1⟩ := trodAll_cons r0
  obtain ⟨v2, vs2, d2, ds2, p2, q2, rfl, rfl, rfl, h2, r2⟩ := trodAll_cons r1
  obtain ⟨v3, vs3, d3, ds3, p3, q3, rfl, rfl, rfl, h3, r3⟩ := trodAll_cons r2
  obtain ⟨rfl, rfl, rfl⟩ := trodAll_nil r3
  obtain rfl : args = #[v0, v1, v2, v3] := by cases args; simp_all
  obtain ⟨rfl, rfl⟩ := trodVars_none hV
  obtain ⟨a0, w0, u0⟩ := arg_one (Rd_slice Try.underlying34 rd_ApiTerm (fun _ => by kernel_rfl) (by decide +kernel)) h0 (f := fun x => .sl (List.map ApiTerm.cells x)) (fun _ => rfl) (one_sl Try.underlying34 (hval 0 34 v0 rfl rfl))
  have lt0 : ∀ x ∈ p0, x.block < W.heap.size := by obtain ⟨m, hm⟩ := h0; exact DataW.trod_lt m _ _ _ hm
  obtain ⟨a1, w1, u1⟩ := arg_one (Rd_slice Try.underlying22 (Rd_int Try.underlying3) (fun _ => by kernel_rfl) (by decide +kernel)) h1 (f := fun x => .sl (List.map (cInt .i64) x)) (fun _ => rfl) (one_sl Try.underlying22 (hval 1 22 v1 rfl rfl))
  have lt1 : ∀ x ∈ p1, x.block < W.heap.size := by obtain ⟨m, hm⟩ := h1; exact DataW.trod_lt m _ _ _ hm
  obtain ⟨a2, w2, u2⟩ := arg_one (Rd_slice Try.underlying22 (Rd_int Try.underlying3) (fun _ => by kernel_rfl) (by decide +kernel)) h2 (f := fun x => .sl (List.map (cInt .i64) x)) (fun _ => rfl) (one_sl Try.underlying22 (hval 2 22 v2 rfl rfl))
  have lt2 : ∀ x ∈ p2, x.block < W.heap.size := by obtain ⟨m, hm⟩ := h2; exact DataW.trod_lt m _ _ _ hm
  obtain ⟨a3, w3, u3⟩ := arg_one (Rd_bool Try.underlying4) h3 (f := fun x => .bool x) (fun _ => rfl) (one_bool Try.underlying4 (hval 3 4 v3 rfl rfl))
  have lt3 : ∀ x ∈ p3, x.block < W.heap.size := by obtain ⟨m, hm⟩ := h3; exact DataW.trod_lt m _ _ _ hm
  clear hA0 hval0 hsz0
  have hp := law07_TypesFollowRenaming.ok (pure_TypesFollowRenaming a0 a1 a2 a3 w0 w1 w2 w3)
  refine (PC.true_calls hp (w := W) (vs := [v0, v1, v2, v3]) rfl (rels_cons u0 (rels_cons u1 (rels_cons u2 (rels_cons u3 rels_nil))))).mono fun e W' ⟨he, bel⟩ => ?_
  subst he
  exact ⟨_, rfl, _, _, _, [], _, [], hW', trodAll_mk1 (shut_bool Try.underlying4 _), (trodAll_cons_mk (Below.trod laidOut (by kernel_rfl) (of_decide_eq_true (by kernel_rfl)) h0 bel lt0) (trodAll_cons_mk (Below.trod laidOut (by kernel_rfl) (of_decide_eq_true (by kernel_rfl)) h1 bel lt1) (trodAll_cons_mk (Below.trod laidOut (by kernel_rfl) (of_decide_eq_true (by kernel_rfl)) h2 bel lt2) (trodAll_cons_mk (Below.trod laidOut (by kernel_rfl) (of_decide_eq_true (by kernel_rfl)) h3 bel lt3) trodAll_mk0)))), rfl, bel.frame _, fun h => by cases h⟩
theorem over : Rows.typesFollowRenamingRow.holds Try.pinned (OpenSpec.ofChange Rows.typesFollowRenamingSpec) :=
  OpenClaim.holds_of_wide 11 Try.f11 rfl rfl rfl rfl rfl rfl rfl ⟨rfl, rfl, rfl, rfl, rfl⟩ rfl rfl rfl rfl rfl (by kernel_rfl) Try.func11 (by kernel_rfl)
    (of_decide_eq_true (by kernel_rfl)) (by unfold Func.isWrapper; first | (rw [if_pos (by decide +kernel)]; kernel_rfl) | (rw [if_neg (by decide +kernel)]; exact ⟨rfl, rfl⟩))
    (fun os started H enc _ => lifted os started H enc)
end Go.Proofs.Ytkpghgnbbfpbmaa.typesFollowRenaming
namespace Go.Proofs.Ytkpghgnbbfpbmaa
/-- The row, under a short name, for the claim. -/
theorem typesFollowRenaming_holds : Rows.TypesFollowRenamingSaid := typesFollowRenaming.over
end Go.Proofs.Ytkpghgnbbfpbmaa
#print axioms Go.Proofs.Ytkpghgnbbfpbmaa.typesFollowRenaming_holds
