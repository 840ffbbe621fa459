/-
  No cell of these rows narrows 'for every input' (looked for: loops, veiled, ifaces, maps, wideKeys, modest, calm, conditions, laid).
  DERIVED. THE GIVEN ROWS OF THIS SEAT. 15 by the template 'for every input the law returns true; each argument reads behind the call as it read before'; 0 by the template 'total and deterministic' (their statements: YtkpghgnbbfpbmaaTotals.lean).
  GIVEN WITH THE SEED: the statements are not yours to turn. If you find one false, say at which input.
  Laid BY PROGRAM, IN A SANDBOX (cutbox-rows.mjs): the forced cells as the released guide's own fill.sh prints them over the translation 1373eae806bd128e… (all of the seat's roots in one cut). By AI agents, Wed Nov 11 2026. No macro, syntax, notation, axiom, sorry.
-/
import Derived.Test.YtkpghgnbbfpbmaaChecked
import GoSem.Claim
import GoSem.ClaimJoined
import GoSem.ClaimMapViews
import Derived.JoinedTies
import Derived.KernelRfl
namespace Go.Proofs.Ytkpghgnbbfpbmaa
/- THE CELL 'sum', in the pinned program and in every row, IS THE sha256 OF THE DUMP (.gsa) THAT YtkpghgnbbfpbmaaProg.lean LOADS. Nothing in Lean hashes anything: it is a label: what it is worth is what the hold of that sum in a sandbox is worth. -/
noncomputable def Try.pinned : Pinned := { name := "ytkpghgnbbfpbmaa", sum := "1373eae806bd128e68e8740e5088e7ce7f10ea1c04da0d51c979ce05374d4c93", checked := Try.checked }
namespace Rows
def none {H : Type} : Left H := { results := [], args := [] }

/-- 'selfstablaw11.EvalFolds': WHATEVER THE INPUT: true; the input reads as it did. -/
def evalFoldsSpec : ChangeSpec := { name := "evalFolds", fn := fun _ => fun
  | [d1, d2] => { results := [.lit (.bool true)], args := [d1, d2] }
  | _ => none }
def evalFoldsRow : OpenClaim := { program := "ytkpghgnbbfpbmaa", sum := "1373eae806bd128e68e8740e5088e7ce7f10ea1c04da0d51c979ce05374d4c93", func := "selfstab/selfstablaw11.EvalFolds", spec := "evalFolds", unfollowed := true, recurses := true, apart := false }
def EvalFoldsSaid : Prop := evalFoldsRow.holds Try.pinned (OpenSpec.ofChange evalFoldsSpec)

/-- ITS FALSE NEIGHBOUR: 'it returns false'. Refute it at one input. -/
def evalFoldsWrong : ChangeSpec := { name := "evalFolds", fn := fun _ => fun
  | [d1, d2] => { results := [.lit (.bool false)], args := [d1, d2] }
  | _ => none }
def EvalFoldsWrongFalsely : Prop := evalFoldsRow.holds Try.pinned (OpenSpec.ofChange evalFoldsWrong)

/-- 'selfstablaw11.EvalDivides': WHATEVER THE INPUT: true; the input reads as it did. -/
def evalDividesSpec : ChangeSpec := { name := "evalDivides", fn := fun _ => fun
  | [d1, d2] => { results := [.lit (.bool true)], args := [d1, d2] }
  | _ => none }
def evalDividesRow : OpenClaim := { program := "ytkpghgnbbfpbmaa", sum := "1373eae806bd128e68e8740e5088e7ce7f10ea1c04da0d51c979ce05374d4c93", func := "selfstab/selfstablaw11.EvalDivides", spec := "evalDivides", unfollowed := true, recurses := true, apart := false }
def EvalDividesSaid : Prop := evalDividesRow.holds Try.pinned (OpenSpec.ofChange evalDividesSpec)

/-- ITS FALSE NEIGHBOUR: 'it returns false'. Refute it at one input. -/
def evalDividesWrong : ChangeSpec := { name := "evalDivides", fn := fun _ => fun
  | [d1, d2] => { results := [.lit (.bool false)], args := [d1, d2] }
  | _ => none }
def EvalDividesWrongFalsely : Prop := evalDividesRow.holds Try.pinned (OpenSpec.ofChange evalDividesWrong)

/-- 'selfstablaw11.EvalFoldsInAnyOrder': WHATEVER THE INPUT: true; the input reads as it did. -/
def evalFoldsInAnyOrderSpec : ChangeSpec := { name := "evalFoldsInAnyOrder", fn := fun _ => fun
  | [d1, d2, d3, d4] => { results := [.lit (.bool true)], args := [d1, d2, d3, d4] }
  | _ => none }
def evalFoldsInAnyOrderRow : OpenClaim := { program := "ytkpghgnbbfpbmaa", sum := "1373eae806bd128e68e8740e5088e7ce7f10ea1c04da0d51c979ce05374d4c93", func := "selfstab/selfstablaw11.EvalFoldsInAnyOrder", spec := "evalFoldsInAnyOrder", unfollowed := true, recurses := true, apart := false }
def EvalFoldsInAnyOrderSaid : Prop := evalFoldsInAnyOrderRow.holds Try.pinned (OpenSpec.ofChange evalFoldsInAnyOrderSpec)

/-- ITS FALSE NEIGHBOUR: 'it returns false'. Refute it at one input. -/
def evalFoldsInAnyOrderWrong : ChangeSpec := { name := "evalFoldsInAnyOrder", fn := fun _ => fun
  | [d1, d2, d3, d4] => { results := [.lit (.bool false)], args := [d1, d2, d3, d4] }
  | _ => none }
def EvalFoldsInAnyOrderWrongFalsely : Prop := evalFoldsInAnyOrderRow.holds Try.pinned (OpenSpec.ofChange evalFoldsInAnyOrderWrong)

/-- 'selfstablaw11.EvalFoldsAgree': WHATEVER THE INPUT: true; the input reads as it did. -/
def evalFoldsAgreeSpec : ChangeSpec := { name := "evalFoldsAgree", fn := fun _ => fun
  | [d] => { results := [.lit (.bool true)], args := [d] }
  | _ => none }
def evalFoldsAgreeRow : OpenClaim := { program := "ytkpghgnbbfpbmaa", sum := "1373eae806bd128e68e8740e5088e7ce7f10ea1c04da0d51c979ce05374d4c93", func := "selfstab/selfstablaw11.EvalFoldsAgree", spec := "evalFoldsAgree", unfollowed := true, recurses := true, apart := false }
def EvalFoldsAgreeSaid : Prop := evalFoldsAgreeRow.holds Try.pinned (OpenSpec.ofChange evalFoldsAgreeSpec)

/-- ITS FALSE NEIGHBOUR: 'it returns false'. Refute it at one input. -/
def evalFoldsAgreeWrong : ChangeSpec := { name := "evalFoldsAgree", fn := fun _ => fun
  | [d] => { results := [.lit (.bool false)], args := [d] }
  | _ => none }
def EvalFoldsAgreeWrongFalsely : Prop := evalFoldsAgreeRow.holds Try.pinned (OpenSpec.ofChange evalFoldsAgreeWrong)

/-- 'selfstablaw07.TypesFind': WHATEVER THE INPUT: true; the input reads as it did. -/
def typesFindSpec : ChangeSpec := { name := "typesFind", fn := fun _ => fun
  | [d1, d2, d3] => { results := [.lit (.bool true)], args := [d1, d2, d3] }
  | _ => none }
def typesFindRow : OpenClaim := { program := "ytkpghgnbbfpbmaa", sum := "1373eae806bd128e68e8740e5088e7ce7f10ea1c04da0d51c979ce05374d4c93", func := "selfstab/selfstablaw07.TypesFind", spec := "typesFind", unfollowed := true, recurses := true, apart := false }
def TypesFindSaid : Prop := typesFindRow.holds Try.pinned (OpenSpec.ofChange typesFindSpec)

/-- ITS FALSE NEIGHBOUR: 'it returns false'. Refute it at one input. -/
def typesFindWrong : ChangeSpec := { name := "typesFind", fn := fun _ => fun
  | [d1, d2, d3] => { results := [.lit (.bool false)], args := [d1, d2, d3] }
  | _ => none }
def TypesFindWrongFalsely : Prop := typesFindRow.holds Try.pinned (OpenSpec.ofChange typesFindWrong)

/-- 'selfstablaw07.TypesOfParts': WHATEVER THE INPUT: true; the input reads as it did. -/
def typesOfPartsSpec : ChangeSpec := { name := "typesOfParts", fn := fun _ => fun
  | [d1, d2, d3] => { results := [.lit (.bool true)], args := [d1, d2, d3] }
  | _ => none }
def typesOfPartsRow : OpenClaim := { program := "ytkpghgnbbfpbmaa", sum := "1373eae806bd128e68e8740e5088e7ce7f10ea1c04da0d51c979ce05374d4c93", func := "selfstab/selfstablaw07.TypesOfParts", spec := "typesOfParts", unfollowed := true, recurses := true, apart := false }
def TypesOfPartsSaid : Prop := typesOfPartsRow.holds Try.pinned (OpenSpec.ofChange typesOfPartsSpec)

/-- ITS FALSE NEIGHBOUR: 'it returns false'. Refute it at one input. -/
def typesOfPartsWrong : ChangeSpec := { name := "typesOfParts", fn := fun _ => fun
  | [d1, d2, d3] => { results := [.lit (.bool false)], args := [d1, d2, d3] }
  | _ => none }
def TypesOfPartsWrongFalsely : Prop := typesOfPartsRow.holds Try.pinned (OpenSpec.ofChange typesOfPartsWrong)

/-- 'selfstablaw07.TypesKeepWithABound': WHATEVER THE INPUT: true; the input reads as it did. -/
def typesKeepWithABoundSpec : ChangeSpec := { name := "typesKeepWithABound", fn := fun _ => fun
  | [d1, d2] => { results := [.lit (.bool true)], args := [d1, d2] }
  | _ => none }
def typesKeepWithABoundRow : OpenClaim := { program := "ytkpghgnbbfpbmaa", sum := "1373eae806bd128e68e8740e5088e7ce7f10ea1c04da0d51c979ce05374d4c93", func := "selfstab/selfstablaw07.TypesKeepWithABound", spec := "typesKeepWithABound", unfollowed := true, recurses := true, apart := false }
def TypesKeepWithABoundSaid : Prop := typesKeepWithABoundRow.holds Try.pinned (OpenSpec.ofChange typesKeepWithABoundSpec)

/-- ITS FALSE NEIGHBOUR: 'it returns false'. Refute it at one input. -/
def typesKeepWithABoundWrong : ChangeSpec := { name := "typesKeepWithABound", fn := fun _ => fun
  | [d1, d2] => { results := [.lit (.bool false)], args := [d1, d2] }
  | _ => none }
def TypesKeepWithABoundWrongFalsely : Prop := typesKeepWithABoundRow.holds Try.pinned (OpenSpec.ofChange typesKeepWithABoundWrong)

/-- 'selfstablaw07.TypesIgnoreNumbers': WHATEVER THE INPUT: true; the input reads as it did. -/
def typesIgnoreNumbersSpec : ChangeSpec := { name := "typesIgnoreNumbers", fn := fun _ => fun
  | [d1, d2, d3, d4] => { results := [.lit (.bool true)], args := [d1, d2, d3, d4] }
  | _ => none }
def typesIgnoreNumbersRow : OpenClaim := { program := "ytkpghgnbbfpbmaa", sum := "1373eae806bd128e68e8740e5088e7ce7f10ea1c04da0d51c979ce05374d4c93", func := "selfstab/selfstablaw07.TypesIgnoreNumbers", spec := "typesIgnoreNumbers", unfollowed := true, recurses := true, apart := false }
def TypesIgnoreNumbersSaid : Prop := typesIgnoreNumbersRow.holds Try.pinned (OpenSpec.ofChange typesIgnoreNumbersSpec)

/-- ITS FALSE NEIGHBOUR: 'it returns false'. Refute it at one input. -/
def typesIgnoreNumbersWrong : ChangeSpec := { name := "typesIgnoreNumbers", fn := fun _ => fun
  | [d1, d2, d3, d4] => { results := [.lit (.bool false)], args := [d1, d2, d3, d4] }
  | _ => none }
def TypesIgnoreNumbersWrongFalsely : Prop := typesIgnoreNumbersRow.holds Try.pinned (OpenSpec.ofChange typesIgnoreNumbersWrong)

/-- 'selfstablaw07.TypesFollowRenaming': WHATEVER THE INPUT: true; the input reads as it did. -/
def typesFollowRenamingSpec : ChangeSpec := { name := "typesFollowRenaming", fn := fun _ => fun
  | [d1, d2, d3, d4] => { results := [.lit (.bool true)], args := [d1, d2, d3, d4] }
  | _ => none }
def typesFollowRenamingRow : OpenClaim := { program := "ytkpghgnbbfpbmaa", sum := "1373eae806bd128e68e8740e5088e7ce7f10ea1c04da0d51c979ce05374d4c93", func := "selfstab/selfstablaw07.TypesFollowRenaming", spec := "typesFollowRenaming", unfollowed := true, recurses := true, apart := false }
def TypesFollowRenamingSaid : Prop := typesFollowRenamingRow.holds Try.pinned (OpenSpec.ofChange typesFollowRenamingSpec)

/-- ITS FALSE NEIGHBOUR: 'it returns false'. Refute it at one input. -/
def typesFollowRenamingWrong : ChangeSpec := { name := "typesFollowRenaming", fn := fun _ => fun
  | [d1, d2, d3, d4] => { results := [.lit (.bool false)], args := [d1, d2, d3, d4] }
  | _ => none }
def TypesFollowRenamingWrongFalsely : Prop := typesFollowRenamingRow.holds Try.pinned (OpenSpec.ofChange typesFollowRenamingWrong)

/-- 'selfstablaw11.EvalApplies': WHATEVER THE INPUT: true; the input reads as it did. -/
def evalAppliesSpec : ChangeSpec := { name := "evalApplies", fn := fun _ => fun
  | [d1, d2, d3] => { results := [.lit (.bool true)], args := [d1, d2, d3] }
  | _ => none }
def evalAppliesRow : OpenClaim := { program := "ytkpghgnbbfpbmaa", sum := "1373eae806bd128e68e8740e5088e7ce7f10ea1c04da0d51c979ce05374d4c93", func := "selfstab/selfstablaw11.EvalApplies", spec := "evalApplies", unfollowed := true, recurses := true, apart := false }
def EvalAppliesSaid : Prop := evalAppliesRow.holds Try.pinned (OpenSpec.ofChange evalAppliesSpec)

/-- ITS FALSE NEIGHBOUR: 'it returns false'. Refute it at one input. -/
def evalAppliesWrong : ChangeSpec := { name := "evalApplies", fn := fun _ => fun
  | [d1, d2, d3] => { results := [.lit (.bool false)], args := [d1, d2, d3] }
  | _ => none }
def EvalAppliesWrongFalsely : Prop := evalAppliesRow.holds Try.pinned (OpenSpec.ofChange evalAppliesWrong)

/-- 'selfstablaw11.EvalSaturates': WHATEVER THE INPUT: true; the input reads as it did. -/
def evalSaturatesSpec : ChangeSpec := { name := "evalSaturates", fn := fun _ => fun
  | [d1, d2, d3] => { results := [.lit (.bool true)], args := [d1, d2, d3] }
  | _ => none }
def evalSaturatesRow : OpenClaim := { program := "ytkpghgnbbfpbmaa", sum := "1373eae806bd128e68e8740e5088e7ce7f10ea1c04da0d51c979ce05374d4c93", func := "selfstab/selfstablaw11.EvalSaturates", spec := "evalSaturates", unfollowed := true, recurses := true, apart := false }
def EvalSaturatesSaid : Prop := evalSaturatesRow.holds Try.pinned (OpenSpec.ofChange evalSaturatesSpec)

/-- ITS FALSE NEIGHBOUR: 'it returns false'. Refute it at one input. -/
def evalSaturatesWrong : ChangeSpec := { name := "evalSaturates", fn := fun _ => fun
  | [d1, d2, d3] => { results := [.lit (.bool false)], args := [d1, d2, d3] }
  | _ => none }
def EvalSaturatesWrongFalsely : Prop := evalSaturatesRow.holds Try.pinned (OpenSpec.ofChange evalSaturatesWrong)

/-- 'selfstablaw11.EvalCompares': WHATEVER THE INPUT: true; the input reads as it did. -/
def evalComparesSpec : ChangeSpec := { name := "evalCompares", fn := fun _ => fun
  | [d1, d2] => { results := [.lit (.bool true)], args := [d1, d2] }
  | _ => none }
def evalComparesRow : OpenClaim := { program := "ytkpghgnbbfpbmaa", sum := "1373eae806bd128e68e8740e5088e7ce7f10ea1c04da0d51c979ce05374d4c93", func := "selfstab/selfstablaw11.EvalCompares", spec := "evalCompares", unfollowed := true, recurses := true, apart := false }
def EvalComparesSaid : Prop := evalComparesRow.holds Try.pinned (OpenSpec.ofChange evalComparesSpec)

/-- ITS FALSE NEIGHBOUR: 'it returns false'. Refute it at one input. -/
def evalComparesWrong : ChangeSpec := { name := "evalCompares", fn := fun _ => fun
  | [d1, d2] => { results := [.lit (.bool false)], args := [d1, d2] }
  | _ => none }
def EvalComparesWrongFalsely : Prop := evalComparesRow.holds Try.pinned (OpenSpec.ofChange evalComparesWrong)

/-- 'selfstablaw07.TypesRefuseChanges': WHATEVER THE INPUT: true; the input reads as it did. -/
def typesRefuseChangesSpec : ChangeSpec := { name := "typesRefuseChanges", fn := fun _ => fun
  | [d1, d2] => { results := [.lit (.bool true)], args := [d1, d2] }
  | _ => none }
def typesRefuseChangesRow : OpenClaim := { program := "ytkpghgnbbfpbmaa", sum := "1373eae806bd128e68e8740e5088e7ce7f10ea1c04da0d51c979ce05374d4c93", func := "selfstab/selfstablaw07.TypesRefuseChanges", spec := "typesRefuseChanges", inPlace := ["internal/bytealg.IndexByteString", "internal/bytealg.IndexString"], unfollowed := true, recurses := true, named := ["internal/bytealg.MaxLen"], apart := false }
def TypesRefuseChangesSaid : Prop := typesRefuseChangesRow.holds Try.pinned (OpenSpec.ofChange typesRefuseChangesSpec)

/-- ITS FALSE NEIGHBOUR: 'it returns false'. Refute it at one input. -/
def typesRefuseChangesWrong : ChangeSpec := { name := "typesRefuseChanges", fn := fun _ => fun
  | [d1, d2] => { results := [.lit (.bool false)], args := [d1, d2] }
  | _ => none }
def TypesRefuseChangesWrongFalsely : Prop := typesRefuseChangesRow.holds Try.pinned (OpenSpec.ofChange typesRefuseChangesWrong)

/-- 'selfstablaw07.TypesCheck': WHATEVER THE INPUT: true; the input reads as it did. -/
def typesCheckSpec : ChangeSpec := { name := "typesCheck", fn := fun _ => fun
  | [d] => { results := [.lit (.bool true)], args := [d] }
  | _ => none }
def typesCheckRow : OpenClaim := { program := "ytkpghgnbbfpbmaa", sum := "1373eae806bd128e68e8740e5088e7ce7f10ea1c04da0d51c979ce05374d4c93", func := "selfstab/selfstablaw07.TypesCheck", spec := "typesCheck", inPlace := ["internal/bytealg.IndexByteString", "internal/bytealg.IndexString"], unfollowed := true, recurses := true, named := ["internal/bytealg.MaxLen"], apart := false }
def TypesCheckSaid : Prop := typesCheckRow.holds Try.pinned (OpenSpec.ofChange typesCheckSpec)

/-- ITS FALSE NEIGHBOUR: 'it returns false'. Refute it at one input. -/
def typesCheckWrong : ChangeSpec := { name := "typesCheck", fn := fun _ => fun
  | [d] => { results := [.lit (.bool false)], args := [d] }
  | _ => none }
def TypesCheckWrongFalsely : Prop := typesCheckRow.holds Try.pinned (OpenSpec.ofChange typesCheckWrong)

/-- 'selfstablaw07.TypesAllowFewerRules': WHATEVER THE INPUT: true; the input reads as it did. -/
def typesAllowFewerRulesSpec : ChangeSpec := { name := "typesAllowFewerRules", fn := fun _ => fun
  | [d1, d2, d3] => { results := [.lit (.bool true)], args := [d1, d2, d3] }
  | _ => none }
def typesAllowFewerRulesRow : OpenClaim := { program := "ytkpghgnbbfpbmaa", sum := "1373eae806bd128e68e8740e5088e7ce7f10ea1c04da0d51c979ce05374d4c93", func := "selfstab/selfstablaw07.TypesAllowFewerRules", spec := "typesAllowFewerRules", inPlace := ["internal/bytealg.IndexByteString", "internal/bytealg.IndexString"], unfollowed := true, recurses := true, named := ["internal/bytealg.MaxLen"], apart := false }
def TypesAllowFewerRulesSaid : Prop := typesAllowFewerRulesRow.holds Try.pinned (OpenSpec.ofChange typesAllowFewerRulesSpec)

/-- ITS FALSE NEIGHBOUR: 'it returns false'. Refute it at one input. -/
def typesAllowFewerRulesWrong : ChangeSpec := { name := "typesAllowFewerRules", fn := fun _ => fun
  | [d1, d2, d3] => { results := [.lit (.bool false)], args := [d1, d2, d3] }
  | _ => none }
def TypesAllowFewerRulesWrongFalsely : Prop := typesAllowFewerRulesRow.holds Try.pinned (OpenSpec.ofChange typesAllowFewerRulesWrong)

/- THE SECOND FORM. 'bulk': how many values and letters a reading holds, each counted each time it is reached (what is shared counts as often as it is met; a slice's spare places count too). A statement '..UptoSaid' is the law's where the arguments, and the package variables that the reading takes, are together of bulk at most 1048576: NARROWER than '..Said'. Prove '..Said' where nothing that the law and all that it calls make is longer than what came in: it says more and counts as full. Else prove '..UptoSaid'. A law counts once. -/
mutual
def uptoBulk {H : Type} : DataW H → Nat
  | .lit (.string bytes) => bytes.length + 1
  | .lit _ => 1
  | .nil => 1
  | .ptr d => uptoBulk d + 1
  | .slice elems spare => uptoBulkAll elems + uptoBulkAll spare + 1
  | .agg parts => uptoBulkAll parts + 1
  | .iface _ d => uptoBulk d + 1
  | .map entries => uptoBulkEntries entries + 1
  | .held _ => 1
def uptoBulkAll {H : Type} : List (DataW H) → Nat
  | [] => 0
  | d :: r => uptoBulk d + uptoBulkAll r
def uptoBulkEntries {H : Type} : List (Lit × DataW H) → Nat
  | [] => 0
  | x :: r => uptoBulkEntry x + uptoBulkEntries r
def uptoBulkEntry {H : Type} : Lit × DataW H → Nat
  | (.string bytes, d) => bytes.length + uptoBulk d + 1
  | (_, d) => uptoBulk d + 1
 end
def uptoSmall : (H : Type) → List (DataW H) → Bool := fun _ ds => decide (uptoBulkAll ds ≤ 1048576)
def OpenSpec.upto (s : _root_.Go.ChangeSpec) : _root_.Go.OpenSpec := { _root_.Go.OpenSpec.ofChange s with cond := some uptoSmall }

/-- 'selfstablaw11.EvalFolds', WHERE WHAT IT READS IS OF BULK AT MOST 1048576: true; the input reads as it did. -/
def evalFoldsUptoRow : OpenClaim := { program := "ytkpghgnbbfpbmaa", sum := "1373eae806bd128e68e8740e5088e7ce7f10ea1c04da0d51c979ce05374d4c93", func := "selfstab/selfstablaw11.EvalFolds", spec := "evalFolds", unfollowed := true, recurses := true, apart := false, narrowed := true }
def EvalFoldsUptoSaid : Prop := evalFoldsUptoRow.holds Try.pinned (OpenSpec.upto evalFoldsSpec)

/-- 'selfstablaw11.EvalDivides', WHERE WHAT IT READS IS OF BULK AT MOST 1048576: true; the input reads as it did. -/
def evalDividesUptoRow : OpenClaim := { program := "ytkpghgnbbfpbmaa", sum := "1373eae806bd128e68e8740e5088e7ce7f10ea1c04da0d51c979ce05374d4c93", func := "selfstab/selfstablaw11.EvalDivides", spec := "evalDivides", unfollowed := true, recurses := true, apart := false, narrowed := true }
def EvalDividesUptoSaid : Prop := evalDividesUptoRow.holds Try.pinned (OpenSpec.upto evalDividesSpec)

/-- 'selfstablaw11.EvalFoldsInAnyOrder', WHERE WHAT IT READS IS OF BULK AT MOST 1048576: true; the input reads as it did. -/
def evalFoldsInAnyOrderUptoRow : OpenClaim := { program := "ytkpghgnbbfpbmaa", sum := "1373eae806bd128e68e8740e5088e7ce7f10ea1c04da0d51c979ce05374d4c93", func := "selfstab/selfstablaw11.EvalFoldsInAnyOrder", spec := "evalFoldsInAnyOrder", unfollowed := true, recurses := true, apart := false, narrowed := true }
def EvalFoldsInAnyOrderUptoSaid : Prop := evalFoldsInAnyOrderUptoRow.holds Try.pinned (OpenSpec.upto evalFoldsInAnyOrderSpec)

/-- 'selfstablaw11.EvalFoldsAgree', WHERE WHAT IT READS IS OF BULK AT MOST 1048576: true; the input reads as it did. -/
def evalFoldsAgreeUptoRow : OpenClaim := { program := "ytkpghgnbbfpbmaa", sum := "1373eae806bd128e68e8740e5088e7ce7f10ea1c04da0d51c979ce05374d4c93", func := "selfstab/selfstablaw11.EvalFoldsAgree", spec := "evalFoldsAgree", unfollowed := true, recurses := true, apart := false, narrowed := true }
def EvalFoldsAgreeUptoSaid : Prop := evalFoldsAgreeUptoRow.holds Try.pinned (OpenSpec.upto evalFoldsAgreeSpec)

/-- 'selfstablaw07.TypesFind', WHERE WHAT IT READS IS OF BULK AT MOST 1048576: true; the input reads as it did. -/
def typesFindUptoRow : OpenClaim := { program := "ytkpghgnbbfpbmaa", sum := "1373eae806bd128e68e8740e5088e7ce7f10ea1c04da0d51c979ce05374d4c93", func := "selfstab/selfstablaw07.TypesFind", spec := "typesFind", unfollowed := true, recurses := true, apart := false, narrowed := true }
def TypesFindUptoSaid : Prop := typesFindUptoRow.holds Try.pinned (OpenSpec.upto typesFindSpec)

/-- 'selfstablaw07.TypesOfParts', WHERE WHAT IT READS IS OF BULK AT MOST 1048576: true; the input reads as it did. -/
def typesOfPartsUptoRow : OpenClaim := { program := "ytkpghgnbbfpbmaa", sum := "1373eae806bd128e68e8740e5088e7ce7f10ea1c04da0d51c979ce05374d4c93", func := "selfstab/selfstablaw07.TypesOfParts", spec := "typesOfParts", unfollowed := true, recurses := true, apart := false, narrowed := true }
def TypesOfPartsUptoSaid : Prop := typesOfPartsUptoRow.holds Try.pinned (OpenSpec.upto typesOfPartsSpec)

/-- 'selfstablaw07.TypesKeepWithABound', WHERE WHAT IT READS IS OF BULK AT MOST 1048576: true; the input reads as it did. -/
def typesKeepWithABoundUptoRow : OpenClaim := { program := "ytkpghgnbbfpbmaa", sum := "1373eae806bd128e68e8740e5088e7ce7f10ea1c04da0d51c979ce05374d4c93", func := "selfstab/selfstablaw07.TypesKeepWithABound", spec := "typesKeepWithABound", unfollowed := true, recurses := true, apart := false, narrowed := true }
def TypesKeepWithABoundUptoSaid : Prop := typesKeepWithABoundUptoRow.holds Try.pinned (OpenSpec.upto typesKeepWithABoundSpec)

/-- 'selfstablaw07.TypesIgnoreNumbers', WHERE WHAT IT READS IS OF BULK AT MOST 1048576: true; the input reads as it did. -/
def typesIgnoreNumbersUptoRow : OpenClaim := { program := "ytkpghgnbbfpbmaa", sum := "1373eae806bd128e68e8740e5088e7ce7f10ea1c04da0d51c979ce05374d4c93", func := "selfstab/selfstablaw07.TypesIgnoreNumbers", spec := "typesIgnoreNumbers", unfollowed := true, recurses := true, apart := false, narrowed := true }
def TypesIgnoreNumbersUptoSaid : Prop := typesIgnoreNumbersUptoRow.holds Try.pinned (OpenSpec.upto typesIgnoreNumbersSpec)

/-- 'selfstablaw07.TypesFollowRenaming', WHERE WHAT IT READS IS OF BULK AT MOST 1048576: true; the input reads as it did. -/
def typesFollowRenamingUptoRow : OpenClaim := { program := "ytkpghgnbbfpbmaa", sum := "1373eae806bd128e68e8740e5088e7ce7f10ea1c04da0d51c979ce05374d4c93", func := "selfstab/selfstablaw07.TypesFollowRenaming", spec := "typesFollowRenaming", unfollowed := true, recurses := true, apart := false, narrowed := true }
def TypesFollowRenamingUptoSaid : Prop := typesFollowRenamingUptoRow.holds Try.pinned (OpenSpec.upto typesFollowRenamingSpec)

/-- 'selfstablaw11.EvalApplies', WHERE WHAT IT READS IS OF BULK AT MOST 1048576: true; the input reads as it did. -/
def evalAppliesUptoRow : OpenClaim := { program := "ytkpghgnbbfpbmaa", sum := "1373eae806bd128e68e8740e5088e7ce7f10ea1c04da0d51c979ce05374d4c93", func := "selfstab/selfstablaw11.EvalApplies", spec := "evalApplies", unfollowed := true, recurses := true, apart := false, narrowed := true }
def EvalAppliesUptoSaid : Prop := evalAppliesUptoRow.holds Try.pinned (OpenSpec.upto evalAppliesSpec)

/-- 'selfstablaw11.EvalSaturates', WHERE WHAT IT READS IS OF BULK AT MOST 1048576: true; the input reads as it did. -/
def evalSaturatesUptoRow : OpenClaim := { program := "ytkpghgnbbfpbmaa", sum := "1373eae806bd128e68e8740e5088e7ce7f10ea1c04da0d51c979ce05374d4c93", func := "selfstab/selfstablaw11.EvalSaturates", spec := "evalSaturates", unfollowed := true, recurses := true, apart := false, narrowed := true }
def EvalSaturatesUptoSaid : Prop := evalSaturatesUptoRow.holds Try.pinned (OpenSpec.upto evalSaturatesSpec)

/-- 'selfstablaw11.EvalCompares', WHERE WHAT IT READS IS OF BULK AT MOST 1048576: true; the input reads as it did. -/
def evalComparesUptoRow : OpenClaim := { program := "ytkpghgnbbfpbmaa", sum := "1373eae806bd128e68e8740e5088e7ce7f10ea1c04da0d51c979ce05374d4c93", func := "selfstab/selfstablaw11.EvalCompares", spec := "evalCompares", unfollowed := true, recurses := true, apart := false, narrowed := true }
def EvalComparesUptoSaid : Prop := evalComparesUptoRow.holds Try.pinned (OpenSpec.upto evalComparesSpec)

/-- 'selfstablaw07.TypesRefuseChanges', WHERE WHAT IT READS IS OF BULK AT MOST 1048576: true; the input reads as it did. -/
def typesRefuseChangesUptoRow : OpenClaim := { program := "ytkpghgnbbfpbmaa", sum := "1373eae806bd128e68e8740e5088e7ce7f10ea1c04da0d51c979ce05374d4c93", func := "selfstab/selfstablaw07.TypesRefuseChanges", spec := "typesRefuseChanges", inPlace := ["internal/bytealg.IndexByteString", "internal/bytealg.IndexString"], unfollowed := true, recurses := true, named := ["internal/bytealg.MaxLen"], apart := false, narrowed := true }
def TypesRefuseChangesUptoSaid : Prop := typesRefuseChangesUptoRow.holds Try.pinned (OpenSpec.upto typesRefuseChangesSpec)

/-- 'selfstablaw07.TypesCheck', WHERE WHAT IT READS IS OF BULK AT MOST 1048576: true; the input reads as it did. -/
def typesCheckUptoRow : OpenClaim := { program := "ytkpghgnbbfpbmaa", sum := "1373eae806bd128e68e8740e5088e7ce7f10ea1c04da0d51c979ce05374d4c93", func := "selfstab/selfstablaw07.TypesCheck", spec := "typesCheck", inPlace := ["internal/bytealg.IndexByteString", "internal/bytealg.IndexString"], unfollowed := true, recurses := true, named := ["internal/bytealg.MaxLen"], apart := false, narrowed := true }
def TypesCheckUptoSaid : Prop := typesCheckUptoRow.holds Try.pinned (OpenSpec.upto typesCheckSpec)

/-- 'selfstablaw07.TypesAllowFewerRules', WHERE WHAT IT READS IS OF BULK AT MOST 1048576: true; the input reads as it did. -/
def typesAllowFewerRulesUptoRow : OpenClaim := { program := "ytkpghgnbbfpbmaa", sum := "1373eae806bd128e68e8740e5088e7ce7f10ea1c04da0d51c979ce05374d4c93", func := "selfstab/selfstablaw07.TypesAllowFewerRules", spec := "typesAllowFewerRules", inPlace := ["internal/bytealg.IndexByteString", "internal/bytealg.IndexString"], unfollowed := true, recurses := true, named := ["internal/bytealg.MaxLen"], apart := false, narrowed := true }
def TypesAllowFewerRulesUptoSaid : Prop := typesAllowFewerRulesUptoRow.holds Try.pinned (OpenSpec.upto typesAllowFewerRulesSpec)

end Rows
end Go.Proofs.Ytkpghgnbbfpbmaa
