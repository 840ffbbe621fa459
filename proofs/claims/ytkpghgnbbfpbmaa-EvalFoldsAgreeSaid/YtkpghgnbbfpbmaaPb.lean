/- Plain laws of layer 11: unary and binary operations. -/
import Derived.Test.YtkpghgnbbfpbmaaPa
set_option linter.unusedSimpArgs false
set_option linter.unusedVariables false
namespace Go.Proofs.Ytkpghgnbbfpbmaa

def In30 (x : Int) : Prop := -1073741824 ≤ x ∧ x ≤ 1073741824
theorem okN_iff (x : Int) : okN x = true ↔ In30 x := by simp [okN, In30]
theorem sat_in (x : Int) : In30 (satI x) := by unfold In30 satI; omega
theorem sat_id {x : Int} (h : In30 x) : satI x = x := by unfold In30 at h; unfold satI; omega
theorem ref_sat (x : Int) : ref11_Saturate x = some (satI x) := by simp [ref11_Saturate, satI]; omega
theorem itp_sat (x : Int) : interp_saturated x = some (satI x) := rfl
def b01 (b : Bool) : Int := if b then 1 else 0
theorem itp_truth (b : Bool) : interp_truth b = some (b01 b) := by cases b <;> rfl
theorem ref_truth (b : Bool) : ref11_truth b = some (b01 b) := by cases b <;> rfl
theorem b01_in (b : Bool) : In30 (b01 b) := by cases b <;> simp [b01, In30]
theorem sat0 : satI 0 = 0 := by decide

def quot (a b : Int) : Int := if b = 0 then 0 else if a.tmod b ≠ 0 ∧ decide (a < 0) ≠ decide (b < 0) then a.tdiv b - 1 else a.tdiv b
theorem tmod_facts (a b : Int) (hb : b ≠ 0) : b * a.tdiv b + a.tmod b = a ∧ (a.tmod b).natAbs < b.natAbs ∧ (0 ≤ a → 0 ≤ a.tmod b) ∧ (a < 0 → a.tmod b ≤ 0) ∧ (a.tdiv b).natAbs ≤ a.natAbs := by
  refine ⟨Int.mul_tdiv_add_tmod a b, ?_, fun h => Int.tmod_nonneg b h, fun h => ?_, Int.natAbs_tdiv_le_natAbs a b⟩
  · rw [Int.natAbs_tmod]; exact Nat.mod_lt _ (by omega)
  · have := Int.tmod_nonneg b (a := -a) (by omega)
    rw [Int.neg_tmod] at this; omega
theorem quot_spec (a b : Int) (hb : b ≠ 0) : (0 < b → 0 ≤ a - b * quot a b ∧ a - b * quot a b < b) ∧ (b < 0 → a - b * quot a b ≤ 0 ∧ b < a - b * quot a b) := by
  obtain ⟨h1, h2, h3, h4, _⟩ := tmod_facts a b hb
  unfold quot
  rw [if_neg hb]
  by_cases hc : a.tmod b ≠ 0 ∧ decide (a < 0) ≠ decide (b < 0)
  · rw [if_pos hc, Int.mul_sub, Int.mul_one]
    obtain ⟨h5, h6⟩ := hc
    by_cases ha : a < 0 <;> by_cases hb' : b < 0 <;> simp [ha, hb'] at h6
    · constructor <;> intro h <;> omega
    · constructor <;> intro h <;> omega
  · rw [if_neg hc]
    have hc' : a.tmod b = 0 ∨ decide (a < 0) = decide (b < 0) := by
      by_cases h : a.tmod b = 0
      · exact .inl h
      · right
        by_cases h' : decide (a < 0) = decide (b < 0)
        · exact h'
        · exact absurd ⟨h, h'⟩ hc
    rcases hc' with h5 | h5
    · rw [h5] at h1; constructor <;> intro h <;> omega
    · by_cases ha : a < 0 <;> by_cases hb' : b < 0 <;> simp [ha, hb'] at h5
      · constructor <;> intro h <;> omega
      · constructor <;> intro h <;> omega
theorem quot_in (a b : Int) (ha : In30 a) : In30 (quot a b) := by
  unfold In30 at *
  by_cases hb : b = 0
  · simp [quot, hb]
  · obtain ⟨_, h2, _, _, h5⟩ := tmod_facts a b hb
    unfold quot; rw [if_neg hb]
    split
    · rename_i hc
      have hb2 : 2 ≤ b.natAbs := by omega
      have h6 : (a.tdiv b).natAbs = a.natAbs / b.natAbs := Int.natAbs_tdiv a b
      have h7 : a.natAbs / b.natAbs ≤ a.natAbs / 2 := Nat.div_le_div_left hb2 (by omega)
      omega
    · omega
theorem quot_bd (a b : Int) (ha : In30 a) : -1073741825 ≤ quot a b ∧ quot a b ≤ 1073741824 := by
  have := quot_in a b ha; unfold In30 at this; omega
theorem itp_quot (a b : Int) (ha : In30 a) : interp_quotient a b = some (quot a b) := by
  unfold interp_quotient
  by_cases hb : b = 0
  · simp [hb, quot]
  · obtain ⟨_, _, _, _, h5⟩ := tmod_facts a b hb
    have ha' := ha; unfold In30 at ha'
    have e1 : IntKind.i64.wrap (a.tdiv b) = a.tdiv b := wr (by omega) (by omega)
    have e2 : IntKind.i64.wrap (a.tdiv b - 1) = a.tdiv b - 1 := wr (by omega) (by omega)
    have hne : (!decide (b = 0)) = true := by simp [hb]
    simp only [hb, decide_false, cond_false, Bool.not_false, cond_true, e1, e2]
    unfold quot
    rw [if_neg hb]
    by_cases h : a.tmod b ≠ 0 ∧ decide (a < 0) ≠ decide (b < 0)
    · rw [if_pos h, show (!decide (a.tmod b = 0) && !decide (decide (a < 0) = decide (b < 0))) = true by simpa using h]; rfl
    · rw [if_neg h, show (!decide (a.tmod b = 0) && !decide (decide (a < 0) = decide (b < 0))) = false by
        rw [← Bool.not_eq_true]; simpa using h]; rfl
theorem ref_quot (a b : Int) (ha : In30 a) : ref11_quotient a b = some (quot a b) := itp_quot a b ha

def modI (a b : Int) : Int := if b = 0 then 0 else a - b * quot a b
theorem mod_in (a b : Int) (hb : In30 b) : In30 (modI a b) := by
  unfold In30 at *; unfold modI
  by_cases h : b = 0
  · simp [h]
  · rw [if_neg h]
    have := quot_spec a b h
    rcases Int.lt_or_gt_of_ne h with h' | h'
    · have := this.2 h'; omega
    · have := this.1 h'; omega
theorem mul_bd {a b : Int} (ha : In30 a) (hb : -1073741825 ≤ b ∧ b ≤ 1073741824) : -1152921505680588800 ≤ a * b ∧ a * b ≤ 1152921505680588800 := by
  unfold In30 at ha
  have h : (a * b).natAbs ≤ 1073741824 * 1073741825 := by
    rw [Int.natAbs_mul]; exact Nat.mul_le_mul (by omega) (by omega)
  omega
/-- The exact result of a binary operation. -/
def opI (op a b : Int) : Int :=
  if op = 30 then a * b else if op = 31 then quot a b else if op = 32 then modI a b else if op = 33 then a + b else if op = 34 then a - b
  else if op = 35 then b01 (decide (a = b)) else if op = 36 then b01 (!decide (a = b)) else if op = 37 then b01 (decide (a < b)) else if op = 38 then b01 (decide (a ≤ b))
  else if op = 39 then b01 (decide (b < a)) else if op = 40 then b01 (decide (b ≤ a)) else if op = 41 then b01 (!decide (a = 0) && !decide (b = 0)) else b01 (!decide (a = 0) || !decide (b = 0))
theorem itp_binary (op a b : Int) (ha : In30 a) (hb : In30 b) : interp_Binary op a b = some (satI (opI op a b)) := by
  have hb' : -1073741825 ≤ b ∧ b ≤ 1073741824 := by unfold In30 at hb; omega
  have hm := mul_bd ha hb'
  have hq := quot_bd a b ha
  have hm2 := mul_bd hb hq
  have hmod := mod_in a b hb
  have ha' := ha; have hb2 := hb; unfold In30 at ha' hb2
  unfold interp_Binary opI
  by_cases h30 : op = 30
  · subst h30; simp [itp_sat, wr (n := a * b) (by omega) (by omega)]
  by_cases h31 : op = 31
  · subst h31; simp [itp_quot a b ha, itp_sat]
  by_cases h32 : op = 32
  · subst h32
    by_cases hz : b = 0
    · simp [hz, modI, sat0]
    · have e1 : IntKind.i64.wrap (b * quot a b) = b * quot a b := wr (by omega) (by omega)
      have e2 : IntKind.i64.wrap (a - b * quot a b) = a - b * quot a b := wr (by omega) (by omega)
      rw [sat_id (by simpa using hmod)]
      simp [hz, itp_quot a b ha, e1, e2, modI]
  by_cases h33 : op = 33
  · subst h33; simp [itp_sat, wr (n := a + b) (by omega) (by omega)]
  by_cases h34 : op = 34
  · subst h34; simp [itp_sat, wr (n := a - b) (by omega) (by omega)]
  have s : ∀ c, satI (b01 c) = b01 c := fun c => sat_id (b01_in c)
  by_cases h35 : op = 35
  · subst h35; simp [itp_truth, s]
  by_cases h36 : op = 36
  · subst h36; simp [itp_truth, s]
  by_cases h37 : op = 37
  · subst h37; simp [itp_truth, s]
  by_cases h38 : op = 38
  · subst h38; simp [itp_truth, s]
  by_cases h39 : op = 39
  · subst h39; simp [itp_truth, s]
  by_cases h40 : op = 40
  · subst h40; simp [itp_truth, s]
  by_cases h41 : op = 41
  · subst h41; simp [itp_truth, s]
  simp [h30, h31, h32, h33, h34, h35, h36, h37, h38, h39, h40, h41, itp_truth, s]
theorem ref_apply (op a b : Int) (ha : In30 a) (hb : In30 b) : ref11_apply op a b = some (opI op a b) := by
  have hb' : -1073741825 ≤ b ∧ b ≤ 1073741824 := by unfold In30 at hb; omega
  have hm := mul_bd ha hb'
  have hq := quot_bd a b ha
  have hm2 := mul_bd hb hq
  have hmod := mod_in a b hb
  have ha' := ha; have hb2 := hb; unfold In30 at ha' hb2
  unfold ref11_apply opI
  by_cases h30 : op = 30
  · subst h30; simp [wr (n := a * b) (by omega) (by omega)]
  by_cases h31 : op = 31
  · subst h31; simp [ref_quot a b ha]
  by_cases h32 : op = 32
  · subst h32
    by_cases hz : b = 0
    · simp [hz, modI]
    · have e1 : IntKind.i64.wrap (b * quot a b) = b * quot a b := wr (by omega) (by omega)
      have e2 : IntKind.i64.wrap (a - b * quot a b) = a - b * quot a b := wr (by omega) (by omega)
      simp [hz, ref_quot a b ha, e1, e2, modI]
  by_cases h33 : op = 33
  · subst h33; simp [wr (n := a + b) (by omega) (by omega)]
  by_cases h34 : op = 34
  · subst h34; simp [wr (n := a - b) (by omega) (by omega)]
  by_cases h35 : op = 35
  · subst h35; simp [ref_truth]
  by_cases h36 : op = 36
  · subst h36; simp [ref_truth]
  by_cases h37 : op = 37
  · subst h37; simp [ref_truth]
  by_cases h38 : op = 38
  · subst h38; simp [ref_truth]
  by_cases h39 : op = 39
  · subst h39; simp [ref_truth]
  by_cases h40 : op = 40
  · subst h40; simp [ref_truth]
  by_cases h41 : op = 41
  · subst h41; simp [ref_truth]
  simp [h30, h31, h32, h33, h34, h35, h36, h37, h38, h39, h40, h41, ref_truth]
def binR (op a b : Int) : Int × Int := if op < 30 ∨ 42 < op then (0, 2) else if okN a && okN b then (satI (opI op a b), 0) else (0, 2)
theorem eval_Binary_eq (op a b : Int) : eval_Binary op a b = some (binR op a b) := by
  unfold eval_Binary binR
  by_cases h1 : op < 30 ∨ 42 < op
  · rw [if_pos h1, show (decide (op < 30) || decide (42 < op)) = true by simpa using h1]; rfl
  · rw [if_neg h1, show (decide (op < 30) || decide (42 < op)) = false by simpa using h1]
    simp only [cond_false, small_eq [a, b] (by simp), Option.bind_some, List.all_cons, List.all_nil, Bool.and_true]
    cases h2 : (okN a && okN b) with
    | true =>
      simp only [Bool.and_eq_true, okN_iff] at h2
      simp [itp_binary op a b h2.1 h2.2]
    | false => simp
theorem ref_Number_eq (a : Int) : ref11_Number a = some (okN a) := rfl
theorem ref_Binary_eq (op a b : Int) : ref11_Binary op a b = some (binR op a b) := by
  unfold ref11_Binary binR
  by_cases h1 : op < 30 ∨ 42 < op
  · rw [if_pos h1, show (decide (op < 30) || decide (42 < op)) = true by simpa using h1]; rfl
  · rw [if_neg h1, show (decide (op < 30) || decide (42 < op)) = false by simpa using h1]
    simp only [cond_false, ref_Number_eq, Option.bind_some]
    cases ha : okN a <;> cases hb : okN b <;> simp
    rw [ref_apply op a b ((okN_iff a).1 ha) ((okN_iff b).1 hb)]
    simp [ref_sat]
def unR (op a : Int) : Int × Int := if op ≠ 18 ∧ op ≠ 19 then (0, 2) else if okN a then ((if op = 18 then -a else b01 (decide (a = 0))), 0) else (0, 2)
theorem eval_Unary_eq (op a : Int) : eval_Unary op a = some (unR op a) := by
  unfold eval_Unary unR
  by_cases h1 : op ≠ 18 ∧ op ≠ 19
  · rw [if_pos h1, show (!decide (op = 18) && !decide (op = 19)) = true by simpa using h1]; rfl
  · rw [if_neg h1, show (!decide (op = 18) && !decide (op = 19)) = false by rw [← Bool.not_eq_true]; simpa using h1]
    simp only [cond_false, small_eq [a] (by simp), Option.bind_some, List.all_cons, List.all_nil, Bool.and_true]
    cases ha : okN a with
    | false => simp
    | true =>
      have := (okN_iff a).1 ha; unfold In30 at this
      unfold interp_Unary
      by_cases h : op = 18
      · simp [h]; rw [wr] <;> omega
      · simp [h, itp_truth]
theorem ref_Unary_eq (op a : Int) : ref11_Unary op a = some (unR op a) := by
  unfold ref11_Unary unR
  by_cases h1 : op ≠ 18 ∧ op ≠ 19
  · rw [if_pos h1, show (!decide (op = 18) && !decide (op = 19)) = true by simpa using h1]; rfl
  · rw [if_neg h1, show (!decide (op = 18) && !decide (op = 19)) = false by rw [← Bool.not_eq_true]; simpa using h1]
    simp only [cond_false, ref_Number_eq, Option.bind_some]
    cases ha : okN a with
    | false => simp
    | true =>
      have := (okN_iff a).1 ha; unfold In30 at this
      by_cases h : op = 18
      · simp [h]; rw [wr] <;> omega
      · simp [h, ref_truth]

theorem awake_eq : law11_awake = some true := by
  unfold law11_awake
  rw [eval_Binary_eq, eval_Fold_eq _ _ (by simp)]
  decide
theorem pure_EvalFolds (op : Int) (l : List Int) (h1 : VInt .i64 op) (h2 : VSl (VInt .i64) l) : law11_EvalFolds op l = some true := by
  unfold law11_EvalFolds
  rw [awake_eq, eval_Fold_eq op l h2.1, ref_Fold_eq op l h2.1]
  by_cases h : (40 : Int) < l.length <;> simp [h]
theorem pure_EvalApplies (op a b : Int) (h1 : VInt .i64 op) (h2 : VInt .i64 a) (h3 : VInt .i64 b) : law11_EvalApplies op a b = some true := by
  unfold law11_EvalApplies
  rw [awake_eq, eval_Binary_eq, ref_Binary_eq, eval_Unary_eq, ref_Unary_eq]
  simp
theorem binR_in {op a b : Int} (h1 : 30 ≤ op) (h2 : op ≤ 42) (ha : In30 a) (hb : In30 b) : binR op a b = (satI (opI op a b), 0) := by
  unfold binR
  rw [if_neg (by omega), if_pos (by simp [okN_iff, ha, hb])]
theorem unR_in {op a : Int} (h1 : op = 18 ∨ op = 19) (ha : In30 a) : unR op a = ((if op = 18 then -a else b01 (decide (a = 0))), 0) := by
  unfold unR
  rw [if_neg (by omega), if_pos ((okN_iff a).2 ha)]
theorem pure_EvalDivides (a b : Int) (h1 : VInt .i64 a) (h2 : VInt .i64 b) : law11_EvalDivides a b = some true := by
  unfold law11_EvalDivides
  rw [ref_sat, ref_sat]
  have ha := sat_in a; have hb := sat_in b
  generalize satI a = a at ha ⊢
  generalize satI b = b at hb ⊢
  simp only [Option.bind_some, eval_Binary_eq, awake_eq]
  rw [binR_in (by omega) (by omega) ha hb, binR_in (by omega) (by omega) ha hb]
  have e1 : opI 31 a b = quot a b := by simp [opI]
  have e2 : opI 32 a b = modI a b := by simp [opI]
  rw [e1, e2, sat_id (mod_in a b hb)]
  by_cases hz : b = 0
  · subst hz; simp [quot, modI, sat0]
  · have hq := quot_spec a b hz
    have hqb := quot_bd a b ha
    have hmm := mod_in a b hb
    have ha' := ha; have hb' := hb
    unfold In30 at ha' hb' hmm
    have em : modI a b = a - b * quot a b := by simp [modI, hz]
    rw [sat_id (quot_in a b ha)]
    have hmul := mul_bd hb (show -1073741825 ≤ quot a b ∧ quot a b ≤ 1073741824 by omega)
    have hmul' : quot a b * b = b * quot a b := Int.mul_comm _ _
    have w1 : IntKind.i64.wrap (quot a b * b) = quot a b * b := wr (by omega) (by omega)
    have w2 : IntKind.i64.wrap (quot a b * b + modI a b) = a := by rw [wr (by omega) (by omega)]; omega
    simp only [w1, w2, hz, decide_false, cond_false, Option.bind_some, Bool.true_and, decide_true, Bool.not_true, Bool.or_self]
    rcases Int.lt_or_gt_of_ne hz with h | h
    · have := hq.2 h
      have h3 : modI a b ≤ 0 := by omega
      have h4 : b < modI a b := by omega
      simp [h, h3, h4]
    · have := hq.1 h
      have h3 : 0 ≤ modI a b := by omega
      have h4 : modI a b < b := by omega
      simp [h, h3, h4]
theorem made_mod13 (k : Int) : ∃ m, made_Mod k 13 = some m ∧ 0 ≤ m ∧ m < 13 := by
  unfold made_Mod
  have h1 : (k.tmod 13).natAbs < 13 := by rw [Int.natAbs_tmod]; exact Nat.mod_lt _ (by decide)
  by_cases h : k.tmod 13 < 0
  · refine ⟨k.tmod 13 + 13, ?_, by omega, by omega⟩
    simp [h]; rw [wr] <;> omega
  · exact ⟨k.tmod 13, by simp [h], by omega, by omega⟩
theorem pure_EvalSaturates (op a b : Int) (h1 : VInt .i64 op) (h2 : VInt .i64 a) (h3 : VInt .i64 b) : law11_EvalSaturates op a b = some true := by
  unfold law11_EvalSaturates
  rw [ref_sat, ref_sat]
  obtain ⟨m, hm, hm1, hm2⟩ := made_mod13 op
  rw [hm]
  have ha := sat_in a; have hb := sat_in b
  generalize satI a = a at ha ⊢
  generalize satI b = b at hb ⊢
  have hnb : In30 (-b) := by unfold In30 at *; omega
  simp only [Option.bind_some, eval_Binary_eq, eval_Unary_eq, awake_eq, ref_Number_eq]
  rw [wr (n := 30 + m) (by omega) (by omega), binR_in (by omega) (by omega) ha hb, binR_in (by omega) (by omega) ha hb, binR_in (by omega) (by omega) hb ha, binR_in (by omega) (by omega) ha hb, unR_in (.inl rfl) hb]
  simp only [if_true]
  rw [binR_in (by omega) (by omega) hnb ha]
  have e1 : opI 30 a b = opI 30 b a := by simp [opI, Int.mul_comm]
  have e2 : opI 34 a b = opI 33 (-b) a := by simp [opI]; omega
  rw [e1, e2]
  have k1 := (okN_iff _).2 (sat_in (opI (30 + m) a b))
  have k2 := (okN_iff _).2 (sat_in (opI 30 b a))
  simp [k1, k2]
theorem pure_EvalCompares (a b : Int) (h1 : VInt .i64 a) (h2 : VInt .i64 b) : law11_EvalCompares a b = some true := by
  unfold law11_EvalCompares
  rw [ref_sat, ref_sat]
  have ha := sat_in a; have hb := sat_in b
  generalize satI a = a at ha ⊢
  generalize satI b = b at hb ⊢
  simp only [Option.bind_some, eval_Binary_eq, eval_Unary_eq, awake_eq]
  rw [binR_in (by omega) (by omega) ha hb, binR_in (by omega) (by omega) ha hb, binR_in (by omega) (by omega) ha hb, binR_in (by omega) (by omega) ha hb, binR_in (by omega) (by omega) ha hb, binR_in (by omega) (by omega) ha hb, binR_in (by omega) (by omega) ha hb, unR_in (.inr rfl) ha, unR_in (.inr rfl) hb]
  simp only [show ((19 : Int) = 18) = False by simp, if_false]
  rw [binR_in (by omega) (by omega) (b01_in _) (b01_in _)]
  have s : ∀ c, satI (b01 c) = b01 c := fun c => sat_id (b01_in c)
  have w : ∀ c d, IntKind.i64.wrap (b01 c + b01 d) = b01 c + b01 d := by intro c d; cases c <;> cases d <;> decide
  have e : opI 37 a b = b01 (decide (a < b)) ∧ opI 35 a b = b01 (decide (a = b)) ∧ opI 39 a b = b01 (decide (b < a)) ∧ opI 40 a b = b01 (decide (b ≤ a)) ∧ opI 38 a b = b01 (decide (a ≤ b)) ∧ opI 36 a b = b01 (!decide (a = b)) ∧ opI 41 a b = b01 (!decide (a = 0) && !decide (b = 0)) ∧
      ∀ x y, opI 42 x y = b01 (!decide (x = 0) || !decide (y = 0)) := by simp [opI]
  obtain ⟨e1, e2, e3, e4, e5, e6, e7, e8⟩ := e
  rw [e1, e2, e3, e4, e5, e6, e7, e8]
  simp only [s, w]
  have hao : IntKind.i64.wrap (b01 (!decide (a = 0) && !decide (b = 0)) + b01 (!decide (b01 (decide (a = 0)) = 0) || !decide (b01 (decide (b = 0)) = 0))) = 1 := by
    by_cases ha0 : a = 0 <;> by_cases hb0 : b = 0 <;> simp [ha0, hb0, b01] <;> decide
  have w1 : ∀ c d e, IntKind.i64.wrap (b01 c + b01 d + b01 e) = b01 c + b01 d + b01 e := by intro c d e; cases c <;> cases d <;> cases e <;> decide
  have w2 : ∀ c d, IntKind.i64.wrap (b01 c + b01 d) = b01 c + b01 d := w
  rcases Int.lt_trichotomy a b with h | h | h
  · have f1 : decide (a < b) = true := by simpa using h
    have f2 : decide (a = b) = false := by simp; omega
    have f3 : decide (b < a) = false := by simp; omega
    have f4 : decide (b ≤ a) = false := by simp; omega
    have f5 : decide (a ≤ b) = true := by simp; omega
    rw [f1, f2, f3, f4, f5]
    simp only [w1, w2] at hao ⊢
    simp only [hao]
    decide
  · subst h
    have f1 : decide (a < a) = false := by simp
    have f2 : decide (a = a) = true := by simp
    have f4 : decide (a ≤ a) = true := by simp
    rw [f1, f2, f4]
    simp only [w1, w2] at hao ⊢
    simp only [hao]
    decide
  · have f1 : decide (a < b) = false := by simp; omega
    have f2 : decide (a = b) = false := by simp; omega
    have f3 : decide (b < a) = true := by simpa using h
    have f4 : decide (b ≤ a) = true := by simp; omega
    have f5 : decide (a ≤ b) = false := by simp; omega
    rw [f1, f2, f3, f4, f5]
    simp only [w1, w2] at hao ⊢
    simp only [hao]
    decide
end Go.Proofs.Ytkpghgnbbfpbmaa
