/- Trees behind prefix lists of terms: plain Lean. -/
import Derived.Test.YtkpghgnbbfpbmaaL07d
import Derived.Test.YtkpghgnbbfpbmaaDz
set_option linter.unusedSimpArgs false
set_option linter.unusedVariables false
namespace Go.Proofs.Ytkpghgnbbfpbmaa

/-- The number of operands, or -1. -/
def arI (op : Int) : Int := if op < 1 ∨ 43 < op then -1 else if op ≤ 17 then 0 else if op ≤ 29 then 1 else if op ≤ 42 then 2 else 3
theorem arI_bd (op : Int) : -1 ≤ arI op ∧ arI op ≤ 3 := by unfold arI; split <;> (try split) <;> (try split) <;> (try split) <;> omega
theorem arity_eq (op : Int) : term_Arity op = some (arI op) := by
  unfold term_Arity arI
  simp only [← Bool.decide_or, ← Bool.decide_and, Bool.cond_decide]
  repeat' split
  all_goals first | rfl | (exfalso; omega) | omega
theorem arity5_eq (op : Int) : ref05_Arity op = some (arI op) := by
  unfold ref05_Arity arI
  simp only [← Bool.decide_or, ← Bool.decide_and, Bool.cond_decide]
  repeat' split
  all_goals first | rfl | (exfalso; omega) | omega

/-- A forest: the first tree's root, its operands, and the trees behind it. -/
inductive Fo where
  | nil : Fo
  | nd (t : ApiTerm) (c s : Fo) : Fo
namespace Fo
def flat : Fo → List ApiTerm
  | nil => []
  | nd t c s => t :: (c.flat ++ s.flat)
def cnt : Fo → Nat
  | nil => 0
  | nd _ _ s => s.cnt + 1
def wf : Fo → Prop
  | nil => True
  | nd t c s => arI t.Op = (c.cnt : Int) ∧ c.wf ∧ s.wf
def depth : Fo → Nat
  | nil => 0
  | nd _ c s => max (c.depth + 1) s.depth
end Fo
open Fo
theorem Fo.split : ∀ (F : Fo) (a b : Nat), F.wf → F.cnt = a + b → ∃ A B : Fo, A.wf ∧ B.wf ∧ A.cnt = a ∧ B.cnt = b ∧ F.flat = A.flat ++ B.flat
  | nil, a, b, _, h => ⟨nil, nil, trivial, trivial, by simp [cnt] at h ⊢; omega, by simp [cnt] at h ⊢; omega, rfl⟩
  | nd t c s, 0, b, w, h => ⟨nil, nd t c s, trivial, w, rfl, by omega, rfl⟩
  | nd t c s, a + 1, b, w, h => by
    obtain ⟨A, B, h1, h2, h3, h4, h5⟩ := Fo.split s a b w.2.2 (by simp only [cnt] at h; omega)
    exact ⟨nd t c A, B, ⟨w.1, w.2.1, h1⟩, h2, by simp [cnt, h3], h4, by simp [flat, h5]⟩

/-- What is left behind n trees. -/
def endn : Nat → List ApiTerm → Option (List ApiTerm)
  | 0, l => some l
  | _ + 1, [] => none
  | n + 1, t :: l => if arI t.Op < 0 then none else endn (n + (arI t.Op).toNat) l
theorem endn_flat : ∀ (F : Fo) (m : Nat) (l : List ApiTerm), F.wf → endn (F.cnt + m) (F.flat ++ l) = endn m l
  | nil, m, l, _ => by simp [cnt, flat]
  | nd t c s, m, l, w => by
    have h1 := w.1
    have e : (nd t c s).cnt + m = (s.cnt + m) + 1 := by simp only [cnt]; omega
    rw [e]
    show endn (s.cnt + m + 1) (t :: ((c.flat ++ s.flat) ++ l)) = _
    rw [endn, if_neg (by omega), h1, Int.toNat_natCast, List.append_assoc, Nat.add_comm _ c.cnt, endn_flat c _ _ w.2.1, endn_flat s _ _ w.2.2]
theorem endn_some : ∀ (l : List ApiTerm) (n : Nat) (r : List ApiTerm), endn n l = some r → ∃ F : Fo, F.wf ∧ F.cnt = n ∧ l = F.flat ++ r
  | l, 0, r, h => by
    have : l = r := by cases l <;> simpa [endn] using h
    exact ⟨nil, trivial, rfl, by simp [flat, this]⟩
  | [], n + 1, r, h => by simp [endn] at h
  | t :: l, n + 1, r, h => by
    rw [endn] at h
    split at h
    · cases h
    · rename_i hn
      obtain ⟨F, h1, h2, h3⟩ := endn_some l _ r h
      obtain ⟨A, B, g1, g2, g3, g4, g5⟩ := Fo.split F (arI t.Op).toNat n h1 (by omega)
      refine ⟨nd t A B, ⟨by omega, g1, g2⟩, by simp [cnt, g4], ?_⟩
      rw [h3, g5]; simp [flat]

theorem endn_len : ∀ (l : List ApiTerm) (n : Nat) (r : List ApiTerm), endn n l = some r → r.length ≤ l.length
  | l, 0, r, h => by
    have : l = r := by cases l <;> simpa [endn] using h
    rw [this]; exact Nat.le_refl _
  | [], n + 1, r, h => by simp [endn] at h
  | t :: l, n + 1, r, h => by
    rw [endn] at h
    split at h
    · cases h
    · have := endn_len l _ r h
      simp; omega
/-- The place behind the tree at a place. -/
def endI (e : List ApiTerm) (p : Nat) : Int := match endn 1 (e.drop p) with | some r => (e.length : Int) - r.length | none => -1

theorem drop_cons {α : Type} {e : List α} {p : Nat} (h : p < e.length) : e.drop p = e[p] :: e.drop (p + 1) := List.drop_eq_getElem_cons h
theorem End_eq (e : List ApiTerm) (p : Nat) (hp : p ≤ e.length) (hl : e.length ≤ 1000) : term_End e (p : Int) = some (endI e p) := by
  have key : ∃ o, loopO (term_End.l16 e) ((p : Int), (1 : Int)) = some o ∧ Sum.elim (fun (w3 : Int) => some w3) (fun (w5 : Int) => some w5) o = some (endI e p) := by
    refine loop_to (fun s => ∃ q n : Nat, s = ((q : Int), (n : Int)) ∧ q ≤ e.length ∧ n ≤ 1 + 3 * q ∧ endn n (e.drop q) = endn 1 (e.drop p)) (fun s => e.length - s.1.toNat) _ ?_ _ ⟨p, 1, rfl, hp, by omega, rfl⟩
    rintro s ⟨q, n, rfl, hq, hn, he⟩
    unfold term_End.l16
    cases n with
    | zero =>
      refine .inr ⟨.inl (q : Int), by simp, ?_⟩
      have : endn 1 (e.drop p) = some (e.drop q) := by rw [← he]; cases e.drop q <;> rfl
      simp only [Sum.elim_inl, endI, this, List.length_drop]
      congr 1; omega
    | succ n =>
      by_cases hq' : q < e.length
      · have hnl : ¬ ((e.length : Int) ≤ (q : Int)) := by omega
        rw [drop_cons hq'] at he
        have hb := arI_bd e[q].Op
        by_cases ha : arI e[q].Op < 0
        · refine .inr ⟨.inr (-1), by simp [hnl, idx_nat hq', arity_eq, ha], ?_⟩
          rw [endn, if_pos ha] at he
          simp [endI, ← he]
        · refine .inl ⟨_, by simp [hnl, idx_nat hq', arity_eq, ha]; rfl, ⟨q + 1, n + (arI e[q].Op).toNat, ?_, by omega, by omega, ?_⟩, ?_⟩
          · rw [wr (n := arI e[q].Op - 1) (by omega) (by omega), wr (by omega) (by omega), wr (by omega) (by omega)]
            simp only [Prod.mk.injEq]; omega
          · rw [endn, if_neg ha] at he; exact he
          · show e.length - (IntKind.i64.wrap ((q : Int) + 1)).toNat < e.length - ((q : Int)).toNat
            rw [wr (by omega) (by omega)]; omega
      · refine .inr ⟨.inr (-1), by simp [show ((e.length : Int) ≤ (q : Int)) by omega], ?_⟩
        rw [List.drop_eq_nil_of_le (by omega), endn] at he
        simp [endI, ← he]
  obtain ⟨o, h1, h2⟩ := key
  unfold term_End
  have : ¬ ((p : Int) < 0) := by omega
  simp only [decide_eq_false this, cond_false, h1, Option.bind_some]
  exact h2
theorem End5_eq (e : List ApiTerm) (p : Nat) (hp : p ≤ e.length) (hl : e.length ≤ 1000) : ref05_End e (p : Int) = some (endI e p) := by
  by_cases hp' : p = e.length
  · unfold ref05_End endI
    have : (e.length : Int) ≤ (p : Int) := by omega
    rw [List.drop_eq_nil_of_le (by omega)]
    simp [this, endn]
  have key : ∃ o, loopO (ref05_End.l13 e) ((1 : Int), (p : Int)) = some o ∧ Sum.elim (fun (w5 : Unit) => (some (-1))) (fun (w7 : Int) => some w7) o = some (endI e p) := by
    refine loop_to (fun s => ∃ q n : Nat, s = (((n + 1 : Nat) : Int), (q : Int)) ∧ q ≤ e.length ∧ n ≤ 1 + 3 * q ∧ endn (n + 1) (e.drop q) = endn 1 (e.drop p)) (fun s => e.length - s.2.toNat) _ ?_ _ ⟨p, 0, rfl, hp, by omega, rfl⟩
    rintro s ⟨q, n, rfl, hq, hn, he⟩
    unfold ref05_End.l13
    by_cases hq' : q < e.length
    · have hnl : ((q : Int) < (e.length : Int)) := by omega
      rw [drop_cons hq'] at he
      have hb := arI_bd e[q].Op
      by_cases ha : arI e[q].Op < 0
      · refine .inr ⟨.inr (-1), by simp [hnl, idx_nat hq', arity5_eq, ha], ?_⟩
        rw [endn, if_pos ha] at he
        simp [endI, ← he]
      · have hw : IntKind.i64.wrap (((n + 1 : Nat) : Int) + IntKind.i64.wrap (arI e[q].Op - 1)) = (n : Int) + arI e[q].Op := by
          rw [wr (n := arI e[q].Op - 1) (by omega) (by omega), wr (by omega) (by omega)]; omega
        rw [endn, if_neg ha] at he
        by_cases hz : (n : Int) + arI e[q].Op = 0
        · refine .inr ⟨.inr ((q : Int) + 1), ?_, ?_⟩
          · simp only [hnl, idx_nat hq', arity5_eq, Option.bind_some, decide_true, cond_true, hw, decide_eq_false ha, decide_eq_true hz, cond_false]
            rw [wr (by omega) (by omega)]
          · rw [show n + (arI e[q].Op).toNat = 0 by omega] at he
            have : endn 1 (e.drop p) = some (e.drop (q + 1)) := by rw [← he]; cases e.drop (q + 1) <;> rfl
            simp only [Sum.elim_inr, endI, this, List.length_drop]
            congr 1; omega
        · refine .inl ⟨((n : Int) + arI e[q].Op, (q : Int) + 1), ?_, ⟨q + 1, n + (arI e[q].Op).toNat - 1, ?_, by omega, by omega, ?_⟩, ?_⟩
          · simp only [hnl, idx_nat hq', arity5_eq, Option.bind_some, decide_true, cond_true, hw, decide_eq_false ha, decide_eq_false hz, cond_false]
            rw [wr (by omega) (by omega)]
          · simp only [Prod.mk.injEq]; omega
          · rw [← he]; congr 1; omega
          · show e.length - ((q : Int) + 1).toNat < e.length - ((q : Int)).toNat
            omega
    · refine .inr ⟨.inl (), by simp [show ¬ ((q : Int) < (e.length : Int)) by omega], ?_⟩
      rw [List.drop_eq_nil_of_le (by omega), endn] at he
      simp [endI, ← he]
  obtain ⟨o, h1, h2⟩ := key
  unfold ref05_End
  have a1 : ¬ ((p : Int) < 0) := by omega
  have a2 : ¬ ((e.length : Int) ≤ (p : Int)) := by omega
  simp only [decide_eq_false a1, decide_eq_false a2, Bool.or_false, cond_false, h1, Option.bind_some]
  exact h2
/-- One whole tree. -/
def oneB (e : List ApiTerm) : Bool := decide (endI e 0 = (e.length : Int))
theorem one_eq (e : List ApiTerm) (hl : e.length ≤ 1000) : term_one e = some (oneB e) := by
  unfold term_one
  rw [show (0 : Int) = ((0 : Nat) : Int) from rfl, End_eq e 0 (by omega) hl]; rfl
theorem one5_eq (e : List ApiTerm) (hl : e.length ≤ 1000) : ref05_one e = some (oneB e) := by
  unfold ref05_one
  rw [show ref05_End e 0 = some (endI e 0) from End5_eq e 0 (by omega) hl]
  by_cases h : 0 < (e.length : Int)
  · simp only [decide_eq_true h, cond_true, Option.bind_some]; rfl
  · have : e = [] := List.length_eq_zero_iff.1 (by omega)
    subst this
    simp [oneB, endI, endn]
theorem oneB_iff (e : List ApiTerm) : oneB e = true ↔ ∃ (t : ApiTerm) (c : Fo), (nd t c nil).wf ∧ e = t :: c.flat := by
  unfold oneB endI
  simp only [List.drop_zero, decide_eq_true_eq]
  constructor
  · intro h
    cases hr : endn 1 e with
    | none => rw [hr] at h; simp at h
    | some r =>
      rw [hr] at h
      have : r = [] := List.length_eq_zero_iff.1 (by simp at h; omega)
      subst this
      obtain ⟨F, h1, h2, h3⟩ := endn_some e 1 [] hr
      cases F with
      | nil => simp [cnt] at h2
      | nd t c s =>
        cases s with
        | nil => exact ⟨t, c, h1, by simpa [flat] using h3⟩
        | nd _ _ _ => simp [cnt] at h2
  · rintro ⟨t, c, w, rfl⟩
    have := endn_flat (nd t c nil) 0 [] w
    simp only [cnt, flat, Nat.zero_add, Nat.add_zero, List.append_nil] at this
    rw [this]; simp [endn]
end Go.Proofs.Ytkpghgnbbfpbmaa
