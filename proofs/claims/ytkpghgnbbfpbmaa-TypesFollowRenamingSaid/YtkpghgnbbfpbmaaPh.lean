/- Depth and nesting of a tree, by a stack from the right and by levels from the left. -/
import Derived.Test.YtkpghgnbbfpbmaaPg
set_option linter.unusedSimpArgs false
set_option linter.unusedVariables false
namespace Go.Proofs.Ytkpghgnbbfpbmaa
open Fo

def aggB (op : Int) : Bool := decide (20 ≤ op ∧ op ≤ 29)
theorem agg_eq (op : Int) : term_aggregate op = some (aggB op) := by unfold term_aggregate aggB; simp
theorem agg5_eq (op : Int) : ref05_Aggregate op = some (aggB op) := by unfold ref05_Aggregate aggB; simp
def Fo.nest : Fo → Nat
  | nil => 0
  | nd t c s => max (c.nest + (aggB t.Op).toNat) s.nest

/-! ### From the right -/
def foldl21 (y10 : Int) (s17 : Int × Int × (List Int)) : Option ((Int × Int × (List Int)) ⊕ ((Int × (List Int)))) := (bif (decide (s17.2.1 < y10)) then ((idx s17.2.2 ((IntKind.i64.wrap ((s17.2.2.length : Int) - 1)))).bind (fun (y19 : Int) => ((slc s17.2.2 0 ((IntKind.i64.wrap ((s17.2.2.length : Int) - 1)))).bind (fun (y20 : List Int) => (some (Sum.inl ((max s17.1 y19), (IntKind.i64.wrap (s17.2.1 + 1)), y20))))))) else (some (Sum.inr (s17.1, s17.2.2))))
noncomputable def foldl22 (f : Int → Int → Option Int) (e_0 : List ApiTerm) (s7 : Int × (List Int)) : Option ((Int × (List Int)) ⊕ (((List Int)))) := (bif (decide (0 ≤ s7.1)) then ((idx e_0 s7.1).bind (fun (y9 : ApiTerm) => ((term_Arity y9.Op).bind (fun (y10 : Int) => ((loopO (foldl21 y10) (0, 0, s7.2)).bind (fun (w13 : Int × (List Int)) => ((idx e_0 s7.1).bind (fun (y15 : ApiTerm) => ((f y15.Op w13.1).bind (fun (y16 : Int) => (bif (room (List.length w13.2 + List.length ([y16])) 8) then (some (Sum.inl ((IntKind.i64.wrap (s7.1 - 1)), (w13.2 ++ [y16])))) else none))))))))))) else (some (Sum.inr s7.2)))
theorem foldD : term_fold_term_Depth_1.l22 = foldl22 term_Depth_1 := rfl
theorem foldN : term_fold_term_Nest_1.l22 = foldl22 term_Nest_1 := rfl

def mxl (l : List Int) : Int := l.foldl max 0
/-- The stack (top first) behind a list read from the right. -/
def stk (g : Int → Int → Int) : List ApiTerm → List Int
  | [] => []
  | t :: l => g t.Op (mxl ((stk g l).take (arI t.Op).toNat)) :: (stk g l).drop (arI t.Op).toNat
def stkOk (g : Int → Int → Int) : List ApiTerm → Prop
  | [] => True
  | t :: l => 0 ≤ arI t.Op ∧ arI t.Op ≤ (stk g l).length ∧ stkOk g l
/-- What the trees of a forest fold to. -/
def Fo.vals (g : Int → Int → Int) : Fo → List Int
  | nil => []
  | nd t c s => g t.Op (mxl (c.vals g)) :: s.vals g
theorem Fo.vals_len (g : Int → Int → Int) : ∀ F : Fo, (F.vals g).length = F.cnt
  | nil => rfl
  | nd t c s => by simp [vals, cnt, Fo.vals_len g s]
theorem stk_flat (g : Int → Int → Int) : ∀ (F : Fo) (l : List ApiTerm), F.wf → stk g (F.flat ++ l) = F.vals g ++ stk g l
  | nil, l, _ => by simp [flat, vals]
  | nd t c s, l, w => by
    have h1 : (arI t.Op).toNat = (c.vals g).length := by rw [Fo.vals_len, w.1]; rfl
    show stk g (t :: ((c.flat ++ s.flat) ++ l)) = _
    rw [stk, List.append_assoc, stk_flat g c _ w.2.1, h1, List.take_left, List.drop_left, stk_flat g s _ w.2.2]; rfl
theorem stkOk_flat (g : Int → Int → Int) : ∀ (F : Fo) (l : List ApiTerm), F.wf → stkOk g l → stkOk g (F.flat ++ l)
  | nil, l, _, h => by simpa [flat] using h
  | nd t c s, l, w, h => by
    have h1 := w.1
    show stkOk g (t :: ((c.flat ++ s.flat) ++ l))
    rw [stkOk, List.append_assoc]
    refine ⟨by omega, ?_, stkOk_flat g c _ w.2.1 (stkOk_flat g s _ w.2.2 h)⟩
    rw [stk_flat g c _ w.2.1, List.length_append, Fo.vals_len]; omega
theorem stkOk_drop (g : Int → Int → Int) : ∀ (n : Nat) (l : List ApiTerm), stkOk g l → stkOk g (l.drop n)
  | 0, l, h => h
  | n + 1, [], h => h
  | n + 1, t :: l, h => stkOk_drop g n l h.2.2
theorem stk_len (g : Int → Int → Int) : ∀ l : List ApiTerm, (stk g l).length ≤ l.length
  | [] => Nat.le_refl _
  | t :: l => by have := stk_len g l; simp [stk]; omega

theorem mxl_take {l : List Int} {i : Nat} (h : i < l.length) : mxl (l.take (i + 1)) = max (mxl (l.take i)) l[i] := by
  unfold mxl; rw [foldl_succ _ _ h]
theorem l21_eq (s : List Int) (n : Nat) (h : n ≤ s.length) (hl : s.length ≤ 1000) : loopO (foldl21 (n : Int)) (0, 0, s.reverse) = some (mxl (s.take n), (s.drop n).reverse) := by
  refine range_all n (fun i => (mxl (s.take i), (i : Int), (s.drop i).reverse)) _ (fun i hi => ?_) ?_
  · unfold foldl21
    have hi' : i < s.length := by omega
    have e1 : (s.drop i).reverse = (s.drop (i + 1)).reverse ++ [s[i]] := by rw [drop_cons hi']; simp
    have e2 : IntKind.i64.wrap ((((s.drop i).reverse).length : Int) - 1) = (((s.drop (i + 1)).reverse).length : Int) := by
      rw [wr (by omega) (by simp; omega)]; simp; omega
    simp only [decide_eq_true (show (i : Int) < (n : Int) by omega), cond_true, e2]
    rw [wr (by omega) (by omega), e1]
    rw [idx_nat (by simp)]
    simp only [Option.bind_some]
    rw [slc, if_pos ⟨by omega, by omega, by simp; omega⟩]
    simp [mxl_take hi']
  · unfold foldl21
    simp
theorem mxl_bd {b : Int} (hb : 0 ≤ b) (l : List Int) (h : ∀ x ∈ l, x ≤ b) : 0 ≤ mxl l ∧ mxl l ≤ b := by
  have key : ∀ (l : List Int) (a : Int), 0 ≤ a → a ≤ b → (∀ x ∈ l, x ≤ b) → 0 ≤ l.foldl max a ∧ l.foldl max a ≤ b := by
    intro l
    induction l with
    | nil => intro a h1 h2 _; exact ⟨h1, h2⟩
    | cons x l ih =>
      intro a h1 h2 h3
      have := h3 x (by simp)
      exact ih (max a x) (by omega) (by omega) (fun y hy => h3 y (by simp [hy]))
  exact key l 0 (Int.le_refl _) hb h
theorem stk_bd {g : Int → Int → Int} (hb : ∀ op m, 0 ≤ m → 0 ≤ g op m ∧ g op m ≤ m + 1) : ∀ l : List ApiTerm, ∀ x ∈ stk g l, x ≤ l.length
  | [], x, hx => by simp [stk] at hx
  | t :: l, x, hx => by
    have ih := stk_bd hb l
    simp only [stk, List.mem_cons] at hx
    rcases hx with rfl | hx
    · have h := mxl_bd (b := l.length) (by omega) ((stk g l).take (arI t.Op).toNat) (fun y hy => ih y (List.mem_of_mem_take hy))
      have := hb t.Op _ h.1
      simp; omega
    · have := ih x (List.mem_of_mem_drop hx)
      simp; omega
theorem fold_eq (f : Int → Int → Option Int) (g : Int → Int → Int) (hf : ∀ op m, 0 ≤ m → m ≤ 1000 → f op m = some (g op m)) (e : List ApiTerm) (hl : e.length ≤ 1000)
    (hb : ∀ op m, 0 ≤ m → 0 ≤ g op m ∧ g op m ≤ m + 1) (ok : stkOk g e) :
    loopO (foldl22 f e) (IntKind.i64.wrap ((e.length : Int) - 1), ([] : List Int)) = some (stk g e).reverse := by
  rw [wr (by omega) (by omega)]
  have := range_all (step := foldl22 f e) e.length (fun i => ((e.length : Int) - 1 - i, (stk g (e.drop (e.length - i))).reverse)) (stk g e).reverse (fun i hi => ?_) ?_
  · simpa [stk] using this
  · unfold foldl22
    have hp : e.length - i - 1 < e.length := by omega
    have e0 : (e.length : Int) - 1 - i = ((e.length - i - 1 : Nat) : Int) := by omega
    have e1 : e.length - i = (e.length - i - 1) + 1 := by omega
    have e3 : e.length - (i + 1) = e.length - i - 1 := by omega
    have ok' := stkOk_drop g (e.length - i - 1) e ok
    have hg' : 0 ≤ mxl ((stk g (e.drop (e.length - i - 1 + 1))).take (arI e[e.length - i - 1].Op).toNat) ∧ mxl ((stk g (e.drop (e.length - i - 1 + 1))).take (arI e[e.length - i - 1].Op).toNat) ≤ 1000 :=
      mxl_bd (by omega) _ (fun y hy => by
        have := stk_bd hb _ y (List.mem_of_mem_take hy)
        simp at this; omega)
    have hs := stk_len g (e.drop (e.length - i - 1 + 1))
    simp only [List.length_drop] at hs
    rw [e1, e3, e0]
    simp only
    rw [drop_cons hp]
    rw [drop_cons hp] at ok'
    generalize e.length - i - 1 = p at *
    rw [stkOk] at ok'
    simp only [decide_eq_true (show (0 : Int) ≤ (p : Int) by omega), cond_true, idx_nat hp, Option.bind_some, arity_eq]
    have hn : arI e[p].Op = (((arI e[p].Op).toNat : Nat) : Int) := by omega
    rw [hn, l21_eq _ _ (by omega) (by omega)]
    simp only [Option.bind_some, hf _ _ hg'.1 hg'.2]
    rw [show room (((stk g (e.drop (p + 1))).drop (arI e[p].Op).toNat).reverse.length + List.length [g e[p].Op (mxl ((stk g (e.drop (p + 1))).take (arI e[p].Op).toNat))]) 8 = true by
      unfold room; simp; omega]
    rw [wr (by omega) (by omega)]
    simp [stk]; omega
  · unfold foldl22
    simp only [Nat.sub_self, List.drop_zero]
    rw [show decide (0 ≤ (e.length : Int) - 1 - (e.length : Nat)) = false by simp; omega]; rfl
end Go.Proofs.Ytkpghgnbbfpbmaa
