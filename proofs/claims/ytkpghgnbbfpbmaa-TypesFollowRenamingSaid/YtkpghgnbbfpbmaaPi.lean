/- Depth and nesting: both ways of counting come to the tree's. -/
import Derived.Test.YtkpghgnbbfpbmaaPh
set_option linter.unusedSimpArgs false
set_option linter.unusedVariables false
namespace Go.Proofs.Ytkpghgnbbfpbmaa
open Fo

def gD : Int → Int → Int := fun _ m => m + 1
def gN : Int → Int → Int := fun op m => m + ((aggB op).toNat : Int)
theorem mxl_cons (x : Int) (l : List Int) (h : 0 ≤ x) : mxl (x :: l) = max x (mxl l) := by
  have key : ∀ (l : List Int) (a b : Int), l.foldl max (max a b) = max a (l.foldl max b) := by
    intro l
    induction l with
    | nil => intro a b; rfl
    | cons y l ih => intro a b; show l.foldl max (max (max a b) y) = _; rw [show max (max a b) y = max a (max b y) by omega, ih]; rfl
  show l.foldl max (max 0 x) = _
  rw [show max 0 x = max x 0 by omega, key]; rfl
theorem mxl_D : ∀ F : Fo, mxl (F.vals gD) = (F.depth : Int)
  | nil => rfl
  | nd t c s => by
    have h1 := mxl_D c
    have h2 := mxl_D s
    have : gD t.Op (mxl (c.vals gD)) = (c.depth : Int) + 1 := by rw [h1]; rfl
    rw [vals, this, mxl_cons _ _ (by omega), h2]
    simp only [depth]; omega
theorem mxl_N : ∀ F : Fo, mxl (F.vals gN) = (F.nest : Int)
  | nil => rfl
  | nd t c s => by
    have h1 := mxl_N c
    have h2 := mxl_N s
    have : gN t.Op (mxl (c.vals gN)) = (c.nest : Int) + ((aggB t.Op).toNat : Int) := by rw [h1]; rfl
    rw [vals, this, mxl_cons _ _ (by omega), h2]
    simp only [nest]; omega
theorem agg01 (op : Int) : (aggB op).toNat ≤ 1 := by cases aggB op <;> decide

theorem stk_one (g : Int → Int → Int) {t : ApiTerm} {c : Fo} (w : (nd t c nil).wf) : stkOk g (t :: c.flat) ∧ stk g (t :: c.flat) = [g t.Op (mxl (c.vals g))] := by
  have h1 := stkOk_flat g (nd t c nil) [] w trivial
  have h2 := stk_flat g (nd t c nil) [] w
  simp only [flat, List.append_nil, vals, stk] at h1 h2
  exact ⟨h1, h2⟩
theorem fold_idx (g : Int → Int → Int) {e : List ApiTerm} {v : Int} (h : stk g e = [v]) : ((some (stk g e).reverse : Option (List Int)).bind (fun (w4 : (List Int)) => ((idx w4 0).bind (fun (y6 : Int) => (some y6))))) = some v := by
  rw [h]; rfl
theorem Depth_eq {t : ApiTerm} {c : Fo} (w : (nd t c nil).wf) (hl : (t :: c.flat).length ≤ 1000) : term_Depth (t :: c.flat) = some ((nd t c nil).depth : Int) := by
  have ho : oneB (t :: c.flat) = true := (oneB_iff _).2 ⟨t, c, w, rfl⟩
  obtain ⟨h1, h2⟩ := stk_one gD w
  have hf := fold_eq term_Depth_1 gD (fun op m h1 h2 => by unfold term_Depth_1 gD; rw [wr (by omega) (by omega)]) _ hl (fun op m h => by unfold gD; omega) h1
  rw [← foldD] at hf
  unfold term_Depth term_fold_term_Depth_1
  rw [one_eq _ hl, ho, Option.bind_some]
  simp only [Bool.not_true, cond_false]
  rw [hf, fold_idx gD h2, Option.bind_some]
  rw [mxl_D]; simp only [gD, depth]; congr 1
theorem Nest_eq {t : ApiTerm} {c : Fo} (w : (nd t c nil).wf) (hl : (t :: c.flat).length ≤ 1000) : term_Nest (t :: c.flat) = some ((nd t c nil).nest : Int) := by
  have ho : oneB (t :: c.flat) = true := (oneB_iff _).2 ⟨t, c, w, rfl⟩
  obtain ⟨h1, h2⟩ := stk_one gN w
  have hf := fold_eq term_Nest_1 gN (fun op m h1 h2 => by
    unfold term_Nest_1 gN; rw [agg_eq, Option.bind_some]
    cases aggB op
    · simp
    · simp only [cond_true]; rw [wr (by omega) (by omega)]; rfl) _ hl (fun op m h => by unfold gN; have := agg01 op; omega) h1
  rw [← foldN] at hf
  unfold term_Nest term_fold_term_Nest_1
  rw [one_eq _ hl, ho, Option.bind_some]
  simp only [Bool.not_true, cond_false]
  rw [hf, fold_idx gN h2, Option.bind_some]
  rw [mxl_N]; simp only [gN, nest]; congr 1; omega

/-! ### From the left -/
def decT : List (Int × Bool) → List (Int × Bool)
  | [] => []
  | (n, b) :: st => (n - 1, b) :: st
def popz : List (Int × Bool) → List (Int × Bool)
  | [] => []
  | (n, b) :: st => if n = 0 then popz' st else (n, b) :: st
where popz' : List (Int × Bool) → List (Int × Bool)
  | [] => []
  | (n, b) :: st => if n - 1 = 0 then popz' st else (n - 1, b) :: st
theorem popz_eq (n : Int) (b : Bool) (st : List (Int × Bool)) : popz ((n, b) :: st) = if n = 0 then popz (decT st) else (n, b) :: st := by
  cases st with
  | nil => rfl
  | cons x st => rfl
def opn (st : List (Int × Bool)) : Nat := st.countP (·.2)
/-- The most deep, the most aggregates and the open operations behind a list read from the left. -/
def lev : List ApiTerm → Nat × Nat × List (Int × Bool) → Nat × Nat × List (Int × Bool)
  | [], s => s
  | t :: l, s => lev l (max s.1 (s.2.2.length + 1), max s.2.1 (opn ((arI t.Op, aggB t.Op) :: s.2.2)), popz ((arI t.Op, aggB t.Op) :: s.2.2))
theorem opn_cons (n : Int) (b : Bool) (st : List (Int × Bool)) : opn ((n, b) :: st) = opn st + b.toNat := by
  unfold opn; rw [List.countP_cons]; cases b <;> rfl
theorem lev_flat : ∀ (F : Fo) (l : List ApiTerm) (d n m : Nat) (b : Bool) (st : List (Int × Bool)), F.wf → st.length + 1 ≤ d → opn st + b.toNat ≤ n →
    lev (F.flat ++ l) (d, n, popz ((((F.cnt + m : Nat) : Int), b) :: st)) = lev l (max d (st.length + 1 + F.depth), max n (opn st + b.toNat + F.nest), popz ((((m : Nat) : Int), b) :: st))
  | nil, l, d, n, m, b, st, w, h1, h2 => by
    simp only [flat, cnt, depth, nest, List.nil_append, Nat.zero_add, Nat.add_zero, Nat.max_eq_left h1, Nat.max_eq_left h2]
  | nd t c s, l, d, n, m, b, st, w, h1, h2 => by
    have e1 : ((((nd t c s).cnt + m : Nat)) : Int) = ((s.cnt + m + 1 : Nat) : Int) := by simp only [cnt]; omega
    rw [e1, popz_eq, if_neg (by omega)]
    show lev (t :: ((c.flat ++ s.flat) ++ l)) _ = _
    rw [lev, List.append_assoc]
    simp only
    have hc := lev_flat c (s.flat ++ l) (max d (st.length + 1 + 1)) (max n (opn ((((s.cnt + m + 1 : Nat) : Int), b) :: st) + (aggB t.Op).toNat)) 0 (aggB t.Op) ((((s.cnt + m + 1 : Nat) : Int), b) :: st) w.2.1 (by simp; omega) (by omega)
    rw [show (((c.cnt + 0 : Nat)) : Int) = arI t.Op from w.1.symm] at hc
    rw [List.length_cons, opn_cons (arI t.Op), hc]
    rw [popz_eq _ (aggB t.Op), if_pos (by rfl)]
    rw [decT, show (((s.cnt + m + 1 : Nat) : Int)) - 1 = ((s.cnt + m : Nat) : Int) by omega]
    rw [lev_flat s l _ _ m b st w.2.2 (by omega) (by omega)]
    rw [opn_cons, List.length_cons]
    congr 1
    simp only [depth, nest, Prod.mk.injEq]
    have := agg01 t.Op
    exact ⟨by omega, by omega, trivial⟩
theorem lev_one {t : ApiTerm} {c : Fo} (w : (nd t c nil).wf) : lev (t :: c.flat) (0, 0, []) = ((nd t c nil).depth, (nd t c nil).nest, []) := by
  rw [lev]
  have h := lev_flat c [] 1 (aggB t.Op).toNat 0 (aggB t.Op) [] w.2.1 (by simp) (by simp [opn])
  rw [show (((c.cnt + 0 : Nat)) : Int) = arI t.Op from w.1.symm, List.append_nil] at h
  simp only [List.length_nil, Nat.zero_add, Nat.zero_max, opn_cons, show opn [] = 0 from rfl]
  simp only [List.length_nil, Nat.zero_add, show opn [] = 0 from rfl] at h
  rw [h, lev, popz_eq, if_pos (by rfl)]
  simp only [depth, nest, Prod.mk.injEq]
  exact ⟨by omega, by omega, rfl⟩
end Go.Proofs.Ytkpghgnbbfpbmaa
