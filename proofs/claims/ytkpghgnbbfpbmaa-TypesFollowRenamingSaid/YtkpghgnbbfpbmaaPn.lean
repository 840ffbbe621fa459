/- The laws TypesFind and TypesKeepWithABound. -/
import Derived.Test.YtkpghgnbbfpbmaaPm
import Derived.Test.YtkpghgnbbfpbmaaDr
set_option linter.unusedSimpArgs false
set_option linter.unusedVariables false
namespace Go.Proofs.Ytkpghgnbbfpbmaa
open Fo

def ApiTerm.V (x : ApiTerm) : Prop := VInt .i64 x.Op ∧ VInt .i64 x.Arg

theorem Fo.uniq : ∀ (F G : Fo) (l l' : List ApiTerm), F.wf → G.wf → F.cnt = G.cnt → F.flat ++ l = G.flat ++ l' → F = G ∧ l = l'
  | nil, nil, l, l', _, _, _, h => ⟨rfl, h⟩
  | nil, nd _ _ _, _, _, _, _, h, _ => by simp [cnt] at h
  | nd _ _ _, nil, _, _, _, _, h, _ => by simp [cnt] at h
  | nd t c s, nd t' c' s', l, l', w, w', h, e => by
    have e' : t :: (c.flat ++ (s.flat ++ l)) = t' :: (c'.flat ++ (s'.flat ++ l')) := by simpa [flat] using e
    injection e' with h1 h2
    subst h1
    obtain ⟨rfl, h3⟩ := Fo.uniq c c' _ _ w.2.1 w'.2.1 (by have := w.1; have := w'.1; omega) h2
    obtain ⟨rfl, h4⟩ := Fo.uniq s s' _ _ w.2.2 w'.2.2 (by simp only [cnt] at h; omega) h3
    exact ⟨rfl, h4⟩
theorem tree_uniq {e : List ApiTerm} {t t' : ApiTerm} {c c' : Fo} (w : (nd t c nil).wf) (w' : (nd t' c' nil).wf) (h : e = t :: c.flat) (h' : e = t' :: c'.flat) : t = t' ∧ c = c' := by
  have := (Fo.uniq (nd t c nil) (nd t' c' nil) [] [] w w' rfl (by simp only [flat, List.append_nil]; rw [← h, h'])).1
  injection this with h1 h2
  exact ⟨h1, h2⟩
theorem Of_good {e : List ApiTerm} {kinds : List Int} {t : ApiTerm} {c : Fo} (g : Good e kinds t c) (b : Bool) : types_Of e kinds b = some (outK (tyK kinds b t c)) ∧ ref07_Of e kinds b = some (outK (tyK kinds b t c)) := by
  have hl := g.v.len
  have hk := g.k6
  rcases Of_both e kinds b (by omega) (by omega) with ⟨t', c', g', h⟩ | ⟨h, _⟩
  · obtain ⟨rfl, rfl⟩ := tree_uniq g.v.w g'.v.w g.v.eq g'.v.eq
    exact h
  · exact absurd ⟨t, c, g⟩ h
theorem Of_bad {e : List ApiTerm} {kinds : List Int} (he : e.length ≤ 300) (hk : kinds.length ≤ 10) (g : ¬ ∃ t c, Good e kinds t c) (b : Bool) : types_Of e kinds b = some (0, 7) ∧ ref07_Of e kinds b = some (0, 7) := by
  rcases Of_both e kinds b he hk with ⟨t', c', g', h⟩ | ⟨_, h⟩
  · exact absurd ⟨t', c', g'⟩ g
  · exact h

def exC : Fo := nd ⟨12, 0⟩ nil (nd ⟨17, 0⟩ nil nil)
theorem ex_good1 : Good [⟨23, 0⟩, ⟨35, 0⟩, ⟨12, 0⟩, ⟨17, 0⟩] [3] ⟨23, 0⟩ (nd ⟨35, 0⟩ exC nil) where
  k6 := by decide
  ok := by intro k hk; simp at hk; omega
  v := { len := by decide, w := by simp [wf, exC, cnt, arI], eq := rfl, depth := by decide, nest := by decide, args := by decide }
theorem ex_good2 : Good [⟨35, 0⟩, ⟨12, 0⟩, ⟨17, 0⟩] [3] ⟨35, 0⟩ exC where
  k6 := by decide
  ok := by intro k hk; simp at hk; omega
  v := { len := by decide, w := by simp [wf, exC, cnt, arI], eq := rfl, depth := by decide, nest := by decide, args := by decide }
theorem awake7_eq : law07_awake = some true := by
  unfold law07_awake law07_example
  rw [Option.bind_some, (Of_good ex_good1 false).1, Option.bind_some, Option.bind_some]
  rw [show slc [(ApiTerm.mk 23 0), (ApiTerm.mk 35 0), (ApiTerm.mk 12 0), (ApiTerm.mk 17 0)] 1 ((List.length [(ApiTerm.mk 23 0), (ApiTerm.mk 35 0), (ApiTerm.mk 12 0), (ApiTerm.mk 17 0)] : Int)) = some [⟨35, 0⟩, ⟨12, 0⟩, ⟨17, 0⟩] from rfl]
  rw [Option.bind_some, (Of_good ex_good2 false).1, Option.bind_some]
  have h1 : tyK [3] false ⟨23, 0⟩ (nd ⟨35, 0⟩ exC nil) = 3 := by decide
  have h2 : tyK [3] false ⟨35, 0⟩ exC = 0 := by decide
  rw [h1, h2]; rfl

theorem pure_TypesFind (e : List ApiTerm) (kinds : List Int) (b : Bool) (h1 : VSl ApiTerm.V e) (h2 : VSl (VInt .i64) kinds) (h3 : VAny b) : law07_TypesFind e kinds b = some true := by
  unfold law07_TypesFind made_LightExpr
  rw [Option.bind_some, awake7_eq]
  by_cases ha : (e.length : Int) ≤ 250
  · by_cases hb : 10 < (kinds.length : Int)
    · simp [ha, hb]
    · simp only [decide_eq_true ha, decide_eq_false hb, Bool.not_true, Bool.or_false, cond_false]
      rcases Of_both e kinds b (by omega) (by omega) with ⟨t, c, _, g1, g2⟩ | ⟨_, g1, g2⟩
      · rw [g1, g2]; simp
      · rw [g1, g2]; simp
  · simp [ha]

/-! ### A bound neighbour -/
theorem cmbK_ne {kinds : List Int} {t : ApiTerm} {b : Bool} {l : List Int} (h : cmbK kinds t b l ≠ 0) : ∀ x ∈ l, x ≠ 0 := by
  unfold cmbK at h
  split at h
  · intro x hx; simp at hx
  · rename_i x
    intro y hy hz
    simp at hy; subst hy; subst hz
    revert h; unfold singleK
    repeat' split
    all_goals omega
  · rename_i x y
    have : x ≠ 0 ∧ y ≠ 0 := by
      revert h; unfold doubleK
      repeat' split
      all_goals omega
    intro z hz
    simp at hz
    rcases hz with rfl | rfl
    · exact this.1
    · exact this.2
  · rename_i x y z
    have : x ≠ 0 ∧ y ≠ 0 ∧ z ≠ 0 := by
      revert h; unfold tripleK
      split <;> omega
    intro u hu
    simp at hu
    rcases hu with rfl | rfl | rfl
    · exact this.1
    · exact this.2.1
    · exact this.2.2
  · omega
theorem cmbK_true {kinds : List Int} {t : ApiTerm} {b : Bool} {l : List Int} (h : cmbK kinds t b l ≠ 0) : cmbK kinds t true l = cmbK kinds t b l := by
  cases b with
  | true => rfl
  | false =>
    match l, h with
    | [], h =>
      simp only [cmbK, leafK] at h ⊢
      split at h
      · exact absurd rfl h
      · rename_i h'
        rw [if_neg (by simp), if_neg h']
    | [_], _ => rfl
    | [_, _], _ => rfl
    | [_, _, _], _ => rfl
    | _ :: _ :: _ :: _ :: _, h => rfl
theorem tys_true (kinds : List Int) : ∀ (F : Fo) (b : Bool), (∀ x ∈ F.tys kinds b, x ≠ 0) → F.tys kinds true = F.tys kinds b
  | nil, b, _ => by simp [tys]
  | nd t c s, b, h => by
    have h1 : cmbK kinds t b (c.tys kinds (b || aggB t.Op)) ≠ 0 := h _ (by simp [tys])
    have h2 := tys_true kinds c _ (cmbK_ne h1)
    have h3 := tys_true kinds s b (fun x hx => h x (by simp [tys, hx]))
    simp only [tys, Bool.true_or]
    rw [h2, h3, cmbK_true h1]
theorem tyK_true {kinds : List Int} {b : Bool} {t : ApiTerm} {c : Fo} (h : tyK kinds b t c ≠ 0) : tyK kinds true t c = tyK kinds b t c := by
  unfold tyK at h ⊢
  have h2 := tys_true kinds c _ (cmbK_ne h)
  simp only [Bool.true_or]
  rw [h2, cmbK_true h]
theorem pure_TypesKeepWithABound (e : List ApiTerm) (kinds : List Int) (h1 : VSl ApiTerm.V e) (h2 : VSl (VInt .i64) kinds) : law07_TypesKeepWithABound e kinds = some true := by
  unfold law07_TypesKeepWithABound made_LightExpr
  rw [Option.bind_some, awake7_eq]
  by_cases ha : (e.length : Int) ≤ 250
  · by_cases hb : 10 < (kinds.length : Int)
    · simp [ha, hb]
    · simp only [decide_eq_true ha, decide_eq_false hb, Bool.not_true, Bool.or_false, cond_false]
      by_cases hg : ∃ t c, Good e kinds t c
      · obtain ⟨t, c, g⟩ := hg
        rw [(Of_good g false).1, (Of_good g true).1]
        by_cases hz : tyK kinds false t c = 0
        · simp [outK, hz]
        · rw [tyK_true hz]; simp [outK, hz]
      · rw [(Of_bad (by omega) (by omega) hg false).1, (Of_bad (by omega) (by omega) hg true).1]; simp
  · simp [ha]
end Go.Proofs.Ytkpghgnbbfpbmaa
