/- Words for the plain laws: loops, bounds, lists. -/
import Derived.Test.YtkpghgnbbfpbmaaDp
set_option linter.unusedSimpArgs false
set_option linter.unusedVariables false
namespace Go.Proofs.Ytkpghgnbbfpbmaa

theorem wr {n : Int} (h1 : -9223372036854775808 ≤ n) (h2 : n ≤ 9223372036854775807) : IntKind.i64.wrap n = n := by
  have e : IntKind.i64.wrap n = if n % 18446744073709551616 ≥ 9223372036854775808 then n % 18446744073709551616 - 18446744073709551616 else n % 18446744073709551616 := by
    simp [IntKind.wrap, IntKind.bits, IntKind.signed]
  rw [e]
  split <;> omega
theorem wr_succ {i n : Nat} (h : i < n) (hn : n ≤ 9223372036854775807) : IntKind.i64.wrap ((i : Int) + 1) = ((i + 1 : Nat) : Int) := by rw [wr (by omega) (by omega)]; rfl
theorem idx_nat {α : Type} {l : List α} {i : Nat} (h : i < l.length) : idx l (i : Int) = some l[i] := by simp [idx, h]
theorem idx_int {α : Type} {l : List α} {i : Int} (h0 : 0 ≤ i) (h : i < l.length) : idx l i = some (l[i.toNat]'(by omega)) := by
  unfold idx; rw [if_pos h0, List.getElem?_eq_getElem]
theorem take_succ {α : Type} {l : List α} {i : Nat} (h : i < l.length) : l.take (i + 1) = l.take i ++ [l[i]] := by rw [List.take_add_one, List.getElem?_eq_getElem h]; rfl
theorem foldl_succ {α β : Type} (f : β → α → β) (a : β) {l : List α} {i : Nat} (h : i < l.length) : (l.take (i + 1)).foldl f a = f ((l.take i).foldl f a) l[i] := by
  rw [take_succ h, List.foldl_append]; rfl

/-- A loop that counts a measure down comes to an outcome. -/
theorem loop_to {σ ω : Type} {step : σ → Option (σ ⊕ ω)} (Inv : σ → Prop) (μ : σ → Nat) (R : ω → Prop) (h : ∀ s, Inv s → (∃ s', step s = some (.inl s') ∧ Inv s' ∧ μ s' < μ s) ∨ ∃ o, step s = some (.inr o) ∧ R o) : ∀ s, Inv s → ∃ o, loopO step s = some o ∧ R o := by
  have key : ∀ m s, μ s ≤ m → Inv s → ∃ o, loopO step s = some o ∧ R o := by
    intro m
    induction m with
    | zero =>
      intro s hm hs
      rcases h s hs with ⟨s', h1, h2, h3⟩ | ⟨o, h1, h2⟩
      · omega
      · exact ⟨o, by rw [loopO_eq, h1]; rfl, h2⟩
    | succ m ih =>
      intro s hm hs
      rcases h s hs with ⟨s', h1, h2, h3⟩ | ⟨o, h1, h2⟩
      · obtain ⟨o, h4, h5⟩ := ih s' (by omega) h2
        exact ⟨o, by rw [loopO_eq, h1]; exact h4, h5⟩
      · exact ⟨o, by rw [loopO_eq, h1]; rfl, h2⟩
  exact fun s hs => key _ s (Nat.le_refl _) hs
/-- A loop over the numbers below n, whose state behind i rounds is st i. -/
theorem range_to {σ ω : Type} {step : σ → Option (σ ⊕ ω)} (n : Nat) (st : Nat → σ) (G : Nat → Prop) (R : ω → Prop) (h0 : G 0)
    (hs : ∀ i, i < n → G i → (step (st i) = some (.inl (st (i + 1))) ∧ G (i + 1)) ∨ ∃ o, step (st i) = some (.inr o) ∧ R o) (he : G n → ∃ o, step (st n) = some (.inr o) ∧ R o) : ∃ o, loopO step (st 0) = some o ∧ R o := by
  have key : ∀ d i, n - i = d → i ≤ n → G i → ∃ o, loopO step (st i) = some o ∧ R o := by
    intro d
    induction d with
    | zero =>
      intro i hd hi hg
      have : i = n := by omega
      subst this
      obtain ⟨o, h1, h2⟩ := he hg
      exact ⟨o, by rw [loopO_eq, h1]; rfl, h2⟩
    | succ d ih =>
      intro i hd hi hg
      rcases hs i (by omega) hg with ⟨h1, h2⟩ | ⟨o, h1, h2⟩
      · obtain ⟨o, h3, h4⟩ := ih (i + 1) (by omega) (by omega) h2
        exact ⟨o, by rw [loopO_eq, h1]; exact h3, h4⟩
      · exact ⟨o, by rw [loopO_eq, h1]; rfl, h2⟩
  exact key n 0 (by omega) (Nat.zero_le _) h0
/-- The same, without an early end. -/
theorem range_all {σ ω : Type} {step : σ → Option (σ ⊕ ω)} (n : Nat) (st : Nat → σ) (o : ω) (hs : ∀ i, i < n → step (st i) = some (.inl (st (i + 1)))) (he : step (st n) = some (.inr o)) : loopO step (st 0) = some o := by
  obtain ⟨o', h1, h2⟩ := range_to (step := step) n st (fun _ => True) (fun o' => o' = o) trivial (fun i hi _ => .inl ⟨hs i hi, trivial⟩) (fun _ => ⟨o, he, rfl⟩)
  rw [h1, h2]
end Go.Proofs.Ytkpghgnbbfpbmaa
