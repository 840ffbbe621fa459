/- The two recursions over a tree. -/
import Derived.Test.YtkpghgnbbfpbmaaPk
set_option linter.unusedSimpArgs false
set_option linter.unusedVariables false
namespace Go.Proofs.Ytkpghgnbbfpbmaa
open Fo

/-- The value v, or none, and not none if p. -/
def Evl {α : Type} (p : Prop) (x : Option α) (v : α) : Prop := x = some v ∨ (¬ p ∧ x = none)
theorem Evl.bind {α β : Type} {p : Prop} {x : Option α} {v : α} {f : α → Option β} {w : β} (h : Evl p x v) (h2 : Evl p (f v) w) : Evl p (x.bind f) w := by
  rcases h with rfl | ⟨hp, rfl⟩
  · exact h2
  · exact .inr ⟨hp, rfl⟩
theorem Evl.mono {α : Type} {p q : Prop} {x : Option α} {v : α} (h : Evl q x v) (hpq : p → q) : Evl p x v := by
  rcases h with h | ⟨hp, h⟩
  · exact .inl h
  · exact .inr ⟨fun h => hp (hpq h), h⟩
theorem Evl.of {α : Type} {p : Prop} {x : Option α} {v : α} (h : x = some v) : Evl p x v := .inl h
theorem supO_ev {α : Type} {f : Nat → Option α} {v : α} (n : Nat) (h : ∀ k, Evl (n ≤ k) (f k) v) : supO f = some v := by
  refine supO_of (k := n) (fun k r' hr => ?_) ?_
  · rcases h k with h | ⟨_, h⟩
    · rw [h] at hr; injection hr with hr; exact hr.symm
    · rw [h] at hr; cases hr
  · rcases h n with h | ⟨hp, _⟩
    · exact h
    · exact absurd (Nat.le_refl _) hp

theorem at_drop {α : Type} {e : List α} {p : Nat} {x : α} {l : List α} (h : e.drop p = x :: l) : ∃ hp : p < e.length, e[p] = x ∧ e.drop (p + 1) = l := by
  have hp : p < e.length := by
    rcases Nat.lt_or_ge p e.length with h' | h'
    · exact h'
    · rw [List.drop_eq_nil_of_le h'] at h; cases h
  rw [drop_cons hp] at h
  injection h with h1 h2
  exact ⟨hp, h1, h2⟩
theorem drop_add {α : Type} {e : List α} {p : Nat} {a l : List α} (h : e.drop p = a ++ l) : e.drop (p + a.length) = l := by
  rw [← List.drop_drop, h, List.drop_left]
theorem kind_idx {kinds : List Int} {t : ApiTerm} (h : argB t (kinds.length : Int) = true) : t.Op = 5 ∨ t.Op = 12 → idx kinds t.Arg = some (kinds.getD t.Arg.toNat 0) := by
  intro ho
  unfold argB at h
  have h := of_decide_eq_true h
  have h1 : ¬ t.Op = 1 := by omega
  rw [if_neg h1, if_pos ho] at h
  rw [idx_int h.1 h.2, List.getD_eq_getElem?_getD, List.getElem?_eq_getElem (by omega)]; rfl

theorem cnt_le3 {t : ApiTerm} {c : Fo} {s : Fo} (w : (nd t c s).wf) : c.cnt ≤ 3 := by
  have := w.1; have := arI_bd t.Op; omega
noncomputable abbrev RR := types_checker_operands_types_checker_read.rec
theorem loop_read {e : List ApiTerm} {kinds : List Int} (hk : okK kinds) (he : e.length ≤ 1000) : ∀ (F : Fo) (k p : Nat) (l : List ApiTerm) (b : Bool) (done : List Int) (y1 : List Int), F.wf → e.drop p = F.flat ++ l → (∀ t ∈ F.flat, argB t (kinds.length : Int) = true) →
    y1.length = done.length + F.cnt → y1.length ≤ 10 →
    Evl (2 * F.depth ≤ k) (loopO (types_checker_operands.l10 b (RR k).2 y1) ((done.length : Int), e, kinds, (p : Int), done ++ List.replicate F.cnt 0)) (e, kinds, ((p + F.flat.length : Nat) : Int), done ++ F.tys kinds b) := by
  intro F
  induction F with
  | nil =>
    intro k p l b done y1 _ _ _ hy _
    refine .of ?_
    rw [loopO_eq]
    unfold types_checker_operands.l10
    simp [hy, cnt, tys, flat]
  | nd t c s ihc ihs =>
    intro k p l b done y1 w hd ha hy h10
    obtain ⟨hp, h1, h2⟩ := at_drop (show e.drop p = t :: ((c.flat ++ s.flat) ++ l) from hd)
    have hac : ∀ x ∈ c.flat, argB x (kinds.length : Int) = true := fun x hx => ha x (by simp [flat, hx])
    have has : ∀ x ∈ s.flat, argB x (kinds.length : Int) = true := fun x hx => ha x (by simp [flat, hx])
    have hread : Evl (2 * (c.depth + 1) ≤ k) ((RR k).2 ⟨e, kinds, (p : Int)⟩ b) (tyK kinds b t c, ⟨e, kinds, ((p + 1 + c.flat.length : Nat) : Int)⟩) := by
      cases k with
      | zero => exact .inr ⟨by omega, rfl⟩
      | succ k =>
        show Evl _ (types_checker_read.body (RR k).1 (RR k).2 ⟨e, kinds, (p : Int)⟩ b) _
        rw [read_body]
        simp only [idx_nat hp, Option.bind_some, arity_eq, h1]
        rw [wr_succ hp (by omega)]
        rw [show (b || (decide (20 ≤ t.Op) && decide (t.Op ≤ 29))) = (b || aggB t.Op) by simp [aggB]]
        have hrest := rest_eq b t (c.tys kinds (b || aggB t.Op)) ⟨e, kinds, ((p + 1 + c.flat.length : Nat) : Int)⟩ (by rw [Fo.tys_len, w.1]) (tys_bd hk _ c) (kind_idx (ha t (by simp [flat])))
        refine Evl.bind (v := (c.tys kinds (b || aggB t.Op), ⟨e, kinds, ((p + 1 + c.flat.length : Nat) : Int)⟩)) ?_ (.of hrest)
        cases k with
        | zero => exact .inr ⟨by omega, rfl⟩
        | succ k =>
          show Evl _ (types_checker_operands.body (RR k).1 (RR k).2 ⟨e, kinds, ((p + 1 : Nat) : Int)⟩ (arI t.Op) (b || aggB t.Op)) _
          unfold types_checker_operands.body
          have hc3 := cnt_le3 w
          rw [w.1, mksl, if_pos ⟨by omega, by omega, by omega, by omega⟩, Int.toNat_natCast, Option.bind_some]
          have := ihc k (p + 1) (s.flat ++ l) (b || aggB t.Op) [] (List.replicate c.cnt 0) w.2.1 (by rw [h2, List.append_assoc]) hac (by simp) (by simp; omega)
          exact Evl.bind (this.mono (by omega)) (.of rfl)
    rw [loopO_eq]
    have hd2 : e.drop (p + 1 + c.flat.length) = s.flat ++ l := by
      apply drop_add; rw [h2, List.append_assoc]
    have hih := ihs k (p + 1 + c.flat.length) l b (done ++ [tyK kinds b t c]) y1 w.2.2 hd2 has (by simp [hy, cnt]; omega) h10
    have hlen : done.length < y1.length := by rw [hy]; simp [cnt]
    have hstep : Evl (2 * (c.depth + 1) ≤ k) (types_checker_operands.l10 b (RR k).2 y1 ((done.length : Int), e, kinds, (p : Int), done ++ List.replicate (nd t c s).cnt 0)) (.inl (((done ++ [tyK kinds b t c]).length : Int), e, kinds, ((p + 1 + c.flat.length : Nat) : Int), (done ++ [tyK kinds b t c]) ++ List.replicate s.cnt 0)) := by
      unfold types_checker_operands.l10
      simp only [decide_eq_true (show (done.length : Int) < (y1.length : Int) by omega), cond_true]
      refine Evl.bind hread (.of ?_)
      rw [idx_nat (by simp [cnt]), Option.bind_some, wr_succ hlen (by omega)]
      simp [cnt, List.replicate_succ]
    refine Evl.bind (hstep.mono (by simp only [depth]; omega)) ?_
    have : p + (nd t c s).flat.length = p + 1 + c.flat.length + s.flat.length := by simp [flat]; omega
    rw [this]
    have e2 : done ++ (nd t c s).tys kinds b = (done ++ [tyK kinds b t c]) ++ s.tys kinds b := by simp [tys, tyK]
    rw [e2]
    exact hih.mono (by simp only [depth]; omega)
theorem of_eq {e : List ApiTerm} {kinds : List Int} (hk : okK kinds) {t : ApiTerm} {c : Fo} (v : Vld e (kinds.length : Int) t c) (b : Bool) : types_of e kinds b = some (tyK kinds b t c) := by
  have hargs : ∀ x ∈ (nd t c nil).flat, argB x (kinds.length : Int) = true := fun x hx => by
    have := List.all_eq_true.1 v.args x (by rw [v.eq]; simpa [flat] using hx)
    exact this
  have hlen := v.len
  have hd : e.drop 0 = (nd t c nil).flat ++ [] := by rw [v.eq]; simp [flat]
  have hread : types_checker_read ⟨e, kinds, 0⟩ b = some (tyK kinds b t c, ⟨e, kinds, ((1 + c.flat.length : Nat) : Int)⟩) := by
    refine supO_ev (2 * (c.depth + 1)) (fun k => ?_)
    have := loop_read hk (by omega) (nd t c nil) k 0 [] b [] [0] v.w hd hargs rfl (by simp)
    rw [loopO_eq] at this
    have hs : (types_checker_operands.l10 b (RR k).2 [0] ((([] : List Int).length : Int), e, kinds, ((0 : Nat) : Int), [] ++ List.replicate (nd t c nil).cnt 0)) = ((RR k).2 ⟨e, kinds, 0⟩ b).bind (fun y8 => some (Sum.inl ((1 : Int), y8.2.e, y8.2.kinds, y8.2.at_, [y8.1]))) := by
      unfold types_checker_operands.l10
      simp [cnt, idx, wr]
    rw [hs] at this
    clear hs
    rcases hx : (RR k).2 ⟨e, kinds, 0⟩ b with _ | ⟨x, ⟨e', k', a'⟩⟩
    · rw [hx] at this
      rcases this with h | ⟨h, _⟩
      · simp at h
      · exact .inr ⟨by simp only [depth] at h; omega, rfl⟩
    · rw [hx] at this
      refine .inl ?_
      rcases this with h | ⟨_, h⟩
      · simp only [Option.bind_some, Sum.elim_inl] at h
        rw [loopO_eq] at h
        have e1 : types_checker_operands.l10 b (RR k).2 [0] ((1 : Int), e', k', a', [x]) = some (.inr (e', k', a', [x])) := by
          unfold types_checker_operands.l10; simp
        rw [e1] at h
        simp only [Option.bind_some, Sum.elim_inr, Option.some.injEq, Prod.mk.injEq, tys, List.nil_append, List.cons.injEq, flat, List.append_nil, List.length_cons] at h
        obtain ⟨rfl, rfl, rfl, h, _⟩ := h
        rw [h]; simp only [tyK]
        congr 3; omega
      · simp only [Option.bind_some, Sum.elim_inl] at h
        rw [loopO_eq] at h
        have e1 : types_checker_operands.l10 b (RR k).2 [0] ((1 : Int), e', k', a', [x]) = some (.inr (e', k', a', [x])) := by
          unfold types_checker_operands.l10; simp
        rw [e1] at h
        simp at h
  unfold types_of
  rw [hread]; rfl
end Go.Proofs.Ytkpghgnbbfpbmaa
