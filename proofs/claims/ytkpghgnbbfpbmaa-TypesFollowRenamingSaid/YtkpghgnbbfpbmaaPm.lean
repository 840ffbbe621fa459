/- The reference's kind by place; the two answers together. -/
import Derived.Test.YtkpghgnbbfpbmaaPl
set_option linter.unusedSimpArgs false
set_option linter.unusedVariables false
namespace Go.Proofs.Ytkpghgnbbfpbmaa
open Fo

theorem endI_tree {e : List ApiTerm} {p : Nat} {t : ApiTerm} {c : Fo} {l : List ApiTerm} (w1 : arI t.Op = (c.cnt : Int)) (w2 : c.wf) (h : e.drop p = t :: (c.flat ++ l)) : endI e p = ((p + 1 + c.flat.length : Nat) : Int) := by
  have := endn_flat (nd t c nil) 0 l ⟨w1, w2, trivial⟩
  simp only [cnt, flat, List.append_nil, Nat.zero_add, Nat.add_zero, List.cons_append] at this
  have hl : endn 0 l = some l := by cases l <;> rfl
  have hlen : e.length - p = 1 + c.flat.length + l.length := by
    have := congrArg List.length h
    simp at this; omega
  obtain ⟨hp, _, _⟩ := at_drop h
  unfold endI
  rw [h, this, hl]
  simp only; omega
def Fo.off : Fo → Nat → Nat
  | _, 0 => 0
  | nil, _ + 1 => 0
  | nd t c s, k + 1 => 1 + c.flat.length + s.off k
theorem opd_loop {e : List ApiTerm} (he : e.length ≤ 1000) (kk : Nat) (hkk : kk ≤ 10) : ∀ (k : Nat) (F : Fo) (i q : Nat) (l : List ApiTerm), F.wf → k ≤ F.cnt → i + k = kk → e.drop q = F.flat ++ l →
    loopO (ref05_Operand.l14 e (kk : Int)) ((q : Int), (i : Int)) = some (((q + F.off k : Nat)) : Int)
  | 0, F, i, q, l, w, hc, hi, hd => by
    rw [loopO_eq]
    unfold ref05_Operand.l14
    simp [show ¬ ((i : Int) < (kk : Int)) by omega, off]
  | k + 1, nil, i, q, l, w, hc, hi, hd => by simp [cnt] at hc
  | k + 1, nd t c s, i, q, l, w, hc, hi, hd => by
    have hd' : e.drop q = t :: (c.flat ++ (s.flat ++ l)) := by rw [hd]; simp [flat]
    obtain ⟨hp, h1, h2⟩ := at_drop hd'
    rw [loopO_eq]
    have e1 : ref05_Operand.l14 e (kk : Int) ((q : Int), (i : Int)) = some (.inl (((q + 1 + c.flat.length : Nat) : Int), ((i + 1 : Nat) : Int))) := by
      unfold ref05_Operand.l14
      simp only [decide_eq_true (show (i : Int) < (kk : Int) by omega), cond_true, End5_eq e q (by omega) he, endI_tree w.1 w.2.1 hd', Option.bind_some]
      rw [wr_succ (n := kk) (by omega) (by omega)]
    rw [e1, Option.bind_some, Sum.elim_inl]
    rw [opd_loop he kk hkk k s (i + 1) _ l w.2.2 (by simp only [cnt] at hc; omega) (by omega) (drop_add (a := c.flat) (p := q + 1) h2)]
    simp only [off]; congr 2; omega
theorem Operand_eq {e : List ApiTerm} (he : e.length ≤ 1000) {p : Nat} {t : ApiTerm} {c : Fo} {l : List ApiTerm} (w1 : arI t.Op = (c.cnt : Int)) (w2 : c.wf) (h : e.drop p = t :: (c.flat ++ l)) (k : Nat) (hk : k < c.cnt) : ref05_Operand e (p : Int) (k : Int) = some ((p + 1 + c.off k : Nat) : Int) := by
  obtain ⟨hp, h1, h2⟩ := at_drop h
  have hb := arI_bd t.Op
  unfold ref05_Operand
  rw [End5_eq e p (by omega) he, endI_tree w1 w2 h, Option.bind_some]
  have a1 : ¬ (((p + 1 + c.flat.length : Nat) : Int) < 0) := by omega
  have a2 : ¬ ((k : Int) < 0) := by omega
  have a3 : ¬ (arI t.Op ≤ (k : Int)) := by omega
  simp only [decide_eq_false a1, decide_eq_false a2, Bool.or_false, cond_false, idx_nat hp, h1, arity5_eq, Option.bind_some, decide_eq_false a3]
  rw [wr_succ hp (by omega)]
  have := opd_loop he k (by omega) k c 0 (p + 1) l w2 (by omega) (by omega) h2
  rw [show ((0 : Nat) : Int) = 0 from rfl] at this
  rw [this]; rfl

theorem leaf7_eq (t : ApiTerm) (kinds : List Int) (b : Bool) (hi : t.Op = 5 ∨ t.Op = 12 → idx kinds t.Arg = some (kinds.getD t.Arg.toNat 0)) (h1 : 1 ≤ t.Op) (h2 : t.Op ≤ 17) : ref07_leaf t kinds b = some (leafK kinds t b) := by
  have : t.Op = 1 ∨ t.Op = 2 ∨ t.Op = 3 ∨ t.Op = 4 ∨ t.Op = 5 ∨ t.Op = 6 ∨ t.Op = 7 ∨ t.Op = 8 ∨ t.Op = 9 ∨ t.Op = 10 ∨ t.Op = 11 ∨ t.Op = 12 ∨ t.Op = 13 ∨ t.Op = 14 ∨ t.Op = 15 ∨ t.Op = 16 ∨ t.Op = 17 := by omega
  rcases this with h | h | h | h | h | h | h | h | h | h | h | h | h | h | h | h | h <;>
    (cases b <;> simp_all [ref07_leaf, leafK])
theorem single7_eq (op a : Int) : ref07_single op a = some (singleK op a) := by
  unfold ref07_single singleK
  by_cases h1 : op = 19
  · subst h1; by_cases h : a = 2 <;> simp [h]
  by_cases h2 : op = 20
  · subst h2; by_cases h : a = 2 <;> simp [h]
  by_cases h3 : op = 21
  · subst h3; by_cases h : a = 2 <;> simp [h]
  by_cases h4 : op = 22
  · subst h4; by_cases h : a = 2 <;> simp [h]
  by_cases h5 : op = 23
  · subst h5; by_cases h : a = 2 <;> simp [h]
  by_cases h : a = 1 <;> simp [h1, h2, h3, h4, h5, h]
theorem double7_eq (op a b : Int) : ref07_double op a b = some (doubleK op a b) := by
  unfold ref07_double doubleK
  simp only [← decide_not, ← Bool.decide_or, ← Bool.decide_and, Bool.cond_decide]
  repeat' split
  all_goals first | rfl | (exfalso; omega) | omega
def AllK (e : List ApiTerm) (kinds : List Int) (b : Bool) : Nat → Fo → Prop
  | _, nil => True
  | p, nd t c s => (∀ k, Evl (c.depth + 1 ≤ k) (ref07_kind.rec k e (p : Int) kinds b) (tyK kinds b t c)) ∧ AllK e kinds b (p + 1 + c.flat.length) s
theorem allK {e : List ApiTerm} {kinds : List Int} (he : e.length ≤ 1000) : ∀ (F : Fo) (p : Nat) (l : List ApiTerm) (b : Bool), F.wf → e.drop p = F.flat ++ l → (∀ t ∈ F.flat, argB t (kinds.length : Int) = true) → AllK e kinds b p F := by
  intro F
  induction F with
  | nil => intros; trivial
  | nd t c s ihc ihs =>
    intro p l b w hd ha
    have hd' : e.drop p = t :: (c.flat ++ (s.flat ++ l)) := by rw [hd]; simp [flat]
    obtain ⟨hp, h1, h2⟩ := at_drop hd'
    have hc := fun b => ihc (p + 1) (s.flat ++ l) b w.2.1 h2 (fun x hx => ha x (by simp [flat, hx]))
    refine ⟨fun k => ?_, ihs _ l b w.2.2 (drop_add (a := c.flat) (p := p + 1) h2) (fun x hx => ha x (by simp [flat, hx]))⟩
    cases k with
    | zero => exact .inr ⟨by omega, rfl⟩
    | succ k =>
      show Evl _ (ref07_kind.body (ref07_kind.rec k) e (p : Int) kinds b) _
      have hO := fun k hk => Operand_eq he w.1 w.2.1 hd' k hk
      have wa := w.1
      unfold ref07_kind.body
      simp only [idx_nat hp, h1, Option.bind_some, arity5_eq, wa]
      rw [wr_succ hp (by omega)]
      unfold arI at wa
      cases c with
      | nil =>
        simp only [cnt] at wa ⊢
        have hr : 1 ≤ t.Op ∧ t.Op ≤ 17 := by
          repeat' split at wa
          all_goals omega
        simp only [show ((0 : Nat) : Int) = 0 from rfl, decide_true, cond_true]
        rw [leaf7_eq t kinds b (kind_idx (ha t (by simp [flat]))) hr.1 hr.2]
        exact .of rfl
      | nd t1 c1 s1 =>
        cases s1 with
        | nil =>
          simp only [cnt] at wa ⊢
          have hagg : ((bif b then some true else ((ref05_Aggregate t.Op).bind (fun (y10 : Bool) => (some y10)))) : Option Bool) = some (b || aggB t.Op) := by
            rw [agg5_eq]; cases b <;> rfl
          simp only [show ((0 + 1 : Nat) : Int) = 1 from rfl, decide_true, cond_true, show decide ((1 : Int) = 0) = false from rfl, cond_false, hagg, Option.bind_some]
          refine Evl.bind (((hc (b || aggB t.Op)).1 k).mono (by simp only [depth]; omega)) (.of ?_)
          rw [single7_eq]; rfl
        | nd t2 c2 s2 =>
          have hge : 30 ≤ t.Op := by
            simp only [cnt] at wa
            repeat' split at wa
            all_goals omega
          have hag : aggB t.Op = false := by unfold aggB; simp; omega
          have hcb := hc b
          have hb0 : (b || aggB t.Op) = b := by rw [hag]; cases b <;> rfl
          have hty : ∀ C, tyK kinds b t C = cmbK kinds t b (C.tys kinds b) := fun C => by unfold tyK; rw [hb0]
          have hO1 := hO 1 (by simp [cnt])
          simp only [off] at hO1
          cases s2 with
          | nil =>
            simp only [cnt] at wa ⊢
            simp only [show ((0 + 1 + 1 : Nat) : Int) = 2 from rfl, decide_true, cond_true, show decide ((2 : Int) = 0) = false from rfl, show decide ((2 : Int) = 1) = false from rfl, cond_false]
            refine Evl.bind ((hcb.1 k).mono (by simp only [depth]; omega)) ?_
            rw [show (1 : Int) = ((1 : Nat) : Int) from rfl, hO1, Option.bind_some]
            have h3 := hcb.2.1 k
            rw [show p + 1 + 1 + c1.flat.length = p + 1 + (1 + c1.flat.length + 0) by omega] at h3
            refine Evl.bind (h3.mono (by simp only [depth]; omega)) (.of ?_)
            rw [double7_eq, hty]; rfl
          | nd t3 c3 s3 =>
            cases s3 with
            | nil =>
              have hO2 := hO 2 (by simp [cnt])
              simp only [off] at hO2
              simp only [cnt] at wa ⊢
              simp only [show ((0 + 1 + 1 + 1 : Nat) : Int) = 3 from rfl, decide_true, cond_true, show decide ((3 : Int) = 0) = false from rfl, show decide ((3 : Int) = 1) = false from rfl, show decide ((3 : Int) = 2) = false from rfl, cond_false]
              refine Evl.bind ((hcb.1 k).mono (by simp only [depth]; omega)) ?_
              rw [show (1 : Int) = ((1 : Nat) : Int) from rfl, hO1, Option.bind_some]
              have h3 := hcb.2.1 k
              rw [show p + 1 + 1 + c1.flat.length = p + 1 + (1 + c1.flat.length + 0) by omega] at h3
              refine Evl.bind (h3.mono (by simp only [depth]; omega)) ?_
              rw [show (2 : Int) = ((2 : Nat) : Int) from rfl, hO2, Option.bind_some]
              have h4 := hcb.2.2.1 k
              rw [show p + 1 + 1 + c1.flat.length + 1 + c2.flat.length = p + 1 + (1 + c1.flat.length + (1 + c2.flat.length + 0)) by omega] at h4
              refine Evl.bind (h4.mono (by simp only [depth]; omega)) (.of ?_)
              rw [hty]
              show _ = some (tripleK (tyK kinds b t1 c1) (tyK kinds b t2 c2) (tyK kinds b t3 c3))
              unfold tripleK
              generalize tyK kinds b t1 c1 = x
              generalize tyK kinds b t2 c2 = y
              generalize tyK kinds b t3 c3 = z
              simp only [← decide_not, ← Bool.decide_or, ← Bool.decide_and, Bool.cond_decide]
              repeat' split
              all_goals first | rfl | (exfalso; omega) | omega
            | nd t4 c4 s4 =>
              exfalso
              simp only [cnt] at wa
              repeat' split at wa
              all_goals omega
theorem kind_eq {e : List ApiTerm} {kinds : List Int} {t : ApiTerm} {c : Fo} (v : Vld e (kinds.length : Int) t c) (b : Bool) : ref07_kind e 0 kinds b = some (tyK kinds b t c) := by
  have hargs : ∀ x ∈ (nd t c nil).flat, argB x (kinds.length : Int) = true := fun x hx => by
    have := List.all_eq_true.1 v.args x (by rw [v.eq]; simpa [flat] using hx)
    exact this
  have hlen := v.len
  have hd : e.drop 0 = (nd t c nil).flat ++ [] := by rw [v.eq]; simp [flat]
  exact supO_ev (c.depth + 1) (fun k => (allK (by omega) (nd t c nil) 0 [] b v.w hd hargs).1 k)

/-! ### The answers -/
structure Good (e : List ApiTerm) (kinds : List Int) (t : ApiTerm) (c : Fo) : Prop where
  k6 : kinds.length ≤ 6
  ok : okK kinds
  v : Vld e (kinds.length : Int) t c
def outK (k : Int) : Int × Int := if k = 0 then (0, 6) else (k, 0)
theorem kinds_T (kinds : List Int) (hk : kinds.length ≤ 1000) {x : Option (Int × Int)} : (okK kinds ∧ (loopO (types_Of.l13 kinds) 0).bind (Sum.elim (fun (w3 : Unit) => x) (fun (w7 : (Int × Int)) => some w7)) = x) ∨ (¬ okK kinds ∧ (loopO (types_Of.l13 kinds) 0).bind (Sum.elim (fun (w3 : Unit) => x) (fun (w7 : (Int × Int)) => some w7)) = some (0, 7)) := by
  have key := range_to (step := types_Of.l13 kinds) kinds.length (fun i => (i : Int)) (fun i => ∀ x ∈ kinds.take i, 1 ≤ x ∧ x ≤ 3) (fun o => (o = .inl () ∧ okK kinds) ∨ (o = .inr (0, 7) ∧ ¬ okK kinds)) (fun t ht => by simp at ht) (fun i hi hg => ?_) (fun hg => ?_)
  · obtain ⟨o, h1, h2⟩ := key
    rw [show (0 : Int) = ((0 : Nat) : Int) from rfl, h1]
    rcases h2 with ⟨rfl, h2⟩ | ⟨rfl, h2⟩
    · exact .inl ⟨h2, rfl⟩
    · exact .inr ⟨h2, rfl⟩
  · unfold types_Of.l13 types_kind
    simp only [decide_eq_true (show (i : Int) < (kinds.length : Int) by omega), cond_true, idx_nat hi, Option.bind_some]
    by_cases ha : kinds[i] = 1 ∨ kinds[i] = 2 ∨ kinds[i] = 3
    · refine .inl ⟨by rw [wr_succ hi (by omega)]; rcases ha with ha | ha | ha <;> simp [ha], fun t ht => ?_⟩
      rw [take_succ hi] at ht
      rcases List.mem_append.1 ht with h | h
      · exact hg t h
      · simp at h; rw [h]; omega
    · refine .inr ⟨.inr (0, 7), by simp [show ¬ kinds[i] = 1 by omega, show ¬ kinds[i] = 2 by omega, show ¬ kinds[i] = 3 by omega], .inr ⟨rfl, fun h => ?_⟩⟩
      have := h _ (List.getElem_mem hi); omega
  · exact ⟨.inl (), by unfold types_Of.l13; simp, .inl ⟨rfl, fun x hx => hg x (by rwa [List.take_length])⟩⟩
theorem kinds_7 (kinds : List Int) (hk : kinds.length ≤ 1000) {x : Option (Int × Int)} : (okK kinds ∧ (loopO (ref07_Of.l13 kinds) 0).bind (Sum.elim (fun (w3 : Unit) => x) (fun (w7 : (Int × Int)) => some w7)) = x) ∨ (¬ okK kinds ∧ (loopO (ref07_Of.l13 kinds) 0).bind (Sum.elim (fun (w3 : Unit) => x) (fun (w7 : (Int × Int)) => some w7)) = some (0, 7)) := kinds_T kinds hk
theorem Of_both (e : List ApiTerm) (kinds : List Int) (b : Bool) (he : e.length ≤ 300) (hk : kinds.length ≤ 10) :
    (∃ t c, Good e kinds t c ∧ types_Of e kinds b = some (outK (tyK kinds b t c)) ∧ ref07_Of e kinds b = some (outK (tyK kinds b t c))) ∨ ((¬ ∃ t c, Good e kinds t c) ∧ types_Of e kinds b = some (0, 7) ∧ ref07_Of e kinds b = some (0, 7)) := by
  unfold types_Of ref07_Of
  by_cases h6 : 6 < (kinds.length : Int)
  · refine .inr ⟨?_, by simp [h6], by simp [h6]⟩
    rintro ⟨t, c, g⟩; have := g.k6; omega
  · simp only [decide_eq_false h6, cond_false]
    by_cases hok : okK kinds
    · rcases kinds_T kinds (by omega) (x := ((term_Valid e ((List.length kinds : Int))).bind (fun (y5 : Bool) => (bif (!y5) then (some (0, 7)) else ((types_of e kinds b).bind (fun (y6 : Int) => (bif (!decide (y6 = 0)) then (some (y6, 0)) else (some (0, 6)))))))) ) with ⟨_, hT⟩ | ⟨h, _⟩
      · rcases kinds_7 kinds (by omega) (x := ((ref05_Valid e ((List.length kinds : Int))).bind (fun (y5 : Bool) => (bif (!y5) then (some (0, 7)) else ((ref07_kind e 0 kinds b).bind (fun (y6 : Int) => (bif (decide (y6 = 0)) then (some (0, 6)) else (some (y6, 0)))))))) ) with ⟨_, h7⟩ | ⟨h, _⟩
        · rw [hT, h7]
          rcases Valid_both e (kinds.length : Int) (by omega) (by omega) (by omega) with ⟨t, c, v, h1, h2⟩ | ⟨hn, h1, h2⟩
          · rw [h1, h2]
            simp only [Option.bind_some, Bool.not_true, cond_false, of_eq hok v b, kind_eq v b]
            refine .inl ⟨t, c, ⟨by omega, hok, v⟩, ?_, ?_⟩
            · unfold outK; by_cases hz : tyK kinds b t c = 0 <;> simp [hz]
            · unfold outK; by_cases hz : tyK kinds b t c = 0 <;> simp [hz]
          · rw [h1, h2]
            refine .inr ⟨?_, rfl, rfl⟩
            rintro ⟨t, c, g⟩; exact hn ⟨t, c, g.v⟩
        · exact absurd hok h
      · exact absurd hok h
    · refine .inr ⟨fun ⟨t, c, g⟩ => hok g.ok, ?_, ?_⟩
      · rcases kinds_T kinds (by omega) (x := ((term_Valid e ((List.length kinds : Int))).bind (fun (y5 : Bool) => (bif (!y5) then (some (0, 7)) else ((types_of e kinds b).bind (fun (y6 : Int) => (bif (!decide (y6 = 0)) then (some (y6, 0)) else (some (0, 6)))))))) ) with ⟨h, _⟩ | ⟨_, h⟩
        · exact absurd h hok
        · exact h
      · rcases kinds_7 kinds (by omega) (x := ((ref05_Valid e ((List.length kinds : Int))).bind (fun (y5 : Bool) => (bif (!y5) then (some (0, 7)) else ((ref07_kind e 0 kinds b).bind (fun (y6 : Int) => (bif (decide (y6 = 0)) then (some (0, 6)) else (some (y6, 0)))))))) ) with ⟨h, _⟩ | ⟨_, h⟩
        · exact absurd h hok
        · exact h
end Go.Proofs.Ytkpghgnbbfpbmaa
