/- The reference's levels, arguments, validity. -/
import Derived.Test.YtkpghgnbbfpbmaaPi
set_option linter.unusedSimpArgs false
set_option linter.unusedVariables false
namespace Go.Proofs.Ytkpghgnbbfpbmaa
open Fo

def okSt (st : List (Int × Bool)) : Prop := ∀ x ∈ st, 1 ≤ x.1 ∧ x.1 ≤ 3
def pr1 (st : List (Int × Bool)) : List Int := (st.map (·.1)).reverse
def pr2 (st : List (Int × Bool)) : List Bool := (st.map (·.2)).reverse
theorem pr1_cons (n : Int) (b : Bool) (st : List (Int × Bool)) : pr1 ((n, b) :: st) = pr1 st ++ [n] := by simp [pr1]
theorem pr2_cons (n : Int) (b : Bool) (st : List (Int × Bool)) : pr2 ((n, b) :: st) = pr2 st ++ [b] := by simp [pr2]
theorem pr1_len (st : List (Int × Bool)) : (pr1 st).length = st.length := by simp [pr1]
theorem pr2_len (st : List (Int × Bool)) : (pr2 st).length = st.length := by simp [pr2]
theorem last_i {α : Type} (l : List α) (x : α) (hl : l.length ≤ 1000) : IntKind.i64.wrap (((l ++ [x]).length : Int) - 1) = (l.length : Int) := by
  rw [wr (by rw [List.length_append, List.length_singleton]; omega) (by rw [List.length_append, List.length_singleton]; omega)]; simp
theorem idx_last {α : Type} (l : List α) (x : α) : idx (l ++ [x]) (l.length : Int) = some x := by rw [idx_nat (by simp)]; simp
theorem slc_last {α : Type} (l : List α) (x : α) : slc (l ++ [x]) 0 (l.length : Int) = some l := by
  rw [slc, if_pos ⟨by omega, by omega, by simp; omega⟩]; simp
theorem l36_eq : ∀ (st : List (Int × Bool)) (n : Int) (b : Bool), okSt st → 0 ≤ n → n ≤ 3 → st.length ≤ 999 →
    loopO ref05_levels.l36 (pr1 ((n, b) :: st), pr2 ((n, b) :: st)) = some (pr1 (popz ((n, b) :: st)), pr2 (popz ((n, b) :: st))) ∧ okSt (popz ((n, b) :: st)) ∧ (popz ((n, b) :: st)).length ≤ st.length + 1 := by
  intro st
  induction st with
  | nil =>
    intro n b _ h0 h3 _
    rw [popz_eq]
    by_cases hn : n = 0
    · subst hn
      rw [if_pos rfl]
      refine ⟨?_, by intro x hx; simp [decT, popz] at hx, by simp [decT, popz]⟩
      rw [loopO_eq]
      have e : ref05_levels.l36 (pr1 [((0 : Int), b)], pr2 [((0 : Int), b)]) = some (.inl ([], [])) := by
        unfold ref05_levels.l36
        simp [pr1, pr2, wr, idx, slc]
      rw [e, Option.bind_some, Sum.elim_inl, loopO_eq]
      have e : ref05_levels.l36 (([] : List Int), ([] : List Bool)) = some (.inr ([], [])) := by
        unfold ref05_levels.l36
        simp
      rw [e]; rfl
    · rw [if_neg hn]
      refine ⟨?_, by intro x hx; simp at hx; subst hx; simp; omega, by simp⟩
      rw [loopO_eq]
      have e : ref05_levels.l36 (pr1 [(n, b)], pr2 [(n, b)]) = some (.inr (pr1 [(n, b)], pr2 [(n, b)])) := by
        unfold ref05_levels.l36
        simp [pr1, pr2, wr, idx, hn]
      rw [e]; rfl
  | cons x st ih =>
    obtain ⟨n', b'⟩ := x
    intro n b hok h0 h3 hl
    have hl' : st.length ≤ 998 := by simp at hl; omega
    have hx := hok (n', b') (by simp)
    simp only at hx
    rw [popz_eq]
    have hlast : IntKind.i64.wrap (((pr1 ((n', b') :: st) ++ [n]).length : Int) - 1) = ((pr1 ((n', b') :: st)).length : Int) := last_i _ _ (by rw [pr1_len]; simp; omega)
    have hlast2 : IntKind.i64.wrap (((pr2 ((n', b') :: st) ++ [b]).length : Int) - 1) = ((pr2 ((n', b') :: st)).length : Int) := last_i _ _ (by rw [pr2_len]; simp; omega)
    have hpos : decide (0 < (((pr1 ((n', b') :: st)) ++ [n]).length : Int)) = true := by simp
    rw [loopO_eq, pr1_cons n, pr2_cons n]
    by_cases hn : n = 0
    · subst hn
      rw [if_pos rfl]
      have hlast3 : IntKind.i64.wrap (((pr1 st ++ [n']).length : Int) - 1) = ((pr1 st).length : Int) := last_i _ _ (by rw [pr1_len]; omega)
      have hpos2 : decide (0 < ((pr1 st ++ [n']).length : Int)) = true := by simp
      have e : ref05_levels.l36 (pr1 ((n', b') :: st) ++ [0], pr2 ((n', b') :: st) ++ [b]) = some (.inl (pr1 ((n' - 1, b') :: st), pr2 ((n' - 1, b') :: st))) := by
        unfold ref05_levels.l36
        simp only [hpos, cond_true, hlast, idx_last, Option.bind_some, decide_true, slc_last, hlast2]
        simp only [pr1_cons, hlast3, idx_last, Option.bind_some, hpos2, cond_true]
        rw [wr (by omega) (by omega), Int.toNat_natCast, pr2_cons, pr2_cons]
        simp
      rw [e, Option.bind_some, Sum.elim_inl]
      obtain ⟨h1, h2, h4⟩ := ih (n' - 1) b' (fun y hy => hok y (by simp [hy])) (by omega) (by omega) (by omega)
      exact ⟨h1, h2, by show (popz (decT ((n', b') :: st))).length ≤ _; simp only [decT, List.length_cons] at h4 ⊢; omega⟩
    · rw [if_neg hn]
      refine ⟨?_, ?_, by simp⟩
      · have e : ref05_levels.l36 (pr1 ((n', b') :: st) ++ [n], pr2 ((n', b') :: st) ++ [b]) = some (.inr (pr1 ((n', b') :: st) ++ [n], pr2 ((n', b') :: st) ++ [b])) := by
          unfold ref05_levels.l36
          simp only [hpos, cond_true, hlast, idx_last, Option.bind_some, decide_eq_false hn, cond_false]
        rw [e, ← pr1_cons, ← pr2_cons]; rfl
      · intro y hy
        rcases List.mem_cons.1 hy with rfl | hy
        · exact ⟨by show 1 ≤ n; omega, h3⟩
        · exact hok y hy
theorem countP_take {l : List Bool} {i : Nat} (h : i < l.length) : (l.take (i + 1)).countP id = (l.take i).countP id + (l[i]).toNat := by
  rw [take_succ h, List.countP_append]; cases l[i] <;> rfl
theorem l40_eq (s5 : Int × Int × Int × (List Int) × (List Bool)) (y : Bool) (hl : s5.2.2.2.2.length ≤ 1000) : loopO (ref05_levels.l40 s5 y) (0, 0) = some (((s5.2.2.2.2 ++ [y]).countP id : Nat) : Int) := by
  generalize hL : s5.2.2.2.2 ++ [y] = L
  have hl' : L.length ≤ 1001 := by rw [← hL]; simp; omega
  have := range_all (step := ref05_levels.l40 s5 y) L.length (fun i => ((((L.take i).countP id : Nat) : Int), (i : Int))) ((L.countP id : Nat) : Int) (fun i hi => ?_) ?_
  · simpa using this
  · unfold ref05_levels.l40
    rw [hL]
    have hc : (L.take i).countP id ≤ i := Nat.le_trans List.countP_le_length (by simp; omega)
    simp only [decide_eq_true (show (i : Int) < (L.length : Int) by omega), cond_true, idx_nat hi, Option.bind_some, countP_take hi]
    rw [wr (n := (i : Int) + 1) (by omega) (by omega), wr (by omega) (by omega)]
    cases L[i] <;> simp
  · unfold ref05_levels.l40
    rw [hL]
    simp
theorem lev_append : ∀ (a b : List ApiTerm) (s : Nat × Nat × List (Int × Bool)), lev (a ++ b) s = lev b (lev a s)
  | [], b, s => rfl
  | t :: a, b, s => lev_append a b _
theorem opn_pr2 (st : List (Int × Bool)) : (pr2 st).countP id = opn st := by
  simp [pr2, opn, List.countP_map]
theorem levels_eq (e : List ApiTerm) (hl : e.length ≤ 900) (ha : ∀ t ∈ e, 0 ≤ arI t.Op) : ref05_levels e = some (((lev e (0, 0, [])).1 : Int), ((lev e (0, 0, [])).2.1 : Int)) := by
  have inv : ∀ i, i ≤ e.length → okSt (lev (e.take i) (0, 0, [])).2.2 ∧ (lev (e.take i) (0, 0, [])).2.2.length ≤ i := by
    intro i
    induction i with
    | zero => intro _; exact ⟨fun x hx => by simp [lev] at hx, by simp [lev]⟩
    | succ i ih =>
      intro hi
      obtain ⟨h1, h2⟩ := ih (by omega)
      have hi' : i < e.length := by omega
      have hb := arI_bd e[i].Op
      have h0 := ha e[i] (List.getElem_mem _)
      rw [take_succ hi', lev_append]
      obtain ⟨_, h5, h6⟩ := l36_eq _ (arI e[i].Op) (aggB e[i].Op) h1 h0 hb.2 (by omega)
      exact ⟨h5, by simp only [lev]; omega⟩
  have key := range_all (step := ref05_levels.l41 e) e.length (fun i => (((lev (e.take i) (0, 0, [])).1 : Int), ((lev (e.take i) (0, 0, [])).2.1 : Int), (i : Int), pr1 (lev (e.take i) (0, 0, [])).2.2, pr2 (lev (e.take i) (0, 0, [])).2.2)) (((lev e (0, 0, [])).1 : Int), ((lev e (0, 0, [])).2.1 : Int)) (fun i hi => ?_) ?_
  · unfold ref05_levels
    have e0 : (((0 : Int), (0 : Int), (0 : Int), ([] : List Int), ([] : List Bool))) = ((((lev (e.take 0) (0, 0, [])).1 : Int), ((lev (e.take 0) (0, 0, [])).2.1 : Int), ((0 : Nat) : Int), pr1 (lev (e.take 0) (0, 0, [])).2.2, pr2 (lev (e.take 0) (0, 0, [])).2.2)) := by simp [lev, pr1, pr2]
    rw [e0, key]; rfl
  · obtain ⟨h1, h2⟩ := inv i (by omega)
    have hb := arI_bd e[i].Op
    have h0 := ha e[i] (List.getElem_mem _)
    rw [take_succ hi, lev_append]
    generalize lev (e.take i) (0, 0, []) = s at *
    obtain ⟨d, n, st⟩ := s
    simp only at h1 h2
    obtain ⟨h4, h5, h6⟩ := l36_eq st (arI e[i].Op) (aggB e[i].Op) h1 h0 hb.2 (by omega)
    unfold ref05_levels.l41
    simp only [decide_eq_true (show (i : Int) < (e.length : Int) by omega), cond_true, idx_nat hi, Option.bind_some, arity5_eq, agg5_eq]
    rw [show room (List.length (pr1 st) + List.length [arI e[i].Op]) 8 = true by unfold room; rw [pr1_len]; simp; omega]
    rw [show room (List.length (pr2 st) + List.length [aggB e[i].Op]) 1 = true by unfold room; rw [pr2_len]; simp; omega]
    simp only [cond_true]
    rw [l40_eq _ _ (by show (pr2 st).length ≤ 1000; rw [pr2_len]; omega)]
    simp only [Option.bind_some]
    rw [← pr1_cons, ← pr2_cons, h4, Option.bind_some, opn_pr2, pr1_len, wr (by omega) (by omega)]
    simp only [lev, List.length_cons, Option.some.injEq, Sum.inl.injEq, Prod.mk.injEq]
    exact ⟨by omega, by omega, by omega, trivial⟩
  · unfold ref05_levels.l41
    simp

/-! ### Validity -/
def argB (t : ApiTerm) (v : Int) : Bool := decide (0 ≤ t.Arg ∧ (if t.Op = 1 then t.Arg ≤ 1073741824 else if t.Op = 5 ∨ t.Op = 12 then t.Arg < v else t.Arg = 0))
theorem argument_eq (t : ApiTerm) (v : Int) : ref05_argument t v = some (argB t v) := by
  unfold ref05_argument argB
  by_cases h1 : t.Op = 1
  · simp [h1]
  · by_cases h5 : t.Op = 5
    · simp [h1, h5]
    · by_cases h12 : t.Op = 12
      · simp [h1, h5, h12]
      · have : decide (t.Arg = 0) = decide (0 ≤ t.Arg ∧ t.Arg = 0) := decide_eq_decide.2 (by omega)
        simp only [h1, h5, h12, decide_false, cond_false, Option.bind_some, if_false, or_false, this]
theorem limit_eq (t : ApiTerm) (v : Int) (h0 : 0 ≤ v) (hv : v ≤ 1000) : ((bif (decide (t.Arg < 0)) then (some true) else ((term_limit t.Op v).bind (fun (y22 : Int) => (some (decide (y22 < t.Arg)))))) : Option Bool) = some (!argB t v) := by
  unfold term_limit argB
  by_cases hn : t.Arg < 0
  · simp only [hn, decide_true, cond_true, Option.some.injEq]
    have hx : ¬ 0 ≤ t.Arg := by omega
    simp [hx]
  · have hn' : 0 ≤ t.Arg := by omega
    have hw : IntKind.i64.wrap (v - 1) = v - 1 := wr (by omega) (by omega)
    rw [decide_eq_false hn, cond_false]
    by_cases h1 : t.Op = 1
    · simp only [h1, decide_true, cond_true, Option.bind_some, if_true, Option.some.injEq]
      rw [← decide_not]; exact decide_eq_decide.2 (by omega)
    · by_cases h5 : t.Op = 5
      · simp only [h5, hw, decide_true, decide_false, cond_true, cond_false, Option.bind_some, if_true, if_false, Option.some.injEq, true_or, show ¬ ((5 : Int) = 1) by decide]
        rw [← decide_not]; exact decide_eq_decide.2 (by omega)
      · by_cases h12 : t.Op = 12
        · simp only [h12, hw, decide_true, decide_false, cond_true, cond_false, Option.bind_some, if_true, if_false, Option.some.injEq, or_true, show ¬ ((12 : Int) = 1) by decide, show ¬ ((12 : Int) = 5) by decide]
          rw [← decide_not]; exact decide_eq_decide.2 (by omega)
        · simp only [h1, h5, h12, decide_false, cond_false, Option.bind_some, if_false, or_false, Option.some.injEq]
          rw [← decide_not]; exact decide_eq_decide.2 (by omega)
def argsB (e : List ApiTerm) (v : Int) : Bool := e.all (argB · v)
theorem range_argsT (e : List ApiTerm) (v : Int) (hl : e.length ≤ 1000) (h0 : 0 ≤ v) (hv : v ≤ 1000) : (loopO (term_Valid.l23 e v) 0).bind (Sum.elim (fun (w12 : Unit) => (some true)) (fun (w14 : Bool) => (some w14))) = some (argsB e v) := by
  have key := range_to (step := term_Valid.l23 e v) e.length (fun i => (i : Int)) (fun i => ∀ t ∈ e.take i, argB t v = true) (fun o => Sum.elim (fun (w12 : Unit) => (some true)) (fun (w14 : Bool) => (some w14)) o = some (argsB e v)) (fun t ht => by simp at ht) (fun i hi hg => ?_) (fun hg => ?_)
  · obtain ⟨o, h1, h2⟩ := key
    rw [show (0 : Int) = ((0 : Nat) : Int) from rfl, h1]; exact h2
  · unfold term_Valid.l23
    simp only [decide_eq_true (show (i : Int) < (e.length : Int) by omega), cond_true, idx_nat hi, Option.bind_some, limit_eq _ _ h0 hv]
    cases ha : argB e[i] v with
    | true =>
      refine .inl ⟨by simp [wr_succ hi (by omega)], fun t ht => ?_⟩
      rw [take_succ hi] at ht
      rcases List.mem_append.1 ht with h | h
      · exact hg t h
      · simp at h; rw [h, ha]
    | false =>
      refine .inr ⟨.inr false, by simp, ?_⟩
      simp only [Sum.elim_inr, Option.some.injEq, argsB]
      exact (List.all_eq_false.2 ⟨e[i], List.getElem_mem _, by simp [ha]⟩).symm
  · refine ⟨.inl (), by unfold term_Valid.l23; simp, ?_⟩
    simp only [Sum.elim_inl, Option.some.injEq, argsB]
    exact (List.all_eq_true.2 (fun t ht => hg t (by rwa [List.take_length]))).symm
theorem range_args5 (e : List ApiTerm) (v : Int) (hl : e.length ≤ 1000) : (loopO (ref05_Valid.l20 e v) 0).bind (Sum.elim (fun (w12 : Unit) => (some true)) (fun (w14 : Bool) => (some w14))) = some (argsB e v) := by
  have key := range_to (step := ref05_Valid.l20 e v) e.length (fun i => (i : Int)) (fun i => ∀ t ∈ e.take i, argB t v = true) (fun o => Sum.elim (fun (w12 : Unit) => (some true)) (fun (w14 : Bool) => (some w14)) o = some (argsB e v)) (fun t ht => by simp at ht) (fun i hi hg => ?_) (fun hg => ?_)
  · obtain ⟨o, h1, h2⟩ := key
    rw [show (0 : Int) = ((0 : Nat) : Int) from rfl, h1]; exact h2
  · unfold ref05_Valid.l20
    simp only [decide_eq_true (show (i : Int) < (e.length : Int) by omega), cond_true, idx_nat hi, Option.bind_some, argument_eq]
    cases ha : argB e[i] v with
    | true =>
      refine .inl ⟨by simp [wr_succ hi (by omega)], fun t ht => ?_⟩
      rw [take_succ hi] at ht
      rcases List.mem_append.1 ht with h | h
      · exact hg t h
      · simp at h; rw [h, ha]
    | false =>
      refine .inr ⟨.inr false, by simp, ?_⟩
      simp only [Sum.elim_inr, Option.some.injEq, argsB]
      exact (List.all_eq_false.2 ⟨e[i], List.getElem_mem _, by simp [ha]⟩).symm
  · refine ⟨.inl (), by unfold ref05_Valid.l20; simp, ?_⟩
    simp only [Sum.elim_inl, Option.some.injEq, argsB]
    exact (List.all_eq_true.2 (fun t ht => hg t (by rwa [List.take_length]))).symm
/-- A valid expression's tree. -/
structure Vld (e : List ApiTerm) (v : Int) (t : ApiTerm) (c : Fo) : Prop where
  len : e.length ≤ 200
  w : (nd t c nil).wf
  eq : e = t :: c.flat
  depth : (nd t c nil).depth ≤ 24
  nest : (nd t c nil).nest ≤ 2
  args : argsB e v = true
theorem wf_ar : ∀ (F : Fo), F.wf → ∀ t ∈ F.flat, 0 ≤ arI t.Op
  | nil, _, t, ht => by simp [flat] at ht
  | nd u c s, w, t, ht => by
    have h1 := w.1
    simp only [flat, List.mem_cons, List.mem_append] at ht
    rcases ht with rfl | ht | ht
    · omega
    · exact wf_ar c w.2.1 t ht
    · exact wf_ar s w.2.2 t ht
theorem Valid_both (e : List ApiTerm) (v : Int) (hl : e.length ≤ 800) (h0 : 0 ≤ v) (hv : v ≤ 1000) : (∃ t c, Vld e v t c ∧ term_Valid e v = some true ∧ ref05_Valid e v = some true) ∨ ((¬ ∃ t c, Vld e v t c) ∧ term_Valid e v = some false ∧ ref05_Valid e v = some false) := by
  unfold term_Valid ref05_Valid
  rw [range_argsT e v (by omega) h0 hv, range_args5 e v (by omega), one_eq e (by omega), one5_eq e (by omega)]
  by_cases h2 : 200 < (e.length : Int)
  · refine .inr ⟨?_, by simp [h2], by simp [h2]⟩
    rintro ⟨t, c, h⟩; have := h.len; omega
  by_cases ho : oneB e = true
  · obtain ⟨t, c, w, rfl⟩ := (oneB_iff e).1 ho
    have hlv := levels_eq (t :: c.flat) (by omega) (fun x hx => wf_ar (nd t c nil) w x (by simpa [flat] using hx))
    rw [lev_one w] at hlv
    unfold ref05_Depth ref05_Nest
    rw [Depth_eq w (by omega), Nest_eq w (by omega), one5_eq _ (by omega), ho, hlv]
    have uniq : ∀ t' c', (nd t' c' nil).wf → t :: c.flat = t' :: c'.flat → (nd t' c' nil).depth = (nd t c nil).depth ∧ (nd t' c' nil).nest = (nd t c nil).nest := by
      intro t' c' w' e'
      have := lev_one w'
      rw [← e', lev_one w] at this
      simp only [Prod.mk.injEq] at this
      exact ⟨this.1.symm, this.2.1.symm⟩
    by_cases hd : 24 < ((nd t c nil).depth : Int)
    · refine .inr ⟨?_, by simp [h2, hd, -List.length_cons], by simp [h2, hd, -List.length_cons]⟩
      rintro ⟨t', c', h⟩
      have := h.depth; have := uniq t' c' h.w h.eq; omega
    · by_cases hn : 2 < ((nd t c nil).nest : Int)
      · refine .inr ⟨?_, by simp [h2, hd, hn, -List.length_cons], by simp [h2, hd, hn, -List.length_cons]⟩
        rintro ⟨t', c', h⟩
        have := h.nest; have := uniq t' c' h.w h.eq; omega
      · cases ha : argsB (t :: c.flat) v with
        | true => exact .inl ⟨t, c, ⟨by omega, w, rfl, by omega, by omega, ha⟩, by simp [h2, hd, hn, -List.length_cons], by simp [h2, hd, hn, -List.length_cons]⟩
        | false =>
          refine .inr ⟨?_, by simp [h2, hd, hn, -List.length_cons], by simp [h2, hd, hn, -List.length_cons]⟩
          rintro ⟨t', c', h⟩
          have := h.args; rw [ha] at this; cases this
  · have ho' : oneB e = false := by simpa using ho
    refine .inr ⟨?_, by simp [h2, ho'], by simp [h2, ho']⟩
    rintro ⟨t, c, h⟩
    exact ho ((oneB_iff e).2 ⟨t, c, h.w, h.eq⟩)
end Go.Proofs.Ytkpghgnbbfpbmaa
