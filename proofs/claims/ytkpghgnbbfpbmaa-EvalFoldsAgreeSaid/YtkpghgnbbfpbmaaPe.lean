/- The plain law of EvalFoldsAgree. -/
import Derived.Test.YtkpghgnbbfpbmaaPd
import Derived.Test.YtkpghgnbbfpbmaaL11e
set_option linter.unusedSimpArgs false
set_option linter.unusedVariables false
namespace Go.Proofs.Ytkpghgnbbfpbmaa

theorem sat_ne0 (x : Int) : (satI x = 0) ↔ (x = 0) := by unfold satI; omega
theorem minsI_snoc (l : List Int) (x : Int) : minsI (l ++ [x]) = min (minsI l) x := by simp [minsI, List.foldl_append]
theorem secI_snoc (l : List Int) (x : Int) : secI (l ++ [x]) = sec (secI l) x := by simp [secI, List.foldl_append]
theorem snoc_ind {α : Type} {C : List α → Prop} (h0 : C []) (h : ∀ l x, C l → C (l ++ [x])) (l : List α) : C l := by
  have : ∀ m : List α, C m.reverse := by
    intro m
    induction m with
    | nil => exact h0
    | cons x m ih => rw [List.reverse_cons]; exact h _ _ ih
  have := this l.reverse
  rwa [List.reverse_reverse] at this
theorem mins_le (l : List Int) : (∀ x ∈ l, minsI l ≤ x) ∧ minsI l ≤ 1073741824 ∧ (minsI l = 1073741824 ∨ minsI l ∈ l) := by
  refine snoc_ind (C := fun l => (∀ x ∈ l, minsI l ≤ x) ∧ minsI l ≤ 1073741824 ∧ (minsI l = 1073741824 ∨ minsI l ∈ l)) ⟨by simp, by simp [minsI], .inl rfl⟩ (fun l x ih => ?_) l
  obtain ⟨h1, h2, h3⟩ := ih
  rw [minsI_snoc]
  refine ⟨fun y hy => ?_, by omega, ?_⟩
  · rcases List.mem_append.1 hy with h | h
    · have := h1 y h; omega
    · simp at h; omega
  · by_cases h : x ≤ minsI l
    · right; rw [show min (minsI l) x = x by omega]; simp
    · rw [show min (minsI l) x = minsI l by omega]
      rcases h3 with h3 | h3
      · exact .inl h3
      · exact .inr (by simp [h3])
theorem secI_facts (l : List Int) : (∀ x ∈ l, x ≤ (secI l).1) ∧ -1073741824 ≤ (secI l).1 ∧ ((secI l).1 = -1073741824 ∨ (secI l).1 ∈ l) ∧ (secI l).2 ≤ (secI l).1 ∧ -1073741824 ≤ (secI l).2 ∧ l.countP (fun x => decide ((secI l).2 < x)) ≤ 1 := by
  refine snoc_ind (C := fun l => (∀ x ∈ l, x ≤ (secI l).1) ∧ -1073741824 ≤ (secI l).1 ∧ ((secI l).1 = -1073741824 ∨ (secI l).1 ∈ l) ∧ (secI l).2 ≤ (secI l).1 ∧ -1073741824 ≤ (secI l).2 ∧ l.countP (fun x => decide ((secI l).2 < x)) ≤ 1) ⟨by simp, by simp [secI], .inl rfl, by simp [secI], by simp [secI], by simp⟩ (fun l x ih => ?_) l
  obtain ⟨h1, h2, h3, h4, h5, h6⟩ := ih
  rw [secI_snoc]
  have q1 : (sec (secI l) x).1 = max (secI l).1 x := rfl
  have q2 : (sec (secI l) x).2 = max (secI l).2 (min (secI l).1 x) := rfl
  generalize sec (secI l) x = q at q1 q2 ⊢
  refine ⟨fun y hy => ?_, by omega, ?_, by omega, by omega, ?_⟩
  · rcases List.mem_append.1 hy with h | h
    · have := h1 y h; omega
    · simp at h; omega
  · by_cases h : (secI l).1 ≤ x
    · right; rw [show q.1 = x by omega]; simp
    · rw [show q.1 = (secI l).1 by omega]
      rcases h3 with h3 | h3
      · exact .inl h3
      · exact .inr (by simp [h3])
  · rw [List.countP_append]
    by_cases h : q.2 < x
    · have hm : q.2 = (secI l).1 := by omega
      have : l.countP (fun y => decide (q.2 < y)) = 0 := by
        rw [List.countP_eq_zero]
        intro y hy
        have := h1 y hy
        simp; omega
      rw [this]; simp [List.countP_cons]; split <;> omega
    · have hx : ([x] : List Int).countP (fun y => decide (q.2 < y)) = 0 := by
        simp [List.countP_cons]; omega
      rw [hx]
      have : l.countP (fun y => decide (q.2 < y)) ≤ l.countP (fun y => decide ((secI l).2 < y)) := by
        apply List.countP_mono_left
        intro y _ hy
        simp at hy ⊢; omega
      omega
theorem mexFrom_spec {l : List Int} : ∀ (f : Nat) (n : Nat), l.length + 1 ≤ n + f → (∀ j : Nat, j < n → (j : Int) ∈ l) → ∃ m : Nat, mexFrom l f n = m ∧ (∀ j : Nat, j < m → (j : Int) ∈ l) ∧ ¬ (m : Int) ∈ l
  | 0, n, h1, h2 => by have := len_of_all n l h2; omega
  | f + 1, n, h1, h2 => by
    simp only [mexFrom]
    by_cases h : (n : Int) ∈ l
    · rw [if_pos h]
      exact mexFrom_spec f (n + 1) (by omega) (fun j hj => by
        by_cases hj' : j < n
        · exact h2 j hj'
        · have : j = n := by omega
          subst this; exact h)
    · rw [if_neg h]; exact ⟨n, rfl, h2, h⟩
theorem mexI_spec (l : List Int) : ∃ m : Nat, mexI l = m ∧ m ≤ l.length ∧ ¬ (m : Int) ∈ l := by
  obtain ⟨m, h1, h2, h3⟩ := mexFrom_spec (l := l) (l.length + 1) 0 (by omega) (by simp)
  exact ⟨m, h1, len_of_all m l h2, h3⟩

def notT (x : Int) : Int := if x = 0 then 1 else 0
theorem countP_snoc (p : Int → Bool) (l : List Int) (x : Int) : (l ++ [x]).countP p = l.countP p + (if p x = true then 1 else 0) := by rw [List.countP_append]; simp [List.countP_cons]

theorem agree_loop (a not_ : List Int) (c d e f : Int × Int) (ha : a.length < 24) (hc : ∀ x ∈ a, c.1 ≤ x) (hd : ∀ x ∈ a, x ≤ d.1) (hf : ∀ x ∈ a, x ≠ f.1) :
    loopO (law11_EvalFoldsAgree.l77 (a, not_) c d e f) (0, -1, false, false, 0, 0) = some (.inl (cntT a, fstT a, a.any (fun x => decide (x = c.1)), a.any (fun x => decide (x = d.1)), ((a.countP fun x => decide (e.1 < x) : Nat) : Int))) := by
  have := range_all (step := law11_EvalFoldsAgree.l77 (a, not_) c d e f) a.length (fun i => (cntT (a.take i), fstT (a.take i), (a.take i).any (fun x => decide (x = c.1)), (a.take i).any (fun x => decide (x = d.1)), (((a.take i).countP fun x => decide (e.1 < x) : Nat) : Int), (i : Int)))
    (.inl (cntT a, fstT a, a.any (fun x => decide (x = c.1)), a.any (fun x => decide (x = d.1)), ((a.countP fun x => decide (e.1 < x) : Nat) : Int))) (fun i hi => ?_) (by unfold law11_EvalFoldsAgree.l77; simp)
  · simp only [List.take_zero] at this
    exact this
  · have hx := List.getElem_mem hi
    have x1 := hc _ hx
    have x2 := hd _ hx
    have x3 := hf _ hx
    have hcnt := cntT_le (a.take i)
    have hcp := List.countP_le_length (p := fun x => decide (e.1 < x)) (l := a.take i)
    rw [List.length_take] at hcnt hcp
    unfold law11_EvalFoldsAgree.l77
    simp only [Int.ofNat_lt, hi, decide_true, cond_true, idx_nat hi, Option.bind_some, wr_succ hi (show a.length ≤ 9223372036854775807 by omega)]
    have eA : (bif !decide (a[i] = 0) then bif decide (fstT (a.take i) < 0) then some (IntKind.i64.wrap (cntT (a.take i) + 1), (i : Int)) else some (IntKind.i64.wrap (cntT (a.take i) + 1), fstT (a.take i)) else some (cntT (a.take i), fstT (a.take i))) = some (cntT (a.take (i + 1)), fstT (a.take (i + 1))) := by
      rw [take_succ hi, cntT_snoc, fstT_snoc, List.length_take, Nat.min_eq_left (by omega), wr (by omega) (by omega)]
      by_cases h : a[i] = 0 <;> by_cases h' : fstT (a.take i) < 0 <;> simp [h, h', isT]
    have eB : ∀ p q : Bool, (bif p then bif q then some (true, true) else some (true, decide (a[i] = d.1)) else bif q then some (decide (a[i] = c.1), true) else some (decide (a[i] = c.1), decide (a[i] = d.1))) = some (p || decide (a[i] = c.1), q || decide (a[i] = d.1)) := by
      intro p q; cases p <;> cases q <;> simp
    have eC : (bif decide (a[i] < c.1) then some true else some (decide (d.1 < a[i]))) = some false := by
      rw [show decide (a[i] < c.1) = false by simp; omega, show decide (d.1 < a[i]) = false by simp; omega]; rfl
    have eD : decide (a[i] = f.1) = false := by simpa using x3
    rw [eA, eB]
    simp only [Option.bind_some]
    rw [eC]
    simp only [Option.bind_some, cond_false, eD]
    have eE : (((a.take i).countP fun x => decide (e.1 < x) : Nat) : Int) + (if decide (e.1 < a[i]) = true then 1 else 0) = (((a.take (i + 1)).countP fun x => decide (e.1 < x) : Nat) : Int) := by
      rw [take_succ hi, countP_snoc]; split <;> omega
    have any_snoc : ∀ p : Int → Bool, (a.take (i + 1)).any p = ((a.take i).any p || p a[i]) := by
      intro p; rw [take_succ hi, List.any_append]; simp
    rw [any_snoc, any_snoc, ← eE]
    cases h : decide (e.1 < a[i]) with
    | true => simp only [cond_true, if_true]; rw [wr (by omega) (by omega)]
    | false => simp

theorem pure_EvalFoldsAgree (l : List Int) (h1 : VSl (VInt .i64) l) : law11_EvalFoldsAgree l = some true := by
  unfold law11_EvalFoldsAgree
  rw [awake_eq]
  by_cases hc : l.length = 0 ∨ 24 ≤ l.length
  · rw [show (decide ((l.length : Int) = 0) || decide (24 ≤ (l.length : Int))) = true by simp only [Bool.or_eq_true, decide_eq_true_eq]; omega]; rfl
  · rw [show (decide ((l.length : Int) = 0) || decide (24 ≤ (l.length : Int))) = false by simp only [Bool.or_eq_false_iff, decide_eq_false_iff_not]; omega]
    simp only [cond_false]
    have hloop := range_all (step := law11_EvalFoldsAgree.l82 l) l.length (fun i => ((i : Int), (l.take i).map satI, (l.take i).map fun x => notT (satI x))) (l.map satI, l.map fun x => notT (satI x)) (fun i hi => by
      unfold law11_EvalFoldsAgree.l82
      have hr : room ((List.map satI (l.take i)).length + [satI l[i]].length) 8 = true := room8 (by simp; omega)
      have hr2 : ∀ z : Int, room ((List.map (fun x => notT (satI x)) (l.take i)).length + [z].length) 8 = true := fun z => room8 (by simp; omega)
      simp only [Int.ofNat_lt, hi, decide_true, cond_true, idx_nat hi, Option.bind_some, wr_succ hi h1.1, ref_sat, hr, hr2]
      rw [take_succ hi, List.map_append, List.map_append]
      by_cases hz : satI l[i] = 0 <;> simp [hz, notT] <;> (rw [room8 (by omega)]; rfl)) (by unfold law11_EvalFoldsAgree.l82; simp)
    simp only [List.take_zero, List.map_nil] at hloop
    have hloop' : loopO (law11_EvalFoldsAgree.l82 l) (0, [], []) = some (l.map satI, l.map fun x => notT (satI x)) := hloop
    rw [hloop']
    simp only [Option.bind_some]
    have hm : (l.map fun x => notT (satI x)) = (l.map satI).map notT := by simp
    rw [hm]
    have hlen : (l.map satI).length = l.length := by simp
    have hok : ∀ x ∈ l.map satI, okN x = true := by intro x hx; obtain ⟨y, _, rfl⟩ := List.mem_map.1 hx; exact sat_ok y
    generalize l.map satI = a at hok hlen ⊢
    have ha : a.length < 24 := by omega
    have ha0 : 0 < a.length := by omega
    have hokn : ∀ x ∈ a.map notT, okN x = true := by
      intro x hx; obtain ⟨y, _, rfl⟩ := List.mem_map.1 hx
      unfold notT; split <;> decide
    have hokI : ∀ x ∈ a, In30 x := fun x hx => (okN_iff x).1 (hok x hx)
    simp only [eval_Fold_eq _ _ (show a.length ≤ 9223372036854775807 by omega), eval_Fold_eq _ _ (show (a.map notT).length ≤ 9223372036854775807 by simp; omega), Option.bind_some]
    have fo : ∀ op : Int, 20 ≤ op → op ≤ 29 → foldR op a = (foldI' op a, 0) := fun op h2 h3 => foldR_in h2 h3 ha hok
    rw [fo 20 (by omega) (by omega), fo 22 (by omega) (by omega), fo 23 (by omega) (by omega), fo 24 (by omega) (by omega), fo 25 (by omega) (by omega), fo 27 (by omega) (by omega), fo 28 (by omega) (by omega), foldR_in (by omega) (by omega) (by simpa using ha) hokn]
    have v22 : foldI' 22 a = cntT a := by simp [foldI']
    have v23 : foldI' 23 a = fstT a := by simp [foldI']
    have v24 : foldI' 24 a = minsI a := by simp [foldI']
    have v25 : foldI' 25 a = (secI a).1 := by simp [foldI']
    have v27 : foldI' 27 a = mexI a := by simp [foldI']
    have v28 : foldI' 28 a = (secI a).2 := by simp [foldI']
    obtain ⟨n1, n2, n3⟩ := mins_le a
    obtain ⟨s1, s2, s3, s4, s5, s6⟩ := secI_facts a
    obtain ⟨m, m1, m2, m3⟩ := mexI_spec a
    have w1 : IntKind.i64.wrap (foldI' 20 a + foldI' 21 (a.map notT)) = 1 := by
      have e : (a.map notT).any isT = decide ((0 : Int) ∈ a) := by
        rw [Bool.eq_iff_iff, List.any_eq_true, decide_eq_true_iff]
        constructor
        · rintro ⟨x, hx, hp⟩
          obtain ⟨y, hy, rfl⟩ := List.mem_map.1 hx
          unfold notT at hp
          split at hp
          · rename_i h; rw [← h]; exact hy
          · simp [isT] at hp
        · intro h; exact ⟨notT 0, List.mem_map.2 ⟨0, h, rfl⟩, by decide⟩
      by_cases h : (0 : Int) ∈ a
      · rw [show foldI' 20 a = 0 by simp [foldI', h], show foldI' 21 (a.map notT) = 1 by simp only [foldI', e]; simp [h]]; decide
      · rw [show foldI' 20 a = 1 by simp [foldI', h], show foldI' 21 (a.map notT) = 0 by simp only [foldI', e]; simp [h]]; decide
    rw [v22, v23, v24, v25, v27, v28]
    simp only [decide_true, Bool.not_true, Bool.or_self, cond_false]
    rw [agree_loop a _ (minsI a, 0) ((secI a).1, 0) ((secI a).2, 0) (mexI a, 0) ha n1 s1 (fun x hx => by rintro rfl; rw [m1] at hx; exact m3 hx)]
    simp only [Option.bind_some, Sum.elim_inl]
    have y0 : a[0] ∈ a := List.getElem_mem ha0
    have hmin : minsI a ∈ a := by
      rcases n3 with h | h
      · have h1 := n1 _ y0; have h2 := hokI _ y0; unfold In30 at h2
        have : a[0] = minsI a := by omega
        rw [← this]; exact y0
      · exact h
    have hmax : (secI a).1 ∈ a := by
      rcases s3 with h | h
      · have h1 := s1 _ y0; have h2 := hokI _ y0; unfold In30 at h2
        have : a[0] = (secI a).1 := by omega
        rw [← this]; exact y0
      · exact h
    have a1 : a.any (fun x => decide (x = minsI a)) = true := List.any_eq_true.2 ⟨_, hmin, by simp⟩
    have a2 : a.any (fun x => decide (x = (secI a).1)) = true := List.any_eq_true.2 ⟨_, hmax, by simp⟩
    have c1 : decide (((a.countP fun x => decide ((secI a).2 < x) : Nat) : Int) ≤ 1) = true := by simp; omega
    have c2 : decide ((secI a).2 ≤ (secI a).1) = true := by simpa using s4
    have c3 : decide (0 ≤ mexI a) = true := by rw [m1]; simp
    have c4 : decide (mexI a ≤ (a.length : Int)) = true := by rw [m1]; simp; omega
    simp only [w1, a1, a2, c1, c2, c3, c4, decide_true, Bool.and_self]
end Go.Proofs.Ytkpghgnbbfpbmaa
