/- Plain laws of layer 11: the operations and the folds of the program and of the reference are the same. -/
import Derived.Test.YtkpghgnbbfpbmaaL11c
import Derived.Test.YtkpghgnbbfpbmaaDz
import Derived.Test.YtkpghgnbbfpbmaaDr
set_option linter.unusedSimpArgs false
set_option linter.unusedVariables false
namespace Go.Proofs.Ytkpghgnbbfpbmaa

def okN (x : Int) : Bool := decide (-1073741824 ≤ x) && decide (x ≤ 1073741824)
theorem small_eq (l : List Int) (hl : l.length ≤ 9223372036854775807) : eval_small l = some (l.all okN) := by
  unfold eval_small
  have hx := range_to (step := eval_small.l12 l) l.length (fun i => (i : Int)) (fun i => ∀ x ∈ l.take i, okN x = true)
    (fun o => Sum.elim (fun _ : Unit => some true) (fun w : Bool => some w) o = some (l.all okN)) (by simp) (fun i hi hg => ?_) (fun hg => ?_)
  · obtain ⟨o, h1, h2⟩ := hx
    rw [show (0 : Int) = ((0 : Nat) : Int) from rfl, h1]; exact h2
  · unfold eval_small.l12
    simp only [Int.ofNat_lt, hi, decide_true, cond_true, idx_nat hi, Option.bind_some, wr_succ hi hl]
    cases hx : okN l[i] with
    | true =>
      refine .inl ⟨?_, fun x hx' => ?_⟩
      · simp only [okN, Bool.and_eq_true, decide_eq_true_eq] at hx
        rw [show (decide (l[i] < -1073741824) || decide (1073741824 < l[i])) = false by simp; omega]; rfl
      · rw [take_succ hi] at hx'
        rcases List.mem_append.1 hx' with h | h
        · exact hg x h
        · simp at h; rw [h]; exact hx
    | false =>
      refine .inr ⟨.inr false, ?_, ?_⟩
      · simp only [okN, Bool.and_eq_false_iff, decide_eq_false_iff_not] at hx
        rw [show (decide (l[i] < -1073741824) || decide (1073741824 < l[i])) = true by simp; omega]; rfl
      · have : l.all okN = false := by rw [List.all_eq_false]; exact ⟨_, List.getElem_mem hi, by simp [hx]⟩
        rw [this]; rfl
  · refine ⟨.inl (), ?_, ?_⟩
    · unfold eval_small.l12; simp
    · rw [List.take_length] at hg
      have : l.all okN = true := by rw [List.all_eq_true]; exact hg
      rw [this]; rfl

theorem index_eq (l : List Int) (x : Int) (hl : l.length ≤ 9223372036854775807) : ∃ i, slices_Index l x = some i ∧ (0 ≤ i ↔ x ∈ l) := by
  unfold slices_Index
  have hx := range_to (step := slices_Index.l10 l x) l.length (fun i => (i : Int)) (fun i => x ∉ l.take i)
    (fun o => ∃ i, Sum.elim (fun _ : Unit => some (-1)) (fun w : Int => some w) o = some i ∧ (0 ≤ i ↔ x ∈ l)) (by simp) (fun i hi hg => ?_) (fun hg => ?_)
  · obtain ⟨o, h1, h2⟩ := hx
    rw [show (0 : Int) = ((0 : Nat) : Int) from rfl, h1]; exact h2
  · unfold slices_Index.l10
    simp only [Int.ofNat_lt, hi, decide_true, cond_true, idx_nat hi, Option.bind_some, wr_succ hi hl]
    by_cases hx : x = l[i]
    · refine .inr ⟨.inr i, by simp [hx], i, rfl, ?_⟩
      simp only [Int.natCast_nonneg, true_iff]; rw [hx]; exact List.getElem_mem hi
    · refine .inl ⟨by simp [hx], ?_⟩
      intro hm; rw [take_succ hi] at hm
      rcases List.mem_append.1 hm with h | h
      · exact hg h
      · exact hx (by simpa using h)
  · refine ⟨.inl (), ?_, -1, rfl, ?_⟩
    · unfold slices_Index.l10; simp
    · rw [List.take_length] at hg
      constructor
      · intro h; omega
      · intro h; exact absurd h hg
theorem contains_eq (l : List Int) (x : Int) (hl : l.length ≤ 9223372036854775807) : slices_Contains l x = some (decide (x ∈ l)) := by
  obtain ⟨i, h1, h2⟩ := index_eq l x hl
  unfold slices_Contains
  rw [h1, Option.bind_some]
  congr 1
  rw [decide_eq_decide]; exact h2
theorem occurs_eq (l : List Int) (x : Int) (hl : l.length ≤ 9223372036854775807) : ref11_occurs l x = some (decide (x ∈ l)) := by
  unfold ref11_occurs
  have hx := range_to (step := ref11_occurs.l10 l x) l.length (fun i => (i : Int)) (fun i => x ∉ l.take i)
    (fun o => Sum.elim (fun _ : Unit => some false) (fun w : Bool => some w) o = some (decide (x ∈ l))) (by simp) (fun i hi hg => ?_) (fun hg => ?_)
  · obtain ⟨o, h1, h2⟩ := hx
    rw [show (0 : Int) = ((0 : Nat) : Int) from rfl, h1]; exact h2
  · unfold ref11_occurs.l10
    simp only [Int.ofNat_lt, hi, decide_true, cond_true, idx_nat hi, Option.bind_some, wr_succ hi hl]
    by_cases hx : l[i] = x
    · refine .inr ⟨.inr true, by simp [hx], ?_⟩
      have : x ∈ l := hx ▸ List.getElem_mem hi
      simp [this]
    · refine .inl ⟨by simp [hx], ?_⟩
      intro hm; rw [take_succ hi] at hm
      rcases List.mem_append.1 hm with h | h
      · exact hg h
      · exact hx (by simpa using (by simpa using h : x = l[i]).symm)
  · refine ⟨.inl (), ?_, ?_⟩
    · unfold ref11_occurs.l10; simp
    · rw [List.take_length] at hg
      simp [hg]

/-! ### What the folds tell -/
def isT (x : Int) : Bool := !decide (x = 0)
/-- The place of the first true value, or -1. -/
def fstT (l : List Int) : Int := match l.findIdx? isT with
  | some i => i
  | none => -1
theorem fstT_hit {l : List Int} {i : Nat} (h : i < l.length) (hp : isT l[i] = true) (hn : ∀ x ∈ l.take i, isT x = false) : fstT l = i := by
  have : l.findIdx? isT = some i := by
    rw [List.findIdx?_eq_some_iff_getElem]
    refine ⟨h, hp, fun j hj => ?_⟩
    have := hn l[j] (List.mem_take_iff_getElem.2 ⟨j, by omega, rfl⟩)
    simp [this]
  simp [fstT, this]
theorem fstT_none {l : List Int} (hn : ∀ x ∈ l, isT x = false) : fstT l = -1 := by
  have : l.findIdx? isT = none := by rw [List.findIdx?_eq_none_iff]; exact hn
  simp [fstT, this]
theorem fstT_nonneg {l : List Int} : 0 ≤ fstT l ↔ l.any isT = true := by
  unfold fstT
  cases h : l.findIdx? isT with
  | none =>
    rw [List.findIdx?_eq_none_iff] at h
    simp; intro x hx; simpa using h x hx
  | some i =>
    rw [List.findIdx?_eq_some_iff_getElem] at h
    obtain ⟨h1, h2, _⟩ := h
    simp; exact ⟨_, List.getElem_mem h1, h2⟩
theorem fstT_snoc (l : List Int) (x : Int) : fstT (l ++ [x]) = if isT x = true ∧ fstT l < 0 then (l.length : Int) else fstT l := by
  unfold fstT
  rw [List.findIdx?_append]
  cases h : l.findIdx? isT with
  | none => cases hx : isT x <;> simp [hx]
  | some i => simp; omega
theorem isTrue_eq (x : Int) : interp_isTrue x = some (isT x) := rfl
theorem indexFunc_eq (l : List Int) (hl : l.length ≤ 9223372036854775807) : slices_IndexFunc_interp_isTrue l = some (fstT l) := by
  unfold slices_IndexFunc_interp_isTrue
  have hx := range_to (step := slices_IndexFunc_interp_isTrue.l11 l) l.length (fun i => (i : Int)) (fun i => ∀ x ∈ l.take i, isT x = false)
    (fun o => Sum.elim (fun _ : Unit => some (-1)) (fun w : Int => some w) o = some (fstT l)) (by simp) (fun i hi hg => ?_) (fun hg => ?_)
  · obtain ⟨o, h1, h2⟩ := hx
    rw [show (0 : Int) = ((0 : Nat) : Int) from rfl, h1]; exact h2
  · unfold slices_IndexFunc_interp_isTrue.l11
    simp only [Int.ofNat_lt, hi, decide_true, cond_true, idx_nat hi, Option.bind_some, wr_succ hi hl, isTrue_eq]
    cases hx : isT l[i] with
    | true => exact .inr ⟨.inr i, rfl, by rw [fstT_hit hi hx hg]; rfl⟩
    | false =>
      refine .inl ⟨rfl, ?_⟩
      rw [take_succ hi]
      intro y hy
      rcases List.mem_append.1 hy with h | h
      · exact hg y h
      · simp at h; rw [h]; exact hx
  · refine ⟨.inl (), ?_, ?_⟩
    · unfold slices_IndexFunc_interp_isTrue.l11; simp
    · rw [List.take_length] at hg
      rw [fstT_none hg]; rfl
theorem containsFunc_eq (l : List Int) (hl : l.length ≤ 9223372036854775807) : slices_ContainsFunc_interp_isTrue l = some (l.any isT) := by
  unfold slices_ContainsFunc_interp_isTrue
  rw [indexFunc_eq l hl, Option.bind_some]
  congr 1
  rw [Bool.eq_iff_iff, decide_eq_true_iff, fstT_nonneg]

def cntT (l : List Int) : Int := (l.countP isT : Nat)
theorem cntT_snoc (l : List Int) (x : Int) : cntT (l ++ [x]) = cntT l + (if isT x = true then 1 else 0) := by
  unfold cntT; rw [List.countP_append]; cases h : isT x <;> simp [List.countP_cons, h]
theorem cntT_le (l : List Int) : 0 ≤ cntT l ∧ cntT l ≤ l.length := by
  unfold cntT; have := List.countP_le_length (p := isT) (l := l); omega
def sumI (l : List Int) : Int := l.foldl (· + ·) 0
theorem sumI_snoc (l : List Int) (x : Int) : sumI (l ++ [x]) = sumI l + x := by simp [sumI, List.foldl_append]
theorem sumI_bd {l : List Int} (h : ∀ x ∈ l, okN x = true) : -(1073741824 * (l.length : Int)) ≤ sumI l ∧ sumI l ≤ 1073741824 * (l.length : Int) := by
  have key : ∀ (l : List Int), (∀ x ∈ l, okN x = true) → -(1073741824 * (l.length : Int)) ≤ l.sum ∧ l.sum ≤ 1073741824 * (l.length : Int) := by
    intro l
    induction l with
    | nil => intro _; simp
    | cons x l ih =>
      intro h
      have h1 := h x (by simp)
      simp only [okN, Bool.and_eq_true, decide_eq_true_eq] at h1
      have := ih (fun y hy => h y (by simp [hy]))
      simp only [List.sum_cons, List.length_cons]
      push_cast
      omega
  have e : ∀ (l : List Int) (a : Int), l.foldl (· + ·) a = a + l.sum := by
    intro l
    induction l with
    | nil => intro a; simp
    | cons x l ih => intro a; simp [ih]; omega
  unfold sumI
  rw [e, Int.zero_add]
  exact key l h
def sec : Int × Int → Int → Int × Int := fun p x => (max p.1 x, max p.2 (min p.1 x))
def minsI (l : List Int) : Int := l.foldl min 1073741824
def secI (l : List Int) : Int × Int := l.foldl sec (-1073741824, -1073741824)
def mexFrom (l : List Int) : Nat → Int → Int
  | 0, n => n
  | f + 1, n => if n ∈ l then mexFrom l f (n + 1) else n
def mexI (l : List Int) : Int := mexFrom l (l.length + 1) 0
def satI (x : Int) : Int := max (-1073741824) (min 1073741824 x)
def foldI' (op : Int) (l : List Int) : Int :=
  if op = 20 then (if (0 : Int) ∈ l then 0 else 1)
  else if op = 21 then (if l.any isT then 1 else 0)
  else if op = 22 then cntT l
  else if op = 23 then fstT l
  else if op = 24 then minsI l
  else if op = 25 then (secI l).1
  else if op = 28 then (secI l).2
  else if op = 26 then satI (sumI l)
  else if op = 27 then mexI l
  else l.headD 0

/-! #### The least number that is missing -/
theorem erase_mem {x y : Int} {l : List Int} (h : y ∈ l) (hn : y ≠ x) : y ∈ l.erase x := (List.mem_erase_of_ne hn).2 h
theorem len_of_all : ∀ (n : Nat) (l : List Int), (∀ j : Nat, j < n → (j : Int) ∈ l) → n ≤ l.length
  | 0, l, _ => Nat.zero_le _
  | n + 1, l, h => by
    have hn := h n (by omega)
    have := len_of_all n (l.erase n) (fun j hj => erase_mem (h j (by omega)) (by omega))
    rw [List.length_erase_of_mem hn] at this
    have : 0 < l.length := List.length_pos_of_mem hn
    omega
theorem mexFrom_stop {l : List Int} : ∀ (f : Nat) (n : Nat), l.length + 1 ≤ n + f → (∀ j : Nat, j < n → (j : Int) ∈ l) → ∀ m : Nat, n ≤ m → (∀ j : Nat, j < m → (j : Int) ∈ l) → ¬ (m : Int) ∈ l → mexFrom l f n = m
  | 0, n, h1, h2, m, hm, h3, h4 => by
    have := len_of_all n l h2
    omega
  | f + 1, n, h1, h2, m, hm, h3, h4 => by
    unfold mexFrom
    rcases Nat.lt_or_ge n m with h | h
    · rw [if_pos (h3 n h)]
      exact mexFrom_stop f (n + 1) (by omega) (fun j hj => by
        by_cases hj' : j < n
        · exact h2 j hj'
        · have : j = n := by omega
          subst this; exact h3 j h) m (by omega) h3 h4
    · have : n = m := by omega
      subst this
      rw [if_neg h4]
theorem mexI_eq {l : List Int} {m : Nat} (h3 : ∀ j : Nat, j < m → (j : Int) ∈ l) (h4 : ¬ (m : Int) ∈ l) : mexI l = m := mexFrom_stop _ 0 (by omega) (by simp) m (Nat.zero_le _) h3 h4
/-- A loop that looks for the least number that is missing. -/
theorem mex_loop {l : List Int} {step : Int → Option (Int ⊕ Int)} (hl : l.length ≤ 9223372036854775806) (h : ∀ n : Nat, n ≤ l.length → step n = if (n : Int) ∈ l then some (.inl ((n + 1 : Nat) : Int)) else some (.inr n)) : loopO step 0 = some (mexI l) := by
  have hx := loop_to (step := step) (fun s => ∃ n : Nat, s = n ∧ ∀ j : Nat, j < n → (j : Int) ∈ l) (fun s => l.length + 1 - s.toNat) (fun o => o = mexI l) (fun s => ?_) 0 ⟨0, rfl, by simp⟩
  · obtain ⟨o, h1, h2⟩ := hx
    rw [h1, h2]
  · rintro ⟨n, rfl, hn⟩
    have hlen := len_of_all n l hn
    rw [h n hlen]
    by_cases hm : (n : Int) ∈ l
    · refine .inl ⟨_, by rw [if_pos hm], ⟨n + 1, rfl, fun j hj => ?_⟩, ?_⟩
      · by_cases hj' : j < n
        · exact hn j hj'
        · have : j = n := by omega
          subst this; exact hm
      · simp only [Int.toNat_natCast]; omega
    · exact .inr ⟨_, by rw [if_neg hm], (mexI_eq hn hm).symm⟩

theorem all_take {l : List Int} {p : Int → Bool} (h : ∀ x ∈ l, p x = true) (i : Nat) : ∀ x ∈ l.take i, p x = true := fun x hx => h x (List.mem_of_mem_take hx)
theorem cnt_all (l : List Int) : (cntT l = l.length) ↔ ¬ (0 : Int) ∈ l := by
  unfold cntT
  rw [Int.ofNat_inj, List.countP_eq_length]
  constructor
  · intro h h0; have := h 0 h0; simp [isT] at this
  · intro h x hx; simp [isT]; rintro rfl; exact h hx
theorem cnt_pos (l : List Int) : (0 < cntT l) ↔ l.any isT = true := by
  unfold cntT
  rw [show (0 : Int) = ((0 : Nat) : Int) from rfl, Int.ofNat_lt, List.countP_pos_iff]
  simp

theorem interp_fold_eq (op : Int) (l : List Int) (hl : l.length < 24) (hn : ∀ x ∈ l, okN x = true) : interp_Fold op l = some (foldI' op l) := by
  have hl' : l.length ≤ 9223372036854775807 := by omega
  unfold interp_Fold foldI'
  by_cases h20 : op = 20
  · subst h20; rw [contains_eq l 0 hl']; by_cases h : (0 : Int) ∈ l <;> simp [h, interp_truth]
  by_cases h21 : op = 21
  · subst h21; rw [containsFunc_eq l hl']; cases h : l.any isT <;> simp [interp_truth]
  by_cases h22 : op = 22
  · subst h22
    have := range_all (step := interp_Fold.l14 l) l.length (fun i => (cntT (l.take i), (i : Int))) (cntT l) (fun i hi => ?_) (by unfold interp_Fold.l14; simp)
    · simp only [List.take_zero] at this
      rw [show ((0 : Int), (0 : Int)) = (cntT [], ((0 : Nat) : Int)) from rfl, this]; simp
    · unfold interp_Fold.l14
      simp only [Int.ofNat_lt, hi, decide_true, cond_true, idx_nat hi, Option.bind_some, wr_succ hi hl', isTrue_eq]
      rw [take_succ hi, cntT_snoc]
      have := cntT_le (l.take i)
      rw [List.length_take] at this
      cases isT l[i] <;> simp [interp_truth] <;> (rw [wr] <;> omega)
  by_cases h23 : op = 23
  · subst h23; rw [indexFunc_eq l hl']; simp
  by_cases h24 : op = 24
  · subst h24
    have := range_all (step := interp_Fold.l23 l) l.length (fun i => (minsI (l.take i), (i : Int))) (minsI l) (fun i hi => ?_) (by unfold interp_Fold.l23; simp)
    · simp only [List.take_zero] at this
      rw [show ((1073741824 : Int), (0 : Int)) = (minsI [], ((0 : Nat) : Int)) from rfl, this]; simp
    · unfold interp_Fold.l23
      simp only [Int.ofNat_lt, hi, decide_true, cond_true, idx_nat hi, Option.bind_some, wr_succ hi hl', minsI, foldl_succ _ _ hi]
  have hsec : loopO (interp_Fold.l34 l) (-1073741824, -1073741824, 0) = some (secI l) := by
    have := range_all (step := interp_Fold.l34 l) l.length (fun i => ((secI (l.take i)).1, (secI (l.take i)).2, (i : Int))) (secI l) (fun i hi => ?_) (by unfold interp_Fold.l34; simp)
    · simp only [List.take_zero] at this
      rw [show ((-1073741824 : Int), (-1073741824 : Int), (0 : Int)) = ((secI []).1, (secI []).2, ((0 : Nat) : Int)) from rfl, this]
    · unfold interp_Fold.l34
      simp only [Int.ofNat_lt, hi, decide_true, cond_true, idx_nat hi, Option.bind_some, wr_succ hi hl', secI, foldl_succ _ _ hi]
      rfl
  by_cases h25 : op = 25
  · subst h25; simp [hsec]
  by_cases h28 : op = 28
  · subst h28; simp [hsec]
  by_cases h26 : op = 26
  · subst h26
    have := range_all (step := interp_Fold.l43 l) l.length (fun i => (sumI (l.take i), (i : Int))) (sumI l) (fun i hi => ?_) (by unfold interp_Fold.l43; simp)
    · simp only [List.take_zero] at this
      rw [show ((0 : Int), (0 : Int)) = (sumI [], ((0 : Nat) : Int)) from rfl, this]; simp [interp_saturated, satI]
    · unfold interp_Fold.l43
      simp only [Int.ofNat_lt, hi, decide_true, cond_true, idx_nat hi, Option.bind_some, wr_succ hi hl']
      rw [take_succ hi, sumI_snoc]
      have := sumI_bd (all_take hn i)
      have h1 := hn _ (List.getElem_mem hi)
      simp only [okN, Bool.and_eq_true, decide_eq_true_eq] at h1
      rw [List.length_take] at this
      rw [wr] <;> omega
  by_cases h27 : op = 27
  · subst h27
    have := mex_loop (l := l) (step := interp_Fold.l51 l) (by omega) (fun n hn => by
      unfold interp_Fold.l51
      rw [contains_eq l n hl', Option.bind_some, wr (by omega) (by omega)]
      by_cases h : (n : Int) ∈ l <;> simp [h])
    simp [this]
  simp only [h20, h21, h22, h23, h24, h25, h26, h27, h28, decide_false, cond_false, Option.bind_some, if_false]
  cases l with
  | nil => simp
  | cons x l =>
    have : ¬ ((l.length : Int) + 1 = 0) := by omega
    simp [idx, this]

theorem ref_fold_eq (op : Int) (l : List Int) (hl : l.length < 24) (hn : ∀ x ∈ l, okN x = true) : ref11_fold op l = some (foldI' op l) := by
  have hl' : l.length ≤ 9223372036854775807 := by omega
  have main : loopO (ref11_fold.l33 l) (0, -1, 1073741824, -1073741824, -1073741824, 0, 0) = some (cntT l, fstT l, minsI l, (secI l).1, (secI l).2, sumI l) := by
    have := range_all (step := ref11_fold.l33 l) l.length (fun i => (cntT (l.take i), fstT (l.take i), minsI (l.take i), (secI (l.take i)).1, (secI (l.take i)).2, sumI (l.take i), (i : Int))) (cntT l, fstT l, minsI l, (secI l).1, (secI l).2, sumI l) (fun i hi => ?_) (by unfold ref11_fold.l33; simp)
    · simp only [List.take_zero] at this
      exact this
    · unfold ref11_fold.l33
      simp only [Int.ofNat_lt, hi, decide_true, cond_true, idx_nat hi, Option.bind_some, wr_succ hi hl']
      have e1 : (bif !decide (l[i] = 0) then some (IntKind.i64.wrap (cntT (l.take i) + 1)) else some (cntT (l.take i))) = some (cntT (l.take (i + 1))) := by
        rw [take_succ hi, cntT_snoc]
        have := cntT_le (l.take i)
        rw [List.length_take] at this
        by_cases h : l[i] = 0 <;> simp [h, isT]
        rw [wr] <;> omega
      have e2 : (bif !decide (l[i] = 0) && decide (fstT (l.take i) < 0) then some (i : Int) else some (fstT (l.take i))) = some (fstT (l.take (i + 1))) := by
        rw [take_succ hi, fstT_snoc, List.length_take, Nat.min_eq_left (by omega)]
        by_cases h : l[i] = 0 <;> by_cases h' : fstT (l.take i) < 0 <;> simp [h, h', isT]
      have e3 : IntKind.i64.wrap (sumI (l.take i) + l[i]) = sumI (l.take (i + 1)) := by
        rw [take_succ hi, sumI_snoc]
        have := sumI_bd (all_take hn i)
        have h1 := hn _ (List.getElem_mem hi)
        simp only [okN, Bool.and_eq_true, decide_eq_true_eq] at h1
        rw [List.length_take] at this
        rw [wr] <;> omega
      rw [e1, e3]
      simp only [Option.bind_some]
      rw [e2]
      simp only [Option.bind_some, minsI, secI, foldl_succ _ _ hi]
      rfl
  unfold ref11_fold foldI'
  rw [main]
  simp only [Option.bind_some]
  by_cases h20 : op = 20
  · subst h20
    by_cases h : (0 : Int) ∈ l
    · have : ¬ (cntT l = l.length) := by rw [cnt_all]; exact fun h' => h' h
      simp [ref11_truth, h, this]
    · have : cntT l = l.length := (cnt_all l).2 h
      simp [ref11_truth, h, this]
  by_cases h21 : op = 21
  · subst h21
    cases h : l.any isT with
    | true => have := (cnt_pos l).2 h; simp [ref11_truth, this]
    | false => have : ¬ 0 < cntT l := by rw [cnt_pos, h]; simp
               simp [ref11_truth, this]
  by_cases h22 : op = 22
  · subst h22; simp
  by_cases h23 : op = 23
  · subst h23; simp
  by_cases h24 : op = 24
  · subst h24; simp
  by_cases h25 : op = 25
  · subst h25; simp
  by_cases h26 : op = 26
  · subst h26; simp [ref11_Saturate, satI]; omega
  by_cases h28 : op = 28
  · subst h28; simp
  by_cases h27 : op = 27
  · subst h27
    have := mex_loop (l := l) (step := ref11_fold.l15 l) (by omega) (fun n hn => by
      unfold ref11_fold.l15
      rw [occurs_eq l n hl', Option.bind_some, wr (by omega) (by omega)]
      by_cases h : (n : Int) ∈ l <;> simp [h])
    simp [this]
  simp only [h20, h21, h22, h23, h24, h25, h26, h27, h28, decide_false, cond_false, Option.bind_some, if_false]
  cases l with
  | nil => simp
  | cons x l =>
    have : ¬ ((l.length : Int) + 1 = 0) := by omega
    simp [idx, this]

/-- What Fold returns. -/
def foldR (op : Int) (l : List Int) : Int × Int :=
  if op < 20 ∨ 29 < op then (0, 2) else if 24 ≤ l.length then (0, 3) else if l.all okN then (foldI' op l, 0) else (0, 2)
theorem eval_Fold_eq (op : Int) (l : List Int) (hl : l.length ≤ 9223372036854775807) : eval_Fold op l = some (foldR op l) := by
  unfold eval_Fold foldR
  by_cases h1 : op < 20 ∨ 29 < op
  · rw [if_pos h1, show (decide (op < 20) || decide (29 < op)) = true by simpa using h1]; rfl
  rw [if_neg h1, show (decide (op < 20) || decide (29 < op)) = false by simpa using h1]
  simp only [cond_false]
  by_cases h2 : 24 ≤ l.length
  · rw [if_pos h2, show decide ((24 : Int) ≤ l.length) = true by simp; omega]; rfl
  rw [if_neg h2, show decide ((24 : Int) ≤ l.length) = false by simp; omega]
  simp only [cond_false, small_eq l hl, Option.bind_some]
  cases h3 : l.all okN with
  | true => simp [interp_fold_eq op l (by omega) (by simpa using h3)]
  | false => simp
theorem ref_Fold_eq (op : Int) (l : List Int) (hl : l.length ≤ 9223372036854775807) : ref11_Fold op l = some (foldR op l) := by
  unfold ref11_Fold foldR ref05_Aggregate
  simp only [Option.bind_some]
  by_cases h1 : op < 20 ∨ 29 < op
  · rw [if_pos h1, show (!(decide (20 ≤ op) && decide (op ≤ 29))) = true by simp; omega]; rfl
  rw [if_neg h1, show (!(decide (20 ≤ op) && decide (op ≤ 29))) = false by simp; omega]
  simp only [cond_false]
  by_cases h2 : 24 ≤ l.length
  · rw [if_pos h2, show decide ((24 : Int) ≤ l.length) = true by simp; omega]; rfl
  rw [if_neg h2, show decide ((24 : Int) ≤ l.length) = false by simp; omega]
  simp only [cond_false]
  have hx := range_to (step := ref11_Fold.l13 l) l.length (fun i => (i : Int)) (fun i => ∀ x ∈ l.take i, okN x = true)
    (fun o => Sum.elim (fun (_ : Unit) => (ref11_fold op l).bind fun y6 => some (y6, (0 : Int))) (fun w7 : Int × Int => some w7) o = some (if l.all okN then (foldI' op l, 0) else (0, 2))) (by simp) (fun i hi hg => ?_) (fun hg => ?_)
  · obtain ⟨o, h3, h4⟩ := hx
    rw [show (0 : Int) = ((0 : Nat) : Int) from rfl, h3]; exact h4
  · unfold ref11_Fold.l13
    simp only [Int.ofNat_lt, hi, decide_true, cond_true, idx_nat hi, Option.bind_some, wr_succ hi hl, ref11_Number]
    cases hx : okN l[i] with
    | true =>
      refine .inl ⟨?_, fun x hx' => ?_⟩
      · unfold okN at hx; rw [hx]; rfl
      · rw [take_succ hi] at hx'
        rcases List.mem_append.1 hx' with h | h
        · exact hg x h
        · simp at h; rw [h]; exact hx
    | false =>
      refine .inr ⟨.inr (0, 2), ?_, ?_⟩
      · unfold okN at hx; rw [hx]; rfl
      · have : l.all okN = false := by rw [List.all_eq_false]; exact ⟨_, List.getElem_mem hi, by simp [hx]⟩
        rw [this]; rfl
  · refine ⟨.inl (), ?_, ?_⟩
    · unfold ref11_Fold.l13; simp
    · rw [List.take_length] at hg
      have : l.all okN = true := by rw [List.all_eq_true]; exact hg
      rw [this]
      show (ref11_fold op l).bind _ = _
      rw [ref_fold_eq op l (by omega) hg]; rfl
end Go.Proofs.Ytkpghgnbbfpbmaa
