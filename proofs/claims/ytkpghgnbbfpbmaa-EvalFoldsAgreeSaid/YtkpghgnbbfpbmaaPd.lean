/- The plain law of EvalFoldsInAnyOrder. -/
import Derived.Test.YtkpghgnbbfpbmaaPb
import Derived.Test.YtkpghgnbbfpbmaaL11d
set_option linter.unusedSimpArgs false
set_option linter.unusedVariables false
namespace Go.Proofs.Ytkpghgnbbfpbmaa

theorem foldR_in {op : Int} {l : List Int} (h1 : 20 ≤ op) (h2 : op ≤ 29) (hl : l.length < 24) (hn : ∀ x ∈ l, okN x = true) : foldR op l = (foldI' op l, 0) := by
  unfold foldR
  rw [if_neg (by omega), if_neg (by omega), if_pos (by rw [List.all_eq_true]; exact hn)]
theorem sat_ok (x : Int) : okN (satI x) = true := (okN_iff _).2 (sat_in x)
theorem mexFrom_congr {l m : List Int} (h : ∀ x, x ∈ l ↔ x ∈ m) : ∀ (f : Nat) (n : Int), mexFrom l f n = mexFrom m f n
  | 0, n => rfl
  | f + 1, n => by
    simp only [mexFrom, mexFrom_congr h f]
    by_cases hn : n ∈ l
    · rw [if_pos hn, if_pos ((h n).1 hn)]
    · rw [if_neg hn, if_neg (fun h' => hn ((h n).2 h'))]
theorem sec_comm (p : Int × Int) (x y : Int) : sec (sec p x) y = sec (sec p y) x := by
  simp only [sec, Prod.mk.injEq]
  constructor <;> omega
theorem foldI_perm {l m : List Int} (h : l.Perm m) {op : Int} (h23 : op ≠ 23) (h29 : op ≠ 29) (h1 : 20 ≤ op) (h2 : op ≤ 29) : foldI' op l = foldI' op m := by
  have e1 : ((0 : Int) ∈ l) ↔ ((0 : Int) ∈ m) := h.mem_iff
  have e2 : l.any isT = m.any isT := by
    rw [Bool.eq_iff_iff, List.any_eq_true, List.any_eq_true]
    exact ⟨fun ⟨x, hx, hp⟩ => ⟨x, h.mem_iff.1 hx, hp⟩, fun ⟨x, hx, hp⟩ => ⟨x, h.mem_iff.2 hx, hp⟩⟩
  have e3 : cntT l = cntT m := by unfold cntT; rw [h.countP_eq]
  have e4 : minsI l = minsI m := h.foldl_eq' (fun x _ y _ z => by omega) _
  have e5 : secI l = secI m := h.foldl_eq' (fun x _ y _ z => sec_comm z x y) _
  have e6 : sumI l = sumI m := h.foldl_eq' (fun x _ y _ z => by omega) _
  have e7 : mexI l = mexI m := by unfold mexI; rw [mexFrom_congr (fun x => h.mem_iff), h.length_eq]
  unfold foldI'
  by_cases c0 : op = 20
  · subst c0; by_cases hz : (0 : Int) ∈ l
    · simp [hz, e1.1 hz]
    · have hz' : ¬ (0 : Int) ∈ m := fun h' => hz (e1.2 h')
      simp [hz, hz']
  by_cases c1 : op = 21
  · subst c1; simp [e2]
  by_cases c2 : op = 22
  · subst c2; simp [e3]
  by_cases c4 : op = 24
  · subst c4; simp [e4]
  by_cases c5 : op = 25
  · subst c5; simp [e5]
  by_cases c8 : op = 28
  · subst c8; simp [e5]
  by_cases c6 : op = 26
  · subst c6; simp [e6]
  by_cases c7 : op = 27
  · subst c7; simp [e7]
  omega
theorem made_mod (k : Int) (n : Nat) (h0 : 0 < n) (hn : n ≤ 1073741824) : ∃ m : Nat, made_Mod k n = some (m : Int) ∧ m < n := by
  unfold made_Mod
  have h1 : (k.tmod n).natAbs < n := by rw [Int.natAbs_tmod]; exact Nat.mod_lt _ (by omega)
  have h2 : (!decide ((n : Int) = 0)) = true := by simp; omega
  rw [h2]
  simp only [cond_true]
  by_cases h : k.tmod n < 0
  · refine ⟨(k.tmod n + n).toNat, ?_, by omega⟩
    rw [show decide (k.tmod n < 0) = true by simpa using h]
    simp only [cond_true]
    rw [wr (by omega) (by omega), Int.toNat_of_nonneg (by omega)]
  · refine ⟨(k.tmod n).toNat, ?_, by omega⟩
    rw [show decide (k.tmod n < 0) = false by simpa using h]
    simp only [cond_false]
    rw [Int.toNat_of_nonneg (by omega)]
theorem room8 {n : Nat} (h : n ≤ 1000000) : room n 8 = true := by unfold room; simp; omega
theorem pure_EvalFoldsInAnyOrder (op : Int) (l : List Int) (i k : Int) (h1 : VInt .i64 op) (h2 : VSl (VInt .i64) l) (h3 : VInt .i64 i) (h4 : VInt .i64 k) : law11_EvalFoldsInAnyOrder op l i k = some true := by
  unfold law11_EvalFoldsInAnyOrder
  obtain ⟨m, hm, hm2⟩ := made_mod op 10 (by omega) (by omega)
  rw [show (10 : Int) = ((10 : Nat) : Int) from rfl, hm, awake_eq]
  simp only [Option.bind_some]
  rw [wr (n := 20 + (m : Int)) (by omega) (by omega)]
  by_cases hc : l.length = 0 ∨ 24 ≤ l.length ∨ 20 + (m : Int) = 23 ∨ 20 + (m : Int) = 29
  · rw [show (decide ((l.length : Int) = 0) || decide (24 ≤ (l.length : Int)) || decide (20 + (m : Int) = 23) || decide (20 + (m : Int) = 29)) = true by simp only [Bool.or_eq_true, decide_eq_true_eq]; omega]; rfl
  · rw [show (decide ((l.length : Int) = 0) || decide (24 ≤ (l.length : Int)) || decide (20 + (m : Int) = 23) || decide (20 + (m : Int) = 29)) = false by simp only [Bool.or_eq_false_iff, decide_eq_false_iff_not]; omega]
    simp only [cond_false]
    have hl0 : 0 < l.length := by omega
    have hl : l.length < 24 := by omega
    have hloop := range_all (step := law11_EvalFoldsInAnyOrder.l34 l) l.length (fun i => ((i : Int), (l.take i).map satI, (l.take i).map satI)) (l.map satI, l.map satI) (fun i hi => by
      unfold law11_EvalFoldsInAnyOrder.l34
      have hr : room ((List.map satI (l.take i)).length + [satI l[i]].length) 8 = true := room8 (by simp; omega)
      simp only [Int.ofNat_lt, hi, decide_true, cond_true, idx_nat hi, Option.bind_some, wr_succ hi h2.1, ref_sat, hr]
      rw [take_succ hi, List.map_append]; rfl) (by unfold law11_EvalFoldsInAnyOrder.l34; simp)
    simp only [List.take_zero, List.map_nil] at hloop
    rw [show (0 : Int) = ((0 : Nat) : Int) from rfl, hloop]
    simp only [Option.bind_some]
    have hlen : (l.map satI).length = l.length := by simp
    obtain ⟨p, hp, hp2⟩ := made_mod i (l.map satI).length (by omega) (by omega)
    obtain ⟨q, hq, hq2⟩ := made_mod k (l.map satI).length (by omega) (by omega)
    rw [hp, hq]
    have hok : ∀ x ∈ l.map satI, okN x = true := by intro x hx; obtain ⟨y, _, rfl⟩ := List.mem_map.1 hx; exact sat_ok y
    generalize l.map satI = a at hp2 hq2 hok hlen ⊢
    have hq3 : q < (a.set (Int.toNat (p : Int)) a[q]).length := by simpa using hq2
    simp only [Option.bind_some, idx_nat hp2, idx_nat hq2]
    rw [idx_nat hq3]
    simp only [Option.bind_some, Int.toNat_natCast, eval_Fold_eq _ _ (show a.length ≤ 9223372036854775807 by omega)]
    have hperm : ((a.set p a[q]).set q a[p]).Perm a := List.set_set_perm hp2 hq2
    have hok2 : ∀ x ∈ (a.set p a[q]).set q a[p], okN x = true := fun x hx => hok x (hperm.mem_iff.1 hx)
    rw [eval_Fold_eq _ _ (by simp; omega), foldR_in (by omega) (by omega) (by omega) hok, foldR_in (by omega) (by omega) (by simp; omega) hok2, foldI_perm hperm (by omega) (by omega) (by omega) (by omega)]
    simp
end Go.Proofs.Ytkpghgnbbfpbmaa
