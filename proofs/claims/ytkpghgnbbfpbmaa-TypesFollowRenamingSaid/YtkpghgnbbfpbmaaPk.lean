/- Kinds: what the checker finds on a tree. -/
import Derived.Test.YtkpghgnbbfpbmaaPj
set_option linter.unusedSimpArgs false
set_option linter.unusedVariables false
set_option maxRecDepth 10000
namespace Go.Proofs.Ytkpghgnbbfpbmaa
open Fo

def leafK (kinds : List Int) (t : ApiTerm) (b : Bool) : Int :=
  if b = false ∧ (t.Op = 11 ∨ 12 ≤ t.Op) then 0 else if t.Op = 2 ∨ t.Op = 3 ∨ t.Op = 10 ∨ t.Op = 15 then 2 else if t.Op = 4 ∨ t.Op = 11 ∨ t.Op = 17 then 3 else if t.Op = 5 ∨ t.Op = 12 then kinds.getD t.Arg.toNat 0 else 1
def singleK (op a : Int) : Int :=
  if op = 19 ∨ op = 20 ∨ op = 21 then (if a = 2 then 2 else 0) else if op = 22 then (if a = 2 then 1 else 0) else if op = 23 then (if a = 2 then 3 else 0) else (if a = 1 then 1 else 0)
def doubleK (op a b : Int) : Int :=
  if op = 35 ∨ op = 36 then (if a = b ∧ a ≠ 0 then 2 else 0) else if op = 41 ∨ op = 42 then (if a = 2 ∧ b = 2 then 2 else 0) else if a = 1 ∧ b = 1 then (if 37 ≤ op ∧ op ≤ 40 then 2 else 1) else 0
def tripleK (a b c : Int) : Int := if a = 2 ∧ b = c then b else 0
def cmbK (kinds : List Int) (t : ApiTerm) (b : Bool) : List Int → Int
  | [] => leafK kinds t b
  | [x] => singleK t.Op x
  | [x, y] => doubleK t.Op x y
  | [x, y, z] => tripleK x y z
  | _ => 0
def Fo.tys (kinds : List Int) : Bool → Fo → List Int
  | _, nil => []
  | b, nd t c s => cmbK kinds t b (c.tys kinds (b || aggB t.Op)) :: s.tys kinds b
def tyK (kinds : List Int) (b : Bool) (t : ApiTerm) (c : Fo) : Int := cmbK kinds t b (c.tys kinds (b || aggB t.Op))
theorem Fo.tys_len (kinds : List Int) : ∀ (b : Bool) (F : Fo), (F.tys kinds b).length = F.cnt
  | _, nil => by simp [tys, cnt]
  | b, nd t c s => by simp [tys, cnt, Fo.tys_len kinds b s]
def okK (kinds : List Int) : Prop := ∀ k ∈ kinds, 1 ≤ k ∧ k ≤ 3
theorem leafK_bd {kinds : List Int} (hk : okK kinds) (t : ApiTerm) (b : Bool) : 0 ≤ leafK kinds t b ∧ leafK kinds t b ≤ 3 := by
  have : 0 ≤ kinds.getD t.Arg.toNat 0 ∧ kinds.getD t.Arg.toNat 0 ≤ 3 := by
    rw [List.getD_eq_getElem?_getD]
    by_cases h : t.Arg.toNat < kinds.length
    · rw [List.getElem?_eq_getElem h]; have := hk _ (List.getElem_mem h); simp only [Option.getD_some]; omega
    · rw [List.getElem?_eq_none (by omega)]; simp
  unfold leafK
  generalize kinds.getD t.Arg.toNat 0 = g at *
  repeat' split
  all_goals omega
theorem cmbK_bd {kinds : List Int} (hk : okK kinds) (t : ApiTerm) (b : Bool) (l : List Int) (hl : ∀ x ∈ l, 0 ≤ x ∧ x ≤ 3) : 0 ≤ cmbK kinds t b l ∧ cmbK kinds t b l ≤ 3 := by
  unfold cmbK
  split
  · exact leafK_bd hk t b
  · unfold singleK; repeat' split
    all_goals omega
  · unfold doubleK; repeat' split
    all_goals omega
  · rename_i x y z
    have := hl y (by simp)
    unfold tripleK; split <;> omega
  · omega
theorem tys_bd {kinds : List Int} (hk : okK kinds) : ∀ (b : Bool) (F : Fo), ∀ x ∈ F.tys kinds b, 0 ≤ x ∧ x ≤ 3
  | _, nil, x, hx => by simp [tys] at hx
  | b, nd t c s, x, hx => by
    simp only [tys, List.mem_cons] at hx
    rcases hx with rfl | hx
    · exact cmbK_bd hk t b _ (tys_bd hk _ c)
    · exact tys_bd hk b s x hx
theorem tyK_bd {kinds : List Int} (hk : okK kinds) (b : Bool) (t : ApiTerm) (c : Fo) : 0 ≤ tyK kinds b t c ∧ tyK kinds b t c ≤ 3 := cmbK_bd hk t b _ (tys_bd hk _ c)

theorem all_eq (l : List Int) (k : Int) (hl : l.length ≤ 1000) : types_all l k = some (l.all (fun x => decide (x = k))) := by
  have key := range_to (step := types_all.l10 l k) l.length (fun i => (i : Int)) (fun i => ∀ x ∈ l.take i, x = k) (fun o => Sum.elim (fun (w3 : Unit) => (some true)) (fun (w5 : Bool) => (some w5)) o = some (l.all (fun x => decide (x = k)))) (fun t ht => by simp at ht) (fun i hi hg => ?_) (fun hg => ?_)
  · obtain ⟨o, h1, h2⟩ := key
    unfold types_all
    rw [show (0 : Int) = ((0 : Nat) : Int) from rfl, h1]; exact h2
  · unfold types_all.l10
    simp only [decide_eq_true (show (i : Int) < (l.length : Int) by omega), cond_true, idx_nat hi, Option.bind_some]
    by_cases ha : l[i] = k
    · refine .inl ⟨by simp [ha, wr_succ hi (by omega)], fun t ht => ?_⟩
      rw [take_succ hi] at ht
      rcases List.mem_append.1 ht with h | h
      · exact hg t h
      · simp at h; rw [h, ha]
    · refine .inr ⟨.inr false, by simp [ha], ?_⟩
      simp only [Sum.elim_inr, Option.some.injEq]
      exact (List.all_eq_false.2 ⟨l[i], List.getElem_mem _, by simp [ha]⟩).symm
  · refine ⟨.inl (), by unfold types_all.l10; simp, ?_⟩
    simp only [Sum.elim_inl, Option.some.injEq]
    exact (List.all_eq_true.2 (fun t ht => by simp [hg t (by rwa [List.take_length])])).symm

noncomputable def restF (a_1 : Bool) (y1 : ApiTerm) (y5 : (List Int) × TypesChecker) : Option (Int × TypesChecker) := ((bif (decide (y1.Op = 1)) then (some (decide (y1.Op = 1))) else (bif (decide (y1.Op = 6)) then (some (decide (y1.Op = 6))) else (bif (decide (y1.Op = 7)) then (some (decide (y1.Op = 7))) else (bif (decide (y1.Op = 8)) then (some (decide (y1.Op = 8))) else (some (decide (y1.Op = 9))))))).bind (fun (w7 : Bool) => (bif w7 then (some (1, y5.2)) else ((bif (decide (y1.Op = 13)) then (some (decide (y1.Op = 13))) else (bif (decide (y1.Op = 14)) then (some (decide (y1.Op = 14))) else (some (decide (y1.Op = 16))))).bind (fun (w10 : Bool) => (bif w10 then ((types_when a_1 1).bind (fun (y12 : Int) => (some (y12, y5.2)))) else ((bif (decide (y1.Op = 2)) then (some (decide (y1.Op = 2))) else (bif (decide (y1.Op = 3)) then (some (decide (y1.Op = 3))) else (some (decide (y1.Op = 10))))).bind (fun (w14 : Bool) => (bif w14 then (some (2, y5.2)) else (bif (decide (y1.Op = 15)) then ((types_when a_1 2).bind (fun (y16 : Int) => (some (y16, y5.2)))) else (bif (decide (y1.Op = 4)) then (some (3, y5.2)) else ((bif (decide (y1.Op = 11)) then (some (decide (y1.Op = 11))) else (some (decide (y1.Op = 17)))).bind (fun (w18 : Bool) => (bif w18 then ((types_when a_1 3).bind (fun (y20 : Int) => (some (y20, y5.2)))) else (bif (decide (y1.Op = 5)) then ((idx y5.2.kinds y1.Arg).bind (fun (y21 : Int) => (some (y21, y5.2)))) else (bif (decide (y1.Op = 12)) then ((idx y5.2.kinds y1.Arg).bind (fun (y22 : Int) => ((types_when a_1 y22).bind (fun (y23 : Int) => (some (y23, y5.2)))))) else ((bif (decide (y1.Op = 19)) then (some (decide (y1.Op = 19))) else (bif (decide (y1.Op = 20)) then (some (decide (y1.Op = 20))) else (bif (decide (y1.Op = 21)) then (some (decide (y1.Op = 21))) else (bif (decide (y1.Op = 41)) then (some (decide (y1.Op = 41))) else (some (decide (y1.Op = 42))))))).bind (fun (w25 : Bool) => (bif w25 then ((types_all y5.1 2).bind (fun (y27 : Bool) => ((types_when y27 2).bind (fun (y28 : Int) => (some (y28, y5.2)))))) else (bif (decide (y1.Op = 22)) then ((types_all y5.1 2).bind (fun (y29 : Bool) => ((types_when y29 1).bind (fun (y30 : Int) => (some (y30, y5.2)))))) else (bif (decide (y1.Op = 23)) then ((types_all y5.1 2).bind (fun (y31 : Bool) => ((types_when y31 3).bind (fun (y32 : Int) => (some (y32, y5.2)))))) else ((bif (decide (y1.Op = 35)) then (some (decide (y1.Op = 35))) else (some (decide (y1.Op = 36)))).bind (fun (w34 : Bool) => (bif w34 then ((idx y5.1 0).bind (fun (y36 : Int) => ((types_kind y36).bind (fun (y37 : Bool) => (bif y37 then ((idx y5.1 0).bind (fun (y38 : Int) => ((idx y5.1 1).bind (fun (y39 : Int) => ((types_when ((decide (y38 = y39))) 2).bind (fun (y40 : Int) => (some (y40, y5.2)))))))) else ((types_when false 2).bind (fun (y41 : Int) => (some (y41, y5.2))))))))) else ((bif (decide (y1.Op = 37)) then (some (decide (y1.Op = 37))) else (bif (decide (y1.Op = 38)) then (some (decide (y1.Op = 38))) else (bif (decide (y1.Op = 39)) then (some (decide (y1.Op = 39))) else (some (decide (y1.Op = 40)))))).bind (fun (w43 : Bool) => (bif w43 then ((types_all y5.1 1).bind (fun (y45 : Bool) => ((types_when y45 2).bind (fun (y46 : Int) => (some (y46, y5.2)))))) else (bif (decide (y1.Op = 43)) then ((idx y5.1 0).bind (fun (y47 : Int) => (bif (decide (y47 = 2)) then ((idx y5.1 1).bind (fun (y48 : Int) => ((idx y5.1 2).bind (fun (y49 : Int) => ((idx y5.1 1).bind (fun (y50 : Int) => ((types_when ((decide (y48 = y49))) y50).bind (fun (y51 : Int) => (some (y51, y5.2)))))))))) else ((idx y5.1 1).bind (fun (y52 : Int) => ((types_when false y52).bind (fun (y53 : Int) => (some (y53, y5.2))))))))) else ((types_all y5.1 1).bind (fun (y54 : Bool) => ((types_when y54 1).bind (fun (y55 : Int) => (some (y55, y5.2))))))))))))))))))))))))))))))))))
theorem read_body (recO : TypesChecker → Int → Bool → Option ((List Int) × TypesChecker)) (recR : TypesChecker → Bool → Option (Int × TypesChecker)) (a : TypesChecker) (b : Bool) : types_checker_read.body recO recR a b = ((idx a.e a.at_).bind (fun (y1 : ApiTerm) => ((term_Arity y1.Op).bind (fun (y4 : Int) => ((recO ((TypesChecker.mk a.e a.kinds ((IntKind.i64.wrap (a.at_ + 1))))) y4 ((b || ((decide (20 ≤ y1.Op)) && (decide (y1.Op ≤ 29)))))).bind (fun (y5 : (List Int) × TypesChecker) => restF b y1 y5)))))) := rfl
theorem when_eq (b : Bool) (k : Int) : types_when b k = some (if b = true then k else 0) := by cases b <;> rfl
theorem len0 {l : List Int} (h : l.length = 0) : l = [] := List.length_eq_zero_iff.1 h
theorem len1 {l : List Int} (h : l.length = 1) : ∃ a, l = [a] := by
  match l, h with
  | [a], _ => exact ⟨a, rfl⟩
theorem len2 {l : List Int} (h : l.length = 2) : ∃ a b, l = [a, b] := by
  match l, h with
  | [a, b], _ => exact ⟨a, b, rfl⟩
theorem len3 {l : List Int} (h : l.length = 3) : ∃ a b c, l = [a, b, c] := by
  match l, h with
  | [a, b, c], _ => exact ⟨a, b, c, rfl⟩
theorem rest_leaf (b : Bool) (t : ApiTerm) (a' : TypesChecker) (h1 : 1 ≤ t.Op) (h2 : t.Op ≤ 17) (hi : t.Op = 5 ∨ t.Op = 12 → idx a'.kinds t.Arg = some (a'.kinds.getD t.Arg.toNat 0)) : restF b t ([], a') = some (leafK a'.kinds t b, a') := by
  have : t.Op = 1 ∨ t.Op = 2 ∨ t.Op = 3 ∨ t.Op = 4 ∨ t.Op = 5 ∨ t.Op = 6 ∨ t.Op = 7 ∨ t.Op = 8 ∨ t.Op = 9 ∨ t.Op = 10 ∨ t.Op = 11 ∨ t.Op = 12 ∨ t.Op = 13 ∨ t.Op = 14 ∨ t.Op = 15 ∨ t.Op = 16 ∨ t.Op = 17 := by omega
  rcases this with h | h | h | h | h | h | h | h | h | h | h | h | h | h | h | h | h <;>
    (cases b <;> simp_all [restF, leafK, when_eq])
theorem rest_single (b : Bool) (t : ApiTerm) (a' : TypesChecker) (x : Int) (h1 : 18 ≤ t.Op) (h2 : t.Op ≤ 29) : restF b t ([x], a') = some (singleK t.Op x, a') := by
  have : t.Op = 18 ∨ t.Op = 19 ∨ t.Op = 20 ∨ t.Op = 21 ∨ t.Op = 22 ∨ t.Op = 23 ∨ (24 ≤ t.Op ∧ t.Op ≤ 29) := by omega
  have : t.Op = 18 ∨ t.Op = 19 ∨ t.Op = 20 ∨ t.Op = 21 ∨ t.Op = 22 ∨ t.Op = 23 ∨ t.Op = 24 ∨ t.Op = 25 ∨ t.Op = 26 ∨ t.Op = 27 ∨ t.Op = 28 ∨ t.Op = 29 := by omega
  rcases this with h | h | h | h | h | h | h | h | h | h | h | h <;>
    simp [restF, h, singleK, when_eq, all_eq]
theorem rest_double (b : Bool) (t : ApiTerm) (a' : TypesChecker) (x y : Int) (h1 : 30 ≤ t.Op) (h2 : t.Op ≤ 42) (hx : 0 ≤ x ∧ x ≤ 3) : restF b t ([x, y], a') = some (doubleK t.Op x y, a') := by
  have : t.Op = 30 ∨ t.Op = 31 ∨ t.Op = 32 ∨ t.Op = 33 ∨ t.Op = 34 ∨ t.Op = 35 ∨ t.Op = 36 ∨ t.Op = 37 ∨ t.Op = 38 ∨ t.Op = 39 ∨ t.Op = 40 ∨ t.Op = 41 ∨ t.Op = 42 := by omega
  have hx' : x = 0 ∨ x = 1 ∨ x = 2 ∨ x = 3 := by omega
  rcases this with h | h | h | h | h | h | h | h | h | h | h | h | h
  case inr.inr.inr.inr.inr.inl | inr.inr.inr.inr.inr.inr.inl =>
    rcases hx' with rfl | rfl | rfl | rfl <;> simp [restF, h, doubleK, when_eq, idx, types_kind]
  all_goals simp [restF, h, doubleK, when_eq, all_eq]
theorem rest_triple (b : Bool) (t : ApiTerm) (a' : TypesChecker) (x y z : Int) (h : t.Op = 43) : restF b t ([x, y, z], a') = some (tripleK x y z, a') := by
  by_cases hx : x = 2
  · simp [restF, h, tripleK, when_eq, idx, hx]
  · simp [restF, h, tripleK, when_eq, idx, hx]
theorem rest_eq (b : Bool) (t : ApiTerm) (ks : List Int) (a' : TypesChecker) (hl : (ks.length : Int) = arI t.Op) (hb : ∀ x ∈ ks, 0 ≤ x ∧ x ≤ 3) (hi : t.Op = 5 ∨ t.Op = 12 → idx a'.kinds t.Arg = some (a'.kinds.getD t.Arg.toNat 0)) : restF b t (ks, a') = some (cmbK a'.kinds t b ks, a') := by
  unfold arI at hl
  split at hl
  · omega
  split at hl
  · rw [len0 (l := ks) (by omega)]; exact rest_leaf b t a' (by omega) (by omega) hi
  split at hl
  · obtain ⟨x, rfl⟩ := len1 (l := ks) (by omega); exact rest_single b t a' x (by omega) (by omega)
  split at hl
  · obtain ⟨x, y, rfl⟩ := len2 (l := ks) (by omega); exact rest_double b t a' x y (by omega) (by omega) (hb x (by simp))
  · obtain ⟨x, y, z, rfl⟩ := len3 (l := ks) (by omega); exact rest_triple b t a' x y z (by omega)
end Go.Proofs.Ytkpghgnbbfpbmaa
