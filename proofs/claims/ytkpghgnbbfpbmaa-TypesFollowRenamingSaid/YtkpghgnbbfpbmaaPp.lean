/- The law TypesFollowRenaming. -/
import Derived.Test.YtkpghgnbbfpbmaaPo
import Derived.Test.YtkpghgnbbfpbmaaL07f
set_option linter.unusedSimpArgs false
set_option linter.unusedVariables false
namespace Go.Proofs.Ytkpghgnbbfpbmaa
open Fo

def renG (m : List Int) (x : ApiTerm) : ApiTerm := if x.Op = 5 ∨ x.Op = 12 then ⟨x.Op, m.getD x.Arg.toNat 0⟩ else x
theorem LRel.mapMem {R : ApiTerm → ApiTerm → Prop} (f : ApiTerm → ApiTerm) : ∀ l : List ApiTerm, (∀ x ∈ l, R x (f x)) → LRel R l (l.map f)
  | [], _ => trivial
  | x :: l, h => ⟨h x (by simp), LRel.mapMem f l (fun y hy => h y (by simp [hy]))⟩
theorem l20_eq (m : List Int) (e : List ApiTerm) (hl : e.length ≤ 1000) (ha : argsB e (m.length : Int) = true) : loopO (ref05_Rename.l20 m) (0, e) = some (e.map (renG m)) := by
  have key := range_all (step := ref05_Rename.l20 m) e.length (fun i => ((i : Int), (e.take i).map (renG m) ++ e.drop i)) (e.map (renG m)) (fun i hi => ?_) ?_
  · simpa using key
  · unfold ref05_Rename.l20
    have hlen : ((e.take i).map (renG m) ++ e.drop i).length = e.length := by simp; omega
    have hset := map_take_set (renG m) e i hi
    have hsame : renG m e[i] = e[i] → (e.take (i + 1)).map (renG m) ++ e.drop (i + 1) = (e.take i).map (renG m) ++ e.drop i := by
      intro hs
      rw [take_succ hi, drop_cons hi, List.map_append, List.map_singleton, hs]; simp
    simp only [hlen, decide_eq_true (show (i : Int) < (e.length : Int) by omega), cond_true, mts_get _ _ _ hi, Option.bind_some]
    rw [wr_succ hi (by omega), Int.toNat_natCast]
    have hai : argB e[i] (m.length : Int) = true := List.all_eq_true.1 ha _ (List.getElem_mem hi)
    by_cases h5 : e[i].Op = 5 ∨ e[i].Op = 12
    · have hg : renG m e[i] = ⟨e[i].Op, m.getD e[i].Arg.toNat 0⟩ := by unfold renG; rw [if_pos h5]
      have hidx := kind_idx hai h5
      have hcond : ((bif decide (e[i].Op = 5) then (some true) else (some (decide (e[i].Op = 12)))) : Option Bool) = some true := by
        rcases h5 with h5 | h5 <;> simp [h5]
      rw [hcond, Option.bind_some, cond_true, hidx, Option.bind_some, ← hg, hset]
    · have hg : renG m e[i] = e[i] := by unfold renG; rw [if_neg h5]
      have hcond : ((bif decide (e[i].Op = 5) then (some true) else (some (decide (e[i].Op = 12)))) : Option Bool) = some false := by
        simp [show ¬ e[i].Op = 5 by omega, show ¬ e[i].Op = 12 by omega]
      rw [hcond, Option.bind_some, cond_false, hsame hg]
  · unfold ref05_Rename.l20
    simp
theorem l30_eq (m : List Int) (hl : m.length ≤ 1000) : (loopO (ref05_Rename.l30 m) 0 = some (.inl ()) ∧ ∀ x ∈ m, 0 ≤ x ∧ x < 6) ∨ loopO (ref05_Rename.l30 m) 0 = some (.inr ([], 2)) := by
  have key := range_to (step := ref05_Rename.l30 m) m.length (fun i => (i : Int)) (fun i => ∀ x ∈ m.take i, 0 ≤ x ∧ x < 6) (fun o => (o = .inl () ∧ ∀ x ∈ m, 0 ≤ x ∧ x < 6) ∨ o = .inr ([], 2)) (fun t ht => by simp at ht) (fun i hi hg => ?_) (fun hg => ?_)
  · obtain ⟨o, h1, h2⟩ := key
    rw [show (0 : Int) = ((0 : Nat) : Int) from rfl, h1]
    rcases h2 with ⟨rfl, h2⟩ | rfl
    · exact .inl ⟨rfl, h2⟩
    · exact .inr rfl
  · unfold ref05_Rename.l30
    simp only [decide_eq_true (show (i : Int) < (m.length : Int) by omega), cond_true, idx_nat hi, Option.bind_some]
    by_cases h0 : m[i] < 0
    · exact .inr ⟨.inr ([], 2), by simp [h0], .inr rfl⟩
    · by_cases h6 : 6 ≤ m[i]
      · exact .inr ⟨.inr ([], 2), by simp [h0, h6], .inr rfl⟩
      · refine .inl ⟨by rw [wr_succ hi (by omega)]; simp [h0, h6], fun t ht => ?_⟩
        rw [take_succ hi] at ht
        rcases List.mem_append.1 ht with h | h
        · exact hg t h
        · simp at h; rw [h]; omega
  · exact ⟨.inl (), by unfold ref05_Rename.l30; simp, .inl ⟨rfl, fun x hx => hg x (by rwa [List.take_length])⟩⟩
theorem l44_eq (kinds m : List Int) (hl : m.length = kinds.length) (hk : kinds.length ≤ 6) (hm : ∀ x ∈ m, 0 ≤ x ∧ x < 6) : ∃ w, loopO (law07_TypesFollowRenaming.l44 kinds m) (0, [1, 1, 1, 1, 1, 1]) = some w ∧ w.length = 6 ∧ (okK kinds → okK w) := by
  refine loop_to (step := law07_TypesFollowRenaming.l44 kinds m) (fun s => ∃ i : Nat, s.1 = (i : Int) ∧ i ≤ m.length ∧ s.2.length = 6 ∧ (okK kinds → okK s.2)) (fun s => m.length - s.1.toNat) (fun w => w.length = 6 ∧ (okK kinds → okK w)) ?_ _ ⟨0, rfl, by omega, rfl, fun _ x hx => by simp at hx; omega⟩
  rintro ⟨a, w⟩ ⟨i, h1, h2, h3, h4⟩
  simp only at h1 h3 h4
  subst h1
  unfold law07_TypesFollowRenaming.l44
  by_cases hi : i < m.length
  · have hmi := hm _ (List.getElem_mem hi)
    refine .inl ⟨(((i + 1 : Nat) : Int), w.set m[i].toNat (kinds[i]'(by omega))), ?_, ⟨i + 1, rfl, by omega, by simp [h3], fun hok => ?_⟩, ?_⟩
    · simp only [decide_eq_true (show (i : Int) < (m.length : Int) by omega), cond_true, idx_nat hi, idx_nat (show i < kinds.length by omega), Option.bind_some]
      rw [idx_int hmi.1 (by omega), Option.bind_some, wr_succ hi (by omega)]
    · intro x hx
      rcases List.mem_or_eq_of_mem_set hx with h | h
      · exact h4 hok x h
      · rw [h]; exact hok _ (List.getElem_mem _)
    · simp only [Int.toNat_natCast]; omega
  · exact .inr ⟨w, by simp [show ¬ ((i : Int) < (m.length : Int)) by omega], h3, h4⟩
theorem l38_eq (kinds m w : List Int) (hl : m.length = kinds.length) (hk : kinds.length ≤ 6) (hm : ∀ x ∈ m, 0 ≤ x ∧ x < 6) (hw : w.length = 6) : (loopO (law07_TypesFollowRenaming.l38 kinds m w) 0 = some (.inl ()) ∧ ∀ i (h : i < m.length), w.getD (m[i]).toNat 0 = kinds.getD i 0) ∨ loopO (law07_TypesFollowRenaming.l38 kinds m w) 0 = some (.inr true) := by
  have key := range_to (step := law07_TypesFollowRenaming.l38 kinds m w) m.length (fun i => (i : Int)) (fun n => ∀ i (h : i < m.length), i < n → w.getD (m[i]).toNat 0 = kinds.getD i 0) (fun o => (o = .inl () ∧ ∀ i (h : i < m.length), w.getD (m[i]).toNat 0 = kinds.getD i 0) ∨ o = .inr true) (fun i h h0 => by omega) (fun i hi hg => ?_) (fun hg => ?_)
  · obtain ⟨o, h1, h2⟩ := key
    rw [show (0 : Int) = ((0 : Nat) : Int) from rfl, h1]
    rcases h2 with ⟨rfl, h2⟩ | rfl
    · exact .inl ⟨rfl, h2⟩
    · exact .inr rfl
  · have hmi := hm _ (List.getElem_mem hi)
    have hi' : i < kinds.length := by omega
    have hmw : m[i].toNat < w.length := by omega
    unfold law07_TypesFollowRenaming.l38
    simp only [decide_eq_true (show (i : Int) < (m.length : Int) by omega), cond_true, idx_nat hi, idx_nat hi', Option.bind_some]
    rw [idx_int hmi.1 (by omega), Option.bind_some, awake7_eq]
    by_cases he : w[m[i].toNat] = kinds[i]
    · refine .inl ⟨by rw [wr_succ hi (by omega)]; simp [he], fun j hj hjn => ?_⟩
      rcases Nat.lt_succ_iff_lt_or_eq.1 hjn with h | h
      · exact hg j hj h
      · subst h
        rw [List.getD_eq_getElem?_getD, List.getElem?_eq_getElem hmw, List.getD_eq_getElem?_getD, List.getElem?_eq_getElem hi']
        exact he
    · exact .inr ⟨.inr true, by simp [he], .inr rfl⟩
  · exact ⟨.inl (), by unfold law07_TypesFollowRenaming.l38; simp, .inl ⟨rfl, fun i h => hg i h h⟩⟩

theorem pure_TypesFollowRenaming (e : List ApiTerm) (kinds m : List Int) (b : Bool) (h1 : VSl ApiTerm.V e) (h2 : VSl (VInt .i64) kinds) (h3 : VSl (VInt .i64) m) (h4 : VAny b) : law07_TypesFollowRenaming e kinds m b = some true := by
  unfold law07_TypesFollowRenaming made_LightExpr
  rw [Option.bind_some, awake7_eq]
  by_cases ha : (e.length : Int) ≤ 250
  · by_cases hb : 6 < (kinds.length : Int)
    · simp [ha, hb]
    · by_cases hc : (m.length : Int) = (kinds.length : Int)
      · simp only [decide_eq_true ha, decide_eq_false hb, decide_eq_true hc, Bool.not_true, Bool.or_false, cond_false]
        rcases Valid_both e (kinds.length : Int) (by omega) (by omega) (by omega) with ⟨t, c, v, hT, h5⟩ | ⟨_, hT, h5⟩
        · have hren : ref05_Rename e m = some (e.map (renG m), 0) ∧ (∀ x ∈ m, 0 ≤ x ∧ x < 6) ∨ ref05_Rename e m = some ([], 2) := by
            unfold ref05_Rename
            rw [hc, h5, Option.bind_some]
            simp only [Bool.not_true, cond_false]
            rcases l30_eq m (by omega) with ⟨hl, hm⟩ | hl
            · refine .inl ⟨?_, hm⟩
              rw [hl, Option.bind_some, Sum.elim_inl, show room e.length 16 = true by unfold room; simp only [decide_eq_true_eq]; omega, cond_true]
              rw [l20_eq m e (by omega) (by rw [hc]; exact v.args), Option.bind_some]
            · exact .inr (by rw [hl]; rfl)
          rw [h5, Option.bind_some, Option.bind_some]
          simp only [Bool.not_true, cond_false]
          rcases hren with ⟨hren, hm⟩ | hren
          · rw [hren, Option.bind_some]
            simp only [decide_true, Bool.not_true, cond_false]
            obtain ⟨w, hw, hw6, hwk⟩ := l44_eq kinds m (by omega) (by omega) hm
            rw [hw, Option.bind_some]
            rcases l38_eq kinds m w (by omega) (by omega) hm hw6 with ⟨h38, hww⟩ | h38
            · rw [h38, Option.bind_some, Sum.elim_inl]
              by_cases hg : okK kinds
              · have g : Good e kinds t c := ⟨by omega, hg, v⟩
                have getm : ∀ x : ApiTerm, (x.Op = 5 ∨ x.Op = 12) → argB x (kinds.length : Int) = true → ∃ h : x.Arg.toNat < m.length, renG m x = ⟨x.Op, m[x.Arg.toNat]⟩ := by
                  intro x hx hax
                  unfold argB at hax
                  have hax := of_decide_eq_true hax
                  rw [if_neg (show ¬ x.Op = 1 by omega), if_pos hx] at hax
                  refine ⟨by omega, ?_⟩
                  unfold renG
                  rw [if_pos hx, List.getD_eq_getElem?_getD, List.getElem?_eq_getElem (by omega)]; rfl
                have op : ∀ x, (renG m x).Op = x.Op := fun x => by unfold renG; split <;> rfl
                have same : ∀ x, ¬ (x.Op = 5 ∨ x.Op = 12) → renG m x = x := fun x hx => by unfold renG; rw [if_neg hx]
                obtain ⟨t', c', g', hty⟩ := Good.rel (R := fun x y => argB x (kinds.length : Int) = true ∧ y = renG m x) (kinds' := w) (e' := e.map (renG m))
                  (fun x y h => by rw [h.2, op])
                  (fun x y b h => by
                    obtain ⟨h, rfl⟩ := h
                    by_cases hx : x.Op = 5 ∨ x.Op = 12
                    · obtain ⟨hlt, hr⟩ := getm x hx h
                      rw [hr]
                      unfold leafK
                      simp only [hww _ hlt]
                    · rw [same x hx]
                      unfold leafK
                      simp only [if_neg hx])
                  (fun x y h hax => by
                    obtain ⟨h, rfl⟩ := h
                    by_cases hx : x.Op = 5 ∨ x.Op = 12
                    · obtain ⟨hlt, hr⟩ := getm x hx h
                      have := hm _ (List.getElem_mem hlt)
                      rw [hr]
                      unfold argB
                      simp only [if_neg (show ¬ x.Op = 1 by omega), if_pos hx, decide_eq_true_eq]
                      omega
                    · rw [same x hx]
                      unfold argB at h ⊢
                      simp only [if_neg hx] at h ⊢
                      exact h)
                  (by omega) (hwk hg) (LRel.mapMem (renG m) e (fun x hx => ⟨List.all_eq_true.1 v.args x hx, rfl⟩)) g
                rw [(Of_good g b).1, (Of_good g' b).1, ← hty b]
                unfold outK
                by_cases hz : tyK kinds b t c = 0 <;> simp [hz]
              · rw [(Of_bad (by omega) (by omega) (fun ⟨t, c, g⟩ => hg g.ok) b).1]; simp
            · rw [h38]; simp
          · rw [hren]; simp
        · rw [h5]; simp
      · simp [ha, hb, hc]
  · simp [ha]
end Go.Proofs.Ytkpghgnbbfpbmaa
