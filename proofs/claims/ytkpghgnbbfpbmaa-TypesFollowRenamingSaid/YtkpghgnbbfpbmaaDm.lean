/- The D-logic: weakening, function bodies, contracts. -/
import Derived.Test.YtkpghgnbbfpbmaaDl
set_option linter.unusedSimpArgs false
set_option linter.unusedVariables false
namespace Go.Proofs.Ytkpghgnbbfpbmaa

/-! ### States of a given shape -/
def regs : List (Nat × D) → Nat → D
  | [], _ => .any
  | p :: l, t => if t = p.1 then p.2 else regs l t
def objs : List (Nat × MObj) → Nat → Option MObj
  | [], _ => none
  | p :: l, b => if b = p.1 then some p.2 else objs l b
def mkSt (rs : List (Nat × D)) (os : List (Nat × MObj)) (nx : Nat) : St := ⟨regs rs, objs os, nx⟩

def D.idsIn (ks : List Nat) (d : D) : Bool := d.ids.all fun b => ks.contains b
def MObj.ids : MObj → List Nat
  | .drow _ els => els.flatMap D.idsL
  | _ => []

mutual
theorem has_ids (b : Nat) : ∀ d : D, d.has b = true → b ∈ d.ids
  | .any, h => by simp [D.has] at h
  | .u x, h => by simp [D.has] at h
  | .ref b' s i o, h => by simp [D.has] at h; simp [D.ids, h]
  | .pref b' s i o c k, h => by simp [D.has] at h; simp [D.ids, h]
  | .msl b' n, h => by simp [D.has] at h; simp [D.ids, h]
  | .mp b', h => by simp [D.has] at h; simp [D.ids, h]
  | .agg l, h => by simp only [D.has] at h; simp only [D.ids]; exact hasL_ids b l h
  | .tup l, h => by simp only [D.has] at h; simp only [D.ids]; exact hasL_ids b l h
  | .fn f l m, h => by
    simp only [D.has, Bool.or_eq_true] at h
    simp only [D.ids, List.mem_append]
    exact h.imp (hasL_ids b l) (hasL_ids b m)
theorem hasL_ids (b : Nat) : ∀ l : List D, D.hasL b l = true → b ∈ D.idsL l
  | [], h => by simp [D.hasL] at h
  | d :: l, h => by
    simp only [D.hasL, Bool.or_eq_true] at h
    simp only [D.idsL, List.mem_append]
    exact h.imp (has_ids b d) (hasL_ids b l)
end

theorem obj_has_ids {b : Nat} {o : MObj} (h : o.has b = true) : b ∈ o.ids := by
  cases o with
  | drow s els =>
    simp only [MObj.has, D.hasLL, List.any_eq_true] at h
    obtain ⟨l, hl, h⟩ := h
    simp only [MObj.ids, List.mem_flatMap]
    exact ⟨l, hl, hasL_ids b l h⟩
  | row s els => simp [MObj.has] at h
  | map es => simp [MObj.has] at h

/-- What is kept: the slots rs, the objects os. -/
theorem weak_to {st : St} {rs : List (Nat × D)} {os : List (Nat × MObj)} {nx : Nat} (h1 : ∀ p ∈ rs, st.σ p.1 = p.2 ∨ p.2 = .any) (h2 : ∀ p ∈ os, st.H p.1 = some p.2) (h3 : (os.all fun p => decide (p.1 < nx)) = true)
    (h4 : (rs.all fun p => p.2.idsIn (os.map (·.1))) = true) (h5 : (os.all fun p => p.2.ids.all fun b => (os.map (·.1)).contains b) = true) : Weak st (mkSt rs os nx) := by
  rintro n w0 M0 F a w ⟨ρ, rfl, hh⟩
  have hobj : ∀ {b o}, objs os b = some o → st.H b = some o ∧ ∃ p ∈ os, p.1 = b ∧ p.2 = o := by
    intro b o
    clear h3 h4 h5
    induction os with
    | nil => intro h; simp [objs] at h
    | cons p l ih =>
      intro h
      simp only [objs] at h
      split at h
      · rename_i hb; subst hb; injection h with h; subst h; exact ⟨h2 p (by simp), p, by simp, rfl, rfl⟩
      · obtain ⟨g1, q, g2, g3⟩ := ih (fun q hq => h2 q (by simp [hq])) h; exact ⟨g1, q, by simp [g2], g3⟩
  have hin : ∀ {b}, b ∈ os.map (·.1) → ∃ o, objs os b = some o := by
    intro b
    clear h2 h3 h4 h5 hobj
    induction os with
    | nil => intro h; simp at h
    | cons p l ih =>
      intro h
      simp only [objs]
      split
      · exact ⟨_, rfl⟩
      · rename_i hb; simp at h; rcases h with h | ⟨x, h⟩
        · exact absurd h hb
        · exact ih (by simp; exact ⟨x, h⟩)
  let ρ' : Rho := ⟨fun b => match objs os b with | some _ => ρ b | none => none, ρ.F⟩
  have hρ : ∀ {b}, b ∈ os.map (·.1) → ρ' b = ρ b := by
    intro b hb
    obtain ⟨o, ho⟩ := hin hb
    show (match objs os b with | some _ => ρ b | none => none) = _
    rw [ho]
  have hsub : ∀ {b x}, ρ' b = some x → ρ b = some x := by
    intro b x h
    have h : (match objs os b with | some _ => ρ b | none => none) = some x := h
    split at h
    · exact h
    · cases h
  have hM : ∀ c, c < w.heap.size → ρ'.M c → ρ.M c := by
    rintro c _ (⟨b, k, h⟩ | h)
    · exact .inl ⟨b, k, hsub h⟩
    · exact .inr h
  have rel : ∀ {v d}, Rel ρ w v d → d.idsIn (os.map (·.1)) = true → Rel ρ' w v d := by
    intro v d h hd
    refine h.mono (Nat.le_refl _) (fun _ _ _ => rfl) hM (fun b hb => hρ ?_)
    simp only [D.idsIn, List.all_eq_true, List.contains_iff_mem] at hd
    exact hd b (has_ids b d hb)
  refine ⟨ρ', rfl, hh.defers, hh.size, hh.frame, ⟨fun b hb => ?_, fun b o hb => ?_, fun b c k h => hh.heap.own b c k (hsub h), fun b b' c k k' h h' => hh.heap.inj b b' c k k' (hsub h) (hsub h'), fun b hb => ?_, hh.heap.far⟩, fun t => ?_⟩
  · show (match objs os b with | some _ => ρ b | none => none) = none
    have hb : objs os b = none := hb
    rw [hb]
  · obtain ⟨g1, p, g2, rfl, rfl⟩ := hobj hb
    obtain ⟨c, k, g3, g4⟩ := hh.heap.obj _ _ g1
    have hmem : p.1 ∈ os.map (·.1) := List.mem_map.2 ⟨p, g2, rfl⟩
    refine ⟨c, k, by rw [hρ hmem]; exact g3, g4.mono (Nat.le_refl _) (fun _ _ _ => rfl) hM (fun x hx => hρ ?_) (fun _ _ => rfl)⟩
    simp only [List.all_eq_true, List.contains_iff_mem] at h5
    exact h5 p g2 x (obj_has_ids hx)
  · cases ho : objs os b with
    | none => exact ho
    | some o =>
      obtain ⟨_, p, g2, g3, _⟩ := hobj ho
      simp only [List.all_eq_true, decide_eq_true_eq] at h3
      have := h3 p g2
      have hb : nx ≤ b := hb
      omega
  · show Rel ρ' w _ (regs rs t)
    have h0 := hh.regs t
    clear h2 h3 h5 hobj hin hsub
    induction rs with
    | nil => exact .any _
    | cons p l ih =>
      simp only [regs]
      split
      · rename_i ht
        subst ht
        rcases h1 p (by simp) with h | h
        · rw [h] at h0
          exact rel h0 (by simp only [List.all_eq_true] at h4; exact h4 p (by simp))
        · rw [h]; exact .any _
      · exact ih (fun q hq => h1 q (by simp [hq])) (by simp only [List.all_eq_true] at h4 ⊢; exact fun q hq => h4 q (by simp [hq]))

/-! ### Results -/
/-- nil and an empty slice read alike. -/
inductive Nq : U → U → Prop
  | refl (x : U) : Nq x x
  | nil : Nq .nil (.sl [])
  | tup (xs ys : List U) (hl : xs.length = ys.length) (h : ∀ i, i < ys.length → Nq (xs.getD i .pnil) (ys.getD i .pnil)) : Nq (.tup xs) (.tup ys)
  | agg (xs ys : List U) (hl : xs.length = ys.length) (h : ∀ i, i < ys.length → Nq (xs.getD i .pnil) (ys.getD i .pnil)) : Nq (.agg xs) (.agg ys)

theorem Nq.rel {M : Nat → Prop} {w : World} {x y : U} (h : Nq x y) : ∀ {v : Value}, RelU M w v x → RelU M w v y := by
  induction h with
  | refl x => exact fun h => h
  | nil => intro v h; cases h; exact .slnil
  | tup xs ys hl _ ih =>
    intro v h
    cases h with
    | tup cs us hs h => exact .tup cs ys (by rw [hs, hl]) (fun i hi => ih i hi (h i (by rw [hl]; exact hi)))
  | agg xs ys hl _ ih =>
    intro v h
    cases h with
    | agg cs us hs h1 h => exact .agg cs ys (by rw [hs, hl]) (fun i hi => h1 i (by rw [hl]; exact hi)) (fun i hi => ih i hi (h i (by rw [hl]; exact hi)))

theorem PC.nq {P : Program} {g : FuncId} {xs ys : List U} {r r' : U} (h : PC P g ys r) (hl : xs.length = ys.length) (hx : ∀ i, i < ys.length → Nq (xs.getD i .pnil) (ys.getD i .pnil)) (hr : Nq r r') : PC P g xs r' := by
  refine ⟨h.1, fun F w vs hF hs hv => ?_⟩
  refine (h.2 F w vs hF (by rw [hs, hl]) (fun i hi => (hx i hi).rel (hv i (by rw [hl]; exact hi)))).mono ?_
  rintro e w' ⟨v, rfl, h1, h2⟩
  exact ⟨v, rfl, hr.rel h1, h2⟩

def resSlots : List ResultVar → Option (List Nat)
  | [] => some []
  | .tmp t :: l => (resSlots l).map (t :: ·)
  | _ :: _ => none
def resD (st : St) : List Nat → D
  | [t] => st.σ t
  | l => mkTup (l.map st.σ)
def retQ (ts : List Nat) (r : U) : Exit → St → Prop
  | .normal, st => ∃ x, frz st.H 40 (resD st ts) = some x ∧ Nq x r
  | .ret, st => ∃ x, frz st.H 40 (resD st ts) = some x ∧ Nq x r
  | _, _ => False

/-- A function's abstract code: how many slots, where its results lie. -/
structure FC where
  n : Nat
  rs : List Nat
  c : AC
def okF (P : Program) (g : FuncId) (f : FC) : Bool := match P.funcs[g]? with
  | some fn => fn.name != "runtime.NumGoroutine" && fn.ntmps == f.n && (resSlots fn.results.toList == some f.rs) && (match fn.body with | some c => okC P f.n c f.c | none => false)
  | none => false

def argRegs : Nat → List U → List (Nat × D)
  | _, [] => []
  | k, u :: l => (k, .u u) :: argRegs (k + 1) l
theorem argRegs_at : ∀ (l : List U) (k t : Nat), regs (argRegs k l) t = if k ≤ t ∧ t < k + l.length then .u (l.getD (t - k) .pnil) else .any
  | [], k, t => by
    simp only [argRegs, regs]
    rw [if_neg (by simp only [List.length_nil]; omega)]
  | u :: l, k, t => by
    simp only [argRegs, regs]
    split
    · rename_i h; subst h; simp
    · rename_i h
      rw [argRegs_at l (k + 1) t]
      by_cases h2 : k + 1 ≤ t ∧ t < k + 1 + l.length
      · rw [if_pos h2, if_pos (by simp; omega)]
        obtain ⟨m, rfl⟩ : ∃ m, t = k + 1 + m := ⟨t - (k + 1), by omega⟩
        have e1 : k + 1 + m - (k + 1) = m := by omega
        have e2 : k + 1 + m - k = m + 1 := by omega
        rw [e1, e2]; simp
      · rw [if_neg h2, if_neg (by simp; omega)]

def resV (tmps : Array Value) : List Nat → Value
  | [t] => tmps.getD t undef
  | l => .tuple (l.map fun t => tmps.getD t undef).toArray
theorem results_run {P : Program} {fn : Func} {ts : List Nat} (h : resSlots fn.results.toList = some ts) (tmps : Array Value) (w : World) :
    (results fn tmps).run P w = .ok (resV tmps ts) w := by
  have key : ∀ (f : ResultVar → Sem Value), (∀ t, f (.tmp t) = pure (tmps.getD t undef)) → ∀ (l : List ResultVar) (ts : List Nat), resSlots l = some ts → (l.mapM (m := Sem) f).run P w = .ok (ts.map fun t => tmps.getD t undef) w := by
    intro f hf l
    induction l with
    | nil => intro ts h; simp only [resSlots, Option.some.injEq] at h; subst h; rfl
    | cons x l ih =>
      intro ts h
      cases x with
      | cell a t => simp [resSlots] at h
      | tmp t =>
        simp only [resSlots, Option.map_eq_some_iff] at h
        obtain ⟨ts', h, rfl⟩ := h
        rw [List.mapM_cons, hf]
        simp only [Sem.run_bind, Sem.run_pure, Result.andThen_ok, ih ts' h, List.map_cons]
  unfold results
  rw [Array.mapM_eq_mapM_toList]
  simp only [Sem.run_bind, Sem.run_map]
  rw [key _ (fun t => by rfl) _ _ h]
  simp only [Result.andThen_ok, Sem.run_pure]
  match ts with
  | [] => rfl
  | [t] => rfl
  | _ :: _ :: _ => rfl

/-- What stands in memory is no longer than a slice can be. -/
inductive Bnd : U → Prop
  | sl (els : List (List U)) (h : els.length ≤ 9223372036854775807) (k : ∀ i j, i < els.length → j < (els.getD i []).length → Bnd ((els.getD i []).getD j .pnil)) : Bnd (.sl els)
  | agg (l : List U) (h : ∀ i, i < l.length → Bnd (l.getD i .pnil)) : Bnd (.agg l)
  | fp (l : List U) (off : Nat) (h : ∀ i, i < l.length → Bnd (l.getD i .pnil)) : Bnd (.fp l off)
  | other (u : U) (h1 : ∀ els, u ≠ .sl els) (h2 : ∀ l, u ≠ .agg l) (h3 : ∀ l o, u ≠ .fp l o) : Bnd u
theorem Bnd.len {els : List (List U)} (h : Bnd (.sl els)) : els.length ≤ 9223372036854775807 := by
  cases h with
  | sl _ h _ => exact h
  | other _ h => exact absurd rfl (h els)
theorem Bnd.elem {els : List (List U)} (h : Bnd (.sl els)) {i j : Nat} (hi : i < els.length) (hj : j < (els.getD i []).length) : Bnd ((els.getD i []).getD j .pnil) := by
  cases h with
  | sl _ _ h => exact h i j hi hj
  | other _ h => exact absurd rfl (h els)
theorem Bnd.cell {l : List U} (h : Bnd (.agg l)) {i : Nat} (hi : i < l.length) : Bnd (l.getD i .pnil) := by
  cases h with
  | agg _ h => exact h i hi
  | other _ _ h => exact absurd rfl (h l)
theorem Bnd.at {l : List U} {o : Nat} (h : Bnd (.fp l o)) {i : Nat} (hi : i < l.length) : Bnd (l.getD i .pnil) := by
  cases h with
  | fp _ _ h => exact h i hi
  | other _ _ _ h => exact absurd rfl (h l o)
theorem RelU.bnd {M : Nat → Prop} {w : World} {v : Value} {u : U} (h : RelU M w v u) : Bnd u := by
  induction h with
  | sl b o c s n els hn hc hm hM hs vs hv h1 hr ih =>
    refine .sl _ ?_ (fun i j hi hj => ih i j hi ?_)
    · have : maxLen = 9223372036854775807 := rfl
      omega
    · rw [getD_lt _ hi] at hj; rwa [hs _ (List.getElem_mem hi)] at hj
  | slnil => exact .sl _ (by simp) (fun i j hi => by simp at hi)
  | slz a c => exact .sl _ (by simp) (fun i j hi => by simp at hi)
  | agg cs us hs h1 _ ih => exact .agg _ ih
  | fp b o p off cells hp hM vs hv h1 _ ih => exact .fp _ _ ih
  | _ => exact .other _ (by simp) (by simp) (by simp)

theorem PC_of {P : Program} {g : FuncId} {f : FC} (hok : okF P g f = true) {args : List U} (hn : Nat.ble args.length f.n = true) {r : U} (h : (∀ i, i < args.length → Bnd (args.getD i .pnil)) → TA P f.n f.c (mkSt (argRegs 0 args) [] 0) (retQ f.rs r)) : PC P g args r := by
  have hn : args.length ≤ f.n := Nat.le_of_ble_eq_true hn
  unfold okF at hok
  cases hfn : P.funcs[g]? with
  | none => simp [hfn] at hok
  | some fn =>
    simp only [hfn, Bool.and_eq_true, bne_iff_ne, beq_iff_eq] at hok
    obtain ⟨⟨⟨h1, h2⟩, h3⟩, h4⟩ := hok
    cases hb : fn.body with
    | none => simp [hb] at h4
    | some c =>
      simp only [hb] at h4
      refine ⟨by simp [hasBody, hfn, h1, hb], fun F w vs hF hs hv => ?_⟩
      refine calls_of_wp hfn hb ?_
      have h := h fun i hi => (hv i hi).bnd
      rw [h2]
      have hst : Holds f.n w (fun _ => False) F (mkSt (argRegs 0 args) [] 0) { tmps := vs ++ Array.replicate (f.n - vs.size) undef, defers := [] } w := by
        refine ⟨⟨fun _ => none, F⟩, rfl, rfl, by simp; omega, Frame0.refl _ _, ⟨fun _ _ => rfl, fun b o h => by simp [mkSt, objs] at h, fun b c k h => by simp at h, fun b b' c k k' h => by simp at h, fun _ _ => rfl, fun c hc => ⟨hF c hc, fun h => h⟩⟩, fun t => ?_⟩
        show Rel _ w _ (regs (argRegs 0 args) t)
        rw [argRegs_at]
        split
        · rename_i ht
          have htl : t < args.length := by omega
          have : (vs ++ Array.replicate (f.n - vs.size) undef).getD t undef = vs.getD t undef := by
            have : t < vs.size := by omega
            simp [Array.getD_eq_getD_getElem?, Array.getElem?_append, this]
          rw [this]
          refine .u ((hv t htl).mono (Nat.le_refl _) (fun _ _ _ => rfl) ?_)
          rintro c _ (⟨b, k, h⟩ | h)
          · simp at h
          · exact h
        · exact .any _
      refine wp_mono (h c h4 w (fun _ => False) F _ w hst) ?_
      rintro e a' w' ⟨st', q, ρ, rfl, hh⟩
      have fin : (∃ x, frz st'.H 40 (resD st' f.rs) = some x ∧ Nq x r) → a'.defers = [] ∧ ∃ v, (results fn a'.tmps).run P w' = .ok v w' ∧ ∃ v', Ending.returned v = .returned v' ∧ RelU ρ.F w' v' r ∧ Frame0 w (fun _ => False) w' := by
        rintro ⟨x, hx, hq⟩
        refine ⟨hh.defers, _, results_run h3 _ _, _, rfl, ?_, hh.frame⟩
        have hown : ∀ c, ρ.own c → ¬ ρ.F c := by
          rintro c ⟨b, k, hb⟩ hf
          rcases (hh.heap.own b c k hb).2 with h | h
          · exact h
          · have := (hh.heap.far c hf).1; omega
        refine hq.rel ((frz_rel hh.heap (M' := ρ.F) (fun _ _ h => h) (fun c h => .inr h) (fun b c k _ hb => hown c ⟨b, k, hb⟩) 40).1 _ _ x ?_ hx)
        match hrs : f.rs with
        | [t] => exact hh.regs t
        | [] => exact mkTup_rel (cs := #[]) (l := []) rfl (fun i hi => absurd hi (by simp))
        | t1 :: t2 :: l =>
          refine mkTup_rel (cs := (((t1 :: t2 :: l).map fun t => a'.tmps.getD t undef).toArray)) (l := ((t1 :: t2 :: l).map st'.σ)) (by simp [List.length_map]) (fun i hi => ?_)
          have hi' : i < (t1 :: t2 :: l).length := by simpa using hi
          have e1 : (((t1 :: t2 :: l).map fun t => a'.tmps.getD t undef).toArray).getD i undef = a'.tmps.getD ((t1 :: t2 :: l)[i]) undef := by
            rw [arr_getD, getD_lt _ (by simpa using hi')]
            simp only [List.getElem_map]
          have e2 : ((t1 :: t2 :: l).map st'.σ).getD i .any = st'.σ ((t1 :: t2 :: l)[i]) := by
            rw [getD_lt _ (by simpa using hi')]
            simp only [List.getElem_map]
          rw [e1, e2]; exact hh.regs _
      cases e with
      | normal => exact fin q
      | ret => exact fin q
      | _ => exact q.elim

end Go.Proofs.Ytkpghgnbbfpbmaa
