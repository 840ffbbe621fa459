/- Abstract code, the check that it is a function's code, the rules of the D-logic for it, and the passage to contracts. -/
import Derived.Test.YtkpghgnbbfpbmaaDk
set_option linter.unusedSimpArgs false
set_option linter.unusedVariables false
namespace Go.Proofs.Ytkpghgnbbfpbmaa

structure AOp where
  d : Option Nat
  g : Option (Nat × Bool)
  o : AO

inductive AC where
  | reg (ops : List AOp)
  | rgd (ops : List AOp) (free : List (Nat × Nat))
  | seq (a b : AC)
  | cond (t : Opd) (a b : AC)
  | block (i : Nat) (c : AC)
  | loop (c : AC)
  | exit (i : Nat)
  | ret
  | skip

def okA (P : Program) (n : Nat) (all : Array Oper) (o : Oper) (a : AOp) : Bool :=
  o.dst == a.d && (match a.d with | some t => decide (t < n) | none => true) &&
  (match o.guard, a.g with
    | none, none => true
    | some (j, want), some (t, want') => (match all[j]? with | some p => p.dst == some t | none => false) && want == want' && decide (t < n)
    | _, _ => false) && okOp P o.op a.o
def okOps (P : Program) (n : Nat) (all : Array Oper) : List Oper → List AOp → Bool
  | [], [] => true
  | o :: os, a :: as => okA P n all o a && okOps P n all os as
  | _, _ => false

/-- Which operations come ahead of each, by the edges that bind at every order. -/
def befGo (acc : List (List Nat)) : List Oper → List (List Nat)
  | [] => acc
  | o :: os =>
    let ds := (o.after.toList.filter (Region.binds .any)).map (·.on)
    befGo (acc ++ [(ds ++ ds.flatMap fun k => acc.getD k []).eraseDups]) os
def AO.wrs : AO → Bool
  | .st _ _ _ => true
  | .ap _ _ _ _ => true
  | .al _ => true
  | .bx _ => true
  | .bs _ _ => true
  | .mk _ _ _ _ _ => true
  | _ => false
def Oper.looks (all : Array Oper) (o : Oper) : List Nat :=
  (o.op.operands.toList.filterMap fun | .tmp t => some t | _ => none) ++ (match o.guard with | some (j, _) => (match all[j]? with | some p => p.dst.toList | none => []) | none => [])
def apartB (all : Array Oper) (x y : Oper) : Bool :=
  (match x.dst with | some d => !(x.dst == y.dst) && !(Oper.looks all y).contains d | none => true) && (match y.dst with | some d => !(Oper.looks all x).contains d | none => true)
/-- Which operations come ahead of each, each by an edge; all other pairs are named. -/
def drawOk (ops : Array Oper) (free : List (Nat × Nat)) : Bool :=
  let b := befGo [] ops.toList
  (List.range ops.size).all fun j => (match ops[j]? with
    | some o => (o.after.toList.filter (Region.binds .any)).all (fun e => decide (e.on < j)) && (b.getD j []).all fun c => (o.after.toList.filter (Region.binds .any)).any fun e => c == e.on || (b.getD e.on []).contains c
    | none => true) && (List.range j).all fun i => (b.getD j []).contains i || free.contains (i, j)
theorem drawOk_parts {ops : Array Oper} {free : List (Nat × Nat)} (h : drawOk ops free = true) :
    (∀ j op, ops[j]? = some op → (∀ e ∈ op.after, Region.binds .any e = true → e.on < j) ∧ ∀ c ∈ (befGo [] ops.toList).getD j [], ∃ e ∈ op.after, Region.binds .any e = true ∧ (c = e.on ∨ c ∈ (befGo [] ops.toList).getD e.on [])) ∧
    ∀ i j, i < j → j < ops.size → i ∈ (befGo [] ops.toList).getD j [] ∨ (i, j) ∈ free := by
  unfold drawOk at h
  generalize befGo [] ops.toList = b at h ⊢
  simp only [List.all_eq_true, List.mem_range, Bool.and_eq_true] at h
  refine ⟨fun j op hj => ?_, fun i j hij hj => ?_⟩
  · have hjs : j < ops.size := (Array.getElem?_eq_some_iff.1 hj).1
    have := (h j hjs).1
    rw [hj] at this
    simp only [List.all_eq_true, Bool.and_eq_true, List.mem_filter, Array.mem_toList_iff, decide_eq_true_eq, List.any_eq_true, Bool.or_eq_true, beq_iff_eq, List.contains_iff_mem] at this
    refine ⟨fun e he hb => this.1 e ⟨he, hb⟩, fun c hc => ?_⟩
    obtain ⟨e, ⟨he, hb⟩, hce⟩ := this.2 c hc
    exact ⟨e, he, hb, hce⟩
  · have := (h j hj).2 i hij
    simpa only [Bool.or_eq_true, List.contains_iff_mem] using this

def okC (P : Program) (n : Nat) : Code → AC → Bool
  | .skip, .skip => true
  | .label _, .skip => true
  | .ret, .ret => true
  | .exit i, .exit j => i == j
  | .seq a b, .seq x y => okC P n a x && okC P n b y
  | .cond c a b, .cond t x y => okOpd c t && okC P n a x && okC P n b y
  | .block i c, .block j x => i == j && okC P n c x
  | .loop c, .loop x => okC P n c x
  | .region _ ops draw, .reg l => !draw && okOps P n ops ops.toList l
  | .region _ ops draw, .rgd l free => draw && okOps P n ops ops.toList l && drawOk ops free
  | _, _ => false

/-! ### Regions -/
def seqVC (P : Program) : List AOp → St → (St → Prop) → Prop
  | [], st, K => K st
  | o :: os, st, K => match o.g with
    | none => opVC P o.o st.ev st.H st.nx (fun e => seqVC P os (st.app o.d e) K)
    | some (t, want) => match st.σ t with
      | .u (.bool b) => if b = want then opVC P o.o st.ev st.H st.nx (fun e => seqVC P os (st.app o.d e) K) else seqVC P os (st.put o.d .any) K
      | _ => False

section
variable {P : Program} {n : Nat}

theorem okA_parts {all : Array Oper} {o : Oper} {a : AOp} (h : okA P n all o a = true) : o.dst = a.d ∧ (∀ t, o.dst = some t → t < n) ∧ okOp P o.op a.o = true ∧
    ((o.guard = none ∧ a.g = none) ∨ ∃ j want t, o.guard = some (j, want) ∧ a.g = some (t, want) ∧ t < n ∧ ∃ p, all[j]? = some p ∧ p.dst = some t) := by
  simp only [okA, Bool.and_eq_true, beq_iff_eq] at h
  obtain ⟨⟨⟨h1, h2⟩, h3⟩, h4⟩ := h
  refine ⟨h1, fun t ht => ?_, h4, ?_⟩
  · rw [← h1, ht] at h2; simpa using h2
  · cases hg : o.guard with
    | none => cases ha : a.g with
      | none => exact .inl ⟨rfl, rfl⟩
      | some x => simp [hg, ha] at h3
    | some x =>
      obtain ⟨j, want⟩ := x
      cases ha : a.g with
      | none => simp [hg, ha] at h3
      | some y =>
        obtain ⟨t, want'⟩ := y
        simp only [hg, ha, Bool.and_eq_true, beq_iff_eq, decide_eq_true_eq] at h3
        obtain ⟨⟨h5, rfl⟩, h6⟩ := h3
        cases hp : all[j]? with
        | none => simp [hp] at h5
        | some p => exact .inr ⟨j, want, t, rfl, rfl, h6, p, hp, by simpa [hp] using h5⟩

theorem wanted_none {o : Oper} {all : Array Oper} {a : Act} (h : o.guard = none) : Region.wanted o (yielded all a.tmps) = true := by simp [Region.wanted, h]
theorem wanted_some {o p : Oper} {all : Array Oper} {a : Act} {j t : Nat} {want b : Bool} (h : o.guard = some (j, want)) (hp : all[j]? = some p) (hpd : p.dst = some t) (ht : t < a.tmps.size) (hv : a.tmps.getD t undef = .bool b) :
    Region.wanted o (yielded all a.tmps) = (b == want) := by
  have : a.tmps[t]? = some (.bool b) := by
    rw [Array.getD_eq_getD_getElem?] at hv
    rw [Array.getElem?_eq_getElem ht] at hv ⊢
    simpa using hv
  simp [Region.wanted, h, yielded, hp, hpd, this]

theorem Holds.skip {w0 : World} {M0 F : Nat → Prop} {st : St} {a : Act} {w : World} (hh : Holds n w0 M0 F st a w) {d : Option Nat} (hd : ∀ t, d = some t → t < n) : Holds n w0 M0 F (st.put d .any) (a.put d undef) w := by
  obtain ⟨ρ, rfl, hh⟩ := hh
  have := hh.put d hd undef { d := .any } ⟨rfl, rfl, rfl⟩ w (Frame0.refl _ _) (.any _)
  simpa [St.app, St.killO, updH] using this

/-- One operation, in whatever order it stands. -/
theorem op_step {all : Array Oper} {o : Oper} {a : AOp} (hc : okA P n all o a = true) {i : Nat} (hi : all[i]? = some o) {w0 : World} {M0 F : Nat → Prop} {st : St} {fr : Nat} {act : Act} {w : World} (hh : Holds n w0 M0 F st act w) (hf : st.H fr = none)
    {K' : Act → World → Prop} {Q : Exit → Act → World → Prop} {R : Eff → Prop}
    (h : match a.g with
      | none => opVC P a.o st.ev st.H fr R ∧ ∀ e, R e → ∀ act' w', Holds n w0 M0 F (st.app a.d e) act' w' → K' act' w'
      | some (t, want) => match st.σ t with
        | .u (.bool b) => if b = want then opVC P a.o st.ev st.H fr R ∧ ∀ e, R e → ∀ act' w', Holds n w0 M0 F (st.app a.d e) act' w' → K' act' w' else ∀ act' w', Holds n w0 M0 F (st.put a.d .any) act' w' → K' act' w'
        | _ => False) : wpOp P all Q i K' act w := by
  obtain ⟨h1, h2, h3, h4⟩ := okA_parts hc
  unfold wpOp
  simp only [hi]
  have run : (opVC P a.o st.ev st.H fr R ∧ ∀ e, R e → ∀ act' w', Holds n w0 M0 F (st.app a.d e) act' w' → K' act' w') → o.wp P act w K' Q := by
    rintro ⟨hk, hK⟩
    obtain ⟨e, he, hok⟩ := op_sound h3 h2 hf hk
    refine Oper.wp_mono ?_ (hok w0 M0 F act w Q hh)
    intro act' w' hH
    rw [h1] at hH
    exact hK e he act' w' hH
  rcases h4 with ⟨hg, ha⟩ | ⟨j, want, t, hg, ha, ht, p, hp, hpd⟩
  · rw [ha] at h
    rw [wanted_none hg, if_pos rfl]
    exact .inl (run h)
  · rw [ha] at h
    simp only at h
    split at h
    · rename_i b hb
      obtain ⟨ρ, hF, hR⟩ := hh
      have hv := hR.regs t
      rw [hb] at hv
      rw [wanted_some hg hp hpd (by rw [hR.size]; exact ht) hv.bool_inv]
      by_cases hbw : b = want
      · subst hbw
        rw [if_pos rfl] at h
        rw [if_pos (by simp)]
        exact .inl (run h)
      · rw [if_neg hbw] at h
        rw [if_neg (by simpa using hbw), h1]
        exact h _ _ (Holds.skip ⟨ρ, hF, hR⟩ (by rw [← h1]; exact h2))
    · exact h.elim

theorem Holds.nx_none {w0 : World} {M0 F : Nat → Prop} {st : St} {a : Act} {w : World} (hh : Holds n w0 M0 F st a w) : st.H st.nx = none := by
  obtain ⟨ρ, _, h⟩ := hh
  exact h.heap.fresh _ (Nat.le_refl _)

theorem seq_sound {all : Array Oper} {K : St → Prop} {Q : Exit → St → Prop} {w0 : World} {M0 F : Nat → Prop} : ∀ (os : List Oper) (l : List AOp) (k : Nat), okOps P n all os l = true → (∀ j o, os[j]? = some o → all[k + j]? = some o) → ∀ (st : St) (a : Act) (w : World), seqVC P l st K → Holds n w0 M0 F st a w →
    wpOps P all (fun e a' w' => ∃ st', thn Q K e st' ∧ Holds n w0 M0 F st' a' w') (List.range' k os.length) a w
  | [], [], k, _, _, st, a, w, h, hh => ⟨st, h, hh⟩
  | o :: os, x :: l, k, hc, hall, st, a, w, h, hh => by
    simp only [okOps, Bool.and_eq_true] at hc
    rw [List.length_cons, List.range'_succ, wpOps_cons]
    have ih := seq_sound (K := K) (Q := Q) (w0 := w0) (M0 := M0) (F := F) os l (k + 1) hc.2 (fun j o' hj => by have := hall (j + 1) o' (by simpa using hj); rwa [show k + (j + 1) = k + 1 + j by omega] at this)
    refine op_step hc.1 (hall 0 o rfl) hh hh.nx_none (R := fun e => seqVC P l (st.app x.d e) K) ?_
    simp only [seqVC] at h
    cases hg : x.g with
    | none => rw [hg] at h; exact ⟨h, fun e he act' w' hH => ih _ _ _ he hH⟩
    | some y =>
      obtain ⟨t, want⟩ := y
      rw [hg] at h
      simp only at h ⊢
      split at h
      · rename_i b hb
        by_cases hbw : b = want
        · rw [if_pos hbw] at h ⊢; exact ⟨h, fun e he act' w' hH => ih _ _ _ he hH⟩
        · rw [if_neg hbw] at h ⊢; exact fun act' w' hH => ih _ _ _ h hH
      · exact h.elim
  | [], _ :: _, _, h, _, _, _, _, _, _ => by simp [okOps] at h
  | _ :: _, [], _, h, _, _, _, _, _, _ => by simp [okOps] at h

/-! ### Code -/
def TA (P : Program) (n : Nat) (ac : AC) (st : St) (Q : Exit → St → Prop) : Prop := ∀ c, okC P n c ac = true → T P n c st Q

theorem TA.mono {ac : AC} {st : St} {Q Q' : Exit → St → Prop} (h : TA P n ac st Q) (hq : ∀ e st', Q e st' → Q' e st') : TA P n ac st Q' := fun c hc => (h c hc).mono hq
theorem TA_weak {ac : AC} {st st2 : St} {Q : Exit → St → Prop} (hw : Weak st st2) (h : TA P n ac st2 Q) : TA P n ac st Q := fun c hc => T_weak hw (h c hc)

theorem TA_reg {l : List AOp} {st : St} {Q : Exit → St → Prop} (h : seqVC P l st (Q .normal)) : TA P n (.reg l) st Q := by
  intro c hc
  cases c <;> simp only [okC, Bool.false_eq_true] at hc
  rename_i id ops draw
  simp only [Bool.and_eq_true, Bool.not_eq_true'] at hc
  obtain ⟨rfl, hc⟩ := hc
  intro w0 M0 F a w hh
  refine wp_mono (wp_region (Q := fun e a' w' => ∃ st', thn Q (Q .normal) e st' ∧ Holds n w0 M0 F st' a' w') ?_) ?_
  · have := seq_sound (K := Q .normal) (Q := Q) ops.toList l 0 hc (fun j o hj => by simpa using hj) st a w h hh
    rwa [← List.range_eq_range', Array.length_toList] at this
  · rintro e a' w' ⟨st', q, k⟩
    cases e <;> exact ⟨st', q, k⟩

theorem TA_seq {x y : AC} {st : St} {Q : Exit → St → Prop} (h : TA P n x st (thn Q fun st' => TA P n y st' Q)) : TA P n (.seq x y) st Q := by
  intro c hc
  cases c <;> simp only [okC, Bool.false_eq_true, Bool.and_eq_true] at hc
  rename_i a b
  refine T_seq ((h a hc.1).mono ?_)
  intro e st' q
  cases e <;> first | exact q b hc.2 | exact q
theorem TA_seq_k {x y : AC} {st : St} {Q : Exit → St → Prop} (h : ∀ K : St → Prop, (∀ st', TA P n y st' Q → K st') → TA P n x st (thn Q K)) : TA P n (.seq x y) st Q :=
  TA_seq (h _ fun _ h => h)
/-- A region and what follows. -/
theorem TA_rs {l : List AOp} {y : AC} {st : St} {Q : Exit → St → Prop} (h : ∀ K : St → Prop, (∀ st', TA P n y st' Q → K st') → seqVC P l st K) : TA P n (.seq (.reg l) y) st Q :=
  TA_seq_k fun K hK => TA_reg (h K hK)
theorem TA_cond {t : Opd} {x y : AC} {st : St} {Q : Exit → St → Prop} (h : match st.ev t with | .u (.bool b) => (b = true → TA P n x st Q) ∧ (b = false → TA P n y st Q) | _ => False) : TA P n (.cond t x y) st Q := by
  intro c hc
  cases c <;> simp only [okC, Bool.false_eq_true, Bool.and_eq_true] at hc
  rename_i o a b
  obtain ⟨⟨h1, h2⟩, h3⟩ := hc
  split at h
  · rename_i q hq
    intro w0 M0 F act w hh
    obtain ⟨ρ, hF, hR⟩ := hh
    have hr := opd_rel hR h1
    rw [hq] at hr
    cases q with
    | true => exact wp_cond hr.bool_inv (h.1 rfl a h2 w0 M0 F act w ⟨ρ, hF, hR⟩)
    | false => exact wp_cond hr.bool_inv (h.2 rfl b h3 w0 M0 F act w ⟨ρ, hF, hR⟩)
  · exact h.elim

theorem TA_block {i : Nat} {x : AC} {st : St} {Q : Exit → St → Prop} (h : TA P n x st (inb i Q)) : TA P n (.block i x) st Q := by
  intro c hc
  cases c <;> simp only [okC, Bool.false_eq_true, Bool.and_eq_true, beq_iff_eq] at hc
  obtain ⟨rfl, hc⟩ := hc
  exact T_block (h _ hc)
theorem TA_skip {st : St} {Q : Exit → St → Prop} (h : Q .normal st) : TA P n .skip st Q := by
  intro c hc
  cases c <;> simp only [okC, Bool.false_eq_true] at hc
  · exact T_skip h
  · exact fun _ _ _ _ _ hh => wp_label ⟨st, h, hh⟩
theorem TA_ret {st : St} {Q : Exit → St → Prop} (h : Q .ret st) : TA P n .ret st Q := by
  intro c hc
  cases c <;> simp only [okC, Bool.false_eq_true] at hc
  exact T_ret h
theorem TA_exit {i : Nat} {st : St} {Q : Exit → St → Prop} (h : Q (.exit i) st) : TA P n (.exit i) st Q := by
  intro c hc
  cases c <;> simp only [okC, Bool.false_eq_true, beq_iff_eq] at hc
  subst hc
  exact T_exit h
theorem TA_loop {x : AC} {st : St} {Q : Exit → St → Prop} {ι : Type} (I : ι → St) (ok : ι → Prop) (μ : ι → Nat) (i0 : ι) (h0 : Weak st (I i0)) (hk : ok i0)
    (round : ∀ i, ok i → TA P n x (I i) (thn Q fun st' => ∃ j, ok j ∧ Weak st' (I j) ∧ μ j < μ i)) : TA P n (.loop x) st Q := by
  intro c hc
  cases c <;> simp only [okC, Bool.false_eq_true] at hc
  exact T_loop I ok μ i0 h0 hk fun i hi => round i hi _ hc
end
end Go.Proofs.Ytkpghgnbbfpbmaa
