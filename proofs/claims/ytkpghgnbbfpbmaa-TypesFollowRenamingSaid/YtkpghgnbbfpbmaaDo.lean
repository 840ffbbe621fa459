/- Running abstract code to a result: judgements for code, for the rest of a region and for an exit, and the rules for the steps. -/
import Derived.Test.YtkpghgnbbfpbmaaDm
import Derived.KernelRfl
set_option linter.unusedSimpArgs false
set_option linter.unusedVariables false
namespace Go.Proofs.Ytkpghgnbbfpbmaa

/-- What waits for a piece of code: more code, a block that ends, the end of a loop's round. -/
inductive Fr where
  | s (b : AC)
  | b (i : Nat)
  | k (K : St → Prop)

def den (P : Program) (n : Nat) (Q : Exit → St → Prop) : List Fr → Exit → St → Prop
  | [] => Q
  | .s b :: fs => fun e st => match e with
    | .normal => TA P n b st (den P n Q fs)
    | e => den P n Q fs e st
  | .b i :: fs => fun e st => match e with
    | .exit j => if j = i then den P n Q fs .normal st else den P n Q fs (.exit j) st
    | e => den P n Q fs e st
  | .k K :: fs => fun e st => match e with
    | .normal => K st
    | e => den P n Q fs e st

def Run (P : Program) (n : Nat) (Q : Exit → St → Prop) (fs : List Fr) (c : AC) (st : St) : Prop := TA P n c st (den P n Q fs)
/-- What is left of a region. -/
def Rs (P : Program) (n : Nat) (Q : Exit → St → Prop) (fs : List Fr) (l : List AOp) (st : St) : Prop :=
  ∀ (all : Array Oper) (os : List Oper) (k : Nat), okOps P n all os l = true → (∀ j o, os[j]? = some o → all[k + j]? = some o) → ∀ w0 M0 F a w, Holds n w0 M0 F st a w →
    wpOps P all (fun e a' w' => ∃ st', den P n Q fs e st' ∧ Holds n w0 M0 F st' a' w') (List.range' k os.length) a w

section
variable {P : Program} {n : Nat} {Q : Exit → St → Prop} {fs : List Fr} {st : St}

theorem R_seq {a b : AC} (h : Run P n Q (.s b :: fs) a st) : Run P n Q fs (.seq a b) st :=
  TA_seq (h.mono fun e st' q => by cases e <;> exact q)
theorem R_block {i : Nat} {x : AC} (h : Run P n Q (.b i :: fs) x st) : Run P n Q fs (.block i x) st :=
  TA_block (h.mono fun e st' q => by cases e <;> exact q)
theorem R_skip (h : den P n Q fs .normal st) : Run P n Q fs .skip st := TA_skip h
theorem R_exit {i : Nat} (h : den P n Q fs (.exit i) st) : Run P n Q fs (.exit i) st := TA_exit h
theorem R_ret (h : den P n Q fs .ret st) : Run P n Q fs .ret st := TA_ret h
theorem N_s {b : AC} (h : Run P n Q fs b st) : den P n Q (.s b :: fs) .normal st := h
theorem N_b {i : Nat} (h : den P n Q fs .normal st) : den P n Q (.b i :: fs) .normal st := h
theorem N_k {K : St → Prop} (h : K st) : den P n Q (.k K :: fs) .normal st := h
theorem E_s {b : AC} {i : Nat} (h : den P n Q fs (.exit i) st) : den P n Q (.s b :: fs) (.exit i) st := h
theorem E_k {K : St → Prop} {i : Nat} (h : den P n Q fs (.exit i) st) : den P n Q (.k K :: fs) (.exit i) st := h
theorem E_b {i : Nat} (h : den P n Q fs .normal st) : den P n Q (.b i :: fs) (.exit i) st := by show (if i = i then _ else _); rw [if_pos rfl]; exact h
theorem E_n {i j : Nat} (hn : Nat.beq j i = false) (h : den P n Q fs (.exit j) st) : den P n Q (.b i :: fs) (.exit j) st := by
  show (if j = i then _ else _); rw [if_neg (Nat.ne_of_beq_eq_false hn)]; exact h
theorem D_ret (h : Q .ret st) : ∀ fs : List Fr, den P n Q fs .ret st
  | [] => h
  | .s _ :: fs => D_ret h fs
  | .b _ :: fs => D_ret h fs
  | .k _ :: fs => D_ret h fs
theorem R_cond_t {t : Opd} {a b : AC} (hx : st.ev t = .u (.bool true)) (h : Run P n Q fs a st) : Run P n Q fs (.cond t a b) st :=
  TA_cond (by rw [hx]; exact ⟨fun _ => h, fun h => by cases h⟩)
theorem R_cond_f {t : Opd} {a b : AC} (hx : st.ev t = .u (.bool false)) (h : Run P n Q fs b st) : Run P n Q fs (.cond t a b) st :=
  TA_cond (by rw [hx]; exact ⟨fun h => (by cases h), fun _ => h⟩)
theorem R_weak {c : AC} {st2 : St} (hw : Weak st st2) (h : Run P n Q fs c st2) : Run P n Q fs c st := TA_weak hw h
theorem Rs_weak {l : List AOp} {st2 : St} (hw : Weak st st2) (h : Rs P n Q fs l st2) : Rs P n Q fs l st :=
  fun all os k ho ha w0 M0 F a w hh => h all os k ho ha w0 M0 F a w (hw n w0 M0 F a w hh)

theorem R_reg {l : List AOp} (h : Rs P n Q fs l st) : Run P n Q fs (.reg l) st := by
  intro c hc
  cases c <;> simp only [okC, Bool.false_eq_true] at hc
  rename_i id ops draw
  simp only [Bool.and_eq_true, Bool.not_eq_true'] at hc
  obtain ⟨rfl, hc⟩ := hc
  intro w0 M0 F a w hh
  refine wp_region (Q := fun e a' w' => ∃ st', den P n Q fs e st' ∧ Holds n w0 M0 F st' a' w') ?_
  have := h ops ops.toList 0 hc (fun j o hj => by simpa using hj) w0 M0 F a w hh
  rwa [← List.range_eq_range', Array.length_toList] at this

theorem Rs_nil (h : den P n Q fs .normal st) : Rs P n Q fs [] st := by
  intro all os k ho ha w0 M0 F a w hh
  cases os with
  | nil => exact ⟨st, h, hh⟩
  | cons o os => simp [okOps] at ho

def gdo (st : St) : Option (Nat × Bool) → Prop
  | none => True
  | some (t, want) => st.σ t = .u (.bool want)

theorem Rs_op {x : AOp} {l : List AOp} {R : Eff → Prop} (hg : gdo st x.g) (hop : opVC P x.o st.ev st.H st.nx R) (h : ∀ e, R e → Rs P n Q fs l (st.app x.d e)) : Rs P n Q fs (x :: l) st := by
  intro all os k ho ha w0 M0 F a w hh
  cases os with
  | nil => simp [okOps] at ho
  | cons o os =>
    simp only [okOps, Bool.and_eq_true] at ho
    rw [List.length_cons, List.range'_succ, wpOps_cons]
    refine op_step ho.1 (ha 0 o rfl) hh hh.nx_none (R := R) ?_
    have main : opVC P x.o st.ev st.H st.nx R ∧ ∀ e, R e → ∀ act' w', Holds n w0 M0 F (st.app x.d e) act' w' → wpOps P all (fun e a' w' => ∃ st', den P n Q fs e st' ∧ Holds n w0 M0 F st' a' w') (List.range' (k + 1) os.length) act' w' :=
      ⟨hop, fun e he act' w' hH => h e he all os (k + 1) ho.2 (fun j o' hj => by have := ha (j + 1) o' (by simpa using hj); rwa [show k + (j + 1) = k + 1 + j by omega] at this) w0 M0 F act' w' hH⟩
    cases hxg : x.g with
    | none => exact main
    | some y =>
      obtain ⟨t, want⟩ := y
      rw [hxg] at hg
      simp only [gdo] at hg
      simp only [hg, if_true]
      exact main

theorem Rs_skp {d : Option Nat} {t : Nat} {want b : Bool} {ao : AO} {l : List AOp} (hx : st.σ t = .u (.bool b)) (hb : (b == want) = false) (h : Rs P n Q fs l (st.put d .any)) : Rs P n Q fs (⟨d, some (t, want), ao⟩ :: l) st := by
  intro all os k ho ha w0 M0 F a w hh
  cases os with
  | nil => simp [okOps] at ho
  | cons o os =>
    simp only [okOps, Bool.and_eq_true] at ho
    rw [List.length_cons, List.range'_succ, wpOps_cons]
    refine op_step ho.1 (ha 0 o rfl) hh hh.nx_none (R := fun _ => False) ?_
    simp only [hx]
    rw [if_neg (by simpa using hb)]
    exact fun act' w' hH => h all os (k + 1) ho.2 (fun j o' hj => by have := ha (j + 1) o' (by simpa using hj); rwa [show k + (j + 1) = k + 1 + j by omega] at this) w0 M0 F act' w' hH

theorem Holds.skipU {w0 : World} {M0 F : Nat → Prop} {a : Act} {w : World} (hh : Holds n w0 M0 F st a w) {d : Option Nat} (hd : ∀ t, d = some t → t < n) : Holds n w0 M0 F (st.put d (.u (.tup []))) (a.put d undef) w := by
  obtain ⟨ρ, rfl, hh⟩ := hh
  have := hh.put d hd undef { d := .u (.tup []) } ⟨rfl, rfl, rfl⟩ w (Frame0.refl _ _) (.u (.tup #[] [] rfl (fun i hi => by simp at hi)))
  simpa [St.app, St.killO, updH] using this

/-- What is skipped is undefined; what waits for something undefined is skipped too. -/
theorem Rs_skpU {d : Option Nat} {t : Nat} {want : Bool} {ao : AO} {l : List AOp} (hx : (∃ b, st.σ t = .u (.bool b) ∧ (b == want) = false) ∨ st.σ t = .u (.tup [])) (h : Rs P n Q fs l (st.put d (.u (.tup [])))) : Rs P n Q fs (⟨d, some (t, want), ao⟩ :: l) st := by
  intro all os k ho ha w0 M0 F a w hh
  cases os with
  | nil => simp [okOps] at ho
  | cons o os =>
    simp only [okOps, Bool.and_eq_true] at ho
    rw [List.length_cons, List.range'_succ, wpOps_cons]
    obtain ⟨h1, h2, h3, h4⟩ := okA_parts ho.1
    have hi : all[k]? = some o := ha 0 o rfl
    have nw : Region.wanted o (yielded all a.tmps) = false := by
      rcases h4 with ⟨_, hc⟩ | ⟨j, want', t', hg, hc, ht, p, hp, hpd⟩
      · cases hc
      · injection hc with hc
        injection hc with hc1 hc2
        subst hc1; subst hc2
        obtain ⟨ρ, hF, hR⟩ := hh
        have hv := hR.regs t
        rcases hx with ⟨b, hb, hbw⟩ | hb
        · rw [hb] at hv
          rw [wanted_some hg hp hpd (by rw [hR.size]; exact ht) hv.bool_inv]
          exact hbw
        · rw [hb] at hv
          have hval : a.tmps.getD t undef = .tuple #[] := by
            have := hv.u_inv
            generalize a.tmps.getD t undef = v at this
            cases this with
            | tup cs us hs _ => simp at hs; subst hs; rfl
          have hts : t < a.tmps.size := by rw [hR.size]; exact ht
          have : a.tmps[t]? = some (.tuple #[]) := by
            rw [Array.getD_eq_getD_getElem?] at hval
            rw [Array.getElem?_eq_getElem hts] at hval ⊢
            simpa using hval
          simp [Region.wanted, hg, yielded, hp, hpd, this]
    unfold wpOp
    simp only [hi]
    rw [nw, if_neg (by simp)]
    rw [h1]
    exact h all os (k + 1) ho.2 (fun j o' hj => by have := ha (j + 1) o' (by simpa using hj); rwa [show k + (j + 1) = k + 1 + j by omega] at this) w0 M0 F _ _ (Holds.skipU hh (fun t' ht' => h2 t' (h1.trans ht')))

/-! ### Loops -/
/-- Repeats a step until it leaves the loop. -/
def iterO {σ ω : Type} (step : σ → Option (σ ⊕ ω)) : Nat → σ → Option ω
  | 0, _ => none
  | m + 1, s => match step s with
    | none => none
    | some (.inl s') => iterO step m s'
    | some (.inr o) => some o
open Classical in
noncomputable def loopO {σ ω : Type} (step : σ → Option (σ ⊕ ω)) (s : σ) : Option ω :=
  if h : ∃ m o, iterO step m s = some o then some (Classical.choose (Classical.choose_spec h)) else none
theorem iterO_mono {σ ω : Type} {step : σ → Option (σ ⊕ ω)} : ∀ {m m' : Nat} {s : σ} {o : ω}, m ≤ m' → iterO step m s = some o → iterO step m' s = some o
  | 0, _, s, o, _, h => by simp [iterO] at h
  | m + 1, 0, s, o, hm, h => by omega
  | m + 1, m' + 1, s, o, hm, h => by
    simp only [iterO] at h ⊢
    split at h
    · cases h
    · exact iterO_mono (by omega) h
    · exact h
theorem iterO_det {σ ω : Type} {step : σ → Option (σ ⊕ ω)} {m m' : Nat} {s : σ} {o o' : ω} (h : iterO step m s = some o) (h' : iterO step m' s = some o') : o = o' := by
  have h1 := iterO_mono (Nat.le_max_left m m') h
  have h2 := iterO_mono (Nat.le_max_right m m') h'
  rw [h1] at h2; injection h2
theorem loopO_of {σ ω : Type} {step : σ → Option (σ ⊕ ω)} {m : Nat} {s : σ} {o : ω} (h : iterO step m s = some o) : loopO step s = some o := by
  unfold loopO
  have hex : ∃ m o, iterO step m s = some o := ⟨m, o, h⟩
  rw [dif_pos hex]
  have := Classical.choose_spec (Classical.choose_spec hex)
  rw [iterO_det this h]
theorem loopO_some {σ ω : Type} {step : σ → Option (σ ⊕ ω)} {s : σ} {o : ω} (h : loopO step s = some o) : ∃ m, iterO step m s = some o := by
  unfold loopO at h
  split at h
  · rename_i hex
    injection h with h
    exact ⟨Classical.choose hex, by rw [← h]; exact Classical.choose_spec (Classical.choose_spec hex)⟩
  · cases h
/-- One round of a loop. -/
theorem loopO_eq {σ ω : Type} (step : σ → Option (σ ⊕ ω)) (s : σ) : loopO step s = (step s).bind (Sum.elim (loopO step) some) := by
  cases hs : step s with
  | none =>
    unfold loopO
    rw [dif_neg]; rfl
    rintro ⟨m, o, h⟩
    cases m <;> simp [iterO, hs] at h
  | some x =>
    cases x with
    | inl s' =>
      simp only [Option.bind_some, Sum.elim_inl]
      cases h : loopO step s' with
      | some o =>
        obtain ⟨m, hm⟩ := loopO_some h
        exact loopO_of (m := m + 1) (by simp only [iterO, hs]; exact hm)
      | none =>
        cases h' : loopO step s with
        | none => rfl
        | some o =>
          obtain ⟨m, hm⟩ := loopO_some h'
          cases m with
          | zero => simp [iterO] at hm
          | succ m =>
            simp only [iterO, hs] at hm
            rw [loopO_of hm] at h; cases h
    | inr o => exact loopO_of (m := 1) (by simp [iterO, hs])

/-- A loop runs as its step says. -/
theorem R_loop {σ ω : Type} (step : σ → Option (σ ⊕ ω)) (I : σ → St) {s0 : σ} {o : ω} {c : AC} (ho : loopO step s0 = some o) (h0 : Weak st (I s0))
    (round : ∀ (K : St → Prop) (s : σ) (x : σ ⊕ ω), step s = some x → (∀ s', some (Sum.inl s') = some x → ∀ st', Weak st' (I s') → K st') → (∀ w, some (Sum.inr w) = some x → w = o) → Run P n Q (.k K :: fs) c (I s)) :
    Run P n Q fs (.loop c) st := by
  obtain ⟨m, hm⟩ := loopO_some ho
  refine TA_loop (ι := Nat × σ) (fun p => I p.2) (fun p => iterO step p.1 p.2 = some o) (fun p => p.1) (m, s0) h0 hm ?_
  rintro ⟨m, s⟩ hi
  simp only at hi
  cases m with
  | zero => simp [iterO] at hi
  | succ m =>
    simp only [iterO] at hi
    cases hs : step s with
    | none => simp [hs] at hi
    | some x =>
      have := round (fun st' => ∃ j : Nat × σ, iterO step j.1 j.2 = some o ∧ Weak st' (I j.2) ∧ j.1 < m + 1) s x hs (fun s' hx st' hw => ?_) (fun w hx => ?_)
      · exact TA.mono this fun e st' q => by cases e <;> exact q
      · injection hx with hx; subst hx
        simp only [hs] at hi
        exact ⟨(m, s'), hi, hw, Nat.lt_succ_self _⟩
      · injection hx with hx; subst hx
        simp only [hs] at hi
        injection hi

/-! ### Weakening of written states -/
def someO : List (Nat × MObj) → List (Nat × Option MObj)
  | [] => []
  | p :: l => (p.1, some p.2) :: someO l
def pull (f : Nat → D) : List (Nat × D) → List (Nat × D)
  | [] => []
  | p :: l => (p.1, f p.1) :: pull f l
def pullO (f : Nat → Option MObj) : List (Nat × MObj) → List (Nat × Option MObj)
  | [] => []
  | p :: l => (p.1, f p.1) :: pullO f l
theorem pull_at {f : Nat → D} : ∀ {l : List (Nat × D)}, pull f l = l → ∀ p ∈ l, f p.1 = p.2
  | [], _, p, hp => by simp at hp
  | q :: l, h, p, hp => by
    simp only [pull, List.cons.injEq] at h
    rcases List.mem_cons.1 hp with rfl | hp
    · have := h.1; rw [Prod.ext_iff] at this; exact this.2
    · exact pull_at h.2 p hp
theorem pullO_at {f : Nat → Option MObj} : ∀ {l : List (Nat × MObj)}, pullO f l = someO l → ∀ p ∈ l, f p.1 = some p.2
  | [], _, p, hp => by simp at hp
  | q :: l, h, p, hp => by
    simp only [pullO, someO, List.cons.injEq] at h
    rcases List.mem_cons.1 hp with rfl | hp
    · have := h.1; rw [Prod.ext_iff] at this; exact this.2
    · exact pullO_at h.2 p hp
def fits (nx : Nat) (rs : List (Nat × D)) (os : List (Nat × MObj)) : Bool :=
  (os.all fun p => Nat.ble (p.1 + 1) nx) && (rs.all fun p => p.2.idsIn (os.map (·.1))) && (os.all fun p => p.2.ids.all fun b => (os.map (·.1)).contains b)
theorem W_to {st : St} {rs : List (Nat × D)} {os : List (Nat × MObj)} {nx : Nat} (h1 : pull st.σ rs = rs) (h2 : pullO st.H os = someO os) (h3 : fits nx rs os = true) : Weak st (mkSt rs os nx) := by
  simp only [fits, Bool.and_eq_true] at h3
  refine weak_to (fun p hp => .inl (pull_at h1 p hp)) (pullO_at h2) ?_ h3.1.2 h3.2
  have := h3.1.1
  simp only [List.all_eq_true, decide_eq_true_eq] at this ⊢
  exact fun p hp => Nat.le_of_ble_eq_true (this p hp)
theorem Weak.trans {a b c : St} (h : Weak a b) (k : Weak b c) : Weak a c := fun n w0 M0 F x w hh => k n w0 M0 F x w (h n w0 M0 F x w hh)

/-- A slot is known as something that reads alike. -/
theorem W_nq {L : List (Nat × D)} {O : List (Nat × MObj)} {nx : Nat} (t : Nat) {x y : U} (hx : regs L t = .u x) (hq : Nq x y) : Weak (mkSt L O nx) (mkSt ((t, .u y) :: L) O nx) := by
  rintro n w0 M0 F a w ⟨ρ, rfl, hh⟩
  refine ⟨ρ, rfl, hh.defers, hh.size, hh.frame, hh.heap, fun t' => ?_⟩
  show Rel ρ w _ (regs ((t, .u y) :: L) t')
  simp only [regs]
  split
  · rename_i h; subst h
    have := hh.regs t'
    have hx' : (mkSt L O nx).σ t' = .u x := hx
    rw [hx'] at this
    exact .u (hq.rel this.u_inv)
  · exact hh.regs t'

/-- A nil slice that is going to be grown. -/
theorem W_ghost {L : List (Nat × D)} {O : List (Nat × MObj)} {nx : Nat} (t s : Nat) (hx : regs L t = .u .nil) : Weak (mkSt L O nx) (mkSt ((t, .msl nx 0) :: L) ((nx, .row s []) :: O) (nx + 1)) := by
  rintro n w0 M0 F a w ⟨ρ, rfl, hh⟩
  have hnx : ρ nx = none := hh.heap.dom nx (hh.heap.fresh nx (Nat.le_refl _))
  let ρ' : Rho := ρ.upd nx (some (none, 0))
  have hne : ∀ {b}, b ≠ nx → ρ' b = ρ b := fun h => Rho.upd_ne _ _ _ h
  have hsame : ρ' nx = some (none, 0) := Rho.upd_same _ _ _
  have hof : ∀ {b c k}, ρ' b = some (some c, k) → ρ b = some (some c, k) := by
    intro b c k h
    by_cases hb : b = nx
    · subst hb; rw [hsame] at h; simp at h
    · rwa [hne hb] at h
  have hM : ∀ c, c < w.heap.size → ρ'.M c → ρ.M c := by
    rintro c _ (⟨b, k, h⟩ | h)
    · exact .inl ⟨b, k, hof h⟩
    · exact .inr h
  have rel : ∀ {v d}, Rel ρ w v d → Rel ρ' w v d := fun {v d} h => h.mono (Nat.le_refl _) (fun _ _ _ => rfl) hM (fun b hb => hne (by rintro rfl; have := h.has b hb; rw [hnx] at this; cases this))
  refine ⟨ρ', rfl, hh.defers, hh.size, hh.frame, ⟨fun b hb => ?_, fun b o hb => ?_, fun b c k h => hh.heap.own b c k (hof h), fun b b' c k k' h h' => hh.heap.inj b b' c k k' (hof h) (hof h'), fun b hb => ?_, hh.heap.far⟩, fun t' => ?_⟩
  · have hb : objs ((nx, .row s []) :: O) b = none := hb
    simp only [objs] at hb
    split at hb
    · cases hb
    · rename_i h; rw [hne h]; exact hh.heap.dom b hb
  · replace hb : objs ((nx, .row s []) :: O) b = some o := hb
    simp only [objs] at hb
    split at hb
    · rename_i h; subst h
      have hb : some (MObj.row s []) = some o := hb
      injection hb with hb; subst hb
      exact ⟨none, 0, hsame, .nil s⟩
    · rename_i h
      obtain ⟨c, k, h1, h2⟩ := hh.heap.obj b o hb
      exact ⟨c, k, by rw [hne h]; exact h1, h2.mono (Nat.le_refl _) (fun _ _ _ => rfl) hM (fun x hx => hne (by rintro rfl; have := h2.has x hx; rw [hnx] at this; cases this)) (fun _ _ => rfl)⟩
  · show objs ((nx, .row s []) :: O) b = none
    have hb : nx + 1 ≤ b := hb
    simp only [objs]
    rw [if_neg (by omega)]
    exact hh.heap.fresh b (by show nx ≤ b; omega)
  · show Rel ρ' w _ (regs ((t, .msl nx 0) :: L) t')
    simp only [regs]
    split
    · rename_i h; subst h
      have := hh.regs t'
      have hx' : (mkSt L O nx).σ t' = .u .nil := hx
      rw [hx'] at this
      rw [this.nil_inv]
      exact .msl0 nx hsame
    · exact rel (hh.regs t')

/-- An owned object becomes pure data: it is not written any more. -/
inductive FzS (b : Nat) (o : MObj) (L : List (Nat × D)) : List (Nat × D) → Prop
  | nil : FzS b o L []
  | keep {t : Nat} {d : D} {L' : List (Nat × D)} (h : regs L t = d) (hb : d.has b = false) (k : FzS b o L L') : FzS b o L ((t, d) :: L')
  | fz {t : Nat} {d : D} {u : U} {L' : List (Nat × D)} (h : regs L t = d) (hf : frz (objs [(b, o)]) 40 d = some u) (k : FzS b o L L') : FzS b o L ((t, .u u) :: L')
theorem FzS.at {b : Nat} {o : MObj} {L L' : List (Nat × D)} (h : FzS b o L L') (t : Nat) : regs L' t = .any ∨ (regs L' t = regs L t ∧ (regs L t).has b = false) ∨ ∃ u, regs L' t = .u u ∧ frz (objs [(b, o)]) 40 (regs L t) = some u := by
  induction h with
  | nil => exact .inl rfl
  | keep h hb k ih =>
    simp only [regs]
    split
    · rename_i he; subst he; subst h; exact .inr (.inl ⟨rfl, hb⟩)
    · exact ih
  | fz h hf k ih =>
    simp only [regs]
    split
    · rename_i he; subst he; subst h; exact .inr (.inr ⟨_, rfl, hf⟩)
    · exact ih
theorem objs_mem : ∀ {O : List (Nat × MObj)} {b : Nat} {o : MObj}, objs O b = some o → ∃ p ∈ O, p.1 = b ∧ p.2 = o
  | [], _, _, h => by simp [objs] at h
  | q :: O, b, o, h => by
    simp only [objs] at h
    split at h
    · rename_i he; injection h with h; exact ⟨q, by simp, he.symm, h⟩
    · obtain ⟨p, hp, h1⟩ := objs_mem h; exact ⟨p, by simp [hp], h1⟩
theorem W_frz {L L' : List (Nat × D)} {O O' : List (Nat × MObj)} {nx : Nat} (b : Nat) (o : MObj) (ho : objs O b = some o) (hL : FzS b o L L') (hO : pullO (objs O) O' = someO O') (hn : (O'.all fun p => !(p.1 == b) && !p.2.ids.contains b) = true) (hd : (O.all fun p => p.1 == b || (O'.map (·.1)).contains p.1) = true) : Weak (mkSt L O nx) (mkSt L' O' nx) := by
  rintro n w0 M0 F a w ⟨ρ, rfl, hh⟩
  have hH := hh.heap
  have hOO : ∀ {x m}, objs O' x = some m → objs O x = some m ∧ x ≠ b ∧ b ∉ m.ids := by
    intro x m h
    obtain ⟨p, hp, h1, h2⟩ := objs_mem h
    subst h1; subst h2
    simp only [List.all_eq_true, Bool.and_eq_true, Bool.not_eq_true', beq_eq_false_iff_ne] at hn
    exact ⟨pullO_at hO p hp, (hn p hp).1, fun hb => by have := (hn p hp).2; rw [List.contains_iff_mem.2 hb] at this; cases this⟩
  let ρ' : Rho := ⟨fun x => if x = b then none else ρ x, ρ.F⟩
  have hne : ∀ {x}, x ≠ b → ρ' x = ρ x := fun h => if_neg h
  have hof : ∀ {x y}, ρ' x = some y → ρ x = some y ∧ x ≠ b := by
    intro x y h
    have h : (if x = b then none else ρ x) = some y := h
    split at h
    · cases h
    · exact ⟨h, by assumption⟩
  have hM : ∀ c, c < w.heap.size → ρ'.M c → ρ.M c := by
    rintro c _ (⟨x, k, h⟩ | h)
    · exact .inl ⟨x, k, (hof h).1⟩
    · exact .inr h
  have rel : ∀ {v d}, Rel ρ w v d → d.has b = false → Rel ρ' w v d := by
    intro v d h hd
    exact h.mono (Nat.le_refl _) (fun _ _ _ => rfl) hM (fun x hx => hne (by rintro rfl; rw [hd] at hx; cases hx))
  have hfz := frz_rel (M' := ρ'.M) (H1 := objs [(b, o)]) hH (fun x m h => by
      simp only [objs] at h
      split at h
      · rename_i he; subst he; injection h with h; subst h; exact ho
      · cases h) (fun c h => by
      rcases h with ⟨x, k, h⟩ | h
      · exact .inl ⟨x, k, (hof h).1⟩
      · exact .inr h) (fun x c k hx hk => by
      have hxb : x = b := by
        simp only [objs] at hx
        split at hx
        · assumption
        · cases hx
      subst hxb
      rintro (⟨y, k', h⟩ | h)
      · obtain ⟨h1, h2⟩ := hof h
        exact h2 (hH.inj y x c k' k h1 hk)
      · have := hH.far c h
        rcases (hH.own x c k hk).2 with h' | h'
        · exact this.2 h'
        · omega) 40
  refine ⟨ρ', rfl, hh.defers, hh.size, hh.frame, ⟨fun x hx => ?_, fun x m hx => ?_, fun x c k h => hH.own x c k (hof h).1, fun x y c k k' h h' => hH.inj x y c k k' (hof h).1 (hof h').1, fun x hx => ?_, hH.far⟩, fun t => ?_⟩
  · replace hx : objs O' x = none := hx
    by_cases hxb : x = b
    · exact if_pos hxb
    · rw [hne hxb]
      refine hH.dom x ?_
      show objs O x = none
      cases hm : objs O x with
      | none => rfl
      | some m =>
        exfalso
        obtain ⟨p, hp, h1, h2⟩ := objs_mem hm
        simp only [List.all_eq_true, Bool.or_eq_true, beq_iff_eq, List.contains_iff_mem] at hd
        rcases hd p hp with h | h
        · exact hxb (h1.symm.trans h)
        · rw [h1] at h
          obtain ⟨q, hq, hq1⟩ := List.mem_map.1 h
          have : ∀ {l : List (Nat × MObj)}, q ∈ l → objs l x ≠ none := by
            intro l
            induction l with
            | nil => intro h; simp at h
            | cons r l ih =>
              intro h
              simp only [objs]
              split
              · simp
              · rename_i hr
                rcases List.mem_cons.1 h with rfl | h
                · exact absurd hq1.symm hr
                · exact ih h
          exact this hq hx
  · obtain ⟨h1, h2, h3⟩ := hOO hx
    obtain ⟨c, k, g1, g2⟩ := hH.obj x m h1
    exact ⟨c, k, by rw [hne h2]; exact g1, g2.mono (Nat.le_refl _) (fun _ _ _ => rfl) hM (fun y hy => hne (by rintro rfl; exact h3 (obj_has_ids hy))) (fun _ _ => rfl)⟩
  · cases hm : objs O' x with
    | none => exact hm
    | some m =>
      have h0 : objs O x = none := hH.fresh x hx
      have h1 := (hOO hm).1
      rw [h0] at h1; cases h1
  · have h0 := hh.regs t
    show Rel ρ' w _ (regs L' t)
    rcases hL.at t with h | ⟨h, hb⟩ | ⟨u, h, hf⟩
    · rw [h]; exact .any _
    · rw [h]; exact rel h0 hb
    · rw [h]; exact .u (hfz.1 _ _ u h0 hf)
end
end Go.Proofs.Ytkpghgnbbfpbmaa
