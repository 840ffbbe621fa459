/- The D-logic's operations: what each does to a state, and that this is sound. Part 1: the change of one object, and of none. -/
import Derived.Test.YtkpghgnbbfpbmaaDa
import Derived.Great.BuildSlice
import Derived.Deep.MidRow
set_option linter.unusedSimpArgs false
set_option linter.unusedVariables false
namespace Go.Proofs.Ytkpghgnbbfpbmaa

def upd {α : Type} (f : Nat → α) (t : Nat) (x : α) : Nat → α := fun t' => if t' = t then x else f t'
theorem upd_same {α : Type} (f : Nat → α) (t : Nat) (x : α) : upd f t x t = x := by simp [upd]
theorem upd_ne {α : Type} (f : Nat → α) (t : Nat) (x : α) {t' : Nat} (h : t' ≠ t) : upd f t x t' = f t' := by simp [upd, h]

def Rho.upd (ρ : Rho) (b : Nat) (x : Option (Option Nat × Nat)) : Rho := ⟨Go.Proofs.Ytkpghgnbbfpbmaa.upd ρ.f b x, ρ.F⟩
theorem Rho.upd_same (ρ : Rho) (b : Nat) (x : Option (Option Nat × Nat)) : ρ.upd b x b = x := Go.Proofs.Ytkpghgnbbfpbmaa.upd_same _ _ _
theorem Rho.upd_ne (ρ : Rho) (b : Nat) (x : Option (Option Nat × Nat)) {b' : Nat} (h : b' ≠ b) : ρ.upd b x b' = ρ b' := Go.Proofs.Ytkpghgnbbfpbmaa.upd_ne _ _ _ h

def D.kill (b : Nat) (d : D) : D := if d.has b then .any else d
def MObj.kill (b : Nat) : MObj → MObj
  | .row s els => .row s els
  | .drow s els => .drow s (els.map fun l => l.map (D.kill b))
  | .map es => .map es

/-- What an operation does: its value, the objects that it makes or changes, the object all other mention of which falls away, the least free name behind it. -/
structure Eff where
  d : D
  up : List (Nat × MObj) := []
  kl : Option Nat := none
  nx : Nat := 0

def St.kill (b : Nat) (st : St) : St := ⟨fun t => (st.σ t).kill b, fun x => (st.H x).map (MObj.kill b), st.nx⟩
def St.killO (k : Option Nat) (st : St) : St := match k with
  | none => st
  | some b => st.kill b
def St.put (dst : Option Nat) (d : D) (st : St) : St := match dst with
  | none => st
  | some t => ⟨upd st.σ t d, st.H, st.nx⟩
def updH (H : Nat → Option MObj) : List (Nat × MObj) → Nat → Option MObj
  | [] => H
  | p :: l => updH (upd H p.1 (some p.2)) l
def St.app (st : St) (dst : Option Nat) (e : Eff) : St :=
  ((St.mk (st.killO e.kl).σ (updH (st.killO e.kl).H e.up) (if st.nx < e.nx then e.nx else st.nx)).put dst e.d)

theorem D.has_kill {b : Nat} {d : D} : (d.kill b).has b = false := by
  unfold D.kill
  cases h : d.has b <;> simp [h, D.has]

theorem Rel.kill {ρ ρ' : Rho} {w w' : World} (hz : w.heap.size ≤ w'.heap.size) (hw : ∀ c, c < w.heap.size → ¬ ρ.M c → w'.heap[c]? = w.heap[c]?) (hM : ∀ c, c < w.heap.size → ρ'.M c → ρ.M c)
    {b : Nat} {v : Value} {d : D} (h : Rel ρ w v d) (hb : ∀ x, x ≠ b → ρ' x = ρ x) : Rel ρ' w' v (d.kill b) := by
  unfold D.kill
  cases hd : d.has b with
  | true => simp; exact .any v
  | false =>
    simp
    exact h.mono hz hw hM (fun x hx => hb x (by rintro rfl; rw [hd] at hx; cases hx))

theorem MObj.kill_size (b : Nat) (o : MObj) : (o.kill b).size = o.size := by cases o <;> rfl
theorem MObj.kill_len (b : Nat) (o : MObj) : (o.kill b).len = o.len := by cases o <;> simp [MObj.kill, MObj.len]
theorem MObj.kill_elem (b : Nat) (o : MObj) (i : Nat) : (o.kill b).elem i = (o.elem i).map (D.kill b) := by
  cases o with
  | row s els => simp [MObj.kill, MObj.elem, D.kill, D.has]
  | drow s els =>
    simp only [MObj.kill, MObj.elem, List.getD_eq_getElem?_getD, List.getElem?_map]
    cases els[i]? <;> simp
  | map es => simp [MObj.kill, MObj.elem]

theorem getD_kill {b : Nat} (l : List D) (j : Nat) : (l.map (D.kill b)).getD j .any = (l.getD j .any).kill b := by
  simp only [List.getD_eq_getElem?_getD, List.getElem?_map]
  cases l[j]? <;> simp [D.kill, D.has]

theorem ObjRel.kill {ρ ρ' : Rho} {w w' : World} (hz : w.heap.size ≤ w'.heap.size) (hw : ∀ c, c < w.heap.size → ¬ ρ.M c → w'.heap[c]? = w.heap[c]?) (hM : ∀ c, c < w.heap.size → ρ'.M c → ρ.M c)
    {b : Nat} {c : Option Nat} {k : Nat} {o : MObj} (h : ObjRel ρ w c k o) (hb : ∀ x, x ≠ b → ρ' x = ρ x) (hc : ∀ c', c = some c' → w'.heap[c']? = w.heap[c']?) : ObjRel ρ' w' c k (o.kill b) := by
  cases h with
  | cells c k o cur E hw1 hs hl hk hm he h1 h =>
    refine .cells c k (o.kill b) cur E (by rw [hc c rfl]; exact hw1) (by rw [MObj.kill_size]; exact hs) (by rw [MObj.kill_len]; exact hl) hk (fun es he' => ?_) (fun i hi => ?_) (fun i j hi hj => ?_) (fun i j hi hj => ?_)
    · cases o <;> simp [MObj.kill] at he'
      exact hm _ rfl
    · rw [MObj.kill_elem, List.length_map, MObj.kill_size]; exact he i (by rw [MObj.kill_len] at hi; exact hi)
    · rw [MObj.kill_size] at hj ⊢; rw [MObj.kill_len] at hi; exact h1 i j hi hj
    · rw [MObj.kill_elem, MObj.kill_size, getD_kill]
      rw [MObj.kill_len] at hi
      rw [MObj.kill_size] at hj
      exact (h i j hi hj).kill hz hw hM hb
  | nil s => exact .nil s
  | dnil s => exact .dnil s
  | map c k clock entries es hw1 hs hk hv => exact .map c k clock entries es (by rw [hc c rfl]; exact hw1) hs (fun i hi => (hk i hi).mono hz hw hM) (fun i hi => (hv i hi).mono hz hw hM)

theorem hasL_at {b : Nat} {l : List D} (h : D.hasL b l = true) : ∃ j, j < l.length ∧ (l.getD j .any).has b = true := by
  induction l with
  | nil => simp [D.hasL] at h
  | cons d l ih =>
    simp [D.hasL] at h
    rcases h with h | h
    · exact ⟨0, by simp, by simpa using h⟩
    · obtain ⟨j, hj, hd'⟩ := ih h; exact ⟨j + 1, by simpa using hj, by simpa using hd'⟩

theorem ObjRel.has {ρ : Rho} {w : World} {c : Option Nat} {k : Nat} {o : MObj} (h : ObjRel ρ w c k o) : ∀ y, o.has y = true → (ρ y).isSome = true := by
  intro y hy
  cases h with
  | cells c k o cur E hw1 hs hl hk hm he _ h =>
    cases o with
    | drow s els =>
      simp only [MObj.has, D.hasLL, List.any_eq_true] at hy
      obtain ⟨l, hl1, hl2⟩ := hy
      obtain ⟨i, hi, rfl⟩ := List.getElem_of_mem hl1
      have hel : (MObj.drow s els).elem i = els[i] := by show els.getD i [] = _; exact getD_lt _ hi
      have hlen : (els[i]).length = s := by have := he i hi; rw [hel] at this; exact this
      obtain ⟨j, hj, hd'⟩ := hasL_at hl2
      exact (h i j hi (by rw [hlen] at hj; exact hj)).has y (by rw [hel]; exact hd')
    | row s els => cases hy
    | map es => cases hy
  | nil s => cases hy
  | dnil s => simp [MObj.has, D.hasLL] at hy
  | map c k clock entries es _ _ _ _ => cases hy

/-- No object changes. -/
theorem HoldsR.put {n : Nat} {w0 : World} {M0 : Nat → Prop} {ρ : Rho} {st : St} {a : Act} {w : World} (hh : HoldsR n w0 M0 ρ st a w) (dst : Option Nat) (hd : ∀ t, dst = some t → t < n) (v : Value) (e : Eff)
    (he : e.up = [] ∧ e.kl = none ∧ e.nx = 0) (w' : World)
    (hF : Frame0 w (fun _ => False) w') (hv : Rel ρ w' v e.d) : Holds n w0 M0 ρ.F (st.app dst e) (a.put dst v) w' := by
  obtain ⟨hdf, hs, hf, hH, hr⟩ := hh
  obtain ⟨he1, he2, he3⟩ := he
  have hst : st.app dst e = st.put dst e.d := by simp [St.app, he1, he2, he3, St.killO, updH]
  rw [hst]
  have hz := hF.size
  have hw : ∀ c, c < w.heap.size → ¬ ρ.M c → w'.heap[c]? = w.heap[c]? := fun c hc _ => hF.block c hc (fun h => h)
  have hM : ∀ c, c < w.heap.size → ρ.M c → ρ.M c := fun _ _ h => h
  refine ⟨ρ, rfl, ?_, ?_, hf.trans hF (fun _ _ h => h.elim), ?_, ?_⟩
  · cases dst <;> exact hdf
  · cases dst <;> simp [Act.put, hs]
  · have : HeapRel w0 M0 st.H st.nx ρ w' := ⟨hH.dom, fun b o h => by
        obtain ⟨c, k', h1, h2⟩ := hH.obj b o h
        exact ⟨c, k', h1, h2.mono hz hw hM (fun _ _ => rfl) (fun c' hc' => hF.block c' (hH.own b c' k' (hc' ▸ h1)).1 (fun h => h))⟩,
      fun b c k' h => ⟨Nat.lt_of_lt_of_le (hH.own b c k' h).1 hz, (hH.own b c k' h).2⟩, hH.inj, hH.fresh, hH.far⟩
    cases dst <;> exact this
  · intro t
    cases dst with
    | none => exact (hr t).mono hz hw hM (fun _ _ => rfl)
    | some t' =>
      have ht' := hd t' rfl
      simp only [St.put, Act.put]
      by_cases h : t = t'
      · subst h
        rw [upd_same]
        have : (a.tmps.setIfInBounds t v).getD t undef = v := by simp [Array.getD_eq_getD_getElem?, hs, ht']
        rw [this]; exact hv
      · rw [upd_ne _ _ _ h]
        have : (a.tmps.setIfInBounds t' v).getD t undef = a.tmps.getD t undef := by simp [Array.getD_eq_getD_getElem?, Ne.symm h]
        rw [this]; exact (hr t).mono hz hw hM (fun _ _ => rfl)

/-- One object changes, or is made. -/
theorem HoldsR.upd1 {n : Nat} {w0 : World} {M0 : Nat → Prop} {ρ : Rho} {st : St} {a : Act} {w : World} (hh : HoldsR n w0 M0 ρ st a w) (dst : Option Nat) (hd : ∀ t, dst = some t → t < n) (v : Value) (e : Eff) (b : Nat) (o : MObj)
    (he : e.up = [(b, o)]) (hkl : e.kl = none ∨ e.kl = some b) (hb : b < st.nx ∨ b < e.nx) (w' : World)
    (c' : Option Nat) (k' : Nat) (hstr : w'.os = w.os ∧ w'.tape = w.tape ∧ w'.output = w.output) (hz : w.heap.size ≤ w'.heap.size) (hblk : ∀ c, c < w.heap.size → (∀ x, ρ b ≠ some (some c, x)) → w'.heap[c]? = w.heap[c]?)
    (hc' : ∀ x, c' = some x → x < w'.heap.size ∧ ((∃ y, ρ b = some (some x, y)) ∨ w.heap.size ≤ x)) (hkey : e.kl = some b ∨ ρ b = none ∨ ρ b = some (c', k'))
    (hrel : ((∀ v d, Rel ρ w v d → Rel (ρ.upd b (some (c', k'))) w' v (d.kill b)) → (∀ v d, Rel ρ w v d → (e.kl = none) → Rel (ρ.upd b (some (c', k'))) w' v d) → (∀ v u, RelU ρ.M w v u → RelU (Rho.M (ρ.upd b (some (c', k')))) w' v u) →
        ObjRel (ρ.upd b (some (c', k'))) w' c' k' o ∧ Rel (ρ.upd b (some (c', k'))) w' v e.d)) : Holds n w0 M0 ρ.F (st.app dst e) (a.put dst v) w' := by
  obtain ⟨hdf, hs, hf, hH, hr⟩ := hh
  obtain ⟨h1, h2, h3⟩ := hstr
  have hw : ∀ c, c < w.heap.size → ¬ ρ.M c → w'.heap[c]? = w.heap[c]? := fun c hc hn => hblk c hc (fun x hx => hn (.inl ⟨b, x, hx⟩))
  have hM : ∀ c, c < w.heap.size → Rho.M (ρ.upd b (some (c', k'))) c → ρ.M c := by
    rintro c hc (⟨b', y, hy⟩ | hfar)
    · by_cases hbb : b' = b
      · subst hbb
        rw [Rho.upd_same] at hy
        injection hy with hy
        injection hy with hy1 hy2
        rcases (hc' c hy1).2 with ⟨z, hz'⟩ | hge
        · exact .inl ⟨b', z, hz'⟩
        · omega
      · rw [Rho.upd_ne _ _ _ hbb] at hy; exact .inl ⟨b', y, hy⟩
    · exact .inr hfar
  have hne : ∀ x, x ≠ b → ρ.upd b (some (c', k')) x = ρ x := fun x hx => Rho.upd_ne _ _ _ hx
  have rk : ∀ v d, Rel ρ w v d → Rel (ρ.upd b (some (c', k'))) w' v (d.kill b) := fun v d h => h.kill hz hw hM hne
  have rn : ∀ v d, Rel ρ w v d → e.kl = none → Rel (ρ.upd b (some (c', k'))) w' v d := by
    intro v d h hn
    refine h.mono hz hw hM (fun x hx => ?_)
    by_cases hxb : x = b
    · subst hxb
      rcases hkey with hk | hk | hk
      · rw [hn] at hk; cases hk
      · have := h.has x hx; rw [hk] at this; cases this
      · rw [Rho.upd_same, hk]
    · exact hne x hxb
  obtain ⟨ho, hv⟩ := hrel rk rn (fun v u h => h.mono hz hw hM)
  have hF : Frame0 w ρ.own w' := ⟨h1, h2, h3, hz, fun c hc hn => hblk c hc (fun x hx => hn ⟨b, x, hx⟩)⟩
  have rel' : ∀ v d, Rel ρ w v d → Rel (ρ.upd b (some (c', k'))) w' v (match e.kl with | none => d | some x => d.kill x) := by
    intro v d h
    rcases hkl with hk | hk
    · rw [hk]; exact rn v d h hk
    · rw [hk]; exact rk v d h
  have obj' : ∀ x c k o', x ≠ b → ρ x = some (c, k) → ObjRel ρ w c k o' → ObjRel (ρ.upd b (some (c', k'))) w' c k (match e.kl with | none => o' | some y => o'.kill y) := by
    intro x c k o' hx hρ h
    have hcc : ∀ c1, c = some c1 → w'.heap[c1]? = w.heap[c1]? := fun c1 hc1 => hblk c1 (hH.own x c1 k (hc1 ▸ hρ)).1 (fun y hy => hx (hH.inj x b c1 k y (hc1 ▸ hρ) hy))
    rcases hkl with hk | hk
    · rw [hk]
      refine h.mono hz hw hM (fun y hy => ?_) hcc
      by_cases hyb : y = b
      · subst hyb
        rcases hkey with hk' | hk' | hk'
        · rw [hk] at hk'; cases hk'
        · have h3 := h.has y hy
          rw [hk'] at h3; cases h3
        · rw [Rho.upd_same, hk']
      · exact hne y hyb
    · rw [hk]; exact h.kill hz hw hM hne hcc
  have hst : st.app dst e = (St.mk (fun t => match e.kl with | none => st.σ t | some x => (st.σ t).kill x) (upd (fun x => match e.kl with | none => st.H x | some y => (st.H x).map (MObj.kill y)) b (some o)) (if st.nx < e.nx then e.nx else st.nx)).put dst e.d := by
    rcases hkl with hk | hk <;> simp [St.app, he, hk, St.killO, updH, St.kill]
  rw [hst]
  refine ⟨ρ.upd b (some (c', k')), rfl, ?_, ?_, hf.trans hF (fun c hc => ?_), ?_, ?_⟩
  · cases dst <;> exact hdf
  · cases dst <;> simp [Act.put, hs]
  · rintro ⟨b', y, hy⟩
    rcases (hH.own b' c y hy).2 with h | h
    · exact h
    · omega
  · have : HeapRel w0 M0 (upd (fun x => match e.kl with | none => st.H x | some y => (st.H x).map (MObj.kill y)) b (some o)) (if st.nx < e.nx then e.nx else st.nx) (ρ.upd b (some (c', k'))) w' := by
      refine ⟨fun x hx => ?_, fun x o' hx => ?_, fun x c y hx => ?_, fun x x' c y y' hx hx' => ?_, fun x hx => ?_, hH.far⟩
      · by_cases hxb : x = b
        · subst hxb; rw [upd_same] at hx; cases hx
        · rw [upd_ne _ _ _ hxb] at hx
          rw [Rho.upd_ne _ _ _ hxb]
          refine hH.dom x ?_
          rcases hkl with hk | hk <;> rw [hk] at hx <;> simpa using hx
      · by_cases hxb : x = b
        · subst hxb
          rw [upd_same] at hx
          injection hx with hx
          subst hx
          exact ⟨c', k', Rho.upd_same _ _ _, ho⟩
        · rw [upd_ne _ _ _ hxb] at hx
          rw [hne x hxb]
          have : ∃ o'', st.H x = some o'' ∧ o' = (match e.kl with | none => o'' | some y => o''.kill y) := by
            rcases hkl with hk | hk <;> rw [hk] at hx ⊢
            · exact ⟨o', hx, rfl⟩
            · simp at hx; obtain ⟨o'', h1, h2⟩ := hx; exact ⟨o'', h1, h2.symm⟩
          obtain ⟨o'', h1', rfl⟩ := this
          obtain ⟨c, kk, hρ, hO⟩ := hH.obj x o'' h1'
          exact ⟨c, kk, hρ, obj' x c kk o'' hxb hρ hO⟩
      · by_cases hxb : x = b
        · subst hxb
          rw [Rho.upd_same] at hx
          injection hx with hx
          injection hx with hx1 hx2
          refine ⟨(hc' c hx1).1, ?_⟩
          rcases (hc' c hx1).2 with ⟨z, hz'⟩ | hge
          · exact (hH.own x c z hz').2
          · exact .inr (Nat.le_trans hf.size hge)
        · rw [hne x hxb] at hx
          exact ⟨Nat.lt_of_lt_of_le (hH.own x c y hx).1 hz, (hH.own x c y hx).2⟩
      · by_cases hxb : x = b <;> by_cases hxb' : x' = b
        · rw [hxb, hxb']
        · subst hxb
          rw [Rho.upd_same] at hx
          rw [hne x' hxb'] at hx'
          injection hx with hx
          injection hx with hx1 hx2
          rcases (hc' c hx1).2 with ⟨z, hz'⟩ | hge
          · exact hH.inj _ _ _ _ _ hz' hx'
          · have := (hH.own x' c y' hx').1; omega
        · subst hxb'
          rw [Rho.upd_same] at hx'
          rw [hne x hxb] at hx
          injection hx' with hx'
          injection hx' with hx1 hx2
          rcases (hc' c hx1).2 with ⟨z, hz'⟩ | hge
          · exact hH.inj _ _ _ _ _ hx hz'
          · have := (hH.own x c y hx).1; omega
        · rw [hne x hxb] at hx
          rw [hne x' hxb'] at hx'
          exact hH.inj _ _ _ _ _ hx hx'
      · have hxb : x ≠ b := by
          rintro rfl
          split at hx <;> omega
        rw [upd_ne _ _ _ hxb]
        have : st.H x = none := hH.fresh x (by split at hx <;> omega)
        rcases hkl with hk | hk <;> rw [hk] <;> simp [this]
    cases dst <;> exact this
  · intro t
    cases dst with
    | none => exact rel' _ _ (hr t)
    | some t' =>
      have ht' := hd t' rfl
      simp only [St.put, Act.put]
      by_cases h : t = t'
      · subst h
        rw [upd_same]
        have : (a.tmps.setIfInBounds t v).getD t undef = v := by simp [Array.getD_eq_getD_getElem?, hs, ht']
        rw [this]; exact hv
      · rw [upd_ne _ _ _ h]
        have : (a.tmps.setIfInBounds t' v).getD t undef = a.tmps.getD t undef := by simp [Array.getD_eq_getD_getElem?, Ne.symm h]
        rw [this]; exact rel' _ _ (hr t)

end Go.Proofs.Ytkpghgnbbfpbmaa
