/- The D-logic's operations are sound: what makes a new object. -/
import Derived.Test.YtkpghgnbbfpbmaaDg
set_option linter.unusedSimpArgs false
set_option linter.unusedVariables false
namespace Go.Proofs.Ytkpghgnbbfpbmaa

/-! ### Lists of cells -/
structure LR (ρ : Rho) (w : World) (vs : List Value) (ds : List D) : Prop where
  len : vs.length = ds.length
  one : ∀ i, i < ds.length → (vs.getD i undef).oneCell' = true
  rel : ∀ i, i < ds.length → Rel ρ w (vs.getD i undef) (ds.getD i .any)

theorem getD_app {α : Type} (l m : List α) (i : Nat) (d : α) : (l ++ m).getD i d = if i < l.length then l.getD i d else m.getD (i - l.length) d := by
  simp only [List.getD_eq_getElem?_getD]
  split
  · rw [List.getElem?_append_left (by assumption)]
  · rw [List.getElem?_append_right (by omega)]
theorem getD_tk {α : Type} (l : List α) (m i : Nat) (d : α) (h : i < m) : (l.take m).getD i d = l.getD i d := by
  simp only [List.getD_eq_getElem?_getD, List.getElem?_take, if_pos h]
theorem getD_dr {α : Type} (l : List α) (m i : Nat) (d : α) : (l.drop m).getD i d = l.getD (m + i) d := by
  simp only [List.getD_eq_getElem?_getD, List.getElem?_drop]

theorem LR.nil (ρ : Rho) (w : World) : LR ρ w [] [] := ⟨rfl, fun i hi => by simp at hi, fun i hi => by simp at hi⟩
theorem LR.app {ρ : Rho} {w : World} {vs vs' : List Value} {ds ds' : List D} (h : LR ρ w vs ds) (k : LR ρ w vs' ds') : LR ρ w (vs ++ vs') (ds ++ ds') := by
  refine ⟨by simp [h.len, k.len], fun i hi => ?_, fun i hi => ?_⟩
  · rw [getD_app, h.len]
    split
    · exact h.one i (by assumption)
    · exact k.one _ (by simp at hi; omega)
  · rw [getD_app, getD_app, h.len]
    split
    · exact h.rel i (by assumption)
    · exact k.rel _ (by simp at hi; omega)
theorem LR.take {ρ : Rho} {w : World} {vs : List Value} {ds : List D} (h : LR ρ w vs ds) (m : Nat) : LR ρ w (vs.take m) (ds.take m) := by
  refine ⟨by simp [h.len], fun i hi => ?_, fun i hi => ?_⟩ <;> rw [List.length_take] at hi
  · rw [getD_tk _ _ _ _ (by omega)]; exact h.one i (by omega)
  · rw [getD_tk _ _ _ _ (by omega), getD_tk _ _ _ _ (by omega)]; exact h.rel i (by omega)
theorem LR.drop {ρ : Rho} {w : World} {vs : List Value} {ds : List D} (h : LR ρ w vs ds) (m : Nat) : LR ρ w (vs.drop m) (ds.drop m) := by
  refine ⟨by simp [h.len], fun i hi => ?_, fun i hi => ?_⟩ <;> simp at hi
  · rw [getD_dr]; exact h.one _ (by omega)
  · rw [getD_dr, getD_dr]; exact h.rel _ (by omega)
theorem LR.splice {ρ : Rho} {w : World} {vs xs : List Value} {ds ys : List D} (h : LR ρ w vs ds) (k : LR ρ w xs ys) (off : Nat) : LR ρ w (splice vs off xs) (splice ds off ys) := by
  unfold Go.Proofs.Ytkpghgnbbfpbmaa.splice
  rw [k.len]
  exact ((h.take off).app k).app (h.drop _)
theorem LR.of_cells {ρ : Rho} {w : World} {v : Value} {d : D} {xs : List D} (h : Rel ρ w v d) (hx : d.cells = some xs) : LR ρ w v.cells.toList xs := by
  obtain ⟨h1, h2, h3⟩ := cells_rel h hx
  exact ⟨by simpa using h1, fun i hi => by rw [← arr_getD]; exact h2 i hi, fun i hi => by rw [← arr_getD]; exact h3 i hi⟩
theorem LR.consts {ρ : Rho} {w : World} {vs : List Value} {us : List U} (h : leavesEq vs us = true) : LR ρ w vs (us.map D.u) := by
  obtain ⟨h1, h2⟩ := leaves_rel (M := ρ.M) (w := w) h
  refine ⟨by simpa using h1, fun i hi => (h2 i (by simpa using hi)).1, fun i hi => ?_⟩
  rw [getD_map_u (by simpa using hi)]
  exact .u (h2 i (by simpa using hi)).2

theorem splice_length {α : Type} (l xs : List α) (off : Nat) (h : off + xs.length ≤ l.length) : (splice l off xs).length = l.length := by simp [splice]; omega
theorem splice_cons {α : Type} (l xs : List α) (x : α) (off : Nat) (h : off < l.length) : splice (l.set off x) (off + 1) xs = splice l off (x :: xs) := by
  unfold splice
  rw [List.take_set, List.drop_set, if_pos (by omega)]
  rw [List.take_succ_eq_append_getElem h, List.set_append_right _ _ (by simp; omega)]
  simp [Nat.min_eq_left (Nat.le_of_lt h)]
  omega

theorem fold_put (off : Nat) : ∀ (xs : List Value) (k : Nat) (cells : Array Value), off + k + xs.length ≤ cells.size →
    ((xs.zipIdx k).foldl (fun cs p => cs.setIfInBounds (off + p.2) p.1) cells).toList = splice cells.toList (off + k) xs
  | [], k, cells, _ => by simp [splice]
  | x :: xs, k, cells, h => by
    simp only [List.zipIdx_cons, List.foldl_cons]
    have h1 : off + k < cells.size := by simp at h; omega
    rw [fold_put off xs (k + 1) _ (by simp at h ⊢; omega), Array.toList_setIfInBounds, show off + (k + 1) = off + k + 1 by omega]
    exact splice_cons _ _ _ _ (by simpa using h1)

theorem fill_cons {place : Nat → Option (Nat × Nat)} {cells : Array Value} {i : Nat} {v : Value} {rest : List (Nat × Value)} {off size : Nat} (hp : place i = some (off, size)) (hv : v.cells.size = size) (ho : off + size ≤ cells.size) :
    ∃ cells' : Array Value, cells'.toList = splice cells.toList off v.cells.toList ∧ Instr.fill place cells ((i, v) :: rest) = Instr.fill place cells' rest := by
  subst hv
  refine ⟨v.cells.zipIdx.foldl (fun cs (p : Value × Nat) => cs.setIfInBounds (off + p.2) p.1) cells, ?_, ?_⟩
  · have := fold_put off v.cells.toList 0 cells (by simpa using ho)
    rw [← Array.foldl_toList, Array.toList_zipIdx]
    simpa using this
  · simp only [Instr.fill, hp]
    rw [if_neg (by simp; omega)]

section
variable {P : Program} {n : Nat} {o : Oper} {st : St} {fr : Nat} {K : Eff → Prop}

/-! ### Structs -/
theorem places_some : ∀ {l : List Field}, (∀ f ∈ l, (P.info? f.type).isSome = true) → ∃ places, l.mapM (fun f : Field => (P.info? f.type).map fun i => (f.offset, i.size)) = some places ∧
    ∀ (i : Nat) (f : Field), l[i]? = some f → ∃ x, P.info? f.type = some x ∧ places[i]? = some (f.offset, x.size)
  | [], _ => ⟨[], rfl, fun i f h => by simp at h⟩
  | f :: l, h => by
    obtain ⟨x, hx⟩ := Option.isSome_iff_exists.1 (h f (by simp))
    obtain ⟨places, h1, h2⟩ := places_some (l := l) fun g hg => h g (by simp [hg])
    refine ⟨(f.offset, x.size) :: places, by simp [List.mapM_cons, hx, h1], fun i g hg => ?_⟩
    cases i with
    | zero => simp at hg; subst hg; exact ⟨x, hx, rfl⟩
    | succ i => simpa using h2 i g (by simpa using hg)

theorem bd_fill {w0 : World} {M0 : Nat → Prop} {ρ : Rho} {a : Act} {w : World} (hh : HoldsR n w0 M0 ρ st a w) {t : TypeId} {fs : Array Field} (hu : P.underlying t = some (.struct fs)) {place : Nat → Option (Nat × Nat)}
    (hpl : ∀ i f m, fs[i]? = some f → szIs P f.type m = true → place i = some (f.offset, m)) : ∀ (parts : List (Nat × Operand)) (ps : List (Nat × Nat × Opd)) (cells : Array Value) (ds l : List D), partsOk P t parts ps = true →
    LR ρ w cells.toList ds → opVC.bdGo st.ev ds ps = some l → ∃ cells', Instr.fill place cells (parts.map fun p => (p.1, a.eval p.2)) = some cells' ∧ LR ρ w cells'.toList l
  | [], [], cells, ds, l, _, hr, h => by simp [opVC.bdGo] at h; subst h; exact ⟨cells, rfl, hr⟩
  | (i, x) :: parts, (off, m, y) :: ps, cells, ds, l, hc, hr, h => by
    simp only [partsOk, Bool.and_eq_true] at hc
    obtain ⟨⟨h1, h2⟩, h3⟩ := hc
    cases hft : fieldIs P t i off with
    | none => simp [hft] at h1
    | some ft =>
      simp only [hft] at h1
      obtain ⟨fs', fl, hu', hf, rfl, rfl⟩ := fieldIs_some hft
      rw [hu] at hu'
      injection hu' with hu'
      injection hu' with hu'
      subst hu'
      have hp := hpl i fl m hf h1
      simp only [opVC.bdGo] at h
      cases hy : (st.ev y).cells with
      | none => simp [hy] at h
      | some xs =>
        simp only [hy] at h
        split at h
        · rename_i hcond
          have r := LR.of_cells (opd_rel hh h2) hy
          have hsz : (a.eval x).cells.size = m := by have := r.len; simp at this; omega
          have hle : fl.offset + m ≤ cells.size := by have := hr.len; simp at this; omega
          obtain ⟨cells1, e1, e2⟩ := fill_cons (place := place) (cells := cells) (i := i) (v := a.eval x) (rest := parts.map fun p => (p.1, a.eval p.2)) hp hsz hle
          have hr1 : LR ρ w cells1.toList (splice ds fl.offset xs) := by rw [e1]; exact hr.splice r _
          obtain ⟨cells', h4, h5⟩ := bd_fill hh hu hpl parts ps cells1 _ l h3 hr1 h
          exact ⟨cells', by rw [List.map_cons, e2]; exact h4, h5⟩
        · cases h
  | [], _ :: _, _, _, _, h, _, _ => by simp [partsOk] at h
  | _ :: _, [], _, _, _, h, _, _ => by simp [partsOk] at h

theorem zeroIs_some {t : TypeId} {zs : List U} (h : zeroIs P t zs = true) : ∃ i z, P.info? t = some i ∧ i.zero = some z ∧ leavesEq z.cells.toList zs = true ∧ i.size = zs.length := by
  unfold zeroIs at h
  cases hi : P.info? t with
  | none => simp [hi] at h
  | some i =>
    simp only [hi] at h
    cases hz : i.zero with
    | none => simp [hz] at h
    | some z => simp [hz] at h; exact ⟨i, z, rfl, hz, h.1, h.2⟩

theorem snd_bd {zs : List U} {ps : List (Nat × Nat × Opd)} (hc : okOp P o.op (.bd zs ps) = true) (hd : ∀ t, o.dst = some t → t < n) (hk : opVC P (.bd zs ps) st.ev st.H fr K) : ∃ e, K e ∧ OpOK P n o st e := by
  simp only [opVC] at hk
  cases hop : o.op <;> simp [okOp, hop] at hc
  rename_i t parts
  obtain ⟨⟨h1, h2⟩, h3⟩ := hc
  obtain ⟨i, z, hi, hz, hzs, hsz⟩ := zeroIs_some h1
  cases hu : P.underlying t with
  | none => simp [fieldsOk, hu] at h3
  | some d =>
    cases d <;> simp [fieldsOk, hu] at h3
    rename_i fs
    split at hk
    · rename_i l hl
      refine ⟨_, hk, OpOK.of fun w0 M0 ρ a w Q hh => ?_⟩
      obtain ⟨places, hp1, hp2⟩ := places_some (P := P) (l := fs.toList) (by intro f hf; obtain ⟨j, hj, rfl⟩ := List.getElem_of_mem hf; simpa using h3 j (by simpa using hj))
      obtain ⟨cells', e1, e2⟩ := bd_fill hh hu (place := (places.toArray[·]?)) (fun i f m hf hs => by
          obtain ⟨x, hx1, hx2⟩ := szIs_some hs
          obtain ⟨y, hy1, hy2⟩ := hp2 i f (by simpa using hf)
          rw [hx1] at hy1
          injection hy1 with hy1
          subst hy1
          simpa [hx2] using hy2) parts.toList ps z.cells (zs.map D.u) l h2 (LR.consts hzs) hl
      have hb : P.built t (parts.map fun (i, x) => (i, a.eval x)).toList = some cells' := by
        unfold Program.built
        simp only [hi, hu, hz, hp1]
        rw [Array.toList_map]
        exact e1
      refine wp_val (w' := w) (v := .agg cells') ?_ (hh.put o.dst hd _ _ ⟨rfl, rfl, rfl⟩ w (Frame0.refl _ _) (mkAgg_rel ?_ ?_ ?_))
      · simp only [execOp, hop, Sem.run_bind, run_build w t _ cells' hb, Result.andThen_ok, Sem.run_pure]
      · simpa using e2.len
      · intro i hi; rw [arr_getD]; exact e2.one i hi
      · intro i hi; rw [arr_getD]; exact e2.rel i hi
    · exact hk.elim

/-! ### New objects -/
/-- A new row: the world behind it, and what it holds. -/
theorem HoldsR.new {w0 : World} {M0 : Nat → Prop} {ρ : Rho} {a : Act} {w : World} (hh : HoldsR n w0 M0 ρ st a w) (dst : Option Nat) (hd : ∀ t, dst = some t → t < n) (v : Value) (e : Eff) (ob : MObj) (hf : st.H fr = none)
    (he : e.up = [(fr, ob)]) (hkl : e.kl = none) (hnx : fr < e.nx) (w' : World) (cur : Array Value) (E : TypeId) (k : Nat) (hw' : w'.heap = w.heap.push (.cells cur E)) (hstr : w'.os = w.os ∧ w'.tape = w.tape ∧ w'.output = w.output)
    (hs : cur.size = k * ob.size) (hl : ob.len ≤ k) (hk : k ≤ maxLen) (hm : ∀ es, ob ≠ .map es) (hel : ∀ i, i < ob.len → (ob.elem i).length = ob.size) (h1 : ∀ i j, i < ob.len → j < ob.size → (cur.getD (i * ob.size + j) undef).oneCell' = true)
    (h : ∀ i j, i < ob.len → j < ob.size → Rel ρ w (cur.getD (i * ob.size + j) undef) ((ob.elem i).getD j .any))
    (hv : (∃ s, v = .pointer (some ⟨w.heap.size, 0, none⟩) ∧ e.d = .ref fr s 0 0) ∨ ∃ m, v = .slice (some ⟨w.heap.size, 0, none⟩) m k ∧ e.d = .msl fr m ∧ m ≤ k) : Holds n w0 M0 ρ.F (st.app dst e) (a.put dst v) w' := by
  have hρ : ρ fr = none := hh.heap.dom fr hf
  have hsz : w'.heap.size = w.heap.size + 1 := by rw [hw']; simp
  refine hh.upd1 dst hd v e fr ob he (.inl hkl) (.inr hnx) w' (some w.heap.size) k hstr (by omega) (fun c hc _ => ?_) (fun x hx => ?_) (.inr (.inl hρ)) (fun rk rn ru => ⟨?_, ?_⟩)
  · rw [hw', Array.getElem?_push, if_neg (by omega)]
  · injection hx with hx; subst hx; exact ⟨by omega, .inr (Nat.le_refl _)⟩
  · exact .cells _ k ob cur E (by rw [hw']; simp) hs hl hk hm hel h1 (fun i j hi hj => rn _ _ (h i j hi hj) hkl)
  · rcases hv with ⟨s, rfl, hd'⟩ | ⟨m, rfl, hd', hm'⟩
    · rw [hd']; exact .ref fr s 0 0 w.heap.size k 0 (Rho.upd_same _ _ _) (by omega)
    · rw [hd']; exact .msl fr m w.heap.size k (Rho.upd_same _ _ _) hm'

theorem elem_one (s : Nat) (l : List D) : (MObj.drow s [l]).elem 0 = l := rfl

theorem snd_al {zs : List U} (hc : okOp P o.op (.al zs) = true) (hd : ∀ t, o.dst = some t → t < n) (hf : st.H fr = none) (hk : opVC P (.al zs) st.ev st.H fr K) : ∃ e, K e ∧ OpOK P n o st e := by
  simp only [opVC] at hk
  cases hop : o.op <;> simp [okOp, hop] at hc
  rename_i t
  obtain ⟨i, z, hi, hz, hzs, hsz⟩ := zeroIs_some hc
  refine ⟨_, hk, OpOK.of fun w0 M0 ρ a w Q hh => ?_⟩
  have r := LR.consts (ρ := ρ) (w := w) hzs
  have hlen : z.cells.size = zs.length := by have := r.len; simpa using this
  refine wp_val (w' := w.alloc (.cells z.cells t)) (by simp [execOp, hop, Instr.alloc, zeroValue, typeInfo, hi, hz, newVar, newRow])
    (hh.new o.dst hd _ _ (.drow zs.length [zs.map .u]) hf rfl rfl (Nat.lt_succ_self _) _ z.cells t 1 rfl ⟨rfl, rfl, rfl⟩ (by simpa [MObj.size] using hlen) (by simp [MObj.len]) (by simp [maxLen]) (by intro es; simp) ?_ ?_ ?_ (.inl ⟨_, rfl, rfl⟩))
  · intro i hi; have : i = 0 := by simpa [MObj.len] using hi
    subst this; simp [MObj.elem, MObj.size]
  · intro i j hi hj; have : i = 0 := by simpa [MObj.len] using hi
    subst this
    simp only [Nat.zero_mul, Nat.zero_add]
    rw [arr_getD]; exact r.one j (by simpa [MObj.size] using hj)
  · intro i j hi hj; have : i = 0 := by simpa [MObj.len] using hi
    subst this
    simp only [Nat.zero_mul, Nat.zero_add]
    rw [arr_getD]; exact r.rel j (by simpa [MObj.size] using hj)

theorem snd_bx {x : Opd} (hc : okOp P o.op (.bx x) = true) (hd : ∀ t, o.dst = some t → t < n) (hf : st.H fr = none) (hk : opVC P (.bx x) st.ev st.H fr K) : ∃ e, K e ∧ OpOK P n o st e := by
  simp only [opVC] at hk
  cases hop : o.op <;> simp [okOp, hop] at hc
  rename_i t y
  split at hk
  · rename_i xs hx
    refine ⟨_, hk, OpOK.of fun w0 M0 ρ a w Q hh => ?_⟩
    have r := LR.of_cells (opd_rel hh hc) hx
    refine wp_val (w' := w.alloc (.cells (a.eval y).cells t)) (by simp [execOp, hop, Instr.box, newVar, newRow])
      (hh.new o.dst hd _ _ (.drow xs.length [xs]) hf rfl rfl (Nat.lt_succ_self _) _ (a.eval y).cells t 1 rfl ⟨rfl, rfl, rfl⟩ (by simpa [MObj.size] using r.len) (by simp [MObj.len]) (by simp [maxLen]) (by intro es; simp) ?_ ?_ ?_ (.inl ⟨_, rfl, rfl⟩))
    · intro i hi; have : i = 0 := by simpa [MObj.len] using hi
      subst this; simp [MObj.elem, MObj.size]
    · intro i j hi hj; have : i = 0 := by simpa [MObj.len] using hi
      subst this
      simp only [Nat.zero_mul, Nat.zero_add]
      rw [arr_getD]; exact r.one j hj
    · intro i j hi hj; have : i = 0 := by simpa [MObj.len] using hi
      subst this
      simp only [Nat.zero_mul, Nat.zero_add]
      rw [arr_getD]; exact r.rel j hj
  · exact hk.elim

/-! ### Rows of elements -/
theorem flatten_len {α : Type} {s : Nat} : ∀ {els : List (List α)}, (∀ e ∈ els, e.length = s) → els.flatten.length = els.length * s
  | [], _ => by simp
  | e :: els, h => by
    have := flatten_len (els := els) fun x hx => h x (by simp [hx])
    simp [h e (by simp), this, Nat.add_mul, Nat.add_comm]
theorem flatten_getD {α : Type} {s : Nat} (d : α) : ∀ {els : List (List α)} {i j : Nat}, (∀ e ∈ els, e.length = s) → i < els.length → j < s → els.flatten.getD (i * s + j) d = (els.getD i []).getD j d
  | [], _, _, _, hi, _ => by simp at hi
  | e :: els, 0, j, h, _, hj => by
    rw [List.flatten_cons, getD_app, if_pos (by rw [h e (by simp)]; omega)]
    simp
  | e :: els, i + 1, j, h, hi, hj => by
    rw [List.flatten_cons, getD_app, h e (by simp), if_neg (by rw [Nat.add_mul]; omega)]
    rw [show (i + 1) * s + j - s = i * s + j by rw [Nat.add_mul]; omega]
    rw [flatten_getD d (fun x hx => h x (by simp [hx])) (by simpa using hi) hj]
    simp

theorem allUU_eq : ∀ {els : List (List D)} {uss : List (List U)}, allUU els = some uss → els = uss.map fun l => l.map D.u
  | [], uss, h => by simp [allUU] at h; subst h; rfl
  | l :: els, uss, h => by
    simp only [allUU] at h
    split at h
    · rename_i x y hx hy
      injection h with h
      subst h
      rw [allU_eq hx, allUU_eq hy]
      simp
    · cases h
theorem mkRow_size (s : Nat) (els : List (List D)) : (mkRow s els).size = s := by unfold mkRow; split <;> rfl
theorem mkRow_len (s : Nat) (els : List (List D)) : (mkRow s els).len = els.length := by
  unfold mkRow
  split
  · rename_i uss h; rw [allUU_eq h]; simp [MObj.len]
  · rfl
theorem mkRow_elem (s : Nat) (els : List (List D)) (i : Nat) : (mkRow s els).elem i = els.getD i [] := by
  unfold mkRow
  split
  · rename_i uss h
    rw [allUU_eq h]
    simp only [MObj.elem, List.getD_eq_getElem?_getD, List.getElem?_map]
    cases uss[i]? <;> simp
  · rfl
theorem mkRow_map (s : Nat) (els : List (List D)) (es : List (U × U)) : mkRow s els ≠ .map es := by unfold mkRow; split <;> simp

theorem cellsAll_some : ∀ {ds : List D} {els : List (List D)}, cellsAll ds = some els → els.length = ds.length ∧ ∀ i, i < ds.length → (ds.getD i .any).cells = some (els.getD i [])
  | [], els, h => by simp [cellsAll] at h; subst h; exact ⟨rfl, fun i hi => by simp at hi⟩
  | d :: ds, els, h => by
    simp only [cellsAll] at h
    split at h
    · rename_i x y hx hy
      injection h with h
      subst h
      obtain ⟨h1, h2⟩ := cellsAll_some hy
      refine ⟨by simp [h1], fun i hi => ?_⟩
      cases i with
      | zero => simpa using hx
      | succ i => simpa using h2 i (by simpa using hi)
    · cases h

theorem bs_fill {w0 : World} {M0 : Nat → Prop} {ρ : Rho} {a : Act} {w : World} (hh : HoldsR n w0 M0 ρ st a w) {s : Nat} : ∀ (parts : List (Nat × Operand)) (xs : List Opd) (k : Nat) (cells : Array Value) (els : List (List D)) (pre : List D), seqOk k parts xs = true →
    cellsAll (xs.map st.ev) = some els → (∀ e ∈ els, e.length = s) → pre.length = k * s → cells.size = (k + els.length) * s → LR ρ w (cells.toList.take (k * s)) pre →
    ∃ cells', Instr.fill (fun i => some (i * s, s)) cells (parts.map fun p => (p.1, a.eval p.2)) = some cells' ∧ LR ρ w cells'.toList (pre ++ els.flatten)
  | [], [], k, cells, els, pre, _, h, _, hp, hs, hr => by
    simp [cellsAll] at h
    subst h
    refine ⟨cells, rfl, ?_⟩
    simp at hs
    rw [List.take_of_length_le (by simp [hs])] at hr
    simpa using hr
  | (i, x) :: parts, y :: xs, k, cells, els, pre, hc, h, hlen, hp, hs, hr => by
    simp only [seqOk, Bool.and_eq_true, beq_iff_eq] at hc
    obtain ⟨⟨rfl, h2⟩, h3⟩ := hc
    simp only [List.map_cons, cellsAll] at h
    split at h
    · rename_i c els' hx hy
      injection h with h
      subst h
      have r := LR.of_cells (opd_rel hh h2) hx
      have hcl : c.length = s := hlen c (by simp)
      have hsz : (a.eval x).cells.size = s := by have := r.len; simp at this; omega
      have hle : i * s + s ≤ cells.size := by
        rw [hs]
        calc i * s + s = (i + 1) * s := by rw [Nat.add_mul, Nat.one_mul]
          _ ≤ _ := Nat.mul_le_mul_right _ (by simp)
      obtain ⟨cells1, e1, e2⟩ := fill_cons (place := fun i => some (i * s, s)) (cells := cells) (i := i) (v := a.eval x) (rest := parts.map fun p => (p.1, a.eval p.2)) rfl hsz hle
      have hsz1 : cells1.size = cells.size := by
        have := congrArg List.length e1
        rw [splice_length _ _ _ (by simpa [hsz] using hle)] at this
        simpa using this
      have ht : cells1.toList.take ((i + 1) * s) = cells.toList.take (i * s) ++ (a.eval x).cells.toList := by
        rw [e1]
        unfold splice
        rw [List.take_append_of_le_length (by simp [hsz, Nat.add_mul]; omega)]
        rw [List.take_of_length_le (by simp [hsz, Nat.add_mul]; omega)]
      obtain ⟨cells', h4, h5⟩ := bs_fill hh parts xs (i + 1) cells1 els' (pre ++ c) h3 hy (fun e he => hlen e (by simp [he])) (by simp [hp, hcl, Nat.add_mul]) (by rw [hsz1, hs]; simp; congr 1; omega) (by rw [ht]; exact hr.app r)
      refine ⟨cells', by rw [List.map_cons, e2]; exact h4, ?_⟩
      simpa using h5
    · cases h
  | [], _ :: _, _, _, _, _, h, _, _, _, _, _ => by simp [seqOk] at h
  | _ :: _, [], _, _, _, _, h, _, _, _, _, _ => by simp [seqOk] at h

theorem snd_bs {s : Nat} {xs : List Opd} (hc : okOp P o.op (.bs s xs) = true) (hd : ∀ t, o.dst = some t → t < n) (hf : st.H fr = none) (hk : opVC P (.bs s xs) st.ev st.H fr K) : ∃ e, K e ∧ OpOK P n o st e := by
  simp only [opVC] at hk
  cases hop : o.op <;> simp [okOp, hop] at hc
  rename_i t len parts
  obtain ⟨⟨⟨⟨h0, rfl⟩, h2⟩, h3⟩, h4⟩ := hc
  cases he : sliceElem P t with
  | none => simp [he] at h0
  | some e =>
    simp only [he, Bool.and_eq_true] at h0
    have hu := sliceElem_some he
    obtain ⟨ie, hi, hsz⟩ := szIs_some h0.1
    cases hz : ie.zero with
    | none => simp [hi, hz] at h0
    | some z =>
      have hzc : z.cells.size = s := by simpa [hi, hz] using h0.2
      split at hk
      · rename_i els hels
        obtain ⟨hall, hk⟩ := hk
        obtain ⟨hl1, hl2⟩ := cellsAll_some hels
        simp at hl1
        have hlen : ∀ e ∈ els, e.length = s := by simpa using hall
        refine ⟨_, hk, OpOK.of fun w0 M0 ρ a w Q hh => ?_⟩
        let cells0 : Array Value := if xs.length * s = 0 then #[] else (Array.range (xs.length * s)).map (z.cells[· % z.cells.size]!)
        have hc0 : cells0.size = (0 + els.length) * s := by
          simp only [cells0]
          split
          · rw [hl1]; simp; omega
          · simp [hl1]
        obtain ⟨cells', e1, e2⟩ := bs_fill hh parts.toList xs 0 cells0 els [] h4 hels hlen (by simp) hc0 (by simpa using LR.nil ρ w)
        simp only [List.nil_append] at e2
        have hrun : (Instr.buildSlice t xs.length (parts.map fun (i, x) => (i, a.eval x))).run P w = .ok (.slice (some ⟨w.heap.size, 0, none⟩) xs.length xs.length) (w.alloc (.cells cells' e)) := by
          have hsmall : ¬ (16777216 < xs.length * ie.size) := by rw [hsz]; omega
          have e1' : Instr.fill (fun i => some (i * ie.size, ie.size)) cells0 (parts.map fun (i, x) => (i, a.eval x)).toList = some cells' := by
            rw [Array.toList_map, hsz]; exact e1
          by_cases h7 : xs.length * s = 0
          · have hx0 : xs = [] := by
              rcases Nat.mul_eq_zero.1 h7 with h | h
              · exact List.eq_nil_of_length_eq_zero h
              · exact absurd h h3
            subst hx0
            have hp0 : parts = #[] := by
              obtain ⟨l⟩ := parts
              cases l with
              | nil => rfl
              | cons p l => obtain ⟨i, x⟩ := p; simp [seqOk] at h4
            subst hp0
            have e3 : cells0 = #[] := by simp only [cells0]; rw [if_pos h7]
            rw [e3] at e1'
            simp [Instr.fill] at e1'
            subst e1'
            simp [Instr.buildSlice, run_underlying hu, sizeOf, typeInfo, hi, Instr.fill, newRow, Array.range_zero']
          · have e3 : cells0 = (Array.range (xs.length * s)).map (z.cells[· % z.cells.size]!) := by simp only [cells0]; rw [if_neg h7]
            rw [e3] at e1'
            exact run_buildSlice w t e xs.length _ cells' ie z hu hi hz (by rw [hsz]; omega) (by rw [hsz]; omega) (by rw [hsz] at e1' ⊢; exact e1')
        have hcl : cells'.size = els.length * s := by have := e2.len; rw [flatten_len hlen] at this; simpa using this
        refine wp_val (w' := w.alloc (.cells cells' e)) (by simp only [execOp, hop, Sem.run_bind, hrun, Result.andThen_ok, Sem.run_pure])
          (hh.new o.dst hd _ _ (mkRow s els) hf rfl rfl (Nat.lt_succ_self _) _ cells' e xs.length rfl ⟨rfl, rfl, rfl⟩ (by rw [mkRow_size, hcl, hl1]) (by rw [mkRow_len, hl1]; exact Nat.le_refl _) ?_ (mkRow_map s els) ?_ ?_ ?_ (.inr ⟨_, rfl, by rw [hl1], Nat.le_refl _⟩))
        · have h9 : xs.length ≤ xs.length * s := Nat.le_mul_of_pos_right _ (Nat.pos_of_ne_zero h3)
          simp only [maxLen]; omega
        · intro i hi
          rw [mkRow_elem, mkRow_size]
          rw [mkRow_len] at hi
          rw [getD_lt _ hi]; exact hlen _ (List.getElem_mem hi)
        · intro i j hi hj
          rw [mkRow_size] at hj ⊢
          rw [mkRow_len] at hi
          rw [arr_getD]; exact e2.one _ (by rw [flatten_len hlen]; exact lt_mul hi hj)
        · intro i j hi hj
          rw [mkRow_size] at hj ⊢
          rw [mkRow_len] at hi
          rw [mkRow_elem, arr_getD, ← flatten_getD _ hlen hi hj]; exact e2.rel _ (by rw [flatten_len hlen]; exact lt_mul hi hj)
      · exact hk.elim

end
end Go.Proofs.Ytkpghgnbbfpbmaa
