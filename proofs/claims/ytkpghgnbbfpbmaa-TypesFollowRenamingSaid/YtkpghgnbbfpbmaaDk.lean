/- The D-logic's operations are sound: data as they are handed to a call, calls; all operations. -/
import Derived.Test.YtkpghgnbbfpbmaaDj
set_option linter.unusedSimpArgs false
set_option linter.unusedVariables false
namespace Go.Proofs.Ytkpghgnbbfpbmaa

structure RL (M : Nat → Prop) (w : World) (vs : List Value) (us : List U) : Prop where
  len : vs.length = us.length
  rel : ∀ i, i < us.length → RelU M w (vs.getD i undef) (us.getD i .pnil)
theorem RL.app {M : Nat → Prop} {w : World} {vs vs' : List Value} {us us' : List U} (h : RL M w vs us) (k : RL M w vs' us') : RL M w (vs ++ vs') (us ++ us') := by
  refine ⟨by simp [h.len, k.len], fun i hi => ?_⟩
  rw [getD_app, getD_app, h.len]
  split
  · exact h.rel i (by assumption)
  · exact k.rel _ (by simp at hi; omega)

section
variable {w0 : World} {M0 : Nat → Prop} {H : Nat → Option MObj} {nx : Nat} {ρ : Rho} {w : World} {M' : Nat → Prop}

/-- An owned row's cells, for whoever does not write them. -/
theorem row_read (hH : HeapRel w0 M0 H nx ρ w) {b c k : Nat} {ob : MObj} (hρ : ρ b = some (some c, k)) (hob : H b = some ob) (hm : ∀ es, ob ≠ .map es) : c < w.heap.size ∧ k ≤ maxLen ∧ ob.len ≤ k ∧ (∀ i, i < ob.len → (ob.elem i).length = ob.size) ∧ ∃ vs : Nat → Value,
    (∀ j, j < ob.len * ob.size → w.cell? ⟨c, 0 + j, none⟩ = some (vs j)) ∧ (∀ j, j < ob.len * ob.size → (vs j).oneCell' = true) ∧ ∀ i j, i < ob.len → j < ob.size → Rel ρ w (vs (i * ob.size + j)) ((ob.elem i).getD j .any) := by
  obtain ⟨c', k', h3, h4⟩ := hH.obj b ob hob
  rw [hρ] at h3
  injection h3 with h3
  injection h3 with h3 h3'
  subst h3; subst h3'
  cases h4 with
  | map c k clock entries es _ _ _ _ => exact absurd rfl (hm es)
  | cells c k _ cur E hw hs hl hk hm' he ho hr =>
    have hle : ob.len * ob.size ≤ cur.size := by rw [hs]; exact Nat.mul_le_mul_right _ hl
    refine ⟨(hH.own b c k hρ).1, hk, hl, he, fun j => cur.getD j undef, fun j hj => ?_, fun j hj => ?_, fun i j hi hj => hr i j hi hj⟩
    · have : j < cur.size := by omega
      simp [World.cell?, hw, this]
    · obtain ⟨_, h2, h3, h4⟩ := flat_idx hj
      have := ho _ _ h2 h3
      rw [← h4] at this; exact this

theorem frz_rel {H1 : Nat → Option MObj} (hH : HeapRel w0 M0 H nx ρ w) (hsub : ∀ b o, H1 b = some o → H b = some o) (hM : ∀ c, M' c → ρ.M c) (hown : ∀ b c k, (H1 b).isSome = true → ρ b = some (some c, k) → ¬ M' c) : ∀ fuel,
    (∀ v d u, Rel ρ w v d → frz H1 fuel d = some u → RelU M' w v u) ∧
    (∀ ds us, frzL H1 fuel ds = some us → ds.length = us.length ∧ ∀ i v, i < us.length → Rel ρ w v (ds.getD i .any) → RelU M' w v (us.getD i .pnil)) ∧
    (∀ es us, frzLL H1 fuel es = some us → es.length = us.length ∧ ∀ i, i < us.length → (es.getD i []).length = (us.getD i []).length ∧ ∀ j v, j < (us.getD i []).length → Rel ρ w v ((es.getD i []).getD j .any) → RelU M' w v ((us.getD i []).getD j .pnil)) := by
  have up : ∀ {v u}, RelU ρ.M w v u → RelU M' w v u := fun h => h.mono (Nat.le_refl _) (fun _ _ _ => rfl) (fun c _ h => hM c h)
  intro fuel
  induction fuel with
  | zero =>
    refine ⟨fun v d u _ h => by cases d <;> simp [frz] at h, fun ds us h => ?_, fun es us h => ?_⟩
    · cases ds with
      | nil => simp [frzL] at h; subst h; exact ⟨rfl, fun i v hi => by simp at hi⟩
      | cons d ds => simp [frzL] at h
    · cases es with
      | nil => simp [frzLL] at h; subst h; exact ⟨rfl, fun i hi => by simp at hi⟩
      | cons d ds => simp [frzLL] at h
  | succ fuel ih =>
    obtain ⟨ih1, ih2, ih3⟩ := ih
    refine ⟨?_, ?_, ?_⟩
    · intro v d u hr h
      cases d with
      | any => simp [frz] at h
      | pref b s i off c k => simp [frz] at h
      | u x => simp only [frz] at h; injection h with h; subst h; exact up hr.u_inv
      | mp b =>
        simp only [frz] at h
        split at h
        · rename_i es hob
          injection h with h
          subst h
          cases hr with
          | mp b c k hρ =>
            obtain ⟨c', k', h3, h4⟩ := hH.obj b _ (hsub _ _ hob)
            rw [hρ] at h3
            injection h3 with h3
            injection h3 with h3 h3'
            subst h3; subst h3'
            cases h4 with
            | cells c k _ cur E hw hs hl hk hm' he ho hr => exact absurd rfl (hm' es)
            | map c k clock entries es hw hs hk hv => exact .fm c clock entries es ⟨hown b c k (by rw [hob]; rfl) hρ, (hH.own b c k hρ).1⟩ hw hs (fun i hi => up (hk i hi)) (fun i hi => up (hv i hi))
        · cases h
      | msl b m =>
        simp only [frz] at h
        split at h
        · rename_i s els hob
          split at h
          · rename_i hle
            injection h with h
            subst h
            rcases hr.msl_inv with ⟨c, k, rfl, hρ, hn⟩ | ⟨rfl, rfl, hρ⟩
            · obtain ⟨h1, h2, h3, h4, vs, h5, h6, h7⟩ := row_read hH hρ (hsub _ _ hob) (by intro es; simp)
              simp only [MObj.len, MObj.size] at h3 h4 h5 h6 h7
              have hlen : (els.take m).length = m := by simp; omega
              have hsub : m * s ≤ els.length * s := Nat.mul_le_mul_right _ hle
              have hel : ∀ e ∈ els, e.length = s := by
                intro e he
                obtain ⟨i, hi, rfl⟩ := List.getElem_of_mem he
                have h9 := h4 i hi
                simp only [MObj.elem, List.length_map] at h9
                rwa [getD_lt _ hi] at h9
              refine .sl c 0 k s m _ hlen.symm hn h2 (fun _ => ⟨hown b c k (by rw [hob]; rfl) hρ, h1⟩) (fun e he => hel e (List.mem_of_mem_take he)) vs (fun j hj => h5 j (by rw [hlen] at hj; omega)) (fun j hj => h6 j (by rw [hlen] at hj; omega)) (fun i j hi hj => ?_)
              rw [hlen] at hi
              have := h7 i j (by omega) hj
              simp only [MObj.elem] at this
              rw [getD_tk _ _ _ _ hi]
              rw [getD_map_u (by rw [getD_lt _ (show i < els.length by omega), hel _ (List.getElem_mem _)]; exact hj)] at this
              exact up this.u_inv
            · simp; exact .slnil
          · cases h
        · rename_i s els hob
          split at h
          · rename_i hle
            simp only [Option.map_eq_some_iff] at h
            obtain ⟨us, h, rfl⟩ := h
            obtain ⟨g1, g2⟩ := ih3 _ _ h
            rcases hr.msl_inv with ⟨c, k, rfl, hρ, hn⟩ | ⟨rfl, rfl, hρ⟩
            · obtain ⟨h1, h2, h3, h4, vs, h5, h6, h7⟩ := row_read hH hρ (hsub _ _ hob) (by intro es; simp)
              simp only [MObj.len, MObj.size] at h3 h4 h5 h6 h7
              have hlen : (els.take m).length = m := by simp; omega
              have hsub : m * s ≤ els.length * s := Nat.mul_le_mul_right _ hle
              have hul : us.length = m := by rw [← g1]; exact hlen
              have hes : ∀ i, i < m → (us.getD i []).length = s := by
                intro i hi
                rw [← (g2 i (by omega)).1, getD_tk _ _ _ _ hi]
                exact h4 i (by omega)
              refine .sl c 0 k s m _ hul.symm hn h2 (fun _ => ⟨hown b c k (by rw [hob]; rfl) hρ, h1⟩) (fun e he => ?_) vs (fun j hj => h5 j (by rw [hul] at hj; omega)) (fun j hj => h6 j (by rw [hul] at hj; omega)) (fun i j hi hj => ?_)
              · obtain ⟨i, hi, rfl⟩ := List.getElem_of_mem he
                have := hes i (by omega)
                rwa [getD_lt _ hi] at this
              · rw [hul] at hi
                have := h7 i j (by omega) hj
                simp only [MObj.elem] at this
                refine (g2 i (by omega)).2 j _ (by rw [hes i hi]; exact hj) ?_
                rw [getD_tk _ _ _ _ hi]; exact this
            · simp at g1
              have : us = [] := List.eq_nil_of_length_eq_zero g1.symm
              subst this
              exact .slnil
          · cases h
        · cases h
      | ref b s i off =>
        obtain ⟨c, k, rfl, hρ⟩ := hr.ref_inv
        simp only [frz] at h
        split at h
        · rename_i s' els hob
          split at h
          · rename_i hcond
            obtain ⟨rfl, hi⟩ := hcond
            injection h with h
            subst h
            obtain ⟨h1, h2, h3, h4, vs, h5, h6, h7⟩ := row_read hH hρ (hsub _ _ hob) (by intro es; simp)
            simp only [MObj.len, MObj.size] at h3 h4 h5 h6 h7
            have hel : (els.getD i []).length = s' := by have := h4 i hi; simpa [MObj.elem] using this
            refine .fp c (i * s') _ off _ rfl ⟨hown b c k (by rw [hob]; rfl) hρ, h1⟩ (fun j => vs (i * s' + j)) (fun j hj => ?_) (fun j hj => ?_) (fun j hj => ?_) <;> rw [hel] at hj
            · have := h5 _ (lt_mul hi hj); rwa [Nat.zero_add] at this
            · exact h6 _ (lt_mul hi hj)
            · have := h7 i j hi hj
              simp only [MObj.elem] at this
              rw [getD_map_u (by rw [hel]; exact hj)] at this
              exact up this.u_inv
          · cases h
        · rename_i s' els hob
          split at h
          · rename_i hcond
            obtain ⟨rfl, hi⟩ := hcond
            simp only [Option.map_eq_some_iff] at h
            obtain ⟨us, h, rfl⟩ := h
            obtain ⟨g1, g2⟩ := ih2 _ _ h
            obtain ⟨h1, h2, h3, h4, vs, h5, h6, h7⟩ := row_read hH hρ (hsub _ _ hob) (by intro es; simp)
            simp only [MObj.len, MObj.size] at h3 h4 h5 h6 h7
            have hel : us.length = s' := by rw [← g1]; exact h4 i hi
            refine .fp c (i * s') _ off _ rfl ⟨hown b c k (by rw [hob]; rfl) hρ, h1⟩ (fun j => vs (i * s' + j)) (fun j hj => ?_) (fun j hj => ?_) (fun j hj => ?_) <;> rw [hel] at hj
            · have := h5 _ (lt_mul hi hj); rwa [Nat.zero_add] at this
            · exact h6 _ (lt_mul hi hj)
            · exact g2 j _ (by rw [hel]; exact hj) (h7 i j hi hj)
          · cases h
        · cases h
      | agg l =>
        simp only [frz, Option.map_eq_some_iff] at h
        obtain ⟨us, h, rfl⟩ := h
        obtain ⟨g1, g2⟩ := ih2 _ _ h
        cases hr with
        | agg cs ds hs h1 hr => exact .agg cs us (by rw [hs, g1]) (fun i hi => h1 i (by rw [g1]; exact hi)) (fun i hi => g2 i _ hi (hr i (by rw [g1]; exact hi)))
      | tup l =>
        simp only [frz, Option.map_eq_some_iff] at h
        obtain ⟨us, h, rfl⟩ := h
        obtain ⟨g1, g2⟩ := ih2 _ _ h
        cases hr with
        | tup cs ds hs hr => exact .tup cs us (by rw [hs, g1]) (fun i hi => g2 i _ hi (hr i (by rw [g1]; exact hi)))
      | fn f l m =>
        simp only [frz] at h
        split at h
        · rename_i x y hx hy
          injection h with h
          subst h
          obtain ⟨g1, g2⟩ := ih2 _ _ hx
          obtain ⟨g3, g4⟩ := ih2 _ _ hy
          cases hr with
          | fn f fs cs ds es hs h ht k => exact .fn f fs cs x y (by rw [hs, g1]) (fun i hi => g2 i _ hi (h i (by rw [g1]; exact hi))) (by rw [ht, g3]) (fun i hi => g4 i _ hi (k i (by rw [g3]; exact hi)))
        · cases h
    · intro ds us h
      cases ds with
      | nil => simp [frzL] at h; subst h; exact ⟨rfl, fun i v hi => by simp at hi⟩
      | cons d ds =>
        simp only [frzL] at h
        split at h
        · rename_i x y hx hy
          injection h with h
          subst h
          obtain ⟨g1, g2⟩ := ih2 _ _ hy
          refine ⟨by simp [g1], fun i v hi hr => ?_⟩
          cases i with
          | zero => simpa using ih1 _ _ _ (by simpa using hr) hx
          | succ i => simpa using g2 i v (by simpa using hi) (by simpa using hr)
        · cases h
    · intro es us h
      cases es with
      | nil => simp [frzLL] at h; subst h; exact ⟨rfl, fun i hi => by simp at hi⟩
      | cons d ds =>
        simp only [frzLL] at h
        split at h
        · rename_i x y hx hy
          injection h with h
          subst h
          obtain ⟨g1, g2⟩ := ih3 _ _ hy
          obtain ⟨g3, g4⟩ := ih2 _ _ hx
          refine ⟨by simp [g1], fun i hi => ?_⟩
          cases i with
          | zero => exact ⟨by simpa using g3, fun j v hj hr => by simpa using g4 j v (by simpa using hj) (by simpa using hr)⟩
          | succ i => simpa using g2 i (by simpa using hi)
        · cases h
end

section
variable {P : Program} {n : Nat} {o : Oper} {st : St} {fr : Nat} {K : Eff → Prop}

theorem scal_rel {M M' : Nat → Prop} {w : World} {v : Value} {r : U} (h : RelU M w v r) (hs : r.scal = true) : RelU M' w v r := by
  cases h <;> simp [U.scal] at hs
  · exact .int _ _
  · exact .bool _
  · exact .str _
  · rename_i cs us hsz h
    refine .tup cs us hsz (fun i hi => ?_)
    have h1 := h i hi
    have h2 := hs _ (List.getElem_mem hi)
    rw [getD_lt _ hi] at h1 ⊢
    generalize us[i] = x at h1 h2 ⊢
    generalize cs.getD i undef = v at h1 ⊢
    cases h1 <;> simp at h2
    · exact .int _ _
    · exact .bool _
    · exact .str _

theorem enter_run {g : FuncId} (h : hasBody P g = true) (args : Array Value) (w : World) : (callFunc g args).run P w = .ok (.enter g args) w := by
  unfold hasBody at h
  cases hg : P.funcs[g]? with
  | none => simp [hg] at h
  | some fn =>
    simp only [hg, Bool.and_eq_true, bne_iff_ne] at h
    cases hb : fn.body with
    | none => simp [hb] at h
    | some c => simp [callFunc, hg, h.1, hb]

/-- The arguments as the callee sees them, and what becomes of the result. -/
theorem call_ok {w0 : World} {M0 : Nat → Prop} {ρ : Rho} {a : Act} {w : World} (hh : HoldsR n w0 M0 ρ st a w) (hd : ∀ t, o.dst = some t → t < n) {g : FuncId} {vs : Array Value} {us : List U} {r : U} (pure : Bool) (hpc : PC P g us r) (hrun : (execOp a.eval o).run P w = .ok (.enter g vs) w)
    (hrel : RL (if pure then ρ.M else fun _ => False) w vs.toList us) (hs : (pure || r.scal) = true) (e : Eff) (he : e.up = [] ∧ e.kl = none ∧ e.nx = 0) (hed : e.d = .u r) {Q : Exit → Act → World → Prop} :
    o.wp P a w (fun a' w' => Holds n w0 M0 ρ.F (st.app o.dst e) a' w') Q := by
  unfold Oper.wp
  rw [hrun]
  show Calls P g vs w _
  have hMlt : ∀ c, (if pure then ρ.M else fun _ => False) c → c < w.heap.size := by
    intro c hc
    cases pure with
    | false => exact hc.elim
    | true =>
      rcases hc with ⟨b, k, hb⟩ | hf
      · exact (hh.heap.own b c k hb).1
      · exact Nat.lt_of_lt_of_le (hh.heap.far c hf).1 hh.frame.size
  refine (hpc.2 (if pure then ρ.M else fun _ => False) w vs hMlt (by simpa using hrel.len) (fun i hi => by rw [arr_getD]; exact hrel.rel i hi)).mono ?_
  rintro e' w' ⟨v, rfl, hr, hf⟩
  refine hh.put o.dst hd v e he w' hf ?_
  rw [hed]
  cases pure with
  | true => exact .u hr
  | false => exact .u (scal_rel hr (by simpa using hs))

theorem args_ok {w0 : World} {M0 : Nat → Prop} {ρ : Rho} {a : Act} {w : World} (hh : HoldsR n w0 M0 ρ st a w) {xs : Array Operand} {ys : List Opd} (h : okOpds xs.toList ys = true) {us : List U} (hf : frzA st.H (ys.map st.ev) = some us) :
    RL (if (allU (ys.map st.ev)).isSome then ρ.M else fun _ => False) w (xs.map a.eval).toList us := by
  obtain ⟨r1, r2⟩ := opds_rel_arr hh h
  unfold frzA at hf
  split at hf
  · rename_i us' hus
    injection hf with hf
    subst hf
    obtain ⟨h1, h2⟩ := rel_us ⟨r1, r2⟩ hus
    simp only [hus, Option.isSome_some, if_true]
    exact ⟨by simpa using h1, fun i hi => by rw [← arr_getD]; exact h2 i hi⟩
  · rename_i hus
    have : (allU (ys.map st.ev)).isSome = false := by rw [hus]; rfl
    rw [this]
    obtain ⟨g1, g2⟩ := (frz_rel hh.heap (M' := fun _ => False) (fun _ _ h => h) (fun _ h => h.elim) (fun _ _ _ _ _ h => h) 40).2.1 _ _ hf
    refine ⟨by simpa using r1.trans g1, fun i hi => ?_⟩
    have := g2 i _ hi (r2 i (by rw [g1]; exact hi))
    rwa [arr_getD] at this

theorem snd_ca {g : FuncId} {ys : List Opd} (hc : okOp P o.op (.ca g ys) = true) (hd : ∀ t, o.dst = some t → t < n) (hk : opVC P (.ca g ys) st.ev st.H fr K) : ∃ e, K e ∧ OpOK P n o st e := by
  simp only [opVC] at hk
  cases hop : o.op <;> simp [okOp, hop] at hc
  rename_i c
  obtain ⟨callee, args, ts⟩ := c
  cases callee with
  | builtin b => simp [okCall] at hc; cases b <;> simp [okBuiltin] at hc
  | invoke r m => simp [okCall] at hc
  | value x =>
    simp only [okCall] at hc
    cases x <;> simp [okCallee] at hc
    obtain ⟨rfl, hc⟩ := hc
    split at hk
    · rename_i us hus
      obtain ⟨r, hpc, hs, hk⟩ := hk
      refine ⟨_, hk, OpOK.of fun w0 M0 ρ a w Q hh => ?_⟩
      exact call_ok hh hd (allU (ys.map st.ev)).isSome hpc (by simp [execOp, hop, resolve, Act.eval, Deferred.ofValue, invoke, enter_run hpc.1]) (args_ok hh hc hus) hs _ ⟨rfl, rfl, rfl⟩ rfl
    · exact hk.elim

theorem snd_cl {x : Opd} {ys : List Opd} (hc : okOp P o.op (.cl x ys) = true) (hd : ∀ t, o.dst = some t → t < n) (hk : opVC P (.cl x ys) st.ev st.H fr K) : ∃ e, K e ∧ OpOK P n o st e := by
  simp only [opVC] at hk
  cases hop : o.op <;> simp [okOp, hop] at hc
  rename_i c
  obtain ⟨callee, args, ts⟩ := c
  cases callee with
  | builtin b => simp [okCall] at hc; cases b <;> simp [okBuiltin] at hc
  | invoke r m => simp [okCall] at hc
  | value y =>
    simp only [okCall] at hc
    cases y <;> cases x <;> simp [okCallee] at hc
    obtain ⟨rfl, hc⟩ := hc
    rename_i t
    split at hk
    · rename_i g fs cs hx
      split at hk
      · rename_i us hus
        obtain ⟨r, hpc, hs, hk⟩ := hk
        refine ⟨_, hk, OpOK.of fun w0 M0 ρ a w Q hh => ?_⟩
        have hr := hh.regs t
        have hx' : st.σ t = .u (.fn g fs cs) := hx
        rw [hx'] at hr
        obtain ⟨fv, cv, hv, h1, h2, h3, h4⟩ := hr.u_inv.fn_inv
        have low : ∀ {v u}, RelU ρ.M w v u → RelU (if (allU (ys.map st.ev)).isSome then ρ.M else fun _ => False) w v u := by
          intro v u h
          refine h.mono (Nat.le_refl _) (fun _ _ _ => rfl) (fun c _ hc => ?_)
          split at hc
          · exact hc
          · exact hc.elim
        have rf : RL (if (allU (ys.map st.ev)).isSome then ρ.M else fun _ => False) w fv.toList fs := ⟨by simpa using h1, fun i hi => by rw [← arr_getD]; exact low (h2 i hi)⟩
        have rc : RL (if (allU (ys.map st.ev)).isSome then ρ.M else fun _ => False) w cv.toList cs := ⟨by simpa using h3, fun i hi => by rw [← arr_getD]; exact low (h4 i hi)⟩
        refine call_ok hh hd (allU (ys.map st.ev)).isSome (vs := fv ++ args.map a.eval ++ cv) hpc ?_ ?_ hs _ ⟨rfl, rfl, rfl⟩ rfl
        · have hev : a.eval (.tmp t) = .func (.func g) fv cv := hv
          simp [execOp, hop, resolve, hev, Deferred.ofValue, invoke, enter_run hpc.1]
        · rw [Array.toList_append, Array.toList_append]
          exact (rf.app (args_ok hh hc hus)).app rc
      · exact hk.elim
    · exact hk.elim

/-- All operations. -/
theorem op_sound {ao : AO} (hc : okOp P o.op ao = true) (hd : ∀ t, o.dst = some t → t < n) (hf : st.H fr = none) (hk : opVC P ao st.ev st.H fr K) : ∃ e, K e ∧ OpOK P n o st e := by
  cases ao with
  | mv x => exact snd_mv hc hd hk
  | nc x => exact snd_nc hc hd hk
  | pk c a b => exact snd_pk hc hd hk
  | un op x => exact snd_un hc hd hk
  | bi op x y => exact snd_bi hc hd hk
  | bb op x y => exact snd_bb hc hd hk
  | cv k x => exact snd_cv hc hd hk
  | ld ag m a => exact snd_ld hc hd hk
  | st m a x => exact snd_st hc hd hk
  | fa off x => exact snd_fa hc hd hk
  | fl ag off m x => exact snd_fl hc hd hk
  | ia s x i => exact snd_ia hc hd hk
  | sx x i => exact snd_sx hc hd hk
  | al zs => exact snd_al hc hd hf hk
  | bx x => exact snd_bx hc hd hf hk
  | bs s xs => exact snd_bs hc hd hf hk
  | bd zs ps => exact snd_bd hc hd hk
  | mk s bytes zs l c => exact snd_mk hc hd hf hk
  | sl s x lo hi => exact snd_sl hc hd hk
  | ss x lo hi => exact snd_ss hc hd hk
  | mf f fs cs => exact snd_mf hc hd hk
  | ex x i => exact snd_ex hc hd hk
  | ln x => exact snd_ln hc hd hk
  | sn x => exact snd_sn hc hd hk
  | ap s bytes x y => exact snd_ap hc hd hf hk
  | mn xs => exact snd_mn hc hd hk
  | mx xs => exact snd_mx hc hd hk
  | ca f xs => exact snd_ca hc hd hk
  | cl x xs => exact snd_cl hc hd hk
end
end Go.Proofs.Ytkpghgnbbfpbmaa
