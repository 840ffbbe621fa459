/- The D-logic's operations are sound: append, calls. -/
import Derived.Test.YtkpghgnbbfpbmaaDi
set_option linter.unusedSimpArgs false
set_option linter.unusedVariables false
namespace Go.Proofs.Ytkpghgnbbfpbmaa
section
variable {P : Program}

theorem run_app_room (w : World) (t ty e : TypeId) (i : TypeInfo) (ht : P.underlying t = some (.slice e)) (hi : P.info? e = some i) (g sLen sCap : Nat) (cur : Array Value) (E : TypeId) (hg : w.heap[g]? = some (.cells cur E (0, 0)))
    (vy : Value) (m : Nat) (news : List Value) (hy : ∀ w : World, (Builtin.lenOf vy).run P w = .ok m w) (hf : (Builtin.firstCells i.size m vy).run P w = .ok news.toArray w) (h1 : ∀ u ∈ news, u.oneCell' = true)
    (hroom : sLen + m ≤ sCap) (hfit : sLen * i.size + news.length ≤ cur.size) :
    (Builtin.append_ #[t, t] ty #[.slice (some ⟨g, 0, none⟩) sLen sCap, vy]).run P w =
      .ok (.slice (some ⟨g, 0, none⟩) (sLen + m) sCap) (w.setRow g (splice cur.toList (sLen * i.size) news).toArray) := by
  have hst := run_storeCells_at P g (sLen * i.size) E news 0 cur w hg (by simpa using hfit) h1
  simp only [Nat.add_zero] at hst
  have : (cur.toList.take (sLen * i.size) ++ news ++ cur.toList.drop (sLen * i.size + news.length)) = splice cur.toList (sLen * i.size) news := rfl
  rw [this] at hst
  simp [Builtin.append_, run_underlying ht, sizeOf, typeInfo, hi, hy, hroom, hf, Addr.add_lit, hst]

theorem run_app_none (w : World) (t ty e : TypeId) (i : TypeInfo) (ht : P.underlying t = some (.slice e)) (hi : P.info? e = some i) (vy : Value) (news : List Value) (hy : ∀ w : World, (Builtin.lenOf vy).run P w = .ok 0 w)
    (hf : (Builtin.firstCells i.size 0 vy).run P w = .ok news.toArray w) : (Builtin.append_ #[t, t] ty #[.slice none 0 0, vy]).run P w = .ok (.slice none 0 0) w := by
  simp [Builtin.append_, run_underlying ht, sizeOf, typeInfo, hi, hy, hf]

theorem run_app_grow (w : World) (t ty e : TypeId) (i : TypeInfo) (z : Value) (ht : P.underlying t = some (.slice e)) (hi : P.info? e = some i) (hz : i.zero = some z) (base : Option Addr) (sLen sCap : Nat) (olds : List Value)
    (ho : (Builtin.firstCells i.size sLen (.slice base sLen sCap)).run P w.drew = .ok olds.toArray w.drew) (vy : Value) (m : Nat) (news : List Value) (hy : ∀ w : World, (Builtin.lenOf vy).run P w = .ok m w)
    (hf : (Builtin.firstCells i.size m vy).run P w.drew = .ok news.toArray w.drew) (hg : sCap < sLen + m) (h63 : ((sLen + m : Nat) : Int) ≤ 9223372036854775807) (hfit : Builtin.nextslicecap (sLen + m) sCap * i.bytes ≤ 281474976710656) :
    (Builtin.append_ #[t, t] ty #[.slice base sLen sCap, vy]).run P w =
      .ok (.slice (some ⟨w.heap.size, 0, none⟩) (sLen + m) (grownCap w (sLen + m) sCap e)) (w.drew.alloc (.cells (olds ++ news ++ (Builtin.zeroCells z.cells (grownCap w (sLen + m) sCap e - (sLen + m))).toList).toArray e)) := by
  have hn : ¬ (sLen + m ≤ sCap) := by omega
  have h63' : ¬ (9223372036854775807 < ((sLen : Int) + (m : Int))) := by omega
  have h48' : ¬ (281474976710656 < Builtin.nextslicecap (sLen + m) sCap * i.bytes) := by omega
  simp [Builtin.append_, run_underlying ht, sizeOf, typeInfo, zeroValue, hi, hz, hy, hn, h63', h48', Question.forced, hf, ho, newRow, grownCap]
  congr 2
  apply Array.ext'
  simp [List.append_assoc]

theorem run_first (w : World) (size m : Nat) (ad : Option Addr) (c : Nat) (news : List Value) (hl : news.length = m * size) (h : (m = 0) ∨ ∃ b p, ad = some ⟨b, p, none⟩ ∧ ∀ j, j < news.length → w.cell? ⟨b, p + j, none⟩ = some (news.getD j undef)) :
    (Builtin.firstCells size m (.slice ad m c)).run P w = .ok news.toArray w := by
  rcases h with rfl | ⟨b, p, rfl, h⟩
  · have : news = [] := List.eq_nil_of_length_eq_zero (by simpa using hl)
    subst this
    cases ad with
    | none => simp [Builtin.firstCells]
    | some a => exact run_firstCells_some (P := P) w size 0 a 0 c [] hl (fun j v hv => by simp at hv)
  · refine run_firstCells_some (P := P) w size m ⟨b, p, none⟩ m c news hl (fun j v hv => ?_)
    have hj := (List.getElem?_eq_some_iff.1 hv).1
    rw [Addr.add_mid, h j hj]
    simp [List.getD_eq_getElem?_getD, hv]
end

section
variable {P : Program} {n : Nat} {o : Oper} {st : St} {fr : Nat} {K : Eff → Prop}

/-- What is appended, as the machine reads it. -/
structure Src (ρ : Rho) (w : World) (s : Nat) (vy : Value) (news : List (List D)) (ad : Option Addr) (c : Nat) (vs : List Value) : Prop where
  val : vy = .slice ad news.length c
  lens : ∀ l ∈ news, l.length = s
  rel : LR ρ w vs news.flatten
  cells : (news.length = 0) ∨ ∃ b p, ad = some ⟨b, p, none⟩ ∧ ∀ j, j < vs.length → w.cell? ⟨b, p + j, none⟩ = some (vs.getD j undef)

theorem LR.of_fun {ρ : Rho} {w : World} (f : Nat → Value) (ds : List D) (h1 : ∀ j, j < ds.length → (f j).oneCell' = true) (h : ∀ j, j < ds.length → Rel ρ w (f j) (ds.getD j .any)) : LR ρ w ((List.range ds.length).map f) ds := by
  refine ⟨by simp, fun i hi => ?_, fun i hi => ?_⟩
  · have : ((List.range ds.length).map f).getD i undef = f i := by simp [List.getD_eq_getElem?_getD, hi]
    rw [this]; exact h1 i hi
  · have : ((List.range ds.length).map f).getD i undef = f i := by simp [List.getD_eq_getElem?_getD, hi]
    rw [this]; exact h i hi

theorem flat_idx {s len j : Nat} (h : j < len * s) : 0 < s ∧ j / s < len ∧ j % s < s ∧ j = j / s * s + j % s := by
  have hs : 0 < s := Nat.pos_of_ne_zero (by rintro rfl; simp at h)
  exact ⟨hs, by rw [Nat.div_lt_iff_lt_mul hs]; exact h, Nat.mod_lt _ hs, by rw [Nat.mul_comm]; exact (Nat.div_add_mod j s).symm⟩

theorem appSrc_some {w0 : World} {M0 : Nat → Prop} {ρ : Rho} {a : Act} {w : World} (hh : HoldsR n w0 M0 ρ st a w) {s : Nat} {y : Operand} {y' : Opd} (hy : okOpd y y' = true) {news : List (List D)} (h : opVC.appSrc st.H s (st.ev y') = some news) :
    ∃ ad c vs, Src ρ w s (a.eval y) news ad c vs := by
  have r := opd_rel hh hy
  have zero : ∀ {ad : Option Addr} {c : Nat}, a.eval y = .slice ad 0 c → news = [] → ∃ ad c vs, Src ρ w s (a.eval y) news ad c vs := by
    rintro ad c hv rfl
    refine ⟨ad, c, [], hv, fun _ h => by simp at h, LR.nil ρ w, .inl rfl⟩
  unfold opVC.appSrc at h
  split at h
  · rename_i hx
    rw [hx] at r
    injection h with h
    exact zero r.nil_inv h.symm
  · rename_i els hx
    rw [hx] at r
    split at h
    · rename_i hall
      injection h with h
      subst h
      rcases r.u_inv.sl_inv with ⟨_, _, hv, rfl, _⟩ | ⟨b, p, c, s', hv, hc1, hc2, hM, hs, vs, hvs, ho1, hr⟩
      · exact zero hv rfl
      · by_cases hemp : els = []
        · subst hemp; exact zero hv rfl
        · have hpos : 0 < els.length := List.length_pos_iff.2 hemp
          have hss : s' = s := by
            have h7 := hs _ (List.getElem_mem hpos)
            simp only [List.all_eq_true, beq_iff_eq] at hall
            rw [← h7]; exact hall _ (List.getElem_mem hpos)
          subst hss
          have hlens : ∀ l ∈ els.map (fun l => l.map D.u), l.length = s' := by
            intro l hl
            obtain ⟨x, hx1, rfl⟩ := List.mem_map.1 hl
            rw [List.length_map]; exact hs x hx1
          have hfl : (els.map (fun l => l.map D.u)).flatten.length = els.length * s' := by rw [flatten_len hlens]; simp
          refine ⟨some ⟨b, p, none⟩, c, (List.range (els.map (fun l => l.map D.u)).flatten.length).map vs, by rw [hv]; simp, hlens, LR.of_fun vs _ (fun j hj => ho1 j (by rw [← hfl]; exact hj)) (fun j hj => ?_), .inr ⟨b, p, rfl, fun j hj => ?_⟩⟩
          · rw [hfl] at hj
            obtain ⟨_, h2, h3, h4⟩ := flat_idx hj
            have := hr (j / s') (j % s') h2 h3
            rw [← h4] at this
            rw [h4, flatten_getD _ hlens (by simpa using h2) h3, ← h4]
            have hel : (els.map (fun l => l.map D.u)).getD (j / s') [] = ((els.getD (j / s') []).map D.u) := by
              simp [List.getD_eq_getElem?_getD, h2]
            rw [hel, getD_map_u (by rw [getD_lt _ h2, hs _ (List.getElem_mem h2)]; exact h3)]
            exact .u this
          · have hj' : j < els.length * s' := by rw [← hfl]; simpa using hj
            have : ((List.range (els.map (fun l => l.map D.u)).flatten.length).map vs).getD j undef = vs j := by
              have : j < (els.map (fun l => l.map D.u)).flatten.length := by rw [hfl]; exact hj'
              simp only [List.getD_eq_getElem?_getD, List.getElem?_map, List.getElem?_range this]
              rfl
            rw [this]; exact hvs j hj'
    · cases h
  · rename_i b m hx
    rw [hx] at r
    have main : ∀ {ob : MObj}, st.H b = some ob → (∀ es, ob ≠ .map es) → ob.size = s → m ≤ ob.len → news = ((List.range m).map ob.elem) → ∃ ad c vs, Src ρ w s (a.eval y) news ad c vs := by
      intro ob hob hm hs hle hnews
      subst hs
      rcases r.msl_inv with ⟨c, k, hv, hρ, hn⟩ | ⟨hv, rfl, hρ⟩
      · obtain ⟨c', k', h3, h4⟩ := hh.heap.obj b ob hob
        have hel : ∀ i, i < ob.len → (ob.elem i).length = ob.size := by
          intro i hi
          cases h4 with
          | cells c k _ cur E hw hs hl hk' hm' he ho hr => exact he i hi
          | nil s => simp [MObj.len] at hi
          | dnil s => simp [MObj.len] at hi
          | map c k clock entries es _ _ _ _ => exact absurd rfl (hm es)
        have hlens : ∀ l ∈ news, l.length = ob.size := by
          intro l hl
          rw [hnews] at hl
          obtain ⟨i, hi, rfl⟩ := List.mem_map.1 hl
          exact hel i (by simp at hi; omega)
        have hnl : news.length = m := by rw [hnews]; simp
        have hfl : news.flatten.length = m * ob.size := by rw [flatten_len hlens, hnl]
        have hcell := fun i j (hi : i < ob.len) (hj : j < ob.size) => obj_cell hh.heap hρ hob hm hi hj
        let vs : Nat → Value := fun j => if hj : j / ob.size < ob.len ∧ j % ob.size < ob.size then (hcell _ _ hj.1 hj.2).choose else undef
        have hvs : ∀ j, j < m * ob.size → w.cell? ⟨c, 0 + j, none⟩ = some (vs j) ∧ (vs j).oneCell' = true ∧ Rel ρ w (vs j) (news.flatten.getD j .any) := by
          intro j hj
          obtain ⟨_, h2, h3, h4'⟩ := flat_idx hj
          have hc : j / ob.size < ob.len ∧ j % ob.size < ob.size := ⟨by omega, h3⟩
          have h5 := (hcell _ _ hc.1 hc.2).choose_spec
          have h6 : vs j = (hcell _ _ hc.1 hc.2).choose := by simp only [vs]; rw [dif_pos hc]
          rw [← h6] at h5
          have h7 : news.flatten.getD j .any = (ob.elem (j / ob.size)).getD (j % ob.size) .any := by
            rw [show news.flatten.getD j .any = news.flatten.getD (j / ob.size * ob.size + j % ob.size) .any by rw [← h4'], flatten_getD _ hlens (by rw [hnl]; exact h2) h3, hnews]
            simp [List.getD_eq_getElem?_getD, h2]
          rw [h7]
          have h8 : (0 : Nat) + j = j / ob.size * ob.size + j % ob.size := by omega
          rw [h8]
          exact h5
        refine ⟨some ⟨c, 0, none⟩, k, (List.range news.flatten.length).map vs, by rw [hv, hnl], hlens, LR.of_fun vs _ (fun j hj => (hvs j (by rw [← hfl]; exact hj)).2.1) (fun j hj => (hvs j (by rw [← hfl]; exact hj)).2.2), .inr ⟨c, 0, rfl, fun j hj => ?_⟩⟩
        have hj' : j < news.flatten.length := by simpa using hj
        have : ((List.range news.flatten.length).map vs).getD j undef = vs j := by
          simp only [List.getD_eq_getElem?_getD, List.getElem?_map, List.getElem?_range hj']
          rfl
        rw [this]; exact (hvs j (by rw [← hfl]; exact hj')).1
      · exact zero hv (by rw [hnews]; simp)
    split at h
    · rename_i s' els hob
      split at h
      · rename_i hcond
        injection h with h
        obtain ⟨rfl, hle⟩ := hcond
        refine main hob (by intro es; simp) rfl hle ?_
        rw [← h]
        apply List.ext_getElem?
        intro i
        by_cases hi : i < m
        · have hi' : i < els.length := by omega
          simp [MObj.elem, hi, hi', List.getElem?_take]
        · simp [hi, List.getElem?_take]
      · cases h
    · rename_i s' els hob
      split at h
      · rename_i hcond
        injection h with h
        obtain ⟨rfl, hle⟩ := hcond
        refine main hob (by intro es; simp) rfl hle ?_
        rw [← h]
        apply List.ext_getElem?
        intro i
        by_cases hi : i < m
        · have hi' : i < els.length := by omega
          simp [MObj.elem, hi, hi', List.getElem?_take]
        · simp [hi, List.getElem?_take]
      · cases h
    · cases h
  · cases h


theorem kill_of_not {b : Nat} {d : D} (h : d.has b = false) : d.kill b = d := by simp [D.kill, h]

/-- The cells of an appended row. -/
theorem app_cells {ρ ρ' : Rho} {w w' : World} {s q m : Nat} {ob ob' : MObj} {cur cur' : Array Value} {news : List (List D)} {vs : List Value} (hlens : ∀ l ∈ news, l.length = s) (hm : news.length = m)
    (hold : ∀ i j, i < q → j < s → (cur.getD (i * s + j) undef).oneCell' = true ∧ Rel ρ w (cur.getD (i * s + j) undef) ((ob.elem i).getD j .any))
    (hr : LR ρ w vs news.flatten) (h1 : ∀ i j, i < q → j < s → cur'.getD (i * s + j) undef = cur.getD (i * s + j) undef) (h2 : ∀ j, j < m * s → cur'.getD (q * s + j) undef = vs.getD j undef)
    (hel : ∀ i, i < q → ob'.elem i = ob.elem i) (hel2 : ∀ i, i < m → ob'.elem (q + i) = news.getD i []) (hrel : ∀ v i j, i < q + m → j < s → Rel ρ w v ((ob'.elem i).getD j .any) → Rel ρ' w' v ((ob'.elem i).getD j .any)) :
    ∀ i j, i < q + m → j < s → (cur'.getD (i * s + j) undef).oneCell' = true ∧ Rel ρ' w' (cur'.getD (i * s + j) undef) ((ob'.elem i).getD j .any) := by
  intro i j hi hj
  by_cases hq : i < q
  · rw [h1 i j hq hj]
    refine ⟨(hold i j hq hj).1, hrel _ i j hi hj ?_⟩
    rw [hel i hq]; exact (hold i j hq hj).2
  · obtain ⟨i', rfl⟩ : ∃ i', i = q + i' := ⟨i - q, by omega⟩
    have hi' : i' < m := by omega
    have hlt : i' * s + j < m * s := lt_mul hi' hj
    have he : (q + i') * s + j = q * s + (i' * s + j) := by rw [Nat.add_mul]; omega
    have hfl : i' * s + j < news.flatten.length := by rw [flatten_len hlens, hm]; exact hlt
    rw [he, h2 _ hlt]
    refine ⟨hr.one _ hfl, hrel _ _ j hi hj ?_⟩
    rw [hel2 i' hi', ← flatten_getD _ hlens (by omega) hj]
    exact hr.rel _ hfl

theorem app_parts {t : TypeId} {s bytes : Nat} (h : (match sliceElem P t with | some e => szIs P e s && bytesIs P e bytes && (match P.info? e with | some i => (i.zero.map (·.cells.size)) == some s | none => false) | none => false) = true) :
    ∃ e i z, P.underlying t = some (.slice e) ∧ P.info? e = some i ∧ i.zero = some z ∧ i.size = s ∧ i.bytes = bytes ∧ z.cells.size = s := by
  cases he : sliceElem P t with
  | none => simp [he] at h
  | some e =>
    simp only [he, Bool.and_eq_true] at h
    obtain ⟨⟨h1, h2⟩, h3⟩ := h
    obtain ⟨i, hi, hs⟩ := szIs_some h1
    cases hz : i.zero with
    | none => simp [hi, hz] at h3
    | some z => exact ⟨e, i, z, sliceElem_some he, hi, hz, hs, by simpa [bytesIs, hi] using h2, by simpa [hi, hz] using h3⟩

theorem app_exec {x y : Operand} {t : TypeId} (hop : o.op = .call { callee := .builtin .append, args := #[x, y], argTypes := #[t, t] }) {a : Act} {w w' : World} {v : Value} (h : (Builtin.append_ #[t, t] o.type #[a.eval x, a.eval y]).run P w = .ok v w') :
    (execOp a.eval o).run P w = .ok (.value v) w' := by
  simp only [execOp, hop, resolve, invoke, builtin, Sem.run_bind, Sem.run_pure, Result.andThen_ok, List.map_toArray, List.map_cons, List.map_nil, h]

theorem zeroCells_len (z : Array Value) (m : Nat) : (Builtin.zeroCells z m).toList.length = m * z.size := by rw [Array.length_toList]; exact size_zeroCells z m

/-- Where there is nothing yet: a new row, or nil again. -/
theorem app_new {w0 : World} {M0 : Nat → Prop} {ρ : Rho} {a : Act} {w : World} (hh : HoldsR n w0 M0 ρ st a w) {x y : Operand} {t : TypeId} (hop : o.op = .call { callee := .builtin .append, args := #[x, y], argTypes := #[t, t] }) (hd : ∀ t, o.dst = some t → t < n)
    {s bytes : Nat} (hty : ∃ e i z, P.underlying t = some (.slice e) ∧ P.info? e = some i ∧ i.zero = some z ∧ i.size = s ∧ i.bytes = bytes ∧ z.cells.size = s) (hv : a.eval x = .slice none 0 0) {news : List (List D)} {ad : Option Addr} {c : Nat} {vs : List Value}
    (hsrc : Src ρ w s (a.eval y) news ad c vs) (h63 : news.length ≤ 9223372036854775807) (hby : news.length * bytes ≤ 140737488355328) (e : Eff) (b : Nat) (ob : MObj) (he : e.up = [(b, ob)]) (hkl : e.kl = none ∨ e.kl = some b) (hb : b < st.nx ∨ b < e.nx)
    (hρ : ρ b = none ∨ (ρ b = some (none, 0) ∧ e.kl = some b)) (hed : e.d = .msl b news.length) (hs : ob.size = s) (hl : ob.len = news.length) (hm : ∀ es, ob ≠ .map es) (hel : ∀ i, i < news.length → ob.elem i = news.getD i [])
    (hno : e.kl = none ∨ ∀ i j, i < news.length → j < s → ((ob.elem i).getD j .any).has b = false) (hnil : news = [] → ∃ s, ob = .row s [] ∨ ob = .drow s []) {Q : Exit → Act → World → Prop} :
    o.wp P a w (fun a' w' => Holds n w0 M0 ρ.F (st.app o.dst e) a' w') Q := by
  obtain ⟨ty, i, z, hu, hi, hz, hsz, hbytes, hzc⟩ := hty
  have hkey : ∀ cc, e.kl = some b ∨ ρ b = none ∨ ρ b = some cc := by
    intro cc
    rcases hρ with h | h
    · exact .inr (.inl h)
    · exact .inl h.2
  by_cases hemp : news = []
  · subst hemp
    obtain ⟨s', hob⟩ := hnil rfl
    have hvs : vs = [] := List.eq_nil_of_length_eq_zero (by have := hsrc.rel.len; simpa using this)
    subst hvs
    have hrun := run_app_none (P := P) w t o.type ty i hu hi (a.eval y) [] (fun w => by rw [hsrc.val]; rfl) (by rw [hsrc.val]; exact run_first w _ _ ad c [] (by simp) (by rcases hsrc.cells with h | ⟨b, p, h, _⟩; exact .inl h; exact .inr ⟨b, p, h, fun j hj => by simp at hj⟩))
    rw [← hv] at hrun
    refine wp_val (app_exec hop hrun) (hh.upd1 o.dst hd _ e b ob he hkl hb w none 0 ⟨rfl, rfl, rfl⟩ (Nat.le_refl _) (fun _ _ _ => rfl) (fun x hx => by cases hx) (hkey _) (fun _ _ _ => ⟨?_, ?_⟩))
    · rcases hob with rfl | rfl
      · exact .nil s'
      · exact .dnil s'
    · rw [hv, hed]; exact .msl0 b (Rho.upd_same _ _ _)
  · have hpos : 0 < news.length := List.length_pos_iff.2 hemp
    have hfl : news.flatten.length = news.length * s := flatten_len hsrc.lens
    have hvl : vs.length = news.length * s := by rw [hsrc.rel.len, hfl]
    have hfirst : ∀ w1 : World, w1.heap = w.heap → (Builtin.firstCells i.size news.length (a.eval y)).run P w1 = .ok vs.toArray w1 := by
      intro w1 hw1
      rw [hsrc.val]
      refine run_first w1 _ _ ad c vs (by rw [hvl, hsz]) ?_
      rcases hsrc.cells with h | ⟨b, p, h, h'⟩
      · exact .inl h
      · exact .inr ⟨b, p, h, fun j hj => by rw [← h' j hj]; simp [World.cell?, hw1]⟩
    have hrun := run_app_grow (P := P) w t o.type ty i z hu hi hz none 0 0 [] (by simp [Builtin.firstCells]) (a.eval y) news.length vs (fun w => by rw [hsrc.val]; rfl) (hfirst w.drew rfl) (by omega) (by omega)
      (growslice_fits (by omega) (by rw [hbytes]; simpa using hby))
    have hge : news.length ≤ grownCap w (0 + news.length) 0 ty := by have := grownCap_ge w (0 + news.length) 0 ty; omega
    have hle := grownCap_le_maxLen w (0 + news.length) 0 ty (by simp only [maxLen]; omega)
    generalize grownCap w (0 + news.length) 0 ty = k at hrun hge hle
    rw [← hv] at hrun
    simp only [Nat.zero_add, List.nil_append] at hrun
    have hcsz : (vs ++ (Builtin.zeroCells z.cells (k - news.length)).toList).toArray.size = k * ob.size := by
      simp only [List.size_toArray, List.length_append, zeroCells_len, hvl, hzc, hs, ← Nat.add_mul]
      congr 1; omega
    have hcells : ∀ {ρ' : Rho} {w' : World}, (∀ v i j, i < 0 + news.length → j < s → Rel ρ w v ((ob.elem i).getD j .any) → Rel ρ' w' v ((ob.elem i).getD j .any)) → ∀ i j, i < 0 + news.length → j < s →
        ((vs ++ (Builtin.zeroCells z.cells (k - news.length)).toList).toArray.getD (i * s + j) undef).oneCell' = true ∧ Rel ρ' w' ((vs ++ (Builtin.zeroCells z.cells (k - news.length)).toList).toArray.getD (i * s + j) undef) ((ob.elem i).getD j .any) := by
      intro ρ' w' hrel
      refine app_cells (ob := ob) (cur := #[]) (q := 0) hsrc.lens rfl (fun i j hi => by omega) hsrc.rel (fun i j hi => by omega) (fun j hj => ?_) (fun i hi => by omega) (fun i hi => by rw [Nat.zero_add]; exact hel i hi) hrel
      rw [arr_getD, getD_app, if_pos (by rw [hvl]; omega)]
      simp
    refine wp_val (app_exec hop hrun) (hh.upd1 o.dst hd _ e b ob he hkl hb _ (some w.heap.size) k ⟨rfl, rfl, rfl⟩ (by simp) (fun c hc _ => ?_) (fun x hx => ?_) (hkey _) (fun rk rn _ => ⟨?_, ?_⟩))
    · exact heap_alloc_old w.drew _ hc
    · injection hx with hx; subst hx; exact ⟨by simp, .inr (Nat.le_refl _)⟩
    · have hall := hcells (fun v i j hi hj h => by
          rcases hno with h' | h'
          · exact rn _ _ h h'
          · have := rk _ _ h
            rwa [kill_of_not (h' i j (by omega) hj)] at this)
      refine .cells _ k ob _ ty (heap_alloc_new w.drew _) hcsz (by omega) hle hm (fun i hi => ?_) (fun i j hi hj => ?_) (fun i j hi hj => ?_)
      · rw [hl] at hi
        rw [hel i hi, getD_lt _ hi, hs]; exact hsrc.lens _ (List.getElem_mem hi)
      · rw [hs] at hj ⊢; exact (hall i j (by omega) hj).1
      · rw [hs] at hj ⊢; exact (hall i j (by omega) hj).2
    · rw [hed]; exact .msl b news.length w.heap.size k (Rho.upd_same _ _ _) hge

/-- Onto an owned row. -/
theorem app_old {w0 : World} {M0 : Nat → Prop} {ρ : Rho} {a : Act} {w : World} (hh : HoldsR n w0 M0 ρ st a w) {x y : Operand} {t : TypeId} (hop : o.op = .call { callee := .builtin .append, args := #[x, y], argTypes := #[t, t] }) (hd : ∀ t, o.dst = some t → t < n)
    {s bytes : Nat} (hs0 : s ≠ 0) (hty : ∃ e i z, P.underlying t = some (.slice e) ∧ P.info? e = some i ∧ i.zero = some z ∧ i.size = s ∧ i.bytes = bytes ∧ z.cells.size = s) {b q : Nat} (hx : Rel ρ w (a.eval x) (.msl b q)) {news : List (List D)} {ad : Option Addr} {c : Nat} {vs : List Value}
    (hsrc : Src ρ w s (a.eval y) news ad c vs) (h63 : q + news.length ≤ 9223372036854775807) (hby : (q + news.length) * bytes ≤ 140737488355328) (e : Eff) (ob ob' : MObj) (hob : st.H b = some ob) (hobs : ob.size = s) (hobl : q ≤ ob.len) (hobm : ∀ es, ob ≠ .map es)
    (he : e.up = [(b, ob')]) (hkl : e.kl = some b) (hed : e.d = .msl b (q + news.length)) (hs : ob'.size = s) (hl : ob'.len = q + news.length) (hm : ∀ es, ob' ≠ .map es) (hel : ∀ i, i < q → ob'.elem i = ob.elem i) (hel2 : ∀ i, i < news.length → ob'.elem (q + i) = news.getD i [])
    (hno : ∀ i j, i < q + news.length → j < s → ((ob'.elem i).getD j .any).has b = false) (hnil : q + news.length = 0 → ∃ s, ob' = .row s [] ∨ ob' = .drow s []) {Q : Exit → Act → World → Prop} :
    o.wp P a w (fun a' w' => Holds n w0 M0 ρ.F (st.app o.dst e) a' w') Q := by
  have hbnx : b < st.nx := Nat.lt_of_not_le fun h => by have := hh.heap.fresh b h; rw [hob] at this; cases this
  rcases hx.msl_inv with ⟨c0, k, hv, hρ, hn⟩ | ⟨hv, rfl, hρ⟩
  · obtain ⟨ty, i, z, hu, hi, hz, hsz, hbytes, hzc⟩ := hty
    obtain ⟨c', k', h3, h4⟩ := hh.heap.obj b ob hob
    rw [hρ] at h3
    injection h3 with h3
    injection h3 with h3 h3'
    subst h3; subst h3'
    have hclt : c0 < w.heap.size := (hh.heap.own b c0 k hρ).1
    cases h4 with
    | map c k clock entries es _ _ _ _ => exact absurd rfl (hobm es)
    | cells c k _ cur E hw hcs hcl hk' hm' hce ho hr =>
      rw [hobs] at hcs ho hr
      have hfl : news.flatten.length = news.length * s := flatten_len hsrc.lens
      have hvl : vs.length = news.length * s := by rw [hsrc.rel.len, hfl]
      have hfirst : ∀ w1 : World, w1.heap = w.heap → (Builtin.firstCells i.size news.length (a.eval y)).run P w1 = .ok vs.toArray w1 := by
        intro w1 hw1
        rw [hsrc.val]
        refine run_first w1 _ _ ad c vs (by rw [hvl, hsz]) ?_
        rcases hsrc.cells with h | ⟨b, p, h, h'⟩
        · exact .inl h
        · exact .inr ⟨b, p, h, fun j hj => by rw [← h' j hj]; simp [World.cell?, hw1]⟩
      have hlenof : ∀ w : World, (Builtin.lenOf (a.eval y)).run P w = .ok news.length w := fun w => by rw [hsrc.val]; rfl
      have hone : ∀ v ∈ vs, v.oneCell' = true := by
        intro v hv'
        obtain ⟨j, hj, rfl⟩ := List.getElem_of_mem hv'
        have := hsrc.rel.one j (by rw [← hsrc.rel.len]; exact hj)
        rwa [getD_lt _ hj] at this
      have hqs : q * s ≤ cur.size := by rw [hcs]; exact Nat.mul_le_mul_right _ hn
      have hcells : ∀ {ρ' : Rho} {w' : World} {cur' : Array Value}, (∀ i j, i < q → j < s → cur'.getD (i * s + j) undef = cur.getD (i * s + j) undef) → (∀ j, j < news.length * s → cur'.getD (q * s + j) undef = vs.getD j undef) →
          (∀ v d, Rel ρ w v d → Rel ρ' w' v (d.kill b)) → ∀ i j, i < q + news.length → j < s → (cur'.getD (i * s + j) undef).oneCell' = true ∧ Rel ρ' w' (cur'.getD (i * s + j) undef) ((ob'.elem i).getD j .any) := by
        intro ρ' w' cur' h1 h2 hrel
        refine app_cells (ob := ob) (cur := cur) hsrc.lens rfl (fun i j hi hj => ⟨ho i j (by omega) hj, hr i j (by omega) hj⟩) hsrc.rel h1 h2 hel hel2 (fun v i j hi hj h => ?_)
        have := hrel _ _ h
        rwa [kill_of_not (hno i j hi hj)] at this
      have hlen' : ∀ i, i < ob'.len → (ob'.elem i).length = ob'.size := by
        intro i hi
        rw [hl] at hi
        rw [hs]
        by_cases hiq : i < q
        · rw [hel i hiq, ← hobs]; exact hce i (by omega)
        · obtain ⟨i', rfl⟩ : ∃ i', i = q + i' := ⟨i - q, by omega⟩
          have hi' : i' < news.length := by omega
          rw [hel2 i' hi', getD_lt _ hi']; exact hsrc.lens _ (List.getElem_mem hi')
      by_cases hroom : q + news.length ≤ k
      · have hfit : q * s + vs.length ≤ cur.size := by rw [hvl, ← Nat.add_mul, hcs]; exact Nat.mul_le_mul_right _ hroom
        have hrun := run_app_room (P := P) w t o.type ty i hu hi c0 q k cur E hw (a.eval y) news.length vs hlenof (hfirst w rfl) hone hroom (by rw [hsz]; exact hfit)
        rw [← hv, hsz] at hrun
        have hfit' : q * s + vs.length ≤ cur.toList.length := by simpa using hfit
        refine wp_val (app_exec hop hrun) (hh.upd1 o.dst hd _ e b ob' he (.inr hkl) (.inl hbnx) _ (some c0) k ⟨rfl, rfl, rfl⟩ (by simp) (fun c2 hc2 hne => setRow_other w c0 c2 _ (by rintro rfl; exact hne k hρ)) (fun z hz => by injection hz with hz; subst hz; exact ⟨by simpa using hclt, .inl ⟨k, hρ⟩⟩)
          (.inl hkl) (fun rk rn ru => ⟨?_, ?_⟩))
        · have hall := hcells (cur' := (splice cur.toList (q * s) vs).toArray) (fun i j hi hj => by
              have : i * s + j < q * s := lt_mul hi hj
              rw [arr_getD, arr_getD]
              rw [splice_getD _ _ _ _ _ hfit', if_neg (by omega)]) (fun j hj => by
              rw [arr_getD]
              rw [splice_getD _ _ _ _ _ hfit', if_pos (by omega)]
              congr 1; omega) rk
          refine .cells c0 k ob' _ E (setRow_heap w c0 cur _ E (0, 0) hw) (by rw [hs]; simp [splice_length _ _ _ hfit', hcs]) (by omega) hk' hm hlen' (fun i j hi hj => ?_) (fun i j hi hj => ?_)
          · rw [hs] at hj ⊢; exact (hall i j (by omega) hj).1
          · rw [hs] at hj ⊢; exact (hall i j (by omega) hj).2
        · rw [hed]; exact .msl b _ c0 k (Rho.upd_same _ _ _) hroom
      · have hold : (Builtin.firstCells i.size q (.slice (some ⟨c0, 0, none⟩) q k)).run P w.drew = .ok (cur.toList.take (q * s)).toArray w.drew := by
          refine run_first w.drew _ _ _ _ _ (by rw [hsz, List.length_take]; simp; omega) (.inr ⟨c0, 0, rfl, fun j hj => ?_⟩)
          have hj' : j < q * s := by simp at hj; omega
          have hjc : j < cur.size := by omega
          rw [getD_tk _ _ _ _ hj']
          have h9 : (w.drew).heap[c0]? = some (.cells cur E (0, 0)) := hw
          simp only [World.cell?, h9]
          simp [hjc, List.getD_eq_getElem?_getD]
        have hrun := run_app_grow (P := P) w t o.type ty i z hu hi hz (some ⟨c0, 0, none⟩) q k (cur.toList.take (q * s)) hold (a.eval y) news.length vs hlenof (hfirst w.drew rfl) (by omega) (by omega) (growslice_fits (by omega) (by rw [hbytes]; exact hby))
        have hge := grownCap_ge w (q + news.length) k ty
        have hle := grownCap_le_maxLen w (q + news.length) k ty (by simp only [maxLen]; omega)
        generalize grownCap w (q + news.length) k ty = k2 at hrun hge hle
        rw [← hv] at hrun
        have htk : (cur.toList.take (q * s)).length = q * s := by rw [List.length_take]; simp; omega
        have hcsz : (cur.toList.take (q * s) ++ vs ++ (Builtin.zeroCells z.cells (k2 - (q + news.length))).toList).toArray.size = k2 * ob'.size := by
          simp only [List.size_toArray, List.length_append, zeroCells_len, hvl, htk, hzc, hs, ← Nat.add_mul]
          congr 1; omega
        refine wp_val (app_exec hop hrun) (hh.upd1 o.dst hd _ e b ob' he (.inr hkl) (.inl hbnx) _ (some w.heap.size) k2 ⟨rfl, rfl, rfl⟩ (by simp) (fun c hc _ => ?_) (fun x hx => ?_) (.inl hkl) (fun rk rn _ => ⟨?_, ?_⟩))
        · exact heap_alloc_old w.drew _ hc
        · injection hx with hx; subst hx; exact ⟨by simp, .inr (Nat.le_refl _)⟩
        · have hall := hcells (cur' := (cur.toList.take (q * s) ++ vs ++ (Builtin.zeroCells z.cells (k2 - (q + news.length))).toList).toArray) (fun i j hi hj => by
              have hlt : i * s + j < q * s := lt_mul hi hj
              rw [arr_getD, arr_getD, getD_app, if_pos (by rw [List.length_append, htk]; omega), getD_app, if_pos (by rw [htk]; exact hlt), getD_tk _ _ _ _ hlt]) (fun j hj => by
              rw [arr_getD, getD_app, if_pos (by rw [List.length_append, htk, hvl]; omega), getD_app, if_neg (by rw [htk]; omega), htk]
              congr 1; omega) rk
          refine .cells _ k2 ob' _ ty (heap_alloc_new w.drew _) hcsz (by omega) hle hm hlen' (fun i j hi hj => ?_) (fun i j hi hj => ?_)
          · rw [hs] at hj ⊢; exact (hall i j (by omega) hj).1
          · rw [hs] at hj ⊢; exact (hall i j (by omega) hj).2
        · rw [hed]; exact .msl b _ w.heap.size k2 (Rho.upd_same _ _ _) hge
  · have hne : news = [] → ∃ s, ob' = .row s [] ∨ ob' = .drow s [] := fun h => hnil (by simp [h])
    exact app_new hh hop hd hty hv hsrc (by omega) (by simpa using hby) e b ob' he (.inr hkl) (.inl hbnx) (.inr ⟨hρ, hkl⟩) (by rw [hed]; simp) hs (by rw [hl]; simp) hm (fun i hi => by have := hel2 i hi; simpa using this) (.inr fun i j hi hj => hno i j (by omega) hj) hne

theorem hasLL_elem {b : Nat} {els : List (List D)} (h : D.hasLL b els = false) (i j : Nat) : ((els.getD i []).getD j .any).has b = false := by
  apply D.hasL_getD
  simp only [D.hasLL, List.any_eq_false] at h
  by_cases hi : i < els.length
  · rw [getD_lt _ hi]; simpa using h _ (List.getElem_mem hi)
  · rw [getD_ge _ (by omega)]; simp [D.hasL]

theorem snd_ap {s bytes : Nat} {x y : Opd} (hc : okOp P o.op (.ap s bytes x y) = true) (hd : ∀ t, o.dst = some t → t < n) (hf : st.H fr = none) (hk : opVC P (.ap s bytes x y) st.ev st.H fr K) : ∃ e, K e ∧ OpOK P n o st e := by
  simp only [opVC] at hk
  cases hop : o.op <;> simp [okOp, hop] at hc
  rename_i c
  obtain ⟨callee, args, ts⟩ := c
  obtain ⟨bt, rfl⟩ := okCall_builtin hc (by intro _ _; simp) (by intro _ _; simp)
  simp only [okCall] at hc
  cases bt <;> simp only [okBuiltin, Bool.false_eq_true] at hc
  simp only [Bool.and_eq_true, beq_iff_eq, bne_iff_ne] at hc
  obtain ⟨⟨⟨h1, h2⟩, h3⟩, h4⟩ := hc
  obtain ⟨x', y', rfl, hx1, hy1⟩ := args_two h1
  obtain ⟨t, rfl⟩ : ∃ t, ts = #[t, t] := ⟨ts.getD 0 0, by apply Array.ext'; rw [h2]⟩
  have hty := app_parts h4
  simp only [Array.getD_eq_getD_getElem?] at hty
  have hty : ∃ e i z, P.underlying t = some (.slice e) ∧ P.info? e = some i ∧ i.zero = some z ∧ i.size = s ∧ i.bytes = bytes ∧ z.cells.size = s := hty
  split at hk
  · exact hk.elim
  · rename_i news hnews
    split at hk
    · rename_i hx
      obtain ⟨h5, h6, hk⟩ := hk
      refine ⟨_, hk, OpOK.of fun w0 M0 ρ a w Q hh => ?_⟩
      have r := opd_rel hh hx1
      rw [hx] at r
      obtain ⟨ad, c, vs, hsrc⟩ := appSrc_some hh hy1 hnews
      exact app_new hh hop hd hty r.nil_inv hsrc h5 h6 _ fr (mkRow s news) rfl (.inl rfl) (.inr (Nat.lt_succ_self _)) (.inl (hh.heap.dom fr hf)) rfl (mkRow_size _ _) (mkRow_len _ _) (mkRow_map _ _) (fun i hi => mkRow_elem _ _ _) (.inl rfl)
        (by rintro rfl; exact ⟨s, .inl rfl⟩)
    · rename_i b q hx
      obtain ⟨h5, h6, hk⟩ := hk
      split at hk
      · rename_i s' els hob
        obtain ⟨rfl, hle, hk⟩ := hk
        split at hk
        · rename_i us hus
          refine ⟨_, hk, OpOK.of fun w0 M0 ρ a w Q hh => ?_⟩
          have r := opd_rel hh hx1
          rw [hx] at r
          obtain ⟨ad, c, vs, hsrc⟩ := appSrc_some hh hy1 hnews
          have hnu := allUU_eq hus
          have hul : us.length = news.length := by rw [hnu]; simp
          refine app_old hh hop hd h3 hty r hsrc h5 h6 _ (.row s' els) (.row s' (els.take q ++ us)) hob rfl hle (by intro es; simp) rfl rfl rfl rfl (by simp [MObj.len, hul]; omega) (by intro es; simp) (fun i hi => ?_) (fun i hi => ?_) (fun i j hi hj => ?_) (fun h0 => ?_)
          · simp only [MObj.elem]
            rw [getD_app, if_pos (by simp; omega), getD_tk _ _ _ _ hi]
          · simp only [MObj.elem]
            have hq : (els.take q).length = q := by simp; omega
            rw [getD_app, if_neg (by omega), hq, show q + i - q = i by omega, hnu]
            simp [List.getD_eq_getElem?_getD, show i < us.length by omega]
          · simp only [MObj.elem]
            by_cases hlt : j < (((els.take q ++ us).getD i []).map D.u).length
            · rw [getD_lt _ hlt]; simp [D.has]
            · rw [getD_ge _ (by omega)]; rfl
          · have h7 : q = 0 := by omega
            have h8 : us = [] := List.eq_nil_of_length_eq_zero (by omega)
            subst h7; subst h8
            exact ⟨s', .inl (by simp)⟩
        · obtain ⟨rfl, hno, hk⟩ := hk
          refine ⟨_, hk, OpOK.of fun w0 M0 ρ a w Q hh => ?_⟩
          have r := opd_rel hh hx1
          rw [hx] at r
          obtain ⟨ad, c, vs, hsrc⟩ := appSrc_some hh hy1 hnews
          refine app_old hh hop hd h3 hty r hsrc h5 h6 _ (.row s' els) (.drow s' news) hob rfl hle (by intro es; simp) rfl rfl rfl rfl (by simp [MObj.len]) (by intro es; simp) (fun i hi => by omega) (fun i hi => ?_) (fun i j hi hj => hasLL_elem hno i j) (fun h0 => ?_)
          · simp [MObj.elem]
          · have h8 : news = [] := List.eq_nil_of_length_eq_zero (by omega)
            subst h8
            exact ⟨s', .inr rfl⟩
      · rename_i s' els hob
        obtain ⟨rfl, hle, hno, hk⟩ := hk
        refine ⟨_, hk, OpOK.of fun w0 M0 ρ a w Q hh => ?_⟩
        have r := opd_rel hh hx1
        rw [hx] at r
        obtain ⟨ad, c, vs, hsrc⟩ := appSrc_some hh hy1 hnews
        refine app_old hh hop hd h3 hty r hsrc h5 h6 _ (.drow s' els) (.drow s' (els.take q ++ news)) hob rfl hle (by intro es; simp) rfl rfl rfl rfl (by simp [MObj.len]; omega) (by intro es; simp) (fun i hi => ?_) (fun i hi => ?_) (fun i j hi hj => hasLL_elem hno i j) (fun h0 => ?_)
        · simp only [MObj.elem]
          rw [getD_app, if_pos (by simp; omega), getD_tk _ _ _ _ hi]
        · simp only [MObj.elem]
          have hq : (els.take q).length = q := by simp; omega
          rw [getD_app, if_neg (by omega), hq, show q + i - q = i by omega]
        · have h7 : q = 0 := by omega
          have h8 : news = [] := List.eq_nil_of_length_eq_zero (by omega)
          subst h7; subst h8
          exact ⟨s', .inr (by simp)⟩
      · exact hk.elim
    · exact hk.elim
end
end Go.Proofs.Ytkpghgnbbfpbmaa
