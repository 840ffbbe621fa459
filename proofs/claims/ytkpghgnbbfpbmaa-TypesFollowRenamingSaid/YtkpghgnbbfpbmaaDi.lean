/- The D-logic's operations are sound: make, store, append. -/
import Derived.Test.YtkpghgnbbfpbmaaDh
set_option linter.unusedSimpArgs false
set_option linter.unusedVariables false
namespace Go.Proofs.Ytkpghgnbbfpbmaa
section
variable {P : Program} {n : Nat} {o : Oper} {st : St} {fr : Nat} {K : Eff → Prop}

theorem made_getD (z : Array Value) (m i : Nat) (h : i < m) (hz : 0 < z.size) : (madeCells z m).getD i undef = z.getD (i % z.size) undef := by
  have h2 : i % z.size < z.size := Nat.mod_lt _ hz
  rw [Array.getD_eq_getD_getElem?, Array.getD_eq_getD_getElem?]
  simp [madeCells, h, h2]

theorem snd_mk {s bytes : Nat} {zs : List U} {l c : Opd} (hc : okOp P o.op (.mk s bytes zs l c) = true) (hd : ∀ t, o.dst = some t → t < n) (hf : st.H fr = none) (hk : opVC P (.mk s bytes zs l c) st.ev st.H fr K) : ∃ e, K e ∧ OpOK P n o st e := by
  simp only [opVC] at hk
  cases hop : o.op <;> simp [okOp, hop] at hc
  rename_i t x y
  obtain ⟨⟨⟨⟨h0, rfl⟩, h2⟩, h3⟩, h4⟩ := hc
  cases he : sliceElem P t with
  | none => simp [he] at h0
  | some e =>
    simp only [he, Bool.and_eq_true] at h0
    obtain ⟨⟨_, h5⟩, h6⟩ := h0
    have hu := sliceElem_some he
    obtain ⟨i, z, hi, hz, hzs, hsz⟩ := zeroIs_some h6
    have hby : i.bytes = bytes := by simpa [bytesIs, hi] using h5
    split at hk
    · rename_i l c hl hcc
      obtain ⟨h7, h8, h9, h10, hk⟩ := hk
      refine ⟨_, hk, OpOK.of fun w0 M0 ρ a w Q hh => ?_⟩
      have r1 := opd_rel hh h3; have r2 := opd_rel hh h4
      rw [hl] at r1; rw [hcc] at r2
      have r := LR.consts (ρ := ρ) (w := w) hzs
      have hlen : z.cells.size = zs.length := by have := r.len; simpa using this
      have hpos : 0 < zs.length := by
        cases zs with
        | nil => exact absurd rfl h2
        | cons _ _ => simp
      have hrun := run_make (P := P) w t e i z hu hi hz .i64 .i64 l c h7 h8 (by rw [hby, Int.mul_comm]; omega) h10
      refine wp_val (w' := w.alloc (.cells (madeCells z.cells (c.toNat * i.size)) e)) (by simp only [execOp, hop, r1.int_inv, r2.int_inv, Sem.run_bind, hrun, Result.andThen_ok, Sem.run_pure])
        (hh.new o.dst hd _ _ (.row zs.length (List.replicate l.toNat zs)) hf rfl rfl (Nat.lt_succ_self _) _ (madeCells z.cells (c.toNat * i.size)) e c.toNat rfl ⟨rfl, rfl, rfl⟩ (by rw [size_madeCells, hsz]; rfl) (by simp [MObj.len]; omega) (by simp only [maxLen]; omega)
          (by intro es; simp) ?_ ?_ ?_ (.inr ⟨_, rfl, rfl, by omega⟩))
      · intro j hj
        simp only [MObj.elem, MObj.len, List.length_replicate] at hj ⊢
        rw [getD_lt _ (by simpa using hj)]
        simp [MObj.size]
      all_goals
        intro j q hj hq
        simp only [MObj.len, List.length_replicate, MObj.size] at hj hq ⊢
        have hlt : j * zs.length + q < c.toNat * i.size := by rw [hsz]; exact lt_mul (by omega) hq
        have hmod : (j * zs.length + q) % z.cells.size = q := by rw [hlen, Nat.mul_comm, Nat.mul_add_mod, Nat.mod_eq_of_lt hq]
        rw [made_getD _ _ _ hlt (by omega), hmod, arr_getD]
      · exact r.one q (by simpa using hq)
      · have hel : (MObj.elem j (.row zs.length (List.replicate l.toNat zs))) = zs.map D.u := by
          simp only [MObj.elem]
          rw [getD_lt _ (by simpa using hj)]
          simp
        rw [hel]
        exact r.rel q (by simpa using hq)
    · exact hk.elim

/-! ### Stores -/
theorem splice_getD {α : Type} (l xs : List α) (off j : Nat) (d : α) (h : off + xs.length ≤ l.length) : (splice l off xs).getD j d = if off ≤ j ∧ j < off + xs.length then xs.getD (j - off) d else l.getD j d := by
  unfold splice
  rw [getD_app, List.length_append, List.length_take]
  by_cases h1 : j < off
  · rw [if_pos (by omega), getD_app, if_pos (by rw [List.length_take]; omega), if_neg (by omega), getD_tk _ _ _ _ h1]
  · by_cases h2 : j < off + xs.length
    · rw [if_pos (by omega), getD_app, if_neg (by rw [List.length_take]; omega), if_pos ⟨by omega, h2⟩, List.length_take]
      congr 1; omega
    · rw [if_neg (by omega), if_neg (by omega), getD_dr]
      congr 1; omega

theorem setElem_some {i off : Nat} {xs : List D} {ob ob' : MObj} (h : setElem i off xs ob = some ob') (hi : i < ob.len) : ob'.size = ob.size ∧ ob'.len = ob.len ∧ (∀ es, ob' ≠ .map es) ∧ ob'.elem i = splice (ob.elem i) off xs ∧ ∀ j, j ≠ i → ob'.elem j = ob.elem j := by
  cases ob with
  | row s els =>
    simp only [setElem] at h
    split at h
    · rename_i us hus
      injection h with h
      subst h
      have := allU_eq hus
      subst this
      simp only [MObj.len] at hi
      refine ⟨rfl, by simp [MObj.len], by intro es; simp, ?_, fun j hj => ?_⟩
      · simp only [MObj.elem]
        rw [getD_lt _ (by simpa using hi)]
        simp [splice, hi]
      · simp [MObj.elem, List.getD_eq_getElem?_getD, List.getElem?_set_ne (Ne.symm hj)]
    · cases h
  | drow s els =>
    simp only [setElem] at h
    injection h with h
    subst h
    simp only [MObj.len] at hi
    refine ⟨rfl, by simp [MObj.len], by intro es; simp, ?_, fun j hj => ?_⟩
    · simp only [MObj.elem]
      rw [getD_lt _ (by simpa using hi)]
      simp [splice, hi]
    · simp [MObj.elem, List.getD_eq_getElem?_getD, List.getElem?_set_ne (Ne.symm hj)]
  | map es => simp [setElem] at h

theorem snd_st {m : Nat} {x y : Opd} (hc : okOp P o.op (.st m x y) = true) (hd : ∀ t, o.dst = some t → t < n) (hk : opVC P (.st m x y) st.ev st.H fr K) : ∃ e, K e ∧ OpOK P n o st e := by
  simp only [opVC] at hk
  cases hop : o.op <;> simp [okOp, hop] at hc
  rename_i t x' y'
  obtain ⟨⟨h0, h1⟩, h2⟩ := hc
  split at hk
  · rename_i b s i off hx
    split at hk
    · rename_i xs ob hxs hob
      obtain ⟨rfl, hi, hoff, hlen, hk⟩ := hk
      split at hk
      · rename_i ob' hob'
        refine ⟨_, hk, OpOK.of fun w0 M0 ρ a w Q hh => ?_⟩
        have r1 := opd_rel hh h1
        rw [hx] at r1
        obtain ⟨c, k, hv, hρ⟩ := r1.ref_inv
        have r2 := LR.of_cells (opd_rel hh h2) hxs
        obtain ⟨e1, e2, e3, e4, e5⟩ := setElem_some hob' hi
        obtain ⟨c', k', h3, h4⟩ := hh.heap.obj b ob hob
        rw [hρ] at h3
        injection h3 with h3
        injection h3 with h3 h3'
        subst h3; subst h3'
        cases h4 with
        | map c k clock entries es _ _ _ _ => simp [MObj.len] at hi
        | cells c k _ cur E hw hs hl hk' hm he ho hr =>
          have hvs : (a.eval y').cells.toList.length = m := by have := r2.len; omega
          have hfit : i * ob.size + off + (a.eval y').cells.toList.length ≤ cur.size := by
            rw [hvs, hs]
            calc i * ob.size + off + m ≤ i * ob.size + ob.size := by omega
              _ = (i + 1) * ob.size := by rw [Nat.add_mul, Nat.one_mul]
              _ ≤ k * ob.size := Nat.mul_le_mul_right _ (by omega)
          have hone : ∀ v ∈ (a.eval y').cells.toList, v.oneCell' = true := by
            intro v hv'
            obtain ⟨j, hj, rfl⟩ := List.getElem_of_mem hv'
            have := r2.one j (by rw [← r2.len]; exact hj)
            rwa [getD_lt _ hj] at this
          have hst := run_storeCells_at P c (i * ob.size + off) E (a.eval y').cells.toList 0 cur w hw (by simpa using hfit) hone
          simp only [Nat.add_zero] at hst
          have hcur : (cur.toList.take (i * ob.size + off) ++ (a.eval y').cells.toList ++ cur.toList.drop (i * ob.size + off + (a.eval y').cells.toList.length)) = splice cur.toList (i * ob.size + off) (a.eval y').cells.toList := rfl
          rw [hcur] at hst
          have hfit' : i * ob.size + off + (a.eval y').cells.toList.length ≤ cur.toList.length := by simpa using hfit
          have hclt : c < w.heap.size := (hh.heap.own b c k hρ).1
          have hsz : (a.eval y').cells.size = m := by simpa using hvs
          refine wp_skp (w' := w.setRow c (splice cur.toList (i * ob.size + off) (a.eval y').cells.toList).toArray) (by simp [execOp, hop, hv, Instr.storeAt, Instr.sureAddr, storeVar, sizeOf_run h0 w, hsz, hst])
            (hh.upd1 o.dst hd _ _ b ob' rfl (.inl rfl) (.inl ?_) _ (some c) k ⟨rfl, rfl, rfl⟩ (by simp) (fun c2 hc2 hne => setRow_other w c c2 _ (by rintro rfl; exact hne k hρ)) (fun z hz => by injection hz with hz; subst hz; exact ⟨by simpa using hclt, .inl ⟨k, hρ⟩⟩) (.inr (.inr hρ)) (fun rk rn ru => ⟨?_, .any _⟩))
          · exact Nat.lt_of_not_le fun h => by have := hh.heap.fresh b h; rw [hob] at this; cases this
          · refine .cells c k ob' _ E (setRow_heap w c cur _ E (0, 0) hw) ?_ (by rw [e2]; exact hl) hk' e3 ?_ ?_ ?_
            · rw [e1, ← hs]; simp [splice_length _ _ _ hfit']
            · intro j hj
              by_cases hji : j = i
              · subst hji; rw [e4, e1, splice_length _ _ _ (by rw [he j hi]; omega)]; exact he j hi
              · rw [e5 j hji, e1]; exact he j (by rw [← e2]; exact hj)
            all_goals
              intro j q hj hq
              rw [e2] at hj
              rw [e1] at hq ⊢
              have hsame : j ≠ i → ¬ (i * ob.size + off ≤ j * ob.size + q ∧ j * ob.size + q < i * ob.size + off + (a.eval y').cells.toList.length) := by
                intro hji hcond
                rcases Nat.lt_or_ge j i with h7 | h7
                · have : (j + 1) * ob.size ≤ i * ob.size := Nat.mul_le_mul_right _ h7
                  rw [Nat.add_mul, Nat.one_mul] at this; omega
                · have : (i + 1) * ob.size ≤ j * ob.size := Nat.mul_le_mul_right _ (by omega)
                  rw [Nat.add_mul, Nat.one_mul] at this; omega
              rw [arr_getD]
              rw [splice_getD _ _ _ _ _ hfit']
              have hold1 := ho j q hj hq
              have hold := hr j q hj hq
              rw [arr_getD] at hold hold1
            · split
              · rename_i hcond
                have hji : j = i := Classical.byContradiction fun h => hsame h hcond
                subst hji
                exact r2.one _ (by rw [← r2.len]; omega)
              · exact hold1
            · by_cases hji : j = i
              · subst hji
                rw [e4, splice_getD _ _ _ _ _ (by rw [he j hi]; omega)]
                by_cases hcond : off ≤ q ∧ q < off + xs.length
                · rw [if_pos (by omega), if_pos hcond]
                  rw [show j * ob.size + q - (j * ob.size + off) = q - off by omega]
                  exact rn _ _ (r2.rel _ (by omega)) rfl
                · rw [if_neg (by omega), if_neg hcond]
                  exact rn _ _ hold rfl
              · rw [if_neg (hsame hji), e5 j hji]
                exact rn _ _ hold rfl
      · exact hk.elim
    · exact hk.elim
  · exact hk.elim

end
end Go.Proofs.Ytkpghgnbbfpbmaa
