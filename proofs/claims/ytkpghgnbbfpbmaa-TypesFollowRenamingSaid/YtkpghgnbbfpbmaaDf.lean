/- The D-logic's operations are sound: fields, elements, slices, lengths, tuples, function values, structs. -/
import Derived.Test.YtkpghgnbbfpbmaaDe
set_option linter.unusedSimpArgs false
set_option linter.unusedVariables false
namespace Go.Proofs.Ytkpghgnbbfpbmaa
section
variable {P : Program} {n : Nat} {o : Oper} {st : St} {fr : Nat} {K : Eff → Prop}

theorem fieldIs_some {t : TypeId} {f off : Nat} {ft : TypeId} (h : fieldIs P t f off = some ft) : ∃ (fs : Array Field) (x : Field), P.underlying t = some (.struct fs) ∧ fs[f]? = some x ∧ x.offset = off ∧ x.type = ft := by
  unfold fieldIs at h
  cases hu : P.underlying t with
  | none => simp [hu] at h
  | some d =>
    cases d <;> simp [hu] at h
    rename_i fs
    cases hf : fs[f]? with
    | none => simp [hf] at h
    | some x => simp [hf] at h; exact ⟨fs, x, rfl, hf, h.1, h.2⟩

theorem snd_fa {off : Nat} {x : Opd} (hc : okOp P o.op (.fa off x) = true) (hd : ∀ t, o.dst = some t → t < n) (hk : opVC P (.fa off x) st.ev st.H fr K) : ∃ e, K e ∧ OpOK P n o st e := by
  simp only [opVC] at hk
  cases hop : o.op <;> simp [okOp, hop] at hc
  rename_i s y f
  obtain ⟨h0, h1⟩ := hc
  cases hft : fieldIs P s f off with
  | none => simp [hft] at h0
  | some ft =>
    simp only [hft] at h0
    obtain ⟨fs, fl, hu, hf, rfl, rfl⟩ := fieldIs_some hft
    cases hi : P.info? fl.type with
    | none => simp [hi] at h0
    | some i =>
      simp [hi] at h0
      have run : ∀ (b p : Nat) (w : World), (Instr.fieldAt s (.pointer (some ⟨b, p, none⟩)) f).run P w = .ok (.pointer (some ⟨b, p + fl.offset, none⟩)) w := by
        intro b p w
        simp [Instr.fieldAt, run_underlying hu, hf, Instr.sureAddr, fieldPlace, sizeOf, typeInfo, hi, h0, Addr.add_mid]
      split at hk
      · rename_i cells o' hx
        refine ⟨_, hk, OpOK.of fun w0 M0 ρ a w Q hh => ?_⟩
        have r := opd_rel hh h1
        rw [hx] at r
        obtain ⟨b, p, hv, hM, hb, vs, hvs, ho1, hr⟩ := r.u_inv.fp_inv
        exact wp_val (w' := w) (by simp only [execOp, hop, hv, Sem.run_bind, run, Result.andThen_ok, Sem.run_pure]; rfl) (hh.put o.dst hd _ _ ⟨rfl, rfl, rfl⟩ w (Frame0.refl _ _) (.u (.fp b p _ _ cells (by omega) ⟨hM, hb⟩ vs hvs ho1 hr)))
      · rename_i b s' i' o' hx
        refine ⟨_, hk, OpOK.of fun w0 M0 ρ a w Q hh => ?_⟩
        have r := opd_rel hh h1
        rw [hx] at r
        obtain ⟨c, k, hv, hρ⟩ := r.ref_inv
        exact wp_val (w' := w) (by simp only [execOp, hop, hv, Sem.run_bind, run, Result.andThen_ok, Sem.run_pure]; rfl) (hh.put o.dst hd _ _ ⟨rfl, rfl, rfl⟩ w (Frame0.refl _ _) (.ref b s' i' _ c k _ hρ (by omega)))
      · exact hk.elim

theorem part_one {t : TypeId} (h : aggIs P t false = true) {cs : Array Value} {off : Nat} (hl : off < cs.size) (w : World) : (part t cs off).run P w = .ok (cs.getD off undef) w := by
  unfold part
  rw [Sem.run_bind, isAgg_run h w]
  simp [hl]
theorem part_agg {t : TypeId} (h : aggIs P t true = true) {m : Nat} (hs : szIs P t m = true) {cs : Array Value} {off : Nat} (w : World) : (part t cs off).run P w = .ok (.agg (cs.extract off (off + m))) w := by
  unfold part
  rw [Sem.run_bind, isAgg_run h w]
  simp [sizeOf_run hs w]
theorem extract_getD (cs : Array Value) (off m j : Nat) (h : off + m ≤ cs.size) (hj : j < m) : (cs.extract off (off + m)).getD j undef = cs.getD (off + j) undef := by
  have h1 : j < (cs.extract off (off + m)).size := by simp; omega
  have h2 : off + j < cs.size := by omega
  simp [Array.getD, h2, hj, Nat.min_eq_left h]

theorem snd_fl {ag : Bool} {off m : Nat} {x : Opd} (hc : okOp P o.op (.fl ag off m x) = true) (hd : ∀ t, o.dst = some t → t < n) (hk : opVC P (.fl ag off m x) st.ev st.H fr K) : ∃ e, K e ∧ OpOK P n o st e := by
  simp only [opVC] at hk
  cases hop : o.op <;> simp [okOp, hop] at hc
  rename_i s y f
  obtain ⟨h0, h1⟩ := hc
  cases hft : fieldIs P s f off with
  | none => simp [hft] at h0
  | some ft =>
    simp only [hft, Bool.and_eq_true] at h0
    obtain ⟨hsz, hag⟩ := h0
    obtain ⟨fs, fl, hu, hf, rfl, rfl⟩ := fieldIs_some hft
    split at hk
    · rename_i us hx
      cases ag
      · refine ⟨_, hk.2, OpOK.of fun w0 M0 ρ a w Q hh => ?_⟩
        have r := opd_rel hh h1
        rw [hx] at r
        cases hv : a.eval y <;> rw [hv] at r <;> cases r.u_inv
        rename_i cs hs h1' h
        exact wp_val (w' := w) (by simp [execOp, hop, hv, Instr.field, run_underlying hu, hf, asAgg, part_one hag (by rw [hs]; exact hk.1) w] <;> rfl) (hh.put o.dst hd _ _ ⟨rfl, rfl, rfl⟩ w (Frame0.refl _ _) (.u (h _ hk.1)))
      · refine ⟨_, hk.2, OpOK.of fun w0 M0 ρ a w Q hh => ?_⟩
        have r := opd_rel hh h1
        rw [hx] at r
        cases hv : a.eval y <;> rw [hv] at r <;> cases r.u_inv
        rename_i cs hs h1' h
        refine wp_val (w' := w) (by simp [execOp, hop, hv, Instr.field, run_underlying hu, hf, asAgg, part_agg hag hsz w] <;> rfl) (hh.put o.dst hd _ _ ⟨rfl, rfl, rfl⟩ w (Frame0.refl _ _) (.u (.agg _ _ ?_ (fun j hj => ?_) (fun j hj => ?_))))
        · simp [hs]; omega
        · have hj' : j < m := by simp at hj; omega
          rw [extract_getD _ _ _ _ (by rw [hs]; exact hk.1) hj']; exact h1' _ (by omega)
        · have hj' : j < m := by simp at hj; omega
          rw [extract_getD _ _ _ _ (by rw [hs]; exact hk.1) hj', getD_slice _ _ _ _ _ hj']
          exact h _ (by omega)
    · rename_i us hx
      cases ag
      · refine ⟨_, hk.2, OpOK.of fun w0 M0 ρ a w Q hh => ?_⟩
        have r := opd_rel hh h1
        rw [hx] at r
        cases hv : a.eval y <;> rw [hv] at r <;> cases r
        rename_i cs hs h1' h
        exact wp_val (w' := w) (by simp [execOp, hop, hv, Instr.field, run_underlying hu, hf, asAgg, part_one hag (by rw [hs]; exact hk.1) w] <;> rfl) (hh.put o.dst hd _ _ ⟨rfl, rfl, rfl⟩ w (Frame0.refl _ _) (h _ hk.1))
      · refine ⟨_, hk.2, OpOK.of fun w0 M0 ρ a w Q hh => ?_⟩
        have r := opd_rel hh h1
        rw [hx] at r
        cases hv : a.eval y <;> rw [hv] at r <;> cases r
        rename_i cs hs h1' h
        refine wp_val (w' := w) (by simp [execOp, hop, hv, Instr.field, run_underlying hu, hf, asAgg, part_agg hag hsz w] <;> rfl) (hh.put o.dst hd _ _ ⟨rfl, rfl, rfl⟩ w (Frame0.refl _ _) (mkAgg_rel ?_ (fun j hj => ?_) (fun j hj => ?_)))
        · simp [hs]; omega
        · have hj' : j < m := by simp at hj; omega
          rw [extract_getD _ _ _ _ (by rw [hs]; exact hk.1) hj']; exact h1' _ (by omega)
        · have hj' : j < m := by simp at hj; omega
          rw [extract_getD _ _ _ _ (by rw [hs]; exact hk.1) hj', getD_slice _ _ _ _ _ hj']
          exact h _ (by omega)
    · exact hk.elim

theorem sliceElem_some {t e : TypeId} (h : sliceElem P t = some e) : P.underlying t = some (.slice e) := by
  unfold sliceElem at h
  cases hu : P.underlying t with
  | none => simp [hu] at h
  | some d => cases d <;> simp [hu] at h ⊢; exact h

theorem RelU.sl_inv {M : Nat → Prop} {w : World} {v : Value} {els : List (List U)} (h : RelU M w v (.sl els)) : (∃ ad c, v = .slice ad 0 c ∧ els = [] ∧ (ad = none → c = 0)) ∨ ∃ b p c s, v = .slice (some ⟨b, p, none⟩) els.length c ∧ els.length ≤ c ∧ c ≤ maxLen ∧
    (els ≠ [] → ¬ M b ∧ b < w.heap.size) ∧ (∀ e ∈ els, e.length = s) ∧ ∃ vs : Nat → Value, (∀ j, j < els.length * s → w.cell? ⟨b, p + j, none⟩ = some (vs j)) ∧ (∀ j, j < els.length * s → (vs j).oneCell' = true) ∧ ∀ i j, i < els.length → j < s → RelU M w (vs (i * s + j)) ((els.getD i []).getD j .pnil) := by
  cases h with
  | slnil => exact .inl ⟨none, 0, rfl, rfl, fun _ => rfl⟩
  | slz a c => exact .inl ⟨some a, c, rfl, rfl, fun h => by cases h⟩
  | sl b p c s m els hn hc hm hM hs vs hv ho hr => subst hn; exact .inr ⟨b, p, c, s, rfl, hc, hm, hM, hs, vs, hv, ho, hr⟩

theorem RelU.sl0 {M : Nat → Prop} {w : World} {ad : Option Addr} {c : Nat} (h : ad = none → c = 0) : RelU M w (.slice ad 0 c) (.sl []) := by
  cases ad with
  | none => rw [h rfl]; exact .slnil
  | some a => exact .slz a c

theorem lt_mul {i m s j : Nat} (hi : i < m) (hj : j < s) : i * s + j < m * s := by
  calc i * s + j < i * s + s := by omega
    _ = (i + 1) * s := by rw [Nat.add_mul, Nat.one_mul]
    _ ≤ m * s := Nat.mul_le_mul_right _ hi

theorem snd_ia {s : Nat} {x i : Opd} (hc : okOp P o.op (.ia s x i) = true) (hd : ∀ t, o.dst = some t → t < n) (hk : opVC P (.ia s x i) st.ev st.H fr K) : ∃ e, K e ∧ OpOK P n o st e := by
  simp only [opVC] at hk
  cases hop : o.op <;> simp [okOp, hop] at hc
  rename_i t y j
  obtain ⟨⟨h0, h1⟩, h2⟩ := hc
  cases he : sliceElem P t with
  | none => simp [he] at h0
  | some e =>
    simp only [he] at h0
    have hu := sliceElem_some he
    have run : ∀ (b p len c : Nat) (k : IntKind) (m : Int) (w : World), 0 ≤ m → m < len → (Instr.indexAt t (.slice (some ⟨b, p, none⟩) len c) (.int k m)).run P w = .ok (.pointer (some ⟨b, p + m.toNat * s, none⟩)) w := by
      intro b p len c k m w h3 h4
      simp [Instr.indexAt, asIntOf, run_underlying hu, h3, h4, sizeOf_run h0 w, Addr.add_mid]
    split at hk
    · rename_i els k m hx hi
      obtain ⟨h3, h4, h5, hk⟩ := hk
      refine ⟨_, hk, OpOK.of fun w0 M0 ρ a w Q hh => ?_⟩
      have r := opd_rel hh h1; have r2 := opd_rel hh h2
      rw [hx] at r; rw [hi] at r2
      have hlt : m.toNat < els.length := by omega
      rcases r.u_inv.sl_inv with ⟨_, _, _, rfl, _⟩ | ⟨b, p, c, s', hv, hc1, hc2, hM, hs, vs, hvs, ho1, hr⟩
      · simp at hlt
      · have hne : els ≠ [] := by rintro rfl; simp at hlt
        have hss : s' = s := by rw [← h5, getD_lt _ hlt]; exact (hs _ (List.getElem_mem hlt)).symm
        subst hss
        refine wp_val (w' := w) (by simp only [execOp, hop, hv, r2.int_inv, Sem.run_bind, run b p els.length c k m w h3 h4, Result.andThen_ok, Sem.run_pure]; rfl) (hh.put o.dst hd _ _ ⟨rfl, rfl, rfl⟩ w (Frame0.refl _ _)
          (.u (.fp b (p + m.toNat * s') _ 0 _ (by omega) (hM hne) (fun j => vs (m.toNat * s' + j)) (fun j hj => ?_) (fun j hj => ?_) (fun j hj => ?_))))
        · rw [h5] at hj; rw [Nat.add_assoc]; exact hvs _ (lt_mul hlt hj)
        · rw [h5] at hj; exact ho1 _ (lt_mul hlt hj)
        · rw [h5] at hj; exact hr _ _ hlt hj
    · rename_i b m' k m hx hi
      split at hk
      · rename_i ob ho
        obtain ⟨hs, h3, h4, h5, hk⟩ := hk
        refine ⟨_, hk, OpOK.of fun w0 M0 ρ a w Q hh => ?_⟩
        have r := opd_rel hh h1; have r2 := opd_rel hh h2
        rw [hx] at r; rw [hi] at r2
        rcases r.msl_inv with ⟨c, kk, hv, hρ, hn⟩ | ⟨hv, hn, hρ⟩
        · exact wp_val (w' := w) (by simp only [execOp, hop, hv, r2.int_inv, Sem.run_bind, run c 0 m' kk k m w h3 h4, Result.andThen_ok, Sem.run_pure]; rfl) (hh.put o.dst hd _ _ ⟨rfl, rfl, rfl⟩ w (Frame0.refl _ _) (.ref b s m.toNat 0 c kk _ hρ (by omega)))
        · omega
      · exact hk.elim
    · exact hk.elim

theorem snd_sx {x i : Opd} (hc : okOp P o.op (.sx x i) = true) (hd : ∀ t, o.dst = some t → t < n) (hk : opVC P (.sx x i) st.ev st.H fr K) : ∃ e, K e ∧ OpOK P n o st e := by
  simp only [opVC] at hk
  cases hop : o.op <;> simp [okOp, hop] at hc
  rename_i t y j
  obtain ⟨⟨h0, h1⟩, h2⟩ := hc
  have hu : P.underlying t = some .string := by
    cases h : P.underlying t with
    | none => simp [h] at h0
    | some d => cases d <;> simp [h] at h0 ⊢
  split at hk
  · rename_i s k m hx hi
    obtain ⟨h3, h4, hk⟩ := hk
    refine ⟨_, hk, OpOK.of fun w0 M0 ρ a w Q hh => ?_⟩
    have r := opd_rel hh h1; have r2 := opd_rel hh h2
    rw [hx] at r; rw [hi] at r2
    have hlt : m.toNat < s.size := by omega
    have hget : s[m.toNat]? = some (s.data.toList.getD m.toNat 0) := by
      have h5 : m.toNat < s.data.toList.length := by simpa using hlt
      rw [getD_lt _ h5]
      simp [getElem?_pos, hlt]
      rfl
    exact wp_val (w' := w) (by simp [execOp, hop, r.str_inv, r2.int_inv, Instr.index, asIntOf, run_underlying hu, h3, hget] <;> rfl) (hh.put o.dst hd _ _ ⟨rfl, rfl, rfl⟩ w (Frame0.refl _ _) (.u (.int _ _)))
  · exact hk.elim

theorem snd_ex {x : Opd} {i : Nat} (hc : okOp P o.op (.ex x i) = true) (hd : ∀ t, o.dst = some t → t < n) (hk : opVC P (.ex x i) st.ev st.H fr K) : ∃ e, K e ∧ OpOK P n o st e := by
  simp only [opVC] at hk
  cases hop : o.op <;> simp [okOp, hop] at hc
  rename_i y j
  obtain ⟨h1, rfl⟩ := hc
  split at hk
  · rename_i us hx
    refine ⟨_, hk.2, OpOK.of fun w0 M0 ρ a w Q hh => ?_⟩
    have r := opd_rel hh h1
    rw [hx] at r
    cases hv : a.eval y <;> rw [hv] at r <;> cases r.u_inv
    rename_i cs hs h
    have hj : j < cs.size := by rw [hs]; exact hk.1
    exact wp_val (v := cs.getD j undef) (w' := w) (by simp [execOp, hop, hv, Instr.extract, hj]) (hh.put o.dst hd _ _ ⟨rfl, rfl, rfl⟩ w (Frame0.refl _ _) (.u (h _ hk.1)))
  · rename_i us hx
    refine ⟨_, hk.2, OpOK.of fun w0 M0 ρ a w Q hh => ?_⟩
    have r := opd_rel hh h1
    rw [hx] at r
    cases hv : a.eval y <;> rw [hv] at r <;> cases r
    rename_i cs hs h
    have hj : j < cs.size := by rw [hs]; exact hk.1
    exact wp_val (v := cs.getD j undef) (w' := w) (by simp [execOp, hop, hv, Instr.extract, hj]) (hh.put o.dst hd _ _ ⟨rfl, rfl, rfl⟩ w (Frame0.refl _ _) (h _ hk.1))
  · exact hk.elim

theorem map_eval {xs : Array Operand} {a : Act} : (xs.map a.eval).toList = xs.toList.map a.eval := by simp

theorem okCall_builtin {callee : Callee} {args : Array Operand} {ts : Array TypeId} {ao : AO} (h : okCall P { callee, args, argTypes := ts } ao = true) (h1 : ∀ f xs, ao ≠ .ca f xs) (h2 : ∀ f xs, ao ≠ .cl f xs) : ∃ b, callee = .builtin b := by
  cases callee with
  | builtin b => exact ⟨b, rfl⟩
  | invoke r m => simp [okCall] at h
  | value f =>
    simp only [okCall] at h
    cases f <;> cases ao <;> simp [okCallee] at h
    · rename_i x xs; exact absurd rfl (h2 x xs)
    · rename_i g xs; exact absurd rfl (h1 g xs)

theorem args_one {args : Array Operand} {y : Opd} (h : okOpds args.toList [y] = true) : ∃ x, args = #[x] ∧ okOpd x y = true := by
  obtain ⟨l⟩ := args
  match l, h with
  | [x], h => simp [okOpds] at h; exact ⟨x, rfl, h⟩
  | [], h => simp [okOpds] at h
  | _ :: _ :: _, h => simp [okOpds] at h
theorem args_two {args : Array Operand} {y z : Opd} (h : okOpds args.toList [y, z] = true) : ∃ x x', args = #[x, x'] ∧ okOpd x y = true ∧ okOpd x' z = true := by
  obtain ⟨l⟩ := args
  match l, h with
  | [x, x'], h => simp [okOpds] at h; exact ⟨x, x', rfl, h⟩
  | [_], h => simp [okOpds] at h
  | [], h => simp [okOpds] at h
  | _ :: _ :: _ :: _, h => simp [okOpds] at h

theorem len_run {y : Operand} {t : TypeId} (hop : o.op = .call { callee := .builtin .len, args := #[y], argTypes := #[t] }) {v : Value} {m : Int} {a : Act} {w : World} (hv : a.eval y = v)
    (hr : (Builtin.len_ #[t] o.type #[v]).run P w = .ok (goInt m) w) : (execOp a.eval o).run P w = .ok (.value (.int .i64 m)) w := by
  simp [execOp, hop, resolve, invoke, builtin, hv, hr, goInt]

theorem snd_ln {x : Opd} (hc : okOp P o.op (.ln x) = true) (hd : ∀ t, o.dst = some t → t < n) (hk : opVC P (.ln x) st.ev st.H fr K) : ∃ e, K e ∧ OpOK P n o st e := by
  simp only [opVC] at hk
  cases hop : o.op <;> simp [okOp, hop] at hc
  rename_i c
  obtain ⟨callee, args, ts⟩ := c
  obtain ⟨bt, rfl⟩ := okCall_builtin hc (by intro _ _; simp) (by intro _ _; simp)
  simp only [okCall] at hc
  cases bt <;> simp only [okBuiltin, Bool.false_eq_true] at hc
  simp only [Bool.and_eq_true, beq_iff_eq] at hc
  obtain ⟨⟨h1, hts⟩, h2⟩ := hc
  obtain ⟨t, rfl⟩ : ∃ t, ts = #[t] := Array.size_eq_one_iff.1 hts
  obtain ⟨y, rfl, hy⟩ := args_one h1
  obtain ⟨e, he⟩ := Option.isSome_iff_exists.1 h2
  have hu : P.underlying t = some (.slice e) := sliceElem_some he
  have run : ∀ (a' : Option Addr) (m c : Nat) (w : World), (Builtin.len_ #[t] o.type #[.slice a' m c]).run P w = .ok (goInt m) w := by
    intro a' m c w
    simp [Builtin.len_, run_underlying hu]
  split at hk
  · rename_i els hx
    refine ⟨_, hk, OpOK.of fun w0 M0 ρ a w Q hh => ?_⟩
    have r := opd_rel hh hy
    rw [hx] at r
    rcases r.u_inv.sl_inv with ⟨_, _, hv, rfl, _⟩ | ⟨b, p, c, s', hv, _⟩
    · exact wp_val (w' := w) (len_run hop hv (run _ _ _ _)) (hh.put o.dst hd _ _ ⟨rfl, rfl, rfl⟩ w (Frame0.refl _ _) (.u (.int _ _)))
    · exact wp_val (w' := w) (len_run hop hv (run _ _ _ _)) (hh.put o.dst hd _ _ ⟨rfl, rfl, rfl⟩ w (Frame0.refl _ _) (.u (.int _ _)))
  · rename_i hx
    refine ⟨_, hk, OpOK.of fun w0 M0 ρ a w Q hh => ?_⟩
    have r := opd_rel hh hy
    rw [hx] at r
    exact wp_val (w' := w) (len_run hop r.nil_inv (run _ _ _ _)) (hh.put o.dst hd _ _ ⟨rfl, rfl, rfl⟩ w (Frame0.refl _ _) (.u (.int _ _)))
  · rename_i b m hx
    refine ⟨_, hk, OpOK.of fun w0 M0 ρ a w Q hh => ?_⟩
    have r := opd_rel hh hy
    rw [hx] at r
    rcases r.msl_inv with ⟨c, k, hv, hρ, hn⟩ | ⟨hv, rfl, hρ⟩
    · exact wp_val (w' := w) (len_run hop hv (run _ _ _ _)) (hh.put o.dst hd _ _ ⟨rfl, rfl, rfl⟩ w (Frame0.refl _ _) (.u (.int _ _)))
    · exact wp_val (w' := w) (len_run hop hv (run _ _ _ _)) (hh.put o.dst hd _ _ ⟨rfl, rfl, rfl⟩ w (Frame0.refl _ _) (.u (.int _ _)))
  · exact hk.elim

theorem snd_sn {x : Opd} (hc : okOp P o.op (.sn x) = true) (hd : ∀ t, o.dst = some t → t < n) (hk : opVC P (.sn x) st.ev st.H fr K) : ∃ e, K e ∧ OpOK P n o st e := by
  simp only [opVC] at hk
  cases hop : o.op <;> simp [okOp, hop] at hc
  rename_i c
  obtain ⟨callee, args, ts⟩ := c
  obtain ⟨bt, rfl⟩ := okCall_builtin hc (by intro _ _; simp) (by intro _ _; simp)
  simp only [okCall] at hc
  cases bt <;> simp only [okBuiltin, Bool.false_eq_true] at hc
  simp only [Bool.and_eq_true, beq_iff_eq] at hc
  obtain ⟨⟨h1, hts⟩, h2⟩ := hc
  obtain ⟨t, rfl⟩ : ∃ t, ts = #[t] := Array.size_eq_one_iff.1 hts
  obtain ⟨y, rfl, hy⟩ := args_one h1
  have h2 : (match P.underlying t with | some .string => true | _ => false) = true := h2
  have hu : P.underlying t = some .string := by
    cases h : P.underlying t with
    | none => simp [h] at h2
    | some d => cases d <;> simp [h] at h2 ⊢
  split at hk
  · rename_i s hx
    refine ⟨_, hk, OpOK.of fun w0 M0 ρ a w Q hh => ?_⟩
    have r := opd_rel hh hy
    rw [hx] at r
    exact wp_val (w' := w) (len_run hop r.str_inv (by simp [Builtin.len_, run_underlying hu])) (hh.put o.dst hd _ _ ⟨rfl, rfl, rfl⟩ w (Frame0.refl _ _) (.u (.int _ _)))
  · exact hk.elim
end
end Go.Proofs.Ytkpghgnbbfpbmaa
