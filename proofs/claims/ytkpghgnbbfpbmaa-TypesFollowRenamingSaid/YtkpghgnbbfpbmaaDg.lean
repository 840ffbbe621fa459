/- The D-logic's operations are sound: slicing, function values, min and max, structs. -/
import Derived.Test.YtkpghgnbbfpbmaaDf
set_option linter.unusedSimpArgs false
set_option linter.unusedVariables false
namespace Go.Proofs.Ytkpghgnbbfpbmaa
section
variable {P : Program} {n : Nat} {o : Oper} {st : St} {fr : Nat} {K : Eff → Prop}

theorem opds_rel_arr {w0 : World} {M0 : Nat → Prop} {ρ : Rho} {a : Act} {w : World} (hh : HoldsR n w0 M0 ρ st a w) {xs : Array Operand} {ys : List Opd} (h : okOpds xs.toList ys = true) :
    (xs.map a.eval).size = (ys.map st.ev).length ∧ ∀ i, i < (ys.map st.ev).length → Rel ρ w ((xs.map a.eval).getD i undef) ((ys.map st.ev).getD i .any) := by
  obtain ⟨h1, h2⟩ := opds_rel hh h
  refine ⟨by simpa using h1, fun i hi => ?_⟩
  rw [arr_getD, map_eval]
  exact h2 i (by simpa using hi)

theorem rel_us {ρ : Rho} {w : World} {cs : Array Value} {ds : List D} {us : List U} (hs : cs.size = ds.length ∧ ∀ i, i < ds.length → Rel ρ w (cs.getD i undef) (ds.getD i .any)) (h : allU ds = some us) :
    cs.size = us.length ∧ ∀ i, i < us.length → RelU ρ.M w (cs.getD i undef) (us.getD i .pnil) := by
  have := allU_eq h
  subst this
  refine ⟨by simpa using hs.1, fun i hi => ?_⟩
  have h2 := hs.2 i (by simpa using hi)
  rw [getD_map_u hi] at h2
  exact h2.u_inv

theorem snd_mf {f : FuncId} {fs cs : List Opd} (hc : okOp P o.op (.mf f fs cs) = true) (hd : ∀ t, o.dst = some t → t < n) (hk : opVC P (.mf f fs cs) st.ev st.H fr K) : ∃ e, K e ∧ OpOK P n o st e := by
  simp only [opVC] at hk
  cases hop : o.op <;> simp [okOp, hop] at hc
  rename_i fn fs' cs'
  cases fn <;> simp at hc
  obtain ⟨⟨rfl, h1⟩, h2⟩ := hc
  split at hk
  · rename_i x y hx hy
    refine ⟨_, hk, OpOK.of fun w0 M0 ρ a w Q hh => ?_⟩
    obtain ⟨r1, r2⟩ := rel_us (opds_rel_arr hh h1) hx
    obtain ⟨r3, r4⟩ := rel_us (opds_rel_arr hh h2) hy
    exact wp_val (w' := w) (by simp only [execOp, hop, Instr.makeFunc]; rfl) (hh.put o.dst hd _ _ ⟨rfl, rfl, rfl⟩ w (Frame0.refl _ _) (.u (.fn _ _ _ _ _ r1 r2 r3 r4)))
  · refine ⟨_, hk, OpOK.of fun w0 M0 ρ a w Q hh => ?_⟩
    obtain ⟨r1, r2⟩ := opds_rel_arr hh h1
    obtain ⟨r3, r4⟩ := opds_rel_arr hh h2
    exact wp_val (w' := w) (by simp only [execOp, hop, Instr.makeFunc]; rfl) (hh.put o.dst hd _ _ ⟨rfl, rfl, rfl⟩ w (Frame0.refl _ _) (.fn _ _ _ _ _ r1 r2 r3 r4))

theorem fold_run {g : Int → Int → Int} {f2 : Value → Value → Sem Value} (h2 : ∀ k x k' y, f2 (.int k x) (.int k' y) = pure (.int k (g x y))) {k : IntKind} {w : World} {ρ : Rho} : ∀ (vs : List Value) (ds : List D) (acc m : Int), vs.length = ds.length →
    (∀ i, i < ds.length → Rel ρ w (vs.getD i undef) (ds.getD i .any)) → foldI.go g k acc ds = some m → (vs.foldlM f2 (.int k acc)).run P w = .ok (.int k m) w
  | [], [], acc, m, _, _, h => by simp [foldI.go] at h; subst h; rfl
  | v :: vs, d :: ds, acc, m, hl, hr, h => by
    have h0 := hr 0 (by simp)
    simp at h0
    match d with
    | .u (.int k' y) =>
      simp only [foldI.go] at h
      split at h
      · have := fold_run h2 vs ds (g acc y) m (by simpa using hl) (fun i hi => by simpa using hr (i + 1) (by simpa using hi)) h
        rw [List.foldlM_cons, h0.int_inv, h2]
        simpa using this
      · cases h
  | [], _ :: _, _, _, hl, _, _ => by simp at hl
  | _ :: _, [], _, _, hl, _, _ => by simp at hl

theorem foldI_run {g : Int → Int → Int} {f2 : Value → Value → Sem Value} (h2 : ∀ k x k' y, f2 (.int k x) (.int k' y) = pure (.int k (g x y))) {k : IntKind} {w : World} {ρ : Rho} {vs : Array Value} {ds : List D} {m : Int} (hs : vs.size = ds.length)
    (hr : ∀ i, i < ds.length → Rel ρ w (vs.getD i undef) (ds.getD i .any)) (h : foldI g ds = some (k, m)) : ∃ x rest, vs.toList = x :: rest ∧ (rest.foldlM f2 x).run P w = .ok (.int k m) w := by
  obtain ⟨l⟩ := vs
  match ds, h, hs, hr with
  | .u (.int k' x) :: ds, h, hs, hr =>
    match l, hs, hr with
    | v :: l, hs, hr =>
      simp only [foldI, Option.map_eq_some_iff] at h
      obtain ⟨m', hgo, h'⟩ := h
      injection h' with h1 h3
      subst h1; subst h3
      have h0 := hr 0 (by simp)
      rw [arr_getD] at h0
      simp at h0
      refine ⟨v, l, rfl, ?_⟩
      rw [h0.int_inv]
      refine fold_run (ρ := ρ) h2 l ds x m' (by simpa using hs) (fun i hi => ?_) hgo
      have := hr (i + 1) (by simpa using hi)
      rw [arr_getD] at this
      simpa using this
    | [], hs, _ => simp at hs

theorem snd_mn {xs : List Opd} (hc : okOp P o.op (.mn xs) = true) (hd : ∀ t, o.dst = some t → t < n) (hk : opVC P (.mn xs) st.ev st.H fr K) : ∃ e, K e ∧ OpOK P n o st e := by
  simp only [opVC] at hk
  cases hop : o.op <;> simp [okOp, hop] at hc
  rename_i c
  obtain ⟨callee, args, ts⟩ := c
  obtain ⟨bt, rfl⟩ := okCall_builtin hc (by intro _ _; simp) (by intro _ _; simp)
  simp only [okCall] at hc
  cases bt <;> simp only [okBuiltin, Bool.false_eq_true] at hc
  split at hk
  · rename_i k m hf
    refine ⟨_, hk, OpOK.of fun w0 M0 ρ a w Q hh => ?_⟩
    obtain ⟨r1, r2⟩ := opds_rel_arr hh hc
    obtain ⟨x, rest, hl, hrun⟩ := foldI_run (P := P) (f2 := Builtin.min2) (by intro k x k' y; rfl) r1 r2 hf
    exact wp_val (w' := w) (by simp only [execOp, hop, resolve, invoke, builtin, Sem.run_bind, Sem.run_pure, Result.andThen_ok, Builtin.min_, hl, hrun]) (hh.put o.dst hd _ _ ⟨rfl, rfl, rfl⟩ w (Frame0.refl _ _) (.u (.int _ _)))
  · exact hk.elim

theorem snd_mx {xs : List Opd} (hc : okOp P o.op (.mx xs) = true) (hd : ∀ t, o.dst = some t → t < n) (hk : opVC P (.mx xs) st.ev st.H fr K) : ∃ e, K e ∧ OpOK P n o st e := by
  simp only [opVC] at hk
  cases hop : o.op <;> simp [okOp, hop] at hc
  rename_i c
  obtain ⟨callee, args, ts⟩ := c
  obtain ⟨bt, rfl⟩ := okCall_builtin hc (by intro _ _; simp) (by intro _ _; simp)
  simp only [okCall] at hc
  cases bt <;> simp only [okBuiltin, Bool.false_eq_true] at hc
  split at hk
  · rename_i k m hf
    refine ⟨_, hk, OpOK.of fun w0 M0 ρ a w Q hh => ?_⟩
    obtain ⟨r1, r2⟩ := opds_rel_arr hh hc
    obtain ⟨x, rest, hl, hrun⟩ := foldI_run (P := P) (f2 := Builtin.max2) (by intro k x k' y; rfl) r1 r2 hf
    exact wp_val (w' := w) (by simp only [execOp, hop, resolve, invoke, builtin, Sem.run_bind, Sem.run_pure, Result.andThen_ok, Builtin.max_, hl, hrun]) (hh.put o.dst hd _ _ ⟨rfl, rfl, rfl⟩ w (Frame0.refl _ _) (.u (.int _ _)))
  · exact hk.elim

/-! ### Slicing -/
theorem natOf_some {d : D} {l : Nat} (h : natOf d = some l) : ∃ k m, d = .u (.int k m) ∧ 0 ≤ m ∧ l = m.toNat := by
  unfold natOf at h
  split at h
  · rename_i k m
    split at h
    · injection h with h; exact ⟨k, m, rfl, by assumption, h.symm⟩
    · cases h
  · cases h

theorem bound_run {v : Value} {k : IntKind} {m : Int} (hv : v = .int k m) (h0 : 0 ≤ m) {y : Nat} (hy : m.toNat ≤ y) (code : BoundsCode) (w : World) : (Instr.sliceBound v y code).run P w = .ok m.toNat w := by
  have h1 : m ≤ (y : Int) := by omega
  simp [Instr.sliceBound, hv, asIntOf, h0, h1]

def loOf (st : St) (lo : Option Opd) : Option Nat := match lo with | none => some 0 | some o => natOf (st.ev o)
def hiOf (st : St) (hi : Option Opd) (len : Nat) : Option Nat := match hi with | none => some len | some o => natOf (st.ev o)

theorem bounds_run {w0 : World} {M0 : Nat → Prop} {ρ : Rho} {a : Act} {w : World} (hh : HoldsR n w0 M0 ρ st a w) {lo hi : Option Operand} {lo' hi' : Option Opd} (h1 : okOpdO lo lo' = true) (h2 : okOpdO hi hi' = true)
    {b : Bool} {len cap l h : Nat} (hl : loOf st lo' = some l) (hh' : hiOf st hi' len = some h) (hle : l ≤ h) (hcap : h ≤ cap) :
    (Instr.sliceBounds b len cap (lo.map a.eval) (hi.map a.eval) none).run P w = .ok (l, h, cap) w := by
  have hlo : (lo = none ∧ l = 0) ∨ ∃ x k m, lo = some x ∧ a.eval x = .int k m ∧ 0 ≤ m ∧ l = m.toNat := by
    cases lo with
    | none =>
      cases lo' with
      | none => simp only [loOf] at hl; injection hl with hl; exact .inl ⟨rfl, hl.symm⟩
      | some o => simp [okOpdO] at h1
    | some x =>
      cases lo' with
      | none => simp [okOpdO] at h1
      | some o =>
        simp only [okOpdO] at h1
        simp only [loOf] at hl
        obtain ⟨k, m, hd, h0, rfl⟩ := natOf_some hl
        have r := opd_rel hh h1
        rw [hd] at r
        exact .inr ⟨x, k, m, rfl, r.int_inv, h0, rfl⟩
  have hhi : (hi = none ∧ h = len) ∨ ∃ x k m, hi = some x ∧ a.eval x = .int k m ∧ 0 ≤ m ∧ h = m.toNat := by
    cases hi with
    | none =>
      cases hi' with
      | none => simp only [hiOf] at hh'; injection hh' with hh'; exact .inl ⟨rfl, hh'.symm⟩
      | some o => simp [okOpdO] at h2
    | some x =>
      cases hi' with
      | none => simp [okOpdO] at h2
      | some o =>
        simp only [okOpdO] at h2
        simp only [hiOf] at hh'
        obtain ⟨k, m, hd, h0, rfl⟩ := natOf_some hh'
        have r := opd_rel hh h2
        rw [hd] at r
        exact .inr ⟨x, k, m, rfl, r.int_inv, h0, rfl⟩
  clear hh hl hh' h1 h2
  rcases hlo with ⟨rfl, rfl⟩ | ⟨x, k, m, rfl, hx, hx0, rfl⟩ <;> rcases hhi with ⟨rfl, rfl⟩ | ⟨y, k', m', rfl, hy, hy0, rfl⟩
  · simp [Instr.sliceBounds]
  · simp [Instr.sliceBounds, bound_run hy hy0 hcap]
  · simp [Instr.sliceBounds, bound_run hx hx0 hle]
  · simp [Instr.sliceBounds, bound_run hx hx0 hle, bound_run hy hy0 hcap]

theorem snd_ss {x : Opd} {lo hi : Option Opd} (hc : okOp P o.op (.ss x lo hi) = true) (hd : ∀ t, o.dst = some t → t < n) (hk : opVC P (.ss x lo hi) st.ev st.H fr K) : ∃ e, K e ∧ OpOK P n o st e := by
  simp only [opVC] at hk
  cases hop : o.op <;> simp [okOp, hop] at hc
  rename_i t y lo' hi' mx
  cases mx <;> simp at hc
  obtain ⟨⟨⟨h0, h1⟩, h2⟩, h3⟩ := hc
  have hu : P.underlying t = some .string := by
    cases h : P.underlying t with
    | none => simp [h] at h0
    | some d => cases d <;> simp [h] at h0 ⊢
  split at hk
  · rename_i s hx
    split at hk
    · rename_i l h hl hh'
      obtain ⟨h4, h5, hk⟩ := hk
      refine ⟨_, hk, OpOK.of fun w0 M0 ρ a w Q hh => ?_⟩
      have r := opd_rel hh h1
      rw [hx] at r
      have hb := bounds_run (P := P) hh h2 h3 (b := false) (len := s.size) (cap := s.size) (l := l) (h := h) hl hh' h4 h5
      refine wp_val (w' := w) (by simp only [execOp, hop, r.str_inv, Instr.sliceAt, run_underlying hu, Sem.run_bind, Result.andThen_ok, Instr.slice, Option.map_none, Option.isSome_none, Bool.false_eq_true, if_false, hb, Sem.run_pure]) (hh.put o.dst hd _ _ ⟨rfl, rfl, rfl⟩ w (Frame0.refl _ _) (.u (.str _)))
    · exact hk.elim
  · exact hk.elim

theorem snd_sl {s : Nat} {x : Opd} {lo hi : Option Opd} (hc : okOp P o.op (.sl s x lo hi) = true) (hd : ∀ t, o.dst = some t → t < n) (hk : opVC P (.sl s x lo hi) st.ev st.H fr K) : ∃ e, K e ∧ OpOK P n o st e := by
  simp only [opVC] at hk
  cases hop : o.op <;> simp [okOp, hop] at hc
  rename_i t y lo' hi' mx
  cases mx <;> simp at hc
  obtain ⟨⟨⟨h0, h1⟩, h2⟩, h3⟩ := hc
  cases he : sliceElem P t with
  | none => simp [he] at h0
  | some e =>
    simp only [he] at h0
    have hu := sliceElem_some he
    have run : ∀ {a : Act} {w : World} {ad : Option Addr} {len cap l h : Nat}, a.eval y = .slice ad len cap → (Instr.sliceBounds true len cap (lo'.map a.eval) (hi'.map a.eval) none).run P w = .ok (l, h, cap) w →
        (execOp a.eval o).run P w = .ok (.value (.slice (if cap = l then ad else ad.map (·.add (l * s))) (h - l) (cap - l))) w := by
      intro a w ad len cap l h hv hb
      simp only [execOp, hop, hv, Instr.sliceAt, run_underlying hu, Sem.run_bind, Result.andThen_ok, Instr.slice, Option.map_none, hb, sizeOf_run h0, Sem.run_pure]
    split at hk
    · rename_i els hx
      split at hk
      · rename_i l h hl hh'
        obtain ⟨h4, h5, h6, hk⟩ := hk
        refine ⟨_, hk, OpOK.of fun w0 M0 ρ a w Q hh => ?_⟩
        have r := opd_rel hh h1
        rw [hx] at r
        rcases r.u_inv.sl_inv with ⟨ad, c, hv, rfl, hz⟩ | ⟨b, p, c, s', hv, hc1, hc2, hM, hs, vs, hvs, ho1, hr⟩
        · have hb := bounds_run (P := P) hh h2 h3 (b := true) (len := 0) (cap := c) (l := l) (h := h) hl hh' h4 (by simp at h5; omega)
          have hl0 : l = 0 := by simp at h5; omega
          have hh0 : h = 0 := by simpa using h5
          subst hl0; subst hh0
          refine wp_val (w' := w) (run hv hb) (hh.put o.dst hd _ _ ⟨rfl, rfl, rfl⟩ w (Frame0.refl _ _) ?_)
          refine .u (RelU.sl0 ?_)
          split
          · rename_i h9; intro h10; simp [hz h10]
          · intro h10; cases ad with
            | none => simp [hz rfl]
            | some a => cases h10
        · have hb := bounds_run (P := P) hh h2 h3 (b := true) (len := els.length) (cap := c) (l := l) (h := h) hl hh' h4 (by omega)
          refine wp_val (w' := w) (run hv hb) (hh.put o.dst hd _ _ ⟨rfl, rfl, rfl⟩ w (Frame0.refl _ _) (.u ?_))
          have hlen : ((els.take h).drop l).length = h - l := by simp; omega
          have hmem : ∀ z ∈ (els.take h).drop l, z ∈ els := fun z hz => List.mem_of_mem_take (List.mem_of_mem_drop hz)
          have hne : (els.take h).drop l ≠ [] → els ≠ [] := by rintro h7 rfl; simp at h7
          by_cases hcl : c = l
          · subst hcl
            have : (els.take h).drop c = [] := by apply List.eq_nil_of_length_eq_zero; omega
            rw [if_pos rfl, this]
            exact .sl b p (c - c) s _ [] (by simp; omega) (by omega) (by omega) (fun h => absurd rfl h) (fun _ h => by simp at h) (fun _ => undef) (fun j hj => by simp at hj) (fun j hj => by simp at hj) (fun i j hi => by simp at hi)
          · rw [if_neg hcl]
            have hadd : (some (⟨b, p, none⟩ : Addr)).map (·.add (l * s)) = some ⟨b, p + l * s, none⟩ := by simp [Addr.add_mid]
            rw [hadd]
            by_cases hemp : (els.take h).drop l = []
            · rw [hemp]
              exact .sl b _ (c - l) s _ [] (by rw [hemp] at hlen; simp at hlen; simp; omega) (by omega) (by omega) (fun h => absurd rfl h) (fun _ h => by simp at h) (fun _ => undef) (fun j hj => by simp at hj) (fun j hj => by simp at hj) (fun i j hi => by simp at hi)
            · have hpos : 0 < els.length := List.length_pos_iff.2 (hne hemp)
              have hss : s' = s := by
                have h7 := hs _ (List.getElem_mem hpos)
                simp only [List.all_eq_true, beq_iff_eq] at h6
                rw [← h7]; exact h6 _ (List.getElem_mem hpos)
              subst hss
              refine .sl b (p + l * s') (c - l) s' _ _ hlen.symm (by omega) (by omega) (fun _ => hM (hne hemp)) (fun z hz => hs z (hmem z hz)) (fun j => vs (l * s' + j)) (fun j hj => ?_) (fun j hj => ?_) (fun i j hi hj => ?_)
              · rw [Nat.add_assoc]
                refine hvs _ ?_
                rw [hlen] at hj
                have h7 : (h - l) * s' = h * s' - l * s' := Nat.sub_mul _ _ _
                have h8 : h * s' ≤ els.length * s' := Nat.mul_le_mul_right _ h5
                omega
              · refine ho1 _ ?_
                rw [hlen] at hj
                have h7 : (h - l) * s' = h * s' - l * s' := Nat.sub_mul _ _ _
                have h8 : h * s' ≤ els.length * s' := Nat.mul_le_mul_right _ h5
                omega
              · rw [hlen] at hi
                have h7 : ((els.take h).drop l).getD i [] = els.getD (l + i) [] := by
                  simp only [List.getD_eq_getElem?_getD, List.getElem?_drop, List.getElem?_take]
                  rw [if_pos (by omega)]
                rw [h7]
                have h8 : l * s' + (i * s' + j) = (l + i) * s' + j := by rw [Nat.add_mul]; omega
                rw [h8]
                exact hr _ _ (by omega) hj
      · exact hk.elim
    · rename_i b m hx
      split at hk
      · rename_i l h hl hh'
        obtain ⟨rfl, h5, hk⟩ := hk
        refine ⟨_, hk, OpOK.of fun w0 M0 ρ a w Q hh => ?_⟩
        have r := opd_rel hh h1
        rw [hx] at r
        rcases r.msl_inv with ⟨c, k, hv, hρ, hn⟩ | ⟨hv, rfl, hρ⟩
        · have hb := bounds_run (P := P) hh h2 h3 (b := true) (len := m) (cap := k) (l := 0) (h := h) hl hh' (Nat.zero_le _) (by omega)
          refine wp_val (w' := w) (run hv hb) (hh.put o.dst hd _ _ ⟨rfl, rfl, rfl⟩ w (Frame0.refl _ _) ?_)
          have : (if k = 0 then some (⟨c, 0, none⟩ : Addr) else (some (⟨c, 0, none⟩ : Addr)).map (·.add (0 * s))) = some ⟨c, 0, none⟩ := by simp [Addr.add]
          rw [this]
          exact .msl b h c k hρ (by omega)
        · have hb := bounds_run (P := P) hh h2 h3 (b := true) (len := 0) (cap := 0) (l := 0) (h := h) hl hh' (Nat.zero_le _) (by omega)
          have : h = 0 := by omega
          subst this
          refine wp_val (w' := w) (run hv hb) (hh.put o.dst hd _ _ ⟨rfl, rfl, rfl⟩ w (Frame0.refl _ _) ?_)
          exact .msl0 b hρ
      · exact hk.elim
    · exact hk.elim

/-! ### Structs -/
theorem cells_rel {ρ : Rho} {w : World} {v : Value} {d : D} {xs : List D} (h : Rel ρ w v d) (hx : d.cells = some xs) : v.cells.size = xs.length ∧ (∀ i, i < xs.length → (v.cells.getD i undef).oneCell' = true) ∧ ∀ i, i < xs.length → Rel ρ w (v.cells.getD i undef) (xs.getD i .any) := by
  have one : ∀ {v : Value} {d : D}, Rel ρ w v d → v.oneCell' = true → v.cells.size = [d].length ∧ (∀ i, i < [d].length → (v.cells.getD i undef).oneCell' = true) ∧ ∀ i, i < [d].length → Rel ρ w (v.cells.getD i undef) ([d].getD i .any) := by
    intro v d h h1
    have hc : v.cells = #[v] := by cases v <;> first | rfl | cases h1
    rw [hc]
    refine ⟨rfl, fun i hi => ?_, fun i hi => ?_⟩ <;>
      (have : i = 0 := by simpa using hi
       subst this; simpa)
  cases h with
  | any v => simp [D.cells] at hx
  | u h =>
    rename_i x
    cases h with
    | agg cs us hs h1 h =>
      simp [D.cells] at hx
      subst hx
      refine ⟨by simpa [Value.cells] using hs, fun i hi => by simpa [Value.cells] using h1 i (by simpa using hi), fun i hi => ?_⟩
      rw [getD_map_u (by simpa using hi)]
      exact .u (h i (by simpa using hi))
    | tup cs us hs h => simp [D.cells, U.isCell] at hx
    | _ => simp [D.cells, U.isCell] at hx; subst hx; refine one (.u ?_) rfl; constructor <;> assumption
  | ref b s i off c k p h hp => simp [D.cells] at hx; subst hx; exact one (.ref b s i off c k p h hp) rfl
  | pref b s i off c k p h hp => simp [D.cells] at hx; subst hx; exact one (.pref b s i off c k p h hp) rfl
  | msl b n c k h hn => simp [D.cells] at hx; subst hx; exact one (.msl b n c k h hn) rfl
  | msl0 b h => simp [D.cells] at hx; subst hx; exact one (.msl0 b h) rfl
  | mp b c k h => simp [D.cells] at hx; subst hx; exact one (.mp b c k h) rfl
  | agg cs ds hs h1 h => simp [D.cells] at hx; subst hx; exact ⟨hs, h1, h⟩
  | tup cs ds hs h => simp [D.cells] at hx
  | fn f fs cs ds es hs h ht k => simp [D.cells] at hx; subst hx; exact one (.fn f fs cs ds es hs h ht k) rfl
end
end Go.Proofs.Ytkpghgnbbfpbmaa
