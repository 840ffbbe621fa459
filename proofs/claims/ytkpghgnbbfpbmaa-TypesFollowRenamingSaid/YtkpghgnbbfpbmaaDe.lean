/- The D-logic's operations are sound: arithmetic, reading, addresses, lengths, slices of what is there. -/
import Derived.Test.YtkpghgnbbfpbmaaDd
set_option linter.unusedSimpArgs false
set_option linter.unusedVariables false
namespace Go.Proofs.Ytkpghgnbbfpbmaa

theorem str_eq (a b : ByteArray) : (a.toList == b.toList) = decide (a = b) := by
  rw [Bool.eq_iff_iff]
  simp only [beq_iff_eq, decide_eq_true_eq, ByteArray.toList_eq]
  constructor
  · intro h
    cases a; cases b
    simp at h
    simpa using h
  · rintro rfl; rfl

theorem bin_and (t : TypeId) (k : IntKind) (p q : Int) : binOp .and t (.int k p) (.int k q) = pure (.int k (bits .and k p q)) := by simp [binOp, Op.intBits, bits]
theorem bin_or (t : TypeId) (k : IntKind) (p q : Int) : binOp .or t (.int k p) (.int k q) = pure (.int k (bits .or k p q)) := by simp [binOp, Op.intBits, bits]
theorem bin_xor (t : TypeId) (k : IntKind) (p q : Int) : binOp .xor t (.int k p) (.int k q) = pure (.int k (bits .xor k p q)) := by simp [binOp, Op.intBits, bits]
theorem bin_andNot (t : TypeId) (k : IntKind) (p q : Int) : binOp .andNot t (.int k p) (.int k q) = pure (.int k (bits .andNot k p q)) := by simp [binOp, Op.intBits, bits]

section
variable {P : Program} {n : Nat} {o : Oper} {st : St} {fr : Nat} {K : Eff → Prop}

theorem snd_bi {op : BinOp} {x y : Opd} (hc : okOp P o.op (.bi op x y) = true) (hd : ∀ t, o.dst = some t → t < n) (hk : opVC P (.bi op x y) st.ev st.H fr K) : ∃ e, K e ∧ OpOK P n o st e := by
  simp only [opVC] at hk
  cases hop : o.op <;> simp [okOp, hop] at hc
  obtain ⟨⟨rfl, h1⟩, h2⟩ := hc
  rename_i op t x' y' ty
  split at hk
  case h_3 => exact hk.elim
  · rename_i k p k' q hx hy
    cases op <;> simp only [biI] at hk
    case shl =>
      refine ⟨_, hk.2, OpOK.of fun w0 M0 ρ a w Q hh => ?_⟩
      have r1 := opd_rel hh h1; have r2 := opd_rel hh h2
      rw [hx] at r1; rw [hy] at r2
      have hn : ¬ q < 0 := by omega
      exact wp_val (w' := w) (by simp [execOp, hop, r1.int_inv, r2.int_inv, eqGuard, binOp, Op.shift, hn] <;> rfl) (hh.put o.dst hd _ _ ⟨rfl, rfl, rfl⟩ w (Frame0.refl _ _) (.u (.int _ _)))
    case shr =>
      refine ⟨_, hk.2, OpOK.of fun w0 M0 ρ a w Q hh => ?_⟩
      have r1 := opd_rel hh h1; have r2 := opd_rel hh h2
      rw [hx] at r1; rw [hy] at r2
      have hn : ¬ q < 0 := by omega
      exact wp_val (w' := w) (by simp [execOp, hop, r1.int_inv, r2.int_inv, eqGuard, binOp, Op.shift, hn] <;> rfl) (hh.put o.dst hd _ _ ⟨rfl, rfl, rfl⟩ w (Frame0.refl _ _) (.u (.int _ _)))
    case quo =>
      obtain ⟨rfl, hq, hk⟩ := hk
      refine ⟨_, hk, OpOK.of fun w0 M0 ρ a w Q hh => ?_⟩
      have r1 := opd_rel hh h1; have r2 := opd_rel hh h2
      rw [hx] at r1; rw [hy] at r2
      exact wp_val (w' := w) (by simp [execOp, hop, r1.int_inv, r2.int_inv, eqGuard, binOp, Op.intDiv, hq] <;> rfl) (hh.put o.dst hd _ _ ⟨rfl, rfl, rfl⟩ w (Frame0.refl _ _) (.u (.int _ _)))
    case rem =>
      obtain ⟨rfl, hq, hk⟩ := hk
      refine ⟨_, hk, OpOK.of fun w0 M0 ρ a w Q hh => ?_⟩
      have r1 := opd_rel hh h1; have r2 := opd_rel hh h2
      rw [hx] at r1; rw [hy] at r2
      exact wp_val (w' := w) (by simp [execOp, hop, r1.int_inv, r2.int_inv, eqGuard, binOp, Op.intDiv, hq] <;> rfl) (hh.put o.dst hd _ _ ⟨rfl, rfl, rfl⟩ w (Frame0.refl _ _) (.u (.int _ _)))
    all_goals
      obtain ⟨rfl, hk⟩ := hk
      refine ⟨_, hk, OpOK.of fun w0 M0 ρ a w Q hh => ?_⟩
      have r1 := opd_rel hh h1; have r2 := opd_rel hh h2
      rw [hx] at r1; rw [hy] at r2
    case add => exact wp_val (w' := w) (by simp [execOp, hop, r1.int_inv, r2.int_inv, eqGuard, binOp, Op.intArith] <;> rfl) (hh.put o.dst hd _ _ ⟨rfl, rfl, rfl⟩ w (Frame0.refl _ _) (.u (.int _ _)))
    case sub => exact wp_val (w' := w) (by simp [execOp, hop, r1.int_inv, r2.int_inv, eqGuard, binOp, Op.intArith] <;> rfl) (hh.put o.dst hd _ _ ⟨rfl, rfl, rfl⟩ w (Frame0.refl _ _) (.u (.int _ _)))
    case mul => exact wp_val (w' := w) (by simp [execOp, hop, r1.int_inv, r2.int_inv, eqGuard, binOp, Op.intArith] <;> rfl) (hh.put o.dst hd _ _ ⟨rfl, rfl, rfl⟩ w (Frame0.refl _ _) (.u (.int _ _)))
    case and => exact wp_val (w' := w) (by simp only [execOp, hop, r1.int_inv, r2.int_inv, eqGuard, bin_and]; rfl) (hh.put o.dst hd _ _ ⟨rfl, rfl, rfl⟩ w (Frame0.refl _ _) (.u (.int _ _)))
    case or => exact wp_val (w' := w) (by simp only [execOp, hop, r1.int_inv, r2.int_inv, eqGuard, bin_or]; rfl) (hh.put o.dst hd _ _ ⟨rfl, rfl, rfl⟩ w (Frame0.refl _ _) (.u (.int _ _)))
    case xor => exact wp_val (w' := w) (by simp only [execOp, hop, r1.int_inv, r2.int_inv, eqGuard, bin_xor]; rfl) (hh.put o.dst hd _ _ ⟨rfl, rfl, rfl⟩ w (Frame0.refl _ _) (.u (.int _ _)))
    case andNot => exact wp_val (w' := w) (by simp only [execOp, hop, r1.int_inv, r2.int_inv, eqGuard, bin_andNot]; rfl) (hh.put o.dst hd _ _ ⟨rfl, rfl, rfl⟩ w (Frame0.refl _ _) (.u (.int _ _)))
    case eql => exact wp_val (v := .bool (decide (p = q))) (w' := w) (by simp [execOp, hop, r1.int_inv, r2.int_inv, eqGuard, binOp, Op.intCmp] <;> (rw [Bool.eq_iff_iff]; simp)) (hh.put o.dst hd _ _ ⟨rfl, rfl, rfl⟩ w (Frame0.refl _ _) (.u (.bool _)))
    case neq => exact wp_val (v := .bool (!decide (p = q))) (w' := w) (by simp [execOp, hop, r1.int_inv, r2.int_inv, eqGuard, binOp, Op.intCmp] <;> (rw [Bool.eq_iff_iff]; simp)) (hh.put o.dst hd _ _ ⟨rfl, rfl, rfl⟩ w (Frame0.refl _ _) (.u (.bool _)))
    case lss => exact wp_val (w' := w) (by simp [execOp, hop, r1.int_inv, r2.int_inv, eqGuard, binOp, Op.intCmp] <;> rfl) (hh.put o.dst hd _ _ ⟨rfl, rfl, rfl⟩ w (Frame0.refl _ _) (.u (.bool _)))
    case leq => exact wp_val (w' := w) (by simp [execOp, hop, r1.int_inv, r2.int_inv, eqGuard, binOp, Op.intCmp] <;> rfl) (hh.put o.dst hd _ _ ⟨rfl, rfl, rfl⟩ w (Frame0.refl _ _) (.u (.bool _)))
    case gtr => exact wp_val (w' := w) (by simp [execOp, hop, r1.int_inv, r2.int_inv, eqGuard, binOp, Op.intCmp] <;> rfl) (hh.put o.dst hd _ _ ⟨rfl, rfl, rfl⟩ w (Frame0.refl _ _) (.u (.bool _)))
    case geq => exact wp_val (w' := w) (by simp [execOp, hop, r1.int_inv, r2.int_inv, eqGuard, binOp, Op.intCmp] <;> rfl) (hh.put o.dst hd _ _ ⟨rfl, rfl, rfl⟩ w (Frame0.refl _ _) (.u (.bool _)))
  · rename_i p q hx hy
    cases op <;> simp only [biS] at hk
    case add =>
      refine ⟨_, hk.2, OpOK.of fun w0 M0 ρ a w Q hh => ?_⟩
      have r1 := opd_rel hh h1; have r2 := opd_rel hh h2
      rw [hx] at r1; rw [hy] at r2
      have hn : ¬ ((p.size + q.size : Nat) : Int) > IntKind.i64.max := by
        have : IntKind.i64.max = 9223372036854775807 := by decide
        rw [this]; omega
      exact wp_val (w' := w) (by simp only [execOp, hop, r1.str_inv, r2.str_inv, eqGuard, binOp, Op.stringOp, hn, if_false]; simp) (hh.put o.dst hd _ _ ⟨rfl, rfl, rfl⟩ w (Frame0.refl _ _) (.u (.str _)))
    case eql =>
      refine ⟨_, hk, OpOK.of fun w0 M0 ρ a w Q hh => ?_⟩
      have r1 := opd_rel hh h1; have r2 := opd_rel hh h2
      rw [hx] at r1; rw [hy] at r2
      exact wp_val (w' := w) (by simp only [execOp, hop, r1.str_inv, r2.str_inv, eqGuard, binOp, Op.stringOp, str_eq]; simp) (hh.put o.dst hd _ _ ⟨rfl, rfl, rfl⟩ w (Frame0.refl _ _) (.u (.bool _)))
    case neq =>
      refine ⟨_, hk, OpOK.of fun w0 M0 ρ a w Q hh => ?_⟩
      have r1 := opd_rel hh h1; have r2 := opd_rel hh h2
      rw [hx] at r1; rw [hy] at r2
      exact wp_val (v := .bool (!decide (p = q))) (w' := w) (by simp only [execOp, hop, r1.str_inv, r2.str_inv, eqGuard, binOp, Op.stringOp, str_eq]; simp) (hh.put o.dst hd _ _ ⟨rfl, rfl, rfl⟩ w (Frame0.refl _ _) (.u (.bool _)))

theorem run_eq_bool {t : TypeId} (hu : P.underlying t = some .bool) (p q : Bool) (w : World) : (Op.equal t (.bool p) (.bool q)).run P w = .ok (decide (p = q)) w := by
  have key : ∀ d, (Op.equalIn (d + 1) t (.bool p) (.bool q)).run P w = .ok (p == q) w := by intro d; simp [Op.equalIn, run_underlying hu]
  have : (Op.equal t (.bool p) (.bool q)).run P w = .ok (p == q) w := key 9999
  rw [this]; cases p <;> cases q <;> rfl
theorem bin_beq {t : TypeId} (hu : P.underlying t = some .bool) (p q : Bool) (w : World) : (do let v ← (do pure (); binOp .eql t (.bool p) (.bool q)); pure (Next.value v) : Sem Next).run P w = .ok (.value (.bool (decide (p = q)))) w := by
  have : binOp .eql t (.bool p) (.bool q) = (do pure (.bool (← Op.equal t (.bool p) (.bool q)))) := rfl
  simp only [this, Sem.run_bind, Sem.run_pure, Result.andThen_ok, run_eq_bool hu]
theorem bin_bne {t : TypeId} (hu : P.underlying t = some .bool) (p q : Bool) (w : World) : (do let v ← (do pure (); binOp .neq t (.bool p) (.bool q)); pure (Next.value v) : Sem Next).run P w = .ok (.value (.bool (!decide (p = q)))) w := by
  have : binOp .neq t (.bool p) (.bool q) = (do pure (.bool (!(← Op.equal t (.bool p) (.bool q))))) := rfl
  simp only [this, Sem.run_bind, Sem.run_pure, Result.andThen_ok, run_eq_bool hu]

theorem snd_bb {op : BinOp} {x y : Opd} (hc : okOp P o.op (.bb op x y) = true) (hd : ∀ t, o.dst = some t → t < n) (hk : opVC P (.bb op x y) st.ev st.H fr K) : ∃ e, K e ∧ OpOK P n o st e := by
  simp only [opVC] at hk
  cases hop : o.op <;> simp [okOp, hop] at hc
  obtain ⟨⟨⟨rfl, h1⟩, h2⟩, h3⟩ := hc
  rename_i op t x' y' ty
  have hu : P.underlying t = some .bool := by
    cases h : P.underlying t with
    | none => simp [h] at h3
    | some d => cases d <;> simp [h] at h3 ⊢
  split at hk
  case h_3 => exact hk.elim
  all_goals
    rename_i p q hx hy
    refine ⟨_, hk, OpOK.of fun w0 M0 ρ a w Q hh => ?_⟩
    have r1 := opd_rel hh h1; have r2 := opd_rel hh h2
    rw [hx] at r1; rw [hy] at r2
  · exact wp_val (v := .bool (decide (p = q))) (w' := w) (by simp only [execOp, hop, r1.bool_inv, r2.bool_inv, eqGuard]; exact bin_beq hu p q w) (hh.put o.dst hd _ _ ⟨rfl, rfl, rfl⟩ w (Frame0.refl _ _) (.u (.bool _)))
  · exact wp_val (v := .bool (!decide (p = q))) (w' := w) (by simp only [execOp, hop, r1.bool_inv, r2.bool_inv, eqGuard]; exact bin_bne hu p q w) (hh.put o.dst hd _ _ ⟨rfl, rfl, rfl⟩ w (Frame0.refl _ _) (.u (.bool _)))

/-! ### Reading -/
theorem isAgg_run {t : TypeId} {ag : Bool} (h : aggIs P t ag = true) (w : World) : (isAgg t).run P w = .ok ag w := by
  unfold aggIs at h
  unfold isAgg
  cases hu : P.underlying t with
  | none => simp [hu] at h
  | some d =>
    rw [Sem.run_bind, run_underlying hu w]
    cases d <;> simp [hu] at h ⊢ <;> simp [h]
theorem szIs_some {t : TypeId} {m : Nat} (h : szIs P t m = true) : ∃ i, P.info? t = some i ∧ i.size = m := by
  unfold szIs at h
  cases hi : P.info? t with
  | none => simp [hi] at h
  | some i => simp [hi] at h; exact ⟨i, rfl, h⟩
theorem sizeOf_run {t : TypeId} {m : Nat} (h : szIs P t m = true) (w : World) : (sizeOf t).run P w = .ok m w := by
  obtain ⟨i, hi, hs⟩ := szIs_some h
  simp [sizeOf, typeInfo, hi, hs]

theorem loadVar_one {t : TypeId} (h : aggIs P t false = true) {b p : Nat} {w : World} {v : Value} (hc : w.cell? ⟨b, p, none⟩ = some v) : (loadVar t ⟨b, p, none⟩).run P w = .ok v w := by
  unfold loadVar
  rw [Sem.run_bind, isAgg_run h w]
  simp [hc]
theorem loadVar_agg {t : TypeId} {m : Nat} (h : aggIs P t true = true) (hs : szIs P t m = true) {b p : Nat} {w : World} (vs : Nat → Value) (hc : ∀ j, j < m → w.cell? ⟨b, p + j, none⟩ = some (vs j)) :
    (loadVar t ⟨b, p, none⟩).run P w = .ok (.agg ((List.range m).map vs).toArray) w := by
  unfold loadVar
  rw [Sem.run_bind, isAgg_run h w]
  have := run_loadCells_list (P := P) w ⟨b, p, none⟩ ((List.range m).map vs) (fun j v hv => by
    rw [Addr.add_mid]
    have hj : j < m := by have := (List.getElem?_eq_some_iff.1 hv).1; simpa using this
    rw [hc j hj]
    simp [hj] at hv
    rw [hv])
  simp only [List.length_map, List.length_range] at this
  simp [sizeOf_run hs w, this]

theorem range_getD (m : Nat) (vs : Nat → Value) {j : Nat} (hj : j < m) : ((List.range m).map vs).toArray.getD j undef = vs j := by
  rw [arr_getD]
  simp [List.getD_eq_getElem?_getD, hj]

theorem getD_slice {α : Type} (l : List α) (off m j : Nat) (d : α) (hj : j < m) : ((l.drop off).take m).getD j d = l.getD (off + j) d := by
  simp [List.getD_eq_getElem?_getD, hj]

theorem snd_ld_fp {ag : Bool} {m : Nat} {x : Opd} (hc : okOp P o.op (.ld ag m x) = true) (hd : ∀ t, o.dst = some t → t < n) {cells : List U} {off : Nat} (hx : st.ev x = .u (.fp cells off)) :
    (ag = true → off + m ≤ cells.length → OpOK P n o st { d := .u (.agg ((cells.drop off).take m)) }) ∧ (ag = false → off < cells.length → OpOK P n o st { d := .u (cells.getD off .pnil) }) := by
  cases hop : o.op <;> simp [okOp, hop] at hc
  rename_i t y
  obtain ⟨⟨h0, h1⟩, h2⟩ := hc
  refine ⟨?_, ?_⟩
  · rintro rfl hlen w0 M0 F a w Q ⟨ρ, rfl, hh⟩
    have r := opd_rel hh h2
    rw [hx] at r
    obtain ⟨b, p, hv, hM, hb, vs, hvs, ho1, hr⟩ := r.u_inv.fp_inv
    have hl := loadVar_agg (P := P) (w := w) (b := b) (p := p + off) h0 h1 (fun j => vs (off + j)) (fun j hj => by rw [Nat.add_assoc]; exact hvs (off + j) (by omega))
    refine wp_val (w' := w) (by simp only [execOp, hop, hv, Instr.loadAt, Instr.sureAddr, Sem.run_bind, Sem.run_pure, Result.andThen_ok, hl]; rfl) (hh.put o.dst hd _ _ ⟨rfl, rfl, rfl⟩ w (Frame0.refl _ _) (.u (.agg _ _ ?_ ?_ ?_)))
    · simp; omega
    · intro i hi
      have hi' : i < m := by simp at hi; omega
      rw [range_getD _ _ hi']; exact ho1 _ (by omega)
    · intro i hi
      have hi' : i < m := by simp at hi; omega
      rw [range_getD _ _ hi', getD_slice _ _ _ _ _ hi']
      exact hr (off + i) (by omega)
  · rintro rfl hlen w0 M0 F a w Q ⟨ρ, rfl, hh⟩
    have r := opd_rel hh h2
    rw [hx] at r
    obtain ⟨b, p, hv, hM, hb, vs, hvs, ho1, hr⟩ := r.u_inv.fp_inv
    have hl := loadVar_one (P := P) (w := w) h0 (hvs off hlen)
    exact wp_val (w' := w) (by simp only [execOp, hop, hv, Instr.loadAt, Instr.sureAddr, Sem.run_bind, Sem.run_pure, Result.andThen_ok, hl]) (hh.put o.dst hd _ _ ⟨rfl, rfl, rfl⟩ w (Frame0.refl _ _) (.u (hr off hlen)))

theorem mkAgg_rel {ρ : Rho} {w : World} {cs : Array Value} {l : List D} (hs : cs.size = l.length) (h1 : ∀ i, i < l.length → (cs.getD i undef).oneCell' = true) (h : ∀ i, i < l.length → Rel ρ w (cs.getD i undef) (l.getD i .any)) : Rel ρ w (.agg cs) (mkAgg l) := by
  unfold mkAgg
  have key : ∀ {l : List D} {us : List U}, allU l = some us → l = us.map D.u := by
    intro l
    induction l with
    | nil => intro us h; simp [allU] at h; subst h; rfl
    | cons d l ih =>
      intro us h
      cases d <;> simp [allU] at h
      obtain ⟨us', h1, rfl⟩ := h
      simp [ih h1]
  cases ha : allU l with
  | none => exact .agg _ _ hs h1 h
  | some us =>
    have := key ha
    subst this
    refine .u (.agg _ _ (by simpa using hs) (fun i hi => h1 i (by simpa using hi)) (fun i hi => ?_))
    have h2 := h i (by simpa using hi)
    have h3 : (us.map D.u).getD i .any = .u (us.getD i .pnil) := by simp [List.getD_eq_getElem?_getD, hi]
    rw [h3] at h2
    exact h2.u_inv
theorem allU_eq : ∀ {l : List D} {us : List U}, allU l = some us → l = us.map D.u := by
  intro l
  induction l with
  | nil => intro us h; simp [allU] at h; subst h; rfl
  | cons d l ih =>
    intro us h
    cases d <;> simp [allU] at h
    obtain ⟨us', h1, rfl⟩ := h
    simp [ih h1]
theorem mkTup_rel {ρ : Rho} {w : World} {cs : Array Value} {l : List D} (hs : cs.size = l.length) (h : ∀ i, i < l.length → Rel ρ w (cs.getD i undef) (l.getD i .any)) : Rel ρ w (.tuple cs) (mkTup l) := by
  unfold mkTup
  cases ha : allU l with
  | none => exact .tup _ _ hs h
  | some us =>
    have := allU_eq ha
    subst this
    refine .u (.tup _ _ (by simpa using hs) (fun i hi => ?_))
    have h2 := h i (by simpa using hi)
    have h3 : (us.map D.u).getD i .any = .u (us.getD i .pnil) := by simp [List.getD_eq_getElem?_getD, hi]
    rw [h3] at h2
    exact h2.u_inv

/-- What an owned object's cell holds. -/
theorem obj_cell {w0 : World} {M0 : Nat → Prop} {H : Nat → Option MObj} {nx : Nat} {ρ : Rho} {w : World} (hH : HeapRel w0 M0 H nx ρ w) {b c k : Nat} {ob : MObj} (hρ : ρ b = some (some c, k)) (ho : H b = some ob) (hm : ∀ es, ob ≠ .map es)
    {i j : Nat} (hi : i < ob.len) (hj : j < ob.size) : ∃ v, w.cell? ⟨c, i * ob.size + j, none⟩ = some v ∧ v.oneCell' = true ∧ Rel ρ w v ((ob.elem i).getD j .any) := by
  obtain ⟨c', k', h1, h2⟩ := hH.obj b ob ho
  rw [hρ] at h1
  injection h1 with h1
  injection h1 with h1 h1'
  subst h1; subst h1'
  cases h2 with
  | cells c k o cur E hw hs hl hk hm' he h1 h =>
    have hlt : i * ob.size + j < cur.size := by
      rw [hs]
      calc i * ob.size + j < i * ob.size + ob.size := by omega
        _ = (i + 1) * ob.size := by rw [Nat.add_mul, Nat.one_mul]
        _ ≤ k * ob.size := Nat.mul_le_mul_right _ (by omega)
    refine ⟨cur[i * ob.size + j], by simp [World.cell?, hw, hlt], ?_, ?_⟩
    · have := h1 i j hi hj
      rw [Array.getD_eq_getD_getElem?, Array.getElem?_eq_getElem hlt] at this
      exact this
    · have := h i j hi hj
      rw [Array.getD_eq_getD_getElem?, Array.getElem?_eq_getElem hlt] at this
      exact this
  | map c k clock entries es _ _ _ _ => exact absurd rfl (hm es)

theorem snd_ld_obj {ag : Bool} {m : Nat} {x : Opd} (hc : okOp P o.op (.ld ag m x) = true) (hd : ∀ t, o.dst = some t → t < n) {b s i off : Nat} (hx : st.ev x = .ref b s i off) {ob : MObj} (ho : st.H b = some ob) (hm : ∀ es, ob ≠ .map es)
    (hs : ob.size = s) (hi : i < ob.len) :
    (ag = true → off + m ≤ s → ∀ d, (d = mkAgg (((ob.elem i).drop off).take m)) → OpOK P n o st { d := d }) ∧ (ag = false → off < s → ∀ d, ((ob.elem i).length = s → d = (ob.elem i).getD off .any) → OpOK P n o st { d := d }) := by
  cases hop : o.op <;> simp [okOp, hop] at hc
  rename_i t y
  obtain ⟨⟨h0, h1⟩, h2⟩ := hc
  subst hs
  have helen : ∀ {w0 : World} {M0 : Nat → Prop} {ρ : Rho} {w : World}, HeapRel w0 M0 st.H st.nx ρ w → (ob.elem i).length = ob.size := by
    intro w0 M0 ρ w hh
    obtain ⟨c', k', h3, h4⟩ := hh.obj b ob ho
    cases h4 with
    | cells c k o cur E hw hs hl hk hm' he _ h => exact he i hi
    | nil s => simp [MObj.len] at hi
    | dnil s => simp [MObj.len] at hi
    | map c k clock entries es _ _ _ _ => exact absurd rfl (hm es)
  refine ⟨?_, ?_⟩
  · rintro rfl hlen d rfl w0 M0 F a w Q ⟨ρ, rfl, hh⟩
    have r := opd_rel hh h2
    rw [hx] at r
    obtain ⟨c, k, hv, hρ⟩ := r.ref_inv
    have hcell := fun j (hj : j < ob.size) => obj_cell hh.heap hρ ho hm hi hj
    have hlen2 := helen hh.heap
    let vs : Nat → Value := fun j => if hj : off + j < ob.size then (hcell (off + j) hj).choose else undef
    have hvs : ∀ j, j < m → w.cell? ⟨c, i * ob.size + off + j, none⟩ = some (vs j) ∧ (vs j).oneCell' = true ∧ Rel ρ w (vs j) ((ob.elem i).getD (off + j) .any) := by
      intro j hj
      have hj' : off + j < ob.size := by omega
      have := (hcell (off + j) hj').choose_spec
      simp only [vs, hj', dif_pos]
      rw [Nat.add_assoc]
      exact this
    have hl := loadVar_agg (P := P) (w := w) (b := c) (p := i * ob.size + off) h0 h1 vs (fun j hj => (hvs j hj).1)
    refine wp_val (w' := w) (by simp only [execOp, hop, hv, Instr.loadAt, Instr.sureAddr, Sem.run_bind, Sem.run_pure, Result.andThen_ok, hl]; rfl) (hh.put o.dst hd _ _ ⟨rfl, rfl, rfl⟩ w (Frame0.refl _ _) (mkAgg_rel ?_ ?_ ?_))
    · simp [hlen2]; omega
    · intro j hj
      have hj' : j < m := by simp at hj; omega
      rw [range_getD _ _ hj']; exact (hvs j hj').2.1
    · intro j hj
      have hj' : j < m := by simp at hj; omega
      rw [range_getD _ _ hj', getD_slice _ _ _ _ _ hj']
      exact (hvs j hj').2.2
  · rintro rfl hlen d hd' w0 M0 F a w Q ⟨ρ, rfl, hh⟩
    obtain rfl := hd' (helen hh.heap)
    have r := opd_rel hh h2
    rw [hx] at r
    obtain ⟨c, k, hv, hρ⟩ := r.ref_inv
    obtain ⟨u, hcell, _, hrel⟩ := obj_cell hh.heap hρ ho hm hi hlen
    have hl := loadVar_one (P := P) (w := w) h0 hcell
    exact wp_val (w' := w) (by simp only [execOp, hop, hv, Instr.loadAt, Instr.sureAddr, Sem.run_bind, Sem.run_pure, Result.andThen_ok, hl]) (hh.put o.dst hd _ _ ⟨rfl, rfl, rfl⟩ w (Frame0.refl _ _) hrel)

theorem getD_map_u {l : List U} {j : Nat} (h : j < l.length) : (l.map D.u).getD j .any = .u (l.getD j .pnil) := by simp [List.getD_eq_getElem?_getD, h]
theorem allU_map (l : List U) : allU (l.map D.u) = some l := by
  induction l with
  | nil => rfl
  | cons x l ih => simp [allU, ih]

theorem mkAgg_map (l : List U) : mkAgg (l.map D.u) = .u (.agg l) := by simp only [mkAgg, allU_map]
theorem snd_ld {ag : Bool} {m : Nat} {x : Opd} (hc : okOp P o.op (.ld ag m x) = true) (hd : ∀ t, o.dst = some t → t < n) (hk : opVC P (.ld ag m x) st.ev st.H fr K) : ∃ e, K e ∧ OpOK P n o st e := by
  simp only [opVC] at hk
  split at hk
  · rename_i cells off hx
    have := snd_ld_fp (n := n) (o := o) hc hd hx
    cases ag
    · exact ⟨_, hk.2, this.2 rfl hk.1⟩
    · exact ⟨_, hk.2, this.1 rfl hk.1⟩
  · rename_i b s i off hx
    split at hk
    · rename_i s' els ho
      obtain ⟨hs, hi, hk⟩ := hk
      subst hs
      have := snd_ld_obj (n := n) (o := o) hc hd hx ho (by intro es; simp) rfl hi
      cases ag
      · refine ⟨_, hk.2, this.2 rfl hk.1 _ (fun hlen => ?_)⟩
        simp only [MObj.elem, List.length_map] at hlen ⊢
        rw [getD_map_u (by rw [hlen]; exact hk.1)]
      · refine ⟨_, hk.2, this.1 rfl hk.1 _ ?_⟩
        simp only [MObj.elem]
        rw [← List.map_drop, ← List.map_take, mkAgg_map]
    · rename_i s' els ho
      obtain ⟨hs, hi, hk⟩ := hk
      subst hs
      have := snd_ld_obj (n := n) (o := o) hc hd hx ho (by intro es; simp) rfl hi
      cases ag
      · exact ⟨_, hk.2, this.2 rfl hk.1 _ (fun _ => rfl)⟩
      · exact ⟨_, hk.2, this.1 rfl hk.1 _ rfl⟩
    · exact hk.elim
  · exact hk.elim

end
end Go.Proofs.Ytkpghgnbbfpbmaa
