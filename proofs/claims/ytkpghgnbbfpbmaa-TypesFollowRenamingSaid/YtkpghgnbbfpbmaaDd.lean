/- The D-logic's operations are sound: operands, and those that change no object. -/
import Derived.Test.YtkpghgnbbfpbmaaDc
set_option linter.unusedSimpArgs false
set_option linter.unusedVariables false
namespace Go.Proofs.Ytkpghgnbbfpbmaa

def St.ev (st : St) : Ev
  | .t n => st.σ n
  | .c x => .u x

def OpOK (P : Program) (n : Nat) (o : Oper) (st : St) (e : Eff) : Prop :=
  ∀ w0 M0 F a w Q, Holds n w0 M0 F st a w → o.wp P a w (fun a' w' => Holds n w0 M0 F (st.app o.dst e) a' w') Q

theorem OpOK.of {P : Program} {n : Nat} {o : Oper} {st : St} {e : Eff} (h : ∀ w0 M0 ρ a w Q, HoldsR n w0 M0 ρ st a w → o.wp P a w (fun a' w' => Holds n w0 M0 ρ.F (st.app o.dst e) a' w') Q) : OpOK P n o st e := by
  rintro w0 M0 F a w Q ⟨ρ, rfl, hh⟩
  exact h w0 M0 ρ a w Q hh

theorem leaf_rel {M : Nat → Prop} {w : World} {v : Value} {u : U} (h : leafEq v u = true) : RelU M w v u := by
  unfold leafEq at h
  split at h
  · simp at h; obtain ⟨rfl, rfl⟩ := h; exact .int _ _
  · simp at h; subst h; exact .bool _
  · rename_i s s'
    have : s = s' := by
      cases s; cases s'
      simp at h
      simpa using h
    subst this; exact .str _
  · exact .pnil
  · exact .nil
  · exact .slnil
  · exact .fnil
  · exact .mnil
  · rename_i vs us
    simp at h
    obtain ⟨h1, h2⟩ := h
    subst h1; subst h2
    exact .tup _ _ (by simp) (fun i hi => by simp at hi)
  · cases h

theorem leaves_rel {M : Nat → Prop} {w : World} : ∀ {vs : List Value} {us : List U}, leavesEq vs us = true → vs.length = us.length ∧ ∀ i, i < us.length → (vs.getD i undef).oneCell' = true ∧ RelU M w (vs.getD i undef) (us.getD i .pnil)
  | [], [], _ => ⟨rfl, fun i hi => by simp at hi⟩
  | v :: vs, u :: us, h => by
    simp [leavesEq] at h
    obtain ⟨h1, h2⟩ := leaves_rel (M := M) (w := w) h.2
    refine ⟨by simp [h1], fun i hi => ?_⟩
    cases i with
    | zero => exact ⟨by simpa using h.1.2, by simpa using leaf_rel h.1.1⟩
    | succ i => simpa using h2 i (by simpa using hi)
  | [], _ :: _, h => by simp [leavesEq] at h
  | _ :: _, [], h => by simp [leavesEq] at h

theorem arr_getD (cs : Array Value) (i : Nat) : cs.getD i undef = cs.toList.getD i undef := by
  simp [Array.getD_eq_getD_getElem?, List.getD_eq_getElem?_getD]

theorem const_rel {M : Nat → Prop} {w : World} {v : Value} {u : U} (h : constEq v u = true) : RelU M w v u := by
  unfold constEq at h
  split at h
  · obtain ⟨h1, h2⟩ := leaves_rel (M := M) (w := w) h
    exact .agg _ _ (by simpa using h1) (fun i hi => by rw [arr_getD]; exact (h2 i hi).1) (fun i hi => by rw [arr_getD]; exact (h2 i hi).2)
  · exact leaf_rel h

section
variable {P : Program} {n : Nat} {w0 : World} {M0 : Nat → Prop} {ρ : Rho} {st : St} {a : Act} {w : World}

theorem opd_rel (hh : HoldsR n w0 M0 ρ st a w) {x : Operand} {y : Opd} (h : okOpd x y = true) : Rel ρ w (a.eval x) (st.ev y) := by
  unfold okOpd at h
  split at h
  · simp at h; subst h; exact hh.regs _
  · exact .u (const_rel h)
  · simp at h; subst h; exact .u (.fn _ _ _ [] [] (by simp) (fun i hi => by simp at hi) (by simp) (fun i hi => by simp at hi))
  · cases h

theorem opds_rel (hh : HoldsR n w0 M0 ρ st a w) : ∀ {xs : List Operand} {ys : List Opd}, okOpds xs ys = true → xs.length = ys.length ∧ ∀ i, i < ys.length → Rel ρ w ((xs.map a.eval).getD i undef) ((ys.map st.ev).getD i .any)
  | [], [], _ => ⟨rfl, fun i hi => by simp at hi⟩
  | x :: xs, y :: ys, h => by
    simp [okOpds] at h
    obtain ⟨h1, h2⟩ := opds_rel hh h.2
    refine ⟨by simp [h1], fun i hi => ?_⟩
    cases i with
    | zero => simpa using opd_rel hh h.1
    | succ i => simpa using h2 i (by simpa using hi)
  | [], _ :: _, h => by simp [okOpds] at h
  | _ :: _, [], h => by simp [okOpds] at h

theorem wp_val {o : Oper} {K : Act → World → Prop} {Q : Exit → Act → World → Prop} {v : Value} {w' : World} (h : (execOp a.eval o).run P w = .ok (.value v) w') (k : K (a.put o.dst v) w') : o.wp P a w K Q := by
  unfold Oper.wp; rw [h]; exact k
theorem wp_skp {o : Oper} {K : Act → World → Prop} {Q : Exit → Act → World → Prop} {w' : World} (h : (execOp a.eval o).run P w = .ok .skip w') (k : K (a.put o.dst undef) w') : o.wp P a w K Q := by
  unfold Oper.wp; rw [h]; exact k
end

/-! ### Inversions -/
section
variable {ρ : Rho} {w : World} {v : Value}
theorem Rel.int_inv {k : IntKind} {n : Int} (h : Rel ρ w v (.u (.int k n))) : v = .int k n := by cases h with | u h => cases h; rfl
theorem Rel.bool_inv {b : Bool} (h : Rel ρ w v (.u (.bool b))) : v = .bool b := by cases h with | u h => cases h; rfl
theorem Rel.str_inv {s : ByteArray} (h : Rel ρ w v (.u (.str s))) : v = .string s := by cases h with | u h => cases h; rfl
theorem Rel.nil_inv (h : Rel ρ w v (.u .nil)) : v = .slice none 0 0 := by cases h with | u h => cases h; rfl
theorem Rel.u_inv {x : U} (h : Rel ρ w v (.u x)) : RelU ρ.M w v x := by cases h with | u h => exact h
theorem Rel.ref_inv {b s i off : Nat} (h : Rel ρ w v (.ref b s i off)) : ∃ c k, v = .pointer (some ⟨c, i * s + off, none⟩) ∧ ρ b = some (some c, k) := by
  cases h with | ref b s i off c k p h hp => subst hp; exact ⟨c, k, rfl, h⟩
theorem Rel.pref_inv {b s i off c k : Nat} (h : Rel ρ w v (.pref b s i off c k)) : v = .pointer (some ⟨c, i * s + off, none⟩) ∧ ρ b = some (some c, k) := by
  cases h with | pref b s i off c k p h hp => subst hp; exact ⟨rfl, h⟩
theorem Rel.msl_inv {b n : Nat} (h : Rel ρ w v (.msl b n)) : (∃ c k, v = .slice (some ⟨c, 0, none⟩) n k ∧ ρ b = some (some c, k) ∧ n ≤ k) ∨ (v = .slice none 0 0 ∧ n = 0 ∧ ρ b = some (none, 0)) := by
  cases h with
  | msl b n c k h hn => exact .inl ⟨c, k, rfl, h, hn⟩
  | msl0 b h => exact .inr ⟨rfl, rfl, h⟩
theorem RelU.fp_inv {M : Nat → Prop} {cells : List U} {off : Nat} (h : RelU M w v (.fp cells off)) : ∃ b o, v = .pointer (some ⟨b, o + off, none⟩) ∧ ¬ M b ∧ b < w.heap.size ∧ ∃ vs : Nat → Value,
    (∀ j, j < cells.length → w.cell? ⟨b, o + j, none⟩ = some (vs j)) ∧ (∀ j, j < cells.length → (vs j).oneCell' = true) ∧ ∀ j, j < cells.length → RelU M w (vs j) (cells.getD j .pnil) := by
  cases h with | fp b o p off cells hp hM vs hv h1 hr => subst hp; exact ⟨b, o, rfl, hM.1, hM.2, vs, hv, h1, hr⟩
theorem RelU.fn_inv {M : Nat → Prop} {f : FuncId} {us xs : List U} (h : RelU M w v (.fn f us xs)) : ∃ fs cs : Array Value, v = .func (.func f) fs cs ∧ fs.size = us.length ∧ (∀ i, i < us.length → RelU M w (fs.getD i undef) (us.getD i .pnil)) ∧
    cs.size = xs.length ∧ ∀ i, i < xs.length → RelU M w (cs.getD i undef) (xs.getD i .pnil) := by
  cases h with | fn f fs cs us xs hs h ht k => exact ⟨fs, cs, rfl, hs, h, ht, k⟩
theorem Rel.fn_inv {f : FuncId} {ds es : List D} (h : Rel ρ w v (.fn f ds es)) : ∃ fs cs : Array Value, v = .func (.func f) fs cs := by
  cases h with | fn f fs cs us xs hs h ht k => exact ⟨fs, cs, rfl⟩
end

section
variable {P : Program} {n : Nat} {o : Oper} {st : St} {fr : Nat} {K : Eff → Prop}

theorem snd_mv {x : Opd} (hc : okOp P o.op (.mv x) = true) (hd : ∀ t, o.dst = some t → t < n) (hk : opVC P (.mv x) st.ev st.H fr K) : ∃ e, K e ∧ OpOK P n o st e := by
  refine ⟨_, hk, OpOK.of fun w0 M0 ρ a w Q hh => ?_⟩
  cases hop : o.op <;> simp [okOp, hop] at hc
  all_goals
    refine wp_val (by simp [execOp, hop]) (hh.put o.dst hd _ _ ⟨rfl, rfl, rfl⟩ w (Frame0.refl _ _) (opd_rel hh hc))

theorem snd_nc {x : Opd} (hc : okOp P o.op (.nc x) = true) (hd : ∀ t, o.dst = some t → t < n) (hk : opVC P (.nc x) st.ev st.H fr K) : ∃ e, K e ∧ OpOK P n o st e := by
  simp only [opVC] at hk
  cases hop : o.op <;> simp [okOp, hop] at hc
  split at hk
  case h_6 => exact hk.elim
  all_goals
    rename_i hx
    refine ⟨_, hk, OpOK.of fun w0 M0 ρ a w Q hh => ?_⟩
    have hr := opd_rel hh hc
    rw [hx] at hr
  · obtain ⟨b, o', hv, _⟩ := hr.u_inv.fp_inv
    exact wp_val (v := a.eval _) (w' := w) (by simp [execOp, hop, hv]) (hh.put o.dst hd _ _ ⟨rfl, rfl, rfl⟩ w (Frame0.refl _ _) hr)
  · obtain ⟨fs, cs, hv, _⟩ := hr.u_inv.fn_inv
    exact wp_val (v := a.eval _) (w' := w) (by simp [execOp, hop, hv]) (hh.put o.dst hd _ _ ⟨rfl, rfl, rfl⟩ w (Frame0.refl _ _) hr)
  · obtain ⟨c, k, hv, _⟩ := hr.ref_inv
    exact wp_val (v := a.eval _) (w' := w) (by simp [execOp, hop, hv]) (hh.put o.dst hd _ _ ⟨rfl, rfl, rfl⟩ w (Frame0.refl _ _) hr)
  · obtain ⟨hv, hρ⟩ := hr.pref_inv
    exact wp_val (v := .pointer (some ⟨_, _, none⟩)) (w' := w) (by simp [execOp, hop, hv]) (hh.put o.dst hd _ _ ⟨rfl, rfl, rfl⟩ w (Frame0.refl _ _) (.ref _ _ _ _ _ _ _ hρ rfl))
  · obtain ⟨fs, cs, hv⟩ := hr.fn_inv
    exact wp_val (v := a.eval _) (w' := w) (by simp [execOp, hop, hv]) (hh.put o.dst hd _ _ ⟨rfl, rfl, rfl⟩ w (Frame0.refl _ _) hr)

theorem snd_pk {c x y : Opd} (hc : okOp P o.op (.pk c x y) = true) (hd : ∀ t, o.dst = some t → t < n) (hk : opVC P (.pk c x y) st.ev st.H fr K) : ∃ e, K e ∧ OpOK P n o st e := by
  simp only [opVC] at hk
  cases hop : o.op <;> simp [okOp, hop] at hc
  obtain ⟨⟨h1, h2⟩, h3⟩ := hc
  split at hk
  case h_3 => exact hk.elim
  · rename_i t p q hx hy hz
    refine ⟨_, hk, OpOK.of fun w0 M0 ρ a w Q hh => ?_⟩
    have r1 := opd_rel hh h1; have r2 := opd_rel hh h2; have r3 := opd_rel hh h3
    rw [hx] at r1; rw [hy] at r2; rw [hz] at r3
    refine wp_val (v := .bool (if t then p else q)) (w' := w) (by simp [execOp, hop, r1.bool_inv, r2.bool_inv, r3.bool_inv, asBool]) (hh.put o.dst hd _ _ ⟨rfl, rfl, rfl⟩ w (Frame0.refl _ _) (.u (.bool _)))
  · rename_i t hx _
    refine ⟨_, hk, OpOK.of fun w0 M0 ρ a w Q hh => ?_⟩
    have r1 := opd_rel hh h1; have r2 := opd_rel hh h2; have r3 := opd_rel hh h3
    rw [hx] at r1
    refine wp_val (w' := w) (by simp [execOp, hop, r1.bool_inv, asBool]; rfl) (hh.put o.dst hd _ _ ⟨rfl, rfl, rfl⟩ w (Frame0.refl _ _) ?_)
    cases t
    · exact r3
    · exact r2

theorem snd_un {u : UnOp} {x : Opd} (hc : okOp P o.op (.un u x) = true) (hd : ∀ t, o.dst = some t → t < n) (hk : opVC P (.un u x) st.ev st.H fr K) : ∃ e, K e ∧ OpOK P n o st e := by
  simp only [opVC] at hk
  cases hop : o.op <;> simp [okOp, hop] at hc
  obtain ⟨rfl, h1⟩ := hc
  split at hk
  case h_4 => exact hk.elim
  all_goals
    rename_i hx
    refine ⟨_, hk, OpOK.of fun w0 M0 ρ a w Q hh => ?_⟩
    have r1 := opd_rel hh h1
    rw [hx] at r1
  · exact wp_val (w' := w) (by simp [execOp, hop, r1.int_inv, Op.unary, Op.intArith]) (hh.put o.dst hd _ _ ⟨rfl, rfl, rfl⟩ w (Frame0.refl _ _) (.u (.int _ _)))
  · exact wp_val (w' := w) (by simp [execOp, hop, r1.bool_inv, Op.unary]) (hh.put o.dst hd _ _ ⟨rfl, rfl, rfl⟩ w (Frame0.refl _ _) (.u (.bool _)))
  · exact wp_val (w' := w) (by simp [execOp, hop, r1.int_inv, Op.unary, Op.intBits]; rfl) (hh.put o.dst hd _ _ ⟨rfl, rfl, rfl⟩ w (Frame0.refl _ _) (.u (.int _ _)))

theorem snd_cv {k : IntKind} {x : Opd} (hc : okOp P o.op (.cv k x) = true) (hd : ∀ t, o.dst = some t → t < n) (hk : opVC P (.cv k x) st.ev st.H fr K) : ∃ e, K e ∧ OpOK P n o st e := by
  simp only [opVC] at hk
  cases hop : o.op <;> simp [okOp, hop] at hc
  rename_i src dst y
  obtain ⟨⟨h0, h2⟩, h1⟩ := hc
  split at hk
  case h_2 => exact hk.elim
  rename_i hx
  refine ⟨_, hk, OpOK.of fun w0 M0 ρ a w Q hh => ?_⟩
  have r1 := opd_rel hh h1
  rw [hx] at r1
  cases hu : P.underlying dst with
  | none => simp [hu] at h0
  | some d =>
    simp only [hu] at h0
    cases d <;> simp at h0
    subst h0
    cases hs : P.underlying src with
    | none => simp [hs] at h2
    | some d' =>
      exact wp_val (w' := w) (by simp [execOp, hop, r1.int_inv, convert, run_underlying hu, run_underlying hs, Conv.intToInt]) (hh.put o.dst hd _ _ ⟨rfl, rfl, rfl⟩ w (Frame0.refl _ _) (.u (.int _ _)))

end
end Go.Proofs.Ytkpghgnbbfpbmaa
