/- Methods that write their receiver: their contracts, calls of them, and the passage from a run to a contract. -/
import Derived.Test.YtkpghgnbbfpbmaaDq
set_option linter.unusedSimpArgs false
set_option linter.unusedVariables false
namespace Go.Proofs.Ytkpghgnbbfpbmaa

def orB (F : Nat → Prop) (c : Nat) : Nat → Prop := fun x => x = c ∨ F x
/-- The cells of a receiver's block. -/
structure Blk (M : Nat → Prop) (w : World) (c k s : Nat) (cells : List U) (cur : Array Value) (E : TypeId) : Prop where
  at_ : w.heap[c]? = some (.cells cur E (0, 0))
  size : cur.size = k * s
  rel : ∀ i, i < s → (cur.getD i undef).oneCell' = true ∧ RelU M w (cur.getD i undef) (cells.getD i .pnil)
/-- The contract of a method that is handed the struct cells by pointer: its result, and the struct behind it. -/
def PCr (P : Program) (g : FuncId) (s : Nat) (cells args : List U) (r : U) (cells' : List U) : Prop := hasBody P g = true ∧ cells.length = s ∧ cells'.length = s ∧
  ∀ (F : Nat → Prop) (w : World) (c k : Nat) (cur : Array Value) (E : TypeId) (vs : Array Value), (∀ x, F x → x < w.heap.size) → ¬ F c → 1 ≤ k → k ≤ maxLen → Blk (orB F c) w c k s cells cur E → vs.size = args.length →
    (∀ i, i < args.length → RelU (orB F c) w (vs.getD i undef) (args.getD i .pnil)) →
    Calls P g (#[.pointer (some ⟨c, 0, none⟩)] ++ vs) w fun e w' => ∃ v cur' E', e = .returned v ∧ RelU (orB F c) w' v r ∧ Blk (orB F c) w' c k s cells' cur' E' ∧ Frame0 w (fun x => x = c) w'

section
variable {P : Program} {n : Nat} {Q : Exit → St → Prop} {fs : List Fr} {st : St}

/-- A step whose soundness is shown by itself. -/
theorem Rs_sem {x : AOp} {l : List AOp} {e : Eff} (hg : gdo st x.g) (hok : ∀ o : Oper, okOp P o.op x.o = true → (∀ t, o.dst = some t → t < n) → OpOK P n o st e) (h : Rs P n Q fs l (st.app x.d e)) : Rs P n Q fs (x :: l) st := by
  intro all os k ho ha w0 M0 F a w hh
  cases os with
  | nil => simp [okOps] at ho
  | cons o os =>
    simp only [okOps, Bool.and_eq_true] at ho
    rw [List.length_cons, List.range'_succ, wpOps_cons]
    obtain ⟨h1, h2, h3, h4⟩ := okA_parts ho.1
    have hi : all[k]? = some o := ha 0 o rfl
    have next : ∀ act' w', Holds n w0 M0 F (st.app x.d e) act' w' → wpOps P all (fun e a' w' => ∃ st', den P n Q fs e st' ∧ Holds n w0 M0 F st' a' w') (List.range' (k + 1) os.length) act' w' :=
      fun act' w' hH => h all os (k + 1) ho.2 (fun j o' hj => by have := ha (j + 1) o' (by simpa using hj); rwa [show k + (j + 1) = k + 1 + j by omega] at this) w0 M0 F act' w' hH
    have wt : Region.wanted o (yielded all a.tmps) = true := by
      rcases h4 with ⟨hg', _⟩ | ⟨j, want, t, hg', hx, ht, p, hp, hpd⟩
      · exact wanted_none hg'
      · rw [hx] at hg
        obtain ⟨ρ, hF, hR⟩ := hh
        have hv := hR.regs t
        rw [show st.σ t = .u (.bool want) from hg] at hv
        rw [wanted_some hg' hp hpd (by rw [hR.size]; exact ht) hv.bool_inv]
        simp
    unfold wpOp
    simp only [hi]
    rw [wt, if_pos rfl]
    refine .inl (Oper.wp_mono ?_ (hok o h3 h2 w0 M0 F a w _ hh))
    intro act' w' hH
    rw [h1] at hH
    exact next act' w' hH

theorem RelU.sub {M M' : Nat → Prop} {w : World} {v : Value} {u : U} (h : RelU M w v u) (hM : ∀ c, c < w.heap.size → M' c → M c) : RelU M' w v u := h.mono (Nat.le_refl _) (fun _ _ _ => rfl) hM

/-- A receiver: a reference to an owned struct of pure cells. -/
inductive IsRecv (b s : Nat) : D → Prop
  | ref : IsRecv b s (.ref b s 0 0)
  | pref (c k : Nat) : IsRecv b s (.pref b s 0 0 c k)

theorem callr_ok {f : FuncId} {b s : Nat} {x0 : Opd} {xs : List Opd} {cells cells' us : List U} {r : U} (h0 : IsRecv b s (st.ev x0)) (hb : st.H b = some (.drow s [cells.map D.u])) (hx : allU (xs.map st.ev) = some us) (hp : PCr P f s cells us r cells') :
    ∀ o : Oper, okOp P o.op (.ca f (x0 :: xs)) = true → (∀ t, o.dst = some t → t < n) → OpOK P n o st { d := .u r, up := [(b, .drow s [cells'.map D.u])] } := by
  intro o hc hd
  obtain ⟨hbody, hl1, hl2, hp⟩ := hp
  cases hop : o.op <;> simp [okOp, hop] at hc
  rename_i cl
  obtain ⟨callee, args, ts⟩ := cl
  cases callee with
  | builtin bi => simp [okCall] at hc; cases bi <;> simp [okBuiltin] at hc
  | invoke r m => simp [okCall] at hc
  | value x =>
    simp only [okCall] at hc
    cases x <;> simp [okCallee] at hc
    rename_i f'
    obtain ⟨rfl, hc⟩ := hc
    refine OpOK.of fun w0 M0 ρ a w Q hh => ?_
    obtain ⟨r1, r2⟩ := opds_rel_arr hh hc
    have hrecv := r2 0 (by simp)
    simp only [List.map_cons, List.getD_cons_zero] at hrecv
    obtain ⟨c, k, hv0, hρ⟩ : ∃ c k, (args.map a.eval).getD 0 undef = .pointer (some ⟨c, 0, none⟩) ∧ ρ b = some (some c, k) := by
      generalize hd0 : st.ev x0 = d0 at h0 hrecv
      cases h0 with
      | ref => obtain ⟨c, k, h1, h2⟩ := hrecv.ref_inv; exact ⟨c, k, by simpa using h1, h2⟩
      | pref c k => obtain ⟨h1, h2⟩ := hrecv.pref_inv; exact ⟨c, k, by simpa using h1, h2⟩
    have hown := hh.heap.own b c k hρ
    obtain ⟨c1, k1, g1, g2⟩ := hh.heap.obj b _ hb
    rw [hρ] at g1
    injection g1 with g1
    injection g1 with g1 g1'
    subst g1; subst g1'
    cases g2 with
    | cells c k _ cur E hw hsz hlen hk hm he h1c hr =>
      simp only [MObj.len, MObj.size, List.length_cons, List.length_nil] at hlen hsz
      let F' : Nat → Prop := fun x => ρ.M x ∧ x ≠ c
      have hcM : ρ.M c := .inl ⟨b, k, hρ⟩
      have sub1 : ∀ x, orB F' c x → ρ.M x := by
        rintro x (rfl | h)
        · exact hcM
        · exact h.1
      have sub2 : ∀ x, ρ.M x → orB F' c x := by
        intro x h
        by_cases hxc : x = c
        · exact .inl hxc
        · exact .inr ⟨h, hxc⟩
      have hMlt : ∀ x, F' x → x < w.heap.size := by
        rintro x ⟨h, _⟩
        rcases h with ⟨b', k', hb'⟩ | hf
        · exact (hh.heap.own b' x k' hb').1
        · exact Nat.lt_of_lt_of_le (hh.heap.far x hf).1 hh.frame.size
      have blk : Blk (orB F' c) w c k s cells cur E := by
        refine ⟨hw, hsz, fun i hi => ⟨?_, ?_⟩⟩
        · have := h1c 0 i (by simp [MObj.len]) hi
          simpa [MObj.size] using this
        · have := hr 0 i (by simp [MObj.len]) hi
          simp only [MObj.size, MObj.elem, List.getD_cons_zero, Nat.zero_mul, Nat.zero_add] at this
          rw [getD_map_u (by rw [hl1]; exact hi)] at this
          exact this.u_inv.sub (fun x _ h => sub1 x h)
      obtain ⟨q1, q2⟩ := rel_us (cs := (args.map a.eval).extract 1 (args.map a.eval).size) (ds := xs.map st.ev) (us := us) (by
        refine ⟨by simp at r1 ⊢; omega, fun i hi => ?_⟩
        have := r2 (i + 1) (by simpa using hi)
        simp only [List.map_cons, List.getD_cons_succ] at this
        have e : ((args.map a.eval).extract 1 (args.map a.eval).size).getD i undef = (args.map a.eval).getD (i + 1) undef := by
          have hi' : i + 1 < (args.map a.eval).size := by simp at r1 hi ⊢; omega
          simp only [Array.getD_eq_getD_getElem?, Array.getElem?_extract]
          rw [if_pos (by omega), Nat.add_comm 1 i]
        rw [e]; exact this) hx
      have hargs : args.map a.eval = #[.pointer (some ⟨c, 0, none⟩)] ++ (args.map a.eval).extract 1 (args.map a.eval).size := by
        have hs : 0 < (args.map a.eval).size := by simp at r1 ⊢; omega
        apply Array.ext'
        simp only [Array.toList_append, Array.toList_extract, List.extract_eq_take_drop]
        have : (args.map a.eval).toList = (args.map a.eval)[0] :: (args.map a.eval).toList.drop 1 := by
          rw [← Array.getElem_toList]
          have := List.drop_eq_getElem_cons (l := (args.map a.eval).toList) (i := 0) (by simpa using hs)
          simpa only [List.drop_zero] using this
        have h00 : (args.map a.eval)[0] = .pointer (some ⟨c, 0, none⟩) := by
          rw [← hv0, Array.getD_eq_getD_getElem?, Array.getElem?_eq_getElem hs]; rfl
        rw [this, h00]
        simp
        rw [List.take_of_length_le (by simp)]
      have hcall := hp F' w c k cur E _ hMlt (fun h => h.2 rfl) (by omega) hk blk q1 (fun i hi => (q2 i hi).sub (fun x _ h => sub1 x h))
      rw [← hargs] at hcall
      unfold Oper.wp
      have hrun : (execOp a.eval o).run P w = .ok (.enter f' (args.map a.eval)) w := by simp [execOp, hop, resolve, Act.eval, Deferred.ofValue, invoke, enter_run hbody]
      rw [hrun]
      show Calls P f' (args.map a.eval) w _
      refine hcall.mono ?_
      rintro e' w' ⟨v, cur', E', rfl, hv, hblk', hF⟩
      have hbnx : b < st.nx := by
        rcases Nat.lt_or_ge b st.nx with h | h
        · exact h
        · have := hh.heap.fresh b h; rw [hb] at this; cases this
      have upM : ∀ x, Rho.M (ρ.upd b (some (some c, k))) x → orB F' c x := by
        rintro x (⟨b', y, hy⟩ | hfar)
        · refine sub2 x ?_
          by_cases hbb : b' = b
          · subst hbb; rw [Rho.upd_same] at hy; injection hy with hy; injection hy with hy1 hy2; injection hy1 with hy1; subst hy1; exact hcM
          · rw [Rho.upd_ne _ _ _ hbb] at hy; exact .inl ⟨b', y, hy⟩
        · exact sub2 x (.inr hfar)
      refine hh.upd1 o.dst hd v { d := .u r, up := [(b, .drow s [cells'.map D.u])] } b _ rfl (.inl rfl) (.inl hbnx) w' (some c) k ⟨hF.os, hF.tape, hF.output⟩ hF.size (fun c2 hc2 hne => hF.block c2 hc2 (by rintro rfl; exact hne k hρ)) (fun x hx => ?_) (.inr (.inr hρ)) (fun rk rn ru => ⟨?_, .u (hv.sub (fun x _ h => upM x h))⟩)
      · injection hx with hx; subst hx
        exact ⟨Nat.lt_of_lt_of_le hown.1 hF.size, .inl ⟨k, hρ⟩⟩
      · refine .cells c k _ cur' E' hblk'.at_ (by simpa [MObj.size] using hblk'.size) (by simp [MObj.len]; omega) hk (fun es => by simp) (fun i hi => ?_) (fun i j hi hj => ?_) (fun i j hi hj => ?_)
        · have : i = 0 := by simp [MObj.len] at hi; omega
          subst this; simp [MObj.elem, MObj.size, hl2]
        · have : i = 0 := by simp [MObj.len] at hi; omega
          subst this
          have := (hblk'.rel j hj).1
          simpa [MObj.size] using this
        · have : i = 0 := by simp [MObj.len] at hi; omega
          subst this
          have := (hblk'.rel j hj).2
          simp only [MObj.size, MObj.elem, List.getD_cons_zero, Nat.zero_mul, Nat.zero_add]
          rw [getD_map_u (by rw [hl2]; exact hj)]
          exact .u (this.sub (fun x _ h => upM x h))

section
variable {L : List (Nat × D)} {O : List (Nat × MObj)} {nx : Nat} {l : List AOp} {g : Option (Nat × Bool)} {t : Nat}
/-- A call of a method that writes its receiver. -/
theorem S_callr {f : FuncId} {b s : Nat} {x0 : Opd} {xs : List Opd} {d0 : D} {ds ds' : List D} {cells cells' us : List U} {r : U} (hg : gdL L g) (h0 : evL L x0 = d0) (hr0 : IsRecv b s d0) (hb : objs O b = some (.drow s [ds])) (hds : ds = cells.map D.u) (hx : allU (xs.map (evL L)) = some us) (hp : PCr P f s cells us r cells') (hds' : cells'.map D.u = ds')
    (h : Rs P n Q fs l (mkSt ((t, .u r) :: L) ((b, .drow s [ds']) :: O) nx)) : Rs P n Q fs (⟨some t, g, .ca f (x0 :: xs)⟩ :: l) (mkSt L O nx) := by
  subst hds; subst hds'
  refine Rs_sem (e := { d := .u r, up := [(b, .drow s [cells'.map D.u])] }) (gdL_gdo hg) (callr_ok (by rw [evL_eq, h0]; exact hr0) hb (by rw [evL_fun]; exact hx) hp) ?_
  have : (mkSt L O nx).app (some t) { d := .u r, up := [(b, .drow s [cells'.map D.u])] } = mkSt ((t, .u r) :: L) ((b, .drow s [cells'.map D.u]) :: O) nx := by simp [St.app, St.killO, updH, St.put, mkSt]; exact ⟨rfl, rfl⟩
  rw [this]; exact h
end

/-! ### From a run to the contract -/
/-- All objects but the receiver. -/
def hid0 (H : Nat → Option MObj) : Nat → Option MObj := fun b => if b = 0 then none else H b
def retQr (ts : List Nat) (r : U) (s : Nat) (cells' : List U) (c k : Nat) (st : St) : Prop := (∃ x, frz (hid0 st.H) 40 (resD st ts) = some x ∧ Nq x r) ∧ st.σ 0 = .pref 0 s 0 0 c k ∧ st.H 0 = some (.drow s [cells'.map D.u])
def retQR (ts : List Nat) (r : U) (s : Nat) (cells' : List U) (c k : Nat) : Exit → St → Prop
  | .normal, st => retQr ts r s cells' c k st
  | .ret, st => retQr ts r s cells' c k st
  | _, _ => False

theorem PCr_run {f : FuncId} {fc : FC} (hok : okF P f fc = true) {args cells cells' : List U} {s : Nat} (hn : Nat.ble (args.length + 1) fc.n = true) (hl : cells.length = s) (hl' : cells'.length = s) {ds : List D} (hds : cells.map D.u = ds) {L : List (Nat × D)} (hL : argRegs 1 args = L) {r : U}
    (h : ∀ c k, Run P fc.n (retQR fc.rs r s cells' c k) [] fc.c (mkSt ((0, .pref 0 s 0 0 c k) :: L) [(0, .drow s [ds])] 1)) : PCr P f s cells args r cells' := by
  subst hL; subst hds
  have hn : args.length + 1 ≤ fc.n := Nat.le_of_ble_eq_true hn
  unfold okF at hok
  cases hfn : P.funcs[f]? with
  | none => simp [hfn] at hok
  | some fn =>
    simp only [hfn, Bool.and_eq_true, bne_iff_ne, beq_iff_eq] at hok
    obtain ⟨⟨⟨h1, h2⟩, h3⟩, h4⟩ := hok
    cases hb : fn.body with
    | none => simp [hb] at h4
    | some cd =>
      simp only [hb] at h4
      refine ⟨by simp [hasBody, hfn, h1, hb], hl, hl', fun F w c k cur E vs hF hFc hk1 hk2 blk hs hv => ?_⟩
      refine calls_of_wp hfn hb ?_
      rw [h2]
      have hlt : c < w.heap.size := (Array.getElem?_eq_some_iff.1 blk.at_).1
      have hM : ∀ x, Rho.M ⟨fun b => if b = 0 then some (some c, k) else none, F⟩ x → orB F c x := by
        rintro x (⟨b, y, hy⟩ | hf)
        · have hy : (if b = 0 then some (some c, k) else none) = some (some x, y) := hy
          split at hy
          · injection hy with hy; injection hy with hy1 _; injection hy1 with hy1; exact .inl hy1.symm
          · cases hy
        · exact .inr hf
      have hM' : ∀ x, orB F c x → Rho.M ⟨fun b => if b = 0 then some (some c, k) else none, F⟩ x := by
        rintro x (rfl | hf)
        · exact .inl ⟨0, k, rfl⟩
        · exact .inr hf
      have hst : Holds fc.n w (fun x => x = c) F (mkSt ((0, .pref 0 s 0 0 c k) :: argRegs 1 args) [(0, .drow s [cells.map D.u])] 1) { tmps := (#[Value.pointer (some ⟨c, 0, none⟩)] ++ vs) ++ Array.replicate (fc.n - (#[Value.pointer (some ⟨c, 0, none⟩)] ++ vs).size) undef, defers := [] } w := by
        refine ⟨⟨fun b => if b = 0 then some (some c, k) else none, F⟩, rfl, rfl, by simp; omega, Frame0.refl _ _, ⟨fun b hb' => ?_, fun b o hb' => ?_, fun b c' k' hb' => ?_, fun b b' c' k' k'' hb' hb'' => ?_, fun b hb' => ?_, fun x hx => ⟨hF x hx, by rintro rfl; exact hFc hx⟩⟩, fun t => ?_⟩
        · have hb' : objs [(0, .drow s [cells.map D.u])] b = none := hb'
          simp only [objs] at hb'
          split at hb'
          · cases hb'
          · rename_i hne; exact if_neg hne
        · have hb' : objs [(0, .drow s [cells.map D.u])] b = some o := hb'
          simp only [objs] at hb'
          split at hb'
          · rename_i he; subst he
            injection hb' with hb'; subst hb'
            refine ⟨some c, k, rfl, .cells c k _ cur E blk.at_ (by simpa [MObj.size] using blk.size) (by simp [MObj.len]; omega) hk2 (fun es => by simp) (fun i hi => ?_) (fun i j hi hj => ?_) (fun i j hi hj => ?_)⟩
            · have : i = 0 := by simp [MObj.len] at hi; omega
              subst this; simp [MObj.elem, MObj.size, hl]
            · have : i = 0 := by simp [MObj.len] at hi; omega
              subst this
              simpa [MObj.size] using (blk.rel j hj).1
            · have : i = 0 := by simp [MObj.len] at hi; omega
              subst this
              have := (blk.rel j hj).2
              simp only [MObj.size, MObj.elem, List.getD_cons_zero, Nat.zero_mul, Nat.zero_add]
              rw [getD_map_u (by rw [hl]; exact hj)]
              exact .u (this.sub (fun x _ h => hM x h))
          · cases hb'
        · have hb' : (if b = 0 then some (some c, k) else none) = some (some c', k') := hb'
          split at hb'
          · injection hb' with hb'; injection hb' with e1 _; injection e1 with e1; subst e1; exact ⟨hlt, .inl rfl⟩
          · cases hb'
        · have hb' : (if b = 0 then some (some c, k) else none) = some (some c', k') := hb'
          have hb'' : (if b' = 0 then some (some c, k) else none) = some (some c', k'') := hb''
          split at hb'
          · split at hb''
            · rename_i e1 e2; rw [e1, e2]
            · cases hb''
          · cases hb'
        · show objs [(0, .drow s [cells.map D.u])] b = none
          have hb' : 1 ≤ b := hb'
          simp only [objs]; rw [if_neg (by omega)]
        · show Rel _ w _ (regs ((0, .pref 0 s 0 0 c k) :: argRegs 1 args) t)
          simp only [regs]
          split
          · rename_i ht; subst ht
            have : (((#[Value.pointer (some ⟨c, 0, none⟩)] ++ vs) ++ Array.replicate (fc.n - (#[Value.pointer (some ⟨c, 0, none⟩)] ++ vs).size) undef).getD 0 undef) = .pointer (some ⟨c, 0, none⟩) := by
              simp [Array.getD_eq_getD_getElem?, Array.getElem?_append]
            rw [this]
            exact .pref 0 s 0 0 c k 0 rfl (by simp)
          · rename_i ht
            rw [argRegs_at]
            split
            · rename_i ht2
              have e : (((#[Value.pointer (some ⟨c, 0, none⟩)] ++ vs) ++ Array.replicate (fc.n - (#[Value.pointer (some ⟨c, 0, none⟩)] ++ vs).size) undef).getD t undef) = vs.getD (t - 1) undef := by
                have h1 : t - 1 < vs.size := by omega
                obtain ⟨m, rfl⟩ : ∃ m, t = m + 1 := ⟨t - 1, by omega⟩
                rw [arr_getD, arr_getD]
                simp only [Array.toList_append, List.cons_append, List.nil_append, Nat.add_sub_cancel] at h1 ⊢
                rw [List.getD_cons_succ, getD_app, if_pos (by simpa using h1)]
              rw [e]
              exact .u ((hv (t - 1) (by omega)).sub (fun x _ h => hM x h))
            · exact .any _
      refine wp_mono (h c k cd h4 w (fun x => x = c) F _ w hst) ?_
      rintro e a' w' ⟨st', q, ρ, hρF, hh⟩
      have fin : retQr fc.rs r s cells' c k st' → a'.defers = [] ∧ ∃ v, (results fn a'.tmps).run P w' = .ok v w' ∧ ∃ v' cur' E', Ending.returned v = .returned v' ∧ RelU (orB F c) w' v' r ∧ Blk (orB F c) w' c k s cells' cur' E' ∧ Frame0 w (fun x => x = c) w' := by
        rintro ⟨⟨x, hx, hq⟩, hσ, hH⟩
        have hr0 := hh.regs 0
        rw [hσ] at hr0
        obtain ⟨_, hρ0⟩ := hr0.pref_inv
        obtain ⟨c1, k1, g1, g2⟩ := hh.heap.obj 0 _ hH
        rw [hρ0] at g1
        injection g1 with g1
        injection g1 with g1 g1'
        subst g1; subst g1'
        have hMc : ∀ x, orB F c x → ρ.M x := by
          rintro x (rfl | hf)
          · exact .inl ⟨0, k, hρ0⟩
          · exact .inr (by rw [hρF]; exact hf)
        cases g2 with
        | cells c k _ cur' E' hw hsz hlen hk hm he h1c hr =>
          have hown : ∀ b c2 k2, (hid0 st'.H b).isSome = true → ρ b = some (some c2, k2) → ¬ orB F c c2 := by
            intro b c2 k2 hs2 hb2 hf
            have hb0 : b ≠ 0 := by
              rintro rfl
              simp [hid0] at hs2
            rcases hf with rfl | hf
            · exact hb0 (hh.heap.inj b 0 _ k2 _ hb2 hρ0)
            · rcases (hh.heap.own b c2 k2 hb2).2 with h | h
              · subst h; exact hFc hf
              · have := hF c2 hf; omega
          have res : RelU (orB F c) w' (resV a'.tmps fc.rs) x := by
            refine (frz_rel hh.heap (M' := orB F c) (fun b m h => by
              unfold hid0 at h; split at h
              · cases h
              · exact h) hMc hown 40).1 _ _ x ?_ hx
            match hrs : fc.rs with
            | [t] => exact hh.regs t
            | [] => exact mkTup_rel (cs := #[]) (l := []) rfl (fun i hi => absurd hi (by simp))
            | t1 :: t2 :: l =>
              refine mkTup_rel (cs := (((t1 :: t2 :: l).map fun t => a'.tmps.getD t undef).toArray)) (l := ((t1 :: t2 :: l).map st'.σ)) (by simp [List.length_map]) (fun i hi => ?_)
              have hi' : i < (t1 :: t2 :: l).length := by simpa using hi
              have e1 : (((t1 :: t2 :: l).map fun t => a'.tmps.getD t undef).toArray).getD i undef = a'.tmps.getD ((t1 :: t2 :: l)[i]) undef := by
                rw [arr_getD, getD_lt _ (by simpa using hi')]
                simp only [List.getElem_map]
              have e2 : ((t1 :: t2 :: l).map st'.σ).getD i .any = st'.σ ((t1 :: t2 :: l)[i]) := by
                rw [getD_lt _ (by simpa using hi')]
                simp only [List.getElem_map]
              rw [e1, e2]; exact hh.regs _
          refine ⟨hh.defers, _, results_run h3 _ _, _, cur', E', rfl, hq.rel res, ⟨hw, by simpa [MObj.size] using hsz, fun i hi => ⟨?_, ?_⟩⟩, hh.frame⟩
          · have := h1c 0 i (by simp [MObj.len]) hi
            simpa [MObj.size] using this
          · have := hr 0 i (by simp [MObj.len]) hi
            simp only [MObj.size, MObj.elem, List.getD_cons_zero, Nat.zero_mul, Nat.zero_add] at this
            rw [getD_map_u (by rw [hl']; exact hi)] at this
            exact this.u_inv.sub (fun x _ h => hMc x h)
      cases e with
      | normal => exact fin q
      | ret => exact fin q
      | _ => exact q.elim

section
variable {L : List (Nat × D)} {O : List (Nat × MObj)} {nx : Nat}
theorem O_ncp {x : Opd} {b s i off c k : Nat} (hx : evL L x = .pref b s i off c k) : opVC P (.nc x) (evL L) (objs O) nx (fun e => e = { d := .ref b s i off }) := by simp only [opVC, hx]
theorem Q_retR {ts : List Nat} {r x : U} {d : D} {s c k : Nat} {cells' : List U} {ds' : List D} (hd : resD (mkSt L O nx) ts = d) (hf : frz (hid0 (objs O)) 40 d = some x) (hq : Nq x r) (h0 : regs L 0 = .pref 0 s 0 0 c k) (ho : objs O 0 = some (.drow s [ds'])) (hds : cells'.map D.u = ds') :
    den P n (retQR ts r s cells' c k) fs .ret (mkSt L O nx) :=
  D_ret (show retQr ts r s cells' c k (mkSt L O nx) from ⟨⟨x, by show frz (hid0 (objs O)) 40 _ = _; rw [hd]; exact hf, hq⟩, h0, by rw [hds]; exact ho⟩) fs
theorem Q_endR {ts : List Nat} {r x : U} {d : D} {s c k : Nat} {cells' : List U} {ds' : List D} (hd : resD (mkSt L O nx) ts = d) (hf : frz (hid0 (objs O)) 40 d = some x) (hq : Nq x r) (h0 : regs L 0 = .pref 0 s 0 0 c k) (ho : objs O 0 = some (.drow s [ds'])) (hds : cells'.map D.u = ds') :
    den P n (retQR ts r s cells' c k) [] .normal (mkSt L O nx) :=
  show retQr ts r s cells' c k (mkSt L O nx) from ⟨⟨x, by show frz (hid0 (objs O)) 40 _ = _; rw [hd]; exact hf, hq⟩, h0, by rw [hds]; exact ho⟩
end
end

/-! ### Functions that call themselves -/
open Classical in
/-- The result at the first depth that gives one. -/
noncomputable def supO {ρ : Type} (f : Nat → Option ρ) : Option ρ := if h : ∃ k r, f k = some r then some (Classical.choose (Classical.choose_spec h)) else none
theorem supO_some {ρ : Type} {f : Nat → Option ρ} {r : ρ} (h : supO f = some r) : ∃ k, f k = some r := by
  unfold supO at h
  split at h
  · rename_i hex
    injection h with h
    exact ⟨Classical.choose hex, by rw [← h]; exact Classical.choose_spec (Classical.choose_spec hex)⟩
  · cases h
theorem supO_of {ρ : Type} {f : Nat → Option ρ} {r : ρ} (hu : ∀ k r', f k = some r' → r' = r) {k : Nat} (h : f k = some r) : supO f = some r := by
  unfold supO
  have hex : ∃ k r, f k = some r := ⟨k, r, h⟩
  rw [dif_pos hex, hu _ _ (Classical.choose_spec (Classical.choose_spec hex))]
end Go.Proofs.Ytkpghgnbbfpbmaa
