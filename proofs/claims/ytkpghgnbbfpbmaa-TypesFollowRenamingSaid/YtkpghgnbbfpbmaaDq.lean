/- Regions that draw their order: a run in the order of the text serves every order, if what no order binds is apart. -/
import Derived.Test.YtkpghgnbbfpbmaaDp
import Derived.Orders
set_option linter.unusedSimpArgs false
set_option linter.unusedVariables false
namespace Go.Proofs.Ytkpghgnbbfpbmaa

/-! ### What an operation looks at -/
def AO.opds : AO → List Opd
  | .mv x => [x]
  | .nc x => [x]
  | .pk c a b => [c, a, b]
  | .un _ x => [x]
  | .bi _ x y => [x, y]
  | .bb _ x y => [x, y]
  | .cv _ x => [x]
  | .ld _ _ a => [a]
  | .st _ a x => [a, x]
  | .fa _ x => [x]
  | .fl _ _ _ x => [x]
  | .ia _ x i => [x, i]
  | .sx x i => [x, i]
  | .al _ => []
  | .bx x => [x]
  | .bs _ xs => xs
  | .bd _ ps => ps.map (·.2.2)
  | .mk _ _ _ l c => [l, c]
  | .sl _ x lo hi => x :: (lo.toList ++ hi.toList)
  | .ss x lo hi => x :: (lo.toList ++ hi.toList)
  | .mf _ fs cs => fs ++ cs
  | .ex x _ => [x]
  | .ln x => [x]
  | .sn x => [x]
  | .ap _ _ x y => [x, y]
  | .mn xs => xs
  | .mx xs => xs
  | .ca _ xs => xs
  | .cl x xs => x :: xs

/-- A call is handed pure data alone. -/
def pureCall (ao : AO) (ev : Ev) : Prop := match ao with
  | .ca _ xs => (allU (xs.map ev)).isSome = true
  | .cl _ xs => (allU (xs.map ev)).isSome = true
  | _ => True

theorem map_ev {ev ev' : Ev} {xs : List Opd} (h : ∀ y ∈ xs, ev' y = ev y) : xs.map ev' = xs.map ev := List.map_congr_left h

theorem bdGo_ev {ev ev' : Ev} : ∀ (ps : List (Nat × Nat × Opd)) (cells : List D), (∀ y ∈ ps.map (·.2.2), ev' y = ev y) → opVC.bdGo ev' cells ps = opVC.bdGo ev cells ps
  | [], _, _ => rfl
  | (off, n, x) :: ps, cells, h => by
    simp only [opVC.bdGo]
    rw [h x (by simp)]
    have ih := fun c => bdGo_ev ps c (fun y hy => h y (by simp at hy ⊢; exact .inr hy))
    cases (ev x).cells with
    | none => rfl
    | some xs => simp only [ih]

/-- Does it look at what stands in an object? -/
def AO.looksH : AO → Bool
  | .ld _ _ _ => true
  | .st _ _ _ => true
  | .ia _ _ _ => true
  | .ap _ _ _ _ => true
  | _ => false
theorem opVC_local {P : Program} {ao : AO} {ev ev' : Ev} {H H' : Nat → Option MObj} {fr : Nat} {K : Eff → Prop} (he : ∀ y ∈ ao.opds, ev' y = ev y) (hH0 : ao.looksH = true → ∀ y ∈ ao.opds, ∀ b ∈ (ev y).ids, H' b = H b) (hp : pureCall ao ev) (h : opVC P ao ev H fr K) : opVC P ao ev' H' fr K := by
  cases ao with
  | ld ag n a =>
    have hH := hH0 rfl
    have e1 := he a (by simp [AO.opds])
    have e2 := hH a (by simp [AO.opds])
    simp only [opVC] at h ⊢
    rw [e1]
    cases hx : ev a with
    | ref b s i off => rw [hx] at h e2; simp only at h ⊢; rw [e2 b (by simp [D.ids])]; exact h
    | u x => rw [hx] at h; cases x <;> exact h
    | _ => rw [hx] at h; exact h
  | st n a x =>
    have hH := hH0 rfl
    have e1 := he a (by simp [AO.opds])
    have e2 := hH a (by simp [AO.opds])
    have e3 := he x (by simp [AO.opds])
    simp only [opVC] at h ⊢
    rw [e1, e3]
    cases hx : ev a with
    | ref b s i off => rw [hx] at h e2; simp only at h ⊢; rw [e2 b (by simp [D.ids])]; exact h
    | _ => rw [hx] at h; exact h
  | ia s x i =>
    have hH := hH0 rfl
    have e1 := he x (by simp [AO.opds])
    have e2 := hH x (by simp [AO.opds])
    have e3 := he i (by simp [AO.opds])
    simp only [opVC] at h ⊢
    rw [e1, e3]
    cases hx : ev x with
    | msl b m =>
      rw [hx] at h e2
      have e := e2 b (by simp [D.ids])
      cases hi : ev i with
      | u z =>
        rw [hi] at h
        cases z with
        | int k q => simp only at h ⊢; rw [e]; exact h
        | _ => exact h
      | _ => rw [hi] at h; exact h
    | u z =>
      rw [hx] at h
      cases hi : ev i with
      | u q => rw [hi] at h; cases z <;> cases q <;> exact h
      | _ => rw [hi] at h; cases z <;> exact h
    | _ => rw [hx] at h; exact h
  | ap s bytes x y =>
    have hH := hH0 rfl
    have e1 := he x (by simp [AO.opds])
    have e2 := hH x (by simp [AO.opds])
    have e3 := he y (by simp [AO.opds])
    have e4 := hH y (by simp [AO.opds])
    have hsrc : opVC.appSrc H' s (ev y) = opVC.appSrc H s (ev y) := by
      cases hy : ev y with
      | msl b m => rw [hy] at e4; simp only [opVC.appSrc]; rw [e4 b (by simp [D.ids])]
      | u x => cases x <;> rfl
      | _ => rfl
    simp only [opVC] at h ⊢
    rw [e1, e3, hsrc]
    cases hn : opVC.appSrc H s (ev y) with
    | none => rw [hn] at h; exact h
    | some news =>
      rw [hn] at h
      cases hx : ev x with
      | msl b m => rw [hx] at h e2; simp only at h ⊢; rw [e2 b (by simp [D.ids])]; exact h
      | u z => rw [hx] at h; cases z <;> exact h
      | _ => rw [hx] at h; exact h
  | ca g xs =>
    have e1 := map_ev (xs := xs) he
    simp only [pureCall] at hp
    obtain ⟨us, hu⟩ := Option.isSome_iff_exists.1 hp
    simp only [opVC, frzA, hu] at h
    simp only [opVC, frzA, e1, hu]
    exact h
  | cl x xs =>
    have e1 := map_ev (ev := ev) (ev' := ev') (xs := xs) (fun y hy => he y (by simp [AO.opds, hy]))
    have e2 := he x (by simp [AO.opds])
    simp only [pureCall] at hp
    obtain ⟨us, hu⟩ := Option.isSome_iff_exists.1 hp
    simp only [opVC, frzA, hu] at h
    simp only [opVC, frzA, e1, e2, hu]
    exact h
  | bs s xs => simp only [opVC] at h ⊢; rw [map_ev (xs := xs) he]; exact h
  | mn xs => simp only [opVC] at h ⊢; rw [map_ev (xs := xs) he]; exact h
  | mx xs => simp only [opVC] at h ⊢; rw [map_ev (xs := xs) he]; exact h
  | mf f fs cs =>
    simp only [opVC] at h ⊢
    rw [map_ev (xs := fs) (fun y hy => he y (by simp [AO.opds, hy])), map_ev (xs := cs) (fun y hy => he y (by simp [AO.opds, hy]))]; exact h
  | bd zs ps => simp only [opVC] at h ⊢; rw [bdGo_ev ps _ he]; exact h
  | sl s x lo hi =>
    have e1 := he x (by simp [AO.opds])
    cases lo with
    | none => cases hi with
      | none => simp only [opVC] at h ⊢; rw [e1]; exact h
      | some z => simp only [opVC] at h ⊢; rw [e1, he z (by simp [AO.opds])]; exact h
    | some y => cases hi with
      | none => simp only [opVC] at h ⊢; rw [e1, he y (by simp [AO.opds])]; exact h
      | some z => simp only [opVC] at h ⊢; rw [e1, he z (by simp [AO.opds]), he y (by simp [AO.opds])]; exact h
  | ss x lo hi =>
    have e1 := he x (by simp [AO.opds])
    cases lo with
    | none => cases hi with
      | none => simp only [opVC] at h ⊢; rw [e1]; exact h
      | some z => simp only [opVC] at h ⊢; rw [e1, he z (by simp [AO.opds])]; exact h
    | some y => cases hi with
      | none => simp only [opVC] at h ⊢; rw [e1, he y (by simp [AO.opds])]; exact h
      | some z => simp only [opVC] at h ⊢; rw [e1, he z (by simp [AO.opds]), he y (by simp [AO.opds])]; exact h
  | al zs => exact h
  | pk c a b => simp only [opVC] at h ⊢; rw [he c (by simp [AO.opds]), he a (by simp [AO.opds]), he b (by simp [AO.opds])]; exact h
  | bi op x y => simp only [opVC] at h ⊢; rw [he x (by simp [AO.opds]), he y (by simp [AO.opds])]; exact h
  | bb op x y => simp only [opVC] at h ⊢; rw [he x (by simp [AO.opds]), he y (by simp [AO.opds])]; exact h
  | sx x y => simp only [opVC] at h ⊢; rw [he x (by simp [AO.opds]), he y (by simp [AO.opds])]; exact h
  | mk s b zs x y => simp only [opVC] at h ⊢; rw [he x (by simp [AO.opds]), he y (by simp [AO.opds])]; exact h
  | mv x => simp only [opVC] at h ⊢; rw [he x (by simp [AO.opds])]; exact h
  | nc x => simp only [opVC] at h ⊢; rw [he x (by simp [AO.opds])]; exact h
  | un op x => simp only [opVC] at h ⊢; rw [he x (by simp [AO.opds])]; exact h
  | cv k x => simp only [opVC] at h ⊢; rw [he x (by simp [AO.opds])]; exact h
  | fa o x => simp only [opVC] at h ⊢; rw [he x (by simp [AO.opds])]; exact h
  | fl a o n x => simp only [opVC] at h ⊢; rw [he x (by simp [AO.opds])]; exact h
  | bx x => simp only [opVC] at h ⊢; rw [he x (by simp [AO.opds])]; exact h
  | ex x i => simp only [opVC] at h ⊢; rw [he x (by simp [AO.opds])]; exact h
  | ln x => simp only [opVC] at h ⊢; rw [he x (by simp [AO.opds])]; exact h
  | sn x => simp only [opVC] at h ⊢; rw [he x (by simp [AO.opds])]; exact h

/-! ### One operation with what it touches, and two that are apart -/
def kd (k : Option Nat) (d : D) : D := match k with
  | none => d
  | some b => d.kill b
def km (k : Option Nat) (m : MObj) : MObj := match k with
  | none => m
  | some b => m.kill b
theorem kill_id {b : Nat} {d : D} (h : b ∉ d.ids) : d.kill b = d := by
  unfold D.kill
  cases hb : d.has b with
  | false => rfl
  | true => exact absurd (has_ids b d hb) h
theorem idsL_mem {b : Nat} {d : D} : ∀ {l : List D}, d ∈ l → b ∈ d.ids → b ∈ D.idsL l
  | [], h, _ => by simp at h
  | e :: l, h, hb => by
    simp only [D.idsL, List.mem_append]
    rcases List.mem_cons.1 h with rfl | h
    · exact .inl hb
    · exact .inr (idsL_mem h hb)
theorem mkill_id {b : Nat} {m : MObj} (h : b ∉ m.ids) : m.kill b = m := by
  cases m with
  | row s els => rfl
  | map es => rfl
  | drow s els =>
    simp only [MObj.kill, MObj.drow.injEq, true_and]
    simp only [MObj.ids, List.mem_flatMap, not_exists, not_and] at h
    have : ∀ l ∈ els, l.map (D.kill b) = l := by
      intro l hl
      have : ∀ d ∈ l, d.kill b = id d := fun d hd => kill_id (fun hb => h l hl (idsL_mem hd hb))
      rw [List.map_congr_left this]; simp
    rw [List.map_congr_left (g := id) (fun l hl => this l hl)]; simp
theorem kd_id {k : Option Nat} {d : D} (h : ∀ b, k = some b → b ∉ d.ids) : kd k d = d := by
  cases k with
  | none => rfl
  | some b => exact kill_id (h b rfl)
theorem km_id {k : Option Nat} {m : MObj} (h : ∀ b, k = some b → b ∉ m.ids) : km k m = m := by
  cases k with
  | none => rfl
  | some b => exact mkill_id (h b rfl)
theorem kill_comm (b c : Nat) (d : D) : (d.kill b).kill c = (d.kill c).kill b := by
  unfold D.kill
  cases h1 : d.has b <;> cases h2 : d.has c <;> simp [h1, h2, D.has]
theorem kd_comm (k k' : Option Nat) (d : D) : kd k (kd k' d) = kd k' (kd k d) := by
  cases k <;> cases k' <;> simp only [kd]
  exact kill_comm _ _ _
theorem km_comm (k k' : Option Nat) (m : MObj) : km k (km k' m) = km k' (km k m) := by
  cases k <;> cases k' <;> simp only [km]
  rename_i b c
  cases m <;> simp only [MObj.kill]
  simp only [List.map_map, MObj.drow.injEq, true_and]
  refine List.map_congr_left fun l _ => ?_
  simp only [Function.comp_apply, List.map_map]
  refine List.map_congr_left fun d _ => ?_
  simp only [Function.comp_apply]
  exact kill_comm _ _ _
theorem kd_u {k : Option Nat} {d : D} {x : U} (h : kd k d = .u x) : d = .u x := by
  cases k with
  | none => exact h
  | some b =>
    simp only [kd, D.kill] at h
    split at h
    · cases h
    · exact h
theorem kd_ne {k : Option Nat} {d : D} (h : kd k d ≠ .any) : kd k d = d := by
  cases k with
  | none => rfl
  | some b =>
    simp only [kd, D.kill] at h ⊢
    split
    · rename_i hb; simp [hb] at h
    · rfl

structure OpI where
  x : AOp
  fr : Nat
  T : List Nat
  E : List Nat
  W : List Nat
  e : Eff

def AOp.looks (x : AOp) : List Nat := (x.o.opds.filterMap fun
  | .t n => some n
  | .c _ => none) ++ (match x.g with
  | some (t, _) => [t]
  | none => [])
def okD (T : List Nat) (d : D) : Prop := d ≠ .any ∧ ∀ b ∈ d.ids, b ∈ T
/-- What it must find as it was; what falls away or is new. -/
def OpI.R (o : OpI) : List Nat := if o.x.o.looksH then o.T else []
def OpI.K (o : OpI) : List Nat := o.W.filter fun c => c == o.fr || o.e.kl == some c
def OpI.app (o : OpI) (st : St) : St := st.app o.x.d o.e

structure AS (P : Program) (o : OpI) (st : St) : Prop where
  run : (gdo st o.x.g ∧ opVC P o.x.o st.ev st.H o.fr (fun e => e = o.e) ∧ (∀ y ∈ o.x.o.opds, okD o.T (st.ev y)) ∧ pureCall o.x.o st.ev) ∨
    ((∃ t want, o.x.g = some (t, want) ∧ ((∃ b, st.σ t = .u (.bool b) ∧ (b == want) = false) ∨ st.σ t = .u (.tup []))) ∧ o.e = { d := .u (.tup []) })
  fresh : st.H o.fr = none
  closed : ∀ b ∈ o.W, ∀ m, st.H b = some m → ∀ c ∈ m.ids, c ∈ o.E
  ek : ∀ b, o.e.kl = some b → ∀ c m, st.H c = some m → b ∉ m.ids

structure OpI.ok (o : OpI) : Prop where
  te : ∀ b ∈ o.T, b ∈ o.E
  fe : o.fr ∈ o.E
  wt : ∀ b ∈ o.W, b ∈ o.T ∨ b = o.fr
  ed : ∀ c ∈ o.e.d.ids, c ∈ o.E
  up : o.e.up = [] ∨ ∃ b m, o.e.up = [(b, m)] ∧ b ∈ o.W ∧ ∀ c ∈ m.ids, c ∈ o.E
  ek : ∀ b, o.e.kl = some b → b ∈ o.W

structure Ind (o p : OpI) : Prop where
  k1 : ∀ c ∈ o.K, c ∉ p.E
  k2 : ∀ c ∈ p.K, c ∉ o.E
  r1 : ∀ c ∈ o.W, c ∉ p.R ∧ c ∉ p.W ∧ c ≠ p.fr
  r2 : ∀ c ∈ p.W, c ∉ o.R ∧ c ∉ o.W ∧ c ≠ o.fr
  s1 : ∀ d, o.x.d = some d → d ∉ p.x.looks ∧ p.x.d ≠ some d
  s2 : ∀ d, p.x.d = some d → d ∉ o.x.looks

theorem app_σ (o : OpI) (st : St) (t : Nat) : (o.app st).σ t = if o.x.d = some t then o.e.d else kd o.e.kl (st.σ t) := by
  have h1 : ∀ (s : St) (t : Nat), (s.put o.x.d o.e.d).σ t = if o.x.d = some t then o.e.d else s.σ t := by
    intro s t
    cases o.x.d with
    | none => simp [St.put]
    | some d =>
      simp only [St.put, upd, Option.some.injEq]
      by_cases h : t = d
      · rw [if_pos h, if_pos h.symm]
      · rw [if_neg h, if_neg (fun h' => h h'.symm)]
  simp only [OpI.app, St.app]
  rw [h1]
  split
  · rfl
  · cases o.e.kl <;> rfl
theorem app_H (o : OpI) (st : St) (c : Nat) : (o.app st).H c = updH (fun x => (st.H x).map (km o.e.kl)) o.e.up c := by
  have h1 : ∀ (s : St), (s.put o.x.d o.e.d).H = s.H := by intro s; cases o.x.d <;> rfl
  simp only [OpI.app, St.app]
  rw [h1]
  have : (st.killO o.e.kl).H = fun x => (st.H x).map (km o.e.kl) := by
    cases o.e.kl with
    | none => funext x; simp only [St.killO, km]; cases st.H x <;> rfl
    | some b => rfl
  simp only [this]
theorem app_nx (o : OpI) (st : St) : (o.app st).nx = if st.nx < o.e.nx then o.e.nx else st.nx := by
  simp only [OpI.app, St.app]
  cases o.x.d <;> (cases o.e.kl <;> rfl)
theorem St.ext {a b : St} (h1 : a.σ = b.σ) (h2 : a.H = b.H) (h3 : a.nx = b.nx) : a = b := by cases a; cases b; simp_all

section
variable {P : Program} {o p : OpI} {st : St}

/-- What is not written by o is as it was. -/
theorem H_same (ho : o.ok) (hs : AS P o st) {c : Nat} (hc : c ∉ o.W) : (o.app st).H c = st.H c := by
  rw [app_H]
  have hid : (st.H c).map (km o.e.kl) = st.H c := by
    cases hm : st.H c with
    | none => rfl
    | some m => simp only [Option.map_some]; rw [km_id (fun b hb => hs.ek b hb c m hm)]
  rcases ho.up with h | ⟨b, m, h, hb, _⟩
  · rw [h]; exact hid
  · rw [h]
    simp only [updH, upd]
    rw [if_neg (by rintro rfl; exact hc hb)]
    exact hid
theorem looks_opd {x : AOp} {n : Nat} (h : Opd.t n ∈ x.o.opds) : n ∈ x.looks := by
  unfold AOp.looks; rw [List.mem_append]; exact .inl (List.mem_filterMap.2 ⟨_, h, rfl⟩)
theorem looks_grd {x : AOp} {t : Nat} {want : Bool} (h : x.g = some (t, want)) : t ∈ x.looks := by
  unfold AOp.looks; rw [h]; simp

/-- p ahead of o. -/
theorem AS.back (ho : o.ok) (hp : p.ok) (hi : Ind o p) (h1 : AS P o st) (h2 : AS P p (o.app st)) : AS P p st := by
  have hK : ∀ b, p.e.kl = some b → b ∈ p.K := fun b hb => List.mem_filter.2 ⟨hp.ek b hb, by simp [hb]⟩
  have hR : p.x.o.looksH = true → ∀ b ∈ p.T, (o.app st).H b = st.H b := fun hl b hb => H_same ho h1 (fun hw => (hi.r1 b hw).1 (by unfold OpI.R; rw [if_pos hl]; exact hb))
  have hσ : ∀ t ∈ p.x.looks, (o.app st).σ t = kd o.e.kl (st.σ t) := by
    intro t ht
    rw [app_σ, if_neg]
    intro hd; exact (hi.s1 t hd).1 ht
  refine ⟨?_, ?_, fun b hb m hm c hc => h2.closed b hb m (by rw [H_same ho h1 (fun hw => (hi.r1 b hw).2.1 hb)]; exact hm) c hc, fun b hb c m hm => ?_⟩
  · rcases h2.run with ⟨g1, g2, g3, g4⟩ | ⟨⟨t, want, g1, g2⟩, g3⟩
    · left
      have hev : ∀ y ∈ p.x.o.opds, st.ev y = (o.app st).ev y := by
        intro y hy
        cases y with
        | c u => rfl
        | t n =>
          have hne := (g3 _ hy).1
          have e : (o.app st).ev (.t n) = kd o.e.kl (st.σ n) := hσ n (looks_opd hy)
          rw [e] at hne ⊢
          exact (kd_ne hne).symm
      refine ⟨?_, opVC_local hev (fun hl y hy b hb => (hR hl b ((g3 y hy).2 b hb)).symm) g4 g2, fun y hy => by rw [hev y hy]; exact g3 y hy, ?_⟩
      · cases hg : p.x.g with
        | none => trivial
        | some q =>
          obtain ⟨t, want⟩ := q
          rw [hg] at g1
          have g1 : (o.app st).σ t = .u (.bool want) := g1
          rw [hσ t (looks_grd hg)] at g1
          exact kd_u g1
      · cases hpo : p.x.o with
        | ca f xs =>
          rw [hpo] at g4 hev
          simp only [pureCall] at g4 ⊢
          rw [map_ev (xs := xs) hev]; exact g4
        | cl x xs =>
          rw [hpo] at g4 hev
          simp only [pureCall] at g4 ⊢
          rw [map_ev (xs := xs) (fun y hy => hev y (by simp [AO.opds, hy]))]; exact g4
        | _ => trivial
    · right
      refine ⟨⟨t, want, g1, ?_⟩, g3⟩
      rw [hσ t (looks_grd g1)] at g2
      rcases g2 with ⟨b, hb, hw⟩ | hb
      · exact .inl ⟨b, kd_u hb, hw⟩
      · exact .inr (kd_u hb)
  · have := h2.fresh
    rwa [H_same ho h1 (fun hw => (hi.r1 _ hw).2.2 rfl)] at this
  · by_cases hw : c ∈ o.W
    · intro hbm
      exact hi.k2 b (hK b hb) (h1.closed c hw m hm b hbm)
    · exact h2.ek b hb c m (by rw [H_same ho h1 hw]; exact hm)

/-- o behind p. -/
theorem AS.fore (ho : o.ok) (hp : p.ok) (hi : Ind o p) (h1 : AS P o st) (h2 : AS P p st) : AS P o (p.app st) := by
  have hKo : ∀ b, o.e.kl = some b → b ∈ o.K := fun b hb => List.mem_filter.2 ⟨ho.ek b hb, by simp [hb]⟩
  have hKp : ∀ b, p.e.kl = some b → b ∈ p.K := fun b hb => List.mem_filter.2 ⟨hp.ek b hb, by simp [hb]⟩
  have hR : o.x.o.looksH = true → ∀ b ∈ o.T, (p.app st).H b = st.H b := fun hl b hb => H_same hp h2 (fun hw => (hi.r2 b hw).1 (by unfold OpI.R; rw [if_pos hl]; exact hb))
  have hσ : ∀ t ∈ o.x.looks, (p.app st).σ t = kd p.e.kl (st.σ t) := by
    intro t ht
    rw [app_σ, if_neg]
    intro hd; exact hi.s2 t hd ht
  refine ⟨?_, ?_, fun b hb m hm c hc => h1.closed b hb m (by rw [← H_same hp h2 (fun hw => (hi.r2 b hw).2.1 hb)]; exact hm) c hc, fun b hb c m hm => ?_⟩
  · rcases h1.run with ⟨g1, g2, g3, g4⟩ | ⟨⟨t, want, g1, g2⟩, g3⟩
    · left
      have hev : ∀ y ∈ o.x.o.opds, (p.app st).ev y = st.ev y := by
        intro y hy
        cases y with
        | c u => rfl
        | t n =>
          have e : (p.app st).ev (.t n) = kd p.e.kl (st.σ n) := hσ n (looks_opd hy)
          rw [e]
          exact kd_id (fun b hb hbm => hi.k2 b (hKp b hb) (ho.te b ((g3 _ hy).2 b hbm)))
      refine ⟨?_, opVC_local hev (fun hl y hy b hb => hR hl b ((g3 y hy).2 b hb)) g4 g2, fun y hy => by rw [hev y hy]; exact g3 y hy, ?_⟩
      · cases hg : o.x.g with
        | none => trivial
        | some q =>
          obtain ⟨t, want⟩ := q
          rw [hg] at g1
          show (p.app st).σ t = _
          rw [hσ t (looks_grd hg), show st.σ t = .u (.bool want) from g1]
          exact kd_id (fun b _ hb => by simp [D.ids] at hb)
      · cases hpo : o.x.o with
        | ca f xs =>
          rw [hpo] at g4 hev
          simp only [pureCall] at g4 ⊢
          rw [map_ev (xs := xs) hev]; exact g4
        | cl x xs =>
          rw [hpo] at g4 hev
          simp only [pureCall] at g4 ⊢
          rw [map_ev (xs := xs) (fun y hy => hev y (by simp [AO.opds, hy]))]; exact g4
        | _ => trivial
    · right
      refine ⟨⟨t, want, g1, ?_⟩, g3⟩
      rw [hσ t (looks_grd g1)]
      rcases g2 with ⟨b, hb, hw⟩ | hb
      · exact .inl ⟨b, by rw [hb]; exact kd_id (fun b _ hb => by simp [D.ids] at hb), hw⟩
      · exact .inr (by rw [hb]; exact kd_id (fun b _ hb => by simp [D.ids, D.idsL] at hb))
  · rw [H_same hp h2 (fun hw => (hi.r2 _ hw).2.2 rfl)]; exact h1.fresh
  · rw [app_H] at hm
    have hold : ∀ {c m}, (st.H c).map (km p.e.kl) = some m → b ∉ m.ids := by
      intro c m hm
      simp only [Option.map_eq_some_iff] at hm
      obtain ⟨m', hm', rfl⟩ := hm
      rw [km_id (fun b' hb' => h2.ek b' hb' c m' hm')]
      exact h1.ek b hb c m' hm'
    rcases hp.up with h | ⟨b', m', h, hb', hm'⟩
    · rw [h] at hm; exact hold hm
    · rw [h] at hm
      simp only [updH, upd] at hm
      split at hm
      · injection hm with hm; subst hm
        intro hbm; exact hi.k1 b (hKo b hb) (hm' b hbm)
      · exact hold hm

theorem AS.comm (ho : o.ok) (hp : p.ok) (hi : Ind o p) (st : St) : p.app (o.app st) = o.app (p.app st) := by
  have hKo : ∀ b, o.e.kl = some b → b ∈ o.K := fun b hb => List.mem_filter.2 ⟨ho.ek b hb, by simp [hb]⟩
  have hKp : ∀ b, p.e.kl = some b → b ∈ p.K := fun b hb => List.mem_filter.2 ⟨hp.ek b hb, by simp [hb]⟩
  have k1 : ∀ b, o.e.kl = some b → b ∉ p.e.d.ids := fun b hb hm => hi.k1 b (hKo b hb) (hp.ed b hm)
  have k2 : ∀ b, p.e.kl = some b → b ∉ o.e.d.ids := fun b hb hm => hi.k2 b (hKp b hb) (ho.ed b hm)
  refine St.ext (funext fun t => ?_) (funext fun c => ?_) ?_
  · rw [app_σ, app_σ, app_σ, app_σ]
    by_cases h1 : p.x.d = some t
    · have h2 : ¬ o.x.d = some t := fun h => (hi.s1 t h).2 h1
      simp only [if_pos h1, if_neg h2]; rw [kd_id k1]
    · by_cases h2 : o.x.d = some t
      · simp only [if_neg h1, if_pos h2]; rw [kd_id k2]
      · simp only [if_neg h1, if_neg h2]; rw [kd_comm]
  · rw [app_H, app_H]
    have e1 : (fun x => ((o.app st).H x).map (km p.e.kl)) = fun x => (updH (fun x => (st.H x).map (km o.e.kl)) o.e.up x).map (km p.e.kl) := by funext x; rw [app_H]
    have e2 : (fun x => ((p.app st).H x).map (km o.e.kl)) = fun x => (updH (fun x => (st.H x).map (km p.e.kl)) p.e.up x).map (km o.e.kl) := by funext x; rw [app_H]
    rw [e1, e2]
    have hc : ∀ x, ((st.H x).map (km o.e.kl)).map (km p.e.kl) = ((st.H x).map (km p.e.kl)).map (km o.e.kl) := by
      intro x; cases st.H x with
      | none => rfl
      | some m => simp only [Option.map_some]; rw [km_comm]
    rcases ho.up with h1 | ⟨b1, m1, h1, hb1, hm1⟩ <;> rcases hp.up with h2 | ⟨b2, m2, h2, hb2, hm2⟩ <;> rw [h1, h2] <;> simp only [updH, upd]
    · exact hc c
    · split
      · rw [Option.map_some, km_id (fun b hb hm => hi.k1 b (hKo b hb) (hm2 b hm))]
      · exact hc c
    · split
      · rw [Option.map_some, km_id (fun b hb hm => hi.k2 b (hKp b hb) (hm1 b hm))]
      · exact hc c
    · have hne : b1 ≠ b2 := by
        rintro rfl
        exact (hi.r1 b1 hb1).2.1 hb2
      by_cases c1 : c = b1
      · subst c1
        rw [if_neg hne, if_pos rfl, if_pos rfl, Option.map_some, km_id (fun b hb hm => hi.k2 b (hKp b hb) (hm1 b hm))]
      · by_cases c2 : c = b2
        · subst c2
          rw [if_pos rfl, if_neg c1, if_pos rfl, Option.map_some, km_id (fun b hb hm => hi.k1 b (hKo b hb) (hm2 b hm))]
        · rw [if_neg c2, if_neg c1, if_neg c1, if_neg c2]; exact hc c
  · rw [app_nx, app_nx, app_nx, app_nx]
    (repeat' split) <;> omega
end

/-! ### Every order -/
section
variable {P : Program} {n : Nat} {Q : Exit → St → Prop} {fs : List Fr}

def absAny (P : Program) (ops : Array Oper) (all : List OpI) (QN : St → Prop) : Nat → Array Bool → St → Prop
  | 0, listed, st => Region.ready .any ops listed = [] ∧ QN st
  | fuel + 1, listed, st => (Region.ready .any ops listed = [] → QN st) ∧ ∀ i ∈ Region.ready .any ops listed, ∃ o, all[i]? = some o ∧ AS P o st ∧ absAny P ops all QN fuel (listed.setIfInBounds i true) (o.app st)

theorem AS.sound {ops : Array Oper} {o : OpI} {i : Nat} {op : Oper} (hi : ops[i]? = some op) (hc : okA P n ops op o.x = true) {st : St} (h : AS P o st) {w0 : World} {M0 F : Nat → Prop} {a : Act} {w : World} (hh : Holds n w0 M0 F st a w) {K : Act → World → Prop} {Q' : Exit → Act → World → Prop}
    (hK : ∀ a' w', Holds n w0 M0 F (o.app st) a' w' → K a' w') : wpOp P ops Q' i K a w := by
  rcases h.run with ⟨g1, g2, _, _⟩ | ⟨⟨t, want, g1, g2⟩, g3⟩
  · refine op_step hc hi hh h.fresh (R := fun e => e = o.e) ?_
    have main : opVC P o.x.o st.ev st.H o.fr (fun e => e = o.e) ∧ ∀ e, e = o.e → ∀ act' w', Holds n w0 M0 F (st.app o.x.d e) act' w' → K act' w' := ⟨g2, fun e he act' w' hH => by subst he; exact hK act' w' hH⟩
    cases hg : o.x.g with
    | none => exact main
    | some y =>
      obtain ⟨t, want⟩ := y
      rw [hg] at g1
      simp only [gdo] at g1
      simp only [g1, if_true]
      exact main
  · obtain ⟨h1, h2, h3, h4⟩ := okA_parts hc
    have nw : Region.wanted op (yielded ops a.tmps) = false := by
      rcases h4 with ⟨_, hc'⟩ | ⟨j, want', t', hg, hc', ht, p, hp, hpd⟩
      · rw [g1] at hc'; cases hc'
      · rw [g1] at hc'
        injection hc' with hc'
        injection hc' with hc1 hc2
        subst hc1; subst hc2
        obtain ⟨ρ, hF, hR⟩ := hh
        have hv := hR.regs t
        rcases g2 with ⟨b, hb, hbw⟩ | hb
        · rw [hb] at hv
          rw [wanted_some hg hp hpd (by rw [hR.size]; exact ht) hv.bool_inv]
          exact hbw
        · rw [hb] at hv
          have hval : a.tmps.getD t undef = .tuple #[] := by
            have := hv.u_inv
            generalize a.tmps.getD t undef = v at this
            cases this with
            | tup cs us hs _ => simp at hs; subst hs; rfl
          have hts : t < a.tmps.size := by rw [hR.size]; exact ht
          have : a.tmps[t]? = some (.tuple #[]) := by
            rw [Array.getD_eq_getD_getElem?] at hval
            rw [Array.getElem?_eq_getElem hts] at hval ⊢
            simpa using hval
          simp [Region.wanted, hg, yielded, hp, hpd, this]
    unfold wpOp
    simp only [hi]
    rw [nw, if_neg (by simp)]
    rw [h1]
    refine hK _ _ ?_
    have hst : o.app st = st.put o.x.d (.u (.tup [])) := by
      simp only [OpI.app, g3]
      simp [St.app, St.killO, updH]
    rw [hst]
    exact Holds.skipU hh (fun t' ht' => h2 t' (h1.trans ht'))

theorem absAny_sound {ops : Array Oper} {all : List OpI} {QN : St → Prop} {Q' : Exit → Act → World → Prop} {w0 : World} {M0 F : Nat → Prop} (hall : ∀ (i : Nat) (op : Oper) (o : OpI), ops[i]? = some op → all[i]? = some o → okA P n ops op o.x = true) (hQ : ∀ st a w, QN st → Holds n w0 M0 F st a w → Q' .normal a w) :
    ∀ (fuel : Nat) (listed : Array Bool) (st : St) (a : Act) (w : World), absAny P ops all QN fuel listed st → Holds n w0 M0 F st a w → wpAny P .any ops Q' fuel listed a w
  | 0, listed, st, a, w, h, hh => ⟨h.1, hQ _ _ _ h.2 hh⟩
  | fuel + 1, listed, st, a, w, h, hh => by
    refine ⟨fun h0 => hQ _ _ _ (h.1 h0) hh, fun i hi => ?_⟩
    obtain ⟨o, ho, hs, hk⟩ := h.2 i hi
    obtain ⟨_, op, hop, _⟩ := mem_ready.1 hi
    exact AS.sound hop (hall i op o hop ho) hs hh (fun a' w' hH => absAny_sound hall hQ fuel _ _ _ _ hk hH)

/-- Whatever is listed, what it waits for is listed too. -/
def Down (ops : Array Oper) (listed : Array Bool) : Prop := ∀ j op, ops[j]? = some op → listed.getD j false = true → ∀ e ∈ op.after, Region.binds .any e = true → listed.getD e.on false = true
theorem Down.step {ops : Array Oper} {listed : Array Bool} (h : Down ops listed) {j : Nat} (hj : j ∈ Region.ready .any ops listed) : Down ops (listed.setIfInBounds j true) := by
  intro k op hk hl e he hb
  by_cases hkj : k = j
  · subst hkj
    obtain ⟨_, op', hop', hall⟩ := mem_ready.1 hj
    rw [hk] at hop'; injection hop' with hop'; subst hop'
    exact getD_set_true (hall e he hb)
  · rw [getD_set_ne false (Ne.symm hkj)] at hl
    exact getD_set_true (h k op hk hl e he hb)

/-- What an order binds, by a table of predecessors. -/
def Tab (ops : Array Oper) (bef : Nat → List Nat) : Prop := ∀ j op, ops[j]? = some op → (∀ e ∈ op.after, Region.binds .any e = true → e.on < j) ∧ ∀ c ∈ bef j, ∃ e ∈ op.after, Region.binds .any e = true ∧ (c = e.on ∨ c ∈ bef e.on)
theorem Tab.listed {ops : Array Oper} {bef : Nat → List Nat} (ht : Tab ops bef) {listed : Array Bool} (hd : Down ops listed) : ∀ (m j : Nat), j ≤ m → ∀ op, ops[j]? = some op → (∀ e ∈ op.after, Region.binds .any e = true → listed.getD e.on false = true) → ∀ c ∈ bef j, listed.getD c false = true := by
  intro m
  induction m with
  | zero =>
    intro j hj op hop hall c hc
    obtain ⟨h1, h2⟩ := ht j op hop
    obtain ⟨e, he, hb, _⟩ := h2 c hc
    have := h1 e he hb; omega
  | succ m ih =>
    intro j hj op hop hall c hc
    obtain ⟨h1, h2⟩ := ht j op hop
    obtain ⟨e, he, hb, hce⟩ := h2 c hc
    have hle := hall e he hb
    rcases hce with rfl | hce
    · exact hle
    · have hlt := h1 e he hb
      have hsz : j < ops.size := (Array.getElem?_eq_some_iff.1 hop).1
      have hop' : ops[e.on]? = some (ops[e.on]'(by omega)) := Array.getElem?_eq_getElem (by omega)
      exact ih e.on (by omega) _ hop' (fun e' he' hb' => hd e.on _ hop' hle e' he' hb') c hce

theorem abs_first {ops : Array Oper} {all : List OpI} {QN : St → Prop} {bef : Nat → List Nat} (ht : Tab ops bef) (hok : ∀ o ∈ all, o.ok) {i : Nat} {o : OpI} (hi : all[i]? = some o) (hind : ∀ j p, all[j]? = some p → j ≠ i → i ∈ bef j ∨ Ind o p ∨ j < i) :
    ∀ (fuel : Nat) (listed : Array Bool) (st : St), (∀ j, j < i → listed.getD j true = true) → Down ops listed → i ∈ Region.ready .any ops listed → AS P o st → absAny P ops all QN fuel (listed.setIfInBounds i true) (o.app st) → absAny P ops all QN (fuel + 1) listed st := by
  intro fuel
  induction fuel with
  | zero =>
    intro listed st hlt hdn hr hs H
    refine ⟨fun h => (by rw [h] at hr; cases hr), fun j hj => ?_⟩
    by_cases hji : j = i
    · subst hji; exact ⟨o, hi, hs, H⟩
    · have := ready_mono hj hji
      rw [H.1] at this
      cases this
  | succ fuel ih =>
    intro listed st hlt hdn hr hs H
    refine ⟨fun h => (by rw [h] at hr; cases hr), fun j hj => ?_⟩
    by_cases hji : j = i
    · subst hji; exact ⟨o, hi, hs, H⟩
    · obtain ⟨p, hp, hsp, hk⟩ := H.2 j (ready_mono hj hji)
      obtain ⟨hjun, op, hop, hall⟩ := mem_ready.1 hj
      have hun := (mem_ready.1 hr).1
      have hI : Ind o p := by
        rcases hind j p hp hji with h | h | h
        · have h1 := ht.listed hdn j j (Nat.le_refl _) op hop hall i h
          exfalso
          rcases Nat.lt_or_ge i listed.size with h' | h'
          · simp [h'] at hun h1; rw [h1] at hun; cases hun
          · simp [Array.getElem?_eq_none h'] at h1
        · exact h
        · rw [hlt j h] at hjun; cases hjun
      have hoo := hok o (List.mem_of_getElem? hi)
      have hpp := hok p (List.mem_of_getElem? hp)
      have hps := hs.back hoo hpp hI hsp
      refine ⟨p, hp, hps, ih (listed.setIfInBounds j true) (p.app st) (fun k hk' => ?_) (hdn.step hj) (ready_mono hr (Ne.symm hji)) (hs.fore hoo hpp hI hps) ?_⟩
      · by_cases hkj : j = k
        · subst hkj; rw [hlt j hk'] at hjun; cases hjun
        · rw [getD_set_ne true hkj]; exact hlt k hk'
      · rw [Array.setIfInBounds_comm _ _ hji, ← AS.comm hoo hpp hI]
        exact hk

inductive Lex (P : Program) : List OpI → St → St → Prop
  | nil (st : St) : Lex P [] st st
  | cons {o : OpI} {l : List OpI} {st st' : St} (h : AS P o st) (k : Lex P l (o.app st) st') : Lex P (o :: l) st st'

theorem abs_lex {ops : Array Oper} {all : List OpI} {QN : St → Prop} {bef : Nat → List Nat} (hsz : all.length = ops.size) (ht : Tab ops bef) (hok : ∀ o ∈ all, o.ok) (hind : ∀ i j o p, all[i]? = some o → all[j]? = some p → i < j → i ∈ bef j ∨ Ind o p) {stN : St} (hQ : QN stN) :
    ∀ (l : List OpI) (k : Nat) (st : St), (∀ j, l[j]? = all[k + j]?) → k + l.length = ops.size → Lex P l st stN → ∀ listed : Array Bool, listed.size = ops.size → (∀ j, j < ops.size → listed.getD j true = decide (j < k)) → absAny P ops all QN l.length listed st := by
  intro l
  induction l with
  | nil =>
    intro k st hl hk h listed hs hlt
    cases h
    refine ⟨?_, hQ⟩
    rw [List.eq_nil_iff_forall_not_mem]
    intro j hj
    obtain ⟨hun, op, hop, _⟩ := mem_ready.1 hj
    have hjs : j < ops.size := (Array.getElem?_eq_some_iff.1 hop).1
    rw [hlt j hjs] at hun
    simp at hk hun; omega
  | cons o l ih =>
    intro k st hl hk h listed hs hlt
    cases h with
    | cons hA hK =>
      have h0 : all[k]? = some o := by simpa using (hl 0).symm
      have hks : k < ops.size := by simp at hk; omega
      have hop : ops[k]? = some ops[k] := Array.getElem?_eq_getElem hks
      have hfalse : ∀ j, listed.getD j false = true ↔ j < k := by
        intro j
        by_cases hj : j < ops.size
        · have := hlt j hj
          have e : listed.getD j true = listed.getD j false := by simp [Array.getD_eq_getD_getElem?, hs, hj]
          rw [← e, this]; simp
        · constructor
          · intro h; simp [Array.getD_eq_getD_getElem?, hs, hj] at h
          · intro h; omega
      have hdn : Down ops listed := by
        intro j op hj hlj e he hb
        rw [hfalse] at hlj ⊢
        have := (ht j op hj).1 e he hb; omega
      have hr : k ∈ Region.ready .any ops listed := by
        rw [mem_ready]
        refine ⟨by rw [hlt k hks]; simp, _, hop, fun e he hb => ?_⟩
        rw [hfalse]; exact (ht k _ hop).1 e he hb
      refine abs_first ht hok h0 (fun j p hp hne => ?_) l.length listed st (fun j hj => by rw [hlt j (by omega)]; simp [hj]) hdn hr hA ?_
      · rcases Nat.lt_or_ge j k with h | h
        · exact .inr (.inr h)
        · rcases hind k j o p h0 hp (by omega) with h' | h'
          · exact .inl h'
          · exact .inr (.inl h')
      · refine ih (k + 1) _ (fun j => by have := hl (j + 1); simpa [Nat.add_assoc, Nat.add_comm 1 j] using this) (by simp at hk; omega) hK _ (by simp [hs]) (fun j hj => ?_)
        by_cases hjk : k = j
        · subst hjk; simp [Array.getD_eq_getD_getElem?, hs, hj]
        · rw [getD_set_ne true hjk, hlt j hj]
          simp; omega

/-! ### The rule -/
def okIB (o : OpI) : Bool :=
  (o.T.all o.E.contains) && o.E.contains o.fr && (o.W.all fun b => o.T.contains b || b == o.fr) && (o.e.d.ids.all o.E.contains) &&
  (match o.e.up with
    | [] => true
    | [p] => o.W.contains p.1 && p.2.ids.all o.E.contains
    | _ => false) &&
  (match o.e.kl with
    | none => true
    | some b => o.W.contains b)
theorem okIB_ok {o : OpI} (h : okIB o = true) : o.ok := by
  simp only [okIB, Bool.and_eq_true, List.all_eq_true, List.contains_iff_mem, Bool.or_eq_true, beq_iff_eq] at h
  obtain ⟨⟨⟨⟨⟨h1, h2⟩, h3⟩, h4⟩, h5⟩, h6⟩ := h
  refine ⟨h1, h2, h3, h4, ?_, fun b hb => ?_⟩
  · split at h5
    · rename_i he; exact .inl he
    · rename_i p he
      simp only [Bool.and_eq_true, List.all_eq_true, List.contains_iff_mem] at h5
      exact .inr ⟨p.1, p.2, he, h5.1, h5.2⟩
    · cases h5
  · rw [hb] at h6; simpa using h6
def disj (a b : List Nat) : Bool := a.all fun c => !b.contains c
def indB (o p : OpI) : Bool := disj o.K p.E && disj p.K o.E && disj o.W (p.fr :: (p.R ++ p.W)) && disj p.W (o.fr :: (o.R ++ o.W)) && (match o.x.d with
  | none => true
  | some d => !p.x.looks.contains d && !(p.x.d == some d)) && (match p.x.d with
  | none => true
  | some d => !o.x.looks.contains d)
theorem disj_ok {a b : List Nat} (h : disj a b = true) : ∀ c ∈ a, c ∉ b := by
  intro c hc hb
  simp only [disj, List.all_eq_true, Bool.not_eq_true'] at h
  have := h c hc
  rw [List.contains_iff_mem.2 hb] at this; cases this
theorem indB_ok {o p : OpI} (h : indB o p = true) : Ind o p := by
  simp only [indB, Bool.and_eq_true] at h
  obtain ⟨⟨⟨⟨⟨h1, h2⟩, h5⟩, h6⟩, h3⟩, h4⟩ := h
  refine ⟨disj_ok h1, disj_ok h2, fun c hc => ?_, fun c hc => ?_, fun d hd => ?_, fun d hd => ?_⟩
  · have := disj_ok h5 c hc
    simp only [List.mem_cons, List.mem_append, not_or] at this
    exact ⟨this.2.1, this.2.2, this.1⟩
  · have := disj_ok h6 c hc
    simp only [List.mem_cons, List.mem_append, not_or] at this
    exact ⟨this.2.1, this.2.2, this.1⟩
  · rw [hd] at h3
    simp only [Bool.and_eq_true, Bool.not_eq_true', beq_eq_false_iff_ne] at h3
    exact ⟨fun hm => (by rw [List.contains_iff_mem.2 hm] at h3; cases h3.1), h3.2⟩
  · rw [hd] at h4
    simp only [Bool.not_eq_true'] at h4
    exact fun hm => by rw [List.contains_iff_mem.2 hm] at h4; cases h4
def freeB (free : List (Nat × Nat)) (is : List OpI) : Bool := is.all okIB && free.all fun q => match is[q.1]?, is[q.2]? with
  | some o, some p => indB o p
  | _, _ => true

/-- What is left of a drawn region, behind the operations acc. -/
def Rg (P : Program) (n : Nat) (Q : Exit → St → Prop) (fs : List Fr) (free : List (Nat × Nat)) (acc : List OpI) (l : List AOp) (st : St) : Prop :=
  ∃ is st', Lex P is st st' ∧ is.map (·.x) = l ∧ freeB free (acc ++ is) = true ∧ den P n Q fs .normal st'

theorem Rg_nil {free : List (Nat × Nat)} {acc : List OpI} {st : St} (hf : freeB free acc = true) (h : den P n Q fs .normal st) : Rg P n Q fs free acc [] st := ⟨[], st, .nil st, rfl, by simpa using hf, h⟩
theorem Rg_cons {free : List (Nat × Nat)} {acc : List OpI} {l : List AOp} {st : St} (o : OpI) (h : AS P o st) (k : Rg P n Q fs free (acc ++ [o]) l (o.app st)) : Rg P n Q fs free acc (o.x :: l) st := by
  obtain ⟨is, st', h1, h2, h3, h4⟩ := k
  exact ⟨o :: is, st', .cons h h1, by simp [h2], by simpa using h3, h4⟩

theorem Holds.drew {w0 : World} {M0 F : Nat → Prop} {st : St} {a : Act} {w : World} (hh : Holds n w0 M0 F st a w) (k : Nat) : Holds n w0 M0 F st a { w with drawn := k } := by
  obtain ⟨ρ, rfl, hh⟩ := hh
  have := hh.put none (fun t h => by cases h) undef { d := .any } ⟨rfl, rfl, rfl⟩ { w with drawn := k } ⟨rfl, rfl, rfl, Nat.le_refl _, fun _ _ _ => rfl⟩ (.any _)
  simpa [St.app, St.killO, updH, St.put, Act.put] using this

theorem okOps_len {all : Array Oper} : ∀ {os : List Oper} {l : List AOp}, okOps P n all os l = true → os.length = l.length
  | [], [], _ => rfl
  | [], _ :: _, h => by simp [okOps] at h
  | _ :: _, [], h => by simp [okOps] at h
  | _ :: _, _ :: _, h => by simp only [okOps, Bool.and_eq_true] at h; simp [okOps_len h.2]
theorem okOps_at {all : Array Oper} : ∀ {os : List Oper} {l : List AOp}, okOps P n all os l = true → ∀ (i : Nat) (o : Oper) (x : AOp), os[i]? = some o → l[i]? = some x → okA P n all o x = true
  | [], _, _, i, o, x, h1, _ => by simp at h1
  | _ :: _, [], h, _, _, _, _, h2 => by simp at h2
  | a :: os, b :: l, h, 0, o, x, h1, h2 => by
    simp only [okOps, Bool.and_eq_true] at h
    simp at h1 h2; subst h1; subst h2; exact h.1
  | a :: os, b :: l, h, i + 1, o, x, h1, h2 => by
    simp only [okOps, Bool.and_eq_true] at h
    exact okOps_at h.2 i o x (by simpa using h1) (by simpa using h2)

theorem R_rgd {l : List AOp} {free : List (Nat × Nat)} {st : St} (hm : P.follows .mixedOrders = true) (h : Rg P n Q fs free [] l st) : Run P n Q fs (.rgd l free) st := by
  intro c hc
  cases c <;> simp only [okC, Bool.false_eq_true] at hc
  rename_i id ops draw
  simp only [Bool.and_eq_true] at hc
  obtain ⟨⟨rfl, hc⟩, hd⟩ := hc
  obtain ⟨is, st', h1, h2, h3, h4⟩ := h
  simp only [freeB, List.nil_append, Bool.and_eq_true, List.all_eq_true] at h3
  obtain ⟨h5, h6⟩ := h3
  have hlen : is.length = ops.size := by
    have := okOps_len hc
    rw [← h2] at this
    simpa using this.symm
  intro w0 M0 F a w hh
  refine wp_region_any hm ?_
  obtain ⟨hT, hfree⟩ := drawOk_parts hd
  refine absAny_sound (n := n) (all := is) (QN := fun st => den P n Q fs .normal st) (w0 := w0) (M0 := M0) (F := F) (fun i op o hi ho => ?_) (fun st a w hq hH => ⟨st, hq, hH⟩) ops.size _ st a _ ?_ (hh.drew _)
  · exact okOps_at hc i op o.x (by simpa using hi) (by rw [← h2]; simp [ho])
  · rw [← hlen]
    refine abs_lex (P := P) hlen hT (fun o ho => okIB_ok (h5 o ho)) (fun i j o p ho hp hij => ?_) h4 is 0 st (fun j => by simp) (by simpa using hlen) h1 _ (by simp [hlen]) (fun j hj => by simp [Array.getD_eq_getD_getElem?, hlen, hj])
    rcases hfree i j hij (by rw [← hlen]; exact (List.getElem?_eq_some_iff.1 hp).1) with h | h
    · exact .inl h
    · have := h6 _ h
      simp only [ho, hp] at this
      exact .inr (indB_ok this)
/-! ### The steps of a drawn region -/
def okDb (T : List Nat) : D → Bool
  | .any => false
  | d => d.ids.all T.contains
theorem okDb_ok {T : List Nat} {d : D} (h : okDb T d = true) : okD T d := by
  cases d with
  | any => cases h
  | _ =>
    refine ⟨by simp, fun b hb => ?_⟩
    simp only [okDb, List.all_eq_true, List.contains_iff_mem] at h
    exact h b hb
def pureB (ao : AO) (ev : Ev) : Bool := match ao with
  | .ca _ xs => (allU (xs.map ev)).isSome
  | .cl _ xs => (allU (xs.map ev)).isSome
  | _ => true
theorem pureB_ok {ao : AO} {ev : Ev} (h : pureB ao ev = true) : pureCall ao ev := by
  cases ao <;> first | trivial | exact h
def chkB (ao : AO) (L : List (Nat × D)) (O : List (Nat × MObj)) (fr : Nat) (T E W : List Nat) (kl : Option Nat) : Bool :=
  (ao.opds.all fun y => okDb T (evL L y)) && pureB ao (evL L) && (objs O fr).isNone && (O.all fun p => !W.contains p.1 || p.2.ids.all E.contains) && (match kl with
    | none => true
    | some b => O.all fun p => !p.2.ids.contains b)
section
variable {L : List (Nat × D)} {O : List (Nat × MObj)} {nx : Nat} {l : List AOp} {g : Option (Nat × Bool)} {t : Nat} {free : List (Nat × Nat)} {acc : List OpI}
theorem AS_on {dst : Option Nat} {ao : AO} {fr : Nat} {T E W : List Nat} {e : Eff} (hg : gdL L g) (hop : opVC P ao (evL L) (objs O) fr (fun e' => e' = e)) (hc : chkB ao L O fr T E W e.kl = true) : AS P ⟨⟨dst, g, ao⟩, fr, T, E, W, e⟩ (mkSt L O nx) := by
  simp only [chkB, Bool.and_eq_true] at hc
  obtain ⟨⟨⟨⟨h1, h2⟩, h3⟩, h4⟩, h5⟩ := hc
  simp only [List.all_eq_true] at h1 h4
  refine ⟨.inl ⟨gdL_gdo hg, by rw [evL_fun]; exact hop, fun y hy => by rw [evL_fun]; exact okDb_ok (h1 y hy), by rw [evL_fun]; exact pureB_ok h2⟩, Option.isNone_iff_eq_none.1 h3, fun b hb m hm c hcm => ?_, fun b hb c m hm => ?_⟩
  · obtain ⟨p, hp, e1, e2⟩ := objs_mem hm
    have := h4 p hp
    simp only [Bool.or_eq_true, Bool.not_eq_true', List.all_eq_true, List.contains_iff_mem] at this
    rcases this with h | h
    · rw [e1, List.contains_iff_mem.2 hb] at h; cases h
    · exact h c (by rw [e2]; exact hcm)
  · have hb : e.kl = some b := hb
    rw [hb] at h5
    simp only [List.all_eq_true] at h5
    obtain ⟨p, hp, e1, e2⟩ := objs_mem hm
    have := h5 p hp
    rw [e2] at this
    intro hbm; rw [List.contains_iff_mem.2 hbm] at this; cases this
theorem Rg_pure {ao : AO} {d : D} (fr : Nat) (T : List Nat) (hg : gdL L g) (hop : opVC P ao (evL L) (objs O) fr (fun e => e = { d := d })) (hc : chkB ao L O fr T (fr :: T) [] none = true)
    (k : Rg P n Q fs free (acc ++ [⟨⟨some t, g, ao⟩, fr, T, fr :: T, [], { d := d }⟩]) l (mkSt ((t, d) :: L) O nx)) : Rg P n Q fs free acc (⟨some t, g, ao⟩ :: l) (mkSt L O nx) := by
  refine Rg_cons ⟨⟨some t, g, ao⟩, fr, T, fr :: T, [], { d := d }⟩ (AS_on hg hop hc) ?_
  have : OpI.app ⟨⟨some t, g, ao⟩, fr, T, fr :: T, [], { d := d }⟩ (mkSt L O nx) = mkSt ((t, d) :: L) O nx := by simp [OpI.app, St.app, St.killO, updH, St.put, mkSt]; rfl
  rw [this]; exact k
theorem Rg_new {ao : AO} {d : D} {ob : MObj} (T : List Nat) (hg : gdL L g) (hop : opVC P ao (evL L) (objs O) nx (fun e => e = { d := d, up := [(nx, ob)], nx := nx + 1 })) (hc : chkB ao L O nx T (nx :: T) [nx] none = true)
    (k : Rg P n Q fs free (acc ++ [⟨⟨some t, g, ao⟩, nx, T, nx :: T, [nx], { d := d, up := [(nx, ob)], nx := nx + 1 }⟩]) l (mkSt ((t, d) :: L) ((nx, ob) :: O) (nx + 1))) : Rg P n Q fs free acc (⟨some t, g, ao⟩ :: l) (mkSt L O nx) := by
  refine Rg_cons ⟨⟨some t, g, ao⟩, nx, T, nx :: T, [nx], { d := d, up := [(nx, ob)], nx := nx + 1 }⟩ (AS_on hg hop hc) ?_
  have : OpI.app ⟨⟨some t, g, ao⟩, nx, T, nx :: T, [nx], { d := d, up := [(nx, ob)], nx := nx + 1 }⟩ (mkSt L O nx) = mkSt ((t, d) :: L) ((nx, ob) :: O) (nx + 1) := by simp [OpI.app, St.app, St.killO, updH, St.put, mkSt]; exact ⟨rfl, rfl⟩
  rw [this]; exact k
theorem Rg_set {ao : AO} {b : Nat} {ob : MObj} (fr : Nat) (T : List Nat) (hg : gdL L g) (hop : opVC P ao (evL L) (objs O) fr (fun e => e = { d := .any, up := [(b, ob)] })) (hc : chkB ao L O fr T (fr :: T) [b] none = true)
    (k : Rg P n Q fs free (acc ++ [⟨⟨none, g, ao⟩, fr, T, fr :: T, [b], { d := .any, up := [(b, ob)] }⟩]) l (mkSt L ((b, ob) :: O) nx)) : Rg P n Q fs free acc (⟨none, g, ao⟩ :: l) (mkSt L O nx) := by
  refine Rg_cons ⟨⟨none, g, ao⟩, fr, T, fr :: T, [b], { d := .any, up := [(b, ob)] }⟩ (AS_on hg hop hc) ?_
  have : OpI.app ⟨⟨none, g, ao⟩, fr, T, fr :: T, [b], { d := .any, up := [(b, ob)] }⟩ (mkSt L O nx) = mkSt L ((b, ob) :: O) nx := by simp [OpI.app, St.app, St.killO, updH, St.put, mkSt]; rfl
  rw [this]; exact k
theorem Rg_app {ao : AO} {d : D} {b : Nat} {ob : MObj} {L' : List (Nat × D)} {O' : List (Nat × MObj)} (fr : Nat) (T : List Nat) (hg : gdL L g) (hop : opVC P ao (evL L) (objs O) fr (fun e => e = { d := d, up := [(b, ob)], kl := some b })) (hc : chkB ao L O fr T (fr :: T) [b] (some b) = true) (hL : killL b L = L') (hO : killO b O = O')
    (k : Rg P n Q fs free (acc ++ [⟨⟨some t, g, ao⟩, fr, T, fr :: T, [b], { d := d, up := [(b, ob)], kl := some b }⟩]) l (mkSt ((t, d) :: L') ((b, ob) :: O') nx)) : Rg P n Q fs free acc (⟨some t, g, ao⟩ :: l) (mkSt L O nx) := by
  refine Rg_cons ⟨⟨some t, g, ao⟩, fr, T, fr :: T, [b], { d := d, up := [(b, ob)], kl := some b }⟩ (AS_on hg hop hc) ?_
  have : OpI.app ⟨⟨some t, g, ao⟩, fr, T, fr :: T, [b], { d := d, up := [(b, ob)], kl := some b }⟩ (mkSt L O nx) = mkSt ((t, d) :: L') ((b, ob) :: O') nx := by
    simp only [OpI.app, St.app, St.killO, St.kill, updH, St.put, mkSt, ← hL, ← hO, regs_kill, objs_kill]
    simp only [Nat.not_lt_zero, if_false]
    rfl
  rw [this]; exact k
theorem AS_off {dst : Option Nat} {t' : Nat} {want : Bool} {ao : AO} (fr : Nat) (hx : (∃ b, regs L t' = .u (.bool b) ∧ (b == want) = false) ∨ regs L t' = .u (.tup [])) (hf : (objs O fr).isNone = true) : AS P ⟨⟨dst, some (t', want), ao⟩, fr, [], [fr], [], { d := .u (.tup []) }⟩ (mkSt L O nx) :=
  ⟨.inr ⟨⟨t', want, rfl, hx⟩, rfl⟩, Option.isNone_iff_eq_none.1 hf, fun b hb => by simp at hb, fun b hb => by cases hb⟩
theorem Rg_skip {t' : Nat} {want b : Bool} {ao : AO} (fr : Nat) (hx : regs L t' = .u (.bool b)) (hb : (b == want) = false) (hf : (objs O fr).isNone = true)
    (k : Rg P n Q fs free (acc ++ [⟨⟨some t, some (t', want), ao⟩, fr, [], [fr], [], { d := .u (.tup []) }⟩]) l (mkSt ((t, .u (.tup [])) :: L) O nx)) : Rg P n Q fs free acc (⟨some t, some (t', want), ao⟩ :: l) (mkSt L O nx) := by
  refine Rg_cons ⟨⟨some t, some (t', want), ao⟩, fr, [], [fr], [], { d := .u (.tup []) }⟩ (AS_off fr (.inl ⟨b, hx, hb⟩) hf) ?_
  have : OpI.app ⟨⟨some t, some (t', want), ao⟩, fr, [], [fr], [], { d := .u (.tup []) }⟩ (mkSt L O nx) = mkSt ((t, .u (.tup [])) :: L) O nx := by simp [OpI.app, St.app, St.killO, updH, St.put, mkSt]; rfl
  rw [this]; exact k
theorem Rg_skipu {t' : Nat} {want : Bool} {ao : AO} (fr : Nat) (hx : regs L t' = .u (.tup [])) (hf : (objs O fr).isNone = true)
    (k : Rg P n Q fs free (acc ++ [⟨⟨some t, some (t', want), ao⟩, fr, [], [fr], [], { d := .u (.tup []) }⟩]) l (mkSt ((t, .u (.tup [])) :: L) O nx)) : Rg P n Q fs free acc (⟨some t, some (t', want), ao⟩ :: l) (mkSt L O nx) := by
  refine Rg_cons ⟨⟨some t, some (t', want), ao⟩, fr, [], [fr], [], { d := .u (.tup []) }⟩ (AS_off fr (.inr hx) hf) ?_
  have : OpI.app ⟨⟨some t, some (t', want), ao⟩, fr, [], [fr], [], { d := .u (.tup []) }⟩ (mkSt L O nx) = mkSt ((t, .u (.tup [])) :: L) O nx := by simp [OpI.app, St.app, St.killO, updH, St.put, mkSt]; rfl
  rw [this]; exact k
theorem Rg_skip0 {t' : Nat} {want b : Bool} {ao : AO} (fr : Nat) (hx : regs L t' = .u (.bool b)) (hb : (b == want) = false) (hf : (objs O fr).isNone = true)
    (k : Rg P n Q fs free (acc ++ [⟨⟨none, some (t', want), ao⟩, fr, [], [fr], [], { d := .u (.tup []) }⟩]) l (mkSt L O nx)) : Rg P n Q fs free acc (⟨none, some (t', want), ao⟩ :: l) (mkSt L O nx) := by
  refine Rg_cons ⟨⟨none, some (t', want), ao⟩, fr, [], [fr], [], { d := .u (.tup []) }⟩ (AS_off fr (.inl ⟨b, hx, hb⟩) hf) ?_
  have : OpI.app ⟨⟨none, some (t', want), ao⟩, fr, [], [fr], [], { d := .u (.tup []) }⟩ (mkSt L O nx) = mkSt L O nx := by simp [OpI.app, St.app, St.killO, updH, St.put, mkSt]
  rw [this]; exact k
theorem Rg_re {d : D} (hx : regs L t = d) (k : Rg P n Q fs free acc l (mkSt ((t, d) :: L) O nx)) : Rg P n Q fs free acc l (mkSt L O nx) := by
  rw [← mkSt_re hx]; exact k
theorem Rg_case {α : Type} {c : Bool} {A B : Option α} {r : α} (hx : regs L t = .u (.bool c)) (h : cond c A B = some r) (k1 : c = true → A = some r → Rg P n Q fs free acc l (mkSt ((t, .u (.bool true)) :: L) O nx)) (k2 : c = false → B = some r → Rg P n Q fs free acc l (mkSt ((t, .u (.bool false)) :: L) O nx)) :
    Rg P n Q fs free acc l (mkSt L O nx) := by
  have key : ∀ d, regs L t = d → mkSt ((t, d) :: L) O nx = mkSt L O nx := by
    intro d hd
    have : regs ((t, d) :: L) = regs L := by
      funext x
      simp only [regs]
      split
      · rename_i hx; rw [hx]; exact hd.symm
      · rfl
    simp only [mkSt, this]
  cases c with
  | true => rw [← key _ hx]; exact k1 rfl h
  | false => rw [← key _ hx]; exact k2 rfl h
end
end
end Go.Proofs.Ytkpghgnbbfpbmaa
